/-
  Layer 7's readers, where the reading is told, too: texts.
-/
import Derived.Deep.DeepHandedRow
import Derived.LaidLaws
import Derived.Test.YtmogappoadglgaaDoorZTopR
set_option linter.unusedVariables false
set_option linter.unusedSimpArgs false
namespace Go.Sx
open Go Go.Proofs Go.Proofs.YtmogappoadglgaaDoor
open Go.ChangeShapes Go.WideShapes
set_option maxRecDepth 100000 in
theorem rdU_str {H : Type} {enc : TypeId × Value → H} {w : World} {sp : Nat → Bool} {base : Nat} {v : Value} {d : DataW H} {ps : List MemPlace} (h : DataW.Trod enc Tryd.prog w 0 sp true 9 v d ps) (hv : Value.okWide Tryd.prog w .any base 9 v) :
    ∃ l : List UInt8, GoodS l ∧ Says w (vS l) v ∧ d = .lit (.string l) := by
  obtain ⟨n, hn⟩ := h
  have hobt := okStr und9 hv
  obtain ⟨s, rfl⟩ := hobt
  have hobt := DataW.trod_string und9 hn
  obtain ⟨s', h1, h2, h3⟩ := hobt
  have h1 : ([.string s] : List Value) = [.string s'] := by simpa [Value.cells] using h1
  injection h1 with h1 _
  injection h1 with h1
  subst h1
  injection h2 with h2 _
  refine ⟨s.data.toList, ?_, ?_, h2⟩
  · show s.data.toList.length ≤ _
    rw [Array.length_toList]
    exact h3
  · show Says w (SV.val (Value.string ⟨s.data.toList.toArray⟩)) (Value.string s)
    rw [Array.toArray_toList]
    exact says_val _
-- A topic, its texts no longer than texts may be.
set_option maxRecDepth 100000 in
theorem rdB_topic : RdA Tryd.prog 74 (fun t : List UInt8 × List UInt8 × List UInt8 => .agg [vS t.1, vS t.2.1, vS t.2.2]) (fun t => GoodS t.1 ∧ GoodS t.2.1) := by
  intro H enc w sp base v d ps h hv
  obtain ⟨n, hn⟩ := h
  have hobt := rd_fields (t := 74) (ti := ti74) (by kernel_rfl) rfl hn
  obtain ⟨hl, hf⟩ := hobt
  have hc : Tryd.prog.cellsOf 74 = 3 := by kernel_rfl
  have h9 : Tryd.prog.cellsOf 9 = 1 := by kernel_rfl
  rw [hc] at hl
  have hobt := hf 0 0 9 rfl
  obtain ⟨_, _, g0⟩ := hobt
  have hobt := hf 1 1 9 rfl
  obtain ⟨_, _, g1⟩ := hobt
  have hobt := hf 2 2 9 rfl
  obtain ⟨_, _, g2⟩ := hobt
  rw [h9] at g0 g1 g2
  have hobt := rd_strC und9 g0
  obtain ⟨a, ga, ea⟩ := hobt
  have hobt := rd_strC und9 g1
  obtain ⟨b, gb, eb⟩ := hobt
  have hobt := rd_strC und9 g2
  obtain ⟨c, _, ec⟩ := hobt
  clear g0 g1 g2 hf
  obtain ⟨fields, hu⟩ : ∃ fields, Tryd.prog.underlying 74 = some (.struct fields) := by
    have hobt := tiOf_inv ((env_ok 0 noWr).tt 74 ti74 (by kernel_rfl))
    obtain ⟨dd, ii, hu, hi, hkk, _⟩ := hobt
    have hobt := kind_struct hkk
    obtain ⟨fields, rfl, _⟩ := hobt
    exact ⟨fields, hu⟩
  have hv2 : ∃ cs, v = .agg cs := by
    have hobt := okWide_struct hu hv
    obtain ⟨cs, h1, _⟩ := hobt
    exact ⟨cs, h1⟩
  obtain ⟨cs, rfl⟩ := hv2
  clear hn hv hu
  have hcs : (Value.agg cs).cells.toList = cs.toList := by simp [Value.cells]
  rw [hcs] at hl ea eb ec
  obtain ⟨cs⟩ := cs
  refine ⟨(a, b, c), ⟨ga, gb⟩, fun ρ O hO => Den.agg _ _ (by simpa using hl.symm) fun j s u hs hu => ?_⟩
  match cs, hl with
  | [u0, u1, u2], _ =>
    simp at ea eb ec
    subst ea; subst eb; subst ec
    match j, hs, hu with
    | 0, hs, hu => cases hs; cases hu; exact .val _
    | 1, hs, hu => cases hs; cases hu; exact .val _
    | 2, hs, hu => cases hs; cases hu; exact .val _
/-- There is an input that fits, at a world that is told. -/
theorem witness_told {H : Type} {enc : TypeId × Value → H} {C : Checked} {os : Os} {f : FuncId} {fn : Func} {s : OpenSpec} {conds : List PathCond} {apart : Bool} {laid : List (String × DataW Unit)} (w0 : World) (args : Array Value) (hos : w0.os = os)
    (hsh : (w0.forCall (fun _ _ => 0) ⟨#[], args, []⟩).Shaped C.prog)
    (hok : Input.okWideB C.prog (w0.forCall (fun _ _ => 0) ⟨#[], args, []⟩) f ⟨#[], args, []⟩ = true)
    (hrow : s.preRow enc C.prog fn conds apart laid (w0.forCall (fun _ _ => 0) ⟨#[], args, []⟩).memory args) :
    ∃ (w : World) (tape : Tape) (i : Input), w.os = os ∧ (w.forCall tape i).Shaped C.prog ∧ i.vars = [] ∧ Input.okWide C.prog (w.forCall tape i) .any w.heap.size f i ∧
      s.preRow enc C.prog fn conds apart laid (w.forCall tape i).memory i.args ∧ ({ modest := false } : Assume).holds C.prog (lone (Frame.enter C.prog f i.args .normal) [] (w.forCall tape i)) :=
  ⟨w0, fun _ _ => 0, ⟨#[], args, []⟩, hos, hsh, (Input.okWide_of_okWideB (base := 0) hok).1, (Input.okWide_of_okWideB hok).2, hrow, by
    simp only [Assume.holds]
    exact ⟨by simp, by simp, fun _ => Modest.zero, by simp, by simp⟩⟩
end Go.Sx
