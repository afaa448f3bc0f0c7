/-
  Layer 7's readers, where the reading is told, too: texts.
-/
import Derived.Deep.DeepHandedRow
import Derived.LaidLaws
import Derived.Test.YtmogappoadglgaaDoorZTopR
set_option linter.unusedVariables false
set_option linter.unusedSimpArgs false
namespace Go.Sx
open Go Go.Proofs Go.Proofs.YtmogappoadglgaaDoor
open Go.ChangeShapes Go.WideShapes
set_option maxRecDepth 100000 in
theorem rdU_str {H : Type} {enc : TypeId × Value → H} {w : World} {sp : Nat → Bool} {base : Nat} {v : Value} {d : DataW H} {ps : List MemPlace} (h : DataW.Trod enc Tryd.prog w 0 sp true 9 v d ps) (hv : Value.okWide Tryd.prog w .any base 9 v) :
    ∃ l : List UInt8, GoodS l ∧ Says w (vS l) v ∧ d = .lit (.string l) := by
  obtain ⟨n, hn⟩ := h
  have hobt := okStr und9 hv
  obtain ⟨s, rfl⟩ := hobt
  have hobt := DataW.trod_string und9 hn
  obtain ⟨s', h1, h2, h3⟩ := hobt
  have h1 : ([.string s] : List Value) = [.string s'] := by simpa [Value.cells] using h1
  injection h1 with h1 _
  injection h1 with h1
  subst h1
  injection h2 with h2 _
  refine ⟨s.data.toList, ?_, ?_, h2⟩
  · show s.data.toList.length ≤ _
    rw [Array.length_toList]
    exact h3
  · show Says w (SV.val (Value.string ⟨s.data.toList.toArray⟩)) (Value.string s)
    rw [Array.toArray_toList]
    exact says_val _
/-- There is an input that fits, at a world that is told. -/
theorem witness_told {H : Type} {enc : TypeId × Value → H} {C : Checked} {os : Os} {f : FuncId} {fn : Func} {s : OpenSpec} {conds : List PathCond} {apart : Bool} {laid : List (String × DataW Unit)} (w0 : World) (args : Array Value) (hos : w0.os = os)
    (hsh : (w0.forCall (fun _ _ => 0) ⟨#[], args, []⟩).Shaped C.prog)
    (hok : Input.okWideB C.prog (w0.forCall (fun _ _ => 0) ⟨#[], args, []⟩) f ⟨#[], args, []⟩ = true)
    (hrow : s.preRow enc C.prog fn conds apart laid (w0.forCall (fun _ _ => 0) ⟨#[], args, []⟩).memory args) :
    ∃ (w : World) (tape : Tape) (i : Input), w.os = os ∧ (w.forCall tape i).Shaped C.prog ∧ i.vars = [] ∧ Input.okWide C.prog (w.forCall tape i) .any w.heap.size f i ∧
      s.preRow enc C.prog fn conds apart laid (w.forCall tape i).memory i.args ∧ ({ modest := false } : Assume).holds C.prog (lone (Frame.enter C.prog f i.args .normal) [] (w.forCall tape i)) :=
  ⟨w0, fun _ _ => 0, ⟨#[], args, []⟩, hos, hsh, (Input.okWide_of_okWideB (base := 0) hok).1, (Input.okWide_of_okWideB hok).2, hrow, by
    simp only [Assume.holds]
    exact ⟨by simp, by simp, fun _ => Modest.zero, by simp, by simp⟩⟩
end Go.Sx
