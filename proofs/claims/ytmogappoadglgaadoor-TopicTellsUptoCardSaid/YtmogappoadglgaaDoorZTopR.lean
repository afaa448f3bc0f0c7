/-
  Layer 7's readers: texts, bytes, topics, pairs of texts.
-/
import Derived.Test.YtmogappoadglgaaDoorZTopA
import Derived.Test.YtmogappoadglgaaDoorZTra
set_option linter.unusedVariables false
set_option linter.unusedSimpArgs false
namespace Go.Sx
open Go Go.Proofs Go.Proofs.YtmogappoadglgaaDoor
open Go.ChangeShapes Go.WideShapes
theorem und9 : Tryd.prog.underlying 9 = some .string := by kernel_rfl
theorem und5 : Tryd.prog.underlying 5 = some (.int .u8) := by kernel_rfl
theorem und87 : Tryd.prog.underlying 87 = some (.array 2 9) := by kernel_rfl
theorem okStr {P : Program} {w : World} {base : Nat} {t : TypeId} {v : Value} (ht : P.underlying t = some .string) (h : Value.okWide P w .any base t v) : ∃ s, v = .string s := by
  simp only [Value.okWide, ht, Cell.okWide] at h
  cases v <;> simp_all [Cell.ok]
abbrev GoodS (l : List UInt8) : Prop := l.length ≤ 9223372036854775807
theorem rd_strC {P : Program} {t : TypeId} (ht : P.underlying t = some .string) {H : Type} {enc : TypeId × Value → H} {w : World} {sp : Nat → Bool} {n : Nat} {cs : List Value} {x : DataW H × List MemPlace}
    (h : DataW.trod enc P w 0 sp true n t cs = some x) : ∃ l : List UInt8, GoodS l ∧ cs = [.string ⟨l.toArray⟩] := by
  have hobt := DataW.trod_string ht h
  obtain ⟨s, rfl, _, h3⟩ := hobt
  refine ⟨s.data.toList, ?_, ?_⟩
  · show s.data.toList.length ≤ _
    rw [Array.length_toList]
    exact h3
  · rw [Array.toArray_toList]
set_option maxRecDepth 100000 in
theorem rdA_str : RdA Tryd.prog 9 (fun l : List UInt8 => vS l) GoodS := by
  intro H enc w sp base v d ps h hv
  obtain ⟨n, hn⟩ := h
  have hobt := okStr und9 hv
  obtain ⟨s, rfl⟩ := hobt
  have hobt := rd_strC und9 hn
  obtain ⟨l, hl, e⟩ := hobt
  refine ⟨l, hl, ?_⟩
  have e : ([.string s] : List Value) = [.string ⟨l.toArray⟩] := by simpa [Value.cells] using e
  injection e with e _
  rw [e]
  exact says_val _
set_option maxRecDepth 100000 in
theorem rdA_byte : RdA Tryd.prog 5 (fun b : UInt8 => .val (.int .u8 ((b.toNat : Nat) : Int))) (fun _ => True) := by
  intro H enc w sp base v d ps h hv
  have hobt := open_int und5 hv h
  obtain ⟨a, rfl, _, _, wa⟩ := hobt
  have hb : 0 ≤ a ∧ a < 256 := by
    simp [Lit.wf, IntKind.min, IntKind.max, IntKind.bits, IntKind.signed] at wa
    omega
  refine ⟨UInt8.ofNat a.toNat, trivial, ?_⟩
  have e : (((UInt8.ofNat a.toNat).toNat : Nat) : Int) = a := by
    rw [UInt8.toNat_ofNat']
    omega
  show Says w (SV.val (Value.int .u8 (((UInt8.ofNat a.toNat).toNat : Nat) : Int))) _
  rw [e]
  exact says_val _
set_option maxRecDepth 100000 in
theorem rdA_topic : RdA Tryd.prog 74 (fun t : List UInt8 × List UInt8 × List UInt8 => .agg [vS t.1, vS t.2.1, vS t.2.2]) (fun _ => True) := by
  intro H enc w sp base v d ps h hv
  obtain ⟨n, hn⟩ := h
  have hobt := rd_fields (t := 74) (ti := ti74) (by kernel_rfl) rfl hn
  obtain ⟨hl, hf⟩ := hobt
  have hc : Tryd.prog.cellsOf 74 = 3 := by kernel_rfl
  have h9 : Tryd.prog.cellsOf 9 = 1 := by kernel_rfl
  rw [hc] at hl
  have hobt := hf 0 0 9 rfl
  obtain ⟨_, _, g0⟩ := hobt
  have hobt := hf 1 1 9 rfl
  obtain ⟨_, _, g1⟩ := hobt
  have hobt := hf 2 2 9 rfl
  obtain ⟨_, _, g2⟩ := hobt
  rw [h9] at g0 g1 g2
  have hobt := rd_strC und9 g0
  obtain ⟨a, _, ea⟩ := hobt
  have hobt := rd_strC und9 g1
  obtain ⟨b, _, eb⟩ := hobt
  have hobt := rd_strC und9 g2
  obtain ⟨c, _, ec⟩ := hobt
  clear g0 g1 g2 hf
  obtain ⟨fields, hu⟩ : ∃ fields, Tryd.prog.underlying 74 = some (.struct fields) := by
    have hobt := tiOf_inv ((env_ok 0 noWr).tt 74 ti74 (by kernel_rfl))
    obtain ⟨dd, ii, hu, hi, hkk, _⟩ := hobt
    have hobt := kind_struct hkk
    obtain ⟨fields, rfl, _⟩ := hobt
    exact ⟨fields, hu⟩
  have hv2 : ∃ cs, v = .agg cs := by
    have hobt := okWide_struct hu hv
    obtain ⟨cs, h1, _⟩ := hobt
    exact ⟨cs, h1⟩
  obtain ⟨cs, rfl⟩ := hv2
  clear hn hv hu
  have hcs : (Value.agg cs).cells.toList = cs.toList := by simp [Value.cells]
  rw [hcs] at hl ea eb ec
  obtain ⟨cs⟩ := cs
  refine ⟨(a, b, c), trivial, fun ρ O hO => Den.agg _ _ (by simpa using hl.symm) fun j s u hs hu => ?_⟩
  match cs, hl with
  | [u0, u1, u2], _ =>
    simp at ea eb ec
    subst ea; subst eb; subst ec
    match j, hs, hu with
    | 0, hs, hu => cases hs; cases hu; exact .val _
    | 1, hs, hu => cases hs; cases hu; exact .val _
    | 2, hs, hu => cases hs; cases hu; exact .val _
set_option maxRecDepth 100000 in
theorem rdA_strs2 : RdA Tryd.prog 87 (fun t : List UInt8 × List UInt8 => .agg [vS t.1, vS t.2]) (fun _ => True) := by
  intro H enc w sp base v d ps h hv
  obtain ⟨n, hn⟩ := h
  have hobt := DataW.trod_array und87 hn
  obtain ⟨xs, m, _, _, hl, hxl, hx⟩ := hobt
  have hc : Tryd.prog.cellsOf 87 = 2 := by kernel_rfl
  have h9 : Tryd.prog.cellsOf 9 = 1 := by kernel_rfl
  have g0 := hx 0 (by omega)
  have g1 := hx 1 (by omega)
  rw [h9, List.getElem?_eq_getElem (by omega : 0 < xs.length)] at g0
  rw [h9, List.getElem?_eq_getElem (by omega : 1 < xs.length)] at g1
  have hobt := rd_strC und9 g0
  obtain ⟨a, _, ea⟩ := hobt
  have hobt := rd_strC und9 g1
  obtain ⟨b, _, eb⟩ := hobt
  have hv2 : ∃ cs, v = .agg cs := by
    simp only [Value.okWide, und87] at hv
    obtain ⟨cs, h1, _⟩ := hv
    exact ⟨cs, h1⟩
  obtain ⟨cs, rfl⟩ := hv2
  have hcs : (Value.agg cs).cells.toList = cs.toList := by simp [Value.cells]
  rw [hcs] at hl ea eb
  obtain ⟨cs⟩ := cs
  clear hn hv g0 g1 hx hcs
  refine ⟨(a, b), trivial, fun ρ O hO => Den.agg _ _ (by simp at hl ⊢; omega) fun j s u hs hu => ?_⟩
  match cs, (show cs.length = 2 by simp at hl; omega) with
  | [u0, u1], _ =>
    simp at ea eb
    subst ea; subst eb
    match j, hs, hu with
    | 0, hs, hu => cases hs; cases hu; exact .val _
    | 1, hs, hu => cases hs; cases hu; exact .val _
end Go.Sx
