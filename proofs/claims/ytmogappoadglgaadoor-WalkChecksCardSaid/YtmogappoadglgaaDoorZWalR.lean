/-
  The door's seat, part R of layer 13: what the laws are given, read: lists of triples, raw orders.
-/
import Derived.Test.YtmogappoadglgaaDoorZTra
import Derived.Test.YtmogappoadglgaaDoorZWam
set_option linter.unusedVariables false
set_option linter.unusedSimpArgs false
namespace Go.Sx
open Go Go.Proofs Go.Proofs.YtmogappoadglgaaDoor
open Go.ChangeShapes Go.WideShapes
theorem und96 : Tryd.prog.underlying 96 = some (.array 3 3) := by kernel_rfl
theorem und22 : Tryd.prog.underlying 22 = some (.slice 96) := by kernel_rfl
theorem und51 : Tryd.prog.underlying 51 = some (.slice 25) := by kernel_rfl
theorem rd_triple {P : Program} (h66 : P.underlying 96 = some (.array 3 3)) (h3 : P.underlying 3 = some (.int .i64)) (hc : P.cellsOf 96 = 3) (hc3 : P.cellsOf 3 = 1) : Rd P 96 (fun r : Int × Int × Int => InI r.1 ∧ InI r.2.1 ∧ InI r.2.2) := by
  intro H enc w sp n cs x h
  have hobt := rd_ints_of h66 h3 hc hc3 h
  obtain ⟨hl, hx⟩ := hobt
  have hobt := hx 0 (by omega)
  obtain ⟨a, ha, ea⟩ := hobt
  have hobt := hx 1 (by omega)
  obtain ⟨b, hb, eb⟩ := hobt
  have hobt := hx 2 (by omega)
  obtain ⟨c, hc, ec⟩ := hobt
  refine ⟨((a, b, c) : Int × Int × Int), ⟨ha, hb, hc⟩, ?_⟩
  match cs, hl with
  | [u, v, z], _ =>
    simp at ea eb ec
    subst ea; subst eb; subst ec
    exact saysL_cons (says_val _) (saysL_cons (says_val _) (saysL_cons (says_val _) saysL_nil))
theorem rdN_triples : RdA Tryd.prog 22 (fun xs : List (Int × Int × Int) => .lst 96 xs) (fun xs => xs.length ≤ 9223372036854775807 ∧ ∀ r ∈ xs, InI r.1 ∧ InI r.2.1 ∧ InI r.2.2) :=
  rdN_slice und22 (by kernel_rfl) (by decide) (rd_triple und96 und3 (by kernel_rfl) (by kernel_rfl))
/-- A raw order's cells. -/
theorem rd_rawC {H : Type} {enc : TypeId × Value → H} {w : World} {sp : Nat → Bool} {n : Nat} {cs : List Value} {x : DataW H × List MemPlace} (h : DataW.trod enc Tryd.prog w 0 sp true n 25 cs = some x) :
    ∃ y : RawT, RawIn y ∧ SaysL w [vI y.1, vI y.2.1, vI y.2.2.1, vI y.2.2.2.1, vI y.2.2.2.2.1, vI y.2.2.2.2.2.1, .lst 3 y.2.2.2.2.2.2] cs := by
  have hobt := rd_fields (t := 25) (ti := ti25) (by kernel_rfl) rfl h
  obtain ⟨hl, hf⟩ := hobt
  have hc : Tryd.prog.cellsOf 25 = 7 := by kernel_rfl
  have h3 : Tryd.prog.cellsOf 3 = 1 := by kernel_rfl
  have h23 : Tryd.prog.cellsOf 23 = 1 := by kernel_rfl
  rw [hc] at hl
  have hobt := hf 0 0 3 rfl
  obtain ⟨_, _, g0⟩ := hobt
  have hobt := hf 1 1 3 rfl
  obtain ⟨_, _, g1⟩ := hobt
  have hobt := hf 2 2 3 rfl
  obtain ⟨_, _, g2⟩ := hobt
  have hobt := hf 3 3 3 rfl
  obtain ⟨_, _, g3⟩ := hobt
  have hobt := hf 4 4 3 rfl
  obtain ⟨_, _, g4⟩ := hobt
  have hobt := hf 5 5 3 rfl
  obtain ⟨_, _, g5⟩ := hobt
  have hobt := hf 6 6 23 rfl
  obtain ⟨_, _, g6⟩ := hobt
  rw [h3] at g0 g1 g2 g3 g4 g5
  rw [h23] at g6
  have hobt := rd_int_of und3 g0
  obtain ⟨a, ha, ea⟩ := hobt
  have hobt := rd_int_of und3 g1
  obtain ⟨b, hb, eb⟩ := hobt
  have hobt := rd_int_of und3 g2
  obtain ⟨c, hc, ec⟩ := hobt
  have hobt := rd_int_of und3 g3
  obtain ⟨d, hd, ed⟩ := hobt
  have hobt := rd_int_of und3 g4
  obtain ⟨e, he, ee⟩ := hobt
  have hobt := rd_int_of und3 g5
  obtain ⟨f, hf', ef⟩ := hobt
  have hobt := rd_slice und23 (by kernel_rfl) (by decide) (rd_int und3) g6
  obtain ⟨ts, hts, hsay, _⟩ := hobt
  clear g0 g1 g2 g3 g4 g5 g6 hf h h3 h23
  have hts' : ts.length ≤ 9223372036854775807 ∧ ∀ t ∈ (ts : List Int), InI t := hts
  refine ⟨((a, b, c, d, e, f, ts) : RawT), ⟨ha, hb, hc, hd, he, hf', hts'.2, hts'.1⟩, ?_⟩
  match cs, hl with
  | [u0, u1, u2, u3, u4, u5, u6], _ =>
    simp at ea eb ec ed ee ef
    subst ea; subst eb; subst ec; subst ed; subst ee; subst ef
    have hz := hsay.2 0 _ u6 rfl rfl
    exact saysL_cons (says_val _) (saysL_cons (says_val _) (saysL_cons (says_val _) (saysL_cons (says_val _) (saysL_cons (says_val _) (saysL_cons (says_val _) (saysL_cons hz saysL_nil))))))
theorem rd_raw : Rd Tryd.prog 25 RawIn := fun h => by
  have hobt := rd_rawC h
  obtain ⟨y, h1, h2⟩ := hobt
  exact ⟨y, h1, h2⟩
theorem okS {P : Program} {w : World} {base : Nat} {t : TypeId} {v : Value} {fs : Array Field} (ht : P.underlying t = some (.struct fs)) (h : Value.okWide P w .any base t v) : ∃ cs, v = .agg cs := by
  have hobt := okWide_struct ht h
  obtain ⟨cs, h1, _⟩ := hobt
  exact ⟨cs, h1⟩
set_option maxRecDepth 100000 in
theorem rdA_raw : RdA Tryd.prog 25 rawS RawIn := by
  intro H enc w sp base v d ps h hv
  obtain ⟨n, hn⟩ := h
  obtain ⟨fields, hu⟩ : ∃ fields, Tryd.prog.underlying 25 = some (.struct fields) := by
    have hobt := tiOf_inv ((env_ok 0 noWr).tt 25 ti25 (by kernel_rfl))
    obtain ⟨dd, ii, hu, hi, hkk, _⟩ := hobt
    have hobt := kind_struct hkk
    obtain ⟨fields, rfl, _⟩ := hobt
    exact ⟨fields, hu⟩
  have hv2 : ∃ cs, v = .agg cs := by
    exact okS hu hv
  clear hv
  obtain ⟨cs, rfl⟩ := hv2
  have hobt := rd_rawC hn
  obtain ⟨y, hy, hs⟩ := hobt
  refine ⟨y, hy, fun ρ O hO => Den.agg _ _ ?_ fun j s u hs2 hu => ?_⟩
  · have h3 := hs.1
    exact h3.trans (by simp [Value.cells])
  · exact hs.2 j s u hs2 (by simpa [Value.cells] using hu) ρ O hO
theorem rdN_raws : RdA Tryd.prog 51 (fun xs : List RawT => .lst 25 xs) (fun xs => xs.length ≤ 9223372036854775807 ∧ ∀ y ∈ xs, RawIn y) :=
  rdN_slice und51 (by kernel_rfl) (by decide) rd_raw
end Go.Sx

