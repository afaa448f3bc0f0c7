/-
  Layer 11, part R: what the laws are given, read: numbers, lists of numbers and of triples, with their lengths.
-/
import Derived.Test.YtmogappoadglgaaHeapR
namespace Go.Sx
open Go Go.Proofs Go.Proofs.Ytmogappoadglgaa
open Go.ChangeShapes Go.WideShapes
theorem und66 : Try.prog.underlying 66 = some (.array 3 3) := by kernel_rfl
theorem und41 : Try.prog.underlying 41 = some (.slice 66) := by kernel_rfl
theorem und42 : Try.prog.underlying 42 = some (.slice 3) := by kernel_rfl
def GoodT (r : Int × Int × Int) : Prop := InI r.1 ∧ InI r.2.1 ∧ InI r.2.2
theorem rd_triple {P : Program} (h66 : P.underlying 66 = some (.array 3 3)) (h3 : P.underlying 3 = some (.int .i64)) (hc : P.cellsOf 66 = 3) (hc3 : P.cellsOf 3 = 1) : Rd P 66 GoodT := by
  intro H enc w sp n cs x h
  obtain ⟨hl, hx⟩ := rd_ints_of h66 h3 hc hc3 h
  obtain ⟨a, ha, ea⟩ := hx 0 (by omega)
  obtain ⟨b, hb, eb⟩ := hx 1 (by omega)
  obtain ⟨c, hc, ec⟩ := hx 2 (by omega)
  refine ⟨((a, b, c) : Int × Int × Int), ⟨ha, hb, hc⟩, ?_⟩
  match cs, hl with
  | [u, v, z], _ =>
    simp at ea eb ec
    subst ea; subst eb; subst ec
    exact saysL_cons (says_val _) (saysL_cons (says_val _) (saysL_cons (says_val _) saysL_nil))
theorem rd_int {P : Program} (h3 : P.underlying 3 = some (.int .i64)) : Rd P 3 InI := by
  intro H enc w sp n cs x h
  obtain ⟨z, hz, rfl⟩ := rd_int_of h3 h
  exact ⟨(z : Int), hz, saysL_cons (says_val _) saysL_nil⟩
theorem rdN_triples : RdA Try.prog 41 (fun xs : List (Int × Int × Int) => .lst 66 xs) (fun xs => xs.length ≤ 9223372036854775807 ∧ ∀ y ∈ xs, GoodT y) :=
  rdN_slice und41 (by kernel_rfl) (by decide) (rd_triple und66 und3 (by kernel_rfl) (by kernel_rfl))
theorem rdN_ints : RdA Try.prog 42 (fun xs : List Int => .lst 3 xs) (fun xs => xs.length ≤ 9223372036854775807 ∧ ∀ y ∈ xs, InI y) :=
  rdN_slice und42 (by kernel_rfl) (by decide) (rd_int und3)
theorem rdS_ints : RdS Try.prog 42 (fun xs : List Int => .lst 3 xs) (fun xs => xs.length ≤ 9223372036854775807 ∧ ∀ y ∈ xs, InI y) :=
  rdS_slice und42 (by kernel_rfl) (by decide) (rd_int und3)
/-- A list of numbers that came in is of so many at most. -/
theorem ints_most {H : Type} {ts : List TypeId} {ds : List (DataW H)} (h : (DataW.weightsEach Try.prog ts ds).all (· ≤ reachBytes) = true) {j : Nat} {d : DataW H} (ht : ts[j]? = some 42) (hd : ds[j]? = some d) {xs : List Int}
    (hx : xs = [] ∨ ∃ elems spare, d = .slice elems spare ∧ xs.length = elems.length) : xs.length ≤ 17592186043904 := by
  rcases hx with rfl | ⟨elems, spare, rfl, hl⟩
  · exact Nat.zero_le _
  · have h1 := sized_slice h ht hd und42
    have h8 : Try.prog.bytesOf 3 = 8 := by kernel_rfl
    have hb : reachBytes = 140737488351232 := rfl
    rw [h8, hb] at h1
    omega
/-- A struct that reads as data: its fields do. -/
theorem rd_fields {t : TypeId} {ti : TI} {fs : List (Nat × TypeId)} (ht : (envF 0 noWr).tt t = some ti) (hk : ti.k = .struct fs) {H : Type} {enc : TypeId × Value → H} {w : World} {sp : Nat → Bool} {n : Nat} {cs : List Value} {x : DataW H × List MemPlace}
    (h : DataW.trod enc Try.prog w 0 sp true n t cs = some x) : cs.length = Try.prog.cellsOf t ∧ ∀ (j off T : Nat), fs[j]? = some (off, T) → ∃ m y, DataW.trod enc Try.prog w 0 sp true m T ((cs.drop off).take (Try.prog.cellsOf T)) = some y := by
  obtain ⟨dd, ii, hu, hi, hkk, _⟩ := tiOf_inv ((env_ok 0 noWr).tt t ti ht)
  rw [hk] at hkk
  obtain ⟨fields, rfl, rfl⟩ := kind_struct hkk
  obtain ⟨xs, m, _, _, hl, hlen, hf⟩ := DataW.trod_struct hu h
  refine ⟨hl, fun j off T hj => ?_⟩
  rw [List.getElem?_map] at hj
  cases hfj : fields.toList[j]? with
  | none => rw [hfj] at hj; cases hj
  | some f =>
    rw [hfj] at hj
    simp only [Option.map_some, Option.some.injEq, Prod.mk.injEq] at hj
    obtain ⟨rfl, rfl⟩ := hj
    rw [Array.getElem?_toList] at hfj
    have := hf j f hfj
    have hjl := (Array.getElem?_eq_some_iff.1 hfj).1
    exact ⟨m, xs[j], by rw [this]; exact List.getElem?_eq_getElem (by omega)⟩
theorem struct_of {t : TypeId} {ti : TI} {fs : List (Nat × TypeId)} (ht : (envF 0 noWr).tt t = some ti) (hk : ti.k = .struct fs) : ∃ fields, Try.prog.underlying t = some (.struct fields) := by
  obtain ⟨dd, ii, hu, hi, hkk, _⟩ := tiOf_inv ((env_ok 0 noWr).tt t ti ht)
  rw [hk] at hkk
  obtain ⟨fields, rfl, _⟩ := kind_struct hkk
  exact ⟨fields, hu⟩
end Go.Sx

