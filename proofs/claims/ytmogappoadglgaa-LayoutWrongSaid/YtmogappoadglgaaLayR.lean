/-
  Layer 11, part R: what the laws are given, read: numbers, lists of numbers and of triples, with their lengths.
-/
import Derived.Test.YtmogappoadglgaaHeapR
namespace Go.Sx
open Go Go.Proofs Go.Proofs.Ytmogappoadglgaa
open Go.ChangeShapes Go.WideShapes
theorem und66 : Try.prog.underlying 66 = some (.array 3 3) := by kernel_rfl
theorem und41 : Try.prog.underlying 41 = some (.slice 66) := by kernel_rfl
theorem und42 : Try.prog.underlying 42 = some (.slice 3) := by kernel_rfl
def GoodT (r : Int × Int × Int) : Prop := InI r.1 ∧ InI r.2.1 ∧ InI r.2.2
theorem rd_triple {P : Program} (h66 : P.underlying 66 = some (.array 3 3)) (h3 : P.underlying 3 = some (.int .i64)) (hc : P.cellsOf 66 = 3) (hc3 : P.cellsOf 3 = 1) : Rd P 66 GoodT := by
  intro H enc w sp n cs x h
  obtain ⟨hl, hx⟩ := rd_ints_of h66 h3 hc hc3 h
  obtain ⟨a, ha, ea⟩ := hx 0 (by omega)
  obtain ⟨b, hb, eb⟩ := hx 1 (by omega)
  obtain ⟨c, hc, ec⟩ := hx 2 (by omega)
  refine ⟨((a, b, c) : Int × Int × Int), ⟨ha, hb, hc⟩, ?_⟩
  match cs, hl with
  | [u, v, z], _ =>
    simp at ea eb ec
    subst ea; subst eb; subst ec
    exact saysL_cons (says_val _) (saysL_cons (says_val _) (saysL_cons (says_val _) saysL_nil))
theorem rd_int {P : Program} (h3 : P.underlying 3 = some (.int .i64)) : Rd P 3 InI := by
  intro H enc w sp n cs x h
  obtain ⟨z, hz, rfl⟩ := rd_int_of h3 h
  exact ⟨(z : Int), hz, saysL_cons (says_val _) saysL_nil⟩
theorem rdN_triples : RdA Try.prog 41 (fun xs : List (Int × Int × Int) => .lst 66 xs) (fun xs => xs.length ≤ 9223372036854775807 ∧ ∀ y ∈ xs, GoodT y) :=
  rdN_slice und41 (by kernel_rfl) (by decide) (rd_triple und66 und3 (by kernel_rfl) (by kernel_rfl))
theorem rdN_ints : RdA Try.prog 42 (fun xs : List Int => .lst 3 xs) (fun xs => xs.length ≤ 9223372036854775807 ∧ ∀ y ∈ xs, InI y) :=
  rdN_slice und42 (by kernel_rfl) (by decide) (rd_int und3)
theorem rdS_ints : RdS Try.prog 42 (fun xs : List Int => .lst 3 xs) (fun xs => xs.length ≤ 9223372036854775807 ∧ ∀ y ∈ xs, InI y) :=
  rdS_slice und42 (by kernel_rfl) (by decide) (rd_int und3)
/-- A list of numbers that came in is of so many at most. -/
theorem ints_most {H : Type} {ts : List TypeId} {ds : List (DataW H)} (h : (DataW.weightsEach Try.prog ts ds).all (· ≤ reachBytes) = true) {j : Nat} {d : DataW H} (ht : ts[j]? = some 42) (hd : ds[j]? = some d) {xs : List Int}
    (hx : xs = [] ∨ ∃ elems spare, d = .slice elems spare ∧ xs.length = elems.length) : xs.length ≤ 17592186043904 := by
  rcases hx with rfl | ⟨elems, spare, rfl, hl⟩
  · exact Nat.zero_le _
  · have h1 := sized_slice h ht hd und42
    have h8 : Try.prog.bytesOf 3 = 8 := by kernel_rfl
    have hb : reachBytes = 140737488351232 := rfl
    rw [h8, hb] at h1
    omega
end Go.Sx

