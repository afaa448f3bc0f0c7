/-
  Layer 10, part R: what the laws are given, read: pairs, truths, numbers.
-/
import Derived.Test.YtmogappoadglgaaSxX
namespace Go.Sx
open Go Go.Proofs Go.Proofs.Ytmogappoadglgaa
open Go.ChangeShapes Go.WideShapes
theorem und3 : Try.prog.underlying 3 = some (.int .i64) := by kernel_rfl
theorem und4 : Try.prog.underlying 4 = some .bool := by kernel_rfl
theorem und22 : Try.prog.underlying 22 = some (.slice 32) := by kernel_rfl
theorem und23 : Try.prog.underlying 23 = some (.slice 4) := by kernel_rfl
theorem und32 : Try.prog.underlying 32 = some (.array 2 3) := by kernel_rfl
def GoodP (p : Int × Int) : Prop := InI p.1 ∧ InI p.2
theorem rd_pair {P : Program} (h32 : P.underlying 32 = some (.array 2 3)) (h3 : P.underlying 3 = some (.int .i64)) (hc : P.cellsOf 32 = 2) (hc3 : P.cellsOf 3 = 1) : Rd P 32 GoodP := by
  intro H enc w sp n cs x h
  obtain ⟨hl, hx⟩ := rd_ints_of h32 h3 hc hc3 h
  obtain ⟨a, ha, ea⟩ := hx 0 (by omega)
  obtain ⟨b, hb, eb⟩ := hx 1 (by omega)
  refine ⟨((a, b) : Int × Int), ⟨ha, hb⟩, ?_⟩
  match cs, hl with
  | [u, v], _ =>
    simp at ea eb
    subst ea; subst eb
    exact saysL_cons (says_val _) (saysL_cons (says_val _) saysL_nil)
theorem rd_bool {P : Program} (h4 : P.underlying 4 = some .bool) : Rd P 4 (fun _ => True) := by
  intro H enc w sp n cs x h
  obtain ⟨b, rfl, _⟩ := DataW.trod_bool h4 h
  exact ⟨(b : Bool), trivial, saysL_cons (says_val _) saysL_nil⟩
theorem rdA_int_of {P : Program} {t : TypeId} (ht : P.underlying t = some (.int .i64)) : RdA P t (fun n : Int => vI n) InI := by
  intro H enc w sp base v d ps h hv
  obtain ⟨a, rfl, _, _, wa⟩ := open_int ht hv h
  exact ⟨a, wf_i64 wa, says_val _⟩
theorem rdA_pairs : RdA Try.prog 22 (fun xs : List (Int × Int) => .lst 32 xs) (fun xs => ∀ y ∈ xs, GoodP y) :=
  rdA_slice und22 (by kernel_rfl) (by decide) (rd_pair und32 und3 (by kernel_rfl) (by kernel_rfl))
theorem rdA_bools : RdA Try.prog 23 (fun xs : List Bool => .lst 4 xs) (fun xs => ∀ y ∈ xs, True) :=
  rdA_slice und23 (by kernel_rfl) (by decide) (rd_bool und4)
theorem rdA_int : RdA Try.prog 3 (fun n : Int => vI n) InI := rdA_int_of und3
end Go.Sx

