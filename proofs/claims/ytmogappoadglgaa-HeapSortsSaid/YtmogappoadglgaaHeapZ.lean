/-
  Layer 10, part Z: what the laws are given, read; the statement HeapSorts: what is popped until there is nothing is what was pushed, in order.
-/
import Derived.Test.YtmogappoadglgaaHeapG
import Derived.Test.YtmogappoadglgaaSxY
namespace Go.Sx
open Go Go.Proofs Go.Proofs.Ytmogappoadglgaa
open Go.ChangeShapes Go.WideShapes
theorem und3 : Try.prog.underlying 3 = some (.int .i64) := by kernel_rfl
theorem und4 : Try.prog.underlying 4 = some .bool := by kernel_rfl
theorem und22 : Try.prog.underlying 22 = some (.slice 32) := by kernel_rfl
theorem und23 : Try.prog.underlying 23 = some (.slice 4) := by kernel_rfl
theorem und32 : Try.prog.underlying 32 = some (.array 2 3) := by kernel_rfl
def GoodP (p : Int × Int) : Prop := InI p.1 ∧ InI p.2
theorem rd_pair {P : Program} (h32 : P.underlying 32 = some (.array 2 3)) (h3 : P.underlying 3 = some (.int .i64)) (hc : P.cellsOf 32 = 2) (hc3 : P.cellsOf 3 = 1) : Rd P 32 GoodP := by
  intro H enc w sp n cs x h
  obtain ⟨hl, hx⟩ := rd_ints_of h32 h3 hc hc3 h
  obtain ⟨a, ha, ea⟩ := hx 0 (by omega)
  obtain ⟨b, hb, eb⟩ := hx 1 (by omega)
  refine ⟨((a, b) : Int × Int), ⟨ha, hb⟩, ?_⟩
  match cs, hl with
  | [u, v], _ =>
    simp at ea eb
    subst ea; subst eb
    exact saysL_cons (says_val _) (saysL_cons (says_val _) saysL_nil)
theorem rdA_pairs : RdA Try.prog 22 (fun xs : List (Int × Int) => .lst 32 xs) (fun xs => ∀ y ∈ xs, GoodP y) :=
  rdA_slice und22 (by kernel_rfl) (by decide) (rd_pair und32 und3 (by kernel_rfl) (by kernel_rfl))
theorem law_sorts : Meets Try.prog regF 4 (spLaw (fun l : List (Int × Int) => [.lst 32 l]) (fun _ => True)) := m_sorts
set_option maxRecDepth 100000 in
theorem sorts_lifted (os : Os) (started : os.Started) (H : Type) (enc : TypeId × Value → H) :
    ReturnsInHanded {} Try.checked os 4 .any (Rows.heapSortsSpec.pre6 enc Try.prog Try.f4 Rows.heapSortsRow.domain false) (Rows.heapSortsSpec.post enc Try.prog Try.f4 false true false false) := by
  refine returnsInHanded_of_change (C := Try.checked) own_knob started (by kernel_rfl) Try.func4
    (ChangeSpec.witness6 (enc := enc) (C := Try.checked) false ⟨#[], #[.slice none 0 0], []⟩ 8 (by kernel_rfl) (by kernel_rfl) (by kernel_rfl) (by kernel_rfl)) ?_
  intro W base args ds gs before hval hW _ _
  refine law_contract laid_out law_sorts (s := Rows.heapSortsSpec) rfl (fun H ds hl => ?_) (T := 4) (by kernel_rfl) und4 (by kernel_rfl) (fun {_ _ _ vs ds ps base} hA hv => ?_) W base args ds gs before hval hW
  · match ds, hl with
    | [d], _ => rfl
  · have hA : DataW.TrodAll _ _ _ _ _ _ [22] vs ds ps := hA
    obtain ⟨v0, vs0, d0, ds0, p0, q0, rfl, rfl, rfl, h0, r0⟩ := trodAll_cons hA
    obtain ⟨rfl, rfl, rfl⟩ := trodAll_nil r0
    obtain ⟨x0, _, s0⟩ := rdA_pairs h0 (hv 0 22 v0 rfl rfl)
    exact ⟨x0, trivial, saysL_cons s0 saysL_nil⟩
end Go.Sx
namespace Go.Proofs.Ytmogappoadglgaa
open Go.Sx
set_option maxRecDepth 100000 in
theorem z_facts : joinedFacts Try.pinned.checked.prog 4 Try.f4 Rows.heapSortsSpec Rows.heapSortsRow = true := by
  show joinedFacts Try.prog 4 Try.f4 Rows.heapSortsSpec Rows.heapSortsRow = true
  unfold joinedFacts
  repeat' (with_reducible refine and_t ?_ ?_)
  all_goals first | (with_reducible exact may_enter) | (with_reducible exact laid_out) | (rw [lifts_final]; kernel_rfl) | (rw [made_cut]; kernel_rfl) | (as_aux_lemma => kernel_rfl)
theorem heapSorts_holds : Rows.HeapSortsSaid :=
  OpenClaim.holds_of_wide 4 Try.f4 rfl rfl rfl rfl rfl rfl rfl ⟨rfl, rfl, rfl, rfl, rfl⟩ rfl rfl rfl rfl rfl (by kernel_rfl) Try.func4 z_facts
    (of_decide_eq_true (by kernel_rfl)) (by unfold Func.isWrapper; first | (rw [if_pos (by decide +kernel)]; kernel_rfl) | (rw [if_neg (by decide +kernel)]; exact ⟨rfl, rfl⟩))
    (fun os started H enc _ => Sx.sorts_lifted os started H enc)
end Go.Proofs.Ytmogappoadglgaa
#print axioms Go.Proofs.Ytmogappoadglgaa.heapSorts_holds

