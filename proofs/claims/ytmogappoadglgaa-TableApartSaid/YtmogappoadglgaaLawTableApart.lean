/-
  The statement TableApart: for every input that can be read the law returns true, and what came in reads as it did.
-/
import Derived.Test.YtmogappoadglgaaTabI
import Derived.Test.YtmogappoadglgaaTabR
import Derived.Test.YtmogappoadglgaaSxY
namespace Go.Sx
open Go Go.Proofs Go.Proofs.Ytmogappoadglgaa
open Go.ChangeShapes Go.WideShapes
set_option maxRecDepth 100000 in
theorem tableApart_lifted (os : Os) (started : os.Started) (H : Type) (enc : TypeId × Value → H) :
    ReturnsInHanded {} Try.checked os 22 .any (Rows.tableApartSpec.pre6 enc Try.prog Try.f22 Rows.tableApartRow.domain false) (Rows.tableApartSpec.post enc Try.prog Try.f22 false true false false) := by
  refine returnsInHanded_of_change (C := Try.checked) own_knob started (by kernel_rfl) Try.func22
    (ChangeSpec.witness6 (enc := enc) (C := Try.checked) false ⟨#[], #[.slice none 0 0], []⟩ 8 (by kernel_rfl) (by kernel_rfl) (by kernel_rfl) (by kernel_rfl)) ?_
  intro W base args ds gs before hval hW _ _
  refine law_contract laid_out m_apartT (s := Rows.tableApartSpec) rfl (fun H ds hl => ?_) (T := 4) (by kernel_rfl) und4 (by kernel_rfl) (fun {_ _ _ vs ds ps base} hA hv => ?_) W base args ds gs before hval hW
  · match ds, hl with
    | [d0], _ => rfl
  · have hA : DataW.TrodAll _ _ _ _ _ _ [70] vs ds ps := hA
    obtain ⟨v0, vs0, d0, ds0, p0, q0, rfl, rfl, rfl, h0, r0⟩ := trodAll_cons hA
    obtain ⟨rfl, rfl, rfl⟩ := trodAll_nil r0
    obtain ⟨x0, g0, s0⟩ := rdN_ops h0 (hv 0 70 v0 rfl rfl)
    exact ⟨x0, g0, (saysL_cons s0 saysL_nil)⟩
end Go.Sx
namespace Go.Proofs.Ytmogappoadglgaa
open Go.Sx
set_option maxRecDepth 100000 in
theorem tableApart_facts : joinedFacts Try.pinned.checked.prog 22 Try.f22 Rows.tableApartSpec Rows.tableApartRow = true := by
  show joinedFacts Try.prog 22 Try.f22 Rows.tableApartSpec Rows.tableApartRow = true
  unfold joinedFacts
  repeat' (with_reducible refine and_t ?_ ?_)
  all_goals first | (with_reducible exact may_enter) | (with_reducible exact laid_out) | (rw [lifts_final]; kernel_rfl) | (rw [made_cut]; kernel_rfl) | (as_aux_lemma => kernel_rfl)
theorem tableApart_holds : Rows.TableApartSaid :=
  OpenClaim.holds_of_wide 22 Try.f22 rfl rfl rfl rfl rfl rfl rfl ⟨rfl, rfl, rfl, rfl, rfl⟩ rfl rfl rfl rfl rfl (by kernel_rfl) Try.func22 tableApart_facts
    (of_decide_eq_true (by kernel_rfl)) (by unfold Func.isWrapper; first | (rw [if_pos (by decide +kernel)]; kernel_rfl) | (rw [if_neg (by decide +kernel)]; exact ⟨rfl, rfl⟩))
    (fun os started H enc _ => Sx.tableApart_lifted os started H enc)
end Go.Proofs.Ytmogappoadglgaa
#print axioms Go.Proofs.Ytmogappoadglgaa.tableApart_holds
