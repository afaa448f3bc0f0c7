/-
  The statement RouteTours: for every input that can be read the law returns true, and what came in reads as it did.
-/
import Derived.Test.YtmogappoadglgaaZRouL
import Derived.Test.YtmogappoadglgaaZSxFour
import Derived.Test.YtmogappoadglgaaZRouR
set_option linter.unusedVariables false
set_option linter.unusedSimpArgs false
namespace Go.Sx
open Go Go.Proofs Go.Proofs.Ytmogappoadglgaa
open Go.ChangeShapes Go.WideShapes
set_option maxRecDepth 100000 in
theorem routeTours_lifted (os : Os) (started : os.Started) (H : Type) (enc : TypeId × Value → H) :
    ReturnsInHanded {} Try.checked os 20 .any (Rows.routeToursSpec.pre6 enc Try.prog Try.f20 Rows.routeToursRow.domain false) (Rows.routeToursSpec.post enc Try.prog Try.f20 false true false false) := by
  refine returnsInHanded_of_change (C := Try.checked) own_knob started (by kernel_rfl) Try.func20
    (ChangeSpec.witness6 (enc := enc) (C := Try.checked) false ⟨#[], #[.int .i64 0, .slice none 0 0, .slice none 0 0, .agg #[.int .i64 0, .int .i64 0, .int .i64 0]], []⟩ 8 (by kernel_rfl) (by kernel_rfl) (by kernel_rfl) (by kernel_rfl)) ?_
  intro W base args ds gs before hval hW _ _
  refine law_contract laid_out m_toursR (s := Rows.routeToursSpec) rfl (fun H ds hl => ?_) (T := 4) (by kernel_rfl) und4 (by kernel_rfl) (fun {_ _ _ vs ds ps base} hA hv => ?_) W base args ds gs before hval hW
  · match ds, hl with
    | [d0, d1, d2, d3], _ => rfl
  · have hA : DataW.TrodAll _ _ _ _ _ _ [3, 41, 42, 66] vs ds ps := hA
    obtain ⟨v0, vs0, d0, ds0, p0, q0, rfl, rfl, rfl, h0, r0⟩ := trodAll_cons hA
    obtain ⟨v1, vs1, d1, ds1, p1, q1, rfl, rfl, rfl, h1, r1⟩ := trodAll_cons r0
    obtain ⟨v2, vs2, d2, ds2, p2, q2, rfl, rfl, rfl, h2, r2⟩ := trodAll_cons r1
    obtain ⟨v3, vs3, d3, ds3, p3, q3, rfl, rfl, rfl, h3, r3⟩ := trodAll_cons r2
    obtain ⟨rfl, rfl, rfl⟩ := trodAll_nil r3
    obtain ⟨x0, g0, s0⟩ := rdA_int h0 (hv 0 3 v0 rfl rfl)
    obtain ⟨x1, g1, s1⟩ := rdN_triples h1 (hv 1 41 v1 rfl rfl)
    obtain ⟨x2, g2, s2⟩ := rdN_ints h2 (hv 2 42 v2 rfl rfl)
    obtain ⟨x3, g3, s3⟩ := rdA_three h3 (hv 3 66 v3 rfl rfl)
    exact ⟨(x0, x1, x2, x3), ⟨g0, g1, g2.1, g3.1, g3.2.1, g3.2.2⟩, (saysL_cons s0 (saysL_cons s1 (saysL_cons s2 (saysL_cons s3 saysL_nil))))⟩
end Go.Sx
namespace Go.Proofs.Ytmogappoadglgaa
open Go.Sx
set_option maxRecDepth 100000 in
theorem routeTours_facts : joinedFacts Try.pinned.checked.prog 20 Try.f20 Rows.routeToursSpec Rows.routeToursRow = true := by
  show joinedFacts Try.prog 20 Try.f20 Rows.routeToursSpec Rows.routeToursRow = true
  unfold joinedFacts
  repeat' (with_reducible refine and_t ?_ ?_)
  all_goals first | (with_reducible exact may_enter) | (with_reducible exact laid_out) | (rw [lifts_final]; kernel_rfl) | (rw [made_cut]; kernel_rfl) | (as_aux_lemma => kernel_rfl)
theorem routeTours_holds : Rows.RouteToursSaid :=
  OpenClaim.holds_of_wide 20 Try.f20 rfl rfl rfl rfl rfl rfl rfl ⟨rfl, rfl, rfl, rfl, rfl⟩ rfl rfl rfl rfl rfl (by kernel_rfl) Try.func20 routeTours_facts
    (of_decide_eq_true (by kernel_rfl)) (by unfold Func.isWrapper; first | (rw [if_pos (by decide +kernel)]; kernel_rfl) | (rw [if_neg (by decide +kernel)]; exact ⟨rfl, rfl⟩))
    (fun os started H enc _ => Sx.routeTours_lifted os started H enc)
end Go.Proofs.Ytmogappoadglgaa
#print axioms Go.Proofs.Ytmogappoadglgaa.routeTours_holds



