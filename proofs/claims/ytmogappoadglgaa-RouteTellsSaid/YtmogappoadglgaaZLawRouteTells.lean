/-
  The statement RouteTells: for every input that can be read the law returns true, and what came in reads as it did.
-/
import Derived.Test.YtmogappoadglgaaZRouO
import Derived.Test.YtmogappoadglgaaZSxFour
import Derived.Test.YtmogappoadglgaaZLayO
import Derived.Test.YtmogappoadglgaaZRouR
set_option linter.unusedVariables false
set_option linter.unusedSimpArgs false
namespace Go.Sx
open Go Go.Proofs Go.Proofs.Ytmogappoadglgaa
open Go.ChangeShapes Go.WideShapes
set_option maxRecDepth 100000 in
theorem routeTells_lifted (os : Os) (started : os.Started) (H : Type) (enc : TypeId × Value → H) :
    ReturnsInHanded {} Try.checked os 19 .any (Rows.routeTellsSpec.pre6 enc Try.prog Try.f19 Rows.routeTellsRow.domain false) (Rows.routeTellsSpec.post enc Try.prog Try.f19 false true false false) := by
  refine returnsInHanded_of_change_sized (C := Try.checked) own_knob started (by kernel_rfl) Try.func19
    (ChangeSpec.witness6 (enc := enc) (C := Try.checked) false ⟨#[], #[.agg #[.int .i64 0, .slice none 0 0], .int .i64 0, .slice none 0 0, .slice none 0 0, .agg #[.int .i64 0, .int .i64 0, .int .i64 0], .slice none 0 0], []⟩ 8 (by kernel_rfl) (by kernel_rfl) (by kernel_rfl) (by kernel_rfl)) ?_
  intro W base args ds gs before hval hW _ hwt _
  refine law_contract_sized laid_out m_tellsR (s := Rows.routeTellsSpec) rfl (fun H ds hl => ?_) (T := 4) (by kernel_rfl) und4 (by kernel_rfl) (fun {_ _ _ vs ds ps base} hA hv hwt => ?_) W base args ds gs before hval hwt hW
  · match ds, hl with
    | [d0, d1, d2, d3, d4, d5], _ => rfl
  · have hA : DataW.TrodAll _ _ _ _ _ _ [40, 3, 41, 42, 66, 42] vs ds ps := hA
    obtain ⟨v0, vs0, d0, ds0, p0, q0, rfl, rfl, rfl, h0, r0⟩ := trodAll_cons hA
    obtain ⟨v1, vs1, d1, ds1, p1, q1, rfl, rfl, rfl, h1, r1⟩ := trodAll_cons r0
    obtain ⟨v2, vs2, d2, ds2, p2, q2, rfl, rfl, rfl, h2, r2⟩ := trodAll_cons r1
    obtain ⟨v3, vs3, d3, ds3, p3, q3, rfl, rfl, rfl, h3, r3⟩ := trodAll_cons r2
    obtain ⟨v4, vs4, d4, ds4, p4, q4, rfl, rfl, rfl, h4, r4⟩ := trodAll_cons r3
    obtain ⟨v5, vs5, d5, ds5, p5, q5, rfl, rfl, rfl, h5, r5⟩ := trodAll_cons r4
    obtain ⟨rfl, rfl, rfl⟩ := trodAll_nil r5
    obtain ⟨x0, g0, s0⟩ := rdA_layout h0 (hv 0 40 v0 rfl rfl)
    obtain ⟨x1, g1, s1⟩ := rdA_int h1 (hv 1 3 v1 rfl rfl)
    obtain ⟨x2, g2, s2⟩ := rdN_triples h2 (hv 2 41 v2 rfl rfl)
    obtain ⟨x3, g3, s3⟩ := rdN_ints h3 (hv 3 42 v3 rfl rfl)
    obtain ⟨x4, g4, s4⟩ := rdA_three h4 (hv 4 66 v4 rfl rfl)
    obtain ⟨x5, g5, s5, e5⟩ := rdS_ints h5 (hv 5 42 v5 rfl rfl)
    exact ⟨(x0, x1, x2, x3, x4, x5), ⟨⟨g0.2.1, fun e he => ⟨(g0.2.2 e he).1, (g0.2.2 e he).2.1⟩⟩, g1, g2, g3.1, ⟨g4.1, g4.2.1, g4.2.2⟩, Nat.le_trans (ints_most hwt (j := 5) rfl rfl e5) (by decide)⟩, (saysL_cons s0 (saysL_cons s1 (saysL_cons s2 (saysL_cons s3 (saysL_cons s4 (saysL_cons s5 saysL_nil))))))⟩
end Go.Sx
namespace Go.Proofs.Ytmogappoadglgaa
open Go.Sx
set_option maxRecDepth 100000 in
theorem routeTells_facts : joinedFacts Try.pinned.checked.prog 19 Try.f19 Rows.routeTellsSpec Rows.routeTellsRow = true := by
  show joinedFacts Try.prog 19 Try.f19 Rows.routeTellsSpec Rows.routeTellsRow = true
  unfold joinedFacts
  repeat' (with_reducible refine and_t ?_ ?_)
  all_goals first | (with_reducible exact may_enter) | (with_reducible exact laid_out) | (rw [lifts_final]; kernel_rfl) | (rw [made_cut]; kernel_rfl) | (as_aux_lemma => kernel_rfl)
theorem routeTells_holds : Rows.RouteTellsSaid :=
  OpenClaim.holds_of_wide 19 Try.f19 rfl rfl rfl rfl rfl rfl rfl ⟨rfl, rfl, rfl, rfl, rfl⟩ rfl rfl rfl rfl rfl (by kernel_rfl) Try.func19 routeTells_facts
    (of_decide_eq_true (by kernel_rfl)) (by unfold Func.isWrapper; first | (rw [if_pos (by decide +kernel)]; kernel_rfl) | (rw [if_neg (by decide +kernel)]; exact ⟨rfl, rfl⟩))
    (fun os started H enc _ => Sx.routeTells_lifted os started H enc)
end Go.Proofs.Ytmogappoadglgaa
#print axioms Go.Proofs.Ytmogappoadglgaa.routeTells_holds
