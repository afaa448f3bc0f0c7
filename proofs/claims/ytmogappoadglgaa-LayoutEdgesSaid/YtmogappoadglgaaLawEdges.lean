/-
  The statement LayoutEdges: for every input that can be read the law returns true, and what came in reads as it did.
-/
import Derived.Test.YtmogappoadglgaaLayS
import Derived.Test.YtmogappoadglgaaLayR
import Derived.Test.YtmogappoadglgaaSxY
namespace Go.Sx
open Go Go.Proofs Go.Proofs.Ytmogappoadglgaa
open Go.ChangeShapes Go.WideShapes
set_option maxRecDepth 100000 in
theorem layoutEdges_lifted (os : Os) (started : os.Started) (H : Type) (enc : TypeId × Value → H) :
    ReturnsInHanded {} Try.checked os 12 .any (Rows.layoutEdgesSpec.pre6 enc Try.prog Try.f12 Rows.layoutEdgesRow.domain false) (Rows.layoutEdgesSpec.post enc Try.prog Try.f12 false true false false) := by
  refine returnsInHanded_of_change (C := Try.checked) own_knob started (by kernel_rfl) Try.func12
    (ChangeSpec.witness6 (enc := enc) (C := Try.checked) false ⟨#[], #[.int .i64 0, .slice none 0 0], []⟩ 8 (by kernel_rfl) (by kernel_rfl) (by kernel_rfl) (by kernel_rfl)) ?_
  intro W base args ds gs before hval hW _ _
  refine law_contract laid_out m_edges (s := Rows.layoutEdgesSpec) rfl (fun H ds hl => ?_) (T := 4) (by kernel_rfl) und4 (by kernel_rfl) (fun {_ _ _ vs ds ps base} hA hv => ?_) W base args ds gs before hval hW
  · match ds, hl with
    | [d0, d1], _ => rfl
  · have hA : DataW.TrodAll _ _ _ _ _ _ [3, 41] vs ds ps := hA
    obtain ⟨v0, vs0, d0, ds0, p0, q0, rfl, rfl, rfl, h0, r0⟩ := trodAll_cons hA
    obtain ⟨v1, vs1, d1, ds1, p1, q1, rfl, rfl, rfl, h1, r1⟩ := trodAll_cons r0
    obtain ⟨rfl, rfl, rfl⟩ := trodAll_nil r1
    obtain ⟨x0, g0, s0⟩ := rdA_int h0 (hv 0 3 v0 rfl rfl)
    obtain ⟨x1, g1, s1⟩ := rdN_triples h1 (hv 1 41 v1 rfl rfl)
    exact ⟨(x0, x1), ⟨g0, g1⟩, (saysL_cons s0 (saysL_cons s1 saysL_nil))⟩
end Go.Sx
namespace Go.Proofs.Ytmogappoadglgaa
open Go.Sx
set_option maxRecDepth 100000 in
theorem layoutEdges_facts : joinedFacts Try.pinned.checked.prog 12 Try.f12 Rows.layoutEdgesSpec Rows.layoutEdgesRow = true := by
  show joinedFacts Try.prog 12 Try.f12 Rows.layoutEdgesSpec Rows.layoutEdgesRow = true
  unfold joinedFacts
  repeat' (with_reducible refine and_t ?_ ?_)
  all_goals first | (with_reducible exact may_enter) | (with_reducible exact laid_out) | (rw [lifts_final]; kernel_rfl) | (rw [made_cut]; kernel_rfl) | (as_aux_lemma => kernel_rfl)
theorem layoutEdges_holds : Rows.LayoutEdgesSaid :=
  OpenClaim.holds_of_wide 12 Try.f12 rfl rfl rfl rfl rfl rfl rfl ⟨rfl, rfl, rfl, rfl, rfl⟩ rfl rfl rfl rfl rfl (by kernel_rfl) Try.func12 layoutEdges_facts
    (of_decide_eq_true (by kernel_rfl)) (by unfold Func.isWrapper; first | (rw [if_pos (by decide +kernel)]; kernel_rfl) | (rw [if_neg (by decide +kernel)]; exact ⟨rfl, rfl⟩))
    (fun os started H enc _ => Sx.layoutEdges_lifted os started H enc)
end Go.Proofs.Ytmogappoadglgaa
#print axioms Go.Proofs.Ytmogappoadglgaa.layoutEdges_holds
