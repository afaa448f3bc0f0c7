/-
  The statement TablePlays: for every input that can be read the law returns true, and what came in reads as it did.
-/
import Derived.Test.YtmogappoadglgaaTabM
import Derived.Test.YtmogappoadglgaaTabR
import Derived.Test.YtmogappoadglgaaSxY
namespace Go.Sx
open Go Go.Proofs Go.Proofs.Ytmogappoadglgaa
open Go.ChangeShapes Go.WideShapes
set_option maxRecDepth 100000 in
theorem tablePlays_lifted (os : Os) (started : os.Started) (H : Type) (enc : TypeId × Value → H) :
    ReturnsInHanded {} Try.checked os 21 .any (Rows.tablePlaysSpec.pre6 enc Try.prog Try.f21 Rows.tablePlaysRow.domain false) (Rows.tablePlaysSpec.post enc Try.prog Try.f21 false true false false) := by
  refine returnsInHanded_of_change_sized (C := Try.checked) own_knob started (by kernel_rfl) Try.func21
    (ChangeSpec.witness6 (enc := enc) (C := Try.checked) false ⟨#[], #[.slice none 0 0, .int .i64 0, .slice none 0 0], []⟩ 8 (by kernel_rfl) (by kernel_rfl) (by kernel_rfl) (by kernel_rfl)) ?_
  intro W base args ds gs before hval hW _ hwt _
  refine law_contract_sized laid_out m_playsT (s := Rows.tablePlaysSpec) rfl (fun H ds hl => ?_) (T := 4) (by kernel_rfl) und4 (by kernel_rfl) (fun {_ _ _ vs ds ps base} hA hv hwt => ?_) W base args ds gs before hval hwt hW
  · match ds, hl with
    | [d0, d1, d2], _ => rfl
  · have hA : DataW.TrodAll _ _ _ _ _ _ [42, 3, 70] vs ds ps := hA
    obtain ⟨v0, vs0, d0, ds0, p0, q0, rfl, rfl, rfl, h0, r0⟩ := trodAll_cons hA
    obtain ⟨v1, vs1, d1, ds1, p1, q1, rfl, rfl, rfl, h1, r1⟩ := trodAll_cons r0
    obtain ⟨v2, vs2, d2, ds2, p2, q2, rfl, rfl, rfl, h2, r2⟩ := trodAll_cons r1
    obtain ⟨rfl, rfl, rfl⟩ := trodAll_nil r2
    obtain ⟨x0, g0, s0, e0⟩ := rdS_ints h0 (hv 0 42 v0 rfl rfl)
    obtain ⟨x1, g1, s1⟩ := rdA_int h1 (hv 1 3 v1 rfl rfl)
    obtain ⟨x2, g2, s2⟩ := rdN_ops h2 (hv 2 70 v2 rfl rfl)
    exact ⟨(x0, x1, x2), ⟨⟨ints_most hwt (j := 0) rfl rfl e0, g0.2⟩, g1, g2⟩, (saysL_cons s0 (saysL_cons s1 (saysL_cons s2 saysL_nil)))⟩
end Go.Sx
namespace Go.Proofs.Ytmogappoadglgaa
open Go.Sx
set_option maxRecDepth 100000 in
theorem tablePlays_facts : joinedFacts Try.pinned.checked.prog 21 Try.f21 Rows.tablePlaysSpec Rows.tablePlaysRow = true := by
  show joinedFacts Try.prog 21 Try.f21 Rows.tablePlaysSpec Rows.tablePlaysRow = true
  unfold joinedFacts
  repeat' (with_reducible refine and_t ?_ ?_)
  all_goals first | (with_reducible exact may_enter) | (with_reducible exact laid_out) | (rw [lifts_final]; kernel_rfl) | (rw [made_cut]; kernel_rfl) | (as_aux_lemma => kernel_rfl)
theorem tablePlays_holds : Rows.TablePlaysSaid :=
  OpenClaim.holds_of_wide 21 Try.f21 rfl rfl rfl rfl rfl rfl rfl ⟨rfl, rfl, rfl, rfl, rfl⟩ rfl rfl rfl rfl rfl (by kernel_rfl) Try.func21 tablePlays_facts
    (of_decide_eq_true (by kernel_rfl)) (by unfold Func.isWrapper; first | (rw [if_pos (by decide +kernel)]; kernel_rfl) | (rw [if_neg (by decide +kernel)]; exact ⟨rfl, rfl⟩))
    (fun os started H enc _ => Sx.tablePlays_lifted os started H enc)
end Go.Proofs.Ytmogappoadglgaa
#print axioms Go.Proofs.Ytmogappoadglgaa.tablePlays_holds
