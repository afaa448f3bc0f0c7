/-
  The card TopicParts: for every input that can be read the law returns true, and what came in reads as it did; the listed variables are tied to the program.
-/
import Derived.Test.YtmogappoadglgaaDoorTie
import Derived.Test.YtmogappoadglgaaDoorCards
import Derived.Lay
import Derived.MakeChecks
import Derived.SevenTiedAt
import Derived.Test.YtmogappoadglgaaDoorZTopK
import Derived.Test.YtmogappoadglgaaDoorZTopR
import Derived.Test.YtmogappoadglgaaDoorZSxFour
set_option linter.unusedVariables false
set_option linter.unusedSimpArgs false
namespace Go.Sx
open Go Go.Proofs Go.Proofs.YtmogappoadglgaaDoor
open Go.ChangeShapes Go.WideShapes
set_option maxRecDepth 100000 in
theorem topicParts_met (os : Os) (args : Array Value) : laidMetH Tryd.prog Rows.topicPartsRow.laid ((World.laidAll Tryd.prog os Rows.topicPartsRow.laid).forCall (fun _ _ => 0) ⟨#[], args, []⟩).memory := by
  rw [MakeChecks.laidMetH_plain _ _ _ (by kernel_rfl)]; exact laidMet_laidAll _ (by kernel_rfl) (by kernel_rfl)
set_option maxRecDepth 100000 in
theorem topicParts_lifted (os : Os) (started : os.Started) (H : Type) (enc : TypeId × Value → H) :
    ReturnsInHanded {} Tryd.checked os 18 .any (fun w args => (Rows.topicPartsSpec.pre enc Tryd.prog Tryd.f18 [] false w args ∧ laidMetH Tryd.prog Rows.topicPartsRow.laid w) ∧ sizedMet enc Tryd.prog Tryd.f18 (OpenSpec.ofChange Rows.topicPartsSpec) false w args)
      (Rows.topicPartsSpec.post enc Tryd.prog Tryd.f18 false true false false) := by
  refine returnsInHanded_of_change_and (C := Tryd.checked) (X := fun w _ => laidMetH Tryd.prog Rows.topicPartsRow.laid w) (fun _ _ _ hh h => h.of_heap hh) own_knob started (by kernel_rfl) Tryd.func18
    (ChangeSpec.witness_shaped (enc := enc) (C := Tryd.checked) (os := os) (X := fun w _ => laidMetH Tryd.prog Rows.topicPartsRow.laid w) false (World.laidAll Tryd.prog os Rows.topicPartsRow.laid) #[.string ⟨#[]⟩, .string ⟨#[]⟩, .int .i64 0, .int .i64 0] 8 (World.laidAll_os _ _ _)
      (World.shaped_of_ZipB (by kernel_rfl) (by kernel_rfl)) (by kernel_rfl) (by kernel_rfl) (by kernel_rfl) (topicParts_met os _)) ?_
  intro W base args ds gs before hval hW _ hwt _ _
  refine law_contract laid_out m_topicParts (s := Rows.topicPartsSpec) rfl (fun H ds hl => ?_) (T := 4) (by kernel_rfl) und4 (by kernel_rfl) (fun {_ _ _ vs ds ps base} hA hv => ?_) W base args ds gs before hval hW
  · match ds, hl with
    | [d0, d1, d2, d3], _ => rfl
  · have hA : DataW.TrodAll _ _ _ _ _ _ [9, 9, 3, 3] vs ds ps := hA
    obtain ⟨v0, vs0, d0, ds0, p0, q0, rfl, rfl, rfl, h0, r0⟩ := trodAll_cons hA
    obtain ⟨v1, vs1, d1, ds1, p1, q1, rfl, rfl, rfl, h1, r1⟩ := trodAll_cons r0
    obtain ⟨v2, vs2, d2, ds2, p2, q2, rfl, rfl, rfl, h2, r2⟩ := trodAll_cons r1
    obtain ⟨v3, vs3, d3, ds3, p3, q3, rfl, rfl, rfl, h3, r3⟩ := trodAll_cons r2
    obtain ⟨rfl, rfl, rfl⟩ := trodAll_nil r3
    obtain ⟨x0, g0, s0⟩ := rdA_str h0 (hv 0 9 v0 rfl rfl)
    obtain ⟨x1, g1, s1⟩ := rdA_str h1 (hv 1 9 v1 rfl rfl)
    obtain ⟨x2, g2, s2⟩ := rdA_int h2 (hv 2 3 v2 rfl rfl)
    obtain ⟨x3, g3, s3⟩ := rdA_int h3 (hv 3 3 v3 rfl rfl)
    exact ⟨(x0, x1, x2, x3), ⟨g2, g3⟩, (saysL_cons s0 (saysL_cons s1 (saysL_cons s2 (saysL_cons s3 saysL_nil))))⟩
end Go.Sx
namespace Go.Proofs.YtmogappoadglgaaDoor
open Go.Sx
set_option maxRecDepth 100000 in
theorem topicParts_facts : joinedFacts Tryd.pinned.checked.prog 18 Tryd.f18 Rows.topicPartsSpec Rows.topicPartsRow = true := by
  show joinedFacts Tryd.prog 18 Tryd.f18 Rows.topicPartsSpec Rows.topicPartsRow = true
  unfold joinedFacts
  repeat' (with_reducible refine and_t ?_ ?_)
  all_goals first | (with_reducible exact may_enter) | (with_reducible exact laid_out) | (rw [lifts_final]; kernel_rfl) | (rw [made_cut]; kernel_rfl) | (as_aux_lemma => kernel_rfl)
theorem topicParts_row : Rows.TopicPartsSaid :=
  OpenClaim.holds_of_wide 18 Tryd.f18 rfl rfl rfl rfl rfl rfl rfl ⟨rfl, rfl, rfl, rfl, rfl⟩ rfl rfl rfl rfl rfl (by kernel_rfl) Tryd.func18 topicParts_facts
    (of_decide_eq_true (by kernel_rfl)) (by unfold Func.isWrapper; first | (rw [if_pos (by decide +kernel)]; kernel_rfl) | (rw [if_neg (by decide +kernel)]; exact ⟨rfl, rfl⟩))
    (fun os started H enc _ => Sx.topicParts_lifted os started H enc)
theorem topicParts_holds : Rows.TopicPartsCardSaid :=
  Claim7.holds_tied_plain_at .later [] [.data, .pinned] true (true, "60e8e0df8ad82ed1416a514eabf8198ae09a73bd48c1c491087fc1b308275693") false
    topicParts_row (fun _ h => by cases h) (by kernel_rfl) (fun _ h => by cases h) topicParts_row_tie rfl ⟨rfl, rfl⟩ (by kernel_rfl) rfl
    (fun f fn hf hfn => by
      obtain rfl : f = 18 := Option.some.inj ((show Tryd.prog.funcNamed Rows.topicPartsRow.func = some 18 by kernel_rfl).symm.trans hf) |>.symm
      obtain rfl : fn = Tryd.f18 := (Option.some.inj (Tryd.func18.symm.trans hfn)).symm
      exact ⟨by kernel_rfl, fun j t ht => by
        rw [Tryd.params18] at ht
        have hm : t ∈ [9, 9, 3, 3] := by simpa using Array.mem_of_getElem? ht
        have hall : ([9, 9, 3, 3].all fun u => !Tryd.prog.wantsStandIn u) = true := by kernel_rfl
        exact (show Tryd.prog.wantsStandIn t = false by simpa using List.all_eq_true.1 hall t hm)⟩)
    (by kernel_rfl)
end Go.Proofs.YtmogappoadglgaaDoor
#print axioms Go.Proofs.YtmogappoadglgaaDoor.topicParts_holds
