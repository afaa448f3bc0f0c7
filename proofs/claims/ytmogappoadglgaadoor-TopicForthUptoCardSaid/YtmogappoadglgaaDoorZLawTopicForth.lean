/-
  The card TopicForth, second form: for every input that can be read and is of bulk at most 1048576 the law returns true, and what came in reads as it did; the listed variables are tied to the program.
-/
import Derived.Test.YtmogappoadglgaaDoorTie
import Derived.Test.YtmogappoadglgaaDoorCards
import Derived.Lay
import Derived.MakeChecks
import Derived.SevenTiedAt
import Derived.Deep.DeepHandedRow
import Derived.Test.YtmogappoadglgaaDoorZTopL
import Derived.Test.YtmogappoadglgaaDoorZTopS
import Derived.Test.YtmogappoadglgaaDoorZSxFour
set_option linter.unusedVariables false
set_option linter.unusedSimpArgs false
namespace Go.Sx
open Go Go.Proofs Go.Proofs.YtmogappoadglgaaDoor
open Go.ChangeShapes Go.WideShapes
set_option maxRecDepth 100000 in
theorem topicForth_met (os : Os) (args : Array Value) : laidMetH Tryd.prog Rows.topicForthUptoRow.laid ((World.laidAll Tryd.prog os Rows.topicForthUptoRow.laid).forCall (fun _ _ => 0) ⟨#[], args, []⟩).memory := by
  rw [MakeChecks.laidMetH_plain _ _ _ (by kernel_rfl)]; exact laidMet_laidAll _ (by kernel_rfl) (by kernel_rfl)
set_option maxRecDepth 100000 in
theorem topicForth_reads (os : Os) {H : Type} (enc : TypeId × Value → H) : ∃ places, DataW.whole enc Tryd.prog ((World.laidAll Tryd.prog os Rows.topicForthUptoRow.laid).forCall (fun _ _ => 0) ⟨#[], #[.string ⟨#[]⟩, .string ⟨#[]⟩, .int .i64 0, .int .i64 0, .string ⟨#[]⟩], []⟩).memory Tryd.f14.params.toList Rows.topicForthSpec.vars false (#[.string ⟨#[]⟩, .string ⟨#[]⟩, .int .i64 0, .int .i64 0, .string ⟨#[]⟩] : Array Value).toList 8 = some ([.lit (.string []), .lit (.string []), .lit (.int .i64 0), .lit (.int .i64 0), .lit (.string [])], [], places) :=
  ⟨[], by kernel_rfl⟩
set_option maxRecDepth 100000 in
theorem topicForth_lifted (os : Os) (started : os.Started) (H : Type) (enc : TypeId × Value → H) (F : Stop.Interp) :
    ReturnsInHanded {} Tryd.checked os 14 .any ((Rows.OpenSpec.upto Rows.topicForthSpec).preRow enc Tryd.prog Tryd.f14 Rows.topicForthUptoRow.domain false Rows.topicForthUptoRow.laid)
      (((Rows.OpenSpec.upto Rows.topicForthSpec).at F).post enc Tryd.prog Tryd.f14 false true false false) := by
  have hobt := topicForth_reads os enc
  obtain ⟨places, hx⟩ := hobt
  refine returnsInHanded_of_row (C := Tryd.checked) (s := Rows.OpenSpec.upto Rows.topicForthSpec) own_knob started (by kernel_rfl) Tryd.func14
    (witness_told (enc := enc) (C := Tryd.checked) (os := os) (World.laidAll Tryd.prog os Rows.topicForthUptoRow.laid) #[.string ⟨#[]⟩, .string ⟨#[]⟩, .int .i64 0, .int .i64 0, .string ⟨#[]⟩] (World.laidAll_os _ _ _) (World.shaped_of_ZipB (by kernel_rfl) (by kernel_rfl)) (by kernel_rfl)
      (OpenSpec.preRow_of_cond 8 hx (by kernel_rfl) (fun k hk => by cases hk; kernel_rfl) (by kernel_rfl) (topicForth_met os _))) ?_
  intro W base args ds gs before hval hW _ hcond _ _ _ _
  have hk := hcond _ rfl
  have hgs : gs = [] := by
    have hW1 := hW
    obtain ⟨_, q, _, hV, _, _, _⟩ := hW1
    cases gs with
    | nil => rfl
    | cons d gs => exact hV.elim
  subst hgs
  have hkb : Rows.uptoBulkAll ds ≤ 1048576 := by
    rw [List.append_nil] at hk
    exact of_decide_eq_true hk
  clear hk hcond
  have hW0 := hW
  obtain ⟨p, q, hA, _, _, _, _⟩ := hW0
  refine law_contract_at laid_out m_topicForth (s := Rows.topicForthSpec) rfl (fun H ds hl => ?_) (T := 4) (by kernel_rfl) und4 (by kernel_rfl) W args ds [] before ?_ hW
  · match ds, hl with
    | [d0, d1, d2, d3, d4], _ => rfl
  · have hA : DataW.TrodAll _ _ _ _ _ _ [9, 9, 3, 3, 9] args.toList ds p := hA
    have hv : ∀ (j : Nat) t v, Tryd.f14.params[j]? = some t → args.toList[j]? = some v → Value.okWide Tryd.prog W .any base t v := fun j t v ht hv => hval j t v ht (by simpa using hv)
    generalize args.toList = vs at *
    clear hW hval
    obtain ⟨v0, vs0, d0, ds0, p0, q0, rfl, rfl, rfl, h0, r0⟩ := trodAll_cons hA
    obtain ⟨v1, vs1, d1, ds1, p1, q1, rfl, rfl, rfl, h1, r1⟩ := trodAll_cons r0
    obtain ⟨v2, vs2, d2, ds2, p2, q2, rfl, rfl, rfl, h2, r2⟩ := trodAll_cons r1
    obtain ⟨v3, vs3, d3, ds3, p3, q3, rfl, rfl, rfl, h3, r3⟩ := trodAll_cons r2
    obtain ⟨v4, vs4, d4, ds4, p4, q4, rfl, rfl, rfl, h4, r4⟩ := trodAll_cons r3
    obtain ⟨rfl, rfl, rfl⟩ := trodAll_nil r4
    obtain ⟨x0, g0, s0, u0⟩ := rdU_str h0 (hv 0 9 v0 rfl rfl)
    obtain ⟨x1, g1, s1⟩ := rdA_str h1 (hv 1 9 v1 rfl rfl)
    obtain ⟨x2, g2, s2⟩ := rdA_int h2 (hv 2 3 v2 rfl rfl)
    obtain ⟨x3, g3, s3⟩ := rdA_int h3 (hv 3 3 v3 rfl rfl)
    obtain ⟨x4, g4, s4, u4⟩ := rdU_str h4 (hv 4 9 v4 rfl rfl)
    subst u0
    subst u4
    simp only [Rows.uptoBulkAll, Rows.uptoBulk] at hkb
    exact ⟨(x0, x1, x2, x3, x4), ⟨(by show x0.length ≤ 2000000; omega), g2, g3, (by show x4.length ≤ 2000000; omega)⟩, (saysL_cons s0 (saysL_cons s1 (saysL_cons s2 (saysL_cons s3 (saysL_cons s4 saysL_nil)))))⟩
end Go.Sx
namespace Go.Proofs.YtmogappoadglgaaDoor
open Go.Sx
set_option maxRecDepth 100000 in
theorem topicForth_facts : joinedFacts Tryd.pinned.checked.prog 14 Tryd.f14 Rows.topicForthSpec Rows.topicForthUptoRow = true := by
  show joinedFacts Tryd.prog 14 Tryd.f14 Rows.topicForthSpec Rows.topicForthUptoRow = true
  unfold joinedFacts
  repeat' (with_reducible refine and_t ?_ ?_)
  all_goals first | (with_reducible exact may_enter) | (with_reducible exact laid_out) | (rw [lifts_final]; kernel_rfl) | (rw [made_cut]; kernel_rfl) | (as_aux_lemma => kernel_rfl)
theorem topicForth_row : Rows.TopicForthUptoSaid :=
  OpenClaim.holds_of_cond 14 Tryd.f14 rfl rfl rfl rfl rfl rfl rfl ⟨rfl, rfl, rfl, rfl, rfl⟩ rfl rfl rfl rfl rfl (by kernel_rfl) Tryd.func14 topicForth_facts
    (of_decide_eq_true (by kernel_rfl)) (by unfold Func.isWrapper; first | (rw [if_pos (by decide +kernel)]; kernel_rfl) | (rw [if_neg (by decide +kernel)]; exact ⟨rfl, rfl⟩))
    (fun os started H enc _ F => by rw [OpenClaim.pre_eq_preRow]; exact Sx.topicForth_lifted os started H enc F)
theorem topicForth_holds : Rows.TopicForthUptoCardSaid :=
  Claim7.holds_tied_plain_at .later [] [.data, .pinned] true (true, "60e8e0df8ad82ed1416a514eabf8198ae09a73bd48c1c491087fc1b308275693") false
    topicForth_row (fun _ h => by cases h) (by kernel_rfl) (fun _ h => by cases h) topicForthUpto_row_tie rfl ⟨rfl, rfl⟩ (by kernel_rfl) rfl
    (fun f fn hf hfn => by
      obtain rfl : f = 14 := Option.some.inj ((show Tryd.prog.funcNamed Rows.topicForthUptoRow.func = some 14 by kernel_rfl).symm.trans hf) |>.symm
      obtain rfl : fn = Tryd.f14 := (Option.some.inj (Tryd.func14.symm.trans hfn)).symm
      exact ⟨by kernel_rfl, fun j t ht => by
        rw [Tryd.params14] at ht
        have hm : t ∈ [9, 9, 3, 3, 9] := by simpa using Array.mem_of_getElem? ht
        have hall : ([9, 9, 3, 3, 9].all fun u => !Tryd.prog.wantsStandIn u) = true := by kernel_rfl
        exact (show Tryd.prog.wantsStandIn t = false by simpa using List.all_eq_true.1 hall t hm)⟩)
    (by kernel_rfl)
end Go.Proofs.YtmogappoadglgaaDoor
#print axioms Go.Proofs.YtmogappoadglgaaDoor.topicForth_holds
