/-
  The card TopicTells, second form: for every input that can be read and is of bulk at most 1048576 the law returns true, and what came in reads as it did; the listed variables are tied to the program.
-/
import Derived.Test.YtmogappoadglgaaDoorTie
import Derived.Test.YtmogappoadglgaaDoorCards
import Derived.Lay
import Derived.MakeChecks
import Derived.SevenTiedAt
import Derived.Deep.DeepHandedRow
import Derived.Test.YtmogappoadglgaaDoorZTopO
import Derived.Test.YtmogappoadglgaaDoorZTopS
import Derived.Test.YtmogappoadglgaaDoorZSxFour
set_option linter.unusedVariables false
set_option linter.unusedSimpArgs false
namespace Go.Sx
open Go Go.Proofs Go.Proofs.YtmogappoadglgaaDoor
open Go.ChangeShapes Go.WideShapes
set_option maxRecDepth 100000 in
theorem topicTells_met (os : Os) (args : Array Value) : laidMetH Tryd.prog Rows.topicTellsUptoRow.laid ((World.laidAll Tryd.prog os Rows.topicTellsUptoRow.laid).forCall (fun _ _ => 0) ⟨#[], args, []⟩).memory := by
  rw [MakeChecks.laidMetH_plain _ _ _ (by kernel_rfl)]; exact laidMet_laidAll _ (by kernel_rfl) (by kernel_rfl)
set_option maxRecDepth 100000 in
theorem topicTells_reads (os : Os) {H : Type} (enc : TypeId × Value → H) : ∃ places, DataW.whole enc Tryd.prog ((World.laidAll Tryd.prog os Rows.topicTellsUptoRow.laid).forCall (fun _ _ => 0) ⟨#[], #[.agg #[.string ⟨#[]⟩, .string ⟨#[]⟩, .string ⟨#[]⟩], .string ⟨#[]⟩, .string ⟨#[]⟩, .string ⟨#[]⟩, .int .i64 0, .int .i64 0, .string ⟨#[]⟩], []⟩).memory Tryd.f12.params.toList Rows.topicTellsSpec.vars false (#[.agg #[.string ⟨#[]⟩, .string ⟨#[]⟩, .string ⟨#[]⟩], .string ⟨#[]⟩, .string ⟨#[]⟩, .string ⟨#[]⟩, .int .i64 0, .int .i64 0, .string ⟨#[]⟩] : Array Value).toList 8 = some ([.agg [.lit (.string []), .lit (.string []), .lit (.string [])], .lit (.string []), .lit (.string []), .lit (.string []), .lit (.int .i64 0), .lit (.int .i64 0), .lit (.string [])], [], places) :=
  ⟨[], by kernel_rfl⟩
set_option maxRecDepth 100000 in
theorem topicTells_lifted (os : Os) (started : os.Started) (H : Type) (enc : TypeId × Value → H) (F : Stop.Interp) :
    ReturnsInHanded {} Tryd.checked os 12 .any ((Rows.OpenSpec.upto Rows.topicTellsSpec).preRow enc Tryd.prog Tryd.f12 Rows.topicTellsUptoRow.domain false Rows.topicTellsUptoRow.laid)
      (((Rows.OpenSpec.upto Rows.topicTellsSpec).at F).post enc Tryd.prog Tryd.f12 false true false false) := by
  have hobt := topicTells_reads os enc
  obtain ⟨places, hx⟩ := hobt
  refine returnsInHanded_of_row (C := Tryd.checked) (s := Rows.OpenSpec.upto Rows.topicTellsSpec) own_knob started (by kernel_rfl) Tryd.func12
    (witness_told (enc := enc) (C := Tryd.checked) (os := os) (World.laidAll Tryd.prog os Rows.topicTellsUptoRow.laid) #[.agg #[.string ⟨#[]⟩, .string ⟨#[]⟩, .string ⟨#[]⟩], .string ⟨#[]⟩, .string ⟨#[]⟩, .string ⟨#[]⟩, .int .i64 0, .int .i64 0, .string ⟨#[]⟩] (World.laidAll_os _ _ _) (World.shaped_of_ZipB (by kernel_rfl) (by kernel_rfl)) (by kernel_rfl)
      (OpenSpec.preRow_of_cond 8 hx (by kernel_rfl) (fun k hk => by cases hk; kernel_rfl) (by kernel_rfl) (topicTells_met os _))) ?_
  intro W base args ds gs before hval hW _ hcond _ _ _ _
  have hk := hcond _ rfl
  have hgs : gs = [] := by
    have hW1 := hW
    obtain ⟨_, q, _, hV, _, _, _⟩ := hW1
    cases gs with
    | nil => rfl
    | cons d gs => exact hV.elim
  subst hgs
  have hkb : Rows.uptoBulkAll ds ≤ 1048576 := by
    rw [List.append_nil] at hk
    exact of_decide_eq_true hk
  clear hk hcond
  have hW0 := hW
  obtain ⟨p, q, hA, _, _, _, _⟩ := hW0
  refine law_contract_at laid_out m_topicTells (s := Rows.topicTellsSpec) rfl (fun H ds hl => ?_) (T := 4) (by kernel_rfl) und4 (by kernel_rfl) W args ds [] before ?_ hW
  · match ds, hl with
    | [d0, d1, d2, d3, d4, d5, d6], _ => rfl
  · have hA : DataW.TrodAll _ _ _ _ _ _ [74, 9, 9, 9, 3, 3, 9] args.toList ds p := hA
    have hv : ∀ (j : Nat) t v, Tryd.f12.params[j]? = some t → args.toList[j]? = some v → Value.okWide Tryd.prog W .any base t v := fun j t v ht hv => hval j t v ht (by simpa using hv)
    generalize args.toList = vs at *
    clear hW hval
    obtain ⟨v0, vs0, d0, ds0, p0, q0, rfl, rfl, rfl, h0, r0⟩ := trodAll_cons hA
    obtain ⟨v1, vs1, d1, ds1, p1, q1, rfl, rfl, rfl, h1, r1⟩ := trodAll_cons r0
    obtain ⟨v2, vs2, d2, ds2, p2, q2, rfl, rfl, rfl, h2, r2⟩ := trodAll_cons r1
    obtain ⟨v3, vs3, d3, ds3, p3, q3, rfl, rfl, rfl, h3, r3⟩ := trodAll_cons r2
    obtain ⟨v4, vs4, d4, ds4, p4, q4, rfl, rfl, rfl, h4, r4⟩ := trodAll_cons r3
    obtain ⟨v5, vs5, d5, ds5, p5, q5, rfl, rfl, rfl, h5, r5⟩ := trodAll_cons r4
    obtain ⟨v6, vs6, d6, ds6, p6, q6, rfl, rfl, rfl, h6, r6⟩ := trodAll_cons r5
    obtain ⟨rfl, rfl, rfl⟩ := trodAll_nil r6
    obtain ⟨x0, g0, s0⟩ := rdB_topic h0 (hv 0 74 v0 rfl rfl)
    obtain ⟨x1, g1, s1, u1⟩ := rdU_str h1 (hv 1 9 v1 rfl rfl)
    obtain ⟨x2, g2, s2, u2⟩ := rdU_str h2 (hv 2 9 v2 rfl rfl)
    obtain ⟨x3, g3, s3⟩ := rdA_str h3 (hv 3 9 v3 rfl rfl)
    obtain ⟨x4, g4, s4⟩ := rdA_int h4 (hv 4 3 v4 rfl rfl)
    obtain ⟨x5, g5, s5⟩ := rdA_int h5 (hv 5 3 v5 rfl rfl)
    obtain ⟨x6, g6, s6, u6⟩ := rdU_str h6 (hv 6 9 v6 rfl rfl)
    subst u1
    subst u2
    subst u6
    simp only [Rows.uptoBulkAll, Rows.uptoBulk] at hkb
    exact ⟨(x0, x1, x2, x3, x4, x5, x6), ⟨g0, (by show x1.length ≤ 2000000; omega), (by show x2.length ≤ 2000000; omega), g4, g5, (by show x6.length ≤ 2000000; omega)⟩, (saysL_cons s0 (saysL_cons s1 (saysL_cons s2 (saysL_cons s3 (saysL_cons s4 (saysL_cons s5 (saysL_cons s6 saysL_nil)))))))⟩
end Go.Sx
namespace Go.Proofs.YtmogappoadglgaaDoor
open Go.Sx
set_option maxRecDepth 100000 in
theorem topicTells_facts : joinedFacts Tryd.pinned.checked.prog 12 Tryd.f12 Rows.topicTellsSpec Rows.topicTellsUptoRow = true := by
  show joinedFacts Tryd.prog 12 Tryd.f12 Rows.topicTellsSpec Rows.topicTellsUptoRow = true
  unfold joinedFacts
  repeat' (with_reducible refine and_t ?_ ?_)
  all_goals first | (with_reducible exact may_enter) | (with_reducible exact laid_out) | (rw [lifts_final]; kernel_rfl) | (rw [made_cut]; kernel_rfl) | (as_aux_lemma => kernel_rfl)
theorem topicTells_row : Rows.TopicTellsUptoSaid :=
  OpenClaim.holds_of_cond 12 Tryd.f12 rfl rfl rfl rfl rfl rfl rfl ⟨rfl, rfl, rfl, rfl, rfl⟩ rfl rfl rfl rfl rfl (by kernel_rfl) Tryd.func12 topicTells_facts
    (of_decide_eq_true (by kernel_rfl)) (by unfold Func.isWrapper; first | (rw [if_pos (by decide +kernel)]; kernel_rfl) | (rw [if_neg (by decide +kernel)]; exact ⟨rfl, rfl⟩))
    (fun os started H enc _ F => by rw [OpenClaim.pre_eq_preRow]; exact Sx.topicTells_lifted os started H enc F)
theorem topicTells_holds : Rows.TopicTellsUptoCardSaid :=
  Claim7.holds_tied_plain_at .later [] [.data, .pinned] true (true, "60e8e0df8ad82ed1416a514eabf8198ae09a73bd48c1c491087fc1b308275693") false
    topicTells_row (fun _ h => by cases h) (by kernel_rfl) (fun _ h => by cases h) topicTellsUpto_row_tie rfl ⟨rfl, rfl⟩ (by kernel_rfl) rfl
    (fun f fn hf hfn => by
      obtain rfl : f = 12 := Option.some.inj ((show Tryd.prog.funcNamed Rows.topicTellsUptoRow.func = some 12 by kernel_rfl).symm.trans hf) |>.symm
      obtain rfl : fn = Tryd.f12 := (Option.some.inj (Tryd.func12.symm.trans hfn)).symm
      exact ⟨by kernel_rfl, fun j t ht => by
        rw [Tryd.params12] at ht
        have hm : t ∈ [74, 9, 9, 9, 3, 3, 9] := by simpa using Array.mem_of_getElem? ht
        have hall : ([74, 9, 9, 9, 3, 3, 9].all fun u => !Tryd.prog.wantsStandIn u) = true := by kernel_rfl
        exact (show Tryd.prog.wantsStandIn t = false by simpa using List.all_eq_true.1 hall t hm)⟩)
    (by kernel_rfl)
end Go.Proofs.YtmogappoadglgaaDoor
#print axioms Go.Proofs.YtmogappoadglgaaDoor.topicTells_holds
