/-
  The card TraceShares: for every input that can be read the law returns true, and what came in reads as it did; the listed variables are tied to the program.
-/
import Derived.Test.YtmogappoadglgaaDoorTie
import Derived.Test.YtmogappoadglgaaDoorCards
import Derived.Lay
import Derived.MakeChecks
import Derived.SevenTiedAt
import Derived.Test.YtmogappoadglgaaDoorZBldt
import Derived.Test.YtmogappoadglgaaDoorZTra
import Derived.Test.YtmogappoadglgaaDoorZTraR
import Derived.Test.YtmogappoadglgaaDoorZSxFour
set_option linter.unusedVariables false
set_option linter.unusedSimpArgs false
namespace Go.Sx
open Go Go.Proofs Go.Proofs.YtmogappoadglgaaDoor
open Go.ChangeShapes Go.WideShapes
set_option maxRecDepth 100000 in
theorem traceShares_met (os : Os) (args : Array Value) : laidMetH Tryd.prog Rows.traceSharesRow.laid ((World.laidAll Tryd.prog os Rows.traceSharesRow.laid).forCall (fun _ _ => 0) ⟨#[], args, []⟩).memory := by
  rw [MakeChecks.laidMetH_plain _ _ _ (by kernel_rfl)]; exact laidMet_laidAll _ (by kernel_rfl) (by kernel_rfl)
set_option maxRecDepth 100000 in
theorem traceShares_lifted (os : Os) (started : os.Started) (H : Type) (enc : TypeId × Value → H) :
    ReturnsInHanded {} Tryd.checked os 8 .any (fun w args => (Rows.traceSharesSpec.pre enc Tryd.prog Tryd.f8 [] false w args ∧ laidMetH Tryd.prog Rows.traceSharesRow.laid w) ∧ sizedMet enc Tryd.prog Tryd.f8 (OpenSpec.ofChange Rows.traceSharesSpec) false w args)
      (Rows.traceSharesSpec.post enc Tryd.prog Tryd.f8 false true false false) := by
  refine returnsInHanded_of_change_and (C := Tryd.checked) (X := fun w _ => laidMetH Tryd.prog Rows.traceSharesRow.laid w) (fun _ _ _ hh h => h.of_heap hh) own_knob started (by kernel_rfl) Tryd.func8
    (ChangeSpec.witness_shaped (enc := enc) (C := Tryd.checked) (os := os) (X := fun w _ => laidMetH Tryd.prog Rows.traceSharesRow.laid w) false (World.laidAll Tryd.prog os Rows.traceSharesRow.laid) #[.slice none 0 0] 8 (World.laidAll_os _ _ _)
      (World.shaped_of_ZipB (by kernel_rfl) (by kernel_rfl)) (by kernel_rfl) (by kernel_rfl) (by kernel_rfl) (traceShares_met os _)) ?_
  intro W base args ds gs before hval hW _ hwt _ _
  refine law_contract_sized laid_out (m_sharesR m_awakeT) (s := Rows.traceSharesSpec) rfl (fun H ds hl => ?_) (T := 4) (by kernel_rfl) und4 (by kernel_rfl) (fun {_ _ _ vs ds ps base} hA hv hwt => ?_) W base args ds gs before hval hwt hW
  · match ds, hl with
    | [d0], _ => rfl
  · have hA : DataW.TrodAll _ _ _ _ _ _ [57] vs ds ps := hA
    obtain ⟨v0, vs0, d0, ds0, p0, q0, rfl, rfl, rfl, h0, r0⟩ := trodAll_cons hA
    obtain ⟨rfl, rfl, rfl⟩ := trodAll_nil r0
    obtain ⟨x0, g0, s0, e0⟩ := rdS_lists h0 (hv 0 57 v0 rfl rfl)
    exact ⟨x0, ⟨g0.1, lists_most hwt (j := 0) rfl rfl e0⟩, (saysL_cons s0 saysL_nil)⟩
end Go.Sx
namespace Go.Proofs.YtmogappoadglgaaDoor
open Go.Sx
set_option maxRecDepth 100000 in
theorem traceShares_facts : joinedFacts Tryd.pinned.checked.prog 8 Tryd.f8 Rows.traceSharesSpec Rows.traceSharesRow = true := by
  show joinedFacts Tryd.prog 8 Tryd.f8 Rows.traceSharesSpec Rows.traceSharesRow = true
  unfold joinedFacts
  repeat' (with_reducible refine and_t ?_ ?_)
  all_goals first | (with_reducible exact may_enter) | (with_reducible exact laid_out) | (rw [lifts_final]; kernel_rfl) | (rw [made_cut]; kernel_rfl) | (as_aux_lemma => kernel_rfl)
theorem traceShares_row : Rows.TraceSharesSaid :=
  OpenClaim.holds_of_wide 8 Tryd.f8 rfl rfl rfl rfl rfl rfl rfl ⟨rfl, rfl, rfl, rfl, rfl⟩ rfl rfl rfl rfl rfl (by kernel_rfl) Tryd.func8 traceShares_facts
    (of_decide_eq_true (by kernel_rfl)) (by unfold Func.isWrapper; first | (rw [if_pos (by decide +kernel)]; kernel_rfl) | (rw [if_neg (by decide +kernel)]; exact ⟨rfl, rfl⟩))
    (fun os started H enc _ => Sx.traceShares_lifted os started H enc)
theorem traceShares_holds : Rows.TraceSharesCardSaid :=
  Claim7.holds_tied_plain_at .later [] [.data, .data, .data] true (true, "60e8e0df8ad82ed1416a514eabf8198ae09a73bd48c1c491087fc1b308275693") false
    traceShares_row (fun _ h => by cases h) (by kernel_rfl) (fun _ h => by cases h) traceShares_row_tie rfl ⟨rfl, rfl⟩ (by kernel_rfl) rfl
    (fun f fn hf hfn => by
      obtain rfl : f = 8 := Option.some.inj ((show Tryd.prog.funcNamed Rows.traceSharesRow.func = some 8 by kernel_rfl).symm.trans hf) |>.symm
      obtain rfl : fn = Tryd.f8 := (Option.some.inj (Tryd.func8.symm.trans hfn)).symm
      exact ⟨by kernel_rfl, fun j t ht => by
        rw [Tryd.params8] at ht
        have hm : t ∈ [57] := by simpa using Array.mem_of_getElem? ht
        have hall : ([57].all fun u => !Tryd.prog.wantsStandIn u) = true := by kernel_rfl
        exact (show Tryd.prog.wantsStandIn t = false by simpa using List.all_eq_true.1 hall t hm)⟩)
    (by kernel_rfl)
end Go.Proofs.YtmogappoadglgaaDoor
#print axioms Go.Proofs.YtmogappoadglgaaDoor.traceShares_holds
