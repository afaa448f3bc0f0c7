/- The law answers true for every input that can be read; the variables that its card lists are tied to the program. -/
import Derived.Test.YtcehbnfhlcfinaaGreatDoorTie
import Derived.Test.YtcehbnfhlcfinaaGreatDoorCards
import Derived.Lay
import Derived.MakeChecks
import Derived.SevenTiedAt
import Derived.Test.YtcehbnfhlcfinaaGreatDoorZH
import Derived.Test.YtcehbnfhlcfinaaGreatDoorZI
set_option linter.unusedVariables false
set_option linter.unusedSimpArgs false
set_option maxHeartbeats 8000000
namespace Go.Sx
open Go Go.Proofs Go.Proofs.YtcehbnfhlcfinaaGreatDoor
open Go.ChangeShapes Go.WideShapes
set_option maxRecDepth 100000 in
theorem masterFull_met (os : Os) (args : Array Value) : laidMetH Tryz.prog Rows.masterFullRow.laid ((World.laidAll Tryz.prog os Rows.masterFullRow.laid).forCall (fun _ _=>0) ⟨#[],args,[]⟩).memory:=by
 rw [MakeChecks.laidMetH_plain _ _ _ (by kernel_rfl)]; exact laidMet_laidAll _ (by kernel_rfl) (by kernel_rfl)
set_option maxRecDepth 100000 in
theorem masterFull_lifted (os : Os) (started : os.Started) (H : Type) (enc : TypeId × Value → H) :
  ReturnsInHanded {} Tryz.checked os 3 .any (fun w args=>(Rows.masterFullSpec.pre enc Tryz.prog Tryz.f3 [] false w args ∧ laidMetH Tryz.prog Rows.masterFullRow.laid w) ∧ sizedMet enc Tryz.prog Tryz.f3 (OpenSpec.ofChange Rows.masterFullSpec) false w args)
   (Rows.masterFullSpec.post enc Tryz.prog Tryz.f3 false true false false):=by
 refine returnsInHanded_of_change_and (C:=Tryz.checked) (X:=fun w _=>laidMetH Tryz.prog Rows.masterFullRow.laid w) (fun _ _ _ hh h=>h.of_heap hh) own_knob started (by kernel_rfl) Tryz.func3
  (ChangeSpec.witness_shaped (enc:=enc) (C:=Tryz.checked) (os:=os) (X:=fun w _=>laidMetH Tryz.prog Rows.masterFullRow.laid w) false (World.laidAll Tryz.prog os Rows.masterFullRow.laid) #[.int .i64 0,.int .i64 0,.slice none 0 0,.int .i64 0] 8 (World.laidAll_os _ _ _)
   (World.shaped_of_ZipB (by kernel_rfl) (by kernel_rfl)) (by kernel_rfl) (by kernel_rfl) (by kernel_rfl) (masterFull_met os _)) ?_
 intro W base args ds gs before hval hW _ hwt _ _
 refine law_contract laid_out m_masterFull (s:=Rows.masterFullSpec) rfl (fun H ds hl=>?_) (T:=4) (by kernel_rfl) und4 (by kernel_rfl) (fun {_ _ _ vs ds ps base} hA hv=>?_) W base args ds gs before hval hW
 ·match ds,hl with
  | [d0,d1,d2,d3],_=>rfl
 ·have hA : DataW.TrodAll _ _ _ _ _ _ [3,3,22,3] vs ds ps:=hA
  obtain ⟨v0,vs0,d0,ds0,p0,q0,rfl,rfl,rfl,h0,r0⟩:=trodAll_cons hA
  obtain ⟨v1,vs1,d1,ds1,p1,q1,rfl,rfl,rfl,h1,r1⟩:=trodAll_cons r0
  obtain ⟨v2,vs2,d2,ds2,p2,q2,rfl,rfl,rfl,h2,r2⟩:=trodAll_cons r1
  obtain ⟨v3,vs3,d3,ds3,p3,q3,rfl,rfl,rfl,h3,r3⟩:=trodAll_cons r2
  obtain ⟨rfl,rfl,rfl⟩:=trodAll_nil r3
  obtain ⟨x0,g0,s0⟩:=rdA_int h0 (hv 0 3 v0 rfl rfl)
  obtain ⟨x1,g1,s1⟩:=rdA_int h1 (hv 1 3 v1 rfl rfl)
  obtain ⟨x2,g2,s2⟩:=rdN_triples h2 (hv 2 22 v2 rfl rfl)
  obtain ⟨x3,g3,s3⟩:=rdA_int h3 (hv 3 3 v3 rfl rfl)
  exact ⟨(x0,x1,x2,x3),⟨⟨g0,g1,g3⟩,g2⟩,(saysL_cons s0 (saysL_cons s1 (saysL_cons s2 (saysL_cons s3 saysL_nil))))⟩
end Go.Sx
namespace Go.Proofs.YtcehbnfhlcfinaaGreatDoor
open Go.Sx
set_option maxRecDepth 100000 in
theorem masterFull_facts : joinedFacts Tryz.pinned.checked.prog 3 Tryz.f3 Rows.masterFullSpec Rows.masterFullRow = true:=by
 show joinedFacts Tryz.prog 3 Tryz.f3 Rows.masterFullSpec Rows.masterFullRow = true
 unfold joinedFacts
 repeat' (with_reducible refine and_t ?_ ?_)
 all_goals first | (with_reducible exact may_enter) | (with_reducible exact laid_out) | (rw [lifts_final]; kernel_rfl) | (rw [made_cut]; kernel_rfl) | (as_aux_lemma=>kernel_rfl)
theorem masterFull_row : Rows.MasterFullSaid:=
 OpenClaim.holds_of_wide 3 Tryz.f3 rfl rfl rfl rfl rfl rfl rfl ⟨rfl,rfl,rfl,rfl,rfl⟩ rfl rfl rfl rfl rfl (by kernel_rfl) Tryz.func3 masterFull_facts
  (of_decide_eq_true (by kernel_rfl)) (by unfold Func.isWrapper; first | (rw [if_pos (by decide +kernel)]; kernel_rfl) | (rw [if_neg (by decide +kernel)]; exact ⟨rfl,rfl⟩))
  (fun os started H enc _=>Sx.masterFull_lifted os started H enc)
theorem masterFull_holds : Rows.MasterFullCardSaid:=
 Claim7.holds_tied_plain_at .later [] [.data,.data,.data,.data,.sentinel,.sentinel,.pinned] true (true, "44b3f0686594d0349a8278f34d72c61a522bafb993217118127f3acf4132b8dc") true
  masterFull_row (fun _ h=>by cases h) (by kernel_rfl) (fun _ h=>by cases h) masterFull_row_tie rfl ⟨rfl,rfl⟩ (by kernel_rfl) rfl
  (fun f fn hf hfn=>by
   obtain rfl : f = 3:=Option.some.inj ((show Tryz.prog.funcNamed Rows.masterFullRow.func = some 3 by kernel_rfl).symm.trans hf) |>.symm
   obtain rfl : fn = Tryz.f3:=(Option.some.inj (Tryz.func3.symm.trans hfn)).symm
   exact ⟨by kernel_rfl,fun j t ht=>by
    rw [Tryz.params3] at ht
    have hm : t ∈ [3,3,22,3]:=by simpa using Array.mem_of_getElem? ht
    have hall : ([3,3,22,3].all fun u=>!Tryz.prog.wantsStandIn u) = true:=by kernel_rfl
    exact (show Tryz.prog.wantsStandIn t = false by simpa using List.all_eq_true.1 hall t hm)⟩)
  (by kernel_rfl)
end Go.Proofs.YtcehbnfhlcfinaaGreatDoor
#print axioms Go.Proofs.YtcehbnfhlcfinaaGreatDoor.masterFull_holds
