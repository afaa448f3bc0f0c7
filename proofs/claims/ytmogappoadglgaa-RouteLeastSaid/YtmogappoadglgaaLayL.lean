/-
  Layer 11, part L: awake.
-/
import Derived.Test.YtmogappoadglgaaLayK
namespace Go.Sx
open Go Go.Proofs Go.Proofs.Ytmogappoadglgaa
def E3 : List Edge := [(0, 1, 1), (1, 2, 1), (2, 0, 1)]
def spAwakeL : Spec AF where
  γ := Unit
  δ := Unit
  args := fun _ => []
  own := fun _ => []
  pre := fun _ => True
  nnew := 0
  res := fun _ _ => vB true
  own' := fun _ _ => []
  post := fun _ _ => True
theorem e3Good : GoodL E3 := ⟨by decide, by simp [E3, InI]⟩
theorem e3Right : RightL 3 E3 := ⟨by decide, by decide, by decide, by simp [E3, EdgeOk], by decide⟩
theorem e3Strong : StrongL 3 E3 := ⟨e3Right, fun v hv => by
  have hf0 : ReachI E3 [] false 0 0 := .refl
  have hf1 : ReachI E3 [] false 0 1 := ReachI.step (e := (0, 1, 1)) hf0 (by simp [E3]) (by simp)
  have hf2 : ReachI E3 [] false 0 2 := ReachI.step (e := (1, 2, 1)) hf1 (by simp [E3]) (by simp)
  have hb0 : ReachI E3 [] true 0 0 := .refl
  have hb2 : ReachI E3 [] true 0 2 := ReachI.step (e := (2, 0, 1)) hb0 (by simp [E3]) (by simp)
  have hb1 : ReachI E3 [] true 0 1 := ReachI.step (e := (1, 2, 1)) hb2 (by simp [E3]) (by simp)
  rcases v with _ | _ | _ | v
  · exact ⟨hf0, hb0⟩
  · exact ⟨hf1, hb1⟩
  · exact ⟨hf2, hb2⟩
  · omega⟩
theorem e3R (v : Int) : ReachI E3 [2] false 0 v ↔ v = 0 ∨ v = 1 := by
  have hf0 : ReachI E3 [2] false 0 0 := .refl
  have hf1 : ReachI E3 [2] false 0 1 := ReachI.step (e := (0, 1, 1)) hf0 (by simp [E3]) (by simp [dstE])
  constructor
  · intro h
    cases h with
    | refl => exact .inl rfl
    | step h1 h2 h3 =>
      simp only [E3, List.mem_cons, List.not_mem_nil, or_false] at h2
      rcases h2 with rfl | rfl | rfl
      · exact .inr rfl
      · exact absurd (by simp [dstE]) h3
      · exact .inl rfl
  · rintro (rfl | rfl)
    · exact hf0
    · exact hf1
theorem e3Reach : reachN E3 [2] 0 40 = [0, 1] := by
  have h : inB E3 [2] false 0 = fun v : Nat => decide (v = 0 ∨ v = 1) := funext fun v => by
    rw [Bool.eq_iff_iff, inB_iff, e3R, decide_eq_true_iff]; omega
  unfold reachN
  rw [h]
  decide
theorem e3Out : outL E3 2 0 = [2] := by decide
theorem e3Bet : betF 3 E3 (1, 2) = (1, true) := by
  have h : idxF (1, 2) E3 0 = 1 := by decide
  unfold betF
  rw [h, if_pos ⟨e3Right, by decide⟩]
theorem m_awakeL : Meets Try.prog regF 36 spAwakeL := by
  refine meets Try.func36 40 noWr rfl (by kernel_rfl) (by kernel_rfl) ?_
  rintro ⟨⟩ ⟨⟩
  conv => whnf
  repeat' (first | (refine tell (fun htest => ?_) (fun htest => ?_) <;> (try dsimp only at htest) <;> first | (exfalso; omega) | (exact absurd rfl htest) | (exact absurd (by decide) htest) | (conv => whnf)) | (refine allG rfl ?_; conv => whnf) | (refine And.intro (by first | omega | assumption | kernel_rfl | exact And.intro rfl rfl | ((try dsimp only [inR, idx, lowOf]); first | omega | (with_reducible decide) | (simp; omega) | fail) | fail) ?_; conv => whnf) | fail)
  refine ⟨_, m_between, ((3, E3), 1, 2), [], true, ?_⟩
  conv => whnf
  refine And.intro (vc0 e3Good (by (repeat' (first | exact trivial | exact rfl | refine And.intro ?_ ?_ | (refine congrArg vI ?_; first | omega | (dsimp only; omega) | fail) | (refine congrArg some ?_) | omega | exact Nat.le_refl _ | exact congrArg (SV.lst _) (List.take_of_length_le (Nat.le_refl _)).symm))) (by repeat' (first | exact trivial | exact rfl | refine And.intro ?_ ?_ | (refine congrArg vI ?_; first | omega | (dsimp only; omega) | fail) | (refine congrArg some ?_) | omega | exact Nat.le_refl _ | exact congrArg (SV.lst _) (List.take_of_length_le (Nat.le_refl _)).symm)) trivial (.inr (fun _ => ⟨rfl, fun h ct he => by rcases h with _ | _ | h <;> first | (cases he; done) | (cases he; rfl)⟩))) ?_
  refine And.intro ⟨(), trivial⟩ (fun (_ : Unit) _ => ?_)
  conv => whnf
  rw (config := { transparency := .default }) [e3Bet]
  conv => whnf
  repeat' (first | (refine tell (fun htest => ?_) (fun htest => ?_) <;> (try dsimp only at htest) <;> first | (exfalso; omega) | (exact absurd rfl htest) | (exact absurd (by decide) htest) | (conv => whnf)) | (refine allG rfl ?_; conv => whnf) | (refine And.intro (by first | omega | assumption | kernel_rfl | exact And.intro rfl rfl | ((try dsimp only [inR, idx, lowOf]); first | omega | (with_reducible decide) | (simp; omega) | fail) | fail) ?_; conv => whnf) | fail)
  refine ⟨_, m_right, (3, E3), [], true, ?_⟩
  conv => whnf
  refine And.intro (vc0 e3Good (by (repeat' (first | exact trivial | exact rfl | refine And.intro ?_ ?_ | (refine congrArg vI ?_; first | omega | (dsimp only; omega) | fail) | (refine congrArg some ?_) | omega | exact Nat.le_refl _ | exact congrArg (SV.lst _) (List.take_of_length_le (Nat.le_refl _)).symm))) (by repeat' (first | exact trivial | exact rfl | refine And.intro ?_ ?_ | (refine congrArg vI ?_; first | omega | (dsimp only; omega) | fail) | (refine congrArg some ?_) | omega | exact Nat.le_refl _ | exact congrArg (SV.lst _) (List.take_of_length_le (Nat.le_refl _)).symm)) trivial (.inr (fun _ => ⟨rfl, fun h ct he => by rcases h with _ | _ | h <;> first | (cases he; done) | (cases he; rfl)⟩))) ?_
  refine And.intro (right_ex 3 E3) ?_
  intro (c : Bool) (hc : c = true ↔ RightL 3 E3)
  cases c
  · have := hc.2 e3Right; cases this
  conv => whnf
  repeat' (first | (refine tell (fun htest => ?_) (fun htest => ?_) <;> (try dsimp only at htest) <;> first | (exfalso; omega) | (exact absurd rfl htest) | (exact absurd (by decide) htest) | (conv => whnf)) | (refine allG rfl ?_; conv => whnf) | (refine And.intro (by first | omega | assumption | kernel_rfl | exact And.intro rfl rfl | ((try dsimp only [inR, idx, lowOf]); first | omega | (with_reducible decide) | (simp; omega) | fail) | fail) ?_; conv => whnf) | fail)
  refine ⟨_, m_strong, (3, E3), [], true, ?_⟩
  conv => whnf
  refine And.intro (vc0 e3Good (by (repeat' (first | exact trivial | exact rfl | refine And.intro ?_ ?_ | (refine congrArg vI ?_; first | omega | (dsimp only; omega) | fail) | (refine congrArg some ?_) | omega | exact Nat.le_refl _ | exact congrArg (SV.lst _) (List.take_of_length_le (Nat.le_refl _)).symm))) (by repeat' (first | exact trivial | exact rfl | refine And.intro ?_ ?_ | (refine congrArg vI ?_; first | omega | (dsimp only; omega) | fail) | (refine congrArg some ?_) | omega | exact Nat.le_refl _ | exact congrArg (SV.lst _) (List.take_of_length_le (Nat.le_refl _)).symm)) trivial (.inr (fun _ => ⟨rfl, fun h ct he => by rcases h with _ | _ | h <;> first | (cases he; done) | (cases he; rfl)⟩))) ?_
  refine And.intro ⟨true, ⟨fun _ => e3Strong, fun _ => rfl⟩⟩ ?_
  intro (c : Bool) (hc : c = true ↔ StrongL 3 E3)
  cases c
  · have := hc.2 e3Strong; cases this
  conv => whnf
  repeat' (first | (refine tell (fun htest => ?_) (fun htest => ?_) <;> (try dsimp only at htest) <;> first | (exfalso; omega) | (exact absurd rfl htest) | (exact absurd (by decide) htest) | (conv => whnf)) | (refine allG rfl ?_; conv => whnf) | (refine And.intro (by first | omega | assumption | kernel_rfl | exact And.intro rfl rfl | ((try dsimp only [inR, idx, lowOf]); first | omega | (with_reducible decide) | (simp; omega) | fail) | fail) ?_; conv => whnf) | fail)
  refine ⟨_, m_reach2, ((3, E3), [2], 0), [], true, ?_⟩
  conv => whnf
  refine And.intro (vc0 ⟨e3Good, by decide, e3Right, by decide, by decide⟩ (by (repeat' (first | exact trivial | exact rfl | refine And.intro ?_ ?_ | (refine congrArg vI ?_; first | omega | (dsimp only; omega) | fail) | (refine congrArg some ?_) | omega | exact Nat.le_refl _ | exact congrArg (SV.lst _) (List.take_of_length_le (Nat.le_refl _)).symm))) (by repeat' (first | exact trivial | exact rfl | refine And.intro ?_ ?_ | (refine congrArg vI ?_; first | omega | (dsimp only; omega) | fail) | (refine congrArg some ?_) | omega | exact Nat.le_refl _ | exact congrArg (SV.lst _) (List.take_of_length_le (Nat.le_refl _)).symm)) trivial (.inr (fun _ => ⟨rfl, fun h ct he => by rcases h with _ | _ | h <;> first | (cases he; done) | (cases he; rfl)⟩))) ?_
  refine And.intro ⟨(), trivial⟩ (fun (_ : Unit) _ => ?_)
  conv => whnf
  conv => whnf
  repeat' (first | (refine tell (fun htest => ?_) (fun htest => ?_) <;> (try dsimp only at htest) <;> first | (exfalso; omega) | (exact absurd rfl htest) | (exact absurd (by decide) htest) | (conv => whnf)) | (refine allG rfl ?_; conv => whnf) | (refine And.intro (by first | omega | assumption | kernel_rfl | exact And.intro rfl rfl | ((try dsimp only [inR, idx, lowOf]); first | omega | (with_reducible decide) | (simp; omega) | fail) | fail) ?_; conv => whnf) | fail)
  refine ⟨_, m_ints, (reachN E3 [2] 0 40, [0, 1]), [], true, ?_⟩
  conv => whnf
  refine And.intro (vc0 (Nat.le_trans (reachN_len _ _ _ _) (by decide)) (by (repeat' (first | exact trivial | exact rfl | refine And.intro ?_ ?_ | (refine congrArg vI ?_; first | omega | (dsimp only; omega) | fail) | (refine congrArg some ?_) | omega | exact Nat.le_refl _ | exact congrArg (SV.lst _) (List.take_of_length_le (Nat.le_refl _)).symm))) (by repeat' (first | exact trivial | exact rfl | refine And.intro ?_ ?_ | (refine congrArg vI ?_; first | omega | (dsimp only; omega) | fail) | (refine congrArg some ?_) | omega | exact Nat.le_refl _ | exact congrArg (SV.lst _) (List.take_of_length_le (Nat.le_refl _)).symm)) trivial (.inr (fun _ => ⟨rfl, fun h ct he => by rcases h with _ | _ | h <;> first | (cases he; done) | (cases he; rfl)⟩))) ?_
  refine And.intro ⟨true, ⟨fun _ => e3Reach, fun _ => rfl⟩⟩ ?_
  intro (c : Bool) (hc : c = true ↔ reachN E3 [2] 0 40 = [0, 1])
  cases c
  · have := hc.2 e3Reach; cases this
  conv => whnf
  repeat' (first | (refine tell (fun htest => ?_) (fun htest => ?_) <;> (try dsimp only at htest) <;> first | (exfalso; omega) | (exact absurd rfl htest) | (exact absurd (by decide) htest) | (conv => whnf)) | (refine allG rfl ?_; conv => whnf) | (refine And.intro (by first | omega | assumption | kernel_rfl | exact And.intro rfl rfl | ((try dsimp only [inR, idx, lowOf]); first | omega | (with_reducible decide) | (simp; omega) | fail) | fail) ?_; conv => whnf) | fail)
  refine ⟨_, m_out2, (3, E3, 2), [], true, ?_⟩
  conv => whnf
  refine And.intro (vc0 ⟨e3Good, e3Right⟩ (by (repeat' (first | exact trivial | exact rfl | refine And.intro ?_ ?_ | (refine congrArg vI ?_; first | omega | (dsimp only; omega) | fail) | (refine congrArg some ?_) | omega | exact Nat.le_refl _ | exact congrArg (SV.lst _) (List.take_of_length_le (Nat.le_refl _)).symm))) (by repeat' (first | exact trivial | exact rfl | refine And.intro ?_ ?_ | (refine congrArg vI ?_; first | omega | (dsimp only; omega) | fail) | (refine congrArg some ?_) | omega | exact Nat.le_refl _ | exact congrArg (SV.lst _) (List.take_of_length_le (Nat.le_refl _)).symm)) trivial (.inr (fun _ => ⟨rfl, fun h ct he => by rcases h with _ | _ | h <;> first | (cases he; done) | (cases he; rfl)⟩))) ?_
  refine And.intro ⟨(), trivial⟩ (fun (_ : Unit) _ => ?_)
  conv => whnf
  conv => whnf
  repeat' (first | (refine tell (fun htest => ?_) (fun htest => ?_) <;> (try dsimp only at htest) <;> first | (exfalso; omega) | (exact absurd rfl htest) | (exact absurd (by decide) htest) | (conv => whnf)) | (refine allG rfl ?_; conv => whnf) | (refine And.intro (by first | omega | assumption | kernel_rfl | exact And.intro rfl rfl | ((try dsimp only [inR, idx, lowOf]); first | omega | (with_reducible decide) | (simp; omega) | fail) | fail) ?_; conv => whnf) | fail)
  refine ⟨_, m_ints, (outL E3 2 0, [2]), [], true, ?_⟩
  conv => whnf
  refine And.intro (vc0 (Nat.le_trans (outL_len _ _ _) (by decide)) (by (repeat' (first | exact trivial | exact rfl | refine And.intro ?_ ?_ | (refine congrArg vI ?_; first | omega | (dsimp only; omega) | fail) | (refine congrArg some ?_) | omega | exact Nat.le_refl _ | exact congrArg (SV.lst _) (List.take_of_length_le (Nat.le_refl _)).symm))) (by repeat' (first | exact trivial | exact rfl | refine And.intro ?_ ?_ | (refine congrArg vI ?_; first | omega | (dsimp only; omega) | fail) | (refine congrArg some ?_) | omega | exact Nat.le_refl _ | exact congrArg (SV.lst _) (List.take_of_length_le (Nat.le_refl _)).symm)) trivial (.inr (fun _ => ⟨rfl, fun h ct he => by rcases h with _ | _ | h <;> first | (cases he; done) | (cases he; rfl)⟩))) ?_
  refine And.intro ⟨true, ⟨fun _ => e3Out, fun _ => rfl⟩⟩ ?_
  intro (c : Bool) (hc : c = true ↔ outL E3 2 0 = [2])
  cases c
  · have := hc.2 e3Out; cases this
  conv => whnf
  repeat' (first | (refine tell (fun htest => ?_) (fun htest => ?_) <;> (try dsimp only at htest) <;> first | (exfalso; omega) | (exact absurd rfl htest) | (exact absurd (by decide) htest) | (conv => whnf)) | (refine allG rfl ?_; conv => whnf) | (refine And.intro (by first | omega | assumption | kernel_rfl | exact And.intro rfl rfl | ((try dsimp only [inR, idx, lowOf]); first | omega | (with_reducible decide) | (simp; omega) | fail) | fail) ?_; conv => whnf) | fail)
  exact ⟨(), [], trivial, rfl, trivial, trivial⟩
end Go.Sx

