/-
  Layer 11, part I: Reach.
-/
import Derived.Test.YtmogappoadglgaaLayH
namespace Go.Sx
open Go Go.Proofs Go.Proofs.Ytmogappoadglgaa
open Classical in
noncomputable def inB (es : List Edge) (bl : List Int) (back : Bool) (s : Int) (v : Nat) : Bool := decide (ReachI es bl back s v)
theorem inB_iff {es : List Edge} {bl : List Int} {back : Bool} {s : Int} {v : Nat} : inB es bl back s v = true ↔ ReachI es bl back s v := by unfold inB; simp
noncomputable def reachN (es : List Edge) (bl : List Int) (s : Int) (k : Nat) : List Int := ((List.range k).filter (inB es bl false s)).map fun v : Nat => (v : Int)
theorem reachN_succ (es : List Edge) (bl : List Int) (s : Int) (k : Nat) : reachN es bl s (k + 1) = reachN es bl s k ++ if inB es bl false s k = true then [(k : Int)] else [] := by
  unfold reachN
  rw [List.range_succ, List.filter_append, List.map_append]
  congr 1
  simp only [List.filter_cons, List.filter_nil]
  split <;> rfl
theorem reachN_len (es : List Edge) (bl : List Int) (s : Int) (k : Nat) : (reachN es bl s k).length ≤ k := by
  unfold reachN
  rw [List.length_map]
  exact Nat.le_trans (List.length_filter_le _ _) (by simp)
open Classical in
noncomputable def reachF (n : Int) (es : List Edge) (bl : List Int) (s : Int) : List Int := if RightL n es ∧ 0 ≤ s ∧ s < n then reachN es bl s 40 else []
theorem reached_ex (es : List Edge) (bl : List Int) (back : Bool) (s n : Int) (h : RightL n es) (h0 : 0 ≤ s) (hs : s < n) : ∃ d : List Bool, d.length = 40 ∧ ∀ v : Nat, d[v]? = some true ↔ ReachI es bl back s v := by
  have hb : ∀ {v : Int}, ReachI es bl back s v → 0 ≤ v ∧ v < n := fun hv => by
    cases hv with
    | refl => exact ⟨h0, hs⟩
    | step h1 h2 h3 =>
      rename_i e
      obtain ⟨a, b, c, d, _⟩ := h.each e h2
      cases back
      · exact ⟨c, d⟩
      · exact ⟨a, b⟩
  have h40 := h.most
  refine ⟨(List.range 40).map (inB es bl back s), by simp, fun v => ?_⟩
  rw [List.getElem?_map]
  by_cases hv : v < 40
  · rw [List.getElem?_range hv]; simp [inB]
  · rw [List.getElem?_eq_none (by simp; omega)]
    constructor
    · intro h; cases h
    · intro h; have := hb h; omega
noncomputable def spReach : Spec AF where
  γ := (Int × List Edge) × List Int × Int
  δ := Unit
  args := fun g => [layS g.1.1 g.1.2, .lst 3 g.2.1, vI g.2.2]
  own := fun _ => []
  pre := fun g => GoodL g.1.2 ∧ g.2.1.length ≤ 9223372036854775807
  nnew := 0
  res := fun g _ => .lst 3 (reachF g.1.1 g.1.2 g.2.1 g.2.2)
  own' := fun _ _ => []
  post := fun _ _ => True
theorem m_reach : Meets Try.prog regF 44 spReach := by
  refine meets Try.func44 36 noWr rfl (by kernel_rfl) (by kernel_rfl) ?_
  rintro ⟨⟨(n : Int), (es : List Edge)⟩, (bl : List Int), (s : Int)⟩ ⟨(hg : GoodL es), (hbl : bl.length ≤ 9223372036854775807)⟩
  conv => whnf
  repeat' (first | (refine tell (fun htest => ?_) (fun htest => ?_) <;> (try dsimp only at htest) <;> first | (exfalso; omega) | (exact absurd rfl htest) | (exact absurd (by decide) htest) | (conv => whnf)) | (refine allG rfl ?_; conv => whnf) | (refine And.intro (by first | omega | assumption | kernel_rfl | exact And.intro rfl rfl | ((try dsimp only [inR, idx, lowOf]); first | omega | (with_reducible decide) | (simp; omega) | fail) | fail) ?_; conv => whnf) | fail)
  refine ⟨_, m_right, (n, es), [], false, ?_⟩
  conv => whnf
  refine And.intro (vc0 hg (by (repeat' (first | exact trivial | exact rfl | refine And.intro ?_ ?_ | (refine congrArg vI ?_; first | omega | (dsimp only; omega) | fail) | (refine congrArg some ?_) | omega | exact Nat.le_refl _ | exact congrArg (SV.lst _) (List.take_of_length_le (Nat.le_refl _)).symm))) (by repeat' (first | exact trivial | exact rfl | refine And.intro ?_ ?_ | (refine congrArg vI ?_; first | omega | (dsimp only; omega) | fail) | (refine congrArg some ?_) | omega | exact Nat.le_refl _ | exact congrArg (SV.lst _) (List.take_of_length_le (Nat.le_refl _)).symm)) trivial trivial) ?_
  refine And.intro (right_ex n es) ?_
  intro (c : Bool) (hc : c = true ↔ RightL n es)
  by_cases hok : RightL n es ∧ 0 ≤ s ∧ s < n
  · obtain ⟨hr, h0, hsn⟩ := hok
    have hF : reachF n es bl s = reachN es bl s 40 := if_pos ⟨hr, h0, hsn⟩
    cases c
    · have := hc.2 hr; cases this
    conv => whnf
    repeat' (first | (refine tell (fun htest => ?_) (fun htest => ?_) <;> (try dsimp only at htest) <;> first | (exfalso; omega) | (exact absurd rfl htest) | (exact absurd (by decide) htest) | (conv => whnf)) | (refine allG rfl ?_; conv => whnf) | (refine And.intro (by first | omega | assumption | kernel_rfl | exact And.intro rfl rfl | ((try dsimp only [inR, idx, lowOf]); first | omega | (with_reducible decide) | (simp; omega) | fail) | fail) ?_; conv => whnf) | fail)
    refine ⟨_, m_reached, ((n, es), bl, s, false), [], false, ?_⟩
    conv => whnf
    refine And.intro (vc0 ⟨hr, h0, hsn, hbl⟩ (by (repeat' (first | exact trivial | exact rfl | refine And.intro ?_ ?_ | (refine congrArg vI ?_; first | omega | (dsimp only; omega) | fail) | (refine congrArg some ?_) | omega | exact Nat.le_refl _ | exact congrArg (SV.lst _) (List.take_of_length_le (Nat.le_refl _)).symm))) (by repeat' (first | exact trivial | exact rfl | refine And.intro ?_ ?_ | (refine congrArg vI ?_; first | omega | (dsimp only; omega) | fail) | (refine congrArg some ?_) | omega | exact Nat.le_refl _ | exact congrArg (SV.lst _) (List.take_of_length_le (Nat.le_refl _)).symm)) trivial trivial) ?_
    refine And.intro (reached_ex es bl false s n hr h0 hsn) ?_
    rintro (d : List Bool) ⟨(hd : d.length = 40), (hd2 : ∀ v : Nat, d[v]? = some true ↔ ReachI es bl false s v)⟩
    conv => whnf
    repeat' (first | (refine tell (fun htest => ?_) (fun htest => ?_) <;> (try dsimp only at htest) <;> first | (exfalso; omega) | (exact absurd rfl htest) | (exact absurd (by decide) htest) | (conv => whnf)) | (refine allG rfl ?_; conv => whnf) | (refine And.intro (by first | omega | assumption | kernel_rfl | exact And.intro rfl rfl | ((try dsimp only [inR, idx, lowOf]); first | omega | (with_reducible decide) | (simp; omega) | fail) | fail) ?_; conv => whnf) | fail)
    refine ⟨Nat, fun i => ⟨[(6, .sl 3000 1 0 (reachN es bl s i).length), (25, .aggl 4 d), (26, vI i)], [(3000, .arr 3 (reachN es bl s i))]⟩, fun i => i ≤ 40, fun i => 40 - i, fun _ _ => rfl, ⟨0, [], Nat.zero_le _, ?_⟩, ?_⟩
    · refine ⟨rfl, ?_, ?_, rfl⟩
      all_goals (repeat' (first | exact trivial | exact rfl | refine And.intro ?_ ?_ | (refine congrArg vI ?_; first | omega | (dsimp only; omega) | fail) | (refine congrArg some ?_) | omega | exact Nat.le_refl _ | exact congrArg (SV.lst _) (List.take_of_length_le (Nat.le_refl _)).symm))
    rintro (i : Nat) (hi : i ≤ 40)
    have hln := reachN_len es bl s i
    have hsu := reachN_succ es bl s i
    by_cases hlt : i < 40
    · obtain ⟨b, hb⟩ : ∃ b, d[i]? = some b := ⟨_, List.getElem?_eq_getElem (by omega)⟩
      have hbb : b = inB es bl false s i := by
        cases b
        · cases e : inB es bl false s i with
          | false => rfl
          | true => have := (hd2 i).2 (inB_iff.1 e); rw [hb] at this; cases this
        · exact (inB_iff.2 ((hd2 i).1 hb)).symm
      cases b
      · rw [← hbb, if_neg (by simp), List.append_nil] at hsu
        conv => whnf
        repeat' (first | (refine tell (fun htest => ?_) (fun htest => ?_) <;> (try dsimp only at htest) <;> first | (exfalso; omega) | (exact absurd rfl htest) | (exact absurd (by decide) htest) | (conv => whnf)) | (refine allG (x := false) (by first | exact hb | simpa [List.getElem?_append_right, lowOf] using hb | fail) ?_; conv => whnf) | (refine allLst (x := false) (by first | omega | assumption | fail) (by first | exact hb | simpa using hb | fail) ?_; conv => whnf) | (refine allG rfl ?_; conv => whnf) | (refine And.intro (by first | omega | assumption | kernel_rfl | exact And.intro rfl rfl | ((try dsimp only [inR, idx, lowOf]); first | omega | (with_reducible decide) | (simp; omega) | fail) | fail) ?_; conv => whnf) | fail)
        refine ⟨i + 1, [], hlt, ?_, rfl, ?_, ?_, rfl⟩
        · dsimp only; first | omega | (simp; done) | (simp; omega)
        all_goals (repeat' (first | exact trivial | exact rfl | refine And.intro ?_ ?_ | (refine congrArg vI ?_; first | omega | (dsimp only; omega) | fail) | (refine congrArg some ?_) | omega | exact Nat.le_refl _ | exact congrArg (SV.lst _) (List.take_of_length_le (Nat.le_refl _)).symm))
        · exact congrArg (SV.sl (A := AF) 3000 1 0) (congrArg List.length hsu.symm)
        · exact congrArg (Ct.arr (A := AF) 3) hsu.symm
      · rw [← hbb, if_pos rfl] at hsu
        conv => whnf
        repeat' (first | (refine tell (fun htest => ?_) (fun htest => ?_) <;> (try dsimp only at htest) <;> first | (exfalso; omega) | (exact absurd rfl htest) | (exact absurd (by decide) htest) | (conv => whnf)) | (refine allG (x := true) (by first | exact hb | simpa [List.getElem?_append_right, lowOf] using hb | fail) ?_; conv => whnf) | (refine allLst (x := true) (by first | omega | assumption | fail) (by first | exact hb | simpa using hb | fail) ?_; conv => whnf) | (refine allG rfl ?_; conv => whnf) | (refine And.intro (by first | omega | assumption | kernel_rfl | exact And.intro rfl rfl | ((try dsimp only [inR, idx, lowOf]); first | omega | (with_reducible decide) | (simp; omega) | fail) | fail) ?_; conv => whnf) | fail)
        refine ⟨i + 1, [(3000, 1034)], hlt, ?_, rfl, ?_, ?_, rfl⟩
        · dsimp only; first | omega | (simp; done) | (simp; omega)
        all_goals (repeat' (first | exact trivial | exact rfl | refine And.intro ?_ ?_ | (refine congrArg vI ?_; first | omega | (dsimp only; omega) | fail) | (refine congrArg some ?_) | omega | exact Nat.le_refl _ | exact congrArg (SV.lst _) (List.take_of_length_le (Nat.le_refl _)).symm))
        · exact congrArg (SV.sl (A := AF) 1034 1 0) (show (reachN es bl s i).length + 1 = (reachN es bl s (i + 1)).length by rw [hsu]; simp)
        · exact congrArg (Ct.arr (A := AF) 3) (show ((reachN es bl s i).drop 0).take (reachN es bl s i).length ++ [(i : Int)] = reachN es bl s (i + 1) by rw [hsu]; simp)
    · have hi : i = 40 := by omega
      subst hi
      conv => whnf
      repeat' (first | (refine tell (fun htest => ?_) (fun htest => ?_) <;> (try dsimp only at htest) <;> first | (exfalso; omega) | (exact absurd rfl htest) | (exact absurd (by decide) htest) | (conv => whnf)) | (refine allG rfl ?_; conv => whnf) | (refine And.intro (by first | omega | assumption | kernel_rfl | exact And.intro rfl rfl | ((try dsimp only [inR, idx, lowOf]); first | omega | (with_reducible decide) | (simp; omega) | fail) | fail) ?_; conv => whnf) | fail)
      refine ⟨(), [], trivial, ⟨by simp, rfl, ?_⟩, trivial, trivial⟩
      exact congrArg (SV.lst (A := AF) 3) (show reachF n es bl s = ((reachN es bl s 40).drop 0).take (reachN es bl s 40).length by rw [hF]; simp)
  · have hF : reachF n es bl s = [] := if_neg hok
    cases c
    · conv => whnf
      repeat' (first | (refine tell (fun htest => ?_) (fun htest => ?_) <;> (try dsimp only at htest) <;> first | (exfalso; omega) | (exact absurd rfl htest) | (exact absurd (by decide) htest) | (conv => whnf)) | (refine allG rfl ?_; conv => whnf) | (refine And.intro (by first | omega | assumption | kernel_rfl | exact And.intro rfl rfl | ((try dsimp only [inR, idx, lowOf]); first | omega | (with_reducible decide) | (simp; omega) | fail) | fail) ?_; conv => whnf) | fail)
      exact ⟨(), [], trivial, (by show _ = _; exact hF), trivial, trivial⟩
    · have hr := hc.1 rfl
      have hns : ¬ (0 ≤ s ∧ s < n) := fun h => hok ⟨hr, h⟩
      conv => whnf
      repeat' (first | (refine tell (fun htest => ?_) (fun htest => ?_) <;> (try dsimp only at htest) <;> first | (exfalso; omega) | (exact absurd rfl htest) | (exact absurd (by decide) htest) | (conv => whnf)) | (refine allG rfl ?_; conv => whnf) | (refine And.intro (by first | omega | assumption | kernel_rfl | exact And.intro rfl rfl | ((try dsimp only [inR, idx, lowOf]); first | omega | (with_reducible decide) | (simp; omega) | fail) | fail) ?_; conv => whnf) | fail)
      all_goals exact ⟨(), [], trivial, (by show _ = _; exact hF), trivial, trivial⟩
end Go.Sx

