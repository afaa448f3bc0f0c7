/-
  Layer 11, part Q: LayoutStrong.
-/
import Derived.Test.YtmogappoadglgaaLayP
namespace Go.Sx
open Go Go.Proofs Go.Proofs.Ytmogappoadglgaa
theorem strong_ex (n : Int) (es : List Edge) : ∃ c : Bool, c = true ↔ StrongL n es := by
  by_cases h : StrongL n es
  · exact ⟨true, by simp [h]⟩
  · exact ⟨false, by simp [h]⟩
theorem strongF_iff {n : Int} {es : List Edge} (h : RightL n es) : StrongL n es ↔ ((reachF n es [] 0).length : Int) = n ∧ ∀ v : Nat, (v : Int) < n → (0 : Int) ∈ reachF n es [] v := by
  rw [strong_iff h, reachF_is h (Int.le_refl 0) h.pos]
  refine and_congr Iff.rfl (forall_congr' fun v => imp_congr_right fun hv => ?_)
  rw [reachF_is h (by omega) hv]
theorem bool_eq {b c : Bool} {p : Prop} (h1 : b = true ↔ p) (h2 : c = true ↔ p) : b = c := by
  rw [Bool.eq_iff_iff, h1, h2]
theorem reachF_len {n : Int} {es : List Edge} {bl : List Int} {s : Int} : (reachF n es bl s).length ≤ 40 := by
  unfold reachF
  split
  · exact reachN_len _ _ _ _
  · simp
theorem m_strongLaw : Meets Try.prog regF 11 (spLaw (fun g : Int × List (Int × Int × Int) => [vI g.1, .lst 66 g.2]) (fun g => InI g.1 ∧ Triples g.2)) := by
  refine meets Try.func11 39 noWr rfl (by kernel_rfl) (by kernel_rfl) ?_
  rintro ⟨(c : Int), (l : List (Int × Int × Int))⟩ ⟨(hc : InI c), (hl : Triples l)⟩
  obtain ⟨hR, h24⟩ := fit_right c l
  have hN := fitN_bd c
  have hSt := strongF_iff hR
  conv => whnf
  repeat' (first | (refine tell (fun htest => ?_) (fun htest => ?_) <;> (try dsimp only at htest) <;> first | (exfalso; omega) | (exact absurd rfl htest) | (exact absurd (by decide) htest) | (conv => whnf)) | (refine allG rfl ?_; conv => whnf) | (refine And.intro (by first | omega | assumption | kernel_rfl | exact And.intro rfl rfl | ((try dsimp only [inR, idx, lowOf]); first | omega | (with_reducible decide) | (simp; omega) | fail) | fail) ?_; conv => whnf) | fail)
  refine ⟨_, m_awakeL, (), [], false, ?_⟩
  conv => whnf
  refine And.intro (vc0 trivial (by (repeat' (first | exact trivial | exact rfl | refine And.intro ?_ ?_ | (refine congrArg vI ?_; first | omega | (dsimp only; omega) | fail) | (refine congrArg some ?_) | omega | exact Nat.le_refl _ | exact congrArg (SV.lst _) (List.take_of_length_le (Nat.le_refl _)).symm))) (by repeat' (first | exact trivial | exact rfl | refine And.intro ?_ ?_ | (refine congrArg vI ?_; first | omega | (dsimp only; omega) | fail) | (refine congrArg some ?_) | omega | exact Nat.le_refl _ | exact congrArg (SV.lst _) (List.take_of_length_le (Nat.le_refl _)).symm)) trivial trivial) ?_
  refine And.intro ⟨(), trivial⟩ (fun (_ : Unit) _ => ?_)
  conv => whnf
  conv => whnf
  repeat' (first | (refine tell (fun htest => ?_) (fun htest => ?_) <;> (try dsimp only at htest) <;> first | (exfalso; omega) | (exact absurd rfl htest) | (exact absurd (by decide) htest) | (conv => whnf)) | (refine allG rfl ?_; conv => whnf) | (refine And.intro (by first | omega | assumption | kernel_rfl | exact And.intro rfl rfl | ((try dsimp only [inR, idx, lowOf]); first | omega | (with_reducible decide) | (simp; omega) | fail) | fail) ?_; conv => whnf) | fail)
  refine ⟨_, m_fit, (c, l), [], false, ?_⟩
  conv => whnf
  refine And.intro (vc0 ⟨hc, hl⟩ (by (repeat' (first | exact trivial | exact rfl | refine And.intro ?_ ?_ | (refine congrArg vI ?_; first | omega | (dsimp only; omega) | fail) | (refine congrArg some ?_) | omega | exact Nat.le_refl _ | exact congrArg (SV.lst _) (List.take_of_length_le (Nat.le_refl _)).symm))) (by repeat' (first | exact trivial | exact rfl | refine And.intro ?_ ?_ | (refine congrArg vI ?_; first | omega | (dsimp only; omega) | fail) | (refine congrArg some ?_) | omega | exact Nat.le_refl _ | exact congrArg (SV.lst _) (List.take_of_length_le (Nat.le_refl _)).symm)) trivial trivial) ?_
  refine And.intro ⟨(), trivial⟩ (fun (_ : Unit) _ => ?_)
  conv => whnf
  conv => whnf
  repeat' (first | (refine tell (fun htest => ?_) (fun htest => ?_) <;> (try dsimp only at htest) <;> first | (exfalso; omega) | (exact absurd rfl htest) | (exact absurd (by decide) htest) | (conv => whnf)) | (refine allG rfl ?_; conv => whnf) | (refine And.intro (by first | omega | assumption | kernel_rfl | exact And.intro rfl rfl | ((try dsimp only [inR, idx, lowOf]); first | omega | (with_reducible decide) | (simp; omega) | fail) | fail) ?_; conv => whnf) | fail)
  refine ⟨_, m_reach, (((fitN c), (fitL c l)), [], 0), [], false, ?_⟩
  conv => whnf
  refine And.intro (vc0 ⟨hR.good, Nat.zero_le _⟩ (by (repeat' (first | exact trivial | exact rfl | refine And.intro ?_ ?_ | (refine congrArg vI ?_; first | omega | (dsimp only; omega) | fail) | (refine congrArg some ?_) | omega | exact Nat.le_refl _ | exact congrArg (SV.lst _) (List.take_of_length_le (Nat.le_refl _)).symm))) (by repeat' (first | exact trivial | exact rfl | refine And.intro ?_ ?_ | (refine congrArg vI ?_; first | omega | (dsimp only; omega) | fail) | (refine congrArg some ?_) | omega | exact Nat.le_refl _ | exact congrArg (SV.lst _) (List.take_of_length_le (Nat.le_refl _)).symm)) trivial trivial) ?_
  refine And.intro ⟨(), trivial⟩ (fun (_ : Unit) _ => ?_)
  conv => whnf
  conv => whnf
  repeat' (first | (refine tell (fun htest => ?_) (fun htest => ?_) <;> (try dsimp only at htest) <;> first | (exfalso; omega) | (exact absurd rfl htest) | (exact absurd (by decide) htest) | (conv => whnf)) | (refine allG rfl ?_; conv => whnf) | (refine And.intro (by first | omega | assumption | kernel_rfl | exact And.intro rfl rfl | ((try dsimp only [inR, idx, lowOf]); first | omega | (with_reducible decide) | (simp; omega) | fail) | fail) ?_; conv => whnf) | fail)
  all_goals
    refine ⟨Nat × Bool, fun p => ⟨[(5, vB true), (6, .ptr 1006 0 2 0), (7, vB p.2), (8, vI p.1)], [(1006, layC (fitN c) (fitL c l))]⟩, fun p => (p.1 : Int) ≤ (fitN c) ∧ (p.2 = true ↔ ((reachF (fitN c) (fitL c l) [] 0).length : Int) = (fitN c) ∧ ∀ v : Nat, v < p.1 → (0 : Int) ∈ reachF (fitN c) (fitL c l) [] v), fun p => 8 - p.1, fun _ _ => rfl, ⟨(0, decide (((reachF (fitN c) (fitL c l) [] 0).length : Int) = (fitN c))), [], ⟨by dsimp only; omega, by simp⟩, ?_⟩, ?_⟩
    · refine ⟨rfl, ?_, ?_, rfl⟩
      all_goals (repeat' (first | exact trivial | exact rfl | refine And.intro ?_ ?_ | (refine congrArg vI ?_; first | omega | (dsimp only; omega) | fail) | (refine congrArg some ?_) | omega | exact Nat.le_refl _ | exact congrArg (SV.lst _) (List.take_of_length_le (Nat.le_refl _)).symm))
      all_goals (first | exact congrArg vB (decide_eq_true htest).symm | exact congrArg vB (decide_eq_false htest).symm)
    rintro ⟨(i : Nat), (b : Bool)⟩ ⟨(hi : (i : Int) ≤ (fitN c)), (hb : b = true ↔ ((reachF (fitN c) (fitL c l) [] 0).length : Int) = (fitN c) ∧ ∀ v : Nat, v < i → (0 : Int) ∈ reachF (fitN c) (fitL c l) [] v)⟩
    clear htest
    by_cases hlt : (i : Int) < (fitN c)
    · cases b
      · have hb2 : false = true ↔ ((reachF (fitN c) (fitL c l) [] 0).length : Int) = (fitN c) ∧ ∀ v : Nat, v < i + 1 → (0 : Int) ∈ reachF (fitN c) (fitL c l) [] v := ⟨fun h => (by cases h), fun h => hb.2 ⟨h.1, fun v hv => h.2 v (by omega)⟩⟩
        conv => whnf
        repeat' (first | (refine tell (fun htest => ?_) (fun htest => ?_) <;> (try dsimp only at htest) <;> first | (exfalso; omega) | (exact absurd rfl htest) | (exact absurd (by decide) htest) | (conv => whnf)) | (refine allG rfl ?_; conv => whnf) | (refine And.intro (by first | omega | assumption | kernel_rfl | exact And.intro rfl rfl | ((try dsimp only [inR, idx, lowOf]); first | omega | (with_reducible decide) | (simp; omega) | fail) | fail) ?_; conv => whnf) | fail)
        refine ⟨(i + 1, false), [], ⟨(by dsimp only; omega), hb2⟩, ?_, rfl, ?_, ?_, rfl⟩
        · dsimp only; first | omega | (simp; done) | (simp; omega)
        all_goals (repeat' (first | exact trivial | exact rfl | refine And.intro ?_ ?_ | (refine congrArg vI ?_; first | omega | (dsimp only; omega) | fail) | (refine congrArg some ?_) | omega | exact Nat.le_refl _ | exact congrArg (SV.lst _) (List.take_of_length_le (Nat.le_refl _)).symm))
      · obtain ⟨hb1, hb2⟩ := hb.1 rfl
        conv => whnf
        repeat' (first | (refine tell (fun htest => ?_) (fun htest => ?_) <;> (try dsimp only at htest) <;> first | (exfalso; omega) | (exact absurd rfl htest) | (exact absurd (by decide) htest) | (conv => whnf)) | (refine allG rfl ?_; conv => whnf) | (refine And.intro (by first | omega | assumption | kernel_rfl | exact And.intro rfl rfl | ((try dsimp only [inR, idx, lowOf]); first | omega | (with_reducible decide) | (simp; omega) | fail) | fail) ?_; conv => whnf) | fail)
        refine ⟨_, m_reach, (((fitN c), (fitL c l)), [], (i : Int)), [], false, ?_⟩
        conv => whnf
        refine And.intro (vc0 ⟨hR.good, Nat.zero_le _⟩ (by (repeat' (first | exact trivial | exact rfl | refine And.intro ?_ ?_ | (refine congrArg vI ?_; first | omega | (dsimp only; omega) | fail) | (refine congrArg some ?_) | omega | exact Nat.le_refl _ | exact congrArg (SV.lst _) (List.take_of_length_le (Nat.le_refl _)).symm))) (by repeat' (first | exact trivial | exact rfl | refine And.intro ?_ ?_ | (refine congrArg vI ?_; first | omega | (dsimp only; omega) | fail) | (refine congrArg some ?_) | omega | exact Nat.le_refl _ | exact congrArg (SV.lst _) (List.take_of_length_le (Nat.le_refl _)).symm)) trivial trivial) ?_
        refine And.intro ⟨(), trivial⟩ (fun (_ : Unit) _ => ?_)
        conv => whnf
        conv => whnf
        repeat' (first | (refine tell (fun htest => ?_) (fun htest => ?_) <;> (try dsimp only at htest) <;> first | (exfalso; omega) | (exact absurd rfl htest) | (exact absurd (by decide) htest) | (conv => whnf)) | (refine allG rfl ?_; conv => whnf) | (refine And.intro (by first | omega | assumption | kernel_rfl | exact And.intro rfl rfl | ((try dsimp only [inR, idx, lowOf]); first | omega | (with_reducible decide) | (simp; omega) | fail) | fail) ?_; conv => whnf) | fail)
        refine ⟨_, m_has, (reachF (fitN c) (fitL c l) [] (i : Int), 0), [], false, ?_⟩
        conv => whnf
        refine And.intro (vc0 (Nat.le_trans reachF_len (by decide)) (by (repeat' (first | exact trivial | exact rfl | refine And.intro ?_ ?_ | (refine congrArg vI ?_; first | omega | (dsimp only; omega) | fail) | (refine congrArg some ?_) | omega | exact Nat.le_refl _ | exact congrArg (SV.lst _) (List.take_of_length_le (Nat.le_refl _)).symm))) (by repeat' (first | exact trivial | exact rfl | refine And.intro ?_ ?_ | (refine congrArg vI ?_; first | omega | (dsimp only; omega) | fail) | (refine congrArg some ?_) | omega | exact Nat.le_refl _ | exact congrArg (SV.lst _) (List.take_of_length_le (Nat.le_refl _)).symm)) trivial trivial) ?_
        refine And.intro (has_ex _ _) ?_
        intro (b2 : Bool) (hb3 : b2 = true ↔ (0 : Int) ∈ reachF (fitN c) (fitL c l) [] (i : Int))
        have hb4 : b2 = true ↔ ((reachF (fitN c) (fitL c l) [] 0).length : Int) = (fitN c) ∧ ∀ v : Nat, v < i + 1 → (0 : Int) ∈ reachF (fitN c) (fitL c l) [] v := hb3.trans ⟨fun h => ⟨hb1, fun v hv => by
          rcases Nat.lt_succ_iff_lt_or_eq.1 hv with h1 | rfl
          · exact hb2 v h1
          · exact h⟩, fun h => h.2 i (Nat.lt_succ_self i)⟩
        conv => whnf
        repeat' (first | (refine tell (fun htest => ?_) (fun htest => ?_) <;> (try dsimp only at htest) <;> first | (exfalso; omega) | (exact absurd rfl htest) | (exact absurd (by decide) htest) | (conv => whnf)) | (refine allG rfl ?_; conv => whnf) | (refine And.intro (by first | omega | assumption | kernel_rfl | exact And.intro rfl rfl | ((try dsimp only [inR, idx, lowOf]); first | omega | (with_reducible decide) | (simp; omega) | fail) | fail) ?_; conv => whnf) | fail)
        refine ⟨(i + 1, b2), [], ⟨(by dsimp only; omega), hb4⟩, ?_, rfl, ?_, ?_, rfl⟩
        · dsimp only; first | omega | (simp; done) | (simp; omega)
        all_goals (repeat' (first | exact trivial | exact rfl | refine And.intro ?_ ?_ | (refine congrArg vI ?_; first | omega | (dsimp only; omega) | fail) | (refine congrArg some ?_) | omega | exact Nat.le_refl _ | exact congrArg (SV.lst _) (List.take_of_length_le (Nat.le_refl _)).symm))
    · have hb4 : b = true ↔ StrongL (fitN c) (fitL c l) := hb.trans ⟨fun h => hSt.2 ⟨h.1, fun v hv => h.2 v (by omega)⟩, fun h => ⟨(hSt.1 h).1, fun v hv => (hSt.1 h).2 v (by omega)⟩⟩
      conv => whnf
      repeat' (first | (refine tell (fun htest => ?_) (fun htest => ?_) <;> (try dsimp only at htest) <;> first | (exfalso; omega) | (exact absurd rfl htest) | (exact absurd (by decide) htest) | (conv => whnf)) | (refine allG rfl ?_; conv => whnf) | (refine And.intro (by first | omega | assumption | kernel_rfl | exact And.intro rfl rfl | ((try dsimp only [inR, idx, lowOf]); first | omega | (with_reducible decide) | (simp; omega) | fail) | fail) ?_; conv => whnf) | fail)
      refine ⟨_, m_strong, ((fitN c), (fitL c l)), [], false, ?_⟩
      conv => whnf
      refine And.intro (vc0 hR.good (by (repeat' (first | exact trivial | exact rfl | refine And.intro ?_ ?_ | (refine congrArg vI ?_; first | omega | (dsimp only; omega) | fail) | (refine congrArg some ?_) | omega | exact Nat.le_refl _ | exact congrArg (SV.lst _) (List.take_of_length_le (Nat.le_refl _)).symm))) (by repeat' (first | exact trivial | exact rfl | refine And.intro ?_ ?_ | (refine congrArg vI ?_; first | omega | (dsimp only; omega) | fail) | (refine congrArg some ?_) | omega | exact Nat.le_refl _ | exact congrArg (SV.lst _) (List.take_of_length_le (Nat.le_refl _)).symm)) trivial trivial) ?_
      refine And.intro (strong_ex _ _) ?_
      intro (b2 : Bool) (hb5 : b2 = true ↔ StrongL (fitN c) (fitL c l))
      obtain rfl : b = b2 := bool_eq hb4 hb5
      conv => whnf
      repeat' (first | (refine tell (fun htest => ?_) (fun htest => ?_) <;> (try dsimp only at htest) <;> first | (exfalso; omega) | (exact absurd rfl htest) | (exact absurd (by decide) htest) | (conv => whnf)) | (refine allG rfl ?_; conv => whnf) | (refine And.intro (by first | omega | assumption | kernel_rfl | exact And.intro rfl rfl | ((try dsimp only [inR, idx, lowOf]); first | omega | (with_reducible decide) | (simp; omega) | fail) | fail) ?_; conv => whnf) | fail)
      exact ⟨(), [], trivial, rfl, trivial, trivial⟩
end Go.Sx

