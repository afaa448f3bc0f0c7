/-
  Layer 11, part K: Out and Reach again, where the layout may be: the answer is the caller's own.
-/
import Derived.Test.YtmogappoadglgaaLayJ
namespace Go.Sx
open Go Go.Proofs Go.Proofs.Ytmogappoadglgaa
def spOut2 : Spec AF where
  γ := Int × List Edge × Int
  δ := Unit
  args := fun g => [layS g.1 g.2.1, vI g.2.2]
  own := fun _ => []
  pre := fun g => GoodL g.2.1 ∧ RightL g.1 g.2.1
  nnew := 1
  res := fun g _ => .sl 0 1 0 (outL g.2.1 g.2.2 0).length
  own' := fun g _ => [some (.arr 3 (outL g.2.1 g.2.2 0))]
  post := fun _ _ => True
theorem m_out2 : Meets Try.prog regF 42 spOut2 := by
  refine meets Try.func42 27 noWr rfl (by kernel_rfl) (by kernel_rfl) ?_
  rintro ⟨(n : Int), (es : List Edge), (k : Int)⟩ ⟨(hg : GoodL es), (hR : RightL n es)⟩
  conv => whnf
  repeat' (first | (refine tell (fun htest => ?_) (fun htest => ?_) <;> (try dsimp only at htest) <;> first | (exfalso; omega) | (exact absurd rfl htest) | (exact absurd (by decide) htest) | (conv => whnf)) | (refine allG rfl ?_; conv => whnf) | (refine And.intro (by first | omega | assumption | kernel_rfl | exact And.intro rfl rfl | ((try dsimp only [inR, idx, lowOf]); first | omega | (with_reducible decide) | (simp; omega) | fail) | fail) ?_; conv => whnf) | fail)
  refine ⟨_, m_right, (n, es), [], false, ?_⟩
  conv => whnf
  refine And.intro (vc0 hg (by (repeat' (first | exact trivial | exact rfl | refine And.intro ?_ ?_ | (refine congrArg vI ?_; first | omega | (dsimp only; omega) | fail) | (refine congrArg some ?_) | omega | exact Nat.le_refl _ | exact congrArg (SV.lst _) (List.take_of_length_le (Nat.le_refl _)).symm))) (by repeat' (first | exact trivial | exact rfl | refine And.intro ?_ ?_ | (refine congrArg vI ?_; first | omega | (dsimp only; omega) | fail) | (refine congrArg some ?_) | omega | exact Nat.le_refl _ | exact congrArg (SV.lst _) (List.take_of_length_le (Nat.le_refl _)).symm)) trivial trivial) ?_
  refine And.intro (right_ex n es) ?_
  intro (c : Bool) (hc : c = true ↔ RightL n es)
  cases c
  · have := hc.2 hR; cases this
  have hr := hc.1 rfl
  have hl := hr.len
  conv => whnf
  repeat' (first | (refine tell (fun htest => ?_) (fun htest => ?_) <;> (try dsimp only at htest) <;> first | (exfalso; omega) | (exact absurd rfl htest) | (exact absurd (by decide) htest) | (conv => whnf)) | (refine allG rfl ?_; conv => whnf) | (refine And.intro (by first | omega | assumption | kernel_rfl | exact And.intro rfl rfl | ((try dsimp only [inR, idx, lowOf]); first | omega | (with_reducible decide) | (simp; omega) | fail) | fail) ?_; conv => whnf) | fail)
  refine ⟨Nat, fun i => ⟨[(1, vI k), (2, .ptr 1002 0 2 0), (4, .sl 3000 1 0 (outL (es.take i) k 0).length), (11, .lst 54 es), (12, vI es.length), (13, vI i)], [(1002, layC n es), (3000, .arr 3 (outL (es.take i) k 0))]⟩, fun i => i ≤ es.length, fun i => es.length - i, fun _ _ => rfl, ⟨0, [], Nat.zero_le _, ?_⟩, ?_⟩
  · refine ⟨rfl, ?_, ?_, rfl⟩
    all_goals (repeat' (first | exact trivial | exact rfl | refine And.intro ?_ ?_ | (refine congrArg vI ?_; first | omega | (dsimp only; omega) | fail) | (refine congrArg some ?_) | omega | exact Nat.le_refl _ | exact congrArg (SV.lst _) (List.take_of_length_le (Nat.le_refl _)).symm))
  rintro (i : Nat) (hi : i ≤ es.length)
  have hol := outL_len k (es.take i) 0
  rw [List.length_take] at hol
  by_cases hlt : i < es.length
  · obtain ⟨e, he⟩ : ∃ e, es[i]? = some e := ⟨_, List.getElem?_eq_getElem hlt⟩
    have htk := outL_snoc k e (es.take i) 0
    rw [← take_snocI he, List.length_take, Nat.min_eq_left hi, Nat.zero_add] at htk
    by_cases hek : e.1 = k
    · rw [if_pos hek] at htk
      conv => whnf
      repeat' (first | (refine tell (fun htest => ?_) (fun htest => ?_) <;> (try dsimp only at htest) <;> first | (exfalso; omega) | (exact absurd rfl htest) | (exact absurd (by decide) htest) | (conv => whnf)) | (refine allG (x := e) (by first | exact he | simpa [List.getElem?_append_right, lowOf] using he | fail) ?_; conv => whnf) | (refine allLst (x := e) (by first | omega | assumption | fail) (by first | exact he | simpa using he | fail) ?_; conv => whnf) | (refine allG rfl ?_; conv => whnf) | (refine And.intro (by first | omega | assumption | kernel_rfl | exact And.intro rfl rfl | ((try dsimp only [inR, idx, lowOf]); first | omega | (with_reducible decide) | (simp; omega) | fail) | fail) ?_; conv => whnf) | fail)
      refine ⟨i + 1, [(3000, 1025)], hlt, ?_, rfl, ?_, ?_, rfl⟩
      · dsimp only; first | omega | (simp; done) | (simp; omega)
      all_goals (repeat' (first | exact trivial | exact rfl | refine And.intro ?_ ?_ | (refine congrArg vI ?_; first | omega | (dsimp only; omega) | fail) | (refine congrArg some ?_) | omega | exact Nat.le_refl _ | exact congrArg (SV.lst _) (List.take_of_length_le (Nat.le_refl _)).symm))
      · exact congrArg (SV.sl (A := AF) 1025 1 0) (show (outL (es.take i) k 0).length + 1 = (outL (es.take (i + 1)) k 0).length by rw [htk]; simp)
      · exact congrArg (Ct.arr (A := AF) 3) (show ((outL (es.take i) k 0).drop 0).take (outL (es.take i) k 0).length ++ [(i : Int)] = outL (es.take (i + 1)) k 0 by rw [htk]; simp)
    · rw [if_neg hek, List.append_nil] at htk
      conv => whnf
      repeat' (first | (refine tell (fun htest => ?_) (fun htest => ?_) <;> (try dsimp only at htest) <;> first | (exfalso; omega) | (exact absurd rfl htest) | (exact absurd (by decide) htest) | (conv => whnf)) | (refine allG (x := e) (by first | exact he | simpa [List.getElem?_append_right, lowOf] using he | fail) ?_; conv => whnf) | (refine allLst (x := e) (by first | omega | assumption | fail) (by first | exact he | simpa using he | fail) ?_; conv => whnf) | (refine allG rfl ?_; conv => whnf) | (refine And.intro (by first | omega | assumption | kernel_rfl | exact And.intro rfl rfl | ((try dsimp only [inR, idx, lowOf]); first | omega | (with_reducible decide) | (simp; omega) | fail) | fail) ?_; conv => whnf) | fail)
      refine ⟨i + 1, [], hlt, ?_, rfl, ?_, ?_, rfl⟩
      · dsimp only; first | omega | (simp; done) | (simp; omega)
      all_goals (repeat' (first | exact trivial | exact rfl | refine And.intro ?_ ?_ | (refine congrArg vI ?_; first | omega | (dsimp only; omega) | fail) | (refine congrArg some ?_) | omega | exact Nat.le_refl _ | exact congrArg (SV.lst _) (List.take_of_length_le (Nat.le_refl _)).symm))
      · exact congrArg (SV.sl (A := AF) 3000 1 0) (congrArg List.length htk.symm)
      · exact congrArg (Ct.arr (A := AF) 3) htk.symm
  · have hi : i = es.length := by omega
    subst hi
    rw [List.take_of_length_le (Nat.le_refl _)] at hol
    conv => whnf
    repeat' (first | (refine tell (fun htest => ?_) (fun htest => ?_) <;> (try dsimp only at htest) <;> first | (exfalso; omega) | (exact absurd rfl htest) | (exact absurd (by decide) htest) | (conv => whnf)) | (refine allG rfl ?_; conv => whnf) | (refine And.intro (by first | omega | assumption | kernel_rfl | exact And.intro rfl rfl | ((try dsimp only [inR, idx, lowOf]); first | omega | (with_reducible decide) | (simp; omega) | fail) | fail) ?_; conv => whnf) | fail)
    refine ⟨(), [3000], trivial, ?_, ⟨?_, trivial⟩, trivial⟩
    · exact (show SV.sl (A := AF) 3000 1 0 (outL (es.take es.length) k 0).length = SV.sl 3000 1 0 (outL es k 0).length by rw [List.take_of_length_le (Nat.le_refl _)])
    · exact congrArg (Ct.arr (A := AF) 3) (show outL (es.take es.length) k 0 = outL es k 0 by rw [List.take_of_length_le (Nat.le_refl _)])
noncomputable def spReach2 : Spec AF where
  γ := (Int × List Edge) × List Int × Int
  δ := Unit
  args := fun g => [layS g.1.1 g.1.2, .lst 3 g.2.1, vI g.2.2]
  own := fun _ => []
  pre := fun g => GoodL g.1.2 ∧ g.2.1.length ≤ 9223372036854775807 ∧ RightL g.1.1 g.1.2 ∧ 0 ≤ g.2.2 ∧ g.2.2 < g.1.1
  nnew := 1
  res := fun g _ => .sl 0 1 0 (reachN g.1.2 g.2.1 g.2.2 40).length
  own' := fun g _ => [some (.arr 3 (reachN g.1.2 g.2.1 g.2.2 40))]
  post := fun _ _ => True
theorem m_reach2 : Meets Try.prog regF 44 spReach2 := by
  refine meets Try.func44 36 noWr rfl (by kernel_rfl) (by kernel_rfl) ?_
  rintro ⟨⟨(n : Int), (es : List Edge)⟩, (bl : List Int), (s : Int)⟩ ⟨(hg : GoodL es), (hbl : bl.length ≤ 9223372036854775807), (hok : RightL n es ∧ 0 ≤ s ∧ s < n)⟩
  conv => whnf
  repeat' (first | (refine tell (fun htest => ?_) (fun htest => ?_) <;> (try dsimp only at htest) <;> first | (exfalso; omega) | (exact absurd rfl htest) | (exact absurd (by decide) htest) | (conv => whnf)) | (refine allG rfl ?_; conv => whnf) | (refine And.intro (by first | omega | assumption | kernel_rfl | exact And.intro rfl rfl | ((try dsimp only [inR, idx, lowOf]); first | omega | (with_reducible decide) | (simp; omega) | fail) | fail) ?_; conv => whnf) | fail)
  refine ⟨_, m_right, (n, es), [], false, ?_⟩
  conv => whnf
  refine And.intro (vc0 hg (by (repeat' (first | exact trivial | exact rfl | refine And.intro ?_ ?_ | (refine congrArg vI ?_; first | omega | (dsimp only; omega) | fail) | (refine congrArg some ?_) | omega | exact Nat.le_refl _ | exact congrArg (SV.lst _) (List.take_of_length_le (Nat.le_refl _)).symm))) (by repeat' (first | exact trivial | exact rfl | refine And.intro ?_ ?_ | (refine congrArg vI ?_; first | omega | (dsimp only; omega) | fail) | (refine congrArg some ?_) | omega | exact Nat.le_refl _ | exact congrArg (SV.lst _) (List.take_of_length_le (Nat.le_refl _)).symm)) trivial trivial) ?_
  refine And.intro (right_ex n es) ?_
  intro (c : Bool) (hc : c = true ↔ RightL n es)
  obtain ⟨hr, h0, hsn⟩ := hok
  cases c
  · have := hc.2 hr; cases this
  conv => whnf
  repeat' (first | (refine tell (fun htest => ?_) (fun htest => ?_) <;> (try dsimp only at htest) <;> first | (exfalso; omega) | (exact absurd rfl htest) | (exact absurd (by decide) htest) | (conv => whnf)) | (refine allG rfl ?_; conv => whnf) | (refine And.intro (by first | omega | assumption | kernel_rfl | exact And.intro rfl rfl | ((try dsimp only [inR, idx, lowOf]); first | omega | (with_reducible decide) | (simp; omega) | fail) | fail) ?_; conv => whnf) | fail)
  refine ⟨_, m_reached, ((n, es), bl, s, false), [], false, ?_⟩
  conv => whnf
  refine And.intro (vc0 ⟨hr, h0, hsn, hbl⟩ (by (repeat' (first | exact trivial | exact rfl | refine And.intro ?_ ?_ | (refine congrArg vI ?_; first | omega | (dsimp only; omega) | fail) | (refine congrArg some ?_) | omega | exact Nat.le_refl _ | exact congrArg (SV.lst _) (List.take_of_length_le (Nat.le_refl _)).symm))) (by repeat' (first | exact trivial | exact rfl | refine And.intro ?_ ?_ | (refine congrArg vI ?_; first | omega | (dsimp only; omega) | fail) | (refine congrArg some ?_) | omega | exact Nat.le_refl _ | exact congrArg (SV.lst _) (List.take_of_length_le (Nat.le_refl _)).symm)) trivial trivial) ?_
  refine And.intro (reached_ex es bl false s n hr h0 hsn) ?_
  rintro (d : List Bool) ⟨(hd : d.length = 40), (hd2 : ∀ v : Nat, d[v]? = some true ↔ ReachI es bl false s v)⟩
  conv => whnf
  repeat' (first | (refine tell (fun htest => ?_) (fun htest => ?_) <;> (try dsimp only at htest) <;> first | (exfalso; omega) | (exact absurd rfl htest) | (exact absurd (by decide) htest) | (conv => whnf)) | (refine allG rfl ?_; conv => whnf) | (refine And.intro (by first | omega | assumption | kernel_rfl | exact And.intro rfl rfl | ((try dsimp only [inR, idx, lowOf]); first | omega | (with_reducible decide) | (simp; omega) | fail) | fail) ?_; conv => whnf) | fail)
  refine ⟨Nat, fun i => ⟨[(6, .sl 3000 1 0 (reachN es bl s i).length), (25, .aggl 4 d), (26, vI i)], [(3000, .arr 3 (reachN es bl s i))]⟩, fun i => i ≤ 40, fun i => 40 - i, fun _ _ => rfl, ⟨0, [], Nat.zero_le _, ?_⟩, ?_⟩
  · refine ⟨rfl, ?_, ?_, rfl⟩
    all_goals (repeat' (first | exact trivial | exact rfl | refine And.intro ?_ ?_ | (refine congrArg vI ?_; first | omega | (dsimp only; omega) | fail) | (refine congrArg some ?_) | omega | exact Nat.le_refl _ | exact congrArg (SV.lst _) (List.take_of_length_le (Nat.le_refl _)).symm))
  rintro (i : Nat) (hi : i ≤ 40)
  have hln := reachN_len es bl s i
  have hsu := reachN_succ es bl s i
  by_cases hlt : i < 40
  · obtain ⟨b, hb⟩ : ∃ b, d[i]? = some b := ⟨_, List.getElem?_eq_getElem (by omega)⟩
    have hbb : b = inB es bl false s i := by
      cases b
      · cases e : inB es bl false s i with
        | false => rfl
        | true => have := (hd2 i).2 (inB_iff.1 e); rw [hb] at this; cases this
      · exact (inB_iff.2 ((hd2 i).1 hb)).symm
    cases b
    · rw [← hbb, if_neg (by simp), List.append_nil] at hsu
      conv => whnf
      repeat' (first | (refine tell (fun htest => ?_) (fun htest => ?_) <;> (try dsimp only at htest) <;> first | (exfalso; omega) | (exact absurd rfl htest) | (exact absurd (by decide) htest) | (conv => whnf)) | (refine allG (x := false) (by first | exact hb | simpa [List.getElem?_append_right, lowOf] using hb | fail) ?_; conv => whnf) | (refine allLst (x := false) (by first | omega | assumption | fail) (by first | exact hb | simpa using hb | fail) ?_; conv => whnf) | (refine allG rfl ?_; conv => whnf) | (refine And.intro (by first | omega | assumption | kernel_rfl | exact And.intro rfl rfl | ((try dsimp only [inR, idx, lowOf]); first | omega | (with_reducible decide) | (simp; omega) | fail) | fail) ?_; conv => whnf) | fail)
      refine ⟨i + 1, [], hlt, ?_, rfl, ?_, ?_, rfl⟩
      · dsimp only; first | omega | (simp; done) | (simp; omega)
      all_goals (repeat' (first | exact trivial | exact rfl | refine And.intro ?_ ?_ | (refine congrArg vI ?_; first | omega | (dsimp only; omega) | fail) | (refine congrArg some ?_) | omega | exact Nat.le_refl _ | exact congrArg (SV.lst _) (List.take_of_length_le (Nat.le_refl _)).symm))
      · exact congrArg (SV.sl (A := AF) 3000 1 0) (congrArg List.length hsu.symm)
      · exact congrArg (Ct.arr (A := AF) 3) hsu.symm
    · rw [← hbb, if_pos rfl] at hsu
      conv => whnf
      repeat' (first | (refine tell (fun htest => ?_) (fun htest => ?_) <;> (try dsimp only at htest) <;> first | (exfalso; omega) | (exact absurd rfl htest) | (exact absurd (by decide) htest) | (conv => whnf)) | (refine allG (x := true) (by first | exact hb | simpa [List.getElem?_append_right, lowOf] using hb | fail) ?_; conv => whnf) | (refine allLst (x := true) (by first | omega | assumption | fail) (by first | exact hb | simpa using hb | fail) ?_; conv => whnf) | (refine allG rfl ?_; conv => whnf) | (refine And.intro (by first | omega | assumption | kernel_rfl | exact And.intro rfl rfl | ((try dsimp only [inR, idx, lowOf]); first | omega | (with_reducible decide) | (simp; omega) | fail) | fail) ?_; conv => whnf) | fail)
      refine ⟨i + 1, [(3000, 1034)], hlt, ?_, rfl, ?_, ?_, rfl⟩
      · dsimp only; first | omega | (simp; done) | (simp; omega)
      all_goals (repeat' (first | exact trivial | exact rfl | refine And.intro ?_ ?_ | (refine congrArg vI ?_; first | omega | (dsimp only; omega) | fail) | (refine congrArg some ?_) | omega | exact Nat.le_refl _ | exact congrArg (SV.lst _) (List.take_of_length_le (Nat.le_refl _)).symm))
      · exact congrArg (SV.sl (A := AF) 1034 1 0) (show (reachN es bl s i).length + 1 = (reachN es bl s (i + 1)).length by rw [hsu]; simp)
      · exact congrArg (Ct.arr (A := AF) 3) (show ((reachN es bl s i).drop 0).take (reachN es bl s i).length ++ [(i : Int)] = reachN es bl s (i + 1) by rw [hsu]; simp)
  · have hi : i = 40 := by omega
    subst hi
    conv => whnf
    repeat' (first | (refine tell (fun htest => ?_) (fun htest => ?_) <;> (try dsimp only at htest) <;> first | (exfalso; omega) | (exact absurd rfl htest) | (exact absurd (by decide) htest) | (conv => whnf)) | (refine allG rfl ?_; conv => whnf) | (refine And.intro (by first | omega | assumption | kernel_rfl | exact And.intro rfl rfl | ((try dsimp only [inR, idx, lowOf]); first | omega | (with_reducible decide) | (simp; omega) | fail) | fail) ?_; conv => whnf) | fail)
    exact ⟨(), [3000], trivial, rfl, ⟨rfl, trivial⟩, trivial⟩
end Go.Sx

