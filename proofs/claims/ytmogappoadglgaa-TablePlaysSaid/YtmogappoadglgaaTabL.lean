/-
  Layer 14, part L: the document's Claim and Free.
-/
import Derived.Test.YtmogappoadglgaaTabK
namespace Go.Sx
open Go Go.Proofs Go.Proofs.Ytmogappoadglgaa
theorem insR_len (r : TM) (x w : Int) : (insR r x w).length = r.length + 1 := by
  have := findK_le r x
  unfold insR; simp; omega
theorem keysR_ins (r : TM) (x w : Int) : keysR (insR r x w) = (keysR r).take (findK r x) ++ x :: (keysR r).drop (findK r x) := by unfold keysR insR; simp
theorem whosR_ins (r : TM) (x w : Int) : whosR (insR r x w) = (whosR r).take (findK r x) ++ w :: (whosR r).drop (findK r x) := by unfold whosR insR; simp
theorem keysR_del (r : TM) (x : Int) : keysR (delR r x) = (keysR r).take (findK r x) ++ (keysR r).drop (findK r x + 1) := by unfold keysR delR; simp
theorem whosR_del (r : TM) (x : Int) : whosR (delR r x) = (whosR r).take (findK r x) ++ (whosR r).drop (findK r x + 1) := by unfold whosR delR; simp
theorem cut_ins {L : List Int} {k n : Nat} (hk : k ≤ n) (hL : L.length = n) (x : Int) :
    ((((((L.drop 0).take k).drop 0).take k ++ [x]).drop 0).take (k + 1)) ++ (L.drop (0 + k)).take (n - k) = L.take k ++ x :: L.drop k := by
  have e2 : (L.take k ++ [x]).take (k + 1) = L.take k ++ [x] := List.take_of_length_le (by simp; omega)
  have e3 : (L.drop k).take (n - k) = L.drop k := List.take_of_length_le (by simp; omega)
  simp only [List.drop_zero, Nat.zero_add, List.take_take, Nat.min_self, e2, e3]
  simp
theorem cut_del {L : List Int} {k n : Nat} (hL : L.length = n) :
    (((L.drop 0).take k).drop 0).take k ++ (L.drop (0 + (k + 1))).take (n - (k + 1)) = L.take k ++ L.drop (k + 1) := by
  have e3 : (L.drop (k + 1)).take (n - (k + 1)) = L.drop (k + 1) := List.take_of_length_le (by simp; omega)
  simp only [List.drop_zero, Nat.zero_add, List.take_take, Nat.min_self, e3]
def ClaimPost (g : TM × Int × List Int) (d : Bool × TM) : Prop := (d.1 = true ↔ ClaimOk g.1 g.2.1 g.2.2) ∧ Rises d.2 ∧ d.2.length ≤ g.1.length + g.2.2.length ∧ ∀ y, lookT d.2 y = if d.1 = true ∧ y ∈ g.2.2 then some g.2.1 else lookT g.1 y
def spRClaim : Spec AF where
  γ := TM × Int × List Int
  δ := Bool × TM
  args := fun g => [.ptr 0 0 2 0, vI g.2.1, .lst 3 g.2.2]
  own := fun g => ownR g.1
  pre := fun g => g.1.length + g.2.2.length ≤ 17592186044416 ∧ Rises g.1
  nnew := 2
  res := fun _ d => vB d.1
  own' := fun _ d => [some (refT 3 4 d.2.length), none, none, some (.arr 3 (keysR d.2)), some (.arr 3 (whosR d.2))]
  post := ClaimPost
theorem m_rclaim : Meets Try.prog regF 67 spRClaim := by
  refine meets Try.func67 100 noWr rfl (by kernel_rfl) (by kernel_rfl) ?_
  rintro ⟨(r : TM), (who : Int), (l : List Int)⟩ ⟨(hl : r.length + l.length ≤ 17592186044416), (hr : Rises r)⟩
  have hkl := keysR_len r
  have hwl := whosR_len r
  conv => whnf
  repeat' (first | (refine tell (fun htest => ?_) (fun htest => ?_) <;> (try dsimp only at htest) <;> first | (exfalso; omega) | (exact absurd rfl htest) | (exact absurd (by decide) htest) | (conv => whnf)) | (refine allG rfl ?_; conv => whnf) | (refine And.intro (by first | omega | assumption | kernel_rfl | exact And.intro rfl rfl | ((try dsimp only [inR, idx, lowOf]); first | omega | (with_reducible decide) | (simp; omega) | fail) | fail) ?_; conv => whnf) | fail)
  refine ⟨Nat, fun i => ⟨[(0, .ptr 0 0 2 0), (1, vI who), (2, .lst 3 l), (7, vI i)], [(0, refT 3001 3002 r.length), (3001, .arr 3 (keysR r)), (3002, .arr 3 (whosR r))]⟩, fun i => i ≤ l.length ∧ ClaimOk r who (l.take i), fun i => l.length - i, fun _ _ => rfl, ⟨0, [(3001, 1), (3002, 2)], ⟨Nat.zero_le _, fun _ h => by simp at h⟩, ?_⟩, ?_⟩
  · refine ⟨rfl, ?_, ?_, rfl⟩
    all_goals (repeat' (first | exact trivial | exact rfl | refine And.intro ?_ ?_ | (refine congrArg vI ?_; first | omega | (dsimp only; omega) | fail) | (refine congrArg some ?_) | omega | exact Nat.le_refl _ | exact congrArg (SV.lst _) (List.take_of_length_le (Nat.le_refl _)).symm))
  rintro (i : Nat) ⟨(hi : i ≤ l.length), (hs : ClaimOk r who (l.take i))⟩
  by_cases hlt : i < l.length
  · obtain ⟨x, hx⟩ : ∃ x, l[i]? = some x := ⟨_, List.getElem?_eq_getElem hlt⟩
    have hm := List.mem_of_getElem? hx
    have hsn := claim_snoc (m := r) (w := who) hx
    conv => whnf
    repeat' (first | (refine tell (fun htest => ?_) (fun htest => ?_) <;> (try dsimp only at htest) <;> first | (exfalso; omega) | (exact absurd rfl htest) | (exact absurd (by decide) htest) | (conv => whnf)) | (refine allG (x := x) (by first | exact hx | simpa [List.getElem?_append_right, lowOf] using hx | fail) ?_; conv => whnf) | (refine allLst (x := x) (by first | omega | assumption | fail) (by first | exact hx | simpa using hx | fail) ?_; conv => whnf) | (refine allG rfl ?_; conv => whnf) | (refine And.intro (by first | omega | assumption | kernel_rfl | exact And.intro rfl rfl | ((try dsimp only [inR, idx, lowOf]); first | omega | (with_reducible decide) | (simp; omega) | fail) | fail) ?_; conv => whnf) | fail)
    refine ⟨_, m_find, (r, x), [0, 3001, 3002], false, ?_⟩
    conv => whnf
    refine And.intro (vc0 (by show r.length ≤ 9223372036854775807; omega) (by (repeat' (first | exact trivial | exact rfl | refine And.intro ?_ ?_ | (refine congrArg vI ?_; first | omega | (dsimp only; omega) | fail) | (refine congrArg some ?_) | omega | exact Nat.le_refl _ | exact congrArg (SV.lst _) (List.take_of_length_le (Nat.le_refl _)).symm))) (by repeat' (first | exact trivial | exact rfl | refine And.intro ?_ ?_ | (refine congrArg vI ?_; first | omega | (dsimp only; omega) | fail) | (refine congrArg some ?_) | omega | exact Nat.le_refl _ | exact congrArg (SV.lst _) (List.take_of_length_le (Nat.le_refl _)).symm)) trivial trivial) ?_
    refine And.intro (find_ex r x) ?_
    rintro ⟨(k : Nat), (is : Bool)⟩ hd
    cases is
    · have hd : lookT r x = none := find_no hr hd
      have hk := hsn.2 ⟨hs, fun w hw => by rw [hd] at hw; cases hw⟩
      conv => whnf
      repeat' (first | (refine tell (fun htest => ?_) (fun htest => ?_) <;> (try dsimp only at htest) <;> first | (exfalso; omega) | (exact absurd rfl htest) | (exact absurd (by decide) htest) | (conv => whnf)) | (refine allG rfl ?_; conv => whnf) | (refine And.intro (by first | omega | assumption | kernel_rfl | exact And.intro rfl rfl | ((try dsimp only [inR, idx, lowOf]); first | omega | (with_reducible decide) | (simp; omega) | fail) | fail) ?_; conv => whnf) | fail)
      refine ⟨i + 1, [], ⟨hlt, hk⟩, ?_, rfl, ?_, ?_, rfl⟩
      · dsimp only; first | omega | (simp; done) | (simp; omega)
      all_goals (repeat' (first | exact trivial | exact rfl | refine And.intro ?_ ?_ | (refine congrArg vI ?_; first | omega | (dsimp only; omega) | fail) | (refine congrArg some ?_) | omega | exact Nat.le_refl _ | exact congrArg (SV.lst _) (List.take_of_length_le (Nat.le_refl _)).symm))
    · obtain ⟨w, hw, hd⟩ := find_yes hr hd
      have hwk := whosR_at hw
      have hkl2 := (List.getElem?_eq_some_iff.1 hw).1
      by_cases hww : w = who
      · have hk := hsn.2 ⟨hs, fun w' hw' => by rw [hd] at hw'; cases hw'; exact hww⟩
        conv => whnf
        repeat' (first | (refine tell (fun htest => ?_) (fun htest => ?_) <;> (try dsimp only at htest) <;> first | (exfalso; omega) | (exact absurd rfl htest) | (exact absurd (by decide) htest) | (conv => whnf)) | (refine allG (x := w) (by first | exact hwk | simpa [List.getElem?_append_right, lowOf] using hwk | fail) ?_; conv => whnf) | (refine allLst (x := w) (by first | omega | assumption | fail) (by first | exact hwk | simpa using hwk | fail) ?_; conv => whnf) | (refine allG rfl ?_; conv => whnf) | (refine And.intro (by first | omega | assumption | kernel_rfl | exact And.intro rfl rfl | ((try dsimp only [inR, idx, lowOf]); first | omega | (with_reducible decide) | (simp; omega) | fail) | fail) ?_; conv => whnf) | fail)
        refine ⟨i + 1, [], ⟨hlt, hk⟩, ?_, rfl, ?_, ?_, rfl⟩
        · dsimp only; first | omega | (simp; done) | (simp; omega)
        all_goals (repeat' (first | exact trivial | exact rfl | refine And.intro ?_ ?_ | (refine congrArg vI ?_; first | omega | (dsimp only; omega) | fail) | (refine congrArg some ?_) | omega | exact Nat.le_refl _ | exact congrArg (SV.lst _) (List.take_of_length_le (Nat.le_refl _)).symm))
      · have hno : ¬ ClaimOk r who l := fun h => hww (h x hm w hd)
        conv => whnf
        repeat' (first | (refine tell (fun htest => ?_) (fun htest => ?_) <;> (try dsimp only at htest) <;> first | (exfalso; omega) | (exact absurd rfl htest) | (exact absurd (by decide) htest) | (conv => whnf)) | (refine allG (x := w) (by first | exact hwk | simpa [List.getElem?_append_right, lowOf] using hwk | fail) ?_; conv => whnf) | (refine allLst (x := w) (by first | omega | assumption | fail) (by first | exact hwk | simpa using hwk | fail) ?_; conv => whnf) | (refine allG rfl ?_; conv => whnf) | (refine And.intro (by first | omega | assumption | kernel_rfl | exact And.intro rfl rfl | ((try dsimp only [inR, idx, lowOf]); first | omega | (with_reducible decide) | (simp; omega) | fail) | fail) ?_; conv => whnf) | fail)
        exact ⟨(false, r), [3001, 3002], ⟨by simp [hno], hr, by dsimp only; omega, fun y => by simp⟩, rfl, ⟨⟨rfl, rfl, trivial⟩, trivial, trivial, rfl, rfl, trivial⟩, trivial⟩
  · rw [List.take_of_length_le (by omega)] at hs
    conv => whnf
    repeat' (first | (refine tell (fun htest => ?_) (fun htest => ?_) <;> (try dsimp only at htest) <;> first | (exfalso; omega) | (exact absurd rfl htest) | (exact absurd (by decide) htest) | (conv => whnf)) | (refine allG rfl ?_; conv => whnf) | (refine And.intro (by first | omega | assumption | kernel_rfl | exact And.intro rfl rfl | ((try dsimp only [inR, idx, lowOf]); first | omega | (with_reducible decide) | (simp; omega) | fail) | fail) ?_; conv => whnf) | fail)
    refine ⟨Nat × TM, fun p => ⟨[(0, .ptr 0 0 2 0), (1, vI who), (2, .lst 3 l), (10, vI p.1)], [(0, refT 3001 3002 p.2.length), (3001, .arr 3 (keysR p.2)), (3002, .arr 3 (whosR p.2))]⟩, fun p => p.1 ≤ l.length ∧ Rises p.2 ∧ p.2.length ≤ r.length + p.1 ∧ ∀ y, lookT p.2 y = if y ∈ l.take p.1 then some who else lookT r y, fun p => l.length - p.1, fun _ _ => rfl, ⟨(0, r), [], ⟨Nat.zero_le _, hr, Nat.le_refl _, fun y => by simp⟩, ?_⟩, ?_⟩
    · refine ⟨rfl, ?_, ?_, rfl⟩
      all_goals (repeat' (first | exact trivial | exact rfl | refine And.intro ?_ ?_ | (refine congrArg vI ?_; first | omega | (dsimp only; omega) | fail) | (refine congrArg some ?_) | omega | exact Nat.le_refl _ | exact congrArg (SV.lst _) (List.take_of_length_le (Nat.le_refl _)).symm))
    rintro ⟨(i : Nat), (r2 : TM)⟩ ⟨(hi : i ≤ l.length), (hr2 : Rises r2), (hl2 : r2.length ≤ r.length + i), (hlk : ∀ y, lookT r2 y = if y ∈ l.take i then some who else lookT r y)⟩
    have hkl2 := keysR_len r2
    have hwl2 := whosR_len r2
    by_cases hlt : i < l.length
    · obtain ⟨x, hx⟩ : ∃ x, l[i]? = some x := ⟨_, List.getElem?_eq_getElem hlt⟩
      have hm := List.mem_of_getElem? hx
      have hfk := findK_le r2 x
      conv => whnf
      repeat' (first | (refine tell (fun htest => ?_) (fun htest => ?_) <;> (try dsimp only at htest) <;> first | (exfalso; omega) | (exact absurd rfl htest) | (exact absurd (by decide) htest) | (conv => whnf)) | (refine allG (x := x) (by first | exact hx | simpa [List.getElem?_append_right, lowOf] using hx | fail) ?_; conv => whnf) | (refine allLst (x := x) (by first | omega | assumption | fail) (by first | exact hx | simpa using hx | fail) ?_; conv => whnf) | (refine allG rfl ?_; conv => whnf) | (refine And.intro (by first | omega | assumption | kernel_rfl | exact And.intro rfl rfl | ((try dsimp only [inR, idx, lowOf]); first | omega | (with_reducible decide) | (simp; omega) | fail) | fail) ?_; conv => whnf) | fail)
      refine ⟨_, m_find, (r2, x), [0, 3001, 3002], false, ?_⟩
      conv => whnf
      refine And.intro (vc0 (by show r2.length ≤ 9223372036854775807; omega) (by (repeat' (first | exact trivial | exact rfl | refine And.intro ?_ ?_ | (refine congrArg vI ?_; first | omega | (dsimp only; omega) | fail) | (refine congrArg some ?_) | omega | exact Nat.le_refl _ | exact congrArg (SV.lst _) (List.take_of_length_le (Nat.le_refl _)).symm))) (by repeat' (first | exact trivial | exact rfl | refine And.intro ?_ ?_ | (refine congrArg vI ?_; first | omega | (dsimp only; omega) | fail) | (refine congrArg some ?_) | omega | exact Nat.le_refl _ | exact congrArg (SV.lst _) (List.take_of_length_le (Nat.le_refl _)).symm)) trivial trivial) ?_
      refine And.intro (find_ex r2 x) ?_
      rintro ⟨(k : Nat), (is : Bool)⟩ hd
      cases is
      · have hk : k = findK r2 x := hd.1
        subst hk
        have hd : lookT r2 x = none := find_no hr2 hd
        have h3 : ∀ y, lookT (insR r2 x who) y = if y ∈ l.take (i + 1) then some who else lookT r y := fun y => by
          rw [insR_look hr2 hd]
          by_cases hy : y = x
          · rw [if_pos hy, if_pos ((mem_snoc hx).2 (.inr hy.symm))]
          · rw [if_neg hy, hlk]
            by_cases hm2 : y ∈ l.take i
            · rw [if_pos hm2, if_pos ((mem_snoc hx).2 (.inl hm2))]
            · rw [if_neg hm2, if_neg fun h => ((mem_snoc hx).1 h).elim hm2 fun e => hy e.symm]
        conv => whnf
        repeat' (first | (refine tell (fun htest => ?_) (fun htest => ?_) <;> (try dsimp only at htest) <;> first | (exfalso; omega) | (exact absurd rfl htest) | (exact absurd (by decide) htest) | (conv => whnf)) | (refine allG (x := x) (by first | exact hx | simpa [List.getElem?_append_right, lowOf] using hx | fail) ?_; conv => whnf) | (refine allLst (x := x) (by first | omega | assumption | fail) (by first | exact hx | simpa using hx | fail) ?_; conv => whnf) | (refine allG rfl ?_; conv => whnf) | (refine And.intro (by first | omega | assumption | kernel_rfl | exact And.intro rfl rfl | ((try dsimp only [inR, idx, lowOf]); first | omega | (with_reducible decide) | (simp; omega) | fail) | fail) ?_; conv => whnf) | fail)
        refine ⟨(i + 1, insR r2 x who), [(3001, 1077), (3002, 1097)], ⟨hlt, insR_rises hr2 hd, by dsimp only; rw [insR_len]; omega, h3⟩, ?_, rfl, ?_, ?_, rfl⟩
        · dsimp only; first | omega | (simp; done) | (simp; omega)
        all_goals (repeat' (first | exact trivial | exact rfl | refine And.intro ?_ ?_ | (refine congrArg vI ?_; first | omega | (dsimp only; omega) | fail) | (refine congrArg some ?_) | omega | exact Nat.le_refl _ | exact congrArg (SV.lst _) (List.take_of_length_le (Nat.le_refl _)).symm))
        · exact congrArg (SV.sl (A := AF) 1077 1 0) (show findK r2 x + 1 + (r2.length - findK r2 x) = (insR r2 x who).length by rw [insR_len]; omega)
        · exact congrArg (SV.sl (A := AF) 1097 1 0) (show findK r2 x + 1 + (r2.length - findK r2 x) = (insR r2 x who).length by rw [insR_len]; omega)
        · exact congrArg (Ct.arr (A := AF) 3) (show ((((((keysR r2).drop 0).take (findK r2 x)).drop 0).take (findK r2 x) ++ [x]).drop 0).take (findK r2 x + 1) ++ ((keysR r2).drop (0 + findK r2 x)).take (r2.length - findK r2 x) = keysR (insR r2 x who) by rw [keysR_ins]; exact cut_ins hfk hkl2 x)
        · exact congrArg (Ct.arr (A := AF) 3) (show ((((((whosR r2).drop 0).take (findK r2 x)).drop 0).take (findK r2 x) ++ [who]).drop 0).take (findK r2 x + 1) ++ ((whosR r2).drop (0 + findK r2 x)).take (r2.length - findK r2 x) = whosR (insR r2 x who) by rw [whosR_ins]; exact cut_ins hfk hwl2 who)
      · obtain ⟨w, hw, hd2⟩ := find_yes hr2 hd
        have hww : w = who := by
          have := hlk x
          rw [hd2] at this
          split at this
          · exact Option.some.inj this
          · exact hs x hm w this.symm
        have h3 : ∀ y, lookT r2 y = if y ∈ l.take (i + 1) then some who else lookT r y := fun y => by
          by_cases hy : y = x
          · rw [if_pos ((mem_snoc hx).2 (.inr hy.symm)), hy, hd2, hww]
          · rw [hlk]
            by_cases hm2 : y ∈ l.take i
            · rw [if_pos hm2, if_pos ((mem_snoc hx).2 (.inl hm2))]
            · rw [if_neg hm2, if_neg fun h => ((mem_snoc hx).1 h).elim hm2 fun e => hy e.symm]
        conv => whnf
        repeat' (first | (refine tell (fun htest => ?_) (fun htest => ?_) <;> (try dsimp only at htest) <;> first | (exfalso; omega) | (exact absurd rfl htest) | (exact absurd (by decide) htest) | (conv => whnf)) | (refine allG rfl ?_; conv => whnf) | (refine And.intro (by first | omega | assumption | kernel_rfl | exact And.intro rfl rfl | ((try dsimp only [inR, idx, lowOf]); first | omega | (with_reducible decide) | (simp; omega) | fail) | fail) ?_; conv => whnf) | fail)
        refine ⟨(i + 1, r2), [], ⟨hlt, hr2, by dsimp only; omega, h3⟩, ?_, rfl, ?_, ?_, rfl⟩
        · dsimp only; first | omega | (simp; done) | (simp; omega)
        all_goals (repeat' (first | exact trivial | exact rfl | refine And.intro ?_ ?_ | (refine congrArg vI ?_; first | omega | (dsimp only; omega) | fail) | (refine congrArg some ?_) | omega | exact Nat.le_refl _ | exact congrArg (SV.lst _) (List.take_of_length_le (Nat.le_refl _)).symm))
    · rw [List.take_of_length_le (by omega)] at hlk
      conv => whnf
      repeat' (first | (refine tell (fun htest => ?_) (fun htest => ?_) <;> (try dsimp only at htest) <;> first | (exfalso; omega) | (exact absurd rfl htest) | (exact absurd (by decide) htest) | (conv => whnf)) | (refine allG rfl ?_; conv => whnf) | (refine And.intro (by first | omega | assumption | kernel_rfl | exact And.intro rfl rfl | ((try dsimp only [inR, idx, lowOf]); first | omega | (with_reducible decide) | (simp; omega) | fail) | fail) ?_; conv => whnf) | fail)
      exact ⟨(true, r2), [3001, 3002], ⟨by simp [hs], hr2, by dsimp only; omega, fun y => by rw [hlk]; simp⟩, rfl, ⟨⟨rfl, rfl, trivial⟩, trivial, trivial, rfl, rfl, trivial⟩, trivial⟩
theorem delR_len {r : TM} {x : Int} (h : findK r x < r.length) : (delR r x).length + 1 = r.length := by
  unfold delR; simp; omega
def spRFree : Spec AF where
  γ := TM × Int × List Int
  δ := TM × Nat
  args := fun g => [.ptr 0 0 2 0, vI g.2.1, .lst 3 g.2.2]
  own := fun g => ownR g.1
  pre := fun g => g.1.length ≤ 17592186044416 ∧ g.2.2.length ≤ 9223372036854775807 ∧ Rises g.1
  nnew := 2
  res := fun _ d => vI d.2
  own' := fun _ d => [some (refT 3 4 d.1.length), none, none, some (.arr 3 (keysR d.1)), some (.arr 3 (whosR d.1))]
  post := fun g d => d = freeL g.2.1 g.1 g.2.2 ∧ Rises d.1 ∧ d.1.length ≤ g.1.length
theorem m_rfree : Meets Try.prog regF 71 spRFree := by
  refine meets Try.func71 77 noWr rfl (by kernel_rfl) (by kernel_rfl) ?_
  rintro ⟨(r : TM), (who : Int), (l : List Int)⟩ ⟨(hl : r.length ≤ 17592186044416), (hll : l.length ≤ 9223372036854775807), (hr : Rises r)⟩
  conv => whnf
  repeat' (first | (refine tell (fun htest => ?_) (fun htest => ?_) <;> (try dsimp only at htest) <;> first | (exfalso; omega) | (exact absurd rfl htest) | (exact absurd (by decide) htest) | (conv => whnf)) | (refine allG rfl ?_; conv => whnf) | (refine And.intro (by first | omega | assumption | kernel_rfl | exact And.intro rfl rfl | ((try dsimp only [inR, idx, lowOf]); first | omega | (with_reducible decide) | (simp; omega) | fail) | fail) ?_; conv => whnf) | fail)
  refine ⟨Nat × TM × Nat, fun p => ⟨[(0, .ptr 0 0 2 0), (1, vI who), (2, .lst 3 l), (7, vI p.2.2), (8, vI p.1)], [(0, refT 3001 3002 p.2.1.length), (3001, .arr 3 (keysR p.2.1)), (3002, .arr 3 (whosR p.2.1))]⟩, fun p => p.1 ≤ l.length ∧ p.2.2 ≤ p.1 ∧ p.2 = freeL who r (l.take p.1) ∧ Rises p.2.1 ∧ p.2.1.length ≤ r.length, fun p => l.length - p.1, fun _ _ => rfl, ⟨(0, r, 0), [(3001, 1), (3002, 2)], ⟨Nat.zero_le _, Nat.zero_le _, rfl, hr, Nat.le_refl _⟩, ?_⟩, ?_⟩
  · refine ⟨rfl, ?_, ?_, rfl⟩
    all_goals (repeat' (first | exact trivial | exact rfl | refine And.intro ?_ ?_ | (refine congrArg vI ?_; first | omega | (dsimp only; omega) | fail) | (refine congrArg some ?_) | omega | exact Nat.le_refl _ | exact congrArg (SV.lst _) (List.take_of_length_le (Nat.le_refl _)).symm))
  rintro ⟨(i : Nat), (r2 : TM), (n : Nat)⟩ ⟨(hi : i ≤ l.length), (hn : n ≤ i), (hs : (r2, n) = freeL who r (l.take i)), (hr2 : Rises r2), (hl2 : r2.length ≤ r.length)⟩
  have hkl2 := keysR_len r2
  have hwl2 := whosR_len r2
  by_cases hlt : i < l.length
  · obtain ⟨x, hx⟩ : ∃ x, l[i]? = some x := ⟨_, List.getElem?_eq_getElem hlt⟩
    have hsn := freeL_snoc (who := who) (es := r) hx
    rw [← hs] at hsn
    have hfk := findK_le r2 x
    conv => whnf
    repeat' (first | (refine tell (fun htest => ?_) (fun htest => ?_) <;> (try dsimp only at htest) <;> first | (exfalso; omega) | (exact absurd rfl htest) | (exact absurd (by decide) htest) | (conv => whnf)) | (refine allG (x := x) (by first | exact hx | simpa [List.getElem?_append_right, lowOf] using hx | fail) ?_; conv => whnf) | (refine allLst (x := x) (by first | omega | assumption | fail) (by first | exact hx | simpa using hx | fail) ?_; conv => whnf) | (refine allG rfl ?_; conv => whnf) | (refine And.intro (by first | omega | assumption | kernel_rfl | exact And.intro rfl rfl | ((try dsimp only [inR, idx, lowOf]); first | omega | (with_reducible decide) | (simp; omega) | fail) | fail) ?_; conv => whnf) | fail)
    refine ⟨_, m_find, (r2, x), [0, 3001, 3002], false, ?_⟩
    conv => whnf
    refine And.intro (vc0 (by show r2.length ≤ 9223372036854775807; omega) (by (repeat' (first | exact trivial | exact rfl | refine And.intro ?_ ?_ | (refine congrArg vI ?_; first | omega | (dsimp only; omega) | fail) | (refine congrArg some ?_) | omega | exact Nat.le_refl _ | exact congrArg (SV.lst _) (List.take_of_length_le (Nat.le_refl _)).symm))) (by repeat' (first | exact trivial | exact rfl | refine And.intro ?_ ?_ | (refine congrArg vI ?_; first | omega | (dsimp only; omega) | fail) | (refine congrArg some ?_) | omega | exact Nat.le_refl _ | exact congrArg (SV.lst _) (List.take_of_length_le (Nat.le_refl _)).symm)) trivial trivial) ?_
    refine And.intro (find_ex r2 x) ?_
    rintro ⟨(k : Nat), (is : Bool)⟩ hd
    cases is
    · have hd : lookT r2 x = none := find_no hr2 hd
      have hk : (r2, n) = freeL who r (l.take (i + 1)) := by
        rw [hsn]; unfold freeS; rw [if_neg (by dsimp only; rw [hd]; simp)]
      conv => whnf
      repeat' (first | (refine tell (fun htest => ?_) (fun htest => ?_) <;> (try dsimp only at htest) <;> first | (exfalso; omega) | (exact absurd rfl htest) | (exact absurd (by decide) htest) | (conv => whnf)) | (refine allG rfl ?_; conv => whnf) | (refine And.intro (by first | omega | assumption | kernel_rfl | exact And.intro rfl rfl | ((try dsimp only [inR, idx, lowOf]); first | omega | (with_reducible decide) | (simp; omega) | fail) | fail) ?_; conv => whnf) | fail)
      refine ⟨(i + 1, r2, n), [], ⟨hlt, Nat.le_succ_of_le hn, hk, hr2, hl2⟩, ?_, rfl, ?_, ?_, rfl⟩
      · dsimp only; first | omega | (simp; done) | (simp; omega)
      all_goals (repeat' (first | exact trivial | exact rfl | refine And.intro ?_ ?_ | (refine congrArg vI ?_; first | omega | (dsimp only; omega) | fail) | (refine congrArg some ?_) | omega | exact Nat.le_refl _ | exact congrArg (SV.lst _) (List.take_of_length_le (Nat.le_refl _)).symm))
    · have hk0 : k = findK r2 x := hd.1
      subst hk0
      obtain ⟨w, hw, hd⟩ := find_yes hr2 hd
      have hwk := whosR_at hw
      have hkl3 := (List.getElem?_eq_some_iff.1 hw).1
      by_cases hww : w = who
      · have hk : (delR r2 x, n + 1) = freeL who r (l.take (i + 1)) := by
          rw [hsn, delR_is hr2 hd]; unfold freeS; rw [if_pos (by dsimp only; rw [hd, hww])]
        have hdl := delR_len hkl3
        conv => whnf
        repeat' (first | (refine tell (fun htest => ?_) (fun htest => ?_) <;> (try dsimp only at htest) <;> first | (exfalso; omega) | (exact absurd rfl htest) | (exact absurd (by decide) htest) | (conv => whnf)) | (refine allG (x := w) (by first | exact hwk | simpa [List.getElem?_append_right, lowOf] using hwk | fail) ?_; conv => whnf) | (refine allLst (x := w) (by first | omega | assumption | fail) (by first | exact hwk | simpa using hwk | fail) ?_; conv => whnf) | (refine allG rfl ?_; conv => whnf) | (refine And.intro (by first | omega | assumption | kernel_rfl | exact And.intro rfl rfl | ((try dsimp only [inR, idx, lowOf]); first | omega | (with_reducible decide) | (simp; omega) | fail) | fail) ?_; conv => whnf) | fail)
        refine ⟨(i + 1, delR r2 x, n + 1), [(3001, 1053), (3002, 1071)], ⟨hlt, Nat.succ_le_succ hn, hk, delR_rises hr2 x, by dsimp only; omega⟩, ?_, rfl, ?_, ?_, rfl⟩
        · dsimp only; first | omega | (simp; done) | (simp; omega)
        all_goals (repeat' (first | exact trivial | exact rfl | refine And.intro ?_ ?_ | (refine congrArg vI ?_; first | omega | (dsimp only; omega) | fail) | (refine congrArg some ?_) | omega | exact Nat.le_refl _ | exact congrArg (SV.lst _) (List.take_of_length_le (Nat.le_refl _)).symm))
        · exact congrArg (SV.sl (A := AF) 1053 1 0) (show findK r2 x + (r2.length - (findK r2 x + 1)) = (delR r2 x).length by omega)
        · exact congrArg (SV.sl (A := AF) 1071 1 0) (show findK r2 x + (r2.length - (findK r2 x + 1)) = (delR r2 x).length by omega)
        · exact congrArg (Ct.arr (A := AF) 3) (show ((((keysR r2).drop 0).take (findK r2 x)).drop 0).take (findK r2 x) ++ ((keysR r2).drop (0 + (findK r2 x + 1))).take (r2.length - (findK r2 x + 1)) = keysR (delR r2 x) by rw [keysR_del]; exact cut_del hkl2)
        · exact congrArg (Ct.arr (A := AF) 3) (show ((((whosR r2).drop 0).take (findK r2 x)).drop 0).take (findK r2 x) ++ ((whosR r2).drop (0 + (findK r2 x + 1))).take (r2.length - (findK r2 x + 1)) = whosR (delR r2 x) by rw [whosR_del]; exact cut_del hwl2)
      · have hk : (r2, n) = freeL who r (l.take (i + 1)) := by
          rw [hsn]; unfold freeS; rw [if_neg (by dsimp only; rw [hd]; simpa using hww)]
        conv => whnf
        repeat' (first | (refine tell (fun htest => ?_) (fun htest => ?_) <;> (try dsimp only at htest) <;> first | (exfalso; omega) | (exact absurd rfl htest) | (exact absurd (by decide) htest) | (conv => whnf)) | (refine allG (x := w) (by first | exact hwk | simpa [List.getElem?_append_right, lowOf] using hwk | fail) ?_; conv => whnf) | (refine allLst (x := w) (by first | omega | assumption | fail) (by first | exact hwk | simpa using hwk | fail) ?_; conv => whnf) | (refine allG rfl ?_; conv => whnf) | (refine And.intro (by first | omega | assumption | kernel_rfl | exact And.intro rfl rfl | ((try dsimp only [inR, idx, lowOf]); first | omega | (with_reducible decide) | (simp; omega) | fail) | fail) ?_; conv => whnf) | fail)
        refine ⟨(i + 1, r2, n), [], ⟨hlt, Nat.le_succ_of_le hn, hk, hr2, hl2⟩, ?_, rfl, ?_, ?_, rfl⟩
        · dsimp only; first | omega | (simp; done) | (simp; omega)
        all_goals (repeat' (first | exact trivial | exact rfl | refine And.intro ?_ ?_ | (refine congrArg vI ?_; first | omega | (dsimp only; omega) | fail) | (refine congrArg some ?_) | omega | exact Nat.le_refl _ | exact congrArg (SV.lst _) (List.take_of_length_le (Nat.le_refl _)).symm))
  · rw [List.take_of_length_le (by omega)] at hs
    conv => whnf
    repeat' (first | (refine tell (fun htest => ?_) (fun htest => ?_) <;> (try dsimp only at htest) <;> first | (exfalso; omega) | (exact absurd rfl htest) | (exact absurd (by decide) htest) | (conv => whnf)) | (refine allG rfl ?_; conv => whnf) | (refine And.intro (by first | omega | assumption | kernel_rfl | exact And.intro rfl rfl | ((try dsimp only [inR, idx, lowOf]); first | omega | (with_reducible decide) | (simp; omega) | fail) | fail) ?_; conv => whnf) | fail)
    exact ⟨((r2, n) : TM × Nat), [3001, 3002], ⟨hs, hr2, hl2⟩, rfl, ⟨⟨rfl, rfl, trivial⟩, trivial, trivial, rfl, rfl, trivial⟩, trivial⟩
end Go.Sx

