/-
  Layer 14, part I: TableApart.
-/
import Derived.Test.YtmogappoadglgaaTabH
namespace Go.Sx
open Go Go.Proofs Go.Proofs.Ytmogappoadglgaa
abbrev SM := List (Int × Bool)
def lookS (s : SM) (x : Int) : Option Bool := look regF 3 4 s x
def insS' (s : SM) (x : Int) : SM := ins regF 3 4 s x true
theorem lookS_cons (p : Int × Bool) (s : SM) (x : Int) : lookS (p :: s) x = if p.1 = x then some p.2 else lookS s x := by
  unfold lookS look
  rw [List.find?_cons, beq3]
  by_cases h : p.1 = x
  · rw [if_pos h, decide_eq_true h]
  · rw [if_neg h, decide_eq_false h]
theorem lookS_nil (x : Int) : lookS [] x = none := rfl
theorem anyS_iff {s : SM} {x : Int} : (s.any fun p => regF.beq 3 p.1 x) = true ↔ x ∈ s.map (·.1) := by
  rw [List.any_eq_true, List.mem_map]
  constructor
  · rintro ⟨p, hp, h⟩; exact ⟨p, hp, (regF.same 3 _ _).1 h⟩
  · rintro ⟨p, hp, h⟩; exact ⟨p, hp, (regF.same 3 _ _).2 h⟩
theorem lookS_no {s : SM} {x : Int} (h : x ∉ s.map (·.1)) : lookS s x = none := by
  induction s with
  | nil => rfl
  | cons p s ih =>
    rw [List.map_cons, List.mem_cons, not_or] at h
    rw [lookS_cons, if_neg fun e => h.1 e.symm, ih h.2]
theorem lookS_app (s r : SM) (x : Int) (h : x ∉ s.map (·.1)) : lookS (s ++ r) x = lookS r x := by
  induction s with
  | nil => rfl
  | cons p s ih =>
    rw [List.map_cons, List.mem_cons, not_or] at h
    rw [List.cons_append, lookS_cons, if_neg fun e => h.1 e.symm, ih h.2]
theorem lookS_app2 (s : SM) (x y : Int) (h : y ≠ x) : lookS (s ++ [(x, true)]) y = lookS s y := by
  induction s with
  | nil => rw [List.nil_append, lookS_cons, if_neg fun e => h e.symm]
  | cons p s ih => rw [List.cons_append, lookS_cons, lookS_cons, ih]
theorem lookS_map (s : SM) (x y : Int) : lookS (s.map fun p => match regF.beq 3 p.1 x with | true => (x, true) | false => p) y = if y = x then (if x ∈ s.map (·.1) then some true else none) else lookS s y := by
  induction s with
  | nil => simp [lookS_nil]
  | cons p s ih =>
    rw [List.map_cons, lookS_cons, ih, lookS_cons, beq3]
    by_cases hp : p.1 = x
    · rw [decide_eq_true hp]
      by_cases hy : y = x
      · subst hy; simp [hp]
      · have h1 : ¬ x = y := fun e => hy e.symm
        have h2 : ¬ p.1 = y := fun e => hy (e.symm.trans hp)
        simp [h1, h2, hy]
    · rw [decide_eq_false hp]
      by_cases hy : y = x
      · subst hy
        have hp' : ¬ y = p.1 := fun e => hp e.symm
        simp [hp, hp']
      · simp [hy]
theorem lookS_ins (s : SM) (x y : Int) : lookS (insS' s x) y = if y = x then some true else lookS s y := by
  unfold insS' ins
  by_cases h : x ∈ s.map (·.1)
  · rw [anyS_iff.2 h]
    dsimp only
    refine (lookS_map s x y).trans ?_
    by_cases hy : y = x
    · rw [if_pos hy, if_pos hy, if_pos h]
    · rw [if_neg hy, if_neg hy]
  · have : (s.any fun p => regF.beq 3 p.1 x) = false := by
      cases e : s.any fun p => regF.beq 3 p.1 x with
      | false => rfl
      | true => exact absurd (anyS_iff.1 e) h
    rw [this]
    dsimp only
    by_cases hy : y = x
    · subst hy
      rw [if_pos rfl, lookS_app _ _ _ h, lookS_cons, if_pos rfl]
    · rw [if_neg hy, lookS_app2 _ _ _ hy]
/-- What was seen. -/
def Seen' (m : TM) (s : SM) (k : Nat) (l : List Int) : Prop := ∀ x, (lookS s x).getD false = true ↔ (∃ j : Nat, j < k ∧ lookT m x = some (j : Int)) ∨ x ∈ l
theorem Seen'.step {m : TM} {s : SM} {k : Nat} {l : List Int} {i : Nat} {x : Int} (h : Seen' m s k (l.take i)) (hx : l[i]? = some x) : Seen' m (insS' s x) k (l.take (i + 1)) := fun y => by
  rw [lookS_ins, mem_snoc hx]
  by_cases hy : y = x
  · subst hy; simp
  · rw [if_neg hy, h y]
    have h1 : ¬ x = y := fun e => hy e.symm
    simp [h1]
theorem Seen'.next {m : TM} {s : SM} {k : Nat} (h : Seen' m s k (ofL m (k : Int))) : Seen' m s (k + 1) [] := fun y => by
  rw [h y, ofL_mem]
  constructor
  · rintro (⟨j, hj, e⟩ | e)
    · exact .inl ⟨j, by omega, e⟩
    · exact .inl ⟨k, by omega, e⟩
  · rintro (⟨j, hj, e⟩ | e)
    · rcases Nat.lt_succ_iff_lt_or_eq.1 hj with h1 | rfl
      · exact .inl ⟨j, h1, e⟩
      · exact .inr e
    · simp at e
theorem Seen'.no {m : TM} {s : SM} {k : Nat} {i : Nat} {x : Int} (hs : (ofL m (k : Int)).Pairwise (· < ·)) (h : Seen' m s k ((ofL m (k : Int)).take i)) (hx : (ofL m (k : Int))[i]? = some x) : (lookS s x).getD false = false := by
  have hm := ofL_mem.1 (List.mem_of_getElem? hx)
  cases e : (lookS s x).getD false with
  | false => rfl
  | true =>
    rcases (h x).1 e with ⟨j, hj, e2⟩ | e2
    · rw [hm] at e2; have := Option.some.inj e2; omega
    · obtain ⟨j, hj⟩ := List.getElem?_of_mem e2
      rw [List.getElem?_take] at hj
      split at hj
      · rename_i hji
        obtain ⟨l1, g1⟩ := List.getElem?_eq_some_iff.1 hj
        obtain ⟨l2, g2⟩ := List.getElem?_eq_some_iff.1 hx
        have := List.pairwise_iff_getElem.1 hs j i l1 l2 hji
        omega
      · cases hj
theorem Seen'.all {m : TM} {N : Nat} {s : SM} (hT : TOk m N) (h : Seen' m s 3 []) (x : Int) : (lookS s x).getD false = (lookT m x).isSome := by
  rw [Bool.eq_iff_iff, h x]
  constructor
  · rintro (⟨j, _, e⟩ | e)
    · rw [e]; rfl
    · simp at e
  · intro e
    obtain ⟨w, hw⟩ := Option.isSome_iff_exists.1 e
    have := hT.who x w hw
    exact .inl ⟨w.toNat, by omega, by rw [hw]; congr 1; omega⟩
theorem sorted_atT {l : List Int} (h : l.Pairwise (· < ·)) {i : Nat} {x y : Int} (hx : l[i]? = some x) (hy : l[i + 1]? = some y) : x < y := by
  obtain ⟨h1, rfl⟩ := List.getElem?_eq_some_iff.1 hx
  obtain ⟨h2, rfl⟩ := List.getElem?_eq_some_iff.1 hy
  exact List.pairwise_iff_getElem.1 h i (i + 1) h1 h2 (by omega)
set_option maxHeartbeats 3200000 in
theorem m_apartT : Meets Try.prog regF 22 (spLaw (fun g : List OpT => [.lst 77 g]) (fun g => OpsOk g)) := by
  refine meets Try.func22 149 noWr rfl (by kernel_rfl) (by kernel_rfl) ?_
  rintro (l : List OpT) ⟨(hl : l.length ≤ 9223372036854775807), (hI : ∀ o ∈ l, InI o.1 ∧ InL o.2.2)⟩
  conv => whnf
  repeat' (first | (refine tell (fun htest => ?_) (fun htest => ?_) <;> (try dsimp only at htest) <;> first | (exfalso; omega) | (exact absurd rfl htest) | (exact absurd (by decide) htest) | (conv => whnf)) | (refine allG rfl ?_; conv => whnf) | (refine And.intro (by first | omega | assumption | kernel_rfl | exact And.intro rfl rfl | ((try dsimp only [inR, idx, lowOf]); first | omega | (with_reducible decide) | (simp; omega) | fail) | fail) ?_; conv => whnf) | fail)
  refine ⟨_, m_awakeT, (), [], false, ?_⟩
  conv => whnf
  refine And.intro (vc0 trivial (by (repeat' (first | exact trivial | exact rfl | refine And.intro ?_ ?_ | (refine congrArg vI ?_; first | omega | (dsimp only; omega) | fail) | (refine congrArg some ?_) | omega | exact Nat.le_refl _ | exact congrArg (SV.lst _) (List.take_of_length_le (Nat.le_refl _)).symm))) (by repeat' (first | exact trivial | exact rfl | refine And.intro ?_ ?_ | (refine congrArg vI ?_; first | omega | (dsimp only; omega) | fail) | (refine congrArg some ?_) | omega | exact Nat.le_refl _ | exact congrArg (SV.lst _) (List.take_of_length_le (Nat.le_refl _)).symm)) trivial trivial) ?_
  refine And.intro ⟨(), trivial⟩ (fun (_ : Unit) _ => ?_)
  conv => whnf
  conv => whnf
  repeat' (first | (refine tell (fun htest => ?_) (fun htest => ?_) <;> (try dsimp only at htest) <;> first | (exfalso; omega) | (exact absurd rfl htest) | (exact absurd (by decide) htest) | (conv => whnf)) | (refine allG rfl ?_; conv => whnf) | (refine And.intro (by first | omega | assumption | kernel_rfl | exact And.intro rfl rfl | ((try dsimp only [inR, idx, lowOf]); first | omega | (with_reducible decide) | (simp; omega) | fail) | fail) ?_; conv => whnf) | fail)
  refine ⟨_, m_tnew, (), [], false, ?_⟩
  conv => whnf
  refine And.intro (vc0 trivial (by (repeat' (first | exact trivial | exact rfl | refine And.intro ?_ ?_ | (refine congrArg vI ?_; first | omega | (dsimp only; omega) | fail) | (refine congrArg some ?_) | omega | exact Nat.le_refl _ | exact congrArg (SV.lst _) (List.take_of_length_le (Nat.le_refl _)).symm))) (by repeat' (first | exact trivial | exact rfl | refine And.intro ?_ ?_ | (refine congrArg vI ?_; first | omega | (dsimp only; omega) | fail) | (refine congrArg some ?_) | omega | exact Nat.le_refl _ | exact congrArg (SV.lst _) (List.take_of_length_le (Nat.le_refl _)).symm)) trivial trivial) ?_
  refine And.intro ⟨(), trivial⟩ (fun (_ : Unit) _ => ?_)
  conv => whnf
  conv => whnf
  repeat' (first | (refine tell (fun htest => ?_) (fun htest => ?_) <;> (try dsimp only at htest) <;> first | (exfalso; omega) | (exact absurd rfl htest) | (exact absurd (by decide) htest) | (conv => whnf)) | (refine allG rfl ?_; conv => whnf) | (refine And.intro (by first | omega | assumption | kernel_rfl | exact And.intro rfl rfl | ((try dsimp only [inR, idx, lowOf]); first | omega | (with_reducible decide) | (simp; omega) | fail) | fail) ?_; conv => whnf) | fail)
  refine ⟨Nat × TM, fun p => ⟨[(0, .lst 77 l), (4, .ptr 1019 0 1 0), (5, vI p.1)], [(1019, .cells [.mp 2019]), (2019, .map 3 3 p.2)]⟩, fun p => p.1 ≤ l.length ∧ p.1 ≤ 60 ∧ TOk p.2 (8 * p.1), fun p => 60 - p.1, fun _ _ => rfl, ⟨(0, []), [], ⟨Nat.zero_le _, Nat.zero_le _, TOk.nil⟩, ?_⟩, ?_⟩
  · refine ⟨rfl, ?_, ?_, rfl⟩
    all_goals (repeat' (first | exact trivial | exact rfl | refine And.intro ?_ ?_ | (refine congrArg vI ?_; first | omega | (dsimp only; omega) | fail) | (refine congrArg some ?_) | omega | exact Nat.le_refl _ | exact congrArg (SV.lst _) (List.take_of_length_le (Nat.le_refl _)).symm))
  rintro ⟨(i : Nat), (m : TM)⟩ ⟨(hi : i ≤ l.length), (hi30 : i ≤ 60), (hT : TOk m (8 * i))⟩
  by_cases hlt : i < l.length ∧ i < 60
  · obtain ⟨hl1, hl2⟩ := hlt
    obtain ⟨⟨wh, fr, L⟩, ho⟩ : ∃ o, l[i]? = some o := ⟨_, List.getElem?_eq_getElem hl1⟩
    obtain ⟨(hwh : InI wh), (hL : InL L)⟩ := hI _ (List.mem_of_getElem? ho)
    cases fr
    · conv => whnf
      repeat' (first | (refine tell (fun htest => ?_) (fun htest => ?_) <;> (try dsimp only at htest) <;> first | (exfalso; omega) | (exact absurd rfl htest) | (exact absurd (by decide) htest) | (conv => whnf)) | (refine allG (x := (wh,false,L)) (by first | exact ho | simpa [List.getElem?_append_right, lowOf] using ho | fail) ?_; conv => whnf) | (refine allLst (x := (wh,false,L)) (by first | omega | assumption | fail) (by first | exact ho | simpa using ho | fail) ?_; conv => whnf) | (refine allG rfl ?_; conv => whnf) | (refine And.intro (by first | omega | assumption | kernel_rfl | exact And.intro rfl rfl | ((try dsimp only [inR, idx, lowOf]); first | omega | (with_reducible decide) | (simp; omega) | fail) | fail) ?_; conv => whnf) | fail)
      refine ⟨_, m_pick14, (wh, 3), [], false, ?_⟩
      conv => whnf
      refine And.intro (vc0 ⟨hwh, by show (0 : Int) < 3; decide⟩ (by (repeat' (first | exact trivial | exact rfl | refine And.intro ?_ ?_ | (refine congrArg vI ?_; first | omega | (dsimp only; omega) | fail) | (refine congrArg some ?_) | omega | exact Nat.le_refl _ | exact congrArg (SV.lst _) (List.take_of_length_le (Nat.le_refl _)).symm))) (by repeat' (first | exact trivial | exact rfl | refine And.intro ?_ ?_ | (refine congrArg vI ?_; first | omega | (dsimp only; omega) | fail) | (refine congrArg some ?_) | omega | exact Nat.le_refl _ | exact congrArg (SV.lst _) (List.take_of_length_le (Nat.le_refl _)).symm)) trivial trivial) ?_
      refine And.intro ⟨(), trivial⟩ (fun (_ : Unit) _ => ?_)
      conv => whnf
      conv => whnf
      repeat' (first | (refine tell (fun htest => ?_) (fun htest => ?_) <;> (try dsimp only at htest) <;> first | (exfalso; omega) | (exact absurd rfl htest) | (exact absurd (by decide) htest) | (conv => whnf)) | (refine allG (x := (wh,false,L)) (by first | exact ho | simpa [List.getElem?_append_right, lowOf] using ho | fail) ?_; conv => whnf) | (refine allLst (x := (wh,false,L)) (by first | omega | assumption | fail) (by first | exact ho | simpa using ho | fail) ?_; conv => whnf) | (refine allG rfl ?_; conv => whnf) | (refine And.intro (by first | omega | assumption | kernel_rfl | exact And.intro rfl rfl | ((try dsimp only [inR, idx, lowOf]); first | omega | (with_reducible decide) | (simp; omega) | fail) | fail) ?_; conv => whnf) | fail)
      refine ⟨_, m_elems, L, [], false, ?_⟩
      conv => whnf
      refine And.intro (vc0 hL (by (repeat' (first | exact trivial | exact rfl | refine And.intro ?_ ?_ | (refine congrArg vI ?_; first | omega | (dsimp only; omega) | fail) | (refine congrArg some ?_) | omega | exact Nat.le_refl _ | exact congrArg (SV.lst _) (List.take_of_length_le (Nat.le_refl _)).symm))) (by repeat' (first | exact trivial | exact rfl | refine And.intro ?_ ?_ | (refine congrArg vI ?_; first | omega | (dsimp only; omega) | fail) | (refine congrArg some ?_) | omega | exact Nat.le_refl _ | exact congrArg (SV.lst _) (List.take_of_length_le (Nat.le_refl _)).symm)) trivial trivial) ?_
      refine And.intro ⟨(), trivial⟩ (fun (_ : Unit) _ => ?_)
      conv => whnf
      conv => whnf
      repeat' (first | (refine tell (fun htest => ?_) (fun htest => ?_) <;> (try dsimp only at htest) <;> first | (exfalso; omega) | (exact absurd rfl htest) | (exact absurd (by decide) htest) | (conv => whnf)) | (refine allG rfl ?_; conv => whnf) | (refine And.intro (by first | omega | assumption | kernel_rfl | exact And.intro rfl rfl | ((try dsimp only [inR, idx, lowOf]); first | omega | (with_reducible decide) | (simp; omega) | fail) | fail) ?_; conv => whnf) | fail)
      refine ⟨_, m_claimD, (m, pickF wh 3, elemsL L), [1019, 2019], false, ?_⟩
      conv => whnf
      refine And.intro (vc0 (elemsL_ok L) (by (repeat' (first | exact trivial | exact rfl | refine And.intro ?_ ?_ | (refine congrArg vI ?_; first | omega | (dsimp only; omega) | fail) | (refine congrArg some ?_) | omega | exact Nat.le_refl _ | exact congrArg (SV.lst _) (List.take_of_length_le (Nat.le_refl _)).symm))) (by repeat' (first | exact trivial | exact rfl | refine And.intro ?_ ?_ | (refine congrArg vI ?_; first | omega | (dsimp only; omega) | fail) | (refine congrArg some ?_) | omega | exact Nat.le_refl _ | exact congrArg (SV.lst _) (List.take_of_length_le (Nat.le_refl _)).symm)) trivial trivial) ?_
      refine And.intro (claimD_ex _ _ _) ?_
      rintro ⟨(c : Bool), (m' : TM)⟩ ⟨hc, (hm' : m' = if c then claimL (pickF wh 3) m (elemsL L) else m)⟩
      conv => whnf
      repeat' (first | (refine tell (fun htest => ?_) (fun htest => ?_) <;> (try dsimp only at htest) <;> first | (exfalso; omega) | (exact absurd rfl htest) | (exact absurd (by decide) htest) | (conv => whnf)) | (refine allG rfl ?_; conv => whnf) | (refine And.intro (by first | omega | assumption | kernel_rfl | exact And.intro rfl rfl | ((try dsimp only [inR, idx, lowOf]); first | omega | (with_reducible decide) | (simp; omega) | fail) | fail) ?_; conv => whnf) | fail)
      refine ⟨(i + 1, m'), [], ⟨hl1, hl2, hT.opClaim (pick3 wh) (elemsL_len L) (elemsL_in L) hm'⟩, ?_, rfl, ?_, ?_, rfl⟩
      · dsimp only; first | omega | (simp; done) | (simp; omega)
      all_goals (repeat' (first | exact trivial | exact rfl | refine And.intro ?_ ?_ | (refine congrArg vI ?_; first | omega | (dsimp only; omega) | fail) | (refine congrArg some ?_) | omega | exact Nat.le_refl _ | exact congrArg (SV.lst _) (List.take_of_length_le (Nat.le_refl _)).symm))
    · conv => whnf
      repeat' (first | (refine tell (fun htest => ?_) (fun htest => ?_) <;> (try dsimp only at htest) <;> first | (exfalso; omega) | (exact absurd rfl htest) | (exact absurd (by decide) htest) | (conv => whnf)) | (refine allG (x := (wh,true,L)) (by first | exact ho | simpa [List.getElem?_append_right, lowOf] using ho | fail) ?_; conv => whnf) | (refine allLst (x := (wh,true,L)) (by first | omega | assumption | fail) (by first | exact ho | simpa using ho | fail) ?_; conv => whnf) | (refine allG rfl ?_; conv => whnf) | (refine And.intro (by first | omega | assumption | kernel_rfl | exact And.intro rfl rfl | ((try dsimp only [inR, idx, lowOf]); first | omega | (with_reducible decide) | (simp; omega) | fail) | fail) ?_; conv => whnf) | fail)
      refine ⟨_, m_pick14, (wh, 3), [], false, ?_⟩
      conv => whnf
      refine And.intro (vc0 ⟨hwh, by show (0 : Int) < 3; decide⟩ (by (repeat' (first | exact trivial | exact rfl | refine And.intro ?_ ?_ | (refine congrArg vI ?_; first | omega | (dsimp only; omega) | fail) | (refine congrArg some ?_) | omega | exact Nat.le_refl _ | exact congrArg (SV.lst _) (List.take_of_length_le (Nat.le_refl _)).symm))) (by repeat' (first | exact trivial | exact rfl | refine And.intro ?_ ?_ | (refine congrArg vI ?_; first | omega | (dsimp only; omega) | fail) | (refine congrArg some ?_) | omega | exact Nat.le_refl _ | exact congrArg (SV.lst _) (List.take_of_length_le (Nat.le_refl _)).symm)) trivial trivial) ?_
      refine And.intro ⟨(), trivial⟩ (fun (_ : Unit) _ => ?_)
      conv => whnf
      conv => whnf
      repeat' (first | (refine tell (fun htest => ?_) (fun htest => ?_) <;> (try dsimp only at htest) <;> first | (exfalso; omega) | (exact absurd rfl htest) | (exact absurd (by decide) htest) | (conv => whnf)) | (refine allG (x := (wh,true,L)) (by first | exact ho | simpa [List.getElem?_append_right, lowOf] using ho | fail) ?_; conv => whnf) | (refine allLst (x := (wh,true,L)) (by first | omega | assumption | fail) (by first | exact ho | simpa using ho | fail) ?_; conv => whnf) | (refine allG rfl ?_; conv => whnf) | (refine And.intro (by first | omega | assumption | kernel_rfl | exact And.intro rfl rfl | ((try dsimp only [inR, idx, lowOf]); first | omega | (with_reducible decide) | (simp; omega) | fail) | fail) ?_; conv => whnf) | fail)
      refine ⟨_, m_elems, L, [], false, ?_⟩
      conv => whnf
      refine And.intro (vc0 hL (by (repeat' (first | exact trivial | exact rfl | refine And.intro ?_ ?_ | (refine congrArg vI ?_; first | omega | (dsimp only; omega) | fail) | (refine congrArg some ?_) | omega | exact Nat.le_refl _ | exact congrArg (SV.lst _) (List.take_of_length_le (Nat.le_refl _)).symm))) (by repeat' (first | exact trivial | exact rfl | refine And.intro ?_ ?_ | (refine congrArg vI ?_; first | omega | (dsimp only; omega) | fail) | (refine congrArg some ?_) | omega | exact Nat.le_refl _ | exact congrArg (SV.lst _) (List.take_of_length_le (Nat.le_refl _)).symm)) trivial trivial) ?_
      refine And.intro ⟨(), trivial⟩ (fun (_ : Unit) _ => ?_)
      conv => whnf
      conv => whnf
      repeat' (first | (refine tell (fun htest => ?_) (fun htest => ?_) <;> (try dsimp only at htest) <;> first | (exfalso; omega) | (exact absurd rfl htest) | (exact absurd (by decide) htest) | (conv => whnf)) | (refine allG rfl ?_; conv => whnf) | (refine And.intro (by first | omega | assumption | kernel_rfl | exact And.intro rfl rfl | ((try dsimp only [inR, idx, lowOf]); first | omega | (with_reducible decide) | (simp; omega) | fail) | fail) ?_; conv => whnf) | fail)
      refine ⟨_, m_freeD, (m, pickF wh 3, elemsL L), [1019, 2019], false, ?_⟩
      conv => whnf
      refine And.intro (vc0 (elemsL_ok L) (by (repeat' (first | exact trivial | exact rfl | refine And.intro ?_ ?_ | (refine congrArg vI ?_; first | omega | (dsimp only; omega) | fail) | (refine congrArg some ?_) | omega | exact Nat.le_refl _ | exact congrArg (SV.lst _) (List.take_of_length_le (Nat.le_refl _)).symm))) (by repeat' (first | exact trivial | exact rfl | refine And.intro ?_ ?_ | (refine congrArg vI ?_; first | omega | (dsimp only; omega) | fail) | (refine congrArg some ?_) | omega | exact Nat.le_refl _ | exact congrArg (SV.lst _) (List.take_of_length_le (Nat.le_refl _)).symm)) trivial trivial) ?_
      refine And.intro ⟨_, rfl⟩ ?_
      rintro ⟨(m' : TM), (n : Nat)⟩ (hf : (m', n) = freeL (pickF wh 3) m (elemsL L))
      conv => whnf
      repeat' (first | (refine tell (fun htest => ?_) (fun htest => ?_) <;> (try dsimp only at htest) <;> first | (exfalso; omega) | (exact absurd rfl htest) | (exact absurd (by decide) htest) | (conv => whnf)) | (refine allG rfl ?_; conv => whnf) | (refine And.intro (by first | omega | assumption | kernel_rfl | exact And.intro rfl rfl | ((try dsimp only [inR, idx, lowOf]); first | omega | (with_reducible decide) | (simp; omega) | fail) | fail) ?_; conv => whnf) | fail)
      refine ⟨(i + 1, m'), [], ⟨hl1, hl2, (hT.opFree hf).more (by show 8 * i ≤ 8 * (i + 1); omega)⟩, ?_, rfl, ?_, ?_, rfl⟩
      · dsimp only; first | omega | (simp; done) | (simp; omega)
      all_goals (repeat' (first | exact trivial | exact rfl | refine And.intro ?_ ?_ | (refine congrArg vI ?_; first | omega | (dsimp only; omega) | fail) | (refine congrArg some ?_) | omega | exact Nat.le_refl _ | exact congrArg (SV.lst _) (List.take_of_length_le (Nat.le_refl _)).symm))
  · have hT : TOk m 480 := hT.more (by omega)
    conv => whnf
    repeat' (first | (refine tell (fun htest => ?_) (fun htest => ?_) <;> (try dsimp only at htest) <;> first | (exfalso; omega) | (exact absurd rfl htest) | (exact absurd (by decide) htest) | (conv => whnf)) | (refine allG rfl ?_; conv => whnf) | (refine And.intro (by first | omega | assumption | kernel_rfl | exact And.intro rfl rfl | ((try dsimp only [inR, idx, lowOf]); first | omega | (with_reducible decide) | (simp; omega) | fail) | fail) ?_; conv => whnf) | fail)
    all_goals
      refine ⟨Nat × SM, fun p => ⟨[(4, .ptr 1019 0 1 0), (7, .mp 1065), (8, vI p.1)], [(1019, .cells [.mp 2019]), (2019, .map 3 3 m), (1065, .map 3 4 p.2)]⟩, fun p => p.1 ≤ 3 ∧ Seen' m p.2 p.1 [], fun p => 3 - p.1, fun _ _ => rfl, ⟨(0, []), [], ⟨Nat.zero_le _, fun x => by simp [lookS_nil]⟩, ?_⟩, ?_⟩
      · refine ⟨rfl, ?_, ?_, rfl⟩
        all_goals (repeat' (first | exact trivial | exact rfl | refine And.intro ?_ ?_ | (refine congrArg vI ?_; first | omega | (dsimp only; omega) | fail) | (refine congrArg some ?_) | omega | exact Nat.le_refl _ | exact congrArg (SV.lst _) (List.take_of_length_le (Nat.le_refl _)).symm))
      rintro ⟨(k : Nat), (ss : SM)⟩ ⟨(hk : k ≤ 3), (hss : Seen' m ss k [])⟩
      by_cases hk3 : k < 3
      · have hO := ofL_in hT (by omega) (k : Int)
        have hOS := ofL_sorted hT.nd (k : Int)
        have hO1 := hO.1
        conv => whnf
        repeat' (first | (refine tell (fun htest => ?_) (fun htest => ?_) <;> (try dsimp only at htest) <;> first | (exfalso; omega) | (exact absurd rfl htest) | (exact absurd (by decide) htest) | (conv => whnf)) | (refine allG rfl ?_; conv => whnf) | (refine And.intro (by first | omega | assumption | kernel_rfl | exact And.intro rfl rfl | ((try dsimp only [inR, idx, lowOf]); first | omega | (with_reducible decide) | (simp; omega) | fail) | fail) ?_; conv => whnf) | fail)
        refine ⟨_, m_of, (m, (k : Int)), [1019, 2019], false, ?_⟩
        conv => whnf
        refine And.intro (vc0 (hT.of (by omega)) (by (repeat' (first | exact trivial | exact rfl | refine And.intro ?_ ?_ | (refine congrArg vI ?_; first | omega | (dsimp only; omega) | fail) | (refine congrArg some ?_) | omega | exact Nat.le_refl _ | exact congrArg (SV.lst _) (List.take_of_length_le (Nat.le_refl _)).symm))) (by repeat' (first | exact trivial | exact rfl | refine And.intro ?_ ?_ | (refine congrArg vI ?_; first | omega | (dsimp only; omega) | fail) | (refine congrArg some ?_) | omega | exact Nat.le_refl _ | exact congrArg (SV.lst _) (List.take_of_length_le (Nat.le_refl _)).symm)) trivial trivial) ?_
        refine And.intro ⟨(), trivial⟩ (fun (_ : Unit) _ => ?_)
        conv => whnf
        conv => whnf
        repeat' (first | (refine tell (fun htest => ?_) (fun htest => ?_) <;> (try dsimp only at htest) <;> first | (exfalso; omega) | (exact absurd rfl htest) | (exact absurd (by decide) htest) | (conv => whnf)) | (refine allG rfl ?_; conv => whnf) | (refine And.intro (by first | omega | assumption | kernel_rfl | exact And.intro rfl rfl | ((try dsimp only [inR, idx, lowOf]); first | omega | (with_reducible decide) | (simp; omega) | fail) | fail) ?_; conv => whnf) | fail)
        refine ⟨Nat × SM, fun p => ⟨[(4, .ptr 1019 0 1 0), (7, .mp 1065), (8, vI k), (9, .lst 3 (ofL m (k : Int))), (10, vI p.1)], [(1019, .cells [.mp 2019]), (2019, .map 3 3 m), (1065, .map 3 4 p.2)]⟩, fun p => p.1 ≤ ((ofL m (k : Int))).length ∧ Seen' m p.2 k (((ofL m (k : Int))).take p.1), fun p => ((ofL m (k : Int))).length - p.1, fun _ _ => rfl, ⟨(0, ss), [], ⟨Nat.zero_le _, by simpa using hss⟩, ?_⟩, ?_⟩
        · refine ⟨rfl, ?_, ?_, rfl⟩
          all_goals (repeat' (first | exact trivial | exact rfl | refine And.intro ?_ ?_ | (refine congrArg vI ?_; first | omega | (dsimp only; omega) | fail) | (refine congrArg some ?_) | omega | exact Nat.le_refl _ | exact congrArg (SV.lst _) (List.take_of_length_le (Nat.le_refl _)).symm))
        rintro ⟨(i : Nat), (s2 : SM)⟩ ⟨(hi : i ≤ ((ofL m (k : Int))).length), (hs2 : Seen' m s2 k (((ofL m (k : Int))).take i))⟩
        by_cases hil : i < ((ofL m (k : Int))).length
        · obtain ⟨x, hx⟩ : ∃ x, ((ofL m (k : Int)))[i]? = some x := ⟨_, List.getElem?_eq_getElem hil⟩
          have hxI := hO.2 x (List.mem_of_getElem? hx)
          have hxk := ofL_mem.1 (List.mem_of_getElem? hx)
          have hno := hs2.no hOS hx
          have hst := hs2.step hx
          conv => whnf
          repeat' (first | (refine tell (fun htest => ?_) (fun htest => ?_) <;> (try dsimp only at htest) <;> first | (exfalso; omega) | (exact absurd rfl htest) | (exact absurd (by decide) htest) | (conv => whnf)) | (refine allG (x := x) (by first | exact hx | simpa [List.getElem?_append_right, lowOf] using hx | fail) ?_; conv => whnf) | (refine allLst (x := x) (by first | omega | assumption | fail) (by first | exact hx | simpa using hx | fail) ?_; conv => whnf) | (refine allG rfl ?_; conv => whnf) | (refine And.intro (by first | omega | assumption | kernel_rfl | exact And.intro rfl rfl | ((try dsimp only [inR, idx, lowOf]); first | omega | (with_reducible decide) | (simp; omega) | fail) | fail) ?_; conv => whnf) | fail)
          refine ⟨_, m_ownerD, (m, x), [1019, 2019], false, ?_⟩
          conv => whnf
          refine And.intro (vc0 hxI (by (repeat' (first | exact trivial | exact rfl | refine And.intro ?_ ?_ | (refine congrArg vI ?_; first | omega | (dsimp only; omega) | fail) | (refine congrArg some ?_) | omega | exact Nat.le_refl _ | exact congrArg (SV.lst _) (List.take_of_length_le (Nat.le_refl _)).symm))) (by repeat' (first | exact trivial | exact rfl | refine And.intro ?_ ?_ | (refine congrArg vI ?_; first | omega | (dsimp only; omega) | fail) | (refine congrArg some ?_) | omega | exact Nat.le_refl _ | exact congrArg (SV.lst _) (List.take_of_length_le (Nat.le_refl _)).symm)) trivial trivial) ?_
          refine And.intro ⟨_, rfl⟩ ?_
          rintro ⟨(v : Int), (is : Bool)⟩ (hv : (v, is) = ((lookT m x).getD 0, (lookT m x).isSome))
          rw [hxk] at hv
          have hv : (v, is) = ((k : Int), true) := hv
          cases hv
          rcases i with _ | i
          · conv => whnf
            repeat' (first | (refine tell (fun htest => ?_) (fun htest => ?_) <;> (try dsimp only at htest) <;> first | (exfalso; omega) | (exact absurd rfl htest) | (exact absurd (by decide) htest) | (conv => whnf)) | (refine allG (x := x) (by first | exact hx | simpa [List.getElem?_append_right, lowOf] using hx | fail) ?_; conv => whnf) | (refine allLst (x := x) (by first | omega | assumption | fail) (by first | exact hx | simpa using hx | fail) ?_; conv => whnf) | (refine allG rfl ?_; conv => whnf) | (refine And.intro (by first | omega | assumption | kernel_rfl | exact And.intro rfl rfl | ((try dsimp only [inR, idx, lowOf]); first | omega | (with_reducible decide) | (simp; omega) | fail) | fail) ?_; conv => whnf) | fail)
            refine allEqB ?_
            intro (y : Bool) (hy : y = (lookS s2 x).getD false)
            rw [hno] at hy
            subst hy
            conv => whnf
            repeat' (first | (refine tell (fun htest => ?_) (fun htest => ?_) <;> (try dsimp only at htest) <;> first | (exfalso; omega) | (exact absurd rfl htest) | (exact absurd (by decide) htest) | (conv => whnf)) | (refine allG (x := x) (by first | exact hx | simpa [List.getElem?_append_right, lowOf] using hx | fail) ?_; conv => whnf) | (refine allLst (x := x) (by first | omega | assumption | fail) (by first | exact hx | simpa using hx | fail) ?_; conv => whnf) | (refine allG rfl ?_; conv => whnf) | (refine And.intro (by first | omega | assumption | kernel_rfl | exact And.intro rfl rfl | ((try dsimp only [inR, idx, lowOf]); first | omega | (with_reducible decide) | (simp; omega) | fail) | fail) ?_; conv => whnf) | fail)
            refine ⟨(0 + 1, insS' s2 x), [], ⟨hil, hst⟩, ?_, rfl, ?_, ?_, rfl⟩
            · dsimp only; first | omega | (simp; done) | (simp; omega)
            all_goals (repeat' (first | exact trivial | exact rfl | refine And.intro ?_ ?_ | (refine congrArg vI ?_; first | omega | (dsimp only; omega) | fail) | (refine congrArg some ?_) | omega | exact Nat.le_refl _ | exact congrArg (SV.lst _) (List.take_of_length_le (Nat.le_refl _)).symm))
          · obtain ⟨z, hz⟩ : ∃ z, ((ofL m (k : Int)))[i]? = some z := ⟨_, List.getElem?_eq_getElem (by omega)⟩
            have hzx := sorted_atT hOS hz hx
            conv => whnf
            repeat' (first | (refine tell (fun htest => ?_) (fun htest => ?_) <;> (try dsimp only at htest) <;> first | (exfalso; omega) | (exact absurd rfl htest) | (exact absurd (by decide) htest) | (conv => whnf)) | (refine allG (x := x) (by first | exact hx | simpa [List.getElem?_append_right, lowOf] using hx | fail) ?_; conv => whnf) | (refine allLst (x := x) (by first | omega | assumption | fail) (by first | exact hx | simpa using hx | fail) ?_; conv => whnf) | (refine allG rfl ?_; conv => whnf) | (refine And.intro (by first | omega | assumption | kernel_rfl | exact And.intro rfl rfl | ((try dsimp only [inR, idx, lowOf]); first | omega | (with_reducible decide) | (simp; omega) | fail) | fail) ?_; conv => whnf) | fail)
            refine allEqB ?_
            intro (y : Bool) (hy : y = (lookS s2 x).getD false)
            rw [hno] at hy
            subst hy
            conv => whnf
            repeat' (first | (refine tell (fun htest => ?_) (fun htest => ?_) <;> (try dsimp only at htest) <;> first | (exfalso; omega) | (exact absurd rfl htest) | (exact absurd (by decide) htest) | (conv => whnf)) | (refine allG (x := x) (by first | exact hx | simpa [List.getElem?_append_right, lowOf] using hx | fail) ?_; conv => whnf) | (refine allLst (x := x) (by first | omega | assumption | fail) (by first | exact hx | simpa using hx | fail) ?_; conv => whnf) | (refine allG (x := z) (by first | exact hz | simpa [List.getElem?_append_right, lowOf] using hz | fail) ?_; conv => whnf) | (refine allLst (x := z) (by first | omega | assumption | fail) (by first | exact hz | simpa using hz | fail) ?_; conv => whnf) | (refine allG rfl ?_; conv => whnf) | (refine And.intro (by first | omega | assumption | kernel_rfl | exact And.intro rfl rfl | ((try dsimp only [inR, idx, lowOf]); first | omega | (with_reducible decide) | (simp; omega) | fail) | fail) ?_; conv => whnf) | fail)
            refine ⟨(i + 1 + 1, insS' s2 x), [], ⟨hil, hst⟩, ?_, rfl, ?_, ?_, rfl⟩
            · dsimp only; first | omega | (simp; done) | (simp; omega)
            all_goals (repeat' (first | exact trivial | exact rfl | refine And.intro ?_ ?_ | (refine congrArg vI ?_; first | omega | (dsimp only; omega) | fail) | (refine congrArg some ?_) | omega | exact Nat.le_refl _ | exact congrArg (SV.lst _) (List.take_of_length_le (Nat.le_refl _)).symm))
        · rw [List.take_of_length_le (by omega)] at hs2
          conv => whnf
          repeat' (first | (refine tell (fun htest => ?_) (fun htest => ?_) <;> (try dsimp only at htest) <;> first | (exfalso; omega) | (exact absurd rfl htest) | (exact absurd (by decide) htest) | (conv => whnf)) | (refine allG rfl ?_; conv => whnf) | (refine And.intro (by first | omega | assumption | kernel_rfl | exact And.intro rfl rfl | ((try dsimp only [inR, idx, lowOf]); first | omega | (with_reducible decide) | (simp; omega) | fail) | fail) ?_; conv => whnf) | fail)
          refine ⟨(k + 1, s2), [], ⟨hk3, hs2.next⟩, ?_, rfl, ?_, ?_, rfl⟩
          · dsimp only; first | omega | (simp; done) | (simp; omega)
          all_goals (repeat' (first | exact trivial | exact rfl | refine And.intro ?_ ?_ | (refine congrArg vI ?_; first | omega | (dsimp only; omega) | fail) | (refine congrArg some ?_) | omega | exact Nat.le_refl _ | exact congrArg (SV.lst _) (List.take_of_length_le (Nat.le_refl _)).symm))
      · obtain rfl : k = 3 := by omega
        have hall := hss.all hT
        conv => whnf
        repeat' (first | (refine tell (fun htest => ?_) (fun htest => ?_) <;> (try dsimp only at htest) <;> first | (exfalso; omega) | (exact absurd rfl htest) | (exact absurd (by decide) htest) | (conv => whnf)) | (refine allG rfl ?_; conv => whnf) | (refine And.intro (by first | omega | assumption | kernel_rfl | exact And.intro rfl rfl | ((try dsimp only [inR, idx, lowOf]); first | omega | (with_reducible decide) | (simp; omega) | fail) | fail) ?_; conv => whnf) | fail)
        refine ⟨Nat, fun x => ⟨[(4, .ptr 1019 0 1 0), (7, .mp 1065), (13, vI x)], [(1019, .cells [.mp 2019]), (2019, .map 3 3 m), (1065, .map 3 4 ss)]⟩, fun x => x ≤ 9, fun x => 9 - x, fun _ _ => rfl, ⟨0, [], Nat.zero_le _, ?_⟩, ?_⟩
        · refine ⟨rfl, ?_, ?_, rfl⟩
          all_goals (repeat' (first | exact trivial | exact rfl | refine And.intro ?_ ?_ | (refine congrArg vI ?_; first | omega | (dsimp only; omega) | fail) | (refine congrArg some ?_) | omega | exact Nat.le_refl _ | exact congrArg (SV.lst _) (List.take_of_length_le (Nat.le_refl _)).symm))
        rintro (x : Nat) (hx9 : x ≤ 9)
        by_cases hxl : x < 9
        · conv => whnf
          repeat' (first | (refine tell (fun htest => ?_) (fun htest => ?_) <;> (try dsimp only at htest) <;> first | (exfalso; omega) | (exact absurd rfl htest) | (exact absurd (by decide) htest) | (conv => whnf)) | (refine allG rfl ?_; conv => whnf) | (refine And.intro (by first | omega | assumption | kernel_rfl | exact And.intro rfl rfl | ((try dsimp only [inR, idx, lowOf]); first | omega | (with_reducible decide) | (simp; omega) | fail) | fail) ?_; conv => whnf) | fail)
          refine ⟨Nat, fun j => ⟨[(4, .ptr 1019 0 1 0), (7, .mp 1065), (13, vI x), (131, .sl 1131 1 0 2), (132, vI 2), (133, vI j)], [(1019, .cells [.mp 2019]), (2019, .map 3 3 m), (1065, .map 3 4 ss), (1131, .arr 3 [(x : Int), 1000 + x])]⟩, fun j => j ≤ 2, fun j => 2 - j, fun _ _ => rfl, ⟨0, [], Nat.zero_le _, ?_⟩, ?_⟩
          · refine ⟨rfl, ?_, ?_, rfl⟩
            all_goals (repeat' (first | exact trivial | exact rfl | refine And.intro ?_ ?_ | (refine congrArg vI ?_; first | omega | (dsimp only; omega) | fail) | (refine congrArg some ?_) | omega | exact Nat.le_refl _ | exact congrArg (SV.lst _) (List.take_of_length_le (Nat.le_refl _)).symm))
          rintro (j : Nat) (hj : j ≤ 2)
          by_cases hjl : j < 2
          · obtain ⟨q, hq⟩ : ∃ q, [(x : Int), 1000 + x][j]? = some q := ⟨_, List.getElem?_eq_getElem hjl⟩
            have hqI : InI q := by
              have := List.mem_of_getElem? hq
              simp at this
              rcases this with rfl | rfl <;> exact ⟨by omega, by omega⟩
            conv => whnf
            repeat' (first | (refine tell (fun htest => ?_) (fun htest => ?_) <;> (try dsimp only at htest) <;> first | (exfalso; omega) | (exact absurd rfl htest) | (exact absurd (by decide) htest) | (conv => whnf)) | (refine allG (x := q) (by first | exact hq | simpa [List.getElem?_append_right, lowOf] using hq | fail) ?_; conv => whnf) | (refine allLst (x := q) (by first | omega | assumption | fail) (by first | exact hq | simpa using hq | fail) ?_; conv => whnf) | (refine allG rfl ?_; conv => whnf) | (refine And.intro (by first | omega | assumption | kernel_rfl | exact And.intro rfl rfl | ((try dsimp only [inR, idx, lowOf]); first | omega | (with_reducible decide) | (simp; omega) | fail) | fail) ?_; conv => whnf) | fail)
            refine ⟨_, m_ownerD, (m, q), [1019, 2019], false, ?_⟩
            conv => whnf
            refine And.intro (vc0 hqI (by (repeat' (first | exact trivial | exact rfl | refine And.intro ?_ ?_ | (refine congrArg vI ?_; first | omega | (dsimp only; omega) | fail) | (refine congrArg some ?_) | omega | exact Nat.le_refl _ | exact congrArg (SV.lst _) (List.take_of_length_le (Nat.le_refl _)).symm))) (by repeat' (first | exact trivial | exact rfl | refine And.intro ?_ ?_ | (refine congrArg vI ?_; first | omega | (dsimp only; omega) | fail) | (refine congrArg some ?_) | omega | exact Nat.le_refl _ | exact congrArg (SV.lst _) (List.take_of_length_le (Nat.le_refl _)).symm)) trivial trivial) ?_
            refine And.intro ⟨_, rfl⟩ ?_
            rintro ⟨(v : Int), (is : Bool)⟩ (hv : (v, is) = ((lookT m q).getD 0, (lookT m q).isSome))
            have his : is = (lookT m q).isSome := congrArg Prod.snd hv
            conv => whnf
            repeat' (first | (refine tell (fun htest => ?_) (fun htest => ?_) <;> (try dsimp only at htest) <;> first | (exfalso; omega) | (exact absurd rfl htest) | (exact absurd (by decide) htest) | (conv => whnf)) | (refine allG rfl ?_; conv => whnf) | (refine And.intro (by first | omega | assumption | kernel_rfl | exact And.intro rfl rfl | ((try dsimp only [inR, idx, lowOf]); first | omega | (with_reducible decide) | (simp; omega) | fail) | fail) ?_; conv => whnf) | fail)
            refine allEqB ?_
            intro (y : Bool) (hy : y = (lookS ss q).getD false)
            rw [hall q, ← his] at hy
            subst hy
            conv => whnf
            repeat' (first | (refine tell (fun htest => ?_) (fun htest => ?_) <;> (try dsimp only at htest) <;> first | (exfalso; omega) | (exact absurd rfl htest) | (exact absurd (by decide) htest) | (conv => whnf)) | (refine allG rfl ?_; conv => whnf) | (refine And.intro (by first | omega | assumption | kernel_rfl | exact And.intro rfl rfl | ((try dsimp only [inR, idx, lowOf]); first | omega | (with_reducible decide) | (simp; omega) | fail) | fail) ?_; conv => whnf) | fail)
            refine ⟨j + 1, [], hjl, ?_, rfl, ?_, ?_, rfl⟩
            · dsimp only; first | omega | (simp; done) | (simp; omega)
            all_goals (repeat' (first | exact trivial | exact rfl | refine And.intro ?_ ?_ | (refine congrArg vI ?_; first | omega | (dsimp only; omega) | fail) | (refine congrArg some ?_) | omega | exact Nat.le_refl _ | exact congrArg (SV.lst _) (List.take_of_length_le (Nat.le_refl _)).symm))
          · conv => whnf
            repeat' (first | (refine tell (fun htest => ?_) (fun htest => ?_) <;> (try dsimp only at htest) <;> first | (exfalso; omega) | (exact absurd rfl htest) | (exact absurd (by decide) htest) | (conv => whnf)) | (refine allG rfl ?_; conv => whnf) | (refine And.intro (by first | omega | assumption | kernel_rfl | exact And.intro rfl rfl | ((try dsimp only [inR, idx, lowOf]); first | omega | (with_reducible decide) | (simp; omega) | fail) | fail) ?_; conv => whnf) | fail)
            refine ⟨x + 1, [], hxl, ?_, rfl, ?_, ?_, rfl⟩
            · dsimp only; first | omega | (simp; done) | (simp; omega)
            all_goals (repeat' (first | exact trivial | exact rfl | refine And.intro ?_ ?_ | (refine congrArg vI ?_; first | omega | (dsimp only; omega) | fail) | (refine congrArg some ?_) | omega | exact Nat.le_refl _ | exact congrArg (SV.lst _) (List.take_of_length_le (Nat.le_refl _)).symm))
        · conv => whnf
          repeat' (first | (refine tell (fun htest => ?_) (fun htest => ?_) <;> (try dsimp only at htest) <;> first | (exfalso; omega) | (exact absurd rfl htest) | (exact absurd (by decide) htest) | (conv => whnf)) | (refine allG rfl ?_; conv => whnf) | (refine And.intro (by first | omega | assumption | kernel_rfl | exact And.intro rfl rfl | ((try dsimp only [inR, idx, lowOf]); first | omega | (with_reducible decide) | (simp; omega) | fail) | fail) ?_; conv => whnf) | fail)
          exact ⟨(), [], trivial, rfl, trivial, trivial⟩
end Go.Sx

