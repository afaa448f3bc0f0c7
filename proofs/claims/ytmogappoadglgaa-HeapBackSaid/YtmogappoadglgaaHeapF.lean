/-
  Layer 10, part F: the document's own heap; which of n things a raw number speaks of.
-/
import Derived.Test.YtmogappoadglgaaHeapE
namespace Go.Sx
open Go Go.Proofs Go.Proofs.Ytmogappoadglgaa
def pickF (c n : Int) : Int := (if c < 0 then 0 - (c + 1) else c).tmod n
theorem pickF_bd {c n : Int} (hn : 0 < n) : 0 ≤ pickF c n ∧ pickF c n < n := by
  have h : 0 ≤ (if c < 0 then 0 - (c + 1) else c) := by split <;> omega
  unfold pickF
  rw [Int.tmod_eq_emod_of_nonneg h]
  exact ⟨Int.emod_nonneg _ (by omega), Int.emod_lt_of_pos _ hn⟩
def spPick : Spec AF where
  γ := Int × Int
  δ := Unit
  args := fun x => [vI x.1, vI x.2]
  own := fun _ => []
  pre := fun x => InI x.1 ∧ 0 < x.2
  nnew := 0
  res := fun x _ => vI (pickF x.1 x.2)
  own' := fun _ _ => []
  post := fun _ _ => True
theorem m_pick : Meets Try.prog regF 35 spPick := by
  refine meets Try.func35 13 noWr rfl (by kernel_rfl) (by kernel_rfl) ?_
  rintro ⟨(c : Int), (n : Int)⟩ ⟨⟨hc1, hc2⟩, (hn : 0 < n)⟩
  conv => whnf
  repeat' (first | (refine tell (fun htest => ?_) (fun htest => ?_) <;> (try dsimp only at htest) <;> first | (exfalso; omega) | (exact absurd rfl htest) | (exact absurd (by decide) htest) | (conv => whnf)) | (refine And.intro (by first | kernel_rfl | omega | ((try dsimp only [inR, idx, lowOf]); first | omega | (with_reducible decide) | (simp; omega) | fail) | fail) ?_; conv => whnf) | fail)
  all_goals exact ⟨(), [], trivial, eI (by unfold pickF; first | rw [if_pos (by assumption)] | rw [if_neg (by assumption)]), trivial, trivial⟩
abbrev refC (off n : Nat) : Ct AF := .cells [.sl 1 2 off n]
def spRNew : Spec AF where
  γ := Unit
  δ := Unit
  args := fun _ => []
  own := fun _ => []
  pre := fun _ => True
  nnew := 2
  res := fun _ _ => .ptr 0 0 1 0
  own' := fun _ _ => [some (refC 0 0), some (.arr 32 [])]
  post := fun _ _ => True
theorem m_rnew : Meets Try.prog regF 28 spRNew := by
  refine meets Try.func28 3 noWr rfl (by kernel_rfl) (by kernel_rfl) ?_
  intro (g : Unit) hg
  conv => whnf
  exact ⟨(), [1002, 9000], trivial, rfl, ⟨⟨⟨rfl, rfl, rfl, rfl⟩, trivial⟩, ⟨rfl, rfl⟩, trivial⟩, trivial⟩
def spRLen : Spec AF where
  γ := Nat × Nat × List Item
  δ := Unit
  args := fun _ => [.ptr 0 0 1 0]
  own := fun g => [refC g.1 g.2.1, .arr 32 g.2.2]
  pre := fun _ => True
  nnew := 0
  res := fun g _ => vI g.2.1
  own' := fun g _ => [some (refC g.1 g.2.1), some (.arr 32 g.2.2)]
  post := fun _ _ => True
theorem m_rlen : Meets Try.prog regF 34 spRLen := by
  refine meets Try.func34 8 noWr rfl (by kernel_rfl) (by kernel_rfl) ?_
  rintro ⟨(o : Nat), (n : Nat), (zs : List Item)⟩ hg
  conv => whnf
  exact ⟨(), [], trivial, rfl, ⟨⟨rfl, trivial⟩, rfl, trivial⟩, trivial⟩
theorem allLst {α : Type} {xs : List α} {n : Int} {x : α} {K : α → Prop} (h0 : 0 ≤ n) (h : xs[n.toNat]? = some x) (hK : K x) : (∃ y, 0 ≤ n ∧ xs[n.toNat]? = some y) ∧ ∀ y, (0 ≤ n ∧ xs[n.toNat]? = some y) → K y :=
  ⟨⟨x, h0, h⟩, fun y hy => by have hy := hy.2; rw [h] at hy; cases hy; exact hK⟩
theorem allG {α : Type} {L : List α} {j : Nat} {x : α} {K : α → Prop} (h : L[j]? = some x) (hK : K x) : (∃ y, L[j]? = some y) ∧ ∀ y, L[j]? = some y → K y :=
  ⟨⟨x, h⟩, fun y hy => by rw [h] at hy; cases hy; exact hK⟩
theorem getPre {α : Type} {p s : List α} {n : Nat} : (p ++ s)[p.length + n]? = s[n]? := by
  rw [List.getElem?_append_right (by omega)]; congr 1; omega
def popC (p s : List Item) : Ct AF := match s with
  | [] => refC p.length 0
  | _ :: t => refC (p.length + 1) t.length
/-- What lies behind 'pre' is told. -/
def spRPop : Spec AF where
  γ := List Item × List Item
  δ := Unit
  args := fun _ => [.ptr 0 0 1 0]
  own := fun g => [refC g.1.length g.2.length, .arr 32 (g.1 ++ g.2)]
  pre := fun _ => True
  nnew := 0
  res := fun g _ => .tup [vI (g.2.headD (0, 0)).1, vI (g.2.headD (0, 0)).2, vB (!g.2.isEmpty)]
  own' := fun g _ => [some (popC g.1 g.2), some (.arr 32 (g.1 ++ g.2))]
  post := fun _ _ => True
theorem m_rpop : Meets Try.prog regF 30 spRPop := by
  refine meets Try.func30 30 noWr rfl (by kernel_rfl) (by kernel_rfl) ?_
  rintro ⟨(pre : List Item), (s : List Item)⟩ hg
  cases s with
  | nil =>
    conv => whnf
    refine tell (fun _ => ?_) (fun h => absurd rfl h)
    conv => whnf
    exact ⟨(), [], trivial, ⟨rfl, rfl, rfl, trivial⟩, ⟨⟨rfl, trivial⟩, rfl, trivial⟩, trivial⟩
  | cons x t =>
    conv => whnf
    refine tell (fun h => absurd (show ((t.length + 1 : Nat) : Int) = 0 from h) (by omega)) (fun _ => ?_)
    conv => whnf
    refine And.intro ⟨Int.le_refl 0, by show (0 : Int) < ((t.length + 1 : Nat) : Int); omega⟩ ?_
    conv => whnf
    refine allG (x := x) (getPre (n := 0)) ?_
    conv => whnf
    refine And.intro rfl ?_
    conv => whnf
    refine And.intro (by show 0 ≤ (1 : Int) ∧ (1 : Int) ≤ ((t.length + 1 : Nat) : Int); omega) ?_
    conv => whnf
    refine allG (x := x.1) rfl ?_
    conv => whnf
    refine allG (x := x.2) rfl ?_
    conv => whnf
    refine And.intro (by kernel_rfl) ?_
    conv => whnf
    exact ⟨(), [], trivial, ⟨rfl, rfl, rfl, trivial⟩, ⟨⟨rfl, trivial⟩, rfl, trivial⟩, trivial⟩
def insP (x : Item) (s : List Item) : List Item := s.takeWhile (ltP · x) ++ x :: s.dropWhile (ltP · x)
theorem insP_eq {x : Item} {s : List Item} {k : Nat} (hk : k ≤ s.length) (h : ∀ y ∈ s.take k, ltP y x = true) (h2 : ∀ y, s[k]? = some y → ltP y x = false) : insP x s = s.take k ++ x :: s.drop k := by
  induction s generalizing k with
  | nil => simp [insP]
  | cons y t ih =>
    cases k with
    | zero => simp [insP, h2 y rfl]
    | succ k =>
      have h0 : ltP y x = true := h y (by simp)
      have := ih (k := k) (by simpa using hk) (fun z hz => h z (by simp [hz])) (fun z hz => h2 z (by simpa using hz))
      simp only [insP, List.takeWhile_cons, h0, List.dropWhile_cons, if_true, List.cons_append, List.take_succ_cons, List.drop_succ_cons] at this ⊢
      rw [this]
theorem insP_perm (x : Item) (s : List Item) : List.Perm (insP x s) (x :: s) := by
  have h : s.takeWhile (ltP · x) ++ s.dropWhile (ltP · x) = s := List.takeWhile_append_dropWhile
  have h2 : List.Perm (insP x s) (x :: (s.takeWhile (ltP · x) ++ s.dropWhile (ltP · x))) := List.perm_middle
  rwa [h] at h2
theorem insP_len (x : Item) (s : List Item) : (insP x s).length = s.length + 1 := (insP_perm x s).length_eq
theorem pushEq {pre s : List Item} {k : Nat} {x : Item} : List.take (k + 1) (List.take k (List.take k s) ++ [(x.fst, x.snd)]) ++ (List.drop (pre.length + k) pre ++ List.drop k s) = List.take k s ++ x :: List.drop k s := by
  rw [List.take_take, Nat.min_self, List.take_of_length_le (by simp; omega), List.drop_eq_nil_of_le (by omega)]; simp
def spRPush : Spec AF where
  γ := List Item × List Item × Item
  δ := Unit
  args := fun g => [.ptr 0 0 1 0, vI g.2.2.1, vI g.2.2.2]
  own := fun g => [refC g.1.length g.2.1.length, .arr 32 (g.1 ++ g.2.1)]
  pre := fun g => g.2.1.length ≤ 1000000
  nnew := 1
  res := fun _ _ => .tup []
  own' := fun g _ => [some (.cells [.sl 2 2 0 (insP g.2.2 g.2.1).length]), none, some (.arr 32 (insP g.2.2 g.2.1))]
  post := fun _ _ => True
theorem m_rpush : Meets Try.prog regF 32 spRPush := by
  refine meets Try.func32 74 noWr rfl (by kernel_rfl) (by kernel_rfl) ?_
  rintro ⟨(pre : List Item), (s : List Item), (x : Item)⟩ (hl : s.length ≤ 1000000)
  conv => whnf
  refine ⟨Nat, fun k => ⟨[(0, .ptr 0 0 1 0), (1, vI x.1), (2, vI x.2), (6, vI k)], [(0, refC pre.length s.length), (1, .arr 32 (pre ++ s))]⟩, fun k => k ≤ s.length ∧ ∀ y ∈ s.take k, ltP y x = true, fun k => s.length - k, fun _ _ => rfl, ⟨0, [], ⟨Nat.zero_le _, by simp⟩, ?_⟩, ?_⟩
  · refine ⟨rfl, ?_, ?_, rfl⟩
    all_goals (repeat' (first | exact trivial | exact rfl | refine And.intro ?_ ?_ | (refine congrArg vI ?_; omega) | (refine congrArg some ?_) | omega))
  rintro k ⟨(hk : k ≤ s.length), (hs : ∀ y ∈ s.take k, ltP y x = true)⟩
  have fln : (k : Int).toNat - Int.toNat 0 + 1 + (s.length - (k : Int).toNat) = (insP x s).length := by rw [insP_len]; simp; omega
  by_cases hlt : k < s.length
  · obtain ⟨y, hy⟩ : ∃ y, s[k]? = some y := ⟨_, List.getElem?_eq_getElem hlt⟩
    have hn : ∀ {p : Prop}, ¬ p → (ltP y x = true → p) → ∀ z, s[k]? = some z → ltP z x = false := fun h1 h2 z hz => by
      rw [hy] at hz; cases hz
      cases e : ltP y x with
      | false => rfl
      | true => exact absurd (h2 e) h1
    have hstep : ltP y x = true → ∀ z ∈ s.take (k + 1), ltP z x = true := fun h z hz => by
      rw [List.take_add_one, hy] at hz
      rcases List.mem_append.1 hz with hz | hz
      · exact hs z hz
      · simp at hz; subst hz; exact h
    conv => whnf
    repeat' (first | (refine tell (fun htest => ?_) (fun htest => ?_) <;> (try dsimp only at htest) <;> first | (exfalso; omega) | (exact absurd rfl htest) | (exact absurd (by decide) htest) | (conv => whnf)) | (refine allG (x := y) (by first | exact hy | simpa [List.getElem?_append_right, lowOf] using hy | fail) ?_; conv => whnf) | (refine allLst (x := y) (by omega) (by first | exact hy | simpa using hy | fail) ?_; conv => whnf) | (refine And.intro (by first | kernel_rfl | omega | ((try dsimp only [inR, idx, lowOf]); first | omega | (with_reducible decide) | (simp; omega) | fail) | fail) ?_; conv => whnf) | fail)
    refine ⟨k + 1, [], ⟨hlt, hstep (ltP_iff.2 (by omega))⟩, ?_, rfl, ?_, ?_, rfl⟩
    · dsimp only; omega
    all_goals (repeat' (first | exact trivial | exact rfl | refine And.intro ?_ ?_ | (refine congrArg vI ?_; omega) | (refine congrArg some ?_) | omega))
    refine ⟨k + 1, [], ⟨hlt, hstep (ltP_iff.2 (by omega))⟩, ?_, rfl, ?_, ?_, rfl⟩
    · dsimp only; omega
    all_goals (repeat' (first | exact trivial | exact rfl | refine And.intro ?_ ?_ | (refine congrArg vI ?_; omega) | (refine congrArg some ?_) | omega))
    · refine ⟨(), [1071], trivial, trivial, ⟨⟨?_, trivial⟩, trivial, ?_, trivial⟩, trivial⟩
      · exact congrArg (SV.sl (A := AF) 1071 2 0) fln
      · refine congrArg (Ct.arr (A := AF) 32) ?_
        dsimp only
        rw [insP_eq hk hs (hn (p := y.1 < x.1 ∨ (y.1 = x.1 ∧ y.2 < x.2)) (by omega) ltP_iff.1)]
        simp [lowOf, cstL, List.drop_append, List.take_of_length_le]
        exact pushEq
    · refine ⟨(), [1071], trivial, trivial, ⟨⟨?_, trivial⟩, trivial, ?_, trivial⟩, trivial⟩
      · exact congrArg (SV.sl (A := AF) 1071 2 0) fln
      · refine congrArg (Ct.arr (A := AF) 32) ?_
        dsimp only
        rw [insP_eq hk hs (hn (p := y.1 < x.1 ∨ (y.1 = x.1 ∧ y.2 < x.2)) (by omega) ltP_iff.1)]
        simp [lowOf, cstL, List.drop_append, List.take_of_length_le]
        exact pushEq
  · have hk : k = s.length := by omega
    subst hk
    conv => whnf
    repeat' (first | (refine tell (fun htest => ?_) (fun htest => ?_) <;> (try dsimp only at htest) <;> first | (exfalso; omega) | (exact absurd rfl htest) | (exact absurd (by decide) htest) | (conv => whnf)) | (refine And.intro (by first | kernel_rfl | omega | ((try dsimp only [inR, idx, lowOf]); first | omega | (with_reducible decide) | (simp; omega) | fail) | fail) ?_; conv => whnf) | fail)
    refine ⟨(), [1071], trivial, trivial, ⟨⟨?_, trivial⟩, trivial, ?_, trivial⟩, trivial⟩
    · exact congrArg (SV.sl (A := AF) 1071 2 0) fln
    · refine congrArg (Ct.arr (A := AF) 32) ?_
      dsimp only
      rw [insP_eq hk hs fun y hy => by simp at hy]
      simp [lowOf, cstL, List.drop_append, List.take_of_length_le]
end Go.Sx

