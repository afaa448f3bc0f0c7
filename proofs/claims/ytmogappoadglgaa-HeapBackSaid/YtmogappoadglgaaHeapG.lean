/-
  Layer 10, part G: a heap as a sorted list; what is popped until there is nothing.
-/
import Derived.Test.YtmogappoadglgaaHeapF
namespace Go.Sx
open Go Go.Proofs Go.Proofs.Ytmogappoadglgaa
def SortedL (s : List Item) : Prop := s.Pairwise leP
theorem insP_nil (x : Item) : insP x [] = [x] := rfl
theorem insP_cons (x y : Item) (t : List Item) : insP x (y :: t) = if ltP y x = true then y :: insP x t else x :: y :: t := by
  simp only [insP, List.takeWhile_cons, List.dropWhile_cons]
  split <;> rfl
theorem insP_sorted {x : Item} : ∀ {s : List Item}, SortedL s → SortedL (insP x s)
  | [], _ => by simp [insP_nil, SortedL]
  | y :: t, h => by
    rw [insP_cons]
    obtain ⟨h1, h2⟩ := List.pairwise_cons.1 h
    split
    · rename_i hlt
      refine List.pairwise_cons.2 ⟨fun z hz => ?_, insP_sorted h2⟩
      rcases List.mem_cons.1 ((insP_perm x t).mem_iff.1 hz) with rfl | hz
      · exact leP_of_lt hlt
      · exact h1 z hz
    · rename_i hlt
      have hle : leP x y := by simpa [leP] using hlt
      refine List.pairwise_cons.2 ⟨fun z hz => ?_, h⟩
      rcases List.mem_cons.1 hz with rfl | hz
      · exact hle
      · exact leP_trans hle (h1 z hz)
/-- A heap's items 'xs' in memory 'zs': 's' is they, sorted. -/
structure HS (s xs zs : List Item) : Prop where
  heap : HeapL xs
  perm : List.Perm xs s
  sorted : SortedL s
  mem : ∃ ys, zs = xs ++ ys
theorem HS.len {s xs zs : List Item} (h : HS s xs zs) : xs.length = s.length := h.perm.length_eq
theorem HS.nil : HS [] [] [] := ⟨heap_nil, List.Perm.refl _, List.Pairwise.nil, ⟨[], rfl⟩⟩
theorem HS.push {s xs zs d : List Item} {x : Item} (h : HS s xs zs) (hp : List.Perm d (x :: xs)) (hd : HeapL d) : HS (insP x s) d d :=
  ⟨hd, hp.trans ((h.perm.cons x).trans (insP_perm x s).symm), insP_sorted h.sorted, ⟨[], (List.append_nil d).symm⟩⟩
theorem HS.pop0 {xs zs d ws : List Item} {a : Item} {ok : Bool} (h : HS [] xs zs) (hq : PopPost xs (d, ws, a, ok)) : a = (0, 0) ∧ ok = false ∧ HS [] d ws := by
  have hx : xs = [] := List.Perm.eq_nil h.perm
  obtain ⟨h1, h2, h3⟩ := popE hq hx
  subst h3
  exact ⟨h1, h2, hq.1, List.Perm.refl _, List.Pairwise.nil, hq.2.1⟩
theorem HS.pop1 {s xs zs d ws : List Item} {a y : Item} {ok : Bool} (h : HS (y :: s) xs zs) (hq : PopPost xs (d, ws, a, ok)) : a = y ∧ ok = true ∧ HS s d ws := by
  obtain ⟨h1, h2⟩ := List.pairwise_cons.1 h.sorted
  obtain ⟨e1, e2, e3, e4, e5⟩ := popS hq h.perm h1
  exact ⟨e1, e2, e4, e3, h2, e5⟩
theorem HS.pre {s xs zs : List Item} (h : HS s xs zs) (hl : s.length ≤ 1000000) : HeapL xs ∧ xs.length ≤ 1000000 ∧ ∃ ys, zs = xs ++ ys := ⟨h.heap, by rw [h.len]; exact hl, h.mem⟩
theorem HS.pre' {s xs zs : List Item} (h : HS s xs zs) (hl : s.length < 1000000) : HeapL xs ∧ xs.length < 1000000 ∧ ∃ ys, zs = xs ++ ys := ⟨h.heap, by rw [h.len]; exact hl, h.mem⟩
/-- All of a list, sorted by putting one in behind the other. -/
def sortP (l : List Item) : List Item := l.foldl (fun s x => insP x s) []
theorem sortP_snoc (l : List Item) (x : Item) : sortP (l ++ [x]) = insP x (sortP l) := by simp [sortP]
theorem sortP_perm (l : List Item) : List.Perm (sortP l) l := by
  have : ∀ (l s : List Item), List.Perm (l.foldl (fun s x => insP x s) s) (s ++ l) := by
    intro l
    induction l with
    | nil => intro s; simp
    | cons x l ih =>
      intro s
      refine (ih (insP x s)).trans ?_
      refine ((insP_perm x s).append_right l).trans ?_
      exact (List.perm_middle (l₁ := s) (a := x) (l₂ := l)).symm
  simpa [sortP] using this l []
theorem sortP_sorted (l : List Item) : SortedL (sortP l) := by
  have : ∀ (l s : List Item), SortedL s → SortedL (l.foldl (fun s x => insP x s) s) := by
    intro l
    induction l with
    | nil => intro s h; exact h
    | cons x l ih => intro s h; exact ih _ (insP_sorted h)
  exact this l [] List.Pairwise.nil
theorem take_snoc {l : List Item} {i : Nat} {y : Item} (h : l[i]? = some y) : l.take (i + 1) = l.take i ++ [y] := by rw [List.take_add_one, h]; rfl
theorem cntS {L : List Item} {j : Nat} {a y : Item} (h : L[j]? = some a) : (L.take (j + 1)).count y = (L.take j).count y + if a = y then 1 else 0 := by
  rw [take_snoc h, List.count_append, List.count_singleton]
  simp
theorem cntT {L : List Item} {j c : Nat} {a y : Item} (h : L[j]? = some a) (e : (a.fst == y.fst && (a.snd == y.snd && true)) = true) (hc : c = (L.take j).count y) : c + 1 = (L.take (j + 1)).count y := by
  have e : a = y := by simp at e; exact Prod.ext e.1 e.2
  rw [cntS h, if_pos e, hc]
theorem cntF {L : List Item} {j c : Nat} {a y : Item} (h : L[j]? = some a) (e : ¬ (a.fst == y.fst && (a.snd == y.snd && true)) = true) (hc : c = (L.take j).count y) : c = (L.take (j + 1)).count y := by
  have e : ¬ a = y := fun h => by subst h; simp at e
  rw [cntS h, if_neg e, hc]; rfl
abbrev hpN (a n : Nat) : Ct AF := .cells [.sl a 2 0 n, fnB]
def spLaw1 : Spec AF where
  γ := List Item
  δ := Unit
  args := fun l => [.lst 32 l]
  own := fun _ => []
  pre := fun _ => True
  nnew := 0
  res := fun _ _ => vB true
  own' := fun _ _ => []
  post := fun _ _ => True
theorem m_sorts : Meets Try.prog regF 4 spLaw1 := by
  refine meets Try.func4 150 noWr rfl (by kernel_rfl) (by kernel_rfl) ?_
  intro (l : List Item) _
  conv => whnf
  repeat' (first | (refine tell (fun htest => ?_) (fun htest => ?_) <;> (try dsimp only at htest) <;> first | (exfalso; omega) | (exact absurd rfl htest) | (exact absurd (by decide) htest) | (conv => whnf)) | (refine And.intro (by first | kernel_rfl | omega | ((try dsimp only [inR, idx, lowOf]); first | omega | (with_reducible decide) | (simp; omega) | fail) | fail) ?_; conv => whnf) | fail)
  refine ⟨_, m_awake, (), [], false, ?_⟩
  conv => whnf
  refine And.intro (vc0 trivial (by repeat' (first | exact trivial | exact rfl | refine And.intro ?_ ?_ | (refine congrArg vI ?_; omega) | (refine congrArg some ?_) | omega)) (by repeat' (first | exact trivial | exact rfl | refine And.intro ?_ ?_ | (refine congrArg vI ?_; omega) | (refine congrArg some ?_) | omega)) trivial trivial) ?_
  refine And.intro ⟨(), trivial⟩ (fun (_ : Unit) _ => ?_)
  conv => whnf
  refine ⟨_, m_new, (), [], false, ?_⟩
  conv => whnf
  refine And.intro (vc0 trivial (by repeat' (first | exact trivial | exact rfl | refine And.intro ?_ ?_ | (refine congrArg vI ?_; omega) | (refine congrArg some ?_) | omega)) (by repeat' (first | exact trivial | exact rfl | refine And.intro ?_ ?_ | (refine congrArg vI ?_; omega) | (refine congrArg some ?_) | omega)) trivial trivial) ?_
  refine And.intro ⟨(), trivial⟩ (fun (_ : Unit) _ => ?_)
  conv => whnf
  conv => whnf
  repeat' (first | (refine tell (fun htest => ?_) (fun htest => ?_) <;> (try dsimp only at htest) <;> first | (exfalso; omega) | (exact absurd rfl htest) | (exact absurd (by decide) htest) | (conv => whnf)) | (refine And.intro (by first | kernel_rfl | omega | ((try dsimp only [inR, idx, lowOf]); first | omega | (with_reducible decide) | (simp; omega) | fail) | fail) ?_; conv => whnf) | fail)
  obtain ⟨n, hn⟩ : ∃ n : Nat, n = min l.length 200 := ⟨_, rfl⟩
  refine ⟨List Item × Nat, fun p => ⟨[(0, .lst 32 l), (4, .ptr 1020 0 2 0), (5, vI n), (6, vI p.2)], [(1020, hpN 3001 p.1.length), (3001, .arr 97 p.1)]⟩, fun p => p.2 ≤ n ∧ HS (sortP (l.take p.2)) p.1 p.1, fun p => n - p.2, fun _ _ => rfl, ⟨([], 0), [(3001, 2020)], ⟨Nat.zero_le _, HS.nil⟩, ?_⟩, ?_⟩
  · refine ⟨rfl, ?_, ?_, rfl⟩
    all_goals (repeat' (first | exact trivial | exact rfl | refine And.intro ?_ ?_ | (refine congrArg vI ?_; omega) | (refine congrArg some ?_) | omega))
  rintro ⟨(xs : List Item), (i : Nat)⟩ ⟨(hi : i ≤ n), (hs : HS (sortP (l.take i)) xs xs)⟩
  have hl : (sortP (l.take i)).length = i := by rw [(sortP_perm _).length_eq]; simp; omega
  by_cases hlt : i < n
  · obtain ⟨y, hy⟩ : ∃ y, l[i]? = some y := ⟨_, List.getElem?_eq_getElem (by omega)⟩
    conv => whnf
    repeat' (first | (refine tell (fun htest => ?_) (fun htest => ?_) <;> (try dsimp only at htest) <;> first | (exfalso; omega) | (exact absurd rfl htest) | (exact absurd (by decide) htest) | (conv => whnf)) | (refine allG (x := y) (by first | exact hy | simpa [List.getElem?_append_right, lowOf] using hy | fail) ?_; conv => whnf) | (refine allLst (x := y) (by omega) (by first | exact hy | simpa using hy | fail) ?_; conv => whnf) | (refine And.intro (by first | kernel_rfl | omega | ((try dsimp only [inR, idx, lowOf]); first | omega | (with_reducible decide) | (simp; omega) | fail) | fail) ?_; conv => whnf) | fail)
    refine ⟨_, m_push, (xs, xs, y), [1020, 3001], false, ?_⟩
    conv => whnf
    refine And.intro (vc0 (hs.pre' (by omega)) (by repeat' (first | exact trivial | exact rfl | refine And.intro ?_ ?_ | (refine congrArg vI ?_; omega) | (refine congrArg some ?_) | omega)) (by repeat' (first | exact trivial | exact rfl | refine And.intro ?_ ?_ | (refine congrArg vI ?_; omega) | (refine congrArg some ?_) | omega)) trivial trivial) ?_
    refine And.intro (heap_ex _) ?_
    rintro (d : List Item) ⟨hp, hd⟩
    conv => whnf
    repeat' (first | (refine tell (fun htest => ?_) (fun htest => ?_) <;> (try dsimp only at htest) <;> first | (exfalso; omega) | (exact absurd rfl htest) | (exact absurd (by decide) htest) | (conv => whnf)) | (refine And.intro (by first | kernel_rfl | omega | ((try dsimp only [inR, idx, lowOf]); first | omega | (with_reducible decide) | (simp; omega) | fail) | fail) ?_; conv => whnf) | fail)
    refine ⟨(d, i + 1), [(3001, 1046)], ⟨hlt, by rw [take_snoc hy, sortP_snoc]; exact hs.push hp hd⟩, ?_, rfl, ?_, ?_, rfl⟩
    · dsimp only; omega
    all_goals (repeat' (first | exact trivial | exact rfl | refine And.intro ?_ ?_ | (refine congrArg vI ?_; omega) | (refine congrArg some ?_) | omega))
  · have hi : n = i := by omega
    subst hi
    conv => whnf
    repeat' (first | (refine tell (fun htest => ?_) (fun htest => ?_) <;> (try dsimp only at htest) <;> first | (exfalso; omega) | (exact absurd rfl htest) | (exact absurd (by decide) htest) | (conv => whnf)) | (refine And.intro (by first | kernel_rfl | omega | ((try dsimp only [inR, idx, lowOf]); first | omega | (with_reducible decide) | (simp; omega) | fail) | fail) ?_; conv => whnf) | fail)
    refine ⟨List Item × List Item × Nat, fun p => ⟨[(0, .lst 32 l), (4, .ptr 1020 0 2 0), (5, vI n), (7, .sl 3000 2 0 p.2.2), (8, vI p.2.2)], [(1020, hpN 3001 p.1.length), (3001, .arr 97 p.2.1), (3000, .arr 32 ((sortP (l.take n)).take p.2.2))]⟩, fun p => p.2.2 ≤ n ∧ HS ((sortP (l.take n)).drop p.2.2) p.1 p.2.1, fun p => n - p.2.2, fun _ _ => rfl, ⟨(xs, xs, 0), [], ⟨Nat.zero_le _, hs⟩, ?_⟩, ?_⟩
    · refine ⟨rfl, ?_, ?_, rfl⟩
      all_goals (repeat' (first | exact trivial | exact rfl | refine And.intro ?_ ?_ | (refine congrArg vI ?_; omega) | (refine congrArg some ?_) | omega))
    clear hs
    rintro ⟨(xs : List Item), (zs : List Item), (i : Nat)⟩ ⟨(hi : i ≤ n), (hs : HS ((sortP (l.take n)).drop i) xs zs)⟩
    have hxl := hs.len
    rw [List.length_drop, hl] at hxl
    by_cases hlt : i < n
    · obtain ⟨y, hy⟩ : ∃ y, (sortP (l.take n))[i]? = some y := ⟨_, List.getElem?_eq_getElem (by omega)⟩
      have hdr : (sortP (l.take n)).drop i = y :: (sortP (l.take n)).drop (i + 1) := by
        obtain ⟨h1, rfl⟩ := List.getElem?_eq_some_iff.1 hy
        exact List.drop_eq_getElem_cons h1
      rw [hdr] at hs
      conv => whnf
      repeat' (first | (refine tell (fun htest => ?_) (fun htest => ?_) <;> (try dsimp only at htest) <;> first | (exfalso; omega) | (exact absurd rfl htest) | (exact absurd (by decide) htest) | (conv => whnf)) | (refine And.intro (by first | kernel_rfl | omega | ((try dsimp only [inR, idx, lowOf]); first | omega | (with_reducible decide) | (simp; omega) | fail) | fail) ?_; conv => whnf) | fail)
      refine ⟨_, m_pop, (xs, zs), [1020, 3001], false, ?_⟩
      conv => whnf
      refine And.intro (vc0 (hs.pre (by rw [← hs.len]; omega)) (by repeat' (first | exact trivial | exact rfl | refine And.intro ?_ ?_ | (refine congrArg vI ?_; omega) | (refine congrArg some ?_) | omega)) (by repeat' (first | exact trivial | exact rfl | refine And.intro ?_ ?_ | (refine congrArg vI ?_; omega) | (refine congrArg some ?_) | omega)) trivial trivial) ?_
      refine And.intro (pop_ex hs.heap) ?_
      rintro ⟨(d : List Item), (ws : List Item), (a : Item), (ok : Bool)⟩ hq
      obtain ⟨rfl, rfl, hs'⟩ := hs.pop1 hq
      have hdl := hs'.len
      rw [List.length_drop, hl] at hdl
      conv => whnf
      repeat' (first | (refine tell (fun htest => ?_) (fun htest => ?_) <;> (try dsimp only at htest) <;> first | (exfalso; omega) | (exact absurd rfl htest) | (exact absurd (by decide) htest) | (conv => whnf)) | (refine And.intro (by first | kernel_rfl | omega | ((try dsimp only [inR, idx, lowOf]); first | omega | (with_reducible decide) | (simp; omega) | fail) | fail) ?_; conv => whnf) | fail)
      refine ⟨_, m_len, (d, ws), [1020, 3001], false, ?_⟩
      conv => whnf
      refine And.intro (vc0 trivial (by repeat' (first | exact trivial | exact rfl | refine And.intro ?_ ?_ | (refine congrArg vI ?_; omega) | (refine congrArg some ?_) | omega)) (by repeat' (first | exact trivial | exact rfl | refine And.intro ?_ ?_ | (refine congrArg vI ?_; omega) | (refine congrArg some ?_) | omega)) trivial trivial) ?_
      refine And.intro ⟨(), trivial⟩ (fun (_ : Unit) _ => ?_)
      conv => whnf
      conv => whnf
      repeat' (first | (refine tell (fun htest => ?_) (fun htest => ?_) <;> (try dsimp only at htest) <;> first | (exfalso; omega) | (exact absurd rfl htest) | (exact absurd (by decide) htest) | (conv => whnf)) | (refine And.intro (by first | kernel_rfl | omega | ((try dsimp only [inR, idx, lowOf]); first | omega | (with_reducible decide) | (simp; omega) | fail) | fail) ?_; conv => whnf) | fail)
      all_goals
        have hz2 : (((sortP (l.take n)).take i).drop 0).take i = (sortP (l.take n)).take i := by simp [List.take_take]
        have hct : (((sortP (l.take n)).take i).drop 0).take i ++ [a] = (sortP (l.take n)).take (i + 1) := by rw [hz2, take_snoc hy]
      · obtain ⟨z, hz⟩ : ∃ z, (sortP (l.take n))[i - 1]? = some z := ⟨_, List.getElem?_eq_getElem (by omega)⟩
        have hz3 : ((((sortP (l.take n)).take i).drop 0).take i ++ [a])[0 + ((i : Int) - 1).toNat]? = some z := by
          rw [hz2, show 0 + ((i : Int) - 1).toNat = i - 1 by omega, List.getElem?_append_left (by simp; omega), List.getElem?_take, if_pos (by omega)]; exact hz
        have hle := leP_iff.1 (List.pairwise_iff_getElem.1 (sortP_sorted (l.take n)) (i - 1) i (by omega) (by omega) (by omega))
        rw [(List.getElem?_eq_some_iff.1 hz).2, (List.getElem?_eq_some_iff.1 hy).2] at hle
        repeat' (first | (refine tell (fun htest => ?_) (fun htest => ?_) <;> (try dsimp only at htest) <;> first | (exfalso; omega) | (exact absurd rfl htest) | (exact absurd (by decide) htest) | (conv => whnf)) | (refine allG (x := z) (by first | exact hz3 | simpa [List.getElem?_append_right, lowOf] using hz3 | fail) ?_; conv => whnf) | (refine allLst (x := z) (by omega) (by first | exact hz3 | simpa using hz3 | fail) ?_; conv => whnf) | (refine And.intro (by first | kernel_rfl | omega | ((try dsimp only [inR, idx, lowOf]); first | omega | (with_reducible decide) | (simp; omega) | fail) | fail) ?_; conv => whnf) | fail)
        refine ⟨(d, ws, i + 1), [(3000, 1074)], ⟨hlt, hs'⟩, ?_, rfl, ?_, ?_, rfl⟩
        · dsimp only; omega
        all_goals (repeat' (first | exact trivial | exact rfl | refine And.intro ?_ ?_ | (refine congrArg vI ?_; omega) | (refine congrArg some ?_) | omega))
        · exact congrArg (Ct.arr (A := AF) 32) hct
        refine ⟨(d, ws, i + 1), [(3000, 1074)], ⟨hlt, hs'⟩, ?_, rfl, ?_, ?_, rfl⟩
        · dsimp only; omega
        all_goals (repeat' (first | exact trivial | exact rfl | refine And.intro ?_ ?_ | (refine congrArg vI ?_; omega) | (refine congrArg some ?_) | omega))
        · exact congrArg (Ct.arr (A := AF) 32) hct
      · refine ⟨(d, ws, i + 1), [(3000, 1074)], ⟨hlt, hs'⟩, ?_, rfl, ?_, ?_, rfl⟩
        · dsimp only; omega
        all_goals (repeat' (first | exact trivial | exact rfl | refine And.intro ?_ ?_ | (refine congrArg vI ?_; omega) | (refine congrArg some ?_) | omega))
        · exact congrArg (Ct.arr (A := AF) 32) hct
    · have hi : n = i := by omega
      subst hi
      rw [List.drop_eq_nil_of_le (by omega)] at hs
      have htk : (sortP (l.take n)).take n = sortP (l.take n) := List.take_of_length_le (by omega)
      conv => whnf
      repeat' (first | (refine tell (fun htest => ?_) (fun htest => ?_) <;> (try dsimp only at htest) <;> first | (exfalso; omega) | (exact absurd rfl htest) | (exact absurd (by decide) htest) | (conv => whnf)) | (refine And.intro (by first | kernel_rfl | omega | ((try dsimp only [inR, idx, lowOf]); first | omega | (with_reducible decide) | (simp; omega) | fail) | fail) ?_; conv => whnf) | fail)
      refine ⟨Nat, fun i => ⟨[(0, .lst 32 l), (4, .ptr 1020 0 2 0), (5, vI n), (7, .sl 3000 2 0 n), (12, vI i)], [(1020, hpN 3001 xs.length), (3001, .arr 97 zs), (3000, .arr 32 (sortP (l.take n)))]⟩, fun i => i ≤ n, fun i => n - i, fun _ _ => rfl, ⟨0, [], Nat.zero_le _, ?_⟩, ?_⟩
      · refine ⟨rfl, ?_, ?_, rfl⟩
        all_goals (repeat' (first | exact trivial | exact rfl | refine And.intro ?_ ?_ | (refine congrArg vI ?_; omega) | (refine congrArg some ?_) | omega))
        all_goals (exact congrArg (Ct.arr (A := AF) 32) htk)
      clear htk
      rintro i (hi : i ≤ n)
      by_cases hlt : i < n
      · obtain ⟨y, hy⟩ : ∃ y, l[i]? = some y := ⟨_, List.getElem?_eq_getElem (by omega)⟩
        conv => whnf
        repeat' (first | (refine tell (fun htest => ?_) (fun htest => ?_) <;> (try dsimp only at htest) <;> first | (exfalso; omega) | (exact absurd rfl htest) | (exact absurd (by decide) htest) | (conv => whnf)) | (refine allG (x := y) (by first | exact hy | simpa [List.getElem?_append_right, lowOf] using hy | fail) ?_; conv => whnf) | (refine allLst (x := y) (by omega) (by first | exact hy | simpa using hy | fail) ?_; conv => whnf) | (refine And.intro (by first | kernel_rfl | omega | ((try dsimp only [inR, idx, lowOf]); first | omega | (with_reducible decide) | (simp; omega) | fail) | fail) ?_; conv => whnf) | fail)
        refine ⟨Nat × Nat × Nat, fun p => ⟨[(0, .lst 32 l), (4, .ptr 1020 0 2 0), (5, vI n), (7, .sl 3000 2 0 n), (12, vI i), (13, vI p.2.1), (14, vI p.2.2), (15, vI p.1)], [(1020, hpN 3001 xs.length), (3001, .arr 97 zs), (3000, .arr 32 (sortP (l.take n)))]⟩, fun p => p.1 ≤ n ∧ p.2.1 = (l.take p.1).count y ∧ p.2.2 = ((sortP (l.take n)).take p.1).count y, fun p => n - p.1, fun _ _ => rfl, ⟨(0, 0, 0), [], ⟨Nat.zero_le _, by simp, by simp⟩, ?_⟩, ?_⟩
        · refine ⟨rfl, ?_, ?_, rfl⟩
          all_goals (repeat' (first | exact trivial | exact rfl | refine And.intro ?_ ?_ | (refine congrArg vI ?_; omega) | (refine congrArg some ?_) | omega))
        rintro ⟨(j : Nat), (c : Nat), (e : Nat)⟩ ⟨(hj : j ≤ n), (hc : c = (l.take j).count y), (he : e = ((sortP (l.take n)).take j).count y)⟩
        have hcj : c ≤ j := by rw [hc]; exact Nat.le_trans List.count_le_length (List.length_take_le _ _)
        have hej : e ≤ j := by rw [he]; exact Nat.le_trans List.count_le_length (List.length_take_le _ _)
        by_cases hjlt : j < n
        · obtain ⟨a, ha⟩ : ∃ a, l[j]? = some a := ⟨_, List.getElem?_eq_getElem (by omega)⟩
          obtain ⟨b, hb⟩ : ∃ b, (sortP (l.take n))[j]? = some b := ⟨_, List.getElem?_eq_getElem (by omega)⟩
          conv => whnf
          repeat' (first | (refine tell (fun htest => ?_) (fun htest => ?_) <;> (try dsimp only at htest) <;> first | (exfalso; omega) | (exact absurd rfl htest) | (exact absurd (by decide) htest) | (conv => whnf)) | (refine allG (x := a) (by first | exact ha | simpa [List.getElem?_append_right, lowOf] using ha | fail) ?_; conv => whnf) | (refine allLst (x := a) (by omega) (by first | exact ha | simpa using ha | fail) ?_; conv => whnf) | (refine allG (x := y) (by first | exact hy | simpa [List.getElem?_append_right, lowOf] using hy | fail) ?_; conv => whnf) | (refine allLst (x := y) (by omega) (by first | exact hy | simpa using hy | fail) ?_; conv => whnf) | (refine allG (x := b) (by first | exact hb | simpa [List.getElem?_append_right, lowOf] using hb | fail) ?_; conv => whnf) | (refine allLst (x := b) (by omega) (by first | exact hb | simpa using hb | fail) ?_; conv => whnf) | (refine And.intro (by first | kernel_rfl | omega | ((try dsimp only [inR, idx, lowOf]); first | omega | (with_reducible decide) | (simp; omega) | fail) | fail) ?_; conv => whnf) | fail)
          refine ⟨(j + 1, c + 1, e + 1), [], ⟨hjlt, cntT ha (by assumption) hc, cntT hb (by assumption) he⟩, ?_, rfl, ?_, ?_, rfl⟩
          · dsimp only; omega
          all_goals (repeat' (first | exact trivial | exact rfl | refine And.intro ?_ ?_ | (refine congrArg vI ?_; omega) | (refine congrArg some ?_) | omega))
          refine ⟨(j + 1, c + 1, e), [], ⟨hjlt, cntT ha (by assumption) hc, cntF hb (by assumption) he⟩, ?_, rfl, ?_, ?_, rfl⟩
          · dsimp only; omega
          all_goals (repeat' (first | exact trivial | exact rfl | refine And.intro ?_ ?_ | (refine congrArg vI ?_; omega) | (refine congrArg some ?_) | omega))
          refine ⟨(j + 1, c, e + 1), [], ⟨hjlt, cntF ha (by assumption) hc, cntT hb (by assumption) he⟩, ?_, rfl, ?_, ?_, rfl⟩
          · dsimp only; omega
          all_goals (repeat' (first | exact trivial | exact rfl | refine And.intro ?_ ?_ | (refine congrArg vI ?_; omega) | (refine congrArg some ?_) | omega))
          refine ⟨(j + 1, c, e), [], ⟨hjlt, cntF ha (by assumption) hc, cntF hb (by assumption) he⟩, ?_, rfl, ?_, ?_, rfl⟩
          · dsimp only; omega
          all_goals (repeat' (first | exact trivial | exact rfl | refine And.intro ?_ ?_ | (refine congrArg vI ?_; omega) | (refine congrArg some ?_) | omega))
        · have hjn : j = n := by omega
          have hce : c = e := by
            rw [hc, he, hjn, List.take_of_length_le (l := sortP (l.take n)) (by omega)]
            exact ((sortP_perm (l.take n)).count_eq y).symm
          clear hc he
          conv => whnf
          repeat' (first | (refine tell (fun htest => ?_) (fun htest => ?_) <;> (try dsimp only at htest) <;> first | (exfalso; omega) | (exact absurd rfl htest) | (exact absurd (by decide) htest) | (conv => whnf)) | (refine And.intro (by first | kernel_rfl | omega | ((try dsimp only [inR, idx, lowOf]); first | omega | (with_reducible decide) | (simp; omega) | fail) | fail) ?_; conv => whnf) | fail)
          refine ⟨i + 1, [], hlt, ?_, rfl, ?_, ?_, rfl⟩
          · dsimp only; omega
          all_goals (repeat' (first | exact trivial | exact rfl | refine And.intro ?_ ?_ | (refine congrArg vI ?_; omega) | (refine congrArg some ?_) | omega))
      · conv => whnf
        repeat' (first | (refine tell (fun htest => ?_) (fun htest => ?_) <;> (try dsimp only at htest) <;> first | (exfalso; omega) | (exact absurd rfl htest) | (exact absurd (by decide) htest) | (conv => whnf)) | (refine And.intro (by first | kernel_rfl | omega | ((try dsimp only [inR, idx, lowOf]); first | omega | (with_reducible decide) | (simp; omega) | fail) | fail) ?_; conv => whnf) | fail)
        refine ⟨_, m_pop, (xs, zs), [1020, 3001], false, ?_⟩
        conv => whnf
        refine And.intro (vc0 (hs.pre (by simp)) (by repeat' (first | exact trivial | exact rfl | refine And.intro ?_ ?_ | (refine congrArg vI ?_; omega) | (refine congrArg some ?_) | omega)) (by repeat' (first | exact trivial | exact rfl | refine And.intro ?_ ?_ | (refine congrArg vI ?_; omega) | (refine congrArg some ?_) | omega)) trivial trivial) ?_
        refine And.intro (pop_ex hs.heap) ?_
        rintro ⟨(d : List Item), (ws : List Item), (a : Item), (ok : Bool)⟩ hq
        obtain ⟨rfl, rfl, hs'⟩ := hs.pop0 hq
        conv => whnf
        repeat' (first | (refine tell (fun htest => ?_) (fun htest => ?_) <;> (try dsimp only at htest) <;> first | (exfalso; omega) | (exact absurd rfl htest) | (exact absurd (by decide) htest) | (conv => whnf)) | (refine And.intro (by first | kernel_rfl | omega | ((try dsimp only [inR, idx, lowOf]); first | omega | (with_reducible decide) | (simp; omega) | fail) | fail) ?_; conv => whnf) | fail)
        refine ⟨(), [], trivial, ?_, ?_, ?_⟩
        all_goals (repeat' (first | exact trivial | exact rfl | refine And.intro ?_ ?_ | (refine congrArg vI ?_; omega) | (refine congrArg some ?_) | omega))
end Go.Sx

