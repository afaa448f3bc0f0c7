/-
  Layer 10, part D: the heap's methods.
-/
import Derived.Test.YtmogappoadglgaaHeapC
namespace Go.Sx
open Go Go.Proofs Go.Proofs.Ytmogappoadglgaa
def spNew : Spec AF where
  γ := Unit
  δ := Unit
  args := fun _ => []
  own := fun _ => []
  pre := fun _ => True
  nnew := 2
  res := fun _ _ => .ptr 0 0 2 0
  own' := fun _ _ => [some (hpC 0), some (.arr 97 [])]
  post := fun _ _ => True
theorem m_new : Meets Try.prog regF 27 spNew := by
  refine meets Try.func27 4 noWr rfl (by kernel_rfl) (by kernel_rfl) ?_
  intro (g : Unit) hg
  conv => whnf
  exact ⟨(), [1003, 9000], trivial, rfl, ⟨⟨⟨rfl, rfl, rfl, rfl⟩, rfl, trivial⟩, ⟨rfl, rfl⟩, trivial⟩, trivial⟩
def spLen : Spec AF where
  γ := List Item × List Item
  δ := Unit
  args := fun _ => [.ptr 0 0 2 0]
  own := fun g => [hpC g.1.length, .arr 97 g.2]
  pre := fun _ => True
  nnew := 0
  res := fun g _ => vI g.1.length
  own' := fun g _ => [some (hpC g.1.length), some (.arr 97 g.2)]
  post := fun _ _ => True
theorem m_len : Meets Try.prog regF 33 spLen := by
  refine meets Try.func33 9 noWr rfl (by kernel_rfl) (by kernel_rfl) ?_
  rintro ⟨(xs : List Item), (ys : List Item)⟩ hg
  conv => whnf
  exact ⟨(), [], trivial, rfl, ⟨⟨rfl, rfl, trivial⟩, rfl, trivial⟩, trivial⟩
theorem heap_ex (xs : List Item) : ∃ d, List.Perm d xs ∧ HeapL d := by
  have ht : ∀ a b c : Item, (!ltP b a) = true → (!ltP c b) = true → (!ltP c a) = true := fun a b c h1 h2 => by
    have h1 : leP a b := by unfold leP; simpa using h1
    have h2 : leP b c := by unfold leP; simpa using h2
    have h3 : ltP c a = false := leP_trans h1 h2
    simp [h3]
  have hto : ∀ a b : Item, ((!ltP b a) || (!ltP a b)) = true := fun a b => by
    rcases leP_total a b with h | h
    · have h : ltP b a = false := h
      simp [h]
    · have h : ltP a b = false := h
      simp [h]
  refine ⟨xs.mergeSort (fun a b => !ltP b a), List.mergeSort_perm _ _, fun j a b hj hb ha => ?_⟩
  have hs := List.pairwise_mergeSort ht hto xs
  obtain ⟨h1, rfl⟩ := List.getElem?_eq_some_iff.1 hb
  obtain ⟨h2, rfl⟩ := List.getElem?_eq_some_iff.1 ha
  have h := List.pairwise_iff_getElem.1 hs ((j - 1) / 2) j h2 h1 (by omega)
  show ltP _ _ = false
  simpa using h
def spPut : Spec AF where
  γ := List Item × List Item × Item
  δ := List Item
  args := fun g => [.ptr 0 0 2 0, .agg [vI g.2.2.1, vI g.2.2.2]]
  own := fun g => [hpC g.1.length, .arr 97 g.2.1]
  pre := fun g => HeapL g.1 ∧ g.1.length < 1000000 ∧ ∃ ys, g.2.1 = g.1 ++ ys
  nnew := 1
  res := fun _ _ => .tup []
  own' := fun _ d => [some (.cells [.sl 2 2 0 d.length, fnB]), none, some (.arr 97 d)]
  post := fun g d => List.Perm d (g.2.2 :: g.1) ∧ HeapL d
theorem m_put : Meets Try.prog regF 78 spPut := by
  refine meets Try.func78 22 noWr rfl (by kernel_rfl) (by kernel_rfl) ?_
  rintro ⟨(xs : List Item), (zs : List Item), (x : Item)⟩ ⟨(hh : HeapL xs), (hl : xs.length < 1000000), (ys : List Item), (hz : zs = xs ++ ys)⟩
  subst hz
  conv => whnf
  refine And.intro ⟨Nat.le_refl 1, (by show 0 + xs.length ≤ (xs ++ ys).length; simp), (by show (xs.length + 1) * 16 ≤ 140737488355328; omega)⟩ ?_
  conv => whnf
  refine And.intro (by kernel_rfl) ?_
  conv => whnf
  refine And.intro (inI (z := ((xs.length + 1 : Nat) : Int) - 1) (by omega)) ?_
  conv => whnf
  refine ⟨_, m_up, (xs ++ [x], [], xs.length), [0, 1011], false, ?_⟩
  conv => whnf
  refine ⟨vc0 ⟨by simp, push_ok hh x, by simp; omega⟩ (And.intro rfl (And.intro (congrArg vI (show ((xs.length + 1 : Nat) : Int) - 1 = (xs.length : Int) by omega)) trivial))
    (And.intro ?_ (And.intro ?_ trivial)) trivial trivial, ?_, ?_⟩
  · show some (Ct.cells (A := AF) [.sl 1011 2 0 (xs.length + 1), fnB]) = some (.cells [.sl 1011 2 0 (xs ++ [x]).length, fnB])
    rw [List.length_append]; rfl
  · have e : List.take xs.length (xs ++ ys) ++ [x] = (xs ++ [x]) ++ [] := by simp
    exact congrArg (fun l : List Item => some (Ct.arr (A := AF) 97 l)) e
  · exact heap_ex _
  rintro (d : List Item) ⟨(hp : List.Perm d (xs ++ [x])), (hd : HeapL d)⟩
  conv => whnf
  refine ⟨d, [1011], ⟨hp.trans (List.perm_append_singleton x xs), hd⟩, trivial, ⟨⟨?_, rfl, trivial⟩, trivial, ?_, trivial⟩, trivial⟩
  · exact congrArg (SV.sl (A := AF) 1011 2 0) hp.length_eq.symm
  · exact congrArg (Ct.arr (A := AF) 97) (List.append_nil d)
def spTake : Spec AF where
  γ := List Item × List Item
  δ := List Item × List Item × Item × Bool
  args := fun _ => [.ptr 0 0 2 0]
  own := fun g => [hpC g.1.length, .arr 97 g.2]
  pre := fun g => HeapL g.1 ∧ g.1.length ≤ 1000000 ∧ ∃ ys, g.2 = g.1 ++ ys
  nnew := 0
  res := fun _ d => .tup [.agg [vI d.2.2.1.1, vI d.2.2.1.2], vB d.2.2.2]
  own' := fun _ d => [some (hpC d.1.length), some (.arr 97 d.2.1)]
  post := fun g d => HeapL d.1 ∧ (∃ ys, d.2.1 = d.1 ++ ys) ∧ ((g.1 = [] ∧ d.1 = [] ∧ d.2.2.1 = (0, 0) ∧ d.2.2.2 = false) ∨ (List.Perm (d.2.2.1 :: d.1) g.1 ∧ (∀ b ∈ g.1, leP d.2.2.1 b) ∧ d.2.2.2 = true))
theorem m_take : Meets Try.prog regF 77 spTake := by
  refine meets Try.func77 43 noWr rfl (by kernel_rfl) (by kernel_rfl) ?_
  rintro ⟨(xs : List Item), (zs : List Item)⟩ ⟨(hh : HeapL xs), (hl : xs.length ≤ 1000000), (ys : List Item), (hz : zs = xs ++ ys)⟩
  subst hz
  conv => whnf
  refine And.intro (inI (z := (xs.length : Int) - 1) (by omega)) ?_
  conv => whnf
  refine tell (fun (h : (xs.length : Int) - 1 < 0) => ?_) (fun (h : ¬ (xs.length : Int) - 1 < 0) => ?_)
  · conv => whnf
    have hn : xs = [] := List.length_eq_zero_iff.1 (by omega)
    subst hn
    exact ⟨([], ys, (0, 0), false), [], ⟨hh, ⟨ys, rfl⟩, .inl ⟨rfl, rfl, rfl, rfl⟩⟩, ⟨⟨rfl, rfl, trivial⟩, rfl, trivial⟩, ⟨⟨rfl, rfl, trivial⟩, rfl, trivial⟩, trivial⟩
  · conv => whnf
    obtain ⟨a, ha⟩ : ∃ a, xs[0]? = some a := ⟨_, List.getElem?_eq_getElem (by omega)⟩
    obtain ⟨l, hla⟩ : ∃ l, xs[xs.length - 1]? = some l := ⟨_, List.getElem?_eq_getElem (by omega)⟩
    have ha' : (xs ++ ys)[0 + Int.toNat 0]? = some a := by rw [List.getElem?_append_left (by simp; omega)]; exact ha
    have hl' : (xs ++ ys)[0 + ((xs.length : Int) - 1).toNat]? = some l := by
      rw [show 0 + ((xs.length : Int) - 1).toNat = xs.length - 1 by omega, List.getElem?_append_left (by omega)]; exact hla
    refine And.intro ⟨Int.le_refl 0, by show (0 : Int) < xs.length; omega⟩ ?_
    conv => whnf
    refine allSome ha' ?_
    conv => whnf
    refine And.intro ⟨by show (0 : Int) ≤ (xs.length : Int) - 1; omega, by show (xs.length : Int) - 1 < xs.length; omega⟩ ?_
    conv => whnf
    refine allSome hl' ?_
    conv => whnf
    refine And.intro ⟨Int.le_refl 0, by show (0 : Int) < xs.length; omega⟩ ?_
    conv => whnf
    refine allSome ha' ?_
    conv => whnf
    refine And.intro (by kernel_rfl) ?_
    conv => whnf
    refine And.intro ⟨Int.le_refl 0, by show (0 : Int) ≤ xs.length - 1; omega, by show (xs.length : Int) - 1 ≤ xs.length; omega⟩ ?_
    conv => whnf
    have hz : ((xs ++ ys).set 0 l).take (xs.length - 1) = (xs.set 0 l).take (xs.length - 1) := by
      rw [List.set_append_left _ _ (by omega), List.take_append_of_le_length (by simp)]
    have hzl : ((xs.set 0 l).take (xs.length - 1)).length = xs.length - 1 := by simp
    refine ⟨_, m_down, ((xs.set 0 l).take (xs.length - 1), ((xs ++ ys).set 0 l).drop (xs.length - 1), 0), [0, 1], false, ?_⟩
    conv => whnf
    refine ⟨vc0 ⟨by show 0 < ((xs.set 0 l).take (xs.length - 1)).length ∨ (0 = 0 ∧ ((xs.set 0 l).take (xs.length - 1)).length = 0); omega, pop_ok hh, by show ((xs.set 0 l).take (xs.length - 1)).length ≤ 1000000; omega⟩ (And.intro rfl (And.intro rfl trivial))
      (And.intro ?_ (And.intro ?_ trivial)) trivial trivial, heap_ex _, ?_⟩
    · have e : ((xs.length : Int) - 1).toNat - Int.toNat 0 = ((xs.set 0 l).take (xs.length - 1)).length := by simp
      exact congrArg (fun n => some (Ct.cells (A := AF) [.sl 1 2 0 n, fnB])) e
    · have e : (xs ++ ys).set 0 l = (xs.set 0 l).take (xs.length - 1) ++ ((xs ++ ys).set 0 l).drop (xs.length - 1) := by rw [← hz, List.take_append_drop]
      exact congrArg (fun L : List Item => some (Ct.arr (A := AF) 97 L)) e
    rintro (d : List Item) ⟨(hp : List.Perm d _), (hd : HeapL d)⟩
    conv => whnf
    exact ⟨(d, d ++ ((xs ++ ys).set 0 l).drop (xs.length - 1), a, true), [], ⟨hd, ⟨_, rfl⟩, .inr ⟨(hp.cons a).trans (pop_perm ha hla), heap_min hh ha, rfl⟩⟩, ⟨⟨rfl, rfl, trivial⟩, rfl, trivial⟩, ⟨⟨congrArg (SV.sl (A := AF) 1 2 0) hp.length_eq.symm, rfl, trivial⟩, rfl, trivial⟩, trivial⟩
def spPush : Spec AF where
  γ := List Item × List Item × Item
  δ := List Item
  args := fun g => [.ptr 0 0 2 0, vI g.2.2.1, vI g.2.2.2]
  own := fun g => [hpC g.1.length, .arr 97 g.2.1]
  pre := fun g => HeapL g.1 ∧ g.1.length < 1000000 ∧ ∃ ys, g.2.1 = g.1 ++ ys
  nnew := 1
  res := fun _ _ => .tup []
  own' := fun _ d => [some (.cells [.sl 2 2 0 d.length, fnB]), none, some (.arr 97 d)]
  post := fun g d => List.Perm d (g.2.2 :: g.1) ∧ HeapL d
theorem m_push : Meets Try.prog regF 31 spPush := by
  refine meets Try.func31 13 noWr rfl (by kernel_rfl) (by kernel_rfl) ?_
  rintro ⟨(xs : List Item), (zs : List Item), (x : Item)⟩ ⟨(hh : HeapL xs), (hl : xs.length < 1000000), (ys : List Item), (hz : zs = xs ++ ys)⟩
  subst hz
  conv => whnf
  refine ⟨_, m_put, (xs, xs ++ ys, x), [0, 1], false, ?_⟩
  conv => whnf
  refine ⟨vc0 ⟨hh, hl, ys, rfl⟩ (And.intro rfl (And.intro (And.intro rfl (And.intro rfl trivial)) trivial)) (And.intro rfl (And.intro rfl trivial)) trivial trivial, heap_ex _, ?_⟩
  rintro (d : List Item) ⟨hp, hd⟩
  conv => whnf
  exact ⟨d, [1012], ⟨hp, hd⟩, trivial, ⟨⟨rfl, rfl, trivial⟩, trivial, rfl, trivial⟩, trivial⟩
def spPop : Spec AF where
  γ := List Item × List Item
  δ := List Item × List Item × Item × Bool
  args := fun _ => [.ptr 0 0 2 0]
  own := fun g => [hpC g.1.length, .arr 97 g.2]
  pre := fun g => HeapL g.1 ∧ g.1.length ≤ 1000000 ∧ ∃ ys, g.2 = g.1 ++ ys
  nnew := 0
  res := fun _ d => .tup [vI d.2.2.1.1, vI d.2.2.1.2, vB d.2.2.2]
  own' := fun _ d => [some (hpC d.1.length), some (.arr 97 d.2.1)]
  post := fun g d => HeapL d.1 ∧ (∃ ys, d.2.1 = d.1 ++ ys) ∧ ((g.1 = [] ∧ d.1 = [] ∧ d.2.2.1 = (0, 0) ∧ d.2.2.2 = false) ∨ (List.Perm (d.2.2.1 :: d.1) g.1 ∧ (∀ b ∈ g.1, leP d.2.2.1 b) ∧ d.2.2.2 = true))
theorem pop_ex {xs : List Item} (h : HeapL xs) : ∃ d : List Item × List Item × Item × Bool, HeapL d.1 ∧ (∃ ys, d.2.1 = d.1 ++ ys) ∧ ((xs = [] ∧ d.1 = [] ∧ d.2.2.1 = (0, 0) ∧ d.2.2.2 = false) ∨ (List.Perm (d.2.2.1 :: d.1) xs ∧ (∀ b ∈ xs, leP d.2.2.1 b) ∧ d.2.2.2 = true)) := by
  cases hx : xs with
  | nil => exact ⟨([], [], (0, 0), false), hx ▸ h, ⟨[], rfl⟩, .inl ⟨rfl, rfl, rfl, rfl⟩⟩
  | cons a t =>
    obtain ⟨d, h1, h2⟩ := heap_ex t
    exact ⟨(d, d, a, true), h2, ⟨[], (List.append_nil d).symm⟩, .inr ⟨h1.cons a, fun b hb => heap_min h (a := a) (by rw [hx]; rfl) b (hx ▸ hb), rfl⟩⟩
theorem m_pop : Meets Try.prog regF 29 spPop := by
  refine meets Try.func29 18 noWr rfl (by kernel_rfl) (by kernel_rfl) ?_
  rintro ⟨(xs : List Item), (zs : List Item)⟩ ⟨(hh : HeapL xs), (hl : xs.length ≤ 1000000), (ys : List Item), (hz : zs = xs ++ ys)⟩
  subst hz
  conv => whnf
  refine ⟨_, m_take, (xs, xs ++ ys), [0, 1], false, ?_⟩
  conv => whnf
  refine ⟨vc0 ⟨hh, hl, ys, rfl⟩ (And.intro rfl trivial) (And.intro rfl (And.intro rfl trivial)) trivial trivial, pop_ex hh, ?_⟩
  rintro ⟨(d : List Item), (ws : List Item), (a : Item), (ok : Bool)⟩ hd
  conv => whnf
  refine And.intro (by kernel_rfl) ?_
  conv => whnf
  exact ⟨(d, ws, a, ok), [], hd, ⟨rfl, rfl, rfl, trivial⟩, ⟨⟨rfl, rfl, trivial⟩, rfl, trivial⟩, trivial⟩
end Go.Sx
