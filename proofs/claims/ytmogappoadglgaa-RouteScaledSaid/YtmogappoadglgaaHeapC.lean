/-
  Layer 10, part C: down.
-/
import Derived.Test.YtmogappoadglgaaHeapB
namespace Go.Sx
open Go Go.Proofs Go.Proofs.Ytmogappoadglgaa
def spDown : Spec AF where
  γ := List Item × List Item × Nat
  δ := List Item
  args := fun g => [.ptr 0 0 2 0, vI g.2.2]
  own := fun g => [hpC g.1.length, .arr 97 (g.1 ++ g.2.1)]
  pre := fun g => (g.2.2 < g.1.length ∨ (g.2.2 = 0 ∧ g.1.length = 0)) ∧ DownOk g.1 g.2.2 ∧ g.1.length ≤ 1000000
  nnew := 0
  res := fun _ _ => .tup []
  own' := fun g d => [some (hpC g.1.length), some (.arr 97 (d ++ g.2.1))]
  post := fun g d => List.Perm d g.1 ∧ HeapL d
/-- What the inner loop has found. -/
structure LeastOk (zs : List Item) (i l b : Nat) : Prop where
  lo : 2 * i + 1 ≤ b
  hi : b ≤ 2 * i + 3
  least : l = i ∨ (2 * i + 1 ≤ l ∧ l < b ∧ l < zs.length)
  all : ∀ j x m, (j = i ∨ (2 * i + 1 ≤ j ∧ j < b)) → zs[j]? = some x → zs[l]? = some m → leP m x
theorem m_down : Meets Try.prog regF 96 spDown := by
  refine meets Try.func96 76 noWr rfl (by kernel_rfl) (by kernel_rfl) ?_
  rintro ⟨(xs : List Item), (ys : List Item), (i : Nat)⟩ ⟨(hi : i < xs.length ∨ (i = 0 ∧ xs.length = 0)), (hu : DownOk xs i), (hl : xs.length ≤ 1000000)⟩
  conv => whnf
  refine ⟨List Item × Nat, fun p => ⟨[(0, .ptr 0 0 2 0), (1, vI p.2)], [(0, hpC xs.length), (1, .arr 97 (p.1 ++ ys))]⟩, fun p => (p.2 < xs.length ∨ (p.2 = 0 ∧ xs.length = 0)) ∧ DownOk p.1 p.2 ∧ List.Perm p.1 xs, fun p => xs.length - p.2, fun _ _ => rfl,
    ⟨(xs, i), [], ⟨hi, hu, List.Perm.refl _⟩, ?_⟩, ?_⟩
  · exact ⟨rfl, ⟨rfl, rfl, trivial⟩, ⟨⟨rfl, rfl, trivial⟩, rfl, trivial⟩, rfl⟩
  rintro ⟨(zs : List Item), (i : Nat)⟩ ⟨(hi : i < xs.length ∨ (i = 0 ∧ xs.length = 0)), (hu : DownOk zs i), (hp : List.Perm zs xs)⟩
  have hlen : zs.length = xs.length := hp.length_eq
  show XC _ _ _ _ (Pat.st ⟨[(0, .ptr 0 0 2 0), (1, vI i)], [(0, hpC xs.length), (1, .arr 97 (zs ++ ys))]⟩) _
  conv => whnf
  refine And.intro (inI (by omega)) ?_
  conv => whnf
  refine And.intro (inI (by omega)) ?_
  conv => whnf
  refine ⟨Nat × Nat, fun p => ⟨[(0, .ptr 0 0 2 0), (1, vI i), (4, vI p.1), (5, vI p.2)], [(0, hpC xs.length), (1, .arr 97 (zs ++ ys))]⟩, fun p => LeastOk zs i p.1 p.2, fun p => 2 * i + 3 - p.2, fun _ _ => rfl,
    ⟨(i, 2 * i + 1), [], ⟨Nat.le_refl _, by omega, .inl rfl, fun j x m hj hx hm => ?_⟩, ?_⟩, ?_⟩
  · have : j = i := by omega
    subst this
    rw [hx] at hm; cases hm; exact leP_refl x
  · exact ⟨rfl, ⟨rfl, rfl, rfl, congrArg vI (by simp), trivial⟩, ⟨⟨rfl, rfl, trivial⟩, rfl, trivial⟩, rfl⟩
  rintro ⟨(l : Nat), (b : Nat)⟩ ⟨(h1 : 2 * i + 1 ≤ b), (h2 : b ≤ 2 * i + 3), (h3 : l = i ∨ (2 * i + 1 ≤ l ∧ l < b ∧ l < zs.length)), (h4 : ∀ j x m, (j = i ∨ (2 * i + 1 ≤ j ∧ j < b)) → zs[j]? = some x → zs[l]? = some m → leP m x)⟩
  show XC _ _ _ _ (Pat.st ⟨[(0, .ptr 0 0 2 0), (1, vI i), (4, vI l), (5, vI b)], [(0, hpC xs.length), (1, .arr 97 (zs ++ ys))]⟩) _
  conv => whnf
  refine And.intro (inI (by omega)) ?_
  conv => whnf
  refine And.intro (inI (by omega)) ?_
  conv => whnf
  refine tell (fun (hb : (b : Int) ≤ 2 * i + 2) => ?_) (fun (hb : ¬ (b : Int) ≤ 2 * i + 2) => ?_)
  · conv => whnf
    refine tell (fun (hn : (b : Int) < xs.length) => ?_) (fun (hn : ¬ (b : Int) < xs.length) => ?_)
    · conv => whnf
      obtain ⟨y, hy⟩ : ∃ y, zs[b]? = some y := ⟨_, List.getElem?_eq_getElem (by omega)⟩
      obtain ⟨m, hm⟩ : ∃ m, zs[l]? = some m := ⟨_, List.getElem?_eq_getElem (by omega)⟩
      refine And.intro ⟨Int.natCast_nonneg b, by omega⟩ ?_
      conv => whnf
      refine allAt hy ?_
      conv => whnf
      refine And.intro ⟨Int.natCast_nonneg l, by omega⟩ ?_
      conv => whnf
      refine allAt hm ?_
      conv => whnf
      refine ⟨_, m_before, (y, m), [], false, ?_⟩
      conv => whnf
      refine ⟨vc0 trivial (And.intro (And.intro rfl (And.intro rfl trivial)) (And.intro (And.intro rfl (And.intro rfl trivial)) trivial)) trivial trivial trivial, ⟨_, rfl⟩, fun (c : Bool) (hc : c = ltP y m) => ?_⟩
      cases c
      · have hlt : leP m y := hc.symm
        conv => whnf
        refine And.intro (by kernel_rfl) ?_
        conv => whnf
        refine And.intro (inI (by omega)) ?_
        conv => whnf
        refine ⟨(l, b + 1), [], ⟨by omega, by omega, by omega, fun j x m' hj hx hm' => ?_⟩, (by show 2 * i + 3 - (b + 1) < 2 * i + 3 - b; omega), rfl, ⟨rfl, rfl, rfl, congrArg vI (by simp), trivial⟩, ⟨⟨rfl, rfl, trivial⟩, rfl, trivial⟩, rfl⟩
        by_cases e : j = b
        · subst e
          rw [hy] at hx; rw [hm] at hm'; cases hx; cases hm'; exact hlt
        · exact h4 j x m' (by omega) hx hm'
      · have hlt : ltP y m = true := hc.symm
        conv => whnf
        refine And.intro (by kernel_rfl) ?_
        conv => whnf
        refine And.intro (inI (by omega)) ?_
        conv => whnf
        refine ⟨(b, b + 1), [], ⟨by omega, by omega, .inr ⟨h1, by omega, by omega⟩, fun j x m' hj hx hm' => ?_⟩, (by show 2 * i + 3 - (b + 1) < 2 * i + 3 - b; omega), rfl, ⟨rfl, rfl, rfl, congrArg vI (by simp), trivial⟩, ⟨⟨rfl, rfl, trivial⟩, rfl, trivial⟩, rfl⟩
        rw [hy] at hm'; cases hm'
        by_cases e : j = b
        · subst e
          rw [hy] at hx; cases hx; exact leP_refl y
        · exact leP_trans (leP_of_lt hlt) (h4 j x m (by omega) hx hm)
    · have hs : ∀ j x m, (j = i ∨ j = 2 * i + 1 ∨ j = 2 * i + 2) → zs[j]? = some x → zs[l]? = some m → leP m x := fun j x m hj hx hm => h4 j x m (by have := (List.getElem?_eq_some_iff.1 hx).1; omega) hx hm
      conv => whnf
      refine tell (fun (e : (l : Int) = i) => ?_) (fun (e : ¬ (l : Int) = i) => ?_)
      · conv => whnf
        refine ⟨zs, [], ⟨hp, ?_⟩, trivial, ⟨⟨rfl, rfl, trivial⟩, rfl, trivial⟩, trivial⟩
        have e : l = i := by omega
        subst e
        rcases hi with hi | hi
        · obtain ⟨x, hx⟩ : ∃ x, zs[l]? = some x := ⟨_, List.getElem?_eq_getElem (by omega)⟩
          exact down_stop hu hx fun j c hj hc => hs j c x (by omega) hc hx
        · exact fun j x c hj hc => by have := (List.getElem?_eq_some_iff.1 hc).1; omega
      · have hl' : 2 * i + 1 ≤ l ∧ l < b ∧ l < zs.length := h3.resolve_left (by omega)
        obtain ⟨x, hx⟩ : ∃ x, zs[i]? = some x := ⟨_, List.getElem?_eq_getElem (by omega)⟩
        obtain ⟨m, hm⟩ : ∃ m, zs[l]? = some m := ⟨_, List.getElem?_eq_getElem (by omega)⟩
        conv => whnf
        refine And.intro ⟨Int.natCast_nonneg l, by omega⟩ ?_
        conv => whnf
        refine allAt hm ?_
        conv => whnf
        refine And.intro ⟨Int.natCast_nonneg i, by omega⟩ ?_
        conv => whnf
        refine allAt hx ?_
        conv => whnf
        refine And.intro ⟨Int.natCast_nonneg i, by omega⟩ ?_
        conv => whnf
        refine allAt hx ?_
        conv => whnf
        refine And.intro ⟨Int.natCast_nonneg l, by omega⟩ ?_
        conv => whnf
        refine allSome (at1 (by omega) hm) ?_
        conv => whnf
        refine And.intro (by kernel_rfl) ?_
        conv => whnf
        refine ⟨(swp zs i l x m, l), [], ⟨.inl (by omega), down_step hu hx hm (by omega) (hs i x m (.inl rfl) hx hm) (fun j c hj hc => hs j c m (.inr hj) hc hm), (swp_perm hx hm).trans hp⟩, (by show xs.length - l < xs.length - i; omega), rfl, ⟨rfl, rfl, trivial⟩, ⟨⟨rfl, rfl, trivial⟩, ?_, trivial⟩, rfl⟩
        exact congrArg (Ct.arr (A := AF) 97) (swpApp hx hm)
  · have hs : ∀ j x m, (j = i ∨ j = 2 * i + 1 ∨ j = 2 * i + 2) → zs[j]? = some x → zs[l]? = some m → leP m x := fun j x m hj hx hm => h4 j x m (by have := (List.getElem?_eq_some_iff.1 hx).1; omega) hx hm
    conv => whnf
    refine tell (fun (e : (l : Int) = i) => ?_) (fun (e : ¬ (l : Int) = i) => ?_)
    · conv => whnf
      refine ⟨zs, [], ⟨hp, ?_⟩, trivial, ⟨⟨rfl, rfl, trivial⟩, rfl, trivial⟩, trivial⟩
      have e : l = i := by omega
      subst e
      rcases hi with hi | hi
      · obtain ⟨x, hx⟩ : ∃ x, zs[l]? = some x := ⟨_, List.getElem?_eq_getElem (by omega)⟩
        exact down_stop hu hx fun j c hj hc => hs j c x (by omega) hc hx
      · exact fun j x c hj hc => by have := (List.getElem?_eq_some_iff.1 hc).1; omega
    · have hl' : 2 * i + 1 ≤ l ∧ l < b ∧ l < zs.length := h3.resolve_left (by omega)
      obtain ⟨x, hx⟩ : ∃ x, zs[i]? = some x := ⟨_, List.getElem?_eq_getElem (by omega)⟩
      obtain ⟨m, hm⟩ : ∃ m, zs[l]? = some m := ⟨_, List.getElem?_eq_getElem (by omega)⟩
      conv => whnf
      refine And.intro ⟨Int.natCast_nonneg l, by omega⟩ ?_
      conv => whnf
      refine allAt hm ?_
      conv => whnf
      refine And.intro ⟨Int.natCast_nonneg i, by omega⟩ ?_
      conv => whnf
      refine allAt hx ?_
      conv => whnf
      refine And.intro ⟨Int.natCast_nonneg i, by omega⟩ ?_
      conv => whnf
      refine allAt hx ?_
      conv => whnf
      refine And.intro ⟨Int.natCast_nonneg l, by omega⟩ ?_
      conv => whnf
      refine allSome (at1 (by omega) hm) ?_
      conv => whnf
      refine And.intro (by kernel_rfl) ?_
      conv => whnf
      refine ⟨(swp zs i l x m, l), [], ⟨.inl (by omega), down_step hu hx hm (by omega) (hs i x m (.inl rfl) hx hm) (fun j c hj hc => hs j c m (.inr hj) hc hm), (swp_perm hx hm).trans hp⟩, (by show xs.length - l < xs.length - i; omega), rfl, ⟨rfl, rfl, trivial⟩, ⟨⟨rfl, rfl, trivial⟩, ?_, trivial⟩, rfl⟩
      exact congrArg (Ct.arr (A := AF) 97) (swpApp hx hm)
end Go.Sx
