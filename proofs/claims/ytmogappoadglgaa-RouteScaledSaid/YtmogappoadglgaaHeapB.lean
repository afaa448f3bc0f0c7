/-
  Layer 10, part B: up and down.
-/
import Derived.Test.YtmogappoadglgaaHeapP
namespace Go.Sx
open Go Go.Proofs Go.Proofs.Ytmogappoadglgaa
abbrev fnB : SV AF := .val (.func (.func 76) #[] #[])
abbrev hpC (n : Nat) : Ct AF := .cells [.sl 1 2 0 n, fnB]
theorem at0 {zs ys : List Item} {i : Nat} {x : Item} (h : zs[i]? = some x) : (zs ++ ys)[0 + (i : Int).toNat]? = some x := by
  have := (List.getElem?_eq_some_iff.1 h).1
  rw [Nat.zero_add, Int.toNat_natCast, List.getElem?_append_left this]; exact h
theorem allAt {zs ys : List Item} {i : Nat} {x : Item} {K : Item → Prop} (h : zs[i]? = some x) (hK : K x) :
    (∃ y, (zs ++ ys)[0 + (i : Int).toNat]? = some y) ∧ ∀ y, (zs ++ ys)[0 + (i : Int).toNat]? = some y → K y :=
  ⟨⟨x, at0 h⟩, fun y hy => by rw [at0 h] at hy; cases hy; exact hK⟩
theorem allSome {L : List Item} {j : Nat} {x : Item} {K : Item → Prop} (h : L[j]? = some x) (hK : K x) : (∃ y, L[j]? = some y) ∧ ∀ y, L[j]? = some y → K y :=
  ⟨⟨x, h⟩, fun y hy => by rw [h] at hy; cases hy; exact hK⟩
theorem at1 {zs ys : List Item} {i k : Nat} {q p : Item} (hne : i ≠ k) (h : zs[k]? = some p) : ((zs ++ ys).set (0 + (i : Int).toNat) q)[0 + (k : Int).toNat]? = some p := by
  rw [List.getElem?_set_ne (by simp only [Nat.zero_add, Int.toNat_natCast]; exact hne)]; exact at0 h
theorem swpApp {zs ys : List Item} {i k : Nat} {x p : Item} (hx : zs[i]? = some x) (hp : zs[k]? = some p) :
    ((zs ++ ys).set (0 + (i : Int).toNat) p).set (0 + (k : Int).toNat) x = swp zs i k x p ++ ys := by
  have h1 := (List.getElem?_eq_some_iff.1 hx).1
  have h2 := (List.getElem?_eq_some_iff.1 hp).1
  simp only [Nat.zero_add, Int.toNat_natCast]
  rw [List.set_append_left _ _ h1, List.set_append_left _ _ (by simpa using h2)]
  rfl
def spUp : Spec AF where
  γ := List Item × List Item × Nat
  δ := List Item
  args := fun g => [.ptr 0 0 2 0, vI g.2.2]
  own := fun g => [hpC g.1.length, .arr 97 (g.1 ++ g.2.1)]
  pre := fun g => g.2.2 < g.1.length ∧ UpOk g.1 g.2.2 ∧ g.1.length ≤ 1000000
  nnew := 0
  res := fun _ _ => .tup []
  own' := fun g d => [some (hpC g.1.length), some (.arr 97 (d ++ g.2.1))]
  post := fun g d => List.Perm d g.1 ∧ HeapL d
theorem m_up : Meets Try.prog regF 97 spUp := by
  refine meets Try.func97 57 noWr rfl (by kernel_rfl) (by kernel_rfl) ?_
  rintro ⟨(xs : List Item), (ys : List Item), (i : Nat)⟩ ⟨(hi : i < xs.length), (hu : UpOk xs i), (hl : xs.length ≤ 1000000)⟩
  conv => whnf
  refine ⟨List Item × Nat, fun p => ⟨[(0, .ptr 0 0 2 0), (1, vI p.2)], [(0, hpC xs.length), (1, .arr 97 (p.1 ++ ys))]⟩, fun p => p.2 < xs.length ∧ UpOk p.1 p.2 ∧ List.Perm p.1 xs, fun p => p.2, fun _ _ => rfl,
    ⟨(xs, i), [], ⟨hi, hu, List.Perm.refl _⟩, ?_⟩, ?_⟩
  · exact ⟨rfl, ⟨rfl, rfl, trivial⟩, ⟨⟨rfl, rfl, trivial⟩, rfl, trivial⟩, rfl⟩
  rintro ⟨(zs : List Item), (i : Nat)⟩ ⟨(hi : i < xs.length), (hu : UpOk zs i), (hp : List.Perm zs xs)⟩
  have hlen : zs.length = xs.length := hp.length_eq
  show XC _ _ _ _ (Pat.st ⟨[(0, .ptr 0 0 2 0), (1, vI i)], [(0, hpC xs.length), (1, .arr 97 (zs ++ ys))]⟩) _
  conv => whnf
  refine tell (fun (h : 0 < (i : Int)) => ?_) (fun (h : ¬ 0 < (i : Int)) => ?_)
  · conv => whnf
    refine And.intro (inI (by omega)) ?_
    conv => whnf
    refine And.intro (by decide) ?_
    conv => whnf
    have hq : ((i : Int) - 1).tdiv 2 = ((i - 1) / 2 : Nat) := by
      rw [Int.tdiv_eq_ediv_of_nonneg (by omega)]; omega
    generalize ((i : Int) - 1).tdiv 2 = q at *
    subst hq
    have hk : (i - 1) / 2 < xs.length := by omega
    generalize hkk : (i - 1) / 2 = k at *
    refine And.intro (inI (by omega)) ?_
    conv => whnf
    obtain ⟨x, hx⟩ : ∃ x, zs[i]? = some x := ⟨_, List.getElem?_eq_getElem (by omega)⟩
    obtain ⟨p, hpk⟩ : ∃ p, zs[k]? = some p := ⟨_, List.getElem?_eq_getElem (by omega)⟩
    refine And.intro ⟨Int.natCast_nonneg i, by omega⟩ ?_
    conv => whnf
    refine allAt hx ?_
    conv => whnf
    refine And.intro ⟨Int.natCast_nonneg k, by omega⟩ ?_
    conv => whnf
    refine allAt hpk ?_
    conv => whnf
    refine ⟨_, m_before, (x, p), [], false, ?_⟩
    conv => whnf
    refine ⟨vc0 trivial (And.intro (And.intro rfl (And.intro rfl trivial)) (And.intro (And.intro rfl (And.intro rfl trivial)) trivial)) trivial trivial trivial, ⟨_, rfl⟩, fun (c : Bool) (hc : c = ltP x p) => ?_⟩
    cases c
    · have h2 : ltP x p = false := hc.symm
      conv => whnf
      refine And.intro (by kernel_rfl) ?_
      conv => whnf
      exact ⟨zs, [], ⟨hp, up_stop hu hx (by rw [hkk]; exact hpk) h2⟩, trivial, ⟨⟨rfl, rfl, trivial⟩, rfl, trivial⟩, trivial⟩
    · have h2 : ltP x p = true := hc.symm
      conv => whnf
      refine And.intro (by kernel_rfl) ?_
      conv => whnf
      refine And.intro ⟨Int.natCast_nonneg k, by omega⟩ ?_
      conv => whnf
      refine allAt hpk ?_
      conv => whnf
      refine And.intro ⟨Int.natCast_nonneg i, by omega⟩ ?_
      conv => whnf
      refine allAt hx ?_
      conv => whnf
      refine And.intro ⟨Int.natCast_nonneg i, by omega⟩ ?_
      conv => whnf
      refine allAt hx ?_
      conv => whnf
      refine And.intro ⟨Int.natCast_nonneg k, by omega⟩ ?_
      conv => whnf
      refine allSome (at1 (by omega) hpk) ?_
      conv => whnf
      refine And.intro (by kernel_rfl) ?_
      conv => whnf
      refine ⟨(swp zs i k x p, k), [], ⟨hk, by rw [← hkk]; exact up_step hu (by omega) hx (by rw [hkk]; exact hpk) h2, (swp_perm hx hpk).trans hp⟩, (by show k < i; omega), rfl, ⟨rfl, rfl, trivial⟩, ⟨⟨rfl, rfl, trivial⟩, ?_, trivial⟩, rfl⟩
      exact congrArg (Ct.arr (A := AF) 97) (swpApp hx hpk)
  · have : i = 0 := by omega
    subst this
    conv => whnf
    exact ⟨zs, [], ⟨hp, up_zero hu⟩, trivial, ⟨⟨rfl, rfl, trivial⟩, rfl, trivial⟩, trivial⟩
end Go.Sx
