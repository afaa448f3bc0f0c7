/-
  Layer 10, part A: comparisons.
-/
import Derived.Test.YtmogappoadglgaaSxW
namespace Go.Sx
open Go Go.Proofs Go.Proofs.Ytmogappoadglgaa
def spIsNaN : Spec AF where
  γ := Int
  δ := Unit
  args := fun x => [vI x]
  own := fun _ => []
  pre := fun _ => True
  nnew := 0
  res := fun _ _ => vB false
  own' := fun _ _ => []
  post := fun _ _ => True
theorem m_isNaN : Meets Try.prog regF 105 spIsNaN := by
  refine meets Try.func105 6 noWr rfl (by kernel_rfl) (by kernel_rfl) ?_
  intro (g : Int) hg
  conv => whnf
  refine tell (fun h => absurd rfl h) (fun _ => ?_)
  conv => whnf
  exact ⟨(), [], trivial, rfl, trivial, trivial⟩
def cmpI (a b : Int) : Int := if a < b then -1 else if a > b then 1 else 0
def spCompare : Spec AF where
  γ := Int × Int
  δ := Unit
  args := fun x => [vI x.1, vI x.2]
  own := fun _ => []
  pre := fun _ => True
  nnew := 0
  res := fun x _ => vI (cmpI x.1 x.2)
  own' := fun _ _ => []
  post := fun _ _ => True
theorem m_compare : Meets Try.prog regF 95 spCompare := by
  refine meets Try.func95 20 noWr rfl (by kernel_rfl) (by kernel_rfl) ?_
  intro (g : Int × Int) hg
  conv => whnf
  refine ⟨_, m_isNaN, g.1, [], false, ?_⟩
  conv => whnf
  refine ⟨vc0 trivial (And.intro rfl trivial) trivial trivial trivial, ⟨(), trivial⟩, fun _ _ => ?_⟩
  conv => whnf
  refine ⟨_, m_isNaN, g.2, [], false, ?_⟩
  conv => whnf
  refine ⟨vc0 trivial (And.intro rfl trivial) trivial trivial trivial, ⟨(), trivial⟩, fun _ _ => ?_⟩
  conv => whnf
  refine tell (fun h => ?_) (fun h => ?_)
  · conv => whnf
    exact ⟨(), [], trivial, eI (by unfold cmpI; rw [if_pos h]), trivial, trivial⟩
  · conv => whnf
    refine tell (fun h2 => ?_) (fun h2 => ?_)
    · conv => whnf
      exact ⟨(), [], trivial, eI (by unfold cmpI; rw [if_neg h, if_pos h2]), trivial, trivial⟩
    · conv => whnf
      exact ⟨(), [], trivial, eI (by unfold cmpI; rw [if_neg h, if_neg h2]), trivial, trivial⟩

def orF : List Int → Int
  | [] => 0
  | x :: l => if x ≠ 0 then x else orF l
theorem orF_drop {xs : List Int} {i : Nat} {x : Int} (h : xs[i]? = some x) : orF (xs.drop i) = if x ≠ 0 then x else orF (xs.drop (i + 1)) := by
  have hl := (List.getElem?_eq_some_iff.1 h)
  obtain ⟨h1, h2⟩ := hl
  rw [List.drop_eq_getElem_cons h1, h2]; rfl
def spOr : Spec AF where
  γ := List Int
  δ := Unit
  args := fun x => [.lst 3 x]
  own := fun _ => []
  pre := fun x => x.length ≤ 1000
  nnew := 0
  res := fun x _ => vI (orF x)
  own' := fun _ _ => []
  post := fun _ _ => True
theorem m_or : Meets Try.prog regF 94 spOr := by
  refine meets Try.func94 18 noWr rfl (by kernel_rfl) (by kernel_rfl) ?_
  intro (g : List Int) hg
  have hg : g.length ≤ 1000 := hg
  conv => whnf
  refine ⟨Nat, fun i => ⟨[(2, vI 0), (3, vI 0), (6, .lst 3 g), (7, vI g.length), (8, vI i)], []⟩, fun i => i ≤ g.length ∧ orF (g.drop i) = orF g, fun i => g.length - i, fun _ _ => rfl,
    ⟨0, [], ⟨Nat.zero_le _, rfl⟩, ?_⟩, fun i hi => ?_⟩
  · exact ⟨rfl, ⟨rfl, rfl, rfl, rfl, rfl, trivial⟩, trivial, rfl⟩
  · obtain ⟨hi, ho⟩ := hi
    conv => whnf
    refine tell (fun (h : (i : Int) < g.length) => ?_) (fun (h : ¬ (i : Int) < g.length) => ?_)
    · have hlt : i < g.length := by omega
      conv => whnf
      refine And.intro ⟨g[i], Int.natCast_nonneg i, List.getElem?_eq_getElem hlt⟩ ?_
      intro (y : Int) hy
      have hy : g[i]? = some y := hy.2
      have hod := orF_drop hy
      conv => whnf
      refine tell (fun (h2 : ¬ y = 0) => ?_) (fun h2 => ?_)
      · conv => whnf
        exact ⟨(), [], trivial, eI (by rw [← ho, hod, if_pos h2]), trivial, trivial⟩
      · have h2 : y = 0 := Decidable.not_not.1 h2
        conv => whnf
        refine And.intro ⟨by omega, by omega⟩ ?_
        conv => whnf
        exact ⟨i + 1, [], ⟨hlt, by rw [← ho, hod, if_neg (by simp [h2])]⟩, (by show g.length - (i + 1) < g.length - i; omega), rfl, ⟨rfl, rfl, rfl, rfl, congrArg vI (by simp), trivial⟩, trivial, rfl⟩
    · have : i = g.length := by omega
      conv => whnf
      exact ⟨(), [], trivial, eI (by rw [← ho, this, List.drop_length]; rfl), trivial, trivial⟩
/-- The order of items. -/
def ltP (a b : Int × Int) : Bool := decide (a.1 < b.1) || (decide (a.1 = b.1) && decide (a.2 < b.2))
def spBefore : Spec AF where
  γ := (Int × Int) × (Int × Int)
  δ := Bool
  args := fun x => [.agg [vI x.1.1, vI x.1.2], .agg [vI x.2.1, vI x.2.2]]
  own := fun _ => []
  pre := fun _ => True
  nnew := 0
  res := fun _ c => vB c
  own' := fun _ _ => []
  post := fun x c => c = ltP x.1 x.2
theorem ltP_or (a b c e : Int) : decide (orF [cmpI a b, cmpI c e] < 0) = ltP (a, c) (b, e) := by
  by_cases h1 : a < b
  · simp [orF, cmpI, ltP, h1]
  by_cases h2 : b < a
  · have h : a ≠ b := by omega
    simp [orF, cmpI, ltP, h1, h2, h]
  have h : a = b := by omega
  subst h
  by_cases h3 : c < e
  · simp [orF, cmpI, ltP, h3]
  by_cases h4 : e < c
  · simp [orF, cmpI, ltP, h3, h4]
  · simp [orF, cmpI, ltP, h3, h4]
theorem m_before : Meets Try.prog regF 76 spBefore := by
  refine meets Try.func76 18 noWr rfl (by kernel_rfl) (by kernel_rfl) ?_
  intro (g : (Int × Int) × (Int × Int)) hg
  conv => whnf
  refine ⟨_, m_compare, (g.1.1, g.2.1), [], false, ?_⟩
  conv => whnf
  refine ⟨vc0 trivial (And.intro rfl (And.intro rfl trivial)) trivial trivial trivial, ⟨(), trivial⟩, fun _ _ => ?_⟩
  conv => whnf
  refine ⟨_, m_compare, (g.1.2, g.2.2), [], false, ?_⟩
  conv => whnf
  refine ⟨vc0 trivial (And.intro rfl (And.intro rfl trivial)) trivial trivial trivial, ⟨(), trivial⟩, fun _ _ => ?_⟩
  conv => whnf
  refine ⟨_, m_or, [cmpI g.1.1 g.2.1, cmpI g.1.2 g.2.2], [], false, ?_⟩
  conv => whnf
  refine ⟨vc0 (by decide : (2 : Nat) ≤ 1000) (And.intro (And.intro (Nat.le_refl 2) (And.intro rfl rfl)) trivial) trivial trivial trivial, ⟨(), trivial⟩, fun _ _ => ?_⟩
  conv => whnf
  refine tell0 ?_
  conv => whnf
  refine And.intro (by kernel_rfl) ?_
  conv => whnf
  exact ⟨ltP g.1 g.2, [], rfl, eB (ltP_or _ _ _ _), trivial, trivial⟩
end Go.Sx
