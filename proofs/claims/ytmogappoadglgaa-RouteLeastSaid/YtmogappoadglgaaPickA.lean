/-
  What the layers' statements share: which of n things a raw number speaks of.
-/
import Derived.Test.YtmogappoadglgaaSxX
namespace Go.Sx
open Go Go.Proofs Go.Proofs.Ytmogappoadglgaa
def pickF (c n : Int) : Int := (if c < 0 then 0 - (c + 1) else c).tmod n
theorem pickF_bd {c n : Int} (hn : 0 < n) : 0 ≤ pickF c n ∧ pickF c n < n := by
  have h : 0 ≤ (if c < 0 then 0 - (c + 1) else c) := by split <;> omega
  unfold pickF
  rw [Int.tmod_eq_emod_of_nonneg h]
  exact ⟨Int.emod_nonneg _ (by omega), Int.emod_lt_of_pos _ hn⟩
def spPick : Spec AF where
  γ := Int × Int
  δ := Unit
  args := fun x => [vI x.1, vI x.2]
  own := fun _ => []
  pre := fun x => InI x.1 ∧ 0 < x.2
  nnew := 0
  res := fun x _ => vI (pickF x.1 x.2)
  own' := fun _ _ => []
  post := fun _ _ => True
theorem allLst {α : Type} {xs : List α} {n : Int} {x : α} {K : α → Prop} (h0 : 0 ≤ n) (h : xs[n.toNat]? = some x) (hK : K x) : (∃ y, 0 ≤ n ∧ xs[n.toNat]? = some y) ∧ ∀ y, (0 ≤ n ∧ xs[n.toNat]? = some y) → K y :=
  ⟨⟨x, h0, h⟩, fun y hy => by have hy := hy.2; rw [h] at hy; cases hy; exact hK⟩
theorem allG {α : Type} {L : List α} {j : Nat} {x : α} {K : α → Prop} (h : L[j]? = some x) (hK : K x) : (∃ y, L[j]? = some y) ∧ ∀ y, L[j]? = some y → K y :=
  ⟨⟨x, h⟩, fun y hy => by rw [h] at hy; cases hy; exact hK⟩
end Go.Sx

