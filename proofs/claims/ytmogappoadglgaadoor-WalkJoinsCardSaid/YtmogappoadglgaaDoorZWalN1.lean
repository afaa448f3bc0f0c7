/-
  Layer 13 at the door: what two bases put together are.
-/
import Derived.Test.YtmogappoadglgaaDoorZWalN0
set_option linter.unusedVariables false
set_option linter.unusedSimpArgs false
namespace Go.Sx
open Go Go.Proofs Go.Proofs.YtmogappoadglgaaDoor
theorem relN_nodes (p : List Int) (s k : Int) (m : Nat) : relN (nodesN p s k m) = min k.toNat m := by
  induction m with
  | zero => simp [nodesN, relN]
  | succ m ih =>
    rw [nodesN_succ]
    unfold relN at ih ⊢
    rw [List.filter_append, List.length_append, ih]
    by_cases h : (m : Int) < k
    · simp [h]; omega
    · simp [h]; omega
theorem follows_same {o o' : OrdT} {p q : List Int} {s s' k k' : Int} (hp : p.length % 2 = 1) (hq : q.length % 2 = 1) (hk : 1 ≤ k) (hk2 : k ≤ (((p.length + 1) / 2 : Nat) : Int)) (hF : FollowsP (ordOf o p s k) (ordOf o' q s' k')) (ho : o.2.2.1 = o'.2.2.1) :
    o.2.2.2.1 < o'.2.2.2.1 ∧ q.getD 0 0 = p.getD (2 * (k - 1).toNat) 0 ∧ s' = s + 2 * (k - 1) := by
  have hobt := hF.2.2.1 ho
  obtain ⟨h1, h2⟩ := hobt
  have e1 : (nodesN q s' k' ((q.length + 1) / 2))[0]? = _ := nodesN_at (by omega)
  have e2 : (nodesN p s k ((p.length + 1) / 2))[relN (nodesN p s k ((p.length + 1) / 2)) - 1]? = _ := nodesN_at (by rw [relN_nodes]; omega)
  have hobt := h2 _ _ e1 e2
  obtain ⟨h3, h4⟩ := hobt
  dsimp only at h3 h4
  rw [relN_nodes, show min k.toNat ((p.length + 1) / 2) - 1 = (k - 1).toNat by omega] at h3 h4
  exact ⟨h1, h3, by omega⟩
/-- What is put together at a node is one way. -/
theorem join_edges {n : Int} {el : List Edge} {p q : List Int} {a b : Int} (hw : Way n el p a) (hw2 : Way n el q b) {k k2 : Nat} (hk : 2 * k + 1 ≤ p.length) (hk2 : 2 * k2 + 1 ≤ q.length) (hj : q.getD 0 0 = p.getD (2 * k) 0) (i : Nat) (hi : i % 2 = 1)
    (hil : i + 1 < (p.take (2 * k + 1) ++ (q.take (2 * k2 + 1)).drop 1).length) :
    ∃ (j : Nat) (d : Edge), (p.take (2 * k + 1) ++ (q.take (2 * k2 + 1)).drop 1)[i]? = some (1000 + (j : Int)) ∧ el[j]? = some d ∧ (p.take (2 * k + 1) ++ (q.take (2 * k2 + 1)).drop 1)[i - 1]? = some d.1 ∧ (p.take (2 * k + 1) ++ (q.take (2 * k2 + 1)).drop 1)[i + 1]? = some d.2.1 := by
  have hpl : (p.take (2 * k + 1)).length = 2 * k + 1 := by rw [List.length_take]; omega
  have hql : ((q.take (2 * k2 + 1)).drop 1).length = 2 * k2 := by rw [List.length_drop, List.length_take]; omega
  rw [List.length_append, hpl, hql] at hil
  by_cases h : i < 2 * k + 1
  · have hobt := hw.edge i _ (at_of (by omega)) hi
    obtain ⟨j, d, e1, e2, e3, e4⟩ := hobt
    refine ⟨j, d, ?_, e2, ?_, ?_⟩
    · rw [List.getElem?_append_left (by omega), List.getElem?_take_of_lt (by omega), at_of (by omega), e1]
    · rw [List.getElem?_append_left (by omega), List.getElem?_take_of_lt (by omega), e3]
    · rw [List.getElem?_append_left (by omega), List.getElem?_take_of_lt (by omega), e4]
  · have hobt : ∃ t, i = 2 * k + 1 + t := ⟨i - (2 * k + 1), by omega⟩
    obtain ⟨t, rfl⟩ := hobt
    have hobt := hw2.edge (t + 1) _ (at_of (by omega)) (by omega)
    obtain ⟨j, d, e1, e2, e3, e4⟩ := hobt
    have hq : ∀ u, u < 2 * k2 → (p.take (2 * k + 1) ++ (q.take (2 * k2 + 1)).drop 1)[2 * k + 1 + u]? = q[u + 1]? := fun u hu => by
      rw [List.getElem?_append_right (by omega), hpl, show 2 * k + 1 + u - (2 * k + 1) = u by omega, List.getElem?_drop, List.getElem?_take_of_lt (by omega), Nat.add_comm]
    refine ⟨j, d, ?_, e2, ?_, ?_⟩
    · rw [hq t (by omega), at_of (by omega), e1]
    · by_cases ht : t = 0
      · subst ht
        rw [List.getElem?_append_left (by omega), List.getElem?_take_of_lt (by omega), show 2 * k + 1 + 0 - 1 = 2 * k by omega, at_of (by omega), ← hj]
        have e3 : q[0]? = some d.1 := e3
        rw [getD_of e3]
      · rw [show 2 * k + 1 + t - 1 = 2 * k + 1 + (t - 1) by omega, hq _ (by omega), show t - 1 + 1 = t + 1 - 1 by omega, e3]
    · rw [show 2 * k + 1 + t + 1 = 2 * k + 1 + (t + 1) by omega, hq _ (by omega), e4]
end Go.Sx

