/-
  Layer 10, part P: the plain law of heaps.
-/
import Derived.Test.YtmogappoadglgaaHeapA
namespace Go.Sx
abbrev Item := Int × Int
def leP (a b : Item) : Prop := ltP b a = false
theorem ltP_iff {a b : Item} : ltP a b = true ↔ a.1 < b.1 ∨ (a.1 = b.1 ∧ a.2 < b.2) := by simp [ltP]
theorem leP_iff {a b : Item} : leP a b ↔ a.1 < b.1 ∨ (a.1 = b.1 ∧ a.2 ≤ b.2) := by
  have h := ltP_iff (a := b) (b := a)
  have e : leP a b ↔ ¬ ltP b a = true := by unfold leP; cases ltP b a <;> simp
  rw [e, h]; omega
theorem leP_refl (a : Item) : leP a a := leP_iff.2 (by omega)
theorem leP_trans {a b c : Item} (h1 : leP a b) (h2 : leP b c) : leP a c := by
  have h1 := leP_iff.1 h1
  have h2 := leP_iff.1 h2
  exact leP_iff.2 (by omega)
theorem leP_of_lt {a b : Item} (h : ltP a b = true) : leP a b := by
  have h := ltP_iff.1 h
  exact leP_iff.2 (by omega)
theorem leP_antisymm {a b : Item} (h1 : leP a b) (h2 : leP b a) : a = b := by
  have h1 := leP_iff.1 h1
  have h2 := leP_iff.1 h2
  exact Prod.ext (by omega) (by omega)
theorem leP_total (a b : Item) : leP a b ∨ leP b a := by
  simp only [leP_iff]; omega
def HeapL (xs : List Item) : Prop := ∀ j a b, 0 < j → xs[j]? = some b → xs[(j - 1) / 2]? = some a → leP a b
structure UpOk (xs : List Item) (i : Nat) : Prop where
  rest : ∀ j a b, 0 < j → j ≠ i → xs[j]? = some b → xs[(j - 1) / 2]? = some a → leP a b
  far : ∀ j a b, 0 < j → 0 < i → (j - 1) / 2 = i → xs[j]? = some b → xs[(i - 1) / 2]? = some a → leP a b
structure DownOk (xs : List Item) (i : Nat) : Prop where
  rest : ∀ j a b, 0 < j → (j - 1) / 2 ≠ i → xs[j]? = some b → xs[(j - 1) / 2]? = some a → leP a b
  far : ∀ j a b, 0 < j → 0 < i → (j - 1) / 2 = i → xs[j]? = some b → xs[(i - 1) / 2]? = some a → leP a b
/-- Two change places. -/
def swp (xs : List Item) (i j : Nat) (a b : Item) : List Item := (xs.set i b).set j a
theorem swp_get {xs : List Item} {i j : Nat} {a b : Item} (hi : xs[i]? = some a) (hj : xs[j]? = some b) (k : Nat) : (swp xs i j a b)[k]? = if k = j then some a else if k = i then some b else xs[k]? := by
  have h1 := (List.getElem?_eq_some_iff.1 hi).1
  have h2 := (List.getElem?_eq_some_iff.1 hj).1
  unfold swp
  rw [List.getElem?_set, List.getElem?_set]
  simp only [List.length_set]
  by_cases e : j = k
  · subst e; simp [h2]
  · by_cases e2 : i = k
    · subst e2; simp [e, h1, Ne.symm e]
    · simp [e, e2, Ne.symm e, Ne.symm e2]
theorem swp_perm {xs : List Item} {i j : Nat} {a b : Item} (hi : xs[i]? = some a) (hj : xs[j]? = some b) : List.Perm (swp xs i j a b) xs := by
  obtain ⟨h1, rfl⟩ := List.getElem?_eq_some_iff.1 hi
  obtain ⟨h2, rfl⟩ := List.getElem?_eq_some_iff.1 hj
  exact List.set_set_perm h1 h2
theorem swp_len {xs : List Item} {i j : Nat} {a b : Item} : (swp xs i j a b).length = xs.length := by simp [swp]
theorem up_stop {xs : List Item} {i : Nat} {x p : Item} (h : UpOk xs i) (hx : xs[i]? = some x) (hp : xs[(i - 1) / 2]? = some p) (hl : ltP x p = false) : HeapL xs := fun j a b hj hb ha => by
  by_cases e : j = i
  · subst e
    rw [hx] at hb; rw [hp] at ha; cases hb; cases ha
    exact hl
  · exact h.rest j a b hj e hb ha
theorem up_zero {xs : List Item} (h : UpOk xs 0) : HeapL xs := fun j a b hj hb ha => h.rest j a b hj (by omega) hb ha
theorem up_step {xs : List Item} {i : Nat} {x p : Item} (h : UpOk xs i) (hi : 0 < i) (hx : xs[i]? = some x) (hp : xs[(i - 1) / 2]? = some p) (hl : ltP x p = true) : UpOk (swp xs i ((i - 1) / 2) x p) ((i - 1) / 2) := by
  have hxp := leP_of_lt hl
  refine ⟨fun j a b hj hne hb ha => ?_, fun j a b hj h0 hpar hb ha => ?_⟩
  · rw [swp_get hx hp] at hb ha
    rw [if_neg hne] at hb
    by_cases e : j = i
    · subst e
      rw [if_pos rfl] at hb ha
      cases hb; cases ha
      exact hxp
    · rw [if_neg e] at hb
      by_cases e1 : (j - 1) / 2 = (i - 1) / 2
      · rw [if_pos e1] at ha
        cases ha
        exact leP_trans hxp (h.rest j p b hj e hb (by rw [e1]; exact hp))
      · rw [if_neg e1] at ha
        by_cases e2 : (j - 1) / 2 = i
        · rw [if_pos e2] at ha
          cases ha
          exact h.far j p b hj hi e2 hb hp
        · rw [if_neg e2] at ha
          exact h.rest j a b hj e hb ha
  · rw [swp_get hx hp] at hb ha
    rw [if_neg (by omega)] at hb
    rw [if_neg (by omega), if_neg (by omega)] at ha
    have hgp := h.rest ((i - 1) / 2) a p h0 (by omega) hp ha
    by_cases e : j = i
    · rw [if_pos e] at hb; cases hb; exact hgp
    · rw [if_neg e] at hb
      exact leP_trans hgp (h.rest j p b hj e hb (by rw [hpar]; exact hp))
theorem down_stop {xs : List Item} {i : Nat} {x : Item} (h : DownOk xs i) (hx : xs[i]? = some x) (hl : ∀ j b, (j = 2 * i + 1 ∨ j = 2 * i + 2) → xs[j]? = some b → leP x b) : HeapL xs := fun j a b hj hb ha => by
  by_cases e : (j - 1) / 2 = i
  · rw [e, hx] at ha; cases ha
    exact hl j b (by omega) hb
  · exact h.rest j a b hj e hb ha
theorem down_step {xs : List Item} {i k : Nat} {x m : Item} (h : DownOk xs i) (hx : xs[i]? = some x) (hm : xs[k]? = some m) (hk : k = 2 * i + 1 ∨ k = 2 * i + 2) (hl : leP m x) (hs : ∀ j b, (j = 2 * i + 1 ∨ j = 2 * i + 2) → xs[j]? = some b → leP m b) : DownOk (swp xs i k x m) k := by
  refine ⟨fun j a b hj hne hb ha => ?_, fun j a b hj h0 hpar hb ha => ?_⟩
  · rw [swp_get hx hm] at hb ha
    rw [if_neg hne] at ha
    by_cases e : j = k
    · subst e
      rw [if_pos rfl] at hb
      rw [if_pos (by omega)] at ha
      cases hb; cases ha
      exact hl
    · rw [if_neg e] at hb
      by_cases e1 : j = i
      · subst e1
        rw [if_pos rfl] at hb
        rw [if_neg (by omega)] at ha
        cases hb
        exact h.far k a m (by omega) hj (by omega) hm ha
      · rw [if_neg e1] at hb
        by_cases e2 : (j - 1) / 2 = i
        · rw [if_pos e2] at ha
          cases ha
          exact hs j b (by omega) hb
        · rw [if_neg e2] at ha
          exact h.rest j a b hj e2 hb ha
  · rw [swp_get hx hm] at hb ha
    rw [if_neg (by omega), if_neg (by omega)] at hb
    rw [if_neg (by omega), if_pos (by omega)] at ha
    cases ha
    exact h.rest j m b hj (by omega) hb (by rw [hpar]; exact hm)
/-- The root is the least. -/
theorem heap_least {xs : List Item} (h : HeapL xs) {a : Item} (ha : xs[0]? = some a) : ∀ (n j : Nat), j ≤ n → ∀ b, xs[j]? = some b → leP a b := by
  intro n
  induction n with
  | zero =>
    intro j hj b hb
    have : j = 0 := by omega
    subst this
    rw [ha] at hb; cases hb; exact leP_refl a
  | succ n ih =>
    intro j hj b hb
    by_cases e : j = 0
    · subst e; rw [ha] at hb; cases hb; exact leP_refl a
    · have hlt := (List.getElem?_eq_some_iff.1 hb).1
      have hp : xs[(j - 1) / 2]? = some xs[(j - 1) / 2] := List.getElem?_eq_getElem (by omega)
      exact leP_trans (ih ((j - 1) / 2) (by omega) _ hp) (h j _ b (by omega) hb hp)
theorem heap_min {xs : List Item} (h : HeapL xs) {a : Item} (ha : xs[0]? = some a) : ∀ b ∈ xs, leP a b := fun b hb => by
  obtain ⟨j, hj⟩ := List.getElem?_of_mem hb
  exact heap_least h ha j j (Nat.le_refl _) b hj
/-- Behind an item that is put at the end. -/
theorem push_ok {xs : List Item} (h : HeapL xs) (x : Item) : UpOk (xs ++ [x]) xs.length := by
  refine ⟨fun j a b hj hne hb ha => ?_, fun j a b hj h0 hpar hb ha => ?_⟩
  · have hlt := (List.getElem?_eq_some_iff.1 hb).1
    simp at hlt
    rw [List.getElem?_append_left (by omega)] at hb
    rw [List.getElem?_append_left (by omega)] at ha
    exact h j a b hj hb ha
  · have hlt := (List.getElem?_eq_some_iff.1 hb).1
    simp at hlt
    omega
/-- What is left where the last one comes to the front. -/
theorem pop_ok {xs : List Item} (h : HeapL xs) {l : Item} : DownOk ((xs.set 0 l).take (xs.length - 1)) 0 := by
  refine ⟨fun j a b hj hne hb ha => ?_, fun j a b hj h0 hpar hb ha => absurd h0 (by omega)⟩
  rw [List.getElem?_take] at hb ha
  split at hb
  · split at ha
    · rw [List.getElem?_set_ne (by omega)] at hb
      rw [List.getElem?_set_ne (by omega)] at ha
      exact h j a b hj hb ha
    · cases ha
  · cases hb
/-- Root and what is left are all that there was. -/
theorem pop_perm {xs : List Item} {a l : Item} (ha : xs[0]? = some a) (hl : xs[xs.length - 1]? = some l) : List.Perm (a :: (xs.set 0 l).take (xs.length - 1)) xs := by
  cases xs with
  | nil => simp at ha
  | cons x t =>
    simp at ha; subst ha
    cases ht : t.reverse with
    | nil =>
      have : t = [] := by simpa using ht
      subst this
      simp
    | cons y r =>
      have : t = r.reverse ++ [y] := by rw [← List.reverse_reverse t, ht]; simp
      subst this
      have : l = y := by simp at hl; exact hl.symm
      subst this
      simp only [List.set_cons_zero, List.length_cons, List.length_append, List.length_reverse, List.length_nil, Nat.add_sub_cancel]
      rw [List.take_succ_cons, List.take_append_of_le_length (by simp)]
      simp only [List.take_of_length_le (show (r.reverse).length ≤ r.length by simp)]
      exact List.Perm.cons x (List.perm_append_singleton l r.reverse).symm
end Go.Sx
