/-
  Layer 10, part A: comparisons.
-/
import Derived.Test.YtmogappoadglgaaZSxFour
set_option linter.unusedVariables false
set_option linter.unusedSimpArgs false
namespace Go.Sx
open Go Go.Proofs Go.Proofs.Ytmogappoadglgaa
def spIsNaN : Spec AF where
  γ := Int
  δ := Unit
  args := fun x => [vI x]
  own := fun _ => []
  pre := fun _ => True
  nnew := 0
  res := fun _ _ => vB false
  own' := fun _ _ => []
  post := fun _ _ => True
theorem m_isNaN : Meets Try.prog regF 105 spIsNaN := by
  refine meets Try.func105 6 noWr rfl (by kernel_rfl) (by kernel_rfl) ?_
  intro (g : Int) hg
  conv => whnf
  refine tell (fun h => absurd rfl h) (fun _ => ?_)
  conv => whnf
  exact ⟨(), [], trivial, rfl, trivial, trivial⟩
def cmpI (a b : Int) : Int := if a < b then -1 else if a > b then 1 else 0
def spCompare : Spec AF where
  γ := Int × Int
  δ := Unit
  args := fun x => [vI x.1, vI x.2]
  own := fun _ => []
  pre := fun _ => True
  nnew := 0
  res := fun x _ => vI (cmpI x.1 x.2)
  own' := fun _ _ => []
  post := fun _ _ => True
theorem m_compare : Meets Try.prog regF 95 spCompare := by
  refine meets Try.func95 20 noWr rfl (by kernel_rfl) (by kernel_rfl) ?_
  intro (g : Int × Int) hg
  conv => whnf
  refine ⟨_, m_isNaN, g.1, [], false, ?_⟩
  conv => whnf
  refine ⟨vc0 trivial (And.intro rfl trivial) trivial trivial trivial, ⟨(), trivial⟩, fun _ _ => ?_⟩
  conv => whnf
  refine ⟨_, m_isNaN, g.2, [], false, ?_⟩
  conv => whnf
  refine ⟨vc0 trivial (And.intro rfl trivial) trivial trivial trivial, ⟨(), trivial⟩, fun _ _ => ?_⟩
  conv => whnf
  refine tell (fun h => ?_) (fun h => ?_)
  · conv => whnf
    exact ⟨(), [], trivial, eI (by unfold cmpI; rw [if_pos h]), trivial, trivial⟩
  · conv => whnf
    refine tell (fun h2 => ?_) (fun h2 => ?_)
    · conv => whnf
      exact ⟨(), [], trivial, eI (by unfold cmpI; rw [if_neg h, if_pos h2]), trivial, trivial⟩
    · conv => whnf
      exact ⟨(), [], trivial, eI (by unfold cmpI; rw [if_neg h, if_neg h2]), trivial, trivial⟩

def orF : List Int → Int
  | [] => 0
  | x :: l => if x ≠ 0 then x else orF l
theorem orF_drop {xs : List Int} {i : Nat} {x : Int} (h : xs[i]? = some x) : orF (xs.drop i) = if x ≠ 0 then x else orF (xs.drop (i + 1)) := by
  have hl := (List.getElem?_eq_some_iff.1 h)
  obtain ⟨h1, h2⟩ := hl
  rw [List.drop_eq_getElem_cons h1, h2]; rfl
def spOr : Spec AF where
  γ := List Int
  δ := Unit
  args := fun x => [.lst 3 x]
  own := fun _ => []
  pre := fun x => x.length ≤ 1000
  nnew := 0
  res := fun x _ => vI (orF x)
  own' := fun _ _ => []
  post := fun _ _ => True
theorem m_or : Meets Try.prog regF 94 spOr := by
  refine meets Try.func94 18 noWr rfl (by kernel_rfl) (by kernel_rfl) ?_
  intro (g : List Int) hg
  have hg : g.length ≤ 1000 := hg
  conv => whnf
  refine ⟨Nat, fun i => ⟨[(2, vI 0), (3, vI 0), (6, .lst 3 g), (7, vI g.length), (8, vI i)], []⟩, fun i => i ≤ g.length ∧ orF (g.drop i) = orF g, fun i => g.length - i, fun _ _ => rfl,
    ⟨0, [], ⟨Nat.zero_le _, rfl⟩, ?_⟩, fun i hi => ?_⟩
  · exact ⟨rfl, ⟨rfl, rfl, rfl, rfl, rfl, trivial⟩, trivial, rfl⟩
  · obtain ⟨hi, ho⟩ := hi
    conv => whnf
    refine tell (fun (h : (i : Int) < g.length) => ?_) (fun (h : ¬ (i : Int) < g.length) => ?_)
    · have hlt : i < g.length := by omega
      conv => whnf
      refine And.intro ⟨g[i], Int.natCast_nonneg i, List.getElem?_eq_getElem hlt⟩ ?_
      intro (y : Int) hy
      have hy : g[i]? = some y := hy.2
      have hod := orF_drop hy
      conv => whnf
      refine tell (fun (h2 : ¬ y = 0) => ?_) (fun h2 => ?_)
      · conv => whnf
        exact ⟨(), [], trivial, eI (by rw [← ho, hod, if_pos h2]), trivial, trivial⟩
      · have h2 : y = 0 := Decidable.not_not.1 h2
        conv => whnf
        refine And.intro ⟨by omega, by omega⟩ ?_
        conv => whnf
        exact ⟨i + 1, [], ⟨hlt, by rw [← ho, hod, if_neg (by simp [h2])]⟩, (by show g.length - (i + 1) < g.length - i; omega), rfl, ⟨rfl, rfl, rfl, rfl, congrArg vI (by simp), trivial⟩, trivial, rfl⟩
    · have : i = g.length := by omega
      conv => whnf
      exact ⟨(), [], trivial, eI (by rw [← ho, this, List.drop_length]; rfl), trivial, trivial⟩
/-- The order of items. -/
def ltP (a b : Int × Int) : Bool := decide (a.1 < b.1) || (decide (a.1 = b.1) && decide (a.2 < b.2))
def spBefore : Spec AF where
  γ := (Int × Int) × (Int × Int)
  δ := Bool
  args := fun x => [.agg [vI x.1.1, vI x.1.2], .agg [vI x.2.1, vI x.2.2]]
  own := fun _ => []
  pre := fun _ => True
  nnew := 0
  res := fun _ c => vB c
  own' := fun _ _ => []
  post := fun x c => c = ltP x.1 x.2
theorem ltP_or (a b c e : Int) : decide (orF [cmpI a b, cmpI c e] < 0) = ltP (a, c) (b, e) := by
  by_cases h1 : a < b
  · simp [orF, cmpI, ltP, h1]
  by_cases h2 : b < a
  · have h : a ≠ b := by omega
    simp [orF, cmpI, ltP, h1, h2, h]
  have h : a = b := by omega
  subst h
  by_cases h3 : c < e
  · simp [orF, cmpI, ltP, h3]
  by_cases h4 : e < c
  · simp [orF, cmpI, ltP, h3, h4]
  · simp [orF, cmpI, ltP, h3, h4]
theorem m_before : Meets Try.prog regF 76 spBefore := by
  refine meets Try.func76 18 noWr rfl (by kernel_rfl) (by kernel_rfl) ?_
  intro (g : (Int × Int) × (Int × Int)) hg
  conv => whnf
  refine ⟨_, m_compare, (g.1.1, g.2.1), [], false, ?_⟩
  conv => whnf
  refine ⟨vc0 trivial (And.intro rfl (And.intro rfl trivial)) trivial trivial trivial, ⟨(), trivial⟩, fun _ _ => ?_⟩
  conv => whnf
  refine ⟨_, m_compare, (g.1.2, g.2.2), [], false, ?_⟩
  conv => whnf
  refine ⟨vc0 trivial (And.intro rfl (And.intro rfl trivial)) trivial trivial trivial, ⟨(), trivial⟩, fun _ _ => ?_⟩
  conv => whnf
  refine ⟨_, m_or, [cmpI g.1.1 g.2.1, cmpI g.1.2 g.2.2], [], false, ?_⟩
  conv => whnf
  refine ⟨vc0 (by decide : (2 : Nat) ≤ 1000) (And.intro (And.intro (Nat.le_refl 2) (And.intro rfl rfl)) trivial) trivial trivial trivial, ⟨(), trivial⟩, fun _ _ => ?_⟩
  conv => whnf
  refine tell0 ?_
  conv => whnf
  refine And.intro (by kernel_rfl) ?_
  conv => whnf
  exact ⟨ltP g.1 g.2, [], rfl, eB (ltP_or _ _ _ _), trivial, trivial⟩
end Go.Sx

/-
  Layer 10, part P: the plain law of heaps.
-/
namespace Go.Sx
abbrev Item := Int × Int
def leP (a b : Item) : Prop := ltP b a = false
theorem ltP_iff {a b : Item} : ltP a b = true ↔ a.1 < b.1 ∨ (a.1 = b.1 ∧ a.2 < b.2) := by simp [ltP]
theorem leP_iff {a b : Item} : leP a b ↔ a.1 < b.1 ∨ (a.1 = b.1 ∧ a.2 ≤ b.2) := by
  have h := ltP_iff (a := b) (b := a)
  have e : leP a b ↔ ¬ ltP b a = true := by unfold leP; cases ltP b a <;> simp
  rw [e, h]; omega
theorem leP_refl (a : Item) : leP a a := leP_iff.2 (by omega)
theorem leP_trans {a b c : Item} (h1 : leP a b) (h2 : leP b c) : leP a c := by
  have h1 := leP_iff.1 h1
  have h2 := leP_iff.1 h2
  exact leP_iff.2 (by omega)
theorem leP_of_lt {a b : Item} (h : ltP a b = true) : leP a b := by
  have h := ltP_iff.1 h
  exact leP_iff.2 (by omega)
theorem leP_antisymm {a b : Item} (h1 : leP a b) (h2 : leP b a) : a = b := by
  have h1 := leP_iff.1 h1
  have h2 := leP_iff.1 h2
  exact Prod.ext (by omega) (by omega)
theorem leP_total (a b : Item) : leP a b ∨ leP b a := by
  simp only [leP_iff]; omega
def HeapL (xs : List Item) : Prop := ∀ j a b, 0 < j → xs[j]? = some b → xs[(j - 1) / 2]? = some a → leP a b
structure UpOk (xs : List Item) (i : Nat) : Prop where
  rest : ∀ j a b, 0 < j → j ≠ i → xs[j]? = some b → xs[(j - 1) / 2]? = some a → leP a b
  far : ∀ j a b, 0 < j → 0 < i → (j - 1) / 2 = i → xs[j]? = some b → xs[(i - 1) / 2]? = some a → leP a b
structure DownOk (xs : List Item) (i : Nat) : Prop where
  rest : ∀ j a b, 0 < j → (j - 1) / 2 ≠ i → xs[j]? = some b → xs[(j - 1) / 2]? = some a → leP a b
  far : ∀ j a b, 0 < j → 0 < i → (j - 1) / 2 = i → xs[j]? = some b → xs[(i - 1) / 2]? = some a → leP a b
/-- Two change places. -/
def swp (xs : List Item) (i j : Nat) (a b : Item) : List Item := (xs.set i b).set j a
theorem swp_get {xs : List Item} {i j : Nat} {a b : Item} (hi : xs[i]? = some a) (hj : xs[j]? = some b) (k : Nat) : (swp xs i j a b)[k]? = if k = j then some a else if k = i then some b else xs[k]? := by
  have h1 := (List.getElem?_eq_some_iff.1 hi).1
  have h2 := (List.getElem?_eq_some_iff.1 hj).1
  unfold swp
  rw [List.getElem?_set, List.getElem?_set]
  simp only [List.length_set]
  by_cases e : j = k
  · subst e; simp [h2]
  · by_cases e2 : i = k
    · subst e2; simp [e, h1, Ne.symm e]
    · simp [e, e2, Ne.symm e, Ne.symm e2]
theorem swp_perm {xs : List Item} {i j : Nat} {a b : Item} (hi : xs[i]? = some a) (hj : xs[j]? = some b) : List.Perm (swp xs i j a b) xs := by
  obtain ⟨h1, rfl⟩ := List.getElem?_eq_some_iff.1 hi
  obtain ⟨h2, rfl⟩ := List.getElem?_eq_some_iff.1 hj
  exact List.set_set_perm h1 h2
theorem swp_len {xs : List Item} {i j : Nat} {a b : Item} : (swp xs i j a b).length = xs.length := by simp [swp]
theorem up_stop {xs : List Item} {i : Nat} {x p : Item} (h : UpOk xs i) (hx : xs[i]? = some x) (hp : xs[(i - 1) / 2]? = some p) (hl : ltP x p = false) : HeapL xs := fun j a b hj hb ha => by
  by_cases e : j = i
  · subst e
    rw [hx] at hb; rw [hp] at ha; cases hb; cases ha
    exact hl
  · exact h.rest j a b hj e hb ha
theorem up_zero {xs : List Item} (h : UpOk xs 0) : HeapL xs := fun j a b hj hb ha => h.rest j a b hj (by omega) hb ha
theorem up_step {xs : List Item} {i : Nat} {x p : Item} (h : UpOk xs i) (hi : 0 < i) (hx : xs[i]? = some x) (hp : xs[(i - 1) / 2]? = some p) (hl : ltP x p = true) : UpOk (swp xs i ((i - 1) / 2) x p) ((i - 1) / 2) := by
  have hxp := leP_of_lt hl
  refine ⟨fun j a b hj hne hb ha => ?_, fun j a b hj h0 hpar hb ha => ?_⟩
  · rw [swp_get hx hp] at hb ha
    rw [if_neg hne] at hb
    by_cases e : j = i
    · subst e
      rw [if_pos rfl] at hb ha
      cases hb; cases ha
      exact hxp
    · rw [if_neg e] at hb
      by_cases e1 : (j - 1) / 2 = (i - 1) / 2
      · rw [if_pos e1] at ha
        cases ha
        exact leP_trans hxp (h.rest j p b hj e hb (by rw [e1]; exact hp))
      · rw [if_neg e1] at ha
        by_cases e2 : (j - 1) / 2 = i
        · rw [if_pos e2] at ha
          cases ha
          exact h.far j p b hj hi e2 hb hp
        · rw [if_neg e2] at ha
          exact h.rest j a b hj e hb ha
  · rw [swp_get hx hp] at hb ha
    rw [if_neg (by omega)] at hb
    rw [if_neg (by omega), if_neg (by omega)] at ha
    have hgp := h.rest ((i - 1) / 2) a p h0 (by omega) hp ha
    by_cases e : j = i
    · rw [if_pos e] at hb; cases hb; exact hgp
    · rw [if_neg e] at hb
      exact leP_trans hgp (h.rest j p b hj e hb (by rw [hpar]; exact hp))
theorem down_stop {xs : List Item} {i : Nat} {x : Item} (h : DownOk xs i) (hx : xs[i]? = some x) (hl : ∀ j b, (j = 2 * i + 1 ∨ j = 2 * i + 2) → xs[j]? = some b → leP x b) : HeapL xs := fun j a b hj hb ha => by
  by_cases e : (j - 1) / 2 = i
  · rw [e, hx] at ha; cases ha
    exact hl j b (by omega) hb
  · exact h.rest j a b hj e hb ha
theorem down_step {xs : List Item} {i k : Nat} {x m : Item} (h : DownOk xs i) (hx : xs[i]? = some x) (hm : xs[k]? = some m) (hk : k = 2 * i + 1 ∨ k = 2 * i + 2) (hl : leP m x) (hs : ∀ j b, (j = 2 * i + 1 ∨ j = 2 * i + 2) → xs[j]? = some b → leP m b) : DownOk (swp xs i k x m) k := by
  refine ⟨fun j a b hj hne hb ha => ?_, fun j a b hj h0 hpar hb ha => ?_⟩
  · rw [swp_get hx hm] at hb ha
    rw [if_neg hne] at ha
    by_cases e : j = k
    · subst e
      rw [if_pos rfl] at hb
      rw [if_pos (by omega)] at ha
      cases hb; cases ha
      exact hl
    · rw [if_neg e] at hb
      by_cases e1 : j = i
      · subst e1
        rw [if_pos rfl] at hb
        rw [if_neg (by omega)] at ha
        cases hb
        exact h.far k a m (by omega) hj (by omega) hm ha
      · rw [if_neg e1] at hb
        by_cases e2 : (j - 1) / 2 = i
        · rw [if_pos e2] at ha
          cases ha
          exact hs j b (by omega) hb
        · rw [if_neg e2] at ha
          exact h.rest j a b hj e2 hb ha
  · rw [swp_get hx hm] at hb ha
    rw [if_neg (by omega), if_neg (by omega)] at hb
    rw [if_neg (by omega), if_pos (by omega)] at ha
    cases ha
    exact h.rest j m b hj (by omega) hb (by rw [hpar]; exact hm)
/-- The root is the least. -/
theorem heap_least {xs : List Item} (h : HeapL xs) {a : Item} (ha : xs[0]? = some a) : ∀ (n j : Nat), j ≤ n → ∀ b, xs[j]? = some b → leP a b := by
  intro n
  induction n with
  | zero =>
    intro j hj b hb
    have : j = 0 := by omega
    subst this
    rw [ha] at hb; cases hb; exact leP_refl a
  | succ n ih =>
    intro j hj b hb
    by_cases e : j = 0
    · subst e; rw [ha] at hb; cases hb; exact leP_refl a
    · have hlt := (List.getElem?_eq_some_iff.1 hb).1
      have hp : xs[(j - 1) / 2]? = some xs[(j - 1) / 2] := List.getElem?_eq_getElem (by omega)
      exact leP_trans (ih ((j - 1) / 2) (by omega) _ hp) (h j _ b (by omega) hb hp)
theorem heap_min {xs : List Item} (h : HeapL xs) {a : Item} (ha : xs[0]? = some a) : ∀ b ∈ xs, leP a b := fun b hb => by
  obtain ⟨j, hj⟩ := List.getElem?_of_mem hb
  exact heap_least h ha j j (Nat.le_refl _) b hj
/-- Behind an item that is put at the end. -/
theorem push_ok {xs : List Item} (h : HeapL xs) (x : Item) : UpOk (xs ++ [x]) xs.length := by
  refine ⟨fun j a b hj hne hb ha => ?_, fun j a b hj h0 hpar hb ha => ?_⟩
  · have hlt := (List.getElem?_eq_some_iff.1 hb).1
    simp at hlt
    rw [List.getElem?_append_left (by omega)] at hb
    rw [List.getElem?_append_left (by omega)] at ha
    exact h j a b hj hb ha
  · have hlt := (List.getElem?_eq_some_iff.1 hb).1
    simp at hlt
    omega
/-- What is left where the last one comes to the front. -/
theorem pop_ok {xs : List Item} (h : HeapL xs) {l : Item} : DownOk ((xs.set 0 l).take (xs.length - 1)) 0 := by
  refine ⟨fun j a b hj hne hb ha => ?_, fun j a b hj h0 hpar hb ha => absurd h0 (by omega)⟩
  rw [List.getElem?_take] at hb ha
  split at hb
  · split at ha
    · rw [List.getElem?_set_ne (by omega)] at hb
      rw [List.getElem?_set_ne (by omega)] at ha
      exact h j a b hj hb ha
    · cases ha
  · cases hb
/-- Root and what is left are all that there was. -/
theorem pop_perm {xs : List Item} {a l : Item} (ha : xs[0]? = some a) (hl : xs[xs.length - 1]? = some l) : List.Perm (a :: (xs.set 0 l).take (xs.length - 1)) xs := by
  cases xs with
  | nil => simp at ha
  | cons x t =>
    simp at ha; subst ha
    cases ht : t.reverse with
    | nil =>
      have : t = [] := by simpa using ht
      subst this
      simp
    | cons y r =>
      have : t = r.reverse ++ [y] := by rw [← List.reverse_reverse t, ht]; simp
      subst this
      have : l = y := by simp at hl; exact hl.symm
      subst this
      simp only [List.set_cons_zero, List.length_cons, List.length_append, List.length_reverse, List.length_nil, Nat.add_sub_cancel]
      rw [List.take_succ_cons, List.take_append_of_le_length (by simp)]
      simp only [List.take_of_length_le (show (r.reverse).length ≤ r.length by simp)]
      exact List.Perm.cons x (List.perm_append_singleton l r.reverse).symm
end Go.Sx

/-
  Layer 10, part B: up and down.
-/
namespace Go.Sx
open Go Go.Proofs Go.Proofs.Ytmogappoadglgaa
abbrev fnB : SV AF := .val (.func (.func 76) #[] #[])
abbrev hpC (n : Nat) : Ct AF := .cells [.sl 1 2 0 n, fnB]
theorem at0 {zs ys : List Item} {i : Nat} {x : Item} (h : zs[i]? = some x) : (zs ++ ys)[0 + (i : Int).toNat]? = some x := by
  have := (List.getElem?_eq_some_iff.1 h).1
  rw [Nat.zero_add, Int.toNat_natCast, List.getElem?_append_left this]; exact h
theorem allAt {zs ys : List Item} {i : Nat} {x : Item} {K : Item → Prop} (h : zs[i]? = some x) (hK : K x) :
    (∃ y, (zs ++ ys)[0 + (i : Int).toNat]? = some y) ∧ ∀ y, (zs ++ ys)[0 + (i : Int).toNat]? = some y → K y :=
  ⟨⟨x, at0 h⟩, fun y hy => by rw [at0 h] at hy; cases hy; exact hK⟩
theorem allSome {L : List Item} {j : Nat} {x : Item} {K : Item → Prop} (h : L[j]? = some x) (hK : K x) : (∃ y, L[j]? = some y) ∧ ∀ y, L[j]? = some y → K y :=
  ⟨⟨x, h⟩, fun y hy => by rw [h] at hy; cases hy; exact hK⟩
theorem at1 {zs ys : List Item} {i k : Nat} {q p : Item} (hne : i ≠ k) (h : zs[k]? = some p) : ((zs ++ ys).set (0 + (i : Int).toNat) q)[0 + (k : Int).toNat]? = some p := by
  rw [List.getElem?_set_ne (by simp only [Nat.zero_add, Int.toNat_natCast]; exact hne)]; exact at0 h
theorem swpApp {zs ys : List Item} {i k : Nat} {x p : Item} (hx : zs[i]? = some x) (hp : zs[k]? = some p) :
    ((zs ++ ys).set (0 + (i : Int).toNat) p).set (0 + (k : Int).toNat) x = swp zs i k x p ++ ys := by
  have h1 := (List.getElem?_eq_some_iff.1 hx).1
  have h2 := (List.getElem?_eq_some_iff.1 hp).1
  simp only [Nat.zero_add, Int.toNat_natCast]
  rw [List.set_append_left _ _ h1, List.set_append_left _ _ (by simpa using h2)]
  rfl
def spUp : Spec AF where
  γ := List Item × List Item × Nat
  δ := List Item
  args := fun g => [.ptr 0 0 2 0, vI g.2.2]
  own := fun g => [hpC g.1.length, .arr 97 (g.1 ++ g.2.1)]
  pre := fun g => g.2.2 < g.1.length ∧ UpOk g.1 g.2.2 ∧ g.1.length ≤ 1000000
  nnew := 0
  res := fun _ _ => .tup []
  own' := fun g d => [some (hpC g.1.length), some (.arr 97 (d ++ g.2.1))]
  post := fun g d => List.Perm d g.1 ∧ HeapL d
theorem m_up : Meets Try.prog regF 97 spUp := by
  refine meets Try.func97 57 noWr rfl (by kernel_rfl) (by kernel_rfl) ?_
  rintro ⟨(xs : List Item), (ys : List Item), (i : Nat)⟩ ⟨(hi : i < xs.length), (hu : UpOk xs i), (hl : xs.length ≤ 1000000)⟩
  conv => whnf
  refine ⟨List Item × Nat, fun p => ⟨[(0, .ptr 0 0 2 0), (1, vI p.2)], [(0, hpC xs.length), (1, .arr 97 (p.1 ++ ys))]⟩, fun p => p.2 < xs.length ∧ UpOk p.1 p.2 ∧ List.Perm p.1 xs, fun p => p.2, fun _ _ => rfl,
    ⟨(xs, i), [], ⟨hi, hu, List.Perm.refl _⟩, ?_⟩, ?_⟩
  · exact ⟨rfl, ⟨rfl, rfl, trivial⟩, ⟨⟨rfl, rfl, trivial⟩, rfl, trivial⟩, rfl⟩
  rintro ⟨(zs : List Item), (i : Nat)⟩ ⟨(hi : i < xs.length), (hu : UpOk zs i), (hp : List.Perm zs xs)⟩
  have hlen : zs.length = xs.length := hp.length_eq
  show XC _ _ _ _ (Pat.st ⟨[(0, .ptr 0 0 2 0), (1, vI i)], [(0, hpC xs.length), (1, .arr 97 (zs ++ ys))]⟩) _
  conv => whnf
  refine tell (fun (h : 0 < (i : Int)) => ?_) (fun (h : ¬ 0 < (i : Int)) => ?_)
  · conv => whnf
    refine And.intro (inI (by omega)) ?_
    conv => whnf
    refine And.intro (by decide) ?_
    conv => whnf
    have hq : ((i : Int) - 1).tdiv 2 = ((i - 1) / 2 : Nat) := by
      rw [Int.tdiv_eq_ediv_of_nonneg (by omega)]; omega
    generalize ((i : Int) - 1).tdiv 2 = q at *
    subst hq
    have hk : (i - 1) / 2 < xs.length := by omega
    generalize hkk : (i - 1) / 2 = k at *
    refine And.intro (inI (by omega)) ?_
    conv => whnf
    obtain ⟨x, hx⟩ : ∃ x, zs[i]? = some x := ⟨_, List.getElem?_eq_getElem (by omega)⟩
    obtain ⟨p, hpk⟩ : ∃ p, zs[k]? = some p := ⟨_, List.getElem?_eq_getElem (by omega)⟩
    refine And.intro ⟨Int.natCast_nonneg i, by omega⟩ ?_
    conv => whnf
    refine allAt hx ?_
    conv => whnf
    refine And.intro ⟨Int.natCast_nonneg k, by omega⟩ ?_
    conv => whnf
    refine allAt hpk ?_
    conv => whnf
    refine ⟨_, m_before, (x, p), [], false, ?_⟩
    conv => whnf
    refine ⟨vc0 trivial (And.intro (And.intro rfl (And.intro rfl trivial)) (And.intro (And.intro rfl (And.intro rfl trivial)) trivial)) trivial trivial trivial, ⟨_, rfl⟩, fun (c : Bool) (hc : c = ltP x p) => ?_⟩
    cases c
    · have h2 : ltP x p = false := hc.symm
      conv => whnf
      refine And.intro (by kernel_rfl) ?_
      conv => whnf
      exact ⟨zs, [], ⟨hp, up_stop hu hx (by rw [hkk]; exact hpk) h2⟩, trivial, ⟨⟨rfl, rfl, trivial⟩, rfl, trivial⟩, trivial⟩
    · have h2 : ltP x p = true := hc.symm
      conv => whnf
      refine And.intro (by kernel_rfl) ?_
      conv => whnf
      refine And.intro ⟨Int.natCast_nonneg k, by omega⟩ ?_
      conv => whnf
      refine allAt hpk ?_
      conv => whnf
      refine And.intro ⟨Int.natCast_nonneg i, by omega⟩ ?_
      conv => whnf
      refine allAt hx ?_
      conv => whnf
      refine And.intro ⟨Int.natCast_nonneg i, by omega⟩ ?_
      conv => whnf
      refine allAt hx ?_
      conv => whnf
      refine And.intro ⟨Int.natCast_nonneg k, by omega⟩ ?_
      conv => whnf
      refine allSome (at1 (by omega) hpk) ?_
      conv => whnf
      refine And.intro (by kernel_rfl) ?_
      conv => whnf
      refine ⟨(swp zs i k x p, k), [], ⟨hk, by rw [← hkk]; exact up_step hu (by omega) hx (by rw [hkk]; exact hpk) h2, (swp_perm hx hpk).trans hp⟩, (by show k < i; omega), rfl, ⟨rfl, rfl, trivial⟩, ⟨⟨rfl, rfl, trivial⟩, ?_, trivial⟩, rfl⟩
      exact congrArg (Ct.arr (A := AF) 97) (swpApp hx hpk)
  · have : i = 0 := by omega
    subst this
    conv => whnf
    exact ⟨zs, [], ⟨hp, up_zero hu⟩, trivial, ⟨⟨rfl, rfl, trivial⟩, rfl, trivial⟩, trivial⟩
end Go.Sx

/-
  Layer 10, part C: down.
-/
namespace Go.Sx
open Go Go.Proofs Go.Proofs.Ytmogappoadglgaa
def spDown : Spec AF where
  γ := List Item × List Item × Nat
  δ := List Item
  args := fun g => [.ptr 0 0 2 0, vI g.2.2]
  own := fun g => [hpC g.1.length, .arr 97 (g.1 ++ g.2.1)]
  pre := fun g => (g.2.2 < g.1.length ∨ (g.2.2 = 0 ∧ g.1.length = 0)) ∧ DownOk g.1 g.2.2 ∧ g.1.length ≤ 1000000
  nnew := 0
  res := fun _ _ => .tup []
  own' := fun g d => [some (hpC g.1.length), some (.arr 97 (d ++ g.2.1))]
  post := fun g d => List.Perm d g.1 ∧ HeapL d
/-- What the inner loop has found. -/
structure LeastOk (zs : List Item) (i l b : Nat) : Prop where
  lo : 2 * i + 1 ≤ b
  hi : b ≤ 2 * i + 3
  least : l = i ∨ (2 * i + 1 ≤ l ∧ l < b ∧ l < zs.length)
  all : ∀ j x m, (j = i ∨ (2 * i + 1 ≤ j ∧ j < b)) → zs[j]? = some x → zs[l]? = some m → leP m x
theorem m_down : Meets Try.prog regF 96 spDown := by
  refine meets Try.func96 76 noWr rfl (by kernel_rfl) (by kernel_rfl) ?_
  rintro ⟨(xs : List Item), (ys : List Item), (i : Nat)⟩ ⟨(hi : i < xs.length ∨ (i = 0 ∧ xs.length = 0)), (hu : DownOk xs i), (hl : xs.length ≤ 1000000)⟩
  conv => whnf
  refine ⟨List Item × Nat, fun p => ⟨[(0, .ptr 0 0 2 0), (1, vI p.2)], [(0, hpC xs.length), (1, .arr 97 (p.1 ++ ys))]⟩, fun p => (p.2 < xs.length ∨ (p.2 = 0 ∧ xs.length = 0)) ∧ DownOk p.1 p.2 ∧ List.Perm p.1 xs, fun p => xs.length - p.2, fun _ _ => rfl,
    ⟨(xs, i), [], ⟨hi, hu, List.Perm.refl _⟩, ?_⟩, ?_⟩
  · exact ⟨rfl, ⟨rfl, rfl, trivial⟩, ⟨⟨rfl, rfl, trivial⟩, rfl, trivial⟩, rfl⟩
  rintro ⟨(zs : List Item), (i : Nat)⟩ ⟨(hi : i < xs.length ∨ (i = 0 ∧ xs.length = 0)), (hu : DownOk zs i), (hp : List.Perm zs xs)⟩
  have hlen : zs.length = xs.length := hp.length_eq
  show XC _ _ _ _ (Pat.st ⟨[(0, .ptr 0 0 2 0), (1, vI i)], [(0, hpC xs.length), (1, .arr 97 (zs ++ ys))]⟩) _
  conv => whnf
  refine And.intro (inI (by omega)) ?_
  conv => whnf
  refine And.intro (inI (by omega)) ?_
  conv => whnf
  refine ⟨Nat × Nat, fun p => ⟨[(0, .ptr 0 0 2 0), (1, vI i), (4, vI p.1), (5, vI p.2)], [(0, hpC xs.length), (1, .arr 97 (zs ++ ys))]⟩, fun p => LeastOk zs i p.1 p.2, fun p => 2 * i + 3 - p.2, fun _ _ => rfl,
    ⟨(i, 2 * i + 1), [], ⟨Nat.le_refl _, by omega, .inl rfl, fun j x m hj hx hm => ?_⟩, ?_⟩, ?_⟩
  · have : j = i := by omega
    subst this
    rw [hx] at hm; cases hm; exact leP_refl x
  · exact ⟨rfl, ⟨rfl, rfl, rfl, congrArg vI (by simp), trivial⟩, ⟨⟨rfl, rfl, trivial⟩, rfl, trivial⟩, rfl⟩
  rintro ⟨(l : Nat), (b : Nat)⟩ ⟨(h1 : 2 * i + 1 ≤ b), (h2 : b ≤ 2 * i + 3), (h3 : l = i ∨ (2 * i + 1 ≤ l ∧ l < b ∧ l < zs.length)), (h4 : ∀ j x m, (j = i ∨ (2 * i + 1 ≤ j ∧ j < b)) → zs[j]? = some x → zs[l]? = some m → leP m x)⟩
  show XC _ _ _ _ (Pat.st ⟨[(0, .ptr 0 0 2 0), (1, vI i), (4, vI l), (5, vI b)], [(0, hpC xs.length), (1, .arr 97 (zs ++ ys))]⟩) _
  conv => whnf
  refine And.intro (inI (by omega)) ?_
  conv => whnf
  refine And.intro (inI (by omega)) ?_
  conv => whnf
  refine tell (fun (hb : (b : Int) ≤ 2 * i + 2) => ?_) (fun (hb : ¬ (b : Int) ≤ 2 * i + 2) => ?_)
  · conv => whnf
    refine tell (fun (hn : (b : Int) < xs.length) => ?_) (fun (hn : ¬ (b : Int) < xs.length) => ?_)
    · conv => whnf
      obtain ⟨y, hy⟩ : ∃ y, zs[b]? = some y := ⟨_, List.getElem?_eq_getElem (by omega)⟩
      obtain ⟨m, hm⟩ : ∃ m, zs[l]? = some m := ⟨_, List.getElem?_eq_getElem (by omega)⟩
      refine And.intro ⟨Int.natCast_nonneg b, by omega⟩ ?_
      conv => whnf
      refine allAt hy ?_
      conv => whnf
      refine And.intro ⟨Int.natCast_nonneg l, by omega⟩ ?_
      conv => whnf
      refine allAt hm ?_
      conv => whnf
      refine ⟨_, m_before, (y, m), [], false, ?_⟩
      conv => whnf
      refine ⟨vc0 trivial (And.intro (And.intro rfl (And.intro rfl trivial)) (And.intro (And.intro rfl (And.intro rfl trivial)) trivial)) trivial trivial trivial, ⟨_, rfl⟩, fun (c : Bool) (hc : c = ltP y m) => ?_⟩
      cases c
      · have hlt : leP m y := hc.symm
        conv => whnf
        refine And.intro (by kernel_rfl) ?_
        conv => whnf
        refine And.intro (inI (by omega)) ?_
        conv => whnf
        refine ⟨(l, b + 1), [], ⟨by omega, by omega, by omega, fun j x m' hj hx hm' => ?_⟩, (by show 2 * i + 3 - (b + 1) < 2 * i + 3 - b; omega), rfl, ⟨rfl, rfl, rfl, congrArg vI (by simp), trivial⟩, ⟨⟨rfl, rfl, trivial⟩, rfl, trivial⟩, rfl⟩
        by_cases e : j = b
        · subst e
          rw [hy] at hx; rw [hm] at hm'; cases hx; cases hm'; exact hlt
        · exact h4 j x m' (by omega) hx hm'
      · have hlt : ltP y m = true := hc.symm
        conv => whnf
        refine And.intro (by kernel_rfl) ?_
        conv => whnf
        refine And.intro (inI (by omega)) ?_
        conv => whnf
        refine ⟨(b, b + 1), [], ⟨by omega, by omega, .inr ⟨h1, by omega, by omega⟩, fun j x m' hj hx hm' => ?_⟩, (by show 2 * i + 3 - (b + 1) < 2 * i + 3 - b; omega), rfl, ⟨rfl, rfl, rfl, congrArg vI (by simp), trivial⟩, ⟨⟨rfl, rfl, trivial⟩, rfl, trivial⟩, rfl⟩
        rw [hy] at hm'; cases hm'
        by_cases e : j = b
        · subst e
          rw [hy] at hx; cases hx; exact leP_refl y
        · exact leP_trans (leP_of_lt hlt) (h4 j x m (by omega) hx hm)
    · have hs : ∀ j x m, (j = i ∨ j = 2 * i + 1 ∨ j = 2 * i + 2) → zs[j]? = some x → zs[l]? = some m → leP m x := fun j x m hj hx hm => h4 j x m (by have := (List.getElem?_eq_some_iff.1 hx).1; omega) hx hm
      conv => whnf
      refine tell (fun (e : (l : Int) = i) => ?_) (fun (e : ¬ (l : Int) = i) => ?_)
      · conv => whnf
        refine ⟨zs, [], ⟨hp, ?_⟩, trivial, ⟨⟨rfl, rfl, trivial⟩, rfl, trivial⟩, trivial⟩
        have e : l = i := by omega
        subst e
        rcases hi with hi | hi
        · obtain ⟨x, hx⟩ : ∃ x, zs[l]? = some x := ⟨_, List.getElem?_eq_getElem (by omega)⟩
          exact down_stop hu hx fun j c hj hc => hs j c x (by omega) hc hx
        · exact fun j x c hj hc => by have := (List.getElem?_eq_some_iff.1 hc).1; omega
      · have hl' : 2 * i + 1 ≤ l ∧ l < b ∧ l < zs.length := h3.resolve_left (by omega)
        obtain ⟨x, hx⟩ : ∃ x, zs[i]? = some x := ⟨_, List.getElem?_eq_getElem (by omega)⟩
        obtain ⟨m, hm⟩ : ∃ m, zs[l]? = some m := ⟨_, List.getElem?_eq_getElem (by omega)⟩
        conv => whnf
        refine And.intro ⟨Int.natCast_nonneg l, by omega⟩ ?_
        conv => whnf
        refine allAt hm ?_
        conv => whnf
        refine And.intro ⟨Int.natCast_nonneg i, by omega⟩ ?_
        conv => whnf
        refine allAt hx ?_
        conv => whnf
        refine And.intro ⟨Int.natCast_nonneg i, by omega⟩ ?_
        conv => whnf
        refine allAt hx ?_
        conv => whnf
        refine And.intro ⟨Int.natCast_nonneg l, by omega⟩ ?_
        conv => whnf
        refine allSome (at1 (by omega) hm) ?_
        conv => whnf
        refine And.intro (by kernel_rfl) ?_
        conv => whnf
        refine ⟨(swp zs i l x m, l), [], ⟨.inl (by omega), down_step hu hx hm (by omega) (hs i x m (.inl rfl) hx hm) (fun j c hj hc => hs j c m (.inr hj) hc hm), (swp_perm hx hm).trans hp⟩, (by show xs.length - l < xs.length - i; omega), rfl, ⟨rfl, rfl, trivial⟩, ⟨⟨rfl, rfl, trivial⟩, ?_, trivial⟩, rfl⟩
        exact congrArg (Ct.arr (A := AF) 97) (swpApp hx hm)
  · have hs : ∀ j x m, (j = i ∨ j = 2 * i + 1 ∨ j = 2 * i + 2) → zs[j]? = some x → zs[l]? = some m → leP m x := fun j x m hj hx hm => h4 j x m (by have := (List.getElem?_eq_some_iff.1 hx).1; omega) hx hm
    conv => whnf
    refine tell (fun (e : (l : Int) = i) => ?_) (fun (e : ¬ (l : Int) = i) => ?_)
    · conv => whnf
      refine ⟨zs, [], ⟨hp, ?_⟩, trivial, ⟨⟨rfl, rfl, trivial⟩, rfl, trivial⟩, trivial⟩
      have e : l = i := by omega
      subst e
      rcases hi with hi | hi
      · obtain ⟨x, hx⟩ : ∃ x, zs[l]? = some x := ⟨_, List.getElem?_eq_getElem (by omega)⟩
        exact down_stop hu hx fun j c hj hc => hs j c x (by omega) hc hx
      · exact fun j x c hj hc => by have := (List.getElem?_eq_some_iff.1 hc).1; omega
    · have hl' : 2 * i + 1 ≤ l ∧ l < b ∧ l < zs.length := h3.resolve_left (by omega)
      obtain ⟨x, hx⟩ : ∃ x, zs[i]? = some x := ⟨_, List.getElem?_eq_getElem (by omega)⟩
      obtain ⟨m, hm⟩ : ∃ m, zs[l]? = some m := ⟨_, List.getElem?_eq_getElem (by omega)⟩
      conv => whnf
      refine And.intro ⟨Int.natCast_nonneg l, by omega⟩ ?_
      conv => whnf
      refine allAt hm ?_
      conv => whnf
      refine And.intro ⟨Int.natCast_nonneg i, by omega⟩ ?_
      conv => whnf
      refine allAt hx ?_
      conv => whnf
      refine And.intro ⟨Int.natCast_nonneg i, by omega⟩ ?_
      conv => whnf
      refine allAt hx ?_
      conv => whnf
      refine And.intro ⟨Int.natCast_nonneg l, by omega⟩ ?_
      conv => whnf
      refine allSome (at1 (by omega) hm) ?_
      conv => whnf
      refine And.intro (by kernel_rfl) ?_
      conv => whnf
      refine ⟨(swp zs i l x m, l), [], ⟨.inl (by omega), down_step hu hx hm (by omega) (hs i x m (.inl rfl) hx hm) (fun j c hj hc => hs j c m (.inr hj) hc hm), (swp_perm hx hm).trans hp⟩, (by show xs.length - l < xs.length - i; omega), rfl, ⟨rfl, rfl, trivial⟩, ⟨⟨rfl, rfl, trivial⟩, ?_, trivial⟩, rfl⟩
      exact congrArg (Ct.arr (A := AF) 97) (swpApp hx hm)
end Go.Sx

/-
  Layer 10, part D: the heap's methods.
-/
namespace Go.Sx
open Go Go.Proofs Go.Proofs.Ytmogappoadglgaa
def spNew : Spec AF where
  γ := Unit
  δ := Unit
  args := fun _ => []
  own := fun _ => []
  pre := fun _ => True
  nnew := 2
  res := fun _ _ => .ptr 0 0 2 0
  own' := fun _ _ => [some (hpC 0), some (.arr 97 [])]
  post := fun _ _ => True
theorem m_new : Meets Try.prog regF 27 spNew := by
  refine meets Try.func27 4 noWr rfl (by kernel_rfl) (by kernel_rfl) ?_
  intro (g : Unit) hg
  conv => whnf
  exact ⟨(), [1003, 9000], trivial, rfl, ⟨⟨⟨rfl, rfl, rfl, rfl⟩, rfl, trivial⟩, ⟨rfl, rfl⟩, trivial⟩, trivial⟩
def spLen : Spec AF where
  γ := List Item × List Item
  δ := Unit
  args := fun _ => [.ptr 0 0 2 0]
  own := fun g => [hpC g.1.length, .arr 97 g.2]
  pre := fun _ => True
  nnew := 0
  res := fun g _ => vI g.1.length
  own' := fun g _ => [some (hpC g.1.length), some (.arr 97 g.2)]
  post := fun _ _ => True
theorem m_len : Meets Try.prog regF 33 spLen := by
  refine meets Try.func33 9 noWr rfl (by kernel_rfl) (by kernel_rfl) ?_
  rintro ⟨(xs : List Item), (ys : List Item)⟩ hg
  conv => whnf
  exact ⟨(), [], trivial, rfl, ⟨⟨rfl, rfl, trivial⟩, rfl, trivial⟩, trivial⟩
theorem heap_ex (xs : List Item) : ∃ d, List.Perm d xs ∧ HeapL d := by
  have ht : ∀ a b c : Item, (!ltP b a) = true → (!ltP c b) = true → (!ltP c a) = true := fun a b c h1 h2 => by
    have h1 : leP a b := by unfold leP; simpa using h1
    have h2 : leP b c := by unfold leP; simpa using h2
    have h3 : ltP c a = false := leP_trans h1 h2
    simp [h3]
  have hto : ∀ a b : Item, ((!ltP b a) || (!ltP a b)) = true := fun a b => by
    rcases leP_total a b with h | h
    · have h : ltP b a = false := h
      simp [h]
    · have h : ltP a b = false := h
      simp [h]
  refine ⟨xs.mergeSort (fun a b => !ltP b a), List.mergeSort_perm _ _, fun j a b hj hb ha => ?_⟩
  have hs := List.pairwise_mergeSort ht hto xs
  obtain ⟨h1, rfl⟩ := List.getElem?_eq_some_iff.1 hb
  obtain ⟨h2, rfl⟩ := List.getElem?_eq_some_iff.1 ha
  have h := List.pairwise_iff_getElem.1 hs ((j - 1) / 2) j h2 h1 (by omega)
  show ltP _ _ = false
  simpa using h
def spPut : Spec AF where
  γ := List Item × List Item × Item
  δ := List Item
  args := fun g => [.ptr 0 0 2 0, .agg [vI g.2.2.1, vI g.2.2.2]]
  own := fun g => [hpC g.1.length, .arr 97 g.2.1]
  pre := fun g => HeapL g.1 ∧ g.1.length < 1000000 ∧ ∃ ys, g.2.1 = g.1 ++ ys
  nnew := 1
  res := fun _ _ => .tup []
  own' := fun _ d => [some (.cells [.sl 2 2 0 d.length, fnB]), none, some (.arr 97 d)]
  post := fun g d => List.Perm d (g.2.2 :: g.1) ∧ HeapL d
theorem m_put : Meets Try.prog regF 78 spPut := by
  refine meets Try.func78 22 noWr rfl (by kernel_rfl) (by kernel_rfl) ?_
  rintro ⟨(xs : List Item), (zs : List Item), (x : Item)⟩ ⟨(hh : HeapL xs), (hl : xs.length < 1000000), (ys : List Item), (hz : zs = xs ++ ys)⟩
  subst hz
  conv => whnf
  refine And.intro ⟨Nat.le_refl 1, (by show 0 + xs.length ≤ (xs ++ ys).length; simp), (by show (xs.length + 1) * 16 ≤ 140737488355328; omega)⟩ ?_
  conv => whnf
  refine And.intro (by kernel_rfl) ?_
  conv => whnf
  refine And.intro (inI (z := ((xs.length + 1 : Nat) : Int) - 1) (by omega)) ?_
  conv => whnf
  refine ⟨_, m_up, (xs ++ [x], [], xs.length), [0, 1011], false, ?_⟩
  conv => whnf
  refine ⟨vc0 ⟨by simp, push_ok hh x, by simp; omega⟩ (And.intro rfl (And.intro (congrArg vI (show ((xs.length + 1 : Nat) : Int) - 1 = (xs.length : Int) by omega)) trivial))
    (And.intro ?_ (And.intro ?_ trivial)) trivial trivial, ?_, ?_⟩
  · show some (Ct.cells (A := AF) [.sl 1011 2 0 (xs.length + 1), fnB]) = some (.cells [.sl 1011 2 0 (xs ++ [x]).length, fnB])
    rw [List.length_append]; rfl
  · have e : List.take xs.length (xs ++ ys) ++ [x] = (xs ++ [x]) ++ [] := by simp
    exact congrArg (fun l : List Item => some (Ct.arr (A := AF) 97 l)) e
  · exact heap_ex _
  rintro (d : List Item) ⟨(hp : List.Perm d (xs ++ [x])), (hd : HeapL d)⟩
  conv => whnf
  refine ⟨d, [1011], ⟨hp.trans (List.perm_append_singleton x xs), hd⟩, trivial, ⟨⟨?_, rfl, trivial⟩, trivial, ?_, trivial⟩, trivial⟩
  · exact congrArg (SV.sl (A := AF) 1011 2 0) hp.length_eq.symm
  · exact congrArg (Ct.arr (A := AF) 97) (List.append_nil d)
def spTake : Spec AF where
  γ := List Item × List Item
  δ := List Item × List Item × Item × Bool
  args := fun _ => [.ptr 0 0 2 0]
  own := fun g => [hpC g.1.length, .arr 97 g.2]
  pre := fun g => HeapL g.1 ∧ g.1.length ≤ 1000000 ∧ ∃ ys, g.2 = g.1 ++ ys
  nnew := 0
  res := fun _ d => .tup [.agg [vI d.2.2.1.1, vI d.2.2.1.2], vB d.2.2.2]
  own' := fun _ d => [some (hpC d.1.length), some (.arr 97 d.2.1)]
  post := fun g d => HeapL d.1 ∧ (∃ ys, d.2.1 = d.1 ++ ys) ∧ ((g.1 = [] ∧ d.1 = [] ∧ d.2.2.1 = (0, 0) ∧ d.2.2.2 = false) ∨ (List.Perm (d.2.2.1 :: d.1) g.1 ∧ (∀ b ∈ g.1, leP d.2.2.1 b) ∧ d.2.2.2 = true))
theorem m_take : Meets Try.prog regF 77 spTake := by
  refine meets Try.func77 43 noWr rfl (by kernel_rfl) (by kernel_rfl) ?_
  rintro ⟨(xs : List Item), (zs : List Item)⟩ ⟨(hh : HeapL xs), (hl : xs.length ≤ 1000000), (ys : List Item), (hz : zs = xs ++ ys)⟩
  subst hz
  conv => whnf
  refine And.intro (inI (z := (xs.length : Int) - 1) (by omega)) ?_
  conv => whnf
  refine tell (fun (h : (xs.length : Int) - 1 < 0) => ?_) (fun (h : ¬ (xs.length : Int) - 1 < 0) => ?_)
  · conv => whnf
    have hn : xs = [] := List.length_eq_zero_iff.1 (by omega)
    subst hn
    exact ⟨([], ys, (0, 0), false), [], ⟨hh, ⟨ys, rfl⟩, .inl ⟨rfl, rfl, rfl, rfl⟩⟩, ⟨⟨rfl, rfl, trivial⟩, rfl, trivial⟩, ⟨⟨rfl, rfl, trivial⟩, rfl, trivial⟩, trivial⟩
  · conv => whnf
    obtain ⟨a, ha⟩ : ∃ a, xs[0]? = some a := ⟨_, List.getElem?_eq_getElem (by omega)⟩
    obtain ⟨l, hla⟩ : ∃ l, xs[xs.length - 1]? = some l := ⟨_, List.getElem?_eq_getElem (by omega)⟩
    have ha' : (xs ++ ys)[0 + Int.toNat 0]? = some a := by rw [List.getElem?_append_left (by simp; omega)]; exact ha
    have hl' : (xs ++ ys)[0 + ((xs.length : Int) - 1).toNat]? = some l := by
      rw [show 0 + ((xs.length : Int) - 1).toNat = xs.length - 1 by omega, List.getElem?_append_left (by omega)]; exact hla
    refine And.intro ⟨Int.le_refl 0, by show (0 : Int) < xs.length; omega⟩ ?_
    conv => whnf
    refine allSome ha' ?_
    conv => whnf
    refine And.intro ⟨by show (0 : Int) ≤ (xs.length : Int) - 1; omega, by show (xs.length : Int) - 1 < xs.length; omega⟩ ?_
    conv => whnf
    refine allSome hl' ?_
    conv => whnf
    refine And.intro ⟨Int.le_refl 0, by show (0 : Int) < xs.length; omega⟩ ?_
    conv => whnf
    refine allSome ha' ?_
    conv => whnf
    refine And.intro (by kernel_rfl) ?_
    conv => whnf
    refine And.intro ⟨Int.le_refl 0, by show (0 : Int) ≤ xs.length - 1; omega, by show (xs.length : Int) - 1 ≤ xs.length; omega⟩ ?_
    conv => whnf
    have hz : ((xs ++ ys).set 0 l).take (xs.length - 1) = (xs.set 0 l).take (xs.length - 1) := by
      rw [List.set_append_left _ _ (by omega), List.take_append_of_le_length (by simp)]
    have hzl : ((xs.set 0 l).take (xs.length - 1)).length = xs.length - 1 := by simp
    refine ⟨_, m_down, ((xs.set 0 l).take (xs.length - 1), ((xs ++ ys).set 0 l).drop (xs.length - 1), 0), [0, 1], false, ?_⟩
    conv => whnf
    refine ⟨vc0 ⟨by show 0 < ((xs.set 0 l).take (xs.length - 1)).length ∨ (0 = 0 ∧ ((xs.set 0 l).take (xs.length - 1)).length = 0); omega, pop_ok hh, by show ((xs.set 0 l).take (xs.length - 1)).length ≤ 1000000; omega⟩ (And.intro rfl (And.intro rfl trivial))
      (And.intro ?_ (And.intro ?_ trivial)) trivial trivial, heap_ex _, ?_⟩
    · have e : ((xs.length : Int) - 1).toNat - Int.toNat 0 = ((xs.set 0 l).take (xs.length - 1)).length := by simp
      exact congrArg (fun n => some (Ct.cells (A := AF) [.sl 1 2 0 n, fnB])) e
    · have e : (xs ++ ys).set 0 l = (xs.set 0 l).take (xs.length - 1) ++ ((xs ++ ys).set 0 l).drop (xs.length - 1) := by rw [← hz, List.take_append_drop]
      exact congrArg (fun L : List Item => some (Ct.arr (A := AF) 97 L)) e
    rintro (d : List Item) ⟨(hp : List.Perm d _), (hd : HeapL d)⟩
    conv => whnf
    exact ⟨(d, d ++ ((xs ++ ys).set 0 l).drop (xs.length - 1), a, true), [], ⟨hd, ⟨_, rfl⟩, .inr ⟨(hp.cons a).trans (pop_perm ha hla), heap_min hh ha, rfl⟩⟩, ⟨⟨rfl, rfl, trivial⟩, rfl, trivial⟩, ⟨⟨congrArg (SV.sl (A := AF) 1 2 0) hp.length_eq.symm, rfl, trivial⟩, rfl, trivial⟩, trivial⟩
def spPush : Spec AF where
  γ := List Item × List Item × Item
  δ := List Item
  args := fun g => [.ptr 0 0 2 0, vI g.2.2.1, vI g.2.2.2]
  own := fun g => [hpC g.1.length, .arr 97 g.2.1]
  pre := fun g => HeapL g.1 ∧ g.1.length < 1000000 ∧ ∃ ys, g.2.1 = g.1 ++ ys
  nnew := 1
  res := fun _ _ => .tup []
  own' := fun _ d => [some (.cells [.sl 2 2 0 d.length, fnB]), none, some (.arr 97 d)]
  post := fun g d => List.Perm d (g.2.2 :: g.1) ∧ HeapL d
theorem m_push : Meets Try.prog regF 31 spPush := by
  refine meets Try.func31 13 noWr rfl (by kernel_rfl) (by kernel_rfl) ?_
  rintro ⟨(xs : List Item), (zs : List Item), (x : Item)⟩ ⟨(hh : HeapL xs), (hl : xs.length < 1000000), (ys : List Item), (hz : zs = xs ++ ys)⟩
  subst hz
  conv => whnf
  refine ⟨_, m_put, (xs, xs ++ ys, x), [0, 1], false, ?_⟩
  conv => whnf
  refine ⟨vc0 ⟨hh, hl, ys, rfl⟩ (And.intro rfl (And.intro (And.intro rfl (And.intro rfl trivial)) trivial)) (And.intro rfl (And.intro rfl trivial)) trivial trivial, heap_ex _, ?_⟩
  rintro (d : List Item) ⟨hp, hd⟩
  conv => whnf
  exact ⟨d, [1012], ⟨hp, hd⟩, trivial, ⟨⟨rfl, rfl, trivial⟩, trivial, rfl, trivial⟩, trivial⟩
def spPop : Spec AF where
  γ := List Item × List Item
  δ := List Item × List Item × Item × Bool
  args := fun _ => [.ptr 0 0 2 0]
  own := fun g => [hpC g.1.length, .arr 97 g.2]
  pre := fun g => HeapL g.1 ∧ g.1.length ≤ 1000000 ∧ ∃ ys, g.2 = g.1 ++ ys
  nnew := 0
  res := fun _ d => .tup [vI d.2.2.1.1, vI d.2.2.1.2, vB d.2.2.2]
  own' := fun _ d => [some (hpC d.1.length), some (.arr 97 d.2.1)]
  post := fun g d => HeapL d.1 ∧ (∃ ys, d.2.1 = d.1 ++ ys) ∧ ((g.1 = [] ∧ d.1 = [] ∧ d.2.2.1 = (0, 0) ∧ d.2.2.2 = false) ∨ (List.Perm (d.2.2.1 :: d.1) g.1 ∧ (∀ b ∈ g.1, leP d.2.2.1 b) ∧ d.2.2.2 = true))
theorem pop_ex {xs : List Item} (h : HeapL xs) : ∃ d : List Item × List Item × Item × Bool, HeapL d.1 ∧ (∃ ys, d.2.1 = d.1 ++ ys) ∧ ((xs = [] ∧ d.1 = [] ∧ d.2.2.1 = (0, 0) ∧ d.2.2.2 = false) ∨ (List.Perm (d.2.2.1 :: d.1) xs ∧ (∀ b ∈ xs, leP d.2.2.1 b) ∧ d.2.2.2 = true)) := by
  cases hx : xs with
  | nil => exact ⟨([], [], (0, 0), false), hx ▸ h, ⟨[], rfl⟩, .inl ⟨rfl, rfl, rfl, rfl⟩⟩
  | cons a t =>
    obtain ⟨d, h1, h2⟩ := heap_ex t
    exact ⟨(d, d, a, true), h2, ⟨[], (List.append_nil d).symm⟩, .inr ⟨h1.cons a, fun b hb => heap_min h (a := a) (by rw [hx]; rfl) b (hx ▸ hb), rfl⟩⟩
theorem m_pop : Meets Try.prog regF 29 spPop := by
  refine meets Try.func29 18 noWr rfl (by kernel_rfl) (by kernel_rfl) ?_
  rintro ⟨(xs : List Item), (zs : List Item)⟩ ⟨(hh : HeapL xs), (hl : xs.length ≤ 1000000), (ys : List Item), (hz : zs = xs ++ ys)⟩
  subst hz
  conv => whnf
  refine ⟨_, m_take, (xs, xs ++ ys), [0, 1], false, ?_⟩
  conv => whnf
  refine ⟨vc0 ⟨hh, hl, ys, rfl⟩ (And.intro rfl trivial) (And.intro rfl (And.intro rfl trivial)) trivial trivial, pop_ex hh, ?_⟩
  rintro ⟨(d : List Item), (ws : List Item), (a : Item), (ok : Bool)⟩ hd
  conv => whnf
  refine And.intro (by kernel_rfl) ?_
  conv => whnf
  exact ⟨(d, ws, a, ok), [], hd, ⟨rfl, rfl, rfl, trivial⟩, ⟨⟨rfl, rfl, trivial⟩, rfl, trivial⟩, trivial⟩
end Go.Sx
