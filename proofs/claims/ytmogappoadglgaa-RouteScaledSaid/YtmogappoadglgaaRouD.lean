/-
  Layer 12, part D: Route.
-/
import Derived.Test.YtmogappoadglgaaRouC
namespace Go.Sx
open Go Go.Proofs Go.Proofs.Ytmogappoadglgaa
/-- Does an edge lead on as cheaply as may be? -/
def OkE (es : List Edge) (bl : List Int) (t v : Int) (e : Edge) : Prop := 0 ≤ farV es bl t e.2.1 ∧ farV es bl t e.2.1 + e.2.2 = farV es bl t v ∧ e.2.1 ∉ bl
/-- The way: ahead of each edge the least one that leads on as cheaply. -/
inductive RouteP (es : List Edge) (bl : List Int) (t : Int) : Int → List Int → Prop where
  | nil : RouteP es bl t t []
  | cons {v : Int} {i : Nat} {e : Edge} {l : List Int} (hv : v ≠ t) (he : es[i]? = some e) (h1 : e.1 = v) (hok : OkE es bl t v e) (hmin : ∀ (j : Nat) x, j < i → es[j]? = some x → x.1 = v → ¬ OkE es bl t v x) (h : RouteP es bl t e.2.1 l) : RouteP es bl t v ((i : Int) :: l)
section
variable {n : Int} {es : List Edge} {bl : List Int} {t v : Int}
theorem first_ex {p : Nat → Prop} {n : Nat} (h : ∃ i, i < n ∧ p i) : ∃ i, i < n ∧ p i ∧ ∀ j, j < i → ¬ p j := by
  obtain ⟨i, hi, hp⟩ := h
  obtain ⟨m, hm, hmin⟩ := ex_min (p := p) i hp
  exact ⟨m, Nat.lt_of_le_of_lt (hmin i hp) hi, hm, fun j hj hpj => by have := hmin j hpj; omega⟩
theorem okE_ex (hR : RightL n es) (hv : v ≠ t) (h : 0 ≤ farV es bl t v) : ∃ (i : Nat) (e : Edge), es[i]? = some e ∧ e.1 = v ∧ OkE es bl t v e ∧ ∀ (j : Nat) x, j < i → es[j]? = some x → x.1 = v → ¬ OkE es bl t v x := by
  obtain ⟨e, he, h1, h2, h3, h4⟩ := farV_next hR hv h
  obtain ⟨i, hi⟩ := List.getElem?_of_mem he
  obtain ⟨m, _, ⟨x, q1, q2, q3⟩, q4⟩ := first_ex (p := fun i => ∃ x, es[i]? = some x ∧ x.1 = v ∧ OkE es bl t v x) (n := es.length) ⟨i, (List.getElem?_eq_some_iff.1 hi).1, e, hi, h1, h3, by omega, h2⟩
  exact ⟨m, x, q1, q2, q3, fun j y hj hy h5 h6 => q4 j hj ⟨y, hy, h5, h6⟩⟩
theorem okE_less (hR : RightL n es) {e : Edge} (he : e ∈ es) (h : OkE es bl t v e) : 0 ≤ farV es bl t e.2.1 ∧ farV es bl t e.2.1 + 1 ≤ farV es bl t v := by
  have := (hR.each e he).2.2.2.2.2.1
  obtain ⟨h1, h2, _⟩ := h
  exact ⟨h1, by omega⟩
theorem route_ex (hR : RightL n es) : ∀ (k : Nat) (v : Int), 0 ≤ farV es bl t v → farV es bl t v ≤ k → ∃ l, RouteP es bl t v l
  | 0, v, h0, hk => by
    by_cases hv : v = t
    · subst hv; exact ⟨[], .nil⟩
    · obtain ⟨i, e, he, h1, h2, h3⟩ := okE_ex hR hv h0
      have := okE_less hR (List.mem_of_getElem? he) h2
      omega
  | k + 1, v, h0, hk => by
    by_cases hv : v = t
    · subst hv; exact ⟨[], .nil⟩
    · obtain ⟨i, e, he, h1, h2, h3⟩ := okE_ex hR hv h0
      have := okE_less hR (List.mem_of_getElem? he) h2
      obtain ⟨l, hl⟩ := route_ex hR k e.2.1 this.1 (by omega)
      exact ⟨_, .cons hv he h1 h2 h3 hl⟩
theorem route_one {l l' : List Int} (h : RouteP es bl t v l) (h' : RouteP es bl t v l') : l = l' := by
  induction h generalizing l' with
  | nil =>
    cases h' with
    | nil => rfl
    | cons hv => exact absurd rfl hv
  | @cons v i e l hv he h1 hok hmin _ ih =>
    cases h' with
    | nil => exact absurd rfl hv
    | @cons _ i' e' l' _ he' h1' hok' hmin' h2 =>
      have hii : i = i' := by
        rcases Nat.lt_trichotomy i i' with h | h | h
        · exact absurd hok (hmin' i e h he h1)
        · exact h
        · exact absurd hok' (hmin i' e' h he' h1')
      subst hii
      rw [he] at he'; cases he'
      rw [ih h2]
theorem route_len (hR : RightL n es) {l : List Int} (h : RouteP es bl t v l) : 0 ≤ farV es bl t v ∧ (l.length : Int) ≤ farV es bl t v := by
  induction h with
  | nil => rw [farV_self hR]; simp
  | @cons v i e l hv he h1 hok hmin _ ih =>
    have := okE_less hR (List.mem_of_getElem? he) hok
    simp only [List.length_cons]
    omega
end
/-- Of a list's places the first one that is right. -/
def FirstAt (os : List Int) (P : Int → Prop) (r : Int) : Prop :=
  (∃ (j : Nat) (i : Int), r = j ∧ os[j]? = some i ∧ P i ∧ ∀ (j' : Nat) i', j' < j → os[j']? = some i' → ¬ P i') ∨ (r = -1 ∧ ∀ i ∈ os, ¬ P i)
def PredR (es : List Edge) (bl : List Int) (t v : Int) (i : Int) : Prop := ∃ e, es[i.toNat]? = some e ∧ OkE es bl t v e
theorem firstAt_ex (os : List Int) (P : Int → Prop) : ∃ r, FirstAt os P r := by
  by_cases h : ∃ j, j < os.length ∧ ∃ i, os[j]? = some i ∧ P i
  · obtain ⟨j, _, ⟨i, h1, h2⟩, h3⟩ := first_ex h
    exact ⟨j, .inl ⟨j, i, rfl, h1, h2, fun j' i' hj hi hp => h3 j' hj ⟨i', hi, hp⟩⟩⟩
  · refine ⟨-1, .inr ⟨rfl, fun i hi hp => ?_⟩⟩
    obtain ⟨j, hj⟩ := List.getElem?_of_mem hi
    exact h ⟨j, (List.getElem?_eq_some_iff.1 hj).1, i, hj, hp⟩
noncomputable abbrev rOwn (g : (Int × List Edge) × List Int × Int × Int) : List (Ct AF) := [layC g.1.1 g.1.2, .cells [.lst 3 (farF g.1.1 g.1.2 g.2.1 g.2.2.1)], .cells [vI g.2.2.2], .cells [.lst 3 g.2.1]]
noncomputable def spPred : Spec AF where
  γ := ((Int × List Edge) × List Int × Int × Int) × Int
  δ := Bool
  args := fun g => [vI g.2, .ptr 0 0 2 0, .ptr 1 0 1 0, .ptr 2 0 1 0, .ptr 3 0 1 0]
  own := fun g => rOwn g.1
  pre := fun g => RightL g.1.1.1 g.1.1.2 ∧ (0 ≤ g.1.2.2.1 ∧ g.1.2.2.1 < g.1.1.1) ∧ (0 ≤ g.1.2.2.2 ∧ g.1.2.2.2 < g.1.1.1) ∧ 0 ≤ farV g.1.1.2 g.1.2.1 g.1.2.2.1 g.1.2.2.2 ∧ g.1.2.1.length ≤ 9223372036854775807 ∧ 0 ≤ g.2 ∧ g.2 < g.1.1.2.length
  nnew := 0
  res := fun _ c => vB c
  own' := fun g _ => (rOwn g.1).map some
  post := fun g c => (c = true ↔ PredR g.1.1.2 g.1.2.1 g.1.2.2.1 g.1.2.2.2 g.2)
set_option maxHeartbeats 1600000 in
theorem m_pred : Meets Try.prog regF 87 spPred := by
  refine meets Try.func87 41 noWr rfl (by kernel_rfl) (by kernel_rfl) ?_
  rintro ⟨⟨⟨(n : Int), (es : List Edge)⟩, (bl : List Int), (t : Int), (v : Int)⟩, (i : Int)⟩ ⟨(hR : RightL n es), ⟨(ht0 : 0 ≤ t), (htn : t < n)⟩, ⟨(hv0 : 0 ≤ v), (hvn : v < n)⟩, (hfv : 0 ≤ farV es bl t v), (hbl : bl.length ≤ 9223372036854775807), (hi0 : 0 ≤ i), (hil : i < es.length)⟩
  obtain ⟨e, he⟩ : ∃ e, es[i.toNat]? = some e := ⟨_, List.getElem?_eq_getElem (by omega)⟩
  have hmem := List.mem_of_getElem? he
  obtain ⟨o1, o2, o3, o4, _, o6, o7⟩ := hR.each e hmem
  have hat := farF_at (es := es) (bl := bl) (t := t) o3 o4
  have hav := farF_at (es := es) (bl := bl) (t := t) hv0 hvn
  have hbd := farV_bd hR ht0 htn (bl := bl) e.2.1
  have hbv := farV_bd hR ht0 htn (bl := bl) v
  have hge := farV_ge (bl := bl) (t := t) hR e.2.1
  have hpr : PredR es bl t v i ↔ OkE es bl t v e := ⟨fun ⟨x, h1, h2⟩ => by rw [he] at h1; cases h1; exact h2, fun h => ⟨e, he, h⟩⟩
  have fin : ∀ c : Bool, (c = true ↔ OkE es bl t v e) → (c = true ↔ PredR es bl t v i) := fun c h => h.trans hpr.symm
  by_cases h1 : farV es bl t e.2.1 = -1
  · conv => whnf
    repeat' (first | (refine tell (fun htest => ?_) (fun htest => ?_) <;> (try dsimp only at htest) <;> first | (exfalso; omega) | (exact absurd rfl htest) | (exact absurd (by decide) htest) | (conv => whnf)) | (refine allLst (x := e) hi0 he ?_; conv => whnf) | (refine allLst (x := _) o3 hat ?_; conv => whnf) | (refine allG rfl ?_; conv => whnf) | (refine And.intro (by first | omega | assumption | kernel_rfl | exact And.intro rfl rfl | ((try dsimp only [inR, idx, lowOf]); first | omega | (with_reducible decide) | (simp; omega) | fail) | fail) ?_; conv => whnf) | fail)
    exact ⟨false, [], fin _ ⟨fun h => (by cases h), fun h => absurd h.1 (by omega)⟩, rfl, ⟨⟨rfl, rfl, trivial⟩, ⟨rfl, trivial⟩, ⟨rfl, trivial⟩, ⟨rfl, trivial⟩, trivial⟩, trivial⟩
  have h1' : 0 ≤ farV es bl t e.2.1 := hge.resolve_left h1
  by_cases h2 : farV es bl t e.2.1 + e.2.2 = farV es bl t v
  · conv => whnf
    repeat' (first | (refine tell (fun htest => ?_) (fun htest => ?_) <;> (try dsimp only at htest) <;> first | (exfalso; omega) | (exact absurd rfl htest) | (exact absurd (by decide) htest) | (conv => whnf)) | (refine allLst (x := e) hi0 he ?_; conv => whnf) | (refine allLst (x := _) o3 hat ?_; conv => whnf) | (refine allLst (x := _) hv0 hav ?_; conv => whnf) | (refine allG rfl ?_; conv => whnf) | (refine And.intro (by first | omega | assumption | kernel_rfl | exact And.intro rfl rfl | ((try dsimp only [inR, idx, lowOf]); first | omega | (with_reducible decide) | (simp; omega) | fail) | fail) ?_; conv => whnf) | fail)
    refine ⟨_, m_contains, (bl, e.2.1), [], false, ?_⟩
    conv => whnf
    refine And.intro (vc0 hbl (by (repeat' (first | exact trivial | exact rfl | refine And.intro ?_ ?_ | (refine congrArg vI ?_; first | omega | (dsimp only; omega) | fail) | (refine congrArg some ?_) | omega | exact Nat.le_refl _ | exact congrArg (SV.lst _) (List.take_of_length_le (Nat.le_refl _)).symm))) (by repeat' (first | exact trivial | exact rfl | refine And.intro ?_ ?_ | (refine congrArg vI ?_; first | omega | (dsimp only; omega) | fail) | (refine congrArg some ?_) | omega | exact Nat.le_refl _ | exact congrArg (SV.lst _) (List.take_of_length_le (Nat.le_refl _)).symm)) trivial trivial) ?_
    refine And.intro (has_ex _ _) ?_
    intro (c : Bool) (hc : c = true ↔ e.2.1 ∈ bl)
    cases c
    · conv => whnf
      repeat' (first | (refine tell (fun htest => ?_) (fun htest => ?_) <;> (try dsimp only at htest) <;> first | (exfalso; omega) | (exact absurd rfl htest) | (exact absurd (by decide) htest) | (conv => whnf)) | (refine allG rfl ?_; conv => whnf) | (refine And.intro (by first | omega | assumption | kernel_rfl | exact And.intro rfl rfl | ((try dsimp only [inR, idx, lowOf]); first | omega | (with_reducible decide) | (simp; omega) | fail) | fail) ?_; conv => whnf) | fail)
      exact ⟨true, [], fin _ ⟨fun _ => ⟨h1', h2, fun h => (by have := hc.2 h; cases this)⟩, fun _ => rfl⟩, rfl, ⟨⟨rfl, rfl, trivial⟩, ⟨rfl, trivial⟩, ⟨rfl, trivial⟩, ⟨rfl, trivial⟩, trivial⟩, trivial⟩
    · conv => whnf
      repeat' (first | (refine tell (fun htest => ?_) (fun htest => ?_) <;> (try dsimp only at htest) <;> first | (exfalso; omega) | (exact absurd rfl htest) | (exact absurd (by decide) htest) | (conv => whnf)) | (refine allG rfl ?_; conv => whnf) | (refine And.intro (by first | omega | assumption | kernel_rfl | exact And.intro rfl rfl | ((try dsimp only [inR, idx, lowOf]); first | omega | (with_reducible decide) | (simp; omega) | fail) | fail) ?_; conv => whnf) | fail)
      exact ⟨false, [], fin _ ⟨fun h => (by cases h), fun h => absurd (hc.1 rfl) h.2.2⟩, rfl, ⟨⟨rfl, rfl, trivial⟩, ⟨rfl, trivial⟩, ⟨rfl, trivial⟩, ⟨rfl, trivial⟩, trivial⟩, trivial⟩
  · conv => whnf
    repeat' (first | (refine tell (fun htest => ?_) (fun htest => ?_) <;> (try dsimp only at htest) <;> first | (exfalso; omega) | (exact absurd rfl htest) | (exact absurd (by decide) htest) | (conv => whnf)) | (refine allLst (x := e) hi0 he ?_; conv => whnf) | (refine allLst (x := _) o3 hat ?_; conv => whnf) | (refine allLst (x := _) hv0 hav ?_; conv => whnf) | (refine allG rfl ?_; conv => whnf) | (refine And.intro (by first | omega | assumption | kernel_rfl | exact And.intro rfl rfl | ((try dsimp only [inR, idx, lowOf]); first | omega | (with_reducible decide) | (simp; omega) | fail) | fail) ?_; conv => whnf) | fail)
    exact ⟨false, [], fin _ ⟨fun h => (by cases h), fun h => absurd h.2.1 h2⟩, rfl, ⟨⟨rfl, rfl, trivial⟩, ⟨rfl, trivial⟩, ⟨rfl, trivial⟩, ⟨rfl, trivial⟩, trivial⟩, trivial⟩
noncomputable def spIdxR : Spec AF where
  γ := List Int × (Int × List Edge) × List Int × Int × Int
  δ := Int
  args := fun g => [.lst 3 g.1, .fn (.func 87) [] [.ptr 0 0 2 0, .ptr 1 0 1 0, .ptr 2 0 1 0, .ptr 3 0 1 0]]
  own := fun g => rOwn g.2
  pre := fun g => RightL g.2.1.1 g.2.1.2 ∧ (0 ≤ g.2.2.2.1 ∧ g.2.2.2.1 < g.2.1.1) ∧ (0 ≤ g.2.2.2.2 ∧ g.2.2.2.2 < g.2.1.1) ∧ 0 ≤ farV g.2.1.2 g.2.2.1 g.2.2.2.1 g.2.2.2.2 ∧ g.2.2.1.length ≤ 9223372036854775807 ∧ (∀ i ∈ g.1, 0 ≤ i ∧ i < g.2.1.2.length) ∧ g.1.length ≤ 1000
  nnew := 0
  res := fun _ r => vI r
  own' := fun g _ => (rOwn g.2).map some
  post := fun g r => FirstAt g.1 (PredR g.2.1.2 g.2.2.1 g.2.2.2.1 g.2.2.2.2) r
theorem pred_ex (p : Prop) : ∃ c : Bool, (c = true ↔ p) := by
  by_cases h : p
  · exact ⟨true, by simp [h]⟩
  · exact ⟨false, by simp [h]⟩
theorem m_idxR : Meets Try.prog regF 86 spIdxR := by
  refine meets Try.func86 19 noWr rfl (by kernel_rfl) (by kernel_rfl) ?_
  rintro ⟨(os : List Int), ⟨(n : Int), (es : List Edge)⟩, (bl : List Int), (t : Int), (v : Int)⟩ ⟨(hR : RightL n es), (ht : 0 ≤ t ∧ t < n), (hv : 0 ≤ v ∧ v < n), (hfv : 0 ≤ farV es bl t v), (hbl : bl.length ≤ 9223372036854775807), (hos : ∀ i ∈ os, 0 ≤ i ∧ i < es.length), (hol : os.length ≤ 1000)⟩
  conv => whnf
  repeat' (first | (refine tell (fun htest => ?_) (fun htest => ?_) <;> (try dsimp only at htest) <;> first | (exfalso; omega) | (exact absurd rfl htest) | (exact absurd (by decide) htest) | (conv => whnf)) | (refine allG rfl ?_; conv => whnf) | (refine And.intro (by first | omega | assumption | kernel_rfl | exact And.intro rfl rfl | ((try dsimp only [inR, idx, lowOf]); first | omega | (with_reducible decide) | (simp; omega) | fail) | fail) ?_; conv => whnf) | fail)
  refine ⟨Nat, fun j => ⟨[(0, .lst 3 os), (1, .fn (.func 87) [] [.ptr 0 0 2 0, .ptr 1 0 1 0, .ptr 2 0 1 0, .ptr 3 0 1 0]), (6, .lst 3 os), (7, vI os.length), (8, vI j)], [(0, layC n es), (1, .cells [.lst 3 (farF n es bl t)]), (2, .cells [vI v]), (3, .cells [.lst 3 bl])]⟩, fun j => j ≤ os.length ∧ ∀ (j' : Nat) i', j' < j → os[j']? = some i' → ¬ PredR es bl t v i', fun j => os.length - j, fun _ _ => rfl, ⟨0, [], ⟨Nat.zero_le _, fun j' i' h => absurd h (Nat.not_lt_zero _)⟩, ?_⟩, ?_⟩
  · refine ⟨rfl, ?_, ?_, rfl⟩
    all_goals (repeat' (first | exact trivial | exact rfl | refine And.intro ?_ ?_ | (refine congrArg vI ?_; first | omega | (dsimp only; omega) | fail) | (refine congrArg some ?_) | omega | exact Nat.le_refl _ | exact congrArg (SV.lst _) (List.take_of_length_le (Nat.le_refl _)).symm))
  rintro (j : Nat) ⟨(hj : j ≤ os.length), (hno : ∀ (j' : Nat) i', j' < j → os[j']? = some i' → ¬ PredR es bl t v i')⟩
  by_cases hlt : j < os.length
  · obtain ⟨i, hi⟩ : ∃ i, os[j]? = some i := ⟨_, List.getElem?_eq_getElem hlt⟩
    obtain ⟨hi0, hil⟩ := hos i (List.mem_of_getElem? hi)
    conv => whnf
    repeat' (first | (refine tell (fun htest => ?_) (fun htest => ?_) <;> (try dsimp only at htest) <;> first | (exfalso; omega) | (exact absurd rfl htest) | (exact absurd (by decide) htest) | (conv => whnf)) | (refine allG (x := i) (by first | exact hi | simpa [List.getElem?_append_right, lowOf] using hi | fail) ?_; conv => whnf) | (refine allLst (x := i) (by first | omega | assumption | fail) (by first | exact hi | simpa using hi | fail) ?_; conv => whnf) | (refine allG rfl ?_; conv => whnf) | (refine And.intro (by first | omega | assumption | kernel_rfl | exact And.intro rfl rfl | ((try dsimp only [inR, idx, lowOf]); first | omega | (with_reducible decide) | (simp; omega) | fail) | fail) ?_; conv => whnf) | fail)
    refine ⟨_, m_pred, (((n, es), bl, t, v), i), [0, 1, 2, 3], false, ?_⟩
    conv => whnf
    refine And.intro (vc0 ⟨hR, ht, hv, hfv, hbl, hi0, hil⟩ (by (repeat' (first | exact trivial | exact rfl | refine And.intro ?_ ?_ | (refine congrArg vI ?_; first | omega | (dsimp only; omega) | fail) | (refine congrArg some ?_) | omega | exact Nat.le_refl _ | exact congrArg (SV.lst _) (List.take_of_length_le (Nat.le_refl _)).symm))) (by repeat' (first | exact trivial | exact rfl | refine And.intro ?_ ?_ | (refine congrArg vI ?_; first | omega | (dsimp only; omega) | fail) | (refine congrArg some ?_) | omega | exact Nat.le_refl _ | exact congrArg (SV.lst _) (List.take_of_length_le (Nat.le_refl _)).symm)) trivial trivial) ?_
    refine And.intro (pred_ex _) ?_
    intro (c : Bool) (hc : c = true ↔ PredR es bl t v i)
    cases c
    · have hnx : ∀ (j' : Nat) i', j' < j + 1 → os[j']? = some i' → ¬ PredR es bl t v i' := fun j' i' h1 h2 h3 => by
        by_cases e : j' = j
        · subst e; rw [hi] at h2; cases h2; have := hc.2 h3; cases this
        · exact hno j' i' (by omega) h2 h3
      conv => whnf
      repeat' (first | (refine tell (fun htest => ?_) (fun htest => ?_) <;> (try dsimp only at htest) <;> first | (exfalso; omega) | (exact absurd rfl htest) | (exact absurd (by decide) htest) | (conv => whnf)) | (refine allG rfl ?_; conv => whnf) | (refine And.intro (by first | omega | assumption | kernel_rfl | exact And.intro rfl rfl | ((try dsimp only [inR, idx, lowOf]); first | omega | (with_reducible decide) | (simp; omega) | fail) | fail) ?_; conv => whnf) | fail)
      refine ⟨j + 1, [], ⟨hlt, hnx⟩, ?_, rfl, ?_, ?_, rfl⟩
      · dsimp only; first | omega | (simp; done) | (simp; omega)
      all_goals (repeat' (first | exact trivial | exact rfl | refine And.intro ?_ ?_ | (refine congrArg vI ?_; first | omega | (dsimp only; omega) | fail) | (refine congrArg some ?_) | omega | exact Nat.le_refl _ | exact congrArg (SV.lst _) (List.take_of_length_le (Nat.le_refl _)).symm))
    · conv => whnf
      repeat' (first | (refine tell (fun htest => ?_) (fun htest => ?_) <;> (try dsimp only at htest) <;> first | (exfalso; omega) | (exact absurd rfl htest) | (exact absurd (by decide) htest) | (conv => whnf)) | (refine allG rfl ?_; conv => whnf) | (refine And.intro (by first | omega | assumption | kernel_rfl | exact And.intro rfl rfl | ((try dsimp only [inR, idx, lowOf]); first | omega | (with_reducible decide) | (simp; omega) | fail) | fail) ?_; conv => whnf) | fail)
      exact ⟨(j : Int), [], .inl ⟨j, i, rfl, hi, hc.1 rfl, hno⟩, rfl, ⟨⟨rfl, rfl, trivial⟩, ⟨rfl, trivial⟩, ⟨rfl, trivial⟩, ⟨rfl, trivial⟩, trivial⟩, trivial⟩
  · conv => whnf
    repeat' (first | (refine tell (fun htest => ?_) (fun htest => ?_) <;> (try dsimp only at htest) <;> first | (exfalso; omega) | (exact absurd rfl htest) | (exact absurd (by decide) htest) | (conv => whnf)) | (refine allG rfl ?_; conv => whnf) | (refine And.intro (by first | omega | assumption | kernel_rfl | exact And.intro rfl rfl | ((try dsimp only [inR, idx, lowOf]); first | omega | (with_reducible decide) | (simp; omega) | fail) | fail) ?_; conv => whnf) | fail)
    exact ⟨(-1 : Int), [], .inr ⟨rfl, fun i hi => (by
      obtain ⟨j', hj'⟩ := List.getElem?_of_mem hi
      exact hno j' i (by have : j' < os.length := (List.getElem?_eq_some_iff.1 hj').1; omega) hj')⟩, rfl, ⟨⟨rfl, rfl, trivial⟩, ⟨rfl, trivial⟩, ⟨rfl, trivial⟩, ⟨rfl, trivial⟩, trivial⟩, trivial⟩
theorem firstAt_out {es : List Edge} {bl : List Int} {t v r : Int} (h : FirstAt (outL es v 0) (PredR es bl t v) r) (hex : ∃ (i : Nat) (e : Edge), es[i]? = some e ∧ e.1 = v ∧ OkE es bl t v e) :
    ∃ (j m : Nat) (e : Edge), r = j ∧ (outL es v 0)[j]? = some (m : Int) ∧ es[m]? = some e ∧ e.1 = v ∧ OkE es bl t v e ∧ ∀ (k : Nat) x, k < m → es[k]? = some x → x.1 = v → ¬ OkE es bl t v x := by
  rcases h with ⟨j, i, rfl, hj, ⟨e, he, hok⟩, hmin⟩ | ⟨_, hno⟩
  · obtain ⟨m, x, hm, hx, hxv⟩ := (outL_mem v es 0 i).1 (List.mem_of_getElem? hj)
    rw [Nat.zero_add] at hm
    subst hm
    rw [Int.toNat_natCast, hx] at he
    obtain rfl := Option.some.inj he
    refine ⟨j, m, x, rfl, hj, hx, hxv, hok, fun k y hk hy hyv hyo => ?_⟩
    obtain ⟨p, hp⟩ := List.getElem?_of_mem ((outL_mem v es 0 (k : Int)).2 ⟨k, y, by rw [Nat.zero_add], hy, hyv⟩)
    have hpj : p < j := by
      rcases Nat.lt_or_ge p j with h1 | h1
      · exact h1
      · exfalso
        obtain ⟨l1, g1⟩ := List.getElem?_eq_some_iff.1 hj
        obtain ⟨l2, g2⟩ := List.getElem?_eq_some_iff.1 hp
        rcases Nat.lt_or_ge j p with h2 | h2
        · have := List.pairwise_iff_getElem.1 (outL_sorted v es 0) j p l1 l2 h2
          rw [g1, g2] at this; omega
        · have : p = j := by omega
          subst this
          rw [g1] at g2; omega
    exact hmin p _ hpj hp ⟨y, by rw [Int.toNat_natCast]; exact hy, hyo⟩
  · obtain ⟨i, e, he, hev, hok⟩ := hex
    exact absurd ⟨e, by rw [Int.toNat_natCast]; exact he, hok⟩ (hno (i : Int) ((outL_mem v es 0 (i : Int)).2 ⟨i, e, by rw [Nat.zero_add], he, hev⟩))
noncomputable def spRoute : Spec AF where
  γ := (Int × List Edge) × List Int × Int × Int
  δ := List Int
  args := fun g => [layS g.1.1 g.1.2, .lst 3 g.2.1, vI g.2.2.1, vI g.2.2.2]
  own := fun _ => []
  pre := fun g => RightL g.1.1 g.1.2 ∧ (0 ≤ g.2.2.1 ∧ g.2.2.1 < g.1.1) ∧ (0 ≤ g.2.2.2 ∧ g.2.2.2 < g.1.1) ∧ GoodL g.1.2 ∧ g.2.1.length ≤ 9223372036854775807 ∧ 0 ≤ farV g.1.2 g.2.1 g.2.2.2 g.2.2.1
  nnew := 0
  res := fun _ l => .tup [.lst 3 l, vI 0]
  own' := fun _ _ => []
  post := fun g l => RouteP g.1.2 g.2.1 g.2.2.2 g.2.2.1 l
set_option maxHeartbeats 3200000 in
theorem m_route : Meets Try.prog regF 54 spRoute := by
  refine meets Try.func54 64 noWr rfl (by kernel_rfl) (by kernel_rfl) ?_
  rintro ⟨⟨(n : Int), (es : List Edge)⟩, (bl : List Int), (a : Int), (t : Int)⟩ ⟨(hR : RightL n es), ⟨(ha0 : 0 ≤ a), (han : a < n)⟩, ⟨(ht0 : 0 ≤ t), (htn : t < n)⟩, (hg : GoodL es), (hbl : bl.length ≤ 9223372036854775807), (hfa : 0 ≤ farV es bl t a)⟩
  have hfl := farF_len (n := n) (es := es) (bl := bl) (t := t)
  have haa := farF_at (es := es) (bl := bl) (t := t) ha0 han
  have hba := farV_bd hR ht0 htn (bl := bl) a
  have hes := hR.len
  conv => whnf
  repeat' (first | (refine tell (fun htest => ?_) (fun htest => ?_) <;> (try dsimp only at htest) <;> first | (exfalso; omega) | (exact absurd rfl htest) | (exact absurd (by decide) htest) | (conv => whnf)) | (refine allG rfl ?_; conv => whnf) | (refine And.intro (by first | omega | assumption | kernel_rfl | exact And.intro rfl rfl | ((try dsimp only [inR, idx, lowOf]); first | omega | (with_reducible decide) | (simp; omega) | fail) | fail) ?_; conv => whnf) | fail)
  refine ⟨_, m_far, ((n, es), bl, t), [], false, ?_⟩
  conv => whnf
  refine And.intro (vc0 ⟨hR, ht0, htn, hg, hbl⟩ (by (repeat' (first | exact trivial | exact rfl | refine And.intro ?_ ?_ | (refine congrArg vI ?_; first | omega | (dsimp only; omega) | fail) | (refine congrArg some ?_) | omega | exact Nat.le_refl _ | exact congrArg (SV.lst _) (List.take_of_length_le (Nat.le_refl _)).symm))) (by repeat' (first | exact trivial | exact rfl | refine And.intro ?_ ?_ | (refine congrArg vI ?_; first | omega | (dsimp only; omega) | fail) | (refine congrArg some ?_) | omega | exact Nat.le_refl _ | exact congrArg (SV.lst _) (List.take_of_length_le (Nat.le_refl _)).symm)) trivial trivial) ?_
  refine And.intro ⟨(), trivial⟩ (fun (_ : Unit) _ => ?_)
  conv => whnf
  conv => whnf
  repeat' (first | (refine tell (fun htest => ?_) (fun htest => ?_) <;> (try dsimp only at htest) <;> first | (exfalso; omega) | (exact absurd rfl htest) | (exact absurd (by decide) htest) | (conv => whnf)) | (refine allLst (x := _) ha0 haa ?_; conv => whnf) | (refine allG rfl ?_; conv => whnf) | (refine And.intro (by first | omega | assumption | kernel_rfl | exact And.intro rfl rfl | ((try dsimp only [inR, idx, lowOf]); first | omega | (with_reducible decide) | (simp; omega) | fail) | fail) ?_; conv => whnf) | fail)
  refine ⟨Int × List Int, fun p => ⟨[(3, vI t), (4, .ptr 1004 0 2 0), (5, .ptr 1005 0 1 0), (8, .sl 3003 1 0 p.2.length), (10, .ptr 1010 0 1 0), (11, .ptr 3001 0 1 0)], [(1004, layC n es), (1005, .cells [.lst 3 bl]), (1010, .cells [.lst 3 (farF n es bl t)]), (3001, .cells [vI p.1]), (3003, .arr 3 p.2)]⟩, fun p => (0 ≤ p.1 ∧ p.1 < n) ∧ 0 ≤ farV es bl t p.1 ∧ (p.2.length : Int) + farV es bl t p.1 ≤ 40000 ∧ ∀ l, RouteP es bl t p.1 l → RouteP es bl t a (p.2 ++ l), fun p => (farV es bl t p.1).toNat, fun _ _ => rfl, ⟨(a, []), [(3001, 1011)], ⟨⟨ha0, han⟩, hfa, by simpa using hba, fun l h => h⟩, ?_⟩, ?_⟩
  · refine ⟨rfl, ?_, ?_, rfl⟩
    all_goals (repeat' (first | exact trivial | exact rfl | refine And.intro ?_ ?_ | (refine congrArg vI ?_; first | omega | (dsimp only; omega) | fail) | (refine congrArg some ?_) | omega | exact Nat.le_refl _ | exact congrArg (SV.lst _) (List.take_of_length_le (Nat.le_refl _)).symm))
  rintro ⟨(v : Int), (out : List Int)⟩ ⟨⟨(hv0 : 0 ≤ v), (hvn : v < n)⟩, (hfv : 0 ≤ farV es bl t v), (hol : (out.length : Int) + farV es bl t v ≤ 40000), (hcont : ∀ l, RouteP es bl t v l → RouteP es bl t a (out ++ l))⟩
  by_cases hvt : v = t
  · subst hvt
    conv => whnf
    repeat' (first | (refine tell (fun htest => ?_) (fun htest => ?_) <;> (try dsimp only at htest) <;> first | (exfalso; omega) | (exact absurd rfl htest) | (exact absurd (by decide) htest) | (conv => whnf)) | (refine allG rfl ?_; conv => whnf) | (refine And.intro (by first | omega | assumption | kernel_rfl | exact And.intro rfl rfl | ((try dsimp only [inR, idx, lowOf]); first | omega | (with_reducible decide) | (simp; omega) | fail) | fail) ?_; conv => whnf) | fail)
    refine ⟨out, [], (by have := hcont [] .nil; rwa [List.append_nil] at this), ⟨⟨?_, rfl, ?_⟩, rfl, trivial⟩, trivial, trivial⟩
    · show 0 + out.length ≤ out.length; omega
    · exact congrArg (SV.lst (A := AF) 3) (show out = (out.drop 0).take out.length by simp)
  · obtain ⟨i0, e0, he0, h10, h20, _⟩ := okE_ex hR hvt hfv
    have hof : outF n es v = outL es v 0 := if_pos hR
    have hos : ∀ i ∈ outF n es v, 0 ≤ i ∧ i < es.length := fun i hi => by
      rw [hof] at hi
      obtain ⟨j, x, q1, q2, _⟩ := (outL_mem v es 0 i).1 hi
      have := (List.getElem?_eq_some_iff.1 q2).1
      omega
    have hosl : (outF n es v).length ≤ 1000 := by rw [hof]; have := outL_len v es 0; omega
    conv => whnf
    repeat' (first | (refine tell (fun htest => ?_) (fun htest => ?_) <;> (try dsimp only at htest) <;> first | (exfalso; omega) | (exact absurd rfl htest) | (exact absurd (by decide) htest) | (conv => whnf)) | (refine allG rfl ?_; conv => whnf) | (refine And.intro (by first | omega | assumption | kernel_rfl | exact And.intro rfl rfl | ((try dsimp only [inR, idx, lowOf]); first | omega | (with_reducible decide) | (simp; omega) | fail) | fail) ?_; conv => whnf) | fail)
    refine ⟨_, m_out, (n, es, v), [], false, ?_⟩
    conv => whnf
    refine And.intro (vc0 hg (by (repeat' (first | exact trivial | exact rfl | refine And.intro ?_ ?_ | (refine congrArg vI ?_; first | omega | (dsimp only; omega) | fail) | (refine congrArg some ?_) | omega | exact Nat.le_refl _ | exact congrArg (SV.lst _) (List.take_of_length_le (Nat.le_refl _)).symm))) (by repeat' (first | exact trivial | exact rfl | refine And.intro ?_ ?_ | (refine congrArg vI ?_; first | omega | (dsimp only; omega) | fail) | (refine congrArg some ?_) | omega | exact Nat.le_refl _ | exact congrArg (SV.lst _) (List.take_of_length_le (Nat.le_refl _)).symm)) trivial trivial) ?_
    refine And.intro ⟨(), trivial⟩ (fun (_ : Unit) _ => ?_)
    conv => whnf
    conv => whnf
    repeat' (first | (refine tell (fun htest => ?_) (fun htest => ?_) <;> (try dsimp only at htest) <;> first | (exfalso; omega) | (exact absurd rfl htest) | (exact absurd (by decide) htest) | (conv => whnf)) | (refine allG rfl ?_; conv => whnf) | (refine And.intro (by first | omega | assumption | kernel_rfl | exact And.intro rfl rfl | ((try dsimp only [inR, idx, lowOf]); first | omega | (with_reducible decide) | (simp; omega) | fail) | fail) ?_; conv => whnf) | fail)
    refine ⟨_, m_idxR, (outF n es v, (n, es), bl, t, v), [1004, 1010, 3001, 1005], false, ?_⟩
    conv => whnf
    refine And.intro (vc0 ⟨hR, ⟨ht0, htn⟩, ⟨hv0, hvn⟩, hfv, hbl, hos, hosl⟩ (by (repeat' (first | exact trivial | exact rfl | refine And.intro ?_ ?_ | (refine congrArg vI ?_; first | omega | (dsimp only; omega) | fail) | (refine congrArg some ?_) | omega | exact Nat.le_refl _ | exact congrArg (SV.lst _) (List.take_of_length_le (Nat.le_refl _)).symm))) (by repeat' (first | exact trivial | exact rfl | refine And.intro ?_ ?_ | (refine congrArg vI ?_; first | omega | (dsimp only; omega) | fail) | (refine congrArg some ?_) | omega | exact Nat.le_refl _ | exact congrArg (SV.lst _) (List.take_of_length_le (Nat.le_refl _)).symm)) trivial trivial) ?_
    refine And.intro (firstAt_ex _ _) ?_
    intro (r : Int) (hr : FirstAt (outF n es v) (PredR es bl t v) r)
    rw [hof] at hr
    obtain ⟨j, m, e, rfl, hj, he, h1, h2, h3⟩ := firstAt_out hr ⟨i0, e0, he0, h10, h20⟩
    rw [← hof] at hj
    have hmem := List.mem_of_getElem? he
    have hml := (List.getElem?_eq_some_iff.1 he).1
    have hless := okE_less hR hmem h2
    obtain ⟨o1, o2, o3, o4, _, o6, o7⟩ := hR.each e hmem
    have hjl : j < (outF n es v).length := (List.getElem?_eq_some_iff.1 hj).1
    conv => whnf
    repeat' (first | (refine tell (fun htest => ?_) (fun htest => ?_) <;> (try dsimp only at htest) <;> first | (exfalso; omega) | (exact absurd rfl htest) | (exact absurd (by decide) htest) | (conv => whnf)) | (refine allG rfl ?_; conv => whnf) | (refine And.intro (by first | omega | assumption | kernel_rfl | exact And.intro rfl rfl | ((try dsimp only [inR, idx, lowOf]); first | omega | (with_reducible decide) | (simp; omega) | fail) | fail) ?_; conv => whnf) | fail)
    refine ⟨_, m_out, (n, es, v), [], false, ?_⟩
    conv => whnf
    refine And.intro (vc0 hg (by (repeat' (first | exact trivial | exact rfl | refine And.intro ?_ ?_ | (refine congrArg vI ?_; first | omega | (dsimp only; omega) | fail) | (refine congrArg some ?_) | omega | exact Nat.le_refl _ | exact congrArg (SV.lst _) (List.take_of_length_le (Nat.le_refl _)).symm))) (by repeat' (first | exact trivial | exact rfl | refine And.intro ?_ ?_ | (refine congrArg vI ?_; first | omega | (dsimp only; omega) | fail) | (refine congrArg some ?_) | omega | exact Nat.le_refl _ | exact congrArg (SV.lst _) (List.take_of_length_le (Nat.le_refl _)).symm)) trivial trivial) ?_
    refine And.intro ⟨(), trivial⟩ (fun (_ : Unit) _ => ?_)
    conv => whnf
    conv => whnf
    repeat' (first | (refine tell (fun htest => ?_) (fun htest => ?_) <;> (try dsimp only at htest) <;> first | (exfalso; omega) | (exact absurd rfl htest) | (exact absurd (by decide) htest) | (conv => whnf)) | (refine allG (x := _) (by first | exact hj | simpa [List.getElem?_append_right, lowOf] using hj | fail) ?_; conv => whnf) | (refine allLst (x := _) (by first | omega | assumption | fail) (by first | exact hj | simpa using hj | fail) ?_; conv => whnf) | (refine allG (x := e) (by first | exact he | simpa [List.getElem?_append_right, lowOf] using he | fail) ?_; conv => whnf) | (refine allLst (x := e) (by first | omega | assumption | fail) (by first | exact he | simpa using he | fail) ?_; conv => whnf) | (refine allG rfl ?_; conv => whnf) | (refine And.intro (by first | omega | assumption | kernel_rfl | exact And.intro rfl rfl | ((try dsimp only [inR, idx, lowOf]); first | omega | (with_reducible decide) | (simp; omega) | fail) | fail) ?_; conv => whnf) | fail)
    refine ⟨(e.2.1, out ++ [(m : Int)]), [(3001, 1011), (3003, 1055)], ⟨⟨o3, o4⟩, hless.1, (by show ((out ++ [(m : Int)]).length : Int) + farV es bl t e.2.1 ≤ 40000; rw [List.length_append]; simp; omega), fun l hl => (by show RouteP es bl t a ((out ++ [(m : Int)]) ++ l); rw [List.append_assoc]; exact hcont _ (.cons hvt he h1 h2 h3 hl))⟩, ?_, rfl, ?_, ?_, rfl⟩
    · dsimp only; first | omega | (simp; done) | (simp; omega)
    all_goals (repeat' (first | exact trivial | exact rfl | refine And.intro ?_ ?_ | (refine congrArg vI ?_; first | omega | (dsimp only; omega) | fail) | (refine congrArg some ?_) | omega | exact Nat.le_refl _ | exact congrArg (SV.lst _) (List.take_of_length_le (Nat.le_refl _)).symm))
    · exact congrArg (SV.sl (A := AF) 1055 1 0) (show out.length + 1 = (out ++ [(m : Int)]).length by simp)
    · exact congrArg (Ct.arr (A := AF) 3) (show (out.drop 0).take out.length ++ [(m : Int)] = out ++ [(m : Int)] by simp)
end Go.Sx

