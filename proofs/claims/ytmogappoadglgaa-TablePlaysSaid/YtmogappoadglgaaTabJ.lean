/-
  Layer 14, part J: the document's table.
-/
import Derived.Test.YtmogappoadglgaaTabI
namespace Go.Sx
open Go Go.Proofs Go.Proofs.Ytmogappoadglgaa
/-- The document's table: by rising elements. -/
def Rises (r : TM) : Prop := r.Pairwise fun p q => p.1 < q.1
def keysR (r : TM) : List Int := r.map (·.1)
def whosR (r : TM) : List Int := r.map (·.2)
theorem keysR_len (r : TM) : (keysR r).length = r.length := by simp [keysR]
theorem whosR_len (r : TM) : (whosR r).length = r.length := by simp [whosR]
abbrev refT (a b n : Nat) : Ct AF := .cells [.sl a 1 0 n, .sl b 1 0 n]
/-- Where an element is, or belongs. -/
def findK (r : TM) (x : Int) : Nat := (r.takeWhile fun p => decide (p.1 < x)).length
theorem findK_le (r : TM) (x : Int) : findK r x ≤ r.length := by
  unfold findK
  exact (List.takeWhile_sublist _).length_le
theorem findK_cons (p : Int × Int) (r : TM) (x : Int) : findK (p :: r) x = if p.1 < x then findK r x + 1 else 0 := by
  unfold findK
  rw [List.takeWhile_cons]
  by_cases h : p.1 < x
  · rw [decide_eq_true h, if_pos rfl, if_pos h]; rfl
  · rw [decide_eq_false h, if_neg (by simp), if_neg h]; rfl
theorem findK_below : ∀ (r : TM) (x : Int) (i : Nat) (p : Int × Int), r[i]? = some p → i < findK r x → p.1 < x
  | [], _, _, _, h, _ => by simp at h
  | q :: r, x, i, p, h, hi => by
    rw [findK_cons] at hi
    split at hi
    · rename_i hq
      cases i with
      | zero => simp at h; subst h; exact hq
      | succ i => exact findK_below r x i p (by simpa using h) (by omega)
    · omega
theorem findK_at : ∀ (r : TM) (x : Int) (p : Int × Int), r[findK r x]? = some p → ¬ p.1 < x
  | [], _, _, h => by simp at h
  | q :: r, x, p, h => by
    rw [findK_cons] at h
    split at h
    · exact findK_at r x p (by simpa using h)
    · rename_i hq; simp at h; subst h; exact hq
/-- What is told of an element. -/
theorem lookT_at {r : TM} (hr : Rises r) (x : Int) : lookT r x = match r[findK r x]? with | some p => if p.1 = x then some p.2 else none | none => none := by
  induction r with
  | nil => rfl
  | cons q r ih =>
    obtain ⟨h1, h2⟩ := List.pairwise_cons.1 hr
    rw [lookT_cons, findK_cons]
    by_cases hq : q.1 < x
    · rw [if_neg (by omega), if_pos hq, ih h2]
      rfl
    · rw [if_neg hq]
      by_cases he : q.1 = x
      · rw [if_pos he]; simp [he]
      · rw [if_neg he]
        have hn : lookT r x = none := by
          cases e : lookT r x with
          | none => rfl
          | some w =>
            obtain ⟨p, hp, hpx⟩ := List.mem_map.1 (lookT_iff.1 ⟨w, e⟩)
            have := h1 p hp
            omega
        rw [hn]; simp [he]
def insR (r : TM) (x w : Int) : TM := r.take (findK r x) ++ (x, w) :: r.drop (findK r x)
def delR (r : TM) (x : Int) : TM := r.take (findK r x) ++ r.drop (findK r x + 1)
theorem lookT_mem {r : TM} {x w : Int} (h : lookT r x = some w) : (x, w) ∈ r := by
  induction r with
  | nil => cases h
  | cons p r ih =>
    rw [lookT_cons] at h
    split at h
    · rename_i hp
      cases h
      rw [← hp]; simp
    · exact List.mem_cons_of_mem _ (ih h)
theorem lookT_of_mem {r : TM} (hn : (r.map (·.1)).Nodup) {x w : Int} (h : (x, w) ∈ r) : lookT r x = some w := by
  induction r with
  | nil => cases h
  | cons p r ih =>
    rw [List.map_cons, List.nodup_cons] at hn
    rw [lookT_cons]
    rcases List.mem_cons.1 h with rfl | h
    · rw [if_pos rfl]
    · rw [if_neg fun e => hn.1 (List.mem_map.2 ⟨(x, w), h, e.symm⟩)]
      exact ih hn.2 h
theorem Rises.nd {r : TM} (h : Rises r) : (r.map (·.1)).Nodup := List.pairwise_map.2 (h.imp fun h => by omega)
theorem lookT_eq {r s : TM} (hr : (r.map (·.1)).Nodup) (hs : (s.map (·.1)).Nodup) (h : ∀ p, p ∈ r ↔ p ∈ s) (x : Int) : lookT r x = lookT s x := by
  apply Option.ext
  intro w
  constructor
  · intro e; exact lookT_of_mem hs ((h _).1 (lookT_mem e))
  · intro e; exact lookT_of_mem hr ((h _).2 (lookT_mem e))
theorem split_lt {r : TM} (hr : Rises r) (x : Int) : (∀ p ∈ r.take (findK r x), p.1 < x) ∧ ∀ p ∈ r.drop (findK r x), x ≤ p.1 := by
  constructor
  · intro p hp
    obtain ⟨i, hi⟩ := List.getElem?_of_mem hp
    rw [List.getElem?_take] at hi
    split at hi
    · exact findK_below r x i p hi (by assumption)
    · cases hi
  · intro p hp
    obtain ⟨i, hi⟩ := List.getElem?_of_mem hp
    rw [List.getElem?_drop] at hi
    rcases Nat.eq_zero_or_pos i with rfl | h0
    · have := findK_at r x p (by simpa using hi); omega
    · have hl := (List.getElem?_eq_some_iff.1 hi).1
      have hq : r[findK r x]? = some r[findK r x] := List.getElem?_eq_getElem (by omega)
      have h1 := findK_at r x _ hq
      have h2 := List.pairwise_iff_getElem.1 hr (findK r x) (findK r x + i) (by omega) hl (by omega)
      have h3 := (List.getElem?_eq_some_iff.1 hi).2
      rw [h3] at h2
      omega
theorem insR_rises {r : TM} (hr : Rises r) {x w : Int} (h : lookT r x = none) : Rises (insR r x w) := by
  obtain ⟨h1, h2⟩ := split_lt hr x
  have hne : ∀ p ∈ r, p.1 ≠ x := fun p hp e => by
    obtain ⟨w', hw'⟩ := lookT_iff.2 (List.mem_map.2 ⟨p, hp, e⟩)
    rw [h] at hw'; cases hw'
  unfold insR
  refine List.pairwise_append.2 ⟨hr.sublist (List.take_sublist _ _), List.pairwise_cons.2 ⟨fun p hp => ?_, hr.sublist (List.drop_sublist _ _)⟩, fun p hp q hq => ?_⟩
  · have a := h2 p hp
    have b := hne p (List.mem_of_mem_drop hp)
    show x < p.1; omega
  · have a := h1 p hp
    rcases List.mem_cons.1 hq with rfl | hq
    · exact a
    · have := h2 q hq; omega
theorem insR_look {r : TM} (hr : Rises r) {x w : Int} (h : lookT r x = none) (y : Int) : lookT (insR r x w) y = if y = x then some w else lookT r y := by
  have hi := insR_rises (w := w) hr h
  have hx : x ∉ r.map (·.1) := fun e => by obtain ⟨w', hw'⟩ := lookT_iff.2 e; rw [h] at hw'; cases hw'
  have h1 : lookT (insR r x w) y = lookT (insT r x w) y := by
    refine lookT_eq hi.nd (by rw [ins_keys, if_neg hx, List.nodup_append]; exact ⟨hr.nd, by simp, fun a ha b hb => by simp at hb; subst hb; rintro rfl; exact hx ha⟩) (fun p => ?_) y
    rw [insT_is, if_neg hx]
    unfold insR
    have : p ∈ r ↔ p ∈ r.take (findK r x) ∨ p ∈ r.drop (findK r x) := by rw [← List.mem_append, List.take_append_drop]
    simp only [List.mem_append, List.mem_cons, List.not_mem_nil, or_false]
    rw [this]
    constructor
    · rintro (a | a | a)
      · exact .inl (.inl a)
      · exact .inr a
      · exact .inl (.inr a)
    · rintro ((a | a) | a)
      · exact .inl a
      · exact .inr (.inr a)
      · exact .inr (.inl a)
  rw [h1, lookT_ins]
theorem delR_is {r : TM} (hr : Rises r) {x w : Int} (h : lookT r x = some w) : delR r x = delT r x := by
  induction r with
  | nil => cases h
  | cons q r ih =>
    obtain ⟨h1, h2⟩ := List.pairwise_cons.1 hr
    rw [lookT_cons] at h
    unfold delR delT del at *
    rw [List.filter_cons, beq3]
    by_cases he : q.1 = x
    · rw [findK_cons, if_neg (by omega), decide_eq_true he]
      simp only [Bool.not_true, Bool.false_eq_true, if_false, List.take_zero, List.nil_append, Nat.zero_add, List.drop_succ_cons, List.drop_zero]
      refine (List.filter_eq_self.2 fun p hp => ?_).symm
      have := h1 p hp
      rw [beq3, decide_eq_false (by omega)]; rfl
    · rw [if_neg he] at h
      obtain ⟨p, hp, hpx⟩ := List.mem_map.1 (lookT_iff.1 ⟨w, h⟩)
      have hlt : q.1 < x := by have := h1 p hp; omega
      rw [findK_cons, if_pos hlt, decide_eq_false he]
      simp only [Bool.not_false, if_true, List.take_succ_cons, List.cons_append, List.drop_succ_cons]
      rw [ih h2 h]
theorem delR_rises {r : TM} (hr : Rises r) (x : Int) : Rises (delR r x) := by
  unfold delR
  have : (r.take (findK r x) ++ r.drop (findK r x + 1)).Sublist r := by
    conv => rhs; rw [← List.take_append_drop (findK r x) r]
    exact List.Sublist.append (List.Sublist.refl _) (List.drop_sublist_drop_left r (by omega))
  exact hr.sublist this
end Go.Sx

