/-
  Layer 14, part E: plain laws on tables.
-/
import Derived.Test.YtmogappoadglgaaTabD
namespace Go.Sx
open Go Go.Proofs Go.Proofs.Ytmogappoadglgaa
theorem beq3 (a b : Int) : regF.beq 3 a b = decide (a = b) := rfl
theorem lookT_cons (p : Int × Int) (es : TM) (x : Int) : lookT (p :: es) x = if p.1 = x then some p.2 else lookT es x := by
  unfold lookT look
  rw [List.find?_cons, beq3]
  by_cases h : p.1 = x
  · rw [if_pos h, decide_eq_true h]
  · rw [if_neg h, decide_eq_false h]
theorem lookT_nil (x : Int) : lookT [] x = none := rfl
theorem lookT_iff {es : TM} {x : Int} : (∃ w, lookT es x = some w) ↔ x ∈ es.map (·.1) := by
  induction es with
  | nil => simp [lookT_nil]
  | cons p es ih =>
    rw [lookT_cons, List.map_cons, List.mem_cons]
    by_cases h : p.1 = x
    · simp [h]
    · rw [if_neg h, ih]
      exact ⟨.inr, fun h2 => h2.resolve_left fun e => h e.symm⟩
theorem lookT_app (es fs : TM) (x : Int) : lookT (es ++ fs) x = match lookT es x with | some w => some w | none => lookT fs x := by
  induction es with
  | nil => rfl
  | cons p es ih =>
    rw [List.cons_append, lookT_cons, lookT_cons]
    by_cases h : p.1 = x
    · simp [h]
    · rw [if_neg h, if_neg h, ih]
theorem any_iff {es : TM} {x : Int} : (es.any fun p => regF.beq 3 p.1 x) = true ↔ x ∈ es.map (·.1) := by
  rw [List.any_eq_true, List.mem_map]
  constructor
  · rintro ⟨p, hp, h⟩; exact ⟨p, hp, (regF.same 3 _ _).1 h⟩
  · rintro ⟨p, hp, h⟩; exact ⟨p, hp, (regF.same 3 _ _).2 h⟩
theorem insT_is (es : TM) (x w : Int) : insT es x w = if x ∈ es.map (·.1) then es.map (fun p => if p.1 = x then (x, w) else p) else es ++ [(x, w)] := by
  by_cases h : x ∈ es.map (·.1)
  · rw [if_pos h]
    unfold insT ins
    rw [any_iff.2 h]
    refine List.map_congr_left fun p _ => ?_
    rw [beq3]
    by_cases hp : p.1 = x
    · rw [if_pos hp, decide_eq_true hp]
    · rw [if_neg hp, decide_eq_false hp]
  · rw [if_neg h]
    unfold insT ins
    have : (es.any fun p => regF.beq 3 p.1 x) = false := by
      cases e : es.any fun p => regF.beq 3 p.1 x with
      | false => rfl
      | true => exact absurd (any_iff.1 e) h
    rw [this]
theorem lookT_map (es : TM) (x w y : Int) : lookT (es.map fun p => if p.1 = x then (x, w) else p) y = if y = x ∧ x ∈ es.map (·.1) then some w else lookT es y := by
  induction es with
  | nil => simp [lookT_nil]
  | cons p es ih =>
    rw [List.map_cons, lookT_cons, ih, lookT_cons, List.map_cons]
    simp only [List.mem_cons]
    by_cases hp : p.1 = x
    · rw [if_pos hp]
      by_cases hy : y = x
      · subst hy; simp [hp]
      · have h1 : ¬ x = y := fun e => hy e.symm
        have h2 : ¬ p.1 = y := fun e => hy (e.symm.trans hp)
        simp [h1, h2, hy]
    · rw [if_neg hp]
      by_cases hy : y = x
      · subst hy
        have hp' : ¬ y = p.1 := fun e => hp e.symm
        rw [if_neg hp, if_neg hp]
        by_cases hm : y ∈ es.map (·.1)
        · rw [if_pos ⟨rfl, hm⟩, if_pos ⟨rfl, .inr hm⟩]
        · rw [if_neg fun h => hm h.2, if_neg fun h => h.2.elim hp' hm]
      · simp [hy]
theorem lookT_ins (es : TM) (x w y : Int) : lookT (insT es x w) y = if y = x then some w else lookT es y := by
  rw [insT_is]
  by_cases h : x ∈ es.map (·.1)
  · rw [if_pos h, lookT_map]
    by_cases hy : y = x <;> simp [hy, h]
  · rw [if_neg h, lookT_app]
    by_cases hy : y = x
    · subst hy
      have : lookT es y = none := by
        cases e : lookT es y with
        | none => rfl
        | some w' => exact absurd (lookT_iff.1 ⟨w', e⟩) h
      rw [this, lookT_cons]; simp
    · have h1 : ¬ x = y := fun e => hy e.symm
      rw [if_neg hy, lookT_cons]
      cases lookT es y <;> simp [h1, lookT_nil]
theorem lookT_del (es : TM) (x y : Int) : lookT (delT es x) y = if y = x then none else lookT es y := by
  unfold delT del
  induction es with
  | nil => simp [lookT_nil]
  | cons p es ih =>
    rw [List.filter_cons, beq3, lookT_cons]
    by_cases hp : p.1 = x
    · rw [decide_eq_true hp]
      simp only [Bool.not_true, Bool.false_eq_true, if_false]
      rw [ih]
      by_cases hy : y = x
      · simp [hy]
      · have h2 : ¬ p.1 = y := fun e => hy (e.symm.trans hp)
        simp [hy, h2]
    · rw [decide_eq_false hp]
      simp only [Bool.not_false, if_true]
      rw [lookT_cons, ih]
      by_cases hy : y = x
      · subst hy; simp [hp]
      · simp [hy]
theorem ins_keys (es : TM) (x w : Int) : (insT es x w).map (·.1) = if x ∈ es.map (·.1) then es.map (·.1) else es.map (·.1) ++ [x] := by
  rw [insT_is]
  by_cases h : x ∈ es.map (·.1)
  · rw [if_pos h, if_pos h, List.map_map]
    refine List.map_congr_left fun p _ => ?_
    show (if p.1 = x then (x, w) else p).1 = p.1
    by_cases hp : p.1 = x
    · rw [if_pos hp]; exact hp.symm
    · rw [if_neg hp]
  · rw [if_neg h, if_neg h, List.map_append]; rfl
theorem ins_raw {m : TM} (hn : (m.map (·.1)).Nodup) (hk0 : ∀ p ∈ m, InI p.1) {x w : Int} (hx : InI x) : ((insT m x w).map (·.1)).Nodup ∧ (insT m x w).length ≤ m.length + 1 ∧ ∀ p ∈ insT m x w, InI p.1 := by
  have hk := ins_keys m x w
  refine ⟨?_, ?_, fun p hp => ?_⟩
  · rw [hk]
    split
    · exact hn
    · rename_i h
      rw [List.nodup_append]
      exact ⟨hn, by simp, fun a ha b hb => by simp at hb; subst hb; rintro rfl; exact h ha⟩
  · have := congrArg List.length hk
    rw [List.length_map] at this
    rw [this]
    split
    · rw [List.length_map]; omega
    · simp
  · have : p.1 ∈ (insT m x w).map (·.1) := List.mem_map.2 ⟨p, hp, rfl⟩
    rw [hk] at this
    split at this
    · obtain ⟨q, hq, e⟩ := List.mem_map.1 this
      rw [← e]; exact hk0 q hq
    · rcases List.mem_append.1 this with h1 | h1
      · obtain ⟨q, hq, e⟩ := List.mem_map.1 h1
        rw [← e]; exact hk0 q hq
      · simp at h1; rw [h1]; exact hx
theorem claim_raw {who : Int} : ∀ {l : List Int} {m : TM}, (m.map (·.1)).Nodup → (∀ p ∈ m, InI p.1) → (∀ x ∈ l, InI x) → ((claimL who m l).map (·.1)).Nodup ∧ (claimL who m l).length ≤ m.length + l.length ∧ ∀ p ∈ claimL who m l, InI p.1
  | [], m, hn, hk, _ => ⟨hn, Nat.le_refl _, hk⟩
  | x :: l, m, hn, hk, hI => by
    obtain ⟨h1, h2, h3⟩ := ins_raw (w := who) hn hk (hI x (by simp))
    obtain ⟨g1, g2, g3⟩ := claim_raw (who := who) (l := l) h1 h3 fun y hy => hI y (by simp [hy])
    exact ⟨g1, Nat.le_trans g2 (by simp; omega), g3⟩
/-- What is kept: no element twice, few elements, owners of three. -/
structure TOk (m : TM) (N : Nat) : Prop where
  nd : (m.map (·.1)).Nodup
  len : m.length ≤ N
  key : ∀ p ∈ m, InI p.1
  who : ∀ x w, lookT m x = some w → 0 ≤ w ∧ w < 3
theorem TOk.nil : TOk [] 0 := ⟨by simp, by simp, fun p h => by simp at h, fun x w h => by rw [lookT_nil] at h; cases h⟩
theorem TOk.more {m : TM} {N M : Nat} (h : TOk m N) (hl : N ≤ M) : TOk m M := ⟨h.nd, Nat.le_trans h.len hl, h.key, h.who⟩
theorem TOk.ins {m : TM} {N : Nat} (h : TOk m N) {x w : Int} (hx : InI x) (hw : 0 ≤ w ∧ w < 3) : TOk (insT m x w) (N + 1) := by
  have hk := ins_keys m x w
  refine ⟨?_, ?_, fun p hp => ?_, fun y v hy => ?_⟩
  · rw [hk]
    split
    · exact h.nd
    · rename_i hn
      rw [List.nodup_append]
      exact ⟨h.nd, by simp, fun a ha b hb => by simp at hb; subst hb; rintro rfl; exact hn ha⟩
  · have := congrArg List.length hk
    rw [List.length_map] at this
    rw [this]
    have hl := h.len
    split
    · rw [List.length_map]; omega
    · simp; omega
  · have : p.1 ∈ (insT m x w).map (·.1) := List.mem_map.2 ⟨p, hp, rfl⟩
    rw [hk] at this
    split at this
    · obtain ⟨q, hq, e⟩ := List.mem_map.1 this
      rw [← e]; exact h.key q hq
    · rcases List.mem_append.1 this with h1 | h1
      · obtain ⟨q, hq, e⟩ := List.mem_map.1 h1
        rw [← e]; exact h.key q hq
      · simp at h1; rw [h1]; exact hx
  · rw [lookT_ins] at hy
    split at hy
    · cases hy; exact hw
    · exact h.who y v hy
theorem TOk.del {m : TM} {N : Nat} (h : TOk m N) (x : Int) : TOk (delT m x) N := by
  refine ⟨?_, Nat.le_trans (List.length_filter_le _ _) h.len, fun p hp => h.key p (List.mem_filter.1 hp).1, fun y v hy => ?_⟩
  · exact h.nd.sublist (List.Sublist.map _ List.filter_sublist)
  · rw [lookT_del] at hy
    split at hy
    · cases hy
    · exact h.who y v hy
theorem TOk.claim {who : Int} (hw : 0 ≤ who ∧ who < 3) : ∀ {l : List Int} {m : TM} {N : Nat}, TOk m N → (∀ x ∈ l, InI x) → TOk (claimL who m l) (N + l.length)
  | [], _, _, h, _ => h
  | x :: l, m, N, h, hI => by
    have := TOk.claim hw (l := l) (h.ins (hI x (by simp)) hw) fun y hy => hI y (by simp [hy])
    exact this.more (by simp; omega)
theorem TOk.free {who : Int} : ∀ {l : List Int} {s : TM × Nat} {N : Nat}, TOk s.1 N → TOk (l.foldl (freeS who) s).1 N
  | [], _, _, h => h
  | x :: l, s, N, h => by
    rw [List.foldl_cons]
    refine TOk.free (l := l) ?_
    unfold freeS
    split
    · exact h.del x
    · exact h
theorem lookT_claim (who : Int) : ∀ (l : List Int) (m : TM) (y : Int), lookT (claimL who m l) y = if y ∈ l then some who else lookT m y
  | [], _, _ => by simp [claimL]
  | x :: l, m, y => by
    have := lookT_claim who l (insT m x who) y
    show lookT (claimL who (insT m x who) l) y = _
    rw [this, lookT_ins]
    simp only [List.mem_cons]
    by_cases h1 : y ∈ l <;> by_cases h2 : y = x <;> simp [h1, h2]
theorem lookT_free (who : Int) : ∀ (l : List Int) (s : TM × Nat) (y : Int), lookT (l.foldl (freeS who) s).1 y = if y ∈ l ∧ lookT s.1 y = some who then none else lookT s.1 y
  | [], _, _ => by simp
  | x :: l, s, y => by
    rw [List.foldl_cons, lookT_free who l (freeS who s x) y]
    simp only [List.mem_cons]
    unfold freeS
    by_cases hx : lookT s.1 x = some who
    · rw [if_pos hx]
      dsimp only
      rw [lookT_del]
      by_cases hy : y = x
      · subst hy; simp [hx]
      · simp [hy]
    · rw [if_neg hx]
      by_cases hy : y = x
      · subst hy; simp [hx]
      · simp [hy]
theorem free_none {who : Int} : ∀ {l : List Int} {s : TM × Nat}, (∀ x ∈ l, lookT s.1 x ≠ some who) → l.foldl (freeS who) s = s
  | [], _, _ => rfl
  | x :: l, s, h => by
    rw [List.foldl_cons, show freeS who s x = s from if_neg (h x (by simp))]
    exact free_none fun y hy => h y (by simp [hy])
theorem free_all {who : Int} : ∀ {l : List Int} {s : TM × Nat}, l.Nodup → (∀ x ∈ l, lookT s.1 x = some who) → (l.foldl (freeS who) s).2 = s.2 + l.length
  | [], _, _, _ => rfl
  | x :: l, s, hn, h => by
    rw [List.nodup_cons] at hn
    rw [List.foldl_cons, show freeS who s x = (delT s.1 x, s.2 + 1) from if_pos (h x (by simp))]
    rw [free_all hn.2 fun y hy => ?_]
    · show s.2 + 1 + l.length = s.2 + (x :: l).length
      simp; omega
    · show lookT (delT s.1 x) y = some who
      rw [lookT_del, if_neg (by rintro rfl; exact hn.1 hy)]
      exact h y (by simp [hy])
/-- Somebody's elements, by what the table tells. -/
theorem ofL_mem {es : TM} {who x : Int} : x ∈ ofL es who ↔ lookT es x = some who := by
  unfold ofL
  rw [List.mem_filter, decide_eq_true_iff]
  refine ⟨fun h => h.2, fun h => ⟨?_, h⟩⟩
  rw [sortK_mem]
  obtain ⟨p, hp, e⟩ := List.mem_map.1 (lookT_iff.1 ⟨who, h⟩)
  exact ⟨p, hp, e⟩
theorem ofL_sorted {es : TM} (h : (es.map (·.1)).Nodup) (who : Int) : (ofL es who).Pairwise (· < ·) := by
  unfold ofL
  refine List.Pairwise.filter _ ?_
  have h1 : (sortK es).Pairwise fun x y => x ≤ y := by
    have := List.pairwise_mergeSort (le := fun x y : Int => decide (x ≤ y)) (by simp; omega) (by simp; omega) (es.map (·.1))
    exact this.imp fun h => by simpa using h
  have h2 : (sortK es).Pairwise fun x y => x ≠ y := (List.mergeSort_perm _ _).nodup_iff.2 h
  exact (h1.and h2).imp fun h => by omega
theorem sorted_ext {l r : List Int} (hl : l.Pairwise (· < ·)) (hr : r.Pairwise (· < ·)) (h : ∀ x, x ∈ l ↔ x ∈ r) : l = r := by
  have nl : l.Nodup := hl.imp fun h => by omega
  have nr : r.Nodup := hr.imp fun h => by omega
  exact ((List.perm_ext_iff_of_nodup nl nr).2 h).eq_of_pairwise (le := fun x y : Int => x ≤ y) (fun a b _ _ h1 h2 => Int.le_antisymm h1 h2) (hl.imp fun h => by omega) (hr.imp fun h => by omega)
theorem ofL_ext {es fs : TM} (he : (es.map (·.1)).Nodup) (hf : (fs.map (·.1)).Nodup) {a b : Int} (h : ∀ x, lookT es x = some a ↔ lookT fs x = some b) : ofL es a = ofL fs b :=
  sorted_ext (ofL_sorted he a) (ofL_sorted hf b) fun x => by rw [ofL_mem, ofL_mem]; exact h x
theorem ofL_len (es : TM) (who : Int) : (ofL es who).length ≤ es.length := by
  unfold ofL
  exact Nat.le_trans (List.length_filter_le _ _) (by rw [sortK_len]; exact Nat.le_refl _)
theorem ofL_none {es : TM} {who : Int} (h : ∀ x, lookT es x ≠ some who) : ofL es who = [] := List.eq_nil_iff_forall_not_mem.2 fun x hx => h x (ofL_mem.1 hx)
theorem ofL_in {m : TM} {N : Nat} (h : TOk m N) (hN : N ≤ 1000) (who : Int) : InL (ofL m who) := by
  have := ofL_len m who
  have := h.len
  refine ⟨by omega, fun x hx => ?_⟩
  obtain ⟨p, hp, rfl⟩ := List.mem_map.1 (lookT_iff.1 ⟨who, ofL_mem.1 hx⟩)
  exact h.key p hp
theorem TOk.of {m : TM} {N : Nat} (h : TOk m N) (hN : N ≤ 1000) : m.length ≤ 17592186044416 ∧ ∀ p ∈ m, InI p.1 := ⟨by have := h.len; omega, h.key⟩
theorem pick3 (c : Int) : 0 ≤ pickF c 3 ∧ pickF c 3 < 3 := pickF_bd (by omega)
end Go.Sx

