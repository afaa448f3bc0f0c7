/-
  Layer 11, part N: plain laws: what Fit gives may be; what one comes to.
-/
import Derived.Test.YtmogappoadglgaaLayM
namespace Go.Sx
open Go Go.Proofs Go.Proofs.Ytmogappoadglgaa
theorem RightL.good {n : Int} {es : List Edge} (h : RightL n es) : GoodL es := by
  have := h.len
  have := h.most
  refine ⟨by omega, fun e he => ?_⟩
  obtain ⟨a, b, c, d, _⟩ := h.each e he
  exact ⟨⟨by omega, by omega⟩, ⟨by omega, by omega⟩⟩
theorem fitE_ok {n : Int} (hn : 0 < n) (r : Int × Int × Int) (hne : (fitE n r).1 ≠ (fitE n r).2.1) : EdgeOk n (fitE n r) := by
  have h1 := pickF_bd (c := r.1) hn
  have h2 := pickF_bd (c := r.2.1) hn
  have h3 := pickF_bd (c := r.2.2) (n := 9) (by omega)
  refine ⟨h1.1, h1.2, h2.1, h2.2, hne, ?_, ?_⟩
  · show 1 ≤ 1 + pickF r.2.2 9; omega
  · show 1 + pickF r.2.2 9 ≤ 1000; omega
theorem fitIn_iff {es : List Edge} {e : Edge} : fitIn es e = true ↔ e.1 ≠ e.2.1 ∧ wayE e ∉ es.map wayE := by
  unfold fitIn
  simp only [Bool.and_eq_true, decide_eq_true_iff, List.all_eq_true, Bool.or_eq_true, List.mem_map, not_exists, not_and]
  refine and_congr Iff.rfl ⟨fun h x hx he => ?_, fun h x hx => ?_⟩
  · have h1 : x.1 = e.1 := (Prod.ext_iff.1 he).1
    have h2 : x.2.1 = e.2.1 := (Prod.ext_iff.1 he).2
    rcases h x hx with h3 | h3
    · exact h3 h1
    · exact h3 h2
  · by_cases h1 : x.1 = e.1
    · right; intro h2; exact h x hx (Prod.ext h1 h2)
    · exact .inl h1
theorem fitGo_right {n : Int} (hn : 0 < n) (hn8 : n ≤ 40) : ∀ (l : List (Int × Int × Int)) (es : List Edge), RightL n es → es.length ≤ 24 → RightL n (fitGo n l es) ∧ (fitGo n l es).length ≤ 24
  | [], es, h, hl => ⟨h, hl⟩
  | r :: t, es, h, hl => by
    unfold fitGo
    by_cases h24 : es.length < 24
    · rw [if_pos h24]
      by_cases hin : fitIn es (fitE n r) = true
      · rw [if_pos hin]
        obtain ⟨h1, h2⟩ := fitIn_iff.1 hin
        refine fitGo_right hn hn8 t _ ⟨hn, hn8, by simp; omega, fun e he => ?_, ?_⟩ (by simp; omega)
        · rcases List.mem_append.1 he with he | he
          · exact h.each e he
          · simp at he; subst he; exact fitE_ok hn r h1
        · rw [List.map_append, List.nodup_append]
          refine ⟨h.apart, by simp, fun a ha b hb => ?_⟩
          simp at hb; subst hb
          rintro rfl
          exact h2 ha
      · rw [if_neg hin]
        exact fitGo_right hn hn8 t es h hl
    · rw [if_neg h24]; exact ⟨h, hl⟩
theorem fitN_bd (c : Int) : 0 < fitN c ∧ fitN c ≤ 8 := by
  have h8 := pickF_bd (c := c) (n := 8) (by omega)
  unfold fitN; omega
theorem fit_right (c : Int) (l : List (Int × Int × Int)) : RightL (fitN c) (fitL c l) ∧ (fitL c l).length ≤ 24 := by
  have h := fitN_bd c
  exact fitGo_right h.1 (by omega) l [] ⟨h.1, by omega, by simp, fun e he => by simp at he, by simp⟩ (by simp)
/-- What one comes to, is a node. -/
theorem reachI_bd {es : List Edge} {bl : List Int} {back : Bool} {s n v : Int} (h : RightL n es) (h0 : 0 ≤ s) (hs : s < n) (hv : ReachI es bl back s v) : 0 ≤ v ∧ v < n := by
  cases hv with
  | refl => exact ⟨h0, hs⟩
  | step h1 h2 h3 =>
    rename_i e
    obtain ⟨a, b, c, d, _⟩ := h.each e h2
    cases back
    · exact ⟨c, d⟩
    · exact ⟨a, b⟩
theorem mem_reachN {es : List Edge} {bl : List Int} {s n v : Int} (h : RightL n es) (h0 : 0 ≤ s) (hs : s < n) : v ∈ reachN es bl s 40 ↔ ReachI es bl false s v := by
  have h40 := h.most
  unfold reachN
  simp only [List.mem_map, List.mem_filter, List.mem_range, inB_iff]
  constructor
  · rintro ⟨w, ⟨_, h1⟩, rfl⟩; exact h1
  · intro hv
    have := reachI_bd h h0 hs hv
    refine ⟨v.toNat, ⟨by omega, ?_⟩, by omega⟩
    rwa [Int.toNat_of_nonneg this.1]
theorem reachN_sorted (es : List Edge) (bl : List Int) (s : Int) (k : Nat) : (reachN es bl s k).Pairwise (· < ·) := by
  unfold reachN
  rw [List.pairwise_map]
  refine (List.Pairwise.filter _ List.pairwise_lt_range).imp fun h => ?_
  omega
theorem sorted_at {l : List Int} (h : l.Pairwise (· < ·)) {i : Nat} {x y : Int} (hx : l[i]? = some x) (hy : l[i + 1]? = some y) : x < y := by
  obtain ⟨h1, rfl⟩ := List.getElem?_eq_some_iff.1 hx
  obtain ⟨h2, rfl⟩ := List.getElem?_eq_some_iff.1 hy
  exact List.pairwise_iff_getElem.1 h i (i + 1) h1 h2 (by omega)
theorem reachI_more {es : List Edge} {bl bl2 : List Int} {back : Bool} {s v : Int} (hb : ∀ x, x ∈ bl → x ∈ bl2) (h : ReachI es bl2 back s v) : ReachI es bl back s v := by
  induction h with
  | refl => exact .refl
  | step _ h2 h3 ih => exact .step ih h2 fun h => h3 (hb _ h)
theorem reachI_same {es : List Edge} {bl : List Int} {back : Bool} {s v k : Int} (hk : ¬ ReachI es bl back s k) (h : ReachI es bl back s v) : ReachI es (bl ++ [k]) back s v := by
  induction h with
  | refl => exact .refl
  | step h1 h2 h3 ih =>
    refine .step ih h2 fun h => ?_
    rcases List.mem_append.1 h with h | h
    · exact h3 h
    · simp at h
      exact hk (h ▸ ReachI.step h1 h2 h3)
theorem reachN_same {es : List Edge} {bl : List Int} {s k : Int} (hk : ¬ ReachI es bl false s k) (j : Nat) : reachN es (bl ++ [k]) s j = reachN es bl s j := by
  have : inB es (bl ++ [k]) false s = inB es bl false s := funext fun v => by
    rw [Bool.eq_iff_iff, inB_iff, inB_iff]
    exact ⟨reachI_more fun x hx => List.mem_append_left _ hx, reachI_same hk⟩
  unfold reachN
  rw [this]
/-- The same way, from its end to its beginning. -/
theorem reachI_front {es : List Edge} {back : Bool} {e : Edge} {v : Int} (he : e ∈ es) (h : ReachI es [] back (dstE back e) v) : ReachI es [] back (srcE back e) v := by
  induction h with
  | refl => exact .step .refl he (by simp)
  | step _ h2 h3 ih => exact .step ih h2 h3
theorem reachI_back {es : List Edge} {back : Bool} {s v : Int} (h : ReachI es [] back s v) : ReachI es [] (!back) v s := by
  induction h with
  | refl => exact .refl
  | step h1 h2 h3 ih =>
    rename_i e
    cases back
    · exact reachI_front (back := true) h2 ih
    · exact reachI_front (back := false) h2 ih
theorem reachI_rev {es : List Edge} {s v : Int} : ReachI es [] true s v ↔ ReachI es [] false v s := ⟨reachI_back, reachI_back⟩
/-- All edges turned about. -/
def turnE (e : Edge) : Edge := (e.2.1, e.1, e.2.2)
theorem reachI_turn1 {es : List Edge} {back : Bool} {s v : Int} (h : ReachI es [] back s v) : ReachI (es.map turnE) [] (!back) s v := by
  induction h with
  | refl => exact .refl
  | step h1 h2 h3 ih =>
    rename_i e
    have hm : turnE e ∈ es.map turnE := List.mem_map.2 ⟨e, h2, rfl⟩
    cases back
    · exact ReachI.step (back := true) (e := turnE e) ih hm (by simp)
    · exact ReachI.step (back := false) (e := turnE e) ih hm (by simp)
theorem turn_turn (es : List Edge) : (es.map turnE).map turnE = es := by
  rw [List.map_map]
  exact (List.map_congr_left fun e _ => rfl).trans (List.map_id es)
theorem reachI_turn {es : List Edge} {back : Bool} {s v : Int} : ReachI (es.map turnE) [] back s v ↔ ReachI es [] (!back) s v := by
  constructor
  · intro h
    have := reachI_turn1 h
    rwa [turn_turn] at this
  · intro h
    have := reachI_turn1 h
    rwa [Bool.not_not] at this
theorem right_turn {n : Int} {es : List Edge} (h : RightL n es) : RightL n (es.map turnE) := by
  refine ⟨h.pos, h.most, by simpa using h.len, fun e he => ?_, ?_⟩
  · obtain ⟨x, hx, rfl⟩ := List.mem_map.1 he
    obtain ⟨a, b, c, d, e, f, g⟩ := h.each x hx
    exact ⟨c, d, a, b, fun h => e h.symm, f, g⟩
  · have : (es.map turnE).map wayE = (es.map wayE).map Prod.swap := by simp only [List.map_map]; rfl
    rw [this]
    refine List.pairwise_map.2 (h.apart.imp fun {a b} hab he => hab ?_)
    have := congrArg Prod.swap he
    simpa using this
theorem strong_turn {n : Int} {es : List Edge} : StrongL n es ↔ StrongL n (es.map turnE) := by
  have key : ∀ {es : List Edge}, StrongL n es → StrongL n (es.map turnE) := fun {es} h =>
    ⟨right_turn h.1, fun v hv => ⟨reachI_turn.2 (h.2 v hv).2, reachI_turn.2 (h.2 v hv).1⟩⟩
  refine ⟨key, fun h => ?_⟩
  have := key h
  rwa [turn_turn] at this
/-- Strong, by what Reach tells. -/
theorem filter_full {p : Nat → Bool} {n k : Nat} (hn : n ≤ k) (hp : ∀ v, p v = true → v < n) : ((List.range k).filter p).length = n ↔ ∀ v, v < n → p v = true := by
  obtain ⟨m, rfl⟩ : ∃ m, k = n + m := ⟨k - n, by omega⟩
  have h1 : (List.range (n + m)).filter p = (List.range n).filter p := by
    rw [List.range_add, List.filter_append]
    have : ((List.range m).map (n + ·)).filter p = [] := List.filter_eq_nil_iff.2 fun v hv h => by
      obtain ⟨w, _, rfl⟩ := List.mem_map.1 hv
      have := hp _ h
      omega
    rw [this, List.append_nil]
  rw [h1]
  have h2 : (List.range n).length = n := List.length_range
  constructor
  · intro h v hv
    have h3 := List.length_filter_eq_length_iff.1 (h.trans h2.symm)
    exact h3 v (List.mem_range.2 hv)
  · intro h
    exact (List.length_filter_eq_length_iff.2 fun v hv => h v (List.mem_range.1 hv)).trans h2
theorem reachN_full {n : Int} {es : List Edge} {bl : List Int} {s : Int} (h : RightL n es) (h0 : 0 ≤ s) (hs : s < n) : ((reachN es bl s 40).length : Int) = n ↔ ∀ v : Nat, (v : Int) < n → ReachI es bl false s v := by
  have hn := h.most
  unfold reachN
  rw [List.length_map]
  have := filter_full (p := inB es bl false s) (n := n.toNat) (k := 40) (by omega) (fun v hv => by
    have := reachI_bd h h0 hs (inB_iff.1 hv); omega)
  constructor
  · intro h1 v hv
    exact inB_iff.1 (this.1 (by omega) v (by omega))
  · intro h1
    have := this.2 fun v hv => inB_iff.2 (h1 v (by omega))
    omega
theorem strong_iff {n : Int} {es : List Edge} (h : RightL n es) : StrongL n es ↔ ((reachN es [] 0 40).length : Int) = n ∧ ∀ v : Nat, (v : Int) < n → (0 : Int) ∈ reachN es [] v 40 := by
  rw [reachN_full h (Int.le_refl 0) h.pos]
  constructor
  · intro hs
    exact ⟨fun v hv => (hs.2 v hv).1, fun v hv => (mem_reachN h (by omega) hv).2 (reachI_rev.1 (hs.2 v hv).2)⟩
  · rintro ⟨h1, h2⟩
    exact ⟨h, fun v hv => ⟨h1 v hv, reachI_rev.2 ((mem_reachN h (by omega) hv).1 (h2 v hv))⟩⟩
/-- The edges out of a node. -/
theorem outL_mem (k : Int) : ∀ (es : List Edge) (i : Nat) (v : Int), v ∈ outL es k i ↔ ∃ (j : Nat) (e : Edge), v = ((i + j : Nat) : Int) ∧ es[j]? = some e ∧ e.1 = k
  | [], i, v => by simp [outL]
  | x :: t, i, v => by
    have ih := outL_mem k t (i + 1) v
    have key : (∃ (j : Nat) (e : Edge), v = ((i + 1 + j : Nat) : Int) ∧ t[j]? = some e ∧ e.1 = k) ↔ ∃ (j : Nat) (e : Edge), v = ((i + (j + 1) : Nat) : Int) ∧ t[j]? = some e ∧ e.1 = k := by
      constructor
      · rintro ⟨j, e, h1, h2⟩; exact ⟨j, e, by rw [h1]; congr 1; omega, h2⟩
      · rintro ⟨j, e, h1, h2⟩; exact ⟨j, e, by rw [h1]; congr 1; omega, h2⟩
    rw [key] at ih
    have split0 : (∃ (j : Nat) (e : Edge), v = ((i + j : Nat) : Int) ∧ (x :: t)[j]? = some e ∧ e.1 = k) ↔ (v = (i : Int) ∧ x.1 = k) ∨ ∃ (j : Nat) (e : Edge), v = ((i + (j + 1) : Nat) : Int) ∧ t[j]? = some e ∧ e.1 = k := by
      constructor
      · rintro ⟨j, e, h1, h2, h3⟩
        cases j with
        | zero => simp at h2; subst h2; exact .inl ⟨h1, h3⟩
        | succ j => exact .inr ⟨j, e, h1, by simpa using h2, h3⟩
      · rintro (⟨h1, h2⟩ | ⟨j, e, h1, h2, h3⟩)
        · exact ⟨0, x, h1, rfl, h2⟩
        · exact ⟨j + 1, e, h1, by simpa using h2, h3⟩
    rw [split0, ← ih, show outL (x :: t) k i = if x.1 = k then (i : Int) :: outL t k (i + 1) else outL t k (i + 1) from rfl]
    by_cases hx : x.1 = k
    · rw [if_pos hx, List.mem_cons]
      constructor
      · rintro (h | h)
        · exact .inl ⟨h, hx⟩
        · exact .inr h
      · rintro (⟨h, _⟩ | h)
        · exact .inl h
        · exact .inr h
    · rw [if_neg hx]
      exact ⟨.inr, fun h => h.elim (fun h => absurd h.2 hx) id⟩
theorem outL_sorted (k : Int) : ∀ (es : List Edge) (i : Nat), (outL es k i).Pairwise (· < ·)
  | [], _ => by simp [outL]
  | x :: t, i => by
    have ih := outL_sorted k t (i + 1)
    unfold outL
    by_cases hx : x.1 = k
    · rw [if_pos hx, List.pairwise_cons]
      refine ⟨fun v hv => ?_, ih⟩
      obtain ⟨j, _, rfl, _⟩ := (outL_mem k t (i + 1) v).1 hv
      omega
    · rw [if_neg hx]; exact ih
/-- How many edges lead out of the nodes below one. -/
def lowN (es : List Edge) (k : Nat) : Nat := (es.filter fun e => decide (e.1 < (k : Int))).length
theorem lowN_succ {n : Int} {es : List Edge} (h : ∀ e ∈ es, EdgeOk n e) (k i : Nat) : lowN es (k + 1) = lowN es k + (outL es k i).length := by
  induction es generalizing i with
  | nil => rfl
  | cons e t ih =>
    have ih := ih (fun x hx => h x (by simp [hx])) (i + 1)
    have he := h e (by simp)
    unfold lowN at ih ⊢
    unfold outL
    simp only [List.filter_cons]
    by_cases h1 : e.1 < (k : Int)
    · rw [if_pos (decide_eq_true (by omega)), if_pos (decide_eq_true h1), if_neg (by omega)]
      simp only [List.length_cons]; omega
    · by_cases h2 : e.1 = (k : Int)
      · rw [if_pos (decide_eq_true (by omega)), if_neg (by simp; omega), if_pos h2]
        simp only [List.length_cons]; omega
      · rw [if_neg (by simp; omega), if_neg (by simp; omega), if_neg h2]
        exact ih
theorem lowN_zero {n : Int} {es : List Edge} (h : ∀ e ∈ es, EdgeOk n e) : lowN es 0 = 0 := by
  unfold lowN
  rw [List.length_eq_zero_iff, List.filter_eq_nil_iff]
  intro e he h1
  have := h e he
  have h2 := of_decide_eq_true h1
  obtain ⟨a, _⟩ := this
  omega
theorem lowN_all {n : Int} {es : List Edge} (hn : 0 < n) (h : ∀ e ∈ es, EdgeOk n e) : lowN es n.toNat = es.length := by
  unfold lowN
  rw [List.filter_eq_self.2]
  intro e he
  obtain ⟨_, a, _⟩ := h e he
  exact decide_eq_true (by omega)
theorem idxF_at (w : Int × Int) : ∀ (es : List Edge) (j i : Nat) (e : Edge), (es.map wayE).Nodup → es[i]? = some e → wayE e = w → idxF w es j = ((j + i : Nat) : Int)
  | [], _, _, _, _, h, _ => by simp at h
  | x :: t, j, 0, e, _, h, hw => by
    simp at h; subst h
    rw [idxF, if_pos hw]; rfl
  | x :: t, j, i + 1, e, hn, h, hw => by
    rw [List.map_cons, List.nodup_cons] at hn
    have h : t[i]? = some e := by simpa using h
    have hx : wayE x ≠ w := fun hx => hn.1 (List.mem_map.2 ⟨e, List.mem_of_getElem? h, hw.trans hx.symm⟩)
    rw [idxF, if_neg hx, idxF_at w t (j + 1) i e hn.2 h hw]
    congr 1; omega
theorem idxF_no (w : Int × Int) : ∀ (es : List Edge) (j : Nat), w ∉ es.map wayE → idxF w es j = -1
  | [], _, _ => rfl
  | x :: t, j, h => by
    rw [List.map_cons, List.mem_cons, not_or] at h
    rw [idxF, if_neg (fun e => h.1 e.symm), idxF_no w t (j + 1) h.2]
theorem betF_at {n : Int} {es : List Edge} {w : Int × Int} {i : Nat} {e : Edge} (h : RightL n es) (he : es[i]? = some e) (hw : wayE e = w) : betF n es w = ((i : Int), true) := by
  have := idxF_at w es 0 i e h.apart he hw
  rw [Nat.zero_add] at this
  unfold betF
  rw [this, if_pos ⟨h, by omega⟩]
theorem betF_no {n : Int} {es : List Edge} {w : Int × Int} (hw : w ∉ es.map wayE) : betF n es w = (0, false) := by
  unfold betF
  rw [idxF_no w es 0 hw, if_neg (fun h => by have := h.2; omega)]
end Go.Sx

