/-
  Layer 11, part G: what one comes to.
-/
import Derived.Test.YtmogappoadglgaaLayF
namespace Go.Sx
open Go Go.Proofs Go.Proofs.Ytmogappoadglgaa
def srcE (back : Bool) (e : Edge) : Int := match back with | true => e.2.1 | false => e.1
def dstE (back : Bool) (e : Edge) : Int := match back with | true => e.1 | false => e.2.1
inductive ReachI (es : List Edge) (bl : List Int) (back : Bool) (s : Int) : Int → Prop where
  | refl : ReachI es bl back s s
  | step {e : Edge} : ReachI es bl back s (srcE back e) → e ∈ es → dstE back e ∉ bl → ReachI es bl back s (dstE back e)
/-- What the outer loop keeps. -/
structure BfsOk (es : List Edge) (bl : List Int) (back : Bool) (s : Int) (n : Int) (bits : List Bool) (q : List Int) (open' : Int → Edge → Prop) : Prop where
  len : bits.length = 40
  sound : ∀ v : Nat, bits[v]? = some true → ReachI es bl back s v ∧ (v : Int) < n
  start : bits[s.toNat]? = some true
  queue : ∀ u ∈ q, 0 ≤ u ∧ u < n ∧ bits[u.toNat]? = some true
  closed : ∀ e ∈ es, ∀ u : Nat, bits[u]? = some true → srcE back e = u → dstE back e ∉ bl → bits[(dstE back e).toNat]? = some true ∨ (u : Int) ∈ q ∨ open' u e
theorem bfs_end {es : List Edge} {bl : List Int} {back : Bool} {s n : Int} {bits : List Bool} (hs : 0 ≤ s) (hr : ∀ e ∈ es, EdgeOk n e) (h : BfsOk es bl back s n bits [] (fun _ _ => False)) {v : Int} (hv : ReachI es bl back s v) : 0 ≤ v ∧ bits[v.toNat]? = some true := by
  induction hv with
  | refl => exact ⟨hs, h.start⟩
  | step h1 h2 h3 ih =>
    obtain ⟨i1, i2⟩ := ih
    rename_i e
    have := h.closed e h2 (srcE back e).toNat i2 (by omega) h3
    have hd : 0 ≤ dstE back e := by
      obtain ⟨a, _, b, _⟩ := hr e h2
      cases back
      · exact b
      · exact a
    simp at this
    exact ⟨hd, this⟩
theorem bit_set {bits : List Bool} {k v : Nat} (hk : k < bits.length) : (bits.set k true)[v]? = some true ↔ v = k ∨ bits[v]? = some true := by
  rw [List.getElem?_set]
  by_cases e : k = v
  · subst e; simp [hk]
  · rw [if_neg e]; constructor
    · exact .inr
    · rintro (h | h)
      · exact absurd h.symm e
      · exact h
def freeN (bits : List Bool) : Nat := bits.count false
theorem free_set {bits : List Bool} {k : Nat} (hk : bits[k]? = some false) : freeN (bits.set k true) + 1 = freeN bits := by
  induction bits generalizing k with
  | nil => simp at hk
  | cons b t ih =>
    cases k with
    | zero => simp at hk; subst hk; simp [freeN]
    | succ k =>
      have := ih (k := k) (by simpa using hk)
      simp only [freeN, List.set_cons_succ, List.count_cons] at this ⊢
      omega
/-- A node is taken from the queue. -/
theorem bfs_pop {es : List Edge} {bl : List Int} {back : Bool} {s n u : Int} {bits : List Bool} {q : List Int} (h : BfsOk es bl back s n bits (u :: q) (fun _ _ => False)) : BfsOk es bl back s n bits q (fun x e => x = u ∧ e ∈ es.drop 0) :=
  ⟨h.len, h.sound, h.start, fun x hx => h.queue x (by simp [hx]), fun e he x hx h1 h2 => by
    rcases h.closed e he x hx h1 h2 with h3 | h3 | h3
    · exact .inl h3
    · rcases List.mem_cons.1 h3 with h3 | h3
      · exact .inr (.inr ⟨h3, by simpa using he⟩)
      · exact .inr (.inl h3)
    · exact h3.elim⟩
/-- An edge that leads to nothing new. -/
theorem bfs_skip {es : List Edge} {bl : List Int} {back : Bool} {s n u : Int} {bits : List Bool} {q : List Int} {j : Nat} {e : Edge} (he : es[j]? = some e) (h : BfsOk es bl back s n bits q (fun x e => x = u ∧ e ∈ es.drop j))
    (hn : srcE back e = u → dstE back e ∉ bl → bits[(dstE back e).toNat]? = some true) : BfsOk es bl back s n bits q (fun x e => x = u ∧ e ∈ es.drop (j + 1)) :=
  ⟨h.len, h.sound, h.start, h.queue, fun e2 he2 x hx h1 h2 => by
    rcases h.closed e2 he2 x hx h1 h2 with h3 | h3 | ⟨h3, h4⟩
    · exact .inl h3
    · exact .inr (.inl h3)
    · obtain ⟨l1, rfl⟩ := List.getElem?_eq_some_iff.1 he
      rw [List.drop_eq_getElem_cons l1] at h4
      rcases List.mem_cons.1 h4 with rfl | h4
      · exact .inl (hn (h1.trans h3) h2)
      · exact .inr (.inr ⟨h3, h4⟩)⟩
/-- An edge that leads to a new node. -/
theorem bfs_new {es : List Edge} {bl : List Int} {back : Bool} {s n u : Int} {bits : List Bool} {q : List Int} {j : Nat} {e : Edge} (he : es[j]? = some e) (hn40 : n ≤ 40) (hd0 : 0 ≤ dstE back e) (hdn : dstE back e < n) (hu : bits[u.toNat]? = some true) (hu0 : 0 ≤ u)
    (h : BfsOk es bl back s n bits q (fun x e => x = u ∧ e ∈ es.drop j)) (hs : srcE back e = u) (hb : dstE back e ∉ bl) : BfsOk es bl back s n (bits.set (dstE back e).toNat true) (q ++ [dstE back e]) (fun x e => x = u ∧ e ∈ es.drop (j + 1)) := by
  have hk : (dstE back e).toNat < bits.length := by rw [h.len]; omega
  have hmem : e ∈ es := List.mem_of_getElem? he
  have up : ∀ {v : Nat}, bits[v]? = some true → (bits.set (dstE back e).toNat true)[v]? = some true := fun hv => (bit_set hk).2 (.inr hv)
  refine ⟨by simp [h.len], fun v hv => ?_, up h.start, fun x hx => ?_, fun e2 he2 x hx h1 h2 => ?_⟩
  · rcases (bit_set hk).1 hv with rfl | hv
    · have hr : ReachI es bl back s (srcE back e) := by
        rw [hs]
        have := (h.sound u.toNat hu).1
        rwa [Int.toNat_of_nonneg hu0] at this
      rw [Int.toNat_of_nonneg hd0]
      exact ⟨.step hr hmem hb, hdn⟩
    · exact h.sound v hv
  · rcases List.mem_append.1 hx with hx | hx
    · obtain ⟨a, b, c⟩ := h.queue x hx
      exact ⟨a, b, up c⟩
    · simp at hx; subst hx
      exact ⟨hd0, hdn, (bit_set hk).2 (.inl rfl)⟩
  · rcases (bit_set hk).1 hx with rfl | hx
    · exact .inr (.inl (by rw [Int.toNat_of_nonneg hd0]; simp))
    · rcases h.closed e2 he2 x hx h1 h2 with h3 | h3 | ⟨h3, h4⟩
      · exact .inl (up h3)
      · exact .inr (.inl (List.mem_append_left _ h3))
      · obtain ⟨l1, rfl⟩ := List.getElem?_eq_some_iff.1 he
        rw [List.drop_eq_getElem_cons l1] at h4
        rcases List.mem_cons.1 h4 with rfl | h4
        · exact .inl ((bit_set hk).2 (.inl rfl))
        · exact .inr (.inr ⟨h3, h4⟩)
end Go.Sx

