/-
  Layer 12, part A: the plain law of the cheapest ways.
-/
import Derived.Test.YtmogappoadglgaaLayN
import Derived.Test.YtmogappoadglgaaHeapD
namespace Go.Sx
/-- A way from a node to a node, over edges that do not lead to what is blocked, and what it costs. -/
inductive WayC (es : List Edge) (bl : List Int) (t : Int) : Int → Int → Prop where
  | refl : WayC es bl t t 0
  | step {e : Edge} {c : Int} (he : e ∈ es) (hb : e.2.1 ∉ bl) (h : WayC es bl t e.2.1 c) : WayC es bl t e.1 (e.2.2 + c)
open Classical in
noncomputable def farV (es : List Edge) (bl : List Int) (t v : Int) : Int := if h : ∃ m, WayC es bl t v m ∧ ∀ k, WayC es bl t v k → m ≤ k then Classical.choose h else -1
noncomputable def farF (n : Int) (es : List Edge) (bl : List Int) (t : Int) : List Int := (List.range n.toNat).map fun (i : Nat) => farV es bl t i
section
variable {n : Int} {es : List Edge} {bl : List Int} {t v : Int}
theorem wayC_nonneg (hR : RightL n es) {v c : Int} (h : WayC es bl t v c) : 0 ≤ c := by
  induction h with
  | refl => exact Int.le_refl 0
  | step he _ _ ih => have := (hR.each _ he).2.2.2.2.2.1; omega
theorem wayC_bd (hR : RightL n es) (h0 : 0 ≤ t) (ht : t < n) {v c : Int} (h : WayC es bl t v c) : 0 ≤ v ∧ v < n := by
  cases h with
  | refl => exact ⟨h0, ht⟩
  | step he _ _ => have := hR.each _ he; exact ⟨this.1, this.2.1⟩
theorem farV_min (hR : RightL n es) {v c : Int} (h : WayC es bl t v c) : WayC es bl t v (farV es bl t v) ∧ ∀ k, WayC es bl t v k → farV es bl t v ≤ k := by
  have hc := wayC_nonneg hR h
  obtain ⟨m, hm, hmin⟩ := ex_min (p := fun m : Nat => WayC es bl t v (m : Int)) c.toNat (by rw [Int.toNat_of_nonneg hc]; exact h)
  have hex : ∃ m, WayC es bl t v m ∧ ∀ k, WayC es bl t v k → m ≤ k := ⟨m, hm, fun k hk => by
    have := wayC_nonneg hR hk
    have := hmin k.toNat (by rw [Int.toNat_of_nonneg this]; exact hk)
    omega⟩
  unfold farV
  rw [dif_pos hex]
  exact Classical.choose_spec hex
theorem farV_none {v : Int} (h : ∀ c, ¬ WayC es bl t v c) : farV es bl t v = -1 := by
  unfold farV
  rw [dif_neg fun ⟨m, hm, _⟩ => h m hm]
theorem farV_some (hR : RightL n es) {v : Int} (h : 0 ≤ farV es bl t v) : WayC es bl t v (farV es bl t v) ∧ ∀ k, WayC es bl t v k → farV es bl t v ≤ k := by
  by_cases hw : ∃ c, WayC es bl t v c
  · obtain ⟨c, hc⟩ := hw
    exact farV_min hR hc
  · rw [farV_none fun c hc => hw ⟨c, hc⟩] at h; omega
theorem farV_eq (hR : RightL n es) {v c : Int} (h : WayC es bl t v c) (hm : ∀ k, WayC es bl t v k → c ≤ k) : farV es bl t v = c := by
  obtain ⟨h1, h2⟩ := farV_min hR h
  have := hm _ h1
  have := h2 _ h
  omega
theorem farV_ge (hR : RightL n es) (v : Int) : farV es bl t v = -1 ∨ 0 ≤ farV es bl t v := by
  by_cases hw : ∃ c, WayC es bl t v c
  · obtain ⟨c, hc⟩ := hw
    exact .inr (wayC_nonneg hR (farV_min hR hc).1)
  · exact .inl (farV_none fun c hc => hw ⟨c, hc⟩)
theorem farV_self (hR : RightL n es) : farV es bl t t = 0 := farV_eq hR .refl fun _ h => wayC_nonneg hR h
theorem farV_edge (hR : RightL n es) {e : Edge} (he : e ∈ es) (hb : e.2.1 ∉ bl) (h : 0 ≤ farV es bl t e.2.1) : 0 ≤ farV es bl t e.1 ∧ farV es bl t e.1 ≤ farV es bl t e.2.1 + e.2.2 := by
  have hw := WayC.step he hb (farV_some hR h).1
  obtain ⟨h1, h2⟩ := farV_min hR hw
  have := h2 _ hw
  exact ⟨wayC_nonneg hR h1, by omega⟩
theorem farV_next (hR : RightL n es) {v : Int} (hv : v ≠ t) (h : 0 ≤ farV es bl t v) : ∃ e ∈ es, e.1 = v ∧ e.2.1 ∉ bl ∧ 0 ≤ farV es bl t e.2.1 ∧ farV es bl t v = farV es bl t e.2.1 + e.2.2 := by
  obtain ⟨h1, h2⟩ := farV_some hR h
  generalize hx : farV es bl t v = x at *
  cases h1 with
  | refl => exact absurd rfl hv
  | @step e c he hb hw =>
    obtain ⟨h3, h4⟩ := farV_min hR hw
    have h5 := h4 _ hw
    have h6 := h2 _ (.step he hb h3)
    exact ⟨e, he, rfl, hb, wayC_nonneg hR h3, by omega⟩
theorem farF_len : (farF n es bl t).length = n.toNat := by simp [farF]
theorem farF_get {v : Nat} (h : (v : Int) < n) : (farF n es bl t)[v]? = some (farV es bl t v) := by
  have : v < n.toNat := by omega
  simp [farF, this]
theorem farF_at {v : Int} (h0 : 0 ≤ v) (h : v < n) : (farF n es bl t)[v.toNat]? = some (farV es bl t v) := by
  have := farF_get (es := es) (bl := bl) (t := t) (v := v.toNat) (n := n) (by omega)
  rwa [Int.toNat_of_nonneg h0] at this
/-- How many are nearer. -/
def nearer (f : Int → Int) (l : List Nat) (x : Int) : Nat := (l.filter fun (i : Nat) => decide (0 ≤ f i) && decide (f i < x)).length
theorem nearer_mono (f : Int → Int) {l : List Nat} {x y : Int} (hxy : x < y) (i : Nat) (hi : i ∈ l) (h0 : 0 ≤ f i) (hx : f i = x) : nearer f l x + 1 ≤ nearer f l y := by
  unfold nearer
  induction l with
  | nil => cases hi
  | cons j l ih =>
    have mono : (l.filter fun (i : Nat) => decide (0 ≤ f i) && decide (f i < x)).length ≤ (l.filter fun (i : Nat) => decide (0 ≤ f i) && decide (f i < y)).length := by
      clear ih hi
      induction l with
      | nil => simp
      | cons k l ih =>
        simp only [List.filter_cons]
        by_cases h1 : 0 ≤ f k <;> by_cases h2 : f k < x <;> by_cases h3 : f k < y <;> simp [h1, h2, h3] <;> first | omega | exact ih
    simp only [List.filter_cons]
    rcases List.mem_cons.1 hi with e | e
    · subst e
      simp [h0, hx, hxy]
      have hx0 : 0 ≤ x := hx ▸ h0
      rw [if_pos hx0]
      simpa using mono
    · have := ih e
      by_cases h1 : 0 ≤ f j <;> by_cases h2 : f j < x <;> by_cases h3 : f j < y <;> simp [h1, h2, h3] <;> omega
theorem farV_bd (hR : RightL n es) (h0 : 0 ≤ t) (ht : t < n) (v : Int) : farV es bl t v ≤ 40000 := by
  have key : ∀ (k : Nat) (v : Int), 0 ≤ farV es bl t v → farV es bl t v ≤ k → farV es bl t v ≤ 1000 * (nearer (farV es bl t) (List.range n.toNat) (farV es bl t v) : Int) := by
    intro k
    induction k with
    | zero => intro v h1 h2; omega
    | succ k ih =>
      intro v h1 h2
      by_cases hv : v = t
      · subst hv; rw [farV_self hR]; omega
      · obtain ⟨e, he, rfl, hb, h3, h4⟩ := farV_next hR hv h1
        have ho := hR.each e he
        obtain ⟨o1, o2, o3, o4, _, o6, o7⟩ := ho
        have h5 := ih e.2.1 h3 (by omega)
        have h6 := nearer_mono (farV es bl t) (l := List.range n.toNat) (x := farV es bl t e.2.1) (y := farV es bl t e.1) (by omega) e.2.1.toNat (by simp; omega) (by rw [Int.toNat_of_nonneg o3]; exact h3) (by rw [Int.toNat_of_nonneg o3])
        omega
  rcases farV_ge (es := es) (bl := bl) (t := t) hR v with h | h
  · omega
  · have h1 := key (farV es bl t v).toNat v h (by omega)
    have h2 : nearer (farV es bl t) (List.range n.toNat) (farV es bl t v) ≤ n.toNat := by
      unfold nearer
      have := List.length_filter_le (fun i : Nat => decide (0 ≤ farV es bl t i) && decide (farV es bl t i < farV es bl t v)) (List.range n.toNat)
      simpa using this
    have := hR.most
    have := hR.pos
    omega
/-! ### Nodes that are known, the nearest first -/
/-- Between two nodes: 'dn': which are known; 'H': what waits. -/
structure Dij (n : Int) (es : List Edge) (bl : List Int) (t : Int) (dn : List Bool) (H : List Item) : Prop where
  len : dn.length = 40
  lt : ∀ v : Nat, dn[v]? = some true → (v : Int) < n ∧ ∃ c, WayC es bl t v c
  way : ∀ p ∈ H, 0 ≤ p.2 ∧ p.2 < n ∧ WayC es bl t p.2 p.1 ∧ p.1 ≤ 41000
  edge : ∀ e ∈ es, e.2.1 ∉ bl → dn[e.2.1.toNat]? = some true → dn[e.1.toNat]? = some false → ∃ p ∈ H, p.2 = e.1 ∧ p.1 ≤ farV es bl t e.2.1 + e.2.2
  self : dn[t.toNat]? = some false → (0, t) ∈ H
/-- While the edges to a node are gone through: those that were gone through are pushed. -/
structure Dij2 (n : Int) (es : List Edge) (bl : List Int) (t : Int) (dn : List Bool) (v : Int) (i : Nat) (H : List Item) : Prop where
  len : dn.length = 40
  lt : ∀ v : Nat, dn[v]? = some true → (v : Int) < n ∧ ∃ c, WayC es bl t v c
  way : ∀ p ∈ H, 0 ≤ p.2 ∧ p.2 < n ∧ WayC es bl t p.2 p.1 ∧ p.1 ≤ 41000
  edge : ∀ e ∈ es, (e.2.1 = v → e ∈ es.take i) → e.2.1 ∉ bl → dn[e.2.1.toNat]? = some true → dn[e.1.toNat]? = some false → ∃ p ∈ H, p.2 = e.1 ∧ p.1 ≤ farV es bl t e.2.1 + e.2.2
  self : dn[t.toNat]? = some false → (0, t) ∈ H
theorem dij_wait (hR : RightL n es) (h0 : 0 ≤ t) (ht : t < n) {dn : List Bool} {H : List Item} (h : Dij n es bl t dn H) {u c : Int} (hw : WayC es bl t u c) (hu : dn[u.toNat]? = some false) : ∃ p ∈ H, p.1 ≤ c := by
  induction hw with
  | refl => exact ⟨_, h.self hu, Int.le_refl 0⟩
  | @step e c he hb hw ih =>
    have ho := hR.each e he
    obtain ⟨o1, o2, o3, o4, _, o6, o7⟩ := ho
    have hm := hR.most
    have hlt : e.2.1.toNat < dn.length := by rw [h.len]; omega
    cases hd : dn[e.2.1.toNat] with
    | true =>
      obtain ⟨p, hp, h1, h2⟩ := h.edge e he hb (by rw [List.getElem?_eq_getElem hlt, hd]) hu
      exact ⟨p, hp, by have := (farV_min hR hw).2 _ hw; omega⟩
    | false =>
      obtain ⟨p, hp, h1⟩ := ih (by rw [List.getElem?_eq_getElem hlt, hd])
      exact ⟨p, hp, by omega⟩
theorem dij_start (h0 : 0 ≤ t) (ht : t < n) {H : List Item} (hp : List.Perm H [(0, t)]) : Dij n es bl t (List.replicate 40 false) H := by
  have hf : ∀ v : Nat, (List.replicate 40 false)[v]? ≠ some true := fun v h => by
    rw [List.getElem?_replicate] at h
    split at h <;> cases h
  refine ⟨by simp, fun v hv => absurd hv (hf v), fun p hq => ?_, fun e _ _ h => absurd h (hf _), fun _ => hp.mem_iff.2 (by simp)⟩
  have := hp.mem_iff.1 hq
  simp at this
  subst this
  exact ⟨h0, ht, .refl, by show (0 : Int) ≤ 41000; decide⟩
theorem dij_end (hR : RightL n es) (h0 : 0 ≤ t) (ht : t < n) {dn : List Bool} (h : Dij n es bl t dn []) {u : Nat} (hu : dn[u]? = some false) (hun : (u : Int) < n) : farV es bl t u = -1 :=
  farV_none fun c hc => by
    obtain ⟨p, hp, _⟩ := dij_wait hR h0 ht h hc (by simpa using hu)
    cases hp
/-- What is popped again. -/
theorem dij_again {dn : List Bool} {H H' : List Item} {c v : Int} (hv0 : 0 ≤ v) (h : Dij n es bl t dn H) (hp : List.Perm ((c, v) :: H') H) (hd : dn[v.toNat]? = some true) : Dij n es bl t dn H' := by
  have sub : ∀ p ∈ H', p ∈ H := fun p hq => hp.mem_iff.1 (List.mem_cons_of_mem _ hq)
  have back : ∀ p ∈ H, dn[p.2.toNat]? = some false → p ∈ H' := fun p hq hn => by
    rcases List.mem_cons.1 (hp.mem_iff.2 hq) with e | e
    · subst e; rw [hd] at hn; cases hn
    · exact e
  refine ⟨h.len, h.lt, fun p hq => h.way p (sub p hq), fun e he hb h1 h2 => ?_, fun h1 => back _ (h.self h1) h1⟩
  obtain ⟨p, q1, q2, q3⟩ := h.edge e he hb h1 h2
  exact ⟨p, back p q1 (by rw [q2]; exact h2), q2, q3⟩
/-- What is popped for the first time is known. -/
theorem dij_first (hR : RightL n es) (h0 : 0 ≤ t) (ht : t < n) {dn : List Bool} {H H' : List Item} {c v : Int} (h : Dij n es bl t dn H) (hp : List.Perm ((c, v) :: H') H) (hmin : ∀ b ∈ H, leP (c, v) b) (hd : dn[v.toNat]? = some false) :
    farV es bl t v = c ∧ Dij2 n es bl t (dn.set v.toNat true) v 0 H' := by
  obtain ⟨w1, w2, w3, w4⟩ := h.way (c, v) (hp.mem_iff.1 (by simp))
  have hf : farV es bl t v = c := farV_eq hR w3 fun k hk => by
    obtain ⟨p, q1, q2⟩ := dij_wait hR h0 ht h hk hd
    have := leP_iff.1 (hmin p q1)
    simp only at this
    omega
  have hlt := (List.getElem?_eq_some_iff.1 hd).1
  have old : ∀ (u : Nat) b, u ≠ v.toNat → (dn.set v.toNat true)[u]? = some b → dn[u]? = some b := fun u b hne hu => by rwa [List.getElem?_set_ne (Ne.symm hne)] at hu
  have back : ∀ p ∈ H, (dn.set v.toNat true)[p.2.toNat]? = some false → p ∈ H' := fun p hq hn => by
    rcases List.mem_cons.1 (hp.mem_iff.2 hq) with e | e
    · subst e; simp [hlt] at hn
    · exact e
  refine ⟨hf, by simp [h.len], fun u hu => ?_, fun p hq => h.way p (hp.mem_iff.1 (List.mem_cons_of_mem _ hq)), fun e he hi hb h1 h2 => ?_, fun h1 => ?_⟩
  · by_cases e : u = v.toNat
    · subst e; exact ⟨by omega, c, by rw [Int.toNat_of_nonneg w1]; exact w3⟩
    · exact h.lt u (old u _ e hu)
  · have hn1 : e.1.toNat ≠ v.toNat := fun e1 => by rw [e1] at h2; simp [hlt] at h2
    have hn2 : e.2.1.toNat ≠ v.toNat := fun e1 => by
      have ho := hR.each e he
      have := hi (by have := ho.2.2.1; omega)
      simp at this
    obtain ⟨p, q1, q2, q3⟩ := h.edge e he hb (old _ _ hn2 h1) (old _ _ hn1 h2)
    exact ⟨p, back p q1 (by rw [q2]; exact h2), q2, q3⟩
  · have hn : t.toNat ≠ v.toNat := fun e1 => by rw [e1] at h1; simp [hlt] at h1
    exact back _ (h.self (old _ _ hn h1)) h1
/-- Nobody comes to what is blocked. -/
theorem dij_blocked (hb : v ∈ bl) {dn : List Bool} {H : List Item} (h : Dij2 n es bl t dn v 0 H) : Dij n es bl t dn H :=
  ⟨h.len, h.lt, h.way, fun e he h1 => h.edge e he (fun e1 => absurd (e1 ▸ hb) h1) h1, h.self⟩
theorem dij_done {dn : List Bool} {H : List Item} (h : Dij2 n es bl t dn v es.length H) : Dij n es bl t dn H :=
  ⟨h.len, h.lt, h.way, fun e he => h.edge e he fun _ => by rw [List.take_of_length_le (Nat.le_refl _)]; exact he, h.self⟩
/-- An edge that is passed over. -/
theorem dij_skip {dn : List Bool} {H : List Item} {i : Nat} {e : Edge} (hi : es[i]? = some e) (h : Dij2 n es bl t dn v i H) (hs : e.2.1 ≠ v ∨ dn[e.1.toNat]? = some true) : Dij2 n es bl t dn v (i + 1) H :=
  ⟨h.len, h.lt, h.way, fun x hx h1 h2 h3 h4 => h.edge x hx (fun hv => by
    have := h1 hv
    rw [take_snocI hi] at this
    rcases List.mem_append.1 this with h5 | h5
    · exact h5
    · simp at h5; subst h5
      rcases hs with hs | hs
      · exact absurd hv hs
      · rw [hs] at h4; cases h4) h2 h3 h4, h.self⟩
/-- An edge that is pushed. -/
theorem dij_push (hR : RightL n es) (h0 : 0 ≤ t) (ht : t < n) {dn : List Bool} {H H' : List Item} {i : Nat} {e : Edge} {c : Int} (hi : es[i]? = some e) (h : Dij2 n es bl t dn v i H) (hv : e.2.1 = v) (hb : v ∉ bl) (hf : farV es bl t v = c) (hc : 0 ≤ c) (hp : List.Perm H' ((c + e.2.2, e.1) :: H)) : Dij2 n es bl t dn v (i + 1) H' := by
  have he : e ∈ es := List.mem_of_getElem? hi
  have ho := hR.each e he
  obtain ⟨o1, o2, o3, o4, _, o6, o7⟩ := ho
  have hw : WayC es bl t e.1 (c + e.2.2) := by
    have := (farV_some hR (v := v) (by omega) (es := es) (bl := bl) (t := t)).1
    rw [hf] at this
    rw [Int.add_comm]
    exact .step he (hv ▸ hb) (hv ▸ this)
  refine ⟨h.len, h.lt, fun p hq => ?_, fun x hx h1 h2 h3 h4 => ?_, fun h1 => hp.mem_iff.2 (by simp [h.self h1])⟩
  · rcases List.mem_cons.1 (hp.mem_iff.1 hq) with e1 | e1
    · subst e1
      have := farV_bd hR h0 ht v (bl := bl)
      exact ⟨o1, o2, hw, by show c + e.2.2 ≤ 41000; omega⟩
    · exact h.way p e1
  · by_cases e1 : x = e
    · subst e1
      exact ⟨(c + x.2.2, x.1), hp.mem_iff.2 (by simp), rfl, by rw [hv, hf]; exact Int.le_refl _⟩
    · obtain ⟨p, q1, q2, q3⟩ := h.edge x hx (fun hxv => by
        have := h1 hxv
        rw [take_snocI hi] at this
        rcases List.mem_append.1 this with h5 | h5
        · exact h5
        · simp at h5; exact absurd h5 e1) h2 h3 h4
      exact ⟨p, hp.mem_iff.2 (by simp [q1]), q2, q3⟩
end
end Go.Sx

