/-
  Layer 12, part A: the plain law of the cheapest ways.
-/
import Derived.Shelf.Bits.Mul64
import Derived.Test.YtmogappoadglgaaZLay
import Derived.Test.YtmogappoadglgaaZHeap
set_option linter.unusedVariables false
set_option linter.unusedSimpArgs false
namespace Go.Sx
/-- A way from a node to a node, over edges that do not lead to what is blocked, and what it costs. -/
inductive WayC (es : List Edge) (bl : List Int) (t : Int) : Int → Int → Prop where
  | refl : WayC es bl t t 0
  | step {e : Edge} {c : Int} (he : e ∈ es) (hb : e.2.1 ∉ bl) (h : WayC es bl t e.2.1 c) : WayC es bl t e.1 (e.2.2 + c)
open Classical in
noncomputable def farV (es : List Edge) (bl : List Int) (t v : Int) : Int := if h : ∃ m, WayC es bl t v m ∧ ∀ k, WayC es bl t v k → m ≤ k then Classical.choose h else -1
noncomputable def farF (n : Int) (es : List Edge) (bl : List Int) (t : Int) : List Int := (List.range n.toNat).map fun (i : Nat) => farV es bl t i
section
variable {n : Int} {es : List Edge} {bl : List Int} {t v : Int}
theorem wayC_nonneg (hR : RightL n es) {v c : Int} (h : WayC es bl t v c) : 0 ≤ c := by
  induction h with
  | refl => exact Int.le_refl 0
  | step he _ _ ih => have := (hR.each _ he).2.2.2.2.2.1; omega
theorem wayC_bd (hR : RightL n es) (h0 : 0 ≤ t) (ht : t < n) {v c : Int} (h : WayC es bl t v c) : 0 ≤ v ∧ v < n := by
  cases h with
  | refl => exact ⟨h0, ht⟩
  | step he _ _ => have := hR.each _ he; exact ⟨this.1, this.2.1⟩
theorem farV_min (hR : RightL n es) {v c : Int} (h : WayC es bl t v c) : WayC es bl t v (farV es bl t v) ∧ ∀ k, WayC es bl t v k → farV es bl t v ≤ k := by
  have hc := wayC_nonneg hR h
  obtain ⟨m, hm, hmin⟩ := ex_min (p := fun m : Nat => WayC es bl t v (m : Int)) c.toNat (by rw [Int.toNat_of_nonneg hc]; exact h)
  have hex : ∃ m, WayC es bl t v m ∧ ∀ k, WayC es bl t v k → m ≤ k := ⟨m, hm, fun k hk => by
    have := wayC_nonneg hR hk
    have := hmin k.toNat (by rw [Int.toNat_of_nonneg this]; exact hk)
    omega⟩
  unfold farV
  rw [dif_pos hex]
  exact Classical.choose_spec hex
theorem farV_none {v : Int} (h : ∀ c, ¬ WayC es bl t v c) : farV es bl t v = -1 := by
  unfold farV
  rw [dif_neg fun ⟨m, hm, _⟩ => h m hm]
theorem farV_some (hR : RightL n es) {v : Int} (h : 0 ≤ farV es bl t v) : WayC es bl t v (farV es bl t v) ∧ ∀ k, WayC es bl t v k → farV es bl t v ≤ k := by
  by_cases hw : ∃ c, WayC es bl t v c
  · obtain ⟨c, hc⟩ := hw
    exact farV_min hR hc
  · rw [farV_none fun c hc => hw ⟨c, hc⟩] at h; omega
theorem farV_eq (hR : RightL n es) {v c : Int} (h : WayC es bl t v c) (hm : ∀ k, WayC es bl t v k → c ≤ k) : farV es bl t v = c := by
  obtain ⟨h1, h2⟩ := farV_min hR h
  have := hm _ h1
  have := h2 _ h
  omega
theorem farV_ge (hR : RightL n es) (v : Int) : farV es bl t v = -1 ∨ 0 ≤ farV es bl t v := by
  by_cases hw : ∃ c, WayC es bl t v c
  · obtain ⟨c, hc⟩ := hw
    exact .inr (wayC_nonneg hR (farV_min hR hc).1)
  · exact .inl (farV_none fun c hc => hw ⟨c, hc⟩)
theorem farV_self (hR : RightL n es) : farV es bl t t = 0 := farV_eq hR .refl fun _ h => wayC_nonneg hR h
theorem farV_edge (hR : RightL n es) {e : Edge} (he : e ∈ es) (hb : e.2.1 ∉ bl) (h : 0 ≤ farV es bl t e.2.1) : 0 ≤ farV es bl t e.1 ∧ farV es bl t e.1 ≤ farV es bl t e.2.1 + e.2.2 := by
  have hw := WayC.step he hb (farV_some hR h).1
  obtain ⟨h1, h2⟩ := farV_min hR hw
  have := h2 _ hw
  exact ⟨wayC_nonneg hR h1, by omega⟩
theorem farV_next (hR : RightL n es) {v : Int} (hv : v ≠ t) (h : 0 ≤ farV es bl t v) : ∃ e ∈ es, e.1 = v ∧ e.2.1 ∉ bl ∧ 0 ≤ farV es bl t e.2.1 ∧ farV es bl t v = farV es bl t e.2.1 + e.2.2 := by
  obtain ⟨h1, h2⟩ := farV_some hR h
  generalize hx : farV es bl t v = x at *
  cases h1 with
  | refl => exact absurd rfl hv
  | @step e c he hb hw =>
    obtain ⟨h3, h4⟩ := farV_min hR hw
    have h5 := h4 _ hw
    have h6 := h2 _ (.step he hb h3)
    exact ⟨e, he, rfl, hb, wayC_nonneg hR h3, by omega⟩
theorem farF_len : (farF n es bl t).length = n.toNat := by simp [farF]
theorem farF_get {v : Nat} (h : (v : Int) < n) : (farF n es bl t)[v]? = some (farV es bl t v) := by
  have : v < n.toNat := by omega
  simp [farF, this]
theorem farF_at {v : Int} (h0 : 0 ≤ v) (h : v < n) : (farF n es bl t)[v.toNat]? = some (farV es bl t v) := by
  have := farF_get (es := es) (bl := bl) (t := t) (v := v.toNat) (n := n) (by omega)
  rwa [Int.toNat_of_nonneg h0] at this
/-- How many are nearer. -/
def nearer (f : Int → Int) (l : List Nat) (x : Int) : Nat := (l.filter fun (i : Nat) => decide (0 ≤ f i) && decide (f i < x)).length
theorem nearer_mono (f : Int → Int) {l : List Nat} {x y : Int} (hxy : x < y) (i : Nat) (hi : i ∈ l) (h0 : 0 ≤ f i) (hx : f i = x) : nearer f l x + 1 ≤ nearer f l y := by
  unfold nearer
  induction l with
  | nil => cases hi
  | cons j l ih =>
    have mono : (l.filter fun (i : Nat) => decide (0 ≤ f i) && decide (f i < x)).length ≤ (l.filter fun (i : Nat) => decide (0 ≤ f i) && decide (f i < y)).length := by
      clear ih hi
      induction l with
      | nil => simp
      | cons k l ih =>
        simp only [List.filter_cons]
        by_cases h1 : 0 ≤ f k <;> by_cases h2 : f k < x <;> by_cases h3 : f k < y <;> simp [h1, h2, h3] <;> first | omega | exact ih
    simp only [List.filter_cons]
    rcases List.mem_cons.1 hi with e | e
    · subst e
      simp [h0, hx, hxy]
      have hx0 : 0 ≤ x := hx ▸ h0
      rw [if_pos hx0]
      simpa using mono
    · have := ih e
      by_cases h1 : 0 ≤ f j <;> by_cases h2 : f j < x <;> by_cases h3 : f j < y <;> simp [h1, h2, h3] <;> omega
theorem farV_bd (hR : RightL n es) (h0 : 0 ≤ t) (ht : t < n) (v : Int) : farV es bl t v ≤ 40000 := by
  have key : ∀ (k : Nat) (v : Int), 0 ≤ farV es bl t v → farV es bl t v ≤ k → farV es bl t v ≤ 1000 * (nearer (farV es bl t) (List.range n.toNat) (farV es bl t v) : Int) := by
    intro k
    induction k with
    | zero => intro v h1 h2; omega
    | succ k ih =>
      intro v h1 h2
      by_cases hv : v = t
      · subst hv; rw [farV_self hR]; omega
      · obtain ⟨e, he, rfl, hb, h3, h4⟩ := farV_next hR hv h1
        have ho := hR.each e he
        obtain ⟨o1, o2, o3, o4, _, o6, o7⟩ := ho
        have h5 := ih e.2.1 h3 (by omega)
        have h6 := nearer_mono (farV es bl t) (l := List.range n.toNat) (x := farV es bl t e.2.1) (y := farV es bl t e.1) (by omega) e.2.1.toNat (by simp; omega) (by rw [Int.toNat_of_nonneg o3]; exact h3) (by rw [Int.toNat_of_nonneg o3])
        omega
  rcases farV_ge (es := es) (bl := bl) (t := t) hR v with h | h
  · omega
  · have h1 := key (farV es bl t v).toNat v h (by omega)
    have h2 : nearer (farV es bl t) (List.range n.toNat) (farV es bl t v) ≤ n.toNat := by
      unfold nearer
      have := List.length_filter_le (fun i : Nat => decide (0 ≤ farV es bl t i) && decide (farV es bl t i < farV es bl t v)) (List.range n.toNat)
      simpa using this
    have := hR.most
    have := hR.pos
    omega
/-! ### Nodes that are known, the nearest first -/
/-- Between two nodes: 'dn': which are known; 'H': what waits. -/
structure Dij (n : Int) (es : List Edge) (bl : List Int) (t : Int) (dn : List Bool) (H : List Item) : Prop where
  len : dn.length = 40
  lt : ∀ v : Nat, dn[v]? = some true → (v : Int) < n ∧ ∃ c, WayC es bl t v c
  way : ∀ p ∈ H, 0 ≤ p.2 ∧ p.2 < n ∧ WayC es bl t p.2 p.1 ∧ p.1 ≤ 41000
  edge : ∀ e ∈ es, e.2.1 ∉ bl → dn[e.2.1.toNat]? = some true → dn[e.1.toNat]? = some false → ∃ p ∈ H, p.2 = e.1 ∧ p.1 ≤ farV es bl t e.2.1 + e.2.2
  self : dn[t.toNat]? = some false → (0, t) ∈ H
/-- While the edges to a node are gone through: those that were gone through are pushed. -/
structure Dij2 (n : Int) (es : List Edge) (bl : List Int) (t : Int) (dn : List Bool) (v : Int) (i : Nat) (H : List Item) : Prop where
  len : dn.length = 40
  lt : ∀ v : Nat, dn[v]? = some true → (v : Int) < n ∧ ∃ c, WayC es bl t v c
  way : ∀ p ∈ H, 0 ≤ p.2 ∧ p.2 < n ∧ WayC es bl t p.2 p.1 ∧ p.1 ≤ 41000
  edge : ∀ e ∈ es, (e.2.1 = v → e ∈ es.take i) → e.2.1 ∉ bl → dn[e.2.1.toNat]? = some true → dn[e.1.toNat]? = some false → ∃ p ∈ H, p.2 = e.1 ∧ p.1 ≤ farV es bl t e.2.1 + e.2.2
  self : dn[t.toNat]? = some false → (0, t) ∈ H
theorem dij_wait (hR : RightL n es) (h0 : 0 ≤ t) (ht : t < n) {dn : List Bool} {H : List Item} (h : Dij n es bl t dn H) {u c : Int} (hw : WayC es bl t u c) (hu : dn[u.toNat]? = some false) : ∃ p ∈ H, p.1 ≤ c := by
  induction hw with
  | refl => exact ⟨_, h.self hu, Int.le_refl 0⟩
  | @step e c he hb hw ih =>
    have ho := hR.each e he
    obtain ⟨o1, o2, o3, o4, _, o6, o7⟩ := ho
    have hm := hR.most
    have hlt : e.2.1.toNat < dn.length := by rw [h.len]; omega
    cases hd : dn[e.2.1.toNat] with
    | true =>
      obtain ⟨p, hp, h1, h2⟩ := h.edge e he hb (by rw [List.getElem?_eq_getElem hlt, hd]) hu
      exact ⟨p, hp, by have := (farV_min hR hw).2 _ hw; omega⟩
    | false =>
      obtain ⟨p, hp, h1⟩ := ih (by rw [List.getElem?_eq_getElem hlt, hd])
      exact ⟨p, hp, by omega⟩
theorem dij_start (h0 : 0 ≤ t) (ht : t < n) {H : List Item} (hp : List.Perm H [(0, t)]) : Dij n es bl t (List.replicate 40 false) H := by
  have hf : ∀ v : Nat, (List.replicate 40 false)[v]? ≠ some true := fun v h => by
    rw [List.getElem?_replicate] at h
    split at h <;> cases h
  refine ⟨by simp, fun v hv => absurd hv (hf v), fun p hq => ?_, fun e _ _ h => absurd h (hf _), fun _ => hp.mem_iff.2 (by simp)⟩
  have := hp.mem_iff.1 hq
  simp at this
  subst this
  exact ⟨h0, ht, .refl, by show (0 : Int) ≤ 41000; decide⟩
theorem dij_end (hR : RightL n es) (h0 : 0 ≤ t) (ht : t < n) {dn : List Bool} (h : Dij n es bl t dn []) {u : Nat} (hu : dn[u]? = some false) (hun : (u : Int) < n) : farV es bl t u = -1 :=
  farV_none fun c hc => by
    obtain ⟨p, hp, _⟩ := dij_wait hR h0 ht h hc (by simpa using hu)
    cases hp
/-- What is popped again. -/
theorem dij_again {dn : List Bool} {H H' : List Item} {c v : Int} (hv0 : 0 ≤ v) (h : Dij n es bl t dn H) (hp : List.Perm ((c, v) :: H') H) (hd : dn[v.toNat]? = some true) : Dij n es bl t dn H' := by
  have sub : ∀ p ∈ H', p ∈ H := fun p hq => hp.mem_iff.1 (List.mem_cons_of_mem _ hq)
  have back : ∀ p ∈ H, dn[p.2.toNat]? = some false → p ∈ H' := fun p hq hn => by
    rcases List.mem_cons.1 (hp.mem_iff.2 hq) with e | e
    · subst e; rw [hd] at hn; cases hn
    · exact e
  refine ⟨h.len, h.lt, fun p hq => h.way p (sub p hq), fun e he hb h1 h2 => ?_, fun h1 => back _ (h.self h1) h1⟩
  obtain ⟨p, q1, q2, q3⟩ := h.edge e he hb h1 h2
  exact ⟨p, back p q1 (by rw [q2]; exact h2), q2, q3⟩
/-- What is popped for the first time is known. -/
theorem dij_first (hR : RightL n es) (h0 : 0 ≤ t) (ht : t < n) {dn : List Bool} {H H' : List Item} {c v : Int} (h : Dij n es bl t dn H) (hp : List.Perm ((c, v) :: H') H) (hmin : ∀ b ∈ H, leP (c, v) b) (hd : dn[v.toNat]? = some false) :
    farV es bl t v = c ∧ Dij2 n es bl t (dn.set v.toNat true) v 0 H' := by
  obtain ⟨w1, w2, w3, w4⟩ := h.way (c, v) (hp.mem_iff.1 (by simp))
  have hf : farV es bl t v = c := farV_eq hR w3 fun k hk => by
    obtain ⟨p, q1, q2⟩ := dij_wait hR h0 ht h hk hd
    have := leP_iff.1 (hmin p q1)
    simp only at this
    omega
  have hlt := (List.getElem?_eq_some_iff.1 hd).1
  have old : ∀ (u : Nat) b, u ≠ v.toNat → (dn.set v.toNat true)[u]? = some b → dn[u]? = some b := fun u b hne hu => by rwa [List.getElem?_set_ne (Ne.symm hne)] at hu
  have back : ∀ p ∈ H, (dn.set v.toNat true)[p.2.toNat]? = some false → p ∈ H' := fun p hq hn => by
    rcases List.mem_cons.1 (hp.mem_iff.2 hq) with e | e
    · subst e; simp [hlt] at hn
    · exact e
  refine ⟨hf, by simp [h.len], fun u hu => ?_, fun p hq => h.way p (hp.mem_iff.1 (List.mem_cons_of_mem _ hq)), fun e he hi hb h1 h2 => ?_, fun h1 => ?_⟩
  · by_cases e : u = v.toNat
    · subst e; exact ⟨by omega, c, by rw [Int.toNat_of_nonneg w1]; exact w3⟩
    · exact h.lt u (old u _ e hu)
  · have hn1 : e.1.toNat ≠ v.toNat := fun e1 => by rw [e1] at h2; simp [hlt] at h2
    have hn2 : e.2.1.toNat ≠ v.toNat := fun e1 => by
      have ho := hR.each e he
      have := hi (by have := ho.2.2.1; omega)
      simp at this
    obtain ⟨p, q1, q2, q3⟩ := h.edge e he hb (old _ _ hn2 h1) (old _ _ hn1 h2)
    exact ⟨p, back p q1 (by rw [q2]; exact h2), q2, q3⟩
  · have hn : t.toNat ≠ v.toNat := fun e1 => by rw [e1] at h1; simp [hlt] at h1
    exact back _ (h.self (old _ _ hn h1)) h1
/-- Nobody comes to what is blocked. -/
theorem dij_blocked (hb : v ∈ bl) {dn : List Bool} {H : List Item} (h : Dij2 n es bl t dn v 0 H) : Dij n es bl t dn H :=
  ⟨h.len, h.lt, h.way, fun e he h1 => h.edge e he (fun e1 => absurd (e1 ▸ hb) h1) h1, h.self⟩
theorem dij_done {dn : List Bool} {H : List Item} (h : Dij2 n es bl t dn v es.length H) : Dij n es bl t dn H :=
  ⟨h.len, h.lt, h.way, fun e he => h.edge e he fun _ => by rw [List.take_of_length_le (Nat.le_refl _)]; exact he, h.self⟩
/-- An edge that is passed over. -/
theorem dij_skip {dn : List Bool} {H : List Item} {i : Nat} {e : Edge} (hi : es[i]? = some e) (h : Dij2 n es bl t dn v i H) (hs : e.2.1 ≠ v ∨ dn[e.1.toNat]? = some true) : Dij2 n es bl t dn v (i + 1) H :=
  ⟨h.len, h.lt, h.way, fun x hx h1 h2 h3 h4 => h.edge x hx (fun hv => by
    have := h1 hv
    rw [take_snocI hi] at this
    rcases List.mem_append.1 this with h5 | h5
    · exact h5
    · simp at h5; subst h5
      rcases hs with hs | hs
      · exact absurd hv hs
      · rw [hs] at h4; cases h4) h2 h3 h4, h.self⟩
/-- An edge that is pushed. -/
theorem dij_push (hR : RightL n es) (h0 : 0 ≤ t) (ht : t < n) {dn : List Bool} {H H' : List Item} {i : Nat} {e : Edge} {c : Int} (hi : es[i]? = some e) (h : Dij2 n es bl t dn v i H) (hv : e.2.1 = v) (hb : v ∉ bl) (hf : farV es bl t v = c) (hc : 0 ≤ c) (hp : List.Perm H' ((c + e.2.2, e.1) :: H)) : Dij2 n es bl t dn v (i + 1) H' := by
  have he : e ∈ es := List.mem_of_getElem? hi
  have ho := hR.each e he
  obtain ⟨o1, o2, o3, o4, _, o6, o7⟩ := ho
  have hw : WayC es bl t e.1 (c + e.2.2) := by
    have := (farV_some hR (v := v) (by omega) (es := es) (bl := bl) (t := t)).1
    rw [hf] at this
    rw [Int.add_comm]
    exact .step he (hv ▸ hb) (hv ▸ this)
  refine ⟨h.len, h.lt, fun p hq => ?_, fun x hx h1 h2 h3 h4 => ?_, fun h1 => hp.mem_iff.2 (by simp [h.self h1])⟩
  · rcases List.mem_cons.1 (hp.mem_iff.1 hq) with e1 | e1
    · subst e1
      have := farV_bd hR h0 ht v (bl := bl)
      exact ⟨o1, o2, hw, by show c + e.2.2 ≤ 41000; omega⟩
    · exact h.way p e1
  · by_cases e1 : x = e
    · subst e1
      exact ⟨(c + x.2.2, x.1), hp.mem_iff.2 (by simp), rfl, by rw [hv, hf]; exact Int.le_refl _⟩
    · obtain ⟨p, q1, q2, q3⟩ := h.edge x hx (fun hxv => by
        have := h1 hxv
        rw [take_snocI hi] at this
        rcases List.mem_append.1 this with h5 | h5
        · exact h5
        · simp at h5; exact absurd h5 e1) h2 h3 h4
      exact ⟨p, hp.mem_iff.2 (by simp [q1]), q2, q3⟩
end
end Go.Sx


/-
  Layer 12, part B: bits.Mul (the kit's contract, laid: the two tables as the kit's own program prints them), slices.Repeat of one number.
-/
namespace Go.Proofs
open Go.Shelf
def RouM.l264_ren : Go.Shelf.Ren := ⟨fun | 264 => 107 | n => n, fun | 53 => 135 | 46 => 126 | n => n, fun | n => n⟩
theorem RouM.l264 : Go.Proofs.Lays.n264 Try.prog RouM.l264_ren := {
  mixed := by kernel_rfl
  f264 := Try.func107.trans (congrArg some (by kernel_rfl))
  t46 := Try.underlying126
  a46 := Try.isAgg126
  z46 := Try.sizeOf126
  v46 := Try.zeroValue126
  t53 := Try.underlying135
  a53 := Try.isAgg135
  z53 := Try.sizeOf135
  v53 := Try.zeroValue135 }
def RouM.l212_ren : Go.Shelf.Ren := ⟨fun | 212 => 98 | 263 => 106 | 264 => 107 | n => n, fun | 46 => 126 | 51 => 132 | 146 => 133 | 53 => 135 | 148 => 136 | n => n, fun | n => n⟩
theorem RouM.l212 : Go.Proofs.Lays.n212 Try.prog RouM.l212_ren := {
  mixed := by kernel_rfl
  f212 := Try.func98.trans (congrArg some (by kernel_rfl))
  f263 := Try.func106.trans (congrArg some (by kernel_rfl))
  f264 := Try.func107.trans (congrArg some (by kernel_rfl))
  t46 := Try.underlying126
  a46 := Try.isAgg126
  z46 := Try.sizeOf126
  v46 := Try.zeroValue126
  t51 := Try.underlying132
  a51 := Try.isAgg132
  z51 := Try.sizeOf132
  v51 := Try.zeroValue132
  t53 := Try.underlying135
  a53 := Try.isAgg135
  z53 := Try.sizeOf135
  v53 := Try.zeroValue135
  t146 := Try.underlying133
  a146 := Try.isAgg133
  z146 := Try.sizeOf133
  v146 := Try.zeroValue133
  t148 := Try.underlying136
  a148 := Try.isAgg136
  z148 := Try.sizeOf136
  v148 := Try.zeroValue136 }
end Go.Proofs
namespace Go.Sx
open Go Go.Proofs Go.Proofs.Ytmogappoadglgaa
abbrev vU (n : Nat) : SV AF := .val (.int .u64 (n : Int))
def spMul : Spec AF where
  γ := Nat × Nat
  δ := Unit
  args := fun g => [vU g.1, vU g.2]
  own := fun _ => []
  pre := fun g => g.1 < 18446744073709551616 ∧ g.2 < 18446744073709551616
  nnew := 0
  res := fun g _ => .tup [vU (g.1 * g.2 / 18446744073709551616), vU (g.1 * g.2 % 18446744073709551616)]
  own' := fun _ _ => []
  post := fun _ _ => True
theorem m_mul : Meets Try.prog regF 98 spMul := by
  refine ⟨⟨_, Try.func98, by kernel_rfl, by kernel_rfl⟩, ?_⟩
  rintro ⟨(x : Nat), (y : Nat)⟩ ⟨(hx : x < 18446744073709551616), (hy : y < 18446744073709551616)⟩ X ρ w ⟨vs⟩ hX1 hX2 hargs hown
  obtain ⟨hl, hd⟩ := hargs
  match vs, hl with
  | [a, b], _ =>
    have ha := val_inv (hd 0 (vU x) a rfl rfl)
    have hb := val_inv (hd 1 (vU y) b rfl rfl)
    subst ha; subst hb
    refine (Any.bits_Mul RouM.l212 x y hx hy w).mono fun e w' h => ?_
    obtain ⟨rfl, rfl⟩ := h
    refine ⟨(), ρ, _, trivial, rfl, fun _ _ => rfl, .tup _ _ rfl fun j s v hs hv => ?_, ⟨fun h ct hh => by simp [spMul] at hh, fun h h' ct ct' b base base' hh => by simp [spMul] at hh⟩, fun b ⟨h, ct, base, hh, _⟩ => by simp [spMul] at hh, rfl, rfl, fun h ct hh => by simp [spMul] at hh, .refl⟩
    match j with
    | 0 => simp at hs hv; subst hs; subst hv; exact .val _
    | 1 => simp at hs hv; subst hs; subst hv; exact .val _
    | j + 2 => simp at hs
def spMul1 : Spec AF where
  γ := Nat
  δ := Unit
  args := fun g => [vU 1, vU g]
  own := fun _ => []
  pre := fun g => g < 18446744073709551616
  nnew := 0
  res := fun g _ => .tup [vU 0, vU g]
  own' := fun _ _ => []
  post := fun _ _ => True
theorem m_mul1 : Meets Try.prog regF 98 spMul1 :=
  ⟨m_mul.1, fun (g : Nat) (hg : g < 18446744073709551616) X ρ w vs h1 h2 h3 h4 => (m_mul.2 (1, g) ⟨by show (1 : Nat) < _; decide, hg⟩ X ρ w vs h1 h2 h3 h4).mono fun _ _ hp => by
    obtain ⟨d, ρ', v, _, he, hρ, hd, rest⟩ := hp
    have e : spMul.res (1, g) d = spMul1.res g () := by
      show SV.tup [vU (1 * g / 18446744073709551616), vU (1 * g % 18446744073709551616)] = SV.tup [vU 0, vU g]
      rw [Nat.one_mul, Nat.div_eq_of_lt hg, Nat.mod_eq_of_lt hg]
    exact ⟨(), ρ', v, trivial, he, hρ, e ▸ hd, rest⟩⟩
def repC (x : Int) (m c : Nat) : List Int := List.replicate m x ++ List.replicate (c - m) 0
theorem rep_step {x : Int} {m c : Nat} (h : m ≤ c) : (repC x m c).take m ++ (((repC x m c).drop 0).take (min m (c - m))) ++ (repC x m c).drop (m + min m (c - m)) = repC x (m + min m (c - m)) c := by
  unfold repC
  rw [List.drop_zero, List.take_append_of_le_length (by simp), List.take_append_of_le_length (by simp; omega)]
  rw [List.take_replicate, List.take_replicate, List.drop_append]
  simp only [List.length_replicate, List.drop_replicate]
  rw [show min m m = m by omega, show m - (m + min m (c - m)) = 0 by omega, show min (min m (c - m)) m = min m (c - m) by omega]
  rw [List.replicate_zero, List.nil_append, List.replicate_append_replicate]
  congr 2
  omega
def spRepeat : Spec AF where
  γ := Int × Nat
  δ := Unit
  args := fun g => [.sl 0 1 0 1, vI (g.2 : Int)]
  own := fun g => [.arr 3 [g.1]]
  pre := fun g => 1 ≤ g.2 ∧ g.2 ≤ 1000
  nnew := 1
  res := fun g _ => .sl 1 1 0 g.2
  own' := fun g _ => [some (.arr 3 [g.1]), some (.arr 3 (List.replicate g.2 g.1))]
  post := fun _ _ => True
theorem m_repeat : Meets Try.prog regF 84 spRepeat := by
  refine meets Try.func84 48 noWr rfl (by kernel_rfl) (by kernel_rfl) ?_
  rintro ⟨(x : Int), (c : Nat)⟩ ⟨(hc1 : 1 ≤ c), (hc2 : c ≤ 1000)⟩
  conv => whnf
  repeat' (first | (refine tell (fun htest => ?_) (fun htest => ?_) <;> (try dsimp only at htest) <;> first | (exfalso; omega) | (exact absurd rfl htest) | (exact absurd (by decide) htest) | (conv => whnf)) | (refine allG rfl ?_; conv => whnf) | (refine And.intro (by first | omega | assumption | kernel_rfl | exact And.intro rfl rfl | ((try dsimp only [inR, idx, lowOf]); first | omega | (with_reducible decide) | (simp; omega) | fail) | fail) ?_; conv => whnf) | fail)
  have w64 : ∀ k : Nat, k < 18446744073709551616 → IntKind.u64.wrap (k : Int) = (k : Int) := fun k hk => by rw [IntKind.wrap_u64]; omega
  have wi64 : ∀ k : Nat, k < 9223372036854775808 → IntKind.i64.wrap (k : Int) = (k : Int) := fun k hk => by rw [IntKind.wrap_i64]; omega
  refine ⟨_, m_mul1, c, [], false, ?_⟩
  conv => whnf
  refine And.intro (vc0 (show c < 18446744073709551616 by omega) (by (repeat' (first | exact trivial | exact rfl | refine And.intro ?_ ?_ | (refine congrArg vI ?_; first | omega | (dsimp only; omega) | fail) | (refine congrArg some ?_) | omega | exact Nat.le_refl _ | exact congrArg (SV.lst _) (List.take_of_length_le (Nat.le_refl _)).symm)); all_goals (exact congrArg (fun z : Int => (SV.val (Value.int .u64 z) : SV AF)) (w64 _ (by omega)))) (by repeat' (first | exact trivial | exact rfl | refine And.intro ?_ ?_ | (refine congrArg vI ?_; first | omega | (dsimp only; omega) | fail) | (refine congrArg some ?_) | omega | exact Nat.le_refl _ | exact congrArg (SV.lst _) (List.take_of_length_le (Nat.le_refl _)).symm)) trivial trivial) ?_
  refine And.intro ⟨(), trivial⟩ (fun (_ : Unit) _ => ?_)
  conv => whnf
  conv => whnf
  repeat' (first | (refine tell (fun htest => ?_) (fun htest => ?_) <;> (try dsimp only at htest) <;> first | (exfalso; omega) | (exact absurd rfl htest) | (exact absurd (by decide) htest) | (conv => whnf)) | (refine allG rfl ?_; conv => whnf) | (refine And.intro (by first | omega | assumption | kernel_rfl | exact And.intro rfl rfl | ((try dsimp only [inR, idx, lowOf]); first | omega | (with_reducible decide) | (simp; omega) | fail) | fail) ?_; conv => whnf) | fail)
  rw [wi64 c (by omega)]
  refine And.intro ⟨rfl, by omega, by omega, by omega⟩ ?_
  rw [Int.toNat_natCast]
  conv => whnf
  repeat' (first | (refine tell (fun htest => ?_) (fun htest => ?_) <;> (try dsimp only at htest) <;> first | (exfalso; omega) | (exact absurd rfl htest) | (exact absurd (by decide) htest) | (conv => whnf)) | (refine allG rfl ?_; conv => whnf) | (refine And.intro (by first | omega | assumption | kernel_rfl | exact And.intro rfl rfl | ((try dsimp only [inR, idx, lowOf]); first | omega | (with_reducible decide) | (simp; omega) | fail) | fail) ?_; conv => whnf) | fail)
  refine ⟨Nat, fun m => ⟨[(7, .sl 3000 1 0 c), (8, vI m)], [(0, .arr 3 [x]), (3000, .arr 3 (repC x m c))]⟩, fun m => 1 ≤ m ∧ m ≤ c, fun m => c - m, fun _ _ => rfl, ⟨1, [(3000, 1030)], ⟨Nat.le_refl 1, hc1⟩, ?_⟩, ?_⟩
  · refine ⟨rfl, ?_, ?_, rfl⟩
    all_goals (repeat' (first | exact trivial | exact rfl | refine And.intro ?_ ?_ | (refine congrArg vI ?_; first | omega | (dsimp only; omega) | fail) | (refine congrArg some ?_) | omega | exact Nat.le_refl _ | exact congrArg (SV.lst _) (List.take_of_length_le (Nat.le_refl _)).symm))
    all_goals (exact congrArg (Ct.arr (A := AF) 3) (show (List.replicate c (0 : Int)).take 0 ++ ([x].drop 0).take (min 1 c) ++ (List.replicate c 0).drop (0 + min 1 c) = repC x 1 c by rw [show min 1 c = 1 by omega]; simp [repC]))
  rintro (m : Nat) ⟨(hm1 : 1 ≤ m), (hmc : m ≤ c)⟩
  by_cases hlt : m < c
  · have hst := rep_step (x := x) (m := m) (c := c) (by omega)
    have hln : (repC x m c).length = c := by simp [repC]; omega
    conv => whnf
    repeat' (first | (refine tell (fun htest => ?_) (fun htest => ?_) <;> (try dsimp only at htest) <;> first | (exfalso; omega) | (exact absurd rfl htest) | (exact absurd (by decide) htest) | (conv => whnf)) | (refine allG rfl ?_; conv => whnf) | (refine And.intro (by first | omega | assumption | kernel_rfl | exact And.intro rfl rfl | ((try dsimp only [inR, idx, lowOf]); first | omega | (with_reducible decide) | (simp; omega) | fail) | fail) ?_; conv => whnf) | fail)
    refine ⟨m + min m (c - m), [], ⟨by omega, by omega⟩, ?_, rfl, ?_, ?_, rfl⟩
    · dsimp only; omega
    · refine And.intro rfl (And.intro ?_ trivial)
      exact congrArg vI (show (m : Int) + ((min (m - 0) (c - m) : Nat) : Int) = ((m + min m (c - m) : Nat) : Int) by omega)
    · refine And.intro rfl (And.intro ?_ trivial)
      exact congrArg (Ct.arr (A := AF) 3) (show (repC x m c).take (0 + m) ++ (((repC x m c).drop 0).take (min (m - 0) (c - m))) ++ (repC x m c).drop (0 + m + min (m - 0) (c - m)) = repC x (m + min m (c - m)) c by rw [Nat.sub_zero, Nat.zero_add]; exact hst)
  · have hme : m = c := by omega
    subst hme
    conv => whnf
    repeat' (first | (refine tell (fun htest => ?_) (fun htest => ?_) <;> (try dsimp only at htest) <;> first | (exfalso; omega) | (exact absurd rfl htest) | (exact absurd (by decide) htest) | (conv => whnf)) | (refine allG rfl ?_; conv => whnf) | (refine And.intro (by first | omega | assumption | kernel_rfl | exact And.intro rfl rfl | ((try dsimp only [inR, idx, lowOf]); first | omega | (with_reducible decide) | (simp; omega) | fail) | fail) ?_; conv => whnf) | fail)
    exact ⟨(), [3000], trivial, rfl, ⟨rfl, congrArg (Ct.arr (A := AF) 3) (show repC x m m = List.replicate m x by simp [repC]), trivial⟩, trivial⟩
end Go.Sx


/-
  Layer 12, part C: what is known of a node, the nearest first; Far.
-/
namespace Go.Sx
open Go Go.Proofs Go.Proofs.Ytmogappoadglgaa
def spKnown : Spec AF where
  γ := (Int × List Edge) × List Int × Int
  δ := Unit
  args := fun g => [layS g.1.1 g.1.2, .lst 3 g.2.1, vI g.2.2]
  own := fun _ => []
  pre := fun _ => True
  nnew := 3
  res := fun _ _ => .fn (.func 99) [] [.ptr 0 0 1 0, .ptr 1 0 1 0, .ptr 2 0 2 0]
  own' := fun g _ => [some (.cells [vI g.2.2]), some (.cells [.lst 3 g.2.1]), some (layC g.1.1 g.1.2)]
  post := fun _ _ => True
theorem m_known : Meets Try.prog regF 85 spKnown := by
  refine meets Try.func85 8 noWr rfl (by kernel_rfl) (by kernel_rfl) ?_
  rintro ⟨⟨(n : Int), (es : List Edge)⟩, (bl : List Int), (t : Int)⟩ _
  conv => whnf
  repeat' (first | (refine tell (fun htest => ?_) (fun htest => ?_) <;> (try dsimp only at htest) <;> first | (exfalso; omega) | (exact absurd rfl htest) | (exact absurd (by decide) htest) | (conv => whnf)) | (refine allG rfl ?_; conv => whnf) | (refine And.intro (by first | omega | assumption | kernel_rfl | exact And.intro rfl rfl | ((try dsimp only [inR, idx, lowOf]); first | omega | (with_reducible decide) | (simp; omega) | fail) | fail) ?_; conv => whnf) | fail)
  exact ⟨(), [1005, 1004, 1003], trivial, rfl, ⟨⟨rfl, trivial⟩, ⟨rfl, trivial⟩, ⟨rfl, rfl, trivial⟩, trivial⟩, trivial⟩
/-- What Far's loop does with a node. -/
def spYield : Spec AF where
  γ := List Int × Int × Int
  δ := Unit
  args := fun g => [vI g.2.1, vI g.2.2]
  own := fun g => [.arr 3 g.1, .cells [.sl 0 1 0 g.1.length]]
  pre := fun g => 0 ≤ g.2.1 ∧ g.2.1 < g.1.length
  nnew := 0
  res := fun _ _ => vB true
  own' := fun g _ => [some (.arr 3 (g.1.set g.2.1.toNat g.2.2)), some (.cells [.sl 0 1 0 g.1.length])]
  post := fun _ _ => True
noncomputable def spIt (l : Nat) : Spec AF where
  γ := (Int × List Edge) × List Int × Int
  δ := Unit
  args := fun _ => [.val (.func (.yield l) #[] #[]), .ptr 2 0 1 0, .ptr 3 0 1 0, .ptr 4 0 2 0]
  own := fun g => [.arr 3 (List.replicate g.1.1.toNat (-1)), .cells [.sl 0 1 0 g.1.1.toNat], .cells [vI g.2.2], .cells [.lst 3 g.2.1], layC g.1.1 g.1.2]
  pre := fun g => RightL g.1.1 g.1.2 ∧ 0 ≤ g.2.2 ∧ g.2.2 < g.1.1 ∧ g.2.1.length ≤ 9223372036854775807
  nnew := 0
  res := fun _ _ => .tup []
  own' := fun g _ => [some (.arr 3 (farF g.1.1 g.1.2 g.2.1 g.2.2)), some (.cells [.sl 0 1 0 g.1.1.toNat]), none, none, none]
  post := fun _ _ => True
noncomputable def outOf (n : Int) (es : List Edge) (bl : List Int) (t : Int) (dn : List Bool) : List Int := (List.range n.toNat).map fun (i : Nat) => if dn[i]? = some true then farV es bl t i else -1
theorem outOf_len {n : Int} {es : List Edge} {bl : List Int} {t : Int} {dn : List Bool} : (outOf n es bl t dn).length = n.toNat := by simp [outOf]
theorem outOf_start {n : Int} {es : List Edge} {bl : List Int} {t : Int} : outOf n es bl t (List.replicate 40 false) = List.replicate n.toNat (-1) := by
  unfold outOf
  apply List.ext_getElem?
  intro i
  rw [List.getElem?_map, List.getElem?_replicate]
  by_cases h : i < n.toNat
  · have : (List.replicate 40 false)[i]? ≠ some true := fun h => by
      rw [List.getElem?_replicate] at h
      split at h <;> cases h
    rw [List.getElem?_range h, Option.map_some, if_neg this, if_pos h]
  · simp [h]
theorem outOf_set {n : Int} {es : List Edge} {bl : List Int} {t v : Int} {dn : List Bool} (h0 : 0 ≤ v) (hl : dn.length = 40) (hv : v < 40) : outOf n es bl t (dn.set v.toNat true) = (outOf n es bl t dn).set v.toNat (farV es bl t v) := by
  apply List.ext_getElem?
  intro i
  rw [List.getElem?_set, outOf_len]
  unfold outOf
  rw [List.getElem?_map, List.getElem?_map]
  by_cases h : i < n.toNat
  · rw [List.getElem?_range h]
    by_cases e : v.toNat = i
    · subst e
      rw [Option.map_some, if_pos rfl, if_pos h, List.getElem?_set_self (by omega), if_pos rfl, Int.toNat_of_nonneg h0]
    · rw [if_neg e, Option.map_some, Option.map_some, List.getElem?_set_ne e]
  · rw [List.getElem?_eq_none (by simp; omega), Option.map_none]
    by_cases e : v.toNat = i
    · subst e; simp [h]
    · rw [if_neg e, Option.map_none]
theorem outOf_end {n : Int} {es : List Edge} {bl : List Int} {t : Int} {dn : List Bool} (hR : RightL n es) (h0 : 0 ≤ t) (ht : t < n) (h : Dij n es bl t dn []) : outOf n es bl t dn = farF n es bl t := by
  unfold outOf farF
  refine List.map_congr_left fun i hi => ?_
  have hi : i < n.toNat := by simpa using hi
  split
  · rfl
  · rename_i hd
    have hlt : i < dn.length := by have := hR.most; have := h.len; omega
    cases hb : dn[i] with
    | true => exact absurd (by rw [List.getElem?_eq_getElem hlt, hb]) hd
    | false => exact (dij_end hR h0 ht h (by rw [List.getElem?_eq_getElem hlt, hb]) (by omega)).symm
theorem count_set {dn : List Bool} {i : Nat} (h : dn[i]? = some false) : (dn.set i true).count true = dn.count true + 1 := by
  obtain ⟨hlt, h1⟩ := List.getElem?_eq_some_iff.1 h
  induction dn generalizing i with
  | nil => simp at hlt
  | cons b l ih =>
    cases i with
    | zero => simp at h1; subst h1; simp
    | succ i =>
      have := ih (i := i) (by simpa using h) (by simpa using hlt) (by simpa using h1)
      rw [List.set_cons_succ, List.count_cons, List.count_cons, this]
      split <;> omega
theorem count_le {dn : List Bool} : dn.count true ≤ dn.length := List.count_le_length
/-- What holds between two nodes. -/
structure KInv (n : Int) (es : List Edge) (bl : List Int) (t : Int) (dn : List Bool) (H ws : List Item) : Prop where
  heap : HeapL H
  room : ∃ ys, ws = H ++ ys
  dij : Dij n es bl t dn H
  few : H.length ≤ 1 + 120 * dn.count true
set_option maxHeartbeats 3200000 in
theorem it_known : MeetsIt Try.prog regF 2 spYield 99 spIt := by
  refine meetsIt Try.func99 65 noWr rfl (by kernel_rfl) (by kernel_rfl) (by decide) fun l Y hy => ?_
  rintro ⟨⟨(n : Int), (es : List Edge)⟩, (bl : List Int), (t : Int)⟩ ⟨(hR : RightL n es), (h0 : 0 ≤ t), (ht : t < n), (hbl : bl.length ≤ 9223372036854775807)⟩
  have hm := hR.most
  have hl := hR.len
  conv => whnf
  repeat' (first | (refine tell (fun htest => ?_) (fun htest => ?_) <;> (try dsimp only at htest) <;> first | (exfalso; omega) | (exact absurd rfl htest) | (exact absurd (by decide) htest) | (conv => whnf)) | (refine allG rfl ?_; conv => whnf) | (refine And.intro (by first | omega | assumption | kernel_rfl | exact And.intro rfl rfl | ((try dsimp only [inR, idx, lowOf]); first | omega | (with_reducible decide) | (simp; omega) | fail) | fail) ?_; conv => whnf) | fail)
  refine ⟨_, m_new, (), [], false, ?_⟩
  conv => whnf
  refine And.intro (vc0 trivial (by (repeat' (first | exact trivial | exact rfl | refine And.intro ?_ ?_ | (refine congrArg vI ?_; first | omega | (dsimp only; omega) | fail) | (refine congrArg some ?_) | omega | exact Nat.le_refl _ | exact congrArg (SV.lst _) (List.take_of_length_le (Nat.le_refl _)).symm))) (by repeat' (first | exact trivial | exact rfl | refine And.intro ?_ ?_ | (refine congrArg vI ?_; first | omega | (dsimp only; omega) | fail) | (refine congrArg some ?_) | omega | exact Nat.le_refl _ | exact congrArg (SV.lst _) (List.take_of_length_le (Nat.le_refl _)).symm)) trivial trivial) ?_
  refine And.intro ⟨(), trivial⟩ (fun (_ : Unit) _ => ?_)
  conv => whnf
  conv => whnf
  repeat' (first | (refine tell (fun htest => ?_) (fun htest => ?_) <;> (try dsimp only at htest) <;> first | (exfalso; omega) | (exact absurd rfl htest) | (exact absurd (by decide) htest) | (conv => whnf)) | (refine allG rfl ?_; conv => whnf) | (refine And.intro (by first | omega | assumption | kernel_rfl | exact And.intro rfl rfl | ((try dsimp only [inR, idx, lowOf]); first | omega | (with_reducible decide) | (simp; omega) | fail) | fail) ?_; conv => whnf) | fail)
  refine ⟨_, m_push, ([], [], (0, t)), [1012, 2012], false, ?_⟩
  conv => whnf
  refine And.intro (vc0 ⟨fun j a b _ hb => by simp at hb, by show (0 : Nat) < _; decide, [], rfl⟩ (by (repeat' (first | exact trivial | exact rfl | refine And.intro ?_ ?_ | (refine congrArg vI ?_; first | omega | (dsimp only; omega) | fail) | (refine congrArg some ?_) | omega | exact Nat.le_refl _ | exact congrArg (SV.lst _) (List.take_of_length_le (Nat.le_refl _)).symm))) (by repeat' (first | exact trivial | exact rfl | refine And.intro ?_ ?_ | (refine congrArg vI ?_; first | omega | (dsimp only; omega) | fail) | (refine congrArg some ?_) | omega | exact Nat.le_refl _ | exact congrArg (SV.lst _) (List.take_of_length_le (Nat.le_refl _)).symm)) trivial trivial) ?_
  refine And.intro (heap_ex _) ?_
  rintro (d : List Item) ⟨(hp : List.Perm d [(0, t)]), (hd : HeapL d)⟩
  conv => whnf
  repeat' (first | (refine tell (fun htest => ?_) (fun htest => ?_) <;> (try dsimp only at htest) <;> first | (exfalso; omega) | (exact absurd rfl htest) | (exact absurd (by decide) htest) | (conv => whnf)) | (refine allG rfl ?_; conv => whnf) | (refine And.intro (by first | omega | assumption | kernel_rfl | exact And.intro rfl rfl | ((try dsimp only [inR, idx, lowOf]); first | omega | (with_reducible decide) | (simp; omega) | fail) | fail) ?_; conv => whnf) | fail)
  refine ⟨List Bool × List Item × List Item, fun p => ⟨[(0, .val (.func (.yield l) #[] #[])), (1, .ptr 2 0 1 0), (2, .ptr 3 0 1 0), (3, .ptr 4 0 2 0), (5, .ptr 1005 0 40 0), (6, .ptr 3001 0 2 0)], [(0, .arr 3 (outOf n es bl t p.1)), (1, .cells [.sl 0 1 0 n.toNat]), (2, .cells [vI t]), (3, .cells [.lst 3 bl]), (4, layC n es), (1005, .arr 4 p.1), (3001, .cells [.sl 3002 2 0 p.2.1.length, fnB]), (3002, .arr 97 p.2.2)]⟩, fun p => KInv n es bl t p.1 p.2.1 p.2.2, fun p => 200 * (41 - p.1.count true) + p.2.1.length, fun _ _ => rfl, ⟨(List.replicate 40 false, d, d), [(3001, 1012), (3002, 1015)], ⟨hd, ⟨[], by simp⟩, dij_start h0 ht hp, by rw [hp.length_eq]; simp⟩, ?_⟩, ?_⟩
  · refine ⟨rfl, ?_, ?_, rfl⟩
    all_goals (repeat' (first | exact trivial | exact rfl | refine And.intro ?_ ?_ | (refine congrArg vI ?_; first | omega | (dsimp only; omega) | fail) | (refine congrArg some ?_) | omega | exact Nat.le_refl _ | exact congrArg (SV.lst _) (List.take_of_length_le (Nat.le_refl _)).symm))
    all_goals (exact congrArg (Ct.arr (A := AF) 3) outOf_start.symm)
  rintro ⟨(dn : List Bool), (H : List Item), (ws : List Item)⟩ (hK : KInv n es bl t dn H ws)
  have hdl := hK.dij.len
  have hcl := count_le (dn := dn)
  have hfew := hK.few
  by_cases hH : H = []
  · have hz : H.length = 0 := by rw [hH]; rfl
    conv => whnf
    repeat' (first | (refine tell (fun htest => ?_) (fun htest => ?_) <;> (try dsimp only at htest) <;> first | (exfalso; omega) | (exact absurd rfl htest) | (exact absurd (by decide) htest) | (conv => whnf)) | (refine allG rfl ?_; conv => whnf) | (refine And.intro (by first | omega | assumption | kernel_rfl | exact And.intro rfl rfl | ((try dsimp only [inR, idx, lowOf]); first | omega | (with_reducible decide) | (simp; omega) | fail) | fail) ?_; conv => whnf) | fail)
    refine ⟨_, m_len, (H, ws), [3001, 3002], false, ?_⟩
    conv => whnf
    refine And.intro (vc0 trivial (by (repeat' (first | exact trivial | exact rfl | refine And.intro ?_ ?_ | (refine congrArg vI ?_; first | omega | (dsimp only; omega) | fail) | (refine congrArg some ?_) | omega | exact Nat.le_refl _ | exact congrArg (SV.lst _) (List.take_of_length_le (Nat.le_refl _)).symm))) (by repeat' (first | exact trivial | exact rfl | refine And.intro ?_ ?_ | (refine congrArg vI ?_; first | omega | (dsimp only; omega) | fail) | (refine congrArg some ?_) | omega | exact Nat.le_refl _ | exact congrArg (SV.lst _) (List.take_of_length_le (Nat.le_refl _)).symm)) trivial trivial) ?_
    refine And.intro ⟨(), trivial⟩ (fun (_ : Unit) _ => ?_)
    conv => whnf
    conv => whnf
    repeat' (first | (refine tell (fun htest => ?_) (fun htest => ?_) <;> (try dsimp only at htest) <;> first | (exfalso; omega) | (exact absurd rfl htest) | (exact absurd (by decide) htest) | (conv => whnf)) | (refine allG rfl ?_; conv => whnf) | (refine And.intro (by first | omega | assumption | kernel_rfl | exact And.intro rfl rfl | ((try dsimp only [inR, idx, lowOf]); first | omega | (with_reducible decide) | (simp; omega) | fail) | fail) ?_; conv => whnf) | fail)
    refine ⟨(), [], trivial, trivial, ⟨?_, ⟨rfl, trivial⟩, trivial, trivial, trivial, trivial⟩, trivial⟩
    exact congrArg (Ct.arr (A := AF) 3) (outOf_end hR h0 ht (by rw [← hH]; exact hK.dij))
  · have hHp : 0 < H.length := List.length_pos_iff.2 hH
    obtain ⟨ys, hws⟩ := hK.room
    conv => whnf
    repeat' (first | (refine tell (fun htest => ?_) (fun htest => ?_) <;> (try dsimp only at htest) <;> first | (exfalso; omega) | (exact absurd rfl htest) | (exact absurd (by decide) htest) | (conv => whnf)) | (refine allG rfl ?_; conv => whnf) | (refine And.intro (by first | omega | assumption | kernel_rfl | exact And.intro rfl rfl | ((try dsimp only [inR, idx, lowOf]); first | omega | (with_reducible decide) | (simp; omega) | fail) | fail) ?_; conv => whnf) | fail)
    refine ⟨_, m_len, (H, ws), [3001, 3002], false, ?_⟩
    conv => whnf
    refine And.intro (vc0 trivial (by (repeat' (first | exact trivial | exact rfl | refine And.intro ?_ ?_ | (refine congrArg vI ?_; first | omega | (dsimp only; omega) | fail) | (refine congrArg some ?_) | omega | exact Nat.le_refl _ | exact congrArg (SV.lst _) (List.take_of_length_le (Nat.le_refl _)).symm))) (by repeat' (first | exact trivial | exact rfl | refine And.intro ?_ ?_ | (refine congrArg vI ?_; first | omega | (dsimp only; omega) | fail) | (refine congrArg some ?_) | omega | exact Nat.le_refl _ | exact congrArg (SV.lst _) (List.take_of_length_le (Nat.le_refl _)).symm)) trivial trivial) ?_
    refine And.intro ⟨(), trivial⟩ (fun (_ : Unit) _ => ?_)
    conv => whnf
    conv => whnf
    repeat' (first | (refine tell (fun htest => ?_) (fun htest => ?_) <;> (try dsimp only at htest) <;> first | (exfalso; omega) | (exact absurd rfl htest) | (exact absurd (by decide) htest) | (conv => whnf)) | (refine allG rfl ?_; conv => whnf) | (refine And.intro (by first | omega | assumption | kernel_rfl | exact And.intro rfl rfl | ((try dsimp only [inR, idx, lowOf]); first | omega | (with_reducible decide) | (simp; omega) | fail) | fail) ?_; conv => whnf) | fail)
    refine ⟨_, m_pop, (H, ws), [3001, 3002], false, ?_⟩
    conv => whnf
    refine And.intro (vc0 ⟨hK.heap, by show H.length ≤ 1000000; omega, ys, hws⟩ (by (repeat' (first | exact trivial | exact rfl | refine And.intro ?_ ?_ | (refine congrArg vI ?_; first | omega | (dsimp only; omega) | fail) | (refine congrArg some ?_) | omega | exact Nat.le_refl _ | exact congrArg (SV.lst _) (List.take_of_length_le (Nat.le_refl _)).symm))) (by repeat' (first | exact trivial | exact rfl | refine And.intro ?_ ?_ | (refine congrArg vI ?_; first | omega | (dsimp only; omega) | fail) | (refine congrArg some ?_) | omega | exact Nat.le_refl _ | exact congrArg (SV.lst _) (List.take_of_length_le (Nat.le_refl _)).symm)) trivial trivial) ?_
    refine And.intro (pop_ex hK.heap) ?_
    rintro ⟨(H1 : List Item), (w1 : List Item), ⟨(c : Int), (v : Int)⟩, (ok : Bool)⟩ ⟨(hH1 : HeapL H1), (hw1 : ∃ ys, w1 = H1 ++ ys), hcase⟩
    rcases hcase with ⟨h, _⟩ | ⟨(hpm : List.Perm ((c, v) :: H1) H), (hmin : ∀ b ∈ H, leP (c, v) b), (hok : ok = true)⟩
    · exact absurd h hH
    subst hok
    obtain ⟨hv0, hvn, hvw, hvc⟩ := hK.dij.way (c, v) (hpm.mem_iff.1 (by simp))
    have hv0 : 0 ≤ v := hv0
    have hvn : v < n := hvn
    have hvc : c ≤ 41000 := hvc
    have hc0 : 0 ≤ c := wayC_nonneg hR hvw
    have hlH := hpm.length_eq
    rw [List.length_cons] at hlH
    obtain ⟨b, hb⟩ : ∃ b, dn[v.toNat]? = some b := ⟨_, List.getElem?_eq_getElem (by omega)⟩
    cases b
    · obtain ⟨hfv, hD2⟩ := dij_first hR h0 ht hK.dij hpm hmin hb
      have hln := outOf_len (n := n) (es := es) (bl := bl) (t := t) (dn := dn)
      have hcs := count_set hb
      conv => whnf
      repeat' (first | (refine tell (fun htest => ?_) (fun htest => ?_) <;> (try dsimp only at htest) <;> first | (exfalso; omega) | (exact absurd rfl htest) | (exact absurd (by decide) htest) | (conv => whnf)) | (refine allG (x := false) (by first | exact hb | simpa [List.getElem?_append_right, lowOf] using hb | fail) ?_; conv => whnf) | (refine allLst (x := false) (by first | omega | assumption | fail) (by first | exact hb | simpa using hb | fail) ?_; conv => whnf) | (refine allG rfl ?_; conv => whnf) | (refine And.intro (by first | omega | assumption | kernel_rfl | exact And.intro rfl rfl | ((try dsimp only [inR, idx, lowOf]); first | omega | (with_reducible decide) | (simp; omega) | fail) | fail) ?_; conv => whnf) | fail)
      refine ⟨_, hy, (outOf n es bl t dn, v, c), rfl, ?_⟩
      conv => whnf
      refine And.intro (vc0 (show 0 ≤ v ∧ v < (outOf n es bl t dn).length by omega) ⟨rfl, rfl, trivial⟩ ⟨rfl, congrArg (fun k => some (Ct.cells (A := AF) [.sl 0 1 0 k])) hln.symm, trivial⟩ trivial trivial) ?_
      refine And.intro ⟨(), trivial⟩ (fun (_ : Unit) _ => ?_)
      conv => whnf
      conv => whnf
      repeat' (first | (refine tell (fun htest => ?_) (fun htest => ?_) <;> (try dsimp only at htest) <;> first | (exfalso; omega) | (exact absurd rfl htest) | (exact absurd (by decide) htest) | (conv => whnf)) | (refine allG rfl ?_; conv => whnf) | (refine And.intro (by first | omega | assumption | kernel_rfl | exact And.intro rfl rfl | ((try dsimp only [inR, idx, lowOf]); first | omega | (with_reducible decide) | (simp; omega) | fail) | fail) ?_; conv => whnf) | fail)
      have hos := outOf_set (n := n) (es := es) (bl := bl) (t := t) hv0 hdl (show v < 40 by omega)
      rw [hfv] at hos
      have hdl2 := hD2.len
      have hcl2 := count_le (dn := dn.set v.toNat true)
      refine ⟨_, m_contains, (bl, v), [], false, ?_⟩
      conv => whnf
      refine And.intro (vc0 hbl (by (repeat' (first | exact trivial | exact rfl | refine And.intro ?_ ?_ | (refine congrArg vI ?_; first | omega | (dsimp only; omega) | fail) | (refine congrArg some ?_) | omega | exact Nat.le_refl _ | exact congrArg (SV.lst _) (List.take_of_length_le (Nat.le_refl _)).symm))) (by repeat' (first | exact trivial | exact rfl | refine And.intro ?_ ?_ | (refine congrArg vI ?_; first | omega | (dsimp only; omega) | fail) | (refine congrArg some ?_) | omega | exact Nat.le_refl _ | exact congrArg (SV.lst _) (List.take_of_length_le (Nat.le_refl _)).symm)) trivial trivial) ?_
      refine And.intro (has_ex _ _) ?_
      intro (b : Bool) (hbv : b = true ↔ v ∈ bl)
      cases b
      · have hvb : v ∉ bl := fun h => by have := hbv.2 h; cases this
        conv => whnf
        repeat' (first | (refine tell (fun htest => ?_) (fun htest => ?_) <;> (try dsimp only at htest) <;> first | (exfalso; omega) | (exact absurd rfl htest) | (exact absurd (by decide) htest) | (conv => whnf)) | (refine allG rfl ?_; conv => whnf) | (refine And.intro (by first | omega | assumption | kernel_rfl | exact And.intro rfl rfl | ((try dsimp only [inR, idx, lowOf]); first | omega | (with_reducible decide) | (simp; omega) | fail) | fail) ?_; conv => whnf) | fail)
        refine ⟨Nat × List Item × List Item, fun p => ⟨[(0, .val (.func (.yield l) #[] #[])), (1, .ptr 2 0 1 0), (2, .ptr 3 0 1 0), (3, .ptr 4 0 2 0), (5, .ptr 1005 0 40 0), (6, .ptr 3001 0 2 0), (7, vI c), (8, vI v), (39, .lst 54 es), (40, vI es.length), (41, vI p.1)], [(0, .arr 3 (outOf n es bl t (dn.set v.toNat true))), (1, .cells [.sl 0 1 0 n.toNat]), (2, .cells [vI t]), (3, .cells [.lst 3 bl]), (4, layC n es), (1005, .arr 4 (dn.set v.toNat true)), (3001, .cells [.sl 3002 2 0 p.2.1.length, fnB]), (3002, .arr 97 p.2.2)]⟩, fun p => p.1 ≤ es.length ∧ HeapL p.2.1 ∧ (∃ ys, p.2.2 = p.2.1 ++ ys) ∧ Dij2 n es bl t (dn.set v.toNat true) v p.1 p.2.1 ∧ p.2.1.length ≤ H1.length + p.1, fun p => es.length - p.1, fun _ _ => rfl, ⟨(0, H1, w1), [], ⟨Nat.zero_le _, hH1, hw1, hD2, Nat.le_refl _⟩, ?_⟩, ?_⟩
        · refine ⟨rfl, ?_, ?_, rfl⟩
          all_goals (repeat' (first | exact trivial | exact rfl | refine And.intro ?_ ?_ | (refine congrArg vI ?_; first | omega | (dsimp only; omega) | fail) | (refine congrArg some ?_) | omega | exact Nat.le_refl _ | exact congrArg (SV.lst _) (List.take_of_length_le (Nat.le_refl _)).symm))
          all_goals (first | exact congrArg (Ct.arr (A := AF) 3) hos.symm | exact congrArg (SV.sl (A := AF) 0 1 0) hln)
        rintro ⟨(i : Nat), (H2 : List Item), (w2 : List Item)⟩ ⟨(hi : i ≤ es.length), (hH2 : HeapL H2), (hw2 : ∃ ys, w2 = H2 ++ ys), (hDi : Dij2 n es bl t (dn.set v.toNat true) v i H2), (hfi : H2.length ≤ H1.length + i)⟩
        by_cases hlt : i < es.length
        · obtain ⟨e, he⟩ : ∃ e, es[i]? = some e := ⟨_, List.getElem?_eq_getElem hlt⟩
          have hmem : e ∈ es := List.mem_of_getElem? he
          obtain ⟨o1, o2, o3, o4, _, o6, o7⟩ := hR.each e hmem
          obtain ⟨b2, hb2⟩ : ∃ b2, (dn.set v.toNat true)[e.1.toNat]? = some b2 := ⟨_, List.getElem?_eq_getElem (by omega)⟩
          by_cases hev : e.2.1 = v
          · cases b2
            · conv => whnf
              repeat' (first | (refine tell (fun htest => ?_) (fun htest => ?_) <;> (try dsimp only at htest) <;> first | (exfalso; omega) | (exact absurd rfl htest) | (exact absurd (by decide) htest) | (conv => whnf)) | (refine allG (x := e) (by first | exact he | simpa [List.getElem?_append_right, lowOf] using he | fail) ?_; conv => whnf) | (refine allLst (x := e) (by first | omega | assumption | fail) (by first | exact he | simpa using he | fail) ?_; conv => whnf) | (refine allG (x := false) (by first | exact hb2 | simpa [List.getElem?_append_right, lowOf] using hb2 | fail) ?_; conv => whnf) | (refine allLst (x := false) (by first | omega | assumption | fail) (by first | exact hb2 | simpa using hb2 | fail) ?_; conv => whnf) | (refine allG rfl ?_; conv => whnf) | (refine And.intro (by first | omega | assumption | kernel_rfl | exact And.intro rfl rfl | ((try dsimp only [inR, idx, lowOf]); first | omega | (with_reducible decide) | (simp; omega) | fail) | fail) ?_; conv => whnf) | fail)
              refine ⟨_, m_push, (H2, w2, (c + e.2.2, e.1)), [3001, 3002], false, ?_⟩
              conv => whnf
              refine And.intro (vc0 ⟨hH2, by show H2.length < 1000000; omega, hw2⟩ (by (repeat' (first | exact trivial | exact rfl | refine And.intro ?_ ?_ | (refine congrArg vI ?_; first | omega | (dsimp only; omega) | fail) | (refine congrArg some ?_) | omega | exact Nat.le_refl _ | exact congrArg (SV.lst _) (List.take_of_length_le (Nat.le_refl _)).symm))) (by repeat' (first | exact trivial | exact rfl | refine And.intro ?_ ?_ | (refine congrArg vI ?_; first | omega | (dsimp only; omega) | fail) | (refine congrArg some ?_) | omega | exact Nat.le_refl _ | exact congrArg (SV.lst _) (List.take_of_length_le (Nat.le_refl _)).symm)) trivial trivial) ?_
              refine And.intro (heap_ex _) ?_
              rintro (d2 : List Item) ⟨(hp2 : List.Perm d2 ((c + e.2.2, e.1) :: H2)), (hd2 : HeapL d2)⟩
              have hpl := hp2.length_eq
              rw [List.length_cons] at hpl
              conv => whnf
              repeat' (first | (refine tell (fun htest => ?_) (fun htest => ?_) <;> (try dsimp only at htest) <;> first | (exfalso; omega) | (exact absurd rfl htest) | (exact absurd (by decide) htest) | (conv => whnf)) | (refine allG rfl ?_; conv => whnf) | (refine And.intro (by first | omega | assumption | kernel_rfl | exact And.intro rfl rfl | ((try dsimp only [inR, idx, lowOf]); first | omega | (with_reducible decide) | (simp; omega) | fail) | fail) ?_; conv => whnf) | fail)
              refine ⟨(i + 1, d2, d2), [(3002, 1063)], ⟨hlt, hd2, ⟨[], by simp⟩, dij_push hR h0 ht he hDi hev hvb hfv hc0 hp2, by show d2.length ≤ H1.length + (i + 1); omega⟩, ?_, rfl, ?_, ?_, rfl⟩
              · dsimp only; first | omega | (simp; done) | (simp; omega)
              all_goals (repeat' (first | exact trivial | exact rfl | refine And.intro ?_ ?_ | (refine congrArg vI ?_; first | omega | (dsimp only; omega) | fail) | (refine congrArg some ?_) | omega | exact Nat.le_refl _ | exact congrArg (SV.lst _) (List.take_of_length_le (Nat.le_refl _)).symm))
            · conv => whnf
              repeat' (first | (refine tell (fun htest => ?_) (fun htest => ?_) <;> (try dsimp only at htest) <;> first | (exfalso; omega) | (exact absurd rfl htest) | (exact absurd (by decide) htest) | (conv => whnf)) | (refine allG (x := e) (by first | exact he | simpa [List.getElem?_append_right, lowOf] using he | fail) ?_; conv => whnf) | (refine allLst (x := e) (by first | omega | assumption | fail) (by first | exact he | simpa using he | fail) ?_; conv => whnf) | (refine allG (x := true) (by first | exact hb2 | simpa [List.getElem?_append_right, lowOf] using hb2 | fail) ?_; conv => whnf) | (refine allLst (x := true) (by first | omega | assumption | fail) (by first | exact hb2 | simpa using hb2 | fail) ?_; conv => whnf) | (refine allG rfl ?_; conv => whnf) | (refine And.intro (by first | omega | assumption | kernel_rfl | exact And.intro rfl rfl | ((try dsimp only [inR, idx, lowOf]); first | omega | (with_reducible decide) | (simp; omega) | fail) | fail) ?_; conv => whnf) | fail)
              refine ⟨(i + 1, H2, w2), [], ⟨hlt, hH2, hw2, dij_skip he hDi (.inr hb2), by show H2.length ≤ H1.length + (i + 1); omega⟩, ?_, rfl, ?_, ?_, rfl⟩
              · dsimp only; first | omega | (simp; done) | (simp; omega)
              all_goals (repeat' (first | exact trivial | exact rfl | refine And.intro ?_ ?_ | (refine congrArg vI ?_; first | omega | (dsimp only; omega) | fail) | (refine congrArg some ?_) | omega | exact Nat.le_refl _ | exact congrArg (SV.lst _) (List.take_of_length_le (Nat.le_refl _)).symm))
          · conv => whnf
            repeat' (first | (refine tell (fun htest => ?_) (fun htest => ?_) <;> (try dsimp only at htest) <;> first | (exfalso; omega) | (exact absurd rfl htest) | (exact absurd (by decide) htest) | (conv => whnf)) | (refine allG (x := e) (by first | exact he | simpa [List.getElem?_append_right, lowOf] using he | fail) ?_; conv => whnf) | (refine allLst (x := e) (by first | omega | assumption | fail) (by first | exact he | simpa using he | fail) ?_; conv => whnf) | (refine allG rfl ?_; conv => whnf) | (refine And.intro (by first | omega | assumption | kernel_rfl | exact And.intro rfl rfl | ((try dsimp only [inR, idx, lowOf]); first | omega | (with_reducible decide) | (simp; omega) | fail) | fail) ?_; conv => whnf) | fail)
            refine ⟨(i + 1, H2, w2), [], ⟨hlt, hH2, hw2, dij_skip he hDi (.inl hev), by show H2.length ≤ H1.length + (i + 1); omega⟩, ?_, rfl, ?_, ?_, rfl⟩
            · dsimp only; first | omega | (simp; done) | (simp; omega)
            all_goals (repeat' (first | exact trivial | exact rfl | refine And.intro ?_ ?_ | (refine congrArg vI ?_; first | omega | (dsimp only; omega) | fail) | (refine congrArg some ?_) | omega | exact Nat.le_refl _ | exact congrArg (SV.lst _) (List.take_of_length_le (Nat.le_refl _)).symm))
        · have hie : i = es.length := by omega
          subst hie
          conv => whnf
          repeat' (first | (refine tell (fun htest => ?_) (fun htest => ?_) <;> (try dsimp only at htest) <;> first | (exfalso; omega) | (exact absurd rfl htest) | (exact absurd (by decide) htest) | (conv => whnf)) | (refine allG rfl ?_; conv => whnf) | (refine And.intro (by first | omega | assumption | kernel_rfl | exact And.intro rfl rfl | ((try dsimp only [inR, idx, lowOf]); first | omega | (with_reducible decide) | (simp; omega) | fail) | fail) ?_; conv => whnf) | fail)
          refine ⟨(dn.set v.toNat true, H2, w2), [], ⟨hH2, hw2, dij_done hDi, by show H2.length ≤ 1 + 120 * (dn.set v.toNat true).count true; omega⟩, ?_, rfl, ?_, ?_, rfl⟩
          · dsimp only; first | omega | (simp; done) | (simp; omega)
          all_goals (repeat' (first | exact trivial | exact rfl | refine And.intro ?_ ?_ | (refine congrArg vI ?_; first | omega | (dsimp only; omega) | fail) | (refine congrArg some ?_) | omega | exact Nat.le_refl _ | exact congrArg (SV.lst _) (List.take_of_length_le (Nat.le_refl _)).symm))
      · have hvb := hbv.1 rfl
        conv => whnf
        repeat' (first | (refine tell (fun htest => ?_) (fun htest => ?_) <;> (try dsimp only at htest) <;> first | (exfalso; omega) | (exact absurd rfl htest) | (exact absurd (by decide) htest) | (conv => whnf)) | (refine allG rfl ?_; conv => whnf) | (refine And.intro (by first | omega | assumption | kernel_rfl | exact And.intro rfl rfl | ((try dsimp only [inR, idx, lowOf]); first | omega | (with_reducible decide) | (simp; omega) | fail) | fail) ?_; conv => whnf) | fail)
        refine ⟨(dn.set v.toNat true, H1, w1), [], ⟨hH1, hw1, dij_blocked hvb hD2, by show H1.length ≤ 1 + 120 * (dn.set v.toNat true).count true; omega⟩, ?_, rfl, ?_, ?_, rfl⟩
        · dsimp only; first | omega | (simp; done) | (simp; omega)
        all_goals (repeat' (first | exact trivial | exact rfl | refine And.intro ?_ ?_ | (refine congrArg vI ?_; first | omega | (dsimp only; omega) | fail) | (refine congrArg some ?_) | omega | exact Nat.le_refl _ | exact congrArg (SV.lst _) (List.take_of_length_le (Nat.le_refl _)).symm))
        all_goals first | exact congrArg (Ct.arr (A := AF) 3) hos.symm | exact congrArg (SV.sl (A := AF) 0 1 0) hln
    · conv => whnf
      repeat' (first | (refine tell (fun htest => ?_) (fun htest => ?_) <;> (try dsimp only at htest) <;> first | (exfalso; omega) | (exact absurd rfl htest) | (exact absurd (by decide) htest) | (conv => whnf)) | (refine allG (x := true) (by first | exact hb | simpa [List.getElem?_append_right, lowOf] using hb | fail) ?_; conv => whnf) | (refine allLst (x := true) (by first | omega | assumption | fail) (by first | exact hb | simpa using hb | fail) ?_; conv => whnf) | (refine allG rfl ?_; conv => whnf) | (refine And.intro (by first | omega | assumption | kernel_rfl | exact And.intro rfl rfl | ((try dsimp only [inR, idx, lowOf]); first | omega | (with_reducible decide) | (simp; omega) | fail) | fail) ?_; conv => whnf) | fail)
      refine ⟨(dn, H1, w1), [], ⟨hH1, hw1, dij_again hv0 hK.dij hpm hb, by show H1.length ≤ 1 + 120 * dn.count true; omega⟩, ?_, rfl, ?_, ?_, rfl⟩
      · dsimp only; first | omega | (simp; done) | (simp; omega)
      all_goals (repeat' (first | exact trivial | exact rfl | refine And.intro ?_ ?_ | (refine congrArg vI ?_; first | omega | (dsimp only; omega) | fail) | (refine congrArg some ?_) | omega | exact Nat.le_refl _ | exact congrArg (SV.lst _) (List.take_of_length_le (Nat.le_refl _)).symm))
noncomputable def spFar : Spec AF where
  γ := (Int × List Edge) × List Int × Int
  δ := Unit
  args := fun g => [layS g.1.1 g.1.2, .lst 3 g.2.1, vI g.2.2]
  own := fun _ => []
  pre := fun g => RightL g.1.1 g.1.2 ∧ 0 ≤ g.2.2 ∧ g.2.2 < g.1.1 ∧ GoodL g.1.2 ∧ g.2.1.length ≤ 9223372036854775807
  nnew := 0
  res := fun g _ => .lst 3 (farF g.1.1 g.1.2 g.2.1 g.2.2)
  own' := fun _ _ => []
  post := fun _ _ => True
set_option maxHeartbeats 1600000 in
theorem m_far : Meets Try.prog regF 53 spFar := by
  refine meets Try.func53 38 noWr rfl (by kernel_rfl) (by kernel_rfl) ?_
  rintro ⟨⟨(n : Int), (es : List Edge)⟩, (bl : List Int), (t : Int)⟩ ⟨(hR : RightL n es), (h0 : 0 ≤ t), (ht : t < n), (hg : GoodL es), (hbl : bl.length ≤ 9223372036854775807)⟩
  obtain ⟨k, rfl⟩ := Int.eq_ofNat_of_zero_le (show 0 ≤ n from Int.le_of_lt hR.pos)
  have hk40 := hR.most
  have hkp := hR.pos
  conv => whnf
  repeat' (first | (refine tell (fun htest => ?_) (fun htest => ?_) <;> (try dsimp only at htest) <;> first | (exfalso; omega) | (exact absurd rfl htest) | (exact absurd (by decide) htest) | (conv => whnf)) | (refine allG rfl ?_; conv => whnf) | (refine And.intro (by first | omega | assumption | kernel_rfl | exact And.intro rfl rfl | ((try dsimp only [inR, idx, lowOf]); first | omega | (with_reducible decide) | (simp; omega) | fail) | fail) ?_; conv => whnf) | fail)
  refine ⟨_, m_right, (((k : Nat) : Int), es), [], false, ?_⟩
  conv => whnf
  refine And.intro (vc0 hg (by (repeat' (first | exact trivial | exact rfl | refine And.intro ?_ ?_ | (refine congrArg vI ?_; first | omega | (dsimp only; omega) | fail) | (refine congrArg some ?_) | omega | exact Nat.le_refl _ | exact congrArg (SV.lst _) (List.take_of_length_le (Nat.le_refl _)).symm))) (by repeat' (first | exact trivial | exact rfl | refine And.intro ?_ ?_ | (refine congrArg vI ?_; first | omega | (dsimp only; omega) | fail) | (refine congrArg some ?_) | omega | exact Nat.le_refl _ | exact congrArg (SV.lst _) (List.take_of_length_le (Nat.le_refl _)).symm)) trivial trivial) ?_
  refine And.intro (right_ex _ es) ?_
  intro (c : Bool) (hc : c = true ↔ RightL k es)
  cases c
  · have := hc.2 hR; cases this
  conv => whnf
  repeat' (first | (refine tell (fun htest => ?_) (fun htest => ?_) <;> (try dsimp only at htest) <;> first | (exfalso; omega) | (exact absurd rfl htest) | (exact absurd (by decide) htest) | (conv => whnf)) | (refine allG rfl ?_; conv => whnf) | (refine And.intro (by first | omega | assumption | kernel_rfl | exact And.intro rfl rfl | ((try dsimp only [inR, idx, lowOf]); first | omega | (with_reducible decide) | (simp; omega) | fail) | fail) ?_; conv => whnf) | fail)
  refine ⟨_, m_repeat, (-1, k), [1023], false, ?_⟩
  conv => whnf
  refine And.intro (vc0 ⟨by show 1 ≤ k; omega, by show k ≤ 1000; omega⟩ (by (repeat' (first | exact trivial | exact rfl | refine And.intro ?_ ?_ | (refine congrArg vI ?_; first | omega | (dsimp only; omega) | fail) | (refine congrArg some ?_) | omega | exact Nat.le_refl _ | exact congrArg (SV.lst _) (List.take_of_length_le (Nat.le_refl _)).symm))) (by repeat' (first | exact trivial | exact rfl | refine And.intro ?_ ?_ | (refine congrArg vI ?_; first | omega | (dsimp only; omega) | fail) | (refine congrArg some ?_) | omega | exact Nat.le_refl _ | exact congrArg (SV.lst _) (List.take_of_length_le (Nat.le_refl _)).symm)) trivial trivial) ?_
  refine And.intro ⟨(), trivial⟩ (fun (_ : Unit) _ => ?_)
  conv => whnf
  conv => whnf
  repeat' (first | (refine tell (fun htest => ?_) (fun htest => ?_) <;> (try dsimp only at htest) <;> first | (exfalso; omega) | (exact absurd rfl htest) | (exact absurd (by decide) htest) | (conv => whnf)) | (refine allG rfl ?_; conv => whnf) | (refine And.intro (by first | omega | assumption | kernel_rfl | exact And.intro rfl rfl | ((try dsimp only [inR, idx, lowOf]); first | omega | (with_reducible decide) | (simp; omega) | fail) | fail) ?_; conv => whnf) | fail)
  refine ⟨_, m_known, ((((k : Nat) : Int), es), bl, t), [], false, ?_⟩
  conv => whnf
  refine And.intro (vc0 trivial (by (repeat' (first | exact trivial | exact rfl | refine And.intro ?_ ?_ | (refine congrArg vI ?_; first | omega | (dsimp only; omega) | fail) | (refine congrArg some ?_) | omega | exact Nat.le_refl _ | exact congrArg (SV.lst _) (List.take_of_length_le (Nat.le_refl _)).symm))) (by repeat' (first | exact trivial | exact rfl | refine And.intro ?_ ?_ | (refine congrArg vI ?_; first | omega | (dsimp only; omega) | fail) | (refine congrArg some ?_) | omega | exact Nat.le_refl _ | exact congrArg (SV.lst _) (List.take_of_length_le (Nat.le_refl _)).symm)) trivial trivial) ?_
  refine And.intro ⟨(), trivial⟩ (fun (_ : Unit) _ => ?_)
  conv => whnf
  conv => whnf
  repeat' (first | (refine tell (fun htest => ?_) (fun htest => ?_) <;> (try dsimp only at htest) <;> first | (exfalso; omega) | (exact absurd rfl htest) | (exact absurd (by decide) htest) | (conv => whnf)) | (refine allG rfl ?_; conv => whnf) | (refine And.intro (by first | omega | assumption | kernel_rfl | exact And.intro rfl rfl | ((try dsimp only [inR, idx, lowOf]); first | omega | (with_reducible decide) | (simp; omega) | fail) | fail) ?_; conv => whnf) | fail)
  refine ⟨spYield, spIt, 2, it_known, [1026, 1007], [1030, 2030, 3030], fun _ => ((((k : Nat) : Int), es), bl, t), ⟨rfl, rfl, rfl⟩, ?_, ?_⟩
  · rintro ⟨(xs : List Int), (v : Int), (c : Int)⟩ ⟨(hv0 : 0 ≤ v), (hvl : v < xs.length)⟩
    refine ⟨⟨rfl, ⟨rfl, rfl, trivial⟩, rfl, trivial⟩, ?_⟩
    obtain ⟨x, hx⟩ : ∃ x, xs[v.toNat]? = some x := ⟨_, List.getElem?_eq_getElem (by omega)⟩
    conv => whnf
    repeat' (first | (refine tell (fun htest => ?_) (fun htest => ?_) <;> (try dsimp only at htest) <;> first | (exfalso; omega) | (exact absurd rfl htest) | (exact absurd (by decide) htest) | (conv => whnf)) | (refine allG (x := x) (by first | exact hx | simpa [List.getElem?_append_right, lowOf] using hx | fail) ?_; conv => whnf) | (refine allLst (x := x) (by first | omega | assumption | fail) (by first | exact hx | simpa using hx | fail) ?_; conv => whnf) | (refine allG rfl ?_; conv => whnf) | (refine And.intro (by first | omega | assumption | kernel_rfl | exact And.intro rfl rfl | ((try dsimp only [inR, idx, lowOf]); first | omega | (with_reducible decide) | (simp; omega) | fail) | fail) ?_; conv => whnf) | fail)
    refine ⟨(), trivial, rfl, ⟨?_, ⟨rfl, trivial⟩, trivial⟩, trivial⟩
    exact congrArg (fun i : Nat => Ct.arr (A := AF) 3 (xs.set i c)) (show 0 + v.toNat = v.toNat by omega)
  · intro l
    refine ⟨rfl, ?_⟩
    conv => whnf
    refine And.intro (vc0 ⟨hR, h0, ht, hbl⟩ ⟨rfl, rfl, rfl, rfl, trivial⟩ ⟨rfl, rfl, rfl, rfl, rfl, trivial⟩ trivial trivial) ?_
    refine And.intro ⟨(), trivial⟩ (fun (_ : Unit) _ => ?_)
    conv => whnf
    conv => whnf
    repeat' (first | (refine tell (fun htest => ?_) (fun htest => ?_) <;> (try dsimp only at htest) <;> first | (exfalso; omega) | (exact absurd rfl htest) | (exact absurd (by decide) htest) | (conv => whnf)) | (refine allG rfl ?_; conv => whnf) | (refine And.intro (by first | omega | assumption | kernel_rfl | exact And.intro rfl rfl | ((try dsimp only [inR, idx, lowOf]); first | omega | (with_reducible decide) | (simp; omega) | fail) | fail) ?_; conv => whnf) | fail)
    refine ⟨(), [], trivial, ⟨?_, rfl, ?_⟩, trivial, trivial⟩
    · show 0 + k ≤ (farF k es bl t).length
      rw [farF_len]; simp
    · exact congrArg (SV.lst (A := AF) 3) (show farF k es bl t = ((farF k es bl t).drop 0).take k by rw [List.drop_zero, List.take_of_length_le (by rw [farF_len]; simp)])
def spFarN : Spec AF where
  γ := (Int × List Edge) × List Int × Int
  δ := Unit
  args := fun g => [layS g.1.1 g.1.2, .lst 3 g.2.1, vI g.2.2]
  own := fun _ => []
  pre := fun g => ¬ (RightL g.1.1 g.1.2 ∧ 0 ≤ g.2.2 ∧ g.2.2 < g.1.1) ∧ GoodL g.1.2
  nnew := 0
  res := fun _ _ => .val (.slice none 0 0)
  own' := fun _ _ => []
  post := fun _ _ => True
theorem m_farN : Meets Try.prog regF 53 spFarN := by
  refine meets Try.func53 38 noWr rfl (by kernel_rfl) (by kernel_rfl) ?_
  rintro ⟨⟨(n : Int), (es : List Edge)⟩, (bl : List Int), (t : Int)⟩ ⟨(hno : ¬ (RightL n es ∧ 0 ≤ t ∧ t < n)), (hg : GoodL es)⟩
  conv => whnf
  repeat' (first | (refine tell (fun htest => ?_) (fun htest => ?_) <;> (try dsimp only at htest) <;> first | (exfalso; omega) | (exact absurd rfl htest) | (exact absurd (by decide) htest) | (conv => whnf)) | (refine allG rfl ?_; conv => whnf) | (refine And.intro (by first | omega | assumption | kernel_rfl | exact And.intro rfl rfl | ((try dsimp only [inR, idx, lowOf]); first | omega | (with_reducible decide) | (simp; omega) | fail) | fail) ?_; conv => whnf) | fail)
  refine ⟨_, m_right, (n, es), [], false, ?_⟩
  conv => whnf
  refine And.intro (vc0 hg (by (repeat' (first | exact trivial | exact rfl | refine And.intro ?_ ?_ | (refine congrArg vI ?_; first | omega | (dsimp only; omega) | fail) | (refine congrArg some ?_) | omega | exact Nat.le_refl _ | exact congrArg (SV.lst _) (List.take_of_length_le (Nat.le_refl _)).symm))) (by repeat' (first | exact trivial | exact rfl | refine And.intro ?_ ?_ | (refine congrArg vI ?_; first | omega | (dsimp only; omega) | fail) | (refine congrArg some ?_) | omega | exact Nat.le_refl _ | exact congrArg (SV.lst _) (List.take_of_length_le (Nat.le_refl _)).symm)) trivial trivial) ?_
  refine And.intro (right_ex n es) ?_
  intro (c : Bool) (hc : c = true ↔ RightL n es)
  cases c
  · conv => whnf
    repeat' (first | (refine tell (fun htest => ?_) (fun htest => ?_) <;> (try dsimp only at htest) <;> first | (exfalso; omega) | (exact absurd rfl htest) | (exact absurd (by decide) htest) | (conv => whnf)) | (refine allG rfl ?_; conv => whnf) | (refine And.intro (by first | omega | assumption | kernel_rfl | exact And.intro rfl rfl | ((try dsimp only [inR, idx, lowOf]); first | omega | (with_reducible decide) | (simp; omega) | fail) | fail) ?_; conv => whnf) | fail)
    exact ⟨(), [], trivial, rfl, trivial, trivial⟩
  · have hr := hc.1 rfl
    by_cases h0 : t < 0
    · conv => whnf
      repeat' (first | (refine tell (fun htest => ?_) (fun htest => ?_) <;> (try dsimp only at htest) <;> first | (exfalso; omega) | (exact absurd rfl htest) | (exact absurd (by decide) htest) | (conv => whnf)) | (refine allG rfl ?_; conv => whnf) | (refine And.intro (by first | omega | assumption | kernel_rfl | exact And.intro rfl rfl | ((try dsimp only [inR, idx, lowOf]); first | omega | (with_reducible decide) | (simp; omega) | fail) | fail) ?_; conv => whnf) | fail)
      exact ⟨(), [], trivial, rfl, trivial, trivial⟩
    · have hn : ¬ t < n := fun h => hno ⟨hr, by omega, h⟩
      conv => whnf
      repeat' (first | (refine tell (fun htest => ?_) (fun htest => ?_) <;> (try dsimp only at htest) <;> first | (exfalso; omega) | (exact absurd rfl htest) | (exact absurd (by decide) htest) | (conv => whnf)) | (refine allG rfl ?_; conv => whnf) | (refine And.intro (by first | omega | assumption | kernel_rfl | exact And.intro rfl rfl | ((try dsimp only [inR, idx, lowOf]); first | omega | (with_reducible decide) | (simp; omega) | fail) | fail) ?_; conv => whnf) | fail)
      exact ⟨(), [], trivial, rfl, trivial, trivial⟩
end Go.Sx


/-
  Layer 12, part D: Route.
-/
namespace Go.Sx
open Go Go.Proofs Go.Proofs.Ytmogappoadglgaa
/-- Does an edge lead on as cheaply as may be? -/
def OkE (es : List Edge) (bl : List Int) (t v : Int) (e : Edge) : Prop := 0 ≤ farV es bl t e.2.1 ∧ farV es bl t e.2.1 + e.2.2 = farV es bl t v ∧ e.2.1 ∉ bl
/-- The way: ahead of each edge the least one that leads on as cheaply. -/
inductive RouteP (es : List Edge) (bl : List Int) (t : Int) : Int → List Int → Prop where
  | nil : RouteP es bl t t []
  | cons {v : Int} {i : Nat} {e : Edge} {l : List Int} (hv : v ≠ t) (he : es[i]? = some e) (h1 : e.1 = v) (hok : OkE es bl t v e) (hmin : ∀ (j : Nat) x, j < i → es[j]? = some x → x.1 = v → ¬ OkE es bl t v x) (h : RouteP es bl t e.2.1 l) : RouteP es bl t v ((i : Int) :: l)
section
variable {n : Int} {es : List Edge} {bl : List Int} {t v : Int}
theorem first_ex {p : Nat → Prop} {n : Nat} (h : ∃ i, i < n ∧ p i) : ∃ i, i < n ∧ p i ∧ ∀ j, j < i → ¬ p j := by
  obtain ⟨i, hi, hp⟩ := h
  obtain ⟨m, hm, hmin⟩ := ex_min (p := p) i hp
  exact ⟨m, Nat.lt_of_le_of_lt (hmin i hp) hi, hm, fun j hj hpj => by have := hmin j hpj; omega⟩
theorem okE_ex (hR : RightL n es) (hv : v ≠ t) (h : 0 ≤ farV es bl t v) : ∃ (i : Nat) (e : Edge), es[i]? = some e ∧ e.1 = v ∧ OkE es bl t v e ∧ ∀ (j : Nat) x, j < i → es[j]? = some x → x.1 = v → ¬ OkE es bl t v x := by
  obtain ⟨e, he, h1, h2, h3, h4⟩ := farV_next hR hv h
  obtain ⟨i, hi⟩ := List.getElem?_of_mem he
  obtain ⟨m, _, ⟨x, q1, q2, q3⟩, q4⟩ := first_ex (p := fun i => ∃ x, es[i]? = some x ∧ x.1 = v ∧ OkE es bl t v x) (n := es.length) ⟨i, (List.getElem?_eq_some_iff.1 hi).1, e, hi, h1, h3, by omega, h2⟩
  exact ⟨m, x, q1, q2, q3, fun j y hj hy h5 h6 => q4 j hj ⟨y, hy, h5, h6⟩⟩
theorem okE_less (hR : RightL n es) {e : Edge} (he : e ∈ es) (h : OkE es bl t v e) : 0 ≤ farV es bl t e.2.1 ∧ farV es bl t e.2.1 + 1 ≤ farV es bl t v := by
  have := (hR.each e he).2.2.2.2.2.1
  obtain ⟨h1, h2, _⟩ := h
  exact ⟨h1, by omega⟩
theorem route_ex (hR : RightL n es) : ∀ (k : Nat) (v : Int), 0 ≤ farV es bl t v → farV es bl t v ≤ k → ∃ l, RouteP es bl t v l
  | 0, v, h0, hk => by
    by_cases hv : v = t
    · subst hv; exact ⟨[], .nil⟩
    · obtain ⟨i, e, he, h1, h2, h3⟩ := okE_ex hR hv h0
      have := okE_less hR (List.mem_of_getElem? he) h2
      omega
  | k + 1, v, h0, hk => by
    by_cases hv : v = t
    · subst hv; exact ⟨[], .nil⟩
    · obtain ⟨i, e, he, h1, h2, h3⟩ := okE_ex hR hv h0
      have := okE_less hR (List.mem_of_getElem? he) h2
      obtain ⟨l, hl⟩ := route_ex hR k e.2.1 this.1 (by omega)
      exact ⟨_, .cons hv he h1 h2 h3 hl⟩
theorem route_one {l l' : List Int} (h : RouteP es bl t v l) (h' : RouteP es bl t v l') : l = l' := by
  induction h generalizing l' with
  | nil =>
    cases h' with
    | nil => rfl
    | cons hv => exact absurd rfl hv
  | @cons v i e l hv he h1 hok hmin _ ih =>
    cases h' with
    | nil => exact absurd rfl hv
    | @cons _ i' e' l' _ he' h1' hok' hmin' h2 =>
      have hii : i = i' := by
        rcases Nat.lt_trichotomy i i' with h | h | h
        · exact absurd hok (hmin' i e h he h1)
        · exact h
        · exact absurd hok' (hmin i' e' h he' h1')
      subst hii
      rw [he] at he'; cases he'
      rw [ih h2]
theorem route_len (hR : RightL n es) {l : List Int} (h : RouteP es bl t v l) : 0 ≤ farV es bl t v ∧ (l.length : Int) ≤ farV es bl t v := by
  induction h with
  | nil => rw [farV_self hR]; simp
  | @cons v i e l hv he h1 hok hmin _ ih =>
    have := okE_less hR (List.mem_of_getElem? he) hok
    simp only [List.length_cons]
    omega
end
/-- Of a list's places the first one that is right. -/
def FirstAt (os : List Int) (P : Int → Prop) (r : Int) : Prop :=
  (∃ (j : Nat) (i : Int), r = j ∧ os[j]? = some i ∧ P i ∧ ∀ (j' : Nat) i', j' < j → os[j']? = some i' → ¬ P i') ∨ (r = -1 ∧ ∀ i ∈ os, ¬ P i)
def PredR (es : List Edge) (bl : List Int) (t v : Int) (i : Int) : Prop := ∃ e, es[i.toNat]? = some e ∧ OkE es bl t v e
theorem firstAt_ex (os : List Int) (P : Int → Prop) : ∃ r, FirstAt os P r := by
  by_cases h : ∃ j, j < os.length ∧ ∃ i, os[j]? = some i ∧ P i
  · obtain ⟨j, _, ⟨i, h1, h2⟩, h3⟩ := first_ex h
    exact ⟨j, .inl ⟨j, i, rfl, h1, h2, fun j' i' hj hi hp => h3 j' hj ⟨i', hi, hp⟩⟩⟩
  · refine ⟨-1, .inr ⟨rfl, fun i hi hp => ?_⟩⟩
    obtain ⟨j, hj⟩ := List.getElem?_of_mem hi
    exact h ⟨j, (List.getElem?_eq_some_iff.1 hj).1, i, hj, hp⟩
noncomputable abbrev rOwn (g : (Int × List Edge) × List Int × Int × Int) : List (Ct AF) := [layC g.1.1 g.1.2, .cells [.lst 3 (farF g.1.1 g.1.2 g.2.1 g.2.2.1)], .cells [vI g.2.2.2], .cells [.lst 3 g.2.1]]
noncomputable def spPred : Spec AF where
  γ := ((Int × List Edge) × List Int × Int × Int) × Int
  δ := Bool
  args := fun g => [vI g.2, .ptr 0 0 2 0, .ptr 1 0 1 0, .ptr 2 0 1 0, .ptr 3 0 1 0]
  own := fun g => rOwn g.1
  pre := fun g => RightL g.1.1.1 g.1.1.2 ∧ (0 ≤ g.1.2.2.1 ∧ g.1.2.2.1 < g.1.1.1) ∧ (0 ≤ g.1.2.2.2 ∧ g.1.2.2.2 < g.1.1.1) ∧ 0 ≤ farV g.1.1.2 g.1.2.1 g.1.2.2.1 g.1.2.2.2 ∧ g.1.2.1.length ≤ 9223372036854775807 ∧ 0 ≤ g.2 ∧ g.2 < g.1.1.2.length
  nnew := 0
  res := fun _ c => vB c
  own' := fun g _ => (rOwn g.1).map some
  post := fun g c => (c = true ↔ PredR g.1.1.2 g.1.2.1 g.1.2.2.1 g.1.2.2.2 g.2)
set_option maxHeartbeats 1600000 in
theorem m_pred : Meets Try.prog regF 87 spPred := by
  refine meets Try.func87 41 noWr rfl (by kernel_rfl) (by kernel_rfl) ?_
  rintro ⟨⟨⟨(n : Int), (es : List Edge)⟩, (bl : List Int), (t : Int), (v : Int)⟩, (i : Int)⟩ ⟨(hR : RightL n es), ⟨(ht0 : 0 ≤ t), (htn : t < n)⟩, ⟨(hv0 : 0 ≤ v), (hvn : v < n)⟩, (hfv : 0 ≤ farV es bl t v), (hbl : bl.length ≤ 9223372036854775807), (hi0 : 0 ≤ i), (hil : i < es.length)⟩
  obtain ⟨e, he⟩ : ∃ e, es[i.toNat]? = some e := ⟨_, List.getElem?_eq_getElem (by omega)⟩
  have hmem := List.mem_of_getElem? he
  obtain ⟨o1, o2, o3, o4, _, o6, o7⟩ := hR.each e hmem
  have hat := farF_at (es := es) (bl := bl) (t := t) o3 o4
  have hav := farF_at (es := es) (bl := bl) (t := t) hv0 hvn
  have hbd := farV_bd hR ht0 htn (bl := bl) e.2.1
  have hbv := farV_bd hR ht0 htn (bl := bl) v
  have hge := farV_ge (bl := bl) (t := t) hR e.2.1
  have hpr : PredR es bl t v i ↔ OkE es bl t v e := ⟨fun ⟨x, h1, h2⟩ => by rw [he] at h1; cases h1; exact h2, fun h => ⟨e, he, h⟩⟩
  have fin : ∀ c : Bool, (c = true ↔ OkE es bl t v e) → (c = true ↔ PredR es bl t v i) := fun c h => h.trans hpr.symm
  by_cases h1 : farV es bl t e.2.1 = -1
  · conv => whnf
    repeat' (first | (refine tell (fun htest => ?_) (fun htest => ?_) <;> (try dsimp only at htest) <;> first | (exfalso; omega) | (exact absurd rfl htest) | (exact absurd (by decide) htest) | (conv => whnf)) | (refine allLst (x := e) hi0 he ?_; conv => whnf) | (refine allLst (x := _) o3 hat ?_; conv => whnf) | (refine allG rfl ?_; conv => whnf) | (refine And.intro (by first | omega | assumption | kernel_rfl | exact And.intro rfl rfl | ((try dsimp only [inR, idx, lowOf]); first | omega | (with_reducible decide) | (simp; omega) | fail) | fail) ?_; conv => whnf) | fail)
    exact ⟨false, [], fin _ ⟨fun h => (by cases h), fun h => absurd h.1 (by omega)⟩, rfl, ⟨⟨rfl, rfl, trivial⟩, ⟨rfl, trivial⟩, ⟨rfl, trivial⟩, ⟨rfl, trivial⟩, trivial⟩, trivial⟩
  have h1' : 0 ≤ farV es bl t e.2.1 := hge.resolve_left h1
  by_cases h2 : farV es bl t e.2.1 + e.2.2 = farV es bl t v
  · conv => whnf
    repeat' (first | (refine tell (fun htest => ?_) (fun htest => ?_) <;> (try dsimp only at htest) <;> first | (exfalso; omega) | (exact absurd rfl htest) | (exact absurd (by decide) htest) | (conv => whnf)) | (refine allLst (x := e) hi0 he ?_; conv => whnf) | (refine allLst (x := _) o3 hat ?_; conv => whnf) | (refine allLst (x := _) hv0 hav ?_; conv => whnf) | (refine allG rfl ?_; conv => whnf) | (refine And.intro (by first | omega | assumption | kernel_rfl | exact And.intro rfl rfl | ((try dsimp only [inR, idx, lowOf]); first | omega | (with_reducible decide) | (simp; omega) | fail) | fail) ?_; conv => whnf) | fail)
    refine ⟨_, m_contains, (bl, e.2.1), [], false, ?_⟩
    conv => whnf
    refine And.intro (vc0 hbl (by (repeat' (first | exact trivial | exact rfl | refine And.intro ?_ ?_ | (refine congrArg vI ?_; first | omega | (dsimp only; omega) | fail) | (refine congrArg some ?_) | omega | exact Nat.le_refl _ | exact congrArg (SV.lst _) (List.take_of_length_le (Nat.le_refl _)).symm))) (by repeat' (first | exact trivial | exact rfl | refine And.intro ?_ ?_ | (refine congrArg vI ?_; first | omega | (dsimp only; omega) | fail) | (refine congrArg some ?_) | omega | exact Nat.le_refl _ | exact congrArg (SV.lst _) (List.take_of_length_le (Nat.le_refl _)).symm)) trivial trivial) ?_
    refine And.intro (has_ex _ _) ?_
    intro (c : Bool) (hc : c = true ↔ e.2.1 ∈ bl)
    cases c
    · conv => whnf
      repeat' (first | (refine tell (fun htest => ?_) (fun htest => ?_) <;> (try dsimp only at htest) <;> first | (exfalso; omega) | (exact absurd rfl htest) | (exact absurd (by decide) htest) | (conv => whnf)) | (refine allG rfl ?_; conv => whnf) | (refine And.intro (by first | omega | assumption | kernel_rfl | exact And.intro rfl rfl | ((try dsimp only [inR, idx, lowOf]); first | omega | (with_reducible decide) | (simp; omega) | fail) | fail) ?_; conv => whnf) | fail)
      exact ⟨true, [], fin _ ⟨fun _ => ⟨h1', h2, fun h => (by have := hc.2 h; cases this)⟩, fun _ => rfl⟩, rfl, ⟨⟨rfl, rfl, trivial⟩, ⟨rfl, trivial⟩, ⟨rfl, trivial⟩, ⟨rfl, trivial⟩, trivial⟩, trivial⟩
    · conv => whnf
      repeat' (first | (refine tell (fun htest => ?_) (fun htest => ?_) <;> (try dsimp only at htest) <;> first | (exfalso; omega) | (exact absurd rfl htest) | (exact absurd (by decide) htest) | (conv => whnf)) | (refine allG rfl ?_; conv => whnf) | (refine And.intro (by first | omega | assumption | kernel_rfl | exact And.intro rfl rfl | ((try dsimp only [inR, idx, lowOf]); first | omega | (with_reducible decide) | (simp; omega) | fail) | fail) ?_; conv => whnf) | fail)
      exact ⟨false, [], fin _ ⟨fun h => (by cases h), fun h => absurd (hc.1 rfl) h.2.2⟩, rfl, ⟨⟨rfl, rfl, trivial⟩, ⟨rfl, trivial⟩, ⟨rfl, trivial⟩, ⟨rfl, trivial⟩, trivial⟩, trivial⟩
  · conv => whnf
    repeat' (first | (refine tell (fun htest => ?_) (fun htest => ?_) <;> (try dsimp only at htest) <;> first | (exfalso; omega) | (exact absurd rfl htest) | (exact absurd (by decide) htest) | (conv => whnf)) | (refine allLst (x := e) hi0 he ?_; conv => whnf) | (refine allLst (x := _) o3 hat ?_; conv => whnf) | (refine allLst (x := _) hv0 hav ?_; conv => whnf) | (refine allG rfl ?_; conv => whnf) | (refine And.intro (by first | omega | assumption | kernel_rfl | exact And.intro rfl rfl | ((try dsimp only [inR, idx, lowOf]); first | omega | (with_reducible decide) | (simp; omega) | fail) | fail) ?_; conv => whnf) | fail)
    exact ⟨false, [], fin _ ⟨fun h => (by cases h), fun h => absurd h.2.1 h2⟩, rfl, ⟨⟨rfl, rfl, trivial⟩, ⟨rfl, trivial⟩, ⟨rfl, trivial⟩, ⟨rfl, trivial⟩, trivial⟩, trivial⟩
noncomputable def spIdxR : Spec AF where
  γ := List Int × (Int × List Edge) × List Int × Int × Int
  δ := Int
  args := fun g => [.lst 3 g.1, .fn (.func 87) [] [.ptr 0 0 2 0, .ptr 1 0 1 0, .ptr 2 0 1 0, .ptr 3 0 1 0]]
  own := fun g => rOwn g.2
  pre := fun g => RightL g.2.1.1 g.2.1.2 ∧ (0 ≤ g.2.2.2.1 ∧ g.2.2.2.1 < g.2.1.1) ∧ (0 ≤ g.2.2.2.2 ∧ g.2.2.2.2 < g.2.1.1) ∧ 0 ≤ farV g.2.1.2 g.2.2.1 g.2.2.2.1 g.2.2.2.2 ∧ g.2.2.1.length ≤ 9223372036854775807 ∧ (∀ i ∈ g.1, 0 ≤ i ∧ i < g.2.1.2.length) ∧ g.1.length ≤ 1000
  nnew := 0
  res := fun _ r => vI r
  own' := fun g _ => (rOwn g.2).map some
  post := fun g r => FirstAt g.1 (PredR g.2.1.2 g.2.2.1 g.2.2.2.1 g.2.2.2.2) r
theorem pred_ex (p : Prop) : ∃ c : Bool, (c = true ↔ p) := by
  by_cases h : p
  · exact ⟨true, by simp [h]⟩
  · exact ⟨false, by simp [h]⟩
theorem m_idxR : Meets Try.prog regF 86 spIdxR := by
  refine meets Try.func86 19 noWr rfl (by kernel_rfl) (by kernel_rfl) ?_
  rintro ⟨(os : List Int), ⟨(n : Int), (es : List Edge)⟩, (bl : List Int), (t : Int), (v : Int)⟩ ⟨(hR : RightL n es), (ht : 0 ≤ t ∧ t < n), (hv : 0 ≤ v ∧ v < n), (hfv : 0 ≤ farV es bl t v), (hbl : bl.length ≤ 9223372036854775807), (hos : ∀ i ∈ os, 0 ≤ i ∧ i < es.length), (hol : os.length ≤ 1000)⟩
  conv => whnf
  repeat' (first | (refine tell (fun htest => ?_) (fun htest => ?_) <;> (try dsimp only at htest) <;> first | (exfalso; omega) | (exact absurd rfl htest) | (exact absurd (by decide) htest) | (conv => whnf)) | (refine allG rfl ?_; conv => whnf) | (refine And.intro (by first | omega | assumption | kernel_rfl | exact And.intro rfl rfl | ((try dsimp only [inR, idx, lowOf]); first | omega | (with_reducible decide) | (simp; omega) | fail) | fail) ?_; conv => whnf) | fail)
  refine ⟨Nat, fun j => ⟨[(0, .lst 3 os), (1, .fn (.func 87) [] [.ptr 0 0 2 0, .ptr 1 0 1 0, .ptr 2 0 1 0, .ptr 3 0 1 0]), (6, .lst 3 os), (7, vI os.length), (8, vI j)], [(0, layC n es), (1, .cells [.lst 3 (farF n es bl t)]), (2, .cells [vI v]), (3, .cells [.lst 3 bl])]⟩, fun j => j ≤ os.length ∧ ∀ (j' : Nat) i', j' < j → os[j']? = some i' → ¬ PredR es bl t v i', fun j => os.length - j, fun _ _ => rfl, ⟨0, [], ⟨Nat.zero_le _, fun j' i' h => absurd h (Nat.not_lt_zero _)⟩, ?_⟩, ?_⟩
  · refine ⟨rfl, ?_, ?_, rfl⟩
    all_goals (repeat' (first | exact trivial | exact rfl | refine And.intro ?_ ?_ | (refine congrArg vI ?_; first | omega | (dsimp only; omega) | fail) | (refine congrArg some ?_) | omega | exact Nat.le_refl _ | exact congrArg (SV.lst _) (List.take_of_length_le (Nat.le_refl _)).symm))
  rintro (j : Nat) ⟨(hj : j ≤ os.length), (hno : ∀ (j' : Nat) i', j' < j → os[j']? = some i' → ¬ PredR es bl t v i')⟩
  by_cases hlt : j < os.length
  · obtain ⟨i, hi⟩ : ∃ i, os[j]? = some i := ⟨_, List.getElem?_eq_getElem hlt⟩
    obtain ⟨hi0, hil⟩ := hos i (List.mem_of_getElem? hi)
    conv => whnf
    repeat' (first | (refine tell (fun htest => ?_) (fun htest => ?_) <;> (try dsimp only at htest) <;> first | (exfalso; omega) | (exact absurd rfl htest) | (exact absurd (by decide) htest) | (conv => whnf)) | (refine allG (x := i) (by first | exact hi | simpa [List.getElem?_append_right, lowOf] using hi | fail) ?_; conv => whnf) | (refine allLst (x := i) (by first | omega | assumption | fail) (by first | exact hi | simpa using hi | fail) ?_; conv => whnf) | (refine allG rfl ?_; conv => whnf) | (refine And.intro (by first | omega | assumption | kernel_rfl | exact And.intro rfl rfl | ((try dsimp only [inR, idx, lowOf]); first | omega | (with_reducible decide) | (simp; omega) | fail) | fail) ?_; conv => whnf) | fail)
    refine ⟨_, m_pred, (((n, es), bl, t, v), i), [0, 1, 2, 3], false, ?_⟩
    conv => whnf
    refine And.intro (vc0 ⟨hR, ht, hv, hfv, hbl, hi0, hil⟩ (by (repeat' (first | exact trivial | exact rfl | refine And.intro ?_ ?_ | (refine congrArg vI ?_; first | omega | (dsimp only; omega) | fail) | (refine congrArg some ?_) | omega | exact Nat.le_refl _ | exact congrArg (SV.lst _) (List.take_of_length_le (Nat.le_refl _)).symm))) (by repeat' (first | exact trivial | exact rfl | refine And.intro ?_ ?_ | (refine congrArg vI ?_; first | omega | (dsimp only; omega) | fail) | (refine congrArg some ?_) | omega | exact Nat.le_refl _ | exact congrArg (SV.lst _) (List.take_of_length_le (Nat.le_refl _)).symm)) trivial trivial) ?_
    refine And.intro (pred_ex _) ?_
    intro (c : Bool) (hc : c = true ↔ PredR es bl t v i)
    cases c
    · have hnx : ∀ (j' : Nat) i', j' < j + 1 → os[j']? = some i' → ¬ PredR es bl t v i' := fun j' i' h1 h2 h3 => by
        by_cases e : j' = j
        · subst e; rw [hi] at h2; cases h2; have := hc.2 h3; cases this
        · exact hno j' i' (by omega) h2 h3
      conv => whnf
      repeat' (first | (refine tell (fun htest => ?_) (fun htest => ?_) <;> (try dsimp only at htest) <;> first | (exfalso; omega) | (exact absurd rfl htest) | (exact absurd (by decide) htest) | (conv => whnf)) | (refine allG rfl ?_; conv => whnf) | (refine And.intro (by first | omega | assumption | kernel_rfl | exact And.intro rfl rfl | ((try dsimp only [inR, idx, lowOf]); first | omega | (with_reducible decide) | (simp; omega) | fail) | fail) ?_; conv => whnf) | fail)
      refine ⟨j + 1, [], ⟨hlt, hnx⟩, ?_, rfl, ?_, ?_, rfl⟩
      · dsimp only; first | omega | (simp; done) | (simp; omega)
      all_goals (repeat' (first | exact trivial | exact rfl | refine And.intro ?_ ?_ | (refine congrArg vI ?_; first | omega | (dsimp only; omega) | fail) | (refine congrArg some ?_) | omega | exact Nat.le_refl _ | exact congrArg (SV.lst _) (List.take_of_length_le (Nat.le_refl _)).symm))
    · conv => whnf
      repeat' (first | (refine tell (fun htest => ?_) (fun htest => ?_) <;> (try dsimp only at htest) <;> first | (exfalso; omega) | (exact absurd rfl htest) | (exact absurd (by decide) htest) | (conv => whnf)) | (refine allG rfl ?_; conv => whnf) | (refine And.intro (by first | omega | assumption | kernel_rfl | exact And.intro rfl rfl | ((try dsimp only [inR, idx, lowOf]); first | omega | (with_reducible decide) | (simp; omega) | fail) | fail) ?_; conv => whnf) | fail)
      exact ⟨(j : Int), [], .inl ⟨j, i, rfl, hi, hc.1 rfl, hno⟩, rfl, ⟨⟨rfl, rfl, trivial⟩, ⟨rfl, trivial⟩, ⟨rfl, trivial⟩, ⟨rfl, trivial⟩, trivial⟩, trivial⟩
  · conv => whnf
    repeat' (first | (refine tell (fun htest => ?_) (fun htest => ?_) <;> (try dsimp only at htest) <;> first | (exfalso; omega) | (exact absurd rfl htest) | (exact absurd (by decide) htest) | (conv => whnf)) | (refine allG rfl ?_; conv => whnf) | (refine And.intro (by first | omega | assumption | kernel_rfl | exact And.intro rfl rfl | ((try dsimp only [inR, idx, lowOf]); first | omega | (with_reducible decide) | (simp; omega) | fail) | fail) ?_; conv => whnf) | fail)
    exact ⟨(-1 : Int), [], .inr ⟨rfl, fun i hi => (by
      obtain ⟨j', hj'⟩ := List.getElem?_of_mem hi
      exact hno j' i (by have : j' < os.length := (List.getElem?_eq_some_iff.1 hj').1; omega) hj')⟩, rfl, ⟨⟨rfl, rfl, trivial⟩, ⟨rfl, trivial⟩, ⟨rfl, trivial⟩, ⟨rfl, trivial⟩, trivial⟩, trivial⟩
theorem firstAt_out {es : List Edge} {bl : List Int} {t v r : Int} (h : FirstAt (outL es v 0) (PredR es bl t v) r) (hex : ∃ (i : Nat) (e : Edge), es[i]? = some e ∧ e.1 = v ∧ OkE es bl t v e) :
    ∃ (j m : Nat) (e : Edge), r = j ∧ (outL es v 0)[j]? = some (m : Int) ∧ es[m]? = some e ∧ e.1 = v ∧ OkE es bl t v e ∧ ∀ (k : Nat) x, k < m → es[k]? = some x → x.1 = v → ¬ OkE es bl t v x := by
  rcases h with ⟨j, i, rfl, hj, ⟨e, he, hok⟩, hmin⟩ | ⟨_, hno⟩
  · obtain ⟨m, x, hm, hx, hxv⟩ := (outL_mem v es 0 i).1 (List.mem_of_getElem? hj)
    rw [Nat.zero_add] at hm
    subst hm
    rw [Int.toNat_natCast, hx] at he
    obtain rfl := Option.some.inj he
    refine ⟨j, m, x, rfl, hj, hx, hxv, hok, fun k y hk hy hyv hyo => ?_⟩
    obtain ⟨p, hp⟩ := List.getElem?_of_mem ((outL_mem v es 0 (k : Int)).2 ⟨k, y, by rw [Nat.zero_add], hy, hyv⟩)
    have hpj : p < j := by
      rcases Nat.lt_or_ge p j with h1 | h1
      · exact h1
      · exfalso
        obtain ⟨l1, g1⟩ := List.getElem?_eq_some_iff.1 hj
        obtain ⟨l2, g2⟩ := List.getElem?_eq_some_iff.1 hp
        rcases Nat.lt_or_ge j p with h2 | h2
        · have := List.pairwise_iff_getElem.1 (outL_sorted v es 0) j p l1 l2 h2
          rw [g1, g2] at this; omega
        · have : p = j := by omega
          subst this
          rw [g1] at g2; omega
    exact hmin p _ hpj hp ⟨y, by rw [Int.toNat_natCast]; exact hy, hyo⟩
  · obtain ⟨i, e, he, hev, hok⟩ := hex
    exact absurd ⟨e, by rw [Int.toNat_natCast]; exact he, hok⟩ (hno (i : Int) ((outL_mem v es 0 (i : Int)).2 ⟨i, e, by rw [Nat.zero_add], he, hev⟩))
noncomputable def spRoute : Spec AF where
  γ := (Int × List Edge) × List Int × Int × Int
  δ := List Int
  args := fun g => [layS g.1.1 g.1.2, .lst 3 g.2.1, vI g.2.2.1, vI g.2.2.2]
  own := fun _ => []
  pre := fun g => RightL g.1.1 g.1.2 ∧ (0 ≤ g.2.2.1 ∧ g.2.2.1 < g.1.1) ∧ (0 ≤ g.2.2.2 ∧ g.2.2.2 < g.1.1) ∧ GoodL g.1.2 ∧ g.2.1.length ≤ 9223372036854775807 ∧ 0 ≤ farV g.1.2 g.2.1 g.2.2.2 g.2.2.1
  nnew := 0
  res := fun _ l => .tup [.lst 3 l, vI 0]
  own' := fun _ _ => []
  post := fun g l => RouteP g.1.2 g.2.1 g.2.2.2 g.2.2.1 l
set_option maxHeartbeats 3200000 in
theorem m_route : Meets Try.prog regF 54 spRoute := by
  refine meets Try.func54 64 noWr rfl (by kernel_rfl) (by kernel_rfl) ?_
  rintro ⟨⟨(n : Int), (es : List Edge)⟩, (bl : List Int), (a : Int), (t : Int)⟩ ⟨(hR : RightL n es), ⟨(ha0 : 0 ≤ a), (han : a < n)⟩, ⟨(ht0 : 0 ≤ t), (htn : t < n)⟩, (hg : GoodL es), (hbl : bl.length ≤ 9223372036854775807), (hfa : 0 ≤ farV es bl t a)⟩
  have hfl := farF_len (n := n) (es := es) (bl := bl) (t := t)
  have haa := farF_at (es := es) (bl := bl) (t := t) ha0 han
  have hba := farV_bd hR ht0 htn (bl := bl) a
  have hes := hR.len
  conv => whnf
  repeat' (first | (refine tell (fun htest => ?_) (fun htest => ?_) <;> (try dsimp only at htest) <;> first | (exfalso; omega) | (exact absurd rfl htest) | (exact absurd (by decide) htest) | (conv => whnf)) | (refine allG rfl ?_; conv => whnf) | (refine And.intro (by first | omega | assumption | kernel_rfl | exact And.intro rfl rfl | ((try dsimp only [inR, idx, lowOf]); first | omega | (with_reducible decide) | (simp; omega) | fail) | fail) ?_; conv => whnf) | fail)
  refine ⟨_, m_far, ((n, es), bl, t), [], false, ?_⟩
  conv => whnf
  refine And.intro (vc0 ⟨hR, ht0, htn, hg, hbl⟩ (by (repeat' (first | exact trivial | exact rfl | refine And.intro ?_ ?_ | (refine congrArg vI ?_; first | omega | (dsimp only; omega) | fail) | (refine congrArg some ?_) | omega | exact Nat.le_refl _ | exact congrArg (SV.lst _) (List.take_of_length_le (Nat.le_refl _)).symm))) (by repeat' (first | exact trivial | exact rfl | refine And.intro ?_ ?_ | (refine congrArg vI ?_; first | omega | (dsimp only; omega) | fail) | (refine congrArg some ?_) | omega | exact Nat.le_refl _ | exact congrArg (SV.lst _) (List.take_of_length_le (Nat.le_refl _)).symm)) trivial trivial) ?_
  refine And.intro ⟨(), trivial⟩ (fun (_ : Unit) _ => ?_)
  conv => whnf
  conv => whnf
  repeat' (first | (refine tell (fun htest => ?_) (fun htest => ?_) <;> (try dsimp only at htest) <;> first | (exfalso; omega) | (exact absurd rfl htest) | (exact absurd (by decide) htest) | (conv => whnf)) | (refine allLst (x := _) ha0 haa ?_; conv => whnf) | (refine allG rfl ?_; conv => whnf) | (refine And.intro (by first | omega | assumption | kernel_rfl | exact And.intro rfl rfl | ((try dsimp only [inR, idx, lowOf]); first | omega | (with_reducible decide) | (simp; omega) | fail) | fail) ?_; conv => whnf) | fail)
  refine ⟨Int × List Int, fun p => ⟨[(3, vI t), (4, .ptr 1004 0 2 0), (5, .ptr 1005 0 1 0), (8, .sl 3003 1 0 p.2.length), (10, .ptr 1010 0 1 0), (11, .ptr 3001 0 1 0)], [(1004, layC n es), (1005, .cells [.lst 3 bl]), (1010, .cells [.lst 3 (farF n es bl t)]), (3001, .cells [vI p.1]), (3003, .arr 3 p.2)]⟩, fun p => (0 ≤ p.1 ∧ p.1 < n) ∧ 0 ≤ farV es bl t p.1 ∧ (p.2.length : Int) + farV es bl t p.1 ≤ 40000 ∧ ∀ l, RouteP es bl t p.1 l → RouteP es bl t a (p.2 ++ l), fun p => (farV es bl t p.1).toNat, fun _ _ => rfl, ⟨(a, []), [(3001, 1011)], ⟨⟨ha0, han⟩, hfa, by simpa using hba, fun l h => h⟩, ?_⟩, ?_⟩
  · refine ⟨rfl, ?_, ?_, rfl⟩
    all_goals (repeat' (first | exact trivial | exact rfl | refine And.intro ?_ ?_ | (refine congrArg vI ?_; first | omega | (dsimp only; omega) | fail) | (refine congrArg some ?_) | omega | exact Nat.le_refl _ | exact congrArg (SV.lst _) (List.take_of_length_le (Nat.le_refl _)).symm))
  rintro ⟨(v : Int), (out : List Int)⟩ ⟨⟨(hv0 : 0 ≤ v), (hvn : v < n)⟩, (hfv : 0 ≤ farV es bl t v), (hol : (out.length : Int) + farV es bl t v ≤ 40000), (hcont : ∀ l, RouteP es bl t v l → RouteP es bl t a (out ++ l))⟩
  by_cases hvt : v = t
  · subst hvt
    conv => whnf
    repeat' (first | (refine tell (fun htest => ?_) (fun htest => ?_) <;> (try dsimp only at htest) <;> first | (exfalso; omega) | (exact absurd rfl htest) | (exact absurd (by decide) htest) | (conv => whnf)) | (refine allG rfl ?_; conv => whnf) | (refine And.intro (by first | omega | assumption | kernel_rfl | exact And.intro rfl rfl | ((try dsimp only [inR, idx, lowOf]); first | omega | (with_reducible decide) | (simp; omega) | fail) | fail) ?_; conv => whnf) | fail)
    refine ⟨out, [], (by have := hcont [] .nil; rwa [List.append_nil] at this), ⟨⟨?_, rfl, ?_⟩, rfl, trivial⟩, trivial, trivial⟩
    · show 0 + out.length ≤ out.length; omega
    · exact congrArg (SV.lst (A := AF) 3) (show out = (out.drop 0).take out.length by simp)
  · obtain ⟨i0, e0, he0, h10, h20, _⟩ := okE_ex hR hvt hfv
    have hof : outF n es v = outL es v 0 := if_pos hR
    have hos : ∀ i ∈ outF n es v, 0 ≤ i ∧ i < es.length := fun i hi => by
      rw [hof] at hi
      obtain ⟨j, x, q1, q2, _⟩ := (outL_mem v es 0 i).1 hi
      have := (List.getElem?_eq_some_iff.1 q2).1
      omega
    have hosl : (outF n es v).length ≤ 1000 := by rw [hof]; have := outL_len v es 0; omega
    conv => whnf
    repeat' (first | (refine tell (fun htest => ?_) (fun htest => ?_) <;> (try dsimp only at htest) <;> first | (exfalso; omega) | (exact absurd rfl htest) | (exact absurd (by decide) htest) | (conv => whnf)) | (refine allG rfl ?_; conv => whnf) | (refine And.intro (by first | omega | assumption | kernel_rfl | exact And.intro rfl rfl | ((try dsimp only [inR, idx, lowOf]); first | omega | (with_reducible decide) | (simp; omega) | fail) | fail) ?_; conv => whnf) | fail)
    refine ⟨_, m_out, (n, es, v), [], false, ?_⟩
    conv => whnf
    refine And.intro (vc0 hg (by (repeat' (first | exact trivial | exact rfl | refine And.intro ?_ ?_ | (refine congrArg vI ?_; first | omega | (dsimp only; omega) | fail) | (refine congrArg some ?_) | omega | exact Nat.le_refl _ | exact congrArg (SV.lst _) (List.take_of_length_le (Nat.le_refl _)).symm))) (by repeat' (first | exact trivial | exact rfl | refine And.intro ?_ ?_ | (refine congrArg vI ?_; first | omega | (dsimp only; omega) | fail) | (refine congrArg some ?_) | omega | exact Nat.le_refl _ | exact congrArg (SV.lst _) (List.take_of_length_le (Nat.le_refl _)).symm)) trivial trivial) ?_
    refine And.intro ⟨(), trivial⟩ (fun (_ : Unit) _ => ?_)
    conv => whnf
    conv => whnf
    repeat' (first | (refine tell (fun htest => ?_) (fun htest => ?_) <;> (try dsimp only at htest) <;> first | (exfalso; omega) | (exact absurd rfl htest) | (exact absurd (by decide) htest) | (conv => whnf)) | (refine allG rfl ?_; conv => whnf) | (refine And.intro (by first | omega | assumption | kernel_rfl | exact And.intro rfl rfl | ((try dsimp only [inR, idx, lowOf]); first | omega | (with_reducible decide) | (simp; omega) | fail) | fail) ?_; conv => whnf) | fail)
    refine ⟨_, m_idxR, (outF n es v, (n, es), bl, t, v), [1004, 1010, 3001, 1005], false, ?_⟩
    conv => whnf
    refine And.intro (vc0 ⟨hR, ⟨ht0, htn⟩, ⟨hv0, hvn⟩, hfv, hbl, hos, hosl⟩ (by (repeat' (first | exact trivial | exact rfl | refine And.intro ?_ ?_ | (refine congrArg vI ?_; first | omega | (dsimp only; omega) | fail) | (refine congrArg some ?_) | omega | exact Nat.le_refl _ | exact congrArg (SV.lst _) (List.take_of_length_le (Nat.le_refl _)).symm))) (by repeat' (first | exact trivial | exact rfl | refine And.intro ?_ ?_ | (refine congrArg vI ?_; first | omega | (dsimp only; omega) | fail) | (refine congrArg some ?_) | omega | exact Nat.le_refl _ | exact congrArg (SV.lst _) (List.take_of_length_le (Nat.le_refl _)).symm)) trivial trivial) ?_
    refine And.intro (firstAt_ex _ _) ?_
    intro (r : Int) (hr : FirstAt (outF n es v) (PredR es bl t v) r)
    rw [hof] at hr
    obtain ⟨j, m, e, rfl, hj, he, h1, h2, h3⟩ := firstAt_out hr ⟨i0, e0, he0, h10, h20⟩
    rw [← hof] at hj
    have hmem := List.mem_of_getElem? he
    have hml := (List.getElem?_eq_some_iff.1 he).1
    have hless := okE_less hR hmem h2
    obtain ⟨o1, o2, o3, o4, _, o6, o7⟩ := hR.each e hmem
    have hjl : j < (outF n es v).length := (List.getElem?_eq_some_iff.1 hj).1
    conv => whnf
    repeat' (first | (refine tell (fun htest => ?_) (fun htest => ?_) <;> (try dsimp only at htest) <;> first | (exfalso; omega) | (exact absurd rfl htest) | (exact absurd (by decide) htest) | (conv => whnf)) | (refine allG rfl ?_; conv => whnf) | (refine And.intro (by first | omega | assumption | kernel_rfl | exact And.intro rfl rfl | ((try dsimp only [inR, idx, lowOf]); first | omega | (with_reducible decide) | (simp; omega) | fail) | fail) ?_; conv => whnf) | fail)
    refine ⟨_, m_out, (n, es, v), [], false, ?_⟩
    conv => whnf
    refine And.intro (vc0 hg (by (repeat' (first | exact trivial | exact rfl | refine And.intro ?_ ?_ | (refine congrArg vI ?_; first | omega | (dsimp only; omega) | fail) | (refine congrArg some ?_) | omega | exact Nat.le_refl _ | exact congrArg (SV.lst _) (List.take_of_length_le (Nat.le_refl _)).symm))) (by repeat' (first | exact trivial | exact rfl | refine And.intro ?_ ?_ | (refine congrArg vI ?_; first | omega | (dsimp only; omega) | fail) | (refine congrArg some ?_) | omega | exact Nat.le_refl _ | exact congrArg (SV.lst _) (List.take_of_length_le (Nat.le_refl _)).symm)) trivial trivial) ?_
    refine And.intro ⟨(), trivial⟩ (fun (_ : Unit) _ => ?_)
    conv => whnf
    conv => whnf
    repeat' (first | (refine tell (fun htest => ?_) (fun htest => ?_) <;> (try dsimp only at htest) <;> first | (exfalso; omega) | (exact absurd rfl htest) | (exact absurd (by decide) htest) | (conv => whnf)) | (refine allG (x := _) (by first | exact hj | simpa [List.getElem?_append_right, lowOf] using hj | fail) ?_; conv => whnf) | (refine allLst (x := _) (by first | omega | assumption | fail) (by first | exact hj | simpa using hj | fail) ?_; conv => whnf) | (refine allG (x := e) (by first | exact he | simpa [List.getElem?_append_right, lowOf] using he | fail) ?_; conv => whnf) | (refine allLst (x := e) (by first | omega | assumption | fail) (by first | exact he | simpa using he | fail) ?_; conv => whnf) | (refine allG rfl ?_; conv => whnf) | (refine And.intro (by first | omega | assumption | kernel_rfl | exact And.intro rfl rfl | ((try dsimp only [inR, idx, lowOf]); first | omega | (with_reducible decide) | (simp; omega) | fail) | fail) ?_; conv => whnf) | fail)
    refine ⟨(e.2.1, out ++ [(m : Int)]), [(3001, 1011), (3003, 1055)], ⟨⟨o3, o4⟩, hless.1, (by show ((out ++ [(m : Int)]).length : Int) + farV es bl t e.2.1 ≤ 40000; rw [List.length_append]; simp; omega), fun l hl => (by show RouteP es bl t a ((out ++ [(m : Int)]) ++ l); rw [List.append_assoc]; exact hcont _ (.cons hvt he h1 h2 h3 hl))⟩, ?_, rfl, ?_, ?_, rfl⟩
    · dsimp only; first | omega | (simp; done) | (simp; omega)
    all_goals (repeat' (first | exact trivial | exact rfl | refine And.intro ?_ ?_ | (refine congrArg vI ?_; first | omega | (dsimp only; omega) | fail) | (refine congrArg some ?_) | omega | exact Nat.le_refl _ | exact congrArg (SV.lst _) (List.take_of_length_le (Nat.le_refl _)).symm))
    · exact congrArg (SV.sl (A := AF) 1055 1 0) (show out.length + 1 = (out ++ [(m : Int)]).length by simp)
    · exact congrArg (Ct.arr (A := AF) 3) (show (out.drop 0).take out.length ++ [(m : Int)] = out ++ [(m : Int)] by simp)
end Go.Sx


/-
  Layer 12, part E: where there is no way; what edges cost; small things.
-/
namespace Go.Sx
open Go Go.Proofs Go.Proofs.Ytmogappoadglgaa
theorem m_pick12 : Meets Try.prog regF 52 spPick := by
  refine meets Try.func52 13 noWr rfl (by kernel_rfl) (by kernel_rfl) ?_
  rintro ⟨(c : Int), (n : Int)⟩ ⟨⟨hc1, hc2⟩, (hn : 0 < n)⟩
  conv => whnf
  repeat' (first | (refine tell (fun htest => ?_) (fun htest => ?_) <;> (try dsimp only at htest) <;> first | (exfalso; omega) | (exact absurd rfl htest) | (exact absurd (by decide) htest) | (conv => whnf)) | (refine allG rfl ?_; conv => whnf) | (refine And.intro (by first | omega | assumption | kernel_rfl | exact And.intro rfl rfl | ((try dsimp only [inR, idx, lowOf]); first | omega | (with_reducible decide) | (simp; omega) | fail) | fail) ?_; conv => whnf) | fail)
  all_goals exact ⟨(), [], trivial, eI (by unfold pickF; first | rw [if_pos (by assumption)] | rw [if_neg (by assumption)]), trivial, trivial⟩
theorem m_has12 : Meets Try.prog regF 55 spHas := by
  refine meets Try.func55 18 noWr rfl (by kernel_rfl) (by kernel_rfl) ?_
  rintro ⟨(a : List Int), (k : Int)⟩ (hl : a.length ≤ 9223372036854775807)
  conv => whnf
  repeat' (first | (refine tell (fun htest => ?_) (fun htest => ?_) <;> (try dsimp only at htest) <;> first | (exfalso; omega) | (exact absurd rfl htest) | (exact absurd (by decide) htest) | (conv => whnf)) | (refine allG rfl ?_; conv => whnf) | (refine And.intro (by first | omega | assumption | kernel_rfl | exact And.intro rfl rfl | ((try dsimp only [inR, idx, lowOf]); first | omega | (with_reducible decide) | (simp; omega) | fail) | fail) ?_; conv => whnf) | fail)
  refine ⟨Nat, fun i => ⟨[(0, .lst 3 a), (1, vI k), (5, vI i)], []⟩, fun i => i ≤ a.length ∧ k ∉ a.take i, fun i => a.length - i, fun _ _ => rfl, ⟨0, [], ⟨Nat.zero_le _, by simp⟩, ?_⟩, ?_⟩
  · refine ⟨rfl, ?_, ?_, rfl⟩
    all_goals (repeat' (first | exact trivial | exact rfl | refine And.intro ?_ ?_ | (refine congrArg vI ?_; first | omega | (dsimp only; omega) | fail) | (refine congrArg some ?_) | omega | exact Nat.le_refl _ | exact congrArg (SV.lst _) (List.take_of_length_le (Nat.le_refl _)).symm))
  rintro (i : Nat) ⟨(hi : i ≤ a.length), (hs : k ∉ a.take i)⟩
  by_cases hlt : i < a.length
  · obtain ⟨x, hx⟩ : ∃ x, a[i]? = some x := ⟨_, List.getElem?_eq_getElem hlt⟩
    have hm := List.mem_of_getElem? hx
    by_cases hxk : x = k
    · conv => whnf
      repeat' (first | (refine tell (fun htest => ?_) (fun htest => ?_) <;> (try dsimp only at htest) <;> first | (exfalso; omega) | (exact absurd rfl htest) | (exact absurd (by decide) htest) | (conv => whnf)) | (refine allG (x := x) (by first | exact hx | simpa [List.getElem?_append_right, lowOf] using hx | fail) ?_; conv => whnf) | (refine allLst (x := x) (by first | omega | assumption | fail) (by first | exact hx | simpa using hx | fail) ?_; conv => whnf) | (refine allG rfl ?_; conv => whnf) | (refine And.intro (by first | omega | assumption | kernel_rfl | exact And.intro rfl rfl | ((try dsimp only [inR, idx, lowOf]); first | omega | (with_reducible decide) | (simp; omega) | fail) | fail) ?_; conv => whnf) | fail)
      exact ⟨true, [], ⟨fun _ => hxk ▸ hm, fun _ => rfl⟩, rfl, trivial, trivial⟩
    · conv => whnf
      repeat' (first | (refine tell (fun htest => ?_) (fun htest => ?_) <;> (try dsimp only at htest) <;> first | (exfalso; omega) | (exact absurd rfl htest) | (exact absurd (by decide) htest) | (conv => whnf)) | (refine allG (x := x) (by first | exact hx | simpa [List.getElem?_append_right, lowOf] using hx | fail) ?_; conv => whnf) | (refine allLst (x := x) (by first | omega | assumption | fail) (by first | exact hx | simpa using hx | fail) ?_; conv => whnf) | (refine allG rfl ?_; conv => whnf) | (refine And.intro (by first | omega | assumption | kernel_rfl | exact And.intro rfl rfl | ((try dsimp only [inR, idx, lowOf]); first | omega | (with_reducible decide) | (simp; omega) | fail) | fail) ?_; conv => whnf) | fail)
      refine ⟨i + 1, [], ⟨hlt, by rw [take_snocI hx]; simp; exact ⟨hs, fun h => hxk h.symm⟩⟩, ?_, rfl, ?_, ?_, rfl⟩
      · dsimp only; first | omega | (simp; done) | (simp; omega)
      all_goals (repeat' (first | exact trivial | exact rfl | refine And.intro ?_ ?_ | (refine congrArg vI ?_; first | omega | (dsimp only; omega) | fail) | (refine congrArg some ?_) | omega | exact Nat.le_refl _ | exact congrArg (SV.lst _) (List.take_of_length_le (Nat.le_refl _)).symm))
  · rw [List.take_of_length_le (by omega)] at hs
    conv => whnf
    repeat' (first | (refine tell (fun htest => ?_) (fun htest => ?_) <;> (try dsimp only at htest) <;> first | (exfalso; omega) | (exact absurd rfl htest) | (exact absurd (by decide) htest) | (conv => whnf)) | (refine allG rfl ?_; conv => whnf) | (refine And.intro (by first | omega | assumption | kernel_rfl | exact And.intro rfl rfl | ((try dsimp only [inR, idx, lowOf]); first | omega | (with_reducible decide) | (simp; omega) | fail) | fail) ?_; conv => whnf) | fail)
    exact ⟨false, [], ⟨fun h => (by cases h), fun h => absurd h hs⟩, rfl, trivial, trivial⟩
def spRouteE : Spec AF where
  γ := (Int × List Edge) × List Int × Int × Int
  δ := Unit
  args := fun g => [layS g.1.1 g.1.2, .lst 3 g.2.1, vI g.2.2.1, vI g.2.2.2]
  own := fun _ => []
  pre := fun g => RightL g.1.1 g.1.2 ∧ (0 ≤ g.2.2.1 ∧ g.2.2.1 < g.1.1) ∧ (0 ≤ g.2.2.2 ∧ g.2.2.2 < g.1.1) ∧ GoodL g.1.2 ∧ g.2.1.length ≤ 9223372036854775807 ∧ farV g.1.2 g.2.1 g.2.2.2 g.2.2.1 = -1
  nnew := 0
  res := fun _ _ => .tup [.val (.slice none 0 0), vI 120]
  own' := fun _ _ => []
  post := fun _ _ => True
theorem m_routeE : Meets Try.prog regF 54 spRouteE := by
  refine meets Try.func54 64 noWr rfl (by kernel_rfl) (by kernel_rfl) ?_
  rintro ⟨⟨(n : Int), (es : List Edge)⟩, (bl : List Int), (a : Int), (t : Int)⟩ ⟨(hR : RightL n es), ⟨(ha0 : 0 ≤ a), (han : a < n)⟩, ⟨(ht0 : 0 ≤ t), (htn : t < n)⟩, (hg : GoodL es), (hbl : bl.length ≤ 9223372036854775807), (hfa : farV es bl t a = -1)⟩
  have hfl := farF_len (n := n) (es := es) (bl := bl) (t := t)
  have haa := farF_at (es := es) (bl := bl) (t := t) ha0 han
  conv => whnf
  repeat' (first | (refine tell (fun htest => ?_) (fun htest => ?_) <;> (try dsimp only at htest) <;> first | (exfalso; omega) | (exact absurd rfl htest) | (exact absurd (by decide) htest) | (conv => whnf)) | (refine allG rfl ?_; conv => whnf) | (refine And.intro (by first | omega | assumption | kernel_rfl | exact And.intro rfl rfl | ((try dsimp only [inR, idx, lowOf]); first | omega | (with_reducible decide) | (simp; omega) | fail) | fail) ?_; conv => whnf) | fail)
  refine ⟨_, m_far, ((n, es), bl, t), [], false, ?_⟩
  conv => whnf
  refine And.intro (vc0 ⟨hR, ht0, htn, hg, hbl⟩ (by (repeat' (first | exact trivial | exact rfl | refine And.intro ?_ ?_ | (refine congrArg vI ?_; first | omega | (dsimp only; omega) | fail) | (refine congrArg some ?_) | omega | exact Nat.le_refl _ | exact congrArg (SV.lst _) (List.take_of_length_le (Nat.le_refl _)).symm))) (by repeat' (first | exact trivial | exact rfl | refine And.intro ?_ ?_ | (refine congrArg vI ?_; first | omega | (dsimp only; omega) | fail) | (refine congrArg some ?_) | omega | exact Nat.le_refl _ | exact congrArg (SV.lst _) (List.take_of_length_le (Nat.le_refl _)).symm)) trivial trivial) ?_
  refine And.intro ⟨(), trivial⟩ (fun (_ : Unit) _ => ?_)
  conv => whnf
  conv => whnf
  repeat' (first | (refine tell (fun htest => ?_) (fun htest => ?_) <;> (try dsimp only at htest) <;> first | (exfalso; omega) | (exact absurd rfl htest) | (exact absurd (by decide) htest) | (conv => whnf)) | (refine allLst (x := _) ha0 haa ?_; conv => whnf) | (refine allG rfl ?_; conv => whnf) | (refine And.intro (by first | omega | assumption | kernel_rfl | exact And.intro rfl rfl | ((try dsimp only [inR, idx, lowOf]); first | omega | (with_reducible decide) | (simp; omega) | fail) | fail) ?_; conv => whnf) | fail)
  exact ⟨(), [], trivial, ⟨rfl, rfl, trivial⟩, trivial, trivial⟩
def spRouteA : Spec AF where
  γ := (Int × List Edge) × List Int × Int × Int
  δ := Unit
  args := fun g => [layS g.1.1 g.1.2, .lst 3 g.2.1, vI g.2.2.1, vI g.2.2.2]
  own := fun _ => []
  pre := fun g => ¬ (RightL g.1.1 g.1.2 ∧ (0 ≤ g.2.2.1 ∧ g.2.2.1 < g.1.1) ∧ (0 ≤ g.2.2.2 ∧ g.2.2.2 < g.1.1)) ∧ GoodL g.1.2 ∧ g.2.1.length ≤ 9223372036854775807
  nnew := 0
  res := fun _ _ => .tup [.val (.slice none 0 0), vI 1]
  own' := fun _ _ => []
  post := fun _ _ => True
theorem m_routeA : Meets Try.prog regF 54 spRouteA := by
  refine meets Try.func54 64 noWr rfl (by kernel_rfl) (by kernel_rfl) ?_
  rintro ⟨⟨(n : Int), (es : List Edge)⟩, (bl : List Int), (a : Int), (t : Int)⟩ ⟨(hno : ¬ (RightL n es ∧ (0 ≤ a ∧ a < n) ∧ (0 ≤ t ∧ t < n))), (hg : GoodL es), (hbl : bl.length ≤ 9223372036854775807)⟩
  by_cases hF : RightL n es ∧ 0 ≤ t ∧ t < n
  · obtain ⟨hR, ht0, htn⟩ := hF
    have hfl := farF_len (n := n) (es := es) (bl := bl) (t := t)
    have hp := hR.pos
    have hna : ¬ (0 ≤ a ∧ a < n) := fun h => hno ⟨hR, h, ht0, htn⟩
    conv => whnf
    repeat' (first | (refine tell (fun htest => ?_) (fun htest => ?_) <;> (try dsimp only at htest) <;> first | (exfalso; omega) | (exact absurd rfl htest) | (exact absurd (by decide) htest) | (conv => whnf)) | (refine allG rfl ?_; conv => whnf) | (refine And.intro (by first | omega | assumption | kernel_rfl | exact And.intro rfl rfl | ((try dsimp only [inR, idx, lowOf]); first | omega | (with_reducible decide) | (simp; omega) | fail) | fail) ?_; conv => whnf) | fail)
    refine ⟨_, m_far, ((n, es), bl, t), [], false, ?_⟩
    conv => whnf
    refine And.intro (vc0 ⟨hR, ht0, htn, hg, hbl⟩ (by (repeat' (first | exact trivial | exact rfl | refine And.intro ?_ ?_ | (refine congrArg vI ?_; first | omega | (dsimp only; omega) | fail) | (refine congrArg some ?_) | omega | exact Nat.le_refl _ | exact congrArg (SV.lst _) (List.take_of_length_le (Nat.le_refl _)).symm))) (by repeat' (first | exact trivial | exact rfl | refine And.intro ?_ ?_ | (refine congrArg vI ?_; first | omega | (dsimp only; omega) | fail) | (refine congrArg some ?_) | omega | exact Nat.le_refl _ | exact congrArg (SV.lst _) (List.take_of_length_le (Nat.le_refl _)).symm)) trivial trivial) ?_
    refine And.intro ⟨(), trivial⟩ (fun (_ : Unit) _ => ?_)
    conv => whnf
    by_cases h0 : a < 0
    · conv => whnf
      repeat' (first | (refine tell (fun htest => ?_) (fun htest => ?_) <;> (try dsimp only at htest) <;> first | (exfalso; omega) | (exact absurd rfl htest) | (exact absurd (by decide) htest) | (conv => whnf)) | (refine allG rfl ?_; conv => whnf) | (refine And.intro (by first | omega | assumption | kernel_rfl | exact And.intro rfl rfl | ((try dsimp only [inR, idx, lowOf]); first | omega | (with_reducible decide) | (simp; omega) | fail) | fail) ?_; conv => whnf) | fail)
      exact ⟨(), [], trivial, ⟨rfl, rfl, trivial⟩, trivial, trivial⟩
    · have h1 : n ≤ a := by omega
      conv => whnf
      repeat' (first | (refine tell (fun htest => ?_) (fun htest => ?_) <;> (try dsimp only at htest) <;> first | (exfalso; omega) | (exact absurd rfl htest) | (exact absurd (by decide) htest) | (conv => whnf)) | (refine allG rfl ?_; conv => whnf) | (refine And.intro (by first | omega | assumption | kernel_rfl | exact And.intro rfl rfl | ((try dsimp only [inR, idx, lowOf]); first | omega | (with_reducible decide) | (simp; omega) | fail) | fail) ?_; conv => whnf) | fail)
      exact ⟨(), [], trivial, ⟨rfl, rfl, trivial⟩, trivial, trivial⟩
  · conv => whnf
    repeat' (first | (refine tell (fun htest => ?_) (fun htest => ?_) <;> (try dsimp only at htest) <;> first | (exfalso; omega) | (exact absurd rfl htest) | (exact absurd (by decide) htest) | (conv => whnf)) | (refine allG rfl ?_; conv => whnf) | (refine And.intro (by first | omega | assumption | kernel_rfl | exact And.intro rfl rfl | ((try dsimp only [inR, idx, lowOf]); first | omega | (with_reducible decide) | (simp; omega) | fail) | fail) ?_; conv => whnf) | fail)
    refine ⟨_, m_farN, ((n, es), bl, t), [], false, ?_⟩
    conv => whnf
    refine And.intro (vc0 ⟨hF, hg⟩ (by (repeat' (first | exact trivial | exact rfl | refine And.intro ?_ ?_ | (refine congrArg vI ?_; first | omega | (dsimp only; omega) | fail) | (refine congrArg some ?_) | omega | exact Nat.le_refl _ | exact congrArg (SV.lst _) (List.take_of_length_le (Nat.le_refl _)).symm))) (by repeat' (first | exact trivial | exact rfl | refine And.intro ?_ ?_ | (refine congrArg vI ?_; first | omega | (dsimp only; omega) | fail) | (refine congrArg some ?_) | omega | exact Nat.le_refl _ | exact congrArg (SV.lst _) (List.take_of_length_le (Nat.le_refl _)).symm)) trivial trivial) ?_
    refine And.intro ⟨(), trivial⟩ (fun (_ : Unit) _ => ?_)
    conv => whnf
    conv => whnf
    repeat' (first | (refine tell (fun htest => ?_) (fun htest => ?_) <;> (try dsimp only at htest) <;> first | (exfalso; omega) | (exact absurd rfl htest) | (exact absurd (by decide) htest) | (conv => whnf)) | (refine allG rfl ?_; conv => whnf) | (refine And.intro (by first | omega | assumption | kernel_rfl | exact And.intro rfl rfl | ((try dsimp only [inR, idx, lowOf]); first | omega | (with_reducible decide) | (simp; omega) | fail) | fail) ?_; conv => whnf) | fail)
    exact ⟨(), [], trivial, ⟨rfl, rfl, trivial⟩, trivial, trivial⟩
/-- What edges cost. -/
def costF (es : List Edge) : List Int → Int
  | [] => 0
  | i :: l => (if 0 ≤ i ∧ i < es.length then (match es[i.toNat]? with | some e => e.2.2 | none => 0) else 0) + costF es l
theorem costF_app (es : List Edge) : ∀ a b : List Int, costF es (a ++ b) = costF es a + costF es b
  | [], b => by simp [costF]
  | i :: a, b => by
    simp only [List.cons_append, costF]
    rw [costF_app es a b]; omega
theorem costF_bd {es : List Edge} (h : ∀ e ∈ es, 0 ≤ e.2.2 ∧ e.2.2 ≤ 1000) : ∀ l : List Int, 0 ≤ costF es l ∧ costF es l ≤ 1000 * (l.length : Int)
  | [] => by simp [costF]
  | i :: l => by
    have ih := costF_bd h l
    simp only [costF, List.length_cons]
    split
    · split
      · rename_i e he
        have := h e (List.mem_of_getElem? he)
        omega
      · omega
    · omega
theorem costF_snoc {es : List Edge} {is : List Int} {i : Nat} {x : Int} (hx : is[i]? = some x) : costF es (is.take (i + 1)) = costF es (is.take i) + costF es [x] := by
  rw [take_snocI hx, costF_app]
theorem cost_in {es : List Edge} {x : Int} {e : Edge} (h0 : 0 ≤ x) (h1 : x < es.length) (he : es[x.toNat]? = some e) : costF es [x] = e.2.2 := by
  simp only [costF]
  rw [if_pos ⟨h0, h1⟩, he]
  simp
theorem cost_out {es : List Edge} {x : Int} (h : ¬ (0 ≤ x ∧ x < es.length)) : costF es [x] = 0 := by
  simp only [costF]
  rw [if_neg h]
  simp
def spCost : Spec AF where
  γ := (Int × List Edge) × List Int
  δ := Unit
  args := fun g => [layS g.1.1 g.1.2, .lst 3 g.2]
  own := fun _ => []
  pre := fun g => (∀ e ∈ g.1.2, 0 ≤ e.2.2 ∧ e.2.2 ≤ 1000) ∧ g.1.2.length ≤ 9223372036854775807 ∧ g.2.length ≤ 17592186044416
  nnew := 0
  res := fun g _ => vI (costF g.1.2 g.2)
  own' := fun _ _ => []
  post := fun _ _ => True
theorem m_cost : Meets Try.prog regF 56 spCost := by
  refine meets Try.func56 31 noWr rfl (by kernel_rfl) (by kernel_rfl) ?_
  rintro ⟨⟨(n : Int), (es : List Edge)⟩, (is : List Int)⟩ ⟨(hc : ∀ e ∈ es, 0 ≤ e.2.2 ∧ e.2.2 ≤ 1000), (hel : es.length ≤ 9223372036854775807), (hil : is.length ≤ 17592186044416)⟩
  conv => whnf
  repeat' (first | (refine tell (fun htest => ?_) (fun htest => ?_) <;> (try dsimp only at htest) <;> first | (exfalso; omega) | (exact absurd rfl htest) | (exact absurd (by decide) htest) | (conv => whnf)) | (refine allG rfl ?_; conv => whnf) | (refine And.intro (by first | omega | assumption | kernel_rfl | exact And.intro rfl rfl | ((try dsimp only [inR, idx, lowOf]); first | omega | (with_reducible decide) | (simp; omega) | fail) | fail) ?_; conv => whnf) | fail)
  refine ⟨Nat, fun i => ⟨[(2, .ptr 1002 0 2 0), (4, vI (costF es (is.take i))), (7, .lst 3 is), (8, vI is.length), (9, vI i)], [(1002, layC n es)]⟩, fun i => i ≤ is.length, fun i => is.length - i, fun _ _ => rfl, ⟨0, [], Nat.zero_le _, ?_⟩, ?_⟩
  · refine ⟨rfl, ?_, ?_, rfl⟩
    all_goals (repeat' (first | exact trivial | exact rfl | refine And.intro ?_ ?_ | (refine congrArg vI ?_; first | omega | (dsimp only; omega) | fail) | (refine congrArg some ?_) | omega | exact Nat.le_refl _ | exact congrArg (SV.lst _) (List.take_of_length_le (Nat.le_refl _)).symm))
  rintro (i : Nat) (hi : i ≤ is.length)
  by_cases hlt : i < is.length
  · obtain ⟨x, hx⟩ : ∃ x, is[i]? = some x := ⟨_, List.getElem?_eq_getElem hlt⟩
    have hs := costF_snoc (es := es) hx
    have hb := costF_bd hc (is.take i)
    rw [List.length_take] at hb
    by_cases h0 : 0 ≤ x
    · by_cases h1 : x < es.length
      · obtain ⟨e, he⟩ : ∃ e, es[x.toNat]? = some e := ⟨_, List.getElem?_eq_getElem (by omega)⟩
        have hce := hc e (List.mem_of_getElem? he)
        rw [cost_in h0 h1 he] at hs
        conv => whnf
        repeat' (first | (refine tell (fun htest => ?_) (fun htest => ?_) <;> (try dsimp only at htest) <;> first | (exfalso; omega) | (exact absurd rfl htest) | (exact absurd (by decide) htest) | (conv => whnf)) | (refine allG (x := x) (by first | exact hx | simpa [List.getElem?_append_right, lowOf] using hx | fail) ?_; conv => whnf) | (refine allLst (x := x) (by first | omega | assumption | fail) (by first | exact hx | simpa using hx | fail) ?_; conv => whnf) | (refine allLst (x := e) h0 he ?_; conv => whnf) | (refine allG rfl ?_; conv => whnf) | (refine And.intro (by first | omega | assumption | kernel_rfl | exact And.intro rfl rfl | ((try dsimp only [inR, idx, lowOf]); first | omega | (with_reducible decide) | (simp; omega) | fail) | fail) ?_; conv => whnf) | fail)
        refine ⟨i + 1, [], hlt, ?_, rfl, ?_, ?_, rfl⟩
        · dsimp only; first | omega | (simp; done) | (simp; omega)
        all_goals (repeat' (first | exact trivial | exact rfl | refine And.intro ?_ ?_ | (refine congrArg vI ?_; first | omega | (dsimp only; omega) | fail) | (refine congrArg some ?_) | omega | exact Nat.le_refl _ | exact congrArg (SV.lst _) (List.take_of_length_le (Nat.le_refl _)).symm))
      · rw [cost_out (by omega)] at hs
        conv => whnf
        repeat' (first | (refine tell (fun htest => ?_) (fun htest => ?_) <;> (try dsimp only at htest) <;> first | (exfalso; omega) | (exact absurd rfl htest) | (exact absurd (by decide) htest) | (conv => whnf)) | (refine allG (x := x) (by first | exact hx | simpa [List.getElem?_append_right, lowOf] using hx | fail) ?_; conv => whnf) | (refine allLst (x := x) (by first | omega | assumption | fail) (by first | exact hx | simpa using hx | fail) ?_; conv => whnf) | (refine allG rfl ?_; conv => whnf) | (refine And.intro (by first | omega | assumption | kernel_rfl | exact And.intro rfl rfl | ((try dsimp only [inR, idx, lowOf]); first | omega | (with_reducible decide) | (simp; omega) | fail) | fail) ?_; conv => whnf) | fail)
        refine ⟨i + 1, [], hlt, ?_, rfl, ?_, ?_, rfl⟩
        · dsimp only; first | omega | (simp; done) | (simp; omega)
        all_goals (repeat' (first | exact trivial | exact rfl | refine And.intro ?_ ?_ | (refine congrArg vI ?_; first | omega | (dsimp only; omega) | fail) | (refine congrArg some ?_) | omega | exact Nat.le_refl _ | exact congrArg (SV.lst _) (List.take_of_length_le (Nat.le_refl _)).symm))
    · rw [cost_out (by omega)] at hs
      conv => whnf
      repeat' (first | (refine tell (fun htest => ?_) (fun htest => ?_) <;> (try dsimp only at htest) <;> first | (exfalso; omega) | (exact absurd rfl htest) | (exact absurd (by decide) htest) | (conv => whnf)) | (refine allG (x := x) (by first | exact hx | simpa [List.getElem?_append_right, lowOf] using hx | fail) ?_; conv => whnf) | (refine allLst (x := x) (by first | omega | assumption | fail) (by first | exact hx | simpa using hx | fail) ?_; conv => whnf) | (refine allG rfl ?_; conv => whnf) | (refine And.intro (by first | omega | assumption | kernel_rfl | exact And.intro rfl rfl | ((try dsimp only [inR, idx, lowOf]); first | omega | (with_reducible decide) | (simp; omega) | fail) | fail) ?_; conv => whnf) | fail)
      refine ⟨i + 1, [], hlt, ?_, rfl, ?_, ?_, rfl⟩
      · dsimp only; first | omega | (simp; done) | (simp; omega)
      all_goals (repeat' (first | exact trivial | exact rfl | refine And.intro ?_ ?_ | (refine congrArg vI ?_; first | omega | (dsimp only; omega) | fail) | (refine congrArg some ?_) | omega | exact Nat.le_refl _ | exact congrArg (SV.lst _) (List.take_of_length_le (Nat.le_refl _)).symm))
  · conv => whnf
    repeat' (first | (refine tell (fun htest => ?_) (fun htest => ?_) <;> (try dsimp only at htest) <;> first | (exfalso; omega) | (exact absurd rfl htest) | (exact absurd (by decide) htest) | (conv => whnf)) | (refine allG rfl ?_; conv => whnf) | (refine And.intro (by first | omega | assumption | kernel_rfl | exact And.intro rfl rfl | ((try dsimp only [inR, idx, lowOf]); first | omega | (with_reducible decide) | (simp; omega) | fail) | fail) ?_; conv => whnf) | fail)
    exact ⟨(), [], trivial, congrArg vI (show costF es (is.take i) = costF es is by rw [List.take_of_length_le (by omega)]), trivial, trivial⟩
/-- A route costs as Far tells. -/
theorem route_cost {n : Int} {es : List Edge} {bl : List Int} {t v : Int} (hR : RightL n es) {l : List Int} (h : RouteP es bl t v l) : costF es l = farV es bl t v := by
  induction h with
  | nil => rw [farV_self hR]; rfl
  | @cons v i e l hv he h1 hok hmin _ ih =>
    have hil := (List.getElem?_eq_some_iff.1 he).1
    show costF es ([(i : Int)] ++ l) = _
    rw [costF_app, cost_in (by omega) (by omega) (by rw [Int.toNat_natCast]; exact he), ih, ← hok.2.1]; omega
end Go.Sx


/-
  Layer 12, part F: Far and Route with slices of the caller's own; the chapter's examples.
-/
namespace Go.Sx
open Go Go.Proofs Go.Proofs.Ytmogappoadglgaa
noncomputable def spFar2 : Spec AF where
  γ := (Int × List Edge) × List Int × Int
  δ := Unit
  args := fun g => [layS g.1.1 g.1.2, .lst 3 g.2.1, vI g.2.2]
  own := fun _ => []
  pre := fun g => RightL g.1.1 g.1.2 ∧ 0 ≤ g.2.2 ∧ g.2.2 < g.1.1 ∧ GoodL g.1.2 ∧ g.2.1.length ≤ 9223372036854775807
  nnew := 1
  res := fun g _ => .sl 0 1 0 g.1.1.toNat
  own' := fun g _ => [some (.arr 3 (farF g.1.1 g.1.2 g.2.1 g.2.2))]
  post := fun _ _ => True
set_option maxHeartbeats 1600000 in
theorem m_far2 : Meets Try.prog regF 53 spFar2 := by
  refine meets Try.func53 38 noWr rfl (by kernel_rfl) (by kernel_rfl) ?_
  rintro ⟨⟨(n : Int), (es : List Edge)⟩, (bl : List Int), (t : Int)⟩ ⟨(hR : RightL n es), (h0 : 0 ≤ t), (ht : t < n), (hg : GoodL es), (hbl : bl.length ≤ 9223372036854775807)⟩
  obtain ⟨k, rfl⟩ := Int.eq_ofNat_of_zero_le (show 0 ≤ n from Int.le_of_lt hR.pos)
  have hk40 := hR.most
  have hkp := hR.pos
  conv => whnf
  repeat' (first | (refine tell (fun htest => ?_) (fun htest => ?_) <;> (try dsimp only at htest) <;> first | (exfalso; omega) | (exact absurd rfl htest) | (exact absurd (by decide) htest) | (conv => whnf)) | (refine allG rfl ?_; conv => whnf) | (refine And.intro (by first | omega | assumption | kernel_rfl | exact And.intro rfl rfl | ((try dsimp only [inR, idx, lowOf]); first | omega | (with_reducible decide) | (simp; omega) | fail) | fail) ?_; conv => whnf) | fail)
  refine ⟨_, m_right, (((k : Nat) : Int), es), [], false, ?_⟩
  conv => whnf
  refine And.intro (vc0 hg (by (repeat' (first | exact trivial | exact rfl | refine And.intro ?_ ?_ | (refine congrArg vI ?_; first | omega | (dsimp only; omega) | fail) | (refine congrArg some ?_) | omega | exact Nat.le_refl _ | exact congrArg (SV.lst _) (List.take_of_length_le (Nat.le_refl _)).symm))) (by repeat' (first | exact trivial | exact rfl | refine And.intro ?_ ?_ | (refine congrArg vI ?_; first | omega | (dsimp only; omega) | fail) | (refine congrArg some ?_) | omega | exact Nat.le_refl _ | exact congrArg (SV.lst _) (List.take_of_length_le (Nat.le_refl _)).symm)) trivial trivial) ?_
  refine And.intro (right_ex _ es) ?_
  intro (c : Bool) (hc : c = true ↔ RightL k es)
  cases c
  · have := hc.2 hR; cases this
  conv => whnf
  repeat' (first | (refine tell (fun htest => ?_) (fun htest => ?_) <;> (try dsimp only at htest) <;> first | (exfalso; omega) | (exact absurd rfl htest) | (exact absurd (by decide) htest) | (conv => whnf)) | (refine allG rfl ?_; conv => whnf) | (refine And.intro (by first | omega | assumption | kernel_rfl | exact And.intro rfl rfl | ((try dsimp only [inR, idx, lowOf]); first | omega | (with_reducible decide) | (simp; omega) | fail) | fail) ?_; conv => whnf) | fail)
  refine ⟨_, m_repeat, (-1, k), [1023], false, ?_⟩
  conv => whnf
  refine And.intro (vc0 ⟨by show 1 ≤ k; omega, by show k ≤ 1000; omega⟩ (by (repeat' (first | exact trivial | exact rfl | refine And.intro ?_ ?_ | (refine congrArg vI ?_; first | omega | (dsimp only; omega) | fail) | (refine congrArg some ?_) | omega | exact Nat.le_refl _ | exact congrArg (SV.lst _) (List.take_of_length_le (Nat.le_refl _)).symm))) (by repeat' (first | exact trivial | exact rfl | refine And.intro ?_ ?_ | (refine congrArg vI ?_; first | omega | (dsimp only; omega) | fail) | (refine congrArg some ?_) | omega | exact Nat.le_refl _ | exact congrArg (SV.lst _) (List.take_of_length_le (Nat.le_refl _)).symm)) trivial trivial) ?_
  refine And.intro ⟨(), trivial⟩ (fun (_ : Unit) _ => ?_)
  conv => whnf
  conv => whnf
  repeat' (first | (refine tell (fun htest => ?_) (fun htest => ?_) <;> (try dsimp only at htest) <;> first | (exfalso; omega) | (exact absurd rfl htest) | (exact absurd (by decide) htest) | (conv => whnf)) | (refine allG rfl ?_; conv => whnf) | (refine And.intro (by first | omega | assumption | kernel_rfl | exact And.intro rfl rfl | ((try dsimp only [inR, idx, lowOf]); first | omega | (with_reducible decide) | (simp; omega) | fail) | fail) ?_; conv => whnf) | fail)
  refine ⟨_, m_known, ((((k : Nat) : Int), es), bl, t), [], false, ?_⟩
  conv => whnf
  refine And.intro (vc0 trivial (by (repeat' (first | exact trivial | exact rfl | refine And.intro ?_ ?_ | (refine congrArg vI ?_; first | omega | (dsimp only; omega) | fail) | (refine congrArg some ?_) | omega | exact Nat.le_refl _ | exact congrArg (SV.lst _) (List.take_of_length_le (Nat.le_refl _)).symm))) (by repeat' (first | exact trivial | exact rfl | refine And.intro ?_ ?_ | (refine congrArg vI ?_; first | omega | (dsimp only; omega) | fail) | (refine congrArg some ?_) | omega | exact Nat.le_refl _ | exact congrArg (SV.lst _) (List.take_of_length_le (Nat.le_refl _)).symm)) trivial trivial) ?_
  refine And.intro ⟨(), trivial⟩ (fun (_ : Unit) _ => ?_)
  conv => whnf
  conv => whnf
  repeat' (first | (refine tell (fun htest => ?_) (fun htest => ?_) <;> (try dsimp only at htest) <;> first | (exfalso; omega) | (exact absurd rfl htest) | (exact absurd (by decide) htest) | (conv => whnf)) | (refine allG rfl ?_; conv => whnf) | (refine And.intro (by first | omega | assumption | kernel_rfl | exact And.intro rfl rfl | ((try dsimp only [inR, idx, lowOf]); first | omega | (with_reducible decide) | (simp; omega) | fail) | fail) ?_; conv => whnf) | fail)
  refine ⟨spYield, spIt, 2, it_known, [1026, 1007], [1030, 2030, 3030], fun _ => ((((k : Nat) : Int), es), bl, t), ⟨rfl, rfl, rfl⟩, ?_, ?_⟩
  · rintro ⟨(xs : List Int), (v : Int), (c : Int)⟩ ⟨(hv0 : 0 ≤ v), (hvl : v < xs.length)⟩
    refine ⟨⟨rfl, ⟨rfl, rfl, trivial⟩, rfl, trivial⟩, ?_⟩
    obtain ⟨x, hx⟩ : ∃ x, xs[v.toNat]? = some x := ⟨_, List.getElem?_eq_getElem (by omega)⟩
    conv => whnf
    repeat' (first | (refine tell (fun htest => ?_) (fun htest => ?_) <;> (try dsimp only at htest) <;> first | (exfalso; omega) | (exact absurd rfl htest) | (exact absurd (by decide) htest) | (conv => whnf)) | (refine allG (x := x) (by first | exact hx | simpa [List.getElem?_append_right, lowOf] using hx | fail) ?_; conv => whnf) | (refine allLst (x := x) (by first | omega | assumption | fail) (by first | exact hx | simpa using hx | fail) ?_; conv => whnf) | (refine allG rfl ?_; conv => whnf) | (refine And.intro (by first | omega | assumption | kernel_rfl | exact And.intro rfl rfl | ((try dsimp only [inR, idx, lowOf]); first | omega | (with_reducible decide) | (simp; omega) | fail) | fail) ?_; conv => whnf) | fail)
    refine ⟨(), trivial, rfl, ⟨?_, ⟨rfl, trivial⟩, trivial⟩, trivial⟩
    exact congrArg (fun i : Nat => Ct.arr (A := AF) 3 (xs.set i c)) (show 0 + v.toNat = v.toNat by omega)
  · intro l
    refine ⟨rfl, ?_⟩
    conv => whnf
    refine And.intro (vc0 ⟨hR, h0, ht, hbl⟩ ⟨rfl, rfl, rfl, rfl, trivial⟩ ⟨rfl, rfl, rfl, rfl, rfl, trivial⟩ trivial trivial) ?_
    refine And.intro ⟨(), trivial⟩ (fun (_ : Unit) _ => ?_)
    conv => whnf
    conv => whnf
    repeat' (first | (refine tell (fun htest => ?_) (fun htest => ?_) <;> (try dsimp only at htest) <;> first | (exfalso; omega) | (exact absurd rfl htest) | (exact absurd (by decide) htest) | (conv => whnf)) | (refine allG rfl ?_; conv => whnf) | (refine And.intro (by first | omega | assumption | kernel_rfl | exact And.intro rfl rfl | ((try dsimp only [inR, idx, lowOf]); first | omega | (with_reducible decide) | (simp; omega) | fail) | fail) ?_; conv => whnf) | fail)
    exact ⟨(), [1026], trivial, rfl, ⟨rfl, trivial⟩, trivial⟩
noncomputable def spRoute2 : Spec AF where
  γ := (Int × List Edge) × List Int × Int × Int
  δ := List Int
  args := fun g => [layS g.1.1 g.1.2, .lst 3 g.2.1, vI g.2.2.1, vI g.2.2.2]
  own := fun _ => []
  pre := fun g => RightL g.1.1 g.1.2 ∧ (0 ≤ g.2.2.1 ∧ g.2.2.1 < g.1.1) ∧ (0 ≤ g.2.2.2 ∧ g.2.2.2 < g.1.1) ∧ GoodL g.1.2 ∧ g.2.1.length ≤ 9223372036854775807 ∧ 0 ≤ farV g.1.2 g.2.1 g.2.2.2 g.2.2.1
  nnew := 1
  res := fun _ l => .tup [.sl 0 1 0 l.length, vI 0]
  own' := fun _ l => [some (.arr 3 l)]
  post := fun g l => RouteP g.1.2 g.2.1 g.2.2.2 g.2.2.1 l
set_option maxHeartbeats 3200000 in
theorem m_route2 : Meets Try.prog regF 54 spRoute2 := by
  refine meets Try.func54 64 noWr rfl (by kernel_rfl) (by kernel_rfl) ?_
  rintro ⟨⟨(n : Int), (es : List Edge)⟩, (bl : List Int), (a : Int), (t : Int)⟩ ⟨(hR : RightL n es), ⟨(ha0 : 0 ≤ a), (han : a < n)⟩, ⟨(ht0 : 0 ≤ t), (htn : t < n)⟩, (hg : GoodL es), (hbl : bl.length ≤ 9223372036854775807), (hfa : 0 ≤ farV es bl t a)⟩
  have hfl := farF_len (n := n) (es := es) (bl := bl) (t := t)
  have haa := farF_at (es := es) (bl := bl) (t := t) ha0 han
  have hba := farV_bd hR ht0 htn (bl := bl) a
  have hes := hR.len
  conv => whnf
  repeat' (first | (refine tell (fun htest => ?_) (fun htest => ?_) <;> (try dsimp only at htest) <;> first | (exfalso; omega) | (exact absurd rfl htest) | (exact absurd (by decide) htest) | (conv => whnf)) | (refine allG rfl ?_; conv => whnf) | (refine And.intro (by first | omega | assumption | kernel_rfl | exact And.intro rfl rfl | ((try dsimp only [inR, idx, lowOf]); first | omega | (with_reducible decide) | (simp; omega) | fail) | fail) ?_; conv => whnf) | fail)
  refine ⟨_, m_far, ((n, es), bl, t), [], false, ?_⟩
  conv => whnf
  refine And.intro (vc0 ⟨hR, ht0, htn, hg, hbl⟩ (by (repeat' (first | exact trivial | exact rfl | refine And.intro ?_ ?_ | (refine congrArg vI ?_; first | omega | (dsimp only; omega) | fail) | (refine congrArg some ?_) | omega | exact Nat.le_refl _ | exact congrArg (SV.lst _) (List.take_of_length_le (Nat.le_refl _)).symm))) (by repeat' (first | exact trivial | exact rfl | refine And.intro ?_ ?_ | (refine congrArg vI ?_; first | omega | (dsimp only; omega) | fail) | (refine congrArg some ?_) | omega | exact Nat.le_refl _ | exact congrArg (SV.lst _) (List.take_of_length_le (Nat.le_refl _)).symm)) trivial trivial) ?_
  refine And.intro ⟨(), trivial⟩ (fun (_ : Unit) _ => ?_)
  conv => whnf
  conv => whnf
  repeat' (first | (refine tell (fun htest => ?_) (fun htest => ?_) <;> (try dsimp only at htest) <;> first | (exfalso; omega) | (exact absurd rfl htest) | (exact absurd (by decide) htest) | (conv => whnf)) | (refine allLst (x := _) ha0 haa ?_; conv => whnf) | (refine allG rfl ?_; conv => whnf) | (refine And.intro (by first | omega | assumption | kernel_rfl | exact And.intro rfl rfl | ((try dsimp only [inR, idx, lowOf]); first | omega | (with_reducible decide) | (simp; omega) | fail) | fail) ?_; conv => whnf) | fail)
  refine ⟨Int × List Int, fun p => ⟨[(3, vI t), (4, .ptr 1004 0 2 0), (5, .ptr 1005 0 1 0), (8, .sl 3003 1 0 p.2.length), (10, .ptr 1010 0 1 0), (11, .ptr 3001 0 1 0)], [(1004, layC n es), (1005, .cells [.lst 3 bl]), (1010, .cells [.lst 3 (farF n es bl t)]), (3001, .cells [vI p.1]), (3003, .arr 3 p.2)]⟩, fun p => (0 ≤ p.1 ∧ p.1 < n) ∧ 0 ≤ farV es bl t p.1 ∧ (p.2.length : Int) + farV es bl t p.1 ≤ 40000 ∧ ∀ l, RouteP es bl t p.1 l → RouteP es bl t a (p.2 ++ l), fun p => (farV es bl t p.1).toNat, fun _ _ => rfl, ⟨(a, []), [(3001, 1011)], ⟨⟨ha0, han⟩, hfa, by simpa using hba, fun l h => h⟩, ?_⟩, ?_⟩
  · refine ⟨rfl, ?_, ?_, rfl⟩
    all_goals (repeat' (first | exact trivial | exact rfl | refine And.intro ?_ ?_ | (refine congrArg vI ?_; first | omega | (dsimp only; omega) | fail) | (refine congrArg some ?_) | omega | exact Nat.le_refl _ | exact congrArg (SV.lst _) (List.take_of_length_le (Nat.le_refl _)).symm))
  rintro ⟨(v : Int), (out : List Int)⟩ ⟨⟨(hv0 : 0 ≤ v), (hvn : v < n)⟩, (hfv : 0 ≤ farV es bl t v), (hol : (out.length : Int) + farV es bl t v ≤ 40000), (hcont : ∀ l, RouteP es bl t v l → RouteP es bl t a (out ++ l))⟩
  by_cases hvt : v = t
  · subst hvt
    conv => whnf
    repeat' (first | (refine tell (fun htest => ?_) (fun htest => ?_) <;> (try dsimp only at htest) <;> first | (exfalso; omega) | (exact absurd rfl htest) | (exact absurd (by decide) htest) | (conv => whnf)) | (refine allG rfl ?_; conv => whnf) | (refine And.intro (by first | omega | assumption | kernel_rfl | exact And.intro rfl rfl | ((try dsimp only [inR, idx, lowOf]); first | omega | (with_reducible decide) | (simp; omega) | fail) | fail) ?_; conv => whnf) | fail)
    exact ⟨out, [3003], (by have := hcont [] .nil; rwa [List.append_nil] at this), ⟨rfl, rfl, trivial⟩, ⟨rfl, trivial⟩, trivial⟩
  · obtain ⟨i0, e0, he0, h10, h20, _⟩ := okE_ex hR hvt hfv
    have hof : outF n es v = outL es v 0 := if_pos hR
    have hos : ∀ i ∈ outF n es v, 0 ≤ i ∧ i < es.length := fun i hi => by
      rw [hof] at hi
      obtain ⟨j, x, q1, q2, _⟩ := (outL_mem v es 0 i).1 hi
      have := (List.getElem?_eq_some_iff.1 q2).1
      omega
    have hosl : (outF n es v).length ≤ 1000 := by rw [hof]; have := outL_len v es 0; omega
    conv => whnf
    repeat' (first | (refine tell (fun htest => ?_) (fun htest => ?_) <;> (try dsimp only at htest) <;> first | (exfalso; omega) | (exact absurd rfl htest) | (exact absurd (by decide) htest) | (conv => whnf)) | (refine allG rfl ?_; conv => whnf) | (refine And.intro (by first | omega | assumption | kernel_rfl | exact And.intro rfl rfl | ((try dsimp only [inR, idx, lowOf]); first | omega | (with_reducible decide) | (simp; omega) | fail) | fail) ?_; conv => whnf) | fail)
    refine ⟨_, m_out, (n, es, v), [], false, ?_⟩
    conv => whnf
    refine And.intro (vc0 hg (by (repeat' (first | exact trivial | exact rfl | refine And.intro ?_ ?_ | (refine congrArg vI ?_; first | omega | (dsimp only; omega) | fail) | (refine congrArg some ?_) | omega | exact Nat.le_refl _ | exact congrArg (SV.lst _) (List.take_of_length_le (Nat.le_refl _)).symm))) (by repeat' (first | exact trivial | exact rfl | refine And.intro ?_ ?_ | (refine congrArg vI ?_; first | omega | (dsimp only; omega) | fail) | (refine congrArg some ?_) | omega | exact Nat.le_refl _ | exact congrArg (SV.lst _) (List.take_of_length_le (Nat.le_refl _)).symm)) trivial trivial) ?_
    refine And.intro ⟨(), trivial⟩ (fun (_ : Unit) _ => ?_)
    conv => whnf
    conv => whnf
    repeat' (first | (refine tell (fun htest => ?_) (fun htest => ?_) <;> (try dsimp only at htest) <;> first | (exfalso; omega) | (exact absurd rfl htest) | (exact absurd (by decide) htest) | (conv => whnf)) | (refine allG rfl ?_; conv => whnf) | (refine And.intro (by first | omega | assumption | kernel_rfl | exact And.intro rfl rfl | ((try dsimp only [inR, idx, lowOf]); first | omega | (with_reducible decide) | (simp; omega) | fail) | fail) ?_; conv => whnf) | fail)
    refine ⟨_, m_idxR, (outF n es v, (n, es), bl, t, v), [1004, 1010, 3001, 1005], false, ?_⟩
    conv => whnf
    refine And.intro (vc0 ⟨hR, ⟨ht0, htn⟩, ⟨hv0, hvn⟩, hfv, hbl, hos, hosl⟩ (by (repeat' (first | exact trivial | exact rfl | refine And.intro ?_ ?_ | (refine congrArg vI ?_; first | omega | (dsimp only; omega) | fail) | (refine congrArg some ?_) | omega | exact Nat.le_refl _ | exact congrArg (SV.lst _) (List.take_of_length_le (Nat.le_refl _)).symm))) (by repeat' (first | exact trivial | exact rfl | refine And.intro ?_ ?_ | (refine congrArg vI ?_; first | omega | (dsimp only; omega) | fail) | (refine congrArg some ?_) | omega | exact Nat.le_refl _ | exact congrArg (SV.lst _) (List.take_of_length_le (Nat.le_refl _)).symm)) trivial trivial) ?_
    refine And.intro (firstAt_ex _ _) ?_
    intro (r : Int) (hr : FirstAt (outF n es v) (PredR es bl t v) r)
    rw [hof] at hr
    obtain ⟨j, m, e, rfl, hj, he, h1, h2, h3⟩ := firstAt_out hr ⟨i0, e0, he0, h10, h20⟩
    rw [← hof] at hj
    have hmem := List.mem_of_getElem? he
    have hml := (List.getElem?_eq_some_iff.1 he).1
    have hless := okE_less hR hmem h2
    obtain ⟨o1, o2, o3, o4, _, o6, o7⟩ := hR.each e hmem
    have hjl : j < (outF n es v).length := (List.getElem?_eq_some_iff.1 hj).1
    conv => whnf
    repeat' (first | (refine tell (fun htest => ?_) (fun htest => ?_) <;> (try dsimp only at htest) <;> first | (exfalso; omega) | (exact absurd rfl htest) | (exact absurd (by decide) htest) | (conv => whnf)) | (refine allG rfl ?_; conv => whnf) | (refine And.intro (by first | omega | assumption | kernel_rfl | exact And.intro rfl rfl | ((try dsimp only [inR, idx, lowOf]); first | omega | (with_reducible decide) | (simp; omega) | fail) | fail) ?_; conv => whnf) | fail)
    refine ⟨_, m_out, (n, es, v), [], false, ?_⟩
    conv => whnf
    refine And.intro (vc0 hg (by (repeat' (first | exact trivial | exact rfl | refine And.intro ?_ ?_ | (refine congrArg vI ?_; first | omega | (dsimp only; omega) | fail) | (refine congrArg some ?_) | omega | exact Nat.le_refl _ | exact congrArg (SV.lst _) (List.take_of_length_le (Nat.le_refl _)).symm))) (by repeat' (first | exact trivial | exact rfl | refine And.intro ?_ ?_ | (refine congrArg vI ?_; first | omega | (dsimp only; omega) | fail) | (refine congrArg some ?_) | omega | exact Nat.le_refl _ | exact congrArg (SV.lst _) (List.take_of_length_le (Nat.le_refl _)).symm)) trivial trivial) ?_
    refine And.intro ⟨(), trivial⟩ (fun (_ : Unit) _ => ?_)
    conv => whnf
    conv => whnf
    repeat' (first | (refine tell (fun htest => ?_) (fun htest => ?_) <;> (try dsimp only at htest) <;> first | (exfalso; omega) | (exact absurd rfl htest) | (exact absurd (by decide) htest) | (conv => whnf)) | (refine allG (x := _) (by first | exact hj | simpa [List.getElem?_append_right, lowOf] using hj | fail) ?_; conv => whnf) | (refine allLst (x := _) (by first | omega | assumption | fail) (by first | exact hj | simpa using hj | fail) ?_; conv => whnf) | (refine allG (x := e) (by first | exact he | simpa [List.getElem?_append_right, lowOf] using he | fail) ?_; conv => whnf) | (refine allLst (x := e) (by first | omega | assumption | fail) (by first | exact he | simpa using he | fail) ?_; conv => whnf) | (refine allG rfl ?_; conv => whnf) | (refine And.intro (by first | omega | assumption | kernel_rfl | exact And.intro rfl rfl | ((try dsimp only [inR, idx, lowOf]); first | omega | (with_reducible decide) | (simp; omega) | fail) | fail) ?_; conv => whnf) | fail)
    refine ⟨(e.2.1, out ++ [(m : Int)]), [(3001, 1011), (3003, 1055)], ⟨⟨o3, o4⟩, hless.1, (by show ((out ++ [(m : Int)]).length : Int) + farV es bl t e.2.1 ≤ 40000; rw [List.length_append]; simp; omega), fun l hl => (by show RouteP es bl t a ((out ++ [(m : Int)]) ++ l); rw [List.append_assoc]; exact hcont _ (.cons hvt he h1 h2 h3 hl))⟩, ?_, rfl, ?_, ?_, rfl⟩
    · dsimp only; first | omega | (simp; done) | (simp; omega)
    all_goals (repeat' (first | exact trivial | exact rfl | refine And.intro ?_ ?_ | (refine congrArg vI ?_; first | omega | (dsimp only; omega) | fail) | (refine congrArg some ?_) | omega | exact Nat.le_refl _ | exact congrArg (SV.lst _) (List.take_of_length_le (Nat.le_refl _)).symm))
    · exact congrArg (SV.sl (A := AF) 1055 1 0) (show out.length + 1 = (out ++ [(m : Int)]).length by simp)
    · exact congrArg (Ct.arr (A := AF) 3) (show (out.drop 0).take out.length ++ [(m : Int)] = out ++ [(m : Int)] by simp)
theorem way_ge {es : List Edge} {bl : List Int} {t : Int} (p : Int → Int) (ht : p t ≤ 0) (hp : ∀ e ∈ es, e.2.1 ∉ bl → p e.1 ≤ e.2.2 + p e.2.1) {v c : Int} (h : WayC es bl t v c) : p v ≤ c := by
  induction h with
  | refl => exact ht
  | step he hb _ ih => have := hp _ he hb; omega
abbrev A3 : List Edge := [(0, 1, 1), (1, 2, 1), (0, 2, 2)]
theorem a3each {P : Edge → Prop} (h0 : P (0, 1, 1)) (h1 : P (1, 2, 1)) (h2 : P (0, 2, 2)) : ∀ e ∈ A3, P e := fun e he => by
  simp only [A3, List.mem_cons, List.not_mem_nil, or_false] at he
  rcases he with rfl | rfl | rfl <;> assumption
theorem a3Right : RightL 3 A3 := ⟨by decide, by decide, by decide, a3each (by unfold EdgeOk; decide) (by unfold EdgeOk; decide) (by unfold EdgeOk; decide), by decide⟩
theorem a3Good : GoodL A3 := ⟨by decide, a3each (by unfold InI; decide) (by unfold InI; decide) (by unfold InI; decide)⟩
theorem a3w1 (bl : List Int) (h : (2 : Int) ∉ bl) : WayC A3 bl 2 1 1 := .step (e := (1, 2, 1)) (c := 0) (by decide) h .refl
theorem a3w0 (bl : List Int) (h : (2 : Int) ∉ bl) : WayC A3 bl 2 0 2 := .step (e := (0, 2, 2)) (c := 0) (by decide) h .refl
theorem a3ge (bl : List Int) {v c : Int} (h : WayC A3 bl 2 v c) : 2 - v ≤ c := way_ge (fun v => 2 - v) (by decide) (fun e he _ => by
  simp only [A3, List.mem_cons, List.not_mem_nil, or_false] at he
  rcases he with rfl | rfl | rfl <;> decide) h
theorem a3f0 (bl : List Int) (h : (2 : Int) ∉ bl) : farV A3 bl 2 0 = 2 := farV_eq a3Right (a3w0 bl h) fun k hk => by have := a3ge bl hk; omega
theorem a3f1 (bl : List Int) (h : (2 : Int) ∉ bl) : farV A3 bl 2 1 = 1 := farV_eq a3Right (a3w1 bl h) fun k hk => by have := a3ge bl hk; omega
theorem a3f2 (bl : List Int) : farV A3 bl 2 2 = 0 := farV_self a3Right
theorem a3no : farV A3 [] 0 2 = -1 := farV_none fun c h => by
  generalize hv : (2 : Int) = v at h
  cases h with
  | refl => cases hv
  | step he _ _ =>
    simp only [A3, List.mem_cons, List.not_mem_nil, or_false] at he
    rcases he with rfl | rfl | rfl <;> cases hv
theorem a3far : farF 3 A3 [] 2 = [2, 1, 0] := by
  show [farV A3 [] 2 0, farV A3 [] 2 1, farV A3 [] 2 2] = _
  rw [a3f0 [] (by decide), a3f1 [] (by decide), a3f2 []]
theorem a3r0 : RouteP A3 [] 2 0 [0, 1] := by
  refine .cons (i := 0) (e := (0, 1, 1)) (by decide) rfl rfl ⟨?_, ?_, by decide⟩ (fun j x h => absurd h (Nat.not_lt_zero _)) ?_
  · show 0 ≤ farV A3 [] 2 1; rw [a3f1 [] (by decide)]; decide
  · show farV A3 [] 2 1 + 1 = farV A3 [] 2 0; rw [a3f1 [] (by decide), a3f0 [] (by decide)]; rfl
  · refine .cons (i := 1) (e := (1, 2, 1)) (by decide) rfl rfl ⟨?_, ?_, by decide⟩ (fun j x h hx hv => ?_) .nil
    · show 0 ≤ farV A3 [] 2 2; rw [a3f2]; decide
    · show farV A3 [] 2 2 + 1 = farV A3 [] 2 1; rw [a3f1 [] (by decide), a3f2]; rfl
    · obtain rfl : j = 0 := by omega
      cases hx; cases hv
theorem a3r1 : RouteP A3 [1] 2 0 [2] := by
  refine .cons (i := 2) (e := (0, 2, 2)) (by decide) rfl rfl ⟨?_, ?_, by decide⟩ (fun j x h hx hv ho => ?_) .nil
  · show 0 ≤ farV A3 [1] 2 2; rw [a3f2]; decide
  · show farV A3 [1] 2 2 + 2 = farV A3 [1] 2 0; rw [a3f0 [1] (by decide), a3f2]; rfl
  · match j, h with
    | 0, _ => cases hx; exact ho.2.2 (by decide)
    | 1, _ => cases hx; cases hv
def spAwakeR : Spec AF where
  γ := Unit
  δ := Unit
  args := fun _ => []
  own := fun _ => []
  pre := fun _ => True
  nnew := 0
  res := fun _ _ => vB true
  own' := fun _ _ => []
  post := fun _ _ => True
set_option maxHeartbeats 1600000 in
theorem m_awakeR : Meets Try.prog regF 51 spAwakeR := by
  refine meets Try.func51 61 noWr rfl (by kernel_rfl) (by kernel_rfl) ?_
  rintro ⟨⟩ ⟨⟩
  conv => whnf
  repeat' (first | (refine tell (fun htest => ?_) (fun htest => ?_) <;> (try dsimp only at htest) <;> first | (exfalso; omega) | (exact absurd rfl htest) | (exact absurd (by decide) htest) | (conv => whnf)) | (refine allG rfl ?_; conv => whnf) | (refine And.intro (by first | omega | assumption | kernel_rfl | exact And.intro rfl rfl | ((try dsimp only [inR, idx, lowOf]); first | omega | (with_reducible decide) | (simp; omega) | fail) | fail) ?_; conv => whnf) | fail)
  refine ⟨_, m_route2, ((3, A3), [], 0, 2), [], true, ?_⟩
  conv => whnf
  refine And.intro (vc0 ⟨a3Right, by decide, by decide, a3Good, by decide, (by show 0 ≤ farV A3 [] 2 0; rw [a3f0 [] (by decide)]; decide)⟩ (by (repeat' (first | exact trivial | exact rfl | refine And.intro ?_ ?_ | (refine congrArg vI ?_; first | omega | (dsimp only; omega) | fail) | (refine congrArg some ?_) | omega | exact Nat.le_refl _ | exact congrArg (SV.lst _) (List.take_of_length_le (Nat.le_refl _)).symm))) (by repeat' (first | exact trivial | exact rfl | refine And.intro ?_ ?_ | (refine congrArg vI ?_; first | omega | (dsimp only; omega) | fail) | (refine congrArg some ?_) | omega | exact Nat.le_refl _ | exact congrArg (SV.lst _) (List.take_of_length_le (Nat.le_refl _)).symm)) trivial (.inr (fun _ => ⟨rfl, fun h ct he => by rcases h with _ | _ | h <;> first | (cases he; done) | (cases he; rfl)⟩))) ?_
  refine And.intro ⟨_, a3r0⟩ ?_
  intro (l : List Int) (hl : RouteP A3 [] 2 0 l)
  obtain rfl := route_one hl a3r0
  conv => whnf
  repeat' (first | (refine tell (fun htest => ?_) (fun htest => ?_) <;> (try dsimp only at htest) <;> first | (exfalso; omega) | (exact absurd rfl htest) | (exact absurd (by decide) htest) | (conv => whnf)) | (refine allG rfl ?_; conv => whnf) | (refine And.intro (by first | omega | assumption | kernel_rfl | exact And.intro rfl rfl | ((try dsimp only [inR, idx, lowOf]); first | omega | (with_reducible decide) | (simp; omega) | fail) | fail) ?_; conv => whnf) | fail)
  refine ⟨_, m_route2, ((3, A3), [1], 0, 2), [], true, ?_⟩
  conv => whnf
  refine And.intro (vc0 ⟨a3Right, by decide, by decide, a3Good, by decide, (by show 0 ≤ farV A3 [1] 2 0; rw [a3f0 [1] (by decide)]; decide)⟩ (by (repeat' (first | exact trivial | exact rfl | refine And.intro ?_ ?_ | (refine congrArg vI ?_; first | omega | (dsimp only; omega) | fail) | (refine congrArg some ?_) | omega | exact Nat.le_refl _ | exact congrArg (SV.lst _) (List.take_of_length_le (Nat.le_refl _)).symm))) (by repeat' (first | exact trivial | exact rfl | refine And.intro ?_ ?_ | (refine congrArg vI ?_; first | omega | (dsimp only; omega) | fail) | (refine congrArg some ?_) | omega | exact Nat.le_refl _ | exact congrArg (SV.lst _) (List.take_of_length_le (Nat.le_refl _)).symm)) trivial (.inr (fun _ => ⟨rfl, fun h ct he => by rcases h with _ | _ | h <;> first | (cases he; done) | (cases he; rfl)⟩))) ?_
  refine And.intro ⟨_, a3r1⟩ ?_
  intro (l : List Int) (hl : RouteP A3 [1] 2 0 l)
  obtain rfl := route_one hl a3r1
  conv => whnf
  repeat' (first | (refine tell (fun htest => ?_) (fun htest => ?_) <;> (try dsimp only at htest) <;> first | (exfalso; omega) | (exact absurd rfl htest) | (exact absurd (by decide) htest) | (conv => whnf)) | (refine allG rfl ?_; conv => whnf) | (refine And.intro (by first | omega | assumption | kernel_rfl | exact And.intro rfl rfl | ((try dsimp only [inR, idx, lowOf]); first | omega | (with_reducible decide) | (simp; omega) | fail) | fail) ?_; conv => whnf) | fail)
  refine ⟨_, m_routeE, ((3, A3), [], 2, 0), [], true, ?_⟩
  conv => whnf
  refine And.intro (vc0 ⟨a3Right, by decide, by decide, a3Good, by decide, a3no⟩ (by (repeat' (first | exact trivial | exact rfl | refine And.intro ?_ ?_ | (refine congrArg vI ?_; first | omega | (dsimp only; omega) | fail) | (refine congrArg some ?_) | omega | exact Nat.le_refl _ | exact congrArg (SV.lst _) (List.take_of_length_le (Nat.le_refl _)).symm))) (by repeat' (first | exact trivial | exact rfl | refine And.intro ?_ ?_ | (refine congrArg vI ?_; first | omega | (dsimp only; omega) | fail) | (refine congrArg some ?_) | omega | exact Nat.le_refl _ | exact congrArg (SV.lst _) (List.take_of_length_le (Nat.le_refl _)).symm)) trivial (.inr (fun _ => ⟨rfl, fun h ct he => by rcases h with _ | _ | h <;> first | (cases he; done) | (cases he; rfl)⟩))) ?_
  refine And.intro ⟨(), trivial⟩ (fun (_ : Unit) _ => ?_)
  conv => whnf
  conv => whnf
  repeat' (first | (refine tell (fun htest => ?_) (fun htest => ?_) <;> (try dsimp only at htest) <;> first | (exfalso; omega) | (exact absurd rfl htest) | (exact absurd (by decide) htest) | (conv => whnf)) | (refine allG rfl ?_; conv => whnf) | (refine And.intro (by first | omega | assumption | kernel_rfl | exact And.intro rfl rfl | ((try dsimp only [inR, idx, lowOf]); first | omega | (with_reducible decide) | (simp; omega) | fail) | fail) ?_; conv => whnf) | fail)
  refine ⟨_, m_ints, ([0, 1], [0, 1]), [], true, ?_⟩
  conv => whnf
  refine And.intro (vc0 (show 2 ≤ 9223372036854775807 by decide) (by (repeat' (first | exact trivial | exact rfl | refine And.intro ?_ ?_ | (refine congrArg vI ?_; first | omega | (dsimp only; omega) | fail) | (refine congrArg some ?_) | omega | exact Nat.le_refl _ | exact congrArg (SV.lst _) (List.take_of_length_le (Nat.le_refl _)).symm))) (by repeat' (first | exact trivial | exact rfl | refine And.intro ?_ ?_ | (refine congrArg vI ?_; first | omega | (dsimp only; omega) | fail) | (refine congrArg some ?_) | omega | exact Nat.le_refl _ | exact congrArg (SV.lst _) (List.take_of_length_le (Nat.le_refl _)).symm)) trivial (.inr (fun _ => ⟨rfl, fun h ct he => by rcases h with _ | _ | h <;> first | (cases he; done) | (cases he; rfl)⟩))) ?_
  refine And.intro (pred_ex _) ?_
  intro (c : Bool) (hc : c = true ↔ [0, 1] = [(0 : Int), 1])
  cases c
  · have := hc.2 rfl; cases this
  conv => whnf
  repeat' (first | (refine tell (fun htest => ?_) (fun htest => ?_) <;> (try dsimp only at htest) <;> first | (exfalso; omega) | (exact absurd rfl htest) | (exact absurd (by decide) htest) | (conv => whnf)) | (refine allG rfl ?_; conv => whnf) | (refine And.intro (by first | omega | assumption | kernel_rfl | exact And.intro rfl rfl | ((try dsimp only [inR, idx, lowOf]); first | omega | (with_reducible decide) | (simp; omega) | fail) | fail) ?_; conv => whnf) | fail)
  refine ⟨_, m_ints, ([2], [2]), [], true, ?_⟩
  conv => whnf
  refine And.intro (vc0 (show 1 ≤ 9223372036854775807 by decide) (by (repeat' (first | exact trivial | exact rfl | refine And.intro ?_ ?_ | (refine congrArg vI ?_; first | omega | (dsimp only; omega) | fail) | (refine congrArg some ?_) | omega | exact Nat.le_refl _ | exact congrArg (SV.lst _) (List.take_of_length_le (Nat.le_refl _)).symm))) (by repeat' (first | exact trivial | exact rfl | refine And.intro ?_ ?_ | (refine congrArg vI ?_; first | omega | (dsimp only; omega) | fail) | (refine congrArg some ?_) | omega | exact Nat.le_refl _ | exact congrArg (SV.lst _) (List.take_of_length_le (Nat.le_refl _)).symm)) trivial (.inr (fun _ => ⟨rfl, fun h ct he => by rcases h with _ | _ | h <;> first | (cases he; done) | (cases he; rfl)⟩))) ?_
  refine And.intro (pred_ex _) ?_
  intro (c : Bool) (hc : c = true ↔ [2] = [(2 : Int)])
  cases c
  · have := hc.2 rfl; cases this
  conv => whnf
  repeat' (first | (refine tell (fun htest => ?_) (fun htest => ?_) <;> (try dsimp only at htest) <;> first | (exfalso; omega) | (exact absurd rfl htest) | (exact absurd (by decide) htest) | (conv => whnf)) | (refine allG rfl ?_; conv => whnf) | (refine And.intro (by first | omega | assumption | kernel_rfl | exact And.intro rfl rfl | ((try dsimp only [inR, idx, lowOf]); first | omega | (with_reducible decide) | (simp; omega) | fail) | fail) ?_; conv => whnf) | fail)
  refine ⟨_, m_cost, ((3, A3), [0, 1]), [], true, ?_⟩
  conv => whnf
  refine And.intro (vc0 ⟨a3each (by decide) (by decide) (by decide), by decide, (show 2 ≤ 17592186044416 by decide)⟩ (by (repeat' (first | exact trivial | exact rfl | refine And.intro ?_ ?_ | (refine congrArg vI ?_; first | omega | (dsimp only; omega) | fail) | (refine congrArg some ?_) | omega | exact Nat.le_refl _ | exact congrArg (SV.lst _) (List.take_of_length_le (Nat.le_refl _)).symm))) (by repeat' (first | exact trivial | exact rfl | refine And.intro ?_ ?_ | (refine congrArg vI ?_; first | omega | (dsimp only; omega) | fail) | (refine congrArg some ?_) | omega | exact Nat.le_refl _ | exact congrArg (SV.lst _) (List.take_of_length_le (Nat.le_refl _)).symm)) trivial (.inr (fun _ => ⟨rfl, fun h ct he => by rcases h with _ | _ | h <;> first | (cases he; done) | (cases he; rfl)⟩))) ?_
  refine And.intro ⟨(), trivial⟩ (fun (_ : Unit) _ => ?_)
  conv => whnf
  conv => whnf
  repeat' (first | (refine tell (fun htest => ?_) (fun htest => ?_) <;> (try dsimp only at htest) <;> first | (exfalso; omega) | (exact absurd rfl htest) | (exact absurd (by decide) htest) | (conv => whnf)) | (refine allG rfl ?_; conv => whnf) | (refine And.intro (by first | omega | assumption | kernel_rfl | exact And.intro rfl rfl | ((try dsimp only [inR, idx, lowOf]); first | omega | (with_reducible decide) | (simp; omega) | fail) | fail) ?_; conv => whnf) | fail)
  refine ⟨_, m_far2, ((3, A3), [], 2), [], true, ?_⟩
  conv => whnf
  refine And.intro (vc0 ⟨a3Right, by decide, by decide, a3Good, by decide⟩ (by (repeat' (first | exact trivial | exact rfl | refine And.intro ?_ ?_ | (refine congrArg vI ?_; first | omega | (dsimp only; omega) | fail) | (refine congrArg some ?_) | omega | exact Nat.le_refl _ | exact congrArg (SV.lst _) (List.take_of_length_le (Nat.le_refl _)).symm))) (by repeat' (first | exact trivial | exact rfl | refine And.intro ?_ ?_ | (refine congrArg vI ?_; first | omega | (dsimp only; omega) | fail) | (refine congrArg some ?_) | omega | exact Nat.le_refl _ | exact congrArg (SV.lst _) (List.take_of_length_le (Nat.le_refl _)).symm)) trivial (.inr (fun _ => ⟨rfl, fun h ct he => by rcases h with _ | _ | h <;> first | (cases he; done) | (cases he; rfl)⟩))) ?_
  refine And.intro ⟨(), trivial⟩ (fun (_ : Unit) _ => ?_)
  conv => whnf
  conv => whnf
  repeat' (first | (refine tell (fun htest => ?_) (fun htest => ?_) <;> (try dsimp only at htest) <;> first | (exfalso; omega) | (exact absurd rfl htest) | (exact absurd (by decide) htest) | (conv => whnf)) | (refine allG rfl ?_; conv => whnf) | (refine And.intro (by first | omega | assumption | kernel_rfl | exact And.intro rfl rfl | ((try dsimp only [inR, idx, lowOf]); first | omega | (with_reducible decide) | (simp; omega) | fail) | fail) ?_; conv => whnf) | fail)
  refine ⟨_, m_ints, (farF 3 A3 [] 2, [2, 1, 0]), [], true, ?_⟩
  conv => whnf
  refine And.intro (vc0 (by show (farF 3 A3 [] 2).length ≤ _; rw [a3far]; decide) (by (repeat' (first | exact trivial | exact rfl | refine And.intro ?_ ?_ | (refine congrArg vI ?_; first | omega | (dsimp only; omega) | fail) | (refine congrArg some ?_) | omega | exact Nat.le_refl _ | exact congrArg (SV.lst _) (List.take_of_length_le (Nat.le_refl _)).symm))) (by repeat' (first | exact trivial | exact rfl | refine And.intro ?_ ?_ | (refine congrArg vI ?_; first | omega | (dsimp only; omega) | fail) | (refine congrArg some ?_) | omega | exact Nat.le_refl _ | exact congrArg (SV.lst _) (List.take_of_length_le (Nat.le_refl _)).symm)) trivial (.inr (fun _ => ⟨rfl, fun h ct he => by rcases h with _ | _ | h <;> first | (cases he; done) | (cases he; rfl)⟩))) ?_
  refine And.intro (pred_ex _) ?_
  intro (c : Bool) (hc : c = true ↔ farF 3 A3 [] 2 = [(2 : Int), 1, 0])
  cases c
  · have := hc.2 a3far; cases this
  conv => whnf
  repeat' (first | (refine tell (fun htest => ?_) (fun htest => ?_) <;> (try dsimp only at htest) <;> first | (exfalso; omega) | (exact absurd rfl htest) | (exact absurd (by decide) htest) | (conv => whnf)) | (refine allG rfl ?_; conv => whnf) | (refine And.intro (by first | omega | assumption | kernel_rfl | exact And.intro rfl rfl | ((try dsimp only [inR, idx, lowOf]); first | omega | (with_reducible decide) | (simp; omega) | fail) | fail) ?_; conv => whnf) | fail)
  exact ⟨(), [], trivial, rfl, trivial, trivial⟩
end Go.Sx

