/-
  Own tool 'Sx', part C: what a symbolic value says, carried over: to other worlds, to other names.
-/
import Derived.Test.YtmogappoadglgaaSxB
namespace Go.Sx
open Go
universe u
variable {A : Nat → Type}

theorem nth_eq {α : Type} : ∀ (l : List α) (i : Nat), nth l i = l[i]?
  | [], _ => by simp [nth]
  | _ :: _, 0 => rfl
  | _ :: l, i + 1 => by simp [nth, nth_eq l i]
theorem forceL_eq {α : Type} {β : Sort u} : ∀ (l : List α) (k : List α → β), forceL l k = k l
  | [], _ => rfl
  | a :: l, k => forceL_eq l fun l' => k (a :: l')
theorem beq_true {a b : Nat} (h : Nat.beq a b = true) : a = b := Nat.eq_of_beq_eq_true h
theorem beq_false {a b : Nat} (h : a ≠ b) : Nat.beq a b = false := by
  cases e : Nat.beq a b with
  | false => rfl
  | true => exact absurd (beq_true e) h
theorem ble_true {a b : Nat} (h : Nat.ble a b = true) : a ≤ b := Nat.le_of_ble_eq_true h
theorem cut_some {α : Type} {l m : List α} {off n : Nat} (h : cut l off n = some m) : off + n ≤ l.length ∧ m = (l.drop off).take n := by
  unfold cut at h
  split at h
  · rename_i hb; cases h; exact ⟨ble_true hb, rfl⟩
  · cases h

/-! ### Lists of symbolic values -/
theorem menL_get {f : Nat → Bool} : ∀ {cs : List (SV A)}, menL f cs = true → ∀ (j : Nat) s, cs[j]? = some s → men f s = true
  | [], _, j, s, h => by simp at h
  | c :: cs, hm, j, s, h => by
    simp only [menL, Bool.and_eq_true] at hm
    cases j with
    | zero => simp at h; subst h; exact hm.1
    | succ j => exact menL_get hm.2 j s (by simpa using h)
theorem menL_of {f : Nat → Bool} : ∀ {cs : List (SV A)}, (∀ (j : Nat) s, cs[j]? = some s → men f s = true) → menL f cs = true
  | [], _ => rfl
  | c :: cs, h => by
    simp only [menL, Bool.and_eq_true]
    exact ⟨h 0 c rfl, menL_of fun j s hs => h (j + 1) s (by simpa using hs)⟩
theorem renL_eq (f : Nat → Nat) : ∀ cs : List (SV A), renL f cs = cs.map (ren f)
  | [] => rfl
  | c :: cs => by simp [renL, renL_eq f cs]
theorem closed_men {s : SV A} (h : s.Closed) (f : Nat → Bool) : men f s = true := by
  induction h with
  | val v => rfl
  | lst T xs => rfl
  | fn g a b h1 h2 i1 i2 => simp only [men, Bool.and_eq_true]; exact ⟨menL_of i1, menL_of i2⟩
theorem closed_ren {s : SV A} (h : s.Closed) (f : Nat → Nat) : ren f s = s := by
  induction h with
  | val v => rfl
  | lst T xs => rfl
  | fn g a b h1 h2 i1 i2 =>
    simp only [ren, renL_eq]
    congr 1
    · apply List.ext_getElem?; intro i; rw [List.getElem?_map]; cases e : a[i]? with
      | none => rfl
      | some s => simp [i1 i s e]
    · apply List.ext_getElem?; intro i; rw [List.getElem?_map]; cases e : b[i]? with
      | none => rfl
      | some s => simp [i2 i s e]
theorem closed_ok {s : SV A} (h : s.Closed) : cellOk s = true := by
  cases h with
  | val v h => exact h
  | lst => rfl
  | fn => rfl
theorem flatMap_get {R : Reg A} {T : Nat} {xs : List (A T)} {P : SV A → Prop} (h : ∀ x ∈ xs, ∀ (i : Nat) s, (R.enc T x)[i]? = some s → P s) (j : Nat) (s : SV A) (hs : (xs.flatMap (R.enc T))[j]? = some s) : P s := by
  have := List.mem_of_getElem? hs
  rw [List.mem_flatMap] at this
  obtain ⟨x, hx, hm⟩ := this
  obtain ⟨i, hi⟩ := List.getElem?_of_mem hm
  exact h x hx i s hi

/-! ### To another world -/
section
variable {R : Reg A} {ρ : Rho} {O O' : Nat → Prop} {w w' : World}

/-- What frozen memory and the lengths of blocks owe. -/
structure Goes0 (O O' : Nat → Prop) (w w' : World) : Prop where
  keep : ∀ (b : Nat) (c : Array Value) (E : TypeId) (fz : Nat × Nat), ¬ O b → w.heap[b]? = some (Obj.cells c E fz) → ¬ O' b ∧ w'.heap[b]? = some (Obj.cells c E fz)
  shape : ∀ (b : Nat) (c : Array Value) (E : TypeId) (fz : Nat × Nat), w.heap[b]? = some (Obj.cells c E fz) → ∃ (c' : Array Value) (fz' : Nat × Nat), w'.heap[b]? = some (Obj.cells c' E fz') ∧ c'.size = c.size
structure Goes (O O' : Nat → Prop) (w w' : World) : Prop where
  keep : ∀ (b : Nat) (c : Array Value) (E : TypeId) (fz : Nat × Nat), ¬ O b → w.heap[b]? = some (Obj.cells c E fz) → ¬ O' b ∧ w'.heap[b]? = some (Obj.cells c E fz)
  shape : ∀ (b : Nat) (c : Array Value) (E : TypeId) (fz : Nat × Nat), w.heap[b]? = some (Obj.cells c E fz) → ∃ (c' : Array Value) (fz' : Nat × Nat), w'.heap[b]? = some (Obj.cells c' E fz') ∧ c'.size = c.size
  dfr : ∀ (b : Nat) ds, w.heap[b]? = some (Obj.deferred ds) → w'.heap[b]? = some (Obj.deferred ds)

theorem Goes.to0 (g : Goes O O' w w') : Goes0 O O' w w' := ⟨g.keep, g.shape⟩
theorem Goes.refl : Goes O O w w := ⟨fun _ _ _ _ h hb => ⟨h, hb⟩, fun _ c _ fz h => ⟨c, fz, h, rfl⟩, fun _ _ h => h⟩

theorem Den.mono0 {s : SV A} {v : Value} (h : Den R ρ O w s v) (g : Goes0 O O' w w') : Den R ρ O' w' s v := by
  induction h with
  | val v => exact .val v
  | lnil T c h => exact .lnil T c h
  | lempty T a c h => exact .lempty T a c h
  | lst T xs b off cap c E fz gg ho hb hcap hc hd ih =>
    obtain ⟨h1, h2⟩ := g.keep b c E fz ho hb
    exact .lst T xs b off cap c E fz gg h1 h2 hcap hc ih
  | prow cs k b off c E fz gg ho hb hc hd ih =>
    obtain ⟨h1, h2⟩ := g.keep b c E fz ho hb
    exact .prow cs k b off c E fz gg h1 h2 hc ih
  | ptr h i sz k b base hr => exact .ptr h i sz k b base hr
  | slnil h sz hr => exact .slnil h sz hr
  | sl h sz off len cap b base o c E fz hr hb hl ho hs =>
    obtain ⟨c', fz', h1, h2⟩ := g.shape b c E fz hb
    exact .sl h sz off len cap b base o c' E fz' hr h1 hl ho (h2 ▸ hs)
  | mp h b base hr => exact .mp h b base hr
  | agg cs vs hl hd ih => exact .agg cs vs hl ih
  | aggl T xs vs hd ih => exact .aggl T xs vs ih
  | tup cs vs hl hd ih => exact .tup cs vs hl ih
  | fn f a b vs us h1 hd1 h2 hd2 i1 i2 => exact .fn f a b vs us h1 i1 h2 i2

theorem Den.mono {s : SV A} {v : Value} (h : Den R ρ O w s v) (g : Goes O O' w w') : Den R ρ O' w' s v := h.mono0 g.to0

/-! ### To other names -/
theorem Den.rho {ρ' : Rho} {f : Nat → Bool} {s : SV A} {v : Value} (h : Den R ρ O w s v) (hm : men f s = true) (he : ∀ n, f n = true → ρ' n = ρ n) : Den R ρ' O w s v := by
  induction h with
  | val v => exact .val v
  | lnil T c h => exact .lnil T c h
  | lempty T a c h => exact .lempty T a c h
  | lst T xs b off cap c E fz gg ho hb hcap hc hd ih =>
    exact .lst T xs b off cap c E fz gg ho hb hcap hc fun i x hx j s hs => ih i x hx j s hs (closed_men (R.closed T x j s hs) f)
  | prow cs k b off c E fz gg ho hb hc hd ih =>
    exact .prow cs k b off c E fz gg ho hb hc fun j s hs => ih j s hs (menL_get hm j s hs)
  | ptr h i sz k b base hr => exact .ptr h i sz k b base ((he h hm).trans hr)
  | slnil h sz hr => exact .slnil h sz ((he h hm).trans hr)
  | sl h sz off len cap b base o c E fz hr hb hl ho hs => exact .sl h sz off len cap b base o c E fz ((he h hm).trans hr) hb hl ho hs
  | mp h b base hr => exact .mp h b base ((he h hm).trans hr)
  | agg cs vs hl hd ih => exact .agg cs vs hl fun j s v hs hv => ih j s v hs hv (menL_get hm j s hs)
  | aggl T xs vs hd ih =>
    exact .aggl T xs vs (ih (menL_of fun j s hs => flatMap_get (P := fun s => men f s = true) (fun x _ i s hi => closed_men (R.closed T x i s hi) f) j s hs))
  | tup cs vs hl hd ih => exact .tup cs vs hl fun j s v hs hv => ih j s v hs hv (menL_get hm j s hs)
  | fn g a b vs us h1 hd1 h2 hd2 i1 i2 =>
    simp only [men, Bool.and_eq_true] at hm
    exact .fn g a b vs us h1 (fun j s v hs hv => i1 j s v hs hv (menL_get hm.1 j s hs)) h2 (fun j s v hs hv => i2 j s v hs hv (menL_get hm.2 j s hs))
theorem Den.closed {ρ' : Rho} {s : SV A} {v : Value} (h : Den R ρ O w s v) (hc : s.Closed) : Den R ρ' O w s v :=
  h.rho (f := fun _ => false) (closed_men hc _) (fun _ h => by cases h)

theorem Den.ren {f : Nat → Nat} {s : SV A} {v : Value} (h : Den R (fun n => ρ (f n)) O w s v) : Den R ρ O w (ren f s) v := by
  generalize hr : (fun n => ρ (f n)) = σ at h
  induction h with
  | val v => exact .val v
  | lnil T c h => exact .lnil T c h
  | lempty T a c h => exact .lempty T a c h
  | lst T xs b off cap c E fz gg ho hb hcap hc hd ih =>
    exact .lst T xs b off cap c E fz gg ho hb hcap hc fun i x hx j s hs => (hd i x hx j s hs).closed (R.closed T x j s hs)
  | prow cs k b off c E fz gg ho hb hc hd ih =>
    simp only [Sx.ren, renL_eq]
    refine .prow _ k b off c E fz gg ho hb (fun j hj => hc j (by simpa using hj)) fun j s hs => ?_
    rw [List.getElem?_map] at hs
    cases e : cs[j]? with
    | none => rw [e] at hs; cases hs
    | some s0 => rw [e] at hs; cases hs; exact ih j s0 e
  | ptr h i sz k b base hb => subst hr; exact .ptr _ i sz k b base hb
  | slnil h sz hb => subst hr; exact .slnil _ sz hb
  | sl h sz off len cap b base o c E fz hr' hb hl ho hs => subst hr; exact .sl _ sz off len cap b base o c E fz hr' hb hl ho hs
  | mp h b base hb => subst hr; exact .mp _ b base hb
  | agg cs vs hl hd ih =>
    simp only [Sx.ren, renL_eq]
    refine .agg _ vs (by simpa using hl) fun j s v hs hv => ?_
    rw [List.getElem?_map] at hs
    cases e : cs[j]? with
    | none => rw [e] at hs; cases hs
    | some s0 => rw [e] at hs; cases hs; exact ih j s0 v e hv
  | aggl T xs vs hd ih =>
    exact .aggl T xs vs (hd.rho (f := fun _ => false) (menL_of fun j s hs => flatMap_get (P := fun s => men (fun _ => false) s = true) (fun x _ i s hi => closed_men (R.closed T x i s hi) _) j s hs) (fun _ h => by cases h))
  | tup cs vs hl hd ih =>
    simp only [Sx.ren, renL_eq]
    refine .tup _ vs (by simpa using hl) fun j s v hs hv => ?_
    rw [List.getElem?_map] at hs
    cases e : cs[j]? with
    | none => rw [e] at hs; cases hs
    | some s0 => rw [e] at hs; cases hs; exact ih j s0 v e hv
  | fn g a b vs us h1 hd1 h2 hd2 i1 i2 =>
    simp only [Sx.ren, renL_eq]
    refine .fn g _ _ vs us (by simpa using h1) (fun j s v hs hv => ?_) (by simpa using h2) (fun j s v hs hv => ?_)
    · rw [List.getElem?_map] at hs
      cases e : a[j]? with
      | none => rw [e] at hs; cases hs
      | some s0 => rw [e] at hs; cases hs; exact i1 j s0 v e hv
    · rw [List.getElem?_map] at hs
      cases e : b[j]? with
      | none => rw [e] at hs; cases hs
      | some s0 => rw [e] at hs; cases hs; exact i2 j s0 v e hv

theorem Den.unren {f : Nat → Nat} {t : SV A} {v : Value} (h : Den R ρ O w t v) : ∀ s, t = Sx.ren f s → Den R (fun n => ρ (f n)) O w s v := by
  induction h with
  | val v => intro s hs; cases s <;> simp only [Sx.ren] at hs <;> cases hs; exact .val v
  | lnil T c h => intro s hs; cases s <;> simp only [Sx.ren] at hs <;> cases hs; exact .lnil T c h
  | lempty T a c h => intro s hs; cases s <;> simp only [Sx.ren] at hs <;> cases hs; exact .lempty T a c h
  | lst T xs b off cap c E fz gg ho hb hcap hc hd ih =>
    intro s hs; cases s <;> simp only [Sx.ren] at hs <;> cases hs
    exact .lst T xs b off cap c E fz gg ho hb hcap hc fun i x hx j s hs => (hd i x hx j s hs).closed (R.closed T x j s hs)
  | prow cs k b off c E fz gg ho hb hc hd ih =>
    intro s hs; cases s <;> simp only [Sx.ren, renL_eq] at hs <;> cases hs
    refine .prow _ k b off c E fz gg ho hb (fun j hj => hc j (by simpa using hj)) fun j s hs => ih j (Sx.ren f s) (by simp [List.getElem?_map, hs]) s rfl
  | ptr h i sz k b base hb => intro s hs; cases s <;> simp only [Sx.ren] at hs <;> cases hs; exact .ptr _ _ _ _ b base hb
  | slnil h sz hb => intro s hs; cases s <;> simp only [Sx.ren] at hs <;> cases hs; exact .slnil _ sz hb
  | sl h sz off len cap b base o c E fz hr' hb hl ho hs' => intro s hs; cases s <;> simp only [Sx.ren] at hs <;> cases hs; exact .sl _ _ _ _ cap b base o c E fz hr' hb hl ho hs'
  | mp h b base hb => intro s hs; cases s <;> simp only [Sx.ren] at hs <;> cases hs; exact .mp _ b base hb
  | agg cs vs hl hd ih =>
    intro s hs; cases s <;> simp only [Sx.ren, renL_eq] at hs <;> cases hs
    exact .agg _ vs (by simpa using hl) fun j s v hs hv => ih j (Sx.ren f s) v (by simp [List.getElem?_map, hs]) hv s rfl
  | aggl T xs vs hd ih =>
    intro s hs; cases s <;> simp only [Sx.ren] at hs <;> cases hs
    exact .aggl T xs vs (hd.rho (f := fun _ => false) (menL_of fun j s hs => flatMap_get (P := fun s => men (fun _ => false) s = true) (fun x _ i s hi => closed_men (R.closed T x i s hi) _) j s hs) (fun _ h => by cases h))
  | tup cs vs hl hd ih =>
    intro s hs; cases s <;> simp only [Sx.ren, renL_eq] at hs <;> cases hs
    exact .tup _ vs (by simpa using hl) fun j s v hs hv => ih j (Sx.ren f s) v (by simp [List.getElem?_map, hs]) hv s rfl
  | fn g a b vs us h1 hd1 h2 hd2 i1 i2 =>
    intro s hs; cases s <;> simp only [Sx.ren, renL_eq] at hs <;> cases hs
    exact .fn g _ _ vs us (by simpa using h1) (fun j s v hs hv => i1 j (Sx.ren f s) v (by simp [List.getElem?_map, hs]) hv s rfl) (by simpa using h2) (fun j s v hs hv => i2 j (Sx.ren f s) v (by simp [List.getElem?_map, hs]) hv s rfl)

/-! ### Cells -/
theorem Den.oneCell {s : SV A} {v : Value} (h : Den R ρ O w s v) (hc : cellOk s = true) : v.oneCell' = true := by
  cases h <;> first | rfl | exact hc | cases hc
/-- A value's cells are what its symbolic cells say. -/
theorem Den.cells {s : SV A} {v : Value} (h : Den R ρ O w s v) : (cellsOf R s).length = v.cells.size ∧ ∀ (j : Nat) c u, (cellsOf R s)[j]? = some c → v.cells[j]? = some u → Den R ρ O w c u := by
  have one : ∀ (s : SV A) (v : Value), v.cells = #[v] → Den R ρ O w s v → ([s] : List (SV A)).length = v.cells.size ∧ ∀ (j : Nat) c u, ([s] : List (SV A))[j]? = some c → v.cells[j]? = some u → Den R ρ O w c u := by
    intro s v hv hd
    rw [hv]
    refine ⟨rfl, fun j c u hc hu => ?_⟩
    cases j with
    | zero => simp at hc hu; subst hc; subst hu; exact hd
    | succ j => simp at hc
  cases h with
  | val v =>
    cases v with
    | agg cs =>
      refine ⟨by simp [cellsOf, Value.cells], fun j c u hc hu => ?_⟩
      simp only [cellsOf, List.getElem?_map, Value.cells] at hc hu
      rw [Array.getElem?_toList, hu] at hc
      cases hc
      exact .val u
    | _ => exact one _ _ rfl (.val _)
  | agg cs vs hl hd => exact ⟨hl, fun j c u hc hu => hd j c u hc hu⟩
  | aggl T xs vs hd =>
    cases hd with
    | agg _ _ hl hd => exact ⟨hl, fun j c u hc hu => hd j c u hc hu⟩
  | lnil T c h => exact one _ _ rfl (.lnil T c h)
  | lempty T a c h => exact one _ _ rfl (.lempty T a c h)
  | lst T xs b off cap c E fz gg ho hb hcap hc hd => exact one _ _ rfl (.lst T xs b off cap c E fz gg ho hb hcap hc hd)
  | prow cs k b off c E fz gg ho hb hc hd => exact one _ _ rfl (.prow cs k b off c E fz gg ho hb hc hd)
  | ptr h i sz k b base hr => exact one _ _ rfl (.ptr h i sz k b base hr)
  | slnil h sz hr => exact one _ _ rfl (.slnil h sz hr)
  | sl h sz off len cap b base o c E fz hr hb hl ho hs => exact one _ _ rfl (.sl h sz off len cap b base o c E fz hr hb hl ho hs)
  | mp h b base hr => exact one _ _ rfl (.mp h b base hr)
  | tup cs vs hl hd => exact one _ _ rfl (.tup cs vs hl hd)
  | fn f a b vs us h1 hd1 h2 hd2 => exact one _ _ rfl (.fn f a b vs us h1 hd1 h2 hd2)

theorem DenCt.mono0 {ct : Ct A} {p : Option (Nat × Nat)} (h : DenCt R ρ O w ct p) (g : Goes0 O O' w w') (hb : ∀ b base, p = some (b, base) → w'.heap[b]? = w.heap[b]?) : DenCt R ρ O' w' ct p := by
  cases p with
  | none => exact h
  | some p =>
    obtain ⟨b, base⟩ := p
    rcases h with ⟨K, V, es, rfl, mes, cl, h1, h2⟩ | ⟨hnm, c, E, fz, h1, h2, h3, h4⟩
    · exact .inl ⟨K, V, es, rfl, mes, cl, (hb b base rfl).trans h1, h2⟩
    exact .inr ⟨hnm, c, E, fz, (hb b base rfl).trans h1, h2, h3, fun j s v hs hv => (h4 j s v hs hv).mono0 g⟩
theorem DenCt.mono {ct : Ct A} {p : Option (Nat × Nat)} (h : DenCt R ρ O w ct p) (g : Goes O O' w w') (hb : ∀ b base, p = some (b, base) → w'.heap[b]? = w.heap[b]?) : DenCt R ρ O' w' ct p := h.mono0 g.to0 hb
theorem flat_men {ct : Ct A} {f : Nat → Bool} (hm : menCt f ct = true) (j : Nat) (s : SV A) (hs : (ct.flat R)[j]? = some s) : men f s = true := by
  cases ct with
  | cells cs => exact menL_get hm j s hs
  | arr T xs => exact flatMap_get (P := fun s => men f s = true) (fun x _ i s hi => closed_men (R.closed T x i s hi) f) j s hs
  | map K V es => simp [Ct.flat] at hs
theorem DenCt.lt {ct : Ct A} {b base : Nat} (h : DenCt R ρ O w ct (some (b, base))) : b < w.heap.size := by
  rcases h with ⟨_, _, _, _, _, _, h1, _⟩ | ⟨_, _, _, _, h1, _⟩ <;> exact (Array.getElem?_eq_some_iff.1 h1).1
theorem DenCt.rho {ρ' : Rho} {ct : Ct A} {f : Nat → Bool} {p : Option (Nat × Nat)} (h : DenCt R ρ O w ct p) (hm : menCt f ct = true) (he : ∀ n, f n = true → ρ' n = ρ n) : DenCt R ρ' O w ct p := by
  cases p with
  | none => exact h
  | some p =>
    obtain ⟨b, base⟩ := p
    rcases h with h | ⟨hnm, c, E, fz, h1, h2, h3, h4⟩
    · exact .inl h
    exact .inr ⟨hnm, c, E, fz, h1, h2, h3, fun j s v hs hv => (h4 j s v hs hv).rho (flat_men hm j s hs) he⟩
theorem renCt_flat (f : Nat → Nat) (ct : Ct A) : (renCt f ct).flat R = (ct.flat R).map (ren f) := by
  cases ct with
  | cells cs => simp [renCt, Ct.flat, renL_eq]
  | arr T xs =>
    simp only [renCt, Ct.flat]
    apply List.ext_getElem?
    intro i
    rw [List.getElem?_map]
    cases e : (xs.flatMap (R.enc T))[i]? with
    | none => rfl
    | some s => simp [flatMap_get (P := fun s => ren f s = s) (fun x _ i s hi => closed_ren (R.closed T x i s hi) f) i s e]
  | map K V es => rfl
theorem renCt_isMap (f : Nat → Nat) (ct : Ct A) : (renCt f ct).isMap = ct.isMap := by cases ct <;> rfl
theorem DenCt.ren {f : Nat → Nat} {ct : Ct A} {p : Option (Nat × Nat)} (h : DenCt R (fun n => ρ (f n)) O w ct p) : DenCt R ρ O w (renCt f ct) p := by
  cases p with
  | none => show (renCt f ct).flat R = []; rw [renCt_flat]; rw [show ct.flat R = [] from h]; rfl
  | some p =>
    obtain ⟨b, base⟩ := p
    rcases h with ⟨K, V, es, rfl, h⟩ | ⟨hnm, c, E, fz, h1, h2, h3, h4⟩
    · exact .inl ⟨K, V, es, rfl, h⟩
    refine .inr ⟨by rw [renCt_isMap]; exact hnm, c, E, fz, h1, h2, by rw [renCt_flat]; simpa using h3, fun j s v hs hv => ?_⟩
    rw [renCt_flat, List.getElem?_map] at hs
    cases e : (ct.flat R)[j]? with
    | none => rw [e] at hs; cases hs
    | some s0 => rw [e] at hs; cases hs; exact (h4 j s0 v e hv).ren
theorem DenCt.unren {f : Nat → Nat} {ct : Ct A} {p : Option (Nat × Nat)} (h : DenCt R ρ O w (renCt f ct) p) : DenCt R (fun n => ρ (f n)) O w ct p := by
  cases p with
  | none =>
    have h : (renCt f ct).flat R = [] := h
    rw [renCt_flat] at h
    show ct.flat R = []
    simpa using h
  | some p =>
    obtain ⟨b, base⟩ := p
    rcases h with ⟨K, V, es, e, h⟩ | ⟨hnm, c, E, fz, h1, h2, h3, h4⟩
    · cases ct <;> cases e
      exact .inl ⟨K, V, es, rfl, h⟩
    rw [renCt_flat] at h3
    exact .inr ⟨by rw [renCt_isMap] at hnm; exact hnm, c, E, fz, h1, h2, by simpa using h3, fun j s v hs hv => (h4 j (Sx.ren f s) v (by rw [renCt_flat, List.getElem?_map, hs]; rfl) hv).unren s rfl⟩
end
end Go.Sx
