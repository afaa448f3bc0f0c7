/-
  Own tool 'Sx', part L: a call under a specification.
-/
import Derived.Test.YtmogappoadglgaaSxK
namespace Go.Sx
open Go
variable {A : Nat → Type}

def FlOk (R : Reg A) (fl : Nat → Bool) : Prop := ∀ T, fl T = true → ∀ x (i : Nat) s, (R.enc T x)[i]? = some s → flatS fl s = true
theorem flatL_get {fl : Nat → Bool} : ∀ {cs : List (SV A)}, flatL fl cs = true → ∀ (j : Nat) s, cs[j]? = some s → flatS fl s = true
  | [], _, j, s, h => by simp at h
  | c :: cs, hm, j, s, h => by
    simp only [flatL, Bool.and_eq_true] at hm
    cases j with
    | zero => simp at h; subst h; exact hm.1
    | succ j => exact flatL_get hm.2 j s (by simpa using h)
theorem flatL_of {fl : Nat → Bool} : ∀ {cs : List (SV A)}, (∀ (j : Nat) s, cs[j]? = some s → flatS fl s = true) → flatL fl cs = true
  | [], _ => rfl
  | c :: cs, h => by
    simp only [flatL, Bool.and_eq_true]
    exact ⟨h 0 c rfl, flatL_of fun j s hs => h (j + 1) s (by simpa using hs)⟩
theorem Den.flat {R : Reg A} {fl : Nat → Bool} (hfl : FlOk R fl) {ρ : Rho} {O O' : Nat → Prop} {w : World} {s : SV A} {v : Value} (h : Den R ρ O w s v) (hs : flatS fl s = true) : Den R ρ O' w s v := by
  induction h with
  | val v => exact .val v
  | lnil T c h => cases hs
  | lempty T a c h => cases hs
  | lst T xs b off cap c E fz gg ho hb hcap hc hd ih => cases hs
  | prow cs k b off c E fz gg ho hb hc hd ih => cases hs
  | ptr h i sz k b base hr => exact .ptr h i sz k b base hr
  | slnil h sz hr => exact .slnil h sz hr
  | sl h sz off len cap b base o c E fz hr hb hl ho hs' => exact .sl h sz off len cap b base o c E fz hr hb hl ho hs'
  | mp h b base hr => exact .mp h b base hr
  | agg cs vs hl hd ih => exact .agg cs vs hl fun j s v h1 h2 => ih j s v h1 h2 (flatL_get hs j s h1)
  | aggl T xs vs hd ih => exact .aggl T xs vs (ih (flatL_of fun j s hj => flatMap_get (P := fun s => flatS fl s = true) (fun x _ i s hi => hfl T hs x i s hi) j s hj))
  | tup cs vs hl hd ih => exact .tup cs vs hl fun j s v h1 h2 => ih j s v h1 h2 (flatL_get hs j s h1)
  | fn f a b vs us h1 hd1 h2 hd2 i1 i2 =>
    simp only [flatS, Bool.and_eq_true] at hs
    exact .fn f a b vs us h1 (fun j s v e1 e2 => i1 j s v e1 e2 (flatL_get hs.1 j s e1)) h2 (fun j s v e1 e2 => i2 j s v e1 e2 (flatL_get hs.2 j s e1))

/-! ### Lists of names -/
theorem mem_iff {n : Nat} : ∀ {l : List Nat}, mem n l = true ↔ n ∈ l
  | [] => by simp [mem]
  | m :: l => by
    simp only [mem]
    split
    · rename_i h; simp [beq_true h]
    · rename_i h
      have : n ≠ m := fun e => by subst e; simp at h
      simp [mem_iff (l := l), this]
theorem disj_spec : ∀ {l m : List Nat}, disj l m = true → ∀ n ∈ l, n ∉ m
  | [], _, _, n, h => by cases h
  | k :: l, m, h, n, hn => by
    simp only [disj] at h
    split at h
    · cases h
    · rename_i hk
      rcases List.mem_cons.1 hn with rfl | hn
      · exact fun hm => by rw [mem_iff.2 hm] at hk; cases hk
      · exact disj_spec h n hn
theorem nodup_spec : ∀ {l : List Nat}, nodup l = true → l.Nodup
  | [], _ => List.nodup_nil
  | k :: l, h => by
    simp only [nodup] at h
    split at h
    · cases h
    · rename_i hk; exact List.nodup_cons.2 ⟨fun hm => (by rw [mem_iff.2 hm] at hk; cases hk), nodup_spec h⟩
theorem newNames_spec (d : Nat) : ∀ k, (newNames d k).length = k ∧ ∀ n ∈ newNames d k, d < n
  | 0 => ⟨rfl, fun _ h => by cases h⟩
  | k + 1 => by
    obtain ⟨h1, h2⟩ := newNames_spec (d + 1000) k
    refine ⟨by simp [newNames, h1], fun n hn => ?_⟩
    simp only [newNames, List.mem_cons] at hn
    rcases hn with rfl | hn
    · omega
    · have := h2 n hn; omega
theorem newNames_nodup (d : Nat) : ∀ k, (newNames d k).Nodup := by
  intro k
  induction k generalizing d with
  | zero => exact List.nodup_nil
  | succ k ih =>
    simp only [newNames, List.nodup_cons]
    exact ⟨fun h => Nat.lt_irrefl _ ((newNames_spec (d + 1000) k).2 _ h), ih _⟩
theorem thr_get {l : List Nat} {i k : Nat} (h : l[i]? = some k) : thr l i = k := by simp [thr, nth_eq, h]

theorem updH_app {f : Nat → Option (Ct A)} {g : Nat → Nat} : ∀ (l : List Nat) (cs : List (Option (Ct A))) (tl : List (Nat × Option (Ct A))) (h : Nat), l.Nodup → l.length = cs.length →
    updH f (updsOf g l cs ++ tl) h = if h ∈ l then (match cs[l.idxOf h]? with | some (some c) => some (renCt g c) | _ => none) else updH f tl h
  | [], [], tl, h, _, _ => by simp [updsOf]
  | [], _ :: _, _, _, _, hl => by simp at hl
  | _ :: _, [], _, _, _, hl => by simp at hl
  | k :: l, c :: cs, tl, h, hn, hl => by
    simp only [updsOf, List.cons_append, updH]
    by_cases e : h = k
    · subst e
      simp
      cases c <;> rfl
    · rw [beq_false e]
      dsimp only
      rw [updH_app l cs tl h (List.nodup_cons.1 hn).2 (by simpa using hl)]
      have e' : k ≠ h := fun x => e x.symm
      by_cases hm : h ∈ l
      · have hb : (k == h) = false := by simpa using e'
        rw [if_pos hm, if_pos (by simp [hm]), List.idxOf_cons, hb]
        rfl
      · rw [if_neg hm, if_neg (by simp [e, hm])]
theorem updH_gone {f : Nat → Option (Ct A)} : ∀ (l : List Nat) (h : Nat), updH f (gone l) h = if h ∈ l then none else f h
  | [], h => by simp [gone, updH]
  | k :: l, h => by
    simp only [gone, updH]
    by_cases e : h = k
    · subst e; simp
    · rw [beq_false e]; dsimp only; rw [updH_gone l h]; simp [e]

/-! ### What is handed in -/
section
variable {P : Program} {E : Env A} {n : Nat} {X E0 : Nat → Prop} {ρ0 : Rho} {w0 : World} {st : St A} {ρ : Rho} {a : Act} {w : World} {fl : Nat → Bool}

/-- The class of blocks that a callee's frozen memory does not reach: all that is owned but for what is lent. -/
structure Lend (R : Reg A) (st : St A) (ρ : Rho) (O O' : Nat → Prop) (bs : List Nat) : Prop where
  sub : ∀ b, O' b → O b
  lent : ∀ h ct b base, h ∈ bs → st.h h = some ct → ρ h = some (b, base) → ¬ O' b

theorem ent0_den (hI : SInv E.reg n X E0 ρ0 w0 st ρ a w) {O' : Nat → Prop} {bs : List Nat} (hL : Lend E.reg st ρ (fun b => X b ∨ OwnB st.h ρ b) O' bs) {c p : SV A} {f : Nat → Nat} (he : EntA0 E.reg st c (ren f p)) (hb : ∀ h ∈ bor0 c p, h ∈ bs)
    {v : Value} (hv : Den E.reg ρ (fun b => X b ∨ OwnB st.h ρ b) w c v) : Den E.reg (fun k => ρ (f k)) O' w p v := by
  have g : Goes (fun b => X b ∨ OwnB st.h ρ b) O' w w := ⟨fun b _ _ _ hn hb => ⟨fun h => hn (hL.sub b h), hb⟩, fun _ c _ fz h => ⟨c, fz, h, rfl⟩, fun _ _ h => h⟩
  unfold EntA0 at he
  split at he
  · rename_i h sz off len T xs hp
    have hp : p = .lst T xs := by cases p <;> simp only [ren] at hp <;> cases hp; rfl
    subst hp
    split at he
    · rename_i U ys hh
      obtain ⟨h1, h2, h3⟩ := he
      subst h2
      injection h3 with h3 h4
      subst h3
      have h4 := eq_of_heq h4
      subst h4
      have hbs : h ∈ bs := hb h (by simp [bor0])
      cases hv with
      | slnil _ _ hr =>
        simp only [List.take_zero]
        exact .lnil _ _ rfl
      | sl _ _ _ _ cap b base o c F fz hr hb' hl ho hs =>
        obtain ⟨c0, F0, fz0, k1, k2, k3, k4, k5, k6⟩ := hI.block hh rfl hr
        rw [hb'] at k1; cases k1
        have hno := hL.lent h _ b base hbs hh hr
        have hlen : ((ys.drop off).take len).length = len := by simp; omega
        by_cases h0 : len = 0
        · subst h0
          simp only [List.take_zero]
          exact .lempty _ _ _ (by simp)
        · have ho : o = base + off * E.reg.sz T := by omega
          subst ho
          have hfl : (Ct.flat E.reg (.arr T ys)).length = ys.length * E.reg.sz T := flat_len (E.reg.len T) ys
          have hget : ∀ (i : Nat) x, ((ys.drop off).take len)[i]? = some x → ys[off + i]? = some x ∧ i < len := fun i x hx => by
            rw [List.getElem?_take] at hx
            split at hx
            · rename_i hi; rw [List.getElem?_drop] at hx; exact ⟨hx, hi⟩
            · cases hx
          have key := Den.lst (R := E.reg) (ρ := fun k => ρ (f k)) (O := O') (w := w) T ((ys.drop off).take len) b (base + off * E.reg.sz T) cap c F fz (fun i j => c.getD (base + ((off + i) * E.reg.sz T + j)) undef) hno hb' (by omega)
            (fun i x hx j hj => by
              obtain ⟨hx, hi⟩ := hget i x hx
              have hle : (off + i) * E.reg.sz T + E.reg.sz T ≤ ys.length * E.reg.sz T := by
                have : (off + i + 1) * E.reg.sz T ≤ ys.length * E.reg.sz T := Nat.mul_le_mul_right _ (by omega)
                rwa [Nat.add_mul, Nat.one_mul] at this
              have := k4 ((off + i) * E.reg.sz T + j) (by omega)
              rw [← this, Nat.add_mul]
              congr 1; omega)
            (fun i x hx j s hs => by
              obtain ⟨hx, hi⟩ := hget i x hx
              have hj : j < E.reg.sz T := by have := (List.getElem?_eq_some_iff.1 hs).1; rwa [E.reg.len] at this
              have := k5 _ s ((flat_get (E.reg.len T) ys (off + i) j x hx hj).trans hs)
              exact (this.mono g).closed (E.reg.closed T x j s hs))
          rw [hlen] at key
          exact key
    · exact he.elim
  · rename_i T xs hp
    have hp : p = .lst T xs := by cases p <;> simp only [ren] at hp <;> cases hp; rfl
    subst hp; subst he
    obtain rfl := val_inv hv
    exact .lnil _ _ rfl
  · exact (hv.mono g).unren p he

theorem entL_len {R : Reg A} : ∀ {cs ps : List (SV A)}, EntL R st cs ps → cs.length = ps.length
  | [], [], _ => rfl
  | _ :: _, _ :: _, h => by simp [entL_len h.2]
  | [], _ :: _, h => h.elim
  | _ :: _, [], h => h.elim
theorem entL_get {R : Reg A} : ∀ {cs ps : List (SV A)}, EntL R st cs ps → ∀ (j : Nat) c p, cs[j]? = some c → ps[j]? = some p → EntA0 R st c p ∧ ∀ h ∈ bor0 c p, h ∈ borL cs ps
  | [], _, _, j, c, p, h, _ => by simp at h
  | _ :: _, [], h, _, _, _, _, _ => h.elim
  | c0 :: cs, p0 :: ps, h, j, c, p, hc, hp => by
    cases j with
    | zero => simp at hc hp; subst hc; subst hp; exact ⟨h.1, fun k hk => by simp [borL, hk]⟩
    | succ j =>
      obtain ⟨h1, h2⟩ := entL_get h.2 j c p (by simpa using hc) (by simpa using hp)
      exact ⟨h1, fun k hk => by simp [borL, h2 k hk]⟩
theorem bor0_ren (f : Nat → Nat) (c p : SV A) : bor0 c (ren f p) = bor0 c p := by
  cases c <;> cases p <;> simp only [ren, bor0]
theorem borL_ren (f : Nat → Nat) : ∀ (cs ps : List (SV A)), borL cs (renL f ps) = borL cs ps
  | [], ps => by cases ps <;> rfl
  | _ :: _, [] => rfl
  | c :: cs, p :: ps => by simp only [renL, borL, bor0_ren, borL_ren f cs ps]
theorem bor_ren (f : Nat → Nat) (c p : SV A) : bor c (ren f p) = bor c p := by
  cases c <;> cases p <;> simp only [ren, bor, bor0, borL_ren]
theorem borAL_ren (f : Nat → Nat) : ∀ (cs ps : List (SV A)), borAL cs (renL f ps) = borAL cs ps
  | [], ps => by cases ps <;> rfl
  | _ :: _, [] => rfl
  | c :: cs, p :: ps => by simp only [renL, borAL, bor_ren, borAL_ren f cs ps]

theorem ent_den (hI : SInv E.reg n X E0 ρ0 w0 st ρ a w) {O' : Nat → Prop} {bs : List Nat} (hL : Lend E.reg st ρ (fun b => X b ∨ OwnB st.h ρ b) O' bs) {c p : SV A} {f : Nat → Nat} (he : EntA E.reg st c (ren f p)) (hb : ∀ h ∈ bor c p, h ∈ bs)
    {v : Value} (hv : Den E.reg ρ (fun b => X b ∨ OwnB st.h ρ b) w c v) : Den E.reg (fun k => ρ (f k)) O' w p v := by
  unfold EntA at he
  split at he
  · rename_i cs ps hp
    obtain ⟨qs, rfl, hq⟩ : ∃ qs, p = .agg qs ∧ ps = renL f qs := by cases p <;> simp only [ren] at hp <;> cases hp; exact ⟨_, rfl, rfl⟩
    subst hq
    cases hv with
    | agg _ vs hl hd =>
      have hlen := entL_len he
      rw [renL_eq, List.length_map] at hlen
      refine .agg qs vs (by omega) fun j s v hs hv => ?_
      have hj : j < cs.length := by have := (List.getElem?_eq_some_iff.1 hs).1; omega
      have hcj : cs[j]? = some cs[j] := List.getElem?_eq_getElem hj
      obtain ⟨e1, e2⟩ := entL_get he j _ (ren f s) hcj (by rw [renL_eq, List.getElem?_map, hs]; rfl)
      refine ent0_den hI hL e1 (fun h hh => hb h ?_) (hd j _ v hcj hv)
      have := e2 h (by rwa [bor0_ren])
      rwa [borL_ren] at this
  · refine ent0_den hI hL he (fun h hh => hb h ?_) hv
    unfold bor
    split
    · simp only [bor0] at hh; cases hh
    · exact hh
theorem entAL_len {R : Reg A} : ∀ {cs ps : List (SV A)}, EntAL R st cs ps → cs.length = ps.length
  | [], [], _ => rfl
  | _ :: _, _ :: _, h => by simp [entAL_len h.2]
  | [], _ :: _, h => h.elim
  | _ :: _, [], h => h.elim
theorem entAL_get {R : Reg A} : ∀ {cs ps : List (SV A)}, EntAL R st cs ps → ∀ (j : Nat) c p, cs[j]? = some c → ps[j]? = some p → EntA R st c p ∧ ∀ h ∈ bor c p, h ∈ borAL cs ps
  | [], _, _, j, c, p, h, _ => by simp at h
  | _ :: _, [], h, _, _, _, _, _ => h.elim
  | c0 :: cs, p0 :: ps, h, j, c, p, hc, hp => by
    cases j with
    | zero => simp at hc hp; subst hc; subst hp; exact ⟨h.1, fun k hk => by simp [borAL, hk]⟩
    | succ j =>
      obtain ⟨h1, h2⟩ := entAL_get h.2 j c p (by simpa using hc) (by simpa using hp)
      exact ⟨h1, fun k hk => by simp [borAL, h2 k hk]⟩
theorem entAL_den (hI : SInv E.reg n X E0 ρ0 w0 st ρ a w) {O' : Nat → Prop} {bs : List Nat} (hL : Lend E.reg st ρ (fun b => X b ∨ OwnB st.h ρ b) O' bs) {cs ps : List (SV A)} {f : Nat → Nat} (he : EntAL E.reg st cs (renL f ps)) (hb : ∀ h ∈ borAL cs ps, h ∈ bs)
    {vs : List Value} (hv : DenL E.reg ρ (fun b => X b ∨ OwnB st.h ρ b) w cs vs) : DenL E.reg (fun k => ρ (f k)) O' w ps vs := by
  have hlen := entAL_len he
  rw [renL_eq, List.length_map] at hlen
  refine ⟨by rw [← hlen]; exact hv.1, fun j s v hs hvj => ?_⟩
  have hj : j < cs.length := by have := (List.getElem?_eq_some_iff.1 hs).1; omega
  have hcj : cs[j]? = some cs[j] := List.getElem?_eq_getElem hj
  obtain ⟨e1, e2⟩ := entAL_get he j _ (ren f s) hcj (by rw [renL_eq, List.getElem?_map, hs]; rfl)
  refine ent_den hI hL e1 (fun h hh => hb h ?_) (hv.2 j _ v hcj hvj)
  have := e2 h (by rwa [bor_ren])
  rwa [borAL_ren] at this
theorem ownAt_spec {f : Nat → Nat} : ∀ {hs : List Nat} {cs : List (Ct A)}, ownAt st f hs cs → hs.length = cs.length ∧ ∀ (j : Nat) h c, hs[j]? = some h → cs[j]? = some c → st.h h = some (renCt f c)
  | [], [], _ => ⟨rfl, fun j h c hh => by simp at hh⟩
  | [], _ :: _, h => h.elim
  | _ :: _, [], h => h.elim
  | h0 :: hs, c0 :: cs, h => by
    obtain ⟨h1, h2⟩ := ownAt_spec h.2
    refine ⟨by simp [h1], fun j h c hh hc => ?_⟩
    cases j with
    | zero => simp at hh hc; subst hh; subst hc; exact h.1
    | succ j => exact h2 j h c (by simpa using hh) (by simpa using hc)
end
end Go.Sx
