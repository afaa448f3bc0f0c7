/-
  Own tool 'Sx', part T: code.
-/
import Derived.Test.YtmogappoadglgaaSxS
import Derived.Scope
namespace Go.Sx
open Go
variable {A : Nat → Type}
section
variable {P : Program} {E : Env A} {fl : Nat → Bool} {X E0 : Nat → Prop} {ρ0 : Rho} {w0 : World} {st : St A} {ρ : Rho} {a : Act} {w : World}

/-! ### A loop's head -/
theorem assoc_mem {α : Type} : ∀ {l : List (Nat × α)} {i : Nat} {v : α}, assoc l i = some v → (i, v) ∈ l
  | [], _, _, h => by cases h
  | (k, u) :: l, i, v, h => by
    simp only [assoc] at h
    split at h
    · rename_i hb
      cases h
      rw [beq_true hb]; simp
    · simp [assoc_mem h]
theorem mem_assoc {α : Type} : ∀ {l : List (Nat × α)} {i : Nat} {v : α}, (i, v) ∈ l → someB (assoc l i) = true
  | (k, u) :: l, i, v, h => by
    simp only [assoc]
    split
    · rfl
    · rename_i hb
      rcases List.mem_cons.1 h with h | h
      · cases h; simp at hb
      · exact mem_assoc h
theorem someB_iff {α : Type} {o : Option α} : someB o = true ↔ ∃ x, o = some x := by cases o <;> simp [someB]
theorem low_spec : ∀ {l : List (Nat × Nat)}, lowIds l = true → ∀ h, h < 1000 → thA l h = h
  | [], _, h, _ => rfl
  | (k, v) :: l, hl, h, hh => by
    simp only [lowIds] at hl
    split at hl
    · cases hl
    · rename_i hb
      have hk : ¬ k < 1000 := fun e => by have := (Nat.blt_eq (x := k) (y := 1000)).symm ▸ e; rw [this] at hb; cases hb
      have := low_spec hl h hh
      unfold thA at this ⊢
      simp only [assoc]
      rw [beq_false (by omega)]
      exact this
theorem patT_get {f : Nat → Nat} : ∀ {l : List (Nat × SV A)}, patT st f l → ∀ i p, (i, p) ∈ l → ∃ c, st.t i = some c ∧ cellEq st f c p
  | (i0, p0) :: l, h, i, p, hm => by
    simp only [patT] at h
    rcases List.mem_cons.1 hm with e | e
    · cases e
      have h1 := h.1
      split at h1
      · rename_i c hs; exact ⟨c, hs, h1⟩
      · exact h1.elim
    · exact patT_get h.2 i p e
theorem patH_get {R : Reg A} {f : Nat → Nat} : ∀ {l : List (Nat × Ct A)}, patH R st f l → ∀ h ct, (h, ct) ∈ l → ctEq R st f (f h) ct
  | (h0, c0) :: l, hh, h, ct, hm => by
    simp only [patH] at hh
    rcases List.mem_cons.1 hm with e | e
    · cases e; exact hh.1
    · exact patH_get hh.2 h ct e
mutual
theorem men_unren {f : Nat → Nat} {p : Nat → Bool} : ∀ s : SV A, men p (ren f s) = true → men (fun h => p (f h)) s = true
  | .ptr k _ _ _ => fun hm => hm
  | .sl k _ _ _ => fun hm => hm
  | .mp k => fun hm => hm
  | .agg cs => fun hm => menL_unren cs hm
  | .tup cs => fun hm => menL_unren cs hm
  | .fn _ a b => fun hm => by
    simp only [men, ren, Bool.and_eq_true] at hm ⊢
    exact ⟨menL_unren a hm.1, menL_unren b hm.2⟩
  | .val _ => fun _ => rfl
  | .lst _ _ => fun _ => rfl
  | .prow cs _ => fun hm => menL_unren cs hm
  | .aggl _ _ => fun _ => rfl
theorem menL_unren {f : Nat → Nat} {p : Nat → Bool} : ∀ cs : List (SV A), menL p (renL f cs) = true → menL (fun h => p (f h)) cs = true
  | [] => fun _ => rfl
  | c :: cs => fun hm => by
    simp only [menL, renL, Bool.and_eq_true] at hm ⊢
    exact ⟨men_unren c hm.1, menL_unren cs hm.2⟩
end
theorem menCt_unren {f : Nat → Nat} {p : Nat → Bool} (ct : Ct A) (h : menCt p (renCt f ct) = true) : menCt (fun h => p (f h)) ct = true := by
  cases ct with
  | cells cs => exact menL_unren cs h
  | arr T xs => rfl
  | map K V es => rfl
theorem nodup_inj {α : Type} {g : α → Nat} : ∀ {l : List α}, (l.map g).Nodup → ∀ x ∈ l, ∀ y ∈ l, g x = g y → x = y
  | [], _, x, hx, _, _, _ => by cases hx
  | a :: l, hn, x, hx, y, hy, e => by
    rw [List.map_cons, List.nodup_cons] at hn
    rcases List.mem_cons.1 hx with rfl | hx1 <;> rcases List.mem_cons.1 hy with rfl | hy1
    · rfl
    · exact absurd (List.mem_map.2 ⟨y, hy1, e.symm⟩) hn.1
    · exact absurd (List.mem_map.2 ⟨x, hx1, e⟩ : g y ∈ l.map g) hn.1
    · exact nodup_inj hn.2 x hx1 y hy1 e

theorem cellsEq_get {f : Nat → Nat} : ∀ {cs ps : List (SV A)}, cellsEq st f cs ps → cs.length = ps.length ∧ ∀ (j : Nat) c p, cs[j]? = some c → ps[j]? = some p → cellEq st f c p
  | [], [], _ => ⟨rfl, fun j c p h => by simp at h⟩
  | _ :: _, [], h => h.elim
  | [], _ :: _, h => h.elim
  | c0 :: cs, p0 :: ps, h => by
    obtain ⟨h1, h2⟩ := cellsEq_get h.2
    refine ⟨by simp [h1], fun j c p hc hp => ?_⟩
    cases j with
    | zero => simp at hc hp; subst hc; subst hp; exact h.1
    | succ j => exact h2 j c p (by simpa using hc) (by simpa using hp)
theorem cell_den {R : Reg A} {f : Nat → Nat} {ρ' : Rho} {O O' : Nat → Prop} (hρ : ∀ k, st.u (f k) = true → ρ' k = ρ (f k)) (hn : ∀ k, st.u (f k) = false → ρ' k = none) (g : Goes O O' w w) {c p : SV A} {v : Value} (he : cellEq st f c p) (hm : men st.u c = true)
    (hd : Den R ρ O w c v) : Den R ρ' O' w p v := by
  unfold cellEq at he
  split at he
  · obtain ⟨_, h2, rfl, rfl⟩ := he
    have hv := val_inv hd
    subst hv
    exact .slnil _ _ (hn _ h2)
  · subst he
    exact ((hd.unren p rfl).rho (f := fun k => st.u (f k)) (men_unren p hm) hρ).mono g
theorem ct_den {n : Nat} {R : Reg A} (hI : SInv R n X E0 ρ0 w0 st ρ a w) {f : Nat → Nat} {ρ' : Rho} {O' : Nat → Prop} (hρ : ∀ k, st.u (f k) = true → ρ' k = ρ (f k)) (hn : ∀ k, st.u (f k) = false → ρ' k = none) (g : Goes (fun b => X b ∨ OwnB st.h ρ b) O' w w) {h : Nat} {ct : Ct A}
    (he : ctEq R st f h ct) : (∃ c0, st.h h = some c0 ∧ st.u h = true ∧ DenCt R ρ' O' w ct (ρ h)) ∨ (st.h h = none ∧ st.u h = false ∧ ct.flat R = []) := by
  unfold ctEq at he
  split at he
  · rename_i cs hc
    have hu := hI.used h _ hc
    have hd := hI.hs h _ hc
    refine .inl ⟨_, hc, hu.1, ?_⟩
    split at he
    · rename_i ps
      obtain ⟨hl, hce⟩ := cellsEq_get he
      generalize ρ h = q at *
      cases q with
      | none =>
        have hd : cs = [] := hd
        show ps = []
        subst hd
        exact List.length_eq_zero_iff.1 (by simpa using hl.symm)
      | some q =>
        obtain ⟨b, base⟩ := q
        rcases hd with ⟨_, _, _, e, _⟩ | ⟨_, c, E, fz, h1, h2, h3, h4⟩
        · cases e
        refine .inr ⟨rfl, c, E, fz, h1, h2, by show base + ps.length ≤ _; rw [← hl]; exact h3, fun j s v hs hv => ?_⟩
        have hj : j < cs.length := by have := (List.getElem?_eq_some_iff.1 (show ps[j]? = some s from hs)).1; omega
        have hcj : cs[j]? = some cs[j] := List.getElem?_eq_getElem hj
        exact cell_den hρ hn g (hce j _ s hcj hs) (menL_get hu.2 j _ hcj) (h4 j _ v hcj hv)
    · exact he.elim
  · rename_i T xs hc
    have hu := hI.used h _ hc
    have hd := hI.hs h _ hc
    rw [he] at hd
    have hm : menCt st.u (renCt f ct) = true := by rw [← he]; rfl
    exact .inl ⟨_, hc, hu.1, ((hd.unren).rho (f := fun k => st.u (f k)) (menCt_unren ct hm) hρ).mono g (fun _ _ _ => rfl)⟩
  · rename_i K V es hc
    have hu := hI.used h _ hc
    have hd := hI.hs h _ hc
    rw [he] at hd
    have hm : menCt st.u (renCt f ct) = true := by rw [← he]; rfl
    exact .inl ⟨_, hc, hu.1, ((hd.unren).rho (f := fun k => st.u (f k)) (menCt_unren ct hm) hρ).mono g (fun _ _ _ => rfl)⟩
  · rename_i hc
    exact .inr ⟨hc, he⟩

theorem ent_inv {n : Nat} {R : Reg A} (hI : SInv R n X E0 ρ0 w0 st ρ a w) {p : Pat A} (hp : patOk p = true) {θ : List (Nat × Nat)} (he : Ent R st p θ) : ∃ ρ', SInv R n X E0 ρ0 w0 p.st ρ' a w := by
  obtain ⟨hlow, hT, hH, hN⟩ := he
  simp only [patOk, Bool.and_eq_true, List.all_eq_true] at hp
  obtain ⟨⟨hpt, hph⟩, hpn⟩ := hp
  let f := thA θ
  let ρ' : Rho := fun h => if st.u (f h) = true then ρ (f h) else none
  have hρ : ∀ h, (fun k => st.u (f k)) h = true → ρ' h = (fun k => ρ (f k)) h := fun h hu => if_pos hu
  have hρn : ∀ k, st.u (f k) = false → ρ' k = none := fun k hk => if_neg (by rw [hk]; exact Bool.false_ne_true)
  have live : ∀ h ct, assoc p.h h = some ct → (∃ c0, st.h (f h) = some c0 ∧ st.u (f h) = true) ∨ ρ' h = none := fun h ct hc => by
    have he := patH_get hH h ct (assoc_mem hc)
    unfold ctEq at he
    split at he
    · rename_i cs hs; exact .inl ⟨_, hs, (hI.used _ _ hs).1⟩
    · rename_i T xs hs; exact .inl ⟨_, hs, (hI.used _ _ hs).1⟩
    · rename_i K V es hs; exact .inl ⟨_, hs, (hI.used _ _ hs).1⟩
    · exact .inr (hρn h he.1)
  have hO : ∀ b, (X b ∨ OwnB p.st.h ρ' b) → X b ∨ OwnB st.h ρ b := fun b hb => by
    rcases hb with hb | ⟨h, ct, base, hh, hr⟩
    · exact .inl hb
    · rcases live h ct hh with ⟨c0, h1, h2⟩ | h1
      · exact .inr ⟨_, _, base, h1, by rw [← hr]; exact (hρ h h2).symm⟩
      · rw [h1] at hr; cases hr
  have g : Goes (fun b => X b ∨ OwnB st.h ρ b) (fun b => X b ∨ OwnB p.st.h ρ' b) w w := ⟨fun b _ _ _ hn hb => ⟨fun h => hn (hO b h), hb⟩, fun _ c _ fz h => ⟨c, fz, h, rfl⟩⟩
  have slot : ∀ s sv, p.st.t s = some sv → ∃ c, st.t s = some c ∧ cellEq st f c sv := fun s sv h => patT_get hT s sv (assoc_mem h)
  refine ⟨ρ', hI.size, fun s sv hs => ?_, fun h ct hh => ?_, fun h h' ct ct' b base base' hh hh' hr hr' => ?_, fun h ct b base hh hr => ?_, fun h ct hh => ?_, fun s sv hs => ?_, hI.xlt, hI.rel, hI.defers, fun h hh => ?_⟩
  · obtain ⟨c, hc, h1⟩ := slot s sv hs
    exact cell_den hρ hρn g h1 (hI.men s _ hc) (hI.slots s _ hc)
  · rcases ct_den hI hρ hρn g (patH_get hH h ct (assoc_mem hh)) with ⟨c0, h1, h2, h3⟩ | ⟨_, h1, h2⟩
    · rw [hρ h h2]; exact h3
    · rw [hρn h h1]; exact h2
  · rcases live h ct hh with ⟨c1, h1, h2⟩ | h1
    · rcases live h' ct' hh' with ⟨c2, h3, h4⟩ | h3
      · have e := hI.inj (f h) (f h') _ _ b base base' h1 h3 (by rw [← hr]; exact (hρ h h2).symm) (by rw [← hr']; exact (hρ h' h4).symm)
        have := nodup_inj (nodup_spec hN) (h, ct) (assoc_mem hh) (h', ct') (assoc_mem hh') e
        exact congrArg Prod.fst this
      · rw [h3] at hr'; cases hr'
    · rw [h1] at hr; cases hr
  · rcases live h ct hh with ⟨c1, h1, h2⟩ | h1
    · exact hI.own _ _ b base h1 (by rw [← hr]; exact (hρ h h2).symm)
    · rw [h1] at hr; cases hr
  · have low : ∀ k, someB (assoc p.h k) = true → p.st.u k = true := fun k hk => by
      show usedIn p.h k = true
      unfold usedIn
      split
      · rfl
      · exact hk
    exact ⟨low h (by rw [show assoc p.h h = some ct from hh]; rfl), menCt_mono low ct (hph (h, ct) (assoc_mem hh))⟩
  · have low : ∀ k, someB (assoc p.h k) = true → p.st.u k = true := fun k hk => by
      show usedIn p.h k = true
      unfold usedIn
      split
      · rfl
      · exact hk
    exact men_mono low sv (hpt (s, sv) (assoc_mem hs))
  · refine ⟨?_, ?_⟩
    · show usedIn p.h h = true
      unfold usedIn
      have := (Nat.blt_eq (x := h) (y := 1000)).symm ▸ hh
      rw [this]
    · have hf : f h = h := low_spec hlow h hh
      have hk := hI.keep h hh
      rw [hρ h (by show st.u (f h) = true; rw [hf]; exact hk.1)]
      show ρ (f h) = _
      rw [hf]; exact hk.2

/-! ### Code -/
def ExOf : XE → Exit
  | .norm => .normal
  | .ret => .ret
  | .exit i => .exit i
def QX (R : Reg A) (n : Nat) (X E0 : Nat → Prop) (ρ0 : Rho) (w0 : World) (Q : XE → St A → Prop) : Exit → Act → World → Prop := fun e a w => ∃ xe st ρ, e = ExOf xe ∧ Q xe st ∧ SInv R n X E0 ρ0 w0 st ρ a w

theorem ex_min {p : Nat → Prop} : ∀ n, p n → ∃ m, p m ∧ ∀ k, p k → m ≤ k := by
  intro n
  induction n using Nat.strongRecOn with
  | _ n ih =>
    intro hn
    by_cases h : ∃ k, k < n ∧ p k
    · obtain ⟨k, hk, hp⟩ := h
      exact ih k hk hp
    · exact ⟨n, hn, fun k hk => by
        rcases Nat.lt_or_ge k n with h1 | h1
        · exact absurd ⟨k, h1, hk⟩ h
        · exact h1⟩

theorem wp_XC (hP : P.follows .mixedOrders = true) (hE : E.Ok P) (hfl : FlOk E.reg fl) : ∀ (c : Code) {Q : XE → St A → Prop} {st : St A} {ρ : Rho} {a : Act} {w : World}, SInv E.reg E.n X E0 ρ0 w0 st ρ a w → XC P E fl c st Q → c.wp P (QX E.reg E.n X E0 ρ0 w0 Q) a w
  | .skip, Q, st, ρ, a, w, hI, h => wp_skip ⟨.norm, st, ρ, rfl, h, hI⟩
  | .label _, Q, st, ρ, a, w, hI, h => wp_label ⟨.norm, st, ρ, rfl, h, hI⟩
  | .ret, Q, st, ρ, a, w, hI, h => wp_ret ⟨.ret, st, ρ, rfl, h, hI⟩
  | .exit id, Q, st, ρ, a, w, hI, h => wp_exit ⟨.exit id, st, ρ, rfl, h, hI⟩
  | .seq x y, Q, st, ρ, a, w, hI, h => by
    refine wp_seq (wp_mono (wp_XC hP hE hfl x hI h) fun e a' w' hq => ?_)
    obtain ⟨xe, st', ρ', rfl, hq, hi⟩ := hq
    cases xe with
    | norm => exact wp_XC hP hE hfl y hi hq
    | ret => exact ⟨.ret, st', ρ', rfl, hq, hi⟩
    | exit i => exact ⟨.exit i, st', ρ', rfl, hq, hi⟩
  | .cond c x y, Q, st, ρ, a, w, hI, h => by
    simp only [XC] at h
    split at h
    · rename_i b hb
      have hv := val_inv (hI.ev hb).1
      exact wp_cond_split hv (fun e => by subst e; exact wp_XC hP hE hfl x hI h) (fun e => by subst e; exact wp_XC hP hE hfl y hI h)
    · exact h.elim
  | .block id c, Q, st, ρ, a, w, hI, h => by
    refine wp_block (wp_mono (wp_XC hP hE hfl c hI h) fun e a' w' hq => ?_)
    obtain ⟨xe, st', ρ', rfl, hq, hi⟩ := hq
    cases xe with
    | norm => exact ⟨.norm, st', ρ', rfl, hq, hi⟩
    | ret => exact ⟨.ret, st', ρ', rfl, hq, hi⟩
    | exit i =>
      dsimp only at hq
      show Exit.inBlock id _ (.exit i) a' w'
      unfold Exit.inBlock
      split at hq
      · rename_i hb
        dsimp only
        rw [if_pos (beq_true hb)]
        exact ⟨.norm, st', ρ', rfl, hq, hi⟩
      · rename_i hb
        dsimp only
        rw [if_neg fun e => by subst e; simp at hb]
        exact ⟨.exit i, st', ρ', rfl, hq, hi⟩
  | .region id ⟨ops⟩ draw, Q, st, ρ, a, w, hI, h => by
    cases draw with
    | false => exact wp_region_XR hE hfl hI (K := fun st' => Q .norm st') h fun st' ρ' a' w' hk hi => ⟨.norm, st', ρ', rfl, hk, hi⟩
    | true => exact wp_region_drawn_XR hP hE hfl hI (K := fun st' => Q .norm st') h fun st' ρ' a' w' hk hi => ⟨.norm, st', ρ', rfl, hk, hi⟩
  | .loop b, Q, st, ρ, a, w, hI, h => by
    obtain ⟨α, I, Pr, μ, hok, ⟨x0, θ0, hx0, he0⟩, hround⟩ := h
    let J : Act → World → Nat → Prop := fun a w n => ∃ x ρ', μ x = n ∧ Pr x ∧ SInv E.reg E.n X E0 ρ0 w0 (I x).st ρ' a w
    have hJ : ∀ a w, ∃ m, ∀ n, J a w n → (J a w m ∧ ∀ k, J a w k → m ≤ k) := fun a w => by
      by_cases h : ∃ n, J a w n
      · obtain ⟨n, hn⟩ := h
        obtain ⟨m, hm⟩ := ex_min n hn
        exact ⟨m, fun _ _ => hm⟩
      · exact ⟨0, fun n hn => absurd ⟨n, hn⟩ h⟩
    obtain ⟨ρ1, hi1⟩ := ent_inv hI (hok x0 hx0) he0
    refine wp_loop (fun a w => ∃ n, J a w n) (fun a w => Classical.choose (hJ a w)) ⟨_, x0, ρ1, rfl, hx0, hi1⟩ fun a1 w1 hh => ?_
    obtain ⟨n, hn⟩ := hh
    obtain ⟨⟨x, ρx, hμ, hx, hix⟩, hmin⟩ := Classical.choose_spec (hJ a1 w1) n hn
    refine wp_mono (wp_XC hP hE hfl b hix (hround x hx)) fun e a' w' hq => ?_
    obtain ⟨xe, st', ρ', rfl, hq, hi⟩ := hq
    cases xe with
    | norm =>
      obtain ⟨x', θ', hx', hlt, he'⟩ := hq
      obtain ⟨ρ2, hi2⟩ := ent_inv hi (hok x' hx') he'
      have hj : J a' w' (μ x') := ⟨x', ρ2, rfl, hx', hi2⟩
      refine ⟨⟨_, hj⟩, ?_⟩
      have := (Classical.choose_spec (hJ a' w') _ hj).2 _ hj
      rw [← hμ]
      exact Nat.lt_of_le_of_lt this hlt
    | ret => exact ⟨.ret, st', ρ', rfl, hq, hi⟩
    | exit i => exact ⟨.exit i, st', ρ', rfl, hq, hi⟩
  | .scope c, Q, st, ρ, a, w, hI, h => by
    refine wp_scope_straight (wp_mono (wp_XC hP hE hfl c hI h) fun e a' w' hq => ?_)
    obtain ⟨xe, st', ρ', rfl, hq, hi⟩ := hq
    cases xe <;> exact ⟨_, st', ρ', rfl, hq, hi⟩
  | .rangeFunc _ _ _ _, _, _, _, _, _, _, h => h.elim
  | .goto _, _, _, _, _, _, _, h => h.elim
  | .refuse _, _, _, _, _, _, _, h => h.elim
end
end Go.Sx
