/-
  Own tool 'Sx', part M: a call under a specification, carried out.
-/
import Derived.Test.YtmogappoadglgaaSxL
namespace Go.Sx
open Go
variable {A : Nat → Type}
section
variable {P : Program} {E : Env A} {n : Nat} {X E0 : Nat → Prop} {ρ0 : Rho} {w0 : World} {st : St A} {ρ : Rho} {a : Act} {w : World} {fl : Nat → Bool}

theorem target_run (hI : SInv E.reg n X E0 ρ0 w0 st ρ a w) {fo : Operand} {fv : SV A} (hfo : st.ev fo = some fv) {f : FuncId} {A1 B1 : List (SV A)} (ht : target fv = some (f, A1, B1)) (args : Array Value) :
    ∃ (u1 u2 : Array Value), Deferred.ofValue (a.eval fo) args = pure { target := .fn (.func f) u2, args := u1 ++ args } ∧
      DenL E.reg ρ (fun b => X b ∨ OwnB st.h ρ b) w A1 u1.toList ∧ DenL E.reg ρ (fun b => X b ∨ OwnB st.h ρ b) w B1 u2.toList ∧ menL st.u A1 = true ∧ menL st.u B1 = true := by
  obtain ⟨h1, h2⟩ := hI.ev hfo
  unfold target at ht
  split at ht
  · cases ht
    obtain hv := val_inv h1
    rw [hv]
    exact ⟨#[], #[], rfl, ⟨rfl, fun j s v h => by simp at h⟩, ⟨rfl, fun j s v h => by simp at h⟩, rfl, rfl⟩
  · cases ht
    generalize a.eval fo = u at h1
    cases h1 with
    | fn _ _ _ us vs l1 d1 l2 d2 =>
      simp only [men, Bool.and_eq_true] at h2
      exact ⟨us, vs, rfl, ⟨by simpa using l1, fun j s v hs hv => d1 j s v hs (by rwa [Array.getElem?_toList] at hv)⟩, ⟨by simpa using l2, fun j s v hs hv => d2 j s v hs (by rwa [Array.getElem?_toList] at hv)⟩, h2.1, h2.2⟩
  · cases ht
theorem DenL.append {R : Reg A} {O : Nat → Prop} {s1 s2 : List (SV A)} {v1 v2 : List Value} (h1 : DenL R ρ O w s1 v1) (h2 : DenL R ρ O w s2 v2) : DenL R ρ O w (s1 ++ s2) (v1 ++ v2) := by
  refine ⟨by simp [h1.1, h2.1], fun j s v hs hv => ?_⟩
  by_cases hj : j < s1.length
  · rw [List.getElem?_append_left hj] at hs
    rw [List.getElem?_append_left (by have := h1.1; omega)] at hv
    exact h1.2 j s v hs hv
  · rw [List.getElem?_append_right (by omega)] at hs
    rw [List.getElem?_append_right (by have := h1.1; omega), ← h1.1] at hv
    exact h2.2 _ s v hs hv
theorem menL_append {f : Nat → Bool} : ∀ {a b : List (SV A)}, menL f a = true → menL f b = true → menL f (a ++ b) = true
  | [], _, _, h => h
  | _ :: a, b, h1, h2 => by
    simp only [menL, Bool.and_eq_true] at h1
    simp only [List.cons_append, menL, Bool.and_eq_true]
    exact ⟨h1.1, menL_append h1.2 h2⟩
mutual
theorem men_ren {f : Nat → Nat} {p q : Nat → Bool} (h : ∀ k, p k = true → q (f k) = true) : ∀ s : SV A, men p s = true → men q (ren f s) = true
  | .ptr k _ _ _ => fun hm => h k hm
  | .sl k _ _ _ => fun hm => h k hm
  | .mp k => fun hm => h k hm
  | .agg cs => fun hm => menL_ren h cs hm
  | .tup cs => fun hm => menL_ren h cs hm
  | .fn _ a b => fun hm => by
    simp only [men, ren, Bool.and_eq_true] at hm ⊢
    exact ⟨menL_ren h a hm.1, menL_ren h b hm.2⟩
  | .val _ => fun _ => rfl
  | .lst _ _ => fun _ => rfl
  | .prow cs _ => fun hm => menL_ren h cs hm
  | .aggl _ _ => fun _ => rfl
theorem menL_ren {f : Nat → Nat} {p q : Nat → Bool} (h : ∀ k, p k = true → q (f k) = true) : ∀ cs : List (SV A), menL p cs = true → menL q (renL f cs) = true
  | [] => fun _ => rfl
  | c :: cs => fun hm => by
    simp only [menL, renL, Bool.and_eq_true] at hm ⊢
    exact ⟨men_ren h c hm.1, menL_ren h cs hm.2⟩
end
theorem menCt_ren {f : Nat → Nat} {p q : Nat → Bool} (h : ∀ k, p k = true → q (f k) = true) (ct : Ct A) (hm : menCt p ct = true) : menCt q (renCt f ct) = true := by
  cases ct with
  | cells cs => exact menL_ren h cs hm
  | arr T xs => rfl
  | map K V es => rfl
theorem flatCt_get (hfl : FlOk E.reg fl) {ct : Ct A} (h : (match ct with | .cells cs => flatL fl cs | .arr T _ => fl T | .map .. => true) = true) (j : Nat) (s : SV A) (hs : (ct.flat E.reg)[j]? = some s) : flatS fl s = true := by
  cases ct with
  | cells cs => exact flatL_get h j s hs
  | arr T xs => exact flatMap_get (P := fun s => flatS fl s = true) (fun x _ i s hi => hfl T h x i s hi) j s hs
  | map K V es => simp [Ct.flat] at hs

theorem ids_len : ∀ n, (ids n).length = n
  | 0 => rfl
  | n + 1 => by simp [ids, ids_len n]
theorem ids_get : ∀ (n j : Nat), j < n → (ids n)[j]? = some j
  | 0, j, h => by omega
  | n + 1, j, h => by
    simp only [ids]
    rw [List.getElem?_append]
    split
    · rename_i hj; exact ids_get n j (by rwa [ids_len] at hj)
    · rename_i hj
      rw [ids_len] at hj ⊢
      have : j = n := by omega
      subst this; simp

/-- A call under a specification, from the caller's side: what it hands in, and what it has behind the call. -/
theorem call_core (hfl : FlOk E.reg fl) (hI : SInv E.reg n X E0 ρ0 w0 st ρ a w) {vs : List (SV A)} {us : Array Value} (hargs : DenL E.reg ρ (fun b => X b ∨ OwnB st.h ρ b) w vs us.toList) {s : Spec A} {g : s.γ} {θ : List Nat} {kp : Bool} {d : Nat}
    {K : SV A → List (Nat × Option (Ct A)) → Prop} (hf : fresh st.u (callEff E.reg fl st d vs s g θ kp).new = true) (hr : (callEff E.reg fl st d vs s g θ kp).b.run K) :
    s.pre g ∧ ∃ (X' : Nat → Prop) (ρq : Rho), (∀ b, X' b → b < w.heap.size) ∧ (∀ b, X' b → ¬ Blk ((s.own g).map some) ρq b) ∧
      DenL E.reg ρq (fun b => X' b ∨ Blk ((s.own g).map some) ρq b) w (s.args g) us.toList ∧ DenHs E.reg ρq (fun b => X' b ∨ Blk ((s.own g).map some) ρq b) w ((s.own g).map some) ∧
      ((s.own g).length = θ.length ∧ (∀ (j k : Nat), θ[j]? = some k → ρq j = ρ k ∧ ∃ ct, st.h k = some ct) ∧ (∀ b, Blk ((s.own g).map some) ρq b → OwnB st.h ρ b) ∧ θ.Nodup) ∧
      ∀ e w', MPost E.reg s g X' ρq w e w' → ∃ v sv hs ρ', e = .returned v ∧ K sv hs ∧ ∀ dst, okDst n dst = true → SInv E.reg n X E0 ρ0 w0 (st.upd dst sv hs (callEff E.reg fl st d vs s g θ kp).new) ρ' (a.put dst v) w' := by
  -- the specification's side
  simp only [callEff, forceL_eq] at hf hr ⊢
  generalize hnews : newNames d s.nnew = news at *
  generalize hbs : borAL vs (s.args g) = bs at *
  obtain ⟨⟨hpre, hent, hown, hdis, hkp⟩, hne, hall⟩ := hr
  have hbn : disj bs θ = true ∧ nodup θ = true := by
    unfold disOk at hdis
    split at hdis
    · rename_i h1 h2; exact ⟨h1, h2⟩
    · exact hdis.elim
  have hbθ := disj_spec hbn.1
  have hθn := nodup_spec hbn.2
  obtain ⟨hnl, hownd⟩ := ownAt_spec hown
  have hnewlen : news.length = s.nnew := by rw [← hnews]; exact (newNames_spec d s.nnew).1
  have hnewnd : news.Nodup := by rw [← hnews]; exact newNames_nodup d s.nnew
  have hnewfresh := fresh_spec hf
  have hfθ : ∀ (j k : Nat), θ[j]? = some k → thr (θ ++ news) j = k := fun j k h => thr_get (by rw [List.getElem?_append_left (List.getElem?_eq_some_iff.1 h).1]; exact h)
  have hfn : ∀ (j k : Nat), news[j]? = some k → thr (θ ++ news) (θ.length + j) = k := fun j k h => thr_get (by rw [List.getElem?_append_right (by omega)]; rw [Nat.add_sub_cancel_left]; exact h)
  have hθlive : ∀ k ∈ θ, ∃ ct, st.h k = some ct := fun k hk => by
    obtain ⟨j, hj⟩ := List.getElem?_of_mem hk
    have hlt : j < (s.own g).length := by have := (List.getElem?_eq_some_iff.1 hj).1; omega
    exact ⟨_, hownd j k _ hj (List.getElem?_eq_getElem hlt)⟩
  have hnθ : ∀ k ∈ news, k ∉ θ := fun k hk hm => by
    obtain ⟨ct, hct⟩ := hθlive k hm
    have := (hI.used k ct hct).1
    rw [hnewfresh k hk] at this; cases this
  have hθnnd : (θ ++ news).Nodup := List.nodup_append.2 ⟨hθn, hnewnd, fun x hx y hy hxy => hnθ y hy (hxy ▸ hx)⟩
  -- the blocks that are others'
  let X' : Nat → Prop := fun b => X b ∨ ∃ h ct base, h ∉ θ ∧ h ∉ bs ∧ st.h h = some ct ∧ ρ h = some (b, base)
  have hblk : ∀ b, Blk ((s.own g).map some) (fun k => ρ (thr (θ ++ news) k)) b ↔ ∃ h ct base, h ∈ θ ∧ st.h h = some ct ∧ ρ h = some (b, base) := fun b => by
    constructor
    · rintro ⟨j, ct, base, hj, hr⟩
      have hlt : j < (s.own g).length := by have := (List.getElem?_eq_some_iff.1 hj).1; simpa using this
      have hk : θ[j]? = some θ[j] := List.getElem?_eq_getElem (by omega)
      refine ⟨θ[j], _, base, List.getElem_mem _, hownd j _ _ hk (List.getElem?_eq_getElem hlt), ?_⟩
      have hr1 : ρ (thr (θ ++ news) j) = some (b, base) := hr
      rwa [hfθ j _ hk] at hr1
    · rintro ⟨h, ct, base, hmem, hh, hr⟩
      obtain ⟨j, hj⟩ := List.getElem?_of_mem hmem
      have hlt : j < (s.own g).length := by have := (List.getElem?_eq_some_iff.1 hj).1; omega
      exact ⟨j, (s.own g)[j], base, by simp [hlt], by show ρ (thr (θ ++ news) j) = _; rw [hfθ j h hj]; exact hr⟩
  have hlt : ∀ h ct b base, st.h h = some ct → ρ h = some (b, base) → b < w.heap.size := fun h ct b base hh hr => by
    have := hI.hs h ct hh
    rw [hr] at this
    exact this.lt
  have hX1 : ∀ b, X' b → b < w.heap.size := fun b hb => by
    rcases hb with hb | ⟨h, ct, base, _, _, hh, hr⟩
    · exact Nat.lt_of_lt_of_le (hI.xlt b hb).1 hI.rel.size
    · exact hlt h ct b base hh hr
  have hX2 : ∀ b, X' b → ¬ Blk ((s.own g).map some) (fun k => ρ (thr (θ ++ news) k)) b := fun b hb hB => by
    obtain ⟨h', ct', base', hm', hh', hr'⟩ := (hblk b).1 hB
    rcases hb with hb | ⟨h, ct, base, hn1, hn2, hh, hr⟩
    · exact (hI.own h' ct' b base' hh' hr').2 hb
    · exact hn1 (hI.inj h h' ct ct' b base base' hh hh' hr hr' ▸ hm')
  have hO : ∀ b, (X' b ∨ Blk ((s.own g).map some) (fun k => ρ (thr (θ ++ news) k)) b) → (X b ∨ OwnB st.h ρ b) := fun b hb => by
    rcases hb with (hb | ⟨h, ct, base, _, _, hh, hr⟩) | hb
    · exact .inl hb
    · exact .inr ⟨h, ct, base, hh, hr⟩
    · obtain ⟨h, ct, base, _, hh, hr⟩ := (hblk b).1 hb
      exact .inr ⟨h, ct, base, hh, hr⟩
  have hLend : Lend E.reg st ρ (fun b => X b ∨ OwnB st.h ρ b) (fun b => X' b ∨ Blk ((s.own g).map some) (fun k => ρ (thr (θ ++ news) k)) b) bs := ⟨hO, fun h ct b base hb hh hr hx => by
    rcases hx with (hx | ⟨h', ct', base', hn1, hn2, hh', hr'⟩) | hx
    · exact (hI.own h ct b base hh hr).2 hx
    · exact hn2 (hI.inj h h' ct ct' b base base' hh hh' hr hr' ▸ hb)
    · obtain ⟨h', ct', base', hm', hh', hr'⟩ := (hblk b).1 hx
      exact hbθ h hb (hI.inj h h' ct ct' b base base' hh hh' hr hr' ▸ hm')⟩
  have gO : Goes (fun b => X b ∨ OwnB st.h ρ b) (fun b => X' b ∨ Blk ((s.own g).map some) (fun k => ρ (thr (θ ++ news) k)) b) w w := ⟨fun b _ _ _ hn hb => ⟨fun h => hn (hO b h), hb⟩, fun _ c _ fz h => ⟨c, fz, h, rfl⟩, fun _ _ h => h⟩
  -- the arguments
  have hargs' := entAL_den hI hLend hent (fun h hh => by rw [← hbs]; exact hh) hargs
  -- its blocks
  have hown' : DenHs E.reg (fun k => ρ (thr (θ ++ news) k)) (fun b => X' b ∨ Blk ((s.own g).map some) (fun k => ρ (thr (θ ++ news) k)) b) w ((s.own g).map some) := by
    refine ⟨fun j ct hj => ?_, fun j j' ct ct' b base base' hj hj' hr hr' => ?_⟩
    · rw [List.getElem?_map] at hj
      cases hc : (s.own g)[j]? with
      | none => rw [hc] at hj; cases hj
      | some c0 =>
        rw [hc] at hj; cases hj
        have hl := (List.getElem?_eq_some_iff.1 hc).1
        have hk : θ[j]? = some θ[j] := List.getElem?_eq_getElem (by omega)
        have hst := hownd j _ _ hk hc
        have := ((hI.hs _ _ hst).mono gO (fun _ _ _ => rfl)).unren
        rw [← hfθ j _ hk] at this
        exact this
    · have l1 : j < (s.own g).length := by have := (List.getElem?_eq_some_iff.1 hj).1; simpa using this
      have l2 : j' < (s.own g).length := by have := (List.getElem?_eq_some_iff.1 hj').1; simpa using this
      have k1 : θ[j]? = some θ[j] := List.getElem?_eq_getElem (by omega)
      have k2 : θ[j']? = some θ[j'] := List.getElem?_eq_getElem (by omega)
      have hr1 : ρ (thr (θ ++ news) j) = some (b, base) := hr
      have hr2 : ρ (thr (θ ++ news) j') = some (b, base') := hr'
      rw [hfθ j _ k1] at hr1
      rw [hfθ j' _ k2] at hr2
      have := hI.inj _ _ _ _ b base base' (hownd j _ _ k1 (List.getElem?_eq_getElem l1)) (hownd j' _ _ k2 (List.getElem?_eq_getElem l2)) hr1 hr2
      exact (List.getElem_inj hθn).1 this
  refine ⟨hpre, X', (fun k => ρ (thr (θ ++ news) k)), hX1, hX2, hargs', hown', ⟨hnl.symm, fun j k hj => ⟨?_, hθlive k (List.mem_of_getElem? hj)⟩, fun b hb => ?_, hθn⟩, fun e w' hpost => ?_⟩
  · show ρ (thr (θ ++ news) j) = ρ k
    rw [hfθ j k hj]
  · obtain ⟨h, ct, base, _, hh, hr⟩ := (hblk b).1 hb
    exact ⟨h, ct, base, hh, hr⟩
  obtain ⟨dd, ρ', v, hp, rfl, hρold, hres, hhs', hnewb, hlen', hmres, hmct, hrel⟩ := hpost
  have hK := hall dd hp
  -- names behind the call
  let ρ2 : Rho := fun h => if h ∈ news then ρ' (θ.length + news.idxOf h) else ρ h
  have hρ2 : ∀ h, st.u h = true → ρ2 h = ρ h := fun h hu => by
    show (if h ∈ news then _ else _) = _
    rw [if_neg]
    intro hm; rw [hnewfresh h hm] at hu; cases hu
  have hlθ : θ.length = (s.own g).length := hnl
  have hagree : ∀ k, Nat.blt k ((s.own g).length + s.nnew) = true → ρ2 (thr (θ ++ news) k) = ρ' k := fun k hk => by
    have hk : k < (s.own g).length + s.nnew := (Nat.blt_eq (x := k) (y := (s.own g).length + s.nnew)) ▸ hk
    by_cases h1 : k < θ.length
    · have hkk : θ[k]? = some θ[k] := List.getElem?_eq_getElem h1
      rw [hfθ k _ hkk]
      have : θ[k] ∉ news := fun hm => hnθ _ hm (List.getElem_mem _)
      show (if θ[k] ∈ news then _ else _) = _
      rw [if_neg this, hρold k (by omega)]
      show ρ θ[k] = ρ (thr (θ ++ news) k)
      rw [hfθ k _ hkk]
    · have hj : k - θ.length < news.length := by omega
      have hkk : news[k - θ.length]? = some news[k - θ.length] := List.getElem?_eq_getElem hj
      have := hfn (k - θ.length) _ hkk
      rw [show θ.length + (k - θ.length) = k by omega] at this
      rw [this]
      show (if news[k - θ.length] ∈ news then _ else _) = _
      rw [if_pos (List.getElem_mem _), hnewnd.idxOf_getElem]
      congr 1; omega
  -- the new state's blocks
  have hlen2 : (θ ++ news).length = (s.own' g dd).length := by rw [List.length_append, hlen', hlθ, hnewlen]
  have hst' : ∀ h, updH st.h (updsOf (thr (θ ++ news)) (θ ++ news) (s.own' g dd) ++ tailOf kp bs) h =
      if h ∈ θ ++ news then (match (s.own' g dd)[(θ ++ news).idxOf h]? with | some (some c) => some (renCt (thr (θ ++ news)) c) | _ => none) else (if kp = false ∧ h ∈ bs then none else st.h h) := fun h => by
    rw [updH_app _ _ _ _ hθnnd hlen2]
    split
    · rfl
    · cases kp with
      | true =>
        have ht : tailOf (A := A) true bs = [] := rfl
        rw [ht]; simp [updH]
      | false =>
        have ht : tailOf (A := A) false bs = gone bs := rfl
        rw [ht, updH_gone]; simp
  have hin : ∀ h ct, h ∈ θ ++ news → updH st.h (updsOf (thr (θ ++ news)) (θ ++ news) (s.own' g dd) ++ tailOf kp bs) h = some ct → ∃ k c0, (θ ++ news)[k]? = some h ∧ (s.own' g dd)[k]? = some (some c0) ∧ ct = renCt (thr (θ ++ news)) c0 ∧ ρ2 h = ρ' k := fun h ct hm hh => by
    rw [hst', if_pos hm] at hh
    split at hh
    · rename_i c0 hc0
      cases hh
      have hi : (θ ++ news)[(θ ++ news).idxOf h]? = some h := by
        have hlt := List.idxOf_lt_length_of_mem hm
        rw [List.getElem?_eq_getElem hlt, List.getElem_idxOf hlt]
      refine ⟨_, c0, hi, hc0, rfl, ?_⟩
      have := hagree ((θ ++ news).idxOf h) (by
        have hlt := List.idxOf_lt_length_of_mem hm
        rw [hlen2, hlen'] at hlt
        exact (Nat.blt_eq (x := (θ ++ news).idxOf h) (y := (s.own g).length + s.nnew)) ▸ hlt)
      rwa [thr_get hi] at this
    · cases hh
  have hout : ∀ h ct, h ∉ θ ++ news → updH st.h (updsOf (thr (θ ++ news)) (θ ++ news) (s.own' g dd) ++ tailOf kp bs) h = some ct → st.h h = some ct ∧ ¬ (kp = false ∧ h ∈ bs) ∧ ρ2 h = ρ h := fun h ct hm hh => by
    rw [hst', if_neg hm] at hh
    split at hh
    · cases hh
    · rename_i hk; exact ⟨hh, hk, hρ2 h (hI.used h ct hh).1⟩
  have hblk' : ∀ b h ct base, h ∈ θ ++ news → updH st.h (updsOf (thr (θ ++ news)) (θ ++ news) (s.own' g dd) ++ tailOf kp bs) h = some ct → ρ2 h = some (b, base) → Blk (s.own' g dd) ρ' b := fun b h ct base hm hh hr => by
    obtain ⟨k, c0, _, h2, _, h4⟩ := hin h ct hm hh
    exact ⟨k, c0, base, h2, h4 ▸ hr⟩
  have hO2 : ∀ b, (X b ∨ OwnB (updH st.h (updsOf (thr (θ ++ news)) (θ ++ news) (s.own' g dd) ++ tailOf kp bs)) ρ2 b) → (X b ∨ OwnB st.h ρ b) ∨ w.heap.size ≤ b := fun b hb => by
    rcases hb with hb | ⟨h, ct, base, hh, hr⟩
    · exact .inl (.inl hb)
    · by_cases hm : h ∈ θ ++ news
      · rcases (hnewb b (hblk' b h ct base hm hh hr)).1 with h1 | h1
        · obtain ⟨h', ct', base', _, hh', hr'⟩ := (hblk b).1 h1
          exact .inl (.inr ⟨h', ct', base', hh', hr'⟩)
        · exact .inr h1
      · obtain ⟨h1, _, h3⟩ := hout h ct hm hh
        exact .inl (.inr ⟨h, ct, base, h1, h3 ▸ hr⟩)
  -- the result's frozen memory, where it has any
  have hO3 : (kp = false ∨ bs = []) → ∀ b, (X b ∨ OwnB (updH st.h (updsOf (thr (θ ++ news)) (θ ++ news) (s.own' g dd) ++ tailOf kp bs)) ρ2 b) → X' b ∨ Blk (s.own' g dd) ρ' b := fun hk b hb => by
    rcases hb with hb | ⟨h, ct, base, hh, hr⟩
    · exact .inl (.inl hb)
    · by_cases hm : h ∈ θ ++ news
      · exact .inr (hblk' b h ct base hm hh hr)
      · obtain ⟨h1, h2, h3⟩ := hout h ct hm hh
        refine .inl (.inr ⟨h, ct, base, fun hx => hm (List.mem_append.2 (.inl hx)), fun hx => ?_, h1, h3 ▸ hr⟩)
        rcases hk with hk | hk
        · exact h2 ⟨hk, hx⟩
        · rw [hk] at hx; cases hx
  have carry : ∀ {sv : SV A} {v : Value}, Den E.reg ρ' (fun b => X' b ∨ Blk (s.own' g dd) ρ' b) w' sv v → ((kp = true ∧ bs ≠ []) → flatS fl sv = true) →
      Den E.reg ρ' (fun b => X b ∨ OwnB (updH st.h (updsOf (thr (θ ++ news)) (θ ++ news) (s.own' g dd) ++ tailOf kp bs)) ρ2 b) w' sv v := fun {sv v} hden hflat => by
    by_cases hk : kp = false ∨ bs = []
    · exact hden.mono ⟨fun b _ _ _ hn hb => ⟨fun h => hn (hO3 hk b h), hb⟩, fun _ c _ fz h => ⟨c, fz, h, rfl⟩, fun _ _ h => h⟩
    · refine hden.flat hfl (hflat ⟨?_, fun e => hk (.inr e)⟩)
      cases kp with
      | true => rfl
      | false => exact absurd (.inl rfl) hk
  have hflatres : (kp = true ∧ bs ≠ []) → flatRes fl s g := fun ⟨h1, h2⟩ => by
    subst h1
    exact hkp.resolve_left h2
  have hnames : ∀ k, Nat.blt k ((s.own g).length + s.nnew) = true → updU st.u news (thr (θ ++ news) k) = true := fun k hk => by
    have hk : k < (s.own g).length + s.nnew := (Nat.blt_eq (x := k) (y := (s.own g).length + s.nnew)) ▸ hk
    have hkk : (θ ++ news)[k]? = some (θ ++ news)[k] := List.getElem?_eq_getElem (by rw [List.length_append]; omega)
    rw [thr_get hkk]
    rcases List.mem_append.1 (List.getElem_mem (l := θ ++ news) (by rw [List.length_append]; omega) : (θ ++ news)[k] ∈ θ ++ news) with hm | hm
    · obtain ⟨ct, hct⟩ := hθlive _ hm
      exact updU_old (hI.used _ ct hct).1
    · exact updU_new hm
  refine ⟨v, _, _, ρ2, rfl, hK, fun dst hd => hI.step hd hρ2 ?_ ?_ (fun h ct hh => ?_) (fun h h' ct ct' b base base' hh hh' hr hr' => ?_) ?_ (men_ren hnames _ hmres)⟩
  · -- the world
    refine ⟨hrel.os.trans hI.rel.os, hrel.tape.trans hI.rel.tape, hrel.output.trans hI.rel.output, Nat.le_trans hI.rel.size hrel.size, fun b hb hnE => ?_, fun b c F fz hb => ?_⟩
    · rw [← hI.rel.block b hb hnE]
      refine hrel.block b (Nat.lt_of_lt_of_le hb hI.rel.size) fun hB => ?_
      obtain ⟨h, ct, base, _, hh, hr⟩ := (hblk b).1 hB
      rcases (hI.own h ct b base hh hr).1 with h1 | h1
      · exact hnE h1
      · omega
    · obtain ⟨c1, f1, h1, h2⟩ := hI.rel.shape b c F fz hb
      obtain ⟨c2, f2, h3, h4⟩ := hrel.shape b c1 F f1 h1
      exact ⟨c2, f2, h3, h4.trans h2⟩
  · -- frozen memory
    refine ⟨fun b c F fz hno hb => ⟨fun hx => ?_, ?_⟩, fun b c F fz hb => hrel.shape b c F fz hb, fun b ds hb => (hrel.block b (lt_of_heap hb) fun hB => ?_).trans hb⟩
    · rcases hO2 b hx with h1 | h1
      · exact hno h1
      · have := lt_of_heap hb; omega
    · rw [hrel.block b (lt_of_heap hb) fun hB => ?_]; exact hb
      obtain ⟨h, ct, base, _, hh, hr⟩ := (hblk b).1 hB
      exact hno (.inr ⟨h, ct, base, hh, hr⟩)
    · obtain ⟨h, ct, base, _, hh, hr⟩ := (hblk b).1 hB
      have hd0 := hI.hs h ct hh
      rw [hr] at hd0
      rcases hd0 with ⟨_, _, _, _, _, _, hm, _⟩ | ⟨_, c, F, fz, hc, _⟩
      · rw [hb] at hm; cases hm
      · rw [hb] at hc; cases hc
  · -- the blocks
    by_cases hm : h ∈ θ ++ news
    · obtain ⟨k, c0, h1, h2, rfl, h4⟩ := hin h ct hm hh
      refine .inr ⟨?_, fun b base hr => ?_, ?_, menCt_ren hnames c0 (hmct k c0 h2)⟩
      · have hd0 := hhs'.den k c0 h2
        rw [h4]
        have hd1 : DenCt E.reg ρ' (fun b => X b ∨ OwnB (updH st.h (updsOf (thr (θ ++ news)) (θ ++ news) (s.own' g dd) ++ tailOf kp bs)) ρ2 b) w' c0 (ρ' k) := by
          cases hrk : ρ' k with
          | none => rw [hrk] at hd0; exact hd0
          | some p =>
            obtain ⟨b, base⟩ := p
            rw [hrk] at hd0
            rcases hd0 with hd0 | ⟨hnm, c, F, fz, g1, g2, g3, g4⟩
            · exact .inl hd0
            exact .inr ⟨hnm, c, F, fz, g1, g2, g3, fun j sv u hs hu => carry (g4 j sv u hs hu) fun hk => flatCt_get hfl ((hflatres hk dd).2 k c0 h2) j sv hs⟩
        exact (hd1.rho (hmct k c0 h2) hagree).ren
      · obtain ⟨g1, g2⟩ := hnewb b (hblk' b h _ base hm hh hr)
        refine ⟨?_, fun hx => g2 (.inl hx)⟩
        rcases g1 with g1 | g1
        · obtain ⟨h', ct', base', _, hh', hr'⟩ := (hblk b).1 g1
          exact (hI.own h' ct' b base' hh' hr').1
        · exact .inr (Nat.le_trans hI.rel.size g1)
      · rcases List.mem_append.1 hm with hm | hm
        · obtain ⟨ct', hct⟩ := hθlive _ hm
          exact updU_old (hI.used _ ct' hct).1
        · exact updU_new hm
    · obtain ⟨h1, h2, h3⟩ := hout h ct hm hh
      refine .inl ⟨h1, fun b base hr => hrel.block b (hlt h ct b base h1 hr) fun hB => ?_⟩
      obtain ⟨h', ct', base', hm', hh', hr'⟩ := (hblk b).1 hB
      exact hm (List.mem_append.2 (.inl (hI.inj h h' ct ct' b base base' h1 hh' hr hr' ▸ hm')))
  · -- no two names for one block
    have cross : ∀ h h' ct ct' b base base', h ∈ θ ++ news → h' ∉ θ ++ news → updH st.h (updsOf (thr (θ ++ news)) (θ ++ news) (s.own' g dd) ++ tailOf kp bs) h = some ct →
        updH st.h (updsOf (thr (θ ++ news)) (θ ++ news) (s.own' g dd) ++ tailOf kp bs) h' = some ct' → ρ2 h = some (b, base) → ρ2 h' = some (b, base') → False := fun h h' ct ct' b base base' hm hm' hh hh' hr hr' => by
      obtain ⟨h1, h2, h3⟩ := hout h' ct' hm' hh'
      rw [h3] at hr'
      rcases (hnewb b (hblk' b h ct base hm hh hr)).1 with g1 | g1
      · obtain ⟨h2', ct2, base2, hm2, hh2, hr2⟩ := (hblk b).1 g1
        exact hm' (List.mem_append.2 (.inl (hI.inj h' h2' ct' ct2 b base' base2 h1 hh2 hr' hr2 ▸ hm2)))
      · have := hlt h' ct' b base' h1 hr'; omega
    by_cases hm : h ∈ θ ++ news <;> by_cases hm' : h' ∈ θ ++ news
    · obtain ⟨k, c0, h1, h2, _, h4⟩ := hin h ct hm hh
      obtain ⟨k', c0', h1', h2', _, h4'⟩ := hin h' ct' hm' hh'
      rw [h4] at hr
      rw [h4'] at hr'
      have := hhs'.inj k k' c0 c0' b base base' h2 h2' hr hr'
      subst this
      rw [h1] at h1'; cases h1'; rfl
    · exact (cross h h' ct ct' b base base' hm hm' hh hh' hr hr').elim
    · exact (cross h' h ct' ct b base' base hm' hm hh' hh hr' hr).elim
    · obtain ⟨h1, _, h3⟩ := hout h ct hm hh
      obtain ⟨h1', _, h3'⟩ := hout h' ct' hm' hh'
      exact hI.inj h h' ct ct' b base base' h1 h1' (h3 ▸ hr) (h3' ▸ hr')
  · -- the result
    exact ((carry hres fun hk => (hflatres hk dd).1).rho hmres hagree).ren

theorem wp_call {ro : Option Nat} {m : Nat} (hfl : FlOk E.reg fl) (hI : SInv E.reg n X E0 ρ0 w0 st ρ a w) {o : Oper} (hd : okDst n o.dst = true) {fo : Operand} {args : List Operand} {ats : Array TypeId} (ho : o.op = .call ⟨.value fo, ⟨args⟩, ats⟩)
    {fv : SV A} (hfo : st.ev fo = some fv) {vs : List (SV A)} (hvs : evs st.ev args = some vs) {f : FuncId} {A1 B1 : List (SV A)} (ht : target fv = some (f, A1, B1)) {s : Spec A} (hm : Meets P E.reg f s) {g : s.γ} {θ : List Nat} {kp : Bool} {d : Nat}
    {K : SV A → List (Nat × Option (Ct A)) → Prop} {next : Act → World → Prop} {Q : Exit → Act → World → Prop}
    (hf : fresh st.u (callEff E.reg fl st d (A1 ++ vs ++ B1) s g θ kp).new = true) (hr : (callEff E.reg fl st d (A1 ++ vs ++ B1) s g θ kp).b.run K)
    (hn : ∀ v hs ρ' a' w', K v hs → SInv E.reg n X E0 ρ0 w0 (st.upd o.dst v hs (callEff E.reg fl st d (A1 ++ vs ++ B1) s g θ kp).new) ρ' a' w' → next a' w') : o.wpIn (FR ro) m P a w next Q := by
  obtain ⟨e1, e2, e3⟩ := evs_spec hI args vs hvs
  obtain ⟨u1, u2, hdef, hD1, hD2, hM1, hM2⟩ := target_run hI hfo ht (args.map a.eval).toArray
  obtain ⟨⟨fn, hfn1, hfn2, hfn3⟩, hmeets⟩ := hm
  -- what the operation's text comes to
  have hexec : (execOp a.eval o).run P w = .ok (.enter f (u1 ++ (args.map a.eval).toArray ++ u2)) w := by
    have hd2 : resolve a.eval ⟨.value fo, ⟨args⟩, ats⟩ o.type = pure { target := .fn (.func f) u2, args := u1 ++ (args.map a.eval).toArray } := by
      simp only [resolve, List.map_toArray]; exact hdef
    simp only [execOp, ho, hd2, pure_bind, invoke, callFunc]
    have q2 : ¬ fn.name = "runtime.NumGoroutine" := by simpa using hfn2
    have q3 : ¬ fn.body = none := fun h => by rw [h] at hfn3; cases hfn3
    simp [hfn1, q2, q3]
  -- the arguments
  have hargs : DenL E.reg ρ (fun b => X b ∨ OwnB st.h ρ b) w (A1 ++ vs ++ B1) (u1 ++ (args.map a.eval).toArray ++ u2).toList := by
    have hv : DenL E.reg ρ (fun b => X b ∨ OwnB st.h ρ b) w vs (args.map a.eval) := ⟨by simp [e1], e2⟩
    have := (hD1.append hv).append hD2
    simpa using this
  obtain ⟨hpre, X', ρq, h1, h2, h3, h4, _, h5⟩ := call_core hfl hI hargs hf hr
  refine ⟨fun _ _ => trivial, ?_⟩
  rw [Oper.semAt_eq _ _ _ (fun c e => by rw [ho] at e; cases e), hexec]
  refine ⟨FR_depth, CallsIn.mono (FR_calls (hmeets g hpre X' ρq w _ h1 h2 h3 h4)) fun e w' hpost => ?_⟩
  obtain ⟨v, sv, hs, ρ', rfl, hK, hi⟩ := h5 e w' hpost
  exact hn _ _ _ _ _ hK (hi o.dst hd)

/-- An iterator's call of its yield. -/
theorem wp_yield {ro : Option Nat} {m : Nat} (hfl : FlOk E.reg fl) (hI : SInv E.reg n X E0 ρ0 w0 st ρ a w) (hY : ∀ w ρ, WRel E0 w0 w → (∀ h, h < E.yn → ρ h = ρ0 h) → E.Y w ρ) (hyn : E.yn ≤ 1000) {o : Oper} (hd : okDst n o.dst = true) {fo : Operand} {args : List Operand} {ats : Array TypeId} (ho : o.op = .call ⟨.value fo, ⟨args⟩, ats⟩)
    {fv : SV A} (hfo : st.ev fo = some fv) {vs : List (SV A)} (hvs : evs st.ev args = some vs) {l : Nat} (ht : yieldOf fv = some l) {s : Spec A} (hm : MeetsY P E.reg E.Y l s) {g : s.γ} (hlen : (s.own g).length = E.yn) {d : Nat}
    {K : SV A → List (Nat × Option (Ct A)) → Prop} {next : Act → World → Prop} {Q : Exit → Act → World → Prop}
    (hf : fresh st.u (callEff E.reg fl st d vs s g (ids E.yn) false).new = true) (hr : (callEff E.reg fl st d vs s g (ids E.yn) false).b.run K)
    (hn : ∀ v hs ρ' a' w', K v hs → SInv E.reg n X E0 ρ0 w0 (st.upd o.dst v hs (callEff E.reg fl st d vs s g (ids E.yn) false).new) ρ' a' w' → next a' w') : o.wpIn (FR ro) m P a w next Q := by
  obtain ⟨e1, e2, e3⟩ := evs_spec hI args vs hvs
  have hfv : fv = .val (.func (.yield l) #[] #[]) := by
    unfold yieldOf at ht
    split at ht
    · cases ht; rfl
    · cases ht
  subst hfv
  have hev := val_inv (hI.ev hfo).1
  have hargs : DenL E.reg ρ (fun b => X b ∨ OwnB st.h ρ b) w vs (args.map a.eval).toArray.toList := ⟨by simp [e1], fun j s v hs hv => e2 j s v hs (by simpa using hv)⟩
  obtain ⟨hpre, X', ρq, h1, h2, h3, h4, ⟨_, h6, _, _⟩, h5⟩ := call_core hfl hI hargs hf hr
  obtain ⟨fn, tmps, assign, body, hy, hround⟩ := hm g hpre X' ρq w _ (hY w ρq hI.rel fun h hh => by
    have := (h6 h h (ids_get _ _ hh)).1
    rw [this]
    exact (hI.keep h (by omega)).2) h1 h2 h3 h4 (m - 1)
  refine ⟨fun _ _ => trivial, ?_⟩
  have hexec : (execOp a.eval o).run P w = .ok (.round l fn tmps assign body) w := by
    have hd2 : resolve a.eval ⟨.value fo, ⟨args⟩, ats⟩ o.type = pure { target := .fn (.yield l) #[], args := (args.map a.eval).toArray } := by
      simp only [resolve, List.map_toArray, hev, Deferred.ofValue, Array.empty_append]
    simp only [execOp, ho, hd2, pure_bind, invoke]
    simpa using hy
  rw [Oper.semAt_eq _ _ _ (fun c e => by rw [ho] at e; cases e), hexec]
  refine ⟨FR_depth, RoundIn.mono (show RoundIn (FR ro) (m - 1) P l fn tmps assign body w _ from hround) fun e w' hpost => ?_⟩
  obtain ⟨v, sv, hs, ρ', rfl, hK, hi⟩ := h5 e w' hpost
  exact hn _ _ _ _ _ hK (hi o.dst hd)
end
end Go.Sx
