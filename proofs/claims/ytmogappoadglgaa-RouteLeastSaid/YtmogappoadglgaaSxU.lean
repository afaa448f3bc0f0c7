/-
  Own tool 'Sx', part U: a function's text and its specification.
-/
import Derived.Test.YtmogappoadglgaaSxT
namespace Go.Sx
open Go
variable {A : Nat → Type}
section
variable {P : Program} {E : Env A} {fl : Nat → Bool} {X E0 : Nat → Prop} {ρ0 : Rho} {w0 : World} {st : St A} {ρ : Rho} {a : Act} {w : World}

theorem argT_get : ∀ (l : List (SV A)) (i s : Nat) sv, assoc (argT i l) s = some sv → i ≤ s ∧ l[s - i]? = some sv
  | [], _, _, _, h => by cases h
  | v :: l, i, s, sv, h => by
    simp only [argT, assoc] at h
    split at h
    · rename_i hb
      have := beq_true hb
      subst this
      cases h
      exact ⟨Nat.le_refl _, by simp⟩
    · obtain ⟨h1, h2⟩ := argT_get l (i + 1) s sv h
      refine ⟨by omega, ?_⟩
      rw [show s - i = (s - (i + 1)) + 1 by omega]
      simpa using h2
theorem blt_iff {a b : Nat} : Nat.blt a b = true ↔ a < b := by rw [Nat.blt_eq]
theorem keptAt_spec {R : Reg A} {f : Nat → Nat} : ∀ {hs : List Nat} {cs : List (Option (Ct A))}, keptAt R st f hs cs → hs.length = cs.length ∧ ∀ (j : Nat) c, cs[j]? = some (some c) → ∃ h, hs[j]? = some h ∧ ctEq R st f h c ∧ h ∈ someOf hs cs
  | [], [], _ => ⟨rfl, fun j c hc => by simp at hc⟩
  | [], _ :: _, h => h.elim
  | _ :: _, [], h => h.elim
  | h0 :: hs, c0 :: cs, h => by
    obtain ⟨h1, h2⟩ := keptAt_spec h.2
    refine ⟨by simp [h1], fun j c hc => ?_⟩
    cases j with
    | zero =>
      simp at hc; subst hc
      exact ⟨h0, rfl, h.1, by simp [someOf]⟩
    | succ j =>
      obtain ⟨k, e1, e2, e3⟩ := h2 j c (by simpa using hc)
      refine ⟨k, by simpa using e1, e2, ?_⟩
      cases c0 <;> simp [someOf, e3]
theorem menO_get {f : Nat → Bool} : ∀ {l : List (Option (Ct A))}, menO f l = true → ∀ (j : Nat) c, l[j]? = some (some c) → menCt f c = true
  | [], _, j, c, h => by simp at h
  | o :: l, hm, j, c, h => by
    cases o with
    | none =>
      simp only [menO] at hm
      cases j with
      | zero => simp at h
      | succ j => exact menO_get hm j c (by simpa using h)
    | some c0 =>
      simp only [menO] at hm
      split at hm
      · rename_i h0
        cases j with
        | zero => simp at h; subst h; exact h0
        | succ j => exact menO_get hm j c (by simpa using h)
      · cases hm
theorem endOk_spec {a b c d e f : Bool} (h : endOk a b c d e f) : a = true ∧ b = true ∧ c = true ∧ d = true ∧ e = true ∧ f = true := by
  cases a <;> cases b <;> cases c <;> cases d <;> cases e <;> cases f <;> first | exact h.elim | exact ⟨rfl, rfl, rfl, rfl, rfl, rfl⟩

/-- One result, read. -/
def readOf (tmps : Array Value) : ResultVar → Sem Value
  | .tmp t => pure (tmps.getD t undef)
  | .cell a t => do loadVar t (← asAddr (tmps.getD a undef))
theorem resV_run (hE : E.Ok P) (hI : SInv E.reg E.n X E0 ρ0 w0 st ρ a w) {r : ResultVar} {sv : SV A} (h : resV E st r = some sv) :
    ∃ v, (readOf a.tmps r).run P w = .ok v w ∧ Den E.reg ρ (fun b => X b ∨ OwnB st.h ρ b) w sv v := by
  cases r with
  | tmp t => exact ⟨_, rfl, hI.slots t sv h⟩
  | cell t T =>
    simp only [resV] at h
    split at h
    · rename_i hh i sz k hs
      split at h
      · rename_i cs ti hc ht
        obtain ⟨b, base, hv, hr⟩ := ptr_inv (hI.slots t _ hs)
        obtain ⟨c, F, fz, h1, h2, h3, h4, h5, h6⟩ := hI.block hc rfl hr
        obtain ⟨v, g1, g2, g3⟩ := rowVal_run (E := E) (hE.tt T ti ht) h h1 (fun j => c.getD (base + j) undef) h4 h5 h6
        exact ⟨v, by simp only [readOf, hv]; simpa [asAddr] using g1, g2⟩
      · cases h
    · cases h
theorem resA_run (hE : E.Ok P) (hI : SInv E.reg E.n X E0 ρ0 w0 st ρ a w) {r : ResultVar} {p : Prop} {sv : SV A} (h : resA E st r = some (p, sv)) (hp : p) :
    ∃ v, (readOf a.tmps r).run P w = .ok v w ∧ Den E.reg ρ (fun b => X b ∨ OwnB st.h ρ b) w sv v := by
  cases r with
  | tmp t => cases h
  | cell t T =>
    simp only [resA] at h
    split at h
    · rename_i hh sz hs
      split at h
      · rename_i U xs ti hc ht
        split at h
        · rename_i k el hk
          cases h
          obtain ⟨hn1, hn2⟩ := hp
          obtain ⟨b, base, hv, hr⟩ := ptr_inv (hI.slots t _ hs)
          obtain ⟨c, F, fz, h1, h2, h3, h4, h5, h6⟩ := hI.block hc rfl hr
          have htt := hE.tt T ti ht
          have hfl : (Ct.flat E.reg (.arr U xs)).length = ti.size := by rw [hn2, ← hn1]; exact flat_len (E.reg.len U) xs
          have hag : ti.k.isAgg = true := by rw [hk]; rfl
          have hrun := run_loadVar_sx htt h1 (off := base + (0 * sz + 0)) (fun j => c.getD (base + j) undef) (fun j hj => by
            rw [hag] at hj
            simpa using h4 j (by rw [hfl]; simpa using hj))
          rw [hag] at hrun
          refine ⟨_, by simp only [readOf, hv]; simpa [asAddr] using hrun, .aggl U xs _ (.agg _ _ ?_ fun j s v hs hv => ?_)⟩
          · rw [show xs.flatMap (E.reg.enc U) = Ct.flat E.reg (.arr U xs) from rfl, hfl]; simp
          · have hj : j < ti.size := by have := (List.getElem?_eq_some_iff.1 hs).1; rw [← hfl]; exact this
            simp [hj] at hv
            subst hv
            simpa using h5 j s hs
        · cases h
      · cases h
    · cases h
theorem results_eq (fn : Func) (tmps : Array Value) : results fn tmps = (do
    let vs ← fn.results.mapM (readOf tmps)
    pure (if h : vs.size = 1 then vs[0] else .tuple vs)) := by
  unfold results
  congr 1
theorem res_run (hE : E.Ok P) (hI : SInv E.reg E.n X E0 ρ0 w0 st ρ a w) {fn : Func} {K : List (SV A) → Prop} (h : resS E st fn.results.toList K) :
    ∃ svs v, K svs ∧ (results fn a.tmps).run P w = .ok v w ∧ ((∃ x, svs = [x] ∧ Den E.reg ρ (fun b => X b ∨ OwnB st.h ρ b) w x v) ∨ (svs.length ≠ 1 ∧ ∃ vs, v = .tuple vs ∧ DenL E.reg ρ (fun b => X b ∨ OwnB st.h ρ b) w svs vs.toList)) := by
  rw [results_eq]
  unfold resS at h
  split at h
  · rename_i hr
    have hr : fn.results = #[] := by apply Array.ext'; simpa using hr
    exact ⟨[], _, h, by simp [hr], .inr ⟨by simp, #[], rfl, ⟨rfl, fun j s v hs => by simp at hs⟩⟩⟩
  · rename_i t hr
    have hr : fn.results = #[t] := by apply Array.ext'; simpa using hr
    split at h
    · rename_i p v hv
      obtain ⟨x, h1, h2⟩ := resA_run hE hI hv h.1
      exact ⟨[v], x, h.2, by simp [hr, h1], .inl ⟨v, rfl, h2⟩⟩
    split at h
    · rename_i v hv
      obtain ⟨x, h1, h2⟩ := resV_run hE hI hv
      exact ⟨[v], x, h, by simp [hr, h1], .inl ⟨v, rfl, h2⟩⟩
    · exact h.elim
  · rename_i t u hr
    have hr : fn.results = #[t, u] := by apply Array.ext'; simpa using hr
    split at h
    · rename_i v x hv hx
      obtain ⟨x1, a1, a2⟩ := resV_run hE hI hv
      obtain ⟨x2, b1, b2⟩ := resV_run hE hI hx
      refine ⟨[v, x], .tuple #[x1, x2], h, by simp [hr, a1, b1], .inr ⟨by simp, #[_, _], rfl, ⟨rfl, fun j s y hs hy => ?_⟩⟩⟩
      match j with
      | 0 => simp at hs hy; subst hs; subst hy; exact a2
      | 1 => simp at hs hy; subst hs; subst hy; exact b2
      | j + 2 => simp at hs
    · exact h.elim
  · rename_i t u s0 hr
    have hr : fn.results = #[t, u, s0] := by apply Array.ext'; simpa using hr
    split at h
    · rename_i v x y hv hx hy0
      obtain ⟨x1, a1, a2⟩ := resV_run hE hI hv
      obtain ⟨x2, b1, b2⟩ := resV_run hE hI hx
      obtain ⟨x3, c1, c2⟩ := resV_run hE hI hy0
      refine ⟨[v, x, y], .tuple #[x1, x2, x3], h, by simp [hr, a1, b1, c1], .inr ⟨by simp, #[_, _, _], rfl, ⟨rfl, fun j s z hs hy => ?_⟩⟩⟩
      match j with
      | 0 => simp at hs hy; subst hs; subst hy; exact a2
      | 1 => simp at hs hy; subst hs; subst hy; exact b2
      | 2 => simp at hs hy; subst hs; subst hy; exact c2
      | j + 3 => simp at hs
    · exact h.elim
  · exact h.elim

theorem entR_cases {R : Reg A} {f : Nat → Nat} {c p : SV A} (he : EntR R st c (ren f p)) : (∃ cs qs, c = .tup cs ∧ p = .tup qs ∧ EntAL R st cs (renL f qs)) ∨ (EntA R st c (ren f p) ∧ borR c p = bor c p) := by
  cases c <;> cases p <;> first | exact .inl ⟨_, _, rfl, rfl, he⟩ | exact .inr ⟨he, rfl⟩
theorem entR_den (hI : SInv E.reg E.n X E0 ρ0 w0 st ρ a w) {O' : Nat → Prop} {svs : List (SV A)} {p : SV A} {f : Nat → Nat} (hL : Lend E.reg st ρ (fun b => X b ∨ OwnB st.h ρ b) O' (borR (oneOf svs) p)) (he : EntR E.reg st (oneOf svs) (ren f p)) {v : Value}
    (hv : (∃ x, svs = [x] ∧ Den E.reg ρ (fun b => X b ∨ OwnB st.h ρ b) w x v) ∨ (svs.length ≠ 1 ∧ ∃ vs, v = .tuple vs ∧ DenL E.reg ρ (fun b => X b ∨ OwnB st.h ρ b) w svs vs.toList)) : Den E.reg (fun k => ρ (f k)) O' w p v := by
  have hden : Den E.reg ρ (fun b => X b ∨ OwnB st.h ρ b) w (oneOf svs) v := by
    rcases hv with ⟨x, rfl, hx⟩ | ⟨hne, vs, rfl, hx⟩
    · exact hx
    · have : oneOf svs = .tup svs := by
        match svs, hne with
        | [], _ => rfl
        | [_], h => simp at h
        | _ :: _ :: _, _ => rfl
      rw [this]
      exact .tup svs vs (by simpa using hx.1) fun j s v hs hv => hx.2 j s v hs (by rwa [Array.getElem?_toList])
  generalize oneOf svs = c at *
  rcases entR_cases he with ⟨cs, qs, rfl, rfl, he⟩ | ⟨he, hb⟩
  · cases hden with
    | tup _ vs hl hd =>
      have := entAL_den (vs := vs.toList) hI hL he (fun h hh => hh) ⟨by simpa using hl, fun j s v hs hv => hd j s v hs (by rwa [Array.getElem?_toList] at hv)⟩
      exact .tup qs vs (by simpa using this.1) fun j s v hs hv => this.2 j s v hs (by rwa [Array.getElem?_toList])
  · rw [hb] at hL
    exact ent_den hI hL he (fun h hh => hh) hden

/-- The marks are come to, one after the other; behind them the results. -/
theorem leaves_of {m : Nat} {fn : Func} {R : Ending → World → Prop} (hR : ∀ a' w', a'.defers = [] → SInv E.reg E.n X E0 ρ0 w0 st ρ a' w' → ∃ v, (results fn a'.tmps).run P w' = .ok v w' ∧ R (.returned v) w') :
    ∀ (ds : List Deferred) {a : Act} {w : World}, a.defers = ds → SInv E.reg E.n X E0 ρ0 w0 st ρ a w → LeavesInM Fence.wide m P fn a.tmps R ds .returning w
  | [], a, w, hd, hi => hR a w hd hi
  | d :: ds, a, w, hd, hi => by
    have hm := hi.defers
    rw [hd] at hm
    cases hm with
    | cons b _ _ h0 hb hn hrest =>
      refine ⟨by simp, .inl ⟨b, _, rfl, run_takeDeferred hb, ?_⟩⟩
      have odd : Odd (.deferred (some [])) := ⟨fun _ _ _ e => (by cases e), fun _ _ e => (by cases e)⟩
      refine leaves_of hR ds (a := { a with defers := ds }) (w := w.putObj b (.deferred none)) rfl (hi.world rfl ?_ (hi.rel.other rfl rfl rfl (by simp) fun b' o hb' => ?_) (putObj_keep hb odd))
      · have key : ∀ {ds : List Deferred} {w : World}, Marks w0 ds w → (∀ d ∈ ds, d.target ≠ .collected b) → Marks w0 ds (w.putObj b (.deferred none)) := by
          intro ds w h
          induction h with
          | nil => intro _; exact .nil _
          | cons b' ds w h0 hb' hn' _ ih =>
            intro hne
            have e : b' ≠ b := fun e => by subst e; exact hne ⟨.collected b', #[]⟩ (by simp) rfl
            exact .cons b' ds _ h0 (by rw [World.putObj_heap_other e]; exact hb') hn' (ih fun d hd => hne d (by simp [hd]))
        exact key hrest hn
      · by_cases e : b' = b
        · subst e; rw [hb] at hb'; cases hb'; exact .inr ⟨h0, odd⟩
        · exact .inl (by rw [World.putObj_heap_other e]; exact hb')
theorem calls_of_XFun (hP : P.follows .mixedOrders = true) (hE : E.Ok P) (hfl : FlOk E.reg fl) {f : FuncId} {fn : Func} {body : Code} (hf : P.funcs[f]? = some fn) (hb : fn.body = some body) (hn : E.n = fn.ntmps) {s : Spec A}
    (h : XFun P E fl fn body s) {g : s.γ} (hpre : s.pre g) {X : Nat → Prop} {ρ : Rho} {w : World} {vs : Array Value} (hY : YOk E (Blk ((s.own g).map some) ρ) ρ w) (hX1 : ∀ b, X b → b < w.heap.size) (hX2 : ∀ b, X b → ¬ Blk ((s.own g).map some) ρ b)
    (hargs : DenL E.reg ρ (fun b => X b ∨ Blk ((s.own g).map some) ρ b) w (s.args g) vs.toList) (hhs : DenHs E.reg ρ (fun b => X b ∨ Blk ((s.own g).map some) ρ b) w ((s.own g).map some)) : Calls P f vs w (MPost E.reg s g X ρ w) := by
  have hg := h g hpre
  split at hg
  · rename_i hm1 hm2 hl1 hl2
    rw [forceL_eq, forceL_eq] at hg
    have hl1 := ble_true hl1
    have hl2 := ble_true hl2
    have hlen : (s.args g).length = vs.size := by have := hargs.1; simpa using this
    refine (callsIn_wide (n := 0)).1 (callsIn_of_wp_marks hf hb trivial ?_ rfl)
    let E0 : Nat → Prop := Blk ((s.own g).map some) ρ
    let st0 : St A := ⟨assoc (argT 0 (s.args g)), nth (s.own g), fun i => Nat.blt i 1000⟩
    have low : ∀ k, Nat.blt k (s.own g).length = true → Nat.blt k 1000 = true := fun k hk => blt_iff.2 (by have := blt_iff.1 hk; omega)
    have hown : ∀ h ct, st0.h h = some ct → (s.own g)[h]? = some ct := fun h ct hh => by rw [← nth_eq]; exact hh
    have hown' : ∀ h ct, st0.h h = some ct → ((s.own g).map some)[h]? = some (some ct) := fun h ct hh => by rw [List.getElem?_map, hown h ct hh]; rfl
    have hO : ∀ b, OwnB st0.h ρ b → Blk ((s.own g).map some) ρ b := fun b ⟨h, ct, base, h1, h2⟩ => ⟨h, ct, base, hown' h ct h1, h2⟩
    have g0 : Goes (fun b => X b ∨ Blk ((s.own g).map some) ρ b) (fun b => X b ∨ OwnB st0.h ρ b) w w := ⟨fun b _ _ _ hn hb => ⟨fun h => hn (h.imp id (hO b)), hb⟩, fun _ c _ fz h => ⟨c, fz, h, rfl⟩, fun _ _ h => h⟩
    have hI : SInv E.reg E.n X E0 ρ w st0 ρ { tmps := vs ++ Array.replicate (fn.ntmps - vs.size) undef, defers := [] } w := by
      refine ⟨by simp; omega, fun t sv ht => ?_, fun h ct hh => (hhs.den h ct (hown' h ct hh)).mono g0 (fun _ _ _ => rfl), fun h h' ct ct' b base base' h1 h2 => hhs.inj h h' ct ct' b base base' (hown' _ _ h1) (hown' _ _ h2),
        fun h ct b base hh hr => ⟨.inl ⟨h, ct, base, hown' _ _ hh, hr⟩, fun hx => hX2 b hx ⟨h, ct, base, hown' _ _ hh, hr⟩⟩, fun h ct hh => ⟨?_, ?_⟩, fun t sv ht => ?_, fun b hb => ⟨hX1 b hb, hX2 b hb⟩, ⟨rfl, rfl, rfl, Nat.le_refl _, fun _ _ _ => rfl, fun b c F fz h => ⟨c, fz, h, rfl⟩⟩, .nil _, fun h hh => ⟨blt_iff.2 hh, rfl⟩⟩
      · obtain ⟨_, h1⟩ := argT_get _ _ _ _ ht
        rw [Nat.sub_zero] at h1
        have hlt := (List.getElem?_eq_some_iff.1 h1).1
        have hv : vs[t]? = some vs[t] := Array.getElem?_eq_getElem (by omega)
        have := (hargs.2 t sv vs[t] h1 (by rw [Array.getElem?_toList]; exact hv)).mono g0
        rw [Array.getD_eq_getD_getElem?, Array.getElem?_append_left (by omega), hv]
        exact this
      · have := (List.getElem?_eq_some_iff.1 (hown h ct hh)).1
        exact blt_iff.2 (by omega)
      · exact menCt_mono low ct (List.all_eq_true.1 hm2 ct (List.mem_of_getElem? (hown h ct hh)))
      · obtain ⟨_, h1⟩ := argT_get _ _ _ _ ht
        exact men_mono low sv (List.all_eq_true.1 hm1 sv (List.mem_of_getElem? h1))
    refine wpIn_mono (F := FR none) (wp_XC hP body (ro := none) hE hfl hY (fun _ => rfl) hI hg) fun e a1 w1 hq => ?_
    obtain ⟨xe, st', ρe, rfl, hend, hi1⟩ := hq
    have key : resS E st' fn.results.toList (fun vs => ∃ (d : s.δ) (θ : List Nat), s.post g d ∧
      let f := thr (ids (s.own g).length ++ θ)
      EntR E.reg st' (oneOf vs) (ren f (s.res g d)) ∧ keptAt E.reg st' f (ids (s.own g).length ++ θ) (s.own' g d) ∧
      endOk (Nat.beq θ.length s.nnew) (nodup (ids (s.own g).length ++ θ)) (disj (borR (oneOf vs) (s.res g d)) (someOf (ids (s.own g).length ++ θ) (s.own' g d)))
        (men (fun h => Nat.blt h ((s.own g).length + s.nnew)) (s.res g d)) (menO (fun h => Nat.blt h ((s.own g).length + s.nnew)) (s.own' g d)) (men (fun k => st'.u (f k)) (s.res g d))) → bodyPostM Fence.wide 0 P fn (MPost E.reg s g X ρ w) .ret a1 w1 := fun hr => leaves_of (fun a' w' _ hi => by
      obtain ⟨svs, v, ⟨d, θ, hpost, hent, hkept, hchk⟩, hrun, hv⟩ := res_run (P := P) hE hi hr
      obtain ⟨c1, c2, c3, c4, c5, c6⟩ := endOk_spec hchk
      have c1 := beq_true c1
      have c2 := nodup_spec c2
      have c3 := disj_spec c3
      obtain ⟨k1, k2⟩ := keptAt_spec hkept
      have hthr : ∀ j k, (ids (s.own g).length ++ θ)[j]? = some k → thr (ids (s.own g).length ++ θ) j = k := fun j k hk => thr_get hk
      let f := thr (ids (s.own g).length ++ θ)
      let ρ' : Rho := fun k => if st'.u (f k) = true then ρe (f k) else none
      have hρ : ∀ k, st'.u (f k) = true → ρ' k = ρe (f k) := fun k hk => if_pos hk
      have hρn : ∀ k, st'.u (f k) = false → ρ' k = none := fun k hk => if_neg (by rw [hk]; exact Bool.false_ne_true)
      have told : ∀ j c, (s.own' g d)[j]? = some (some c) → ∃ h, (ids (s.own g).length ++ θ)[j]? = some h ∧ f j = h ∧ ctEq E.reg st' f h c ∧ h ∈ someOf (ids (s.own g).length ++ θ) (s.own' g d) ∧ ((∃ c0, st'.h h = some c0 ∧ st'.u h = true) ∨ ρ' j = none) := fun j c hj => by
        obtain ⟨h, e1, e2, e3⟩ := k2 j c hj
        have ef := hthr j h e1
        refine ⟨h, e1, ef, e2, e3, ?_⟩
        unfold ctEq at e2
        split at e2
        · rename_i cs hs; exact .inl ⟨_, hs, (hi.used _ _ hs).1⟩
        · rename_i T xs hs; exact .inl ⟨_, hs, (hi.used _ _ hs).1⟩
        · rename_i K V es hs; exact .inl ⟨_, hs, (hi.used _ _ hs).1⟩
        · exact .inr (hρn j (by show st'.u (f j) = false; rw [show f j = h from ef]; exact e2.1))
      have blk : ∀ b, Blk (s.own' g d) ρ' b → ∃ h ct base, st'.h h = some ct ∧ ρe h = some (b, base) ∧ h ∈ someOf (ids (s.own g).length ++ θ) (s.own' g d) := fun b ⟨j, c, base, h1, h2⟩ => by
        obtain ⟨h, e1, ef, e2, e3, ⟨c0, e4, e5⟩ | e4⟩ := told j c h1
        · rw [hρ j (by rw [ef]; exact e5), ef] at h2
          exact ⟨h, c0, base, e4, h2, e3⟩
        · rw [e4] at h2; cases h2
      have hsub : ∀ b, (X b ∨ Blk (s.own' g d) ρ' b) → X b ∨ OwnB st'.h ρe b := fun b hb => hb.imp id fun hb => by
        obtain ⟨h, ct, base, h1, h2, _⟩ := blk b hb
        exact ⟨h, ct, base, h1, h2⟩
      have g1 : Goes (fun b => X b ∨ OwnB st'.h ρe b) (fun b => X b ∨ Blk (s.own' g d) ρ' b) w' w' := ⟨fun b _ _ _ hn hb => ⟨fun h => hn (hsub b h), hb⟩, fun _ c _ fz h => ⟨c, fz, h, rfl⟩, fun _ _ h => h⟩
      have hL : Lend E.reg st' ρe (fun b => X b ∨ OwnB st'.h ρe b) (fun b => X b ∨ Blk (s.own' g d) ρ' b) (borR (oneOf svs) (s.res g d)) := ⟨hsub, fun h ct b base hb hh hr hx => by
        rcases hx with hx | hx
        · exact (hi.own h ct b base hh hr).2 hx
        · obtain ⟨h', ct', base', h1, h2, h3⟩ := blk b hx
          have := hi.inj h h' ct ct' b base base' hh h1 hr h2
          subst this
          exact c3 h hb h3⟩
      refine ⟨v, hrun, d, ρ', v, hpost, rfl, fun h hh => ?_, (entR_den hi hL hent hv).rho (f := fun k => st'.u (f k)) c6 hρ, ⟨fun j c hj => ?_, fun j j' c c' b base base' hj hj' hr hr' => ?_⟩, fun b hb => ?_, ?_, c4, fun j c hj => menO_get c5 j c hj, hi.rel⟩
      · have ef : f h = h := hthr h h (by rw [List.getElem?_append_left (by rw [ids_len]; exact hh)]; exact ids_get _ _ hh)
        have hk := hi.keep h (by omega)
        rw [hρ h (by rw [ef]; exact hk.1), ef]
        exact hk.2
      · obtain ⟨h, e1, ef, e2, e3, _⟩ := told j c hj
        rcases ct_den hi hρ hρn g1 e2 with ⟨c0, q1, q2, q3⟩ | ⟨_, q1, q2⟩
        · rw [hρ j (by rw [ef]; exact q2), ef]; exact q3
        · rw [hρn j (by rw [ef]; exact q1)]; exact q2
      · obtain ⟨h, e1, ef, e2, e3, ⟨c0, e4, e5⟩ | e4⟩ := told j c hj
        · obtain ⟨h', e1', ef', e2', e3', ⟨c0', e4', e5'⟩ | e4'⟩ := told j' c' hj'
          · rw [hρ j (by rw [ef]; exact e5), ef] at hr
            rw [hρ j' (by rw [ef']; exact e5'), ef'] at hr'
            have := hi.inj h h' _ _ b base base' e4 e4' hr hr'
            subst this
            obtain ⟨l1, q1⟩ := List.getElem?_eq_some_iff.1 e1
            obtain ⟨l2, q2⟩ := List.getElem?_eq_some_iff.1 e1'
            exact (List.getElem_inj c2).1 (q1.trans q2.symm)
          · rw [e4'] at hr'; cases hr'
        · rw [e4] at hr; cases hr
      · obtain ⟨h, ct, base, h1, h2, _⟩ := blk b hb
        exact hi.own h ct b base h1 h2
      · rw [← k1, List.length_append, ids_len, c1]) _ rfl hi1
    cases xe with
    | norm => exact key hend
    | ret => exact key hend
    | exit i => exact hend.elim
  · exact hg.elim
theorem meets_of_XFun (hP : P.follows .mixedOrders = true) (hE : E.Ok P) (hfl : FlOk E.reg fl) {f : FuncId} {fn : Func} {body : Code} (hf : P.funcs[f]? = some fn) (hname : (fn.name == "runtime.NumGoroutine") = false) (hb : fn.body = some body) (hn : E.n = fn.ntmps) (hyn : E.yn ≤ 1000) (hY : ∀ w ρ, E.Y w ρ) {s : Spec A}
    (h : XFun P E fl fn body s) : Meets P E.reg f s :=
  ⟨⟨fn, hf, hname, by rw [hb]; rfl⟩, fun _ hpre _ _ _ _ hX1 hX2 hargs hhs => calls_of_XFun hP hE hfl hf hb hn h hpre ⟨hyn, fun _ _ _ _ => hY _ _⟩ hX1 hX2 hargs hhs⟩
/-- An iterator. -/
theorem meetsIt_of_XFun (hP : P.follows .mixedOrders = true) (hE : E.Ok P) (hfl : FlOk E.reg fl) {f : FuncId} {fn : Func} {body : Code} (hf : P.funcs[f]? = some fn) (hname : (fn.name == "runtime.NumGoroutine") = false) (hb : fn.body = some body) (hn : E.n = fn.ntmps) {k : Nat} (hk : k ≤ 1000) {sy : Spec A} {sp : Nat → Spec A}
    (h : ∀ (l : Nat) (Y : World → Rho → Prop), MeetsY P E.reg Y l sy → XFun P { E with yn := k, Y := Y } fl fn body (sp l)) : MeetsIt P E.reg k sy f sp :=
  ⟨⟨fn, hf, hname, by rw [hb]; rfl⟩, fun l _ hpre _ _ _ _ hy hX1 hX2 hargs hhs => calls_of_XFun (E := { E with yn := k, Y := _ }) hP ⟨hE.tt, hE.keyed, hE.keys⟩ hfl hf hb hn (h l _ hy) hpre ⟨hk, fun _ _ hw hρ => ⟨hw, hρ⟩⟩ hX1 hX2 hargs hhs⟩
end
end Go.Sx
