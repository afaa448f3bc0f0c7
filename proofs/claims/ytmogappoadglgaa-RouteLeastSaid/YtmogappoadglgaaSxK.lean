/-
  Own tool 'Sx', part K: an operation that calls no Go function, in a region.
-/
import Derived.Test.YtmogappoadglgaaSxO
namespace Go.Sx
open Go
variable {A : Nat → Type}
section
variable {P : Program} {E : Env A} {n : Nat} {X E0 : Nat → Prop} {ρ0 : Rho} {w0 : World} {st : St A} {ρ : Rho} {a : Act} {w : World}

/-- What an operation's text comes to: a value, or nothing. -/
def Does (P : Program) (a : Act) (o : Oper) (s : Sem Value) : Prop :=
  ∀ w v w', s.run P w = .ok v w' → (execOp a.eval o).run P w = .ok (.value v) w' ∨ ((execOp a.eval o).run P w = .ok .skip w' ∧ v = undef)

theorem Does.value {o : Oper} {s : Sem Value} (h : execOp a.eval o = (do pure (.value (← s)))) : Does P a o s := fun w v w' hr => .inl (by rw [h]; simp [hr])
theorem evs_spec (hI : SInv E.reg n X E0 ρ0 w0 st ρ a w) : ∀ (l : List Operand) vs, evs st.ev l = some vs → vs.length = l.length ∧ (∀ (j : Nat) s v, vs[j]? = some s → (l.map a.eval)[j]? = some v → Den E.reg ρ (fun b => X b ∨ OwnB st.h ρ b) w s v) ∧ (∀ (j : Nat) s, vs[j]? = some s → Sx.men st.u s = true)
  | [], vs, h => by simp [evs] at h; subst h; simp
  | x :: l, vs, h => by
    simp only [evs] at h
    split at h
    · rename_i v us h1 h2
      cases h
      obtain ⟨e1, e2, e3⟩ := evs_spec hI l us h2
      refine ⟨by simp [e1], fun j s u hs hu => ?_, fun j s hs => ?_⟩
      · cases j with
        | zero => simp at hs hu; subst hs; subst hu; exact (hI.ev h1).1
        | succ j => exact e2 j s u (by simpa using hs) (by simpa using hu)
      · cases j with
        | zero => simp at hs; subst hs; exact (hI.ev h1).2
        | succ j => exact e3 j s (by simpa using hs)
    · cases h

theorem snd_xop (hE : E.Ok P) (hI : SInv E.reg n X E0 ρ0 w0 st ρ a w) {o : Oper} (hd : okDst n o.dst = true) (nm : Nat) : ∃ s, Does P a o s ∧ Snd P E.reg n X E0 ρ0 w0 st a w o.dst (xop E nm o.dst o.op st.ev) s := by
  obtain ⟨dst, op, ty, pos, after, guard⟩ := o
  dsimp only at hd ⊢
  have nothing : ∀ q : QT A, q = .no → ∃ s, Does P a ⟨dst, op, ty, pos, after, guard⟩ s ∧ Snd P E.reg n X E0 ρ0 w0 st a w dst q s := fun q hq => ⟨.halt (.stuck ""), (fun _ _ _ h => by cases h), by subst hq; exact .no⟩
  cases op with
  | move x =>
    dsimp only [xop]
    split
    · rename_i v hv
      obtain ⟨h1, h2⟩ := hI.ev hv
      exact ⟨pure (a.eval x), .value rfl, .pure hI hd rfl h1 h2⟩
    · exact nothing _ rfl
  | assign x =>
    dsimp only [xop]
    split
    · rename_i v hv
      obtain ⟨h1, h2⟩ := hI.ev hv
      exact ⟨pure (a.eval x), .value rfl, .pure hI hd rfl h1 h2⟩
    · exact nothing _ rfl
  | pick c x y =>
    dsimp only [xop]
    split
    · rename_i sc sx sy hc hx hy
      unfold xpick
      split
      · rename_i b
        have hcv := val_inv (hI.ev hc).1
        have hrun : Does P a ⟨dst, .pick c x y, ty, pos, after, guard⟩ (pure (if b then a.eval x else a.eval y)) := .value (by simp [execOp, hcv, asBool])
        cases b with
        | true => exact ⟨_, hrun, .pure hI hd rfl (hI.ev hx).1 (hI.ev hx).2⟩
        | false => exact ⟨_, hrun, .pure hI hd rfl (hI.ev hy).1 (hI.ev hy).2⟩
      · exact nothing _ rfl
    · exact nothing _ rfl
  | alloc T => exact ⟨_, .value rfl, snd_alloc hE hI hd⟩
  | box T x =>
    dsimp only [xop]
    split
    · rename_i v hv
      obtain ⟨h1, h2⟩ := hI.ev hv
      exact ⟨_, .value rfl, snd_box hI hd h1 h2⟩
    · exact nothing _ rfl
  | build T ps =>
    obtain ⟨ps⟩ := ps
    dsimp only [xop]
    split
    · rename_i v hv
      exact ⟨_, .value (by simp only [execOp, List.map_toArray]), snd_build hE hI hd hv⟩
    · exact nothing _ rfl
  | buildSlice T len ps =>
    obtain ⟨ps⟩ := ps
    dsimp only [xop]
    split
    · rename_i v hv
      exact ⟨_, .value (by simp only [execOp, List.map_toArray]), snd_buildSlice hE hI hd hv⟩
    · exact nothing _ rfl
  | load T x =>
    dsimp only [xop]
    split
    · rename_i v hv
      obtain ⟨h1, h2⟩ := hI.ev hv
      exact ⟨_, .value rfl, snd_load hE hI hd h1 h2⟩
    · exact nothing _ rfl
  | store T x y =>
    dsimp only [xop]
    split
    · rename_i v u hv hu
      obtain ⟨h1, h2⟩ := hI.ev hv
      obtain ⟨h3, h4⟩ := hI.ev hu
      refine ⟨_, fun w v w' hr => .inr ?_, snd_store hE hI hd h1 h3 h4⟩
      simp only [execOp, Sem.run_bind] at hr ⊢
      cases hq : (Instr.storeAt T (a.eval x) (a.eval y)).run P w with
      | halt h w1 => rw [hq] at hr; cases hr
      | ok u w1 => rw [hq] at hr; simp at hr; obtain ⟨rfl, rfl⟩ := hr; simp
    · exact nothing _ rfl
  | nilCheck x =>
    dsimp only [xop]
    split
    · rename_i v hv
      obtain ⟨h1, h2⟩ := hI.ev hv
      split
      · rename_i hn
        have hb : ∃ b, a.eval x = .pointer (some b) := by
          generalize a.eval x = u at h1
          cases h1 <;> first | exact ⟨_, rfl⟩ | cases hn
        obtain ⟨b, hb⟩ := hb
        refine ⟨pure (a.eval x), .value ?_, .pure hI hd rfl h1 h2⟩
        simp only [execOp, hb]; rfl
      · exact nothing _ rfl
    · exact nothing _ rfl
  | binOp op T x y yT =>
    dsimp only [xop]
    split
    · rename_i v u hv hu
      obtain ⟨h1, h2⟩ := hI.ev hv
      obtain ⟨h3, h4⟩ := hI.ev hu
      exact ⟨_, .value rfl, snd_bin hE hI hd h1 h3⟩
    · exact nothing _ rfl
  | unOp op T x =>
    dsimp only [xop]
    split
    · rename_i v hv
      obtain ⟨h1, h2⟩ := hI.ev hv
      exact ⟨_, .value rfl, snd_un hI hd h1⟩
    · exact nothing _ rfl
  | slice T x lo hi mx =>
    cases mx with
    | some _ => exact nothing _ rfl
    | none =>
      have hb : ∀ (x : Operand) (v : SV A) (l : Option Int), st.ev x = some v → bnd (some v) = some l → BndOk l (some (a.eval x)) := fun x v l hv hl => by
        have h1 := (hI.ev hv).1
        unfold bnd at hl
        split at hl
        · rename_i e; cases e
        · rename_i e; cases e; cases hl
          exact ⟨_, val_inv h1⟩
        · cases hl
      dsimp only [xop]
      split
      · rename_i v hv
        obtain ⟨h1, h2⟩ := hI.ev hv
        exact ⟨_, .value rfl, snd_slice hE hI hd h1 h2 (fun l hl => by cases hl; trivial) (fun l hl => by cases hl; trivial)⟩
      · rename_i v l hv
        split
        · rename_i vl hl
          obtain ⟨h1, h2⟩ := hI.ev hv
          exact ⟨_, .value rfl, snd_slice hE hI hd h1 h2 (fun z hz => hb l vl z hl hz) (fun l hl => by cases hl; trivial)⟩
        · exact nothing _ rfl
      · rename_i v h hv
        split
        · rename_i vh hh
          obtain ⟨h1, h2⟩ := hI.ev hv
          exact ⟨_, .value rfl, snd_slice hE hI hd h1 h2 (fun l hl => by cases hl; trivial) (fun z hz => hb h vh z hh hz)⟩
        · exact nothing _ rfl
      · rename_i v l h hv
        split
        · rename_i vl vh hl hh
          obtain ⟨h1, h2⟩ := hI.ev hv
          exact ⟨_, .value rfl, snd_slice hE hI hd h1 h2 (fun z hz => hb l vl z hl hz) (fun z hz => hb h vh z hh hz)⟩
        · exact nothing _ rfl
      · exact nothing _ rfl
  | fieldAddr T x f =>
    dsimp only [xop]
    split
    · rename_i v hv
      obtain ⟨h1, h2⟩ := hI.ev hv
      exact ⟨_, .value rfl, snd_fieldAddr hE hI hd h1 h2⟩
    · exact nothing _ rfl
  | field T x f =>
    dsimp only [xop]
    split
    · rename_i v hv
      obtain ⟨h1, h2⟩ := hI.ev hv
      exact ⟨_, .value rfl, snd_field hE hI hd h1 h2⟩
    · exact nothing _ rfl
  | indexAddr T x i =>
    dsimp only [xop]
    split
    · rename_i v u hv hu
      obtain ⟨h1, h2⟩ := hI.ev hv
      obtain ⟨h3, h4⟩ := hI.ev hu
      split
      · exact ⟨_, .value rfl, snd_indexAddrC hE hI hd h1 h2 h3⟩
      · exact ⟨_, .value rfl, snd_indexAddr hE hI hd h1 h2 h3⟩
    · exact nothing _ rfl
  | makeMap T r =>
    cases r with
    | none => exact ⟨_, .value rfl, snd_makeMap hI hd⟩
    | some r => exact nothing _ rfl
  | makeSlice T l c =>
    dsimp only [xop]
    split
    · rename_i v u hv hu
      exact ⟨_, .value rfl, snd_makeSlice hE hI hd (hI.ev hv).1 (hI.ev hu).1⟩
    · exact nothing _ rfl
  | lookup T x i ok =>
    dsimp only [xop]
    split
    · rename_i v u hv hu
      obtain ⟨h1, _⟩ := hI.ev hv
      obtain ⟨h3, _⟩ := hI.ev hu
      exact ⟨_, .value rfl, snd_lookup hE hI hd h1 h3⟩
    · exact nothing _ rfl
  | mapUpdate T x i v =>
    dsimp only [xop]
    split
    · rename_i vx vu vv hx hu hv
      obtain ⟨h1, _⟩ := hI.ev hx
      obtain ⟨h3, _⟩ := hI.ev hu
      obtain ⟨h5, _⟩ := hI.ev hv
      refine ⟨_, fun w v1 w' hr => .inr ?_, snd_mapUpdate hE hI hd h1 h3 h5⟩
      simp only [execOp, Sem.run_bind] at hr ⊢
      cases hq : (Instr.mapUpdate T (a.eval x) (a.eval i) (a.eval v)).run P w with
      | halt h w1 => rw [hq] at hr; cases hr
      | ok u w1 => rw [hq] at hr; simp at hr; obtain ⟨rfl, rfl⟩ := hr; simp
    · exact nothing _ rfl
  | makeFunc f va vb =>
    obtain ⟨va⟩ := va
    obtain ⟨vb⟩ := vb
    dsimp only [xop]
    split
    · rename_i vs us hvs hus
      obtain ⟨e1, e2, e3⟩ := evs_spec hI va vs hvs
      obtain ⟨f1, f2, f3⟩ := evs_spec hI vb us hus
      simp only [forceL_eq]
      refine ⟨_, .value rfl, .pure hI hd (v := .func f (va.map a.eval).toArray (vb.map a.eval).toArray) (by simp [Instr.makeFunc]) (.fn f vs us _ _ (by simpa using e1) (fun j s v hs hv => e2 j s v hs (by simpa using hv)) (by simpa using f1) (fun j s v hs hv => f2 j s v hs (by simpa using hv))) ?_⟩
      show (menL st.u vs && menL st.u us) = true
      rw [menL_of e3, menL_of f3]; rfl
    · exact nothing _ rfl
  | convert S T x =>
    dsimp only [xop]
    split
    · rename_i v hv
      exact ⟨_, .value rfl, snd_convert hE hI hd (hI.ev hv).1⟩
    · exact nothing _ rfl
  | index T x i =>
    dsimp only [xop]
    split
    · rename_i v u hv hu
      obtain ⟨h1, h2⟩ := hI.ev hv
      obtain ⟨h3, h4⟩ := hI.ev hu
      exact ⟨_, .value rfl, snd_index hE hI hd h1 h2 h3⟩
    · exact nothing _ rfl
  | extract x i =>
    dsimp only [xop]
    split
    · rename_i vs hv
      split
      · rename_i v hv2
        obtain ⟨h1, h2⟩ := hI.ev hv
        rw [nth_eq] at hv2
        generalize hu : a.eval x = u at h1
        cases h1 with
        | tup _ us hl hdd =>
          have hlt := (List.getElem?_eq_some_iff.1 hv2).1
          have hg : us[i]? = some us[i] := Array.getElem?_eq_getElem (by omega)
          refine ⟨pure us[i], .value ?_, .pure hI hd rfl (hdd i v _ hv2 hg) (menL_get h2 i v hv2)⟩
          simp only [execOp, hu, Instr.extract, hg]
      · exact nothing _ rfl
    · exact nothing _ rfl
  | call c =>
    obtain ⟨callee, ⟨args⟩, ⟨ats⟩⟩ := c
    cases callee with
    | value f => exact nothing _ rfl
    | invoke r m => exact nothing _ rfl
    | builtin b =>
      dsimp only [xop, xbuiltin]
      split
      · exact nothing _ rfl
      · rename_i vs hvs
        obtain ⟨e1, e2, e3⟩ := evs_spec hI args vs hvs
        split
        · split
          · rename_i T x rest v hats
            match args, e1 with
            | [x], _ => exact ⟨_, .value (by simp only [execOp, resolve, List.map_toArray, List.map_cons, List.map_nil, pure_bind, invoke, builtin]; rfl), snd_len hE hI hd (by simp) (ty := ty) (e2 0 _ _ rfl rfl)⟩
          · exact nothing _ rfl
        · split
          · match args, e1 with
            | [x, y], _ => exact ⟨_, .value (by simp only [execOp, resolve, List.map_toArray, List.map_cons, List.map_nil, pure_bind, invoke, builtin]; rfl), snd_append hE hI hd (by simp) (by simp) (ty := ty) (e2 0 _ _ rfl rfl) (e2 1 _ _ rfl rfl)⟩
          · exact nothing _ rfl
        · split
          · rename_i T x0 i0 rest v1 i1 hats
            match args, e1 with
            | [x, y], _ => exact ⟨_, .value (by simp only [execOp, resolve, List.map_toArray, List.map_cons, List.map_nil, pure_bind, invoke, builtin]; rfl), snd_delete hE hI hd (by simp) (ty := ty) (e2 0 _ _ rfl rfl) (e2 1 _ _ rfl rfl)⟩
          · exact nothing _ rfl
        · split
          · rename_i T x0 i0 rest v1 i1 hats
            match args, e1 with
            | [x, y], _ => exact ⟨_, .value (by simp only [execOp, resolve, List.map_toArray, List.map_cons, List.map_nil, pure_bind, invoke, builtin]; rfl), snd_copy hE hI hd (by simp) (ty := ty) (e2 0 _ _ rfl rfl) (e2 1 _ _ rfl rfl)⟩
          · exact nothing _ rfl
        · exact ⟨_, .value (by simp only [execOp, resolve, List.map_toArray, pure_bind, invoke, builtin]; rfl), snd_minmax (mx := true) (ats := ⟨ats⟩) (ty := ty) hI hd (by simp [e1]) e2⟩
        · exact ⟨_, .value (by simp only [execOp, resolve, List.map_toArray, pure_bind, invoke, builtin]; rfl), snd_minmax (mx := false) (ats := ⟨ats⟩) (ty := ty) hI hd (by simp [e1]) e2⟩
        · exact nothing _ rfl
  | _ => exact nothing _ rfl

/-- All functions, with a round's frame or without. -/
def FR (ro : Option Nat) : Fence := { fn := fun _ => True, depth := none, alive := false, round := ro }
theorem FR_depth {ro : Option Nat} {m : Nat} : (FR ro).depth.isSome = true → 1 ≤ m := fun h => by cases h
theorem FR_calls {ro : Option Nat} {m : Nat} {f : FuncId} {vs : Array Value} {R : Ending → World → Prop} (h : Calls P f vs w R) : CallsIn (FR ro) m P f vs w R := (callsIn_wide (n := m)).2 h
theorem FR_yield {ro : Option Nat} {m : Nat} {l : Nat} {vs : Array Value} {R : Ending → World → Prop} (h : YieldAt Fence.wide m P l vs w R) : YieldAt (FR ro) m P l vs w R := h

/-- An operation that calls no Go function, carried out. -/
theorem wp_xop {ro : Option Nat} {m : Nat} (hE : E.Ok P) (hI : SInv E.reg n X E0 ρ0 w0 st ρ a w) {o : Oper} (hd : okDst n o.dst = true) {nm : Nat} {R0 : List Nat} {K : SV A → List (Nat × Option (Ct A)) → Prop} {next : Act → World → Prop} {Q : Exit → Act → World → Prop}
    (hf : fresh st.u ((xop E nm o.dst o.op st.ev).go st.h R0).new = true) (hr : ((xop E nm o.dst o.op st.ev).go st.h R0).b.run K)
    (hn : ∀ v hs ρ' a' w', K v hs → SInv E.reg n X E0 ρ0 w0 (st.upd o.dst v hs ((xop E nm o.dst o.op st.ev).go st.h R0).new) ρ' a' w' → next a' w') : o.wpIn (FR ro) m P a w next Q := by
  have hnd : ∀ c, o.op ≠ .defer c := fun c e => by rw [e] at hr; exact hr
  obtain ⟨s, h1, h2⟩ := snd_xop hE hI hd nm
  obtain ⟨v, w', sv, hs, ρ', g1, g2, g3⟩ := h2 R0 K hf hr
  refine ⟨fun _ _ => trivial, ?_⟩
  rw [Oper.semAt_eq _ _ _ hnd]
  rcases h1 w v w' g1 with e | ⟨e, rfl⟩
  · rw [e]; exact hn _ _ _ _ _ g2 g3
  · rw [e]; exact hn _ _ _ _ _ g2 g3
end
end Go.Sx
