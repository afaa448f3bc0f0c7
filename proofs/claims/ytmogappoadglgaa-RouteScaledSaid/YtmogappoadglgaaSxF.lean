/-
  Own tool 'Sx', part F: stores; new blocks; composite literals.
-/
import Derived.Test.YtmogappoadglgaaSxE
namespace Go.Sx
open Go
variable {A : Nat → Type}
section
variable {P : Program} {E : Env A} {n : Nat} {X E0 : Nat → Prop} {ρ0 : Rho} {w0 : World} {st : St A} {ρ : Rho} {a : Act} {w : World} {d : Option Tmp}

theorem cellsOk_spec : ∀ {cs : List (SV A)}, cellsOk cs = true → ∀ (j : Nat) s, cs[j]? = some s → cellOk s = true
  | [], _, j, s, h => by simp at h
  | c :: cs, hm, j, s, h => by
    simp only [cellsOk] at hm
    split at hm
    · rename_i hc
      cases j with
      | zero => simp at h; subst h; exact hc
      | succ j => exact cellsOk_spec hm j s (by simpa using h)
    · cases hm
theorem cellsOf_men {R : Reg A} {f : Nat → Bool} {s : SV A} (hm : men f s = true) : menL f (cellsOf R s) = true := by
  cases s with
  | agg cs => exact hm
  | aggl T xs => exact menL_of fun j s hs => flatMap_get (P := fun s => men f s = true) (fun x _ i s hi => closed_men (R.closed T x i s hi) f) j s hs
  | val v => cases v <;> first | rfl | (simp only [cellsOf]; exact menL_of fun j s hs => by rw [List.getElem?_map] at hs; cases e : (_ : List Value)[j]? <;> rw [e] at hs <;> cases hs; rfl)
  | _ => simp only [cellsOf, menL, Bool.and_true]; exact hm

/-- Cells of a named block, written over: the block's cells are told as a list. -/
theorem snd_over (hE : E.Ok P) (hI : SInv E.reg n X E0 ρ0 w0 st ρ a w) (hd : okDst n d = true) {T : TypeId} {ti : TI} (hti : E.tt T = some ti) {h : Nat} {ct ct' : Ct A} (hh : st.h h = some ct) {b base p : Nat} (hr : ρ h = some (b, base))
    {sv : SV A} {v : Value} (hv : Den E.reg ρ (fun b => X b ∨ OwnB st.h ρ b) w sv v) (_hm : men st.u sv = true) (hn : (cellsOf E.reg sv).length = ti.size) (hp : p + (cellsOf E.reg sv).length ≤ (ct.flat E.reg).length)
    (hok : cellsOk (cellsOf E.reg sv) = true) (hfl : ct'.flat E.reg = put (ct.flat E.reg) p (cellsOf E.reg sv)) (hmc : menCt st.u ct' = true) (hnm0 : ct.isMap = false := by rfl) (hnmp : ct'.isMap = false := by rfl) :
    ∃ w', ((do Instr.storeAt T (.pointer (some ⟨b, base + p, none⟩)) v; pure undef : Sem Value)).run P w = .ok undef w' ∧ SInv E.reg n X E0 ρ0 w0 (st.upd d undefS [(h, some ct')] []) ρ (a.put d undef) w' := by
  have ht := hE.tt T ti hti
  obtain ⟨c, F, fz, h1, h2, h3, h4, h5, h6⟩ := hI.block hh hnm0 hr
  obtain ⟨hc1, hc2⟩ := hv.cells
  have hrun := run_storeVar_sx ht h1 h2 (off := base + p) (v := v) (by omega) (by omega) (fun u hu => by
    obtain ⟨j, hj⟩ := List.getElem?_of_mem hu
    rw [Array.getElem?_toList] at hj
    have hlt : j < (cellsOf E.reg sv).length := by have := (Array.getElem?_eq_some_iff.1 hj).1; omega
    exact (hc2 j _ u (List.getElem?_eq_getElem hlt) hj).oneCell (cellsOk_spec hok j _ (List.getElem?_eq_getElem hlt)))
  have hlen : v.cells.toList.length = (cellsOf E.reg sv).length := by simp; omega
  refine ⟨w.setRow b (over c (base + p) v.cells.toList), by simp [Instr.storeAt, Instr.sureAddr, hrun], hI.write hd hh hr h1 h2 (over_size (by omega)) hnmp (by rw [hfl, put_len]; exact h3) (fun j s u hs hu => ?_) hmc (.val _) rfl⟩
  rw [hfl, put_get _ _ _ _ hp] at hs
  rw [over_get (by omega)] at hu
  split at hs
  · rename_i hj
    rw [if_pos (by omega)] at hu
    rw [Array.getElem?_toList, show base + j - (base + p) = j - p by omega] at hu
    exact hc2 (j - p) s u hs hu
  · rename_i hj
    rw [if_neg (by omega)] at hu
    have := h5 j s hs
    have hj2 : j < (ct.flat E.reg).length := (List.getElem?_eq_some_iff.1 hs).1
    rw [h4 j hj2] at hu
    cases hu
    exact this

theorem put_put {α : Type} {l : List α} {p k : Nat} {r vs : List α} (hr : ∀ j, j < r.length → l[p + j]? = r[j]?) (hp : p + r.length ≤ l.length) (hk : k + vs.length ≤ r.length) : put l p (put r k vs) = put l (p + k) vs := by
  apply List.ext_getElem?
  intro j
  have e1 := put_get l p (put r k vs) j (by rw [put_len]; exact hp)
  have e2 := put_get l (p + k) vs j (by omega)
  have e3 := put_get r k vs (j - p) hk
  rw [e1, e2, put_len]
  by_cases hj : p ≤ j ∧ j < p + r.length
  · rw [if_pos hj, e3]
    by_cases h2 : k ≤ j - p ∧ j - p < k + vs.length
    · rw [if_pos h2, if_pos (by omega)]; congr 1; omega
    · rw [if_neg h2, if_neg (by omega), ← hr (j - p) (by omega)]; congr 1; omega
  · rw [if_neg hj, if_neg (by omega)]

theorem decRows_flat {R : Reg A} {T : Nat} : ∀ (k : Nat) (cs : List (SV A)) xs, decRows R T k cs = some xs → xs.flatMap (R.enc T) = cs ∧ xs.length = k
  | 0, [], xs, h => by simp [decRows] at h; subst h; simp
  | 0, _ :: _, xs, h => by simp [decRows] at h
  | k + 1, cs, xs, h => by
    simp only [decRows] at h
    split at h
    · rename_i x ys h1 h2
      cases h
      obtain ⟨e1, e2⟩ := decRows_flat k _ ys h2
      refine ⟨?_, by simp [e2]⟩
      rw [List.flatMap_cons, e1, R.ok T _ x h1, List.take_append_drop]
    · cases h
theorem put_all {α : Type} {l vs : List α} (h : vs.length = l.length) : put l 0 vs = vs := by
  apply List.ext_getElem?
  intro j
  rw [put_get _ _ _ _ (by omega)]
  by_cases hj : j < vs.length
  · rw [if_pos ⟨Nat.zero_le _, by omega⟩]; rfl
  · rw [if_neg (by omega), List.getElem?_eq_none (by omega), List.getElem?_eq_none (by omega)]
theorem cellsOk_of : ∀ {cs : List (SV A)}, (∀ (j : Nat) s, cs[j]? = some s → cellOk s = true) → cellsOk cs = true
  | [], _ => rfl
  | c :: cs, h => by
    simp only [cellsOk, h 0 c rfl]
    exact cellsOk_of fun j s hs => h (j + 1) s (by simpa using hs)
theorem snd_store (hE : E.Ok P) (hI : SInv E.reg n X E0 ρ0 w0 st ρ a w) (hd : okDst n d = true) {T : TypeId} {sa sv : SV A} {va v : Value} (ha : Den E.reg ρ (fun b => X b ∨ OwnB st.h ρ b) w sa va)
    (hv : Den E.reg ρ (fun b => X b ∨ OwnB st.h ρ b) w sv v) (hm : men st.u sv = true) :
    Snd P E.reg n X E0 ρ0 w0 st a w d (xstore E T sa sv) (do Instr.storeAt T va v; pure undef) := by
  unfold xstore
  split
  · exact .no
  · rename_i ti hti
    split
    · rename_i h i sz k
      refine .ask ?_
      obtain ⟨b, base, rfl, hr⟩ := ptr_inv ha
      cases hh : st.h h with
      | none => exact .no
      | some ct =>
        cases ct with
        | map K V es => exact .no
        | cells cs =>
          dsimp only
          split
          · rename_i e1 e2 e3
            rw [forceL_eq]
            intro R0 K hf hK
            obtain ⟨w', h1, h2⟩ := snd_over hE hI hd hti hh hr (p := i * sz + k) hv hm (beq_true e1) (ble_true e2) e3 (ct' := .cells (put cs (i * sz + k) (cellsOf E.reg sv))) rfl (menL_of fun j s hs => by
              have hmc := (hI.used h _ hh).2
              rw [put_get _ _ _ _ (ble_true e2)] at hs
              split at hs
              · exact menL_get (cellsOf_men hm) _ s hs
              · exact menL_get hmc _ s hs)
            exact ⟨undef, w', undefS, _, ρ, h1, hK, h2⟩
          · exact .no
        | arr U xs =>
          dsimp only
          split
          · rename_i hsz
            obtain rfl := beq_true hsz
            split
            · rename_i e1 e2 e3
              refine .all fun x hx => ?_
              split
              · rename_i y hy
                have hey := E.reg.ok U _ y hy
                have hlen : (E.reg.enc U x).length = E.reg.sz U := E.reg.len U x
                have hi : i < xs.length := (List.getElem?_eq_some_iff.1 hx).1
                have hle : i * E.reg.sz U + E.reg.sz U ≤ xs.length * E.reg.sz U := by
                  have : (i + 1) * E.reg.sz U ≤ xs.length * E.reg.sz U := Nat.mul_le_mul_right _ hi
                  rwa [Nat.add_mul, Nat.one_mul] at this
                have hfl : (Ct.flat E.reg (.arr U xs)).length = xs.length * E.reg.sz U := flat_len (E.reg.len U) xs
                have hk := ble_true e2
                have hp : i * E.reg.sz U + k + (cellsOf E.reg sv).length ≤ (Ct.flat E.reg (.arr U xs)).length := by rw [hfl]; omega
                intro R0 K hf hK
                obtain ⟨w', h1, h2⟩ := snd_over hE hI hd hti hh hr (p := i * E.reg.sz U + k) hv hm (beq_true e1) hp e3 (ct' := .arr U (xs.set i y)) (by
                  show (xs.set i y).flatMap (E.reg.enc U) = _
                  rw [set_flat (E.reg.len U) hx y, hey]
                  exact put_put (fun j hj => flat_get (E.reg.len U) xs i j x hx (by omega)) (by show _ ≤ (Ct.flat E.reg (.arr U xs)).length; rw [hlen, hfl]; exact hle) (by omega)) rfl
                exact ⟨undef, w', undefS, _, ρ, h1, hK, h2⟩
              · exact .fail
            · exact .no
          · have hfl : (Ct.flat E.reg (.arr U xs)).length = xs.length * E.reg.sz U := flat_len (E.reg.len U) xs
            split
            · rename_i ni elem hk
              split
              · rename_i V ys
                split
                · rename_i e _
                  subst e
                  refine .vc fun ⟨hn1, hn2, hn3⟩ => ?_
                  have hc : cellsOf E.reg (.aggl V ys) = ys.flatMap (E.reg.enc V) := rfl
                  have hl : (cellsOf E.reg (.aggl V ys)).length = ys.length * E.reg.sz V := flat_len (E.reg.len V) ys
                  intro R0 K hf hK
                  obtain ⟨w', h1, h2⟩ := snd_over hE hI hd hti hh hr (p := 0 * sz + 0) hv hm (by rw [hl, hn2, hn3]) (by rw [hl, hfl, hn1, hn2]; omega) (by
                    rw [hc]
                    exact cellsOk_of fun j s hs => flatMap_get (P := fun s => cellOk s = true) (fun x _ i s hi => closed_ok (E.reg.closed V x i s hi)) j s hs) (ct' := .arr V ys) (by
                    rw [show 0 * sz + 0 = 0 by omega, put_all (by rw [hl, hfl, hn1, hn2])]; rfl) rfl
                  exact ⟨undef, w', undefS, _, ρ, h1, hK, h2⟩
                · exact .no
              · split
                · rename_i ys e1 e2 e3
                  rw [forceL_eq]
                  refine .vc fun hn1 => ?_
                  obtain ⟨g1, g2⟩ := decRows_flat _ _ _ e1
                  have hl : (cellsOf E.reg sv).length = ys.length * E.reg.sz U := by rw [← g1]; exact flat_len (E.reg.len U) ys
                  intro R0 K hf hK
                  obtain ⟨w', h1, h2⟩ := snd_over hE hI hd hti hh hr (p := 0 * sz + 0) hv hm (beq_true e2) (by rw [hl, hfl, hn1, g2]; omega) e3 (ct' := .arr U ys) (by
                    rw [show 0 * sz + 0 = 0 by omega, put_all (by rw [hl, hfl, hn1, g2])]; exact g1) rfl
                  exact ⟨undef, w', undefS, _, ρ, h1, hK, h2⟩
                · exact .no
            · exact .no
    · exact .no

/-! ### New blocks -/
theorem rowCt_flat (R : Reg A) (T : Nat) (k : Nat) (cs : List (SV A)) : (rowCt R T k cs).flat R = cs := by
  unfold rowCt
  split
  · split
    · rename_i xs h
      rw [forceL_eq]
      exact (decRows_flat k cs xs h).1
    · rw [forceL_eq]; rfl
  · rw [forceL_eq]; rfl
theorem rowCt_men (R : Reg A) (T : Nat) (k : Nat) (cs : List (SV A)) {f : Nat → Bool} (h : menL f cs = true) : menCt f (rowCt R T k cs) = true := by
  unfold rowCt
  split
  · split
    · rw [forceL_eq]; rfl
    · rw [forceL_eq]; exact h
  · rw [forceL_eq]; exact h
theorem varCt_flat (E : Env A) (k : TK) (v : SV A) : (varCt E k v).flat E.reg = cellsOf E.reg v := by
  unfold varCt
  split
  · split
    · rfl
    · exact rowCt_flat _ _ _ _
  · rw [forceL_eq]; rfl
theorem varCt_men (E : Env A) (k : TK) (v : SV A) {f : Nat → Bool} (h : men f v = true) : menCt f (varCt E k v) = true := by
  unfold varCt
  split
  · split
    · rfl
    · exact rowCt_men _ _ _ _ (cellsOf_men h)
  · rw [forceL_eq]; exact cellsOf_men h
theorem beq_self (k : Nat) : Nat.beq k k = true := by simp

theorem run_newRow (T : TypeId) (c : Array Value) (w : World) : (newRow T c).run P w = .ok ⟨w.heap.size, 0, none⟩ (w.alloc (.cells c T)) := rfl

/-- A new variable that holds a value. -/
theorem snd_newVar (hI : SInv E.reg n X E0 ρ0 w0 st ρ a w) (hd : okDst n d = true) {T : TypeId} {k : TK} {sz nm : Nat} {sv : SV A} {v : Value} {s : Sem Value}
    (hv : Den E.reg ρ (fun b => X b ∨ OwnB st.h ρ b) w sv v) (hm : men st.u sv = true) (hs : s.run P w = .ok (.pointer (some ⟨w.heap.size, 0, none⟩)) (w.alloc (.cells v.cells T))) :
    Snd P E.reg n X E0 ρ0 w0 st a w d (match varCt E k sv with
      | .cells cs => .fin [nm] [nm] (.ret (.ptr nm 0 sz 0) [(nm, some (.cells cs))])
      | .arr U xs => .fin [nm] [nm] (.ret (.ptr nm 0 sz 0) [(nm, some (.arr U xs))])
      | _ => .no) s := by
  have hfl := varCt_flat E k sv
  have hmc := varCt_men E k sv hm
  obtain ⟨h1, h2⟩ := hv.cells
  have key : ∀ ct : Ct A, ct.isMap = false → ct.flat E.reg = cellsOf E.reg sv → menCt st.u ct = true → Snd P E.reg n X E0 ρ0 w0 st a w d (.fin [nm] [nm] (.ret (.ptr nm 0 sz 0) [(nm, some ct)])) s := fun ct hnmp hf hmc R0 K hfr hK =>
    ⟨_, _, _, _, _, hs, hK, hI.alloc hd hfr hnmp (by rw [hf]; omega) (fun j s u hs hu => h2 j s u (by rwa [hf] at hs) hu) hmc (fun O' => by
      have := Den.ptr (R := E.reg) (ρ := setR ρ nm (some (w.heap.size, 0))) (O := O') (w := w.alloc (.cells v.cells T)) nm 0 sz 0 w.heap.size 0 setR_eq
      simpa using this) (beq_self nm)⟩
  split
  · rename_i cs e; rw [e] at hfl hmc; exact key _ rfl hfl hmc
  · rename_i U xs e; rw [e] at hfl hmc; exact key _ rfl hfl hmc
  · exact .no
theorem snd_box (hI : SInv E.reg n X E0 ρ0 w0 st ρ a w) (hd : okDst n d = true) {T : TypeId} {nm : Nat} {sv : SV A} {v : Value}
    (hv : Den E.reg ρ (fun b => X b ∨ OwnB st.h ρ b) w sv v) (hm : men st.u sv = true) : Snd P E.reg n X E0 ρ0 w0 st a w d (xbox E nm T sv) (Instr.box T v) := by
  unfold xbox
  split
  · exact snd_newVar hI hd hv hm (T := T) (by simp [Instr.box, newVar, run_newRow])
  · exact .no
theorem snd_alloc (hE : E.Ok P) (hI : SInv E.reg n X E0 ρ0 w0 st ρ a w) (hd : okDst n d = true) {T : TypeId} {nm : Nat} : Snd P E.reg n X E0 ρ0 w0 st a w d (xalloc E nm T) (Instr.alloc T true (.tuple #[])) := by
  unfold xalloc
  split
  · rename_i ti hti
    exact snd_newVar hI hd (.val ti.zero) rfl (T := T) (by simp [Instr.alloc, newVar, run_newRow, run_zero_sx (hE.tt T ti hti)])
  · exact .no

/-! ### Composite literals -/
def DenA (R : Reg A) (ρ : Rho) (O : Nat → Prop) (w : World) (cs : List (SV A)) (c : Array Value) : Prop :=
  cs.length = c.size ∧ ∀ (j : Nat) s u, cs[j]? = some s → c[j]? = some u → Den R ρ O w s u
theorem fill_over (off : Nat) (vs : Array Value) (c : Array Value) (h : off + vs.size ≤ c.size) : vs.zipIdx.foldl (fun cs x => cs.setIfInBounds (off + x.2) x.1) c = over c off vs.toList := by
  have key : ∀ (l : List Value) (k : Nat) (c : Array Value), off + k + l.length ≤ c.size → (l.zipIdx k).foldl (fun cs x => cs.setIfInBounds (off + x.2) x.1) c = over c (off + k) l := by
    intro l
    induction l with
    | nil => intro k c _; apply Array.ext'; simp [over]
    | cons v l ih =>
      intro k c hl
      simp only [List.zipIdx_cons, List.foldl_cons]
      rw [ih (k + 1) _ (by simp at hl ⊢; omega)]
      have e := list_seg_step c.toList (off + k) v l (by simp at hl ⊢; omega)
      unfold over
      apply Array.ext'
      simpa [Array.toList_setIfInBounds, Nat.add_assoc] using e
  rw [← Array.foldl_toList, Array.toList_zipIdx]
  exact key vs.toList 0 c (by simpa using h)
theorem fill_sx {R : Reg A} {O : Nat → Prop} {place place' : Nat → Option (Nat × Nat)} (hpl : ∀ i p, place i = some p → place' i = some p) : ∀ (ps : List (Nat × SV A)) (qs : List (Nat × Value)) (cs : List (SV A)) (c : Array Value) (cs' : List (SV A)),
    ps.length = qs.length → (∀ (j : Nat) p q, ps[j]? = some p → qs[j]? = some q → p.1 = q.1 ∧ Den R ρ O w p.2 q.2) → DenA R ρ O w cs c → fillS R place cs ps = some cs' →
    ∃ c', Instr.fill place' c qs = some c' ∧ DenA R ρ O w cs' c'
  | [], [], cs, c, cs', _, _, hd, h => by simp [fillS] at h; subst h; exact ⟨c, rfl, hd⟩
  | [], _ :: _, _, _, _, hl, _, _, _ => by simp at hl
  | _ :: _, [], _, _, _, hl, _, _, _ => by simp at hl
  | (i, s) :: ps, (i', v) :: qs, cs, c, cs', hl, hq, hd, h => by
    obtain ⟨h0, hv⟩ := hq 0 _ _ rfl rfl
    dsimp only at h0 hv
    subst h0
    simp only [fillS] at h
    split at h
    · cases h
    · rename_i off size hp
      split at h
      · rename_i e1 e2
        obtain ⟨h1, h2⟩ := hv.cells
        have e1 := beq_true e1
        have e2 := ble_true e2
        have hsz := hd.1
        have hover : off + v.cells.toList.length ≤ c.size := by simp; omega
        obtain ⟨c', g1, g2⟩ := fill_sx hpl ps qs (put cs off (cellsOf R s)) (over c off v.cells.toList) cs' (by simpa using hl) (fun j p q hp hq' => hq (j + 1) p q (by simpa using hp) (by simpa using hq')) ⟨by rw [put_len, over_size hover]; exact hsz, fun j t u ht hu => by
          rw [put_get _ _ _ _ e2] at ht
          rw [over_get hover] at hu
          simp only [Array.length_toList] at hu
          split at ht
          · rename_i hj
            rw [if_pos (by omega), Array.getElem?_toList] at hu
            exact h2 _ t u ht hu
          · rename_i hj
            rw [if_neg (by omega)] at hu
            exact hd.2 j t u ht hu⟩ h
        refine ⟨c', ?_, g2⟩
        simp only [Instr.fill, hpl i _ hp]
        rw [if_neg (by simp; omega), fill_over off v.cells c (by omega)]
        exact g1
      · cases h
theorem evParts_spec (hI : SInv E.reg n X E0 ρ0 w0 st ρ a w) : ∀ (l : List (Nat × Operand)) ps, evParts st.ev l = some ps → ps.length = l.length ∧ (∀ (j : Nat) p (q : Nat × Value), ps[j]? = some p → (l.map fun x => (x.1, a.eval x.2))[j]? = some q → p.1 = q.1 ∧ Den E.reg ρ (fun b => X b ∨ OwnB st.h ρ b) w p.2 q.2) ∧ (∀ (j : Nat) p, ps[j]? = some p → Sx.men st.u p.2 = true)
  | [], ps, h => by simp [evParts] at h; subst h; simp
  | (i, x) :: l, ps, h => by
    simp only [evParts] at h
    split at h
    · rename_i v vs h1 h2
      cases h
      obtain ⟨e1, e2, e3⟩ := evParts_spec hI l vs h2
      refine ⟨by simp [e1], fun j p q hp hq => ?_, fun j p hp => ?_⟩
      · cases j with
        | zero => simp at hp hq; subst hp; subst hq; exact ⟨rfl, (hI.ev h1).1⟩
        | succ j => exact e2 j p q (by simpa using hp) (by simpa using hq)
      · cases j with
        | zero => simp at hp; subst hp; exact (hI.ev h1).2
        | succ j => exact e3 j p (by simpa using hp)
    · cases h
theorem fillS_men {R : Reg A} {f : Nat → Bool} {place : Nat → Option (Nat × Nat)} : ∀ (ps : List (Nat × SV A)) (cs cs' : List (SV A)), (∀ (j : Nat) p, ps[j]? = some p → men f p.2 = true) → menL f cs = true → fillS R place cs ps = some cs' → menL f cs' = true
  | [], cs, cs', _, hm, h => by simp [fillS] at h; subst h; exact hm
  | (i, s) :: ps, cs, cs', hp, hm, h => by
    simp only [fillS] at h
    split at h
    · cases h
    · split at h
      · rename_i e1 e2
        refine fillS_men ps _ cs' (fun j p hj => hp (j + 1) p (by simpa using hj)) (menL_of fun j t ht => ?_) h
        rw [put_get _ _ _ _ (ble_true e2)] at ht
        split at ht
        · exact menL_get (cellsOf_men (hp 0 _ rfl)) _ t ht
        · exact menL_get hm _ t ht
      · cases h
theorem fillS_len {R : Reg A} {place : Nat → Option (Nat × Nat)} : ∀ (ps : List (Nat × SV A)) (cs cs' : List (SV A)), fillS R place cs ps = some cs' → cs'.length = cs.length
  | [], cs, cs', h => by simp [fillS] at h; subst h; rfl
  | (i, s) :: ps, cs, cs', h => by
    simp only [fillS] at h
    split at h
    · cases h
    · split at h
      · rw [fillS_len ps _ cs' h, put_len]
      · cases h
theorem denA_zero {R : Reg A} {O : Nat → Prop} (z : Value) : DenA R ρ O w (zeroCellsS z) z.cells := by
  refine ⟨by simp [zeroCellsS], fun j s u hs hu => ?_⟩
  simp only [zeroCellsS, List.getElem?_map, Array.getElem?_toList, hu, Option.map_some, Option.some.injEq] at hs
  subst hs; exact .val u
theorem zero_men {f : Nat → Bool} (z : Value) : menL f (zeroCellsS (A := A) z) = true := menL_of fun j s hs => by
  simp only [zeroCellsS, List.getElem?_map] at hs
  cases e : z.cells.toList[j]? with
  | none => rw [e] at hs; cases hs
  | some u => rw [e] at hs; cases hs; rfl
theorem places_sx (hE : E.Ok P) : ∀ (fs : List Field), allTT E (fs.map fun f => (f.offset, f.type)) = true →
    ∃ places, fs.mapM (fun f => (P.info? f.type).map fun i => (f.offset, i.size)) = some places ∧ ∀ i p, structPlace E (fs.map fun f => (f.offset, f.type)) i = some p → places[i]? = some p
  | [], _ => ⟨[], rfl, fun i p h => by simp [structPlace, nth] at h⟩
  | f :: fs, h => by
    simp only [List.map_cons, allTT] at h
    split at h
    · rename_i ti hti
      obtain ⟨pl, h1, h2⟩ := places_sx hE fs h
      obtain ⟨d, i, _, hi, _, hs, _⟩ := tiOf_inv (hE.tt _ _ hti)
      refine ⟨(f.offset, ti.size) :: pl, by simp [List.mapM_cons, hi, hs, h1], fun k p hp => ?_⟩
      cases k with
      | zero =>
        simp only [structPlace, nth, List.map_cons, hti] at hp
        simpa using hp
      | succ k =>
        simp only [List.getElem?_cons_succ]
        apply h2
        simpa [structPlace, nth] using hp
    · cases h
theorem snd_build (hE : E.Ok P) (hI : SInv E.reg n X E0 ρ0 w0 st ρ a w) (hd : okDst n d = true) {T : TypeId} {l : List (Nat × Operand)} {ps : List (Nat × SV A)} (hps : evParts st.ev l = some ps) :
    Snd P E.reg n X E0 ρ0 w0 st a w d (xbuild E T ps) (Instr.build T (l.map fun x => (x.1, a.eval x.2)).toArray) := by
  obtain ⟨e1, e2, hpm⟩ := evParts_spec hI l ps hps
  unfold xbuild
  split
  · rename_i ti hti
    obtain ⟨dd, ii, hu, hi, hk, hs, hb, hz, _⟩ := tiOf_inv (hE.tt T ti hti)
    split
    · rename_i fs hfs
      split
      · rename_i cs hall hcs
        rw [hfs] at hk
        obtain ⟨fields, rfl, rfl⟩ := kind_struct hk
        obtain ⟨places, h1, h2⟩ := places_sx hE fields.toList hall
        obtain ⟨c', g1, g2⟩ := fill_sx (place' := (places.toArray[·]?)) (by simpa using h2) ps (l.map fun x => (x.1, a.eval x.2)) _ _ cs (by simp [e1]) e2 (denA_zero ti.zero) hcs
        rw [forceL_eq]
        refine .pure hI hd (run_build w T _ c' ?_) (.agg _ _ g2.1 g2.2) (fillS_men ps _ cs hpm (zero_men _) hcs)
        simp only [Program.built, hi, hu, hz, h1]
        exact g1
      · exact .no
    · rename_i len elem hfs
      split
      · rename_i te hte
        split
        · rename_i cs hcs
          rw [hfs] at hk
          obtain rfl := kind_arr hk
          obtain ⟨_, ie, _, hie, _, hse, _⟩ := tiOf_inv (hE.tt elem te hte)
          obtain ⟨c', g1, g2⟩ := fill_sx (place' := fun i => some (i * te.size, te.size)) (fun _ _ h => h) ps (l.map fun x => (x.1, a.eval x.2)) _ _ cs (by simp [e1]) e2 (denA_zero ti.zero) hcs
          rw [forceL_eq]
          refine .pure hI hd (run_build w T _ c' ?_) (.agg _ _ g2.1 g2.2) (fillS_men ps _ cs hpm (zero_men _) hcs)
          simp only [Program.built, hi, hu, hz, hie, hse]
          exact g1
        · exact .no
      · exact .no
    · exact .no
  · exact .no
theorem rowsS_len (z : List (SV A)) : ∀ k, (rowsS k z).length = k * z.length
  | 0 => by simp [rowsS]
  | k + 1 => by simp [rowsS, rowsS_len z k, Nat.add_mul, Nat.add_comm]
theorem rowsS_get {z : List (SV A)} : ∀ (k j : Nat) (s : SV A), (rowsS k z)[j]? = some s → z[j % z.length]? = some s
  | 0, j, s, h => by simp [rowsS] at h
  | k + 1, j, s, h => by
    simp only [rowsS] at h
    by_cases hj : j < z.length
    · rw [List.getElem?_append_left hj] at h; rwa [Nat.mod_eq_of_lt hj]
    · rw [List.getElem?_append_right (by omega)] at h
      have := rowsS_get k _ s h
      rwa [← Nat.mod_eq_sub_mod (by omega)] at this
theorem snd_buildSlice (hE : E.Ok P) (hI : SInv E.reg n X E0 ρ0 w0 st ρ a w) (hd : okDst n d = true) {T : TypeId} {nm len : Nat} {l : List (Nat × Operand)} {ps : List (Nat × SV A)} (hps : evParts st.ev l = some ps) :
    Snd P E.reg n X E0 ρ0 w0 st a w d (xbuildSlice E nm T len ps) (Instr.buildSlice T len (l.map fun x => (x.1, a.eval x.2)).toArray) := by
  obtain ⟨e1, e2, hpm⟩ := evParts_spec hI l ps hps
  unfold xbuildSlice
  split
  · rename_i ti hti
    obtain ⟨dd, ii, hu, hi, hk, hs, hb, hz, _⟩ := tiOf_inv (hE.tt T ti hti)
    split
    · rename_i elem hfs
      rw [hfs] at hk
      obtain rfl := kind_slice hk
      split
      · rename_i te hte
        have hte' := hE.tt elem te hte
        obtain ⟨_, ie, _, hie, _, hse, _, hze, _⟩ := tiOf_inv hte'
        split
        · rename_i cs c1 c2 hcs
          have c1 := ble_true c1
          have hmen := fillS_men ps _ cs hpm (menL_of fun j s hs => menL_get (zero_men te.zero) _ s (rowsS_get len j s hs)) hcs
          have c2 := beq_true c2
          have hzl : (rowsS len (zeroCellsS (A := A) te.zero)).length = len * te.size := by rw [rowsS_len]; simp [zeroCellsS, c2]
          have hD : DenA E.reg ρ (fun b => X b ∨ OwnB st.h ρ b) w (rowsS len (zeroCellsS te.zero)) ((Array.range (len * te.size)).map fun j => te.zero.cells[j % te.zero.cells.size]!) := by
            refine ⟨by simp [hzl], fun j s u hs hu => ?_⟩
            have hj : j < len * te.size := by rw [← hzl]; exact (List.getElem?_eq_some_iff.1 hs).1
            have h3 := rowsS_get len j s hs
            have h4 := (denA_zero (R := E.reg) (ρ := ρ) (O := fun b => X b ∨ OwnB st.h ρ b) (w := w) te.zero)
            have h5 : (zeroCellsS (A := A) te.zero).length = te.zero.cells.size := by simp [zeroCellsS]
            rw [h5] at h3
            have hlt : j % te.zero.cells.size < te.zero.cells.size := by have := (List.getElem?_eq_some_iff.1 h3).1; rwa [h5] at this
            refine h4.2 _ s u h3 ?_
            simp [hj] at hu
            rw [← hu, Array.getElem?_eq_getElem hlt, getElem!_pos te.zero.cells _ hlt]
          obtain ⟨c', g1, g2⟩ := fill_sx (place' := fun i => some (i * te.size, te.size)) (fun _ _ h => h) ps (l.map fun x => (x.1, a.eval x.2)) _ _ cs (by simp [e1]) e2 hD hcs
          have hsz : c'.size = len * te.size := by
            have := g2.1
            have h6 : cs.length = (rowsS len (zeroCellsS (A := A) te.zero)).length := fillS_len ps _ cs hcs
            omega
          have hrun : (Instr.buildSlice T len (l.map fun x => (x.1, a.eval x.2)).toArray).run P w = .ok (.slice (some ⟨w.heap.size, 0, none⟩) len len) (w.alloc (.cells c' elem)) := by
            have hle : ¬ (2 : Nat) ^ 24 < len * te.size := by omega
            by_cases h0 : len * te.size = 0
            · have ez : ∀ f : Nat → Value, (Array.range 0).map f = #[] := fun f => by apply Array.ext'; simp
              have g1' : Instr.fill (fun i => some (i * te.size, te.size)) #[] (l.map fun x => (x.1, a.eval x.2)) = some c' := by rw [h0, ez] at g1; exact g1
              simp [Instr.buildSlice, run_underlying hu, run_sizeOf_sx hte', h0, ez, g1', run_newRow]
            · simp [Instr.buildSlice, run_underlying hu, run_sizeOf_sx hte', run_zero_sx hte', hle, h0, g1, run_newRow]
          have key : ∀ ct : Ct A, ct.isMap = false → ct.flat E.reg = cs → menCt st.u ct = true → Snd P E.reg n X E0 ρ0 w0 st a w d (.fin [nm] [nm] (.ret (.sl nm te.size 0 len) [(nm, some ct)])) (Instr.buildSlice T len (l.map fun x => (x.1, a.eval x.2)).toArray) := fun ct hnmp hf hmc R0 K hfr hK =>
            ⟨_, _, _, _, _, hrun, hK, hI.alloc hd hfr hnmp (by rw [hf]; exact Nat.le_of_eq g2.1) (fun j s u hs hu => g2.2 j s u (by rwa [hf] at hs) hu) hmc (fun O' =>
              .sl nm te.size 0 len len w.heap.size 0 0 c' elem (0, 0) setR_eq heap_alloc_new (Nat.le_refl _) (.inr (by simp)) (by rw [hsz]; simp)) (beq_self nm)⟩
          have hfl := rowCt_flat E.reg elem len cs
          have hmc := rowCt_men E.reg elem len cs hmen
          split
          · rename_i cs' e; rw [e] at hfl hmc; exact key _ rfl hfl hmc
          · rename_i U xs e; rw [e] at hfl hmc; exact key _ rfl hfl hmc
          · exact .no
        · exact .no
      · exact .no
    · exact .no
  · exact .no
end
end Go.Sx
