/-
  Own tool 'Sx', part J: append.
-/
import Derived.Test.YtmogappoadglgaaSxI
import Derived.Laws.MakeOwn
namespace Go.Sx
open Go
variable {A : Nat → Type}
section
variable {R : Reg A} {n : Nat} {X E0 : Nat → Prop} {ρ0 : Rho} {w0 : World} {st : St A} {ρ : Rho} {a : Act} {w : World} {d : Option Tmp}

theorem SInv.forget (hI : SInv R n X E0 ρ0 w0 st ρ a w) {st' : St A} (ht : st'.t = st.t) (hu : st'.u = st.u) (hh : ∀ i, st'.h i = st.h i ∨ st'.h i = none) : SInv R n X E0 ρ0 w0 st' ρ a w := by
  have old : ∀ i ct, st'.h i = some ct → st.h i = some ct := fun i ct h => by
    rcases hh i with e | e
    · rwa [e] at h
    · rw [e] at h; cases h
  have g : Goes (fun b => X b ∨ OwnB st.h ρ b) (fun b => X b ∨ OwnB st'.h ρ b) w w := ⟨fun b c E fz hn hb => ⟨fun hx => hn (hx.imp id fun ⟨k, ct, base, h1, h2⟩ => ⟨k, ct, base, old k ct h1, h2⟩), hb⟩, fun _ c _ fz h => ⟨c, fz, h, rfl⟩, fun _ _ h => h⟩
  exact ⟨hI.size, fun s sv h => (hI.slots s sv (by rwa [ht] at h)).mono g, fun h ct hc => (hI.hs h ct (old h ct hc)).mono g (fun _ _ _ => rfl),
    fun h h' ct ct' b base base' h1 h2 => hI.inj h h' ct ct' b base base' (old _ _ h1) (old _ _ h2), fun h ct b base h1 => hI.own h ct b base (old _ _ h1),
    fun h ct h1 => by rw [hu]; exact hI.used h ct (old _ _ h1), fun s sv h => by rw [hu]; exact hI.men s sv (by rwa [ht] at h), hI.xlt, hI.rel, hI.defers, by rw [hu]; exact hI.keep⟩

/-- A new name for no block. -/
theorem SInv.none (hI : SInv R n X E0 ρ0 w0 st ρ a w) {nm : Nat} {ct : Ct A} {sv : SV A} {v : Value} (hd : okDst n d = true) (hf : fresh st.u [nm] = true) (hfl : ct.flat R = []) (hm : menCt st.u ct = true)
    (hden : ∀ O', Den R (setR ρ nm Option.none) O' w sv v) (hmen : Sx.men (fun h => Nat.beq h nm) sv = true) :
    SInv R n X E0 ρ0 w0 (st.upd d sv [(nm, some ct)] [nm]) (setR ρ nm Option.none) (a.put d v) w := by
  have hnm : st.u nm = false := fresh_spec hf nm (by simp)
  have hρ : ∀ h, st.u h = true → setR ρ nm Option.none h = ρ h := fun h hu => setR_ne (by rintro rfl; rw [hnm] at hu; cases hu)
  have hgo : Goes (fun b => X b ∨ OwnB st.h ρ b) (fun b => X b ∨ OwnB (updH st.h [(nm, some ct)]) (setR ρ nm Option.none) b) w w := by
    refine ⟨fun b c' E fz hn hb => ⟨?_, hb⟩, fun b c' E fz hb => ⟨c', fz, hb, rfl⟩, fun _ _ h => h⟩
    rintro (hx | ⟨h, ct', base, hh, hr⟩)
    · exact hn (.inl hx)
    · rw [updH_one] at hh
      split at hh
      · rename_i e; subst e; rw [setR_eq] at hr; cases hr
      · rename_i e; rw [setR_ne e] at hr; exact hn (.inr ⟨h, ct', base, hh, hr⟩)
  have hk : ∀ k, Nat.beq k nm = true → updU st.u [nm] k = true := fun k hk => updU_new (by rw [beq_true hk]; simp)
  refine hI.step hd hρ hI.rel hgo (fun h ct' hh => ?_) (fun h h' ct1 ct2 b base base' hh hh' hr hr' => ?_) (hden _) (men_mono hk sv hmen)
  · rw [updH_one] at hh
    split at hh
    · rename_i e; subst e; cases hh
      refine .inr ⟨by rw [setR_eq]; exact hfl, fun b base hr => (by rw [setR_eq] at hr; cases hr), updU_new (by simp), menCt_mono (fun k => updU_old) _ hm⟩
    · exact .inl ⟨hh, fun _ _ _ => rfl⟩
  · rw [updH_one] at hh hh'
    split at hh <;> split at hh'
    · rename_i e1 e2; rw [e1, e2]
    · rename_i e1 e2; subst e1; rw [setR_eq] at hr; cases hr
    · rename_i e1 e2; subst e2; rw [setR_eq] at hr'; cases hr'
    · rename_i e1 e2; rw [setR_ne e1] at hr; rw [setR_ne e2] at hr'; exact hI.inj h h' ct1 ct2 b base base' hh hh' hr hr'

theorem updH_two {f : Nat → Option (Ct A)} {k nm : Nat} {c : Option (Ct A)} (h : Nat) : updH f [(k, Option.none), (nm, c)] h = if h = k then Option.none else updH f [(nm, c)] h := by
  rw [updH]
  by_cases e : h = k
  · subst e; simp
  · rw [beq_false e, if_neg e]
theorem SInv.drop {sv : SV A} {nm : Nat} {c : Option (Ct A)} {new : List Nat} (hI : SInv R n X E0 ρ0 w0 (st.upd d sv [(nm, c)] new) ρ a w) {k : Nat} : SInv R n X E0 ρ0 w0 (st.upd d sv [(k, Option.none), (nm, c)] new) ρ a w :=
  hI.forget rfl rfl fun i => by
    show updH st.h _ i = updH st.h _ i ∨ updH st.h _ i = Option.none
    rw [updH_two]
    split
    · exact .inr rfl
    · exact .inl rfl

/-- A block goes over to a new name. -/
theorem SInv.take (hI : SInv R n X E0 ρ0 w0 st ρ a w) {h0 nm b base k : Nat} {ct ct' : Ct A} {sv : SV A} {v : Value} {c c' : Array Value} {T : TypeId} {fz : Nat × Nat} (hd : okDst n d = true) (hf : fresh st.u [nm] = true)
    (hh0 : st.h h0 = some ct) (hr0 : ρ h0 = some (b, base)) (hb : w.heap[b]? = some (.cells c T fz)) (hz : fz.2 ≤ fz.1 ∨ c.size ≤ fz.1) (hsz : c'.size = c.size) (hnmp : ct'.isMap = false)
    (hl : base + k + (ct'.flat R).length ≤ c.size) (hc : ∀ (j : Nat) s u, (ct'.flat R)[j]? = some s → c'[base + k + j]? = some u → Den R ρ (fun b => X b ∨ OwnB st.h ρ b) w s u) (hm : menCt st.u ct' = true)
    (hden : ∀ O', Den R (setR ρ nm (some (b, base + k))) O' (w.setRow b c') sv v) (hmen : Sx.men (fun h => Nat.beq h nm) sv = true) :
    SInv R n X E0 ρ0 w0 (st.upd d sv [(h0, Option.none), (nm, some ct')] [nm]) (setR ρ nm (some (b, base + k))) (a.put d v) (w.setRow b c') := by
  have hown := hI.own h0 ct b base hh0 hr0
  have hnm : st.u nm = false := fresh_spec hf nm (by simp)
  have hne : nm ≠ h0 := by rintro rfl; have := (hI.used nm ct hh0).1; rw [hnm] at this; cases this
  have hρ : ∀ h, st.u h = true → setR ρ nm (some (b, base + k)) h = ρ h := fun h hu => setR_ne (by rintro rfl; rw [hnm] at hu; cases hu)
  have get : ∀ h ct1, updH st.h [(h0, Option.none), (nm, some ct')] h = some ct1 → (h = nm ∧ ct1 = ct') ∨ (h ≠ h0 ∧ h ≠ nm ∧ st.h h = some ct1) := fun h ct1 hh => by
    rw [updH_two] at hh
    split at hh
    · cases hh
    · rename_i e
      rw [updH_one] at hh
      split at hh
      · rename_i e2; cases hh; exact .inl ⟨e2, rfl⟩
      · rename_i e2; exact .inr ⟨e, e2, hh⟩
  have hgo : Goes (fun b => X b ∨ OwnB st.h ρ b) (fun b' => X b' ∨ OwnB (updH st.h [(h0, Option.none), (nm, some ct')]) (setR ρ nm (some (b, base + k))) b') w (w.setRow b c') := by
    refine ⟨fun b1 c1 E f hn hk => ⟨?_, ?_⟩, fun b1 c1 E f hk => ?_, fun b1 ds hk => by rw [setRow_other (by rintro rfl; rw [hb] at hk; cases hk)]; exact hk⟩
    · rintro (hx | ⟨h, ct1, base1, hh, hr⟩)
      · exact hn (.inl hx)
      · rcases get h ct1 hh with ⟨rfl, rfl⟩ | ⟨e1, e2, h1⟩
        · rw [setR_eq] at hr; cases hr; exact hn (.inr ⟨h0, ct, base, hh0, hr0⟩)
        · rw [setR_ne e2] at hr; exact hn (.inr ⟨h, ct1, base1, h1, hr⟩)
    · rw [setRow_other]; exact hk
      rintro rfl; exact hn (.inr ⟨h0, ct, base, hh0, hr0⟩)
    · by_cases e : b1 = b
      · subst e; rw [hb] at hk; cases hk; exact ⟨c', _, setRow_heap w b1 _ c' _ _ hb, hsz⟩
      · exact ⟨c1, f, by rw [setRow_other e]; exact hk, rfl⟩
  have hk : ∀ k, Nat.beq k nm = true → updU st.u [nm] k = true := fun k hk => updU_new (by rw [beq_true hk]; simp)
  refine hI.step hd hρ (hI.rel.setRow hb c' hsz hown.1) hgo (fun h ct1 hh => ?_) (fun h h' ct1 ct2 b1 base1 base2 hh hh' hr hr' => ?_) (hden _) (men_mono hk sv hmen)
  · rcases get h ct1 hh with ⟨rfl, rfl⟩ | ⟨e1, e2, h1⟩
    · refine .inr ⟨?_, ?_, updU_new (by simp), menCt_mono (fun k => updU_old) _ hm⟩
      · rw [setR_eq]
        exact .inr ⟨hnmp, c', T, fz, setRow_heap w b _ c' _ _ hb, by rw [hsz]; exact hz, by omega, fun j s u hs hu => ((hc j s u hs hu).rho (flat_men hm j s hs) hρ).mono hgo⟩
      · intro b1 base1 hr; rw [setR_eq] at hr; cases hr; exact hown
    · refine .inl ⟨h1, fun b1 base1 hr => setRow_other ?_⟩
      rintro rfl; exact e1 (hI.inj h h0 ct1 ct b1 base1 base h1 hh0 hr hr0)
  · rcases get h ct1 hh with ⟨rfl, rfl⟩ | ⟨e1, e2, h1⟩ <;> rcases get h' ct2 hh' with ⟨rfl, rfl⟩ | ⟨e3, e4, h2⟩
    · rfl
    · rw [setR_eq] at hr; cases hr; rw [setR_ne e4] at hr'; exact absurd (hI.inj h' h0 ct2 ct b base2 base h2 hh0 hr' hr0) e3
    · rw [setR_eq] at hr'; cases hr'; rw [setR_ne e2] at hr; exact absurd (hI.inj h h0 ct1 ct b base1 base h1 hh0 hr hr0) e1
    · rw [setR_ne e2] at hr; rw [setR_ne e4] at hr'; exact hI.inj h h' ct1 ct2 b1 base1 base2 h1 h2 hr hr'
end

section
variable {P : Program} {E : Env A} {n : Nat} {X E0 : Nat → Prop} {ρ0 : Rho} {w0 : World} {st : St A} {ρ : Rho} {a : Act} {w : World} {d : Option Tmp}

/-- What is read out of a source of rows, whatever has been drawn. -/
def Src (P : Program) (size k : Nat) (v : Value) (w : World) (new : Array Value) : Prop :=
  (Builtin.lenOf v).run P w = .ok k w ∧ ∀ q, (Builtin.firstCells size k v).run P { w with drawn := q } = .ok new { w with drawn := q }

theorem src_of {size k b off cap : Nat} {c : Array Value} {F : TypeId} {fz : Nat × Nat} (hb : w.heap[b]? = some (.cells c F fz)) (g : Nat → Value) (hc : ∀ j, j < k * size → c[off + j]? = some (g j)) :
    Src P size k (.slice (some ⟨b, off, none⟩) k cap) w ((List.range (k * size)).map g).toArray := by
  refine ⟨by simp [Builtin.lenOf], fun q => ?_⟩
  have := run_loadCells (P := P) { w with drawn := q } ⟨b, off, none⟩ (k * size) g (fun j hj => by rw [add_off]; exact (cell_at (w := { w with drawn := q }) hb _).trans (hc j hj))
  simpa [Builtin.firstCells] using this
theorem src_nil {size cap : Nat} (p : Option Addr) : Src P size 0 (.slice p 0 cap) w #[] := by
  refine ⟨by simp [Builtin.lenOf], fun q => ?_⟩
  cases p with
  | none => simp [Builtin.firstCells]
  | some x => simp [Builtin.firstCells, loadCells, loadCellsFrom]

/-- A frozen slice as a source. -/
theorem src_lst {O : Nat → Prop} {T : Nat} {xs : List (A T)} {v : Value} (hv : Den E.reg ρ O w (.lst T xs) v) : ∃ new, Src P (E.reg.sz T) xs.length v w new ∧ DenA E.reg ρ O w (xs.flatMap (E.reg.enc T)) new := by
  cases hv with
  | lnil => exact ⟨#[], src_nil _, rfl, fun j s u hs => by simp at hs⟩
  | lempty => exact ⟨#[], src_nil _, rfl, fun j s u hs => by simp at hs⟩
  | lst _ _ b off cap c F fz g ho hb hcap hc hd =>
    refine ⟨_, src_of (cap := cap) hb (fun j => g (j / E.reg.sz T) (j % E.reg.sz T)) (fun j hj => ?_), ?_, fun j s u hs hu => ?_⟩
    · have h0 : 0 < E.reg.sz T := by
        rcases Nat.eq_zero_or_pos (E.reg.sz T) with e | e
        · rw [e] at hj; simp at hj
        · exact e
      have hi : j / E.reg.sz T < xs.length := (Nat.div_lt_iff_lt_mul h0).2 hj
      have := hc (j / E.reg.sz T) _ (List.getElem?_eq_getElem hi) (j % E.reg.sz T) (Nat.mod_lt _ h0)
      rw [← this]
      congr 1
      have := Nat.div_add_mod j (E.reg.sz T)
      rw [Nat.mul_comm] at this
      omega
    · rw [flat_len (E.reg.len T)]; simp
    · obtain ⟨x, k, h1, h2, h3, h4⟩ := flat_at (E.reg.len T) hs
      have hj : j < xs.length * E.reg.sz T := by have := (List.getElem?_eq_some_iff.1 hs).1; rwa [flat_len (E.reg.len T)] at this
      simp [hj] at hu
      subst hu
      have hm : j % E.reg.sz T = k := by rw [h3, Nat.mul_comm, Nat.mul_add_mod, Nat.mod_eq_of_lt h2]
      rw [hm]
      exact hd _ x h1 k s h4
theorem drop_take_flat {T : Nat} (xs : List (A T)) (off len : Nat) (R : Reg A) : ((xs.drop off).take len).flatMap (R.enc T) = ((xs.flatMap (R.enc T)).drop (off * R.sz T)).take (len * R.sz T) := by
  have hd : ∀ (xs : List (A T)) (k : Nat), (xs.drop k).flatMap (R.enc T) = (xs.flatMap (R.enc T)).drop (k * R.sz T) := by
    intro xs
    induction xs with
    | nil => intro k; simp
    | cons x xs ih =>
      intro k
      cases k with
      | zero => simp
      | succ k =>
        have e : (R.enc T x).drop ((k + 1) * R.sz T) = [] := List.drop_eq_nil_of_le (by rw [R.len, Nat.add_mul]; omega)
        rw [List.drop_succ_cons, ih, List.flatMap_cons, List.drop_append, R.len, e, List.nil_append]
        congr 1
        rw [Nat.add_mul]; omega
  have ht : ∀ (xs : List (A T)) (k : Nat), (xs.take k).flatMap (R.enc T) = (xs.flatMap (R.enc T)).take (k * R.sz T) := by
    intro xs
    induction xs with
    | nil => intro k; simp
    | cons x xs ih =>
      intro k
      cases k with
      | zero => simp
      | succ k =>
        have e : (R.enc T x).take ((k + 1) * R.sz T) = R.enc T x := List.take_of_length_le (by rw [R.len, Nat.add_mul]; omega)
        have e2 : (k + 1) * R.sz T - R.sz T = k * R.sz T := by rw [Nat.add_mul]; omega
        rw [List.take_succ_cons, List.flatMap_cons, ih, List.flatMap_cons, List.take_append, R.len, e, e2]
  rw [ht, hd]
/-- A slice of one's own as a source. -/
theorem src_sl (hI : SInv E.reg n X E0 ρ0 w0 st ρ a w) {h off len : Nat} {U : Nat} {xs : List (A U)} (hh : st.h h = some (.arr U xs)) (hle : off + len ≤ xs.length) {v : Value} (hv : Den E.reg ρ (fun b => X b ∨ OwnB st.h ρ b) w (.sl h (E.reg.sz U) off len) v) :
    ∃ new, Src P (E.reg.sz U) len v w new ∧ DenA E.reg ρ (fun b => X b ∨ OwnB st.h ρ b) w (((xs.drop off).take len).flatMap (E.reg.enc U)) new := by
  cases hv with
  | slnil _ _ hr => exact ⟨#[], src_nil _, by simp, fun j s u hs => by simp at hs⟩
  | sl _ _ _ _ cap b base o c F fz hr hb hl ho hs =>
    obtain ⟨c', F', fz', h1, h2, h3, h4, h5, h6⟩ := hI.block hh rfl hr
    rw [hb] at h1; cases h1
    have hfl : (Ct.flat E.reg (.arr U xs)).length = xs.length * E.reg.sz U := flat_len (E.reg.len U) xs
    have hle' : off * E.reg.sz U + len * E.reg.sz U ≤ xs.length * E.reg.sz U := by rw [← Nat.add_mul]; exact Nat.mul_le_mul_right _ hle
    rcases Nat.eq_zero_or_pos cap with e | e
    · have : len = 0 := by omega
      subst this
      exact ⟨#[], src_nil _, by simp, fun j s u hs => by simp at hs⟩
    · have ho : o = base + off * E.reg.sz U := by omega
      subst ho
      refine ⟨_, src_of (cap := cap) hb (fun j => c.getD (base + (off * E.reg.sz U + j)) undef) (fun j hj => by rw [Nat.add_assoc]; exact h4 _ (by omega)), ?_, fun j s u hs hu => ?_⟩
      · rw [drop_take_flat, List.length_take, List.length_drop, show (xs.flatMap (E.reg.enc U)).length = xs.length * E.reg.sz U from hfl]; simp; omega
      · rw [drop_take_flat, List.getElem?_take] at hs
        split at hs
        · rename_i hj
          rw [List.getElem?_drop] at hs
          simp [hj] at hu
          subst hu
          have := h5 _ s hs
          rwa [Array.getD_eq_getD_getElem?] at this
        · cases hs
theorem DenA.append {O : Nat → Prop} {R : Reg A} {cs ds : List (SV A)} {c e : Array Value} (h1 : DenA R ρ O w cs c) (h2 : DenA R ρ O w ds e) : DenA R ρ O w (cs ++ ds) (c ++ e) := by
  refine ⟨by simp [h1.1, h2.1], fun j s u hs hu => ?_⟩
  by_cases hj : j < cs.length
  · rw [List.getElem?_append_left hj] at hs
    rw [Array.getElem?_append_left (by have := h1.1; omega)] at hu
    exact h1.2 j s u hs hu
  · rw [List.getElem?_append_right (by omega)] at hs
    rw [Array.getElem?_append_right (by have := h1.1; omega)] at hu
    rw [← h1.1] at hu
    exact h2.2 _ s u hs hu
theorem men_rows {T : Nat} (f : Nat → Bool) (xs : List (A T)) : menCt f (.arr T xs) = true := rfl

/-- What append does where there is no room. -/
theorem run_append_grow (hE : E.Ok P) {T T2 U el2 : TypeId} {te : TI} {ats : Array TypeId} {ty : TypeId} (ha0 : ats[0]? = some T) (ha1 : ats[1]? = some T2) (hu : P.underlying T = some (.slice U)) (hu2 : P.underlying T2 = some (.slice el2))
    (hte : E.tt U = some te) (hby : 1 ≤ te.bytes) {base : Option Addr} {len cap k : Nat} {vx : Value} {old new : Array Value} (hsrc : Src P te.size k vx w new) (hold : Src P te.size len (.slice base len cap) w old) (hroom : cap < len + k) (hbytes : (len + k) * te.bytes ≤ 140737488355328) :
    ∃ (newCap q : Nat) (rest : Array Value), len + k ≤ newCap ∧ rest.size = (newCap - (len + k)) * te.zero.cells.size ∧ (Builtin.append_ ats ty #[.slice base len cap, vx]).run P w =
      .ok (.slice (some ⟨w.heap.size, 0, none⟩) (len + k) newCap) (({ w with drawn := q } : World).alloc (.cells (old ++ new ++ rest) U)) := by
  have ht := hE.tt U te hte
  obtain ⟨d1, i1, hd1, hi1, _, hs1, hb1, hz1, _⟩ := tiOf_inv ht
  have hfit := growslice_fits (bytes := te.bytes) hroom hbytes
  refine ⟨(Question.appendCap (len + k) cap U).cut (w.tape w.drawn (.appendCap (len + k) cap U)), w.drawn + 1, Builtin.zeroCells te.zero.cells ((Question.appendCap (len + k) cap U).cut (w.tape w.drawn (.appendCap (len + k) cap U)) - (len + k)), ?_, by simp [Builtin.zeroCells], ?_⟩
  · simp [Question.cut]
  · have hz : (zeroValue U).run P { w with drawn := w.drawn + 1 } = .ok te.zero { w with drawn := w.drawn + 1 } := run_zero_sx ht _
    have hch : ∀ {β : Type} (f : Nat → Sem β), (choose (.appendCap (len + k) cap U) >>= f).run P w = (f ((Question.appendCap (len + k) cap U).cut (w.tape w.drawn (.appendCap (len + k) cap U)))).run P { w with drawn := w.drawn + 1 } := fun f => rfl
    have hfo : (Question.appendCap (len + k) cap U).forced = false := rfl
    generalize hq : (Question.appendCap (len + k) cap U).cut (w.tape w.drawn (.appendCap (len + k) cap U)) = nc at *
    have hn : ¬ (len + k ≤ cap) := by omega
    have hi : ∀ w' : World, (typeInfo U).run P w' = .ok i1 w' := fun w' => by simp [typeInfo, hi1]
    have hold' : (Builtin.firstCells te.size len (.slice base len cap)).run P w.drew = .ok old w.drew := hold.2 (w.drawn + 1)
    have hnew' : (Builtin.firstCells te.size k vx).run P w.drew = .ok new w.drew := hsrc.2 (w.drawn + 1)
    have hz' : (zeroValue U).run P w.drew = .ok te.zero w.drew := hz
    have hlen' := hsrc.1
    have hb0 : i1.bytes ≠ 0 := by omega
    have hfit' : ¬ (281474976710656 < Builtin.nextslicecap (len + k) cap * i1.bytes) := by rw [hb1]; omega
    simp [Builtin.append_, ha0, ha1, run_underlying hu, run_underlying hu2, run_sizeOf_sx ht, hlen', hn, hi, hb0, hfit', hfo, hold', hnew', hz', hq, run_newRow]
/-- What append does where there is room. -/
theorem run_append_room (hE : E.Ok P) {T T2 U el2 : TypeId} {te : TI} {ats : Array TypeId} {ty : TypeId} (ha0 : ats[0]? = some T) (ha1 : ats[1]? = some T2) (hu : P.underlying T = some (.slice U)) (hu2 : P.underlying T2 = some (.slice el2))
    (hte : E.tt U = some te) {b o len cap k : Nat} {vx : Value} {new c : Array Value} {F : TypeId} {fz : Nat × Nat} (hsrc : Src P te.size k vx w new) (hroom : len + k ≤ cap) (hb : w.heap[b]? = some (.cells c F fz)) (hz : fz.2 ≤ fz.1 ∨ c.size ≤ fz.1)
    (hl : o + len * te.size + new.size ≤ c.size) (h1 : ∀ u ∈ new.toList, u.oneCell' = true) :
    (Builtin.append_ ats ty #[.slice (some ⟨b, o, none⟩) len cap, vx]).run P w = .ok (.slice (some ⟨b, o, none⟩) (len + k) cap) (w.setRow b (over c (o + len * te.size) new.toList)) := by
  have ht := hE.tt U te hte
  have hlen' := hsrc.1
  have hnew' : (Builtin.firstCells te.size k vx).run P w = .ok new w := hsrc.2 w.drawn
  have hst := run_storeCells_sx (P := P) (o + len * te.size) new.toList 0 c w hb hz (by simpa using hl) h1
  simp [Builtin.append_, ha0, ha1, run_underlying hu, run_underlying hu2, run_sizeOf_sx ht, hlen', hroom, hnew', add_off]
  simp at hst
  simp [hst]
theorem run_append_nothing (hE : E.Ok P) {T T2 U el2 : TypeId} {te : TI} {ats : Array TypeId} {ty : TypeId} (ha0 : ats[0]? = some T) (ha1 : ats[1]? = some T2) (hu : P.underlying T = some (.slice U)) (hu2 : P.underlying T2 = some (.slice el2))
    (hte : E.tt U = some te) {base : Option Addr} {len cap : Nat} {vx : Value} {new : Array Value} (hsrc : Src P te.size 0 vx w new) (hn : new.size = 0) (hroom : len ≤ cap) :
    (Builtin.append_ ats ty #[.slice base len cap, vx]).run P w = .ok (.slice base len cap) w := by
  have ht := hE.tt U te hte
  have hlen' := hsrc.1
  have hnew' : (Builtin.firstCells te.size 0 vx).run P w = .ok new w := hsrc.2 w.drawn
  have hn' : new = #[] := by simpa using hn
  subst hn'
  cases base with
  | none => simp [Builtin.append_, ha0, ha1, run_underlying hu, run_underlying hu2, run_sizeOf_sx ht, hlen', hroom, hnew']
  | some x => simp [Builtin.append_, ha0, ha1, run_underlying hu, run_underlying hu2, run_sizeOf_sx ht, hlen', hroom, hnew', storeCells]

theorem rows_one {O : Nat → Prop} {T : Nat} {xs : List (A T)} {new : Array Value} (h : DenA E.reg ρ O w (xs.flatMap (E.reg.enc T)) new) : ∀ u ∈ new.toList, u.oneCell' = true := fun u hu => by
  obtain ⟨j, hj⟩ := List.getElem?_of_mem hu
  rw [Array.getElem?_toList] at hj
  have hlt : j < (xs.flatMap (E.reg.enc T)).length := by rw [h.1]; exact (Array.getElem?_eq_some_iff.1 hj).1
  exact (h.2 j _ u (List.getElem?_eq_getElem hlt) hj).oneCell (flatMap_get (P := fun s => cellOk s = true) (fun x _ i s hi => closed_ok (E.reg.closed T x i s hi)) j _ (List.getElem?_eq_getElem hlt))

/-- The grown slice, as a new block. -/
theorem grow_inv (hI : SInv E.reg n X E0 ρ0 w0 st ρ a w) (hd : okDst n d = true) {nm U len newCap q : Nat} {ys : List (A U)} (hf : fresh st.u [nm] = true) (hlen : ys.length = len) {all rest : Array Value} (hA : DenA E.reg ρ (fun b => X b ∨ OwnB st.h ρ b) w (ys.flatMap (E.reg.enc U)) all)
    (hcap : len ≤ newCap) (hrest : rest.size = (newCap - len) * E.reg.sz U) :
    SInv E.reg n X E0 ρ0 w0 (st.upd d (.sl nm (E.reg.sz U) 0 len) [(nm, some (.arr U ys))] [nm]) (setR ρ nm (some (w.heap.size, 0))) (a.put d (.slice (some ⟨w.heap.size, 0, none⟩) len newCap)) (({ w with drawn := q } : World).alloc (.cells (all ++ rest) U)) := by
  have hfl : (Ct.flat E.reg (.arr U ys)).length = len * E.reg.sz U := by rw [← hlen]; exact flat_len (E.reg.len U) ys
  have hsz : all.size = len * E.reg.sz U := by rw [← hfl]; exact hA.1.symm
  refine (hI.drawn q).alloc hd hf rfl (by simp; omega) (fun j s u hs hu => ?_) rfl (fun O' => ?_) (beq_self nm)
  · have hj : j < all.size := by rw [hsz, ← hfl]; exact (List.getElem?_eq_some_iff.1 hs).1
    rw [Array.getElem?_append_left hj] at hu
    exact (hA.2 j s u hs hu).mono ⟨fun _ _ _ _ h hb => ⟨h, hb⟩, fun _ c _ fz h => ⟨c, fz, h, rfl⟩, fun _ _ h => h⟩
  · have := Den.sl (R := E.reg) (ρ := setR ρ nm (some (w.heap.size, 0))) (O := O') (w := ({ w with drawn := q } : World).alloc (.cells (all ++ rest) U)) nm (E.reg.sz U) 0 len newCap w.heap.size 0 0 (all ++ rest) U (0, 0) setR_eq heap_alloc_new hcap (.inr (by simp))
      (by simp only [Array.size_append, hsz, hrest, Nat.zero_add, ← Nat.add_mul]; rw [Nat.add_sub_cancel' hcap]; exact Nat.le_refl _)
    exact this

theorem zero_size (_hE : E.Ok P) {U : TypeId} {te : TI} (_hte : E.tt U = some te) (h : te.zero.cells.size = te.size) : te.zero.cells.size = te.size := h

theorem snd_appTo (hE : E.Ok P) (hI : SInv E.reg n X E0 ρ0 w0 st ρ a w) (hd : okDst n d = true) {T T2 U el2 : TypeId} {te : TI} {ats : Array TypeId} {ty : TypeId} (ha0 : ats[0]? = some T) (ha1 : ats[1]? = some T2) (hu : P.underlying T = some (.slice U)) (hu2 : P.underlying T2 = some (.slice el2))
    (hte : E.tt U = some te) (hsz : te.size = E.reg.sz U) (hby : 1 ≤ te.bytes) (hzs : te.zero.cells.size = te.size) {nm nn : Nat} {p : Prop} {ss : SV A} {vs vx : Value} {ys : List (A U)} (hnn : p → nn = ys.length)
    (hs : Den E.reg ρ (fun b => X b ∨ OwnB st.h ρ b) w ss vs) (hsrc : p → ∃ new, Src P (E.reg.sz U) ys.length vx w new ∧ DenA E.reg ρ (fun b => X b ∨ OwnB st.h ρ b) w (ys.flatMap (E.reg.enc U)) new) :
    Snd P E.reg n X E0 ρ0 w0 st a w d (appTo E nm U te.bytes p nn ss ys) (Builtin.append_ ats ty #[vs, vx]) := by
  unfold appTo
  split
  · -- onto nil
    obtain rfl := val_inv hs
    refine .vc fun ⟨hp, hb⟩ => ?_
    obtain rfl := hnn hp
    obtain ⟨new, h1, h2⟩ := hsrc hp
    intro R0 K hf hK
    by_cases h0 : ys.length = 0
    · have hnil : ys = [] := by simpa using h0
      subst hnil
      have hn0 : new.size = 0 := by rw [← h2.1]; simp
      refine ⟨_, w, _, _, setR ρ nm none, run_append_nothing hE ha0 ha1 hu hu2 hte (hsz ▸ h1) hn0 (Nat.le_refl _), hK, hI.none hd hf rfl rfl (fun O' => .slnil nm _ setR_eq) (beq_self nm)⟩
    · obtain ⟨newCap, q, rest, g1, g2, g3⟩ := run_append_grow hE (ty := ty) ha0 ha1 hu hu2 hte hby (base := none) (len := 0) (cap := 0) (hsz ▸ h1) (src_nil none) (by omega) (by simpa using hb)
      rw [Nat.zero_add] at g1 g2 g3
      rw [show (#[] : Array Value) ++ new ++ rest = new ++ rest by simp] at g3
      exact ⟨_, _, _, _, setR ρ nm (some (w.heap.size, 0)), g3, hK, grow_inv hI hd (q := q) hf rfl h2 g1 (by rw [g2, hzs, hsz])⟩
  · rename_i h sz off len
    refine .ask ?_
    cases hh : st.h h with
    | none => exact .no
    | some ct =>
      cases ct with
      | cells cs => exact .no
      | map _ _ _ => exact .no
      | arr V xs =>
        dsimp only
        split
        · rename_i e e1 _
          subst e
          obtain rfl := beq_true e1
          refine .vc fun ⟨hp, hle, hb⟩ => ?_
          obtain rfl := hnn hp
          obtain ⟨new, h1, h2⟩ := hsrc hp
          obtain ⟨old, h3, h4⟩ := src_sl hI hh hle hs
          intro R0 K hf hK
          have hall := h4.append h2
          rw [← List.flatMap_append] at hall
          have hl3 : (((xs.drop off).take len) ++ ys).length = len + ys.length := by simp; omega
          have hnsz : new.size = ys.length * E.reg.sz V := by rw [← h2.1]; exact flat_len (E.reg.len V) ys
          have hfresh := hf
          have hvs : ∃ base cap, vs = .slice base len cap := by
            cases hs with
            | slnil => exact ⟨_, _, rfl⟩
            | sl => exact ⟨_, _, rfl⟩
          obtain ⟨base, cap, rfl⟩ := hvs
          by_cases hroom : len + ys.length ≤ cap
          · -- there is room
            cases hs with
            | slnil _ _ hr =>
              have h0 : ys.length = 0 := by omega
              have hnil : ys = [] := by simpa using h0
              subst hnil
              exact ⟨_, w, _, _, setR ρ nm none, run_append_nothing hE ha0 ha1 hu hu2 hte (hsz ▸ h1) (by simpa using hnsz) (Nat.le_refl _), hK, (hI.none hd hf (ct := .arr V ((xs.drop 0).take 0 ++ [])) (by simp [Ct.flat]) rfl (fun O' => .slnil nm _ setR_eq) (beq_self nm)).drop⟩
            | sl _ _ _ _ _ b bb o c F fz hr hb' hl ho hs' =>
              obtain ⟨c0, F0, fz0, k1, k2, k3, k4, k5, k6⟩ := hI.block hh rfl hr
              rw [hb'] at k1; cases k1
              have hfl : (Ct.flat E.reg (.arr V xs)).length = xs.length * E.reg.sz V := flat_len (E.reg.len V) xs
              have hfl2 : (Ct.flat E.reg (.arr V ((xs.drop off).take len ++ ys))).length = (len + ys.length) * E.reg.sz V := by rw [← hl3]; exact flat_len (E.reg.len V) _
              have hle2 : (off + (len + ys.length)) * E.reg.sz V ≤ (off + cap) * E.reg.sz V := Nat.mul_le_mul_right _ (by omega)
              have hle3 : off * E.reg.sz V + len * E.reg.sz V ≤ xs.length * E.reg.sz V := by rw [← Nat.add_mul]; exact Nat.mul_le_mul_right _ hle
              have hm1 : (off + (len + ys.length)) * E.reg.sz V = off * E.reg.sz V + len * E.reg.sz V + ys.length * E.reg.sz V := by rw [Nat.add_mul, Nat.add_mul]; omega
              have hm2 : (len + ys.length) * E.reg.sz V = len * E.reg.sz V + ys.length * E.reg.sz V := Nat.add_mul _ _ _
              by_cases h0 : ys.length = 0
              · have hnil : ys = [] := by simpa using h0
                subst hnil
                have hsame : w.setRow b c = w := setRow_self w b c F fz hb'
                have hT := hI.take (nm := nm) (k := off * E.reg.sz V) (ct' := .arr V ((xs.drop off).take len ++ [])) (c' := c) (sv := .sl nm (E.reg.sz V) 0 (len + ([] : List (A V)).length)) (v := .slice (some ⟨b, o, none⟩) (len + 0) cap) hd hf hh hr hb' k2 rfl rfl
                  (by rw [hfl2]; simp at hm2 ⊢; omega)
                  (fun j s u hs2 hu2' => by
                    have hj : j < len * E.reg.sz V := by have := (List.getElem?_eq_some_iff.1 hs2).1; rw [hfl2] at this; simpa using this
                    simp only [Ct.flat, List.append_nil] at hs2
                    rw [drop_take_flat, List.getElem?_take, if_pos hj, List.getElem?_drop] at hs2
                    have := k5 _ s hs2
                    have hg := k4 _ (List.getElem?_eq_some_iff.1 hs2).1
                    rw [Nat.add_assoc] at hu2'
                    rw [hg] at hu2'
                    cases hu2'
                    exact this) rfl
                  (fun O' => by
                    rw [hsame]
                    refine .sl nm (E.reg.sz V) 0 len cap b (bb + off * E.reg.sz V) o c F fz setR_eq hb' hl (ho.imp id fun h => by rw [h]; omega) ?_
                    rw [Nat.zero_add]; rw [Nat.add_mul] at hs'; omega) (beq_self nm)
                rw [hsame] at hT
                exact ⟨_, w, _, _, _, run_append_nothing hE ha0 ha1 hu hu2 hte (hsz ▸ h1) (by simpa using hnsz) hl, hK, hT⟩
              · have ho' : o = bb + off * E.reg.sz V := by omega
                subst ho'
                have hrun := run_append_room hE (ty := ty) (o := bb + off * E.reg.sz V) (len := len) ha0 ha1 hu hu2 hte (hsz ▸ h1) hroom hb' k2 (by rw [hsz, hnsz]; omega) (rows_one h2)
                rw [hsz] at hrun
                have hover : bb + off * E.reg.sz V + len * E.reg.sz V + new.toList.length ≤ c.size := by simp only [Array.length_toList, hnsz]; omega
                refine ⟨_, _, _, _, _, hrun, hK, hI.take (k := off * E.reg.sz V) hd hf hh hr hb' k2 (over_size hover) rfl (by rw [hfl2]; omega) (fun j s u hs2 hu2' => ?_) rfl (fun O' => ?_) (beq_self nm)⟩
                · rw [over_get hover] at hu2'
                  simp only [Array.length_toList, hnsz] at hu2'
                  simp only [Ct.flat, List.flatMap_append] at hs2
                  have hlen1 : (((xs.drop off).take len).flatMap (E.reg.enc V)).length = len * E.reg.sz V := by rw [flat_len (E.reg.len V), List.length_take, List.length_drop, Nat.min_eq_left (by omega)]
                  by_cases hj : j < len * E.reg.sz V
                  · rw [if_neg (by omega)] at hu2'
                    rw [List.getElem?_append_left (by omega), drop_take_flat, List.getElem?_take, if_pos hj, List.getElem?_drop] at hs2
                    have := k5 _ s hs2
                    have hg := k4 _ (List.getElem?_eq_some_iff.1 hs2).1
                    rw [Nat.add_assoc, hg] at hu2'
                    cases hu2'
                    exact this
                  · rw [List.getElem?_append_right (by omega), hlen1] at hs2
                    have hj2 : j - len * E.reg.sz V < ys.length * E.reg.sz V := by have := (List.getElem?_eq_some_iff.1 hs2).1; rwa [flat_len (E.reg.len V)] at this
                    rw [if_pos (by omega), Array.getElem?_toList] at hu2'
                    exact h2.2 _ s u hs2 (by rw [← hu2']; congr 1; omega)
                · refine .sl nm (E.reg.sz V) 0 (len + ys.length) cap b (bb + off * E.reg.sz V) _ _ F fz setR_eq (setRow_heap w b _ _ _ _ hb') hroom (.inr (by omega)) ?_
                  rw [over_size hover, Nat.zero_add]; rw [Nat.add_mul] at hs'; omega
          · -- it grows
            obtain ⟨newCap, q, rest, g1, g2, g3⟩ := run_append_grow hE (ty := ty) ha0 ha1 hu hu2 hte hby (hsz ▸ h1) (hsz ▸ h3) (by omega) hb
            have := grow_inv hI hd (q := q) hf hl3 hall g1 (by rw [g2, hzs, hsz])
            exact ⟨_, _, _, _, setR ρ nm (some (w.heap.size, 0)), g3, hK, this.drop⟩
        · exact .no
  · exact .no
theorem withBytes_eq {β : Type 1} (te : TI) (k : Nat → β) : withBytes te k = k te.bytes := by cases te; rfl
theorem snd_append (hE : E.Ok P) (hI : SInv E.reg n X E0 ρ0 w0 st ρ a w) (hd : okDst n d = true) {T T2 nm : Nat} {ats : Array TypeId} {ty : TypeId} (ha0 : ats[0]? = some T) (ha1 : ats[1]? = some T2) {s x : SV A} {vs vx : Value}
    (hs : Den E.reg ρ (fun b => X b ∨ OwnB st.h ρ b) w s vs) (hx : Den E.reg ρ (fun b => X b ∨ OwnB st.h ρ b) w x vx) : Snd P E.reg n X E0 ρ0 w0 st a w d (xappend E nm T T2 s x) (Builtin.append_ ats ty #[vs, vx]) := by
  unfold xappend
  split
  · rename_i ti t2 hti ht2
    obtain ⟨d1, i1, hd1, _, hk1, _⟩ := tiOf_inv (hE.tt T ti hti)
    obtain ⟨d2, i2, hd2, _, hk2, _⟩ := tiOf_inv (hE.tt T2 t2 ht2)
    split
    · rename_i U el2 hf1 hf2
      rw [hf1] at hk1
      rw [hf2] at hk2
      obtain rfl := kind_slice hk1
      obtain rfl := kind_slice hk2
      split
      · rename_i te hte
        rw [withBytes_eq]
        split
        · rename_i e1 e2 e3 e4
          have e2 := beq_true e2
          have e3 := ble_true e3
          have e4 := beq_true e4
          have key : ∀ {p : Prop} {nn : Nat} {ss : SV A} {ys : List (A U)}, (p → nn = ys.length) → Den E.reg ρ (fun b => X b ∨ OwnB st.h ρ b) w ss vs → (p → ∃ new, Src P (E.reg.sz U) ys.length vx w new ∧ DenA E.reg ρ (fun b => X b ∨ OwnB st.h ρ b) w (ys.flatMap (E.reg.enc U)) new) →
              Snd P E.reg n X E0 ρ0 w0 st a w d (appTo E nm U te.bytes p nn ss ys) (Builtin.append_ ats ty #[vs, vx]) := fun hnn hss hsrc => snd_appTo hE hI hd ha0 ha1 hd1 hd2 hte e2 e3 e4 hnn hss hsrc
          split
          · rename_i h sz off len
            split
            · rename_i hsz
              have hsz := beq_true hsz
              refine .ask ?_
              cases hh : st.h h with
              | none => exact .no
              | some ct =>
                cases ct with
                | cells cs => exact .no
                | map _ _ _ => exact .no
                | arr V xs =>
                  dsimp only
                  split
                  · rename_i e _
                    subst e
                    have hsrc : off + len ≤ xs.length → ∃ new, Src P (E.reg.sz V) ((xs.drop off).take len).length vx w new ∧ DenA E.reg ρ (fun b => X b ∨ OwnB st.h ρ b) w (((xs.drop off).take len).flatMap (E.reg.enc V)) new := fun hle => by
                      have hl : ((xs.drop off).take len).length = len := by simp; omega
                      rw [hl]
                      rw [hsz, e2] at hx
                      exact src_sl hI hh hle hx
                    split
                    · split
                      · exact .no
                      · exact key (fun hle => by simp; omega) hs hsrc
                    · exact key (fun hle => by simp; omega) hs hsrc
                  · exact .no
            · exact .no
          · rename_i V xs
            split
            · rename_i e _
              subst e
              exact key (fun _ => rfl) hs fun _ => src_lst hx
            · exact .no
          · obtain rfl := val_inv hx
            exact key (fun _ => rfl) hs fun _ => ⟨#[], src_nil _, rfl, fun j s u hs => by simp at hs⟩
          · exact .no
        · exact .no
      · exact .no
    · exact .no
  · exact .no
theorem replicate_rows {R : Reg A} {T : Nat} (z : A T) : ∀ k, (List.replicate k z).flatMap (R.enc T) = rowsS k (R.enc T z)
  | 0 => rfl
  | k + 1 => by rw [List.replicate_succ, List.flatMap_cons, replicate_rows z k]; rfl
theorem snd_makeSlice (hE : E.Ok P) (hI : SInv E.reg n X E0 ρ0 w0 st ρ a w) (hd : okDst n d = true) {T : TypeId} {nm : Nat} {x y : SV A} {u v : Value}
    (hx : Den E.reg ρ (fun b => X b ∨ OwnB st.h ρ b) w x u) (hy : Den E.reg ρ (fun b => X b ∨ OwnB st.h ρ b) w y v) : Snd P E.reg n X E0 ρ0 w0 st a w d (xmakeSlice E nm T x y) (Instr.makeSlice T u v) := by
  unfold xmakeSlice
  split
  · rename_i ti l c hti
    obtain rfl := int_inv hx
    obtain rfl := int_inv hy
    obtain ⟨dd, ii, hu, hi, hk, hs, hb, hz, _⟩ := tiOf_inv (hE.tt T ti hti)
    split
    · rename_i elem hfs
      rw [hfs] at hk
      obtain rfl := kind_slice hk
      split
      · rename_i te hte
        obtain ⟨_, ie, _, hie, _, hse, hbe, hze, _⟩ := tiOf_inv (hE.tt elem te hte)
        rw [withBytes_eq]
        split
        · rename_i z c1 c2 c3 c4
          have e1 := E.reg.ok elem _ z c2
          have c3 := beq_true c3
          rintro R0 K hfr ⟨⟨rfl, h0, hbt, h63⟩, hK⟩
          have hrun := run_make (P := P) w T elem ie te.zero hu hie hze .i64 .i64 l l h0 (Int.le_refl _) (by rw [hbe]; exact hbt) h63
          rw [hse] at hrun
          have hzl : (zeroCellsS (A := A) te.zero).length = te.size := by simp [zeroCellsS, c3]
          have hfl : (Ct.arr (A := A) elem (List.replicate l.toNat z)).flat E.reg = rowsS l.toNat (zeroCellsS te.zero) := by
            show (List.replicate l.toNat z).flatMap (E.reg.enc elem) = _
            rw [replicate_rows, e1]
          refine ⟨_, _, _, _, _, hrun, hK, hI.alloc hd hfr rfl (by rw [hfl, rowsS_len, hzl]; simp [madeCells]) (fun j s u hs hu => ?_) rfl (fun O' =>
            .sl nm te.size 0 l.toNat l.toNat w.heap.size 0 0 _ elem (0, 0) setR_eq heap_alloc_new (Nat.le_refl _) (.inr (by simp)) (by simp [madeCells])) (beq_self nm)⟩
          rw [hfl] at hs
          have hj : j < l.toNat * te.size := by rw [← hzl, ← rowsS_len]; exact (List.getElem?_eq_some_iff.1 hs).1
          have h3 := rowsS_get _ j s hs
          have h4 := (denA_zero (R := E.reg) (ρ := ρ) (O := fun b => X b ∨ OwnB st.h ρ b) (w := w) te.zero)
          rw [hzl, ← c3] at h3
          have hlt : j % te.zero.cells.size < te.zero.cells.size := by
            have := (List.getElem?_eq_some_iff.1 h3).1
            rwa [hzl, ← c3] at this
          refine h4.2 _ s u h3 ?_
          simp [madeCells, hj] at hu
          rw [← hu, Array.getElem?_eq_getElem hlt, getElem!_pos te.zero.cells _ hlt]
        · exact .no
      · exact .no
    · exact .no
  · exact .no
end
end Go.Sx
