/-
  Own tool 'Sx', part D: what a state says of a frame and a world; one step of it.
-/
import Derived.Test.YtmogappoadglgaaSxC
namespace Go.Sx
open Go
variable {A : Nat → Type}

mutual
theorem men_mono {f g : Nat → Bool} (h : ∀ n, f n = true → g n = true) : ∀ s : SV A, men f s = true → men g s = true
  | .ptr n _ _ _ => fun hm => h n hm
  | .sl n _ _ _ => fun hm => h n hm
  | .mp n => fun hm => h n hm
  | .agg cs => fun hm => menL_mono h cs hm
  | .tup cs => fun hm => menL_mono h cs hm
  | .fn _ a b => fun hm => by
    simp only [men, Bool.and_eq_true] at hm ⊢
    exact ⟨menL_mono h a hm.1, menL_mono h b hm.2⟩
  | .val _ => fun _ => rfl
  | .lst _ _ => fun _ => rfl
  | .prow cs _ => fun hm => menL_mono h cs hm
  | .aggl _ _ => fun _ => rfl
theorem menL_mono {f g : Nat → Bool} (h : ∀ n, f n = true → g n = true) : ∀ cs : List (SV A), menL f cs = true → menL g cs = true
  | [] => fun _ => rfl
  | c :: cs => fun hm => by
    simp only [menL, Bool.and_eq_true] at hm ⊢
    exact ⟨men_mono h c hm.1, menL_mono h cs hm.2⟩
end
theorem menCt_mono {f g : Nat → Bool} (h : ∀ n, f n = true → g n = true) (ct : Ct A) (hm : menCt f ct = true) : menCt g ct = true := by
  cases ct with
  | cells cs => exact menL_mono h cs hm
  | arr T xs => rfl
  | map K V es => rfl

/-! ### Types -/
theorem tiOf_inv {P : Program} {T : TypeId} {ti : TI} (h : tiOf P T = some ti) :
    ∃ d i, P.underlying T = some d ∧ P.info? T = some i ∧ kindOf d = ti.k ∧ i.size = ti.size ∧ i.bytes = ti.bytes ∧ i.zero = some ti.zero ∧ ((kindOf d).isAgg && !P.stoodInHeld T && !P.eqGuardType P.depth T) = ti.eq ∧ noBlank d = true := by
  unfold tiOf at h
  split at h
  · rename_i d i hd hi
    split at h
    · rename_i hn
      cases hz : i.zero with
      | none => rw [hz] at h; cases h
      | some z => rw [hz] at h; simp only [Option.map_some, Option.some.injEq] at h; subst h; exact ⟨d, i, hd, hi, rfl, rfl, rfl, hz, rfl, hn⟩
    · cases h
  · cases h
theorem kind_slice {d : TypeDesc} {e : TypeId} (h : kindOf d = .slice e) : d = .slice e := by
  cases d <;> simp only [kindOf] at h <;> (cases h; try rfl)
theorem kind_arr {d : TypeDesc} {n : Nat} {e : TypeId} (h : kindOf d = .arr n e) : d = .array n e := by
  cases d <;> simp only [kindOf] at h <;> (cases h; try rfl)
theorem kind_str {d : TypeDesc} (h : kindOf d = .str) : d = .string := by
  cases d <;> simp only [kindOf] at h <;> (cases h; try rfl)
theorem kind_bool {d : TypeDesc} (h : kindOf d = .bool) : d = .bool := by
  cases d <;> simp only [kindOf] at h <;> (cases h; try rfl)
theorem kind_int {d : TypeDesc} {k : IntKind} (h : kindOf d = .int k) : d = .int k := by
  cases d <;> simp only [kindOf] at h <;> (cases h; try rfl)
theorem kind_ptr {d : TypeDesc} {e : TypeId} (h : kindOf d = .ptr e) : d = .pointer e := by
  cases d <;> simp only [kindOf] at h <;> (cases h; try rfl)
theorem kind_struct {d : TypeDesc} {fs : List (Nat × TypeId)} (h : kindOf d = .struct fs) : ∃ fields, d = .struct fields ∧ fs = fields.toList.map (fun f => (f.offset, f.type)) := by
  cases d <;> simp only [kindOf] at h <;> first | (cases h; done) | skip
  cases h; exact ⟨_, rfl, rfl⟩
theorem run_isAgg_sx {P : Program} {T : TypeId} {ti : TI} (h : tiOf P T = some ti) (w : World) : (Go.isAgg T).run P w = .ok ti.k.isAgg w := by
  obtain ⟨d, i, hd, hi, hk, _⟩ := tiOf_inv h
  rw [← hk]
  cases d <;> simp [Go.isAgg, run_underlying hd, kindOf, TK.isAgg]
theorem run_sizeOf_sx {P : Program} {T : TypeId} {ti : TI} (h : tiOf P T = some ti) (w : World) : (sizeOf T).run P w = .ok ti.size w := by
  obtain ⟨d, i, hd, hi, hk, hs, _⟩ := tiOf_inv h
  simp [sizeOf, typeInfo, hi, hs]
theorem run_zero_sx {P : Program} {T : TypeId} {ti : TI} (h : tiOf P T = some ti) (w : World) : (zeroValue T).run P w = .ok ti.zero w := by
  obtain ⟨d, i, hd, hi, hk, hs, hb, hz, _⟩ := tiOf_inv h
  simp [zeroValue, typeInfo, hi, hz]
theorem run_info_sx {P : Program} {T : TypeId} {ti : TI} (h : tiOf P T = some ti) (w : World) : ∃ i, (typeInfo T).run P w = .ok i w ∧ i.size = ti.size ∧ i.bytes = ti.bytes := by
  obtain ⟨d, i, hd, hi, hk, hs, hb, hz, _⟩ := tiOf_inv h
  exact ⟨i, by simp [typeInfo, hi], hs, hb⟩

/-! ### Cells of a block -/
theorem cell_at {w : World} {b : Nat} {c : Array Value} {E : TypeId} {fz : Nat × Nat} (h : w.heap[b]? = some (.cells c E fz)) (off : Nat) : w.cell? ⟨b, off, none⟩ = c[off]? := by
  simp [World.cell?, h]
theorem add_off (b off j : Nat) : (⟨b, off, none⟩ : Addr).add j = ⟨b, off + j, none⟩ := by unfold Addr.add; split <;> simp_all
theorem run_loadVar_sx {P : Program} {T : TypeId} {ti : TI} (ht : tiOf P T = some ti) {w : World} {b off : Nat} {c : Array Value} {E : TypeId} {fz : Nat × Nat} (hb : w.heap[b]? = some (.cells c E fz)) (g : Nat → Value)
    (hc : ∀ j, j < (if ti.k.isAgg then ti.size else 1) → c[off + j]? = some (g j)) :
    (loadVar T ⟨b, off, none⟩).run P w = .ok (if ti.k.isAgg then .agg ((List.range ti.size).map g).toArray else g 0) w := by
  cases hk : ti.k.isAgg with
  | true =>
    rw [hk] at hc
    have hl := run_loadCells (P := P) w ⟨b, off, none⟩ ti.size g (fun j hj => by rw [add_off, cell_at hb]; exact hc j hj)
    simp [loadVar, run_isAgg_sx ht, hk, run_sizeOf_sx ht, hl]
  | false =>
    rw [hk] at hc
    have h0 := hc 0 (by simp)
    have : w.cell? ⟨b, off, none⟩ = some (g 0) := by rw [cell_at hb]; exact h0
    simp [loadVar, run_isAgg_sx ht, hk, run_load, this]

/-- Cells laid over others from a place on. -/
def over (c : Array Value) (off : Nat) (vs : List Value) : Array Value := (c.toList.take off ++ vs ++ c.toList.drop (off + vs.length)).toArray
theorem over_size {c : Array Value} {off : Nat} {vs : List Value} (h : off + vs.length ≤ c.size) : (over c off vs).size = c.size := by
  simp [over]; omega
theorem over_get {c : Array Value} {off : Nat} {vs : List Value} (h : off + vs.length ≤ c.size) (j : Nat) : (over c off vs)[j]? = if off ≤ j ∧ j < off + vs.length then vs[j - off]? else c[j]? := by
  simp only [over, List.getElem?_toArray]
  rw [List.append_assoc, List.getElem?_append]
  have hl : (c.toList.take off).length = off := by simp; omega
  rw [hl]
  split
  · rename_i hj
    rw [if_neg (by omega), List.getElem?_take, if_pos hj]; simp
  · rename_i hj
    rw [List.getElem?_append]
    split
    · rename_i h2; rw [if_pos (by omega)]
    · rename_i h2
      rw [if_neg (by omega), List.getElem?_drop, Array.getElem?_toList]
      congr 1; omega
theorem run_storeCells_sx {P : Program} {b : Nat} {E : TypeId} {fz : Nat × Nat} (o : Nat) : ∀ (vs : List Value) (i : Nat) (c : Array Value) (w : World), w.heap[b]? = some (.cells c E fz) → (fz.2 ≤ fz.1 ∨ c.size ≤ fz.1) → o + i + vs.length ≤ c.size → (∀ v ∈ vs, v.oneCell' = true) →
    (storeCells ⟨b, o, none⟩ vs i).run P w = .ok () (w.setRow b (over c (o + i) vs))
  | [], i, c, w, hg, _, _, _ => by
    simp only [storeCells, over, List.append_nil, List.length_nil, Nat.add_zero, List.take_append_drop, Array.toArray_toList]
    rw [setRow_self w b c E fz hg]
    rfl
  | v :: rest, i, c, w, hg, hz, hl, h1 => by
    have hi : o + i < c.size := by simp at hl; omega
    have hcell : w.cell? ⟨b, o + i, none⟩ = some c[o + i] := by rw [cell_at hg]; simp [hi]
    have hfro : w.frozen? ⟨b, o + i, none⟩ = false := by
      obtain ⟨lo, hi'⟩ := fz
      simp only [World.frozen?, hg, Bool.and_eq_false_iff, decide_eq_false_iff_not]
      simp only at hz
      omega
    have hst : (store ((⟨b, o, none⟩ : Addr).add i) v).run P w = .ok () (w.setRow b (c.setIfInBounds (o + i) v)) := by
      rw [add_off, run_store P w _ v _ (h1 v (by simp)), hcell]
      simp [hfro, setCell_eq_setRow w b (o + i) c E fz v hg]
    have ih := run_storeCells_sx (P := P) o rest (i + 1) (c.setIfInBounds (o + i) v) (w.setRow b (c.setIfInBounds (o + i) v)) (setRow_heap w b c _ E _ hg) (by simpa using hz) (by simp at hl ⊢; omega) (fun x hx => h1 x (by simp [hx]))
    have e : over (c.setIfInBounds (o + i) v) (o + (i + 1)) rest = over c (o + i) (v :: rest) := by
      have e := list_seg_step c.toList (o + i) v rest (by simp at hl ⊢; omega)
      unfold over
      apply Array.ext'
      simpa [Array.toList_setIfInBounds, Nat.add_assoc] using e
    simp only [storeCells, Sem.run_bind, hst, Result.andThen_ok, ih, setRow_setRow, e]
theorem run_storeVar_sx {P : Program} {T : TypeId} {ti : TI} (ht : tiOf P T = some ti) {w : World} {b off : Nat} {c : Array Value} {E : TypeId} {fz : Nat × Nat} (hb : w.heap[b]? = some (.cells c E fz)) (hz : fz.2 ≤ fz.1 ∨ c.size ≤ fz.1) {v : Value}
    (hs : v.cells.size = ti.size) (hl : off + v.cells.size ≤ c.size) (h1 : ∀ u ∈ v.cells.toList, u.oneCell' = true) :
    (storeVar T ⟨b, off, none⟩ v).run P w = .ok () (w.setRow b (over c off v.cells.toList)) := by
  have := run_storeCells_sx (P := P) off v.cells.toList 0 c w hb hz (by simpa using hl) h1
  simp [storeVar, run_sizeOf_sx ht, hs, this]

/-! ### States -/
/-- The blocks that a state's names stand for. -/
def OwnB (h : Nat → Option (Ct A)) (ρ : Rho) (b : Nat) : Prop := ∃ (n : Nat) (ct : Ct A) (base : Nat), h n = some ct ∧ ρ n = some (b, base)

/-- The deferred calls are marks of ranges over functions, whose blocks are empty. -/
inductive Marks (w0 : World) : List Deferred → World → Prop where
  | nil (w : World) : Marks w0 [] w
  | cons (b : Nat) (ds : List Deferred) (w : World) (h0 : w0.heap.size ≤ b) (hb : w.heap[b]? = some (.deferred (some []))) (hn : ∀ d ∈ ds, d.target ≠ .collected b) (h : Marks w0 ds w) : Marks w0 (⟨.collected b, #[]⟩ :: ds) w
theorem Marks.mono {w0 w w' : World} {ds : List Deferred} (h : Marks w0 ds w) (hk : ∀ (b : Nat) x, w.heap[b]? = some (Obj.deferred x) → w'.heap[b]? = some (Obj.deferred x)) : Marks w0 ds w' := by
  induction h with
  | nil => exact .nil _
  | cons b ds w h0 hb hn _ ih => exact .cons b ds _ h0 (hk b _ hb) hn (ih hk)
theorem Marks.lt {w0 w : World} {ds : List Deferred} (h : Marks w0 ds w) : ∀ d ∈ ds, ∃ b, d = ⟨.collected b, #[]⟩ ∧ b < w.heap.size := by
  induction h with
  | nil => intro d hd; cases hd
  | cons b ds w h0 hb hn _ ih =>
    intro d hd
    rcases List.mem_cons.1 hd with rfl | hd
    · exact ⟨b, rfl, (Array.getElem?_eq_some_iff.1 hb).1⟩
    · exact ih d hd
theorem Marks.ge {w0 w : World} {ds : List Deferred} (h : Marks w0 ds w) : ∀ d ∈ ds, ∃ b, d = ⟨.collected b, #[]⟩ ∧ w0.heap.size ≤ b ∧ w.heap[b]? = some (.deferred (some [])) := by
  induction h with
  | nil => intro d hd; cases hd
  | cons b ds w h0 hb hn _ ih =>
    intro d hd
    rcases List.mem_cons.1 hd with rfl | hd
    · exact ⟨b, rfl, h0, hb⟩
    · exact ih d hd

structure SInv (R : Reg A) (n : Nat) (X E0 : Nat → Prop) (ρ0 : Rho) (w0 : World) (st : St A) (ρ : Rho) (a : Act) (w : World) : Prop where
  size : a.tmps.size = n
  slots : ∀ s sv, st.t s = some sv → Den R ρ (fun b => X b ∨ OwnB st.h ρ b) w sv (a.tmps.getD s undef)
  hs : ∀ h ct, st.h h = some ct → DenCt R ρ (fun b => X b ∨ OwnB st.h ρ b) w ct (ρ h)
  inj : ∀ h h' ct ct' b base base', st.h h = some ct → st.h h' = some ct' → ρ h = some (b, base) → ρ h' = some (b, base') → h = h'
  own : ∀ h ct b base, st.h h = some ct → ρ h = some (b, base) → (E0 b ∨ w0.heap.size ≤ b) ∧ ¬ X b
  used : ∀ h ct, st.h h = some ct → st.u h = true ∧ menCt st.u ct = true
  men : ∀ s sv, st.t s = some sv → men st.u sv = true
  xlt : ∀ b, X b → b < w0.heap.size ∧ ¬ E0 b
  rel : WRel E0 w0 w
  defers : Marks w0 a.defers w
  keep : ∀ h, h < 1000 → st.u h = true ∧ ρ h = ρ0 h

theorem updU_old {u : Nat → Bool} : ∀ {new : List Nat} {h : Nat}, u h = true → updU u new h = true
  | [], _, h => h
  | n :: l, i, h => by
    simp only [updU]
    split
    · rfl
    · exact updU_old h
theorem updU_new {u : Nat → Bool} : ∀ {new : List Nat} {h : Nat}, h ∈ new → updU u new h = true
  | n :: l, i, h => by
    simp only [updU]
    split
    · rfl
    · rename_i hb
      have : i ≠ n := fun e => by subst e; simp at hb
      exact updU_new (by simpa [this] using h)
theorem fresh_spec {u : Nat → Bool} : ∀ {new : List Nat}, fresh u new = true → ∀ h ∈ new, u h = false
  | [], _, h, hm => by cases hm
  | n :: l, hf, h, hm => by
    simp only [fresh] at hf
    split at hf
    · cases hf
    · rename_i hn
      rcases List.mem_cons.1 hm with rfl | hm
      · simpa using hn
      · exact fresh_spec hf h hm
theorem put_getD {a : Act} {d : Option Tmp} {v : Value} (s : Nat) (hd : ∀ i, d = some i → i < a.tmps.size) : (a.put d v).tmps.getD s undef = if d = some s then v else a.tmps.getD s undef := by
  cases d with
  | none => simp [Act.put]
  | some i =>
    have hi := hd i rfl
    simp only [Act.put, Option.some.injEq]
    by_cases e : i = s
    · subst e; simp [hi]
    · simp [e]
theorem okDst_spec {n : Nat} {d : Option Tmp} (h : okDst n d = true) : ∀ i, d = some i → i < n := by
  intro i e; subst e; exact (Nat.blt_eq (x := i) (y := n)) ▸ h
theorem updT_spec {t : Nat → Option (SV A)} {d : Option Tmp} {v : SV A} (s : Nat) : updT t d v s = if d = some s then some v else t s := by
  cases d with
  | none => simp [updT]
  | some i =>
    simp only [updT, Option.some.injEq]
    by_cases e : i = s
    · subst e; simp
    · have : Nat.beq s i = false := beq_false fun h => e h.symm
      simp [this, e]

section
variable {R : Reg A} {n : Nat} {X E0 : Nat → Prop} {ρ0 : Rho} {w0 : World} {st : St A} {ρ ρ' : Rho} {a : Act} {w w' : World}

/-- One step: what has to be shown of it. -/
theorem SInv.step (hI : SInv R n X E0 ρ0 w0 st ρ a w) {d : Option Tmp} {v : Value} {sv : SV A} {hs : List (Nat × Option (Ct A))} {new : List Nat}
    (hd : okDst n d = true) (hρ : ∀ h, st.u h = true → ρ' h = ρ h) (hrel : WRel E0 w0 w')
    (hgo : Goes (fun b => X b ∨ OwnB st.h ρ b) (fun b => X b ∨ OwnB (updH st.h hs) ρ' b) w w')
    (hct : ∀ h ct, updH st.h hs h = some ct → (st.h h = some ct ∧ ∀ b base, ρ h = some (b, base) → w'.heap[b]? = w.heap[b]?) ∨
      (DenCt R ρ' (fun b => X b ∨ OwnB (updH st.h hs) ρ' b) w' ct (ρ' h) ∧ (∀ b base, ρ' h = some (b, base) → (E0 b ∨ w0.heap.size ≤ b) ∧ ¬ X b) ∧ updU st.u new h = true ∧ menCt (updU st.u new) ct = true))
    (hinj : ∀ h h' ct ct' b base base', updH st.h hs h = some ct → updH st.h hs h' = some ct' → ρ' h = some (b, base) → ρ' h' = some (b, base') → h = h')
    (hden : Den R ρ' (fun b => X b ∨ OwnB (updH st.h hs) ρ' b) w' sv v) (hmen : Sx.men (updU st.u new) sv = true) :
    SInv R n X E0 ρ0 w0 (st.upd d sv hs new) ρ' (a.put d v) w' := by
  have hu : ∀ h, st.u h = true → updU st.u new h = true := fun _ h => updU_old h
  have hdd : ∀ i, d = some i → i < a.tmps.size := fun i e => by rw [hI.size]; exact okDst_spec hd i e
  refine ⟨?_, fun s sv' hs' => ?_, fun h ct hh => ?_, hinj, fun h ct b base hh hr => ?_, fun h ct hh => ?_, fun s sv' hs' => ?_, hI.xlt, hrel, ?_, fun h hh => ⟨hu h (hI.keep h hh).1, (hρ h (hI.keep h hh).1).trans (hI.keep h hh).2⟩⟩
  · cases d <;> simp [Act.put, hI.size]
  · simp only [St.upd, updT_spec] at hs'
    rw [put_getD s hdd]
    split at hs'
    · rename_i e; cases hs'; rw [if_pos e]; exact hden
    · rename_i e; rw [if_neg e]
      exact ((hI.slots s sv' hs').rho (hI.men s sv' hs') hρ).mono hgo
  · rcases hct h ct hh with ⟨h1, h2⟩ | h1
    · have hus := hI.used h ct h1
      have := (((hI.hs h ct h1).mono hgo h2).rho hus.2 hρ)
      rw [hρ h hus.1]
      exact this
    · exact h1.1
  · rcases hct h ct hh with ⟨h1, h2⟩ | h1
    · rw [hρ h (hI.used h ct h1).1] at hr; exact hI.own h ct b base h1 hr
    · exact h1.2.1 b base hr
  · rcases hct h ct hh with ⟨h1, h2⟩ | h1
    · have hus := hI.used h ct h1
      exact ⟨hu h hus.1, menCt_mono hu ct hus.2⟩
    · exact ⟨h1.2.2.1, h1.2.2.2⟩
  · simp only [St.upd, updT_spec] at hs'
    split at hs'
    · cases hs'; exact hmen
    · exact men_mono hu sv' (hI.men s sv' hs')
  · have e : (a.put d v).defers = a.defers := by cases d <;> rfl
    rw [e]; exact hI.defers.mono hgo.dfr

theorem SInv.pure (hI : SInv R n X E0 ρ0 w0 st ρ a w) {d : Option Tmp} {v : Value} {sv : SV A} (hd : okDst n d = true)
    (hden : Den R ρ (fun b => X b ∨ OwnB st.h ρ b) w sv v) (hmen : Sx.men st.u sv = true) : SInv R n X E0 ρ0 w0 (st.upd d sv [] []) ρ (a.put d v) w :=
  hI.step (ρ' := ρ) (hs := []) (new := []) hd (fun _ _ => rfl) hI.rel .refl (fun _ _ hh => .inl ⟨hh, fun _ _ _ => rfl⟩) hI.inj hden hmen
/-- The draw of an order. -/
theorem SInv.drawn (hI : SInv R n X E0 ρ0 w0 st ρ a w) (k : Nat) : SInv R n X E0 ρ0 w0 st ρ a { w with drawn := k } := by
  have g : Goes (fun b => X b ∨ OwnB st.h ρ b) (fun b => X b ∨ OwnB st.h ρ b) w { w with drawn := k } := ⟨fun _ _ _ _ h hb => ⟨h, hb⟩, fun _ c _ fz h => ⟨c, fz, h, rfl⟩, fun _ _ h => h⟩
  exact ⟨hI.size, fun s sv h => (hI.slots s sv h).mono g, fun h ct hh => (hI.hs h ct hh).mono g (fun _ _ _ => rfl), hI.inj, hI.own, hI.used, hI.men, hI.xlt, ⟨hI.rel.os, hI.rel.tape, hI.rel.output, hI.rel.size, hI.rel.block, hI.rel.shape⟩, hI.defers.mono (fun _ _ h => h), hI.keep⟩

theorem updH_one {f : Nat → Option (Ct A)} {k : Nat} {c : Option (Ct A)} (h : Nat) : updH f [(k, c)] h = if h = k then c else f h := by
  simp only [updH]
  by_cases e : h = k
  · subst e; simp
  · have : Nat.beq h k = false := beq_false e
    simp [this, e]

theorem WRel.alloc {E0 : Nat → Prop} {w0 w : World} (h : WRel E0 w0 w) (o : Obj) : WRel E0 w0 (w.alloc o) :=
  ⟨h.os, h.tape, h.output, Nat.le_trans h.size (by show _ ≤ (w.heap.push o).size; simp), fun b hb hn => by
    rw [← h.block b hb hn]
    have := h.size
    show (w.heap.push o)[b]? = _
    rw [Array.getElem?_push, if_neg (by omega)], fun b c E fz hb => by
    obtain ⟨c', fz', h1, h2⟩ := h.shape b c E fz hb
    refine ⟨c', fz', ?_, h2⟩
    rw [← h1]
    have := (Array.getElem?_eq_some_iff.1 h1).1
    show (w.heap.push o)[b]? = _
    rw [Array.getElem?_push, if_neg (by omega)]⟩
theorem heap_alloc_old {w : World} {o : Obj} {b : Nat} (h : b < w.heap.size) : (w.alloc o).heap[b]? = w.heap[b]? := by
  show (w.heap.push o)[b]? = _
  rw [Array.getElem?_push, if_neg (by omega)]
theorem heap_alloc_new {w : World} {o : Obj} : (w.alloc o).heap[w.heap.size]? = some o := by
  show (w.heap.push o)[w.heap.size]? = _
  simp
theorem lt_of_heap {w : World} {b : Nat} {o : Obj} (h : w.heap[b]? = some o) : b < w.heap.size := (Array.getElem?_eq_some_iff.1 h).1
def setR (ρ : Rho) (nm : Nat) (p : Option (Nat × Nat)) : Rho := fun h => if h = nm then p else ρ h
theorem setR_ne {ρ : Rho} {nm h : Nat} {p : Option (Nat × Nat)} (e : h ≠ nm) : setR ρ nm p h = ρ h := if_neg e
theorem setR_eq {ρ : Rho} {nm : Nat} {p : Option (Nat × Nat)} : setR ρ nm p nm = p := if_pos rfl

/-- A new block of cells. -/
theorem SInv.alloc (hI : SInv R n X E0 ρ0 w0 st ρ a w) {d : Option Tmp} {nm : Nat} {ct : Ct A} {sv : SV A} {v : Value} {c : Array Value} {T : TypeId} (hd : okDst n d = true) (hf : fresh st.u [nm] = true)
    (hnmp : ct.isMap = false) (hl : (ct.flat R).length ≤ c.size) (hc : ∀ (j : Nat) s u, (ct.flat R)[j]? = some s → c[j]? = some u → Den R ρ (fun b => X b ∨ OwnB st.h ρ b) w s u) (hm : menCt st.u ct = true)
    (hden : ∀ O', Den R (setR ρ nm (some (w.heap.size, 0))) O' (w.alloc (.cells c T)) sv v) (hmen : Sx.men (fun h => Nat.beq h nm) sv = true) :
    SInv R n X E0 ρ0 w0 (st.upd d sv [(nm, some ct)] [nm]) (setR ρ nm (some (w.heap.size, 0))) (a.put d v) (w.alloc (.cells c T)) := by
  have hnm : st.u nm = false := fresh_spec hf nm (by simp)
  have hρ : ∀ h, st.u h = true → setR ρ nm (some (w.heap.size, 0)) h = ρ h := fun h hu => setR_ne (by rintro rfl; rw [hnm] at hu; cases hu)
  have hlt : ∀ h ct' b base, st.h h = some ct' → ρ h = some (b, base) → b < w.heap.size := fun h ct' b base hh hr => by
    have := hI.hs h ct' hh
    rw [hr] at this
    exact this.lt
  have hgo : Goes (fun b => X b ∨ OwnB st.h ρ b) (fun b => X b ∨ OwnB (updH st.h [(nm, some ct)]) (setR ρ nm (some (w.heap.size, 0))) b) w (w.alloc (.cells c T)) := by
    refine ⟨fun b c' E fz hn hb => ⟨?_, by rw [heap_alloc_old (lt_of_heap hb)]; exact hb⟩, fun b c' E fz hb => ⟨c', fz, by rw [heap_alloc_old (lt_of_heap hb)]; exact hb, rfl⟩, fun b ds hb => by rw [heap_alloc_old (lt_of_heap hb)]; exact hb⟩
    rintro (hx | ⟨h, ct', base, hh, hr⟩)
    · exact hn (.inl hx)
    · rw [updH_one] at hh
      split at hh
      · rename_i e; subst e; rw [setR_eq] at hr; cases hr; exact absurd (lt_of_heap hb) (Nat.lt_irrefl _)
      · rename_i e; rw [setR_ne e] at hr; exact hn (.inr ⟨h, ct', base, hh, hr⟩)
  have hk : ∀ k, Nat.beq k nm = true → updU st.u [nm] k = true := fun k hk => updU_new (by rw [beq_true hk]; simp)
  refine hI.step hd hρ (hI.rel.alloc _) hgo (fun h ct' hh => ?_) (fun h h' ct1 ct2 b base base' hh hh' hr hr' => ?_) (hden _) (men_mono hk sv hmen)
  · rw [updH_one] at hh
    split at hh
    · rename_i e; subst e; cases hh
      refine .inr ⟨?_, ?_, updU_new (by simp), menCt_mono (fun k => updU_old) _ hm⟩
      · rw [setR_eq]
        exact .inr ⟨hnmp, c, T, (0, 0), heap_alloc_new, .inl (Nat.le_refl _), by omega, fun j s u hs hu => ((hc j s u hs (by simpa using hu)).rho (flat_men hm j s hs) hρ).mono hgo⟩
      · intro b base hr; rw [setR_eq] at hr; cases hr
        exact ⟨.inr hI.rel.size, fun hx => absurd (Nat.lt_of_lt_of_le (hI.xlt _ hx).1 hI.rel.size) (Nat.lt_irrefl _)⟩
    · exact .inl ⟨hh, fun b base hr => heap_alloc_old (hlt h ct' b base hh hr)⟩
  · rw [updH_one] at hh hh'
    split at hh <;> split at hh'
    · rename_i e1 e2; rw [e1, e2]
    · rename_i e1 e2; subst e1; rw [setR_eq] at hr; cases hr; rw [setR_ne e2] at hr'; exact absurd (hlt _ _ _ _ hh' hr') (Nat.lt_irrefl _)
    · rename_i e1 e2; subst e2; rw [setR_eq] at hr'; cases hr'; rw [setR_ne e1] at hr; exact absurd (hlt _ _ _ _ hh hr) (Nat.lt_irrefl _)
    · rename_i e1 e2; rw [setR_ne e1] at hr; rw [setR_ne e2] at hr'; exact hI.inj h h' ct1 ct2 b base base' hh hh' hr hr'

theorem setRow_other {w : World} {b k : Nat} {c : Array Value} (h : k ≠ b) : (w.setRow b c).heap[k]? = w.heap[k]? := by
  simp only [World.setRow, Array.getElem?_modify]
  rw [if_neg (by omega)]
theorem WRel.setRow {E0 : Nat → Prop} {w0 w : World} (h : WRel E0 w0 w) {b : Nat} {c0 : Array Value} {T : TypeId} {fz : Nat × Nat} (hc : w.heap[b]? = some (.cells c0 T fz)) (c : Array Value) (hs : c.size = c0.size) (hb : E0 b ∨ w0.heap.size ≤ b) : WRel E0 w0 (w.setRow b c) :=
  ⟨h.os, h.tape, h.output, by simpa [World.setRow] using h.size, fun k hk hn => by
    rw [← h.block k hk hn]
    exact setRow_other (by rintro rfl; rcases hb with hb | hb; exact hn hb; omega), fun k c1 E1 f1 hk => by
    obtain ⟨c', fz', h1, h2⟩ := h.shape k c1 E1 f1 hk
    by_cases e : k = b
    · subst e; rw [hc] at h1; cases h1; exact ⟨c, _, setRow_heap w k _ c _ _ hc, hs.trans h2⟩
    · exact ⟨c', fz', by rw [setRow_other e]; exact h1, h2⟩⟩

/-- Cells of a named block, written. -/
theorem SInv.write (hI : SInv R n X E0 ρ0 w0 st ρ a w) {d : Option Tmp} {h0 b base : Nat} {ct ct' : Ct A} {sv : SV A} {v : Value} {c c' : Array Value} {T : TypeId} {fz : Nat × Nat} (hd : okDst n d = true)
    (hh0 : st.h h0 = some ct) (hr0 : ρ h0 = some (b, base)) (hb : w.heap[b]? = some (.cells c T fz)) (hz : fz.2 ≤ fz.1 ∨ c.size ≤ fz.1) (hsz : c'.size = c.size) (hnmp : ct'.isMap = false)
    (hl : base + (ct'.flat R).length ≤ c.size) (hc : ∀ (j : Nat) s u, (ct'.flat R)[j]? = some s → c'[base + j]? = some u → Den R ρ (fun b => X b ∨ OwnB st.h ρ b) w s u) (hm : menCt st.u ct' = true)
    (hden : Den R ρ (fun b => X b ∨ OwnB st.h ρ b) w sv v) (hmen : Sx.men st.u sv = true) :
    SInv R n X E0 ρ0 w0 (st.upd d sv [(h0, some ct')] []) ρ (a.put d v) (w.setRow b c') := by
  have hown := hI.own h0 ct b base hh0 hr0
  have hO : ∀ k, OwnB (updH st.h [(h0, some ct')]) ρ k ↔ OwnB st.h ρ k := fun k => by
    constructor
    · rintro ⟨h, ct1, base1, hh, hr⟩
      rw [updH_one] at hh
      split at hh
      · rename_i e; subst e; exact ⟨h, ct, base1, hh0, hr⟩
      · exact ⟨h, ct1, base1, hh, hr⟩
    · rintro ⟨h, ct1, base1, hh, hr⟩
      by_cases e : h = h0
      · subst e; exact ⟨h, ct', base1, by rw [updH_one, if_pos rfl], hr⟩
      · exact ⟨h, ct1, base1, by rw [updH_one, if_neg e]; exact hh, hr⟩
  have hgo : Goes (fun b => X b ∨ OwnB st.h ρ b) (fun b => X b ∨ OwnB (updH st.h [(h0, some ct')]) ρ b) w (w.setRow b c') := by
    refine ⟨fun k c1 E f hn hk => ⟨fun hx => hn (hx.imp id (hO k).1), ?_⟩, fun k c1 E f hk => ?_, fun k ds hk => by rw [setRow_other (by rintro rfl; rw [hb] at hk; cases hk)]; exact hk⟩
    · rw [setRow_other]; exact hk
      rintro rfl; exact hn (.inr ⟨h0, ct, base, hh0, hr0⟩)
    · by_cases e : k = b
      · subst e; rw [hb] at hk; cases hk; exact ⟨c', _, setRow_heap w k _ c' _ _ hb, hsz⟩
      · exact ⟨c1, f, by rw [setRow_other e]; exact hk, rfl⟩
  refine hI.step hd (fun _ _ => rfl) (hI.rel.setRow hb c' hsz hown.1) hgo (fun h ct1 hh => ?_) (fun h h' ct1 ct2 k b1 b2 hh hh' hr hr' => ?_) (hden.mono hgo) hmen
  · rw [updH_one] at hh
    split at hh
    · rename_i e; subst e; cases hh
      refine .inr ⟨?_, fun k base1 hr => hI.own _ ct k base1 hh0 hr, (hI.used _ ct hh0).1, hm⟩
      rw [hr0]
      exact .inr ⟨hnmp, c', T, fz, setRow_heap w b _ c' _ _ hb, by rw [hsz]; exact hz, by omega, fun j s u hs hu => (hc j s u hs hu).mono hgo⟩
    · rename_i e
      refine .inl ⟨hh, fun k base1 hr => setRow_other ?_⟩
      rintro rfl; exact e (hI.inj h h0 ct1 ct k base1 base hh hh0 hr hr0)
  · have get : ∀ h ct1, updH st.h [(h0, some ct')] h = some ct1 → ∃ ct2, st.h h = some ct2 := fun h ct1 hh => by
      rw [updH_one] at hh
      split at hh
      · rename_i e; subst e; exact ⟨ct, hh0⟩
      · exact ⟨_, hh⟩
    obtain ⟨c1, g1⟩ := get h ct1 hh
    obtain ⟨c2, g2⟩ := get h' ct2 hh'
    exact hI.inj h h' c1 c2 k b1 b2 g1 g2 hr hr'

theorem SInv.ev (hI : SInv R n X E0 ρ0 w0 st ρ a w) {x : Operand} {sv : SV A} (h : st.ev x = some sv) : Den R ρ (fun b => X b ∨ OwnB st.h ρ b) w sv (a.eval x) ∧ Sx.men st.u sv = true := by
  cases x with
  | tmp t => exact ⟨hI.slots t sv h, hI.men t sv h⟩
  | const v => cases h; exact ⟨.val v, rfl⟩
  | global g => cases h; exact ⟨.val _, rfl⟩
  | func f => cases h; exact ⟨.val _, rfl⟩
end
end Go.Sx
