/-
  Own tool 'Sx', part O: maps.
-/
import Derived.Test.YtmogappoadglgaaSxJ
namespace Go.Sx
open Go
variable {A : Nat → Type}
section
variable {R : Reg A}
theorem valsOf_some : ∀ {cs : List (SV A)} {vs : List Value}, valsOf cs = some vs → cs = vs.map .val
  | [], vs, h => by simp [valsOf] at h; subst h; rfl
  | c :: cs, vs, h => by
    cases c <;> simp only [valsOf] at h
    case val v =>
      split at h
      · rename_i us hus
        cases h
        rw [valsOf_some hus]; rfl
      · cases h
    all_goals cases h
theorem keyVal_inj {K : Nat} {x y : A K} {u : Value} (hx : keyVal R K x = some u) (hy : keyVal R K y = some u) : x = y := by
  unfold keyVal at hx hy
  have hl : (R.enc K x).length = (R.enc K y).length := by rw [R.len, R.len]
  cases ex : valsOf (R.enc K x) with
  | none => rw [ex] at hx; cases hx
  | some vs =>
    cases ey : valsOf (R.enc K y) with
    | none => rw [ey] at hy; cases hy
    | some us =>
      have e1 := valsOf_some ex
      have e2 := valsOf_some ey
      rw [e1, e2] at hl
      simp only [List.length_map] at hl
      rw [ex] at hx
      rw [ey] at hy
      refine R.inj K x y ?_
      rw [e1, e2]
      congr 1
      match vs, us, hl with
      | [], [], _ => rfl
      | [v], [w], _ => simp at hx hy; rw [hx, hy]
      | v :: v' :: vs, w :: w' :: us, _ =>
        simp at hx hy
        rw [← hx] at hy
        injection hy with hy
        have := congrArg Array.toList hy
        simpa using this.symm
theorem look_none {K V : Nat} {es : List (A K × A V)} {k : A K} (h : ∀ p ∈ es, p.1 ≠ k) : look R K V es k = none ∧ es.any (fun p => R.beq K p.1 k) = false := by
  have h2 : ∀ p ∈ es, R.beq K p.1 k = false := fun p hp => by
    cases e : R.beq K p.1 k with
    | false => rfl
    | true => exact absurd ((R.same K _ _).1 e) (h p hp)
  have h3 : es.find? (fun p => R.beq K p.1 k) = none := List.find?_eq_none.2 fun p hp => by rw [h2 p hp]; simp
  exact ⟨by simp [look, h3], List.any_eq_false.2 fun p hp => by rw [h2 p hp]; simp⟩
theorem look_some {K V : Nat} {es : List (A K × A V)} {k : A K} {v : A V} (hn : (es.map (·.1)).Nodup) (h : (k, v) ∈ es) : look R K V es k = some v ∧ es.any (fun p => R.beq K p.1 k) = true := by
  have hb : R.beq K k k = true := (R.same K k k).2 rfl
  refine ⟨?_, List.any_eq_true.2 ⟨_, h, hb⟩⟩
  induction es with
  | nil => cases h
  | cons p es ih =>
    rw [List.map_cons, List.nodup_cons] at hn
    unfold look
    rw [List.find?_cons]
    rcases List.mem_cons.1 h with rfl | h'
    · simp [hb]
    · have : R.beq K p.1 k = false := by
        cases e : R.beq K p.1 k with
        | false => rfl
        | true =>
          have e := (R.same K _ _).1 e
          exact absurd (List.mem_map.2 ⟨_, h', e.symm⟩) hn.1
      rw [this]
      exact ih hn.2 h'
end
section
variable {P : Program} {E : Env A} {n : Nat} {X E0 : Nat → Prop} {ρ0 : Rho} {w0 : World} {st : St A} {ρ : Rho} {a : Act} {w : World} {d : Option Tmp}

theorem MapRep.get {R : Reg A} {K V : Nat} {es : List (A K × A V)} {mes : Array MapEntry} {cl : Nat} (h : MapRep R K V es mes cl) {j : Nat} {e : MapEntry} (he : mes.toList[j]? = some e) : ∃ p, es[j]? = some p ∧ keyVal R K p.1 = some e.key ∧ keyVal R V p.2 = some e.val := by
  have h1 := congrArg (fun l => l[j]?) h.ents
  simp only [List.getElem?_map, he, Option.map_some] at h1
  cases hp : es[j]? with
  | none => rw [hp] at h1; cases h1
  | some p =>
    rw [hp] at h1
    simp only [Option.map_some, Option.some.injEq, Prod.mk.injEq] at h1
    exact ⟨p, rfl, h1.1.symm, h1.2.symm⟩
theorem MapRep.all {R : Reg A} {K V : Nat} {es : List (A K × A V)} {mes : Array MapEntry} {cl : Nat} (h : MapRep R K V es mes cl) {p : A K × A V} (hp : p ∈ es) : ∃ e ∈ mes.toList, keyVal R K p.1 = some e.key := by
  obtain ⟨j, hj⟩ := List.getElem?_of_mem hp
  have h1 := congrArg (fun l => l[j]?) h.ents
  simp only [List.getElem?_map, hj, Option.map_some] at h1
  cases he : mes.toList[j]? with
  | none => rw [he] at h1; cases h1
  | some e =>
    rw [he] at h1
    simp only [Option.map_some, Option.some.injEq, Prod.mk.injEq] at h1
    exact ⟨e, List.mem_of_getElem? he, h1.1.symm⟩
/-- What the search for a key comes to. -/
theorem find_run (hE : E.Ok P) {K V : Nat} (hK : E.key K = true) {es : List (A K × A V)} {mes : Array MapEntry} {cl : Nat} (h : MapRep E.reg K V es mes cl) {k : A K} {u : Value} (hu : keyVal E.reg K k = some u) (hg : E.reg.kg K k) (w : World) :
    (Instr.checkKey mes.isEmpty 10000 K u).run P w = .ok () w ∧ (Instr.checkKey false 10000 K u).run P w = .ok () w ∧ (Instr.keyThatStays u u).run P w = .ok u w ∧
    (((Instr.findKey K u mes.toList).run P w = .ok none w ∧ (∀ p ∈ es, p.1 ≠ k) ∧ ∀ e ∈ mes.toList, e.key ≠ u) ∨
      ∃ j e p, (Instr.findKey K u mes.toList).run P w = .ok (some (j, e.val)) w ∧ mes.toList[j]? = some e ∧ e.key = u ∧ es[j]? = some p ∧ p.1 = k ∧ keyVal E.reg V p.2 = some e.val) := by
  have hk := hE.keyed K hK
  obtain ⟨u', l, h1, h2⟩ := hE.keys K hK k hg
  rw [hu] at h1; cases h1
  refine ⟨hk.check w _ h2, hk.check w _ h2, hk.stays w h2, ?_⟩
  have hall : ∀ e ∈ mes.toList, ∃ l, keyOf P K e.key = some l := fun e he => by
    obtain ⟨j, hj⟩ := List.getElem?_of_mem he
    obtain ⟨p, p1, p2, _⟩ := h.get hj
    obtain ⟨v, l, e1, e2⟩ := hE.keys K hK p.1 (h.good p (List.mem_of_getElem? p1))
    rw [p2] at e1; cases e1
    exact ⟨l, e2⟩
  rcases hk.find w h2 mes.toList hall with ⟨h3, h4⟩ | ⟨j, e, h3, h4, h5⟩
  · refine .inl ⟨h3, fun p hp e => ?_, h4⟩
    obtain ⟨x, hx, hx2⟩ := h.all hp
    rw [e, hu] at hx2; cases hx2
    exact h4 x hx rfl
  · obtain ⟨p, p1, p2, p3⟩ := h.get h4
    exact .inr ⟨j, e, p, h3, h4, h5, p1, keyVal_inj p2 (by rw [h5]; exact hu), p3⟩

/-- A key that was read. -/
theorem keyOfS_run (hE : E.Ok P) {O : Nat → Prop} {K : Nat} {i : SV A} {k : A K} (h : keyOfS E K i = some k) {vi : Value} (hv : Den E.reg ρ O w i vi) : E.key K = true ∧ keyVal E.reg K k = some vi := by
  unfold keyOfS at h
  split at h
  · rename_i tk htk hkey
    split at h
    · rename_i vs e1 e2 hvs
      refine ⟨hkey, ?_⟩
      have hok := E.reg.ok K _ k h
      have hlen : (cellsOf E.reg i).length = E.reg.sz K := by rw [← hok]; exact E.reg.len K k
      have hvm := valsOf_some hvs
      unfold keyVal
      rw [hok, hvs]
      obtain ⟨h1, h2⟩ := hv.cells
      have hcells : vi.cells.toList = vs := by
        apply List.ext_getElem?
        intro j
        have hl : vs.length = vi.cells.toList.length := by rw [hvm] at h1; simpa using h1
        by_cases hj : j < vs.length
        · have hc : (cellsOf E.reg i)[j]? = some (.val vs[j]) := by rw [hvm, List.getElem?_map, List.getElem?_eq_getElem hj]; rfl
          have hu : vi.cells[j]? = some vi.cells[j] := Array.getElem?_eq_getElem (by simpa using (by omega : j < vi.cells.toList.length))
          have := h2 j _ _ hc hu
          have := val_inv this
          rw [List.getElem?_eq_getElem hj, Array.getElem?_toList, hu, this]
        · rw [List.getElem?_eq_none (by omega), List.getElem?_eq_none (by omega)]
      cases hag : aggS i with
      | true =>
        rw [hag] at e1
        have e3 : tk.k.isAgg = true := by cases h : tk.k.isAgg <;> rw [h] at e1 <;> first | rfl | cases e1
        rw [e3] at e2
        have e2 := ble_true e2
        obtain ⟨c, rfl⟩ := agg_inv hv hag
        have hcv : c.toList = vs := hcells
        have hvl : 2 ≤ vs.length := by rw [hvm] at hlen; simp at hlen; omega
        match vs, hvl with
        | v :: v' :: vs, _ => simp only []; rw [← hcv]
      | false =>
        have hci : cellsOf E.reg i = [i] := by cases i <;> first | rfl | cases hag | skip
                                               all_goals (rename_i v; cases v <;> first | rfl | cases hag)
        rw [hci] at hvm
        match vs, hvm with
        | [v], hvm =>
          simp at hvm
          subst hvm
          have := val_inv hv
          subst this
          rfl
    · cases h
  · cases h
theorem mp_inv {R : Reg A} {O : Nat → Prop} {h : Nat} {v : Value} (hd : Den R ρ O w (.mp h) v) : ∃ b base, v = .map (some b) ∧ ρ h = some (b, base) := by
  cases hd with
  | mp _ b base hr => exact ⟨b, base, rfl, hr⟩
theorem SInv.mapBlock (hI : SInv E.reg n X E0 ρ0 w0 st ρ a w) {h K V : Nat} {es : List (A K × A V)} (hh : st.h h = some (.map K V es)) {b base : Nat} (hr : ρ h = some (b, base)) : ∃ mes cl, w.heap[b]? = some (.map mes cl) ∧ MapRep E.reg K V es mes cl := by
  have h0 := hI.hs h _ hh
  rw [hr] at h0
  rcases h0 with ⟨K', V', es', e, mes, cl, h1, h2⟩ | ⟨hn, _⟩
  · cases e; exact ⟨mes, cl, h1, h2⟩
  · cases hn
/-- One cell of an element, with its value. -/
theorem one_val {R : Reg A} {V : Nat} {y : A V} {u : Value} (hu : keyVal R V y = some u) {s : SV A} (hs : nth (R.enc V y) 0 = some s) (hsz : R.sz V = 1) : s = .val u := by
  unfold keyVal at hu
  cases ev : valsOf (R.enc V y) with
  | none => rw [ev] at hu; cases hu
  | some vs =>
    have e := valsOf_some ev
    have hl : vs.length = 1 := by have := R.len V y; rw [e, hsz] at this; simpa using this
    match vs, hl with
    | [v], _ =>
      rw [ev] at hu
      simp at hu
      subst hu
      rw [e] at hs
      simp [nth] at hs
      exact hs.symm
theorem dec_one {R : Reg A} {V : Nat} {z : A V} {u : Value} (h : R.dec V [.val u] = some z) : R.sz V = 1 ∧ keyVal R V z = some u ∧ nth (R.enc V z) 0 = some (.val u) := by
  have e := R.ok V _ z h
  refine ⟨by rw [← R.len V z, e]; rfl, by simp [keyVal, e, valsOf], by rw [e]; rfl⟩
theorem wf_of {x : Int} (h : -9223372036854775808 ≤ x ∧ x ≤ 9223372036854775807) : (Lit.int .i64 x).wf = true := by
  simp [Lit.wf, IntKind.min, IntKind.max, IntKind.bits, IntKind.signed]; omega
theorem key_of_int {k : TypeId} (hk : P.underlying k = some (.int .i64)) {x : Int} (h : -9223372036854775808 ≤ x ∧ x ≤ 9223372036854775807) : ∃ l, keyOf P k (.int .i64 x) = some l :=
  ⟨.int .i64 x, by simp [keyOf, hk, mapKey, wf_of h]⟩
theorem key_of_pair {k e : TypeId} (hk : P.underlying k = some (.array 2 e)) (he : P.underlying e = some (.int .i64)) (hc : P.cellsOf k = 2) (hce : P.cellsOf e = 1) (hkt : P.keyType k = true) (hs : 0 < P.types.size) {a b : Int}
    (ha : -9223372036854775808 ≤ a ∧ a ≤ 9223372036854775807) (hb : -9223372036854775808 ≤ b ∧ b ≤ 9223372036854775807) : ∃ l, keyOf P k (.agg #[.int .i64 a, .int .i64 b]) = some l := by
  obtain ⟨m, hm⟩ : ∃ m, P.types.size = m + 1 := ⟨P.types.size - 1, by omega⟩
  have h : (keyOf P k (.agg #[.int .i64 a, .int .i64 b])).isSome = true := by
    simp [keyOf, hk, hkt, Value.formed, hc, hm, Program.keyLits, Value.cells, he, hce, wf_of ha, wf_of hb, List.range_succ]
  exact Option.isSome_iff_exists.1 h

theorem tupRet_den {R : Reg A} {O : Nat → Prop} (u : Value) (b : Bool) : Den R ρ O w (.tup [.val u, .val (.bool b)]) (.tuple #[u, .bool b]) :=
  .tup _ _ rfl fun j s v hs hv => by
    match j with
    | 0 => simp at hs hv; subst hs; subst hv; exact .val _
    | 1 => simp at hs hv; subst hs; subst hv; exact .val _
    | j + 2 => simp at hs
theorem kind_map {d : TypeDesc} {k v : TypeId} (h : kindOf d = .map k v) : d = .map k v := by
  cases d <;> simp [kindOf] at h; obtain ⟨rfl, rfl⟩ := h; rfl
theorem snd_lookup (hE : E.Ok P) (hI : SInv E.reg n X E0 ρ0 w0 st ρ a w) (hd : okDst n d = true) {T : TypeId} {x i : SV A} {v vi : Value} {ok : Bool} (hv : Den E.reg ρ (fun b => X b ∨ OwnB st.h ρ b) w x v)
    (hvi : Den E.reg ρ (fun b => X b ∨ OwnB st.h ρ b) w i vi) : Snd P E.reg n X E0 ρ0 w0 st a w d (xlookup E T x i ok) (Instr.lookup T v vi ok) := by
  unfold xlookup
  split
  · rename_i ti h hti
    obtain ⟨b, base, rfl, hr⟩ := mp_inv hv
    obtain ⟨dd, ii, hu, hi, hk, _⟩ := tiOf_inv (hE.tt T ti hti)
    split
    · rename_i K0 V0 hfs
      rw [hfs] at hk
      obtain rfl := kind_map hk
      refine .ask ?_
      cases hh : st.h h with
      | none => exact .no
      | some ct =>
        cases ct with
        | cells _ => exact .no
        | arr _ _ => exact .no
        | map K V es =>
          dsimp only
          split
          · rename_i tv k e1 e2 htv hkk
            obtain rfl := beq_true e1
            obtain rfl := beq_true e2
            split
            · rename_i z hag hz
              obtain ⟨hkey, hkv⟩ := keyOfS_run hE hkk hvi
              obtain ⟨mes, cl, hb, hm⟩ := hI.mapBlock hh hr
              obtain ⟨hsz, _, hz1⟩ := dec_one hz
              have hzr := run_zero_sx (hE.tt V tv htv) w
              split
              all_goals
                refine .vc fun hg => ?_
                obtain ⟨hc, _, _, hf⟩ := find_run hE hkey hm hkv hg w
              · refine .all fun y hy => .opt hI hd fun s hs => ?_
                rcases hf with ⟨h1, h2, _⟩ | ⟨j, e, p, h1, _, _, h2, h3, h4⟩
                · rw [(look_none h2).1] at hy
                  simp at hy
                  subst hy
                  rw [hz1] at hs; cases hs
                  exact ⟨tv.zero, by simp [Instr.lookup, run_underlying hu, MapKept.run_getObj_map hb, hc, h1, hzr], .val _, rfl⟩
                · obtain ⟨k', y'⟩ := p
                  dsimp only at h3 h4
                  subst h3
                  rw [(look_some hm.nodup (List.mem_of_getElem? h2)).1] at hy
                  simp at hy
                  subst hy
                  have := one_val h4 hs hsz
                  subst this
                  exact ⟨e.val, by simp [Instr.lookup, run_underlying hu, MapKept.run_getObj_map hb, hc, h1], .val _, rfl⟩
              · refine .all fun o ho => ?_
                rcases hf with ⟨h1, h2, _⟩ | ⟨j, e, p, h1, _, _, h2, h3, h4⟩
                · rw [(look_none h2).1] at ho
                  subst ho
                  exact .ret hI hd (v := .tuple #[tv.zero, .bool false]) (by simp [Instr.lookup, run_underlying hu, MapKept.run_getObj_map hb, hc, h1, hzr]) (tupRet_den _ _) rfl
                · obtain ⟨k', y'⟩ := p
                  dsimp only at h3 h4
                  subst h3
                  rw [(look_some hm.nodup (List.mem_of_getElem? h2)).1] at ho
                  subst ho
                  dsimp only
                  split
                  · rename_i s hs
                    have := one_val h4 hs hsz
                    subst this
                    exact .ret hI hd (v := .tuple #[e.val, .bool true]) (by simp [Instr.lookup, run_underlying hu, MapKept.run_getObj_map hb, hc, h1]) (tupRet_den _ _) rfl
                  · exact .fail
            · exact .no
          · exact .no
    · exact .no
  · exact .no
def setB (w : World) (b : Nat) (o : Obj) : World := { w with heap := w.heap.setIfInBounds b o }
theorem setB_other {w : World} {b k : Nat} {o : Obj} (h : k ≠ b) : (setB w b o).heap[k]? = w.heap[k]? := by
  simp only [setB]
  rw [Array.getElem?_setIfInBounds_ne (by omega)]
theorem setB_self {w : World} {b : Nat} {o o' : Obj} (h : w.heap[b]? = some o) : (setB w b o').heap[b]? = some o' := by
  simp only [setB]
  rw [Array.getElem?_setIfInBounds_self]
  rw [if_pos (lt_of_heap h)]
theorem WRel.setMap (h : WRel E0 w0 w) {b : Nat} {mes : Array MapEntry} {cl : Nat} (hb : w.heap[b]? = some (.map mes cl)) (o : Obj) (hbo : E0 b ∨ w0.heap.size ≤ b) : WRel E0 w0 (setB w b o) :=
  ⟨h.os, h.tape, h.output, by simpa [setB] using h.size, fun k hk hn => by
    rw [← h.block k hk hn]
    exact setB_other (by rintro rfl; rcases hbo with hbo | hbo; exact hn hbo; omega), fun k c1 F1 f1 hk => by
    obtain ⟨c', fz', h1, h2⟩ := h.shape k c1 F1 f1 hk
    refine ⟨c', fz', ?_, h2⟩
    rw [setB_other]; exact h1
    rintro rfl; rw [hb] at h1; cases h1⟩
/-- A map of one's own, written. -/
theorem SInv.setMap (hI : SInv E.reg n X E0 ρ0 w0 st ρ a w) (hd : okDst n d = true) {h0 b base K V : Nat} {es es' : List (A K × A V)} {mes mes' : Array MapEntry} {cl cl' : Nat} (hh0 : st.h h0 = some (.map K V es)) (hr0 : ρ h0 = some (b, base))
    (hb : w.heap[b]? = some (.map mes cl)) (hm : MapRep E.reg K V es' mes' cl') {sv : SV A} {v : Value} (hden : ∀ O w, Den E.reg ρ O w sv v) (hmen : Sx.men st.u sv = true) :
    SInv E.reg n X E0 ρ0 w0 (st.upd d sv [(h0, some (.map K V es'))] []) ρ (a.put d v) (setB w b (.map mes' cl')) := by
  have hown := hI.own h0 _ b base hh0 hr0
  have hO : ∀ k, OwnB (updH st.h [(h0, some (.map K V es'))]) ρ k ↔ OwnB st.h ρ k := fun k => by
    constructor
    · rintro ⟨h, ct1, base1, hh, hr⟩
      rw [updH_one] at hh
      split at hh
      · rename_i e; subst e; exact ⟨h, _, base1, hh0, hr⟩
      · exact ⟨h, ct1, base1, hh, hr⟩
    · rintro ⟨h, ct1, base1, hh, hr⟩
      by_cases e : h = h0
      · subst e; exact ⟨h, _, base1, by rw [updH_one, if_pos rfl], hr⟩
      · exact ⟨h, ct1, base1, by rw [updH_one, if_neg e]; exact hh, hr⟩
  have hne : ∀ {k : Nat} {c1 : Array Value} {F : TypeId} {f : Nat × Nat}, w.heap[k]? = some (Obj.cells c1 F f) → k ≠ b := fun hk e => by
    subst e; rw [hb] at hk; cases hk
  have hgo : Goes (fun b => X b ∨ OwnB st.h ρ b) (fun b => X b ∨ OwnB (updH st.h [(h0, some (.map K V es'))]) ρ b) w (setB w b (.map mes' cl')) :=
    ⟨fun k c1 F f hn hk => ⟨fun hx => hn (hx.imp id (hO k).1), by rw [setB_other (hne hk)]; exact hk⟩, fun k c1 F f hk => ⟨c1, f, by rw [setB_other (hne hk)]; exact hk, rfl⟩, fun k ds hk => by rw [setB_other (by rintro rfl; rw [hb] at hk; cases hk)]; exact hk⟩
  refine hI.step hd (fun _ _ => rfl) (hI.rel.setMap hb _ hown.1) hgo (fun h ct1 hh => ?_) (fun h h' ct1 ct2 k b1 b2 hh hh' hr hr' => ?_) (hden _ _) hmen
  · rw [updH_one] at hh
    split at hh
    · rename_i e; subst e; cases hh
      refine .inr ⟨?_, fun k base1 hr => hI.own _ _ k base1 hh0 hr, (hI.used _ _ hh0).1, rfl⟩
      rw [hr0]
      exact .inl ⟨K, V, es', rfl, mes', cl', setB_self hb, hm⟩
    · rename_i e
      refine .inl ⟨hh, fun k base1 hr => setB_other ?_⟩
      rintro rfl; exact e (hI.inj h h0 ct1 _ k base1 base hh hh0 hr hr0)
  · have get : ∀ h ct1, updH st.h [(h0, some (.map K V es'))] h = some ct1 → ∃ ct2, st.h h = some ct2 := fun h ct1 hh => by
      rw [updH_one] at hh
      split at hh
      · rename_i e; subst e; exact ⟨_, hh0⟩
      · exact ⟨_, hh⟩
    obtain ⟨c1, g1⟩ := get h ct1 hh
    obtain ⟨c2, g2⟩ := get h' ct2 hh'
    exact hI.inj h h' c1 c2 k b1 b2 g1 g2 hr hr'
/-- A new map. -/
theorem SInv.newMap (hI : SInv E.reg n X E0 ρ0 w0 st ρ a w) (hd : okDst n d = true) {nm K V : Nat} (hf : fresh st.u [nm] = true) :
    SInv E.reg n X E0 ρ0 w0 (st.upd d (.mp nm) [(nm, some (.map K V []))] [nm]) (setR ρ nm (some (w.heap.size, 0))) (a.put d (.map (some w.heap.size))) (w.alloc (.map #[] 0)) := by
  have hnm : st.u nm = false := fresh_spec hf nm (by simp)
  have hρ : ∀ h, st.u h = true → setR ρ nm (some (w.heap.size, 0)) h = ρ h := fun h hu => setR_ne (by rintro rfl; rw [hnm] at hu; cases hu)
  have hlt : ∀ h ct' b base, st.h h = some ct' → ρ h = some (b, base) → b < w.heap.size := fun h ct' b base hh hr => by
    have := hI.hs h ct' hh
    rw [hr] at this
    exact this.lt
  have hgo : Goes (fun b => X b ∨ OwnB st.h ρ b) (fun b => X b ∨ OwnB (updH st.h [(nm, some (.map K V []))]) (setR ρ nm (some (w.heap.size, 0))) b) w (w.alloc (.map #[] 0)) := by
    refine ⟨fun b c' E fz hn hb => ⟨?_, by rw [heap_alloc_old (lt_of_heap hb)]; exact hb⟩, fun b c' E fz hb => ⟨c', fz, by rw [heap_alloc_old (lt_of_heap hb)]; exact hb, rfl⟩, fun b ds hb => by rw [heap_alloc_old (lt_of_heap hb)]; exact hb⟩
    rintro (hx | ⟨h, ct', base, hh, hr⟩)
    · exact hn (.inl hx)
    · rw [updH_one] at hh
      split at hh
      · rename_i e; subst e; rw [setR_eq] at hr; cases hr; exact absurd (lt_of_heap hb) (Nat.lt_irrefl _)
      · rename_i e; rw [setR_ne e] at hr; exact hn (.inr ⟨h, ct', base, hh, hr⟩)
  refine hI.step hd hρ (hI.rel.alloc _) hgo (fun h ct' hh => ?_) (fun h h' ct1 ct2 b base base' hh hh' hr hr' => ?_) (.mp nm _ _ setR_eq) (updU_new (by simp))
  · rw [updH_one] at hh
    split at hh
    · rename_i e; subst e; cases hh
      refine .inr ⟨?_, ?_, updU_new (by simp), rfl⟩
      · rw [setR_eq]
        exact .inl ⟨K, V, [], rfl, #[], 0, heap_alloc_new, ⟨rfl, fun e h => by simp at h, by simp, by simp, fun p h => by simp at h⟩⟩
      · intro b base hr; rw [setR_eq] at hr; cases hr
        exact ⟨.inr hI.rel.size, fun hx => absurd (Nat.lt_of_lt_of_le (hI.xlt _ hx).1 hI.rel.size) (Nat.lt_irrefl _)⟩
    · exact .inl ⟨hh, fun b base hr => heap_alloc_old (hlt h ct' b base hh hr)⟩
  · rw [updH_one] at hh hh'
    split at hh <;> split at hh'
    · rename_i e1 e2; rw [e1, e2]
    · rename_i e1 e2; subst e1; rw [setR_eq] at hr; cases hr; rw [setR_ne e2] at hr'; exact absurd (hlt _ _ _ _ hh' hr') (Nat.lt_irrefl _)
    · rename_i e1 e2; subst e2; rw [setR_eq] at hr'; cases hr'; rw [setR_ne e1] at hr; exact absurd (hlt _ _ _ _ hh hr) (Nat.lt_irrefl _)
    · rename_i e1 e2; rw [setR_ne e1] at hr; rw [setR_ne e2] at hr'; exact hI.inj h h' ct1 ct2 b base base' hh hh' hr hr'
theorem snd_makeMap (hI : SInv E.reg n X E0 ρ0 w0 st ρ a w) (hd : okDst n d = true) {T : TypeId} {nm : Nat} : Snd P E.reg n X E0 ρ0 w0 st a w d (xmakeMap E nm T) (Instr.makeMap T none) := by
  unfold xmakeMap
  split
  · split
    · exact fun R0 K hfr hK => ⟨_, _, _, _, _, rfl, hK, hI.newMap hd hfr⟩
    · exact .no
  · exact .no
theorem keys_ne {K V : Nat} {es : List (A K × A V)} (hn : (es.map (·.1)).Nodup) {j m : Nat} {p q : A K × A V} (hp : es[j]? = some p) (hq : es[m]? = some q) (h : j ≠ m) : p.1 ≠ q.1 := fun e => by
  have h1 : (es.map (·.1))[j]? = some p.1 := by rw [List.getElem?_map, hp]; rfl
  have h2 : (es.map (·.1))[m]? = some p.1 := by rw [List.getElem?_map, hq, e]; rfl
  obtain ⟨l1, g1⟩ := List.getElem?_eq_some_iff.1 h1
  obtain ⟨l2, g2⟩ := List.getElem?_eq_some_iff.1 h2
  exact h ((List.getElem_inj hn).1 (g1.trans g2.symm))
/-- With something at a key. -/
theorem MapRep.ins {R : Reg A} {K V : Nat} {es : List (A K × A V)} {mes : Array MapEntry} {cl : Nat} (h : MapRep R K V es mes cl) {k : A K} {y : A V} {u v : Value} (hu : keyVal R K k = some u) (hv : keyVal R V y = some v) (hg : R.kg K k)
    (hf : (∀ p ∈ es, p.1 ≠ k)) : MapRep R K V (Sx.ins R K V es k y) (mes.push ⟨u, v, cl⟩) (cl + 1) := by
  have e : Sx.ins R K V es k y = es ++ [(k, y)] := by unfold Sx.ins; rw [(look_none hf).2]
  rw [e]
  refine ⟨by simp [h.ents, hu, hv], fun x hx => ?_, ?_, ?_, fun p hp => ?_⟩
  · simp at hx
    rcases hx with hx | rfl
    · have := h.born x (by simpa using hx); omega
    · show cl < cl + 1; omega
  · simp only [Array.toList_push, List.pairwise_append]
    exact ⟨h.rise, by simp, fun x hx z hz => by simp at hz; subst hz; exact h.born x hx⟩
  · rw [List.map_append, List.nodup_append]
    exact ⟨h.nodup, by simp, fun x hx z hz => by
      simp at hz; subst hz
      obtain ⟨p, hp, rfl⟩ := List.mem_map.1 hx
      exact hf p hp⟩
  · rcases List.mem_append.1 hp with hp | hp
    · exact h.good p hp
    · simp at hp; subst hp; exact hg
theorem MapRep.mod {R : Reg A} {K V : Nat} {es : List (A K × A V)} {mes : Array MapEntry} {cl : Nat} (h : MapRep R K V es mes cl) {k : A K} {y : A V} {u v : Value} (hu : keyVal R K k = some u) (hv : keyVal R V y = some v)
    {j : Nat} {p : A K × A V} (hp : es[j]? = some p) (hpk : p.1 = k) : MapRep R K V (Sx.ins R K V es k y) (mes.modify j fun e => { e with key := u, val := v }) cl := by
  have hb : R.beq K k k = true := (R.same K k k).2 rfl
  have hany : es.any (fun p => R.beq K p.1 k) = true := List.any_eq_true.2 ⟨p, List.mem_of_getElem? hp, by rw [hpk]; exact hb⟩
  have e : Sx.ins R K V es k y = es.map fun p => match R.beq K p.1 k with | true => (k, y) | false => p := by unfold Sx.ins; rw [hany]; rfl
  have hkeys : (Sx.ins R K V es k y).map (·.1) = es.map (·.1) := by
    rw [e, List.map_map]
    refine List.map_congr_left fun q _ => ?_
    show (match R.beq K q.1 k with | true => (k, y) | false => q).1 = q.1
    cases hq : R.beq K q.1 k with
    | true => exact ((R.same K _ _).1 hq).symm
    | false => rfl
  have hgetm : ∀ m, (mes.modify j fun e => { e with key := u, val := v })[m]? = (mes[m]?).map fun e => if j = m then { e with key := u, val := v } else e := fun m => by
    rw [Array.getElem?_modify]
    by_cases hjm : j = m
    · simp [hjm]
    · simp [hjm]
  refine ⟨?_, ?_, ?_, by rw [hkeys]; exact h.nodup, fun q hq => ?_⟩
  · apply List.ext_getElem?
    intro m
    have h1 := congrArg (fun l => l[m]?) h.ents
    simp only [List.getElem?_map, Array.getElem?_toList] at h1
    rw [List.getElem?_map, List.getElem?_map, Array.getElem?_toList, hgetm, e, List.getElem?_map]
    cases hm : es[m]? with
    | none =>
      rw [hm] at h1
      cases hx : mes[m]? with
      | none => rfl
      | some x => rw [hx] at h1; cases h1
    | some q =>
      rw [hm] at h1
      cases hx : mes[m]? with
      | none => rw [hx] at h1; cases h1
      | some x =>
        rw [hx] at h1
        simp only [Option.map_some, Option.some.injEq, Prod.mk.injEq] at h1 ⊢
        by_cases hjm : j = m
        · subst hjm
          rw [hp] at hm; cases hm
          simp [hpk, hb, hu, hv]
        · have hne := keys_ne h.nodup hp hm hjm
          rw [hpk] at hne
          have hq : R.beq K q.1 k = false := by
            cases hq : R.beq K q.1 k with
            | false => rfl
            | true => exact absurd ((R.same K _ _).1 hq).symm hne
          simp [hjm, hq, h1.1, h1.2]
  · intro x hx
    obtain ⟨m, hm⟩ := List.getElem?_of_mem hx
    rw [Array.getElem?_toList, hgetm] at hm
    cases hz : mes[m]? with
    | none => rw [hz] at hm; cases hm
    | some z =>
      rw [hz] at hm
      simp only [Option.map_some, Option.some.injEq] at hm
      have := h.born z (List.mem_of_getElem? (by rw [Array.getElem?_toList]; exact hz))
      subst hm
      split <;> exact this
  · have hb2 : (mes.modify j fun e => { e with key := u, val := v }).toList.map (·.born) = mes.toList.map (·.born) := by
      apply List.ext_getElem?
      intro m
      rw [List.getElem?_map, List.getElem?_map, Array.getElem?_toList, Array.getElem?_toList, hgetm]
      cases mes[m]? with
      | none => rfl
      | some z => simp only [Option.map_some]; split <;> rfl
    have hr := h.rise
    rw [← List.pairwise_map (f := fun e : MapEntry => e.born) (R := (· < ·))] at hr ⊢
    rw [hb2]; exact hr
  · have : q.1 ∈ es.map (·.1) := by rw [← hkeys]; exact List.mem_map.2 ⟨q, hq, rfl⟩
    obtain ⟨p', hp', e'⟩ := List.mem_map.1 this
    rw [← e']; exact h.good p' hp'
theorem snd_mapUpdate (hE : E.Ok P) (hI : SInv E.reg n X E0 ρ0 w0 st ρ a w) (hd : okDst n d = true) {T : TypeId} {x i s : SV A} {v vi vs : Value} (hv : Den E.reg ρ (fun b => X b ∨ OwnB st.h ρ b) w x v)
    (hvi : Den E.reg ρ (fun b => X b ∨ OwnB st.h ρ b) w i vi) (hvs : Den E.reg ρ (fun b => X b ∨ OwnB st.h ρ b) w s vs) : Snd P E.reg n X E0 ρ0 w0 st a w d (xmapUpdate E T x i s) (do Instr.mapUpdate T v vi vs; pure undef) := by
  unfold xmapUpdate
  split
  · rename_i ti h hti
    obtain ⟨b, base, rfl, hr⟩ := mp_inv hv
    obtain ⟨dd, ii, hu, hi, hk, _⟩ := tiOf_inv (hE.tt T ti hti)
    split
    · rename_i K0 V0 hfs
      rw [hfs] at hk
      obtain rfl := kind_map hk
      refine .ask ?_
      cases hh : st.h h with
      | none => exact .no
      | some ct =>
        cases ct with
        | cells _ => exact .no
        | arr _ _ => exact .no
        | map K V es =>
          dsimp only
          split
          · rename_i u k e1 e2 hkk
            obtain rfl := beq_true e1
            obtain rfl := beq_true e2
            obtain rfl := val_inv hvs
            split
            · rename_i y hag hy
              obtain ⟨hkey, hkv⟩ := keyOfS_run hE hkk hvi
              obtain ⟨mes, cl, hb, hm⟩ := hI.mapBlock hh hr
              obtain ⟨_, hyv, _⟩ := dec_one hy
              refine .vc fun hg => ?_
              obtain ⟨_, hc, hst, hf⟩ := find_run hE hkey hm hkv hg w
              intro R0 Kk hfr hK
              rcases hf with ⟨h1, h2, _⟩ | ⟨j, e, p, h1, h5, h6, h2, h3, h4⟩
              · refine ⟨undef, setB w b (.map (mes.push ⟨vi, vs, cl⟩) (cl + 1)), undefS, _, ρ, ?_, hK, hI.setMap hd hh hr hb (hm.ins hkv hyv hg h2) (fun _ _ => .val _) rfl⟩
                simp [Instr.mapUpdate, run_underlying hu, MapKept.run_getObj_map hb, hc, h1, MapKept.run_setObj_map _ hb, setB, Result.andThen]
              · refine ⟨undef, setB w b (.map (mes.modify j fun e => { e with key := vi, val := vs }) cl), undefS, _, ρ, ?_, hK, hI.setMap hd hh hr hb (hm.mod hkv hyv h2 h3) (fun _ _ => .val _) rfl⟩
                rw [Array.getElem?_toList] at h5
                simp [Instr.mapUpdate, run_underlying hu, MapKept.run_getObj_map hb, hc, h1, h5, h6, hst, MapKept.run_setObj_map _ hb, setB, Result.andThen]
            · exact .no
          · exact .no
    · exact .no
  · exact .no
theorem del_erase {R : Reg A} {K V : Nat} : ∀ {es : List (A K × A V)} {j : Nat} {p : A K × A V}, (es.map (·.1)).Nodup → es[j]? = some p → Sx.del R K V es p.1 = es.eraseIdx j
  | [], _, _, _, h => by simp at h
  | q :: es, 0, p, hn, h => by
    simp at h; subst h
    have hb : R.beq K q.1 q.1 = true := (R.same K _ _).2 rfl
    rw [List.map_cons, List.nodup_cons] at hn
    unfold Sx.del
    rw [List.filter_cons, hb]
    simp only [Bool.not_true, Bool.false_eq_true, if_false, List.eraseIdx_zero, List.tail_cons]
    refine List.filter_eq_self.2 fun x hx => ?_
    cases e : R.beq K x.1 q.1 with
    | false => rfl
    | true => exact absurd (List.mem_map.2 ⟨x, hx, (R.same K _ _).1 e⟩) hn.1
  | q :: es, j + 1, p, hn, h => by
    have h : es[j]? = some p := by simpa using h
    rw [List.map_cons, List.nodup_cons] at hn
    have ih := del_erase (R := R) hn.2 h
    have hb : R.beq K q.1 p.1 = false := by
      cases e : R.beq K q.1 p.1 with
      | false => rfl
      | true => exact absurd (List.mem_map.2 ⟨p, List.mem_of_getElem? h, ((R.same K _ _).1 e).symm⟩) hn.1
    unfold Sx.del at ih ⊢
    rw [List.filter_cons, hb]
    simp only [Bool.not_false, if_true, List.eraseIdx_cons_succ, ih]
theorem del_no {R : Reg A} {K V : Nat} {es : List (A K × A V)} {k : A K} (h : ∀ p ∈ es, p.1 ≠ k) : Sx.del R K V es k = es := by
  unfold Sx.del
  refine List.filter_eq_self.2 fun x hx => ?_
  cases e : R.beq K x.1 k with
  | false => rfl
  | true => exact absurd ((R.same K _ _).1 e) (h x hx)
theorem MapRep.del {R : Reg A} {K V : Nat} {es : List (A K × A V)} {mes : Array MapEntry} {cl : Nat} (h : MapRep R K V es mes cl) {j : Nat} {p : A K × A V} (hp : es[j]? = some p) :
    MapRep R K V (Sx.del R K V es p.1) (mes.eraseIdxIfInBounds j) cl := by
  have ht : (mes.eraseIdxIfInBounds j).toList = mes.toList.eraseIdx j := by
    unfold Array.eraseIdxIfInBounds
    split
    · simp
    · rename_i hj
      rw [List.eraseIdx_of_length_le (by simpa using hj)]
  rw [del_erase h.nodup hp]
  refine ⟨?_, fun e he => ?_, ?_, ?_, fun q hq => h.good q (List.mem_of_mem_eraseIdx hq)⟩
  · have h1 := congrArg (fun l => l.eraseIdx j) h.ents
    rw [ht]
    simp only [List.eraseIdx_eq_take_drop_succ, List.map_append, List.map_take, List.map_drop] at h1 ⊢
    exact h1
  · rw [ht] at he; exact h.born e (List.mem_of_mem_eraseIdx he)
  · rw [ht]; exact h.rise.sublist (List.eraseIdx_sublist _ _)
  · exact h.nodup.sublist ((List.eraseIdx_sublist _ _).map _)
theorem snd_delete (hE : E.Ok P) (hI : SInv E.reg n X E0 ρ0 w0 st ρ a w) (hd : okDst n d = true) {T : TypeId} {ats : Array TypeId} (ha : ats[0]? = some T) {ty : TypeId} {x i : SV A} {v vi : Value} (hv : Den E.reg ρ (fun b => X b ∨ OwnB st.h ρ b) w x v)
    (hvi : Den E.reg ρ (fun b => X b ∨ OwnB st.h ρ b) w i vi) : Snd P E.reg n X E0 ρ0 w0 st a w d (xdelete E T x i) (Builtin.delete_ ats ty #[v, vi]) := by
  unfold xdelete
  split
  · rename_i ti h hti
    obtain ⟨b, base, rfl, hr⟩ := mp_inv hv
    obtain ⟨dd, ii, hu, hi, hk, _⟩ := tiOf_inv (hE.tt T ti hti)
    split
    · rename_i K0 V0 hfs
      rw [hfs] at hk
      obtain rfl := kind_map hk
      refine .ask ?_
      cases hh : st.h h with
      | none => exact .no
      | some ct =>
        cases ct with
        | cells _ => exact .no
        | arr _ _ => exact .no
        | map K V es =>
          dsimp only
          split
          · rename_i k e1 hkk
            obtain rfl := beq_true e1
            obtain ⟨hkey, hkv⟩ := keyOfS_run hE hkk hvi
            obtain ⟨mes, cl, hb, hm⟩ := hI.mapBlock hh hr
            refine .vc fun hg => ?_
            obtain ⟨hc0, hc, hst, hf⟩ := find_run hE hkey hm hkv hg w
            intro R0 Kk hfr hK
            rcases hf with ⟨h1, h2, _⟩ | ⟨j, e, p, h1, h5, h6, h2, h3, h4⟩
            · refine ⟨.tuple #[], setB w b (.map mes cl), undefS, _, ρ, ?_, hK, hI.setMap hd hh hr hb (by rw [del_no h2]; exact hm) (fun _ _ => .val _) rfl⟩
              simp [Builtin.delete_, ha, run_underlying hu, MapKept.run_getObj_map hb, hc0, h1, MapKept.run_setObj_map _ hb, setB, Result.andThen]
            · refine ⟨.tuple #[], setB w b (.map (mes.eraseIdxIfInBounds j) cl), undefS, _, ρ, ?_, hK, hI.setMap hd hh hr hb (by rw [← h3]; exact hm.del h2) (fun _ _ => .val _) rfl⟩
              simp [Builtin.delete_, ha, run_underlying hu, MapKept.run_getObj_map hb, hc0, h1, MapKept.run_setObj_map _ hb, setB, Result.andThen]
          · exact .no
    · exact .no
  · exact .no
theorem snd_convert (hE : E.Ok P) (hI : SInv E.reg n X E0 ρ0 w0 st ρ a w) (hd : okDst n d = true) {S T : TypeId} {x : SV A} {v : Value} (hv : Den E.reg ρ (fun b => X b ∨ OwnB st.h ρ b) w x v) : Snd P E.reg n X E0 ρ0 w0 st a w d (xconvert E S T x) (convert S T v) := by
  unfold xconvert
  split
  · rename_i ts ti j m hts hti
    obtain rfl := int_inv hv
    obtain ⟨_, _, hu1, _, _, _⟩ := tiOf_inv (hE.tt S ts hts)
    obtain ⟨_, _, hu2, _, hk, _⟩ := tiOf_inv (hE.tt T ti hti)
    split
    · rename_i k hkk
      rw [hkk] at hk
      obtain rfl := kind_int hk
      refine .pure hI hd (v := .int k (k.wrap m)) ?_ (.val _) rfl
      simp [convert, Sem.run_bind, run_underlying hu1, run_underlying hu2, Conv.intToInt]
    · exact .no
  · exact .no

theorem snd_copy (hE : E.Ok P) (hI : SInv E.reg n X E0 ρ0 w0 st ρ a w) (hd : okDst n d = true) {T : TypeId} {ats : Array TypeId} (ha : ats[0]? = some T) {ty : TypeId} {x y : SV A} {v u : Value} (hv : Den E.reg ρ (fun b => X b ∨ OwnB st.h ρ b) w x v)
    (hu : Den E.reg ρ (fun b => X b ∨ OwnB st.h ρ b) w y u) : Snd P E.reg n X E0 ρ0 w0 st a w d (xcopy E T x y) (Builtin.copy_ ats ty #[v, u]) := by
  unfold xcopy
  split
  · rename_i ti hti
    obtain ⟨dd, ii, hud, hi, hk, _⟩ := tiOf_inv (hE.tt T ti hti)
    split
    · rename_i U hfs
      rw [hfs] at hk
      obtain rfl := kind_slice hk
      split
      · rename_i te hte
        split
        · rename_i hts
          have hts := beq_true hts
          have hsz : ∀ w : World, (sizeOf U).run P w = .ok (E.reg.sz U) w := fun w => by rw [← hts]; exact run_sizeOf_sx (hE.tt U te hte) w
          split
          · rename_i h sz off len
            split
            · rename_i e0
              obtain rfl := beq_true e0
              refine .ask ?_
              cases hh : st.h h with
              | none => exact .no
              | some ct =>
                cases ct with
                | cells _ => exact .no
                | map _ _ _ => exact .no
                | arr V xs =>
                  dsimp only
                  split
                  · rename_i e _
                    subst e
                    split
                    · rename_i h2 sz2 off2 len2
                      split
                      · rename_i e0
                        obtain rfl := beq_true e0
                        refine .ask ?_
                        cases hh2 : st.h h2 with
                        | none => exact .no
                        | some ct2 =>
                          cases ct2 with
                          | cells _ => exact .no
                          | map _ _ _ => exact .no
                          | arr V2 ys =>
                            dsimp only
                            split
                            · rename_i e2 _
                              subst e2
                              refine .vc fun hc => ?_
                              obtain ⟨⟨hl0, hl2⟩, hx, hy⟩ := hc
                              cases hv with
                              | slnil _ _ _ => omega
                              | sl _ _ _ _ cap b base o c F fz hr hb hcap ho hs =>
                                cases hu with
                                | slnil _ _ _ => omega
                                | sl _ _ _ _ cap2 b2 base2 o2 c2 F2 fz2 hr2 hb2 hcap2 ho2 hs2 =>
                                  have ho : o = base + off * te.size := by omega
                                  have ho2 : o2 = base2 + off2 * te.size := by omega
                                  subst ho; subst ho2
                                  rw [hts] at *
                                  obtain ⟨c', F', fz', k1, k2, k3, k4, k5, k6⟩ := hI.block hh rfl hr
                                  rw [hb] at k1; cases k1
                                  obtain ⟨c2', F2', fz2', q1, q2, q3, q4, q5, q6⟩ := hI.block hh2 rfl hr2
                                  rw [hb2] at q1; cases q1
                                  have hfl : (Ct.flat E.reg (.arr V2 xs)).length = xs.length * E.reg.sz V2 := flat_len (E.reg.len V2) xs
                                  have hfl2 : (Ct.flat E.reg (.arr V2 ys)).length = ys.length * E.reg.sz V2 := flat_len (E.reg.len V2) ys
                                  generalize hnn : min len2 len = nn
                                  have hn1 : nn ≤ len := by omega
                                  have hn2 : nn ≤ len2 := by omega
                                  have m1 : (off2 + nn) * E.reg.sz V2 ≤ ys.length * E.reg.sz V2 := Nat.mul_le_mul_right _ (by omega)
                                  have m2 : (off + nn) * E.reg.sz V2 ≤ xs.length * E.reg.sz V2 := Nat.mul_le_mul_right _ (by omega)
                                  rw [Nat.add_mul] at m1 m2
                                  let new : Array Value := ((List.range (nn * E.reg.sz V2)).map fun j => c2.getD (base2 + (off2 * E.reg.sz V2 + j)) undef).toArray
                                  have hrd : (Builtin.firstCells (E.reg.sz V2) nn (.slice (some ⟨b2, base2 + off2 * E.reg.sz V2, none⟩) len2 cap2)).run P w = .ok new w := by
                                    have := run_loadCells (P := P) w ⟨b2, base2 + off2 * E.reg.sz V2, none⟩ (nn * E.reg.sz V2) (fun j => c2.getD (base2 + (off2 * E.reg.sz V2 + j)) undef) (fun j hj => by
                                      rw [add_off]
                                      refine (cell_at hb2 _).trans ?_
                                      rw [Nat.add_assoc]
                                      exact q4 (off2 * E.reg.sz V2 + j) (by rw [hfl2]; omega))
                                    exact this
                                  have hA : DenA E.reg ρ (fun b => X b ∨ OwnB st.h ρ b) w (((ys.drop off2).take nn).flatMap (E.reg.enc V2)) new := by
                                    refine ⟨?_, fun j s u hs hu => ?_⟩
                                    · rw [flat_len (E.reg.len V2)]; simp [new]; rw [show min nn (ys.length - off2) = nn by omega]
                                    · rw [drop_take_flat, List.getElem?_take] at hs
                                      split at hs
                                      · rename_i hj
                                        rw [List.getElem?_drop] at hs
                                        simp [new, hj] at hu
                                        subst hu
                                        have := q5 _ s hs
                                        simpa using this
                                      · cases hs
                                  have h1 := rows_one hA
                                  have hnl : new.toList.length = nn * E.reg.sz V2 := by simp [new]
                                  have hst := run_storeCells_sx (P := P) (base + off * E.reg.sz V2) new.toList 0 c w hb k2 (by rw [hnl]; rw [hfl] at k3; omega) h1
                                  intro R0 K hfr hK
                                  refine ⟨.int .i64 ((nn : Nat) : Int), w.setRow b (over c (base + off * E.reg.sz V2) new.toList), _, _, ρ, ?_, hK, hI.write (ct' := .arr V2 (xs.take off ++ (ys.drop off2).take nn ++ xs.drop (off + nn))) hd hh hr hb k2 (over_size (by rw [hnl]; rw [hfl] at k3; omega)) rfl ?_ (fun j s u hs hu => ?_) rfl (.val _) rfl⟩
                                  · have hmin : Nat.min len2 len = nn := hnn
                                    simp [Builtin.copy_, ha, run_underlying hud, Builtin.lenOf, hsz, hmin, hrd, Sem.run_bind, hst, Result.andThen, goInt]
                                  · rw [show (Ct.flat E.reg (.arr V2 (xs.take off ++ (ys.drop off2).take nn ++ xs.drop (off + nn)))).length = (xs.take off ++ (ys.drop off2).take nn ++ xs.drop (off + nn)).length * E.reg.sz V2 from flat_len (E.reg.len V2) _]
                                    have : (xs.take off ++ (ys.drop off2).take nn ++ xs.drop (off + nn)).length = xs.length := by simp; omega
                                    rw [this, ← hfl]; exact k3
                                  · obtain ⟨x, k, p1, p2, p3, p4⟩ := flat_at (E.reg.len V2) hs
                                    generalize hi : j / E.reg.sz V2 = i at *
                                    have hsd : ∀ x', xs[i]? = some x' → x' = x → Den E.reg ρ (fun b => X b ∨ OwnB st.h ρ b) w s (c.getD (base + j) undef) := fun x' h1 h2 => by
                                      subst h2
                                      refine k5 j s ?_
                                      rw [p3]
                                      exact (flat_get (E.reg.len V2) xs i k x' h1 p2).trans p4
                                    have hov := over_get (c := c) (off := base + off * E.reg.sz V2) (vs := new.toList) (by rw [hnl]; rw [hfl] at k3; omega) (base + j)
                                    rw [hov, hnl] at hu
                                    have lt1 : i < off → j < off * E.reg.sz V2 := fun h => by
                                      have : (i + 1) * E.reg.sz V2 ≤ off * E.reg.sz V2 := Nat.mul_le_mul_right _ h
                                      rw [Nat.add_mul] at this; omega
                                    have ge1 : off ≤ i → off * E.reg.sz V2 ≤ i * E.reg.sz V2 := fun h => Nat.mul_le_mul_right _ h
                                    have lt2 : i < off + nn → j < (off + nn) * E.reg.sz V2 := fun h => by
                                      have : (i + 1) * E.reg.sz V2 ≤ (off + nn) * E.reg.sz V2 := Nat.mul_le_mul_right _ h
                                      rw [Nat.add_mul i] at this; omega
                                    have ge2 : off + nn ≤ i → (off + nn) * E.reg.sz V2 ≤ i * E.reg.sz V2 := fun h => Nat.mul_le_mul_right _ h
                                    rw [Nat.add_mul] at lt2 ge2
                                    have hlx : (xs.take off).length = off := by simp; omega
                                    have hly : ((ys.drop off2).take nn).length = nn := by simp; omega
                                    rw [List.getElem?_append] at p1
                                    split at p1
                                    · rename_i h1
                                      rw [List.getElem?_append] at p1
                                      split at p1
                                      · rename_i h2
                                        rw [hlx] at h2
                                        have := lt1 h2
                                        rw [if_neg (by omega)] at hu
                                        rw [List.getElem?_take, if_pos h2] at p1
                                        have := hsd _ p1 rfl
                                        rw [Array.getD_eq_getD_getElem?, hu] at this
                                        exact this
                                      · rename_i h2
                                        rw [hlx] at h2 p1
                                        rw [List.length_append, hlx, hly] at h1
                                        have g1 := ge1 (by omega)
                                        have g2 := lt2 h1
                                        rw [if_pos (by omega)] at hu
                                        rw [List.getElem?_take, if_pos (by omega), List.getElem?_drop] at p1
                                        have hjj : base + j - (base + off * E.reg.sz V2) < nn * E.reg.sz V2 := by omega
                                        simp [new, hjj] at hu
                                        subst hu
                                        have e1 : off2 * E.reg.sz V2 + (base + j - (base + off * E.reg.sz V2)) = (off2 + (i - off)) * E.reg.sz V2 + k := by
                                          rw [Nat.add_mul, Nat.sub_mul]; omega
                                        have := q5 _ s ((flat_get (E.reg.len V2) ys (off2 + (i - off)) k x p1 p2).trans p4)
                                        rw [← e1] at this
                                        simpa using this
                                    · rename_i h1
                                      rw [List.length_append, hlx, hly] at h1 p1
                                      have g1 := ge2 (by omega)
                                      rw [if_neg (by omega)] at hu
                                      rw [List.getElem?_drop, show off + nn + (i - (off + nn)) = i by omega] at p1
                                      have := hsd _ p1 rfl
                                      rw [Array.getD_eq_getD_getElem?, hu] at this
                                      exact this
                            · exact .no
                      · exact .no
                    · exact .no
                  · exact .no
            · exact .no
          · exact .no
        · exact .no
      · exact .no
    · exact .no
  · exact .no
end
end Go.Sx
