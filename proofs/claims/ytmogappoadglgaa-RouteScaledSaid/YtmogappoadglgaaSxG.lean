/-
  Own tool 'Sx', part G: addresses, parts, numbers, lengths, slicing.
-/
import Derived.Test.YtmogappoadglgaaSxF
import Derived.IntWalk
namespace Go.Sx
open Go
variable {A : Nat → Type}
section
variable {P : Program} {E : Env A} {n : Nat} {X E0 : Nat → Prop} {ρ0 : Rho} {w0 : World} {st : St A} {ρ : Rho} {a : Act} {w : World} {d : Option Tmp}

theorem kEq_spec {k j : IntKind} (h : kEq k j = true) : k = j := by cases k <;> cases j <;> first | rfl | cases h
theorem inR_wrap {k : IntKind} {z : Int} (h : inR k z) : k.wrap z = z := by
  cases k <;> simp only [inR] at h <;> first | exact h | skip
  · unfold IntKind.wrap; simp only [IntKind.bits, IntKind.signed]; simp; omega
  · exact IntWalk.i64_in _ h
  · unfold IntKind.wrap; simp only [IntKind.bits, IntKind.signed]; simp; omega
  · unfold IntKind.wrap; simp only [IntKind.bits, IntKind.signed]; simp; omega
theorem snd_arith (hI : SInv E.reg n X E0 ρ0 w0 st ρ a w) (hd : okDst n d = true) {wr : Bool} {k : IntKind} {z : Int} {s : Sem Value} (hs : s.run P w = .ok (.int k (k.wrap z)) w) : Snd P E.reg n X E0 ρ0 w0 st a w d (arith wr k z) s := by
  unfold arith
  split
  · exact .pure hI hd hs (.val _) rfl
  · refine .vc fun h => ?_
    rw [inR_wrap h] at hs
    exact .ret hI hd hs (.val _) rfl

theorem field_get {fields : Array Field} {f : Nat} {off : Nat} {ft : TypeId} (h : nth (fields.toList.map fun x => (x.offset, x.type)) f = some (off, ft)) : ∃ fl, fields[f]? = some fl ∧ fl.offset = off ∧ fl.type = ft := by
  rw [nth_eq, List.getElem?_map] at h
  cases e : fields.toList[f]? with
  | none => rw [e] at h; cases h
  | some fl => rw [e] at h; cases h; exact ⟨fl, by rwa [Array.getElem?_toList] at e, rfl, rfl⟩

theorem snd_fieldAddr (hE : E.Ok P) (hI : SInv E.reg n X E0 ρ0 w0 st ρ a w) (hd : okDst n d = true) {T : TypeId} {f : Nat} {x : SV A} {v : Value} (hv : Den E.reg ρ (fun b => X b ∨ OwnB st.h ρ b) w x v) (hm : men st.u x = true) :
    Snd P E.reg n X E0 ρ0 w0 st a w d (xfieldAddr E T x f) (Instr.fieldAt T v f) := by
  unfold xfieldAddr
  split
  · rename_i ti hti
    obtain ⟨dd, ii, hu, hi, hk, hs, hb, hz, _⟩ := tiOf_inv (hE.tt T ti hti)
    split
    · rename_i fs hfs
      rw [hfs] at hk
      obtain ⟨fields, rfl, rfl⟩ := kind_struct hk
      split
      · rename_i off ft hf
        obtain ⟨fl, h1, rfl, rfl⟩ := field_get hf
        split
        · rename_i tf htf
          split
          · rename_i hsz
            have hsz := ble_true hsz
            have hrun : ∀ b o, (Instr.fieldAt T (.pointer (some ⟨b, o, none⟩)) f).run P w = .ok (.pointer (some ⟨b, o + fl.offset, none⟩)) w := fun b o => by
              have : tf.size ≠ 0 := by omega
              simp [Instr.fieldAt, run_underlying hu, h1, Instr.sureAddr, fieldPlace, run_sizeOf_sx (hE.tt _ _ htf), this, add_off]
            split
            · rename_i h i sz k
              obtain ⟨b, base, rfl, hr⟩ := ptr_inv hv
              refine .pure hI hd (hrun _ _) ?_ hm
              have := Den.ptr (R := E.reg) (O := fun b => X b ∨ OwnB st.h ρ b) (w := w) h i sz (k + fl.offset) b base hr
              rwa [show base + (i * sz + (k + fl.offset)) = base + (i * sz + k) + fl.offset by omega] at this
            · rename_i cs k
              cases hv with
              | prow _ _ b o c F fz g ho hb hc hdd =>
                refine .pure hI hd (hrun _ _) ?_ hm
                have := Den.prow (R := E.reg) (ρ := ρ) (O := fun b => X b ∨ OwnB st.h ρ b) (w := w) cs (k + fl.offset) b o c F fz g ho hb hc hdd
                rwa [show o + (k + fl.offset) = o + k + fl.offset by omega] at this
            · exact .no
          · exact .no
        · exact .no
      · exact .no
    · exact .no
  · exact .no

theorem agg_inv {R : Reg A} {O : Nat → Prop} {x : SV A} {v : Value} (h : Den R ρ O w x v) (ha : aggS x = true) : ∃ c, v = .agg c := by
  cases h with
  | val v => cases v <;> first | exact ⟨_, rfl⟩ | cases ha
  | agg cs vs => exact ⟨vs, rfl⟩
  | aggl T xs vs => exact ⟨vs, rfl⟩
  | _ => cases ha
theorem part_run (hE : E.Ok P) {O : Nat → Prop} {ft : TypeId} {tf : TI} (htf : E.tt ft = some tf) {cs : List (SV A)} {off : Nat} {sv : SV A} (hv : rowVal tf.k.isAgg tf.size cs off = some sv) {c : Array Value}
    (hl : cs.length = c.size) (hd : ∀ (j : Nat) s u, cs[j]? = some s → c[j]? = some u → Den E.reg ρ O w s u) {u : Nat → Bool} (hm : menL u cs = true) :
    ∃ v, (part ft c off).run P w = .ok v w ∧ Den E.reg ρ O w sv v ∧ men u sv = true := by
  have ht := hE.tt ft tf htf
  unfold rowVal at hv
  cases hk : tf.k.isAgg with
  | true =>
    rw [hk] at hv
    dsimp only at hv
    split at hv
    · rename_i l hl'
      rw [forceL_eq] at hv
      cases hv
      obtain ⟨h1, rfl⟩ := cut_some hl'
      refine ⟨.agg (c.extract off (off + tf.size)), by simp [part, run_isAgg_sx ht, hk, run_sizeOf_sx ht], .agg _ _ (by simp; omega) fun j s v hs hv => ?_, menL_of fun j s hs => ?_⟩
      · have hj : j < tf.size := by have := (List.getElem?_eq_some_iff.1 hs).1; simp at this; omega
        rw [List.getElem?_take, if_pos hj, List.getElem?_drop] at hs
        rw [Array.getElem?_extract] at hv
        split at hv
        · exact hd _ s v hs hv
        · cases hv
      · have hj : j < tf.size := by have := (List.getElem?_eq_some_iff.1 hs).1; simp at this; omega
        rw [List.getElem?_take, if_pos hj, List.getElem?_drop] at hs
        exact menL_get hm _ s hs
    · cases hv
  | false =>
    rw [hk] at hv
    dsimp only at hv
    rw [nth_eq] at hv
    have hlt := (List.getElem?_eq_some_iff.1 hv).1
    have hu : c[off]? = some c[off] := Array.getElem?_eq_getElem (by omega)
    exact ⟨c[off], by simp [part, run_isAgg_sx ht, hk, hu], hd off sv _ hv hu, menL_get hm off sv hv⟩

theorem snd_field (hE : E.Ok P) (hI : SInv E.reg n X E0 ρ0 w0 st ρ a w) (hd : okDst n d = true) {T : TypeId} {f : Nat} {x : SV A} {v : Value} (hv : Den E.reg ρ (fun b => X b ∨ OwnB st.h ρ b) w x v) (hm : men st.u x = true) :
    Snd P E.reg n X E0 ρ0 w0 st a w d (xfield E T x f) (Instr.field T v f) := by
  unfold xfield
  split
  · rename_i ti hti
    obtain ⟨dd, ii, hu, hi, hk, hs, hb, hz, _⟩ := tiOf_inv (hE.tt T ti hti)
    split
    · rename_i fs hfs
      rw [hfs] at hk
      obtain ⟨fields, rfl, rfl⟩ := kind_struct hk
      split
      · rename_i off ft hf
        obtain ⟨fl, h1, rfl, rfl⟩ := field_get hf
        split
        · rename_i tf htf hag
          split
          · rename_i sv hsv
            obtain ⟨c, rfl⟩ := agg_inv hv hag
            obtain ⟨h2, h3⟩ := hv.cells
            obtain ⟨u, g1, g2, g3⟩ := part_run hE htf hsv (c := c) h2 h3 (cellsOf_men hm)
            exact .pure hI hd (by simp [Instr.field, run_underlying hu, h1, asAgg, g1]) g2 g3
          · exact .no
        · exact .no
      · exact .no
    · exact .no
  · exact .no

theorem int_inv {R : Reg A} {O : Nat → Prop} {k : IntKind} {i : Int} {v : Value} (h : Den R ρ O w (.val (.int k i)) v) : v = .int k i := by cases h; rfl

theorem snd_indexAddr (hE : E.Ok P) (hI : SInv E.reg n X E0 ρ0 w0 st ρ a w) (hd : okDst n d = true) {T : TypeId} {x i : SV A} {v vi : Value} (hv : Den E.reg ρ (fun b => X b ∨ OwnB st.h ρ b) w x v) (hm : men st.u x = true)
    (hvi : Den E.reg ρ (fun b => X b ∨ OwnB st.h ρ b) w i vi) : Snd P E.reg n X E0 ρ0 w0 st a w d (xindexAddr E T x i) (Instr.indexAt T v vi) := by
  unfold xindexAddr
  split
  · rename_i ti k m hti
    obtain rfl := int_inv hvi
    obtain ⟨dd, ii, hu, hi, hk, hs, hb, hz, _⟩ := tiOf_inv (hE.tt T ti hti)
    split
    · rename_i elem hfs
      rw [hfs] at hk
      obtain rfl := kind_slice hk
      split
      · rename_i te hte
        have hsz := run_sizeOf_sx (hE.tt elem te hte)
        have hrun : ∀ (b o len cap : Nat), 0 ≤ m → m < (len : Int) → (Instr.indexAt T (.slice (some ⟨b, o, none⟩) len cap) (.int k m)).run P w = .ok (.pointer (some ⟨b, o + m.toNat * te.size, none⟩)) w := fun b o len cap h1 h2 => by
          simp [Instr.indexAt, asIntOf, run_underlying hu, h1, h2, hsz, add_off]
        split
        · rename_i h sz off len
          split
          · rename_i he
            obtain rfl := beq_true he
            refine .vc fun hix => ?_
            obtain ⟨h1, h2⟩ := hix
            cases hv with
            | slnil => simp at h2; omega
            | sl _ _ _ _ cap b base o c F fz hr hb hl ho hsz' =>
              refine .ret hI hd (hrun _ _ _ _ h1 h2) ?_ hm
              have := Den.ptr (R := E.reg) (O := fun b => X b ∨ OwnB st.h ρ b) (w := w) h (off + m.toNat) te.size 0 b base hr
              rcases ho with ho | ho
              · omega
              · rw [show base + ((off + m.toNat) * te.size + 0) = o + m.toNat * te.size by rw [ho, Nat.add_mul]; omega] at this
                exact this
          · exact .no
        · rename_i U xs
          split
          · rename_i he
            have he := beq_true he
            refine .all fun y hy => ?_
            obtain ⟨h1, h2⟩ := hy
            have hlt := (List.getElem?_eq_some_iff.1 h2).1
            cases hv with
            | lnil => simp at h2
            | lempty => simp at h2
            | lst _ _ b off cap c F fz g ho hb hcap hc hdd =>
              refine .ret hI hd (hrun b off xs.length cap h1 (by omega)) ?_ (menL_of fun j s hs => closed_men (E.reg.closed U y j s hs) _)
              have := Den.prow (R := E.reg) (ρ := ρ) (O := fun b => X b ∨ OwnB st.h ρ b) (w := w) (E.reg.enc U y) 0 b (off + m.toNat * te.size) c F fz (g m.toNat) ho hb (fun j hj => by
                rw [← he]; exact hc _ y h2 j (by rw [E.reg.len] at hj; exact hj)) (fun j s hs => hdd _ y h2 j s hs)
              exact this
          · exact .no
        · exact .no
      · exact .no
    · rename_i len elem hfs
      rw [hfs] at hk
      obtain rfl := kind_arr hk
      split
      · rename_i te hte
        have hsz := run_sizeOf_sx (hE.tt elem te hte)
        split
        · rename_i h sz
          split
          · rename_i hlen
            have hlen := ble_true hlen
            refine .vc fun hix => ?_
            obtain ⟨h1, h2⟩ := hix
            obtain ⟨b, base, rfl, hr⟩ := ptr_inv hv
            refine .ret hI hd (v := .pointer (some ⟨b, base + m.toNat * te.size, none⟩)) ?_ ?_ hm
            · simp [Instr.indexAt, Instr.sureAddr, asIntOf, run_underlying hu, h1, h2, hsz, add_off]
            · have := Den.ptr (R := E.reg) (O := fun b => X b ∨ OwnB st.h ρ b) (w := w) h m.toNat te.size 0 b base hr
              simpa using this
          · exact .no
        · exact .no
      · exact .no
    · exact .no
  · exact .no

theorem snd_indexAddrC (hE : E.Ok P) (hI : SInv E.reg n X E0 ρ0 w0 st ρ a w) (hd : okDst n d = true) {T : TypeId} {x i : SV A} {v vi : Value} (hv : Den E.reg ρ (fun b => X b ∨ OwnB st.h ρ b) w x v) (hm : men st.u x = true)
    (hvi : Den E.reg ρ (fun b => X b ∨ OwnB st.h ρ b) w i vi) : Snd P E.reg n X E0 ρ0 w0 st a w d (xindexAddrC E T x i) (Instr.indexAt T v vi) := by
  unfold xindexAddrC
  split
  · rename_i ti k m hti
    split
    · rename_i len elem hfs
      obtain rfl := int_inv hvi
      obtain ⟨dd, ii, hu, hi, hk, hs, hb, hz, _⟩ := tiOf_inv (hE.tt T ti hti)
      rw [hfs] at hk
      obtain rfl := kind_arr hk
      split
      · rename_i te hte
        have hsz := run_sizeOf_sx (hE.tt elem te hte)
        split
        · rename_i hlen
          have hlen := ble_true hlen
          have hrun : ∀ b o, (Instr.indexAt T (.pointer (some ⟨b, o, none⟩)) (.int k (.ofNat m))).run P w = .ok (.pointer (some ⟨b, o + m * te.size, none⟩)) w := fun b o => by
            have h2 : (m : Int) < (len : Int) := by omega
            have h1 : (0 : Int) ≤ (m : Int) := by omega
            simp [Instr.indexAt, Instr.sureAddr, asIntOf, run_underlying hu, hsz, add_off]
            omega
          split
          · rename_i h e sz kk
            obtain ⟨b, base, rfl, hr⟩ := ptr_inv hv
            refine .pure hI hd (hrun _ _) ?_ hm
            have := Den.ptr (R := E.reg) (O := fun b => X b ∨ OwnB st.h ρ b) (w := w) h e sz (kk + m * te.size) b base hr
            rwa [show base + (e * sz + (kk + m * te.size)) = base + (e * sz + kk) + m * te.size by omega] at this
          · rename_i cs kk
            cases hv with
            | prow _ _ b o c F fz g ho hb hc hdd =>
              refine .pure hI hd (hrun _ _) ?_ hm
              have := Den.prow (R := E.reg) (ρ := ρ) (O := fun b => X b ∨ OwnB st.h ρ b) (w := w) cs (kk + m * te.size) b o c F fz g ho hb hc hdd
              rwa [show o + (kk + m * te.size) = o + kk + m * te.size by omega] at this
          · exact .no
        · exact .no
      · exact .no
    · exact snd_indexAddr hE hI hd hv hm hvi
  · exact .no

theorem snd_index (hE : E.Ok P) (hI : SInv E.reg n X E0 ρ0 w0 st ρ a w) (hd : okDst n d = true) {T : TypeId} {x i : SV A} {v vi : Value} (hv : Den E.reg ρ (fun b => X b ∨ OwnB st.h ρ b) w x v) (hm : men st.u x = true)
    (hvi : Den E.reg ρ (fun b => X b ∨ OwnB st.h ρ b) w i vi) : Snd P E.reg n X E0 ρ0 w0 st a w d (xindex E T x i) (Instr.index T v vi) := by
  unfold xindex
  split
  · rename_i ti k m hti
    obtain rfl := int_inv hvi
    obtain ⟨dd, ii, hu, hi, hk, hs, hb, hz, _⟩ := tiOf_inv (hE.tt T ti hti)
    split
    · rename_i len elem hfs
      rw [hfs] at hk
      obtain rfl := kind_arr hk
      split
      · rename_i te hte
        have hsz := run_sizeOf_sx (hE.tt elem te hte)
        have hrun : ∀ c u, 0 ≤ m → m < (len : Int) → (part elem c (m.toNat * te.size)).run P w = .ok u w → (Instr.index T (.agg c) (.int k m)).run P w = .ok u w := fun c u h1 h2 hp => by
          simp [Instr.index, asIntOf, run_underlying hu, h1, h2, hsz, hp]
        split
        · rename_i U xs
          split
          · rename_i he
            have he := beq_true he
            refine .vc fun hlen => .all fun y hy => .opt hI hd fun sv hsv => ?_
            obtain ⟨h1, h2⟩ := hy
            have hlt := (List.getElem?_eq_some_iff.1 h2).1
            cases hv with
            | aggl _ _ c hdd =>
              cases hdd with
              | agg _ _ hl hdd =>
                -- the row's cells, out of the whole
                have hrow : ∃ u, (part elem c (m.toNat * te.size)).run P w = .ok u w ∧ Den E.reg ρ (fun b => X b ∨ OwnB st.h ρ b) w sv u ∧ men st.u sv = true := by
                  have hfl : (xs.flatMap (E.reg.enc U)).length = xs.length * E.reg.sz U := flat_len (E.reg.len U) xs
                  have hle : m.toNat * E.reg.sz U + E.reg.sz U ≤ xs.length * E.reg.sz U := by
                    have : (m.toNat + 1) * E.reg.sz U ≤ xs.length * E.reg.sz U := Nat.mul_le_mul_right _ hlt
                    rwa [Nat.add_mul, Nat.one_mul] at this
                  refine part_run hE hte (cs := xs.flatMap (E.reg.enc U)) ?_ hl hdd (menL_of fun j s hs => flatMap_get (P := fun s => men st.u s = true) (fun x _ i s hi => closed_men (E.reg.closed U x i s hi) _) j s hs)
                  unfold rowVal at hsv ⊢
                  have hyl : (E.reg.enc U y).length = E.reg.sz U := E.reg.len U y
                  split at hsv
                  · rename_i hag
                    split at hsv
                    · rename_i l hl'
                      rw [forceL_eq] at hsv; cases hsv
                      obtain ⟨_, rfl⟩ := cut_some hl'
                      have : cut (xs.flatMap (E.reg.enc U)) (m.toNat * te.size) te.size = some (((xs.flatMap (E.reg.enc U)).drop (m.toNat * te.size)).take te.size) := by
                        unfold cut
                        have : Nat.ble (m.toNat * te.size + te.size) (xs.flatMap (E.reg.enc U)).length = true := Nat.ble_eq_true_of_le (by rw [hfl, ← he]; exact hle)
                        rw [this]
                      simp only [this, forceL_eq]
                      congr 2
                      apply List.ext_getElem?
                      intro j
                      rw [List.getElem?_take, List.getElem?_take]
                      split
                      · rename_i hj
                        rw [List.getElem?_drop, ← he, flat_get (E.reg.len U) xs _ j y h2 (by omega)]
                        simp
                      · rfl
                    · cases hsv
                  · rename_i hag
                    rw [nth_eq] at hsv
                    have h0 : 0 < E.reg.sz U := by have := (List.getElem?_eq_some_iff.1 hsv).1; omega
                    simp only [nth_eq]
                    have := flat_get (E.reg.len U) xs m.toNat 0 y h2 h0
                    rw [← he, ← hsv, ← this, Nat.add_zero]
                obtain ⟨u, g1, g2, g3⟩ := hrow
                exact ⟨u, hrun c u h1 (by omega) g1, g2, g3⟩
          · exact .no
        · split
          · rename_i j hag
            split
            · rename_i hj
              have hj := ble_true hj
              refine .opt hI hd fun sv hsv => ?_
              obtain ⟨c, rfl⟩ := agg_inv hv hag
              obtain ⟨h2, h3⟩ := hv.cells
              obtain ⟨u, g1, g2, g3⟩ := part_run hE hte hsv (c := c) h2 h3 (cellsOf_men hm)
              refine ⟨u, hrun c u (by simp) (by simp; omega) (by simpa using g1), g2, g3⟩
            · exact .no
          · exact .no
      · exact .no
    · rename_i hfs
      rw [hfs] at hk
      obtain rfl := kind_str hk
      split
      · rename_i s
        refine .vc fun hix => ?_
        obtain ⟨h1, h2⟩ := hix
        cases hv
        refine .ret hI hd (v := .int .u8 (s.data.toList.getD m.toNat 0).toNat) ?_ (.val _) rfl
        have hlt : m.toNat < s.size := by omega
        have e : s[m.toNat]? = some s[m.toNat] := by simp [hlt]
        have e2 : s.data.toList.getD m.toNat 0 = s[m.toNat] := by
          rw [List.getD_eq_getElem?_getD, Array.getElem?_toList, Array.getElem?_eq_getElem (by simpa using hlt)]; rfl
        rw [e2]
        simp [Instr.index, asIntOf, run_underlying hu, h1, hlt]
      · exact .no
    · exact .no
  · exact .no
end
end Go.Sx
