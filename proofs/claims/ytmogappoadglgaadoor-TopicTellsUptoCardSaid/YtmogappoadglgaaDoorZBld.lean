/-
  strings.Builder: WriteString, Grow and String once more, after the kit's own proofs, with exact frames: nothing is touched but the builder, its row, and what is new.
-/
import Derived.Shelf.Strings.Builder2
import Derived.Test.YtmogappoadglgaaDoorProg
import Derived.Test.YtmogappoadglgaaDoorZSxThree
set_option linter.unusedVariables false
set_option linter.unusedSimpArgs false
namespace Go.Sx
open Go Go.Proofs Go.Shelf Go.RowKit
theorem WRel.mod {E0 : Nat → Prop} {w0 w w' : World} (h : WRel E0 w0 w) {b : Nat} {c c' : Array Value} {T : TypeId} {fz fz' : Nat × Nat} (hb : w.heap[b]? = some (.cells c T fz)) (hb' : w'.heap[b]? = some (.cells c' T fz')) (hs : c'.size = c.size)
    (ho : ∀ k, k ≠ b → w'.heap[k]? = w.heap[k]?) (hz : w'.heap.size = w.heap.size) (hos : w'.os = w.os) (htp : w'.tape = w.tape) (hou : w'.output = w.output) (hE : E0 b ∨ w0.heap.size ≤ b) : WRel E0 w0 w' := by
  refine ⟨hos.trans h.os, htp.trans h.tape, hou.trans h.output, by rw [hz]; exact h.size, fun k hk hn => ?_, fun k c1 E f hk => ?_⟩
  · rw [ho k (by rintro rfl; rcases hE with e | e; exact hn e; omega)]; exact h.block k hk hn
  · obtain ⟨c2, f2, h1, h2⟩ := h.shape k c1 E f hk
    by_cases e : k = b
    · subst e; rw [hb] at h1; cases h1; exact ⟨c', _, hb', hs.trans h2⟩
    · exact ⟨c2, f2, by rw [ho k e]; exact h1, h2⟩
theorem heap_setCell_same {w : World} {b j : Nat} {c : Array Value} {T : TypeId} {fz : Nat × Nat} {v : Value} (hb : w.heap[b]? = some (.cells c T fz)) : (w.setCell ⟨b, j, none⟩ v).heap[b]? = some (.cells (c.setIfInBounds j v) T fz) := by
  simp [World.setCell, Array.getElem?_modify, hb]
theorem heap_setCell_other {w : World} {b j k : Nat} {v : Value} (h : k ≠ b) : (w.setCell ⟨b, j, none⟩ v).heap[k]? = w.heap[k]? := by
  simp only [World.setCell, Array.getElem?_modify]
  rw [if_neg (by omega)]
theorem WRel.setCell {E0 : Nat → Prop} {w0 w : World} (h : WRel E0 w0 w) {b j : Nat} {c : Array Value} {T : TypeId} {fz : Nat × Nat} {v : Value} (hb : w.heap[b]? = some (.cells c T fz)) (hE : E0 b ∨ w0.heap.size ≤ b) : WRel E0 w0 (w.setCell ⟨b, j, none⟩ v) :=
  h.mod hb (heap_setCell_same hb) (by simp) (fun k hk => heap_setCell_other hk) (by simp [World.setCell]) rfl rfl rfl hE
theorem WRel.drew {E0 : Nat → Prop} {w0 w : World} (h : WRel E0 w0 w) : WRel E0 w0 w.drew := ⟨h.os, h.tape, h.output, h.size, h.block, h.shape⟩
theorem heap_freeze_same {w : World} {b n : Nat} {c : Array Value} {T : TypeId} {fz : Nat × Nat} (hb : w.heap[b]? = some (.cells c T fz)) : ∃ fz', (w.freeze ⟨b, 0, none⟩ n).heap[b]? = some (.cells c T fz') := by
  unfold World.freeze
  split
  · exact ⟨fz, hb⟩
  · obtain ⟨lo, hi⟩ := fz
    simp [Array.getElem?_modify, hb]
theorem WRel.freeze {E0 : Nat → Prop} {w0 w : World} (h : WRel E0 w0 w) {b n : Nat} {c : Array Value} {T : TypeId} {fz : Nat × Nat} (hb : w.heap[b]? = some (.cells c T fz)) (hE : E0 b ∨ w0.heap.size ≤ b) : WRel E0 w0 (w.freeze ⟨b, 0, none⟩ n) := by
  obtain ⟨fz', h'⟩ := heap_freeze_same (n := n) hb
  refine h.mod hb h' rfl (fun k hk => ?_) ?_ ?_ ?_ ?_ hE
  all_goals unfold World.freeze; split
  all_goals first | rfl | (simp only [Array.getElem?_modify]; rw [if_neg (by omega)]) | simp

section
variable {P : Program} {ρ : Ren}
/-- Appending a string's bytes to a row of one's own. -/
theorem append_rel (w : World) (t u ty e : TypeId) (i : TypeInfo) (ht : P.underlying t = some (.slice e)) (hu : P.underlying u = some .string) (hi : P.info? e = some i) (hz : i.zero = some (.int .u8 0))
    (hsize : i.size = 1) (hby : i.bytes = 1) (v : Value) (n : Nat) (xs : List Value) (hown : w.ownsRow 0 e 1 v n xs) (s : ByteArray)
    (h63 : n + s.size ≤ maxLen) (hbytes : n + s.size ≤ 140737488355328) :
    ∃ v' w', (Builtin.append_ #[t, u] ty #[v, .string s]).run P w = .ok v' w' ∧ w'.ownsRow 0 e 1 v' (n + s.size) (xs ++ Lib.strCells s) ∧ WRel (fun k => some k = v.ownBlock) w w' ∧
      (v'.ownBlock = v.ownBlock ∨ v'.ownBlock = some w.heap.size) := by
  have hsmall : n + s.size ≤ 9223372036854775807 := by simp only [maxLen] at h63; omega
  have hxl : xs.length = n := by simpa using hown.1
  have hlen : (xs ++ Lib.strCells s).length = (n + s.size) * 1 := by rw [List.length_append, hxl, Lib.strCells_length, Nat.mul_one]
  have grown : ∀ (old : Nat), old < n + s.size → ∀ (E0 : Nat → Prop),
      (w.drew.alloc (.cells (xs.toArray ++ (Lib.strCells s).toArray ++ Builtin.zeroCells (Value.int .u8 0).cells (grownCap w (n + s.size) old e - (n + s.size))) e)).ownsRow 0 e 1
        (.slice (some ⟨w.heap.size, 0, none⟩) (n + s.size) (grownCap w (n + s.size) old e)) (n + s.size) (xs ++ Lib.strCells s) ∧
      WRel E0 w (w.drew.alloc (.cells (xs.toArray ++ (Lib.strCells s).toArray ++ Builtin.zeroCells (Value.int .u8 0).cells (grownCap w (n + s.size) old e - (n + s.size))) e)) := by
    intro old ho E0
    have hge := grownCap_ge w (n + s.size) old e
    have hcm : grownCap w (n + s.size) old e ≤ maxLen := grownCap_le_maxLen w (n + s.size) old e h63
    refine ⟨⟨hlen, .inr ⟨w.heap.size, _, _, rfl, Nat.zero_le _, Go.heap_alloc_new w.drew _, hge, hcm, ?_, ?_⟩⟩, (WRel.refl.drew).alloc _⟩
    · have hz1 : (Value.int IntKind.u8 0).cells.size = 1 := rfl
      simp only [Array.size_append, List.size_toArray, size_zeroCells, hz1, hxl, Lib.strCells_length]
      omega
    · simp only [Array.toList_append, List.append_assoc]
      rw [← List.append_assoc, ← hlen]
      exact List.take_left
  rcases hown.2 with ⟨rfl, rfl⟩ | ⟨g, cap, cur, rfl, hbg, hg, hnc, hcm, hcs, htake⟩
  · have hx : xs = [] := List.eq_nil_of_length_eq_zero hxl
    subst hx
    by_cases hm : s.size = 0
    · have hn : Lib.strCells s = [] := List.eq_nil_of_length_eq_zero (by rw [Lib.strCells_length]; exact hm)
      refine ⟨.slice none 0 0, w, ?_, by rw [hm, hn]; exact World.ownsRow_nil w 0 e 1, WRel.refl, .inl rfl⟩
      have hf := Lib.run_firstCells_string (P := P) w 1 s
      rw [hm] at hf
      simp [Builtin.append_, run_underlying ht, run_underlying hu, sizeOf, typeInfo, hi, hsize, Builtin.lenOf, hm, hf]
    · have hr := run_append_nil_string (P := P) w t u ty e i (.int .u8 0) ht hu hi hz s (by omega) (by omega) (by rw [hby]; omega)
      have hgr := grown 0 (by omega) (fun k => some k = Value.ownBlock (.slice none 0 0))
      simp only [Nat.zero_add, List.nil_append, Array.empty_append] at hgr ⊢
      have e1 : (s.data.map fun b => Value.int .u8 b.toNat) = (Lib.strCells s).toArray := by
        apply Array.ext'
        simp [Lib.strCells]
      rw [e1] at hr
      exact ⟨_, _, hr, hgr.1, hgr.2, .inr rfl⟩
  · by_cases hroom : n + s.size ≤ cap
    · have hcs' : cur.size = cap := by simpa using hcs
      have hr := Lib.run_append_room_string (P := P) w t u ty e i ht hu hi hsize g n cap cur hg s hroom (by omega)
      have hsz : (cur.toList.take n ++ Lib.strCells s ++ cur.toList.drop (n + s.size)).toArray.size = cur.size := by
        simp only [List.size_toArray, List.length_append, List.length_take, List.length_drop, Array.length_toList, Lib.strCells_length]
        omega
      refine ⟨_, _, hr, ⟨hlen, .inr ⟨g, cap, _, rfl, hbg, setRow_heap w g cur _ e _ hg, hroom, hcm, ?_, ?_⟩⟩, WRel.refl.setRow hg _ hsz (.inl rfl), .inl rfl⟩
      · rw [hsz]; exact hcs
      · have ht' : cur.toList.take n = xs := by simpa using htake
        rw [ht', ← hlen]
        exact List.take_left
    · have holds : ∀ j u, xs[j]? = some u → w.cell? ((⟨g, 0, none⟩ : Addr).add j) = some u := hown.cells (g := g) rfl
      have hr := Lib.run_append_grow_string (P := P) w t u ty e i (.int .u8 0) ht hu hi hz ⟨g, 0, none⟩ n cap xs (by rw [hsize]; simpa using hxl) holds s (by omega) (by omega) (by rw [hby]; exact growslice_fits (by omega) (by omega))
      have hgr := grown cap (by omega) (fun k => some k = Value.ownBlock (.slice (some ⟨g, 0, none⟩) n cap))
      exact ⟨_, _, hr, hgr.1, hgr.2, .inr rfl⟩
theorem wpList_append_rel (w : World) {ops : Array Oper} {rest : List Oper} {o : Oper} {a : Act} {Q : Exit → Act → World → Prop} (hgd : o.guard = none) (sl x : Operand) (t u : TypeId)
    (ho : o.op = .call { callee := .builtin .append, args := #[sl, x], argTypes := #[t, u] })
    (e : TypeId) (i : TypeInfo) (ht : P.underlying t = some (.slice e)) (hu : P.underlying u = some .string) (hi : P.info? e = some i) (hz : i.zero = some (.int .u8 0))
    (hsize : i.size = 1) (hby : i.bytes = 1)
    (v : Value) (n : Nat) (xs : List Value) (hs : a.eval sl = v) (hown : w.ownsRow 0 e 1 v n xs) (s : ByteArray) (hx : a.eval x = .string s)
    (h63 : n + s.size ≤ maxLen) (hbytes : n + s.size ≤ 140737488355328)
    (h : ∀ v' w', w'.ownsRow 0 e 1 v' (n + s.size) (xs ++ Lib.strCells s) → WRel (fun k => some k = v.ownBlock) w w' → (v'.ownBlock = v.ownBlock ∨ v'.ownBlock = some w.heap.size) → wpList P ops Q rest (a.put o.dst v') w') : wpList P ops Q (o :: rest) a w := by
  refine wpList_plain hgd fun K hK => ?_
  obtain ⟨v', w', hr, h2, h3, h4⟩ := append_rel (P := P) w t u o.type e i ht hu hi hz hsize hby v n xs hown s h63 hbytes
  unfold Oper.wp execOp
  simp only [ho, resolve, invoke, builtin, Sem.run_bind, Sem.run_pure, Result.andThen_ok, List.map_toArray, List.map_cons, List.map_nil, hs, hx, hr]
  exact hK _ _ (h v' w' h2 h3 h4)
theorem ownsRow_of_heap {w w' : World} {e : TypeId} {v : Value} {n : Nat} {xs : List Value} (h : w.ownsRow 0 e 1 v n xs) (hk : ∀ k, v.ownBlock = some k → w'.heap[k]? = w.heap[k]?) : w'.ownsRow 0 e 1 v n xs := by
  refine ⟨h.1, ?_⟩
  rcases h.2 with hn | ⟨g, cap, cur, rfl, hb, hgg, rest⟩
  · exact .inl hn
  · exact .inr ⟨g, cap, cur, rfl, hb, by rw [hk g rfl]; exact hgg, rest⟩

set_option maxHeartbeats 2000000 in
set_option maxRecDepth 100000 in
/-- copyCheck: whether the builder is fresh or used. -/
theorem bld_check (L : Lays.n240 P ρ) (X : Builder.X72 P ρ) (b : Nat) (p v : Value) (w : World) (hp : p = .pointer none ∨ p = .pointer (some ⟨b, 0, none⟩)) (hbk : w.heap[b]? = some (.cells #[p, v] (ρ.t 72) (0, 0))) :
    Calls P (ρ.f 240) #[.pointer (some ⟨b, 0, none⟩)] w fun e w' => e = .returned (.tuple #[]) ∧ w'.heap[b]? = some (.cells #[.pointer (some ⟨b, 0, none⟩), v] (ρ.t 72) (0, 0)) ∧ (∀ k, k ≠ b → w'.heap[k]? = w.heap[k]?) ∧ w'.heap.size = w.heap.size ∧ WRel (fun k => k = b) w w' := by
  have c0 : w.cell? ⟨b, 0, none⟩ = some p := by rw [Lib.cell_of_heap hbk]; rfl
  rcases hp with rfl | rfl
  · refine (Any.Builder_copyCheck_fresh L X b w c0 (by simp [World.shape?, hbk]) (Lib.frozen_of_heap hbk 0)).mono ?_
    rintro e w' ⟨rfl, rfl⟩
    exact ⟨rfl, heap_setCell_same hbk, fun k hk => heap_setCell_other hk, by simp [World.setCell], WRel.refl.setCell hbk (.inl rfl)⟩
  · refine (Any.Builder_copyCheck_used L X b w c0).mono ?_
    rintro e w' ⟨rfl, rfl⟩
    exact ⟨rfl, hbk, fun _ _ => rfl, rfl, WRel.refl⟩

set_option maxHeartbeats 2000000 in
set_option maxRecDepth 100000 in
theorem bld_write (L : Lays.n166 P ρ) (X : Builder.Extra P ρ) (b : Nat) (p v : Value) (bs : List Value) (s : ByteArray) (w : World) (hp : p = .pointer none ∨ p = .pointer (some ⟨b, 0, none⟩)) (hbk : w.heap[b]? = some (.cells #[p, v] (ρ.t 72) (0, 0)))
    (hown : w.ownsRow 0 (ρ.t 5) 1 v bs.length bs) (hlen : bs.length + s.size ≤ 140737488355328) :
    Calls P (ρ.f 166) #[.pointer (some ⟨b, 0, none⟩), .string s] w fun e w' => e = .returned (.tuple #[.int .i64 s.size, .nilIface]) ∧
      ∃ v', w'.heap[b]? = some (.cells #[.pointer (some ⟨b, 0, none⟩), v'] (ρ.t 72) (0, 0)) ∧ w'.ownsRow 0 (ρ.t 5) 1 v' (bs.length + s.size) (bs ++ Lib.strCells s) ∧
        (v'.ownBlock = v.ownBlock ∨ v'.ownBlock = some w.heap.size) ∧ WRel (fun k => k = b ∨ some k = v.ownBlock) w w' := by
  obtain ⟨i0, hi, hz0, hz1, hz2⟩ := info_parts X.infoByte
  have hne : v.ownBlock ≠ some b := Lib.ownBlock_ne hown hbk X.neB5
  have mixed := L.mixed
  have t72 := L.t72; have a72 := L.a72; have z72 := L.z72; have v72 := L.v72; have u72 := run_underlying L.t72
  have t70 := L.t70; have a70 := L.a70; have z70 := L.z70; have v70 := L.v70; have u70 := run_underlying L.t70
  have t37 := L.t37; have a37 := L.a37; have z37 := L.z37; have v37 := L.v37; have u37 := run_underlying L.t37
  have t3 := L.t3; have a3 := L.a3; have z3 := L.z3; have v3 := L.v3; have u3 := run_underlying L.t3
  have t9 := L.t9; have a9 := L.a9; have z9 := L.z9; have v9 := L.v9; have u9 := run_underlying L.t9
  have t4 := L.t4; have a4 := L.a4; have z4 := L.z4; have v4 := L.v4; have u4 := run_underlying L.t4
  have t164 := L.t164; have a164 := L.a164; have z164 := L.z164; have v164 := L.v164; have u164 := run_underlying L.t164
  have t5 := X.t5; have a5 := X.a5; have z5 := X.z5; have v5 := X.v5; have u5 := run_underlying X.t5
  have e240 : ∀ args w, (callFunc (ρ.f 240) args).run P w = .ok (.enter (ρ.f 240) args) w := enters_of L.f240 (by kernel_rfl) rfl
  go_enter L.f166, Body.n166_ntmps ρ
  go_wp2_with (go_at_fn (ρ.f 240); refine (bld_check { L with } X.toX72 b p v _ hp hbk).mono ?_)
  rintro e w1 ⟨rfl, hbk1, hoth, hsz1, hr1⟩
  have hown1 : w1.ownsRow 0 (ρ.t 5) 1 v bs.length bs := ownsRow_of_heap hown fun k hk => hoth k fun e => hne (e ▸ hk)
  have c0 : w1.cell? ⟨b, 0, none⟩ = some (.pointer (some ⟨b, 0, none⟩)) := by rw [Lib.cell_of_heap hbk1]; rfl
  have c1 : w1.cell? ⟨b, 1, none⟩ = some v := by rw [Lib.cell_of_heap hbk1]; rfl
  go_wp2_with (at_builtin; refine wpList_append_rel _ rfl _ _ (ρ.t 37) (ρ.t 9) rfl (ρ.t 5) i0 L.t37 L.t9 hi hz0 hz1 hz2 _ _ _ rfl hown1 s rfl ?c3 ?c4 ?_)
  case c3 => unfold maxLen; omega
  case c4 => omega
  intro v' w2 hown' hr2 hob
  have hlt : b < w1.heap.size := lt_of_heap hbk1
  have hb2 : w2.heap[b]? = some (.cells #[.pointer (some ⟨b, 0, none⟩), v] (ρ.t 72) (0, 0)) := by
    rw [hr2.block b hlt (fun e => hne e.symm)]
    exact hbk1
  have d0 : w2.cell? ⟨b, 0, none⟩ = some (.pointer (some ⟨b, 0, none⟩)) := by rw [Lib.cell_of_heap hb2]; rfl
  have d1 : w2.cell? ⟨b, 1, none⟩ = some v := by rw [Lib.cell_of_heap hb2]; rfl
  have f1 : w2.frozen? ⟨b, 1, none⟩ = false := Lib.frozen_of_heap hb2 1
  have hne' : v'.ownBlock ≠ some b := Lib.ownBlock_ne hown' hb2 X.neB5
  have hr1' : WRel (fun k => k = b ∨ some k = v.ownBlock) w w1 := ⟨hr1.os, hr1.tape, hr1.output, hr1.size, fun k hk hn => hr1.block k hk fun e => hn (.inl e), hr1.shape⟩
  have hW2 : WRel (fun k => k = b ∨ some k = v.ownBlock) w w2 := hr1'.trans' hr2 fun k h => .inl (.inr h)
  obtain ⟨ao, n', cap, rfl⟩ : ∃ ao n' cap, v' = .slice ao n' cap := by
    rcases hown'.2 with ⟨hv, _⟩ | ⟨g, cap, cur, hv, _⟩
    · exact ⟨_, _, _, hv⟩
    · exact ⟨_, _, _, hv⟩
  go_wp2
  go_ret2
  refine ⟨rfl, _, heap_setCell_same hb2, ownsRow_of_heap hown' fun k hk => heap_setCell_other fun e => hne' (e ▸ hk), by first | exact hob | (rw [← hsz1]; exact hob), hW2.setCell hb2 (.inl (.inl rfl))⟩

set_option maxHeartbeats 2000000 in
set_option maxRecDepth 1000000 in
theorem bld_grow0 (L : Lays.n241 P ρ) (X : Builder.Extra P ρ) (b n : Nat) (w : World) (hbk : w.heap[b]? = some (.cells #[.pointer (some ⟨b, 0, none⟩), .slice none 0 0] (ρ.t 72) (0, 0))) (hn : n ≤ 281474976710656) :
    Calls P (ρ.f 241) #[.pointer (some ⟨b, 0, none⟩), .int .i64 n] w fun e w' => e = .returned (.tuple #[]) ∧ ∃ cap, n ≤ cap ∧ w'.heap[b]? = some (.cells #[.pointer (some ⟨b, 0, none⟩), .slice (some ⟨w.heap.size, 0, none⟩) 0 cap] (ρ.t 72) (0, 0)) ∧
      w'.ownsRow 0 (ρ.t 5) 1 (.slice (some ⟨w.heap.size, 0, none⟩) 0 cap) 0 [] ∧ WRel (fun k => k = b) w w' := by
  obtain ⟨cs, hrun, hle, hmax⟩ := Lib.run_makeNoZero (P := P) w.drew #[(ρ.t 3)] (ρ.t 37) (ρ.t 5) L.t37 n hn
  have hw : IntKind.i64.wrap (IntKind.i64.wrap 0 + (n : Int)) = n := by
    rw [IntKind.wrap_i64, IntKind.wrap_i64]
    omega
  have hcall : (callFunc (ρ.f 277) #[.int .i64 (IntKind.i64.wrap (IntKind.i64.wrap 0 + (n : Int)))]).run P w.drew = .ok (.value (.slice (some ⟨w.drew.heap.size, 0, none⟩) n cs.size)) (w.drew.drew.drew.alloc (.cells cs (ρ.t 5))) := by
    rw [hw, run_callFunc_extern L.f277 (by kernel_rfl) (by kernel_rfl) (by kernel_rfl) (e := Extern.BytealgMakeNoZero.makeNoZero #[(ρ.t 3)] #[(ρ.t 37)]) (by kernel_rfl), hrun]
    rfl
  have hlt : b < w.heap.size := lt_of_heap hbk
  have hbk2 : (w.alloc (.cells cs (ρ.t 5))).heap[b]? = some (.cells #[.pointer (some ⟨b, 0, none⟩), .slice none 0 0] (ρ.t 72) (0, 0)) := (Lib.alloc_old w _ b hlt).trans hbk
  have c1 : w.drew.cell? ⟨b, 1, none⟩ = some (.slice none 0 0) := by
    have : w.drew.heap[b]? = _ := hbk
    rw [Lib.cell_of_heap this]; rfl
  have c2 : (w.alloc (.cells cs (ρ.t 5))).cell? ⟨b, 1, none⟩ = some (.slice none 0 0) := by
    rw [Lib.cell_of_heap hbk2]; rfl
  have f2 : (w.alloc (.cells cs (ρ.t 5))).frozen? ⟨b, 1, none⟩ = false := Lib.frozen_of_heap hbk2 1
  have hcopy : ∀ W : World, (Builtin.copy_ #[(ρ.t 37), (ρ.t 37)] (ρ.t 3) #[.slice (some ⟨w.heap.size, 0, none⟩) 0 cs.size, .slice none 0 0]).run P W = .ok (goInt 0) W :=
    fun W => run_copy_none W (ρ.t 37) (ρ.t 37) (ρ.t 3) (ρ.t 5) _ _ 0 cs.size 0 0 L.t37 X.sizeByte rfl
  clear hw
  have mixed := L.mixed
  have t72 := L.t72; have a72 := L.a72; have z72 := L.z72; have v72 := L.v72; have u72 := run_underlying L.t72
  have t70 := L.t70; have a70 := L.a70; have z70 := L.z70; have v70 := L.v70; have u70 := run_underlying L.t70
  have t37 := L.t37; have a37 := L.a37; have z37 := L.z37; have v37 := L.v37; have u37 := run_underlying L.t37
  have t3 := L.t3; have a3 := L.a3; have z3 := L.z3; have v3 := L.v3; have u3 := run_underlying L.t3
  have t5 := X.t5; have a5 := X.a5; have z5 := X.z5; have v5 := X.v5; have u5 := run_underlying X.t5
  go_enter L.f241, Body.n241_ntmps ρ
  go_wp2
  have hfin : ∃ cap, n ≤ cap ∧ ((w.alloc (.cells cs (ρ.t 5))).setCell ⟨b, 1, none⟩ (.slice (some ⟨w.heap.size, 0, none⟩) 0 cs.size)).drew.drew.drew.heap[b]? = some (.cells #[.pointer (some ⟨b, 0, none⟩), .slice (some ⟨w.heap.size, 0, none⟩) 0 cap] (ρ.t 72) (0, 0)) ∧
      ((w.alloc (.cells cs (ρ.t 5))).setCell ⟨b, 1, none⟩ (.slice (some ⟨w.heap.size, 0, none⟩) 0 cs.size)).drew.drew.drew.ownsRow 0 (ρ.t 5) 1 (.slice (some ⟨w.heap.size, 0, none⟩) 0 cap) 0 [] ∧
      WRel (fun k => k = b) w ((w.alloc (.cells cs (ρ.t 5))).setCell ⟨b, 1, none⟩ (.slice (some ⟨w.heap.size, 0, none⟩) 0 cs.size)).drew.drew.drew := by
    refine ⟨cs.size, hle, heap_setCell_same hbk2, ⟨rfl, .inr ⟨w.heap.size, cs.size, cs, rfl, Nat.zero_le _, ?_, Nat.zero_le _, hmax (by unfold maxLen; omega), by simp, by simp⟩⟩, ((((WRel.refl (E0 := fun k => k = b)).alloc _).setCell hbk2 (.inl rfl)).drew.drew).drew⟩
    exact (heap_setCell_other (by omega)).trans (Go.heap_alloc_new w _)
  have hbs : (w.setCell ⟨b, 1, none⟩ (.slice (some ⟨w.heap.size, 0, none⟩) 0 cs.size)).heap.size = w.heap.size := by simp [World.setCell]
  have hfin2 : ∃ cap, n ≤ cap ∧ ((w.setCell ⟨b, 1, none⟩ (.slice (some ⟨w.heap.size, 0, none⟩) 0 cs.size)).alloc (.cells cs (ρ.t 5))).drew.drew.drew.heap[b]? = some (.cells #[.pointer (some ⟨b, 0, none⟩), .slice (some ⟨w.heap.size, 0, none⟩) 0 cap] (ρ.t 72) (0, 0)) ∧
      ((w.setCell ⟨b, 1, none⟩ (.slice (some ⟨w.heap.size, 0, none⟩) 0 cs.size)).alloc (.cells cs (ρ.t 5))).drew.drew.drew.ownsRow 0 (ρ.t 5) 1 (.slice (some ⟨w.heap.size, 0, none⟩) 0 cap) 0 [] ∧
      WRel (fun k => k = b) w ((w.setCell ⟨b, 1, none⟩ (.slice (some ⟨w.heap.size, 0, none⟩) 0 cs.size)).alloc (.cells cs (ρ.t 5))).drew.drew.drew := by
    refine ⟨cs.size, hle, (Lib.alloc_old _ _ b (by rw [hbs]; exact hlt)).trans (heap_setCell_same hbk), ⟨rfl, .inr ⟨w.heap.size, cs.size, cs, rfl, Nat.zero_le _, ?_, Nat.zero_le _, hmax (by unfold maxLen; omega), by simp, by simp⟩⟩, ((((WRel.refl (E0 := fun k => k = b)).setCell hbk (.inl rfl)).alloc _).drew.drew).drew⟩
    have := Go.heap_alloc_new (w.setCell ⟨b, 1, none⟩ (.slice (some ⟨w.heap.size, 0, none⟩) 0 cs.size)) (.cells cs (ρ.t 5))
    rw [hbs] at this
    exact this
  go_region_o
  all_goals (go_wp2; go_end0; first | exact ⟨rfl, hfin⟩ | exact ⟨rfl, hfin2⟩)

set_option maxHeartbeats 2000000 in
set_option maxRecDepth 1000000 in
/-- Grow at a fresh builder, by at least one byte. -/
theorem bld_grow (L : Lays.n165 P ρ) (X : Builder.Extra P ρ) (b n : Nat) (w : World) (hbk : w.heap[b]? = some (.cells #[.pointer none, .slice none 0 0] (ρ.t 72) (0, 0))) (hn : n ≤ 281474976710656) (hn0 : 0 < n) :
    Calls P (ρ.f 165) #[.pointer (some ⟨b, 0, none⟩), .int .i64 n] w fun e w' => e = .returned (.tuple #[]) ∧ ∃ cap, n ≤ cap ∧ w'.heap[b]? = some (.cells #[.pointer (some ⟨b, 0, none⟩), .slice (some ⟨w.heap.size, 0, none⟩) 0 cap] (ρ.t 72) (0, 0)) ∧
      w'.ownsRow 0 (ρ.t 5) 1 (.slice (some ⟨w.heap.size, 0, none⟩) 0 cap) 0 [] ∧ WRel (fun k => k = b) w w' := by
  have hbk1 : (w.setCell ⟨b, 0, none⟩ (.pointer (some ⟨b, 0, none⟩))).heap[b]? = some (.cells #[.pointer (some ⟨b, 0, none⟩), .slice none 0 0] (ρ.t 72) (0, 0)) := heap_setCell_same hbk
  have c1 : (w.setCell ⟨b, 0, none⟩ (.pointer (some ⟨b, 0, none⟩))).cell? ⟨b, 1, none⟩ = some (.slice none 0 0) := by rw [Lib.cell_of_heap hbk1]; rfl
  have hr1 : WRel (fun k => k = b) w (w.setCell ⟨b, 0, none⟩ (.pointer (some ⟨b, 0, none⟩))) := WRel.refl.setCell hbk (.inl rfl)
  have hsz1 : (w.setCell ⟨b, 0, none⟩ (.pointer (some ⟨b, 0, none⟩))).drew.heap.size = w.heap.size := by show (w.setCell ⟨b, 0, none⟩ (.pointer (some ⟨b, 0, none⟩))).heap.size = _; simp [World.setCell]
  have mixed := L.mixed
  have t72 := L.t72; have a72 := L.a72; have z72 := L.z72; have v72 := L.v72; have u72 := run_underlying L.t72
  have t70 := L.t70; have a70 := L.a70; have z70 := L.z70; have v70 := L.v70; have u70 := run_underlying L.t70
  have t37 := L.t37; have a37 := L.a37; have z37 := L.z37; have v37 := L.v37; have u37 := run_underlying L.t37
  have t3 := L.t3; have a3 := L.a3; have z3 := L.z3; have v3 := L.v3; have u3 := run_underlying L.t3
  have t9 := L.t9; have a9 := L.a9; have z9 := L.z9; have v9 := L.v9; have u9 := run_underlying L.t9
  have t4 := L.t4; have a4 := L.a4; have z4 := L.z4; have v4 := L.v4; have u4 := run_underlying L.t4
  have t164 := L.t164; have a164 := L.a164; have z164 := L.z164; have v164 := L.v164; have u164 := run_underlying L.t164
  have t5 := X.t5; have a5 := X.a5; have z5 := X.z5; have v5 := X.v5; have u5 := run_underlying X.t5
  have e240 : ∀ args w, (callFunc (ρ.f 240) args).run P w = .ok (.enter (ρ.f 240) args) w := enters_of L.f240 (by kernel_rfl) rfl
  have e241 : ∀ args w, (callFunc (ρ.f 241) args).run P w = .ok (.enter (ρ.f 241) args) w := enters_of L.f241 (by kernel_rfl) rfl
  go_enter L.f165, Body.n165_ntmps ρ
  have c1' : (w.setCell ⟨b, 0, none⟩ (.pointer (some ⟨b, 0, none⟩))).drew.cell? ⟨b, 1, none⟩ = some (.slice none 0 0) := c1
  go_wp2_with (go_at_fn (ρ.f 240); refine (Any.Builder_copyCheck_fresh { L with } X.toX72 b w (by rw [Lib.cell_of_heap hbk]; rfl) (by simp [World.shape?, hbk]) (Lib.frozen_of_heap hbk 0)).mono ?_; rintro e w' ⟨rfl, rfl⟩)
  go_region_o
  all_goals go_wp2_with (go_at_fn (ρ.f 241); refine (bld_grow0 { L with } X b n (w.setCell ⟨b, 0, none⟩ (.pointer (some ⟨b, 0, none⟩))).drew hbk1 hn).mono ?_; rintro e w' ⟨rfl, cap, h1, h2, h3, h4⟩)
  all_goals first
    | (go_end0; rw [hsz1] at h2 h3; exact ⟨rfl, cap, h1, h2, h3, hr1.drew.trans' h4 (fun _ e => .inl e)⟩)
    | (exfalso; omega)

set_option maxHeartbeats 1000000 in
set_option maxRecDepth 100000 in
/-- String of a builder that holds bytes. -/
theorem bld_string (L : Lays.n169 P ρ) (X : Builder.Extra P ρ) (b g cap : Nat) (p : Value) (l : List UInt8) (w : World) (hbk : w.heap[b]? = some (.cells #[p, .slice (some ⟨g, 0, none⟩) l.length cap] (ρ.t 72) (0, 0)))
    (hown : w.ownsRow 0 (ρ.t 5) 1 (.slice (some ⟨g, 0, none⟩) l.length cap) l.length (Lib.byteCells l)) (h0 : l ≠ []) :
    Calls P (ρ.f 169) #[.pointer (some ⟨b, 0, none⟩)] w fun e w' => e = .returned (.string ⟨l.toArray⟩) ∧ WRel (fun k => k = g) w w' := by
  have hl0 : l.length ≠ 0 := by simpa using h0
  obtain ⟨cur, hg, hnc, hcm, hcs, htake⟩ : ∃ cur, w.heap[g]? = some (.cells cur (ρ.t 5) (0, 0)) ∧ l.length ≤ cap ∧ cap ≤ maxLen ∧ cur.size = cap * 1 ∧ cur.toList.take (l.length * 1) = Lib.byteCells l := by
    rcases hown.2 with ⟨_, hz⟩ | ⟨g', cap', cur, hv, _, r⟩
    · exact absurd hz hl0
    · cases hv; exact ⟨cur, r⟩
  have c1 : w.drew.cell? ⟨b, 1, none⟩ = some (.slice (some ⟨g, 0, none⟩) l.length cap) := by
    have : w.drew.heap[b]? = some (.cells #[p, .slice (some ⟨g, 0, none⟩) l.length cap] (ρ.t 72) (0, 0)) := hbk
    rw [Lib.cell_of_heap this]; rfl
  have hSD : (Builtin.unsafeSliceData_ #[(ρ.t 37)] (ρ.t 127) #[.slice (some ⟨g, 0, none⟩) l.length cap]).run P w.drew = .ok (.pointer (some ⟨g, 0, none⟩)) w.drew :=
    Lib.run_unsafeSliceData_row _ _ _ _ _ _ (by omega)
  have hUS : (Builtin.unsafeString_ #[(ρ.t 127), (ρ.t 3)] (ρ.t 9) #[.pointer (some ⟨g, 0, none⟩), .int .i64 l.length]).run P w.drew = .ok (.string ⟨l.toArray⟩) (w.drew.freeze ⟨g, 0, none⟩ l.length) := by
    refine Lib.run_unsafeString_row w.drew (ρ.t 127) (ρ.t 3) (ρ.t 9) (ρ.t 5) L.t127 X.cellsByte g cur.size (by have hg' : w.drew.heap[g]? = some (.cells cur (ρ.t 5) (0, 0)) := hg; simp [World.shape?, hg']) l h0 (by omega) (by unfold maxLen at hcm; omega) ?_
    intro j x hx
    have := hown.cells (g := g) rfl j (.int .u8 x.toNat) (by simp [Lib.byteCells, hx])
    exact this
  have hfr : WRel (fun k => k = g) w (w.drew.freeze ⟨g, 0, none⟩ l.length) := (WRel.refl.drew).freeze (w := w.drew) hg (.inl rfl)
  have mixed := L.mixed
  have t72 := L.t72; have a72 := L.a72; have z72 := L.z72; have v72 := L.v72; have u72 := run_underlying L.t72
  have t70 := L.t70; have a70 := L.a70; have z70 := L.z70; have v70 := L.v70; have u70 := run_underlying L.t70
  have t37 := L.t37; have a37 := L.a37; have z37 := L.z37; have v37 := L.v37; have u37 := run_underlying L.t37
  have t127 := L.t127; have a127 := L.a127; have z127 := L.z127; have v127 := L.v127; have u127 := run_underlying L.t127
  have t3 := L.t3; have a3 := L.a3; have z3 := L.z3; have v3 := L.v3; have u3 := run_underlying L.t3
  have t9 := L.t9; have a9 := L.a9; have z9 := L.z9; have v9 := L.v9; have u9 := run_underlying L.t9
  have t5 := X.t5; have a5 := X.a5; have z5 := X.z5; have v5 := X.v5; have u5 := run_underlying X.t5
  go_enter L.f169, Body.n169_ntmps ρ
  go_wp2
  go_region_o
  all_goals (go_wp2; go_ret; exact ⟨rfl, hfr⟩)

set_option maxHeartbeats 2000000 in
set_option maxRecDepth 100000 in
/-- String of a builder that nothing was written to. -/
theorem bld_string0 (L : Lays.n169 P ρ) (X : Builder.Extra P ρ) (b : Nat) (p : Value) (w : World) (hbk : w.heap[b]? = some (.cells #[p, .slice none 0 0] (ρ.t 72) (0, 0))) :
    Calls P (ρ.f 169) #[.pointer (some ⟨b, 0, none⟩)] w fun e w' => e = .returned (.string ⟨#[]⟩) ∧ WRel (fun _ => False) w w' := by
  have hUS := Any.unsafeString_none L X
  have c1 : w.drew.cell? ⟨b, 1, none⟩ = some (.slice none 0 0) := by
    have : w.drew.heap[b]? = some (.cells #[p, .slice none 0 0] (ρ.t 72) (0, 0)) := hbk
    rw [Lib.cell_of_heap this]; rfl
  have hSD : (Builtin.unsafeSliceData_ #[(ρ.t 37)] (ρ.t 127) #[.slice none 0 0]).run P w.drew = .ok (.pointer none) w.drew := rfl
  have mixed := L.mixed
  have t72 := L.t72; have a72 := L.a72; have z72 := L.z72; have v72 := L.v72; have u72 := run_underlying L.t72
  have t70 := L.t70; have a70 := L.a70; have z70 := L.z70; have v70 := L.v70; have u70 := run_underlying L.t70
  have t37 := L.t37; have a37 := L.a37; have z37 := L.z37; have v37 := L.v37; have u37 := run_underlying L.t37
  have t127 := L.t127; have a127 := L.a127; have z127 := L.z127; have v127 := L.v127; have u127 := run_underlying L.t127
  have t3 := L.t3; have a3 := L.a3; have z3 := L.z3; have v3 := L.v3; have u3 := run_underlying L.t3
  have t9 := L.t9; have a9 := L.a9; have z9 := L.z9; have v9 := L.v9; have u9 := run_underlying L.t9
  have t5 := X.t5; have a5 := X.a5; have z5 := X.z5; have v5 := X.v5; have u5 := run_underlying X.t5
  go_enter L.f169, Body.n169_ntmps ρ
  go_wp2
  go_region_o
  all_goals (go_wp2; go_ret; exact ⟨rfl, WRel.refl.drew⟩)
end
end Go.Sx

/-
  strings.Builder at the door: the kit's tables (as the kit's own program prints them), for WriteString, String, Grow.
-/
namespace Go.Proofs
open Go.Shelf
def BldT.ws_ren : Go.Shelf.Ren := ⟨fun | 166 => 71 | 240 => 90 | 276 => 109 | n => n, fun | 70 => 112 | 3 => 3 | 0 => 0 | 4 => 4 | 9 => 9 | 20 => 20 | 72 => 114 | 37 => 90 | 75 => 117 | 80 => 121 | 164 => 159 | 5 => 5 | n => n, fun | n => n⟩
theorem BldT.ws : Go.Proofs.Lays.n166 Tryd.prog BldT.ws_ren := {
  mixed := by kernel_rfl
  f166 := Tryd.func71.trans (congrArg some (by kernel_rfl))
  f240 := Tryd.func90.trans (congrArg some (by kernel_rfl))
  f276 := Tryd.func109.trans (congrArg some (by kernel_rfl))
  t0 := Tryd.underlying0
  a0 := Tryd.isAgg0
  z0 := Tryd.sizeOf0
  v0 := Tryd.zeroValue0
  t3 := Tryd.underlying3
  a3 := Tryd.isAgg3
  z3 := Tryd.sizeOf3
  v3 := Tryd.zeroValue3
  t4 := Tryd.underlying4
  a4 := Tryd.isAgg4
  z4 := Tryd.sizeOf4
  v4 := Tryd.zeroValue4
  t9 := Tryd.underlying9
  a9 := Tryd.isAgg9
  z9 := Tryd.sizeOf9
  v9 := Tryd.zeroValue9
  t20 := Tryd.underlying20
  a20 := Tryd.isAgg20
  z20 := Tryd.sizeOf20
  v20 := Tryd.zeroValue20
  t37 := Tryd.underlying90
  a37 := Tryd.isAgg90
  z37 := Tryd.sizeOf90
  v37 := Tryd.zeroValue90
  t70 := Tryd.underlying112
  a70 := Tryd.isAgg112
  z70 := Tryd.sizeOf112
  v70 := Tryd.zeroValue112
  t72 := Tryd.underlying114
  a72 := Tryd.isAgg114
  z72 := Tryd.sizeOf114
  v72 := Tryd.zeroValue114
  t75 := Tryd.underlying117
  a75 := Tryd.isAgg117
  z75 := Tryd.sizeOf117
  v75 := Tryd.zeroValue117
  t164 := Tryd.underlying159
  a164 := Tryd.isAgg159
  z164 := Tryd.sizeOf159
  v164 := Tryd.zeroValue159 }
theorem BldT.wsX : Builder.Extra Tryd.prog BldT.ws_ren := {
  sizeBuilder := by kernel_rfl
  liesBuilder := by kernel_rfl
  t5 := Tryd.underlying5
  a5 := Tryd.isAgg5
  z5 := Tryd.sizeOf5
  v5 := Tryd.zeroValue5
  infoByte := by kernel_rfl
  cellsByte := by kernel_rfl
  sizeByte := by kernel_rfl
  neB5 := by decide }
def BldT.st_ren : Go.Shelf.Ren := ⟨fun | 169 => 73 | n => n, fun | 70 => 112 | 9 => 9 | 0 => 0 | 72 => 114 | 37 => 90 | 127 => 142 | 3 => 3 | 5 => 5 | n => n, fun | n => n⟩
theorem BldT.st : Go.Proofs.Lays.n169 Tryd.prog BldT.st_ren := {
  mixed := by kernel_rfl
  f169 := Tryd.func73.trans (congrArg some (by kernel_rfl))
  t0 := Tryd.underlying0
  a0 := Tryd.isAgg0
  z0 := Tryd.sizeOf0
  v0 := Tryd.zeroValue0
  t3 := Tryd.underlying3
  a3 := Tryd.isAgg3
  z3 := Tryd.sizeOf3
  v3 := Tryd.zeroValue3
  t9 := Tryd.underlying9
  a9 := Tryd.isAgg9
  z9 := Tryd.sizeOf9
  v9 := Tryd.zeroValue9
  t37 := Tryd.underlying90
  a37 := Tryd.isAgg90
  z37 := Tryd.sizeOf90
  v37 := Tryd.zeroValue90
  t70 := Tryd.underlying112
  a70 := Tryd.isAgg112
  z70 := Tryd.sizeOf112
  v70 := Tryd.zeroValue112
  t72 := Tryd.underlying114
  a72 := Tryd.isAgg114
  z72 := Tryd.sizeOf114
  v72 := Tryd.zeroValue114
  t127 := Tryd.underlying142
  a127 := Tryd.isAgg142
  z127 := Tryd.sizeOf142
  v127 := Tryd.zeroValue142 }
theorem BldT.stX : Builder.Extra Tryd.prog BldT.st_ren := {
  sizeBuilder := by kernel_rfl
  liesBuilder := by kernel_rfl
  t5 := Tryd.underlying5
  a5 := Tryd.isAgg5
  z5 := Tryd.sizeOf5
  v5 := Tryd.zeroValue5
  infoByte := by kernel_rfl
  cellsByte := by kernel_rfl
  sizeByte := by kernel_rfl
  neB5 := by decide }
def BldT.gr_ren : Go.Shelf.Ren := ⟨fun | 165 => 91 | 240 => 90 | 241 => 110 | 276 => 109 | 277 => 122 | n => n, fun | 70 => 112 | 3 => 3 | 0 => 0 | 4 => 4 | 9 => 9 | 20 => 20 | 72 => 114 | 37 => 90 | 164 => 159 | 5 => 5 | n => n, fun | n => n⟩
theorem BldT.gr : Go.Proofs.Lays.n165 Tryd.prog BldT.gr_ren := {
  mixed := by kernel_rfl
  f165 := Tryd.func91.trans (congrArg some (by kernel_rfl))
  f240 := Tryd.func90.trans (congrArg some (by kernel_rfl))
  f241 := Tryd.func110.trans (congrArg some (by kernel_rfl))
  f276 := Tryd.func109.trans (congrArg some (by kernel_rfl))
  f277 := Tryd.func122.trans (congrArg some (by kernel_rfl))
  t0 := Tryd.underlying0
  a0 := Tryd.isAgg0
  z0 := Tryd.sizeOf0
  v0 := Tryd.zeroValue0
  t3 := Tryd.underlying3
  a3 := Tryd.isAgg3
  z3 := Tryd.sizeOf3
  v3 := Tryd.zeroValue3
  t4 := Tryd.underlying4
  a4 := Tryd.isAgg4
  z4 := Tryd.sizeOf4
  v4 := Tryd.zeroValue4
  t9 := Tryd.underlying9
  a9 := Tryd.isAgg9
  z9 := Tryd.sizeOf9
  v9 := Tryd.zeroValue9
  t20 := Tryd.underlying20
  a20 := Tryd.isAgg20
  z20 := Tryd.sizeOf20
  v20 := Tryd.zeroValue20
  t37 := Tryd.underlying90
  a37 := Tryd.isAgg90
  z37 := Tryd.sizeOf90
  v37 := Tryd.zeroValue90
  t70 := Tryd.underlying112
  a70 := Tryd.isAgg112
  z70 := Tryd.sizeOf112
  v70 := Tryd.zeroValue112
  t72 := Tryd.underlying114
  a72 := Tryd.isAgg114
  z72 := Tryd.sizeOf114
  v72 := Tryd.zeroValue114
  t164 := Tryd.underlying159
  a164 := Tryd.isAgg159
  z164 := Tryd.sizeOf159
  v164 := Tryd.zeroValue159 }
theorem BldT.grX : Builder.Extra Tryd.prog BldT.gr_ren := {
  sizeBuilder := by kernel_rfl
  liesBuilder := by kernel_rfl
  t5 := Tryd.underlying5
  a5 := Tryd.isAgg5
  z5 := Tryd.sizeOf5
  v5 := Tryd.zeroValue5
  infoByte := by kernel_rfl
  cellsByte := by kernel_rfl
  sizeByte := by kernel_rfl
  neB5 := by decide }
end Go.Proofs
