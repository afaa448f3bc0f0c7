/-
  The iterators at the door: strings.splitSeq's, at a slash.
-/
import Derived.RangeFuncLeaves
import Derived.Shelf.Abstract
import Derived.WalkKit
import Derived.OwnWalkIn
import Derived.TacticsInMore
import Derived.LoopNIn
import Derived.LoopIn
import Derived.Test.YtmogappoadglgaaDoorZIteA
import Derived.Test.YtmogappoadglgaaDoorZTopU
import Derived.Test.YtmogappoadglgaaDoorZTopP
set_option linter.unusedVariables false
set_option linter.unusedSimpArgs false
namespace Go.Proofs
open Go.RowKit Go.Shelf Go.Sx
attribute [local go_sem] Oper.semAt_some
theorem irel_set {B : Nat → Prop} {w : World} {b o : Nat} {c : Array Value} {E : TypeId} {fz : Nat × Nat} (hb : w.heap[b]? = some (.cells c E fz)) (hB : B b) (v : Value) : IRel B w (w.setCell ⟨b, o, none⟩ v) := by
  rw [setCell_eq_setRow w b o c E fz v hb]
  refine ⟨WRel.refl.setRow hb _ (by simp) (.inl hB), fun b' c' E' fz' _ hc => ?_⟩
  by_cases e : b' = b
  · subst e
    rw [hb] at hc; cases hc
    exact ⟨_, setRow_heap w b' _ _ _ _ hb, by simp⟩
  · exact ⟨c', by rw [Go.Sx.setRow_other e]; exact hc, rfl⟩
/-- The iterator's text, held at a place. -/
def HoldsS (w : World) (b o : Nat) (s : Txt) : Prop := ∃ (c : Array Value) (E : TypeId) (fz : Nat × Nat), w.heap[b]? = some (.cells c E fz) ∧ (fz.2 ≤ fz.1 ∨ c.size ≤ fz.1) ∧ c[o]? = some (.string ⟨s.toArray⟩)
theorem HoldsS.cell {w : World} {b o : Nat} {s : Txt} (h : HoldsS w b o s) : w.cell? ⟨b, o, none⟩ = some (.string ⟨s.toArray⟩) := by
  obtain ⟨c, E, fz, hb, _, hc⟩ := h
  simp [World.cell?, hb, hc]
theorem HoldsS.free {w : World} {b o : Nat} {s : Txt} (h : HoldsS w b o s) : w.frozen? ⟨b, o, none⟩ = false := by
  obtain ⟨c, E, fz, hb, hz, hc⟩ := h
  have := (Array.getElem?_eq_some_iff.1 hc).1
  simp only [World.frozen?, hb]
  rw [Bool.and_eq_false_iff, decide_eq_false_iff_not, decide_eq_false_iff_not]
  omega
theorem HoldsS.set {w : World} {b o : Nat} {s : Txt} (h : HoldsS w b o s) (t : Txt) : HoldsS (w.setCell ⟨b, o, none⟩ (.string ⟨t.toArray⟩)) b o t := by
  obtain ⟨c, E, fz, hb, hz, hc⟩ := h
  have := (Array.getElem?_eq_some_iff.1 hc).1
  rw [setCell_eq_setRow w b o c E fz _ hb]
  refine ⟨_, E, fz, setRow_heap w b _ _ _ _ hb, by simpa using hz, ?_⟩
  simp [this]
theorem HoldsS.of {w w' : World} {b o : Nat} {s : Txt} (h : HoldsS w b o s) (e : w'.heap[b]? = w.heap[b]?) : HoldsS w' b o s := by
  obtain ⟨c, E, fz, hb, hz, hc⟩ := h
  exact ⟨c, E, fz, e.trans hb, hz, hc⟩
theorem heap_set_other {w : World} {b b' o : Nat} {v : Value} (h : b' ≠ b) : (w.setCell ⟨b, o, none⟩ v).heap[b']? = w.heap[b']? := Go.heap_setCell_other w _ b' v h
def strSize : Option Value → Nat
  | some (.string s) => s.size
  | _ => 0
set_option maxRecDepth 100000 in
set_option maxHeartbeats 4000000 in
theorem IteC.split1 (l b1 o1 b2 o2 b3 o3 : Nat) (s : Txt) (hlen : s.length ≤ 9223372036854775806) (J Jx : Nat → World → Prop) (Bk : Nat → Prop) (W : World) (h12 : b1 ≠ b2) (h32 : b3 ≠ b2) (hB2 : Bk b2)
    (hJs : ∀ i A B, J i A → IRel Bk A B → J i B)
    (hY : ∀ i p A m, (partsN s)[i]? = some p → J i A → W.heap.size ≤ A.heap.size → YieldAt Fence.wide m Tryd.prog l #[.string ⟨p.toArray⟩] A fun e B =>
      (e = .returned (.bool true) ∧ J (i + 1) B ∧ A.heap.size ≤ B.heap.size ∧ B.heap[b1]? = A.heap[b1]? ∧ B.heap[b2]? = A.heap[b2]? ∧ B.heap[b3]? = A.heap[b3]?) ∨ (e = .returned (.bool false) ∧ Jx (i + 1) B))
    (hc1 : W.cell? ⟨b1, o1, none⟩ = some (.string ⟨#[47]⟩)) (hc2 : HoldsS W b2 o2 s) (hc3 : W.cell? ⟨b3, o3, none⟩ = some (.int .i64 0)) (h0 : J 0 W) :
    CallsIn Fence.wide 4 Tryd.prog 125 #[.func (.yield l) #[] #[], .pointer (some ⟨b1, o1, none⟩), .pointer (some ⟨b2, o2, none⟩), .pointer (some ⟨b3, o3, none⟩)] W fun e W' => (∃ v, e = .returned v) ∧ (J (partsN s).length W' ∨ ∃ i, Jx i W') := by
  have hsz1 : (⟨#[47]⟩ : ByteArray).size = 1 := rfl
  refine callsIn_of_wp Tryd.func125 rfl trivial ?_ rfl
  simp only [Tryd.ntmps125, List.size_toArray, List.length_cons, List.length_nil, Nat.reduceAdd, Nat.reduceSub, Array.replicate_succ, Array.replicate_zero, List.push_toArray, List.append_toArray, List.nil_append, List.cons_append]
  gi_wp2
  gi_loopw [] (fun wr => ∃ (k : Nat) (rem : Txt) (done : List Txt), partsN s = done ++ partsN rem ∧ done.length = k ∧ rem.length ≤ s.length ∧ J k wr ∧ W.heap.size ≤ wr.heap.size ∧ wr.heap[b1]? = W.heap[b1]? ∧ HoldsS wr b2 o2 rem ∧ wr.heap[b3]? = W.heap[b3]?)
    (fun wr => strSize (wr.cell? ⟨b2, o2, none⟩))
  case atStart => exact ⟨0, s, [], rfl, rfl, Nat.le_refl _, h0, Nat.le_refl _, rfl, hc2, rfl⟩
  case round =>
    obtain ⟨k, rem, done, hp, hk, hrl, hJk, hsz, hq1, hq2, hq3⟩ := hrel
    have cw1 : wr.cell? ⟨b1, o1, none⟩ = some (.string ⟨#[47]⟩) := (World.cell?_of_block hq1).trans hc1
    have cw3 : wr.cell? ⟨b3, o3, none⟩ = some (.int .i64 0) := (World.cell?_of_block hq3).trans hc3
    have cw2 := hq2.cell
    have hS := size_bS rem
    have hfz := hq2.free
    rcases idx_cases rem with ⟨hx, hno⟩ | ⟨j, hx, hj, hno, hcut⟩
    · have hone : partsN rem = [rem] := partsN_one hno
      have hpk : (partsN s)[k]? = some rem := by rw [hp, hone, ← hk]; simp
      have hlk : (partsN s).length = k + 1 := by rw [hp, hone, ← hk]; simp
      have hix : ∀ w, Calls Tryd.prog 102 #[.string ⟨rem.toArray⟩, .string ⟨#[47]⟩] w fun e w' => e = .returned (.int .i64 (-1)) ∧ w' = w := fun w => by
        have := Any.strings_Index_one TopT.idx ⟨rem.toArray⟩ 47 w
        rw [show Lib.indexByte (⟨rem.toArray⟩ : ByteArray).data.toList 47 = -1 from hx] at this
        exact this
      obtain ⟨fn, tmps, assign, body, hy, hR⟩ := hY k rem wr (4 - 1) hpk hJk hsz
      clear hY hJs hp
      generalize (⟨rem.toArray⟩ : ByteArray) = S at *
      gi_wp2_with (refine ⟨trivial, (callsIn_wide.2 (hix _)).mono ?_⟩; rintro e w' ⟨rfl, rfl⟩)
      refine hR.mono ?_
      rintro e W3 (⟨rfl, hJ3, _⟩ | ⟨rfl, hJx3⟩)
      · gi_wp2
        go_end0
        exact ⟨⟨_, rfl⟩, .inl (hlk ▸ hJ3)⟩
      · gi_wp2
        go_end0
        exact ⟨⟨_, rfl⟩, .inr ⟨_, hJx3⟩⟩
    · have hpp := partsN_idx hno hcut
      have hpk : (partsN s)[k]? = some (rem.take j) := by rw [hp, hpp, ← hk]; simp
      have hp2 : partsN s = (done ++ [rem.take j]) ++ partsN (rem.drop (j + 1)) := by rw [hp, hpp]; simp
      have hix : ∀ w, Calls Tryd.prog 102 #[.string ⟨rem.toArray⟩, .string ⟨#[47]⟩] w fun e w' => e = .returned (.int .i64 (j : Int)) ∧ w' = w := fun w => by
        have := Any.strings_Index_one TopT.idx ⟨rem.toArray⟩ 47 w
        rw [show Lib.indexByte (⟨rem.toArray⟩ : ByteArray).data.toList 47 = j from hx] at this
        exact this
      have hS1 : (⟨rem.toArray⟩ : ByteArray).extract 0 j = ⟨(rem.take j).toArray⟩ := by rw [bS_cut, List.drop_zero]
      have hS2 : (⟨rem.toArray⟩ : ByteArray).extract (j + 1) (⟨rem.toArray⟩ : ByteArray).size = ⟨(rem.drop (j + 1)).toArray⟩ := bS_drop rem (j + 1)
      obtain ⟨fn, tmps, assign, body, hy, hR⟩ := hY k (rem.take j) wr (4 - 1) hpk hJk hsz
      clear hY hp hpp hcut hpk hx hno hS2
      have hj1 : (j : Int) + 0 = j := by omega
      have hjs : j < (⟨rem.toArray⟩ : ByteArray).size := by omega
      generalize (⟨rem.toArray⟩ : ByteArray) = S at *
      gi_wp2_with (refine ⟨trivial, (callsIn_wide.2 (hix _)).mono ?_⟩; rintro e w' ⟨rfl, rfl⟩)
      refine hR.mono ?_
      rintro e W3 (⟨rfl, hJ3, hs3, hw1, hw2, hw3⟩ | ⟨rfl, hJx3⟩)
      · have hq2' := hq2.of hw2
        have cw1' : W3.cell? ⟨b1, o1, none⟩ = some (.string ⟨#[47]⟩) := (World.cell?_of_block hw1).trans cw1
        have cw2' := hq2'.cell
        have hfz' := hq2'.free
        gi_wp2
        have hS3 : (⟨rem.toArray⟩ : ByteArray).extract (j + 1) rem.length = ⟨(rem.drop (j + 1)).toArray⟩ := by
          have := bS_drop rem (j + 1)
          rwa [size_bS] at this
        rw [hS3]
        obtain ⟨c, E, fz, hb, _, _⟩ := id hq2'
        refine ⟨⟨k + 1, rem.drop (j + 1), done ++ [rem.take j], hp2, by simp [hk], by simp; omega, hJs _ _ _ hJ3 (irel_set hb hB2 _), by rw [World.size_setCell]; exact Nat.le_trans hsz hs3, ((heap_set_other h12).trans hw1).trans hq1, hq2'.set _, ((heap_set_other h32).trans hw3).trans hq3⟩, ?_⟩
        rw [(hq2'.set _).cell, cw2]
        show (⟨(rem.drop (j + 1)).toArray⟩ : ByteArray).size < S.size
        have h2 := size_bS (rem.drop (j + 1))
        rw [List.length_drop] at h2
        omega
      · gi_wp2
        refine bodyPost_ret (results_none rfl _ _ _) rfl ?_
        exact ⟨⟨_, rfl⟩, .inr ⟨_, hJx3⟩⟩
/-- What a text's parts are handed out as. -/
def outsS (s : Txt) : List (List (SV AF)) := (partsN s).map fun p => [vS p]
theorem outsS_get {s : Txt} {i : Nat} {o : List (SV AF)} (h : (outsS s)[i]? = some o) : ∃ p, (partsN s)[i]? = some p ∧ o = [vS p] := by
  unfold outsS at h
  rw [List.getElem?_map] at h
  cases he : (partsN s)[i]? with
  | none => rw [he] at h; cases h
  | some p => rw [he] at h; exact ⟨p, rfl, (Option.some.inj h).symm⟩
abbrev ownS (s : Txt) : List (Ct AF) := [.cells [vS [47]], .cells [vS s], .cells [vI 0]]
abbrev capS : List (SV AF) := [.ptr 0 0 1 0, .ptr 1 0 1 0, .ptr 2 0 1 0]
theorem it_split (s : Txt) (hlen : s.length ≤ 9223372036854775806) : SeqIt Tryd.prog regF 125 capS (ownS s) (outsS s) := by
  refine ⟨⟨_, Tryd.func125, by kernel_rfl, by kernel_rfl⟩, ?_, ?_⟩
  · intro o ho x hx
    obtain ⟨i, hi⟩ := List.mem_iff_getElem?.1 ho
    obtain ⟨p, _, rfl⟩ := outsS_get hi
    rw [List.mem_singleton.1 hx]; rfl
  intro X ρ w cvs hX1 hX2 hargs hown
  obtain ⟨v0, v1, v2, rfl⟩ : ∃ a b c, cvs = #[a, b, c] := by
    obtain ⟨l⟩ := cvs
    have h := hargs.1
    match l, h with
    | [a, b, c], _ => exact ⟨a, b, c, rfl⟩
  obtain ⟨b1, base1, rfl, hr1⟩ := ptr_inv (hargs.2 0 _ v0 rfl rfl)
  obtain ⟨b2, base2, rfl, hr2⟩ := ptr_inv (hargs.2 1 _ v1 rfl rfl)
  obtain ⟨b3, base3, rfl, hr3⟩ := ptr_inv (hargs.2 2 _ v2 rfl rfl)
  have get : ∀ (h b base : Nat) (sv : SV AF), ((ownS s).map some)[h]? = some (some (.cells [sv])) → ρ h = some (b, base) → ∃ (c : Array Value) (E : TypeId) (fz : Nat × Nat), w.heap[b]? = some (.cells c E fz) ∧ (fz.2 ≤ fz.1 ∨ c.size ≤ fz.1) ∧ ∃ v, c[base]? = some v ∧ Den regF ρ (fun b => X b ∨ Blk ((ownS s).map some) ρ b) w sv v := fun h b base sv hh hr => by
    have h1 : DenCt regF ρ _ w (.cells [sv]) (ρ h) := hown.den h _ hh
    rw [hr] at h1
    rcases h1 with (⟨_, _, _, e, _⟩ | ⟨_, _, e, _⟩) | ⟨_, c1, E1, fz1, hb1, hfz1, hsz1, hc1⟩
    · cases e
    · cases e
    have hsz1 : base + 1 ≤ c1.size := hsz1
    have hcv : c1[base]? = some c1[base] := Array.getElem?_eq_getElem (by omega)
    exact ⟨c1, E1, fz1, hb1, hfz1, _, hcv, hc1 0 _ _ rfl (by simp)⟩
  obtain ⟨c1, E1, fz1, hb1, _, u1, hu1, hd1⟩ := get 0 b1 base1 _ rfl hr1
  obtain ⟨c2, E2, fz2, hb2, hz2, u2, hu2, hd2⟩ := get 1 b2 base2 _ rfl hr2
  obtain ⟨c3, E3, fz3, hb3, _, u3, hu3, hd3⟩ := get 2 b3 base3 _ rfl hr3
  obtain rfl := val_inv hd1
  obtain rfl := val_inv hd2
  obtain rfl := val_inv hd3
  have hl1 := lt_of_heap hb1
  have hl2 := lt_of_heap hb2
  have hl3 := lt_of_heap hb3
  have nX : ∀ (h b base : Nat) (ct : Ct AF), ((ownS s).map some)[h]? = some (some ct) → ρ h = some (b, base) → ¬ X b := fun h b base ct hh hr hx => hX2 b hx ⟨h, ct, base, hh, hr⟩
  have n1 := nX 0 b1 base1 _ rfl hr1
  have n2 := nX 1 b2 base2 _ rfl hr2
  have n3 := nX 2 b3 base3 _ rfl hr3
  have h12 : b1 ≠ b2 := by
    rintro rfl
    exact absurd (hown.inj 0 1 _ _ b1 base1 base2 rfl rfl hr1 hr2) (by decide)
  have h32 : b3 ≠ b2 := by
    rintro rfl
    exact absurd (hown.inj 2 1 _ _ b3 base3 base2 rfl rfl hr3 hr2) (by decide)
  refine ⟨(partsN s).map fun p => #[.string ⟨p.toArray⟩], by simp [outsS], fun i x o hx ho => ?_, ?_⟩
  · obtain ⟨p, hp, rfl⟩ := outsS_get ho
    rw [List.getElem?_map, hp] at hx
    cases hx
    refine ⟨rfl, fun j s v hs hv => ?_⟩
    match j with
    | 0 => cases hs; cases hv; exact .val _
    | j + 1 => simp at hs
  intro l J Jx hJs hJxs hY h0
  refine (callsIn_wide (n := 4)).1 ?_
  have hol : (outsS s).length = (partsN s).length := List.length_map ..
  rw [hol]
  have key := IteC.split1 l b1 base1 b2 base2 b3 base3 s hlen J Jx _ w h12 h32 (show Blk ((ownS s).map some) ρ b2 from ⟨1, _, base2, rfl, hr2⟩) hJs (fun i p A m hp hJ hle => ?_) (by simp [World.cell?, hb1, hu1]) ⟨c2, E2, fz2, hb2, hz2, hu2⟩ (by simp [World.cell?, hb3, hu3]) h0
  · exact key
  · obtain ⟨fn, tmps, assign, body, hy, hR⟩ := hY i _ A m (by rw [List.getElem?_map, hp]; rfl) hJ
    refine ⟨fn, tmps, assign, body, hy, hR.mono ?_⟩
    rintro e B (⟨e1, e2, e3, e4⟩ | h)
    · exact .inl ⟨e1, e2, e3, e4 b1 hl1 n1, e4 b2 hl2 n2, e4 b3 hl3 n3⟩
    · exact .inr h
end Go.Proofs
