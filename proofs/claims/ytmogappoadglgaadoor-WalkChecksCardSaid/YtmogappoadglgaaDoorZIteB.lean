/-
  The iterators at the door: slices.Backward over orders.
-/
import Derived.RangeFuncLeaves
import Derived.Shelf.Abstract
import Derived.WalkKit
import Derived.OwnWalkIn
import Derived.TacticsInMore
import Derived.LoopNIn
import Derived.LoopIn
import Derived.Test.YtmogappoadglgaaDoorZIteA
import Derived.Test.YtmogappoadglgaaDoorZWal
set_option linter.unusedVariables false
set_option linter.unusedSimpArgs false
namespace Go.Proofs
open Go.RowKit Go.Shelf Go.Sx
attribute [local go_sem] Oper.semAt_some
set_option maxRecDepth 100000 in
set_option maxHeartbeats 2000000 in
theorem IteB.back1 (l Bs bs b off len cap : Nat) (g : Nat → Nat → Value) (J Jx : Nat → World → Prop) (Bk : Nat → Prop) (W : World) (hltB : Bs < W.heap.size) (hbl : b < W.heap.size) (hreach : len * 64 ≤ 140737488351232)
    (hJs : ∀ i A B, J i A → IRel Bk A B → J i B)
    (hY : ∀ i A m, i < len → J i A → YieldAt Fence.wide m Tryd.prog l #[.int .i64 ((len - 1 - i : Nat) : Int), .agg #[g (len - 1 - i) 0, g (len - 1 - i) 1, g (len - 1 - i) 2, g (len - 1 - i) 3, g (len - 1 - i) 4, g (len - 1 - i) 5]] A fun e B =>
      (e = .returned (.bool true) ∧ J (i + 1) B ∧ A.heap.size ≤ B.heap.size ∧ B.heap[Bs]? = A.heap[Bs]? ∧ B.heap[b]? = A.heap[b]?) ∨ (e = .returned (.bool false) ∧ Jx (i + 1) B))
    (hBs : W.cell? ⟨Bs, bs, none⟩ = some (.slice (some ⟨b, off, none⟩) len cap))
    (hc : ∀ (i : Nat), i < len → ∀ j, j < 6 → W.cell? ⟨b, off + i * 6 + j, none⟩ = some (g i j)) (h0 : J 0 W) :
    CallsIn Fence.wide 2 Tryd.prog 107 #[.func (.yield l) #[] #[], .pointer (some ⟨Bs, bs, none⟩)] W fun e W' => (∃ v, e = .returned v) ∧ (J len W' ∨ ∃ i, Jx i W') := by
  refine callsIn_of_wp Tryd.func107 rfl trivial ?_ rfl
  simp only [Tryd.ntmps107, List.size_toArray, List.length_cons, List.length_nil, Nat.reduceAdd, Nat.reduceSub, Array.replicate_succ, Array.replicate_zero, List.push_toArray, List.append_toArray, List.nil_append, List.cons_append]
  gi_wp2
  gi_loopw [3] (fun i wr => ∃ k : Nat, k ≤ len ∧ i = .int .i64 ((len : Int) - 1 - k) ∧ J k wr ∧ W.heap.size ≤ wr.heap.size ∧ wr.heap[Bs]? = W.heap[Bs]? ∧ wr.heap[b]? = W.heap[b]?)
    (fun i _ => (intOf i + 1).toNat)
  case atStart => exact ⟨0, Nat.zero_le _, by simp, h0, Nat.le_refl _, rfl, rfl⟩
  case round =>
    obtain ⟨k, hk, rfl, hJk, hsz, hq1, hq2⟩ := hrel
    by_cases hlt : k < len
    · have hx : ((len : Int) - 1 - k) = ((len - 1 - k : Nat) : Int) := by omega
      have hil : len - 1 - k < len := by omega
      have cw : ∀ j, wr.cell? ⟨b, j, none⟩ = W.cell? ⟨b, j, none⟩ := fun j => World.cell?_of_block hq2
      have cB : wr.cell? ⟨Bs, bs, none⟩ = some (.slice (some ⟨b, off, none⟩) len cap) := (World.cell?_of_block hq1).trans hBs
      have c0 : wr.cell? ⟨b, off + (len - 1 - k) * 6, none⟩ = some (g (len - 1 - k) 0) := (cw _).trans (hc _ hil 0 (by omega))
      have c1 := (cw _).trans (hc _ hil 1 (by omega))
      have c2 := (cw _).trans (hc _ hil 2 (by omega))
      have c3 := (cw _).trans (hc _ hil 3 (by omega))
      have c4 := (cw _).trans (hc _ hil 4 (by omega))
      have c5 := (cw _).trans (hc _ hil 5 (by omega))
      rw [hx]
      obtain ⟨fn, tmps, assign, body, hy, hR⟩ := hY k wr (2 - 1) hlt hJk
      generalize len - 1 - k = ix at *
      clear cw hc hBs
      gi_wp2
      refine hR.mono ?_
      rintro e W3 (⟨rfl, hJ3, hs3, hw1, hw2⟩ | ⟨rfl, hJx3⟩)
      · gi_wp2
        go_roundw
        case rel => exact ⟨k + 1, hlt, by first | (rw [← hx]; done) | (rw [← hx]; congr 1; omega), hJ3, Nat.le_trans hsz hs3, hw1.trans hq1, hw2.trans hq2⟩
        case measure => first | (simp [intOf]; done) | (simp [intOf]; omega)
      · gi_wp2
        refine bodyPost_ret (results_none rfl _ _ _) rfl ?_
        exact ⟨⟨_, rfl⟩, .inr ⟨_, hJx3⟩⟩
    · obtain rfl : k = len := by omega
      gi_wp2
      go_end0
      exact ⟨⟨_, rfl⟩, .inl hJk⟩
set_option maxRecDepth 100000 in
set_option maxHeartbeats 2000000 in
theorem IteB.back1_empty (l Bs bs cap : Nat) (a : Option Addr) (J : Nat → World → Prop) (W : World)
    (hBs : W.cell? ⟨Bs, bs, none⟩ = some (.slice a 0 cap)) (h0 : J 0 W) :
    CallsIn Fence.wide 2 Tryd.prog 107 #[.func (.yield l) #[] #[], .pointer (some ⟨Bs, bs, none⟩)] W fun e W' => (∃ v, e = .returned v) ∧ J 0 W' := by
  refine callsIn_of_wp Tryd.func107 rfl trivial ?_ rfl
  simp only [Tryd.ntmps107, List.size_toArray, List.length_cons, List.length_nil, Nat.reduceAdd, Nat.reduceSub, Array.replicate_succ, Array.replicate_zero, List.push_toArray, List.append_toArray, List.nil_append, List.cons_append]
  gi_wp2
  gi_loopw [3] (fun i wr => i = .int .i64 (-1) ∧ J 0 wr) (fun _ _ => 0)
  case atStart => exact ⟨rfl, h0⟩
  case round =>
    obtain ⟨rfl, hJs⟩ := hrel
    gi_wp2
    go_end0
    exact ⟨⟨_, rfl⟩, hJs⟩
/-- An order as an element of a slice. -/
def toE (o : OrdT) : AF 34 := (o.1, ⟨o.2.1.toArray⟩, o.2.2.1, o.2.2.2.1, o.2.2.2.2.1, o.2.2.2.2.2)
theorem enc_toE (o : OrdT) : regF.enc 34 (toE o) = ordCs o := rfl
/-- What slices.Backward hands out. -/
def outsBack (ol : List OrdT) : List (List (SV AF)) := (List.range ol.length).map fun i => [vI ((ol.length - 1 - i : Nat) : Int), ordS (ol.getD (ol.length - 1 - i) (0, [], 0, 0, [], []))]
theorem outsBack_len (ol : List OrdT) : (outsBack ol).length = ol.length := by simp [outsBack]
theorem outsBack_get {ol : List OrdT} {i : Nat} {o : List (SV AF)} (h : (outsBack ol)[i]? = some o) : i < ol.length ∧ ∃ e, ol[ol.length - 1 - i]? = some e ∧ o = [vI ((ol.length - 1 - i : Nat) : Int), ordS e] := by
  have hi := (List.getElem?_eq_some_iff.1 h).1
  rw [outsBack_len] at hi
  unfold outsBack at h
  rw [List.getElem?_map, List.getElem?_range hi] at h
  have hg : ol[ol.length - 1 - i]? = some (ol.getD (ol.length - 1 - i) (0, [], 0, 0, [], [])) := by
    rw [List.getD_eq_getElem?_getD, List.getElem?_eq_getElem (by omega)]; rfl
  exact ⟨hi, _, hg, (Option.some.inj h).symm⟩
theorem it_back (ol : List OrdT) (hlen : ol.length * 64 ≤ 140737488351232) : SeqIt Tryd.prog regF 107 [.ptr 0 0 1 0] [.cells [.lst 34 (ol.map toE)]] (outsBack ol) := by
  refine ⟨⟨_, Tryd.func107, by kernel_rfl, by kernel_rfl⟩, ?_, ?_⟩
  · intro o ho s hs
    obtain ⟨i, hi⟩ := List.mem_iff_getElem?.1 ho
    obtain ⟨_, e, _, rfl⟩ := outsBack_get hi
    simp only [List.mem_cons, List.not_mem_nil, or_false] at hs
    rcases hs with rfl | rfl <;> rfl
  intro X ρ w cvs hX1 hX2 hargs hown
  obtain ⟨v0, rfl⟩ := Array.size_eq_one_iff.1 (show cvs.size = 1 by have h := hargs.1; simp at h; exact h.symm)
  obtain ⟨b1, base1, rfl, hr1⟩ := ptr_inv (hargs.2 0 _ v0 rfl rfl)
  have h1 : DenCt regF ρ _ w (.cells [.lst 34 (ol.map toE)]) (ρ 0) := hown.den 0 _ rfl
  rw [hr1] at h1
  rcases h1 with (⟨_, _, _, e, _⟩ | ⟨_, _, e, _⟩) | ⟨_, c1, E1, fz1, hb1, hfz1, hsz1, hc1⟩
  · cases e
  · cases e
  have hsz1 : base1 + 1 ≤ c1.size := hsz1
  have hcv : c1[base1]? = some c1[base1] := Array.getElem?_eq_getElem (by omega)
  have hd : Den regF ρ _ w (.lst 34 (ol.map toE)) c1[base1] := hc1 0 _ _ rfl (by simp)
  have hcell : w.cell? ⟨b1, base1 + (0 * 1 + 0), none⟩ = some c1[base1] := by simp [World.cell?, hb1, hcv]
  have hlt1 := lt_of_heap hb1
  have hnX1 : ¬ X b1 := fun h => hX2 b1 h ⟨0, _, base1, rfl, hr1⟩
  have hol : (outsBack ol).length = ol.length := outsBack_len ol
  rcases lst_inv hd with ⟨he, a, cap, hev⟩ | ⟨b, off, cap, c, E, fz, g, hev, hob, hb, hc, hg⟩
  · have hz : ol.length = 0 := by have := congrArg List.length he; simpa using this
    obtain rfl := List.length_eq_zero_iff.1 hz
    refine ⟨[], rfl, fun i x o hx => by simp at hx, ?_⟩
    intro l J Jx hJs hJxs hY h0
    refine (callsIn_wide (n := 2)).1 ?_
    exact (IteB.back1_empty l b1 _ cap a J w (hcell.trans (congrArg some hev)) h0).mono fun e W' ⟨h1, h2⟩ => ⟨h1, .inl h2⟩
  have hml : (ol.map toE).length = ol.length := List.length_map ..
  have hat : ∀ i, i < ol.length → ∃ e, ol[i]? = some e ∧ (ol.map toE)[i]? = some (toE e) := fun i hi => ⟨ol[i], List.getElem?_eq_getElem hi, by rw [List.getElem?_map, List.getElem?_eq_getElem hi]; rfl⟩
  refine ⟨(List.range ol.length).map fun i => #[.int .i64 ((ol.length - 1 - i : Nat) : Int), .agg #[g (ol.length - 1 - i) 0, g (ol.length - 1 - i) 1, g (ol.length - 1 - i) 2, g (ol.length - 1 - i) 3, g (ol.length - 1 - i) 4, g (ol.length - 1 - i) 5]], by simp [hol], ?_, ?_⟩
  · intro i x o hx ho
    obtain ⟨hi, e, he, rfl⟩ := outsBack_get ho
    rw [List.getElem?_map, List.getElem?_range hi] at hx
    cases hx
    have hx' : (ol.map toE)[ol.length - 1 - i]? = some (toE e) := by rw [List.getElem?_map, he]; rfl
    have hgs := fun j s => hg (ol.length - 1 - i) (toE e) hx' j s
    refine ⟨rfl, fun j s v hs hv => ?_⟩
    match j with
    | 0 => cases hs; cases hv; exact .val _
    | 1 =>
      cases hs; cases hv
      refine .agg _ _ rfl fun j s v hs hv => ?_
      have hs' : (regF.enc 34 (toE e))[j]? = some s := hs
      have := hgs j s hs'
      match j with
      | 0 => cases hv; exact this
      | 1 => cases hv; exact this
      | 2 => cases hv; exact this
      | 3 => cases hv; exact this
      | 4 => cases hv; exact this
      | 5 => cases hv; exact this
      | j + 6 => simp at hs
    | j + 2 => simp at hs
  intro l J Jx hJs hJxs hY h0
  refine (callsIn_wide (n := 2)).1 ?_
  rw [hol]
  have hlt := lt_of_heap hb
  rw [hml] at hev
  refine IteB.back1 l b1 _ b off ol.length cap g J Jx _ w hlt1 hlt hlen hJs ?_ (hcell.trans (congrArg some hev)) ?_ h0
  · intro i A m hi hJ
    obtain ⟨fn, tmps, assign, body, hy, hR⟩ := hY i _ A m (by rw [List.getElem?_map, List.getElem?_range hi]; rfl) hJ
    refine ⟨fn, tmps, assign, body, hy, hR.mono ?_⟩
    rintro e B (⟨e1, e2, e3, e4⟩ | h)
    · exact .inl ⟨e1, e2, e3, e4 b1 hlt1 hnX1, e4 b hlt fun hX => hob (.inl hX)⟩
    · exact .inr h
  · intro i hi j hj
    obtain ⟨e, _, hx⟩ := hat i hi
    have hh : c[off + i * 6 + j]? = some (g i j) := hc i (toE e) hx j hj
    simp [World.cell?, hb, hh]
end Go.Proofs
