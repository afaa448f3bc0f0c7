/-
  The iterators at the door: slices.All over ways.
-/
import Derived.RangeFuncLeaves
import Derived.Shelf.Abstract
import Derived.WalkKit
import Derived.OwnWalkIn
import Derived.TacticsInMore
import Derived.LoopNIn
import Derived.LoopIn
import Derived.Test.YtmogappoadglgaaDoorZLay
set_option linter.unusedVariables false
set_option linter.unusedSimpArgs false
namespace Go.Proofs
open Go.RowKit Go.Shelf Go.Sx
attribute [local go_sem] Oper.semAt_some
theorem lst_inv {A : Nat → Type} {R : Reg A} {ρ : Rho} {O : Nat → Prop} {w : World} {T : Nat} {xs : List (A T)} {v : Value} (h : Den R ρ O w (.lst T xs) v) :
    (xs = [] ∧ ∃ a cap, v = .slice a 0 cap) ∨ ∃ (b off cap : Nat) (c : Array Value) (E : TypeId) (fz : Nat × Nat) (g : Nat → Nat → Value), v = .slice (some ⟨b, off, none⟩) xs.length cap ∧ ¬ O b ∧ w.heap[b]? = some (.cells c E fz) ∧
      (∀ (i : Nat) x, xs[i]? = some x → ∀ j, j < R.sz T → c[off + i * R.sz T + j]? = some (g i j)) ∧
      ∀ (i : Nat) x, xs[i]? = some x → ∀ (j : Nat) s, (R.enc T x)[j]? = some s → Den R ρ O w s (g i j) := by
  cases h with
  | lnil _ cap hc => exact .inl ⟨rfl, _, _, rfl⟩
  | lempty _ a cap ha => exact .inl ⟨rfl, _, _, rfl⟩
  | lst _ _ b off cap c E fz g ho hb hcap hc hd => exact .inr ⟨b, off, cap, c, E, fz, g, rfl, ho, hb, hc, hd⟩
theorem irel_alloc {B : Nat → Prop} {w : World} (o : Obj) : IRel B w (w.alloc o) := by
  refine ⟨WRel.alloc (WRel.refl) o, fun b c E fz _ hc => ⟨c, ?_, rfl⟩⟩
  have hl : b < w.heap.size := (Array.getElem?_eq_some_iff.mp hc).1
  rw [Go.Sx.heap_alloc_old hl]; exact hc
set_option maxRecDepth 100000 in
set_option maxHeartbeats 2000000 in
theorem IteA.all1 (l Bs bs b off len cap : Nat) (es : List (Int × Int × Bool)) (hlen : len = es.length) (J Jx : Nat → World → Prop) (Bk : Nat → Prop) (W : World) (hltB : Bs < W.heap.size) (hbl : b < W.heap.size) (hreach : len * 24 ≤ 140737488351232)
    (hJs : ∀ i A B, J i A → IRel Bk A B → J i B)
    (hY : ∀ i x A m, es[i]? = some x → J i A → YieldAt Fence.wide m Tryd.prog l #[.int .i64 (i : Int), .agg #[.int .i64 x.1, .int .i64 x.2.1, .bool x.2.2]] A fun e B =>
      (e = .returned (.bool true) ∧ J (i + 1) B ∧ A.heap.size ≤ B.heap.size ∧ B.heap[Bs]? = A.heap[Bs]? ∧ B.heap[b]? = A.heap[b]?) ∨ (e = .returned (.bool false) ∧ Jx (i + 1) B))
    (hBs : W.cell? ⟨Bs, bs, none⟩ = some (.slice (some ⟨b, off, none⟩) len cap))
    (hc : ∀ (i : Nat) x, es[i]? = some x → W.cell? ⟨b, off + i * 3, none⟩ = some (.int .i64 x.1) ∧ W.cell? ⟨b, off + i * 3 + 1, none⟩ = some (.int .i64 x.2.1) ∧ W.cell? ⟨b, off + i * 3 + 2, none⟩ = some (.bool x.2.2)) (h0 : J 0 W) :
    CallsIn Fence.wide 2 Tryd.prog 106 #[.func (.yield l) #[] #[], .pointer (some ⟨Bs, bs, none⟩)] W fun e W' => (∃ v, e = .returned v) ∧ (J es.length W' ∨ ∃ i, Jx i W') := by
  refine callsIn_of_wp Tryd.func106 rfl trivial ?_ rfl
  simp only [Tryd.ntmps106, List.size_toArray, List.length_cons, List.length_nil, Nat.reduceAdd, Nat.reduceSub, Array.replicate_succ, Array.replicate_zero, List.push_toArray, List.append_toArray, List.nil_append, List.cons_append]
  gi_wp2
  gi_loopw [7] (fun i wr => ∃ k : Nat, k ≤ len ∧ i = .int .i64 k ∧ J k wr ∧ W.heap.size ≤ wr.heap.size ∧ wr.heap[Bs]? = W.heap[Bs]? ∧ wr.heap[b]? = W.heap[b]?)
    (fun i _ => len - (intOf i).toNat)
  case atStart => exact ⟨0, Nat.zero_le _, rfl, h0, Nat.le_refl _, rfl, rfl⟩
  case round =>
    obtain ⟨k, hk, rfl, hJk, hsz, hq1, hq2⟩ := hrel
    by_cases hlt : k < len
    · obtain ⟨x, hx⟩ : ∃ x, es[k]? = some x := ⟨_, List.getElem?_eq_getElem (by omega)⟩
      obtain ⟨c0, c1, c2⟩ := hc k x hx
      have cw : ∀ j, wr.cell? ⟨b, j, none⟩ = W.cell? ⟨b, j, none⟩ := fun j => World.cell?_of_block hq2
      rw [← cw] at c0 c1 c2
      have hr0 : IRel Bk wr (wr.alloc (.cells #[.int .i64 x.1, .int .i64 x.2.1, .bool x.2.2] 95)) := irel_alloc _
      obtain ⟨fn, tmps, assign, body, hy, hR⟩ := hY k x _ (2 - 1) hx (hJs k _ _ hJk hr0)
      gi_wp2
      refine hR.mono ?_
      rintro e W3 (⟨rfl, hJ3, hs3, hw1, hw2⟩ | ⟨rfl, hJx3⟩)
      · gi_wp2
        go_roundw
        case rel => exact ⟨k + 1, by omega, by simp, hJ3, Nat.le_trans (Nat.le_trans hsz hr0.1.size) hs3, (hw1.trans (Go.Sx.heap_alloc_old (Nat.lt_of_lt_of_le hltB hsz))).trans hq1, (hw2.trans (Go.Sx.heap_alloc_old (Nat.lt_of_lt_of_le hbl hsz))).trans hq2⟩
        case measure => simp [intOf]; omega
      · gi_wp2
        refine bodyPost_ret (results_none rfl _ _ _) rfl ?_
        exact ⟨⟨_, rfl⟩, .inr ⟨_, hJx3⟩⟩
    · obtain rfl : k = len := by omega
      gi_wp2
      go_end0
      exact ⟨⟨_, rfl⟩, .inl (hlen ▸ hJk)⟩

set_option maxRecDepth 100000 in
set_option maxHeartbeats 2000000 in
theorem IteA.all1_empty (l Bs bs cap : Nat) (a : Option Addr) (J : Nat → World → Prop) (W : World)
    (hBs : W.cell? ⟨Bs, bs, none⟩ = some (.slice a 0 cap)) (h0 : J 0 W) :
    CallsIn Fence.wide 2 Tryd.prog 106 #[.func (.yield l) #[] #[], .pointer (some ⟨Bs, bs, none⟩)] W fun e W' => (∃ v, e = .returned v) ∧ J 0 W' := by
  refine callsIn_of_wp Tryd.func106 rfl trivial ?_ rfl
  simp only [Tryd.ntmps106, List.size_toArray, List.length_cons, List.length_nil, Nat.reduceAdd, Nat.reduceSub, Array.replicate_succ, Array.replicate_zero, List.push_toArray, List.append_toArray, List.nil_append, List.cons_append]
  gi_wp2
  gi_loopw [7] (fun i wr => i = .int .i64 0 ∧ J 0 wr) (fun _ _ => 0)
  case atStart => exact ⟨rfl, h0⟩
  case round =>
    obtain ⟨rfl, hJs⟩ := hrel
    gi_wp2
    go_end0
    exact ⟨⟨_, rfl⟩, hJs⟩

/-- What slices.All hands out. -/
def outsAll (es : List (Int × Int × Bool)) : List (List (SV AF)) := es.mapIdx fun i e => [vI i, .agg [vI e.1, vI e.2.1, vB e.2.2]]
theorem outsAll_get {es : List (Int × Int × Bool)} {i : Nat} {o : List (SV AF)} (h : (outsAll es)[i]? = some o) : ∃ e, es[i]? = some e ∧ o = [vI i, .agg [vI e.1, vI e.2.1, vB e.2.2]] := by
  unfold outsAll at h
  rw [List.getElem?_mapIdx] at h
  cases he : es[i]? with
  | none => rw [he] at h; cases h
  | some e => rw [he] at h; exact ⟨e, rfl, (Option.some.inj h).symm⟩
theorem it_all (es : List (Int × Int × Bool)) (hlen : es.length * 24 ≤ 140737488351232) : SeqIt Tryd.prog regF 106 [.ptr 0 0 1 0] [.cells [.lst 95 es]] (outsAll es) := by
  refine ⟨⟨_, Tryd.func106, by kernel_rfl, by kernel_rfl⟩, ?_, ?_⟩
  · intro o ho s hs
    obtain ⟨i, hi⟩ := List.mem_iff_getElem?.1 ho
    obtain ⟨e, _, rfl⟩ := outsAll_get hi
    simp only [List.mem_cons, List.not_mem_nil, or_false] at hs
    rcases hs with rfl | rfl <;> rfl
  intro X ρ w cvs hX1 hX2 hargs hown
  obtain ⟨v0, rfl⟩ := Array.size_eq_one_iff.1 (show cvs.size = 1 by have h := hargs.1; simp at h; exact h.symm)
  obtain ⟨b1, base1, rfl, hr1⟩ := ptr_inv (hargs.2 0 _ v0 rfl rfl)
  have h1 : DenCt regF ρ _ w (.cells [.lst 95 es]) (ρ 0) := hown.den 0 _ rfl
  rw [hr1] at h1
  rcases h1 with (⟨_, _, _, e, _⟩ | ⟨_, _, e, _⟩) | ⟨_, c1, E1, fz1, hb1, hfz1, hsz1, hc1⟩
  · cases e
  · cases e
  have hsz1 : base1 + 1 ≤ c1.size := hsz1
  have hcv : c1[base1]? = some c1[base1] := Array.getElem?_eq_getElem (by omega)
  have hd : Den regF ρ _ w (.lst 95 es) c1[base1] := hc1 0 _ _ rfl (by simp)
  have hcell : w.cell? ⟨b1, base1 + (0 * 1 + 0), none⟩ = some c1[base1] := by simp [World.cell?, hb1, hcv]
  have hlt1 := lt_of_heap hb1
  have hnX1 : ¬ X b1 := fun h => hX2 b1 h ⟨0, _, base1, rfl, hr1⟩
  refine ⟨es.mapIdx fun i e => #[.int .i64 i, .agg #[.int .i64 e.1, .int .i64 e.2.1, .bool e.2.2]], by simp [outsAll], ?_, ?_⟩
  · intro i x o hx ho
    obtain ⟨e, he, rfl⟩ := outsAll_get ho
    rw [List.getElem?_mapIdx, he] at hx
    cases hx
    refine ⟨rfl, fun j s v hs hv => ?_⟩
    match j with
    | 0 => cases hs; cases hv; exact .val _
    | 1 =>
      cases hs; cases hv
      refine .agg _ _ rfl fun j s v hs hv => ?_
      match j with
      | 0 => cases hs; cases hv; exact .val _
      | 1 => cases hs; cases hv; exact .val _
      | 2 => cases hs; cases hv; exact .val _
      | j + 3 => simp at hs
    | j + 2 => simp at hs
  intro l J Jx hJs hJxs hY h0
  have hol : (outsAll es).length = es.length := by simp [outsAll]
  refine (callsIn_wide (n := 2)).1 ?_
  rw [hol]
  rcases lst_inv hd with ⟨rfl, a, cap, hev⟩ | ⟨b, off, cap, c, E, fz, g, hev, hob, hb, hc, hg⟩
  · exact (IteA.all1_empty l b1 _ cap a J w (hcell.trans (congrArg some hev)) h0).mono fun e W' ⟨h1, h2⟩ => ⟨h1, .inl h2⟩
  · have hlt := lt_of_heap hb
    refine IteA.all1 l b1 _ b off es.length cap es rfl J Jx _ w hlt1 hlt hlen hJs ?_ (hcell.trans (congrArg some hev)) ?_ h0
    · intro i x A m hx hJ
      obtain ⟨fn, tmps, assign, body, hy, hR⟩ := hY i #[.int .i64 i, .agg #[.int .i64 x.1, .int .i64 x.2.1, .bool x.2.2]] A m (by rw [List.getElem?_mapIdx, hx]; rfl) hJ
      refine ⟨fn, tmps, assign, body, hy, hR.mono ?_⟩
      rintro e B (⟨e1, e2, e3, e4⟩ | h)
      · exact .inl ⟨e1, e2, e3, e4 b1 hlt1 hnX1, e4 b hlt fun hX => hob (.inl hX)⟩
      · exact .inr h
    · intro i x hx
      have hh : ∀ j, j < 3 → c[off + i * 3 + j]? = some (g i j) := fun j hj => hc i x hx j hj
      have h0 : g i 0 = .int .i64 x.1 := val_inv (hg i x hx 0 _ rfl)
      have h1 : g i 1 = .int .i64 x.2.1 := val_inv (hg i x hx 1 _ rfl)
      have h2 : g i 2 = .bool x.2.2 := val_inv (hg i x hx 2 _ rfl)
      have k0 := hh 0 (by omega); have k1 := hh 1 (by omega); have k2 := hh 2 (by omega)
      rw [h0] at k0; rw [h1] at k1; rw [h2] at k2
      rw [Nat.add_zero] at k0
      refine ⟨?_, ?_, ?_⟩ <;> simp [World.cell?, hb, k0, k1, k2]
end Go.Proofs
