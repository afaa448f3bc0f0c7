/-
  Layer 14, part B: maps.Keys and slices.Sorted, in this tool's words.
-/
import Derived.Test.YtmogappoadglgaaTabA
namespace Go.Sx
open Go Go.Proofs Go.Proofs.Ytmogappoadglgaa
open Go.RowKit Go.Maps Go.Sort Go.Shelf Go.WideElems
theorem keyLit {x : Int} (h : InI x) : keyOf Try.prog 3 (.int .i64 x) = some (.int .i64 x) := by
  obtain ⟨l, hl⟩ := keys_of3 x h
  obtain ⟨y, hy, rfl, _⟩ := Maps.keyOf_i64 Try.underlying3 hl
  cases hy
  exact hl
theorem insert_perm {H : Type} (x : Lit × DataW H) : ∀ l : List (Lit × DataW H), (DataW.insert x l).Perm (x :: l)
  | [] => List.Perm.refl _
  | y :: r => by
    unfold DataW.insert
    split
    · exact List.Perm.refl _
    · exact ((insert_perm x r).cons y).trans (List.Perm.swap x y r)
theorem inserts_perm {H : Type} : ∀ l : List (Lit × DataW H), (l.foldr DataW.insert []).Perm l
  | [] => List.Perm.refl _
  | x :: l => (insert_perm x _).trans ((inserts_perm l).cons x)
/-- A map of numbers, as the kit has it. -/
theorem rep_owns {w : World} {b : Nat} {es : List (Int × Int)} {mes : Array MapEntry} {cl : Nat} (hb : w.heap[b]? = some (.map mes cl)) (hm : MapRep regF 3 3 es mes cl) (hl : es.length ≤ maxLen) :
    ∃ (D0 : DataW Unit), w.ownsMap Try.prog 3 (fun _ => some (.nil, [])) b mes.size D0 ∧ (intKeys D0).Perm (es.map (·.1)) ∧ Maps.size D0 = es.length := by
  have hlen : mes.toList.length = es.length := by have := congrArg List.length hm.ents; simpa using this
  have at_ : ∀ (j : Nat) (e : MapEntry), mes.toList[j]? = some e → ∃ p, es[j]? = some p ∧ e.key = .int .i64 p.1 ∧ InI p.1 := fun j e he => by
    have h1 := congrArg (fun l => l[j]?) hm.ents
    simp only [List.getElem?_map] at h1
    rw [he] at h1
    cases hp : es[j]? with
    | none => rw [hp] at h1; cases h1
    | some p =>
      rw [hp] at h1
      have h2 := (Prod.mk.inj (Option.some.inj h1)).1
      have h3 : keyVal regF 3 p.1 = some (.int .i64 p.1) := rfl
      rw [h3] at h2
      exact ⟨p, rfl, Option.some.inj h2, hm.good p (List.mem_of_getElem? hp)⟩
  have hrd : ∀ e ∈ mes.toList, ∃ x : Int, e.key = .int .i64 x ∧ rd (H := Unit) Try.prog 3 (fun _ => some (.nil, [])) e = some (.int .i64 x, .nil) := fun e he => by
    obtain ⟨j, hj⟩ := List.getElem?_of_mem he
    obtain ⟨p, _, hk, hi⟩ := at_ j e hj
    refine ⟨p.1, hk, ?_⟩
    obtain ⟨key, val, born⟩ := e
    dsimp only at hk
    subst hk
    exact rd_mk (R := fun _ => some (.nil, [])) (yv := (.nil, [])) (keyLit hi) rfl
  have hnd : (mes.toList.map (·.key)).Nodup := by
    have : mes.toList.map (·.key) = (es.map (·.1)).map fun x : Int => Value.int .i64 x := by
      apply List.ext_getElem?
      intro j
      rw [List.getElem?_map, List.map_map, List.getElem?_map]
      cases he : mes.toList[j]? with
      | none => rw [List.getElem?_eq_none (by rw [← hlen]; simpa using he)]; rfl
      | some e =>
        obtain ⟨p, hp, hk, _⟩ := at_ j e he
        rw [hp]; simp [hk]
    rw [this]
    exact List.pairwise_map.2 (hm.nodup.imp fun h e => h (by simpa using e))
  have F : Fit (H := Unit) Try.prog 3 (fun _ => some (.nil, [])) mes cl := by
    refine ⟨by rw [← Array.length_toList, hlen]; exact hl, ⟨hm.born, ?_, hnd⟩, fun e he => ?_⟩
    · exact List.pairwise_map.2 (hm.rise.imp fun h e => by omega)
    · obtain ⟨x, _, h⟩ := hrd e he
      exact ⟨_, h⟩
  refine ⟨_, World.ownsMap_of_fit hb F (fun _ _ _ h => h), ?_, ?_⟩
  · refine ((inserts_perm _).map fun p : Lit × DataW Unit => intOf p.1).trans (List.Perm.of_eq ?_)
    apply List.ext_getElem?
    intro j
    rw [List.map_map, List.getElem?_map, List.getElem?_map]
    cases he : mes.toList[j]? with
    | none => rw [List.getElem?_eq_none (by rw [← hlen]; simpa using he)]; rfl
    | some e =>
      obtain ⟨p, hp, hk, _⟩ := at_ j e he
      obtain ⟨x, hx, h⟩ := hrd e (List.mem_of_getElem? he)
      rw [hk] at hx; cases hx
      rw [hp]
      simp [rg_of h, intOf]
  · show ((mes.toList.map _).foldr DataW.insert []).length = es.length
    rw [length_sorted, List.length_map, hlen]
/-- The keys, ascending. -/
def sortK (es : List (Int × Int)) : List Int := (es.map (·.1)).mergeSort fun x y => decide (x ≤ y)
theorem sortK_of {ss : List Int} {es : List (Int × Int)} (h : ss.Perm (es.map (·.1))) : ss.mergeSort (fun x y => decide (x ≤ y)) = sortK es := by
  refine List.Perm.eq_of_pairwise (le := fun x y : Int => x ≤ y) (fun a b _ _ h1 h2 => Int.le_antisymm h1 h2) ?_ ?_ ?_
  · have := List.pairwise_mergeSort (le := fun x y : Int => decide (x ≤ y)) (by simp; omega) (by simp; omega) ss
    exact this.imp fun h => by simpa using h
  · have := List.pairwise_mergeSort (le := fun x y : Int => decide (x ≤ y)) (by simp; omega) (by simp; omega) (es.map (·.1))
    exact this.imp fun h => by simpa using h
  · exact (List.mergeSort_perm ss _).trans (h.trans (List.mergeSort_perm _ _).symm)
def spKeys : Spec AF where
  γ := List (Int × Int)
  δ := Unit
  args := fun _ => [.mp 0]
  own := fun es => [.map 3 3 es]
  pre := fun _ => True
  nnew := 1
  res := fun _ _ => .fn (.func 104) [] [.ptr 1 0 1 0]
  own' := fun es _ => [some (.map 3 3 es), some (.cells [.mp 0])]
  post := fun _ _ => True
theorem m_keys : Meets Try.prog regF 93 spKeys := by
  refine meets Try.func93 4 noWr rfl (by kernel_rfl) (by kernel_rfl) ?_
  rintro (es : List (Int × Int)) _
  conv => whnf
  repeat' (first | (refine tell (fun htest => ?_) (fun htest => ?_) <;> (try dsimp only at htest) <;> first | (exfalso; omega) | (exact absurd rfl htest) | (exact absurd (by decide) htest) | (conv => whnf)) | (refine allG rfl ?_; conv => whnf) | (refine And.intro (by first | omega | assumption | kernel_rfl | exact And.intro rfl rfl | ((try dsimp only [inR, idx, lowOf]); first | omega | (with_reducible decide) | (simp; omega) | fail) | fail) ?_; conv => whnf) | fail)
  exact ⟨(), [1001], trivial, rfl, ⟨rfl, ⟨⟨rfl, trivial⟩, trivial⟩⟩, trivial⟩
def spSorted : Spec AF where
  γ := List (Int × Int)
  δ := Unit
  args := fun _ => [.fn (.func 104) [] [.ptr 1 0 1 0]]
  own := fun es => [.map 3 3 es, .cells [.mp 0]]
  pre := fun es => es.length ≤ 17592186044416
  nnew := 0
  res := fun es _ => .lst 3 (sortK es)
  own' := fun es _ => [some (.map 3 3 es), some (.cells [.mp 0])]
  post := fun _ _ => True
theorem sortK_len (es : List (Int × Int)) : (sortK es).length = es.length := by unfold sortK; rw [List.length_mergeSort, List.length_map]
theorem m_sorted : Meets Try.prog regF 92 spSorted := by
  refine ⟨⟨_, Try.func92, by kernel_rfl, by kernel_rfl⟩, ?_⟩
  intro (es : List (Int × Int)) (hlen : es.length ≤ 17592186044416) X ρ w vs hX1 hX2 hargs hown
  obtain ⟨v0, rfl⟩ := Array.size_eq_one_iff.1 (show vs.size = 1 by have h := hargs.1; simp [spSorted] at h; exact h.symm)
  have hv : Den regF ρ _ w (.fn (.func 104) [] [.ptr 1 0 1 0]) v0 := hargs.2 0 _ v0 rfl rfl
  have h1 : DenCt regF ρ _ w (.cells [.mp 0]) (ρ 1) := hown.den 1 _ rfl
  have h0 : DenCt regF ρ _ w (.map 3 3 es) (ρ 0) := hown.den 0 _ rfl
  cases hv with
  | fn _ _ _ us cs hl1 hd1 hl2 hd2 =>
  obtain rfl : us = #[] := Array.eq_empty_of_size_eq_zero (by simpa using hl1.symm)
  obtain ⟨u, rfl⟩ := Array.size_eq_one_iff.1 (show cs.size = 1 by simpa using hl2.symm)
  have hu := hd2 0 _ u rfl rfl
  clear hd1 hd2 hl1 hl2 hargs
  cases hu with
  | ptr _ _ _ _ b1 base1 hr1 =>
  rw [hr1] at h1
  rcases h1 with ⟨_, _, _, e, _⟩ | ⟨_, c1, E1, fz1, hb1, hfz1, hsz1, hc1⟩
  · cases e
  have hsz1 : base1 + 1 ≤ c1.size := hsz1
  have hcv : c1[base1]? = some c1[base1] := Array.getElem?_eq_getElem (by omega)
  obtain ⟨b0, base0, ev, hr0⟩ := mp_inv (hc1 0 (.mp 0) c1[base1] rfl (by simp))
  rw [ev] at hcv
  rw [hr0] at h0
  rcases h0 with ⟨K, V, es', e, mes, cl, hb0, hm⟩ | ⟨e, _⟩
  rotate_left
  · cases e
  cases e
  have hcell : w.cell? ⟨b1, base1 + (0 * 1 + 0), none⟩ = some (.map (some b0)) := by simp [World.cell?, hb1, hcv]
  obtain ⟨D0, hown0, hperm, hsize⟩ := rep_owns hb0 hm (by unfold maxLen; omega)
  have hlt1 := lt_of_heap hb1
  have hlt0 := lt_of_heap hb0
  have hseq : SeqGives Fence.wide 2 Try.prog 104 #[.pointer (some ⟨b1, base1 + (0 * 1 + 0), none⟩)] encZ (fun ss => ss.Perm (intKeys D0)) (Maps.size D0) w := fun l J W hW hJ hY hJ0 => by
    have hownW : W.ownsMap Try.prog 3 (fun _ => some (.nil, [])) b0 mes.size D0 := by
      obtain ⟨es2, clock, hb, Ft, hs, hD⟩ := hown0
      exact ⟨es2, clock, (hW.block b0 hlt0).trans hb, Ft, hs, hD⟩
    exact keysOff 2 (by omega) l b1 _ b0 mes.size D0 J hY W hJ ((hW.cell (p := ⟨b1, base1 + (0 * 1 + 0), none⟩) hlt1).trans hcell) hownW hJ0
  have cS : CallsIn Fence.wide 5 Try.prog 92 #[.func (.func 104) #[] #[.pointer (some ⟨b1, base1 + (0 * 1 + 0), none⟩)]] w _ :=
    AnyZI.sorted_in TabK.sortedA Fence.wide 5 trivial trivial trivial trivial rfl (by omega) (sorts_in _) (enters_of Try.func103 (by kernel_rfl) rfl) 104 _ trivial (enters_of Try.func104 (by kernel_rfl) rfl) _ (Maps.size D0) (by rw [hsize]; unfold maxLen; omega) (by rw [hsize]; omega) w hseq
  refine (callsIn_wide.1 cS).mono ?_
  rintro e w' ⟨v, ss, rfl, hS, hrow, hnil, hb⟩
  have hp := hS.trans hperm
  have hlss : ss.length = (sortK es).length := by rw [sortK_len, hp.length_eq, List.length_map]
  rw [sortK_of hp, hlss] at hrow
  have hnew : ∀ b, w.heap.size ≤ b → ¬ (X b ∨ Blk (spSorted.own' es ()) ρ b) := fun b hbs h => by
    rcases h with h | ⟨h, ct, base, hh, hr⟩
    · have := hX1 b h; omega
    · match h with
      | 0 => rw [hr0] at hr; cases hr; omega
      | 1 => rw [hr1] at hr; cases hr; omega
      | h + 2 => simp [spSorted] at hh
  refine ⟨(), ρ, v, trivial, rfl, fun _ _ => rfl, ?_, ⟨fun h ct hh => ?_, fun h h' ct ct' b bs bs' g1 g2 => hown.inj h h' ct ct' b bs bs' g1 g2⟩, fun b hbl => ⟨.inl hbl, fun hx => hX2 b hx hbl⟩, rfl, rfl, fun h ct hh => ?_,
    ⟨hb.os, hb.tape, hb.output, hb.size, fun k hk _ => hb.block k hk, fun b c E fz h => ⟨c, fz, (hb.block b (lt_of_heap h)).trans h, rfl⟩⟩⟩
  · show Den regF ρ _ w' (.lst 3 (sortK es)) v
    rcases hrow.2 with ⟨rfl, hz⟩ | ⟨g, cap, cur, rfl, hbase, hg, r1, r2, r3, r4⟩
    · rw [List.length_eq_zero_iff.1 hz]
      exact .lnil 3 0 rfl
    · refine Den.lst (A := AF) (R := regF) 3 (sortK es : List (AF 3)) g 0 cap cur 3 (0, 0) (fun i _ => .int .i64 ((sortK es).getD i 0)) (hnew g hbase) hg (by exact r1) (fun i x hx j hj => ?_) (fun i x hx j s hs => ?_)
      · have hj : j = 0 := by have : j < 1 := hj; omega
        subst hj
        have hx : (sortK es)[i]? = some x := hx
        have hil := (List.getElem?_eq_some_iff.1 hx).1
        have h4 := congrArg (fun l => l[i]?) r4
        simp only [List.getElem?_map, hx, Option.map_some] at h4
        rw [List.getElem?_take_of_lt (by omega), Array.getElem?_toList] at h4
        have hsz : regF.sz 3 = 1 := rfl
        rw [hsz, Nat.zero_add, Nat.mul_one, Nat.add_zero, h4]
        simp [List.getD, hx, encZ]
      · have hx : (sortK es)[i]? = some x := hx
        have hs : ([.val (.int .i64 x)] : List (SV AF))[j]? = some s := hs
        match j with
        | 0 =>
          simp at hs; subst hs
          simp only [List.getD, hx, Option.getD_some]
          exact .val _
        | j + 1 => simp at hs
  · match h with
    | 0 =>
      have hh : some (some (Ct.map (A := AF) 3 3 es)) = some (some ct) := hh
      cases hh
      rw [hr0]
      exact .inl ⟨3, 3, es, rfl, mes, cl, (hb.block b0 hlt0).trans hb0, hm⟩
    | 1 =>
      have hh : some (some (Ct.cells (A := AF) [.mp 0])) = some (some ct) := hh
      cases hh
      rw [hr1]
      refine .inr ⟨rfl, c1, E1, fz1, (hb.block b1 hlt1).trans hb1, hfz1, hsz1, fun j s u hs hu => ?_⟩
      have hs : ([.mp 0] : List (SV AF))[j]? = some s := hs
      match j with
      | 0 =>
        simp at hs; subst hs
        rw [Nat.add_zero, hcv] at hu; cases hu
        exact .mp 0 b0 base0 hr0
      | j + 1 => simp at hs
    | h + 2 => simp [spSorted] at hh
  · match h with
    | 0 =>
      have hh : some (some (Ct.map (A := AF) 3 3 es)) = some (some ct) := hh
      cases hh; rfl
    | 1 =>
      have hh : some (some (Ct.cells (A := AF) [.mp 0])) = some (some ct) := hh
      cases hh; rfl
    | h + 2 => simp [spSorted] at hh
end Go.Sx

