/-
  Layer 12, part C: what is known of a node, the nearest first; Far.
-/
import Derived.Test.YtmogappoadglgaaRouB
namespace Go.Sx
open Go Go.Proofs Go.Proofs.Ytmogappoadglgaa
def spKnown : Spec AF where
  γ := (Int × List Edge) × List Int × Int
  δ := Unit
  args := fun g => [layS g.1.1 g.1.2, .lst 3 g.2.1, vI g.2.2]
  own := fun _ => []
  pre := fun _ => True
  nnew := 3
  res := fun _ _ => .fn (.func 99) [] [.ptr 0 0 1 0, .ptr 1 0 1 0, .ptr 2 0 2 0]
  own' := fun g _ => [some (.cells [vI g.2.2]), some (.cells [.lst 3 g.2.1]), some (layC g.1.1 g.1.2)]
  post := fun _ _ => True
theorem m_known : Meets Try.prog regF 85 spKnown := by
  refine meets Try.func85 8 noWr rfl (by kernel_rfl) (by kernel_rfl) ?_
  rintro ⟨⟨(n : Int), (es : List Edge)⟩, (bl : List Int), (t : Int)⟩ _
  conv => whnf
  repeat' (first | (refine tell (fun htest => ?_) (fun htest => ?_) <;> (try dsimp only at htest) <;> first | (exfalso; omega) | (exact absurd rfl htest) | (exact absurd (by decide) htest) | (conv => whnf)) | (refine allG rfl ?_; conv => whnf) | (refine And.intro (by first | omega | assumption | kernel_rfl | exact And.intro rfl rfl | ((try dsimp only [inR, idx, lowOf]); first | omega | (with_reducible decide) | (simp; omega) | fail) | fail) ?_; conv => whnf) | fail)
  exact ⟨(), [1005, 1004, 1003], trivial, rfl, ⟨⟨rfl, trivial⟩, ⟨rfl, trivial⟩, ⟨rfl, rfl, trivial⟩, trivial⟩, trivial⟩
/-- What Far's loop does with a node. -/
def spYield : Spec AF where
  γ := List Int × Int × Int
  δ := Unit
  args := fun g => [vI g.2.1, vI g.2.2]
  own := fun g => [.arr 3 g.1, .cells [.sl 0 1 0 g.1.length]]
  pre := fun g => 0 ≤ g.2.1 ∧ g.2.1 < g.1.length
  nnew := 0
  res := fun _ _ => vB true
  own' := fun g _ => [some (.arr 3 (g.1.set g.2.1.toNat g.2.2)), some (.cells [.sl 0 1 0 g.1.length])]
  post := fun _ _ => True
noncomputable def spIt (l : Nat) : Spec AF where
  γ := (Int × List Edge) × List Int × Int
  δ := Unit
  args := fun _ => [.val (.func (.yield l) #[] #[]), .ptr 2 0 1 0, .ptr 3 0 1 0, .ptr 4 0 2 0]
  own := fun g => [.arr 3 (List.replicate g.1.1.toNat (-1)), .cells [.sl 0 1 0 g.1.1.toNat], .cells [vI g.2.2], .cells [.lst 3 g.2.1], layC g.1.1 g.1.2]
  pre := fun g => RightL g.1.1 g.1.2 ∧ 0 ≤ g.2.2 ∧ g.2.2 < g.1.1 ∧ g.2.1.length ≤ 9223372036854775807
  nnew := 0
  res := fun _ _ => .tup []
  own' := fun g _ => [some (.arr 3 (farF g.1.1 g.1.2 g.2.1 g.2.2)), some (.cells [.sl 0 1 0 g.1.1.toNat]), none, none, none]
  post := fun _ _ => True
noncomputable def outOf (n : Int) (es : List Edge) (bl : List Int) (t : Int) (dn : List Bool) : List Int := (List.range n.toNat).map fun (i : Nat) => if dn[i]? = some true then farV es bl t i else -1
theorem outOf_len {n : Int} {es : List Edge} {bl : List Int} {t : Int} {dn : List Bool} : (outOf n es bl t dn).length = n.toNat := by simp [outOf]
theorem outOf_start {n : Int} {es : List Edge} {bl : List Int} {t : Int} : outOf n es bl t (List.replicate 40 false) = List.replicate n.toNat (-1) := by
  unfold outOf
  apply List.ext_getElem?
  intro i
  rw [List.getElem?_map, List.getElem?_replicate]
  by_cases h : i < n.toNat
  · have : (List.replicate 40 false)[i]? ≠ some true := fun h => by
      rw [List.getElem?_replicate] at h
      split at h <;> cases h
    rw [List.getElem?_range h, Option.map_some, if_neg this, if_pos h]
  · simp [h]
theorem outOf_set {n : Int} {es : List Edge} {bl : List Int} {t v : Int} {dn : List Bool} (h0 : 0 ≤ v) (hl : dn.length = 40) (hv : v < 40) : outOf n es bl t (dn.set v.toNat true) = (outOf n es bl t dn).set v.toNat (farV es bl t v) := by
  apply List.ext_getElem?
  intro i
  rw [List.getElem?_set, outOf_len]
  unfold outOf
  rw [List.getElem?_map, List.getElem?_map]
  by_cases h : i < n.toNat
  · rw [List.getElem?_range h]
    by_cases e : v.toNat = i
    · subst e
      rw [Option.map_some, if_pos rfl, if_pos h, List.getElem?_set_self (by omega), if_pos rfl, Int.toNat_of_nonneg h0]
    · rw [if_neg e, Option.map_some, Option.map_some, List.getElem?_set_ne e]
  · rw [List.getElem?_eq_none (by simp; omega), Option.map_none]
    by_cases e : v.toNat = i
    · subst e; simp [h]
    · rw [if_neg e, Option.map_none]
theorem outOf_end {n : Int} {es : List Edge} {bl : List Int} {t : Int} {dn : List Bool} (hR : RightL n es) (h0 : 0 ≤ t) (ht : t < n) (h : Dij n es bl t dn []) : outOf n es bl t dn = farF n es bl t := by
  unfold outOf farF
  refine List.map_congr_left fun i hi => ?_
  have hi : i < n.toNat := by simpa using hi
  split
  · rfl
  · rename_i hd
    have hlt : i < dn.length := by have := hR.most; have := h.len; omega
    cases hb : dn[i] with
    | true => exact absurd (by rw [List.getElem?_eq_getElem hlt, hb]) hd
    | false => exact (dij_end hR h0 ht h (by rw [List.getElem?_eq_getElem hlt, hb]) (by omega)).symm
theorem count_set {dn : List Bool} {i : Nat} (h : dn[i]? = some false) : (dn.set i true).count true = dn.count true + 1 := by
  obtain ⟨hlt, h1⟩ := List.getElem?_eq_some_iff.1 h
  induction dn generalizing i with
  | nil => simp at hlt
  | cons b l ih =>
    cases i with
    | zero => simp at h1; subst h1; simp
    | succ i =>
      have := ih (i := i) (by simpa using h) (by simpa using hlt) (by simpa using h1)
      rw [List.set_cons_succ, List.count_cons, List.count_cons, this]
      split <;> omega
theorem count_le {dn : List Bool} : dn.count true ≤ dn.length := List.count_le_length
/-- What holds between two nodes. -/
structure KInv (n : Int) (es : List Edge) (bl : List Int) (t : Int) (dn : List Bool) (H ws : List Item) : Prop where
  heap : HeapL H
  room : ∃ ys, ws = H ++ ys
  dij : Dij n es bl t dn H
  few : H.length ≤ 1 + 120 * dn.count true
set_option maxHeartbeats 3200000 in
theorem it_known : MeetsIt Try.prog regF 2 spYield 99 spIt := by
  refine meetsIt Try.func99 65 noWr rfl (by kernel_rfl) (by kernel_rfl) (by decide) fun l Y hy => ?_
  rintro ⟨⟨(n : Int), (es : List Edge)⟩, (bl : List Int), (t : Int)⟩ ⟨(hR : RightL n es), (h0 : 0 ≤ t), (ht : t < n), (hbl : bl.length ≤ 9223372036854775807)⟩
  have hm := hR.most
  have hl := hR.len
  conv => whnf
  repeat' (first | (refine tell (fun htest => ?_) (fun htest => ?_) <;> (try dsimp only at htest) <;> first | (exfalso; omega) | (exact absurd rfl htest) | (exact absurd (by decide) htest) | (conv => whnf)) | (refine allG rfl ?_; conv => whnf) | (refine And.intro (by first | omega | assumption | kernel_rfl | exact And.intro rfl rfl | ((try dsimp only [inR, idx, lowOf]); first | omega | (with_reducible decide) | (simp; omega) | fail) | fail) ?_; conv => whnf) | fail)
  refine ⟨_, m_new, (), [], false, ?_⟩
  conv => whnf
  refine And.intro (vc0 trivial (by (repeat' (first | exact trivial | exact rfl | refine And.intro ?_ ?_ | (refine congrArg vI ?_; first | omega | (dsimp only; omega) | fail) | (refine congrArg some ?_) | omega | exact Nat.le_refl _ | exact congrArg (SV.lst _) (List.take_of_length_le (Nat.le_refl _)).symm))) (by repeat' (first | exact trivial | exact rfl | refine And.intro ?_ ?_ | (refine congrArg vI ?_; first | omega | (dsimp only; omega) | fail) | (refine congrArg some ?_) | omega | exact Nat.le_refl _ | exact congrArg (SV.lst _) (List.take_of_length_le (Nat.le_refl _)).symm)) trivial trivial) ?_
  refine And.intro ⟨(), trivial⟩ (fun (_ : Unit) _ => ?_)
  conv => whnf
  conv => whnf
  repeat' (first | (refine tell (fun htest => ?_) (fun htest => ?_) <;> (try dsimp only at htest) <;> first | (exfalso; omega) | (exact absurd rfl htest) | (exact absurd (by decide) htest) | (conv => whnf)) | (refine allG rfl ?_; conv => whnf) | (refine And.intro (by first | omega | assumption | kernel_rfl | exact And.intro rfl rfl | ((try dsimp only [inR, idx, lowOf]); first | omega | (with_reducible decide) | (simp; omega) | fail) | fail) ?_; conv => whnf) | fail)
  refine ⟨_, m_push, ([], [], (0, t)), [1012, 2012], false, ?_⟩
  conv => whnf
  refine And.intro (vc0 ⟨fun j a b _ hb => by simp at hb, by show (0 : Nat) < _; decide, [], rfl⟩ (by (repeat' (first | exact trivial | exact rfl | refine And.intro ?_ ?_ | (refine congrArg vI ?_; first | omega | (dsimp only; omega) | fail) | (refine congrArg some ?_) | omega | exact Nat.le_refl _ | exact congrArg (SV.lst _) (List.take_of_length_le (Nat.le_refl _)).symm))) (by repeat' (first | exact trivial | exact rfl | refine And.intro ?_ ?_ | (refine congrArg vI ?_; first | omega | (dsimp only; omega) | fail) | (refine congrArg some ?_) | omega | exact Nat.le_refl _ | exact congrArg (SV.lst _) (List.take_of_length_le (Nat.le_refl _)).symm)) trivial trivial) ?_
  refine And.intro (heap_ex _) ?_
  rintro (d : List Item) ⟨(hp : List.Perm d [(0, t)]), (hd : HeapL d)⟩
  conv => whnf
  repeat' (first | (refine tell (fun htest => ?_) (fun htest => ?_) <;> (try dsimp only at htest) <;> first | (exfalso; omega) | (exact absurd rfl htest) | (exact absurd (by decide) htest) | (conv => whnf)) | (refine allG rfl ?_; conv => whnf) | (refine And.intro (by first | omega | assumption | kernel_rfl | exact And.intro rfl rfl | ((try dsimp only [inR, idx, lowOf]); first | omega | (with_reducible decide) | (simp; omega) | fail) | fail) ?_; conv => whnf) | fail)
  refine ⟨List Bool × List Item × List Item, fun p => ⟨[(0, .val (.func (.yield l) #[] #[])), (1, .ptr 2 0 1 0), (2, .ptr 3 0 1 0), (3, .ptr 4 0 2 0), (5, .ptr 1005 0 40 0), (6, .ptr 3001 0 2 0)], [(0, .arr 3 (outOf n es bl t p.1)), (1, .cells [.sl 0 1 0 n.toNat]), (2, .cells [vI t]), (3, .cells [.lst 3 bl]), (4, layC n es), (1005, .arr 4 p.1), (3001, .cells [.sl 3002 2 0 p.2.1.length, fnB]), (3002, .arr 97 p.2.2)]⟩, fun p => KInv n es bl t p.1 p.2.1 p.2.2, fun p => 200 * (41 - p.1.count true) + p.2.1.length, fun _ _ => rfl, ⟨(List.replicate 40 false, d, d), [(3001, 1012), (3002, 1015)], ⟨hd, ⟨[], by simp⟩, dij_start h0 ht hp, by rw [hp.length_eq]; simp⟩, ?_⟩, ?_⟩
  · refine ⟨rfl, ?_, ?_, rfl⟩
    all_goals (repeat' (first | exact trivial | exact rfl | refine And.intro ?_ ?_ | (refine congrArg vI ?_; first | omega | (dsimp only; omega) | fail) | (refine congrArg some ?_) | omega | exact Nat.le_refl _ | exact congrArg (SV.lst _) (List.take_of_length_le (Nat.le_refl _)).symm))
    all_goals (exact congrArg (Ct.arr (A := AF) 3) outOf_start.symm)
  rintro ⟨(dn : List Bool), (H : List Item), (ws : List Item)⟩ (hK : KInv n es bl t dn H ws)
  have hdl := hK.dij.len
  have hcl := count_le (dn := dn)
  have hfew := hK.few
  by_cases hH : H = []
  · have hz : H.length = 0 := by rw [hH]; rfl
    conv => whnf
    repeat' (first | (refine tell (fun htest => ?_) (fun htest => ?_) <;> (try dsimp only at htest) <;> first | (exfalso; omega) | (exact absurd rfl htest) | (exact absurd (by decide) htest) | (conv => whnf)) | (refine allG rfl ?_; conv => whnf) | (refine And.intro (by first | omega | assumption | kernel_rfl | exact And.intro rfl rfl | ((try dsimp only [inR, idx, lowOf]); first | omega | (with_reducible decide) | (simp; omega) | fail) | fail) ?_; conv => whnf) | fail)
    refine ⟨_, m_len, (H, ws), [3001, 3002], false, ?_⟩
    conv => whnf
    refine And.intro (vc0 trivial (by (repeat' (first | exact trivial | exact rfl | refine And.intro ?_ ?_ | (refine congrArg vI ?_; first | omega | (dsimp only; omega) | fail) | (refine congrArg some ?_) | omega | exact Nat.le_refl _ | exact congrArg (SV.lst _) (List.take_of_length_le (Nat.le_refl _)).symm))) (by repeat' (first | exact trivial | exact rfl | refine And.intro ?_ ?_ | (refine congrArg vI ?_; first | omega | (dsimp only; omega) | fail) | (refine congrArg some ?_) | omega | exact Nat.le_refl _ | exact congrArg (SV.lst _) (List.take_of_length_le (Nat.le_refl _)).symm)) trivial trivial) ?_
    refine And.intro ⟨(), trivial⟩ (fun (_ : Unit) _ => ?_)
    conv => whnf
    conv => whnf
    repeat' (first | (refine tell (fun htest => ?_) (fun htest => ?_) <;> (try dsimp only at htest) <;> first | (exfalso; omega) | (exact absurd rfl htest) | (exact absurd (by decide) htest) | (conv => whnf)) | (refine allG rfl ?_; conv => whnf) | (refine And.intro (by first | omega | assumption | kernel_rfl | exact And.intro rfl rfl | ((try dsimp only [inR, idx, lowOf]); first | omega | (with_reducible decide) | (simp; omega) | fail) | fail) ?_; conv => whnf) | fail)
    refine ⟨(), [], trivial, trivial, ⟨?_, ⟨rfl, trivial⟩, trivial, trivial, trivial, trivial⟩, trivial⟩
    exact congrArg (Ct.arr (A := AF) 3) (outOf_end hR h0 ht (by rw [← hH]; exact hK.dij))
  · have hHp : 0 < H.length := List.length_pos_iff.2 hH
    obtain ⟨ys, hws⟩ := hK.room
    conv => whnf
    repeat' (first | (refine tell (fun htest => ?_) (fun htest => ?_) <;> (try dsimp only at htest) <;> first | (exfalso; omega) | (exact absurd rfl htest) | (exact absurd (by decide) htest) | (conv => whnf)) | (refine allG rfl ?_; conv => whnf) | (refine And.intro (by first | omega | assumption | kernel_rfl | exact And.intro rfl rfl | ((try dsimp only [inR, idx, lowOf]); first | omega | (with_reducible decide) | (simp; omega) | fail) | fail) ?_; conv => whnf) | fail)
    refine ⟨_, m_len, (H, ws), [3001, 3002], false, ?_⟩
    conv => whnf
    refine And.intro (vc0 trivial (by (repeat' (first | exact trivial | exact rfl | refine And.intro ?_ ?_ | (refine congrArg vI ?_; first | omega | (dsimp only; omega) | fail) | (refine congrArg some ?_) | omega | exact Nat.le_refl _ | exact congrArg (SV.lst _) (List.take_of_length_le (Nat.le_refl _)).symm))) (by repeat' (first | exact trivial | exact rfl | refine And.intro ?_ ?_ | (refine congrArg vI ?_; first | omega | (dsimp only; omega) | fail) | (refine congrArg some ?_) | omega | exact Nat.le_refl _ | exact congrArg (SV.lst _) (List.take_of_length_le (Nat.le_refl _)).symm)) trivial trivial) ?_
    refine And.intro ⟨(), trivial⟩ (fun (_ : Unit) _ => ?_)
    conv => whnf
    conv => whnf
    repeat' (first | (refine tell (fun htest => ?_) (fun htest => ?_) <;> (try dsimp only at htest) <;> first | (exfalso; omega) | (exact absurd rfl htest) | (exact absurd (by decide) htest) | (conv => whnf)) | (refine allG rfl ?_; conv => whnf) | (refine And.intro (by first | omega | assumption | kernel_rfl | exact And.intro rfl rfl | ((try dsimp only [inR, idx, lowOf]); first | omega | (with_reducible decide) | (simp; omega) | fail) | fail) ?_; conv => whnf) | fail)
    refine ⟨_, m_pop, (H, ws), [3001, 3002], false, ?_⟩
    conv => whnf
    refine And.intro (vc0 ⟨hK.heap, by show H.length ≤ 1000000; omega, ys, hws⟩ (by (repeat' (first | exact trivial | exact rfl | refine And.intro ?_ ?_ | (refine congrArg vI ?_; first | omega | (dsimp only; omega) | fail) | (refine congrArg some ?_) | omega | exact Nat.le_refl _ | exact congrArg (SV.lst _) (List.take_of_length_le (Nat.le_refl _)).symm))) (by repeat' (first | exact trivial | exact rfl | refine And.intro ?_ ?_ | (refine congrArg vI ?_; first | omega | (dsimp only; omega) | fail) | (refine congrArg some ?_) | omega | exact Nat.le_refl _ | exact congrArg (SV.lst _) (List.take_of_length_le (Nat.le_refl _)).symm)) trivial trivial) ?_
    refine And.intro (pop_ex hK.heap) ?_
    rintro ⟨(H1 : List Item), (w1 : List Item), ⟨(c : Int), (v : Int)⟩, (ok : Bool)⟩ ⟨(hH1 : HeapL H1), (hw1 : ∃ ys, w1 = H1 ++ ys), hcase⟩
    rcases hcase with ⟨h, _⟩ | ⟨(hpm : List.Perm ((c, v) :: H1) H), (hmin : ∀ b ∈ H, leP (c, v) b), (hok : ok = true)⟩
    · exact absurd h hH
    subst hok
    obtain ⟨hv0, hvn, hvw, hvc⟩ := hK.dij.way (c, v) (hpm.mem_iff.1 (by simp))
    have hv0 : 0 ≤ v := hv0
    have hvn : v < n := hvn
    have hvc : c ≤ 41000 := hvc
    have hc0 : 0 ≤ c := wayC_nonneg hR hvw
    have hlH := hpm.length_eq
    rw [List.length_cons] at hlH
    obtain ⟨b, hb⟩ : ∃ b, dn[v.toNat]? = some b := ⟨_, List.getElem?_eq_getElem (by omega)⟩
    cases b
    · obtain ⟨hfv, hD2⟩ := dij_first hR h0 ht hK.dij hpm hmin hb
      have hln := outOf_len (n := n) (es := es) (bl := bl) (t := t) (dn := dn)
      have hcs := count_set hb
      conv => whnf
      repeat' (first | (refine tell (fun htest => ?_) (fun htest => ?_) <;> (try dsimp only at htest) <;> first | (exfalso; omega) | (exact absurd rfl htest) | (exact absurd (by decide) htest) | (conv => whnf)) | (refine allG (x := false) (by first | exact hb | simpa [List.getElem?_append_right, lowOf] using hb | fail) ?_; conv => whnf) | (refine allLst (x := false) (by first | omega | assumption | fail) (by first | exact hb | simpa using hb | fail) ?_; conv => whnf) | (refine allG rfl ?_; conv => whnf) | (refine And.intro (by first | omega | assumption | kernel_rfl | exact And.intro rfl rfl | ((try dsimp only [inR, idx, lowOf]); first | omega | (with_reducible decide) | (simp; omega) | fail) | fail) ?_; conv => whnf) | fail)
      refine ⟨_, hy, (outOf n es bl t dn, v, c), rfl, ?_⟩
      conv => whnf
      refine And.intro (vc0 (show 0 ≤ v ∧ v < (outOf n es bl t dn).length by omega) ⟨rfl, rfl, trivial⟩ ⟨rfl, congrArg (fun k => some (Ct.cells (A := AF) [.sl 0 1 0 k])) hln.symm, trivial⟩ trivial trivial) ?_
      refine And.intro ⟨(), trivial⟩ (fun (_ : Unit) _ => ?_)
      conv => whnf
      conv => whnf
      repeat' (first | (refine tell (fun htest => ?_) (fun htest => ?_) <;> (try dsimp only at htest) <;> first | (exfalso; omega) | (exact absurd rfl htest) | (exact absurd (by decide) htest) | (conv => whnf)) | (refine allG rfl ?_; conv => whnf) | (refine And.intro (by first | omega | assumption | kernel_rfl | exact And.intro rfl rfl | ((try dsimp only [inR, idx, lowOf]); first | omega | (with_reducible decide) | (simp; omega) | fail) | fail) ?_; conv => whnf) | fail)
      have hos := outOf_set (n := n) (es := es) (bl := bl) (t := t) hv0 hdl (show v < 40 by omega)
      rw [hfv] at hos
      have hdl2 := hD2.len
      have hcl2 := count_le (dn := dn.set v.toNat true)
      refine ⟨_, m_contains, (bl, v), [], false, ?_⟩
      conv => whnf
      refine And.intro (vc0 hbl (by (repeat' (first | exact trivial | exact rfl | refine And.intro ?_ ?_ | (refine congrArg vI ?_; first | omega | (dsimp only; omega) | fail) | (refine congrArg some ?_) | omega | exact Nat.le_refl _ | exact congrArg (SV.lst _) (List.take_of_length_le (Nat.le_refl _)).symm))) (by repeat' (first | exact trivial | exact rfl | refine And.intro ?_ ?_ | (refine congrArg vI ?_; first | omega | (dsimp only; omega) | fail) | (refine congrArg some ?_) | omega | exact Nat.le_refl _ | exact congrArg (SV.lst _) (List.take_of_length_le (Nat.le_refl _)).symm)) trivial trivial) ?_
      refine And.intro (has_ex _ _) ?_
      intro (b : Bool) (hbv : b = true ↔ v ∈ bl)
      cases b
      · have hvb : v ∉ bl := fun h => by have := hbv.2 h; cases this
        conv => whnf
        repeat' (first | (refine tell (fun htest => ?_) (fun htest => ?_) <;> (try dsimp only at htest) <;> first | (exfalso; omega) | (exact absurd rfl htest) | (exact absurd (by decide) htest) | (conv => whnf)) | (refine allG rfl ?_; conv => whnf) | (refine And.intro (by first | omega | assumption | kernel_rfl | exact And.intro rfl rfl | ((try dsimp only [inR, idx, lowOf]); first | omega | (with_reducible decide) | (simp; omega) | fail) | fail) ?_; conv => whnf) | fail)
        refine ⟨Nat × List Item × List Item, fun p => ⟨[(0, .val (.func (.yield l) #[] #[])), (1, .ptr 2 0 1 0), (2, .ptr 3 0 1 0), (3, .ptr 4 0 2 0), (5, .ptr 1005 0 40 0), (6, .ptr 3001 0 2 0), (7, vI c), (8, vI v), (39, .lst 54 es), (40, vI es.length), (41, vI p.1)], [(0, .arr 3 (outOf n es bl t (dn.set v.toNat true))), (1, .cells [.sl 0 1 0 n.toNat]), (2, .cells [vI t]), (3, .cells [.lst 3 bl]), (4, layC n es), (1005, .arr 4 (dn.set v.toNat true)), (3001, .cells [.sl 3002 2 0 p.2.1.length, fnB]), (3002, .arr 97 p.2.2)]⟩, fun p => p.1 ≤ es.length ∧ HeapL p.2.1 ∧ (∃ ys, p.2.2 = p.2.1 ++ ys) ∧ Dij2 n es bl t (dn.set v.toNat true) v p.1 p.2.1 ∧ p.2.1.length ≤ H1.length + p.1, fun p => es.length - p.1, fun _ _ => rfl, ⟨(0, H1, w1), [], ⟨Nat.zero_le _, hH1, hw1, hD2, Nat.le_refl _⟩, ?_⟩, ?_⟩
        · refine ⟨rfl, ?_, ?_, rfl⟩
          all_goals (repeat' (first | exact trivial | exact rfl | refine And.intro ?_ ?_ | (refine congrArg vI ?_; first | omega | (dsimp only; omega) | fail) | (refine congrArg some ?_) | omega | exact Nat.le_refl _ | exact congrArg (SV.lst _) (List.take_of_length_le (Nat.le_refl _)).symm))
          all_goals (first | exact congrArg (Ct.arr (A := AF) 3) hos.symm | exact congrArg (SV.sl (A := AF) 0 1 0) hln)
        rintro ⟨(i : Nat), (H2 : List Item), (w2 : List Item)⟩ ⟨(hi : i ≤ es.length), (hH2 : HeapL H2), (hw2 : ∃ ys, w2 = H2 ++ ys), (hDi : Dij2 n es bl t (dn.set v.toNat true) v i H2), (hfi : H2.length ≤ H1.length + i)⟩
        by_cases hlt : i < es.length
        · obtain ⟨e, he⟩ : ∃ e, es[i]? = some e := ⟨_, List.getElem?_eq_getElem hlt⟩
          have hmem : e ∈ es := List.mem_of_getElem? he
          obtain ⟨o1, o2, o3, o4, _, o6, o7⟩ := hR.each e hmem
          obtain ⟨b2, hb2⟩ : ∃ b2, (dn.set v.toNat true)[e.1.toNat]? = some b2 := ⟨_, List.getElem?_eq_getElem (by omega)⟩
          by_cases hev : e.2.1 = v
          · cases b2
            · conv => whnf
              repeat' (first | (refine tell (fun htest => ?_) (fun htest => ?_) <;> (try dsimp only at htest) <;> first | (exfalso; omega) | (exact absurd rfl htest) | (exact absurd (by decide) htest) | (conv => whnf)) | (refine allG (x := e) (by first | exact he | simpa [List.getElem?_append_right, lowOf] using he | fail) ?_; conv => whnf) | (refine allLst (x := e) (by first | omega | assumption | fail) (by first | exact he | simpa using he | fail) ?_; conv => whnf) | (refine allG (x := false) (by first | exact hb2 | simpa [List.getElem?_append_right, lowOf] using hb2 | fail) ?_; conv => whnf) | (refine allLst (x := false) (by first | omega | assumption | fail) (by first | exact hb2 | simpa using hb2 | fail) ?_; conv => whnf) | (refine allG rfl ?_; conv => whnf) | (refine And.intro (by first | omega | assumption | kernel_rfl | exact And.intro rfl rfl | ((try dsimp only [inR, idx, lowOf]); first | omega | (with_reducible decide) | (simp; omega) | fail) | fail) ?_; conv => whnf) | fail)
              refine ⟨_, m_push, (H2, w2, (c + e.2.2, e.1)), [3001, 3002], false, ?_⟩
              conv => whnf
              refine And.intro (vc0 ⟨hH2, by show H2.length < 1000000; omega, hw2⟩ (by (repeat' (first | exact trivial | exact rfl | refine And.intro ?_ ?_ | (refine congrArg vI ?_; first | omega | (dsimp only; omega) | fail) | (refine congrArg some ?_) | omega | exact Nat.le_refl _ | exact congrArg (SV.lst _) (List.take_of_length_le (Nat.le_refl _)).symm))) (by repeat' (first | exact trivial | exact rfl | refine And.intro ?_ ?_ | (refine congrArg vI ?_; first | omega | (dsimp only; omega) | fail) | (refine congrArg some ?_) | omega | exact Nat.le_refl _ | exact congrArg (SV.lst _) (List.take_of_length_le (Nat.le_refl _)).symm)) trivial trivial) ?_
              refine And.intro (heap_ex _) ?_
              rintro (d2 : List Item) ⟨(hp2 : List.Perm d2 ((c + e.2.2, e.1) :: H2)), (hd2 : HeapL d2)⟩
              have hpl := hp2.length_eq
              rw [List.length_cons] at hpl
              conv => whnf
              repeat' (first | (refine tell (fun htest => ?_) (fun htest => ?_) <;> (try dsimp only at htest) <;> first | (exfalso; omega) | (exact absurd rfl htest) | (exact absurd (by decide) htest) | (conv => whnf)) | (refine allG rfl ?_; conv => whnf) | (refine And.intro (by first | omega | assumption | kernel_rfl | exact And.intro rfl rfl | ((try dsimp only [inR, idx, lowOf]); first | omega | (with_reducible decide) | (simp; omega) | fail) | fail) ?_; conv => whnf) | fail)
              refine ⟨(i + 1, d2, d2), [(3002, 1063)], ⟨hlt, hd2, ⟨[], by simp⟩, dij_push hR h0 ht he hDi hev hvb hfv hc0 hp2, by show d2.length ≤ H1.length + (i + 1); omega⟩, ?_, rfl, ?_, ?_, rfl⟩
              · dsimp only; first | omega | (simp; done) | (simp; omega)
              all_goals (repeat' (first | exact trivial | exact rfl | refine And.intro ?_ ?_ | (refine congrArg vI ?_; first | omega | (dsimp only; omega) | fail) | (refine congrArg some ?_) | omega | exact Nat.le_refl _ | exact congrArg (SV.lst _) (List.take_of_length_le (Nat.le_refl _)).symm))
            · conv => whnf
              repeat' (first | (refine tell (fun htest => ?_) (fun htest => ?_) <;> (try dsimp only at htest) <;> first | (exfalso; omega) | (exact absurd rfl htest) | (exact absurd (by decide) htest) | (conv => whnf)) | (refine allG (x := e) (by first | exact he | simpa [List.getElem?_append_right, lowOf] using he | fail) ?_; conv => whnf) | (refine allLst (x := e) (by first | omega | assumption | fail) (by first | exact he | simpa using he | fail) ?_; conv => whnf) | (refine allG (x := true) (by first | exact hb2 | simpa [List.getElem?_append_right, lowOf] using hb2 | fail) ?_; conv => whnf) | (refine allLst (x := true) (by first | omega | assumption | fail) (by first | exact hb2 | simpa using hb2 | fail) ?_; conv => whnf) | (refine allG rfl ?_; conv => whnf) | (refine And.intro (by first | omega | assumption | kernel_rfl | exact And.intro rfl rfl | ((try dsimp only [inR, idx, lowOf]); first | omega | (with_reducible decide) | (simp; omega) | fail) | fail) ?_; conv => whnf) | fail)
              refine ⟨(i + 1, H2, w2), [], ⟨hlt, hH2, hw2, dij_skip he hDi (.inr hb2), by show H2.length ≤ H1.length + (i + 1); omega⟩, ?_, rfl, ?_, ?_, rfl⟩
              · dsimp only; first | omega | (simp; done) | (simp; omega)
              all_goals (repeat' (first | exact trivial | exact rfl | refine And.intro ?_ ?_ | (refine congrArg vI ?_; first | omega | (dsimp only; omega) | fail) | (refine congrArg some ?_) | omega | exact Nat.le_refl _ | exact congrArg (SV.lst _) (List.take_of_length_le (Nat.le_refl _)).symm))
          · conv => whnf
            repeat' (first | (refine tell (fun htest => ?_) (fun htest => ?_) <;> (try dsimp only at htest) <;> first | (exfalso; omega) | (exact absurd rfl htest) | (exact absurd (by decide) htest) | (conv => whnf)) | (refine allG (x := e) (by first | exact he | simpa [List.getElem?_append_right, lowOf] using he | fail) ?_; conv => whnf) | (refine allLst (x := e) (by first | omega | assumption | fail) (by first | exact he | simpa using he | fail) ?_; conv => whnf) | (refine allG rfl ?_; conv => whnf) | (refine And.intro (by first | omega | assumption | kernel_rfl | exact And.intro rfl rfl | ((try dsimp only [inR, idx, lowOf]); first | omega | (with_reducible decide) | (simp; omega) | fail) | fail) ?_; conv => whnf) | fail)
            refine ⟨(i + 1, H2, w2), [], ⟨hlt, hH2, hw2, dij_skip he hDi (.inl hev), by show H2.length ≤ H1.length + (i + 1); omega⟩, ?_, rfl, ?_, ?_, rfl⟩
            · dsimp only; first | omega | (simp; done) | (simp; omega)
            all_goals (repeat' (first | exact trivial | exact rfl | refine And.intro ?_ ?_ | (refine congrArg vI ?_; first | omega | (dsimp only; omega) | fail) | (refine congrArg some ?_) | omega | exact Nat.le_refl _ | exact congrArg (SV.lst _) (List.take_of_length_le (Nat.le_refl _)).symm))
        · have hie : i = es.length := by omega
          subst hie
          conv => whnf
          repeat' (first | (refine tell (fun htest => ?_) (fun htest => ?_) <;> (try dsimp only at htest) <;> first | (exfalso; omega) | (exact absurd rfl htest) | (exact absurd (by decide) htest) | (conv => whnf)) | (refine allG rfl ?_; conv => whnf) | (refine And.intro (by first | omega | assumption | kernel_rfl | exact And.intro rfl rfl | ((try dsimp only [inR, idx, lowOf]); first | omega | (with_reducible decide) | (simp; omega) | fail) | fail) ?_; conv => whnf) | fail)
          refine ⟨(dn.set v.toNat true, H2, w2), [], ⟨hH2, hw2, dij_done hDi, by show H2.length ≤ 1 + 120 * (dn.set v.toNat true).count true; omega⟩, ?_, rfl, ?_, ?_, rfl⟩
          · dsimp only; first | omega | (simp; done) | (simp; omega)
          all_goals (repeat' (first | exact trivial | exact rfl | refine And.intro ?_ ?_ | (refine congrArg vI ?_; first | omega | (dsimp only; omega) | fail) | (refine congrArg some ?_) | omega | exact Nat.le_refl _ | exact congrArg (SV.lst _) (List.take_of_length_le (Nat.le_refl _)).symm))
      · have hvb := hbv.1 rfl
        conv => whnf
        repeat' (first | (refine tell (fun htest => ?_) (fun htest => ?_) <;> (try dsimp only at htest) <;> first | (exfalso; omega) | (exact absurd rfl htest) | (exact absurd (by decide) htest) | (conv => whnf)) | (refine allG rfl ?_; conv => whnf) | (refine And.intro (by first | omega | assumption | kernel_rfl | exact And.intro rfl rfl | ((try dsimp only [inR, idx, lowOf]); first | omega | (with_reducible decide) | (simp; omega) | fail) | fail) ?_; conv => whnf) | fail)
        refine ⟨(dn.set v.toNat true, H1, w1), [], ⟨hH1, hw1, dij_blocked hvb hD2, by show H1.length ≤ 1 + 120 * (dn.set v.toNat true).count true; omega⟩, ?_, rfl, ?_, ?_, rfl⟩
        · dsimp only; first | omega | (simp; done) | (simp; omega)
        all_goals (repeat' (first | exact trivial | exact rfl | refine And.intro ?_ ?_ | (refine congrArg vI ?_; first | omega | (dsimp only; omega) | fail) | (refine congrArg some ?_) | omega | exact Nat.le_refl _ | exact congrArg (SV.lst _) (List.take_of_length_le (Nat.le_refl _)).symm))
        all_goals first | exact congrArg (Ct.arr (A := AF) 3) hos.symm | exact congrArg (SV.sl (A := AF) 0 1 0) hln
    · conv => whnf
      repeat' (first | (refine tell (fun htest => ?_) (fun htest => ?_) <;> (try dsimp only at htest) <;> first | (exfalso; omega) | (exact absurd rfl htest) | (exact absurd (by decide) htest) | (conv => whnf)) | (refine allG (x := true) (by first | exact hb | simpa [List.getElem?_append_right, lowOf] using hb | fail) ?_; conv => whnf) | (refine allLst (x := true) (by first | omega | assumption | fail) (by first | exact hb | simpa using hb | fail) ?_; conv => whnf) | (refine allG rfl ?_; conv => whnf) | (refine And.intro (by first | omega | assumption | kernel_rfl | exact And.intro rfl rfl | ((try dsimp only [inR, idx, lowOf]); first | omega | (with_reducible decide) | (simp; omega) | fail) | fail) ?_; conv => whnf) | fail)
      refine ⟨(dn, H1, w1), [], ⟨hH1, hw1, dij_again hv0 hK.dij hpm hb, by show H1.length ≤ 1 + 120 * dn.count true; omega⟩, ?_, rfl, ?_, ?_, rfl⟩
      · dsimp only; first | omega | (simp; done) | (simp; omega)
      all_goals (repeat' (first | exact trivial | exact rfl | refine And.intro ?_ ?_ | (refine congrArg vI ?_; first | omega | (dsimp only; omega) | fail) | (refine congrArg some ?_) | omega | exact Nat.le_refl _ | exact congrArg (SV.lst _) (List.take_of_length_le (Nat.le_refl _)).symm))
noncomputable def spFar : Spec AF where
  γ := (Int × List Edge) × List Int × Int
  δ := Unit
  args := fun g => [layS g.1.1 g.1.2, .lst 3 g.2.1, vI g.2.2]
  own := fun _ => []
  pre := fun g => RightL g.1.1 g.1.2 ∧ 0 ≤ g.2.2 ∧ g.2.2 < g.1.1 ∧ GoodL g.1.2 ∧ g.2.1.length ≤ 9223372036854775807
  nnew := 0
  res := fun g _ => .lst 3 (farF g.1.1 g.1.2 g.2.1 g.2.2)
  own' := fun _ _ => []
  post := fun _ _ => True
set_option maxHeartbeats 1600000 in
theorem m_far : Meets Try.prog regF 53 spFar := by
  refine meets Try.func53 38 noWr rfl (by kernel_rfl) (by kernel_rfl) ?_
  rintro ⟨⟨(n : Int), (es : List Edge)⟩, (bl : List Int), (t : Int)⟩ ⟨(hR : RightL n es), (h0 : 0 ≤ t), (ht : t < n), (hg : GoodL es), (hbl : bl.length ≤ 9223372036854775807)⟩
  obtain ⟨k, rfl⟩ := Int.eq_ofNat_of_zero_le (show 0 ≤ n from Int.le_of_lt hR.pos)
  have hk40 := hR.most
  have hkp := hR.pos
  conv => whnf
  repeat' (first | (refine tell (fun htest => ?_) (fun htest => ?_) <;> (try dsimp only at htest) <;> first | (exfalso; omega) | (exact absurd rfl htest) | (exact absurd (by decide) htest) | (conv => whnf)) | (refine allG rfl ?_; conv => whnf) | (refine And.intro (by first | omega | assumption | kernel_rfl | exact And.intro rfl rfl | ((try dsimp only [inR, idx, lowOf]); first | omega | (with_reducible decide) | (simp; omega) | fail) | fail) ?_; conv => whnf) | fail)
  refine ⟨_, m_right, (((k : Nat) : Int), es), [], false, ?_⟩
  conv => whnf
  refine And.intro (vc0 hg (by (repeat' (first | exact trivial | exact rfl | refine And.intro ?_ ?_ | (refine congrArg vI ?_; first | omega | (dsimp only; omega) | fail) | (refine congrArg some ?_) | omega | exact Nat.le_refl _ | exact congrArg (SV.lst _) (List.take_of_length_le (Nat.le_refl _)).symm))) (by repeat' (first | exact trivial | exact rfl | refine And.intro ?_ ?_ | (refine congrArg vI ?_; first | omega | (dsimp only; omega) | fail) | (refine congrArg some ?_) | omega | exact Nat.le_refl _ | exact congrArg (SV.lst _) (List.take_of_length_le (Nat.le_refl _)).symm)) trivial trivial) ?_
  refine And.intro (right_ex _ es) ?_
  intro (c : Bool) (hc : c = true ↔ RightL k es)
  cases c
  · have := hc.2 hR; cases this
  conv => whnf
  repeat' (first | (refine tell (fun htest => ?_) (fun htest => ?_) <;> (try dsimp only at htest) <;> first | (exfalso; omega) | (exact absurd rfl htest) | (exact absurd (by decide) htest) | (conv => whnf)) | (refine allG rfl ?_; conv => whnf) | (refine And.intro (by first | omega | assumption | kernel_rfl | exact And.intro rfl rfl | ((try dsimp only [inR, idx, lowOf]); first | omega | (with_reducible decide) | (simp; omega) | fail) | fail) ?_; conv => whnf) | fail)
  refine ⟨_, m_repeat, (-1, k), [1023], false, ?_⟩
  conv => whnf
  refine And.intro (vc0 ⟨by show 1 ≤ k; omega, by show k ≤ 1000; omega⟩ (by (repeat' (first | exact trivial | exact rfl | refine And.intro ?_ ?_ | (refine congrArg vI ?_; first | omega | (dsimp only; omega) | fail) | (refine congrArg some ?_) | omega | exact Nat.le_refl _ | exact congrArg (SV.lst _) (List.take_of_length_le (Nat.le_refl _)).symm))) (by repeat' (first | exact trivial | exact rfl | refine And.intro ?_ ?_ | (refine congrArg vI ?_; first | omega | (dsimp only; omega) | fail) | (refine congrArg some ?_) | omega | exact Nat.le_refl _ | exact congrArg (SV.lst _) (List.take_of_length_le (Nat.le_refl _)).symm)) trivial trivial) ?_
  refine And.intro ⟨(), trivial⟩ (fun (_ : Unit) _ => ?_)
  conv => whnf
  conv => whnf
  repeat' (first | (refine tell (fun htest => ?_) (fun htest => ?_) <;> (try dsimp only at htest) <;> first | (exfalso; omega) | (exact absurd rfl htest) | (exact absurd (by decide) htest) | (conv => whnf)) | (refine allG rfl ?_; conv => whnf) | (refine And.intro (by first | omega | assumption | kernel_rfl | exact And.intro rfl rfl | ((try dsimp only [inR, idx, lowOf]); first | omega | (with_reducible decide) | (simp; omega) | fail) | fail) ?_; conv => whnf) | fail)
  refine ⟨_, m_known, ((((k : Nat) : Int), es), bl, t), [], false, ?_⟩
  conv => whnf
  refine And.intro (vc0 trivial (by (repeat' (first | exact trivial | exact rfl | refine And.intro ?_ ?_ | (refine congrArg vI ?_; first | omega | (dsimp only; omega) | fail) | (refine congrArg some ?_) | omega | exact Nat.le_refl _ | exact congrArg (SV.lst _) (List.take_of_length_le (Nat.le_refl _)).symm))) (by repeat' (first | exact trivial | exact rfl | refine And.intro ?_ ?_ | (refine congrArg vI ?_; first | omega | (dsimp only; omega) | fail) | (refine congrArg some ?_) | omega | exact Nat.le_refl _ | exact congrArg (SV.lst _) (List.take_of_length_le (Nat.le_refl _)).symm)) trivial trivial) ?_
  refine And.intro ⟨(), trivial⟩ (fun (_ : Unit) _ => ?_)
  conv => whnf
  conv => whnf
  repeat' (first | (refine tell (fun htest => ?_) (fun htest => ?_) <;> (try dsimp only at htest) <;> first | (exfalso; omega) | (exact absurd rfl htest) | (exact absurd (by decide) htest) | (conv => whnf)) | (refine allG rfl ?_; conv => whnf) | (refine And.intro (by first | omega | assumption | kernel_rfl | exact And.intro rfl rfl | ((try dsimp only [inR, idx, lowOf]); first | omega | (with_reducible decide) | (simp; omega) | fail) | fail) ?_; conv => whnf) | fail)
  refine ⟨spYield, spIt, 2, it_known, [1026, 1007], [1030, 2030, 3030], fun _ => ((((k : Nat) : Int), es), bl, t), ⟨rfl, rfl, rfl⟩, ?_, ?_⟩
  · rintro ⟨(xs : List Int), (v : Int), (c : Int)⟩ ⟨(hv0 : 0 ≤ v), (hvl : v < xs.length)⟩
    refine ⟨⟨rfl, ⟨rfl, rfl, trivial⟩, rfl, trivial⟩, ?_⟩
    obtain ⟨x, hx⟩ : ∃ x, xs[v.toNat]? = some x := ⟨_, List.getElem?_eq_getElem (by omega)⟩
    conv => whnf
    repeat' (first | (refine tell (fun htest => ?_) (fun htest => ?_) <;> (try dsimp only at htest) <;> first | (exfalso; omega) | (exact absurd rfl htest) | (exact absurd (by decide) htest) | (conv => whnf)) | (refine allG (x := x) (by first | exact hx | simpa [List.getElem?_append_right, lowOf] using hx | fail) ?_; conv => whnf) | (refine allLst (x := x) (by first | omega | assumption | fail) (by first | exact hx | simpa using hx | fail) ?_; conv => whnf) | (refine allG rfl ?_; conv => whnf) | (refine And.intro (by first | omega | assumption | kernel_rfl | exact And.intro rfl rfl | ((try dsimp only [inR, idx, lowOf]); first | omega | (with_reducible decide) | (simp; omega) | fail) | fail) ?_; conv => whnf) | fail)
    refine ⟨(), trivial, rfl, ⟨?_, ⟨rfl, trivial⟩, trivial⟩, trivial⟩
    exact congrArg (fun i : Nat => Ct.arr (A := AF) 3 (xs.set i c)) (show 0 + v.toNat = v.toNat by omega)
  · intro l
    refine ⟨rfl, ?_⟩
    conv => whnf
    refine And.intro (vc0 ⟨hR, h0, ht, hbl⟩ ⟨rfl, rfl, rfl, rfl, trivial⟩ ⟨rfl, rfl, rfl, rfl, rfl, trivial⟩ trivial trivial) ?_
    refine And.intro ⟨(), trivial⟩ (fun (_ : Unit) _ => ?_)
    conv => whnf
    conv => whnf
    repeat' (first | (refine tell (fun htest => ?_) (fun htest => ?_) <;> (try dsimp only at htest) <;> first | (exfalso; omega) | (exact absurd rfl htest) | (exact absurd (by decide) htest) | (conv => whnf)) | (refine allG rfl ?_; conv => whnf) | (refine And.intro (by first | omega | assumption | kernel_rfl | exact And.intro rfl rfl | ((try dsimp only [inR, idx, lowOf]); first | omega | (with_reducible decide) | (simp; omega) | fail) | fail) ?_; conv => whnf) | fail)
    refine ⟨(), [], trivial, ⟨?_, rfl, ?_⟩, trivial, trivial⟩
    · show 0 + k ≤ (farF k es bl t).length
      rw [farF_len]; simp
    · exact congrArg (SV.lst (A := AF) 3) (show farF k es bl t = ((farF k es bl t).drop 0).take k by rw [List.drop_zero, List.take_of_length_le (by rw [farF_len]; simp)])
def spFarN : Spec AF where
  γ := (Int × List Edge) × List Int × Int
  δ := Unit
  args := fun g => [layS g.1.1 g.1.2, .lst 3 g.2.1, vI g.2.2]
  own := fun _ => []
  pre := fun g => ¬ (RightL g.1.1 g.1.2 ∧ 0 ≤ g.2.2 ∧ g.2.2 < g.1.1) ∧ GoodL g.1.2
  nnew := 0
  res := fun _ _ => .val (.slice none 0 0)
  own' := fun _ _ => []
  post := fun _ _ => True
theorem m_farN : Meets Try.prog regF 53 spFarN := by
  refine meets Try.func53 38 noWr rfl (by kernel_rfl) (by kernel_rfl) ?_
  rintro ⟨⟨(n : Int), (es : List Edge)⟩, (bl : List Int), (t : Int)⟩ ⟨(hno : ¬ (RightL n es ∧ 0 ≤ t ∧ t < n)), (hg : GoodL es)⟩
  conv => whnf
  repeat' (first | (refine tell (fun htest => ?_) (fun htest => ?_) <;> (try dsimp only at htest) <;> first | (exfalso; omega) | (exact absurd rfl htest) | (exact absurd (by decide) htest) | (conv => whnf)) | (refine allG rfl ?_; conv => whnf) | (refine And.intro (by first | omega | assumption | kernel_rfl | exact And.intro rfl rfl | ((try dsimp only [inR, idx, lowOf]); first | omega | (with_reducible decide) | (simp; omega) | fail) | fail) ?_; conv => whnf) | fail)
  refine ⟨_, m_right, (n, es), [], false, ?_⟩
  conv => whnf
  refine And.intro (vc0 hg (by (repeat' (first | exact trivial | exact rfl | refine And.intro ?_ ?_ | (refine congrArg vI ?_; first | omega | (dsimp only; omega) | fail) | (refine congrArg some ?_) | omega | exact Nat.le_refl _ | exact congrArg (SV.lst _) (List.take_of_length_le (Nat.le_refl _)).symm))) (by repeat' (first | exact trivial | exact rfl | refine And.intro ?_ ?_ | (refine congrArg vI ?_; first | omega | (dsimp only; omega) | fail) | (refine congrArg some ?_) | omega | exact Nat.le_refl _ | exact congrArg (SV.lst _) (List.take_of_length_le (Nat.le_refl _)).symm)) trivial trivial) ?_
  refine And.intro (right_ex n es) ?_
  intro (c : Bool) (hc : c = true ↔ RightL n es)
  cases c
  · conv => whnf
    repeat' (first | (refine tell (fun htest => ?_) (fun htest => ?_) <;> (try dsimp only at htest) <;> first | (exfalso; omega) | (exact absurd rfl htest) | (exact absurd (by decide) htest) | (conv => whnf)) | (refine allG rfl ?_; conv => whnf) | (refine And.intro (by first | omega | assumption | kernel_rfl | exact And.intro rfl rfl | ((try dsimp only [inR, idx, lowOf]); first | omega | (with_reducible decide) | (simp; omega) | fail) | fail) ?_; conv => whnf) | fail)
    exact ⟨(), [], trivial, rfl, trivial, trivial⟩
  · have hr := hc.1 rfl
    by_cases h0 : t < 0
    · conv => whnf
      repeat' (first | (refine tell (fun htest => ?_) (fun htest => ?_) <;> (try dsimp only at htest) <;> first | (exfalso; omega) | (exact absurd rfl htest) | (exact absurd (by decide) htest) | (conv => whnf)) | (refine allG rfl ?_; conv => whnf) | (refine And.intro (by first | omega | assumption | kernel_rfl | exact And.intro rfl rfl | ((try dsimp only [inR, idx, lowOf]); first | omega | (with_reducible decide) | (simp; omega) | fail) | fail) ?_; conv => whnf) | fail)
      exact ⟨(), [], trivial, rfl, trivial, trivial⟩
    · have hn : ¬ t < n := fun h => hno ⟨hr, by omega, h⟩
      conv => whnf
      repeat' (first | (refine tell (fun htest => ?_) (fun htest => ?_) <;> (try dsimp only at htest) <;> first | (exfalso; omega) | (exact absurd rfl htest) | (exact absurd (by decide) htest) | (conv => whnf)) | (refine allG rfl ?_; conv => whnf) | (refine And.intro (by first | omega | assumption | kernel_rfl | exact And.intro rfl rfl | ((try dsimp only [inR, idx, lowOf]); first | omega | (with_reducible decide) | (simp; omega) | fail) | fail) ?_; conv => whnf) | fail)
      exact ⟨(), [], trivial, rfl, trivial, trivial⟩
end Go.Sx

