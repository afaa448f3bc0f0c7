/-
  Layer 12, part F: Far and Route with slices of the caller's own; the chapter's examples.
-/
import Derived.Test.YtmogappoadglgaaRouE
namespace Go.Sx
open Go Go.Proofs Go.Proofs.Ytmogappoadglgaa
noncomputable def spFar2 : Spec AF where
  γ := (Int × List Edge) × List Int × Int
  δ := Unit
  args := fun g => [layS g.1.1 g.1.2, .lst 3 g.2.1, vI g.2.2]
  own := fun _ => []
  pre := fun g => RightL g.1.1 g.1.2 ∧ 0 ≤ g.2.2 ∧ g.2.2 < g.1.1 ∧ GoodL g.1.2 ∧ g.2.1.length ≤ 9223372036854775807
  nnew := 1
  res := fun g _ => .sl 0 1 0 g.1.1.toNat
  own' := fun g _ => [some (.arr 3 (farF g.1.1 g.1.2 g.2.1 g.2.2))]
  post := fun _ _ => True
set_option maxHeartbeats 1600000 in
theorem m_far2 : Meets Try.prog regF 53 spFar2 := by
  refine meets Try.func53 38 noWr rfl (by kernel_rfl) (by kernel_rfl) ?_
  rintro ⟨⟨(n : Int), (es : List Edge)⟩, (bl : List Int), (t : Int)⟩ ⟨(hR : RightL n es), (h0 : 0 ≤ t), (ht : t < n), (hg : GoodL es), (hbl : bl.length ≤ 9223372036854775807)⟩
  obtain ⟨k, rfl⟩ := Int.eq_ofNat_of_zero_le (show 0 ≤ n from Int.le_of_lt hR.pos)
  have hk40 := hR.most
  have hkp := hR.pos
  conv => whnf
  repeat' (first | (refine tell (fun htest => ?_) (fun htest => ?_) <;> (try dsimp only at htest) <;> first | (exfalso; omega) | (exact absurd rfl htest) | (exact absurd (by decide) htest) | (conv => whnf)) | (refine allG rfl ?_; conv => whnf) | (refine And.intro (by first | omega | assumption | kernel_rfl | exact And.intro rfl rfl | ((try dsimp only [inR, idx, lowOf]); first | omega | (with_reducible decide) | (simp; omega) | fail) | fail) ?_; conv => whnf) | fail)
  refine ⟨_, m_right, (((k : Nat) : Int), es), [], false, ?_⟩
  conv => whnf
  refine And.intro (vc0 hg (by (repeat' (first | exact trivial | exact rfl | refine And.intro ?_ ?_ | (refine congrArg vI ?_; first | omega | (dsimp only; omega) | fail) | (refine congrArg some ?_) | omega | exact Nat.le_refl _ | exact congrArg (SV.lst _) (List.take_of_length_le (Nat.le_refl _)).symm))) (by repeat' (first | exact trivial | exact rfl | refine And.intro ?_ ?_ | (refine congrArg vI ?_; first | omega | (dsimp only; omega) | fail) | (refine congrArg some ?_) | omega | exact Nat.le_refl _ | exact congrArg (SV.lst _) (List.take_of_length_le (Nat.le_refl _)).symm)) trivial trivial) ?_
  refine And.intro (right_ex _ es) ?_
  intro (c : Bool) (hc : c = true ↔ RightL k es)
  cases c
  · have := hc.2 hR; cases this
  conv => whnf
  repeat' (first | (refine tell (fun htest => ?_) (fun htest => ?_) <;> (try dsimp only at htest) <;> first | (exfalso; omega) | (exact absurd rfl htest) | (exact absurd (by decide) htest) | (conv => whnf)) | (refine allG rfl ?_; conv => whnf) | (refine And.intro (by first | omega | assumption | kernel_rfl | exact And.intro rfl rfl | ((try dsimp only [inR, idx, lowOf]); first | omega | (with_reducible decide) | (simp; omega) | fail) | fail) ?_; conv => whnf) | fail)
  refine ⟨_, m_repeat, (-1, k), [1023], false, ?_⟩
  conv => whnf
  refine And.intro (vc0 ⟨by show 1 ≤ k; omega, by show k ≤ 1000; omega⟩ (by (repeat' (first | exact trivial | exact rfl | refine And.intro ?_ ?_ | (refine congrArg vI ?_; first | omega | (dsimp only; omega) | fail) | (refine congrArg some ?_) | omega | exact Nat.le_refl _ | exact congrArg (SV.lst _) (List.take_of_length_le (Nat.le_refl _)).symm))) (by repeat' (first | exact trivial | exact rfl | refine And.intro ?_ ?_ | (refine congrArg vI ?_; first | omega | (dsimp only; omega) | fail) | (refine congrArg some ?_) | omega | exact Nat.le_refl _ | exact congrArg (SV.lst _) (List.take_of_length_le (Nat.le_refl _)).symm)) trivial trivial) ?_
  refine And.intro ⟨(), trivial⟩ (fun (_ : Unit) _ => ?_)
  conv => whnf
  conv => whnf
  repeat' (first | (refine tell (fun htest => ?_) (fun htest => ?_) <;> (try dsimp only at htest) <;> first | (exfalso; omega) | (exact absurd rfl htest) | (exact absurd (by decide) htest) | (conv => whnf)) | (refine allG rfl ?_; conv => whnf) | (refine And.intro (by first | omega | assumption | kernel_rfl | exact And.intro rfl rfl | ((try dsimp only [inR, idx, lowOf]); first | omega | (with_reducible decide) | (simp; omega) | fail) | fail) ?_; conv => whnf) | fail)
  refine ⟨_, m_known, ((((k : Nat) : Int), es), bl, t), [], false, ?_⟩
  conv => whnf
  refine And.intro (vc0 trivial (by (repeat' (first | exact trivial | exact rfl | refine And.intro ?_ ?_ | (refine congrArg vI ?_; first | omega | (dsimp only; omega) | fail) | (refine congrArg some ?_) | omega | exact Nat.le_refl _ | exact congrArg (SV.lst _) (List.take_of_length_le (Nat.le_refl _)).symm))) (by repeat' (first | exact trivial | exact rfl | refine And.intro ?_ ?_ | (refine congrArg vI ?_; first | omega | (dsimp only; omega) | fail) | (refine congrArg some ?_) | omega | exact Nat.le_refl _ | exact congrArg (SV.lst _) (List.take_of_length_le (Nat.le_refl _)).symm)) trivial trivial) ?_
  refine And.intro ⟨(), trivial⟩ (fun (_ : Unit) _ => ?_)
  conv => whnf
  conv => whnf
  repeat' (first | (refine tell (fun htest => ?_) (fun htest => ?_) <;> (try dsimp only at htest) <;> first | (exfalso; omega) | (exact absurd rfl htest) | (exact absurd (by decide) htest) | (conv => whnf)) | (refine allG rfl ?_; conv => whnf) | (refine And.intro (by first | omega | assumption | kernel_rfl | exact And.intro rfl rfl | ((try dsimp only [inR, idx, lowOf]); first | omega | (with_reducible decide) | (simp; omega) | fail) | fail) ?_; conv => whnf) | fail)
  refine ⟨spYield, spIt, 2, it_known, [1026, 1007], [1030, 2030, 3030], fun _ => ((((k : Nat) : Int), es), bl, t), ⟨rfl, rfl, rfl⟩, ?_, ?_⟩
  · rintro ⟨(xs : List Int), (v : Int), (c : Int)⟩ ⟨(hv0 : 0 ≤ v), (hvl : v < xs.length)⟩
    refine ⟨⟨rfl, ⟨rfl, rfl, trivial⟩, rfl, trivial⟩, ?_⟩
    obtain ⟨x, hx⟩ : ∃ x, xs[v.toNat]? = some x := ⟨_, List.getElem?_eq_getElem (by omega)⟩
    conv => whnf
    repeat' (first | (refine tell (fun htest => ?_) (fun htest => ?_) <;> (try dsimp only at htest) <;> first | (exfalso; omega) | (exact absurd rfl htest) | (exact absurd (by decide) htest) | (conv => whnf)) | (refine allG (x := x) (by first | exact hx | simpa [List.getElem?_append_right, lowOf] using hx | fail) ?_; conv => whnf) | (refine allLst (x := x) (by first | omega | assumption | fail) (by first | exact hx | simpa using hx | fail) ?_; conv => whnf) | (refine allG rfl ?_; conv => whnf) | (refine And.intro (by first | omega | assumption | kernel_rfl | exact And.intro rfl rfl | ((try dsimp only [inR, idx, lowOf]); first | omega | (with_reducible decide) | (simp; omega) | fail) | fail) ?_; conv => whnf) | fail)
    refine ⟨(), trivial, rfl, ⟨?_, ⟨rfl, trivial⟩, trivial⟩, trivial⟩
    exact congrArg (fun i : Nat => Ct.arr (A := AF) 3 (xs.set i c)) (show 0 + v.toNat = v.toNat by omega)
  · intro l
    refine ⟨rfl, ?_⟩
    conv => whnf
    refine And.intro (vc0 ⟨hR, h0, ht, hbl⟩ ⟨rfl, rfl, rfl, rfl, trivial⟩ ⟨rfl, rfl, rfl, rfl, rfl, trivial⟩ trivial trivial) ?_
    refine And.intro ⟨(), trivial⟩ (fun (_ : Unit) _ => ?_)
    conv => whnf
    conv => whnf
    repeat' (first | (refine tell (fun htest => ?_) (fun htest => ?_) <;> (try dsimp only at htest) <;> first | (exfalso; omega) | (exact absurd rfl htest) | (exact absurd (by decide) htest) | (conv => whnf)) | (refine allG rfl ?_; conv => whnf) | (refine And.intro (by first | omega | assumption | kernel_rfl | exact And.intro rfl rfl | ((try dsimp only [inR, idx, lowOf]); first | omega | (with_reducible decide) | (simp; omega) | fail) | fail) ?_; conv => whnf) | fail)
    exact ⟨(), [1026], trivial, rfl, ⟨rfl, trivial⟩, trivial⟩
noncomputable def spRoute2 : Spec AF where
  γ := (Int × List Edge) × List Int × Int × Int
  δ := List Int
  args := fun g => [layS g.1.1 g.1.2, .lst 3 g.2.1, vI g.2.2.1, vI g.2.2.2]
  own := fun _ => []
  pre := fun g => RightL g.1.1 g.1.2 ∧ (0 ≤ g.2.2.1 ∧ g.2.2.1 < g.1.1) ∧ (0 ≤ g.2.2.2 ∧ g.2.2.2 < g.1.1) ∧ GoodL g.1.2 ∧ g.2.1.length ≤ 9223372036854775807 ∧ 0 ≤ farV g.1.2 g.2.1 g.2.2.2 g.2.2.1
  nnew := 1
  res := fun _ l => .tup [.sl 0 1 0 l.length, vI 0]
  own' := fun _ l => [some (.arr 3 l)]
  post := fun g l => RouteP g.1.2 g.2.1 g.2.2.2 g.2.2.1 l
set_option maxHeartbeats 3200000 in
theorem m_route2 : Meets Try.prog regF 54 spRoute2 := by
  refine meets Try.func54 64 noWr rfl (by kernel_rfl) (by kernel_rfl) ?_
  rintro ⟨⟨(n : Int), (es : List Edge)⟩, (bl : List Int), (a : Int), (t : Int)⟩ ⟨(hR : RightL n es), ⟨(ha0 : 0 ≤ a), (han : a < n)⟩, ⟨(ht0 : 0 ≤ t), (htn : t < n)⟩, (hg : GoodL es), (hbl : bl.length ≤ 9223372036854775807), (hfa : 0 ≤ farV es bl t a)⟩
  have hfl := farF_len (n := n) (es := es) (bl := bl) (t := t)
  have haa := farF_at (es := es) (bl := bl) (t := t) ha0 han
  have hba := farV_bd hR ht0 htn (bl := bl) a
  have hes := hR.len
  conv => whnf
  repeat' (first | (refine tell (fun htest => ?_) (fun htest => ?_) <;> (try dsimp only at htest) <;> first | (exfalso; omega) | (exact absurd rfl htest) | (exact absurd (by decide) htest) | (conv => whnf)) | (refine allG rfl ?_; conv => whnf) | (refine And.intro (by first | omega | assumption | kernel_rfl | exact And.intro rfl rfl | ((try dsimp only [inR, idx, lowOf]); first | omega | (with_reducible decide) | (simp; omega) | fail) | fail) ?_; conv => whnf) | fail)
  refine ⟨_, m_far, ((n, es), bl, t), [], false, ?_⟩
  conv => whnf
  refine And.intro (vc0 ⟨hR, ht0, htn, hg, hbl⟩ (by (repeat' (first | exact trivial | exact rfl | refine And.intro ?_ ?_ | (refine congrArg vI ?_; first | omega | (dsimp only; omega) | fail) | (refine congrArg some ?_) | omega | exact Nat.le_refl _ | exact congrArg (SV.lst _) (List.take_of_length_le (Nat.le_refl _)).symm))) (by repeat' (first | exact trivial | exact rfl | refine And.intro ?_ ?_ | (refine congrArg vI ?_; first | omega | (dsimp only; omega) | fail) | (refine congrArg some ?_) | omega | exact Nat.le_refl _ | exact congrArg (SV.lst _) (List.take_of_length_le (Nat.le_refl _)).symm)) trivial trivial) ?_
  refine And.intro ⟨(), trivial⟩ (fun (_ : Unit) _ => ?_)
  conv => whnf
  conv => whnf
  repeat' (first | (refine tell (fun htest => ?_) (fun htest => ?_) <;> (try dsimp only at htest) <;> first | (exfalso; omega) | (exact absurd rfl htest) | (exact absurd (by decide) htest) | (conv => whnf)) | (refine allLst (x := _) ha0 haa ?_; conv => whnf) | (refine allG rfl ?_; conv => whnf) | (refine And.intro (by first | omega | assumption | kernel_rfl | exact And.intro rfl rfl | ((try dsimp only [inR, idx, lowOf]); first | omega | (with_reducible decide) | (simp; omega) | fail) | fail) ?_; conv => whnf) | fail)
  refine ⟨Int × List Int, fun p => ⟨[(3, vI t), (4, .ptr 1004 0 2 0), (5, .ptr 1005 0 1 0), (8, .sl 3003 1 0 p.2.length), (10, .ptr 1010 0 1 0), (11, .ptr 3001 0 1 0)], [(1004, layC n es), (1005, .cells [.lst 3 bl]), (1010, .cells [.lst 3 (farF n es bl t)]), (3001, .cells [vI p.1]), (3003, .arr 3 p.2)]⟩, fun p => (0 ≤ p.1 ∧ p.1 < n) ∧ 0 ≤ farV es bl t p.1 ∧ (p.2.length : Int) + farV es bl t p.1 ≤ 40000 ∧ ∀ l, RouteP es bl t p.1 l → RouteP es bl t a (p.2 ++ l), fun p => (farV es bl t p.1).toNat, fun _ _ => rfl, ⟨(a, []), [(3001, 1011)], ⟨⟨ha0, han⟩, hfa, by simpa using hba, fun l h => h⟩, ?_⟩, ?_⟩
  · refine ⟨rfl, ?_, ?_, rfl⟩
    all_goals (repeat' (first | exact trivial | exact rfl | refine And.intro ?_ ?_ | (refine congrArg vI ?_; first | omega | (dsimp only; omega) | fail) | (refine congrArg some ?_) | omega | exact Nat.le_refl _ | exact congrArg (SV.lst _) (List.take_of_length_le (Nat.le_refl _)).symm))
  rintro ⟨(v : Int), (out : List Int)⟩ ⟨⟨(hv0 : 0 ≤ v), (hvn : v < n)⟩, (hfv : 0 ≤ farV es bl t v), (hol : (out.length : Int) + farV es bl t v ≤ 40000), (hcont : ∀ l, RouteP es bl t v l → RouteP es bl t a (out ++ l))⟩
  by_cases hvt : v = t
  · subst hvt
    conv => whnf
    repeat' (first | (refine tell (fun htest => ?_) (fun htest => ?_) <;> (try dsimp only at htest) <;> first | (exfalso; omega) | (exact absurd rfl htest) | (exact absurd (by decide) htest) | (conv => whnf)) | (refine allG rfl ?_; conv => whnf) | (refine And.intro (by first | omega | assumption | kernel_rfl | exact And.intro rfl rfl | ((try dsimp only [inR, idx, lowOf]); first | omega | (with_reducible decide) | (simp; omega) | fail) | fail) ?_; conv => whnf) | fail)
    exact ⟨out, [3003], (by have := hcont [] .nil; rwa [List.append_nil] at this), ⟨rfl, rfl, trivial⟩, ⟨rfl, trivial⟩, trivial⟩
  · obtain ⟨i0, e0, he0, h10, h20, _⟩ := okE_ex hR hvt hfv
    have hof : outF n es v = outL es v 0 := if_pos hR
    have hos : ∀ i ∈ outF n es v, 0 ≤ i ∧ i < es.length := fun i hi => by
      rw [hof] at hi
      obtain ⟨j, x, q1, q2, _⟩ := (outL_mem v es 0 i).1 hi
      have := (List.getElem?_eq_some_iff.1 q2).1
      omega
    have hosl : (outF n es v).length ≤ 1000 := by rw [hof]; have := outL_len v es 0; omega
    conv => whnf
    repeat' (first | (refine tell (fun htest => ?_) (fun htest => ?_) <;> (try dsimp only at htest) <;> first | (exfalso; omega) | (exact absurd rfl htest) | (exact absurd (by decide) htest) | (conv => whnf)) | (refine allG rfl ?_; conv => whnf) | (refine And.intro (by first | omega | assumption | kernel_rfl | exact And.intro rfl rfl | ((try dsimp only [inR, idx, lowOf]); first | omega | (with_reducible decide) | (simp; omega) | fail) | fail) ?_; conv => whnf) | fail)
    refine ⟨_, m_out, (n, es, v), [], false, ?_⟩
    conv => whnf
    refine And.intro (vc0 hg (by (repeat' (first | exact trivial | exact rfl | refine And.intro ?_ ?_ | (refine congrArg vI ?_; first | omega | (dsimp only; omega) | fail) | (refine congrArg some ?_) | omega | exact Nat.le_refl _ | exact congrArg (SV.lst _) (List.take_of_length_le (Nat.le_refl _)).symm))) (by repeat' (first | exact trivial | exact rfl | refine And.intro ?_ ?_ | (refine congrArg vI ?_; first | omega | (dsimp only; omega) | fail) | (refine congrArg some ?_) | omega | exact Nat.le_refl _ | exact congrArg (SV.lst _) (List.take_of_length_le (Nat.le_refl _)).symm)) trivial trivial) ?_
    refine And.intro ⟨(), trivial⟩ (fun (_ : Unit) _ => ?_)
    conv => whnf
    conv => whnf
    repeat' (first | (refine tell (fun htest => ?_) (fun htest => ?_) <;> (try dsimp only at htest) <;> first | (exfalso; omega) | (exact absurd rfl htest) | (exact absurd (by decide) htest) | (conv => whnf)) | (refine allG rfl ?_; conv => whnf) | (refine And.intro (by first | omega | assumption | kernel_rfl | exact And.intro rfl rfl | ((try dsimp only [inR, idx, lowOf]); first | omega | (with_reducible decide) | (simp; omega) | fail) | fail) ?_; conv => whnf) | fail)
    refine ⟨_, m_idxR, (outF n es v, (n, es), bl, t, v), [1004, 1010, 3001, 1005], false, ?_⟩
    conv => whnf
    refine And.intro (vc0 ⟨hR, ⟨ht0, htn⟩, ⟨hv0, hvn⟩, hfv, hbl, hos, hosl⟩ (by (repeat' (first | exact trivial | exact rfl | refine And.intro ?_ ?_ | (refine congrArg vI ?_; first | omega | (dsimp only; omega) | fail) | (refine congrArg some ?_) | omega | exact Nat.le_refl _ | exact congrArg (SV.lst _) (List.take_of_length_le (Nat.le_refl _)).symm))) (by repeat' (first | exact trivial | exact rfl | refine And.intro ?_ ?_ | (refine congrArg vI ?_; first | omega | (dsimp only; omega) | fail) | (refine congrArg some ?_) | omega | exact Nat.le_refl _ | exact congrArg (SV.lst _) (List.take_of_length_le (Nat.le_refl _)).symm)) trivial trivial) ?_
    refine And.intro (firstAt_ex _ _) ?_
    intro (r : Int) (hr : FirstAt (outF n es v) (PredR es bl t v) r)
    rw [hof] at hr
    obtain ⟨j, m, e, rfl, hj, he, h1, h2, h3⟩ := firstAt_out hr ⟨i0, e0, he0, h10, h20⟩
    rw [← hof] at hj
    have hmem := List.mem_of_getElem? he
    have hml := (List.getElem?_eq_some_iff.1 he).1
    have hless := okE_less hR hmem h2
    obtain ⟨o1, o2, o3, o4, _, o6, o7⟩ := hR.each e hmem
    have hjl : j < (outF n es v).length := (List.getElem?_eq_some_iff.1 hj).1
    conv => whnf
    repeat' (first | (refine tell (fun htest => ?_) (fun htest => ?_) <;> (try dsimp only at htest) <;> first | (exfalso; omega) | (exact absurd rfl htest) | (exact absurd (by decide) htest) | (conv => whnf)) | (refine allG rfl ?_; conv => whnf) | (refine And.intro (by first | omega | assumption | kernel_rfl | exact And.intro rfl rfl | ((try dsimp only [inR, idx, lowOf]); first | omega | (with_reducible decide) | (simp; omega) | fail) | fail) ?_; conv => whnf) | fail)
    refine ⟨_, m_out, (n, es, v), [], false, ?_⟩
    conv => whnf
    refine And.intro (vc0 hg (by (repeat' (first | exact trivial | exact rfl | refine And.intro ?_ ?_ | (refine congrArg vI ?_; first | omega | (dsimp only; omega) | fail) | (refine congrArg some ?_) | omega | exact Nat.le_refl _ | exact congrArg (SV.lst _) (List.take_of_length_le (Nat.le_refl _)).symm))) (by repeat' (first | exact trivial | exact rfl | refine And.intro ?_ ?_ | (refine congrArg vI ?_; first | omega | (dsimp only; omega) | fail) | (refine congrArg some ?_) | omega | exact Nat.le_refl _ | exact congrArg (SV.lst _) (List.take_of_length_le (Nat.le_refl _)).symm)) trivial trivial) ?_
    refine And.intro ⟨(), trivial⟩ (fun (_ : Unit) _ => ?_)
    conv => whnf
    conv => whnf
    repeat' (first | (refine tell (fun htest => ?_) (fun htest => ?_) <;> (try dsimp only at htest) <;> first | (exfalso; omega) | (exact absurd rfl htest) | (exact absurd (by decide) htest) | (conv => whnf)) | (refine allG (x := _) (by first | exact hj | simpa [List.getElem?_append_right, lowOf] using hj | fail) ?_; conv => whnf) | (refine allLst (x := _) (by first | omega | assumption | fail) (by first | exact hj | simpa using hj | fail) ?_; conv => whnf) | (refine allG (x := e) (by first | exact he | simpa [List.getElem?_append_right, lowOf] using he | fail) ?_; conv => whnf) | (refine allLst (x := e) (by first | omega | assumption | fail) (by first | exact he | simpa using he | fail) ?_; conv => whnf) | (refine allG rfl ?_; conv => whnf) | (refine And.intro (by first | omega | assumption | kernel_rfl | exact And.intro rfl rfl | ((try dsimp only [inR, idx, lowOf]); first | omega | (with_reducible decide) | (simp; omega) | fail) | fail) ?_; conv => whnf) | fail)
    refine ⟨(e.2.1, out ++ [(m : Int)]), [(3001, 1011), (3003, 1055)], ⟨⟨o3, o4⟩, hless.1, (by show ((out ++ [(m : Int)]).length : Int) + farV es bl t e.2.1 ≤ 40000; rw [List.length_append]; simp; omega), fun l hl => (by show RouteP es bl t a ((out ++ [(m : Int)]) ++ l); rw [List.append_assoc]; exact hcont _ (.cons hvt he h1 h2 h3 hl))⟩, ?_, rfl, ?_, ?_, rfl⟩
    · dsimp only; first | omega | (simp; done) | (simp; omega)
    all_goals (repeat' (first | exact trivial | exact rfl | refine And.intro ?_ ?_ | (refine congrArg vI ?_; first | omega | (dsimp only; omega) | fail) | (refine congrArg some ?_) | omega | exact Nat.le_refl _ | exact congrArg (SV.lst _) (List.take_of_length_le (Nat.le_refl _)).symm))
    · exact congrArg (SV.sl (A := AF) 1055 1 0) (show out.length + 1 = (out ++ [(m : Int)]).length by simp)
    · exact congrArg (Ct.arr (A := AF) 3) (show (out.drop 0).take out.length ++ [(m : Int)] = out ++ [(m : Int)] by simp)
theorem way_ge {es : List Edge} {bl : List Int} {t : Int} (p : Int → Int) (ht : p t ≤ 0) (hp : ∀ e ∈ es, e.2.1 ∉ bl → p e.1 ≤ e.2.2 + p e.2.1) {v c : Int} (h : WayC es bl t v c) : p v ≤ c := by
  induction h with
  | refl => exact ht
  | step he hb _ ih => have := hp _ he hb; omega
abbrev A3 : List Edge := [(0, 1, 1), (1, 2, 1), (0, 2, 2)]
theorem a3each {P : Edge → Prop} (h0 : P (0, 1, 1)) (h1 : P (1, 2, 1)) (h2 : P (0, 2, 2)) : ∀ e ∈ A3, P e := fun e he => by
  simp only [A3, List.mem_cons, List.not_mem_nil, or_false] at he
  rcases he with rfl | rfl | rfl <;> assumption
theorem a3Right : RightL 3 A3 := ⟨by decide, by decide, by decide, a3each (by unfold EdgeOk; decide) (by unfold EdgeOk; decide) (by unfold EdgeOk; decide), by decide⟩
theorem a3Good : GoodL A3 := ⟨by decide, a3each (by unfold InI; decide) (by unfold InI; decide) (by unfold InI; decide)⟩
theorem a3w1 (bl : List Int) (h : (2 : Int) ∉ bl) : WayC A3 bl 2 1 1 := .step (e := (1, 2, 1)) (c := 0) (by decide) h .refl
theorem a3w0 (bl : List Int) (h : (2 : Int) ∉ bl) : WayC A3 bl 2 0 2 := .step (e := (0, 2, 2)) (c := 0) (by decide) h .refl
theorem a3ge (bl : List Int) {v c : Int} (h : WayC A3 bl 2 v c) : 2 - v ≤ c := way_ge (fun v => 2 - v) (by decide) (fun e he _ => by
  simp only [A3, List.mem_cons, List.not_mem_nil, or_false] at he
  rcases he with rfl | rfl | rfl <;> decide) h
theorem a3f0 (bl : List Int) (h : (2 : Int) ∉ bl) : farV A3 bl 2 0 = 2 := farV_eq a3Right (a3w0 bl h) fun k hk => by have := a3ge bl hk; omega
theorem a3f1 (bl : List Int) (h : (2 : Int) ∉ bl) : farV A3 bl 2 1 = 1 := farV_eq a3Right (a3w1 bl h) fun k hk => by have := a3ge bl hk; omega
theorem a3f2 (bl : List Int) : farV A3 bl 2 2 = 0 := farV_self a3Right
theorem a3no : farV A3 [] 0 2 = -1 := farV_none fun c h => by
  generalize hv : (2 : Int) = v at h
  cases h with
  | refl => cases hv
  | step he _ _ =>
    simp only [A3, List.mem_cons, List.not_mem_nil, or_false] at he
    rcases he with rfl | rfl | rfl <;> cases hv
theorem a3far : farF 3 A3 [] 2 = [2, 1, 0] := by
  show [farV A3 [] 2 0, farV A3 [] 2 1, farV A3 [] 2 2] = _
  rw [a3f0 [] (by decide), a3f1 [] (by decide), a3f2 []]
theorem a3r0 : RouteP A3 [] 2 0 [0, 1] := by
  refine .cons (i := 0) (e := (0, 1, 1)) (by decide) rfl rfl ⟨?_, ?_, by decide⟩ (fun j x h => absurd h (Nat.not_lt_zero _)) ?_
  · show 0 ≤ farV A3 [] 2 1; rw [a3f1 [] (by decide)]; decide
  · show farV A3 [] 2 1 + 1 = farV A3 [] 2 0; rw [a3f1 [] (by decide), a3f0 [] (by decide)]; rfl
  · refine .cons (i := 1) (e := (1, 2, 1)) (by decide) rfl rfl ⟨?_, ?_, by decide⟩ (fun j x h hx hv => ?_) .nil
    · show 0 ≤ farV A3 [] 2 2; rw [a3f2]; decide
    · show farV A3 [] 2 2 + 1 = farV A3 [] 2 1; rw [a3f1 [] (by decide), a3f2]; rfl
    · obtain rfl : j = 0 := by omega
      cases hx; cases hv
theorem a3r1 : RouteP A3 [1] 2 0 [2] := by
  refine .cons (i := 2) (e := (0, 2, 2)) (by decide) rfl rfl ⟨?_, ?_, by decide⟩ (fun j x h hx hv ho => ?_) .nil
  · show 0 ≤ farV A3 [1] 2 2; rw [a3f2]; decide
  · show farV A3 [1] 2 2 + 2 = farV A3 [1] 2 0; rw [a3f0 [1] (by decide), a3f2]; rfl
  · match j, h with
    | 0, _ => cases hx; exact ho.2.2 (by decide)
    | 1, _ => cases hx; cases hv
def spAwakeR : Spec AF where
  γ := Unit
  δ := Unit
  args := fun _ => []
  own := fun _ => []
  pre := fun _ => True
  nnew := 0
  res := fun _ _ => vB true
  own' := fun _ _ => []
  post := fun _ _ => True
set_option maxHeartbeats 1600000 in
theorem m_awakeR : Meets Try.prog regF 51 spAwakeR := by
  refine meets Try.func51 61 noWr rfl (by kernel_rfl) (by kernel_rfl) ?_
  rintro ⟨⟩ ⟨⟩
  conv => whnf
  repeat' (first | (refine tell (fun htest => ?_) (fun htest => ?_) <;> (try dsimp only at htest) <;> first | (exfalso; omega) | (exact absurd rfl htest) | (exact absurd (by decide) htest) | (conv => whnf)) | (refine allG rfl ?_; conv => whnf) | (refine And.intro (by first | omega | assumption | kernel_rfl | exact And.intro rfl rfl | ((try dsimp only [inR, idx, lowOf]); first | omega | (with_reducible decide) | (simp; omega) | fail) | fail) ?_; conv => whnf) | fail)
  refine ⟨_, m_route2, ((3, A3), [], 0, 2), [], true, ?_⟩
  conv => whnf
  refine And.intro (vc0 ⟨a3Right, by decide, by decide, a3Good, by decide, (by show 0 ≤ farV A3 [] 2 0; rw [a3f0 [] (by decide)]; decide)⟩ (by (repeat' (first | exact trivial | exact rfl | refine And.intro ?_ ?_ | (refine congrArg vI ?_; first | omega | (dsimp only; omega) | fail) | (refine congrArg some ?_) | omega | exact Nat.le_refl _ | exact congrArg (SV.lst _) (List.take_of_length_le (Nat.le_refl _)).symm))) (by repeat' (first | exact trivial | exact rfl | refine And.intro ?_ ?_ | (refine congrArg vI ?_; first | omega | (dsimp only; omega) | fail) | (refine congrArg some ?_) | omega | exact Nat.le_refl _ | exact congrArg (SV.lst _) (List.take_of_length_le (Nat.le_refl _)).symm)) trivial (.inr (fun _ => ⟨rfl, fun h ct he => by rcases h with _ | _ | h <;> first | (cases he; done) | (cases he; rfl)⟩))) ?_
  refine And.intro ⟨_, a3r0⟩ ?_
  intro (l : List Int) (hl : RouteP A3 [] 2 0 l)
  obtain rfl := route_one hl a3r0
  conv => whnf
  repeat' (first | (refine tell (fun htest => ?_) (fun htest => ?_) <;> (try dsimp only at htest) <;> first | (exfalso; omega) | (exact absurd rfl htest) | (exact absurd (by decide) htest) | (conv => whnf)) | (refine allG rfl ?_; conv => whnf) | (refine And.intro (by first | omega | assumption | kernel_rfl | exact And.intro rfl rfl | ((try dsimp only [inR, idx, lowOf]); first | omega | (with_reducible decide) | (simp; omega) | fail) | fail) ?_; conv => whnf) | fail)
  refine ⟨_, m_route2, ((3, A3), [1], 0, 2), [], true, ?_⟩
  conv => whnf
  refine And.intro (vc0 ⟨a3Right, by decide, by decide, a3Good, by decide, (by show 0 ≤ farV A3 [1] 2 0; rw [a3f0 [1] (by decide)]; decide)⟩ (by (repeat' (first | exact trivial | exact rfl | refine And.intro ?_ ?_ | (refine congrArg vI ?_; first | omega | (dsimp only; omega) | fail) | (refine congrArg some ?_) | omega | exact Nat.le_refl _ | exact congrArg (SV.lst _) (List.take_of_length_le (Nat.le_refl _)).symm))) (by repeat' (first | exact trivial | exact rfl | refine And.intro ?_ ?_ | (refine congrArg vI ?_; first | omega | (dsimp only; omega) | fail) | (refine congrArg some ?_) | omega | exact Nat.le_refl _ | exact congrArg (SV.lst _) (List.take_of_length_le (Nat.le_refl _)).symm)) trivial (.inr (fun _ => ⟨rfl, fun h ct he => by rcases h with _ | _ | h <;> first | (cases he; done) | (cases he; rfl)⟩))) ?_
  refine And.intro ⟨_, a3r1⟩ ?_
  intro (l : List Int) (hl : RouteP A3 [1] 2 0 l)
  obtain rfl := route_one hl a3r1
  conv => whnf
  repeat' (first | (refine tell (fun htest => ?_) (fun htest => ?_) <;> (try dsimp only at htest) <;> first | (exfalso; omega) | (exact absurd rfl htest) | (exact absurd (by decide) htest) | (conv => whnf)) | (refine allG rfl ?_; conv => whnf) | (refine And.intro (by first | omega | assumption | kernel_rfl | exact And.intro rfl rfl | ((try dsimp only [inR, idx, lowOf]); first | omega | (with_reducible decide) | (simp; omega) | fail) | fail) ?_; conv => whnf) | fail)
  refine ⟨_, m_routeE, ((3, A3), [], 2, 0), [], true, ?_⟩
  conv => whnf
  refine And.intro (vc0 ⟨a3Right, by decide, by decide, a3Good, by decide, a3no⟩ (by (repeat' (first | exact trivial | exact rfl | refine And.intro ?_ ?_ | (refine congrArg vI ?_; first | omega | (dsimp only; omega) | fail) | (refine congrArg some ?_) | omega | exact Nat.le_refl _ | exact congrArg (SV.lst _) (List.take_of_length_le (Nat.le_refl _)).symm))) (by repeat' (first | exact trivial | exact rfl | refine And.intro ?_ ?_ | (refine congrArg vI ?_; first | omega | (dsimp only; omega) | fail) | (refine congrArg some ?_) | omega | exact Nat.le_refl _ | exact congrArg (SV.lst _) (List.take_of_length_le (Nat.le_refl _)).symm)) trivial (.inr (fun _ => ⟨rfl, fun h ct he => by rcases h with _ | _ | h <;> first | (cases he; done) | (cases he; rfl)⟩))) ?_
  refine And.intro ⟨(), trivial⟩ (fun (_ : Unit) _ => ?_)
  conv => whnf
  conv => whnf
  repeat' (first | (refine tell (fun htest => ?_) (fun htest => ?_) <;> (try dsimp only at htest) <;> first | (exfalso; omega) | (exact absurd rfl htest) | (exact absurd (by decide) htest) | (conv => whnf)) | (refine allG rfl ?_; conv => whnf) | (refine And.intro (by first | omega | assumption | kernel_rfl | exact And.intro rfl rfl | ((try dsimp only [inR, idx, lowOf]); first | omega | (with_reducible decide) | (simp; omega) | fail) | fail) ?_; conv => whnf) | fail)
  refine ⟨_, m_ints, ([0, 1], [0, 1]), [], true, ?_⟩
  conv => whnf
  refine And.intro (vc0 (show 2 ≤ 9223372036854775807 by decide) (by (repeat' (first | exact trivial | exact rfl | refine And.intro ?_ ?_ | (refine congrArg vI ?_; first | omega | (dsimp only; omega) | fail) | (refine congrArg some ?_) | omega | exact Nat.le_refl _ | exact congrArg (SV.lst _) (List.take_of_length_le (Nat.le_refl _)).symm))) (by repeat' (first | exact trivial | exact rfl | refine And.intro ?_ ?_ | (refine congrArg vI ?_; first | omega | (dsimp only; omega) | fail) | (refine congrArg some ?_) | omega | exact Nat.le_refl _ | exact congrArg (SV.lst _) (List.take_of_length_le (Nat.le_refl _)).symm)) trivial (.inr (fun _ => ⟨rfl, fun h ct he => by rcases h with _ | _ | h <;> first | (cases he; done) | (cases he; rfl)⟩))) ?_
  refine And.intro (pred_ex _) ?_
  intro (c : Bool) (hc : c = true ↔ [0, 1] = [(0 : Int), 1])
  cases c
  · have := hc.2 rfl; cases this
  conv => whnf
  repeat' (first | (refine tell (fun htest => ?_) (fun htest => ?_) <;> (try dsimp only at htest) <;> first | (exfalso; omega) | (exact absurd rfl htest) | (exact absurd (by decide) htest) | (conv => whnf)) | (refine allG rfl ?_; conv => whnf) | (refine And.intro (by first | omega | assumption | kernel_rfl | exact And.intro rfl rfl | ((try dsimp only [inR, idx, lowOf]); first | omega | (with_reducible decide) | (simp; omega) | fail) | fail) ?_; conv => whnf) | fail)
  refine ⟨_, m_ints, ([2], [2]), [], true, ?_⟩
  conv => whnf
  refine And.intro (vc0 (show 1 ≤ 9223372036854775807 by decide) (by (repeat' (first | exact trivial | exact rfl | refine And.intro ?_ ?_ | (refine congrArg vI ?_; first | omega | (dsimp only; omega) | fail) | (refine congrArg some ?_) | omega | exact Nat.le_refl _ | exact congrArg (SV.lst _) (List.take_of_length_le (Nat.le_refl _)).symm))) (by repeat' (first | exact trivial | exact rfl | refine And.intro ?_ ?_ | (refine congrArg vI ?_; first | omega | (dsimp only; omega) | fail) | (refine congrArg some ?_) | omega | exact Nat.le_refl _ | exact congrArg (SV.lst _) (List.take_of_length_le (Nat.le_refl _)).symm)) trivial (.inr (fun _ => ⟨rfl, fun h ct he => by rcases h with _ | _ | h <;> first | (cases he; done) | (cases he; rfl)⟩))) ?_
  refine And.intro (pred_ex _) ?_
  intro (c : Bool) (hc : c = true ↔ [2] = [(2 : Int)])
  cases c
  · have := hc.2 rfl; cases this
  conv => whnf
  repeat' (first | (refine tell (fun htest => ?_) (fun htest => ?_) <;> (try dsimp only at htest) <;> first | (exfalso; omega) | (exact absurd rfl htest) | (exact absurd (by decide) htest) | (conv => whnf)) | (refine allG rfl ?_; conv => whnf) | (refine And.intro (by first | omega | assumption | kernel_rfl | exact And.intro rfl rfl | ((try dsimp only [inR, idx, lowOf]); first | omega | (with_reducible decide) | (simp; omega) | fail) | fail) ?_; conv => whnf) | fail)
  refine ⟨_, m_cost, ((3, A3), [0, 1]), [], true, ?_⟩
  conv => whnf
  refine And.intro (vc0 ⟨a3each (by decide) (by decide) (by decide), by decide, (show 2 ≤ 17592186044416 by decide)⟩ (by (repeat' (first | exact trivial | exact rfl | refine And.intro ?_ ?_ | (refine congrArg vI ?_; first | omega | (dsimp only; omega) | fail) | (refine congrArg some ?_) | omega | exact Nat.le_refl _ | exact congrArg (SV.lst _) (List.take_of_length_le (Nat.le_refl _)).symm))) (by repeat' (first | exact trivial | exact rfl | refine And.intro ?_ ?_ | (refine congrArg vI ?_; first | omega | (dsimp only; omega) | fail) | (refine congrArg some ?_) | omega | exact Nat.le_refl _ | exact congrArg (SV.lst _) (List.take_of_length_le (Nat.le_refl _)).symm)) trivial (.inr (fun _ => ⟨rfl, fun h ct he => by rcases h with _ | _ | h <;> first | (cases he; done) | (cases he; rfl)⟩))) ?_
  refine And.intro ⟨(), trivial⟩ (fun (_ : Unit) _ => ?_)
  conv => whnf
  conv => whnf
  repeat' (first | (refine tell (fun htest => ?_) (fun htest => ?_) <;> (try dsimp only at htest) <;> first | (exfalso; omega) | (exact absurd rfl htest) | (exact absurd (by decide) htest) | (conv => whnf)) | (refine allG rfl ?_; conv => whnf) | (refine And.intro (by first | omega | assumption | kernel_rfl | exact And.intro rfl rfl | ((try dsimp only [inR, idx, lowOf]); first | omega | (with_reducible decide) | (simp; omega) | fail) | fail) ?_; conv => whnf) | fail)
  refine ⟨_, m_far2, ((3, A3), [], 2), [], true, ?_⟩
  conv => whnf
  refine And.intro (vc0 ⟨a3Right, by decide, by decide, a3Good, by decide⟩ (by (repeat' (first | exact trivial | exact rfl | refine And.intro ?_ ?_ | (refine congrArg vI ?_; first | omega | (dsimp only; omega) | fail) | (refine congrArg some ?_) | omega | exact Nat.le_refl _ | exact congrArg (SV.lst _) (List.take_of_length_le (Nat.le_refl _)).symm))) (by repeat' (first | exact trivial | exact rfl | refine And.intro ?_ ?_ | (refine congrArg vI ?_; first | omega | (dsimp only; omega) | fail) | (refine congrArg some ?_) | omega | exact Nat.le_refl _ | exact congrArg (SV.lst _) (List.take_of_length_le (Nat.le_refl _)).symm)) trivial (.inr (fun _ => ⟨rfl, fun h ct he => by rcases h with _ | _ | h <;> first | (cases he; done) | (cases he; rfl)⟩))) ?_
  refine And.intro ⟨(), trivial⟩ (fun (_ : Unit) _ => ?_)
  conv => whnf
  conv => whnf
  repeat' (first | (refine tell (fun htest => ?_) (fun htest => ?_) <;> (try dsimp only at htest) <;> first | (exfalso; omega) | (exact absurd rfl htest) | (exact absurd (by decide) htest) | (conv => whnf)) | (refine allG rfl ?_; conv => whnf) | (refine And.intro (by first | omega | assumption | kernel_rfl | exact And.intro rfl rfl | ((try dsimp only [inR, idx, lowOf]); first | omega | (with_reducible decide) | (simp; omega) | fail) | fail) ?_; conv => whnf) | fail)
  refine ⟨_, m_ints, (farF 3 A3 [] 2, [2, 1, 0]), [], true, ?_⟩
  conv => whnf
  refine And.intro (vc0 (by show (farF 3 A3 [] 2).length ≤ _; rw [a3far]; decide) (by (repeat' (first | exact trivial | exact rfl | refine And.intro ?_ ?_ | (refine congrArg vI ?_; first | omega | (dsimp only; omega) | fail) | (refine congrArg some ?_) | omega | exact Nat.le_refl _ | exact congrArg (SV.lst _) (List.take_of_length_le (Nat.le_refl _)).symm))) (by repeat' (first | exact trivial | exact rfl | refine And.intro ?_ ?_ | (refine congrArg vI ?_; first | omega | (dsimp only; omega) | fail) | (refine congrArg some ?_) | omega | exact Nat.le_refl _ | exact congrArg (SV.lst _) (List.take_of_length_le (Nat.le_refl _)).symm)) trivial (.inr (fun _ => ⟨rfl, fun h ct he => by rcases h with _ | _ | h <;> first | (cases he; done) | (cases he; rfl)⟩))) ?_
  refine And.intro (pred_ex _) ?_
  intro (c : Bool) (hc : c = true ↔ farF 3 A3 [] 2 = [(2 : Int), 1, 0])
  cases c
  · have := hc.2 a3far; cases this
  conv => whnf
  repeat' (first | (refine tell (fun htest => ?_) (fun htest => ?_) <;> (try dsimp only at htest) <;> first | (exfalso; omega) | (exact absurd rfl htest) | (exact absurd (by decide) htest) | (conv => whnf)) | (refine allG rfl ?_; conv => whnf) | (refine And.intro (by first | omega | assumption | kernel_rfl | exact And.intro rfl rfl | ((try dsimp only [inR, idx, lowOf]); first | omega | (with_reducible decide) | (simp; omega) | fail) | fail) ?_; conv => whnf) | fail)
  exact ⟨(), [], trivial, rfl, trivial, trivial⟩
end Go.Sx

