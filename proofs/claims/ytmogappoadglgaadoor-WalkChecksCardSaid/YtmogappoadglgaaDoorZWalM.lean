/-
  Layer 13 at the door: what is told of an order over a way; WalkBase.
-/
import Derived.Test.YtmogappoadglgaaDoorZWalL
import Derived.Test.YtmogappoadglgaaDoorZWalK
set_option linter.unusedVariables false
set_option linter.unusedSimpArgs false
namespace Go.Sx
open Go Go.Proofs Go.Proofs.YtmogappoadglgaaDoor
theorem Raws3_ok {l : List (Int × Int × Int)} (h : l.length ≤ 9223372036854775807 ∧ ∀ r ∈ l, InI r.1 ∧ InI r.2.1 ∧ InI r.2.2) : l.length ≤ 9223372036854775807 := h.1
theorem getD_of {p : List Int} {i : Nat} {x : Int} (h : p[i]? = some x) : p.getD i 0 = x := by rw [List.getD_eq_getElem?_getD, h]; rfl
theorem at_of {p : List Int} {i : Nat} (h : i < p.length) : p[i]? = some (p.getD i 0) := by rw [List.getD_eq_getElem?_getD, List.getElem?_eq_getElem h]; rfl
theorem way_fits {n : Int} {el : List Edge} {p : List Int} {a : Int} (hw : Way n el p a) (hR : RightL n el) (o : OrdT) (s k : Int) : FitsP n el (ordOf o p s k) := by
  have hodd := hw.odd
  refine ⟨fun f hf => ?_, fun i f e t hi he hf ht => ?_⟩
  · have hf : (nodesN p s k ((p.length + 1) / 2))[0]? = some f := hf
    have hobt := nodesN_get hf
    obtain ⟨_, rfl⟩ := hobt
    exact (hw.node hR 0 _ (at_of (by omega)) rfl).2
  · have he : (edgesN p s k (p.length / 2))[i]? = some e := he
    have hf : (nodesN p s k ((p.length + 1) / 2))[i]? = some f := hf
    have ht : (nodesN p s k ((p.length + 1) / 2))[i + 1]? = some t := ht
    have hobt := edgesN_get he
    obtain ⟨h1, rfl⟩ := hobt
    have hobt := nodesN_get hf
    obtain ⟨_, rfl⟩ := hobt
    have hobt := nodesN_get ht
    obtain ⟨_, rfl⟩ := hobt
    have hobt := hw.edge (2 * i + 1) _ (at_of (by omega)) (by omega)
    obtain ⟨j, d, e1, e2, e3, e4⟩ := hobt
    refine ⟨d, ?_, ?_, ?_⟩
    · show el[(p.getD (2 * i + 1) 0 - 1000).toNat]? = some d
      rw [e1, show (1000 + (j : Int) - 1000).toNat = j by omega]; exact e2
    · exact (getD_of e3).symm
    · exact (getD_of e4).symm
/-- The base of an order over a path: its beginning. -/
theorem base_go (p : List Int) (s k : Int) (M E : Nat) (hM : p.length + 1 = 2 * M) (hE : p.length = 2 * E + 1) (hk : 1 ≤ k) : ∀ i, i ≤ E → baseN (nodesN p s k M) (edgesN p s k E) i = p.take (2 * min i (k - 1).toNat + 1) := by
  intro i
  induction i with
  | zero =>
    intro _
    rw [Nat.zero_min]
    have h0 : (nodesN p s k M)[0]? = _ := nodesN_at (show 0 < M by omega)
    have hp := at_of (p := p) (i := 0) (by omega)
    rw [take_snocI hp, List.take_zero]
    simp only [baseN, List.getD_eq_getElem?_getD, h0]
    rfl
  | succ i ih =>
    intro hi
    have he := edgesN_at (p := p) (s := s) (k := k) (show i < E by omega)
    have hn := nodesN_at (p := p) (s := s) (k := k) (show i + 1 < M by omega)
    rw [baseN, ih (by omega), he]
    dsimp only
    by_cases hlt : (i : Int) + 1 < k
    · have hd : (nodesN p s k M).getD (i + 1) (0, 0, false) = (p.getD (2 * (i + 1)) 0, s + 2 * ((i + 1 : Nat) : Int), decide (((i + 1 : Nat) : Int) < k)) := by rw [List.getD_eq_getElem?_getD, hn]; rfl
      rw [if_pos (decide_eq_true hlt), hd, show min i (k - 1).toNat = i by omega, show min (i + 1) (k - 1).toNat = i + 1 by omega]
      rw [show 2 * (i + 1) + 1 = 2 * i + 1 + 1 + 1 by omega, take_snocI (at_of (p := p) (i := 2 * i + 1 + 1) (by omega)), take_snocI (at_of (p := p) (i := 2 * i + 1) (by omega)), List.append_assoc]
      refine congrArg (p.take (2 * i + 1) ++ ·) ?_
      show [1000 + (p.getD (2 * i + 1) 0 - 1000), p.getD (2 * (i + 1)) 0] = [p.getD (2 * i + 1) 0, p.getD (2 * i + 1 + 1) 0]
      rw [show (1000 : Int) + (p.getD (2 * i + 1) 0 - 1000) = p.getD (2 * i + 1) 0 by omega]
      rfl
    · rw [if_neg (by simpa using hlt), List.append_nil, show min (i + 1) (k - 1).toNat = min i (k - 1).toNat by omega]
theorem base_ord (o : OrdT) (p : List Int) (s k : Int) (hodd : p.length % 2 = 1) (hk : 1 ≤ k) (hk2 : k ≤ (((p.length + 1) / 2 : Nat) : Int)) : baseN (ordOf o p s k).2.2.2.2.1 (ordOf o p s k).2.2.2.2.2 (ordOf o p s k).2.2.2.2.2.length = p.take (2 * k - 1).toNat := by
  show baseN (nodesN p s k ((p.length + 1) / 2)) (edgesN p s k (p.length / 2)) (edgesN p s k (p.length / 2)).length = _
  rw [edgesN_len, base_go p s k _ _ (by omega) (by omega) hk _ (Nat.le_refl _)]
  congr 1
  omega
set_option maxHeartbeats 3200000 in
set_option maxRecDepth 100000 in
theorem m_walkBase : Meets Tryd.prog regF 3 (spLaw (fun g : Int × List (Int × Int × Int) × RawT => [vI g.1, .lst 96 g.2.1, rawS g.2.2]) (fun g => InI g.1 ∧ (g.2.1.length ≤ 9223372036854775807 ∧ ∀ r ∈ g.2.1, InI r.1 ∧ InI r.2.1 ∧ InI r.2.2) ∧ RawIn g.2.2)) := by
  refine meetsC Tryd.func3 71 noWr rfl (by kernel_rfl) (by kernel_rfl) ?_
  rintro ⟨(c : Int), (raw : List (Int × Int × Int)), (x : RawT)⟩ ⟨(hc : InI c), hraw, (hx : RawIn x)⟩
  have hfr := fit_right c raw
  conv => whnf
  repeat' (first | (refine tell (fun hQ => ?_) (fun hQ => ?_) <;> (try dsimp only at hQ) <;> first | (exfalso; omega) | (exact absurd rfl hQ) | (exact absurd (by decide) hQ) | (conv => whnf)) | (refine allG rfl ?_; conv => whnf) | (refine ⟨none, ?_⟩; conv => whnf) | (refine And.intro (by first | omega | assumption | kernel_rfl | exact And.intro rfl rfl | ((try dsimp only [inR, idx, lowOf]); first | omega | (with_reducible decide) | (simp; omega) | (simp; done) | fail) | fail) ?_; conv => whnf) | fail)
  refine ⟨_, m_awake13, (), [], false, ?_⟩
  conv => whnf
  refine And.intro (vc0 trivial (by (repeat' (first | exact trivial | exact rfl | refine And.intro ?_ ?_ | (refine congrArg vI ?_; first | omega | (dsimp only; omega) | fail) | (refine congrArg some ?_) | omega | exact Nat.le_refl _ | exact congrArg (SV.lst _) (List.take_of_length_le (Nat.le_refl _)).symm))) (by repeat' (first | exact trivial | exact rfl | refine And.intro ?_ ?_ | (refine congrArg vI ?_; first | omega | (dsimp only; omega) | fail) | (refine congrArg some ?_) | omega | exact Nat.le_refl _ | exact congrArg (SV.lst _) (List.take_of_length_le (Nat.le_refl _)).symm)) trivial trivial) ?_
  refine And.intro ⟨(), trivial⟩ (fun (_ : Unit) _ => ?_)
  conv => whnf
  conv => whnf
  repeat' (first | (refine tell (fun hQ => ?_) (fun hQ => ?_) <;> (try dsimp only at hQ) <;> first | (exfalso; omega) | (exact absurd rfl hQ) | (exact absurd (by decide) hQ) | (conv => whnf)) | (refine allG rfl ?_; conv => whnf) | (refine ⟨none, ?_⟩; conv => whnf) | (refine And.intro (by first | omega | assumption | kernel_rfl | exact And.intro rfl rfl | ((try dsimp only [inR, idx, lowOf]); first | omega | (with_reducible decide) | (simp; omega) | (simp; done) | fail) | fail) ?_; conv => whnf) | fail)
  refine ⟨_, m_fit, (c, raw), [], false, ?_⟩
  conv => whnf
  refine And.intro (vc0 ⟨hc, hraw.1, hraw.2⟩ (by (repeat' (first | exact trivial | exact rfl | refine And.intro ?_ ?_ | (refine congrArg vI ?_; first | omega | (dsimp only; omega) | fail) | (refine congrArg some ?_) | omega | exact Nat.le_refl _ | exact congrArg (SV.lst _) (List.take_of_length_le (Nat.le_refl _)).symm))) (by repeat' (first | exact trivial | exact rfl | refine And.intro ?_ ?_ | (refine congrArg vI ?_; first | omega | (dsimp only; omega) | fail) | (refine congrArg some ?_) | omega | exact Nat.le_refl _ | exact congrArg (SV.lst _) (List.take_of_length_le (Nat.le_refl _)).symm)) trivial trivial) ?_
  refine And.intro ⟨(), trivial⟩ (fun (_ : Unit) _ => ?_)
  conv => whnf
  conv => whnf
  repeat' (first | (refine tell (fun hQ => ?_) (fun hQ => ?_) <;> (try dsimp only at hQ) <;> first | (exfalso; omega) | (exact absurd rfl hQ) | (exact absurd (by decide) hQ) | (conv => whnf)) | (refine allG rfl ?_; conv => whnf) | (refine ⟨none, ?_⟩; conv => whnf) | (refine And.intro (by first | omega | assumption | kernel_rfl | exact And.intro rfl rfl | ((try dsimp only [inR, idx, lowOf]); first | omega | (with_reducible decide) | (simp; omega) | (simp; done) | fail) | fail) ?_; conv => whnf) | fail)
  refine ⟨_, m_make13, ((fitN c, fitL c raw), x), [], false, ?_⟩
  conv => whnf
  refine And.intro (vc0 ⟨hfr.1, hx⟩ (by (repeat' (first | exact trivial | exact rfl | refine And.intro ?_ ?_ | (refine congrArg vI ?_; first | omega | (dsimp only; omega) | fail) | (refine congrArg some ?_) | omega | exact Nat.le_refl _ | exact congrArg (SV.lst _) (List.take_of_length_le (Nat.le_refl _)).symm))) (by repeat' (first | exact trivial | exact rfl | refine And.intro ?_ ?_ | (refine congrArg vI ?_; first | omega | (dsimp only; omega) | fail) | (refine congrArg some ?_) | omega | exact Nat.le_refl _ | exact congrArg (SV.lst _) (List.take_of_length_le (Nat.le_refl _)).symm)) trivial trivial) ?_
  refine And.intro (way_ex hfr.1) ?_
  rintro ⟨(p : List Int), (a : Int)⟩ ⟨(hw : Way (fitN c) (fitL c raw) p a), (hpl : p.length ≤ 41)⟩
  have hodd := hw.odd
  have hsm : ∀ x ∈ p, InI x := fun x hx => by have := hw.small hfr.1 x hx; exact ⟨by omega, by omega⟩
  have hok := hw.ok hfr.1
  have hr := mkO_right hw hfr.1 hpl x
  have hr2 : RightO (ordOf (mkO x p) p (mkS x) (mkK x p)) := hr
  have hfit := way_fits hw hfr.1 (mkO x p) (mkS x) (mkK x p)
  have hkb := mkK_bd x (p := p) (by omega)
  have hsb := mkS_bd x
  have hbase := base_ord (mkO x p) p (mkS x) (mkK x p) hodd hkb.1 hkb.2
  obtain ⟨i1, i2, i3, i4, i5, i6, i7, i8⟩ := hx
  have hq : ((p.length : Int) + 1).tdiv 2 = (((p.length + 1) / 2 : Nat) : Int) := by rw [Int.tdiv_eq_ediv_of_nonneg (by omega)]; omega
  have hobt : ∃ m, (p.length + 1) / 2 = m := ⟨_, rfl⟩
  obtain ⟨m, hm⟩ := hobt
  have a4 := pickF_bd (c := x.2.2.2.1) (n := 20) (by omega)
  conv => whnf
  repeat' (first | (refine tell (fun hQ => ?_) (fun hQ => ?_) <;> (try dsimp only at hQ) <;> first | (exfalso; omega) | (exact absurd rfl hQ) | (exact absurd (by decide) hQ) | (conv => whnf)) | (refine allG rfl ?_; conv => whnf) | (refine And.intro (by first | omega | assumption | kernel_rfl | exact And.intro rfl rfl | ((try dsimp only [inR, idx, lowOf]); first | omega | (with_reducible decide) | (simp; omega) | (simp; done) | fail) | fail) ?_; conv => whnf) | fail)
  refine ⟨some (⟨[(5, .ptr 1005 0 7 0), (7, vB true), (8, .ptr 1008 0 2 0), (9, .ptr 1009 0 6 0), (10, .lst 3 p)], [(1005, .cells [vI x.1, vI x.2.1, vI x.2.2.1, vI x.2.2.2.1, vI x.2.2.2.2.1, vI x.2.2.2.2.2.1, .lst 3 x.2.2.2.2.2.2]), (1008, layC (fitN c) (fitL c raw)), (1009, .cells (ordCs (mkO x p)))]⟩, []), ?_⟩
  conv => whnf
  refine And.intro rfl (And.intro ?_ ?_)
  · refine ⟨rfl, ?_, ?_, rfl⟩
    all_goals (repeat' (first | exact trivial | exact rfl | refine And.intro ?_ ?_ | (refine congrArg vI ?_; first | omega | (dsimp only; omega) | fail) | (refine congrArg some ?_) | omega | exact Nat.le_refl _ | exact congrArg (SV.lst _) (List.take_of_length_le (Nat.le_refl _)).symm))
  conv => whnf
  repeat' (first | (refine tell (fun hQ => ?_) (fun hQ => ?_) <;> (try dsimp only at hQ) <;> first | (exfalso; omega) | (exact absurd rfl hQ) | (exact absurd (by decide) hQ) | (conv => whnf)) | (refine allG rfl ?_; conv => whnf) | (refine ⟨none, ?_⟩; conv => whnf) | (refine And.intro (by first | omega | assumption | kernel_rfl | exact And.intro rfl rfl | ((try dsimp only [inR, idx, lowOf]); first | omega | (with_reducible decide) | (simp; omega) | (simp; done) | fail) | fail) ?_; conv => whnf) | fail)
  refine ⟨_, m_pick13, (x.2.2.2.2.2.1, ((p.length + 1) / 2 : Nat)), [], false, ?_⟩
  conv => whnf
  refine And.intro (vc0 ⟨i6, by show (0 : Int) < (((p.length + 1) / 2 : Nat) : Int); omega⟩ (by (repeat' (first | exact trivial | exact rfl | refine And.intro ?_ ?_ | (refine congrArg vI ?_; first | omega | (dsimp only; omega) | fail) | (refine congrArg some ?_) | omega | exact Nat.le_refl _ | exact congrArg (SV.lst _) (List.take_of_length_le (Nat.le_refl _)).symm)); all_goals (exact congrArg vI hq)) (by repeat' (first | exact trivial | exact rfl | refine And.intro ?_ ?_ | (refine congrArg vI ?_; first | omega | (dsimp only; omega) | fail) | (refine congrArg some ?_) | omega | exact Nat.le_refl _ | exact congrArg (SV.lst _) (List.take_of_length_le (Nat.le_refl _)).symm)) trivial trivial) ?_
  refine And.intro ⟨(), trivial⟩ (fun (_ : Unit) _ => ?_)
  conv => whnf
  have hkq : 1 + pickF x.2.2.2.2.2.1 (((p.length + 1) / 2 : Nat) : Int) = mkK x p := rfl
  generalize hkk : mkK x p = k at *
  generalize hss : mkS x = s at *
  conv => whnf
  repeat' (first | (refine tell (fun hQ => ?_) (fun hQ => ?_) <;> (try dsimp only at hQ) <;> first | (exfalso; omega) | (exact absurd rfl hQ) | (exact absurd (by decide) hQ) | (conv => whnf)) | (refine allG rfl ?_; conv => whnf) | (refine And.intro (by first | omega | assumption | kernel_rfl | exact And.intro rfl rfl | ((try dsimp only [inR, idx, lowOf]); first | omega | (with_reducible decide) | (simp; omega) | (simp; done) | fail) | fail) ?_; conv => whnf) | fail)
  refine ⟨some (⟨[(5, .ptr 1005 0 7 0), (7, vB true), (8, .ptr 1008 0 2 0), (9, .ptr 1009 0 6 0), (10, .lst 3 p), (11, vI ((p.length + 1) / 2 : Nat)), (12, vI k)], [(1005, .cells [vI x.1, vI x.2.1, vI x.2.2.1, vI x.2.2.2.1, vI x.2.2.2.2.1, vI x.2.2.2.2.2.1, .lst 3 x.2.2.2.2.2.2]), (1008, layC (fitN c) (fitL c raw)), (1009, .cells (ordCs (mkO x p)))]⟩, []), ?_⟩
  conv => whnf
  refine And.intro rfl (And.intro ?_ ?_)
  · refine ⟨rfl, ?_, ?_, rfl⟩
    all_goals (repeat' (first | exact trivial | exact rfl | refine And.intro ?_ ?_ | (refine congrArg vI ?_; first | omega | (dsimp only; omega) | fail) | (refine congrArg some ?_) | omega | exact Nat.le_refl _ | exact congrArg (SV.lst _) (List.take_of_length_le (Nat.le_refl _)).symm))
    all_goals (first | exact congrArg vI hkq | exact congrArg vI hq | fail)
  conv => whnf
  repeat' (first | (refine tell (fun hQ => ?_) (fun hQ => ?_) <;> (try dsimp only at hQ) <;> first | (exfalso; omega) | (exact absurd rfl hQ) | (exact absurd (by decide) hQ) | (conv => whnf)) | (refine allG rfl ?_; conv => whnf) | (refine ⟨none, ?_⟩; conv => whnf) | (refine And.intro (by first | omega | assumption | kernel_rfl | exact And.intro rfl rfl | ((try dsimp only [inR, idx, lowOf]); first | omega | (with_reducible decide) | (simp; omega) | (simp; done) | fail) | fail) ?_; conv => whnf) | fail)
  refine ⟨_, m_pick13, (x.2.2.2.1, 20), [], false, ?_⟩
  conv => whnf
  refine And.intro (vc0 ⟨i4, (by decide : (0 : Int) < 20)⟩ (by (repeat' (first | exact trivial | exact rfl | refine And.intro ?_ ?_ | (refine congrArg vI ?_; first | omega | (dsimp only; omega) | fail) | (refine congrArg some ?_) | omega | exact Nat.le_refl _ | exact congrArg (SV.lst _) (List.take_of_length_le (Nat.le_refl _)).symm))) (by repeat' (first | exact trivial | exact rfl | refine And.intro ?_ ?_ | (refine congrArg vI ?_; first | omega | (dsimp only; omega) | fail) | (refine congrArg some ?_) | omega | exact Nat.le_refl _ | exact congrArg (SV.lst _) (List.take_of_length_le (Nat.le_refl _)).symm)) trivial trivial) ?_
  refine And.intro ⟨(), trivial⟩ (fun (_ : Unit) _ => ?_)
  conv => whnf
  conv => whnf
  repeat' (first | (refine tell (fun hQ => ?_) (fun hQ => ?_) <;> (try dsimp only at hQ) <;> first | (exfalso; omega) | (exact absurd rfl hQ) | (exact absurd (by decide) hQ) | (conv => whnf)) | (refine allG rfl ?_; conv => whnf) | (refine ⟨none, ?_⟩; conv => whnf) | (refine And.intro (by first | omega | assumption | kernel_rfl | exact And.intro rfl rfl | ((try dsimp only [inR, idx, lowOf]); first | omega | (with_reducible decide) | (simp; omega) | (simp; done) | fail) | fail) ?_; conv => whnf) | fail)
  refine ⟨_, m_order, (mkO x p, p, s, k), [], false, ?_⟩
  conv => whnf
  refine And.intro (vc0 ⟨by show p.length ≤ 127; omega, hsm, by show 0 ≤ s; omega, by show s ≤ 1000000; omega⟩ (by (repeat' (first | exact trivial | exact rfl | refine And.intro ?_ ?_ | (refine congrArg vI ?_; first | omega | (dsimp only; omega) | fail) | (refine congrArg some ?_) | omega | exact Nat.le_refl _ | exact congrArg (SV.lst _) (List.take_of_length_le (Nat.le_refl _)).symm)); all_goals (exact congrArg vI hss)) (by repeat' (first | exact trivial | exact rfl | refine And.intro ?_ ?_ | (refine congrArg vI ?_; first | omega | (dsimp only; omega) | fail) | (refine congrArg some ?_) | omega | exact Nat.le_refl _ | exact congrArg (SV.lst _) (List.take_of_length_le (Nat.le_refl _)).symm)) trivial trivial) ?_
  refine And.intro (ex_true' ⟨hok, hr2⟩) ?_
  intro (c1 : Bool) (hc1 : c1 = true ↔ PathOk p ∧ RightO (ordOf (mkO x p) p s k))
  have hobt := hc1.2 ⟨hok, hr2⟩
  obtain rfl := hobt
  generalize hz : ordOf (mkO x p) p s k = z at *
  conv => whnf
  repeat' (first | (refine tell (fun hQ => ?_) (fun hQ => ?_) <;> (try dsimp only at hQ) <;> first | (exfalso; omega) | (exact absurd rfl hQ) | (exact absurd (by decide) hQ) | (conv => whnf)) | (refine allG rfl ?_; conv => whnf) | (refine And.intro (by first | omega | assumption | kernel_rfl | exact And.intro rfl rfl | ((try dsimp only [inR, idx, lowOf]); first | omega | (with_reducible decide) | (simp; omega) | (simp; done) | fail) | fail) ?_; conv => whnf) | fail)
  refine ⟨some (⟨[(7, vB true), (8, .ptr 1008 0 2 0), (10, .lst 3 p), (11, vI ((p.length + 1) / 2 : Nat)), (12, vI k), (13, .ptr 1013 0 6 0), (14, vB true)], [(1008, layC (fitN c) (fitL c raw)), (1013, .cells (ordCs z))]⟩, []), ?_⟩
  conv => whnf
  refine And.intro rfl (And.intro ?_ ?_)
  · refine ⟨rfl, ?_, ?_, rfl⟩
    all_goals (repeat' (first | exact trivial | exact rfl | refine And.intro ?_ ?_ | (refine congrArg vI ?_; first | omega | (dsimp only; omega) | fail) | (refine congrArg some ?_) | omega | exact Nat.le_refl _ | exact congrArg (SV.lst _) (List.take_of_length_le (Nat.le_refl _)).symm))
    all_goals (first | exact congrArg (fun o : OrdT => vI o.1) hz | exact congrArg (fun o : OrdT => vS o.2.1) hz | exact congrArg (fun o : OrdT => vI o.2.2.1) hz | exact congrArg (fun o : OrdT => vI o.2.2.2.1) hz | exact congrArg (fun o : OrdT => SV.lst (A := AF) 46 o.2.2.2.2.1) hz | exact congrArg (fun o : OrdT => SV.lst (A := AF) 95 o.2.2.2.2.2) hz | fail)
  conv => whnf
  repeat' (first | (refine tell (fun hQ => ?_) (fun hQ => ?_) <;> (try dsimp only at hQ) <;> first | (exfalso; omega) | (exact absurd rfl hQ) | (exact absurd (by decide) hQ) | (conv => whnf)) | (refine allG rfl ?_; conv => whnf) | (refine And.intro (by first | omega | assumption | kernel_rfl | exact And.intro rfl rfl | ((try dsimp only [inR, idx, lowOf]); first | omega | (with_reducible decide) | (simp; omega) | (simp; done) | fail) | fail) ?_; conv => whnf) | fail)
  refine ⟨_, m_fits, ((fitN c, fitL c raw), z), [], false, ?_⟩
  conv => whnf
  refine And.intro (vc0 ⟨hfr.1, hr2⟩ (by (repeat' (first | exact trivial | exact rfl | refine And.intro ?_ ?_ | (refine congrArg vI ?_; first | omega | (dsimp only; omega) | fail) | (refine congrArg some ?_) | omega | exact Nat.le_refl _ | exact congrArg (SV.lst _) (List.take_of_length_le (Nat.le_refl _)).symm))) (by repeat' (first | exact trivial | exact rfl | refine And.intro ?_ ?_ | (refine congrArg vI ?_; first | omega | (dsimp only; omega) | fail) | (refine congrArg some ?_) | omega | exact Nat.le_refl _ | exact congrArg (SV.lst _) (List.take_of_length_le (Nat.le_refl _)).symm)) trivial trivial) ?_
  refine And.intro (ex_true' hfit) ?_
  intro (c2 : Bool) (hc2 : c2 = true ↔ FitsP (fitN c) (fitL c raw) z)
  have hobt := hc2.2 hfit
  obtain rfl := hobt
  conv => whnf
  repeat' (first | (refine tell (fun hQ => ?_) (fun hQ => ?_) <;> (try dsimp only at hQ) <;> first | (exfalso; omega) | (exact absurd rfl hQ) | (exact absurd (by decide) hQ) | (conv => whnf)) | (refine allG rfl ?_; conv => whnf) | (refine And.intro (by first | omega | assumption | kernel_rfl | exact And.intro rfl rfl | ((try dsimp only [inR, idx, lowOf]); first | omega | (with_reducible decide) | (simp; omega) | (simp; done) | fail) | fail) ?_; conv => whnf) | fail)
  refine ⟨_, m_baseW, z, [], false, ?_⟩
  conv => whnf
  refine And.intro (vc0 hr2 (by (repeat' (first | exact trivial | exact rfl | refine And.intro ?_ ?_ | (refine congrArg vI ?_; first | omega | (dsimp only; omega) | fail) | (refine congrArg some ?_) | omega | exact Nat.le_refl _ | exact congrArg (SV.lst _) (List.take_of_length_le (Nat.le_refl _)).symm))) (by repeat' (first | exact trivial | exact rfl | refine And.intro ?_ ?_ | (refine congrArg vI ?_; first | omega | (dsimp only; omega) | fail) | (refine congrArg some ?_) | omega | exact Nat.le_refl _ | exact congrArg (SV.lst _) (List.take_of_length_le (Nat.le_refl _)).symm)) trivial trivial) ?_
  refine And.intro ⟨(), trivial⟩ (fun (_ : Unit) _ => ?_)
  conv => whnf
  have hbl : (baseN z.2.2.2.2.1 z.2.2.2.2.2 z.2.2.2.2.2.length).length ≤ 41 := by rw [hbase, List.length_take]; omega
  have hev : (evN p ((p.length + 1) / 2)).length = (p.length + 1) / 2 := evN_len p _
  conv => whnf
  repeat' (first | (refine tell (fun hQ => ?_) (fun hQ => ?_) <;> (try dsimp only at hQ) <;> first | (exfalso; omega) | (exact absurd rfl hQ) | (exact absurd (by decide) hQ) | (conv => whnf)) | (refine allG rfl ?_; conv => whnf) | (refine And.intro (by first | omega | assumption | kernel_rfl | exact And.intro rfl rfl | ((try dsimp only [inR, idx, lowOf]); first | omega | (with_reducible decide) | (simp; omega) | (simp; done) | fail) | fail) ?_; conv => whnf) | fail)
  refine ⟨_, m_ints, (baseN z.2.2.2.2.1 z.2.2.2.2.2 z.2.2.2.2.2.length, p.take (2 * k - 1).toNat), [], false, ?_⟩
  conv => whnf
  refine And.intro (vc0 (by show (baseN _ _ _).length ≤ 9223372036854775807; omega) (by (repeat' (first | exact trivial | exact rfl | refine And.intro ?_ ?_ | (refine congrArg vI ?_; first | omega | (dsimp only; omega) | fail) | (refine congrArg some ?_) | omega | exact Nat.le_refl _ | exact congrArg (SV.lst _) (List.take_of_length_le (Nat.le_refl _)).symm))) (by repeat' (first | exact trivial | exact rfl | refine And.intro ?_ ?_ | (refine congrArg vI ?_; first | omega | (dsimp only; omega) | fail) | (refine congrArg some ?_) | omega | exact Nat.le_refl _ | exact congrArg (SV.lst _) (List.take_of_length_le (Nat.le_refl _)).symm)) trivial trivial) ?_
  refine And.intro (ex_true' hbase) ?_
  intro (c3 : Bool) (hc3 : c3 = true ↔ baseN z.2.2.2.2.1 z.2.2.2.2.2 z.2.2.2.2.2.length = p.take (2 * k - 1).toNat)
  have hobt := hc3.2 hbase
  obtain rfl := hobt
  conv => whnf
  repeat' (first | (refine tell (fun hQ => ?_) (fun hQ => ?_) <;> (try dsimp only at hQ) <;> first | (exfalso; omega) | (exact absurd rfl hQ) | (exact absurd (by decide) hQ) | (conv => whnf)) | (refine allG rfl ?_; conv => whnf) | (refine And.intro (by first | omega | assumption | kernel_rfl | exact And.intro rfl rfl | ((try dsimp only [inR, idx, lowOf]); first | omega | (with_reducible decide) | (simp; omega) | (simp; done) | fail) | fail) ?_; conv => whnf) | fail)
  refine ⟨_, m_stops, p, [], false, ?_⟩
  conv => whnf
  refine And.intro (vc0 (by show p.length ≤ 1000000; omega) (by (repeat' (first | exact trivial | exact rfl | refine And.intro ?_ ?_ | (refine congrArg vI ?_; first | omega | (dsimp only; omega) | fail) | (refine congrArg some ?_) | omega | exact Nat.le_refl _ | exact congrArg (SV.lst _) (List.take_of_length_le (Nat.le_refl _)).symm))) (by repeat' (first | exact trivial | exact rfl | refine And.intro ?_ ?_ | (refine congrArg vI ?_; first | omega | (dsimp only; omega) | fail) | (refine congrArg some ?_) | omega | exact Nat.le_refl _ | exact congrArg (SV.lst _) (List.take_of_length_le (Nat.le_refl _)).symm)) trivial trivial) ?_
  refine And.intro ⟨(), trivial⟩ (fun (_ : Unit) _ => ?_)
  conv => whnf
  conv => whnf
  repeat' (first | (refine tell (fun hQ => ?_) (fun hQ => ?_) <;> (try dsimp only at hQ) <;> first | (exfalso; omega) | (exact absurd rfl hQ) | (exact absurd (by decide) hQ) | (conv => whnf)) | (refine allG rfl ?_; conv => whnf) | (refine ⟨none, ?_⟩; conv => whnf) | (refine And.intro (by first | omega | assumption | kernel_rfl | exact And.intro rfl rfl | ((try dsimp only [inR, idx, lowOf]); first | omega | (with_reducible decide) | (simp; omega) | (simp; done) | fail) | fail) ?_; conv => whnf) | fail)
  refine ⟨(), [], trivial, ?_, ?_, ?_⟩
  all_goals (repeat' (first | exact trivial | exact rfl | refine And.intro ?_ ?_ | (refine congrArg vI ?_; first | omega | (dsimp only; omega) | fail) | (refine congrArg some ?_) | omega | exact Nat.le_refl _ | exact congrArg (SV.lst _) (List.take_of_length_le (Nat.le_refl _)).symm))
end Go.Sx

