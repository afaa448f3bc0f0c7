/-
  Layer 13 at the door: WalkJoins. (printed by mkWalN.py)
-/
import Derived.Test.YtmogappoadglgaaDoorZWalN1
set_option linter.unusedVariables false
set_option linter.unusedSimpArgs false
namespace Go.Sx
open Go Go.Proofs Go.Proofs.YtmogappoadglgaaDoor
theorem cop_eq2 (p : List Int) : (p.drop 0).take p.length = p := by rw [List.drop_zero, List.take_length]
theorem mkK_nat {n : Int} {el : List Edge} {p : List Int} {a : Int} (hw : Way n el p a) (x : RawT) : ∃ k : Nat, mkK x p = ((k + 1 : Nat) : Int) ∧ 2 * k + 1 ≤ p.length := by
  have hodd := hw.odd
  have h := mkK_bd x (p := p) (by omega)
  exact ⟨(mkK x p - 1).toNat, by omega, by omega⟩
theorem base_nat {n : Int} {el : List Edge} {p : List Int} {a : Int} (hw : Way n el p a) (x : RawT) {k : Nat} (hk : mkK x p = ((k + 1 : Nat) : Int)) (hkl : 2 * k + 1 ≤ p.length) : baseN (mkO x p).2.2.2.2.1 (mkO x p).2.2.2.2.2 (mkO x p).2.2.2.2.2.length = p.take (2 * k + 1) := by
  have hodd := hw.odd
  have h := base_ord (mkH x) p (mkS x) (mkK x p) hodd (by omega) (by omega)
  refine h.trans ?_
  congr 1
  omega
theorem node0 {n : Int} {el : List Edge} {p : List Int} {a : Int} (hw : Way n el p a) (x : RawT) : ∃ r, (mkO x p).2.2.2.2.1[0]? = some (p.getD 0 0, mkS x, r) := by
  have hodd := hw.odd
  have h : (nodesN p (mkS x) (mkK x p) ((p.length + 1) / 2))[0]? = _ := nodesN_at (by omega)
  refine ⟨_, h.trans (congrArg some (Prod.ext rfl (Prod.ext ?_ rfl)))⟩
  show mkS x + 2 * ((0 : Nat) : Int) = mkS x
  omega
set_option maxHeartbeats 6400000 in
set_option maxRecDepth 100000 in
theorem m_walkJoins : Meets Tryd.prog regF 4 (spLaw (fun g : Int × List (Int × Int × Int) × RawT × RawT => [vI g.1, .lst 96 g.2.1, rawS g.2.2.1, rawS g.2.2.2]) (fun g => InI g.1 ∧ (g.2.1.length ≤ 9223372036854775807 ∧ ∀ r ∈ g.2.1, InI r.1 ∧ InI r.2.1 ∧ InI r.2.2) ∧ RawIn g.2.2.1 ∧ RawIn g.2.2.2)) := by
  refine meetsC Tryd.func4 180 noWr rfl (by kernel_rfl) (by kernel_rfl) ?_
  rintro ⟨(c : Int), (raw : List (Int × Int × Int)), (x : RawT), (b1 : Int), (b2 : Int), (b3 : Int), (b4 : Int), (b5 : Int), (b6 : Int), (bts : List Int)⟩ ⟨(hc : InI c), hraw, (hx : RawIn x), (i1 : InI b1), (i2 : InI b2), (i3 : InI b3), (i4 : InI b4), (i5 : InI b5), (i6 : InI b6), (i7 : ∀ t ∈ bts, InI t), (i8 : bts.length ≤ 9223372036854775807)⟩
  have hfr := fit_right c raw
  conv => whnf
  repeat' (first | (refine tell (fun htest => ?_) (fun htest => ?_) <;> (try dsimp only at htest) <;> first | (exfalso; omega) | (exact absurd rfl htest) | (exact absurd htest hne) | (exact absurd hne htest) | (exact absurd htest hcne) | (exact absurd htest t1) | (exact absurd t1 htest) | (exact absurd (by decide) htest) | (conv => whnf)) | (refine allG rfl ?_; conv => whnf) | (refine ⟨none, ?_⟩; conv => whnf) | (refine And.intro (by first | omega | assumption | kernel_rfl | exact And.intro rfl rfl | ((try dsimp only [inR, idx, lowOf]); first | omega | (with_reducible decide) | (simp; omega) | (simp; done) | fail) | fail) ?_; conv => whnf) | fail)
  refine ⟨_, m_awake13, (), [], false, ?_⟩
  conv => whnf
  refine And.intro (vc0 trivial (by (repeat' (first | exact trivial | exact rfl | refine And.intro ?_ ?_ | (refine congrArg vI ?_; first | omega | (dsimp only; omega) | fail) | (refine congrArg some ?_) | omega | exact Nat.le_refl _ | exact congrArg (SV.lst _) (List.take_of_length_le (Nat.le_refl _)).symm))) (by repeat' (first | exact trivial | exact rfl | refine And.intro ?_ ?_ | (refine congrArg vI ?_; first | omega | (dsimp only; omega) | fail) | (refine congrArg some ?_) | omega | exact Nat.le_refl _ | exact congrArg (SV.lst _) (List.take_of_length_le (Nat.le_refl _)).symm)) trivial trivial) ?_
  refine And.intro ⟨(), trivial⟩ (fun (_ : Unit) _ => ?_)
  conv => whnf
  conv => whnf
  repeat' (first | (refine tell (fun htest => ?_) (fun htest => ?_) <;> (try dsimp only at htest) <;> first | (exfalso; omega) | (exact absurd rfl htest) | (exact absurd htest hne) | (exact absurd hne htest) | (exact absurd htest hcne) | (exact absurd htest t1) | (exact absurd t1 htest) | (exact absurd (by decide) htest) | (conv => whnf)) | (refine allG rfl ?_; conv => whnf) | (refine ⟨none, ?_⟩; conv => whnf) | (refine And.intro (by first | omega | assumption | kernel_rfl | exact And.intro rfl rfl | ((try dsimp only [inR, idx, lowOf]); first | omega | (with_reducible decide) | (simp; omega) | (simp; done) | fail) | fail) ?_; conv => whnf) | fail)
  refine ⟨_, m_fit, (c, raw), [], false, ?_⟩
  conv => whnf
  refine And.intro (vc0 ⟨hc, hraw.1, hraw.2⟩ (by (repeat' (first | exact trivial | exact rfl | refine And.intro ?_ ?_ | (refine congrArg vI ?_; first | omega | (dsimp only; omega) | fail) | (refine congrArg some ?_) | omega | exact Nat.le_refl _ | exact congrArg (SV.lst _) (List.take_of_length_le (Nat.le_refl _)).symm))) (by repeat' (first | exact trivial | exact rfl | refine And.intro ?_ ?_ | (refine congrArg vI ?_; first | omega | (dsimp only; omega) | fail) | (refine congrArg some ?_) | omega | exact Nat.le_refl _ | exact congrArg (SV.lst _) (List.take_of_length_le (Nat.le_refl _)).symm)) trivial trivial) ?_
  refine And.intro ⟨(), trivial⟩ (fun (_ : Unit) _ => ?_)
  conv => whnf
  conv => whnf
  repeat' (first | (refine tell (fun htest => ?_) (fun htest => ?_) <;> (try dsimp only at htest) <;> first | (exfalso; omega) | (exact absurd rfl htest) | (exact absurd htest hne) | (exact absurd hne htest) | (exact absurd htest hcne) | (exact absurd htest t1) | (exact absurd t1 htest) | (exact absurd (by decide) htest) | (conv => whnf)) | (refine allG rfl ?_; conv => whnf) | (refine ⟨none, ?_⟩; conv => whnf) | (refine And.intro (by first | omega | assumption | kernel_rfl | exact And.intro rfl rfl | ((try dsimp only [inR, idx, lowOf]); first | omega | (with_reducible decide) | (simp; omega) | (simp; done) | fail) | fail) ?_; conv => whnf) | fail)
  refine ⟨_, m_make13, ((fitN c, fitL c raw), x), [], false, ?_⟩
  conv => whnf
  refine And.intro (vc0 ⟨hfr.1, hx⟩ (by (repeat' (first | exact trivial | exact rfl | refine And.intro ?_ ?_ | (refine congrArg vI ?_; first | omega | (dsimp only; omega) | fail) | (refine congrArg some ?_) | omega | exact Nat.le_refl _ | exact congrArg (SV.lst _) (List.take_of_length_le (Nat.le_refl _)).symm))) (by repeat' (first | exact trivial | exact rfl | refine And.intro ?_ ?_ | (refine congrArg vI ?_; first | omega | (dsimp only; omega) | fail) | (refine congrArg some ?_) | omega | exact Nat.le_refl _ | exact congrArg (SV.lst _) (List.take_of_length_le (Nat.le_refl _)).symm)) trivial trivial) ?_
  refine And.intro (way_ex hfr.1) ?_
  rintro ⟨(p : List Int), (a : Int)⟩ ⟨(hw : Way (fitN c) (fitL c raw) p a), (hpl : p.length ≤ 41)⟩
  have hodd := hw.odd
  have hr := mkO_right hw hfr.1 hpl x
  have hobt := mkK_nat hw x
  obtain ⟨k, hk, hkl⟩ := hobt
  have hbase := base_nat hw x hk hkl
  have hobt := node0 hw x
  obtain ⟨(r0 : Bool), hn0⟩ := hobt
  have hsb := mkS_bd x
  have hlast : (p.take (2 * k + 1))[2 * k]? = some (p.getD (2 * k) 0) := by rw [List.getElem?_take_of_lt (by omega), at_of (by omega)]
  have hsmall := hw.small hfr.1
  have hplast := hsmall _ (List.mem_of_getElem? (at_of (p := p) (i := 2 * k) (by omega)))
  have hbl : (p.take (2 * k + 1)).length = 2 * k + 1 := by rw [List.length_take]; omega
  conv => whnf
  repeat' (first | (refine tell (fun htest => ?_) (fun htest => ?_) <;> (try dsimp only at htest) <;> first | (exfalso; omega) | (exact absurd rfl htest) | (exact absurd htest hne) | (exact absurd hne htest) | (exact absurd htest hcne) | (exact absurd htest t1) | (exact absurd t1 htest) | (exact absurd (by decide) htest) | (conv => whnf)) | (refine allG rfl ?_; conv => whnf) | (refine And.intro (by first | omega | assumption | kernel_rfl | exact And.intro rfl rfl | ((try dsimp only [inR, idx, lowOf]); first | omega | (with_reducible decide) | (simp; omega) | (simp; done) | fail) | fail) ?_; conv => whnf) | fail)
  refine ⟨some (⟨[(7, .ptr 1007 0 7 0), (9, vB true), (10, .ptr 1010 0 2 0), (11, .ptr 1011 0 6 0)], [(1007, .cells [vI b1, vI b2, vI b3, vI b4, vI b5, vI b6, .lst 3 bts]), (1010, layC (fitN c) (fitL c raw)), (1011, .cells (ordCs (mkO x p)))]⟩, []), ?_⟩
  conv => whnf
  refine And.intro rfl (And.intro ?_ ?_)
  · refine ⟨rfl, ?_, ?_, rfl⟩
    all_goals (repeat' (first | exact trivial | exact rfl | refine And.intro ?_ ?_ | (refine congrArg vI ?_; first | omega | (dsimp only; omega) | fail) | (refine congrArg some ?_) | omega | exact Nat.le_refl _ | exact congrArg (SV.lst _) (List.take_of_length_le (Nat.le_refl _)).symm))
  generalize hOO : mkO x p = O1 at *
  conv => whnf
  repeat' (first | (refine tell (fun htest => ?_) (fun htest => ?_) <;> (try dsimp only at htest) <;> first | (exfalso; omega) | (exact absurd rfl htest) | (exact absurd htest hne) | (exact absurd hne htest) | (exact absurd htest hcne) | (exact absurd htest t1) | (exact absurd t1 htest) | (exact absurd (by decide) htest) | (conv => whnf)) | (refine allG rfl ?_; conv => whnf) | (refine And.intro (by first | omega | assumption | kernel_rfl | exact And.intro rfl rfl | ((try dsimp only [inR, idx, lowOf]); first | omega | (with_reducible decide) | (simp; omega) | (simp; done) | fail) | fail) ?_; conv => whnf) | fail)
  refine ⟨_, m_baseW, O1, [], false, ?_⟩
  conv => whnf
  refine And.intro (vc0 hr (by (repeat' (first | exact trivial | exact rfl | refine And.intro ?_ ?_ | (refine congrArg vI ?_; first | omega | (dsimp only; omega) | fail) | (refine congrArg some ?_) | omega | exact Nat.le_refl _ | exact congrArg (SV.lst _) (List.take_of_length_le (Nat.le_refl _)).symm))) (by repeat' (first | exact trivial | exact rfl | refine And.intro ?_ ?_ | (refine congrArg vI ?_; first | omega | (dsimp only; omega) | fail) | (refine congrArg some ?_) | omega | exact Nat.le_refl _ | exact congrArg (SV.lst _) (List.take_of_length_le (Nat.le_refl _)).symm)) trivial trivial) ?_
  refine And.intro ⟨(), trivial⟩ (fun (_ : Unit) _ => ?_)
  conv => whnf
  conv => whnf
  repeat' (first | (refine tell (fun htest => ?_) (fun htest => ?_) <;> (try dsimp only at htest) <;> first | (exfalso; omega) | (exact absurd rfl htest) | (exact absurd htest hne) | (exact absurd hne htest) | (exact absurd htest hcne) | (exact absurd htest t1) | (exact absurd t1 htest) | (exact absurd (by decide) htest) | (conv => whnf)) | (refine allG rfl ?_; conv => whnf) | (refine And.intro (by first | omega | assumption | kernel_rfl | exact And.intro rfl rfl | ((try dsimp only [inR, idx, lowOf]); first | omega | (with_reducible decide) | (simp; omega) | (simp; done) | fail) | fail) ?_; conv => whnf) | fail)
  refine ⟨some (⟨[(7, .ptr 1007 0 7 0), (9, vB true), (10, .ptr 1010 0 2 0), (11, .ptr 1011 0 6 0), (13, .lst 3 (p.take (2 * k + 1)))], [(1007, .cells [vI b1, vI b2, vI b3, vI b4, vI b5, vI b6, .lst 3 bts]), (1010, layC (fitN c) (fitL c raw)), (1011, .cells (ordCs O1))]⟩, []), ?_⟩
  conv => whnf
  refine And.intro rfl (And.intro ?_ ?_)
  · refine ⟨rfl, ?_, ?_, rfl⟩
    all_goals (repeat' (first | exact trivial | exact rfl | refine And.intro ?_ ?_ | (refine congrArg vI ?_; first | omega | (dsimp only; omega) | fail) | (refine congrArg some ?_) | omega | exact Nat.le_refl _ | exact congrArg (SV.lst _) (List.take_of_length_le (Nat.le_refl _)).symm))
    all_goals (exact congrArg (SV.lst (A := AF) 3) hbase)
  generalize hss : mkS x = s at *
  generalize hpp : p.getD (2 * k) 0 = pl at *
  have hq1 : (((p.take (2 * k + 1)).length : Int) - 1) = ((2 * k : Nat) : Int) := by omega
  have hlast0 : 0 ≤ ((p.take (2 * k + 1)).length : Int) - 1 := by omega
  have hlast' : (p.take (2 * k + 1))[(((p.take (2 * k + 1)).length : Int) - 1).toNat]? = some pl := by rw [hq1]; exact hlast
  by_cases hev : b1.tmod 2 = 0
  · have hsq : 0 ≤ (s + ((p.take (2 * k + 1)).length : Int) - 1).tdiv 2 ∧ (s + ((p.take (2 * k + 1)).length : Int) - 1).tdiv 2 ≤ 1000 := by rw [Int.tdiv_eq_ediv_of_nonneg (by omega)]; omega
    conv => whnf
    repeat' (first | (refine tell (fun htest => ?_) (fun htest => ?_) <;> (try dsimp only at htest) <;> first | (exfalso; omega) | (exact absurd rfl htest) | (exact absurd htest hne) | (exact absurd hne htest) | (exact absurd htest hcne) | (exact absurd htest t1) | (exact absurd t1 htest) | (exact absurd (by decide) htest) | (conv => whnf)) | (refine allG rfl ?_; conv => whnf) | (refine And.intro (by first | omega | assumption | kernel_rfl | exact And.intro rfl rfl | ((try dsimp only [inR, idx, lowOf]); first | omega | (with_reducible decide) | (simp; omega) | (simp; done) | fail) | fail) ?_; conv => whnf) | fail)
    refine ⟨none, ?_⟩
    conv => whnf
    conv => whnf
    repeat' (first | (refine tell (fun htest => ?_) (fun htest => ?_) <;> (try dsimp only at htest) <;> first | (exfalso; omega) | (exact absurd rfl htest) | (exact absurd htest hne) | (exact absurd hne htest) | (exact absurd htest hcne) | (exact absurd htest t1) | (exact absurd t1 htest) | (exact absurd (by decide) htest) | (conv => whnf)) | (refine allG rfl ?_; conv => whnf) | (refine And.intro (by first | omega | assumption | kernel_rfl | exact And.intro rfl rfl | ((try dsimp only [inR, idx, lowOf]); first | omega | (with_reducible decide) | (simp; omega) | (simp; done) | fail) | fail) ?_; conv => whnf) | fail)
    refine ⟨none, ?_⟩
    conv => whnf
    conv => whnf
    repeat' (first | (refine tell (fun htest => ?_) (fun htest => ?_) <;> (try dsimp only at htest) <;> first | (exfalso; omega) | (exact absurd rfl htest) | (exact absurd htest hne) | (exact absurd hne htest) | (exact absurd htest hcne) | (exact absurd htest t1) | (exact absurd t1 htest) | (exact absurd (by decide) htest) | (conv => whnf)) | (refine allG rfl ?_; conv => whnf) | (refine And.intro (by first | omega | assumption | kernel_rfl | exact And.intro rfl rfl | ((try dsimp only [inR, idx, lowOf]); first | omega | (with_reducible decide) | (simp; omega) | (simp; done) | fail) | fail) ?_; conv => whnf) | fail)
    refine ⟨none, ?_⟩
    conv => whnf
    conv => whnf
    repeat' (first | (refine tell (fun htest => ?_) (fun htest => ?_) <;> (try dsimp only at htest) <;> first | (exfalso; omega) | (exact absurd rfl htest) | (exact absurd htest hne) | (exact absurd hne htest) | (exact absurd htest hcne) | (exact absurd htest t1) | (exact absurd t1 htest) | (exact absurd (by decide) htest) | (conv => whnf)) | (refine allLst (x := pl) hlast0 hlast' ?_; conv => whnf) | (refine allG rfl ?_; conv => whnf) | (refine And.intro (by first | omega | assumption | kernel_rfl | exact And.intro rfl rfl | ((try dsimp only [inR, idx, lowOf]); first | omega | (with_reducible decide) | (simp; omega) | (simp; done) | fail) | fail) ?_; conv => whnf) | fail)
    refine ⟨none, ?_⟩
    conv => whnf
    conv => whnf
    repeat' (first | (refine tell (fun htest => ?_) (fun htest => ?_) <;> (try dsimp only at htest) <;> first | (exfalso; omega) | (exact absurd rfl htest) | (exact absurd htest hne) | (exact absurd hne htest) | (exact absurd htest hcne) | (exact absurd htest t1) | (exact absurd t1 htest) | (exact absurd (by decide) htest) | (conv => whnf)) | (refine allG (x := _) (by first | exact hn0 | simpa [List.getElem?_append_right, lowOf] using hn0 | fail) ?_; conv => whnf) | (refine allLst (x := _) (by first | omega | assumption | fail) (by first | exact hn0 | simpa using hn0 | fail) ?_; conv => whnf) | (refine allG rfl ?_; conv => whnf) | (refine And.intro (by first | omega | assumption | kernel_rfl | exact And.intro rfl rfl | ((try dsimp only [inR, idx, lowOf]); first | omega | (with_reducible decide) | (simp; omega) | (simp; done) | fail) | fail) ?_; conv => whnf) | fail)
    refine ⟨some (⟨[(7, .ptr 1007 0 7 0), (9, vB true), (10, .ptr 1010 0 2 0), (11, .ptr 1011 0 6 0), (13, .lst 3 (p.take (2 * k + 1)))], [(1007, .cells [vI b1, vI b2, vI b3, vI ((s + ((p.take (2 * k + 1)).length : Int) - 1).tdiv 2), vI pl, vI b6, .lst 3 bts]), (1010, layC (fitN c) (fitL c raw)), (1011, .cells (ordCs O1))]⟩, []), ?_⟩
    conv => whnf
    refine And.intro rfl (And.intro ?_ ?_)
    · refine ⟨rfl, ?_, ?_, rfl⟩
      all_goals (repeat' (first | exact trivial | exact rfl | refine And.intro ?_ ?_ | (refine congrArg vI ?_; first | omega | (dsimp only; omega) | fail) | (refine congrArg some ?_) | omega | exact Nat.le_refl _ | exact congrArg (SV.lst _) (List.take_of_length_le (Nat.le_refl _)).symm))
    have i4q : InI ((s + ((p.take (2 * k + 1)).length : Int) - 1).tdiv 2) := ⟨by omega, by omega⟩
    have i5q : InI pl := ⟨by omega, by omega⟩
    generalize ((s + ((p.take (2 * k + 1)).length : Int) - 1).tdiv 2) = sq at *
    have hB : RawIn (b1, b2, b3, sq, pl, b6, bts) := ⟨i1, i2, i3, i4q, i5q, i6, i7, i8⟩
    clear i1 i2 i3 i4 i5 i6 i7 i8 hx hbase
    as_aux_lemma =>
    conv => whnf
    repeat' (first | (refine tell (fun htest => ?_) (fun htest => ?_) <;> (try dsimp only at htest) <;> first | (exfalso; omega) | (exact absurd rfl htest) | (exact absurd htest hne) | (exact absurd hne htest) | (exact absurd htest hcne) | (exact absurd htest t1) | (exact absurd t1 htest) | (exact absurd (by decide) htest) | (conv => whnf)) | (refine allG rfl ?_; conv => whnf) | (refine ⟨none, ?_⟩; conv => whnf) | (refine And.intro (by first | omega | assumption | kernel_rfl | exact And.intro rfl rfl | ((try dsimp only [inR, idx, lowOf]); first | omega | (with_reducible decide) | (simp; omega) | (simp; done) | fail) | fail) ?_; conv => whnf) | fail)
    refine ⟨_, m_make13, ((fitN c, fitL c raw), (b1, b2, b3, sq, pl, b6, bts)), [], false, ?_⟩
    conv => whnf
    refine And.intro (vc0 ⟨hfr.1, hB⟩ (by (repeat' (first | exact trivial | exact rfl | refine And.intro ?_ ?_ | (refine congrArg vI ?_; first | omega | (dsimp only; omega) | fail) | (refine congrArg some ?_) | omega | exact Nat.le_refl _ | exact congrArg (SV.lst _) (List.take_of_length_le (Nat.le_refl _)).symm))) (by repeat' (first | exact trivial | exact rfl | refine And.intro ?_ ?_ | (refine congrArg vI ?_; first | omega | (dsimp only; omega) | fail) | (refine congrArg some ?_) | omega | exact Nat.le_refl _ | exact congrArg (SV.lst _) (List.take_of_length_le (Nat.le_refl _)).symm)) trivial trivial) ?_
    refine And.intro (way_ex hfr.1) ?_
    rintro ⟨(q : List Int), (a2 : Int)⟩ ⟨(hw2 : Way (fitN c) (fitL c raw) q a2), (hql : q.length ≤ 41)⟩
    have hodd2 := hw2.odd
    have hr2 := mkO_right hw2 hfr.1 hql (b1, b2, b3, sq, pl, b6, bts)
    have hobt := mkK_nat hw2 (b1, b2, b3, sq, pl, b6, bts)
    obtain ⟨k2, hk2, hkl2⟩ := hobt
    have hbase2 := base_nat hw2 (b1, b2, b3, sq, pl, b6, bts) hk2 hkl2
    have hobt := node0 hw2 (b1, b2, b3, sq, pl, b6, bts)
    obtain ⟨(r2 : Bool), hm0⟩ := hobt
    have hsb2 := mkS_bd (b1, b2, b3, sq, pl, b6, bts)
    have hbl2 : (q.take (2 * k2 + 1)).length = 2 * k2 + 1 := by rw [List.length_take]; omega
    have hfs : ∀ hF : FollowsP O1 (mkO (b1, b2, b3, sq, pl, b6, bts) q), O1.2.2.1 = (mkO (b1, b2, b3, sq, pl, b6, bts) q).2.2.1 → O1.2.2.2.1 < (mkO (b1, b2, b3, sq, pl, b6, bts) q).2.2.2.1 ∧ q.getD 0 0 = pl ∧ mkS (b1, b2, b3, sq, pl, b6, bts) = s + 2 * (k : Int) := fun hF ho => by
      rw [← hOO] at hF ho ⊢
      have h := follows_same hodd hodd2 (by omega) (by omega) hF ho
      rw [hk, hss, show (((k + 1 : Nat) : Int) - 1).toNat = k by omega, hpp] at h
      exact ⟨h.1, h.2.1, by have := h.2.2; omega⟩
    conv => whnf
    repeat' (first | (refine tell (fun htest => ?_) (fun htest => ?_) <;> (try dsimp only at htest) <;> first | (exfalso; omega) | (exact absurd rfl htest) | (exact absurd htest hne) | (exact absurd hne htest) | (exact absurd htest hcne) | (exact absurd htest t1) | (exact absurd t1 htest) | (exact absurd (by decide) htest) | (conv => whnf)) | (refine allG rfl ?_; conv => whnf) | (refine And.intro (by first | omega | assumption | kernel_rfl | exact And.intro rfl rfl | ((try dsimp only [inR, idx, lowOf]); first | omega | (with_reducible decide) | (simp; omega) | (simp; done) | fail) | fail) ?_; conv => whnf) | fail)
    refine ⟨some (⟨[(9, vB true), (10, .ptr 1010 0 2 0), (11, .ptr 1011 0 6 0), (13, .lst 3 (p.take (2 * k + 1))), (14, .ptr 1014 0 6 0)], [(1010, layC (fitN c) (fitL c raw)), (1011, .cells (ordCs O1)), (1014, .cells (ordCs (mkO (b1, b2, b3, sq, pl, b6, bts) q)))]⟩, []), ?_⟩
    conv => whnf
    refine And.intro rfl (And.intro ?_ ?_)
    · refine ⟨rfl, ?_, ?_, rfl⟩
      all_goals (repeat' (first | exact trivial | exact rfl | refine And.intro ?_ ?_ | (refine congrArg vI ?_; first | omega | (dsimp only; omega) | fail) | (refine congrArg some ?_) | omega | exact Nat.le_refl _ | exact congrArg (SV.lst _) (List.take_of_length_le (Nat.le_refl _)).symm))
    generalize hO2 : mkO (b1, b2, b3, sq, pl, b6, bts) q = O2 at *
    generalize hs2 : mkS (b1, b2, b3, sq, pl, b6, bts) = s2 at *
    conv => whnf
    repeat' (first | (refine tell (fun htest => ?_) (fun htest => ?_) <;> (try dsimp only at htest) <;> first | (exfalso; omega) | (exact absurd rfl htest) | (exact absurd htest hne) | (exact absurd hne htest) | (exact absurd htest hcne) | (exact absurd htest t1) | (exact absurd t1 htest) | (exact absurd (by decide) htest) | (conv => whnf)) | (refine allG rfl ?_; conv => whnf) | (refine And.intro (by first | omega | assumption | kernel_rfl | exact And.intro rfl rfl | ((try dsimp only [inR, idx, lowOf]); first | omega | (with_reducible decide) | (simp; omega) | (simp; done) | fail) | fail) ?_; conv => whnf) | fail)
    refine ⟨_, m_follows, (O1, O2), [], false, ?_⟩
    conv => whnf
    refine And.intro (vc0 ⟨hr, hr2⟩ (by (repeat' (first | exact trivial | exact rfl | refine And.intro ?_ ?_ | (refine congrArg vI ?_; first | omega | (dsimp only; omega) | fail) | (refine congrArg some ?_) | omega | exact Nat.le_refl _ | exact congrArg (SV.lst _) (List.take_of_length_le (Nat.le_refl _)).symm))) (by repeat' (first | exact trivial | exact rfl | refine And.intro ?_ ?_ | (refine congrArg vI ?_; first | omega | (dsimp only; omega) | fail) | (refine congrArg some ?_) | omega | exact Nat.le_refl _ | exact congrArg (SV.lst _) (List.take_of_length_le (Nat.le_refl _)).symm)) trivial trivial) ?_
    refine And.intro (prop_ex _) ?_
    intro (c3 : Bool) (hc3 : c3 = true ↔ FollowsP O1 O2)
    cases c3
    · conv => whnf
      repeat' (first | (refine tell (fun htest => ?_) (fun htest => ?_) <;> (try dsimp only at htest) <;> first | (exfalso; omega) | (exact absurd rfl htest) | (exact absurd htest hne) | (exact absurd hne htest) | (exact absurd htest hcne) | (exact absurd htest t1) | (exact absurd t1 htest) | (exact absurd (by decide) htest) | (conv => whnf)) | (refine allG rfl ?_; conv => whnf) | (refine ⟨none, ?_⟩; conv => whnf) | (refine And.intro (by first | omega | assumption | kernel_rfl | exact And.intro rfl rfl | ((try dsimp only [inR, idx, lowOf]); first | omega | (with_reducible decide) | (simp; omega) | (simp; done) | fail) | fail) ?_; conv => whnf) | fail)
      refine ⟨(), [], trivial, ?_, ?_, ?_⟩
      all_goals (repeat' (first | exact trivial | exact rfl | refine And.intro ?_ ?_ | (refine congrArg vI ?_; first | omega | (dsimp only; omega) | fail) | (refine congrArg some ?_) | omega | exact Nat.le_refl _ | exact congrArg (SV.lst _) (List.take_of_length_le (Nat.le_refl _)).symm))
    have hF := hc3.1 rfl
    have hhd := hF.2.1
    conv => whnf
    repeat' (first | (refine tell (fun htest => ?_) (fun htest => ?_) <;> (try dsimp only at htest) <;> first | (exfalso; omega) | (exact absurd rfl htest) | (exact absurd htest hne) | (exact absurd hne htest) | (exact absurd htest hcne) | (exact absurd htest t1) | (exact absurd t1 htest) | (exact absurd (by decide) htest) | (conv => whnf)) | (refine allG rfl ?_; conv => whnf) | (refine ⟨none, ?_⟩; conv => whnf) | (refine And.intro (by first | omega | assumption | kernel_rfl | exact And.intro rfl rfl | ((try dsimp only [inR, idx, lowOf]); first | omega | (with_reducible decide) | (simp; omega) | (simp; done) | fail) | fail) ?_; conv => whnf) | fail)
    refine ⟨_, m_baseW, O2, [], false, ?_⟩
    conv => whnf
    refine And.intro (vc0 hr2 (by (repeat' (first | exact trivial | exact rfl | refine And.intro ?_ ?_ | (refine congrArg vI ?_; first | omega | (dsimp only; omega) | fail) | (refine congrArg some ?_) | omega | exact Nat.le_refl _ | exact congrArg (SV.lst _) (List.take_of_length_le (Nat.le_refl _)).symm))) (by repeat' (first | exact trivial | exact rfl | refine And.intro ?_ ?_ | (refine congrArg vI ?_; first | omega | (dsimp only; omega) | fail) | (refine congrArg some ?_) | omega | exact Nat.le_refl _ | exact congrArg (SV.lst _) (List.take_of_length_le (Nat.le_refl _)).symm)) trivial trivial) ?_
    refine And.intro ⟨(), trivial⟩ (fun (_ : Unit) _ => ?_)
    conv => whnf
    conv => whnf
    repeat' (first | (refine tell (fun htest => ?_) (fun htest => ?_) <;> (try dsimp only at htest) <;> first | (exfalso; omega) | (exact absurd rfl htest) | (exact absurd htest hne) | (exact absurd hne htest) | (exact absurd htest hcne) | (exact absurd htest t1) | (exact absurd t1 htest) | (exact absurd (by decide) htest) | (conv => whnf)) | (refine allG rfl ?_; conv => whnf) | (refine And.intro (by first | omega | assumption | kernel_rfl | exact And.intro rfl rfl | ((try dsimp only [inR, idx, lowOf]); first | omega | (with_reducible decide) | (simp; omega) | (simp; done) | fail) | fail) ?_; conv => whnf) | fail)
    refine ⟨some (⟨[(9, vB true), (10, .ptr 1010 0 2 0), (11, .ptr 1011 0 6 0), (13, .lst 3 (p.take (2 * k + 1))), (14, .ptr 1014 0 6 0), (16, .lst 3 (q.take (2 * k2 + 1)))], [(1010, layC (fitN c) (fitL c raw)), (1011, .cells (ordCs O1)), (1014, .cells (ordCs O2))]⟩, []), ?_⟩
    conv => whnf
    refine And.intro rfl (And.intro ?_ ?_)
    · refine ⟨rfl, ?_, ?_, rfl⟩
      all_goals (repeat' (first | exact trivial | exact rfl | refine And.intro ?_ ?_ | (refine congrArg vI ?_; first | omega | (dsimp only; omega) | fail) | (refine congrArg some ?_) | omega | exact Nat.le_refl _ | exact congrArg (SV.lst _) (List.take_of_length_le (Nat.le_refl _)).symm))
      all_goals (exact congrArg (SV.lst (A := AF) 3) hbase2)
    by_cases hod : O1.2.2.1 = O2.2.2.1
    · have hobt := hfs hF hod
      obtain ⟨f1, f2, f3⟩ := hobt
      have hq0 : (q.take (2 * k2 + 1))[0]? = some pl := by rw [List.getElem?_take_of_lt (by omega), at_of (by omega), f2]
      have hdl : (p.take (2 * k + 1)).length + ((q.take (2 * k2 + 1)).drop 1).length = 2 * k + 1 + 2 * k2 := by rw [List.length_drop]; omega
      have hje := join_edges hw hw2 hkl hkl2 (by rw [f2, hpp])
      have hal : (p.take (2 * k + 1) ++ (q.take (2 * k2 + 1)).drop 1).length = 2 * k + 1 + 2 * k2 := by rw [List.length_append, List.length_drop]; omega
      conv => whnf
      repeat' (first | (refine tell (fun htest => ?_) (fun htest => ?_) <;> (try dsimp only at htest) <;> first | (exfalso; omega) | (exact absurd rfl htest) | (exact absurd htest hne) | (exact absurd hne htest) | (exact absurd htest hcne) | (exact absurd htest t1) | (exact absurd t1 htest) | (exact absurd (by decide) htest) | (conv => whnf)) | (refine allG rfl ?_; conv => whnf) | (refine And.intro (by first | omega | assumption | kernel_rfl | exact And.intro rfl rfl | ((try dsimp only [inR, idx, lowOf]); first | omega | (with_reducible decide) | (simp; omega) | (simp; done) | fail) | fail) ?_; conv => whnf) | fail)
      refine ⟨none, ?_⟩
      conv => whnf
      conv => whnf
      repeat' (first | (refine tell (fun htest => ?_) (fun htest => ?_) <;> (try dsimp only at htest) <;> first | (exfalso; omega) | (exact absurd rfl htest) | (exact absurd htest hne) | (exact absurd hne htest) | (exact absurd htest hcne) | (exact absurd htest t1) | (exact absurd t1 htest) | (exact absurd (by decide) htest) | (conv => whnf)) | (refine allG rfl ?_; conv => whnf) | (refine And.intro (by first | omega | assumption | kernel_rfl | exact And.intro rfl rfl | ((try dsimp only [inR, idx, lowOf]); first | omega | (with_reducible decide) | (simp; omega) | (simp; done) | fail) | fail) ?_; conv => whnf) | fail)
      refine ⟨none, ?_⟩
      conv => whnf
      conv => whnf
      repeat' (first | (refine tell (fun htest => ?_) (fun htest => ?_) <;> (try dsimp only at htest) <;> first | (exfalso; omega) | (exact absurd rfl htest) | (exact absurd htest hne) | (exact absurd hne htest) | (exact absurd htest hcne) | (exact absurd htest t1) | (exact absurd t1 htest) | (exact absurd (by decide) htest) | (conv => whnf)) | (refine allG rfl ?_; conv => whnf) | (refine And.intro (by first | omega | assumption | kernel_rfl | exact And.intro rfl rfl | ((try dsimp only [inR, idx, lowOf]); first | omega | (with_reducible decide) | (simp; omega) | (simp; done) | fail) | fail) ?_; conv => whnf) | fail)
      refine ⟨none, ?_⟩
      conv => whnf
      conv => whnf
      repeat' (first | (refine tell (fun htest => ?_) (fun htest => ?_) <;> (try dsimp only at htest) <;> first | (exfalso; omega) | (exact absurd rfl htest) | (exact absurd htest hne) | (exact absurd hne htest) | (exact absurd htest hcne) | (exact absurd htest t1) | (exact absurd t1 htest) | (exact absurd (by decide) htest) | (conv => whnf)) | (refine allG rfl ?_; conv => whnf) | (refine And.intro (by first | omega | assumption | kernel_rfl | exact And.intro rfl rfl | ((try dsimp only [inR, idx, lowOf]); first | omega | (with_reducible decide) | (simp; omega) | (simp; done) | fail) | fail) ?_; conv => whnf) | fail)
      refine ⟨some (⟨[(9, vB true), (10, .ptr 1010 0 2 0), (11, .ptr 1011 0 6 0), (13, .lst 3 (p.take (2 * k + 1))), (14, .ptr 1014 0 6 0), (16, .lst 3 (q.take (2 * k2 + 1))), (17, .sl 3017 1 0 (2 * k + 1 + 2 * k2))], [(1010, layC (fitN c) (fitL c raw)), (1011, .cells (ordCs O1)), (1014, .cells (ordCs O2)), (3017, .arr 3 (p.take (2 * k + 1) ++ (q.take (2 * k2 + 1)).drop 1))]⟩, [(3017, 1089)]), ?_⟩
      conv => whnf
      refine And.intro rfl (And.intro ?_ ?_)
      · refine ⟨rfl, ?_, ?_, rfl⟩
        all_goals (repeat' (first | exact trivial | exact rfl | refine And.intro ?_ ?_ | (refine congrArg vI ?_; first | omega | (dsimp only; omega) | fail) | (refine congrArg some ?_) | omega | exact Nat.le_refl _ | exact congrArg (SV.lst _) (List.take_of_length_le (Nat.le_refl _)).symm))
        all_goals (first | exact congrArg (SV.sl (A := AF) 1089 1 0) hdl | exact congrArg (Ct.arr (A := AF) 3) (congrArg (· ++ (q.take (2 * k2 + 1)).drop 1) (cop_eq2 (p.take (2 * k + 1)))) | fail)
      conv => whnf
      repeat' (first | (refine tell (fun htest => ?_) (fun htest => ?_) <;> (try dsimp only at htest) <;> first | (exfalso; omega) | (exact absurd rfl htest) | (exact absurd htest hne) | (exact absurd hne htest) | (exact absurd htest hcne) | (exact absurd htest t1) | (exact absurd t1 htest) | (exact absurd (by decide) htest) | (conv => whnf)) | (refine allLst (x := pl) hlast0 hlast' ?_; conv => whnf) | (refine allG (x := _) (by first | exact hq0 | simpa [List.getElem?_append_right, lowOf] using hq0 | fail) ?_; conv => whnf) | (refine allLst (x := _) (by first | omega | assumption | fail) (by first | exact hq0 | simpa using hq0 | fail) ?_; conv => whnf) | (refine allG (x := _) (by first | exact hm0 | simpa [List.getElem?_append_right, lowOf] using hm0 | fail) ?_; conv => whnf) | (refine allLst (x := _) (by first | omega | assumption | fail) (by first | exact hm0 | simpa using hm0 | fail) ?_; conv => whnf) | (refine allG (x := _) (by first | exact hn0 | simpa [List.getElem?_append_right, lowOf] using hn0 | fail) ?_; conv => whnf) | (refine allLst (x := _) (by first | omega | assumption | fail) (by first | exact hn0 | simpa using hn0 | fail) ?_; conv => whnf) | (refine allG rfl ?_; conv => whnf) | (refine And.intro (by first | omega | assumption | kernel_rfl | exact And.intro rfl rfl | ((try dsimp only [inR, idx, lowOf]); first | omega | (with_reducible decide) | (simp; omega) | (simp; done) | fail) | fail) ?_; conv => whnf) | fail)
      refine ⟨none, ?_⟩
      conv => whnf
      conv => whnf
      repeat' (first | (refine tell (fun htest => ?_) (fun htest => ?_) <;> (try dsimp only at htest) <;> first | (exfalso; omega) | (exact absurd rfl htest) | (exact absurd htest hne) | (exact absurd hne htest) | (exact absurd htest hcne) | (exact absurd htest t1) | (exact absurd t1 htest) | (exact absurd (by decide) htest) | (conv => whnf)) | (refine allG rfl ?_; conv => whnf) | (refine And.intro (by first | omega | assumption | kernel_rfl | exact And.intro rfl rfl | ((try dsimp only [inR, idx, lowOf]); first | omega | (with_reducible decide) | (simp; omega) | (simp; done) | fail) | fail) ?_; conv => whnf) | fail)
      refine ⟨none, ?_⟩
      conv => whnf
      generalize hALL : p.take (2 * k + 1) ++ (q.take (2 * k2 + 1)).drop 1 = ALL at *
      generalize hLL : 2 * k + 1 + 2 * k2 = LL at *
      generalize hel : fitL c raw = el at *
      have hell := hfr.2
      conv => whnf
      repeat' (first | (refine tell (fun htest => ?_) (fun htest => ?_) <;> (try dsimp only at htest) <;> first | (exfalso; omega) | (exact absurd rfl htest) | (exact absurd htest hne) | (exact absurd hne htest) | (exact absurd htest hcne) | (exact absurd htest t1) | (exact absurd t1 htest) | (exact absurd (by decide) htest) | (conv => whnf)) | (refine allG rfl ?_; conv => whnf) | (refine And.intro (by first | omega | assumption | kernel_rfl | exact And.intro rfl rfl | ((try dsimp only [inR, idx, lowOf]); first | omega | (with_reducible decide) | (simp; omega) | (simp; done) | fail) | fail) ?_; conv => whnf) | fail)
      refine ⟨none, ?_⟩
      conv => whnf
      conv => whnf
      repeat' (first | (refine tell (fun htest => ?_) (fun htest => ?_) <;> (try dsimp only at htest) <;> first | (exfalso; omega) | (exact absurd rfl htest) | (exact absurd htest hne) | (exact absurd hne htest) | (exact absurd htest hcne) | (exact absurd htest t1) | (exact absurd t1 htest) | (exact absurd (by decide) htest) | (conv => whnf)) | (refine allG rfl ?_; conv => whnf) | (refine And.intro (by first | omega | assumption | kernel_rfl | exact And.intro rfl rfl | ((try dsimp only [inR, idx, lowOf]); first | omega | (with_reducible decide) | (simp; omega) | (simp; done) | fail) | fail) ?_; conv => whnf) | fail)
      refine ⟨Nat, fun j => ⟨[(9, vB true), (10, .ptr 1010 0 2 0), (17, .sl 3017 1 0 LL), (18, vI ((1 + 2 * j : Nat) : Int))], [(1010, layC (fitN c) el), (3017, .arr 3 ALL)]⟩, fun j => 1 + 2 * j ≤ LL, fun j => LL - j, fun _ _ => rfl, ⟨0, [], (by omega), ?_⟩, ?_⟩
      · refine ⟨rfl, ?_, ?_, rfl⟩
        all_goals (repeat' (first | exact trivial | exact rfl | refine And.intro ?_ ?_ | (refine congrArg vI ?_; first | omega | (dsimp only; omega) | fail) | (refine congrArg some ?_) | omega | exact Nat.le_refl _ | exact congrArg (SV.lst _) (List.take_of_length_le (Nat.le_refl _)).symm))
      rintro (j : Nat) (hj : 1 + 2 * j ≤ LL)
      by_cases hjl : 1 + 2 * j + 1 < LL
      · have hobt := hje (1 + 2 * j) (by omega) (by omega)
        obtain ⟨jj, ⟨(d0 : Int), (d1 : Int), (d2 : Int)⟩, e1, e2, e3, e4⟩ := hobt
        have hjj := (List.getElem?_eq_some_iff.1 e2).1
        have hobt : ∃ y : Int, y = 1000 + (jj : Int) := ⟨_, rfl⟩
        obtain ⟨(xk : Int), hxk⟩ := hobt
        rw [← hxk] at e1
        have g1 : ALL[0 + (((1 + 2 * j : Nat) : Int)).toNat]? = some xk := by rw [Nat.zero_add]; exact e1
        have g3 : ALL[0 + (((1 + 2 * j : Nat) : Int) - 1).toNat]? = some d0 := by rw [Nat.zero_add, show (((1 + 2 * j : Nat) : Int) - 1).toNat = 1 + 2 * j - 1 by omega]; exact e3
        have g4 : ALL[0 + (((1 + 2 * j : Nat) : Int) + 1).toNat]? = some d1 := by rw [Nat.zero_add, show (((1 + 2 * j : Nat) : Int) + 1).toNat = 1 + 2 * j + 1 by omega]; exact e4
        have g0 : 0 ≤ xk - 1000 := by omega
        have g2 : el[(xk - 1000).toNat]? = some (d0, d1, d2) := by rw [show (xk - 1000).toNat = jj by omega]; exact e2
        conv => whnf
        repeat' (first | (refine tell (fun htest => ?_) (fun htest => ?_) <;> (try dsimp only at htest) <;> first | (exfalso; omega) | (exact absurd rfl htest) | (exact absurd htest hne) | (exact absurd hne htest) | (exact absurd htest hcne) | (exact absurd htest t1) | (exact absurd t1 htest) | (exact absurd (by decide) htest) | (conv => whnf)) | (refine allG (x := xk) (by first | exact g1 | simpa [List.getElem?_append_right, lowOf] using g1 | fail) ?_; conv => whnf) | (refine allLst (x := xk) (by first | omega | assumption | fail) (by first | exact g1 | simpa using g1 | fail) ?_; conv => whnf) | (refine allLst (x := _) g0 g2 ?_; conv => whnf) | (refine allG (x := d0) (by first | exact g3 | simpa [List.getElem?_append_right, lowOf] using g3 | fail) ?_; conv => whnf) | (refine allLst (x := d0) (by first | omega | assumption | fail) (by first | exact g3 | simpa using g3 | fail) ?_; conv => whnf) | (refine allG (x := d1) (by first | exact g4 | simpa [List.getElem?_append_right, lowOf] using g4 | fail) ?_; conv => whnf) | (refine allLst (x := d1) (by first | omega | assumption | fail) (by first | exact g4 | simpa using g4 | fail) ?_; conv => whnf) | (refine allG rfl ?_; conv => whnf) | (refine ⟨none, ?_⟩; conv => whnf) | (refine And.intro (by first | omega | assumption | kernel_rfl | exact And.intro rfl rfl | ((try dsimp only [inR, idx, lowOf]); first | omega | (with_reducible decide) | (simp; omega) | (simp; done) | fail) | fail) ?_; conv => whnf) | fail)
        refine ⟨j + 1, [], (by omega), ?_, rfl, ?_, ?_, rfl⟩
        · dsimp only; first | omega | (simp; done) | (simp; omega)
        all_goals (repeat' (first | exact trivial | exact rfl | refine And.intro ?_ ?_ | (refine congrArg vI ?_; first | omega | (dsimp only; omega) | fail) | (refine congrArg some ?_) | omega | exact Nat.le_refl _ | exact congrArg (SV.lst _) (List.take_of_length_le (Nat.le_refl _)).symm))
      · conv => whnf
        repeat' (first | (refine tell (fun htest => ?_) (fun htest => ?_) <;> (try dsimp only at htest) <;> first | (exfalso; omega) | (exact absurd rfl htest) | (exact absurd htest hne) | (exact absurd hne htest) | (exact absurd htest hcne) | (exact absurd htest t1) | (exact absurd t1 htest) | (exact absurd (by decide) htest) | (conv => whnf)) | (refine allG rfl ?_; conv => whnf) | (refine ⟨none, ?_⟩; conv => whnf) | (refine And.intro (by first | omega | assumption | kernel_rfl | exact And.intro rfl rfl | ((try dsimp only [inR, idx, lowOf]); first | omega | (with_reducible decide) | (simp; omega) | (simp; done) | fail) | fail) ?_; conv => whnf) | fail)
        refine ⟨(), [], trivial, ?_, ?_, ?_⟩
        all_goals (repeat' (first | exact trivial | exact rfl | refine And.intro ?_ ?_ | (refine congrArg vI ?_; first | omega | (dsimp only; omega) | fail) | (refine congrArg some ?_) | omega | exact Nat.le_refl _ | exact congrArg (SV.lst _) (List.take_of_length_le (Nat.le_refl _)).symm))
    · have hup := hF.2.2.2 hod
      conv => whnf
      repeat' (first | (refine tell (fun htest => ?_) (fun htest => ?_) <;> (try dsimp only at htest) <;> first | (exfalso; omega) | (exact absurd rfl htest) | (exact absurd htest hne) | (exact absurd hne htest) | (exact absurd htest hcne) | (exact absurd htest t1) | (exact absurd t1 htest) | (exact absurd (by decide) htest) | (conv => whnf)) | (refine allG rfl ?_; conv => whnf) | (refine ⟨none, ?_⟩; conv => whnf) | (refine And.intro (by first | omega | assumption | kernel_rfl | exact And.intro rfl rfl | ((try dsimp only [inR, idx, lowOf]); first | omega | (with_reducible decide) | (simp; omega) | (simp; done) | fail) | fail) ?_; conv => whnf) | fail)
      refine ⟨(), [], trivial, ?_, ?_, ?_⟩
      all_goals (repeat' (first | exact trivial | exact rfl | refine And.intro ?_ ?_ | (refine congrArg vI ?_; first | omega | (dsimp only; omega) | fail) | (refine congrArg some ?_) | omega | exact Nat.le_refl _ | exact congrArg (SV.lst _) (List.take_of_length_le (Nat.le_refl _)).symm))
  · conv => whnf
    repeat' (first | (refine tell (fun htest => ?_) (fun htest => ?_) <;> (try dsimp only at htest) <;> first | (exfalso; omega) | (exact absurd rfl htest) | (exact absurd htest hne) | (exact absurd hne htest) | (exact absurd htest hcne) | (exact absurd htest t1) | (exact absurd t1 htest) | (exact absurd (by decide) htest) | (conv => whnf)) | (refine allG rfl ?_; conv => whnf) | (refine And.intro (by first | omega | assumption | kernel_rfl | exact And.intro rfl rfl | ((try dsimp only [inR, idx, lowOf]); first | omega | (with_reducible decide) | (simp; omega) | (simp; done) | fail) | fail) ?_; conv => whnf) | fail)
    refine ⟨none, ?_⟩
    conv => whnf
    conv => whnf
    repeat' (first | (refine tell (fun htest => ?_) (fun htest => ?_) <;> (try dsimp only at htest) <;> first | (exfalso; omega) | (exact absurd rfl htest) | (exact absurd htest hne) | (exact absurd hne htest) | (exact absurd htest hcne) | (exact absurd htest t1) | (exact absurd t1 htest) | (exact absurd (by decide) htest) | (conv => whnf)) | (refine allG rfl ?_; conv => whnf) | (refine And.intro (by first | omega | assumption | kernel_rfl | exact And.intro rfl rfl | ((try dsimp only [inR, idx, lowOf]); first | omega | (with_reducible decide) | (simp; omega) | (simp; done) | fail) | fail) ?_; conv => whnf) | fail)
    refine ⟨none, ?_⟩
    conv => whnf
    conv => whnf
    repeat' (first | (refine tell (fun htest => ?_) (fun htest => ?_) <;> (try dsimp only at htest) <;> first | (exfalso; omega) | (exact absurd rfl htest) | (exact absurd htest hne) | (exact absurd hne htest) | (exact absurd htest hcne) | (exact absurd htest t1) | (exact absurd t1 htest) | (exact absurd (by decide) htest) | (conv => whnf)) | (refine allG rfl ?_; conv => whnf) | (refine And.intro (by first | omega | assumption | kernel_rfl | exact And.intro rfl rfl | ((try dsimp only [inR, idx, lowOf]); first | omega | (with_reducible decide) | (simp; omega) | (simp; done) | fail) | fail) ?_; conv => whnf) | fail)
    refine ⟨none, ?_⟩
    conv => whnf
    conv => whnf
    repeat' (first | (refine tell (fun htest => ?_) (fun htest => ?_) <;> (try dsimp only at htest) <;> first | (exfalso; omega) | (exact absurd rfl htest) | (exact absurd htest hne) | (exact absurd hne htest) | (exact absurd htest hcne) | (exact absurd htest t1) | (exact absurd t1 htest) | (exact absurd (by decide) htest) | (conv => whnf)) | (refine allG rfl ?_; conv => whnf) | (refine And.intro (by first | omega | assumption | kernel_rfl | exact And.intro rfl rfl | ((try dsimp only [inR, idx, lowOf]); first | omega | (with_reducible decide) | (simp; omega) | (simp; done) | fail) | fail) ?_; conv => whnf) | fail)
    refine ⟨some (⟨[(7, .ptr 1007 0 7 0), (9, vB true), (10, .ptr 1010 0 2 0), (11, .ptr 1011 0 6 0), (13, .lst 3 (p.take (2 * k + 1)))], [(1007, .cells [vI b1, vI b2, vI b3, vI b4, vI b5, vI b6, .lst 3 bts]), (1010, layC (fitN c) (fitL c raw)), (1011, .cells (ordCs O1))]⟩, []), ?_⟩
    conv => whnf
    refine And.intro rfl (And.intro ?_ ?_)
    · refine ⟨rfl, ?_, ?_, rfl⟩
      all_goals (repeat' (first | exact trivial | exact rfl | refine And.intro ?_ ?_ | (refine congrArg vI ?_; first | omega | (dsimp only; omega) | fail) | (refine congrArg some ?_) | omega | exact Nat.le_refl _ | exact congrArg (SV.lst _) (List.take_of_length_le (Nat.le_refl _)).symm))
    have hB : RawIn (b1, b2, b3, b4, b5, b6, bts) := ⟨i1, i2, i3, i4, i5, i6, i7, i8⟩
    clear i1 i2 i3 i4 i5 i6 i7 i8 hx hbase
    as_aux_lemma =>
    conv => whnf
    repeat' (first | (refine tell (fun htest => ?_) (fun htest => ?_) <;> (try dsimp only at htest) <;> first | (exfalso; omega) | (exact absurd rfl htest) | (exact absurd htest hne) | (exact absurd hne htest) | (exact absurd htest hcne) | (exact absurd htest t1) | (exact absurd t1 htest) | (exact absurd (by decide) htest) | (conv => whnf)) | (refine allG rfl ?_; conv => whnf) | (refine ⟨none, ?_⟩; conv => whnf) | (refine And.intro (by first | omega | assumption | kernel_rfl | exact And.intro rfl rfl | ((try dsimp only [inR, idx, lowOf]); first | omega | (with_reducible decide) | (simp; omega) | (simp; done) | fail) | fail) ?_; conv => whnf) | fail)
    refine ⟨_, m_make13, ((fitN c, fitL c raw), (b1, b2, b3, b4, b5, b6, bts)), [], false, ?_⟩
    conv => whnf
    refine And.intro (vc0 ⟨hfr.1, hB⟩ (by (repeat' (first | exact trivial | exact rfl | refine And.intro ?_ ?_ | (refine congrArg vI ?_; first | omega | (dsimp only; omega) | fail) | (refine congrArg some ?_) | omega | exact Nat.le_refl _ | exact congrArg (SV.lst _) (List.take_of_length_le (Nat.le_refl _)).symm))) (by repeat' (first | exact trivial | exact rfl | refine And.intro ?_ ?_ | (refine congrArg vI ?_; first | omega | (dsimp only; omega) | fail) | (refine congrArg some ?_) | omega | exact Nat.le_refl _ | exact congrArg (SV.lst _) (List.take_of_length_le (Nat.le_refl _)).symm)) trivial trivial) ?_
    refine And.intro (way_ex hfr.1) ?_
    rintro ⟨(q : List Int), (a2 : Int)⟩ ⟨(hw2 : Way (fitN c) (fitL c raw) q a2), (hql : q.length ≤ 41)⟩
    have hodd2 := hw2.odd
    have hr2 := mkO_right hw2 hfr.1 hql (b1, b2, b3, b4, b5, b6, bts)
    have hobt := mkK_nat hw2 (b1, b2, b3, b4, b5, b6, bts)
    obtain ⟨k2, hk2, hkl2⟩ := hobt
    have hbase2 := base_nat hw2 (b1, b2, b3, b4, b5, b6, bts) hk2 hkl2
    have hobt := node0 hw2 (b1, b2, b3, b4, b5, b6, bts)
    obtain ⟨(r2 : Bool), hm0⟩ := hobt
    have hsb2 := mkS_bd (b1, b2, b3, b4, b5, b6, bts)
    have hbl2 : (q.take (2 * k2 + 1)).length = 2 * k2 + 1 := by rw [List.length_take]; omega
    have hfs : ∀ hF : FollowsP O1 (mkO (b1, b2, b3, b4, b5, b6, bts) q), O1.2.2.1 = (mkO (b1, b2, b3, b4, b5, b6, bts) q).2.2.1 → O1.2.2.2.1 < (mkO (b1, b2, b3, b4, b5, b6, bts) q).2.2.2.1 ∧ q.getD 0 0 = pl ∧ mkS (b1, b2, b3, b4, b5, b6, bts) = s + 2 * (k : Int) := fun hF ho => by
      rw [← hOO] at hF ho ⊢
      have h := follows_same hodd hodd2 (by omega) (by omega) hF ho
      rw [hk, hss, show (((k + 1 : Nat) : Int) - 1).toNat = k by omega, hpp] at h
      exact ⟨h.1, h.2.1, by have := h.2.2; omega⟩
    conv => whnf
    repeat' (first | (refine tell (fun htest => ?_) (fun htest => ?_) <;> (try dsimp only at htest) <;> first | (exfalso; omega) | (exact absurd rfl htest) | (exact absurd htest hne) | (exact absurd hne htest) | (exact absurd htest hcne) | (exact absurd htest t1) | (exact absurd t1 htest) | (exact absurd (by decide) htest) | (conv => whnf)) | (refine allG rfl ?_; conv => whnf) | (refine And.intro (by first | omega | assumption | kernel_rfl | exact And.intro rfl rfl | ((try dsimp only [inR, idx, lowOf]); first | omega | (with_reducible decide) | (simp; omega) | (simp; done) | fail) | fail) ?_; conv => whnf) | fail)
    refine ⟨some (⟨[(9, vB true), (10, .ptr 1010 0 2 0), (11, .ptr 1011 0 6 0), (13, .lst 3 (p.take (2 * k + 1))), (14, .ptr 1014 0 6 0)], [(1010, layC (fitN c) (fitL c raw)), (1011, .cells (ordCs O1)), (1014, .cells (ordCs (mkO (b1, b2, b3, b4, b5, b6, bts) q)))]⟩, []), ?_⟩
    conv => whnf
    refine And.intro rfl (And.intro ?_ ?_)
    · refine ⟨rfl, ?_, ?_, rfl⟩
      all_goals (repeat' (first | exact trivial | exact rfl | refine And.intro ?_ ?_ | (refine congrArg vI ?_; first | omega | (dsimp only; omega) | fail) | (refine congrArg some ?_) | omega | exact Nat.le_refl _ | exact congrArg (SV.lst _) (List.take_of_length_le (Nat.le_refl _)).symm))
    generalize hO2 : mkO (b1, b2, b3, b4, b5, b6, bts) q = O2 at *
    generalize hs2 : mkS (b1, b2, b3, b4, b5, b6, bts) = s2 at *
    conv => whnf
    repeat' (first | (refine tell (fun htest => ?_) (fun htest => ?_) <;> (try dsimp only at htest) <;> first | (exfalso; omega) | (exact absurd rfl htest) | (exact absurd htest hne) | (exact absurd hne htest) | (exact absurd htest hcne) | (exact absurd htest t1) | (exact absurd t1 htest) | (exact absurd (by decide) htest) | (conv => whnf)) | (refine allG rfl ?_; conv => whnf) | (refine And.intro (by first | omega | assumption | kernel_rfl | exact And.intro rfl rfl | ((try dsimp only [inR, idx, lowOf]); first | omega | (with_reducible decide) | (simp; omega) | (simp; done) | fail) | fail) ?_; conv => whnf) | fail)
    refine ⟨_, m_follows, (O1, O2), [], false, ?_⟩
    conv => whnf
    refine And.intro (vc0 ⟨hr, hr2⟩ (by (repeat' (first | exact trivial | exact rfl | refine And.intro ?_ ?_ | (refine congrArg vI ?_; first | omega | (dsimp only; omega) | fail) | (refine congrArg some ?_) | omega | exact Nat.le_refl _ | exact congrArg (SV.lst _) (List.take_of_length_le (Nat.le_refl _)).symm))) (by repeat' (first | exact trivial | exact rfl | refine And.intro ?_ ?_ | (refine congrArg vI ?_; first | omega | (dsimp only; omega) | fail) | (refine congrArg some ?_) | omega | exact Nat.le_refl _ | exact congrArg (SV.lst _) (List.take_of_length_le (Nat.le_refl _)).symm)) trivial trivial) ?_
    refine And.intro (prop_ex _) ?_
    intro (c3 : Bool) (hc3 : c3 = true ↔ FollowsP O1 O2)
    cases c3
    · conv => whnf
      repeat' (first | (refine tell (fun htest => ?_) (fun htest => ?_) <;> (try dsimp only at htest) <;> first | (exfalso; omega) | (exact absurd rfl htest) | (exact absurd htest hne) | (exact absurd hne htest) | (exact absurd htest hcne) | (exact absurd htest t1) | (exact absurd t1 htest) | (exact absurd (by decide) htest) | (conv => whnf)) | (refine allG rfl ?_; conv => whnf) | (refine ⟨none, ?_⟩; conv => whnf) | (refine And.intro (by first | omega | assumption | kernel_rfl | exact And.intro rfl rfl | ((try dsimp only [inR, idx, lowOf]); first | omega | (with_reducible decide) | (simp; omega) | (simp; done) | fail) | fail) ?_; conv => whnf) | fail)
      refine ⟨(), [], trivial, ?_, ?_, ?_⟩
      all_goals (repeat' (first | exact trivial | exact rfl | refine And.intro ?_ ?_ | (refine congrArg vI ?_; first | omega | (dsimp only; omega) | fail) | (refine congrArg some ?_) | omega | exact Nat.le_refl _ | exact congrArg (SV.lst _) (List.take_of_length_le (Nat.le_refl _)).symm))
    have hF := hc3.1 rfl
    have hhd := hF.2.1
    conv => whnf
    repeat' (first | (refine tell (fun htest => ?_) (fun htest => ?_) <;> (try dsimp only at htest) <;> first | (exfalso; omega) | (exact absurd rfl htest) | (exact absurd htest hne) | (exact absurd hne htest) | (exact absurd htest hcne) | (exact absurd htest t1) | (exact absurd t1 htest) | (exact absurd (by decide) htest) | (conv => whnf)) | (refine allG rfl ?_; conv => whnf) | (refine ⟨none, ?_⟩; conv => whnf) | (refine And.intro (by first | omega | assumption | kernel_rfl | exact And.intro rfl rfl | ((try dsimp only [inR, idx, lowOf]); first | omega | (with_reducible decide) | (simp; omega) | (simp; done) | fail) | fail) ?_; conv => whnf) | fail)
    refine ⟨_, m_baseW, O2, [], false, ?_⟩
    conv => whnf
    refine And.intro (vc0 hr2 (by (repeat' (first | exact trivial | exact rfl | refine And.intro ?_ ?_ | (refine congrArg vI ?_; first | omega | (dsimp only; omega) | fail) | (refine congrArg some ?_) | omega | exact Nat.le_refl _ | exact congrArg (SV.lst _) (List.take_of_length_le (Nat.le_refl _)).symm))) (by repeat' (first | exact trivial | exact rfl | refine And.intro ?_ ?_ | (refine congrArg vI ?_; first | omega | (dsimp only; omega) | fail) | (refine congrArg some ?_) | omega | exact Nat.le_refl _ | exact congrArg (SV.lst _) (List.take_of_length_le (Nat.le_refl _)).symm)) trivial trivial) ?_
    refine And.intro ⟨(), trivial⟩ (fun (_ : Unit) _ => ?_)
    conv => whnf
    conv => whnf
    repeat' (first | (refine tell (fun htest => ?_) (fun htest => ?_) <;> (try dsimp only at htest) <;> first | (exfalso; omega) | (exact absurd rfl htest) | (exact absurd htest hne) | (exact absurd hne htest) | (exact absurd htest hcne) | (exact absurd htest t1) | (exact absurd t1 htest) | (exact absurd (by decide) htest) | (conv => whnf)) | (refine allG rfl ?_; conv => whnf) | (refine And.intro (by first | omega | assumption | kernel_rfl | exact And.intro rfl rfl | ((try dsimp only [inR, idx, lowOf]); first | omega | (with_reducible decide) | (simp; omega) | (simp; done) | fail) | fail) ?_; conv => whnf) | fail)
    refine ⟨some (⟨[(9, vB true), (10, .ptr 1010 0 2 0), (11, .ptr 1011 0 6 0), (13, .lst 3 (p.take (2 * k + 1))), (14, .ptr 1014 0 6 0), (16, .lst 3 (q.take (2 * k2 + 1)))], [(1010, layC (fitN c) (fitL c raw)), (1011, .cells (ordCs O1)), (1014, .cells (ordCs O2))]⟩, []), ?_⟩
    conv => whnf
    refine And.intro rfl (And.intro ?_ ?_)
    · refine ⟨rfl, ?_, ?_, rfl⟩
      all_goals (repeat' (first | exact trivial | exact rfl | refine And.intro ?_ ?_ | (refine congrArg vI ?_; first | omega | (dsimp only; omega) | fail) | (refine congrArg some ?_) | omega | exact Nat.le_refl _ | exact congrArg (SV.lst _) (List.take_of_length_le (Nat.le_refl _)).symm))
      all_goals (exact congrArg (SV.lst (A := AF) 3) hbase2)
    by_cases hod : O1.2.2.1 = O2.2.2.1
    · have hobt := hfs hF hod
      obtain ⟨f1, f2, f3⟩ := hobt
      have hq0 : (q.take (2 * k2 + 1))[0]? = some pl := by rw [List.getElem?_take_of_lt (by omega), at_of (by omega), f2]
      have hdl : (p.take (2 * k + 1)).length + ((q.take (2 * k2 + 1)).drop 1).length = 2 * k + 1 + 2 * k2 := by rw [List.length_drop]; omega
      have hje := join_edges hw hw2 hkl hkl2 (by rw [f2, hpp])
      have hal : (p.take (2 * k + 1) ++ (q.take (2 * k2 + 1)).drop 1).length = 2 * k + 1 + 2 * k2 := by rw [List.length_append, List.length_drop]; omega
      conv => whnf
      repeat' (first | (refine tell (fun htest => ?_) (fun htest => ?_) <;> (try dsimp only at htest) <;> first | (exfalso; omega) | (exact absurd rfl htest) | (exact absurd htest hne) | (exact absurd hne htest) | (exact absurd htest hcne) | (exact absurd htest t1) | (exact absurd t1 htest) | (exact absurd (by decide) htest) | (conv => whnf)) | (refine allG rfl ?_; conv => whnf) | (refine And.intro (by first | omega | assumption | kernel_rfl | exact And.intro rfl rfl | ((try dsimp only [inR, idx, lowOf]); first | omega | (with_reducible decide) | (simp; omega) | (simp; done) | fail) | fail) ?_; conv => whnf) | fail)
      refine ⟨none, ?_⟩
      conv => whnf
      conv => whnf
      repeat' (first | (refine tell (fun htest => ?_) (fun htest => ?_) <;> (try dsimp only at htest) <;> first | (exfalso; omega) | (exact absurd rfl htest) | (exact absurd htest hne) | (exact absurd hne htest) | (exact absurd htest hcne) | (exact absurd htest t1) | (exact absurd t1 htest) | (exact absurd (by decide) htest) | (conv => whnf)) | (refine allG rfl ?_; conv => whnf) | (refine And.intro (by first | omega | assumption | kernel_rfl | exact And.intro rfl rfl | ((try dsimp only [inR, idx, lowOf]); first | omega | (with_reducible decide) | (simp; omega) | (simp; done) | fail) | fail) ?_; conv => whnf) | fail)
      refine ⟨none, ?_⟩
      conv => whnf
      conv => whnf
      repeat' (first | (refine tell (fun htest => ?_) (fun htest => ?_) <;> (try dsimp only at htest) <;> first | (exfalso; omega) | (exact absurd rfl htest) | (exact absurd htest hne) | (exact absurd hne htest) | (exact absurd htest hcne) | (exact absurd htest t1) | (exact absurd t1 htest) | (exact absurd (by decide) htest) | (conv => whnf)) | (refine allG rfl ?_; conv => whnf) | (refine And.intro (by first | omega | assumption | kernel_rfl | exact And.intro rfl rfl | ((try dsimp only [inR, idx, lowOf]); first | omega | (with_reducible decide) | (simp; omega) | (simp; done) | fail) | fail) ?_; conv => whnf) | fail)
      refine ⟨none, ?_⟩
      conv => whnf
      conv => whnf
      repeat' (first | (refine tell (fun htest => ?_) (fun htest => ?_) <;> (try dsimp only at htest) <;> first | (exfalso; omega) | (exact absurd rfl htest) | (exact absurd htest hne) | (exact absurd hne htest) | (exact absurd htest hcne) | (exact absurd htest t1) | (exact absurd t1 htest) | (exact absurd (by decide) htest) | (conv => whnf)) | (refine allG rfl ?_; conv => whnf) | (refine And.intro (by first | omega | assumption | kernel_rfl | exact And.intro rfl rfl | ((try dsimp only [inR, idx, lowOf]); first | omega | (with_reducible decide) | (simp; omega) | (simp; done) | fail) | fail) ?_; conv => whnf) | fail)
      refine ⟨some (⟨[(9, vB true), (10, .ptr 1010 0 2 0), (11, .ptr 1011 0 6 0), (13, .lst 3 (p.take (2 * k + 1))), (14, .ptr 1014 0 6 0), (16, .lst 3 (q.take (2 * k2 + 1))), (17, .sl 3017 1 0 (2 * k + 1 + 2 * k2))], [(1010, layC (fitN c) (fitL c raw)), (1011, .cells (ordCs O1)), (1014, .cells (ordCs O2)), (3017, .arr 3 (p.take (2 * k + 1) ++ (q.take (2 * k2 + 1)).drop 1))]⟩, [(3017, 1089)]), ?_⟩
      conv => whnf
      refine And.intro rfl (And.intro ?_ ?_)
      · refine ⟨rfl, ?_, ?_, rfl⟩
        all_goals (repeat' (first | exact trivial | exact rfl | refine And.intro ?_ ?_ | (refine congrArg vI ?_; first | omega | (dsimp only; omega) | fail) | (refine congrArg some ?_) | omega | exact Nat.le_refl _ | exact congrArg (SV.lst _) (List.take_of_length_le (Nat.le_refl _)).symm))
        all_goals (first | exact congrArg (SV.sl (A := AF) 1089 1 0) hdl | exact congrArg (Ct.arr (A := AF) 3) (congrArg (· ++ (q.take (2 * k2 + 1)).drop 1) (cop_eq2 (p.take (2 * k + 1)))) | fail)
      conv => whnf
      repeat' (first | (refine tell (fun htest => ?_) (fun htest => ?_) <;> (try dsimp only at htest) <;> first | (exfalso; omega) | (exact absurd rfl htest) | (exact absurd htest hne) | (exact absurd hne htest) | (exact absurd htest hcne) | (exact absurd htest t1) | (exact absurd t1 htest) | (exact absurd (by decide) htest) | (conv => whnf)) | (refine allLst (x := pl) hlast0 hlast' ?_; conv => whnf) | (refine allG (x := _) (by first | exact hq0 | simpa [List.getElem?_append_right, lowOf] using hq0 | fail) ?_; conv => whnf) | (refine allLst (x := _) (by first | omega | assumption | fail) (by first | exact hq0 | simpa using hq0 | fail) ?_; conv => whnf) | (refine allG (x := _) (by first | exact hm0 | simpa [List.getElem?_append_right, lowOf] using hm0 | fail) ?_; conv => whnf) | (refine allLst (x := _) (by first | omega | assumption | fail) (by first | exact hm0 | simpa using hm0 | fail) ?_; conv => whnf) | (refine allG (x := _) (by first | exact hn0 | simpa [List.getElem?_append_right, lowOf] using hn0 | fail) ?_; conv => whnf) | (refine allLst (x := _) (by first | omega | assumption | fail) (by first | exact hn0 | simpa using hn0 | fail) ?_; conv => whnf) | (refine allG rfl ?_; conv => whnf) | (refine And.intro (by first | omega | assumption | kernel_rfl | exact And.intro rfl rfl | ((try dsimp only [inR, idx, lowOf]); first | omega | (with_reducible decide) | (simp; omega) | (simp; done) | fail) | fail) ?_; conv => whnf) | fail)
      refine ⟨none, ?_⟩
      conv => whnf
      conv => whnf
      repeat' (first | (refine tell (fun htest => ?_) (fun htest => ?_) <;> (try dsimp only at htest) <;> first | (exfalso; omega) | (exact absurd rfl htest) | (exact absurd htest hne) | (exact absurd hne htest) | (exact absurd htest hcne) | (exact absurd htest t1) | (exact absurd t1 htest) | (exact absurd (by decide) htest) | (conv => whnf)) | (refine allG rfl ?_; conv => whnf) | (refine And.intro (by first | omega | assumption | kernel_rfl | exact And.intro rfl rfl | ((try dsimp only [inR, idx, lowOf]); first | omega | (with_reducible decide) | (simp; omega) | (simp; done) | fail) | fail) ?_; conv => whnf) | fail)
      refine ⟨none, ?_⟩
      conv => whnf
      generalize hALL : p.take (2 * k + 1) ++ (q.take (2 * k2 + 1)).drop 1 = ALL at *
      generalize hLL : 2 * k + 1 + 2 * k2 = LL at *
      generalize hel : fitL c raw = el at *
      have hell := hfr.2
      conv => whnf
      repeat' (first | (refine tell (fun htest => ?_) (fun htest => ?_) <;> (try dsimp only at htest) <;> first | (exfalso; omega) | (exact absurd rfl htest) | (exact absurd htest hne) | (exact absurd hne htest) | (exact absurd htest hcne) | (exact absurd htest t1) | (exact absurd t1 htest) | (exact absurd (by decide) htest) | (conv => whnf)) | (refine allG rfl ?_; conv => whnf) | (refine And.intro (by first | omega | assumption | kernel_rfl | exact And.intro rfl rfl | ((try dsimp only [inR, idx, lowOf]); first | omega | (with_reducible decide) | (simp; omega) | (simp; done) | fail) | fail) ?_; conv => whnf) | fail)
      refine ⟨none, ?_⟩
      conv => whnf
      conv => whnf
      repeat' (first | (refine tell (fun htest => ?_) (fun htest => ?_) <;> (try dsimp only at htest) <;> first | (exfalso; omega) | (exact absurd rfl htest) | (exact absurd htest hne) | (exact absurd hne htest) | (exact absurd htest hcne) | (exact absurd htest t1) | (exact absurd t1 htest) | (exact absurd (by decide) htest) | (conv => whnf)) | (refine allG rfl ?_; conv => whnf) | (refine And.intro (by first | omega | assumption | kernel_rfl | exact And.intro rfl rfl | ((try dsimp only [inR, idx, lowOf]); first | omega | (with_reducible decide) | (simp; omega) | (simp; done) | fail) | fail) ?_; conv => whnf) | fail)
      refine ⟨Nat, fun j => ⟨[(9, vB true), (10, .ptr 1010 0 2 0), (17, .sl 3017 1 0 LL), (18, vI ((1 + 2 * j : Nat) : Int))], [(1010, layC (fitN c) el), (3017, .arr 3 ALL)]⟩, fun j => 1 + 2 * j ≤ LL, fun j => LL - j, fun _ _ => rfl, ⟨0, [], (by omega), ?_⟩, ?_⟩
      · refine ⟨rfl, ?_, ?_, rfl⟩
        all_goals (repeat' (first | exact trivial | exact rfl | refine And.intro ?_ ?_ | (refine congrArg vI ?_; first | omega | (dsimp only; omega) | fail) | (refine congrArg some ?_) | omega | exact Nat.le_refl _ | exact congrArg (SV.lst _) (List.take_of_length_le (Nat.le_refl _)).symm))
      rintro (j : Nat) (hj : 1 + 2 * j ≤ LL)
      by_cases hjl : 1 + 2 * j + 1 < LL
      · have hobt := hje (1 + 2 * j) (by omega) (by omega)
        obtain ⟨jj, ⟨(d0 : Int), (d1 : Int), (d2 : Int)⟩, e1, e2, e3, e4⟩ := hobt
        have hjj := (List.getElem?_eq_some_iff.1 e2).1
        have hobt : ∃ y : Int, y = 1000 + (jj : Int) := ⟨_, rfl⟩
        obtain ⟨(xk : Int), hxk⟩ := hobt
        rw [← hxk] at e1
        have g1 : ALL[0 + (((1 + 2 * j : Nat) : Int)).toNat]? = some xk := by rw [Nat.zero_add]; exact e1
        have g3 : ALL[0 + (((1 + 2 * j : Nat) : Int) - 1).toNat]? = some d0 := by rw [Nat.zero_add, show (((1 + 2 * j : Nat) : Int) - 1).toNat = 1 + 2 * j - 1 by omega]; exact e3
        have g4 : ALL[0 + (((1 + 2 * j : Nat) : Int) + 1).toNat]? = some d1 := by rw [Nat.zero_add, show (((1 + 2 * j : Nat) : Int) + 1).toNat = 1 + 2 * j + 1 by omega]; exact e4
        have g0 : 0 ≤ xk - 1000 := by omega
        have g2 : el[(xk - 1000).toNat]? = some (d0, d1, d2) := by rw [show (xk - 1000).toNat = jj by omega]; exact e2
        conv => whnf
        repeat' (first | (refine tell (fun htest => ?_) (fun htest => ?_) <;> (try dsimp only at htest) <;> first | (exfalso; omega) | (exact absurd rfl htest) | (exact absurd htest hne) | (exact absurd hne htest) | (exact absurd htest hcne) | (exact absurd htest t1) | (exact absurd t1 htest) | (exact absurd (by decide) htest) | (conv => whnf)) | (refine allG (x := xk) (by first | exact g1 | simpa [List.getElem?_append_right, lowOf] using g1 | fail) ?_; conv => whnf) | (refine allLst (x := xk) (by first | omega | assumption | fail) (by first | exact g1 | simpa using g1 | fail) ?_; conv => whnf) | (refine allLst (x := _) g0 g2 ?_; conv => whnf) | (refine allG (x := d0) (by first | exact g3 | simpa [List.getElem?_append_right, lowOf] using g3 | fail) ?_; conv => whnf) | (refine allLst (x := d0) (by first | omega | assumption | fail) (by first | exact g3 | simpa using g3 | fail) ?_; conv => whnf) | (refine allG (x := d1) (by first | exact g4 | simpa [List.getElem?_append_right, lowOf] using g4 | fail) ?_; conv => whnf) | (refine allLst (x := d1) (by first | omega | assumption | fail) (by first | exact g4 | simpa using g4 | fail) ?_; conv => whnf) | (refine allG rfl ?_; conv => whnf) | (refine ⟨none, ?_⟩; conv => whnf) | (refine And.intro (by first | omega | assumption | kernel_rfl | exact And.intro rfl rfl | ((try dsimp only [inR, idx, lowOf]); first | omega | (with_reducible decide) | (simp; omega) | (simp; done) | fail) | fail) ?_; conv => whnf) | fail)
        refine ⟨j + 1, [], (by omega), ?_, rfl, ?_, ?_, rfl⟩
        · dsimp only; first | omega | (simp; done) | (simp; omega)
        all_goals (repeat' (first | exact trivial | exact rfl | refine And.intro ?_ ?_ | (refine congrArg vI ?_; first | omega | (dsimp only; omega) | fail) | (refine congrArg some ?_) | omega | exact Nat.le_refl _ | exact congrArg (SV.lst _) (List.take_of_length_le (Nat.le_refl _)).symm))
      · conv => whnf
        repeat' (first | (refine tell (fun htest => ?_) (fun htest => ?_) <;> (try dsimp only at htest) <;> first | (exfalso; omega) | (exact absurd rfl htest) | (exact absurd htest hne) | (exact absurd hne htest) | (exact absurd htest hcne) | (exact absurd htest t1) | (exact absurd t1 htest) | (exact absurd (by decide) htest) | (conv => whnf)) | (refine allG rfl ?_; conv => whnf) | (refine ⟨none, ?_⟩; conv => whnf) | (refine And.intro (by first | omega | assumption | kernel_rfl | exact And.intro rfl rfl | ((try dsimp only [inR, idx, lowOf]); first | omega | (with_reducible decide) | (simp; omega) | (simp; done) | fail) | fail) ?_; conv => whnf) | fail)
        refine ⟨(), [], trivial, ?_, ?_, ?_⟩
        all_goals (repeat' (first | exact trivial | exact rfl | refine And.intro ?_ ?_ | (refine congrArg vI ?_; first | omega | (dsimp only; omega) | fail) | (refine congrArg some ?_) | omega | exact Nat.le_refl _ | exact congrArg (SV.lst _) (List.take_of_length_le (Nat.le_refl _)).symm))
    · have hup := hF.2.2.2 hod
      conv => whnf
      repeat' (first | (refine tell (fun htest => ?_) (fun htest => ?_) <;> (try dsimp only at htest) <;> first | (exfalso; omega) | (exact absurd rfl htest) | (exact absurd htest hne) | (exact absurd hne htest) | (exact absurd htest hcne) | (exact absurd htest t1) | (exact absurd t1 htest) | (exact absurd (by decide) htest) | (conv => whnf)) | (refine allG rfl ?_; conv => whnf) | (refine ⟨none, ?_⟩; conv => whnf) | (refine And.intro (by first | omega | assumption | kernel_rfl | exact And.intro rfl rfl | ((try dsimp only [inR, idx, lowOf]); first | omega | (with_reducible decide) | (simp; omega) | (simp; done) | fail) | fail) ?_; conv => whnf) | fail)
      refine ⟨(), [], trivial, ?_, ?_, ?_⟩
      all_goals (repeat' (first | exact trivial | exact rfl | refine And.intro ?_ ?_ | (refine congrArg vI ?_; first | omega | (dsimp only; omega) | fail) | (refine congrArg some ?_) | omega | exact Nat.le_refl _ | exact congrArg (SV.lst _) (List.take_of_length_le (Nat.le_refl _)).symm))
end Go.Sx

