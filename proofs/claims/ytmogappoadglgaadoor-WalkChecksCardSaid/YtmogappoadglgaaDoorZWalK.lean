/-
  Layer 13 at the door: WalkStops.
-/
import Derived.Test.YtmogappoadglgaaDoorZWam
set_option linter.unusedVariables false
set_option linter.unusedSimpArgs false
namespace Go.Sx
open Go Go.Proofs Go.Proofs.YtmogappoadglgaaDoor
def Raws3' (l : List (Int × Int × Int)) : Prop := l.length ≤ 9223372036854775807 ∧ ∀ r ∈ l, InI r.1 ∧ InI r.2.1 ∧ InI r.2.2
theorem PathOk.drop {p : List Int} (h : PathOk p) {k : Nat} (hk : 2 * k < p.length) : PathOk (p.drop (2 * k)) := by
  have h1 := h.1
  refine ⟨by rw [List.length_drop]; omega, fun i x hx => ?_⟩
  rw [List.getElem?_drop] at hx
  have := h.2 _ _ hx
  exact ⟨this.1, by have := this.2; omega⟩
theorem evN_get {p : List Int} {m j : Nat} (hj : j < m) : (evN p m)[j]? = some (p.getD (2 * j) 0) := by simp [evN, hj]
theorem nodesN_at {p : List Int} {s k : Int} {m j : Nat} (hj : j < m) : (nodesN p s k m)[j]? = some (p.getD (2 * j) 0, s + 2 * (j : Int), decide ((j : Int) < k)) := by simp [nodesN, hj]
theorem edgesN_at {p : List Int} {s k : Int} {m j : Nat} (hj : j < m) : (edgesN p s k m)[j]? = some (p.getD (2 * j + 1) 0 - 1000, s + (2 * (j : Int) + 1), decide ((j : Int) + 1 < k)) := by simp [edgesN, hj]
theorem nodes_drop (p : List Int) (k m : Nat) (hk : k ≤ m) : (nodesN p 0 m m).drop k = nodesN (p.drop (2 * k)) (2 * (k : Int)) ((m : Int) - k) (m - k) := by
  apply List.ext_getElem?
  intro j
  rw [List.getElem?_drop]
  by_cases hj : j < m - k
  · rw [nodesN_at hj, nodesN_at (show k + j < m by omega)]
    rw [List.getD_eq_getElem?_getD, List.getD_eq_getElem?_getD, List.getElem?_drop, show 2 * (k + j) = 2 * k + 2 * j by omega]
    refine congrArg some (Prod.ext rfl (Prod.ext ?_ ?_))
    · show (0 : Int) + 2 * ((k + j : Nat) : Int) = 2 * (k : Int) + 2 * (j : Int); omega
    · show decide (((k + j : Nat) : Int) < m) = decide ((j : Int) < (m : Int) - k)
      rw [decide_eq_decide]; omega
  · rw [List.getElem?_eq_none (by rw [nodesN_len]; omega), List.getElem?_eq_none (by rw [nodesN_len]; omega)]
theorem edges_drop (p : List Int) (k m : Nat) (hk : k + 1 ≤ m) : (edgesN p 0 m (m - 1)).drop k = edgesN (p.drop (2 * k)) (2 * (k : Int)) ((m : Int) - k) (m - 1 - k) := by
  apply List.ext_getElem?
  intro j
  rw [List.getElem?_drop]
  by_cases hj : j < m - 1 - k
  · rw [edgesN_at hj, edgesN_at (show k + j < m - 1 by omega)]
    rw [List.getD_eq_getElem?_getD, List.getD_eq_getElem?_getD, List.getElem?_drop, show 2 * (k + j) + 1 = 2 * k + (2 * j + 1) by omega]
    refine congrArg some (Prod.ext rfl (Prod.ext ?_ ?_))
    · show (0 : Int) + (2 * ((k + j : Nat) : Int) + 1) = 2 * (k : Int) + (2 * (j : Int) + 1); omega
    · show decide (((k + j : Nat) : Int) + 1 < m) = decide ((j : Int) + 1 < (m : Int) - k)
      rw [decide_eq_decide]; omega
  · rw [List.getElem?_eq_none (by rw [edgesN_len]; omega), List.getElem?_eq_none (by rw [edgesN_len]; omega)]
/-- An order over a path's end is what is left of the order over all of it. -/
theorem ord_drop (o : OrdT) (p : List Int) (m k : Nat) (hm : p.length + 1 = 2 * m) (hk : k < m) : ordOf o (p.drop (2 * k)) (2 * (k : Int)) ((m : Int) - k) = (o.1, o.2.1, o.2.2.1, o.2.2.2.1, (ordOf o p 0 m).2.2.2.2.1.drop k, (ordOf o p 0 m).2.2.2.2.2.drop k) := by
  have e1 : (p.length + 1) / 2 = m := by omega
  have e2 : p.length / 2 = m - 1 := by omega
  unfold ordOf
  dsimp only
  rw [List.length_drop, e1, e2, nodes_drop p k m (by omega), edges_drop p k m (by omega)]
  rw [show (p.length - 2 * k + 1) / 2 = m - k by omega, show (p.length - 2 * k) / 2 = m - 1 - k by omega]


theorem ex_true' {P : Prop} (h : P) : ∃ c : Bool, c = true ↔ P := ⟨true, by simp [h]⟩
set_option maxHeartbeats 3200000 in
set_option maxRecDepth 100000 in
theorem m_walkStops : Meets Tryd.prog regF 7 (spLaw (fun g : Int × List (Int × Int × Int) × RawT × Int => [vI g.1, .lst 96 g.2.1, rawS g.2.2.1, vI g.2.2.2]) (fun g => InI g.1 ∧ Raws3' g.2.1 ∧ RawIn g.2.2.1 ∧ InI g.2.2.2)) := by
  refine meetsC Tryd.func7 123 noWr rfl (by kernel_rfl) (by kernel_rfl) ?_
  rintro ⟨(c : Int), (raw : List (Int × Int × Int)), (x : RawT), (ct : Int)⟩ ⟨(hc : InI c), (hraw : Raws3' raw), (hx : RawIn x), (hct : InI ct)⟩
  have hfr := fit_right c raw
  conv => whnf
  repeat' (first | (refine tell (fun hQ => ?_) (fun hQ => ?_) <;> (try dsimp only at hQ) <;> first | (exfalso; omega) | (exact absurd rfl hQ) | (exact absurd (by decide) hQ) | (conv => whnf)) | (refine allG rfl ?_; conv => whnf) | (refine ⟨none, ?_⟩; conv => whnf) | (refine And.intro (by first | omega | assumption | kernel_rfl | exact And.intro rfl rfl | ((try dsimp only [inR, idx, lowOf]); first | omega | (with_reducible decide) | (simp; omega) | (simp; done) | fail) | fail) ?_; conv => whnf) | fail)
  refine ⟨_, m_awake13, (), [], false, ?_⟩
  conv => whnf
  refine And.intro (vc0 trivial (by (repeat' (first | exact trivial | exact rfl | refine And.intro ?_ ?_ | (refine congrArg vI ?_; first | omega | (dsimp only; omega) | fail) | (refine congrArg some ?_) | omega | exact Nat.le_refl _ | exact congrArg (SV.lst _) (List.take_of_length_le (Nat.le_refl _)).symm))) (by repeat' (first | exact trivial | exact rfl | refine And.intro ?_ ?_ | (refine congrArg vI ?_; first | omega | (dsimp only; omega) | fail) | (refine congrArg some ?_) | omega | exact Nat.le_refl _ | exact congrArg (SV.lst _) (List.take_of_length_le (Nat.le_refl _)).symm)) trivial trivial) ?_
  refine And.intro ⟨(), trivial⟩ (fun (_ : Unit) _ => ?_)
  conv => whnf
  conv => whnf
  repeat' (first | (refine tell (fun hQ => ?_) (fun hQ => ?_) <;> (try dsimp only at hQ) <;> first | (exfalso; omega) | (exact absurd rfl hQ) | (exact absurd (by decide) hQ) | (conv => whnf)) | (refine allG rfl ?_; conv => whnf) | (refine ⟨none, ?_⟩; conv => whnf) | (refine And.intro (by first | omega | assumption | kernel_rfl | exact And.intro rfl rfl | ((try dsimp only [inR, idx, lowOf]); first | omega | (with_reducible decide) | (simp; omega) | (simp; done) | fail) | fail) ?_; conv => whnf) | fail)
  refine ⟨_, m_fit, (c, raw), [], false, ?_⟩
  conv => whnf
  refine And.intro (vc0 ⟨hc, hraw.1, hraw.2⟩ (by (repeat' (first | exact trivial | exact rfl | refine And.intro ?_ ?_ | (refine congrArg vI ?_; first | omega | (dsimp only; omega) | fail) | (refine congrArg some ?_) | omega | exact Nat.le_refl _ | exact congrArg (SV.lst _) (List.take_of_length_le (Nat.le_refl _)).symm))) (by repeat' (first | exact trivial | exact rfl | refine And.intro ?_ ?_ | (refine congrArg vI ?_; first | omega | (dsimp only; omega) | fail) | (refine congrArg some ?_) | omega | exact Nat.le_refl _ | exact congrArg (SV.lst _) (List.take_of_length_le (Nat.le_refl _)).symm)) trivial trivial) ?_
  refine And.intro ⟨(), trivial⟩ (fun (_ : Unit) _ => ?_)
  conv => whnf
  conv => whnf
  repeat' (first | (refine tell (fun hQ => ?_) (fun hQ => ?_) <;> (try dsimp only at hQ) <;> first | (exfalso; omega) | (exact absurd rfl hQ) | (exact absurd (by decide) hQ) | (conv => whnf)) | (refine allG rfl ?_; conv => whnf) | (refine ⟨none, ?_⟩; conv => whnf) | (refine And.intro (by first | omega | assumption | kernel_rfl | exact And.intro rfl rfl | ((try dsimp only [inR, idx, lowOf]); first | omega | (with_reducible decide) | (simp; omega) | (simp; done) | fail) | fail) ?_; conv => whnf) | fail)
  refine ⟨_, m_make13, ((fitN c, fitL c raw), x), [], false, ?_⟩
  conv => whnf
  refine And.intro (vc0 ⟨hfr.1, hx⟩ (by (repeat' (first | exact trivial | exact rfl | refine And.intro ?_ ?_ | (refine congrArg vI ?_; first | omega | (dsimp only; omega) | fail) | (refine congrArg some ?_) | omega | exact Nat.le_refl _ | exact congrArg (SV.lst _) (List.take_of_length_le (Nat.le_refl _)).symm))) (by repeat' (first | exact trivial | exact rfl | refine And.intro ?_ ?_ | (refine congrArg vI ?_; first | omega | (dsimp only; omega) | fail) | (refine congrArg some ?_) | omega | exact Nat.le_refl _ | exact congrArg (SV.lst _) (List.take_of_length_le (Nat.le_refl _)).symm)) trivial trivial) ?_
  refine And.intro (way_ex hfr.1) ?_
  rintro ⟨(p : List Int), (a : Int)⟩ ⟨(hw : Way (fitN c) (fitL c raw) p a), (hpl : p.length ≤ 41)⟩
  have hodd := hw.odd
  have hsm : ∀ x ∈ p, InI x := fun x hx => by have := hw.small hfr.1 x hx; exact ⟨by omega, by omega⟩
  conv => whnf
  repeat' (first | (refine tell (fun hQ => ?_) (fun hQ => ?_) <;> (try dsimp only at hQ) <;> first | (exfalso; omega) | (exact absurd rfl hQ) | (exact absurd (by decide) hQ) | (conv => whnf)) | (refine allG rfl ?_; conv => whnf) | (refine And.intro (by first | omega | assumption | kernel_rfl | exact And.intro rfl rfl | ((try dsimp only [inR, idx, lowOf]); first | omega | (with_reducible decide) | (simp; omega) | (simp; done) | fail) | fail) ?_; conv => whnf) | fail)
  refine ⟨some (⟨[(3, vI ct), (9, vB true), (11, .ptr 1011 0 6 0), (12, .lst 3 p)], [(1011, .cells (ordCs (mkO x p)))]⟩, []), ?_⟩
  conv => whnf
  refine And.intro rfl (And.intro ?_ ?_)
  · refine ⟨rfl, ?_, ?_, rfl⟩
    all_goals (repeat' (first | exact trivial | exact rfl | refine And.intro ?_ ?_ | (refine congrArg vI ?_; first | omega | (dsimp only; omega) | fail) | (refine congrArg some ?_) | omega | exact Nat.le_refl _ | exact congrArg (SV.lst _) (List.take_of_length_le (Nat.le_refl _)).symm))
  have hok := hw.ok hfr.1
  have hsm2 := hw.small hfr.1
  have hobt : ∃ m, p.length + 1 = 2 * m := ⟨(p.length + 1) / 2, by omega⟩
  obtain ⟨m, hm⟩ := hobt
  have hM : (p.length + 1) / 2 = m := by omega
  have hev : (evN p m).length = m := evN_len p m
  have hnl : (nodesN p (mkS x) (mkK x p) m).length = m := nodesN_len p _ _ _
  have hmo : mkO x p = (pickF x.1 50, [118], pickF x.2.1 3, pickF x.2.2.1 4, nodesN p (mkS x) (mkK x p) m, edgesN p (mkS x) (mkK x p) (p.length / 2)) := by rw [← hM]; rfl
  rw [hmo]
  have hpb := pickF_bd (c := ct) (n := (m : Int)) (by omega)
  have hr1 : RightO (ordOf (mkH x) p 0 m) := mkO_right' hw hfr.1 hpl x (by decide) (by decide) (by decide) (by omega)
  clear hmo
  generalize mkS x = s at *
  generalize mkK x p = kk at *
  conv => whnf
  repeat' (first | (refine tell (fun hQ => ?_) (fun hQ => ?_) <;> (try dsimp only at hQ) <;> first | (exfalso; omega) | (exact absurd rfl hQ) | (exact absurd (by decide) hQ) | (conv => whnf)) | (refine allG rfl ?_; conv => whnf) | (refine And.intro (by first | omega | assumption | kernel_rfl | exact And.intro rfl rfl | ((try dsimp only [inR, idx, lowOf]); first | omega | (with_reducible decide) | (simp; omega) | (simp; done) | fail) | fail) ?_; conv => whnf) | fail)
  refine ⟨_, m_stops, p, [], false, ?_⟩
  conv => whnf
  refine And.intro (vc0 (by show p.length ≤ 1000000; omega) (by (repeat' (first | exact trivial | exact rfl | refine And.intro ?_ ?_ | (refine congrArg vI ?_; first | omega | (dsimp only; omega) | fail) | (refine congrArg some ?_) | omega | exact Nat.le_refl _ | exact congrArg (SV.lst _) (List.take_of_length_le (Nat.le_refl _)).symm))) (by repeat' (first | exact trivial | exact rfl | refine And.intro ?_ ?_ | (refine congrArg vI ?_; first | omega | (dsimp only; omega) | fail) | (refine congrArg some ?_) | omega | exact Nat.le_refl _ | exact congrArg (SV.lst _) (List.take_of_length_le (Nat.le_refl _)).symm)) trivial trivial) ?_
  refine And.intro ⟨(), trivial⟩ (fun (_ : Unit) _ => ?_)
  conv => whnf
  conv => whnf
  repeat' (first | (refine tell (fun hQ => ?_) (fun hQ => ?_) <;> (try dsimp only at hQ) <;> first | (exfalso; omega) | (exact absurd rfl hQ) | (exact absurd (by decide) hQ) | (conv => whnf)) | (refine allG rfl ?_; conv => whnf) | (refine And.intro (by first | omega | assumption | kernel_rfl | exact And.intro rfl rfl | ((try dsimp only [inR, idx, lowOf]); first | omega | (with_reducible decide) | (simp; omega) | (simp; done) | fail) | fail) ?_; conv => whnf) | fail)
  refine ⟨some (⟨[(3, vI ct), (9, vB true), (11, .ptr 1011 0 6 0), (12, .lst 3 p), (13, .lst 3 (evN p m))], [(1011, .cells [vI (pickF x.1 50), vS [118], vI (pickF x.2.1 3), vI (pickF x.2.2.1 4), .lst 46 (nodesN p s kk m), .lst 95 (edgesN p s kk (p.length / 2))])]⟩, []), ?_⟩
  conv => whnf
  refine And.intro rfl (And.intro ?_ ?_)
  · refine ⟨rfl, ?_, ?_, rfl⟩
    all_goals (repeat' (first | exact trivial | exact rfl | refine And.intro ?_ ?_ | (refine congrArg vI ?_; first | omega | (dsimp only; omega) | fail) | (refine congrArg some ?_) | omega | exact Nat.le_refl _ | exact congrArg (SV.lst _) (List.take_of_length_le (Nat.le_refl _)).symm))
    all_goals (exact congrArg (fun n => SV.lst (A := AF) 3 (evN p n)) hM)
  conv => whnf
  repeat' (first | (refine tell (fun hQ => ?_) (fun hQ => ?_) <;> (try dsimp only at hQ) <;> first | (exfalso; omega) | (exact absurd rfl hQ) | (exact absurd (by decide) hQ) | (conv => whnf)) | (refine allG rfl ?_; conv => whnf) | (refine ⟨none, ?_⟩; conv => whnf) | (refine And.intro (by first | omega | assumption | kernel_rfl | exact And.intro rfl rfl | ((try dsimp only [inR, idx, lowOf]); first | omega | (with_reducible decide) | (simp; omega) | (simp; done) | fail) | fail) ?_; conv => whnf) | fail)
  refine ⟨Nat, fun i => ⟨[(3, vI ct), (9, vB true), (11, .ptr 1011 0 6 0), (12, .lst 3 p), (13, .lst 3 (evN p m)), (14, vI i)], [(1011, .cells [vI (pickF x.1 50), vS [118], vI (pickF x.2.1 3), vI (pickF x.2.2.1 4), .lst 46 (nodesN p s kk m), .lst 95 (edgesN p s kk (p.length / 2))])]⟩, fun i => i ≤ m, fun i => m - i, fun _ _ => rfl, ⟨0, [], Nat.zero_le _, ?_⟩, ?_⟩
  · refine ⟨rfl, ?_, ?_, rfl⟩
    all_goals (repeat' (first | exact trivial | exact rfl | refine And.intro ?_ ?_ | (refine congrArg vI ?_; first | omega | (dsimp only; omega) | fail) | (refine congrArg some ?_) | omega | exact Nat.le_refl _ | exact congrArg (SV.lst _) (List.take_of_length_le (Nat.le_refl _)).symm))
  rintro (i : Nat) (hi : i ≤ m)
  by_cases hlt : i < m
  · have hx1 := evN_get (p := p) hlt
    have hx2 := nodesN_at (p := p) (s := s) (k := kk) hlt
    generalize hyy : p.getD (2 * i) 0 = y at *
    conv => whnf
    repeat' (first | (refine tell (fun hQ => ?_) (fun hQ => ?_) <;> (try dsimp only at hQ) <;> first | (exfalso; omega) | (exact absurd rfl hQ) | (exact absurd (by decide) hQ) | (conv => whnf)) | (refine allG (x := y) (by first | exact hx1 | simpa [List.getElem?_append_right, lowOf] using hx1 | fail) ?_; conv => whnf) | (refine allLst (x := y) (by first | omega | assumption | fail) (by first | exact hx1 | simpa using hx1 | fail) ?_; conv => whnf) | (refine allG (x := _) (by first | exact hx2 | simpa [List.getElem?_append_right, lowOf] using hx2 | fail) ?_; conv => whnf) | (refine allLst (x := _) (by first | omega | assumption | fail) (by first | exact hx2 | simpa using hx2 | fail) ?_; conv => whnf) | (refine allG rfl ?_; conv => whnf) | (refine ⟨none, ?_⟩; conv => whnf) | (refine And.intro (by first | omega | assumption | kernel_rfl | exact And.intro rfl rfl | ((try dsimp only [inR, idx, lowOf]); first | omega | (with_reducible decide) | (simp; omega) | (simp; done) | fail) | fail) ?_; conv => whnf) | fail)
    refine ⟨i + 1, [], hlt, ?_, rfl, ?_, ?_, rfl⟩
    · dsimp only; first | omega | (simp; done) | (simp; omega)
    all_goals (repeat' (first | exact trivial | exact rfl | refine And.intro ?_ ?_ | (refine congrArg vI ?_; first | omega | (dsimp only; omega) | fail) | (refine congrArg some ?_) | omega | exact Nat.le_refl _ | exact congrArg (SV.lst _) (List.take_of_length_le (Nat.le_refl _)).symm))
  · have hobt : i = m := by omega
    obtain rfl := hobt
    conv => whnf
    repeat' (first | (refine tell (fun hQ => ?_) (fun hQ => ?_) <;> (try dsimp only at hQ) <;> first | (exfalso; omega) | (exact absurd rfl hQ) | (exact absurd (by decide) hQ) | (conv => whnf)) | (refine allG rfl ?_; conv => whnf) | (refine ⟨none, ?_⟩; conv => whnf) | (refine And.intro (by first | omega | assumption | kernel_rfl | exact And.intro rfl rfl | ((try dsimp only [inR, idx, lowOf]); first | omega | (with_reducible decide) | (simp; omega) | (simp; done) | fail) | fail) ?_; conv => whnf) | fail)
    refine ⟨_, m_pick13, (ct, i), [], false, ?_⟩
    conv => whnf
    refine And.intro (vc0 ⟨hct, by show (0 : Int) < i; omega⟩ (by (repeat' (first | exact trivial | exact rfl | refine And.intro ?_ ?_ | (refine congrArg vI ?_; first | omega | (dsimp only; omega) | fail) | (refine congrArg some ?_) | omega | exact Nat.le_refl _ | exact congrArg (SV.lst _) (List.take_of_length_le (Nat.le_refl _)).symm))) (by repeat' (first | exact trivial | exact rfl | refine And.intro ?_ ?_ | (refine congrArg vI ?_; first | omega | (dsimp only; omega) | fail) | (refine congrArg some ?_) | omega | exact Nat.le_refl _ | exact congrArg (SV.lst _) (List.take_of_length_le (Nat.le_refl _)).symm)) trivial trivial) ?_
    refine And.intro ⟨(), trivial⟩ (fun (_ : Unit) _ => ?_)
    conv => whnf
    have hobt : ∃ k : Nat, pickF ct i = k := ⟨(pickF ct i).toNat, (Int.toNat_of_nonneg hpb.1).symm⟩
    obtain ⟨k, hk⟩ := hobt
    conv => whnf
    repeat' (first | (refine tell (fun hQ => ?_) (fun hQ => ?_) <;> (try dsimp only at hQ) <;> first | (exfalso; omega) | (exact absurd rfl hQ) | (exact absurd (by decide) hQ) | (conv => whnf)) | (refine allG rfl ?_; conv => whnf) | (refine And.intro (by first | omega | assumption | kernel_rfl | exact And.intro rfl rfl | ((try dsimp only [inR, idx, lowOf]); first | omega | (with_reducible decide) | (simp; omega) | (simp; done) | fail) | fail) ?_; conv => whnf) | fail)
    refine ⟨some (⟨[(9, vB true), (11, .ptr 1011 0 6 0), (12, .lst 3 p), (13, .lst 3 (evN p i)), (15, vI k)], [(1011, .cells [vI (pickF x.1 50), vS [118], vI (pickF x.2.1 3), vI (pickF x.2.2.1 4), .lst 46 (nodesN p s kk i), .lst 95 (edgesN p s kk (p.length / 2))])]⟩, []), ?_⟩
    conv => whnf
    refine And.intro rfl (And.intro ?_ ?_)
    · refine ⟨rfl, ?_, ?_, rfl⟩
      all_goals (repeat' (first | exact trivial | exact rfl | refine And.intro ?_ ?_ | (refine congrArg vI ?_; first | omega | (dsimp only; omega) | fail) | (refine congrArg some ?_) | omega | exact Nat.le_refl _ | exact congrArg (SV.lst _) (List.take_of_length_le (Nat.le_refl _)).symm))
      all_goals (exact congrArg vI hk)
    conv => whnf
    repeat' (first | (refine tell (fun hQ => ?_) (fun hQ => ?_) <;> (try dsimp only at hQ) <;> first | (exfalso; omega) | (exact absurd rfl hQ) | (exact absurd (by decide) hQ) | (conv => whnf)) | (refine allG rfl ?_; conv => whnf) | (refine And.intro (by first | omega | assumption | kernel_rfl | exact And.intro rfl rfl | ((try dsimp only [inR, idx, lowOf]); first | omega | (with_reducible decide) | (simp; omega) | (simp; done) | fail) | fail) ?_; conv => whnf) | fail)
    refine ⟨_, m_order, ((pickF x.1 50, [118], pickF x.2.1 3, pickF x.2.2.1 4, nodesN p s kk i, edgesN p s kk (p.length / 2)), p, 0, i), [], false, ?_⟩
    conv => whnf
    refine And.intro (vc0 ⟨by show p.length ≤ 127; omega, hsm, (by decide : (0 : Int) ≤ 0), (by decide : (0 : Int) ≤ 1000000)⟩ (by (repeat' (first | exact trivial | exact rfl | refine And.intro ?_ ?_ | (refine congrArg vI ?_; first | omega | (dsimp only; omega) | fail) | (refine congrArg some ?_) | omega | exact Nat.le_refl _ | exact congrArg (SV.lst _) (List.take_of_length_le (Nat.le_refl _)).symm))) (by repeat' (first | exact trivial | exact rfl | refine And.intro ?_ ?_ | (refine congrArg vI ?_; first | omega | (dsimp only; omega) | fail) | (refine congrArg some ?_) | omega | exact Nat.le_refl _ | exact congrArg (SV.lst _) (List.take_of_length_le (Nat.le_refl _)).symm)) trivial trivial) ?_
    refine And.intro (ex_true' ⟨hok, hr1⟩) ?_
    intro (c1 : Bool) (hc1 : c1 = true ↔ PathOk p ∧ RightO (ordOf (mkH x) p 0 i))
    have hobt := hc1.2 ⟨hok, hr1⟩
    obtain rfl := hobt
    have hr2 : RightO (ordOf (mkH x) (p.drop (2 * k)) (2 * (k : Int)) ((i : Int) - k)) := by
      have a1 := pickF_bd (c := x.1) (n := 50) (by omega)
      have a2 := pickF_bd (c := x.2.1) (n := 3) (by omega)
      have a3 := pickF_bd (c := x.2.2.1) (n := 4) (by omega)
      exact ordOf_right (hok.drop (by omega)) (fun y hy => by have := (hsm2 y (List.mem_of_mem_drop hy)).2; omega) (by rw [List.length_drop]; omega) (show nameF [118] = true by decide) ⟨⟨a1.1, by show pickF x.1 50 ≤ _; omega⟩, ⟨a2.1, by show pickF x.2.1 3 ≤ _; omega⟩, ⟨a3.1, by show pickF x.2.2.1 4 ≤ _; omega⟩⟩ (by rw [Int.tmod_eq_emod_of_nonneg (by omega)]; omega) (by omega) (by omega) (by omega)
    conv => whnf
    repeat' (first | (refine tell (fun hQ => ?_) (fun hQ => ?_) <;> (try dsimp only at hQ) <;> first | (exfalso; omega) | (exact absurd rfl hQ) | (exact absurd (by decide) hQ) | (conv => whnf)) | (refine allG rfl ?_; conv => whnf) | (refine And.intro (by first | omega | assumption | kernel_rfl | exact And.intro rfl rfl | ((try dsimp only [inR, idx, lowOf]); first | omega | (with_reducible decide) | (simp; omega) | (simp; done) | fail) | fail) ?_; conv => whnf) | fail)
    refine ⟨some (⟨[(9, vB true), (11, .ptr 1011 0 6 0), (12, .lst 3 p), (13, .lst 3 (evN p i)), (15, vI k), (16, .ptr 1016 0 6 0), (17, vB true)], [(1011, .cells [vI (pickF x.1 50), vS [118], vI (pickF x.2.1 3), vI (pickF x.2.2.1 4), .lst 46 (nodesN p s kk i), .lst 95 (edgesN p s kk (p.length / 2))]), (1016, .cells (ordCs (ordOf (mkH x) p 0 i)))]⟩, []), ?_⟩
    conv => whnf
    refine And.intro rfl (And.intro ?_ ?_)
    · refine ⟨rfl, ?_, ?_, rfl⟩
      all_goals (repeat' (first | exact trivial | exact rfl | refine And.intro ?_ ?_ | (refine congrArg vI ?_; first | omega | (dsimp only; omega) | fail) | (refine congrArg some ?_) | omega | exact Nat.le_refl _ | exact congrArg (SV.lst _) (List.take_of_length_le (Nat.le_refl _)).symm))
    conv => whnf
    repeat' (first | (refine tell (fun hQ => ?_) (fun hQ => ?_) <;> (try dsimp only at hQ) <;> first | (exfalso; omega) | (exact absurd rfl hQ) | (exact absurd (by decide) hQ) | (conv => whnf)) | (refine allG rfl ?_; conv => whnf) | (refine And.intro (by first | omega | assumption | kernel_rfl | exact And.intro rfl rfl | ((try dsimp only [inR, idx, lowOf]); first | omega | (with_reducible decide) | (simp; omega) | (simp; done) | fail) | fail) ?_; conv => whnf) | fail)
    refine ⟨_, m_order, ((pickF x.1 50, [118], pickF x.2.1 3, pickF x.2.2.1 4, nodesN p s kk i, edgesN p s kk (p.length / 2)), p.drop (2 * k), 2 * (k : Int), (i : Int) - k), [], false, ?_⟩
    conv => whnf
    refine And.intro (vc0 ⟨by show (p.drop (2 * k)).length ≤ 127; rw [List.length_drop]; omega, fun y hy => hsm y (List.mem_of_mem_drop hy), by show (0 : Int) ≤ 2 * (k : Int); omega, by show 2 * (k : Int) ≤ 1000000; omega⟩ (by (repeat' (first | exact trivial | exact rfl | refine And.intro ?_ ?_ | (refine congrArg vI ?_; first | omega | (dsimp only; omega) | fail) | (refine congrArg some ?_) | omega | exact Nat.le_refl _ | exact congrArg (SV.lst _) (List.take_of_length_le (Nat.le_refl _)).symm))) (by repeat' (first | exact trivial | exact rfl | refine And.intro ?_ ?_ | (refine congrArg vI ?_; first | omega | (dsimp only; omega) | fail) | (refine congrArg some ?_) | omega | exact Nat.le_refl _ | exact congrArg (SV.lst _) (List.take_of_length_le (Nat.le_refl _)).symm)) trivial trivial) ?_
    refine And.intro (ex_true' ⟨hok.drop (by omega), hr2⟩) ?_
    intro (c2 : Bool) (hc2 : c2 = true ↔ PathOk (p.drop (2 * k)) ∧ RightO (ordOf (mkH x) (p.drop (2 * k)) (2 * (k : Int)) ((i : Int) - k)))
    have hobt := hc2.2 ⟨hok.drop (by omega), hr2⟩
    obtain rfl := hobt
    have hrest := ord_drop (mkH x) p i k hm (by omega)
    have hN1 : (ordOf (mkH x) p 0 i).2.2.2.2.1.length = i := by show (nodesN _ _ _ _).length = i; rw [nodesN_len]; exact hM
    have hE1 : (ordOf (mkH x) p 0 i).2.2.2.2.2.length + 1 = i := by show (edgesN _ _ _ _).length + 1 = i; rw [edgesN_len]; omega
    generalize hN : (ordOf (mkH x) p 0 i).2.2.2.2.1 = N1 at *
    generalize hE : (ordOf (mkH x) p 0 i).2.2.2.2.2 = E1 at *
    conv => whnf
    repeat' (first | (refine tell (fun hQ => ?_) (fun hQ => ?_) <;> (try dsimp only at hQ) <;> first | (exfalso; omega) | (exact absurd rfl hQ) | (exact absurd (by decide) hQ) | (conv => whnf)) | (refine allG rfl ?_; conv => whnf) | (refine And.intro (by first | omega | assumption | kernel_rfl | exact And.intro rfl rfl | ((try dsimp only [inR, idx, lowOf]); first | omega | (with_reducible decide) | (simp; omega) | (simp; done) | fail) | fail) ?_; conv => whnf) | fail)
    refine ⟨some (⟨[(9, vB true), (13, .lst 3 (evN p i)), (15, vI k), (16, .ptr 1016 0 6 0), (17, vB true), (18, .ptr 1018 0 6 0), (19, vB true)], [(1016, .cells [vI (pickF x.1 50), vS [118], vI (pickF x.2.1 3), vI (pickF x.2.2.1 4), .lst 46 N1, .lst 95 E1]), (1018, .cells [vI (pickF x.1 50), vS [118], vI (pickF x.2.1 3), vI (pickF x.2.2.1 4), .lst 46 (N1.drop k), .lst 95 (E1.drop k)])]⟩, []), ?_⟩
    conv => whnf
    refine And.intro rfl (And.intro ?_ ?_)
    · refine ⟨rfl, ?_, ?_, rfl⟩
      all_goals (repeat' (first | exact trivial | exact rfl | refine And.intro ?_ ?_ | (refine congrArg vI ?_; first | omega | (dsimp only; omega) | fail) | (refine congrArg some ?_) | omega | exact Nat.le_refl _ | exact congrArg (SV.lst _) (List.take_of_length_le (Nat.le_refl _)).symm))
      all_goals (first | exact congrArg (SV.lst (A := AF) 46) hN | exact congrArg (SV.lst (A := AF) 95) hE | exact congrArg (fun o : OrdT => SV.lst (A := AF) 46 o.2.2.2.2.1) hrest | exact congrArg (fun o : OrdT => SV.lst (A := AF) 95 o.2.2.2.2.2) hrest | fail)
    have hNd : (N1.drop k).length = i - k := by rw [List.length_drop]; omega
    clear hrest hr1 hr2 hc1 hc2
    conv => whnf
    repeat' (first | (refine tell (fun hQ => ?_) (fun hQ => ?_) <;> (try dsimp only at hQ) <;> first | (exfalso; omega) | (exact absurd rfl hQ) | (exact absurd (by decide) hQ) | (conv => whnf)) | (refine allG rfl ?_; conv => whnf) | (refine ⟨none, ?_⟩; conv => whnf) | (refine And.intro (by first | omega | assumption | kernel_rfl | exact And.intro rfl rfl | ((try dsimp only [inR, idx, lowOf]); first | omega | (with_reducible decide) | (simp; omega) | (simp; done) | fail) | fail) ?_; conv => whnf) | fail)
    refine ⟨_, m_same, (pickF x.1 50, [118], pickF x.2.1 3, pickF x.2.2.1 4, N1.drop k, E1.drop k), [], false, ?_⟩
    conv => whnf
    refine And.intro (vc0 ⟨by show (N1.drop k).length ≤ _; omega, by show (E1.drop k).length ≤ _; rw [List.length_drop]; omega⟩ (by (repeat' (first | exact trivial | exact rfl | refine And.intro ?_ ?_ | (refine congrArg vI ?_; first | omega | (dsimp only; omega) | fail) | (refine congrArg some ?_) | omega | exact Nat.le_refl _ | exact congrArg (SV.lst _) (List.take_of_length_le (Nat.le_refl _)).symm))) (by repeat' (first | exact trivial | exact rfl | refine And.intro ?_ ?_ | (refine congrArg vI ?_; first | omega | (dsimp only; omega) | fail) | (refine congrArg some ?_) | omega | exact Nat.le_refl _ | exact congrArg (SV.lst _) (List.take_of_length_le (Nat.le_refl _)).symm)) trivial trivial) ?_
    refine And.intro ⟨(), trivial⟩ (fun (_ : Unit) _ => ?_)
    conv => whnf
    conv => whnf
    repeat' (first | (refine tell (fun hQ => ?_) (fun hQ => ?_) <;> (try dsimp only at hQ) <;> first | (exfalso; omega) | (exact absurd rfl hQ) | (exact absurd (by decide) hQ) | (conv => whnf)) | (refine allG rfl ?_; conv => whnf) | (refine ⟨none, ?_⟩; conv => whnf) | (refine And.intro (by first | omega | assumption | kernel_rfl | exact And.intro rfl rfl | ((try dsimp only [inR, idx, lowOf]); first | omega | (with_reducible decide) | (simp; omega) | (simp; done) | fail) | fail) ?_; conv => whnf) | fail)
    refine ⟨(), [], trivial, ?_, ?_, ?_⟩
    all_goals (repeat' (first | exact trivial | exact rfl | refine And.intro ?_ ?_ | (refine congrArg vI ?_; first | omega | (dsimp only; omega) | fail) | (refine congrArg some ?_) | omega | exact Nat.le_refl _ | exact congrArg (SV.lst _) (List.take_of_length_le (Nat.le_refl _)).symm))
end Go.Sx

