/-
  Layer 13 at the door: WalkWrong. (printed by mkWalJ.py)
-/
import Derived.Test.YtmogappoadglgaaDoorZWam
set_option linter.unusedVariables false
set_option linter.unusedSimpArgs false
namespace Go.Sx
open Go Go.Proofs Go.Proofs.YtmogappoadglgaaDoor
def Raws3 (l : List (Int × Int × Int)) : Prop := l.length ≤ 9223372036854775807 ∧ ∀ r ∈ l, InI r.1 ∧ InI r.2.1 ∧ InI r.2.2
theorem bad_even {q : List Int} (h : q.length % 2 = 0) : ¬ PathOk q := fun hp => by have := hp.1; omega
theorem bad_at {q : List Int} {i : Nat} {x : Int} (h : q[i]? = some x) (hx : x < 0 ∨ (1000 ≤ x ∧ i % 2 = 0) ∨ (x < 1000 ∧ i % 2 = 1)) : ¬ PathOk q := fun hp => by
  have := hp.2 i x h
  omega
theorem bad_none {o : OrdT} {p : List Int} {s : Int} (_ : 1 ≤ p.length) : ¬ RightO (ordOf o p s 0) := fun h => by
  have hobt := h.2.1
  obtain ⟨f, h1, h2⟩ := hobt
  have h1 : (nodesN p s 0 ((p.length + 1) / 2))[0]? = some f := h1
  have hobt := nodesN_get h1
  obtain ⟨_, rfl⟩ := hobt
  have h3 : decide (((0 : Nat) : Int) < 0) = true := h2.2.1
  exact absurd h3 (by decide)
theorem bad_odd {o : OrdT} {p : List Int} {k : Int} (_ : 1 ≤ p.length) : ¬ RightO (ordOf o p 3 k) := fun h => by
  have hobt := h.2.1
  obtain ⟨f, h1, h2⟩ := hobt
  have h1 : (nodesN p 3 k ((p.length + 1) / 2))[0]? = some f := h1
  have hobt := nodesN_get h1
  obtain ⟨_, rfl⟩ := hobt
  have h3 : ((3 : Int) + 2 * ((0 : Nat) : Int)).tmod 2 = 0 := h2.1
  exact absurd h3 (by decide)
theorem app_le (p q : List Int) {m : Nat} (hm : m = q.length) : 0 + (p.length + m) ≤ ((p.drop 0).take p.length ++ q).length := by
  rw [List.drop_zero, List.take_length, List.length_append, hm]; omega
theorem app_eq (p q : List Int) {m : Nat} (hm : m = q.length) : p ++ q = (((p.drop 0).take p.length ++ q).drop 0).take (p.length + m) := by
  rw [List.drop_zero, List.drop_zero, List.take_length, hm, ← List.length_append, List.take_length]
theorem app_eq2 (p q : List Int) : (p.drop 0).take p.length ++ q = p ++ q := by rw [List.drop_zero, List.take_length]
theorem cop_le (p : List Int) : 0 + p.length ≤ p.length := by omega
theorem set_eq (p : List Int) (x : Int) : p.set 0 x = ((p.set 0 x).drop 0).take p.length := by rw [List.drop_zero, List.take_of_length_le (by simp)]
theorem set_le (p : List Int) (x : Int) : 0 + p.length ≤ (p.set 0 x).length := by simp
theorem cop_eq (p : List Int) : p = (p.drop 0).take p.length := by rw [List.drop_zero, List.take_length]
theorem inI_app {p q : List Int} (h : ∀ x ∈ p, InI x) (hq : (q.all fun x => decide (0 ≤ x) && decide (x ≤ 1000)) = true) : ∀ x ∈ p ++ q, InI x := fun x hx => by
  rcases List.mem_append.1 hx with hx | hx
  · exact h x hx
  · have := List.all_eq_true.1 hq x hx
    simp at this
    exact ⟨by omega, by omega⟩
theorem inI_set {p : List Int} (h : ∀ x ∈ p, InI x) : ∀ x ∈ p.set 0 (-1), InI x := fun x hx => by
  rcases List.mem_or_eq_of_mem_set hx with hx | rfl
  · exact h x hx
  · exact ⟨by decide, by decide⟩
theorem ex_false {P : Prop} (h : ¬ P) : ∃ c : Bool, c = true ↔ P := ⟨false, by simp [h]⟩
theorem ex_true {P : Prop} (h : P) : ∃ c : Bool, c = true ↔ P := ⟨true, by simp [h]⟩
theorem is_false {P : Prop} {c : Bool} (h : ¬ P) (hc : c = true ↔ P) : c = false := by
  cases c
  · rfl
  · exact absurd (hc.1 rfl) h
set_option maxHeartbeats 3200000 in
set_option maxRecDepth 100000 in
theorem m_walkWrong : Meets Tryd.prog regF 6 (spLaw (fun g : Int × List (Int × Int × Int) × RawT × Int => [vI g.1, .lst 96 g.2.1, rawS g.2.2.1, vI g.2.2.2]) (fun g => InI g.1 ∧ Raws3 g.2.1 ∧ RawIn g.2.2.1 ∧ InI g.2.2.2)) := by
  refine meetsC Tryd.func6 86 noWr rfl (by kernel_rfl) (by kernel_rfl) ?_
  rintro ⟨(c : Int), (raw : List (Int × Int × Int)), ⟨(h : Int), (od : Int), (up : Int), (sq : Int), (fr : Int), (re : Int), (ts : List Int)⟩, (wh : Int)⟩ ⟨(hc : InI c), (hraw : Raws3 raw), (hx : RawIn (h, od, up, sq, fr, re, ts)), (hwh : InI wh)⟩
  have hfr := fit_right c raw
  conv => whnf
  repeat' (first | (refine tell (fun htest => ?_) (fun htest => ?_) <;> (try dsimp only at htest) <;> first | (exfalso; omega) | (exact absurd rfl htest) | (exact absurd htest hne) | (exact absurd hne htest) | (exact absurd htest hcne) | (exact absurd htest t1) | (exact absurd t1 htest) | (exact absurd (by decide) htest) | (conv => whnf)) | (refine allG rfl ?_; conv => whnf) | (refine ⟨none, ?_⟩; conv => whnf) | (refine And.intro (by first | omega | assumption | kernel_rfl | exact And.intro rfl rfl | ((try dsimp only [inR, idx, lowOf]); first | omega | (with_reducible decide) | (simp; omega) | (simp; done) | fail) | fail) ?_; conv => whnf) | fail)
  refine ⟨_, m_awake13, (), [], false, ?_⟩
  conv => whnf
  refine And.intro (vc0 trivial (by (repeat' (first | exact trivial | exact rfl | refine And.intro ?_ ?_ | (refine congrArg vI ?_; first | omega | (dsimp only; omega) | fail) | (refine congrArg some ?_) | omega | exact Nat.le_refl _ | exact congrArg (SV.lst _) (List.take_of_length_le (Nat.le_refl _)).symm))) (by repeat' (first | exact trivial | exact rfl | refine And.intro ?_ ?_ | (refine congrArg vI ?_; first | omega | (dsimp only; omega) | fail) | (refine congrArg some ?_) | omega | exact Nat.le_refl _ | exact congrArg (SV.lst _) (List.take_of_length_le (Nat.le_refl _)).symm)) trivial trivial) ?_
  refine And.intro ⟨(), trivial⟩ (fun (_ : Unit) _ => ?_)
  conv => whnf
  conv => whnf
  repeat' (first | (refine tell (fun htest => ?_) (fun htest => ?_) <;> (try dsimp only at htest) <;> first | (exfalso; omega) | (exact absurd rfl htest) | (exact absurd htest hne) | (exact absurd hne htest) | (exact absurd htest hcne) | (exact absurd htest t1) | (exact absurd t1 htest) | (exact absurd (by decide) htest) | (conv => whnf)) | (refine allG rfl ?_; conv => whnf) | (refine ⟨none, ?_⟩; conv => whnf) | (refine And.intro (by first | omega | assumption | kernel_rfl | exact And.intro rfl rfl | ((try dsimp only [inR, idx, lowOf]); first | omega | (with_reducible decide) | (simp; omega) | (simp; done) | fail) | fail) ?_; conv => whnf) | fail)
  refine ⟨_, m_fit, (c, raw), [], false, ?_⟩
  conv => whnf
  refine And.intro (vc0 ⟨hc, hraw.1, hraw.2⟩ (by (repeat' (first | exact trivial | exact rfl | refine And.intro ?_ ?_ | (refine congrArg vI ?_; first | omega | (dsimp only; omega) | fail) | (refine congrArg some ?_) | omega | exact Nat.le_refl _ | exact congrArg (SV.lst _) (List.take_of_length_le (Nat.le_refl _)).symm))) (by repeat' (first | exact trivial | exact rfl | refine And.intro ?_ ?_ | (refine congrArg vI ?_; first | omega | (dsimp only; omega) | fail) | (refine congrArg some ?_) | omega | exact Nat.le_refl _ | exact congrArg (SV.lst _) (List.take_of_length_le (Nat.le_refl _)).symm)) trivial trivial) ?_
  refine And.intro ⟨(), trivial⟩ (fun (_ : Unit) _ => ?_)
  conv => whnf
  conv => whnf
  repeat' (first | (refine tell (fun htest => ?_) (fun htest => ?_) <;> (try dsimp only at htest) <;> first | (exfalso; omega) | (exact absurd rfl htest) | (exact absurd htest hne) | (exact absurd hne htest) | (exact absurd htest hcne) | (exact absurd htest t1) | (exact absurd t1 htest) | (exact absurd (by decide) htest) | (conv => whnf)) | (refine allG rfl ?_; conv => whnf) | (refine ⟨none, ?_⟩; conv => whnf) | (refine And.intro (by first | omega | assumption | kernel_rfl | exact And.intro rfl rfl | ((try dsimp only [inR, idx, lowOf]); first | omega | (with_reducible decide) | (simp; omega) | (simp; done) | fail) | fail) ?_; conv => whnf) | fail)
  refine ⟨_, m_make13, ((fitN c, fitL c raw), (h, od, up, sq, fr, re, ts)), [], false, ?_⟩
  conv => whnf
  refine And.intro (vc0 ⟨hfr.1, hx⟩ (by (repeat' (first | exact trivial | exact rfl | refine And.intro ?_ ?_ | (refine congrArg vI ?_; first | omega | (dsimp only; omega) | fail) | (refine congrArg some ?_) | omega | exact Nat.le_refl _ | exact congrArg (SV.lst _) (List.take_of_length_le (Nat.le_refl _)).symm))) (by repeat' (first | exact trivial | exact rfl | refine And.intro ?_ ?_ | (refine congrArg vI ?_; first | omega | (dsimp only; omega) | fail) | (refine congrArg some ?_) | omega | exact Nat.le_refl _ | exact congrArg (SV.lst _) (List.take_of_length_le (Nat.le_refl _)).symm)) trivial trivial) ?_
  refine And.intro (way_ex hfr.1) ?_
  rintro ⟨(p : List Int), (a : Int)⟩ ⟨(hw : Way (fitN c) (fitL c raw) p a), (hpl : p.length ≤ 41)⟩
  have hodd := hw.odd
  have hsm : ∀ x ∈ p, InI x := fun x hx => by have := hw.small hfr.1 x hx; exact ⟨by omega, by omega⟩
  have hw6 := pickF_bd (c := wh) (n := 6) (by omega)
  conv => whnf
  repeat' (first | (refine tell (fun htest => ?_) (fun htest => ?_) <;> (try dsimp only at htest) <;> first | (exfalso; omega) | (exact absurd rfl htest) | (exact absurd htest hne) | (exact absurd hne htest) | (exact absurd htest hcne) | (exact absurd htest t1) | (exact absurd t1 htest) | (exact absurd (by decide) htest) | (conv => whnf)) | (refine allG rfl ?_; conv => whnf) | (refine ⟨none, ?_⟩; conv => whnf) | (refine And.intro (by first | omega | assumption | kernel_rfl | exact And.intro rfl rfl | ((try dsimp only [inR, idx, lowOf]); first | omega | (with_reducible decide) | (simp; omega) | (simp; done) | fail) | fail) ?_; conv => whnf) | fail)
  refine ⟨_, m_pick13, (wh, 6), [], false, ?_⟩
  conv => whnf
  refine And.intro (vc0 ⟨hwh, (by decide : (0 : Int) < 6)⟩ (by (repeat' (first | exact trivial | exact rfl | refine And.intro ?_ ?_ | (refine congrArg vI ?_; first | omega | (dsimp only; omega) | fail) | (refine congrArg some ?_) | omega | exact Nat.le_refl _ | exact congrArg (SV.lst _) (List.take_of_length_le (Nat.le_refl _)).symm))) (by repeat' (first | exact trivial | exact rfl | refine And.intro ?_ ?_ | (refine congrArg vI ?_; first | omega | (dsimp only; omega) | fail) | (refine congrArg some ?_) | omega | exact Nat.le_refl _ | exact congrArg (SV.lst _) (List.take_of_length_le (Nat.le_refl _)).symm)) trivial trivial) ?_
  refine And.intro ⟨(), trivial⟩ (fun (_ : Unit) _ => ?_)
  conv => whnf
  have hno3 : ¬ (PathOk p ∧ RightO (ordOf (mkO (h, od, up, sq, fr, re, ts) p) p 3 1)) := fun hh => bad_odd (by omega) hh.2
  generalize hwq : pickF wh 6 = w at *
  generalize hoq : mkO (h, od, up, sq, fr, re, ts) p = o at *
  conv => whnf
  repeat' (first | (refine tell (fun htest => ?_) (fun htest => ?_) <;> (try dsimp only at htest) <;> first | (exfalso; omega) | (exact absurd rfl htest) | (exact absurd htest hne) | (exact absurd hne htest) | (exact absurd htest hcne) | (exact absurd htest t1) | (exact absurd t1 htest) | (exact absurd (by decide) htest) | (conv => whnf)) | (refine allG rfl ?_; conv => whnf) | (refine And.intro (by first | omega | assumption | kernel_rfl | exact And.intro rfl rfl | ((try dsimp only [inR, idx, lowOf]); first | omega | (with_reducible decide) | (simp; omega) | (simp; done) | fail) | fail) ?_; conv => whnf) | fail)
  refine ⟨some (⟨[(9, vB true), (11, .ptr 1011 0 6 0), (12, .lst 3 p), (13, .sl 3013 1 0 p.length), (14, vI 1), (32, vI w)], [(1011, .cells (ordCs o)), (3013, .arr 3 p)]⟩, [(3013, 1030)]), ?_⟩
  conv => whnf
  refine And.intro rfl (And.intro ?_ ?_)
  · refine ⟨rfl, ?_, ?_, rfl⟩
    all_goals (repeat' (first | exact trivial | exact rfl | refine And.intro ?_ ?_ | (refine congrArg vI ?_; first | omega | (dsimp only; omega) | fail) | (refine congrArg some ?_) | omega | exact Nat.le_refl _ | exact congrArg (SV.lst _) (List.take_of_length_le (Nat.le_refl _)).symm))
    all_goals (first | exact congrArg (Ct.arr (A := AF) 3) (cop_eq p).symm | fail)
  as_aux_lemma =>
  by_cases hw10 : w = 0
  · have hno : ¬ (PathOk (p ++ [1000]) ∧ RightO (ordOf o (p ++ [1000]) 2 1)) := fun hh => bad_even (by simp; omega) hh.1
    have hql : ((p ++ [1000]) : List Int).length ≤ 127 := (by show (p ++ [1000]).length ≤ 127; simp; omega)
    have hqi : ∀ x ∈ ((p ++ [1000]) : List Int), InI x := (inI_app hsm (by decide))
    conv => whnf
    repeat' (first | (refine tell (fun htest => ?_) (fun htest => ?_) <;> (try dsimp only at htest) <;> first | (exfalso; omega) | (exact absurd rfl htest) | (exact absurd htest hne) | (exact absurd hne htest) | (exact absurd htest hcne) | (exact absurd htest t1) | (exact absurd t1 htest) | (exact absurd (by decide) htest) | (conv => whnf)) | (refine allG rfl ?_; conv => whnf) | (refine And.intro (by first | omega | assumption | kernel_rfl | exact And.intro rfl rfl | ((try dsimp only [inR, idx, lowOf]); first | omega | (with_reducible decide) | (simp; omega) | (simp; done) | fail) | fail) ?_; conv => whnf) | fail)
    refine ⟨none, ?_⟩
    conv => whnf
    conv => whnf
    repeat' (first | (refine tell (fun htest => ?_) (fun htest => ?_) <;> (try dsimp only at htest) <;> first | (exfalso; omega) | (exact absurd rfl htest) | (exact absurd htest hne) | (exact absurd hne htest) | (exact absurd htest hcne) | (exact absurd htest t1) | (exact absurd t1 htest) | (exact absurd (by decide) htest) | (conv => whnf)) | (refine allG rfl ?_; conv => whnf) | (refine And.intro (by first | omega | assumption | kernel_rfl | exact And.intro rfl rfl | ((try dsimp only [inR, idx, lowOf]); first | omega | (with_reducible decide) | (simp; omega) | (simp; done) | fail) | fail) ?_; conv => whnf) | fail)
    refine ⟨some (⟨[(9, vB true), (11, .ptr 1011 0 6 0), (12, .lst 3 p), (13, .sl 3014 1 0 ((p ++ [1000]) : List Int).length), (14, vI 1)], [(1011, .cells (ordCs o)), (3014, .arr 3 (p ++ [1000]))]⟩, [(3014, 1037)]), ?_⟩
    conv => whnf
    refine And.intro rfl (And.intro ?_ ?_)
    · refine ⟨rfl, ?_, ?_, rfl⟩
      all_goals (repeat' (first | exact trivial | exact rfl | refine And.intro ?_ ?_ | (refine congrArg vI ?_; first | omega | (dsimp only; omega) | fail) | (refine congrArg some ?_) | omega | exact Nat.le_refl _ | exact congrArg (SV.lst _) (List.take_of_length_le (Nat.le_refl _)).symm))
      all_goals (first | exact congrArg (SV.sl (A := AF) _ 1 0) (by simp) | exact congrArg (Ct.arr (A := AF) 3) (app_eq2 p _) | exact congrArg (Ct.arr (A := AF) 3) (cop_eq p).symm | fail)
    clear hw hx
    generalize hqq : (p ++ [1000]) = q at *
    as_aux_lemma =>
    conv => whnf
    repeat' (first | (refine tell (fun htest => ?_) (fun htest => ?_) <;> (try dsimp only at htest) <;> first | (exfalso; omega) | (exact absurd rfl htest) | (exact absurd htest hne) | (exact absurd hne htest) | (exact absurd htest hcne) | (exact absurd htest t1) | (exact absurd t1 htest) | (exact absurd (by decide) htest) | (conv => whnf)) | (refine allG rfl ?_; conv => whnf) | (refine And.intro (by first | omega | assumption | kernel_rfl | exact And.intro rfl rfl | ((try dsimp only [inR, idx, lowOf]); first | omega | (with_reducible decide) | (simp; omega) | (simp; done) | fail) | fail) ?_; conv => whnf) | fail)
    refine ⟨_, m_order, (o, q, 2, 1), [], false, ?_⟩
    conv => whnf
    refine And.intro (vc0 ⟨hql, hqi, (by decide : (0 : Int) ≤ 2), (by decide : (2 : Int) ≤ 1000000)⟩ (by (repeat' (first | exact trivial | exact rfl | refine And.intro ?_ ?_ | (refine congrArg vI ?_; first | omega | (dsimp only; omega) | fail) | (refine congrArg some ?_) | omega | exact Nat.le_refl _ | exact congrArg (SV.lst _) (List.take_of_length_le (Nat.le_refl _)).symm)); all_goals (first | exact Nat.le_of_eq (Nat.zero_add _) | exact congrArg (SV.lst (A := AF) 3) (cop_eq _) | fail)) (by repeat' (first | exact trivial | exact rfl | refine And.intro ?_ ?_ | (refine congrArg vI ?_; first | omega | (dsimp only; omega) | fail) | (refine congrArg some ?_) | omega | exact Nat.le_refl _ | exact congrArg (SV.lst _) (List.take_of_length_le (Nat.le_refl _)).symm)) trivial trivial) ?_
    refine And.intro (ex_false hno) ?_
    intro (c1 : Bool) (hc1 : c1 = true ↔ PathOk q ∧ RightO (ordOf o q 2 1))
    have hobt := is_false hno hc1
    obtain rfl := hobt
    conv => whnf
    repeat' (first | (refine tell (fun htest => ?_) (fun htest => ?_) <;> (try dsimp only at htest) <;> first | (exfalso; omega) | (exact absurd rfl htest) | (exact absurd htest hne) | (exact absurd hne htest) | (exact absurd htest hcne) | (exact absurd htest t1) | (exact absurd t1 htest) | (exact absurd (by decide) htest) | (conv => whnf)) | (refine allG rfl ?_; conv => whnf) | (refine ⟨none, ?_⟩; conv => whnf) | (refine And.intro (by first | omega | assumption | kernel_rfl | exact And.intro rfl rfl | ((try dsimp only [inR, idx, lowOf]); first | omega | (with_reducible decide) | (simp; omega) | (simp; done) | fail) | fail) ?_; conv => whnf) | fail)
    refine ⟨_, m_order, (o, p, 3, 1), [], false, ?_⟩
    conv => whnf
    refine And.intro (vc0 ⟨by show p.length ≤ 127; omega, hsm, (by decide : (0 : Int) ≤ 3), (by decide : (3 : Int) ≤ 1000000)⟩ (by (repeat' (first | exact trivial | exact rfl | refine And.intro ?_ ?_ | (refine congrArg vI ?_; first | omega | (dsimp only; omega) | fail) | (refine congrArg some ?_) | omega | exact Nat.le_refl _ | exact congrArg (SV.lst _) (List.take_of_length_le (Nat.le_refl _)).symm))) (by repeat' (first | exact trivial | exact rfl | refine And.intro ?_ ?_ | (refine congrArg vI ?_; first | omega | (dsimp only; omega) | fail) | (refine congrArg some ?_) | omega | exact Nat.le_refl _ | exact congrArg (SV.lst _) (List.take_of_length_le (Nat.le_refl _)).symm)) trivial trivial) ?_
    refine And.intro (ex_false hno3) ?_
    intro (c2 : Bool) (hc2 : c2 = true ↔ PathOk p ∧ RightO (ordOf o p 3 1))
    have hobt := is_false hno3 hc2
    obtain rfl := hobt
    conv => whnf
    repeat' (first | (refine tell (fun htest => ?_) (fun htest => ?_) <;> (try dsimp only at htest) <;> first | (exfalso; omega) | (exact absurd rfl htest) | (exact absurd htest hne) | (exact absurd hne htest) | (exact absurd htest hcne) | (exact absurd htest t1) | (exact absurd t1 htest) | (exact absurd (by decide) htest) | (conv => whnf)) | (refine allG rfl ?_; conv => whnf) | (refine ⟨none, ?_⟩; conv => whnf) | (refine And.intro (by first | omega | assumption | kernel_rfl | exact And.intro rfl rfl | ((try dsimp only [inR, idx, lowOf]); first | omega | (with_reducible decide) | (simp; omega) | (simp; done) | fail) | fail) ?_; conv => whnf) | fail)
    refine ⟨_, m_same, zeroO, [], false, ?_⟩
    conv => whnf
    refine And.intro (vc0 ⟨by decide, by decide⟩ (by (repeat' (first | exact trivial | exact rfl | refine And.intro ?_ ?_ | (refine congrArg vI ?_; first | omega | (dsimp only; omega) | fail) | (refine congrArg some ?_) | omega | exact Nat.le_refl _ | exact congrArg (SV.lst _) (List.take_of_length_le (Nat.le_refl _)).symm))) (by repeat' (first | exact trivial | exact rfl | refine And.intro ?_ ?_ | (refine congrArg vI ?_; first | omega | (dsimp only; omega) | fail) | (refine congrArg some ?_) | omega | exact Nat.le_refl _ | exact congrArg (SV.lst _) (List.take_of_length_le (Nat.le_refl _)).symm)) trivial trivial) ?_
    refine And.intro ⟨(), trivial⟩ (fun (_ : Unit) _ => ?_)
    conv => whnf
    conv => whnf
    repeat' (first | (refine tell (fun htest => ?_) (fun htest => ?_) <;> (try dsimp only at htest) <;> first | (exfalso; omega) | (exact absurd rfl htest) | (exact absurd htest hne) | (exact absurd hne htest) | (exact absurd htest hcne) | (exact absurd htest t1) | (exact absurd t1 htest) | (exact absurd (by decide) htest) | (conv => whnf)) | (refine allG rfl ?_; conv => whnf) | (refine ⟨none, ?_⟩; conv => whnf) | (refine And.intro (by first | omega | assumption | kernel_rfl | exact And.intro rfl rfl | ((try dsimp only [inR, idx, lowOf]); first | omega | (with_reducible decide) | (simp; omega) | (simp; done) | fail) | fail) ?_; conv => whnf) | fail)
    refine ⟨_, m_same, zeroO, [], false, ?_⟩
    conv => whnf
    refine And.intro (vc0 ⟨by decide, by decide⟩ (by (repeat' (first | exact trivial | exact rfl | refine And.intro ?_ ?_ | (refine congrArg vI ?_; first | omega | (dsimp only; omega) | fail) | (refine congrArg some ?_) | omega | exact Nat.le_refl _ | exact congrArg (SV.lst _) (List.take_of_length_le (Nat.le_refl _)).symm))) (by repeat' (first | exact trivial | exact rfl | refine And.intro ?_ ?_ | (refine congrArg vI ?_; first | omega | (dsimp only; omega) | fail) | (refine congrArg some ?_) | omega | exact Nat.le_refl _ | exact congrArg (SV.lst _) (List.take_of_length_le (Nat.le_refl _)).symm)) trivial trivial) ?_
    refine And.intro ⟨(), trivial⟩ (fun (_ : Unit) _ => ?_)
    conv => whnf
    conv => whnf
    repeat' (first | (refine tell (fun htest => ?_) (fun htest => ?_) <;> (try dsimp only at htest) <;> first | (exfalso; omega) | (exact absurd rfl htest) | (exact absurd htest hne) | (exact absurd hne htest) | (exact absurd htest hcne) | (exact absurd htest t1) | (exact absurd t1 htest) | (exact absurd (by decide) htest) | (conv => whnf)) | (refine allG rfl ?_; conv => whnf) | (refine ⟨none, ?_⟩; conv => whnf) | (refine And.intro (by first | omega | assumption | kernel_rfl | exact And.intro rfl rfl | ((try dsimp only [inR, idx, lowOf]); first | omega | (with_reducible decide) | (simp; omega) | (simp; done) | fail) | fail) ?_; conv => whnf) | fail)
    refine ⟨(), [], trivial, ?_, ?_, ?_⟩
    all_goals (repeat' (first | exact trivial | exact rfl | refine And.intro ?_ ?_ | (refine congrArg vI ?_; first | omega | (dsimp only; omega) | fail) | (refine congrArg some ?_) | omega | exact Nat.le_refl _ | exact congrArg (SV.lst _) (List.take_of_length_le (Nat.le_refl _)).symm))
  by_cases hw11 : w = 1
  · have hno : ¬ (PathOk (p ++ [1000, 1000]) ∧ RightO (ordOf o (p ++ [1000, 1000]) 2 1)) := fun hh => bad_at (i := p.length + 1) (x := 1000) (by rw [List.getElem?_append_right (by omega), show p.length + 1 - p.length = 1 by omega]; rfl) (.inr (.inl ⟨by omega, by omega⟩)) hh.1
    have hql : ((p ++ [1000, 1000]) : List Int).length ≤ 127 := (by show (p ++ [1000, 1000]).length ≤ 127; simp; omega)
    have hqi : ∀ x ∈ ((p ++ [1000, 1000]) : List Int), InI x := (inI_app hsm (by decide))
    conv => whnf
    repeat' (first | (refine tell (fun htest => ?_) (fun htest => ?_) <;> (try dsimp only at htest) <;> first | (exfalso; omega) | (exact absurd rfl htest) | (exact absurd htest hne) | (exact absurd hne htest) | (exact absurd htest hcne) | (exact absurd htest t1) | (exact absurd t1 htest) | (exact absurd (by decide) htest) | (conv => whnf)) | (refine allG rfl ?_; conv => whnf) | (refine And.intro (by first | omega | assumption | kernel_rfl | exact And.intro rfl rfl | ((try dsimp only [inR, idx, lowOf]); first | omega | (with_reducible decide) | (simp; omega) | (simp; done) | fail) | fail) ?_; conv => whnf) | fail)
    refine ⟨none, ?_⟩
    conv => whnf
    conv => whnf
    repeat' (first | (refine tell (fun htest => ?_) (fun htest => ?_) <;> (try dsimp only at htest) <;> first | (exfalso; omega) | (exact absurd rfl htest) | (exact absurd htest hne) | (exact absurd hne htest) | (exact absurd htest hcne) | (exact absurd htest t1) | (exact absurd t1 htest) | (exact absurd (by decide) htest) | (conv => whnf)) | (refine allG rfl ?_; conv => whnf) | (refine And.intro (by first | omega | assumption | kernel_rfl | exact And.intro rfl rfl | ((try dsimp only [inR, idx, lowOf]); first | omega | (with_reducible decide) | (simp; omega) | (simp; done) | fail) | fail) ?_; conv => whnf) | fail)
    refine ⟨none, ?_⟩
    conv => whnf
    conv => whnf
    repeat' (first | (refine tell (fun htest => ?_) (fun htest => ?_) <;> (try dsimp only at htest) <;> first | (exfalso; omega) | (exact absurd rfl htest) | (exact absurd htest hne) | (exact absurd hne htest) | (exact absurd htest hcne) | (exact absurd htest t1) | (exact absurd t1 htest) | (exact absurd (by decide) htest) | (conv => whnf)) | (refine allG rfl ?_; conv => whnf) | (refine And.intro (by first | omega | assumption | kernel_rfl | exact And.intro rfl rfl | ((try dsimp only [inR, idx, lowOf]); first | omega | (with_reducible decide) | (simp; omega) | (simp; done) | fail) | fail) ?_; conv => whnf) | fail)
    refine ⟨some (⟨[(9, vB true), (11, .ptr 1011 0 6 0), (12, .lst 3 p), (13, .sl 3014 1 0 ((p ++ [1000, 1000]) : List Int).length), (14, vI 1)], [(1011, .cells (ordCs o)), (3014, .arr 3 (p ++ [1000, 1000]))]⟩, [(3014, 1042)]), ?_⟩
    conv => whnf
    refine And.intro rfl (And.intro ?_ ?_)
    · refine ⟨rfl, ?_, ?_, rfl⟩
      all_goals (repeat' (first | exact trivial | exact rfl | refine And.intro ?_ ?_ | (refine congrArg vI ?_; first | omega | (dsimp only; omega) | fail) | (refine congrArg some ?_) | omega | exact Nat.le_refl _ | exact congrArg (SV.lst _) (List.take_of_length_le (Nat.le_refl _)).symm))
      all_goals (first | exact congrArg (SV.sl (A := AF) _ 1 0) (by simp) | exact congrArg (Ct.arr (A := AF) 3) (app_eq2 p _) | exact congrArg (Ct.arr (A := AF) 3) (cop_eq p).symm | fail)
    clear hw hx
    generalize hqq : (p ++ [1000, 1000]) = q at *
    as_aux_lemma =>
    conv => whnf
    repeat' (first | (refine tell (fun htest => ?_) (fun htest => ?_) <;> (try dsimp only at htest) <;> first | (exfalso; omega) | (exact absurd rfl htest) | (exact absurd htest hne) | (exact absurd hne htest) | (exact absurd htest hcne) | (exact absurd htest t1) | (exact absurd t1 htest) | (exact absurd (by decide) htest) | (conv => whnf)) | (refine allG rfl ?_; conv => whnf) | (refine And.intro (by first | omega | assumption | kernel_rfl | exact And.intro rfl rfl | ((try dsimp only [inR, idx, lowOf]); first | omega | (with_reducible decide) | (simp; omega) | (simp; done) | fail) | fail) ?_; conv => whnf) | fail)
    refine ⟨_, m_order, (o, q, 2, 1), [], false, ?_⟩
    conv => whnf
    refine And.intro (vc0 ⟨hql, hqi, (by decide : (0 : Int) ≤ 2), (by decide : (2 : Int) ≤ 1000000)⟩ (by (repeat' (first | exact trivial | exact rfl | refine And.intro ?_ ?_ | (refine congrArg vI ?_; first | omega | (dsimp only; omega) | fail) | (refine congrArg some ?_) | omega | exact Nat.le_refl _ | exact congrArg (SV.lst _) (List.take_of_length_le (Nat.le_refl _)).symm)); all_goals (first | exact Nat.le_of_eq (Nat.zero_add _) | exact congrArg (SV.lst (A := AF) 3) (cop_eq _) | fail)) (by repeat' (first | exact trivial | exact rfl | refine And.intro ?_ ?_ | (refine congrArg vI ?_; first | omega | (dsimp only; omega) | fail) | (refine congrArg some ?_) | omega | exact Nat.le_refl _ | exact congrArg (SV.lst _) (List.take_of_length_le (Nat.le_refl _)).symm)) trivial trivial) ?_
    refine And.intro (ex_false hno) ?_
    intro (c1 : Bool) (hc1 : c1 = true ↔ PathOk q ∧ RightO (ordOf o q 2 1))
    have hobt := is_false hno hc1
    obtain rfl := hobt
    conv => whnf
    repeat' (first | (refine tell (fun htest => ?_) (fun htest => ?_) <;> (try dsimp only at htest) <;> first | (exfalso; omega) | (exact absurd rfl htest) | (exact absurd htest hne) | (exact absurd hne htest) | (exact absurd htest hcne) | (exact absurd htest t1) | (exact absurd t1 htest) | (exact absurd (by decide) htest) | (conv => whnf)) | (refine allG rfl ?_; conv => whnf) | (refine ⟨none, ?_⟩; conv => whnf) | (refine And.intro (by first | omega | assumption | kernel_rfl | exact And.intro rfl rfl | ((try dsimp only [inR, idx, lowOf]); first | omega | (with_reducible decide) | (simp; omega) | (simp; done) | fail) | fail) ?_; conv => whnf) | fail)
    refine ⟨_, m_order, (o, p, 3, 1), [], false, ?_⟩
    conv => whnf
    refine And.intro (vc0 ⟨by show p.length ≤ 127; omega, hsm, (by decide : (0 : Int) ≤ 3), (by decide : (3 : Int) ≤ 1000000)⟩ (by (repeat' (first | exact trivial | exact rfl | refine And.intro ?_ ?_ | (refine congrArg vI ?_; first | omega | (dsimp only; omega) | fail) | (refine congrArg some ?_) | omega | exact Nat.le_refl _ | exact congrArg (SV.lst _) (List.take_of_length_le (Nat.le_refl _)).symm))) (by repeat' (first | exact trivial | exact rfl | refine And.intro ?_ ?_ | (refine congrArg vI ?_; first | omega | (dsimp only; omega) | fail) | (refine congrArg some ?_) | omega | exact Nat.le_refl _ | exact congrArg (SV.lst _) (List.take_of_length_le (Nat.le_refl _)).symm)) trivial trivial) ?_
    refine And.intro (ex_false hno3) ?_
    intro (c2 : Bool) (hc2 : c2 = true ↔ PathOk p ∧ RightO (ordOf o p 3 1))
    have hobt := is_false hno3 hc2
    obtain rfl := hobt
    conv => whnf
    repeat' (first | (refine tell (fun htest => ?_) (fun htest => ?_) <;> (try dsimp only at htest) <;> first | (exfalso; omega) | (exact absurd rfl htest) | (exact absurd htest hne) | (exact absurd hne htest) | (exact absurd htest hcne) | (exact absurd htest t1) | (exact absurd t1 htest) | (exact absurd (by decide) htest) | (conv => whnf)) | (refine allG rfl ?_; conv => whnf) | (refine ⟨none, ?_⟩; conv => whnf) | (refine And.intro (by first | omega | assumption | kernel_rfl | exact And.intro rfl rfl | ((try dsimp only [inR, idx, lowOf]); first | omega | (with_reducible decide) | (simp; omega) | (simp; done) | fail) | fail) ?_; conv => whnf) | fail)
    refine ⟨_, m_same, zeroO, [], false, ?_⟩
    conv => whnf
    refine And.intro (vc0 ⟨by decide, by decide⟩ (by (repeat' (first | exact trivial | exact rfl | refine And.intro ?_ ?_ | (refine congrArg vI ?_; first | omega | (dsimp only; omega) | fail) | (refine congrArg some ?_) | omega | exact Nat.le_refl _ | exact congrArg (SV.lst _) (List.take_of_length_le (Nat.le_refl _)).symm))) (by repeat' (first | exact trivial | exact rfl | refine And.intro ?_ ?_ | (refine congrArg vI ?_; first | omega | (dsimp only; omega) | fail) | (refine congrArg some ?_) | omega | exact Nat.le_refl _ | exact congrArg (SV.lst _) (List.take_of_length_le (Nat.le_refl _)).symm)) trivial trivial) ?_
    refine And.intro ⟨(), trivial⟩ (fun (_ : Unit) _ => ?_)
    conv => whnf
    conv => whnf
    repeat' (first | (refine tell (fun htest => ?_) (fun htest => ?_) <;> (try dsimp only at htest) <;> first | (exfalso; omega) | (exact absurd rfl htest) | (exact absurd htest hne) | (exact absurd hne htest) | (exact absurd htest hcne) | (exact absurd htest t1) | (exact absurd t1 htest) | (exact absurd (by decide) htest) | (conv => whnf)) | (refine allG rfl ?_; conv => whnf) | (refine ⟨none, ?_⟩; conv => whnf) | (refine And.intro (by first | omega | assumption | kernel_rfl | exact And.intro rfl rfl | ((try dsimp only [inR, idx, lowOf]); first | omega | (with_reducible decide) | (simp; omega) | (simp; done) | fail) | fail) ?_; conv => whnf) | fail)
    refine ⟨_, m_same, zeroO, [], false, ?_⟩
    conv => whnf
    refine And.intro (vc0 ⟨by decide, by decide⟩ (by (repeat' (first | exact trivial | exact rfl | refine And.intro ?_ ?_ | (refine congrArg vI ?_; first | omega | (dsimp only; omega) | fail) | (refine congrArg some ?_) | omega | exact Nat.le_refl _ | exact congrArg (SV.lst _) (List.take_of_length_le (Nat.le_refl _)).symm))) (by repeat' (first | exact trivial | exact rfl | refine And.intro ?_ ?_ | (refine congrArg vI ?_; first | omega | (dsimp only; omega) | fail) | (refine congrArg some ?_) | omega | exact Nat.le_refl _ | exact congrArg (SV.lst _) (List.take_of_length_le (Nat.le_refl _)).symm)) trivial trivial) ?_
    refine And.intro ⟨(), trivial⟩ (fun (_ : Unit) _ => ?_)
    conv => whnf
    conv => whnf
    repeat' (first | (refine tell (fun htest => ?_) (fun htest => ?_) <;> (try dsimp only at htest) <;> first | (exfalso; omega) | (exact absurd rfl htest) | (exact absurd htest hne) | (exact absurd hne htest) | (exact absurd htest hcne) | (exact absurd htest t1) | (exact absurd t1 htest) | (exact absurd (by decide) htest) | (conv => whnf)) | (refine allG rfl ?_; conv => whnf) | (refine ⟨none, ?_⟩; conv => whnf) | (refine And.intro (by first | omega | assumption | kernel_rfl | exact And.intro rfl rfl | ((try dsimp only [inR, idx, lowOf]); first | omega | (with_reducible decide) | (simp; omega) | (simp; done) | fail) | fail) ?_; conv => whnf) | fail)
    refine ⟨(), [], trivial, ?_, ?_, ?_⟩
    all_goals (repeat' (first | exact trivial | exact rfl | refine And.intro ?_ ?_ | (refine congrArg vI ?_; first | omega | (dsimp only; omega) | fail) | (refine congrArg some ?_) | omega | exact Nat.le_refl _ | exact congrArg (SV.lst _) (List.take_of_length_le (Nat.le_refl _)).symm))
  by_cases hw12 : w = 2
  · have hno : ¬ (PathOk (p ++ [0, 0]) ∧ RightO (ordOf o (p ++ [0, 0]) 2 1)) := fun hh => bad_at (i := p.length) (x := 0) (by rw [List.getElem?_append_right (by omega), Nat.sub_self]; rfl) (.inr (.inr ⟨by omega, hodd⟩)) hh.1
    have hql : ((p ++ [0, 0]) : List Int).length ≤ 127 := (by show (p ++ [0, 0]).length ≤ 127; simp; omega)
    have hqi : ∀ x ∈ ((p ++ [0, 0]) : List Int), InI x := (inI_app hsm (by decide))
    conv => whnf
    repeat' (first | (refine tell (fun htest => ?_) (fun htest => ?_) <;> (try dsimp only at htest) <;> first | (exfalso; omega) | (exact absurd rfl htest) | (exact absurd htest hne) | (exact absurd hne htest) | (exact absurd htest hcne) | (exact absurd htest t1) | (exact absurd t1 htest) | (exact absurd (by decide) htest) | (conv => whnf)) | (refine allG rfl ?_; conv => whnf) | (refine And.intro (by first | omega | assumption | kernel_rfl | exact And.intro rfl rfl | ((try dsimp only [inR, idx, lowOf]); first | omega | (with_reducible decide) | (simp; omega) | (simp; done) | fail) | fail) ?_; conv => whnf) | fail)
    refine ⟨none, ?_⟩
    conv => whnf
    conv => whnf
    repeat' (first | (refine tell (fun htest => ?_) (fun htest => ?_) <;> (try dsimp only at htest) <;> first | (exfalso; omega) | (exact absurd rfl htest) | (exact absurd htest hne) | (exact absurd hne htest) | (exact absurd htest hcne) | (exact absurd htest t1) | (exact absurd t1 htest) | (exact absurd (by decide) htest) | (conv => whnf)) | (refine allG rfl ?_; conv => whnf) | (refine And.intro (by first | omega | assumption | kernel_rfl | exact And.intro rfl rfl | ((try dsimp only [inR, idx, lowOf]); first | omega | (with_reducible decide) | (simp; omega) | (simp; done) | fail) | fail) ?_; conv => whnf) | fail)
    refine ⟨none, ?_⟩
    conv => whnf
    conv => whnf
    repeat' (first | (refine tell (fun htest => ?_) (fun htest => ?_) <;> (try dsimp only at htest) <;> first | (exfalso; omega) | (exact absurd rfl htest) | (exact absurd htest hne) | (exact absurd hne htest) | (exact absurd htest hcne) | (exact absurd htest t1) | (exact absurd t1 htest) | (exact absurd (by decide) htest) | (conv => whnf)) | (refine allG rfl ?_; conv => whnf) | (refine And.intro (by first | omega | assumption | kernel_rfl | exact And.intro rfl rfl | ((try dsimp only [inR, idx, lowOf]); first | omega | (with_reducible decide) | (simp; omega) | (simp; done) | fail) | fail) ?_; conv => whnf) | fail)
    refine ⟨none, ?_⟩
    conv => whnf
    conv => whnf
    repeat' (first | (refine tell (fun htest => ?_) (fun htest => ?_) <;> (try dsimp only at htest) <;> first | (exfalso; omega) | (exact absurd rfl htest) | (exact absurd htest hne) | (exact absurd hne htest) | (exact absurd htest hcne) | (exact absurd htest t1) | (exact absurd t1 htest) | (exact absurd (by decide) htest) | (conv => whnf)) | (refine allG rfl ?_; conv => whnf) | (refine And.intro (by first | omega | assumption | kernel_rfl | exact And.intro rfl rfl | ((try dsimp only [inR, idx, lowOf]); first | omega | (with_reducible decide) | (simp; omega) | (simp; done) | fail) | fail) ?_; conv => whnf) | fail)
    refine ⟨some (⟨[(9, vB true), (11, .ptr 1011 0 6 0), (12, .lst 3 p), (13, .sl 3014 1 0 ((p ++ [0, 0]) : List Int).length), (14, vI 1)], [(1011, .cells (ordCs o)), (3014, .arr 3 (p ++ [0, 0]))]⟩, [(3014, 1047)]), ?_⟩
    conv => whnf
    refine And.intro rfl (And.intro ?_ ?_)
    · refine ⟨rfl, ?_, ?_, rfl⟩
      all_goals (repeat' (first | exact trivial | exact rfl | refine And.intro ?_ ?_ | (refine congrArg vI ?_; first | omega | (dsimp only; omega) | fail) | (refine congrArg some ?_) | omega | exact Nat.le_refl _ | exact congrArg (SV.lst _) (List.take_of_length_le (Nat.le_refl _)).symm))
      all_goals (first | exact congrArg (SV.sl (A := AF) _ 1 0) (by simp) | exact congrArg (Ct.arr (A := AF) 3) (app_eq2 p _) | exact congrArg (Ct.arr (A := AF) 3) (cop_eq p).symm | fail)
    clear hw hx
    generalize hqq : (p ++ [0, 0]) = q at *
    as_aux_lemma =>
    conv => whnf
    repeat' (first | (refine tell (fun htest => ?_) (fun htest => ?_) <;> (try dsimp only at htest) <;> first | (exfalso; omega) | (exact absurd rfl htest) | (exact absurd htest hne) | (exact absurd hne htest) | (exact absurd htest hcne) | (exact absurd htest t1) | (exact absurd t1 htest) | (exact absurd (by decide) htest) | (conv => whnf)) | (refine allG rfl ?_; conv => whnf) | (refine And.intro (by first | omega | assumption | kernel_rfl | exact And.intro rfl rfl | ((try dsimp only [inR, idx, lowOf]); first | omega | (with_reducible decide) | (simp; omega) | (simp; done) | fail) | fail) ?_; conv => whnf) | fail)
    refine ⟨_, m_order, (o, q, 2, 1), [], false, ?_⟩
    conv => whnf
    refine And.intro (vc0 ⟨hql, hqi, (by decide : (0 : Int) ≤ 2), (by decide : (2 : Int) ≤ 1000000)⟩ (by (repeat' (first | exact trivial | exact rfl | refine And.intro ?_ ?_ | (refine congrArg vI ?_; first | omega | (dsimp only; omega) | fail) | (refine congrArg some ?_) | omega | exact Nat.le_refl _ | exact congrArg (SV.lst _) (List.take_of_length_le (Nat.le_refl _)).symm)); all_goals (first | exact Nat.le_of_eq (Nat.zero_add _) | exact congrArg (SV.lst (A := AF) 3) (cop_eq _) | fail)) (by repeat' (first | exact trivial | exact rfl | refine And.intro ?_ ?_ | (refine congrArg vI ?_; first | omega | (dsimp only; omega) | fail) | (refine congrArg some ?_) | omega | exact Nat.le_refl _ | exact congrArg (SV.lst _) (List.take_of_length_le (Nat.le_refl _)).symm)) trivial trivial) ?_
    refine And.intro (ex_false hno) ?_
    intro (c1 : Bool) (hc1 : c1 = true ↔ PathOk q ∧ RightO (ordOf o q 2 1))
    have hobt := is_false hno hc1
    obtain rfl := hobt
    conv => whnf
    repeat' (first | (refine tell (fun htest => ?_) (fun htest => ?_) <;> (try dsimp only at htest) <;> first | (exfalso; omega) | (exact absurd rfl htest) | (exact absurd htest hne) | (exact absurd hne htest) | (exact absurd htest hcne) | (exact absurd htest t1) | (exact absurd t1 htest) | (exact absurd (by decide) htest) | (conv => whnf)) | (refine allG rfl ?_; conv => whnf) | (refine ⟨none, ?_⟩; conv => whnf) | (refine And.intro (by first | omega | assumption | kernel_rfl | exact And.intro rfl rfl | ((try dsimp only [inR, idx, lowOf]); first | omega | (with_reducible decide) | (simp; omega) | (simp; done) | fail) | fail) ?_; conv => whnf) | fail)
    refine ⟨_, m_order, (o, p, 3, 1), [], false, ?_⟩
    conv => whnf
    refine And.intro (vc0 ⟨by show p.length ≤ 127; omega, hsm, (by decide : (0 : Int) ≤ 3), (by decide : (3 : Int) ≤ 1000000)⟩ (by (repeat' (first | exact trivial | exact rfl | refine And.intro ?_ ?_ | (refine congrArg vI ?_; first | omega | (dsimp only; omega) | fail) | (refine congrArg some ?_) | omega | exact Nat.le_refl _ | exact congrArg (SV.lst _) (List.take_of_length_le (Nat.le_refl _)).symm))) (by repeat' (first | exact trivial | exact rfl | refine And.intro ?_ ?_ | (refine congrArg vI ?_; first | omega | (dsimp only; omega) | fail) | (refine congrArg some ?_) | omega | exact Nat.le_refl _ | exact congrArg (SV.lst _) (List.take_of_length_le (Nat.le_refl _)).symm)) trivial trivial) ?_
    refine And.intro (ex_false hno3) ?_
    intro (c2 : Bool) (hc2 : c2 = true ↔ PathOk p ∧ RightO (ordOf o p 3 1))
    have hobt := is_false hno3 hc2
    obtain rfl := hobt
    conv => whnf
    repeat' (first | (refine tell (fun htest => ?_) (fun htest => ?_) <;> (try dsimp only at htest) <;> first | (exfalso; omega) | (exact absurd rfl htest) | (exact absurd htest hne) | (exact absurd hne htest) | (exact absurd htest hcne) | (exact absurd htest t1) | (exact absurd t1 htest) | (exact absurd (by decide) htest) | (conv => whnf)) | (refine allG rfl ?_; conv => whnf) | (refine ⟨none, ?_⟩; conv => whnf) | (refine And.intro (by first | omega | assumption | kernel_rfl | exact And.intro rfl rfl | ((try dsimp only [inR, idx, lowOf]); first | omega | (with_reducible decide) | (simp; omega) | (simp; done) | fail) | fail) ?_; conv => whnf) | fail)
    refine ⟨_, m_same, zeroO, [], false, ?_⟩
    conv => whnf
    refine And.intro (vc0 ⟨by decide, by decide⟩ (by (repeat' (first | exact trivial | exact rfl | refine And.intro ?_ ?_ | (refine congrArg vI ?_; first | omega | (dsimp only; omega) | fail) | (refine congrArg some ?_) | omega | exact Nat.le_refl _ | exact congrArg (SV.lst _) (List.take_of_length_le (Nat.le_refl _)).symm))) (by repeat' (first | exact trivial | exact rfl | refine And.intro ?_ ?_ | (refine congrArg vI ?_; first | omega | (dsimp only; omega) | fail) | (refine congrArg some ?_) | omega | exact Nat.le_refl _ | exact congrArg (SV.lst _) (List.take_of_length_le (Nat.le_refl _)).symm)) trivial trivial) ?_
    refine And.intro ⟨(), trivial⟩ (fun (_ : Unit) _ => ?_)
    conv => whnf
    conv => whnf
    repeat' (first | (refine tell (fun htest => ?_) (fun htest => ?_) <;> (try dsimp only at htest) <;> first | (exfalso; omega) | (exact absurd rfl htest) | (exact absurd htest hne) | (exact absurd hne htest) | (exact absurd htest hcne) | (exact absurd htest t1) | (exact absurd t1 htest) | (exact absurd (by decide) htest) | (conv => whnf)) | (refine allG rfl ?_; conv => whnf) | (refine ⟨none, ?_⟩; conv => whnf) | (refine And.intro (by first | omega | assumption | kernel_rfl | exact And.intro rfl rfl | ((try dsimp only [inR, idx, lowOf]); first | omega | (with_reducible decide) | (simp; omega) | (simp; done) | fail) | fail) ?_; conv => whnf) | fail)
    refine ⟨_, m_same, zeroO, [], false, ?_⟩
    conv => whnf
    refine And.intro (vc0 ⟨by decide, by decide⟩ (by (repeat' (first | exact trivial | exact rfl | refine And.intro ?_ ?_ | (refine congrArg vI ?_; first | omega | (dsimp only; omega) | fail) | (refine congrArg some ?_) | omega | exact Nat.le_refl _ | exact congrArg (SV.lst _) (List.take_of_length_le (Nat.le_refl _)).symm))) (by repeat' (first | exact trivial | exact rfl | refine And.intro ?_ ?_ | (refine congrArg vI ?_; first | omega | (dsimp only; omega) | fail) | (refine congrArg some ?_) | omega | exact Nat.le_refl _ | exact congrArg (SV.lst _) (List.take_of_length_le (Nat.le_refl _)).symm)) trivial trivial) ?_
    refine And.intro ⟨(), trivial⟩ (fun (_ : Unit) _ => ?_)
    conv => whnf
    conv => whnf
    repeat' (first | (refine tell (fun htest => ?_) (fun htest => ?_) <;> (try dsimp only at htest) <;> first | (exfalso; omega) | (exact absurd rfl htest) | (exact absurd htest hne) | (exact absurd hne htest) | (exact absurd htest hcne) | (exact absurd htest t1) | (exact absurd t1 htest) | (exact absurd (by decide) htest) | (conv => whnf)) | (refine allG rfl ?_; conv => whnf) | (refine ⟨none, ?_⟩; conv => whnf) | (refine And.intro (by first | omega | assumption | kernel_rfl | exact And.intro rfl rfl | ((try dsimp only [inR, idx, lowOf]); first | omega | (with_reducible decide) | (simp; omega) | (simp; done) | fail) | fail) ?_; conv => whnf) | fail)
    refine ⟨(), [], trivial, ?_, ?_, ?_⟩
    all_goals (repeat' (first | exact trivial | exact rfl | refine And.intro ?_ ?_ | (refine congrArg vI ?_; first | omega | (dsimp only; omega) | fail) | (refine congrArg some ?_) | omega | exact Nat.le_refl _ | exact congrArg (SV.lst _) (List.take_of_length_le (Nat.le_refl _)).symm))
  by_cases hw13 : w = 3
  · have hobt : ∃ y, p[0]? = some y := ⟨_, List.getElem?_eq_getElem (by omega)⟩
    obtain ⟨(x0 : Int), hp0⟩ := hobt
    have hno : ¬ (PathOk (p.set 0 (-1)) ∧ RightO (ordOf o (p.set 0 (-1)) 2 1)) := fun hh => bad_at (i := 0) (x := -1) (by rw [List.getElem?_set_self (by omega)]) (.inl (by omega)) hh.1
    have hql : ((p.set 0 (-1)) : List Int).length ≤ 127 := (by show (p.set 0 (-1)).length ≤ 127; simp; omega)
    have hqi : ∀ x ∈ ((p.set 0 (-1)) : List Int), InI x := (inI_set hsm)
    conv => whnf
    repeat' (first | (refine tell (fun htest => ?_) (fun htest => ?_) <;> (try dsimp only at htest) <;> first | (exfalso; omega) | (exact absurd rfl htest) | (exact absurd htest hne) | (exact absurd hne htest) | (exact absurd htest hcne) | (exact absurd htest t1) | (exact absurd t1 htest) | (exact absurd (by decide) htest) | (conv => whnf)) | (refine allG rfl ?_; conv => whnf) | (refine And.intro (by first | omega | assumption | kernel_rfl | exact And.intro rfl rfl | ((try dsimp only [inR, idx, lowOf]); first | omega | (with_reducible decide) | (simp; omega) | (simp; done) | fail) | fail) ?_; conv => whnf) | fail)
    refine ⟨none, ?_⟩
    conv => whnf
    conv => whnf
    repeat' (first | (refine tell (fun htest => ?_) (fun htest => ?_) <;> (try dsimp only at htest) <;> first | (exfalso; omega) | (exact absurd rfl htest) | (exact absurd htest hne) | (exact absurd hne htest) | (exact absurd htest hcne) | (exact absurd htest t1) | (exact absurd t1 htest) | (exact absurd (by decide) htest) | (conv => whnf)) | (refine allG (x := x0) (by first | exact hp0 | simpa [List.getElem?_append_right, lowOf] using hp0 | fail) ?_; conv => whnf) | (refine allLst (x := x0) (by first | omega | assumption | fail) (by first | exact hp0 | simpa using hp0 | fail) ?_; conv => whnf) | (refine allG rfl ?_; conv => whnf) | (refine And.intro (by first | omega | assumption | kernel_rfl | exact And.intro rfl rfl | ((try dsimp only [inR, idx, lowOf]); first | omega | (with_reducible decide) | (simp; omega) | (simp; done) | fail) | fail) ?_; conv => whnf) | fail)
    refine ⟨none, ?_⟩
    conv => whnf
    conv => whnf
    repeat' (first | (refine tell (fun htest => ?_) (fun htest => ?_) <;> (try dsimp only at htest) <;> first | (exfalso; omega) | (exact absurd rfl htest) | (exact absurd htest hne) | (exact absurd hne htest) | (exact absurd htest hcne) | (exact absurd htest t1) | (exact absurd t1 htest) | (exact absurd (by decide) htest) | (conv => whnf)) | (refine allG (x := x0) (by first | exact hp0 | simpa [List.getElem?_append_right, lowOf] using hp0 | fail) ?_; conv => whnf) | (refine allLst (x := x0) (by first | omega | assumption | fail) (by first | exact hp0 | simpa using hp0 | fail) ?_; conv => whnf) | (refine allG rfl ?_; conv => whnf) | (refine And.intro (by first | omega | assumption | kernel_rfl | exact And.intro rfl rfl | ((try dsimp only [inR, idx, lowOf]); first | omega | (with_reducible decide) | (simp; omega) | (simp; done) | fail) | fail) ?_; conv => whnf) | fail)
    refine ⟨none, ?_⟩
    conv => whnf
    conv => whnf
    repeat' (first | (refine tell (fun htest => ?_) (fun htest => ?_) <;> (try dsimp only at htest) <;> first | (exfalso; omega) | (exact absurd rfl htest) | (exact absurd htest hne) | (exact absurd hne htest) | (exact absurd htest hcne) | (exact absurd htest t1) | (exact absurd t1 htest) | (exact absurd (by decide) htest) | (conv => whnf)) | (refine allG (x := x0) (by first | exact hp0 | simpa [List.getElem?_append_right, lowOf] using hp0 | fail) ?_; conv => whnf) | (refine allLst (x := x0) (by first | omega | assumption | fail) (by first | exact hp0 | simpa using hp0 | fail) ?_; conv => whnf) | (refine allG rfl ?_; conv => whnf) | (refine And.intro (by first | omega | assumption | kernel_rfl | exact And.intro rfl rfl | ((try dsimp only [inR, idx, lowOf]); first | omega | (with_reducible decide) | (simp; omega) | (simp; done) | fail) | fail) ?_; conv => whnf) | fail)
    refine ⟨none, ?_⟩
    conv => whnf
    conv => whnf
    repeat' (first | (refine tell (fun htest => ?_) (fun htest => ?_) <;> (try dsimp only at htest) <;> first | (exfalso; omega) | (exact absurd rfl htest) | (exact absurd htest hne) | (exact absurd hne htest) | (exact absurd htest hcne) | (exact absurd htest t1) | (exact absurd t1 htest) | (exact absurd (by decide) htest) | (conv => whnf)) | (refine allG (x := x0) (by first | exact hp0 | simpa [List.getElem?_append_right, lowOf] using hp0 | fail) ?_; conv => whnf) | (refine allLst (x := x0) (by first | omega | assumption | fail) (by first | exact hp0 | simpa using hp0 | fail) ?_; conv => whnf) | (refine allG rfl ?_; conv => whnf) | (refine And.intro (by first | omega | assumption | kernel_rfl | exact And.intro rfl rfl | ((try dsimp only [inR, idx, lowOf]); first | omega | (with_reducible decide) | (simp; omega) | (simp; done) | fail) | fail) ?_; conv => whnf) | fail)
    refine ⟨some (⟨[(9, vB true), (11, .ptr 1011 0 6 0), (12, .lst 3 p), (13, .sl 3014 1 0 ((p.set 0 (-1)) : List Int).length), (14, vI 1)], [(1011, .cells (ordCs o)), (3014, .arr 3 (p.set 0 (-1)))]⟩, [(3014, 3013)]), ?_⟩
    conv => whnf
    refine And.intro rfl (And.intro ?_ ?_)
    · refine ⟨rfl, ?_, ?_, rfl⟩
      all_goals (repeat' (first | exact trivial | exact rfl | refine And.intro ?_ ?_ | (refine congrArg vI ?_; first | omega | (dsimp only; omega) | fail) | (refine congrArg some ?_) | omega | exact Nat.le_refl _ | exact congrArg (SV.lst _) (List.take_of_length_le (Nat.le_refl _)).symm))
      all_goals (first | exact congrArg (SV.sl (A := AF) _ 1 0) (by simp) | exact congrArg (Ct.arr (A := AF) 3) (app_eq2 p _) | exact congrArg (Ct.arr (A := AF) 3) (cop_eq p).symm | fail)
    clear hw hx
    generalize hqq : (p.set 0 (-1)) = q at *
    as_aux_lemma =>
    conv => whnf
    repeat' (first | (refine tell (fun htest => ?_) (fun htest => ?_) <;> (try dsimp only at htest) <;> first | (exfalso; omega) | (exact absurd rfl htest) | (exact absurd htest hne) | (exact absurd hne htest) | (exact absurd htest hcne) | (exact absurd htest t1) | (exact absurd t1 htest) | (exact absurd (by decide) htest) | (conv => whnf)) | (refine allG rfl ?_; conv => whnf) | (refine And.intro (by first | omega | assumption | kernel_rfl | exact And.intro rfl rfl | ((try dsimp only [inR, idx, lowOf]); first | omega | (with_reducible decide) | (simp; omega) | (simp; done) | fail) | fail) ?_; conv => whnf) | fail)
    refine ⟨_, m_order, (o, q, 2, 1), [], false, ?_⟩
    conv => whnf
    refine And.intro (vc0 ⟨hql, hqi, (by decide : (0 : Int) ≤ 2), (by decide : (2 : Int) ≤ 1000000)⟩ (by (repeat' (first | exact trivial | exact rfl | refine And.intro ?_ ?_ | (refine congrArg vI ?_; first | omega | (dsimp only; omega) | fail) | (refine congrArg some ?_) | omega | exact Nat.le_refl _ | exact congrArg (SV.lst _) (List.take_of_length_le (Nat.le_refl _)).symm)); all_goals (first | exact Nat.le_of_eq (Nat.zero_add _) | exact congrArg (SV.lst (A := AF) 3) (cop_eq _) | fail)) (by repeat' (first | exact trivial | exact rfl | refine And.intro ?_ ?_ | (refine congrArg vI ?_; first | omega | (dsimp only; omega) | fail) | (refine congrArg some ?_) | omega | exact Nat.le_refl _ | exact congrArg (SV.lst _) (List.take_of_length_le (Nat.le_refl _)).symm)) trivial trivial) ?_
    refine And.intro (ex_false hno) ?_
    intro (c1 : Bool) (hc1 : c1 = true ↔ PathOk q ∧ RightO (ordOf o q 2 1))
    have hobt := is_false hno hc1
    obtain rfl := hobt
    conv => whnf
    repeat' (first | (refine tell (fun htest => ?_) (fun htest => ?_) <;> (try dsimp only at htest) <;> first | (exfalso; omega) | (exact absurd rfl htest) | (exact absurd htest hne) | (exact absurd hne htest) | (exact absurd htest hcne) | (exact absurd htest t1) | (exact absurd t1 htest) | (exact absurd (by decide) htest) | (conv => whnf)) | (refine allG rfl ?_; conv => whnf) | (refine ⟨none, ?_⟩; conv => whnf) | (refine And.intro (by first | omega | assumption | kernel_rfl | exact And.intro rfl rfl | ((try dsimp only [inR, idx, lowOf]); first | omega | (with_reducible decide) | (simp; omega) | (simp; done) | fail) | fail) ?_; conv => whnf) | fail)
    refine ⟨_, m_order, (o, p, 3, 1), [], false, ?_⟩
    conv => whnf
    refine And.intro (vc0 ⟨by show p.length ≤ 127; omega, hsm, (by decide : (0 : Int) ≤ 3), (by decide : (3 : Int) ≤ 1000000)⟩ (by (repeat' (first | exact trivial | exact rfl | refine And.intro ?_ ?_ | (refine congrArg vI ?_; first | omega | (dsimp only; omega) | fail) | (refine congrArg some ?_) | omega | exact Nat.le_refl _ | exact congrArg (SV.lst _) (List.take_of_length_le (Nat.le_refl _)).symm))) (by repeat' (first | exact trivial | exact rfl | refine And.intro ?_ ?_ | (refine congrArg vI ?_; first | omega | (dsimp only; omega) | fail) | (refine congrArg some ?_) | omega | exact Nat.le_refl _ | exact congrArg (SV.lst _) (List.take_of_length_le (Nat.le_refl _)).symm)) trivial trivial) ?_
    refine And.intro (ex_false hno3) ?_
    intro (c2 : Bool) (hc2 : c2 = true ↔ PathOk p ∧ RightO (ordOf o p 3 1))
    have hobt := is_false hno3 hc2
    obtain rfl := hobt
    conv => whnf
    repeat' (first | (refine tell (fun htest => ?_) (fun htest => ?_) <;> (try dsimp only at htest) <;> first | (exfalso; omega) | (exact absurd rfl htest) | (exact absurd htest hne) | (exact absurd hne htest) | (exact absurd htest hcne) | (exact absurd htest t1) | (exact absurd t1 htest) | (exact absurd (by decide) htest) | (conv => whnf)) | (refine allG rfl ?_; conv => whnf) | (refine ⟨none, ?_⟩; conv => whnf) | (refine And.intro (by first | omega | assumption | kernel_rfl | exact And.intro rfl rfl | ((try dsimp only [inR, idx, lowOf]); first | omega | (with_reducible decide) | (simp; omega) | (simp; done) | fail) | fail) ?_; conv => whnf) | fail)
    refine ⟨_, m_same, zeroO, [], false, ?_⟩
    conv => whnf
    refine And.intro (vc0 ⟨by decide, by decide⟩ (by (repeat' (first | exact trivial | exact rfl | refine And.intro ?_ ?_ | (refine congrArg vI ?_; first | omega | (dsimp only; omega) | fail) | (refine congrArg some ?_) | omega | exact Nat.le_refl _ | exact congrArg (SV.lst _) (List.take_of_length_le (Nat.le_refl _)).symm))) (by repeat' (first | exact trivial | exact rfl | refine And.intro ?_ ?_ | (refine congrArg vI ?_; first | omega | (dsimp only; omega) | fail) | (refine congrArg some ?_) | omega | exact Nat.le_refl _ | exact congrArg (SV.lst _) (List.take_of_length_le (Nat.le_refl _)).symm)) trivial trivial) ?_
    refine And.intro ⟨(), trivial⟩ (fun (_ : Unit) _ => ?_)
    conv => whnf
    conv => whnf
    repeat' (first | (refine tell (fun htest => ?_) (fun htest => ?_) <;> (try dsimp only at htest) <;> first | (exfalso; omega) | (exact absurd rfl htest) | (exact absurd htest hne) | (exact absurd hne htest) | (exact absurd htest hcne) | (exact absurd htest t1) | (exact absurd t1 htest) | (exact absurd (by decide) htest) | (conv => whnf)) | (refine allG rfl ?_; conv => whnf) | (refine ⟨none, ?_⟩; conv => whnf) | (refine And.intro (by first | omega | assumption | kernel_rfl | exact And.intro rfl rfl | ((try dsimp only [inR, idx, lowOf]); first | omega | (with_reducible decide) | (simp; omega) | (simp; done) | fail) | fail) ?_; conv => whnf) | fail)
    refine ⟨_, m_same, zeroO, [], false, ?_⟩
    conv => whnf
    refine And.intro (vc0 ⟨by decide, by decide⟩ (by (repeat' (first | exact trivial | exact rfl | refine And.intro ?_ ?_ | (refine congrArg vI ?_; first | omega | (dsimp only; omega) | fail) | (refine congrArg some ?_) | omega | exact Nat.le_refl _ | exact congrArg (SV.lst _) (List.take_of_length_le (Nat.le_refl _)).symm))) (by repeat' (first | exact trivial | exact rfl | refine And.intro ?_ ?_ | (refine congrArg vI ?_; first | omega | (dsimp only; omega) | fail) | (refine congrArg some ?_) | omega | exact Nat.le_refl _ | exact congrArg (SV.lst _) (List.take_of_length_le (Nat.le_refl _)).symm)) trivial trivial) ?_
    refine And.intro ⟨(), trivial⟩ (fun (_ : Unit) _ => ?_)
    conv => whnf
    conv => whnf
    repeat' (first | (refine tell (fun htest => ?_) (fun htest => ?_) <;> (try dsimp only at htest) <;> first | (exfalso; omega) | (exact absurd rfl htest) | (exact absurd htest hne) | (exact absurd hne htest) | (exact absurd htest hcne) | (exact absurd htest t1) | (exact absurd t1 htest) | (exact absurd (by decide) htest) | (conv => whnf)) | (refine allG rfl ?_; conv => whnf) | (refine ⟨none, ?_⟩; conv => whnf) | (refine And.intro (by first | omega | assumption | kernel_rfl | exact And.intro rfl rfl | ((try dsimp only [inR, idx, lowOf]); first | omega | (with_reducible decide) | (simp; omega) | (simp; done) | fail) | fail) ?_; conv => whnf) | fail)
    refine ⟨(), [], trivial, ?_, ?_, ?_⟩
    all_goals (repeat' (first | exact trivial | exact rfl | refine And.intro ?_ ?_ | (refine congrArg vI ?_; first | omega | (dsimp only; omega) | fail) | (refine congrArg some ?_) | omega | exact Nat.le_refl _ | exact congrArg (SV.lst _) (List.take_of_length_le (Nat.le_refl _)).symm))
  by_cases hw14 : w = 4
  · have hno : ¬ (PathOk p ∧ RightO (ordOf o p 2 0)) := fun hh => bad_none (by omega) hh.2
    have hql : (p : List Int).length ≤ 127 := (by show p.length ≤ 127; omega)
    have hqi : ∀ x ∈ (p : List Int), InI x := hsm
    conv => whnf
    repeat' (first | (refine tell (fun htest => ?_) (fun htest => ?_) <;> (try dsimp only at htest) <;> first | (exfalso; omega) | (exact absurd rfl htest) | (exact absurd htest hne) | (exact absurd hne htest) | (exact absurd htest hcne) | (exact absurd htest t1) | (exact absurd t1 htest) | (exact absurd (by decide) htest) | (conv => whnf)) | (refine allG rfl ?_; conv => whnf) | (refine And.intro (by first | omega | assumption | kernel_rfl | exact And.intro rfl rfl | ((try dsimp only [inR, idx, lowOf]); first | omega | (with_reducible decide) | (simp; omega) | (simp; done) | fail) | fail) ?_; conv => whnf) | fail)
    refine ⟨none, ?_⟩
    conv => whnf
    conv => whnf
    repeat' (first | (refine tell (fun htest => ?_) (fun htest => ?_) <;> (try dsimp only at htest) <;> first | (exfalso; omega) | (exact absurd rfl htest) | (exact absurd htest hne) | (exact absurd hne htest) | (exact absurd htest hcne) | (exact absurd htest t1) | (exact absurd t1 htest) | (exact absurd (by decide) htest) | (conv => whnf)) | (refine allG rfl ?_; conv => whnf) | (refine And.intro (by first | omega | assumption | kernel_rfl | exact And.intro rfl rfl | ((try dsimp only [inR, idx, lowOf]); first | omega | (with_reducible decide) | (simp; omega) | (simp; done) | fail) | fail) ?_; conv => whnf) | fail)
    refine ⟨none, ?_⟩
    conv => whnf
    conv => whnf
    repeat' (first | (refine tell (fun htest => ?_) (fun htest => ?_) <;> (try dsimp only at htest) <;> first | (exfalso; omega) | (exact absurd rfl htest) | (exact absurd htest hne) | (exact absurd hne htest) | (exact absurd htest hcne) | (exact absurd htest t1) | (exact absurd t1 htest) | (exact absurd (by decide) htest) | (conv => whnf)) | (refine allG rfl ?_; conv => whnf) | (refine And.intro (by first | omega | assumption | kernel_rfl | exact And.intro rfl rfl | ((try dsimp only [inR, idx, lowOf]); first | omega | (with_reducible decide) | (simp; omega) | (simp; done) | fail) | fail) ?_; conv => whnf) | fail)
    refine ⟨none, ?_⟩
    conv => whnf
    conv => whnf
    repeat' (first | (refine tell (fun htest => ?_) (fun htest => ?_) <;> (try dsimp only at htest) <;> first | (exfalso; omega) | (exact absurd rfl htest) | (exact absurd htest hne) | (exact absurd hne htest) | (exact absurd htest hcne) | (exact absurd htest t1) | (exact absurd t1 htest) | (exact absurd (by decide) htest) | (conv => whnf)) | (refine allG rfl ?_; conv => whnf) | (refine And.intro (by first | omega | assumption | kernel_rfl | exact And.intro rfl rfl | ((try dsimp only [inR, idx, lowOf]); first | omega | (with_reducible decide) | (simp; omega) | (simp; done) | fail) | fail) ?_; conv => whnf) | fail)
    refine ⟨none, ?_⟩
    conv => whnf
    conv => whnf
    repeat' (first | (refine tell (fun htest => ?_) (fun htest => ?_) <;> (try dsimp only at htest) <;> first | (exfalso; omega) | (exact absurd rfl htest) | (exact absurd htest hne) | (exact absurd hne htest) | (exact absurd htest hcne) | (exact absurd htest t1) | (exact absurd t1 htest) | (exact absurd (by decide) htest) | (conv => whnf)) | (refine allG rfl ?_; conv => whnf) | (refine And.intro (by first | omega | assumption | kernel_rfl | exact And.intro rfl rfl | ((try dsimp only [inR, idx, lowOf]); first | omega | (with_reducible decide) | (simp; omega) | (simp; done) | fail) | fail) ?_; conv => whnf) | fail)
    refine ⟨none, ?_⟩
    conv => whnf
    conv => whnf
    repeat' (first | (refine tell (fun htest => ?_) (fun htest => ?_) <;> (try dsimp only at htest) <;> first | (exfalso; omega) | (exact absurd rfl htest) | (exact absurd htest hne) | (exact absurd hne htest) | (exact absurd htest hcne) | (exact absurd htest t1) | (exact absurd t1 htest) | (exact absurd (by decide) htest) | (conv => whnf)) | (refine allG rfl ?_; conv => whnf) | (refine And.intro (by first | omega | assumption | kernel_rfl | exact And.intro rfl rfl | ((try dsimp only [inR, idx, lowOf]); first | omega | (with_reducible decide) | (simp; omega) | (simp; done) | fail) | fail) ?_; conv => whnf) | fail)
    refine ⟨some (⟨[(9, vB true), (11, .ptr 1011 0 6 0), (12, .lst 3 p), (13, .sl 3014 1 0 (p : List Int).length), (14, vI 0)], [(1011, .cells (ordCs o)), (3014, .arr 3 p)]⟩, [(3014, 3013)]), ?_⟩
    conv => whnf
    refine And.intro rfl (And.intro ?_ ?_)
    · refine ⟨rfl, ?_, ?_, rfl⟩
      all_goals (repeat' (first | exact trivial | exact rfl | refine And.intro ?_ ?_ | (refine congrArg vI ?_; first | omega | (dsimp only; omega) | fail) | (refine congrArg some ?_) | omega | exact Nat.le_refl _ | exact congrArg (SV.lst _) (List.take_of_length_le (Nat.le_refl _)).symm))
      all_goals (first | exact congrArg (SV.sl (A := AF) _ 1 0) (by simp) | exact congrArg (Ct.arr (A := AF) 3) (app_eq2 p _) | exact congrArg (Ct.arr (A := AF) 3) (cop_eq p).symm | fail)
    clear hw hx
    as_aux_lemma =>
    conv => whnf
    repeat' (first | (refine tell (fun htest => ?_) (fun htest => ?_) <;> (try dsimp only at htest) <;> first | (exfalso; omega) | (exact absurd rfl htest) | (exact absurd htest hne) | (exact absurd hne htest) | (exact absurd htest hcne) | (exact absurd htest t1) | (exact absurd t1 htest) | (exact absurd (by decide) htest) | (conv => whnf)) | (refine allG rfl ?_; conv => whnf) | (refine And.intro (by first | omega | assumption | kernel_rfl | exact And.intro rfl rfl | ((try dsimp only [inR, idx, lowOf]); first | omega | (with_reducible decide) | (simp; omega) | (simp; done) | fail) | fail) ?_; conv => whnf) | fail)
    refine ⟨_, m_order, (o, p, 2, 0), [], false, ?_⟩
    conv => whnf
    refine And.intro (vc0 ⟨hql, hqi, (by decide : (0 : Int) ≤ 2), (by decide : (2 : Int) ≤ 1000000)⟩ (by (repeat' (first | exact trivial | exact rfl | refine And.intro ?_ ?_ | (refine congrArg vI ?_; first | omega | (dsimp only; omega) | fail) | (refine congrArg some ?_) | omega | exact Nat.le_refl _ | exact congrArg (SV.lst _) (List.take_of_length_le (Nat.le_refl _)).symm)); all_goals (first | exact Nat.le_of_eq (Nat.zero_add _) | exact congrArg (SV.lst (A := AF) 3) (cop_eq _) | fail)) (by repeat' (first | exact trivial | exact rfl | refine And.intro ?_ ?_ | (refine congrArg vI ?_; first | omega | (dsimp only; omega) | fail) | (refine congrArg some ?_) | omega | exact Nat.le_refl _ | exact congrArg (SV.lst _) (List.take_of_length_le (Nat.le_refl _)).symm)) trivial trivial) ?_
    refine And.intro (ex_false hno) ?_
    intro (c1 : Bool) (hc1 : c1 = true ↔ PathOk p ∧ RightO (ordOf o p 2 0))
    have hobt := is_false hno hc1
    obtain rfl := hobt
    conv => whnf
    repeat' (first | (refine tell (fun htest => ?_) (fun htest => ?_) <;> (try dsimp only at htest) <;> first | (exfalso; omega) | (exact absurd rfl htest) | (exact absurd htest hne) | (exact absurd hne htest) | (exact absurd htest hcne) | (exact absurd htest t1) | (exact absurd t1 htest) | (exact absurd (by decide) htest) | (conv => whnf)) | (refine allG rfl ?_; conv => whnf) | (refine ⟨none, ?_⟩; conv => whnf) | (refine And.intro (by first | omega | assumption | kernel_rfl | exact And.intro rfl rfl | ((try dsimp only [inR, idx, lowOf]); first | omega | (with_reducible decide) | (simp; omega) | (simp; done) | fail) | fail) ?_; conv => whnf) | fail)
    refine ⟨_, m_order, (o, p, 3, 1), [], false, ?_⟩
    conv => whnf
    refine And.intro (vc0 ⟨by show p.length ≤ 127; omega, hsm, (by decide : (0 : Int) ≤ 3), (by decide : (3 : Int) ≤ 1000000)⟩ (by (repeat' (first | exact trivial | exact rfl | refine And.intro ?_ ?_ | (refine congrArg vI ?_; first | omega | (dsimp only; omega) | fail) | (refine congrArg some ?_) | omega | exact Nat.le_refl _ | exact congrArg (SV.lst _) (List.take_of_length_le (Nat.le_refl _)).symm))) (by repeat' (first | exact trivial | exact rfl | refine And.intro ?_ ?_ | (refine congrArg vI ?_; first | omega | (dsimp only; omega) | fail) | (refine congrArg some ?_) | omega | exact Nat.le_refl _ | exact congrArg (SV.lst _) (List.take_of_length_le (Nat.le_refl _)).symm)) trivial trivial) ?_
    refine And.intro (ex_false hno3) ?_
    intro (c2 : Bool) (hc2 : c2 = true ↔ PathOk p ∧ RightO (ordOf o p 3 1))
    have hobt := is_false hno3 hc2
    obtain rfl := hobt
    conv => whnf
    repeat' (first | (refine tell (fun htest => ?_) (fun htest => ?_) <;> (try dsimp only at htest) <;> first | (exfalso; omega) | (exact absurd rfl htest) | (exact absurd htest hne) | (exact absurd hne htest) | (exact absurd htest hcne) | (exact absurd htest t1) | (exact absurd t1 htest) | (exact absurd (by decide) htest) | (conv => whnf)) | (refine allG rfl ?_; conv => whnf) | (refine ⟨none, ?_⟩; conv => whnf) | (refine And.intro (by first | omega | assumption | kernel_rfl | exact And.intro rfl rfl | ((try dsimp only [inR, idx, lowOf]); first | omega | (with_reducible decide) | (simp; omega) | (simp; done) | fail) | fail) ?_; conv => whnf) | fail)
    refine ⟨_, m_same, zeroO, [], false, ?_⟩
    conv => whnf
    refine And.intro (vc0 ⟨by decide, by decide⟩ (by (repeat' (first | exact trivial | exact rfl | refine And.intro ?_ ?_ | (refine congrArg vI ?_; first | omega | (dsimp only; omega) | fail) | (refine congrArg some ?_) | omega | exact Nat.le_refl _ | exact congrArg (SV.lst _) (List.take_of_length_le (Nat.le_refl _)).symm))) (by repeat' (first | exact trivial | exact rfl | refine And.intro ?_ ?_ | (refine congrArg vI ?_; first | omega | (dsimp only; omega) | fail) | (refine congrArg some ?_) | omega | exact Nat.le_refl _ | exact congrArg (SV.lst _) (List.take_of_length_le (Nat.le_refl _)).symm)) trivial trivial) ?_
    refine And.intro ⟨(), trivial⟩ (fun (_ : Unit) _ => ?_)
    conv => whnf
    conv => whnf
    repeat' (first | (refine tell (fun htest => ?_) (fun htest => ?_) <;> (try dsimp only at htest) <;> first | (exfalso; omega) | (exact absurd rfl htest) | (exact absurd htest hne) | (exact absurd hne htest) | (exact absurd htest hcne) | (exact absurd htest t1) | (exact absurd t1 htest) | (exact absurd (by decide) htest) | (conv => whnf)) | (refine allG rfl ?_; conv => whnf) | (refine ⟨none, ?_⟩; conv => whnf) | (refine And.intro (by first | omega | assumption | kernel_rfl | exact And.intro rfl rfl | ((try dsimp only [inR, idx, lowOf]); first | omega | (with_reducible decide) | (simp; omega) | (simp; done) | fail) | fail) ?_; conv => whnf) | fail)
    refine ⟨_, m_same, zeroO, [], false, ?_⟩
    conv => whnf
    refine And.intro (vc0 ⟨by decide, by decide⟩ (by (repeat' (first | exact trivial | exact rfl | refine And.intro ?_ ?_ | (refine congrArg vI ?_; first | omega | (dsimp only; omega) | fail) | (refine congrArg some ?_) | omega | exact Nat.le_refl _ | exact congrArg (SV.lst _) (List.take_of_length_le (Nat.le_refl _)).symm))) (by repeat' (first | exact trivial | exact rfl | refine And.intro ?_ ?_ | (refine congrArg vI ?_; first | omega | (dsimp only; omega) | fail) | (refine congrArg some ?_) | omega | exact Nat.le_refl _ | exact congrArg (SV.lst _) (List.take_of_length_le (Nat.le_refl _)).symm)) trivial trivial) ?_
    refine And.intro ⟨(), trivial⟩ (fun (_ : Unit) _ => ?_)
    conv => whnf
    conv => whnf
    repeat' (first | (refine tell (fun htest => ?_) (fun htest => ?_) <;> (try dsimp only at htest) <;> first | (exfalso; omega) | (exact absurd rfl htest) | (exact absurd htest hne) | (exact absurd hne htest) | (exact absurd htest hcne) | (exact absurd htest t1) | (exact absurd t1 htest) | (exact absurd (by decide) htest) | (conv => whnf)) | (refine allG rfl ?_; conv => whnf) | (refine ⟨none, ?_⟩; conv => whnf) | (refine And.intro (by first | omega | assumption | kernel_rfl | exact And.intro rfl rfl | ((try dsimp only [inR, idx, lowOf]); first | omega | (with_reducible decide) | (simp; omega) | (simp; done) | fail) | fail) ?_; conv => whnf) | fail)
    refine ⟨(), [], trivial, ?_, ?_, ?_⟩
    all_goals (repeat' (first | exact trivial | exact rfl | refine And.intro ?_ ?_ | (refine congrArg vI ?_; first | omega | (dsimp only; omega) | fail) | (refine congrArg some ?_) | omega | exact Nat.le_refl _ | exact congrArg (SV.lst _) (List.take_of_length_le (Nat.le_refl _)).symm))
  have hno : ¬ (PathOk (([] : List Int)) ∧ RightO (ordOf o (([] : List Int)) 2 1)) := fun hh => bad_even rfl hh.1
  have hql : ((([] : List Int)) : List Int).length ≤ 127 := (show (0 : Nat) ≤ 127 by decide)
  have hqi : ∀ x ∈ ((([] : List Int)) : List Int), InI x := (fun x hx => absurd hx (by simp))
  conv => whnf
  repeat' (first | (refine tell (fun htest => ?_) (fun htest => ?_) <;> (try dsimp only at htest) <;> first | (exfalso; omega) | (exact absurd rfl htest) | (exact absurd htest hne) | (exact absurd hne htest) | (exact absurd htest hcne) | (exact absurd htest t1) | (exact absurd t1 htest) | (exact absurd (by decide) htest) | (conv => whnf)) | (refine allG rfl ?_; conv => whnf) | (refine And.intro (by first | omega | assumption | kernel_rfl | exact And.intro rfl rfl | ((try dsimp only [inR, idx, lowOf]); first | omega | (with_reducible decide) | (simp; omega) | (simp; done) | fail) | fail) ?_; conv => whnf) | fail)
  refine ⟨none, ?_⟩
  conv => whnf
  conv => whnf
  repeat' (first | (refine tell (fun htest => ?_) (fun htest => ?_) <;> (try dsimp only at htest) <;> first | (exfalso; omega) | (exact absurd rfl htest) | (exact absurd htest hne) | (exact absurd hne htest) | (exact absurd htest hcne) | (exact absurd htest t1) | (exact absurd t1 htest) | (exact absurd (by decide) htest) | (conv => whnf)) | (refine allG rfl ?_; conv => whnf) | (refine And.intro (by first | omega | assumption | kernel_rfl | exact And.intro rfl rfl | ((try dsimp only [inR, idx, lowOf]); first | omega | (with_reducible decide) | (simp; omega) | (simp; done) | fail) | fail) ?_; conv => whnf) | fail)
  refine ⟨none, ?_⟩
  conv => whnf
  conv => whnf
  repeat' (first | (refine tell (fun htest => ?_) (fun htest => ?_) <;> (try dsimp only at htest) <;> first | (exfalso; omega) | (exact absurd rfl htest) | (exact absurd htest hne) | (exact absurd hne htest) | (exact absurd htest hcne) | (exact absurd htest t1) | (exact absurd t1 htest) | (exact absurd (by decide) htest) | (conv => whnf)) | (refine allG rfl ?_; conv => whnf) | (refine And.intro (by first | omega | assumption | kernel_rfl | exact And.intro rfl rfl | ((try dsimp only [inR, idx, lowOf]); first | omega | (with_reducible decide) | (simp; omega) | (simp; done) | fail) | fail) ?_; conv => whnf) | fail)
  refine ⟨none, ?_⟩
  conv => whnf
  conv => whnf
  repeat' (first | (refine tell (fun htest => ?_) (fun htest => ?_) <;> (try dsimp only at htest) <;> first | (exfalso; omega) | (exact absurd rfl htest) | (exact absurd htest hne) | (exact absurd hne htest) | (exact absurd htest hcne) | (exact absurd htest t1) | (exact absurd t1 htest) | (exact absurd (by decide) htest) | (conv => whnf)) | (refine allG rfl ?_; conv => whnf) | (refine And.intro (by first | omega | assumption | kernel_rfl | exact And.intro rfl rfl | ((try dsimp only [inR, idx, lowOf]); first | omega | (with_reducible decide) | (simp; omega) | (simp; done) | fail) | fail) ?_; conv => whnf) | fail)
  refine ⟨none, ?_⟩
  conv => whnf
  conv => whnf
  repeat' (first | (refine tell (fun htest => ?_) (fun htest => ?_) <;> (try dsimp only at htest) <;> first | (exfalso; omega) | (exact absurd rfl htest) | (exact absurd htest hne) | (exact absurd hne htest) | (exact absurd htest hcne) | (exact absurd htest t1) | (exact absurd t1 htest) | (exact absurd (by decide) htest) | (conv => whnf)) | (refine allG rfl ?_; conv => whnf) | (refine And.intro (by first | omega | assumption | kernel_rfl | exact And.intro rfl rfl | ((try dsimp only [inR, idx, lowOf]); first | omega | (with_reducible decide) | (simp; omega) | (simp; done) | fail) | fail) ?_; conv => whnf) | fail)
  refine ⟨none, ?_⟩
  conv => whnf
  conv => whnf
  repeat' (first | (refine tell (fun htest => ?_) (fun htest => ?_) <;> (try dsimp only at htest) <;> first | (exfalso; omega) | (exact absurd rfl htest) | (exact absurd htest hne) | (exact absurd hne htest) | (exact absurd htest hcne) | (exact absurd htest t1) | (exact absurd t1 htest) | (exact absurd (by decide) htest) | (conv => whnf)) | (refine allG rfl ?_; conv => whnf) | (refine And.intro (by first | omega | assumption | kernel_rfl | exact And.intro rfl rfl | ((try dsimp only [inR, idx, lowOf]); first | omega | (with_reducible decide) | (simp; omega) | (simp; done) | fail) | fail) ?_; conv => whnf) | fail)
  refine ⟨some (⟨[(9, vB true), (11, .ptr 1011 0 6 0), (12, .lst 3 p), (13, .sl 3014 1 0 ((([] : List Int)) : List Int).length), (14, vI 1)], [(1011, .cells (ordCs o)), (3014, .arr 3 (([] : List Int)))]⟩, []), ?_⟩
  conv => whnf
  refine And.intro rfl (And.intro ?_ ?_)
  · refine ⟨rfl, ?_, ?_, rfl⟩
    all_goals (repeat' (first | exact trivial | exact rfl | refine And.intro ?_ ?_ | (refine congrArg vI ?_; first | omega | (dsimp only; omega) | fail) | (refine congrArg some ?_) | omega | exact Nat.le_refl _ | exact congrArg (SV.lst _) (List.take_of_length_le (Nat.le_refl _)).symm))
    all_goals (first | exact congrArg (SV.sl (A := AF) _ 1 0) (by simp) | exact congrArg (Ct.arr (A := AF) 3) (app_eq2 p _) | exact congrArg (Ct.arr (A := AF) 3) (cop_eq p).symm | fail)
  clear hw hx
  generalize hqq : (([] : List Int)) = q at *
  as_aux_lemma =>
  conv => whnf
  repeat' (first | (refine tell (fun htest => ?_) (fun htest => ?_) <;> (try dsimp only at htest) <;> first | (exfalso; omega) | (exact absurd rfl htest) | (exact absurd htest hne) | (exact absurd hne htest) | (exact absurd htest hcne) | (exact absurd htest t1) | (exact absurd t1 htest) | (exact absurd (by decide) htest) | (conv => whnf)) | (refine allG rfl ?_; conv => whnf) | (refine And.intro (by first | omega | assumption | kernel_rfl | exact And.intro rfl rfl | ((try dsimp only [inR, idx, lowOf]); first | omega | (with_reducible decide) | (simp; omega) | (simp; done) | fail) | fail) ?_; conv => whnf) | fail)
  refine ⟨_, m_order, (o, q, 2, 1), [], false, ?_⟩
  conv => whnf
  refine And.intro (vc0 ⟨hql, hqi, (by decide : (0 : Int) ≤ 2), (by decide : (2 : Int) ≤ 1000000)⟩ (by (repeat' (first | exact trivial | exact rfl | refine And.intro ?_ ?_ | (refine congrArg vI ?_; first | omega | (dsimp only; omega) | fail) | (refine congrArg some ?_) | omega | exact Nat.le_refl _ | exact congrArg (SV.lst _) (List.take_of_length_le (Nat.le_refl _)).symm)); all_goals (first | exact Nat.le_of_eq (Nat.zero_add _) | exact congrArg (SV.lst (A := AF) 3) (cop_eq _) | fail)) (by repeat' (first | exact trivial | exact rfl | refine And.intro ?_ ?_ | (refine congrArg vI ?_; first | omega | (dsimp only; omega) | fail) | (refine congrArg some ?_) | omega | exact Nat.le_refl _ | exact congrArg (SV.lst _) (List.take_of_length_le (Nat.le_refl _)).symm)) trivial trivial) ?_
  refine And.intro (ex_false hno) ?_
  intro (c1 : Bool) (hc1 : c1 = true ↔ PathOk q ∧ RightO (ordOf o q 2 1))
  have hobt := is_false hno hc1
  obtain rfl := hobt
  conv => whnf
  repeat' (first | (refine tell (fun htest => ?_) (fun htest => ?_) <;> (try dsimp only at htest) <;> first | (exfalso; omega) | (exact absurd rfl htest) | (exact absurd htest hne) | (exact absurd hne htest) | (exact absurd htest hcne) | (exact absurd htest t1) | (exact absurd t1 htest) | (exact absurd (by decide) htest) | (conv => whnf)) | (refine allG rfl ?_; conv => whnf) | (refine ⟨none, ?_⟩; conv => whnf) | (refine And.intro (by first | omega | assumption | kernel_rfl | exact And.intro rfl rfl | ((try dsimp only [inR, idx, lowOf]); first | omega | (with_reducible decide) | (simp; omega) | (simp; done) | fail) | fail) ?_; conv => whnf) | fail)
  refine ⟨_, m_order, (o, p, 3, 1), [], false, ?_⟩
  conv => whnf
  refine And.intro (vc0 ⟨by show p.length ≤ 127; omega, hsm, (by decide : (0 : Int) ≤ 3), (by decide : (3 : Int) ≤ 1000000)⟩ (by (repeat' (first | exact trivial | exact rfl | refine And.intro ?_ ?_ | (refine congrArg vI ?_; first | omega | (dsimp only; omega) | fail) | (refine congrArg some ?_) | omega | exact Nat.le_refl _ | exact congrArg (SV.lst _) (List.take_of_length_le (Nat.le_refl _)).symm))) (by repeat' (first | exact trivial | exact rfl | refine And.intro ?_ ?_ | (refine congrArg vI ?_; first | omega | (dsimp only; omega) | fail) | (refine congrArg some ?_) | omega | exact Nat.le_refl _ | exact congrArg (SV.lst _) (List.take_of_length_le (Nat.le_refl _)).symm)) trivial trivial) ?_
  refine And.intro (ex_false hno3) ?_
  intro (c2 : Bool) (hc2 : c2 = true ↔ PathOk p ∧ RightO (ordOf o p 3 1))
  have hobt := is_false hno3 hc2
  obtain rfl := hobt
  conv => whnf
  repeat' (first | (refine tell (fun htest => ?_) (fun htest => ?_) <;> (try dsimp only at htest) <;> first | (exfalso; omega) | (exact absurd rfl htest) | (exact absurd htest hne) | (exact absurd hne htest) | (exact absurd htest hcne) | (exact absurd htest t1) | (exact absurd t1 htest) | (exact absurd (by decide) htest) | (conv => whnf)) | (refine allG rfl ?_; conv => whnf) | (refine ⟨none, ?_⟩; conv => whnf) | (refine And.intro (by first | omega | assumption | kernel_rfl | exact And.intro rfl rfl | ((try dsimp only [inR, idx, lowOf]); first | omega | (with_reducible decide) | (simp; omega) | (simp; done) | fail) | fail) ?_; conv => whnf) | fail)
  refine ⟨_, m_same, zeroO, [], false, ?_⟩
  conv => whnf
  refine And.intro (vc0 ⟨by decide, by decide⟩ (by (repeat' (first | exact trivial | exact rfl | refine And.intro ?_ ?_ | (refine congrArg vI ?_; first | omega | (dsimp only; omega) | fail) | (refine congrArg some ?_) | omega | exact Nat.le_refl _ | exact congrArg (SV.lst _) (List.take_of_length_le (Nat.le_refl _)).symm))) (by repeat' (first | exact trivial | exact rfl | refine And.intro ?_ ?_ | (refine congrArg vI ?_; first | omega | (dsimp only; omega) | fail) | (refine congrArg some ?_) | omega | exact Nat.le_refl _ | exact congrArg (SV.lst _) (List.take_of_length_le (Nat.le_refl _)).symm)) trivial trivial) ?_
  refine And.intro ⟨(), trivial⟩ (fun (_ : Unit) _ => ?_)
  conv => whnf
  conv => whnf
  repeat' (first | (refine tell (fun htest => ?_) (fun htest => ?_) <;> (try dsimp only at htest) <;> first | (exfalso; omega) | (exact absurd rfl htest) | (exact absurd htest hne) | (exact absurd hne htest) | (exact absurd htest hcne) | (exact absurd htest t1) | (exact absurd t1 htest) | (exact absurd (by decide) htest) | (conv => whnf)) | (refine allG rfl ?_; conv => whnf) | (refine ⟨none, ?_⟩; conv => whnf) | (refine And.intro (by first | omega | assumption | kernel_rfl | exact And.intro rfl rfl | ((try dsimp only [inR, idx, lowOf]); first | omega | (with_reducible decide) | (simp; omega) | (simp; done) | fail) | fail) ?_; conv => whnf) | fail)
  refine ⟨_, m_same, zeroO, [], false, ?_⟩
  conv => whnf
  refine And.intro (vc0 ⟨by decide, by decide⟩ (by (repeat' (first | exact trivial | exact rfl | refine And.intro ?_ ?_ | (refine congrArg vI ?_; first | omega | (dsimp only; omega) | fail) | (refine congrArg some ?_) | omega | exact Nat.le_refl _ | exact congrArg (SV.lst _) (List.take_of_length_le (Nat.le_refl _)).symm))) (by repeat' (first | exact trivial | exact rfl | refine And.intro ?_ ?_ | (refine congrArg vI ?_; first | omega | (dsimp only; omega) | fail) | (refine congrArg some ?_) | omega | exact Nat.le_refl _ | exact congrArg (SV.lst _) (List.take_of_length_le (Nat.le_refl _)).symm)) trivial trivial) ?_
  refine And.intro ⟨(), trivial⟩ (fun (_ : Unit) _ => ?_)
  conv => whnf
  conv => whnf
  repeat' (first | (refine tell (fun htest => ?_) (fun htest => ?_) <;> (try dsimp only at htest) <;> first | (exfalso; omega) | (exact absurd rfl htest) | (exact absurd htest hne) | (exact absurd hne htest) | (exact absurd htest hcne) | (exact absurd htest t1) | (exact absurd t1 htest) | (exact absurd (by decide) htest) | (conv => whnf)) | (refine allG rfl ?_; conv => whnf) | (refine ⟨none, ?_⟩; conv => whnf) | (refine And.intro (by first | omega | assumption | kernel_rfl | exact And.intro rfl rfl | ((try dsimp only [inR, idx, lowOf]); first | omega | (with_reducible decide) | (simp; omega) | (simp; done) | fail) | fail) ?_; conv => whnf) | fail)
  refine ⟨(), [], trivial, ?_, ?_, ?_⟩
  all_goals (repeat' (first | exact trivial | exact rfl | refine And.intro ?_ ?_ | (refine congrArg vI ?_; first | omega | (dsimp only; omega) | fail) | (refine congrArg some ?_) | omega | exact Nat.le_refl _ | exact congrArg (SV.lst _) (List.take_of_length_le (Nat.le_refl _)).symm))
end Go.Sx

