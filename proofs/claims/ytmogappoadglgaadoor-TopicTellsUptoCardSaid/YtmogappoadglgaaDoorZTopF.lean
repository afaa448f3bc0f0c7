/-
  Layer 7, part F: awake.
-/
import Derived.Test.YtmogappoadglgaaDoorZTopE
set_option linter.unusedVariables false
set_option linter.unusedSimpArgs false
namespace Go.Sx
open Go Go.Proofs Go.Proofs.YtmogappoadglgaaDoor
/-- A specification at one case, its answer told anew. -/
def spAt (S : Spec AF) (g : S.γ) (r : SV AF) : Spec AF where
  γ := Unit
  δ := S.δ
  args := fun _ => S.args g
  own := fun _ => S.own g
  pre := fun _ => True
  nnew := S.nnew
  res := fun _ _ => r
  own' := fun _ d => S.own' g d
  post := fun _ d => S.post g d
theorem meets_at {f : Nat} {S : Spec AF} (h : Meets Tryd.prog regF f S) (g : S.γ) (hp : S.pre g) (r : SV AF) (hr : ∀ d, S.res g d = r) : Meets Tryd.prog regF f (spAt S g r) := by
  refine ⟨h.1, fun _ _ X ρ w vs h1 h2 h3 h4 => (h.2 g hp X ρ w vs h1 h2 h3 h4).mono fun e w' hh => ?_⟩
  obtain ⟨d, ρ', v, q1, q2, q3, q4, q5, q6, q7, q8, q9, q10⟩ := hh
  rw [hr] at q4 q8
  exact ⟨d, ρ', v, q1, q2, q3, q4, q5, q6, q7, q8, q9, q10⟩
abbrev awT : Topic := ([109], [118, 49], [115, 116, 97, 116, 101])
abbrev awS : Txt := [117, 97, 103, 118, 47, 118, 50, 47, 109, 47, 118, 49, 47, 115, 116, 97, 116, 101]
abbrev awX : Txt := [117, 97, 103, 118, 47, 118, 50, 47, 109, 47, 118, 49, 47, 120]
abbrev awF : Txt := [117, 97, 103, 118, 47, 118, 50, 47, 43, 47, 118, 49, 47, 35]
abbrev awG : Txt := [117, 97, 103, 118, 47, 43]
theorem aw_print : Meets Tryd.prog regF 44 (spAt spPrint awT (.tup [vS awS, vI 0])) := meets_at m_print awT trivial _ fun _ => by
  show SV.tup [vS (printS awT), vI (printE awT)] = _
  rw [show printS awT = awS by decide +kernel, show printE awT = 0 by decide +kernel]
theorem aw_parse : Meets Tryd.prog regF 47 (spAt spParse awS (.tup [topS awT, vI 0])) := meets_at m_parse awS (by show (18 : Nat) ≤ _; decide) _ fun _ => by
  show SV.tup [topS (parseT awS), vI (parseE awS)] = _
  rw [show parseT awS = awT by decide +kernel, show parseE awS = 0 by decide +kernel]
theorem aw_parse2 : Meets Tryd.prog regF 47 (spAt spParse awX (.tup [topS ([], [], []), vI 70])) := meets_at m_parse awX (by show (14 : Nat) ≤ _; decide) _ fun _ => by
  show SV.tup [topS (parseT awX), vI (parseE awX)] = _
  rw [show parseT awX = ([], [], []) by decide +kernel, show parseE awX = 70 by decide +kernel]
theorem aw_match : Meets Tryd.prog regF 49 (spAt spMatch (awF, awS) (vB true)) := meets_at m_match (awF, awS) ⟨by show (14 : Nat) ≤ _; decide, by show (18 : Nat) ≤ _; decide⟩ _ fun _ => by
  show vB (matchP (partsN awF) (partsN awS)) = _
  rw [show matchP (partsN awF) (partsN awS) = true by decide +kernel]
theorem aw_match2 : Meets Tryd.prog regF 49 (spAt spMatch (awG, awS) (vB false)) := meets_at m_match (awG, awS) ⟨by show (6 : Nat) ≤ _; decide, by show (18 : Nat) ≤ _; decide⟩ _ fun _ => by
  show vB (matchP (partsN awG) (partsN awS)) = _
  rw [show matchP (partsN awG) (partsN awS) = false by decide +kernel]
theorem aw_name : Meets Tryd.prog regF 45 (spAt spName [118, 49] (vB true)) := meets_at m_name [118, 49] trivial _ fun _ => by
  show vB (nameF [118, 49]) = _
  rw [show nameF [118, 49] = true by decide +kernel]
def spAwake07 : Spec AF where
  γ := Unit
  δ := Unit
  args := fun _ => []
  own := fun _ => []
  pre := fun _ => True
  nnew := 0
  res := fun _ _ => vB true
  own' := fun _ _ => []
  post := fun _ _ => True
theorem eq_top {a b c : ByteArray} : ((a.toList == a.toList) && ((b.toList == b.toList) && ((c.toList == c.toList) && true))) = true := by simp
set_option maxRecDepth 100000 in
theorem m_awake07 : Meets Tryd.prog regF 40 spAwake07 := by
  refine meets Tryd.func40 54 noWr rfl (by kernel_rfl) (by kernel_rfl) ?_
  rintro _ _
  have t1 := eq_top (a := ⟨#[109]⟩) (b := ⟨#[118, 49]⟩) (c := ⟨#[115, 116, 97, 116, 101]⟩)
  conv => whnf
  repeat' (first | (refine tell (fun hQ => ?_) (fun hQ => ?_) <;> (try dsimp only at hQ) <;> first | (exfalso; omega) | (exact absurd rfl hQ) | (exact absurd hQ t1) | (exact absurd t1 hQ) | (exact absurd (by decide) hQ) | (conv => whnf)) | (refine allG rfl ?_; conv => whnf) | (refine And.intro (by first | omega | assumption | kernel_rfl | exact And.intro rfl rfl | ((try dsimp only [inR, idx, lowOf]); first | omega | (with_reducible decide) | (simp; omega) | (simp; done) | fail) | fail) ?_; conv => whnf) | fail)
  refine ⟨_, aw_print, (), [], false, ?_⟩
  conv => whnf
  refine And.intro (vc0 trivial (by (repeat' (first | exact trivial | exact rfl | refine And.intro ?_ ?_ | (refine congrArg vI ?_; first | omega | (dsimp only; omega) | fail) | (refine congrArg some ?_) | omega | exact Nat.le_refl _ | exact congrArg (SV.lst _) (List.take_of_length_le (Nat.le_refl _)).symm))) (by repeat' (first | exact trivial | exact rfl | refine And.intro ?_ ?_ | (refine congrArg vI ?_; first | omega | (dsimp only; omega) | fail) | (refine congrArg some ?_) | omega | exact Nat.le_refl _ | exact congrArg (SV.lst _) (List.take_of_length_le (Nat.le_refl _)).symm)) trivial trivial) ?_
  refine And.intro ⟨(), trivial⟩ (fun (_ : Unit) _ => ?_)
  conv => whnf
  conv => whnf
  repeat' (first | (refine tell (fun hQ => ?_) (fun hQ => ?_) <;> (try dsimp only at hQ) <;> first | (exfalso; omega) | (exact absurd rfl hQ) | (exact absurd hQ t1) | (exact absurd t1 hQ) | (exact absurd (by decide) hQ) | (conv => whnf)) | (refine allG rfl ?_; conv => whnf) | (refine And.intro (by first | omega | assumption | kernel_rfl | exact And.intro rfl rfl | ((try dsimp only [inR, idx, lowOf]); first | omega | (with_reducible decide) | (simp; omega) | (simp; done) | fail) | fail) ?_; conv => whnf) | fail)
  refine ⟨_, aw_parse, (), [], false, ?_⟩
  conv => whnf
  refine And.intro (vc0 trivial (by (repeat' (first | exact trivial | exact rfl | refine And.intro ?_ ?_ | (refine congrArg vI ?_; first | omega | (dsimp only; omega) | fail) | (refine congrArg some ?_) | omega | exact Nat.le_refl _ | exact congrArg (SV.lst _) (List.take_of_length_le (Nat.le_refl _)).symm))) (by repeat' (first | exact trivial | exact rfl | refine And.intro ?_ ?_ | (refine congrArg vI ?_; first | omega | (dsimp only; omega) | fail) | (refine congrArg some ?_) | omega | exact Nat.le_refl _ | exact congrArg (SV.lst _) (List.take_of_length_le (Nat.le_refl _)).symm)) trivial trivial) ?_
  refine And.intro ⟨(), trivial⟩ (fun (_ : Unit) _ => ?_)
  conv => whnf
  conv => whnf
  repeat' (first | (refine tell (fun hQ => ?_) (fun hQ => ?_) <;> (try dsimp only at hQ) <;> first | (exfalso; omega) | (exact absurd rfl hQ) | (exact absurd hQ t1) | (exact absurd t1 hQ) | (exact absurd (by decide) hQ) | (conv => whnf)) | (refine allG rfl ?_; conv => whnf) | (refine And.intro (by first | omega | assumption | kernel_rfl | exact And.intro rfl rfl | ((try dsimp only [inR, idx, lowOf]); first | omega | (with_reducible decide) | (simp; omega) | (simp; done) | fail) | fail) ?_; conv => whnf) | fail)
  refine ⟨_, aw_parse2, (), [], false, ?_⟩
  conv => whnf
  refine And.intro (vc0 trivial (by (repeat' (first | exact trivial | exact rfl | refine And.intro ?_ ?_ | (refine congrArg vI ?_; first | omega | (dsimp only; omega) | fail) | (refine congrArg some ?_) | omega | exact Nat.le_refl _ | exact congrArg (SV.lst _) (List.take_of_length_le (Nat.le_refl _)).symm))) (by repeat' (first | exact trivial | exact rfl | refine And.intro ?_ ?_ | (refine congrArg vI ?_; first | omega | (dsimp only; omega) | fail) | (refine congrArg some ?_) | omega | exact Nat.le_refl _ | exact congrArg (SV.lst _) (List.take_of_length_le (Nat.le_refl _)).symm)) trivial trivial) ?_
  refine And.intro ⟨(), trivial⟩ (fun (_ : Unit) _ => ?_)
  conv => whnf
  conv => whnf
  repeat' (first | (refine tell (fun hQ => ?_) (fun hQ => ?_) <;> (try dsimp only at hQ) <;> first | (exfalso; omega) | (exact absurd rfl hQ) | (exact absurd hQ t1) | (exact absurd t1 hQ) | (exact absurd (by decide) hQ) | (conv => whnf)) | (refine allG rfl ?_; conv => whnf) | (refine And.intro (by first | omega | assumption | kernel_rfl | exact And.intro rfl rfl | ((try dsimp only [inR, idx, lowOf]); first | omega | (with_reducible decide) | (simp; omega) | (simp; done) | fail) | fail) ?_; conv => whnf) | fail)
  refine ⟨_, aw_match, (), [], false, ?_⟩
  conv => whnf
  refine And.intro (vc0 trivial (by (repeat' (first | exact trivial | exact rfl | refine And.intro ?_ ?_ | (refine congrArg vI ?_; first | omega | (dsimp only; omega) | fail) | (refine congrArg some ?_) | omega | exact Nat.le_refl _ | exact congrArg (SV.lst _) (List.take_of_length_le (Nat.le_refl _)).symm))) (by repeat' (first | exact trivial | exact rfl | refine And.intro ?_ ?_ | (refine congrArg vI ?_; first | omega | (dsimp only; omega) | fail) | (refine congrArg some ?_) | omega | exact Nat.le_refl _ | exact congrArg (SV.lst _) (List.take_of_length_le (Nat.le_refl _)).symm)) trivial trivial) ?_
  refine And.intro ⟨(), trivial⟩ (fun (_ : Unit) _ => ?_)
  conv => whnf
  conv => whnf
  repeat' (first | (refine tell (fun hQ => ?_) (fun hQ => ?_) <;> (try dsimp only at hQ) <;> first | (exfalso; omega) | (exact absurd rfl hQ) | (exact absurd hQ t1) | (exact absurd t1 hQ) | (exact absurd (by decide) hQ) | (conv => whnf)) | (refine allG rfl ?_; conv => whnf) | (refine And.intro (by first | omega | assumption | kernel_rfl | exact And.intro rfl rfl | ((try dsimp only [inR, idx, lowOf]); first | omega | (with_reducible decide) | (simp; omega) | (simp; done) | fail) | fail) ?_; conv => whnf) | fail)
  refine ⟨_, aw_match2, (), [], false, ?_⟩
  conv => whnf
  refine And.intro (vc0 trivial (by (repeat' (first | exact trivial | exact rfl | refine And.intro ?_ ?_ | (refine congrArg vI ?_; first | omega | (dsimp only; omega) | fail) | (refine congrArg some ?_) | omega | exact Nat.le_refl _ | exact congrArg (SV.lst _) (List.take_of_length_le (Nat.le_refl _)).symm))) (by repeat' (first | exact trivial | exact rfl | refine And.intro ?_ ?_ | (refine congrArg vI ?_; first | omega | (dsimp only; omega) | fail) | (refine congrArg some ?_) | omega | exact Nat.le_refl _ | exact congrArg (SV.lst _) (List.take_of_length_le (Nat.le_refl _)).symm)) trivial trivial) ?_
  refine And.intro ⟨(), trivial⟩ (fun (_ : Unit) _ => ?_)
  conv => whnf
  conv => whnf
  repeat' (first | (refine tell (fun hQ => ?_) (fun hQ => ?_) <;> (try dsimp only at hQ) <;> first | (exfalso; omega) | (exact absurd rfl hQ) | (exact absurd hQ t1) | (exact absurd t1 hQ) | (exact absurd (by decide) hQ) | (conv => whnf)) | (refine allG rfl ?_; conv => whnf) | (refine And.intro (by first | omega | assumption | kernel_rfl | exact And.intro rfl rfl | ((try dsimp only [inR, idx, lowOf]); first | omega | (with_reducible decide) | (simp; omega) | (simp; done) | fail) | fail) ?_; conv => whnf) | fail)
  refine ⟨_, aw_name, (), [], false, ?_⟩
  conv => whnf
  refine And.intro (vc0 trivial (by (repeat' (first | exact trivial | exact rfl | refine And.intro ?_ ?_ | (refine congrArg vI ?_; first | omega | (dsimp only; omega) | fail) | (refine congrArg some ?_) | omega | exact Nat.le_refl _ | exact congrArg (SV.lst _) (List.take_of_length_le (Nat.le_refl _)).symm))) (by repeat' (first | exact trivial | exact rfl | refine And.intro ?_ ?_ | (refine congrArg vI ?_; first | omega | (dsimp only; omega) | fail) | (refine congrArg some ?_) | omega | exact Nat.le_refl _ | exact congrArg (SV.lst _) (List.take_of_length_le (Nat.le_refl _)).symm)) trivial trivial) ?_
  refine And.intro ⟨(), trivial⟩ (fun (_ : Unit) _ => ?_)
  conv => whnf
  conv => whnf
  repeat' (first | (refine tell (fun hQ => ?_) (fun hQ => ?_) <;> (try dsimp only at hQ) <;> first | (exfalso; omega) | (exact absurd rfl hQ) | (exact absurd hQ t1) | (exact absurd t1 hQ) | (exact absurd (by decide) hQ) | (conv => whnf)) | (refine allG rfl ?_; conv => whnf) | (refine And.intro (by first | omega | assumption | kernel_rfl | exact And.intro rfl rfl | ((try dsimp only [inR, idx, lowOf]); first | omega | (with_reducible decide) | (simp; omega) | (simp; done) | fail) | fail) ?_; conv => whnf) | fail)
  exact ⟨(), [], trivial, rfl, trivial, trivial⟩
end Go.Sx

