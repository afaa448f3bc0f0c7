/-
  Layer 7, part E: Parse, Match.
-/
import Derived.Test.YtmogappoadglgaaDoorZTopD
set_option linter.unusedVariables false
set_option linter.unusedSimpArgs false
namespace Go.Sx
open Go Go.Proofs Go.Proofs.YtmogappoadglgaaDoor
def spParse : Spec AF where
  γ := Txt
  δ := Unit
  args := fun l => [vS l]
  own := fun _ => []
  pre := fun l => l.length ≤ 4000000000000
  nnew := 0
  res := fun l _ => .tup [topS (parseT l), vI (parseE l)]
  own' := fun _ _ => []
  post := fun _ _ => True
theorem cut_no {l : Txt} (h : Lib.hasPrefix l headL = false) : parseN l = none := by
  refine parse_nohead fun hp => ?_
  have : headL.isPrefixOf l = true := List.isPrefixOf_iff_prefix.2 hp
  unfold Lib.hasPrefix at h
  rw [this] at h; cases h
theorem cut_yes {l : Txt} (h : Lib.hasPrefix l headL = true) : l = headL ++ Lib.trimPrefix l headL := by
  unfold Lib.trimPrefix
  rw [if_pos h]
  unfold Lib.hasPrefix at h
  have hobt := List.isPrefixOf_iff_prefix.1 h
  obtain ⟨t, rfl⟩ := hobt
  rw [List.drop_left]
theorem cut_len (l : Txt) : (Lib.trimPrefix l headL).length ≤ l.length := by
  unfold Lib.trimPrefix
  split
  · rw [List.length_drop]; omega
  · exact Nat.le_refl _
set_option maxRecDepth 100000 in
theorem m_parse : Meets Tryd.prog regF 47 spParse := by
  refine meets Tryd.func47 54 noWr rfl (by kernel_rfl) (by kernel_rfl) ?_
  rintro (l : Txt) (hl : l.length ≤ 4000000000000)
  have hcl := cut_len l
  have bad : parseN l = none → parseT l = ([], [], []) ∧ parseE l = 70 := fun h => by unfold parseT parseE; rw [h]; exact ⟨rfl, rfl⟩
  have good : ∀ t, parseN l = some t → parseT l = t ∧ parseE l = 0 := fun t h => by unfold parseT parseE; rw [h]; exact ⟨rfl, rfl⟩
  have hyes := cut_yes (l := l)
  have hno := cut_no (l := l)
  conv => whnf
  repeat' (first | (refine tell (fun hQ => ?_) (fun hQ => ?_) <;> (try dsimp only at hQ) <;> first | (exfalso; omega) | (exact absurd rfl hQ) | (exact absurd hQ hne) | (exact absurd hne hQ) | (exact absurd hQ hcne) | (exact absurd hQ t1) | (exact absurd t1 hQ) | (exact absurd (by decide) hQ) | (conv => whnf)) | (refine allG rfl ?_; conv => whnf) | (refine And.intro (by first | omega | assumption | kernel_rfl | exact And.intro rfl rfl | ((try dsimp only [inR, idx, lowOf]); first | omega | (with_reducible decide) | (simp; omega) | (simp; done) | fail) | fail) ?_; conv => whnf) | fail)
  refine ⟨_, m_cut, l, [], false, ?_⟩
  conv => whnf
  refine And.intro (vc0 trivial (by (repeat' (first | exact trivial | exact rfl | refine And.intro ?_ ?_ | (refine congrArg vI ?_; first | omega | (dsimp only; omega) | fail) | (refine congrArg some ?_) | omega | exact Nat.le_refl _ | exact congrArg (SV.lst _) (List.take_of_length_le (Nat.le_refl _)).symm))) (by repeat' (first | exact trivial | exact rfl | refine And.intro ?_ ?_ | (refine congrArg vI ?_; first | omega | (dsimp only; omega) | fail) | (refine congrArg some ?_) | omega | exact Nat.le_refl _ | exact congrArg (SV.lst _) (List.take_of_length_le (Nat.le_refl _)).symm)) trivial trivial) ?_
  refine And.intro ⟨(), trivial⟩ (fun (_ : Unit) _ => ?_)
  conv => whnf
  generalize Lib.trimPrefix l headL = beh at *
  generalize Lib.hasPrefix l headL = ok at *
  conv => whnf
  repeat' (first | (refine tell (fun hQ => ?_) (fun hQ => ?_) <;> (try dsimp only at hQ) <;> first | (exfalso; omega) | (exact absurd rfl hQ) | (exact absurd hQ hne) | (exact absurd hne hQ) | (exact absurd hQ hcne) | (exact absurd hQ t1) | (exact absurd t1 hQ) | (exact absurd (by decide) hQ) | (conv => whnf)) | (refine allG rfl ?_; conv => whnf) | (refine And.intro (by first | omega | assumption | kernel_rfl | exact And.intro rfl rfl | ((try dsimp only [inR, idx, lowOf]); first | omega | (with_reducible decide) | (simp; omega) | (simp; done) | fail) | fail) ?_; conv => whnf) | fail)
  refine ⟨_, m_parts, beh, [], false, ?_⟩
  conv => whnf
  refine And.intro (vc0 trivial (by (repeat' (first | exact trivial | exact rfl | refine And.intro ?_ ?_ | (refine congrArg vI ?_; first | omega | (dsimp only; omega) | fail) | (refine congrArg some ?_) | omega | exact Nat.le_refl _ | exact congrArg (SV.lst _) (List.take_of_length_le (Nat.le_refl _)).symm))) (by repeat' (first | exact trivial | exact rfl | refine And.intro ?_ ?_ | (refine congrArg vI ?_; first | omega | (dsimp only; omega) | fail) | (refine congrArg some ?_) | omega | exact Nat.le_refl _ | exact congrArg (SV.lst _) (List.take_of_length_le (Nat.le_refl _)).symm)) trivial trivial) ?_
  refine And.intro ⟨(), trivial⟩ (fun (_ : Unit) _ => ?_)
  conv => whnf
  conv => whnf
  repeat' (first | (refine tell (fun hQ => ?_) (fun hQ => ?_) <;> (try dsimp only at hQ) <;> first | (exfalso; omega) | (exact absurd rfl hQ) | (exact absurd hQ hne) | (exact absurd hne hQ) | (exact absurd hQ hcne) | (exact absurd hQ t1) | (exact absurd t1 hQ) | (exact absurd (by decide) hQ) | (conv => whnf)) | (refine allG rfl ?_; conv => whnf) | (refine And.intro (by first | omega | assumption | kernel_rfl | exact And.intro rfl rfl | ((try dsimp only [inR, idx, lowOf]); first | omega | (with_reducible decide) | (simp; omega) | (simp; done) | fail) | fail) ?_; conv => whnf) | fail)
  refine ⟨_, m_collect, beh, [1013, 2013, 3013], false, ?_⟩
  conv => whnf
  refine And.intro (vc0 (by show beh.length ≤ _; omega) (by (repeat' (first | exact trivial | exact rfl | refine And.intro ?_ ?_ | (refine congrArg vI ?_; first | omega | (dsimp only; omega) | fail) | (refine congrArg some ?_) | omega | exact Nat.le_refl _ | exact congrArg (SV.lst _) (List.take_of_length_le (Nat.le_refl _)).symm))) (by repeat' (first | exact trivial | exact rfl | refine And.intro ?_ ?_ | (refine congrArg vI ?_; first | omega | (dsimp only; omega) | fail) | (refine congrArg some ?_) | omega | exact Nat.le_refl _ | exact congrArg (SV.lst _) (List.take_of_length_le (Nat.le_refl _)).symm)) trivial trivial) ?_
  refine And.intro ⟨(), trivial⟩ (fun (_ : Unit) _ => ?_)
  conv => whnf
  have hml : ((partsN beh).map bS).length = (partsN beh).length := List.length_map ..
  cases ok
  · have hobt := bad (hno rfl)
    obtain ⟨e1, e2⟩ := hobt
    conv => whnf
    repeat' (first | (refine tell (fun hQ => ?_) (fun hQ => ?_) <;> (try dsimp only at hQ) <;> first | (exfalso; omega) | (exact absurd rfl hQ) | (exact absurd hQ hne) | (exact absurd hne hQ) | (exact absurd hQ hcne) | (exact absurd hQ t1) | (exact absurd t1 hQ) | (exact absurd (by decide) hQ) | (conv => whnf)) | (refine allG rfl ?_; conv => whnf) | (refine And.intro (by first | omega | assumption | kernel_rfl | exact And.intro rfl rfl | ((try dsimp only [inR, idx, lowOf]); first | omega | (with_reducible decide) | (simp; omega) | (simp; done) | fail) | fail) ?_; conv => whnf) | fail)
    exact ⟨(), [], trivial, ⟨⟨congrArg (fun t : Topic => vS t.1) e1.symm, congrArg (fun t : Topic => vS t.2.1) e1.symm, congrArg (fun t : Topic => vS t.2.2) e1.symm, trivial⟩, eIA e2.symm, trivial⟩, trivial, trivial⟩
  have hll := hyes rfl
  have hph := parse_head beh
  rw [← hll] at hph
  by_cases h3 : (partsN beh).length = 3
  · obtain ⟨m, s, k, hp⟩ : ∃ m s k, partsN beh = [m, s, k] := by
      match hq : partsN beh, h3 with
      | [m, s, k], _ => exact ⟨m, s, k, rfl⟩
    rw [hp] at hph
    dsimp only at hph
    have g0 : ((partsN beh).map bS)[0]? = some (bS m) := by rw [hp]; rfl
    have g1 : ((partsN beh).map bS)[1]? = some (bS s) := by rw [hp]; rfl
    have g2 : ((partsN beh).map bS)[2]? = some (bS k) := by rw [hp]; rfl
    conv => whnf
    repeat' (first | (refine tell (fun hQ => ?_) (fun hQ => ?_) <;> (try dsimp only at hQ) <;> first | (exfalso; omega) | (exact absurd rfl hQ) | (exact absurd hQ hne) | (exact absurd hne hQ) | (exact absurd hQ hcne) | (exact absurd hQ t1) | (exact absurd t1 hQ) | (exact absurd (by decide) hQ) | (conv => whnf)) | (refine allG (x := _) (by first | exact g0 | simpa [List.getElem?_append_right, lowOf] using g0 | fail) ?_; conv => whnf) | (refine allLst (x := _) (by first | omega | assumption | fail) (by first | exact g0 | simpa using g0 | fail) ?_; conv => whnf) | (refine allG (x := _) (by first | exact g1 | simpa [List.getElem?_append_right, lowOf] using g1 | fail) ?_; conv => whnf) | (refine allLst (x := _) (by first | omega | assumption | fail) (by first | exact g1 | simpa using g1 | fail) ?_; conv => whnf) | (refine allG (x := _) (by first | exact g2 | simpa [List.getElem?_append_right, lowOf] using g2 | fail) ?_; conv => whnf) | (refine allLst (x := _) (by first | omega | assumption | fail) (by first | exact g2 | simpa using g2 | fail) ?_; conv => whnf) | (refine allG rfl ?_; conv => whnf) | (refine And.intro (by first | omega | assumption | kernel_rfl | exact And.intro rfl rfl | ((try dsimp only [inR, idx, lowOf]); first | omega | (with_reducible decide) | (simp; omega) | (simp; done) | fail) | fail) ?_; conv => whnf) | fail)
    refine ⟨_, m_name, m, [], false, ?_⟩
    conv => whnf
    refine And.intro (vc0 trivial (by (repeat' (first | exact trivial | exact rfl | refine And.intro ?_ ?_ | (refine congrArg vI ?_; first | omega | (dsimp only; omega) | fail) | (refine congrArg some ?_) | omega | exact Nat.le_refl _ | exact congrArg (SV.lst _) (List.take_of_length_le (Nat.le_refl _)).symm))) (by repeat' (first | exact trivial | exact rfl | refine And.intro ?_ ?_ | (refine congrArg vI ?_; first | omega | (dsimp only; omega) | fail) | (refine congrArg some ?_) | omega | exact Nat.le_refl _ | exact congrArg (SV.lst _) (List.take_of_length_le (Nat.le_refl _)).symm)) trivial trivial) ?_
    refine And.intro ⟨(), trivial⟩ (fun (_ : Unit) _ => ?_)
    conv => whnf
    cases h1 : nameF m
    · have hobt := bad (by rw [hph, if_neg]; unfold okT; simp [h1])
      obtain ⟨e1, e2⟩ := hobt
      conv => whnf
      repeat' (first | (refine tell (fun hQ => ?_) (fun hQ => ?_) <;> (try dsimp only at hQ) <;> first | (exfalso; omega) | (exact absurd rfl hQ) | (exact absurd hQ hne) | (exact absurd hne hQ) | (exact absurd hQ hcne) | (exact absurd hQ t1) | (exact absurd t1 hQ) | (exact absurd (by decide) hQ) | (conv => whnf)) | (refine allG rfl ?_; conv => whnf) | (refine And.intro (by first | omega | assumption | kernel_rfl | exact And.intro rfl rfl | ((try dsimp only [inR, idx, lowOf]); first | omega | (with_reducible decide) | (simp; omega) | (simp; done) | fail) | fail) ?_; conv => whnf) | fail)
      exact ⟨(), [], trivial, ⟨⟨congrArg (fun t : Topic => vS t.1) e1.symm, congrArg (fun t : Topic => vS t.2.1) e1.symm, congrArg (fun t : Topic => vS t.2.2) e1.symm, trivial⟩, eIA e2.symm, trivial⟩, trivial, trivial⟩
    conv => whnf
    repeat' (first | (refine tell (fun hQ => ?_) (fun hQ => ?_) <;> (try dsimp only at hQ) <;> first | (exfalso; omega) | (exact absurd rfl hQ) | (exact absurd hQ hne) | (exact absurd hne hQ) | (exact absurd hQ hcne) | (exact absurd hQ t1) | (exact absurd t1 hQ) | (exact absurd (by decide) hQ) | (conv => whnf)) | (refine allG (x := _) (by first | exact g0 | simpa [List.getElem?_append_right, lowOf] using g0 | fail) ?_; conv => whnf) | (refine allLst (x := _) (by first | omega | assumption | fail) (by first | exact g0 | simpa using g0 | fail) ?_; conv => whnf) | (refine allG (x := _) (by first | exact g1 | simpa [List.getElem?_append_right, lowOf] using g1 | fail) ?_; conv => whnf) | (refine allLst (x := _) (by first | omega | assumption | fail) (by first | exact g1 | simpa using g1 | fail) ?_; conv => whnf) | (refine allG (x := _) (by first | exact g2 | simpa [List.getElem?_append_right, lowOf] using g2 | fail) ?_; conv => whnf) | (refine allLst (x := _) (by first | omega | assumption | fail) (by first | exact g2 | simpa using g2 | fail) ?_; conv => whnf) | (refine allG rfl ?_; conv => whnf) | (refine And.intro (by first | omega | assumption | kernel_rfl | exact And.intro rfl rfl | ((try dsimp only [inR, idx, lowOf]); first | omega | (with_reducible decide) | (simp; omega) | (simp; done) | fail) | fail) ?_; conv => whnf) | fail)
    refine ⟨_, m_name, s, [], false, ?_⟩
    conv => whnf
    refine And.intro (vc0 trivial (by (repeat' (first | exact trivial | exact rfl | refine And.intro ?_ ?_ | (refine congrArg vI ?_; first | omega | (dsimp only; omega) | fail) | (refine congrArg some ?_) | omega | exact Nat.le_refl _ | exact congrArg (SV.lst _) (List.take_of_length_le (Nat.le_refl _)).symm))) (by repeat' (first | exact trivial | exact rfl | refine And.intro ?_ ?_ | (refine congrArg vI ?_; first | omega | (dsimp only; omega) | fail) | (refine congrArg some ?_) | omega | exact Nat.le_refl _ | exact congrArg (SV.lst _) (List.take_of_length_le (Nat.le_refl _)).symm)) trivial trivial) ?_
    refine And.intro ⟨(), trivial⟩ (fun (_ : Unit) _ => ?_)
    conv => whnf
    cases h2 : nameF s
    · have hobt := bad (by rw [hph, if_neg]; unfold okT; simp [h2])
      obtain ⟨e1, e2⟩ := hobt
      conv => whnf
      repeat' (first | (refine tell (fun hQ => ?_) (fun hQ => ?_) <;> (try dsimp only at hQ) <;> first | (exfalso; omega) | (exact absurd rfl hQ) | (exact absurd hQ hne) | (exact absurd hne hQ) | (exact absurd hQ hcne) | (exact absurd hQ t1) | (exact absurd t1 hQ) | (exact absurd (by decide) hQ) | (conv => whnf)) | (refine allG rfl ?_; conv => whnf) | (refine And.intro (by first | omega | assumption | kernel_rfl | exact And.intro rfl rfl | ((try dsimp only [inR, idx, lowOf]); first | omega | (with_reducible decide) | (simp; omega) | (simp; done) | fail) | fail) ?_; conv => whnf) | fail)
      exact ⟨(), [], trivial, ⟨⟨congrArg (fun t : Topic => vS t.1) e1.symm, congrArg (fun t : Topic => vS t.2.1) e1.symm, congrArg (fun t : Topic => vS t.2.2) e1.symm, trivial⟩, eIA e2.symm, trivial⟩, trivial, trivial⟩
    conv => whnf
    repeat' (first | (refine tell (fun hQ => ?_) (fun hQ => ?_) <;> (try dsimp only at hQ) <;> first | (exfalso; omega) | (exact absurd rfl hQ) | (exact absurd hQ hne) | (exact absurd hne hQ) | (exact absurd hQ hcne) | (exact absurd hQ t1) | (exact absurd t1 hQ) | (exact absurd (by decide) hQ) | (conv => whnf)) | (refine allG (x := _) (by first | exact g0 | simpa [List.getElem?_append_right, lowOf] using g0 | fail) ?_; conv => whnf) | (refine allLst (x := _) (by first | omega | assumption | fail) (by first | exact g0 | simpa using g0 | fail) ?_; conv => whnf) | (refine allG (x := _) (by first | exact g1 | simpa [List.getElem?_append_right, lowOf] using g1 | fail) ?_; conv => whnf) | (refine allLst (x := _) (by first | omega | assumption | fail) (by first | exact g1 | simpa using g1 | fail) ?_; conv => whnf) | (refine allG (x := _) (by first | exact g2 | simpa [List.getElem?_append_right, lowOf] using g2 | fail) ?_; conv => whnf) | (refine allLst (x := _) (by first | omega | assumption | fail) (by first | exact g2 | simpa using g2 | fail) ?_; conv => whnf) | (refine allG rfl ?_; conv => whnf) | (refine And.intro (by first | omega | assumption | kernel_rfl | exact And.intro rfl rfl | ((try dsimp only [inR, idx, lowOf]); first | omega | (with_reducible decide) | (simp; omega) | (simp; done) | fail) | fail) ?_; conv => whnf) | fail)
    refine ⟨_, m_kindS, k, [], false, ?_⟩
    conv => whnf
    refine And.intro (vc0 trivial (by (repeat' (first | exact trivial | exact rfl | refine And.intro ?_ ?_ | (refine congrArg vI ?_; first | omega | (dsimp only; omega) | fail) | (refine congrArg some ?_) | omega | exact Nat.le_refl _ | exact congrArg (SV.lst _) (List.take_of_length_le (Nat.le_refl _)).symm))) (by repeat' (first | exact trivial | exact rfl | refine And.intro ?_ ?_ | (refine congrArg vI ?_; first | omega | (dsimp only; omega) | fail) | (refine congrArg some ?_) | omega | exact Nat.le_refl _ | exact congrArg (SV.lst _) (List.take_of_length_le (Nat.le_refl _)).symm)) trivial trivial) ?_
    refine And.intro ⟨(), trivial⟩ (fun (_ : Unit) _ => ?_)
    conv => whnf
    cases h4 : kindT k
    · have hobt := bad (by rw [hph, if_neg]; unfold okT; simp [h4])
      obtain ⟨e1, e2⟩ := hobt
      conv => whnf
      repeat' (first | (refine tell (fun hQ => ?_) (fun hQ => ?_) <;> (try dsimp only at hQ) <;> first | (exfalso; omega) | (exact absurd rfl hQ) | (exact absurd hQ hne) | (exact absurd hne hQ) | (exact absurd hQ hcne) | (exact absurd hQ t1) | (exact absurd t1 hQ) | (exact absurd (by decide) hQ) | (conv => whnf)) | (refine allG rfl ?_; conv => whnf) | (refine And.intro (by first | omega | assumption | kernel_rfl | exact And.intro rfl rfl | ((try dsimp only [inR, idx, lowOf]); first | omega | (with_reducible decide) | (simp; omega) | (simp; done) | fail) | fail) ?_; conv => whnf) | fail)
      exact ⟨(), [], trivial, ⟨⟨congrArg (fun t : Topic => vS t.1) e1.symm, congrArg (fun t : Topic => vS t.2.1) e1.symm, congrArg (fun t : Topic => vS t.2.2) e1.symm, trivial⟩, eIA e2.symm, trivial⟩, trivial, trivial⟩
    have hobt := good (m, s, k) (by rw [hph, if_pos (okT_iff.2 ⟨h1, h2, h4⟩)])
    obtain ⟨e1, e2⟩ := hobt
    conv => whnf
    repeat' (first | (refine tell (fun hQ => ?_) (fun hQ => ?_) <;> (try dsimp only at hQ) <;> first | (exfalso; omega) | (exact absurd rfl hQ) | (exact absurd hQ hne) | (exact absurd hne hQ) | (exact absurd hQ hcne) | (exact absurd hQ t1) | (exact absurd t1 hQ) | (exact absurd (by decide) hQ) | (conv => whnf)) | (refine allG (x := _) (by first | exact g0 | simpa [List.getElem?_append_right, lowOf] using g0 | fail) ?_; conv => whnf) | (refine allLst (x := _) (by first | omega | assumption | fail) (by first | exact g0 | simpa using g0 | fail) ?_; conv => whnf) | (refine allG (x := _) (by first | exact g1 | simpa [List.getElem?_append_right, lowOf] using g1 | fail) ?_; conv => whnf) | (refine allLst (x := _) (by first | omega | assumption | fail) (by first | exact g1 | simpa using g1 | fail) ?_; conv => whnf) | (refine allG (x := _) (by first | exact g2 | simpa [List.getElem?_append_right, lowOf] using g2 | fail) ?_; conv => whnf) | (refine allLst (x := _) (by first | omega | assumption | fail) (by first | exact g2 | simpa using g2 | fail) ?_; conv => whnf) | (refine allG rfl ?_; conv => whnf) | (refine And.intro (by first | omega | assumption | kernel_rfl | exact And.intro rfl rfl | ((try dsimp only [inR, idx, lowOf]); first | omega | (with_reducible decide) | (simp; omega) | (simp; done) | fail) | fail) ?_; conv => whnf) | fail)
    exact ⟨(), [], trivial, ⟨⟨congrArg (fun t : Topic => vS t.1) e1.symm, congrArg (fun t : Topic => vS t.2.1) e1.symm, congrArg (fun t : Topic => vS t.2.2) e1.symm, trivial⟩, eIA e2.symm, trivial⟩, trivial, trivial⟩
  · have hpn : parseN l = none := by
      rw [hph]
      split
      · rename_i hq; rw [hq] at h3; exact absurd rfl h3
      · rfl
    have hobt := bad hpn
    obtain ⟨e1, e2⟩ := hobt
    conv => whnf
    repeat' (first | (refine tell (fun hQ => ?_) (fun hQ => ?_) <;> (try dsimp only at hQ) <;> first | (exfalso; omega) | (exact absurd rfl hQ) | (exact absurd hQ hne) | (exact absurd hne hQ) | (exact absurd hQ hcne) | (exact absurd hQ t1) | (exact absurd t1 hQ) | (exact absurd (by decide) hQ) | (conv => whnf)) | (refine allG rfl ?_; conv => whnf) | (refine And.intro (by first | omega | assumption | kernel_rfl | exact And.intro rfl rfl | ((try dsimp only [inR, idx, lowOf]); first | omega | (with_reducible decide) | (simp; omega) | (simp; done) | fail) | fail) ?_; conv => whnf) | fail)
    exact ⟨(), [], trivial, ⟨⟨congrArg (fun t : Topic => vS t.1) e1.symm, congrArg (fun t : Topic => vS t.2.1) e1.symm, congrArg (fun t : Topic => vS t.2.2) e1.symm, trivial⟩, eIA e2.symm, trivial⟩, trivial, trivial⟩
def spMatch : Spec AF where
  γ := Txt × Txt
  δ := Unit
  args := fun g => [vS g.1, vS g.2]
  own := fun _ => []
  pre := fun g => g.1.length ≤ 4000000000000 ∧ g.2.length ≤ 4000000000000
  nnew := 0
  res := fun g _ => vB (matchP (partsN g.1) (partsN g.2))
  own' := fun _ _ => []
  post := fun _ _ => True
theorem match_nil {ns : List Txt} {i : Nat} (h : i ≤ ns.length) : matchP [] (ns.drop i) = decide (i = ns.length) := by
  rw [matchP, Bool.eq_iff_iff]
  simp
  omega
theorem match_last {ns : List Txt} : matchP [[35]] ns = true := matchP_hash ns
theorem drop_at {α : Type} {l : List α} {i : Nat} {x : α} (h : l[i]? = some x) : l.drop i = x :: l.drop (i + 1) := by
  have hobt := List.getElem?_eq_some_iff.1 h
  obtain ⟨h1, h2⟩ := hobt
  rw [List.drop_eq_getElem_cons h1, h2]
theorem match_end {fs ns : List Txt} {i : Nat} {f : Txt} (hf : fs[i]? = some f) (hn : ns.length ≤ i) (h : ¬ (f = [35] ∧ i + 1 = fs.length)) : matchP (fs.drop i) (ns.drop i) = false := by
  rw [drop_at hf, List.drop_eq_nil_of_le hn, matchP, decide_eq_false]
  rintro ⟨h1, h2⟩
  refine h ⟨h1, ?_⟩
  have h3 := List.drop_eq_nil_iff.1 h2
  have h4 := (List.getElem?_eq_some_iff.1 hf).1
  omega
theorem match_go {fs ns : List Txt} {i : Nat} {f n : Txt} (hf : fs[i]? = some f) (hn : ns[i]? = some n) (h : ¬ (f = [35] ∧ i + 1 = fs.length)) : matchP (fs.drop i) (ns.drop i) = if f = [43] ∨ f = n then matchP (fs.drop (i + 1)) (ns.drop (i + 1)) else false := by
  rw [drop_at hf, drop_at hn, matchP, if_neg]
  rintro ⟨h1, h2⟩
  refine h ⟨h1, ?_⟩
  have h3 := List.drop_eq_nil_iff.1 h2
  have h4 := (List.getElem?_eq_some_iff.1 hf).1
  omega
theorem match_hash {fs ns : List Txt} {i : Nat} (hf : fs[i]? = some [35]) (h : i + 1 = fs.length) : matchP (fs.drop i) (ns.drop i) = true := by
  rw [drop_at hf, List.drop_eq_nil_of_le (by omega)]
  exact matchP_hash _
set_option maxRecDepth 100000 in
set_option maxHeartbeats 1600000 in
theorem m_match : Meets Tryd.prog regF 49 spMatch := by
  refine meets Tryd.func49 48 noWr rfl (by kernel_rfl) (by kernel_rfl) ?_
  rintro ⟨(fl : Txt), (nm : Txt)⟩ ⟨(hl1 : fl.length ≤ 4000000000000), (hl2 : nm.length ≤ 4000000000000)⟩
  have hp1 := partsN_lenle fl
  have hp2 := partsN_lenle nm
  have hcl := partsN_len fl
  have hit := it_split fl (by omega)
  conv => whnf
  repeat' (first | (refine tell (fun hQ => ?_) (fun hQ => ?_) <;> (try dsimp only at hQ) <;> first | (exfalso; omega) | (exact absurd rfl hQ) | (exact absurd hQ hne) | (exact absurd hne hQ) | (exact absurd hQ hcne) | (exact absurd hQ t1) | (exact absurd t1 hQ) | (exact absurd (by decide) hQ) | (conv => whnf)) | (refine allG rfl ?_; conv => whnf) | (refine And.intro (by first | omega | assumption | kernel_rfl | exact And.intro rfl rfl | ((try dsimp only [inR, idx, lowOf]); first | omega | (with_reducible decide) | (simp; omega) | (simp; done) | fail) | fail) ?_; conv => whnf) | fail)
  refine ⟨_, m_parts, nm, [], false, ?_⟩
  conv => whnf
  refine And.intro (vc0 trivial (by (repeat' (first | exact trivial | exact rfl | refine And.intro ?_ ?_ | (refine congrArg vI ?_; first | omega | (dsimp only; omega) | fail) | (refine congrArg some ?_) | omega | exact Nat.le_refl _ | exact congrArg (SV.lst _) (List.take_of_length_le (Nat.le_refl _)).symm))) (by repeat' (first | exact trivial | exact rfl | refine And.intro ?_ ?_ | (refine congrArg vI ?_; first | omega | (dsimp only; omega) | fail) | (refine congrArg some ?_) | omega | exact Nat.le_refl _ | exact congrArg (SV.lst _) (List.take_of_length_le (Nat.le_refl _)).symm)) trivial trivial) ?_
  refine And.intro ⟨(), trivial⟩ (fun (_ : Unit) _ => ?_)
  conv => whnf
  conv => whnf
  repeat' (first | (refine tell (fun hQ => ?_) (fun hQ => ?_) <;> (try dsimp only at hQ) <;> first | (exfalso; omega) | (exact absurd rfl hQ) | (exact absurd hQ hne) | (exact absurd hne hQ) | (exact absurd hQ hcne) | (exact absurd hQ t1) | (exact absurd t1 hQ) | (exact absurd (by decide) hQ) | (conv => whnf)) | (refine allG rfl ?_; conv => whnf) | (refine And.intro (by first | omega | assumption | kernel_rfl | exact And.intro rfl rfl | ((try dsimp only [inR, idx, lowOf]); first | omega | (with_reducible decide) | (simp; omega) | (simp; done) | fail) | fail) ?_; conv => whnf) | fail)
  refine ⟨_, m_collect, nm, [1010, 2010, 3010], false, ?_⟩
  conv => whnf
  refine And.intro (vc0 hl2 (by (repeat' (first | exact trivial | exact rfl | refine And.intro ?_ ?_ | (refine congrArg vI ?_; first | omega | (dsimp only; omega) | fail) | (refine congrArg some ?_) | omega | exact Nat.le_refl _ | exact congrArg (SV.lst _) (List.take_of_length_le (Nat.le_refl _)).symm))) (by repeat' (first | exact trivial | exact rfl | refine And.intro ?_ ?_ | (refine congrArg vI ?_; first | omega | (dsimp only; omega) | fail) | (refine congrArg some ?_) | omega | exact Nat.le_refl _ | exact congrArg (SV.lst _) (List.take_of_length_le (Nat.le_refl _)).symm)) trivial trivial) ?_
  refine And.intro ⟨(), trivial⟩ (fun (_ : Unit) _ => ?_)
  conv => whnf
  conv => whnf
  repeat' (first | (refine tell (fun hQ => ?_) (fun hQ => ?_) <;> (try dsimp only at hQ) <;> first | (exfalso; omega) | (exact absurd rfl hQ) | (exact absurd hQ hne) | (exact absurd hne hQ) | (exact absurd hQ hcne) | (exact absurd hQ t1) | (exact absurd t1 hQ) | (exact absurd (by decide) hQ) | (conv => whnf)) | (refine allG rfl ?_; conv => whnf) | (refine And.intro (by first | omega | assumption | kernel_rfl | exact And.intro rfl rfl | ((try dsimp only [inR, idx, lowOf]); first | omega | (with_reducible decide) | (simp; omega) | (simp; done) | fail) | fail) ?_; conv => whnf) | fail)
  refine ⟨_, m_countS, fl, [], false, ?_⟩
  conv => whnf
  refine And.intro (vc0 trivial (by (repeat' (first | exact trivial | exact rfl | refine And.intro ?_ ?_ | (refine congrArg vI ?_; first | omega | (dsimp only; omega) | fail) | (refine congrArg some ?_) | omega | exact Nat.le_refl _ | exact congrArg (SV.lst _) (List.take_of_length_le (Nat.le_refl _)).symm))) (by repeat' (first | exact trivial | exact rfl | refine And.intro ?_ ?_ | (refine congrArg vI ?_; first | omega | (dsimp only; omega) | fail) | (refine congrArg some ?_) | omega | exact Nat.le_refl _ | exact congrArg (SV.lst _) (List.take_of_length_le (Nat.le_refl _)).symm)) trivial trivial) ?_
  refine And.intro ⟨(), trivial⟩ (fun (_ : Unit) _ => ?_)
  conv => whnf
  conv => whnf
  repeat' (first | (refine tell (fun hQ => ?_) (fun hQ => ?_) <;> (try dsimp only at hQ) <;> first | (exfalso; omega) | (exact absurd rfl hQ) | (exact absurd hQ hne) | (exact absurd hne hQ) | (exact absurd hQ hcne) | (exact absurd hQ t1) | (exact absurd t1 hQ) | (exact absurd (by decide) hQ) | (conv => whnf)) | (refine allG rfl ?_; conv => whnf) | (refine And.intro (by first | omega | assumption | kernel_rfl | exact And.intro rfl rfl | ((try dsimp only [inR, idx, lowOf]); first | omega | (with_reducible decide) | (simp; omega) | (simp; done) | fail) | fail) ?_; conv => whnf) | fail)
  refine ⟨_, m_parts, fl, [], false, ?_⟩
  conv => whnf
  refine And.intro (vc0 trivial (by (repeat' (first | exact trivial | exact rfl | refine And.intro ?_ ?_ | (refine congrArg vI ?_; first | omega | (dsimp only; omega) | fail) | (refine congrArg some ?_) | omega | exact Nat.le_refl _ | exact congrArg (SV.lst _) (List.take_of_length_le (Nat.le_refl _)).symm))) (by repeat' (first | exact trivial | exact rfl | refine And.intro ?_ ?_ | (refine congrArg vI ?_; first | omega | (dsimp only; omega) | fail) | (refine congrArg some ?_) | omega | exact Nat.le_refl _ | exact congrArg (SV.lst _) (List.take_of_length_le (Nat.le_refl _)).symm)) trivial trivial) ?_
  refine And.intro ⟨(), trivial⟩ (fun (_ : Unit) _ => ?_)
  conv => whnf
  show _
  generalize hns : partsN nm = ns at *
  have hml : (ns.map bS).length = ns.length := List.length_map ..
  have fin : ∀ {c : Bool}, matchP (partsN fl) ns = c → c = matchP (partsN (fl, nm).1) (partsN (fl, nm).2) := fun h => by
    show _ = matchP (partsN fl) (partsN nm)
    rw [hns]; exact h.symm
  conv => whnf
  repeat' (first | (refine tell (fun hQ => ?_) (fun hQ => ?_) <;> (try dsimp only at hQ) <;> first | (exfalso; omega) | (exact absurd rfl hQ) | (exact absurd hQ hne) | (exact absurd hne hQ) | (exact absurd hQ hcne) | (exact absurd hQ t1) | (exact absurd t1 hQ) | (exact absurd (by decide) hQ) | (conv => whnf)) | (refine allG rfl ?_; conv => whnf) | (refine And.intro (by first | omega | assumption | kernel_rfl | exact And.intro rfl rfl | ((try dsimp only [inR, idx, lowOf]); first | omega | (with_reducible decide) | (simp; omega) | (simp; done) | fail) | fail) ?_; conv => whnf) | fail)
  refine .inr ⟨ownS fl, capS, [1015, 2015, 3015], outsS fl, hit, Nat, [(4, .ptr 10 0 1 0), (5, .ptr 11 0 1 0), (6, .ptr 12 0 1 0), (7, .ptr 13 0 1 0)], fun i => [(10, .cells [vB false]), (11, .cells [.lst 9 (ns.map bS)]), (12, .cells [vI ((fl.count 47 : Nat) : Int)]), (13, .cells [vI i])], fun i j => i = j ∧ i ≤ ns.length ∧ matchP (partsN fl) ns = matchP ((partsN fl).drop i) (ns.drop i), ⟨rfl, rfl, ⟨rfl, rfl, rfl, trivial⟩, rfl⟩, fun _ _ _ => rfl, ⟨0, [(10, 1004), (11, 1005), (12, 1006), (13, 1007)], ⟨rfl, Nat.zero_le _, rfl⟩, ?_, ?_, rfl⟩, ?_, ?_⟩
  · repeat' (first | exact trivial | exact rfl | refine And.intro ?_ ?_)
  · repeat' (first | exact trivial | exact rfl | exact congrArg (fun x : List Txt => SV.lst (A := AF) 9 (x.map bS)) hns | refine And.intro ?_ ?_)
  · rintro i _ o ⟨rfl, hin, hmt⟩ ho
    have hobt := outsS_get ho
    obtain ⟨f, hf, rfl⟩ := hobt
    have hlt : i < (partsN fl).length := (List.getElem?_eq_some_iff.1 hf).1
    refine ⟨⟨rfl, trivial⟩, ?_⟩
    by_cases h35 : f = [35]
    · subst h35
      by_cases hlast : i + 1 = (partsN fl).length
      · have hyes := match_hash (ns := ns) hf hlast
        conv => whnf
        repeat' (first | (refine tell (fun hQ => ?_) (fun hQ => ?_) <;> (try dsimp only at hQ) <;> first | (exfalso; omega) | (exact absurd rfl hQ) | (exact absurd hQ hne) | (exact absurd hne hQ) | (exact absurd hQ hcne) | (exact absurd hQ t1) | (exact absurd t1 hQ) | (exact absurd (by decide) hQ) | (conv => whnf)) | (refine allG rfl ?_; conv => whnf) | (refine And.intro (by first | omega | assumption | kernel_rfl | exact And.intro rfl rfl | ((try dsimp only [inR, idx, lowOf]); first | omega | (with_reducible decide) | (simp; omega) | (simp; done) | fail) | fail) ?_; conv => whnf) | fail)
        refine ⟨[(10, .cells [vB true]), (11, .cells [.lst 9 (ns.map bS)]), (12, .cells [vI ((fl.count 47 : Nat) : Int)]), (13, .cells [vI i])], [], ⟨rfl, ?_⟩, ?_⟩
        · repeat' (first | exact trivial | exact rfl | refine And.intro ?_ ?_)
        · conv => whnf
          repeat' (first | (refine tell (fun hQ => ?_) (fun hQ => ?_) <;> (try dsimp only at hQ) <;> first | (exfalso; omega) | (exact absurd rfl hQ) | (exact absurd hQ hne) | (exact absurd hne hQ) | (exact absurd hQ hcne) | (exact absurd hQ t1) | (exact absurd t1 hQ) | (exact absurd (by decide) hQ) | (conv => whnf)) | (refine allG rfl ?_; conv => whnf) | (refine And.intro (by first | omega | assumption | kernel_rfl | exact And.intro rfl rfl | ((try dsimp only [inR, idx, lowOf]); first | omega | (with_reducible decide) | (simp; omega) | (simp; done) | fail) | fail) ?_; conv => whnf) | fail)
          exact ⟨(), [], trivial, eB (fin (hmt.trans hyes)), trivial, trivial⟩
      · have hno : ¬ (([35] : Txt) = [35] ∧ i + 1 = (partsN fl).length) := fun h => hlast h.2
        have h43 : ¬ (([35] : Txt) = [43]) := by decide
        have hne : ¬ (ByteArray.toList ⟨([35] : Txt).toArray⟩ = ByteArray.toList ⟨#[43]⟩) := fun e => absurd ((bS_inj (a := [35]) (b := [43])).1 e) (by decide)
        by_cases hin2 : i < ns.length
        · have hobt : ∃ n, ns[i]? = some n := ⟨_, List.getElem?_eq_getElem hin2⟩
          obtain ⟨n, hn⟩ := hobt
          have hnm : (ns.map bS)[i]? = some (bS n) := by rw [List.getElem?_map, hn]; rfl
          have hgo := match_go hf hn hno
          by_cases hfn : ([35] : Txt) = n
          · subst hfn
            rw [if_pos (.inr rfl)] at hgo
            conv => whnf
            repeat' (first | (refine tell (fun hQ => ?_) (fun hQ => ?_) <;> (try dsimp only at hQ) <;> first | (exfalso; omega) | (exact absurd rfl hQ) | (exact absurd hQ hne) | (exact absurd hne hQ) | (exact absurd hQ hcne) | (exact absurd hQ t1) | (exact absurd t1 hQ) | (exact absurd (by decide) hQ) | (conv => whnf)) | (refine allG (x := _) (by first | exact hnm | simpa [List.getElem?_append_right, lowOf] using hnm | fail) ?_; conv => whnf) | (refine allLst (x := _) (by first | omega | assumption | fail) (by first | exact hnm | simpa using hnm | fail) ?_; conv => whnf) | (refine allG rfl ?_; conv => whnf) | (refine And.intro (by first | omega | assumption | kernel_rfl | exact And.intro rfl rfl | ((try dsimp only [inR, idx, lowOf]); first | omega | (with_reducible decide) | (simp; omega) | (simp; done) | fail) | fail) ?_; conv => whnf) | fail)
            refine ⟨i + 1, [], ⟨rfl, hin2, hmt.trans (hgo)⟩, ?_⟩
            repeat' (first | exact trivial | exact rfl | refine And.intro ?_ ?_)
          · have t1 : ¬ (ByteArray.toList ⟨(([35] : Txt)).toArray⟩ = ByteArray.toList ⟨n.toArray⟩) := fun e => hfn (bS_inj.1 e)
            rw [if_neg (by rintro (h | h); exact h43 h; exact hfn h)] at hgo
            conv => whnf
            repeat' (first | (refine tell (fun hQ => ?_) (fun hQ => ?_) <;> (try dsimp only at hQ) <;> first | (exfalso; omega) | (exact absurd rfl hQ) | (exact absurd hQ hne) | (exact absurd hne hQ) | (exact absurd hQ hcne) | (exact absurd hQ t1) | (exact absurd t1 hQ) | (exact absurd (by decide) hQ) | (conv => whnf)) | (refine allG (x := _) (by first | exact hnm | simpa [List.getElem?_append_right, lowOf] using hnm | fail) ?_; conv => whnf) | (refine allLst (x := _) (by first | omega | assumption | fail) (by first | exact hnm | simpa using hnm | fail) ?_; conv => whnf) | (refine allG rfl ?_; conv => whnf) | (refine And.intro (by first | omega | assumption | kernel_rfl | exact And.intro rfl rfl | ((try dsimp only [inR, idx, lowOf]); first | omega | (with_reducible decide) | (simp; omega) | (simp; done) | fail) | fail) ?_; conv => whnf) | fail)
            refine ⟨[(10, .cells [vB false]), (11, .cells [.lst 9 (ns.map bS)]), (12, .cells [vI ((fl.count 47 : Nat) : Int)]), (13, .cells [vI i])], [], ⟨rfl, ?_⟩, ?_⟩
            · repeat' (first | exact trivial | exact rfl | refine And.intro ?_ ?_)
            · conv => whnf
              repeat' (first | (refine tell (fun hQ => ?_) (fun hQ => ?_) <;> (try dsimp only at hQ) <;> first | (exfalso; omega) | (exact absurd rfl hQ) | (exact absurd hQ hne) | (exact absurd hne hQ) | (exact absurd hQ hcne) | (exact absurd hQ t1) | (exact absurd t1 hQ) | (exact absurd (by decide) hQ) | (conv => whnf)) | (refine allG rfl ?_; conv => whnf) | (refine And.intro (by first | omega | assumption | kernel_rfl | exact And.intro rfl rfl | ((try dsimp only [inR, idx, lowOf]); first | omega | (with_reducible decide) | (simp; omega) | (simp; done) | fail) | fail) ?_; conv => whnf) | fail)
              exact ⟨(), [], trivial, eB (fin (hmt.trans hgo)), trivial, trivial⟩
        · have hfa := match_end (ns := ns) hf (by omega) hno
          conv => whnf
          repeat' (first | (refine tell (fun hQ => ?_) (fun hQ => ?_) <;> (try dsimp only at hQ) <;> first | (exfalso; omega) | (exact absurd rfl hQ) | (exact absurd hQ hne) | (exact absurd hne hQ) | (exact absurd hQ hcne) | (exact absurd hQ t1) | (exact absurd t1 hQ) | (exact absurd (by decide) hQ) | (conv => whnf)) | (refine allG rfl ?_; conv => whnf) | (refine And.intro (by first | omega | assumption | kernel_rfl | exact And.intro rfl rfl | ((try dsimp only [inR, idx, lowOf]); first | omega | (with_reducible decide) | (simp; omega) | (simp; done) | fail) | fail) ?_; conv => whnf) | fail)
          refine ⟨[(10, .cells [vB false]), (11, .cells [.lst 9 (ns.map bS)]), (12, .cells [vI ((fl.count 47 : Nat) : Int)]), (13, .cells [vI i])], [], ⟨rfl, ?_⟩, ?_⟩
          · repeat' (first | exact trivial | exact rfl | refine And.intro ?_ ?_)
          · conv => whnf
            repeat' (first | (refine tell (fun hQ => ?_) (fun hQ => ?_) <;> (try dsimp only at hQ) <;> first | (exfalso; omega) | (exact absurd rfl hQ) | (exact absurd hQ hne) | (exact absurd hne hQ) | (exact absurd hQ hcne) | (exact absurd hQ t1) | (exact absurd t1 hQ) | (exact absurd (by decide) hQ) | (conv => whnf)) | (refine allG rfl ?_; conv => whnf) | (refine And.intro (by first | omega | assumption | kernel_rfl | exact And.intro rfl rfl | ((try dsimp only [inR, idx, lowOf]); first | omega | (with_reducible decide) | (simp; omega) | (simp; done) | fail) | fail) ?_; conv => whnf) | fail)
            exact ⟨(), [], trivial, eB (fin (hmt.trans hfa)), trivial, trivial⟩
    · have hno : ¬ (f = [35] ∧ i + 1 = (partsN fl).length) := fun h => h35 h.1
      have hcne : ¬ (ByteArray.toList ⟨f.toArray⟩ = ByteArray.toList ⟨#[35]⟩) := fun e => h35 ((bS_inj (b := [35])).1 e)
      by_cases h43 : f = [43]
      · subst h43
        by_cases hin2 : i < ns.length
        · have hobt : ∃ n, ns[i]? = some n := ⟨_, List.getElem?_eq_getElem hin2⟩
          obtain ⟨n, hn⟩ := hobt
          have hgo := match_go hf hn hno
          rw [if_pos (.inl rfl)] at hgo
          conv => whnf
          repeat' (first | (refine tell (fun hQ => ?_) (fun hQ => ?_) <;> (try dsimp only at hQ) <;> first | (exfalso; omega) | (exact absurd rfl hQ) | (exact absurd hQ hne) | (exact absurd hne hQ) | (exact absurd hQ hcne) | (exact absurd hQ t1) | (exact absurd t1 hQ) | (exact absurd (by decide) hQ) | (conv => whnf)) | (refine allG rfl ?_; conv => whnf) | (refine And.intro (by first | omega | assumption | kernel_rfl | exact And.intro rfl rfl | ((try dsimp only [inR, idx, lowOf]); first | omega | (with_reducible decide) | (simp; omega) | (simp; done) | fail) | fail) ?_; conv => whnf) | fail)
          refine ⟨i + 1, [], ⟨rfl, hin2, hmt.trans (hgo)⟩, ?_⟩
          repeat' (first | exact trivial | exact rfl | refine And.intro ?_ ?_)
        · have hfa := match_end (ns := ns) hf (by omega) hno
          conv => whnf
          repeat' (first | (refine tell (fun hQ => ?_) (fun hQ => ?_) <;> (try dsimp only at hQ) <;> first | (exfalso; omega) | (exact absurd rfl hQ) | (exact absurd hQ hne) | (exact absurd hne hQ) | (exact absurd hQ hcne) | (exact absurd hQ t1) | (exact absurd t1 hQ) | (exact absurd (by decide) hQ) | (conv => whnf)) | (refine allG rfl ?_; conv => whnf) | (refine And.intro (by first | omega | assumption | kernel_rfl | exact And.intro rfl rfl | ((try dsimp only [inR, idx, lowOf]); first | omega | (with_reducible decide) | (simp; omega) | (simp; done) | fail) | fail) ?_; conv => whnf) | fail)
          refine ⟨[(10, .cells [vB false]), (11, .cells [.lst 9 (ns.map bS)]), (12, .cells [vI ((fl.count 47 : Nat) : Int)]), (13, .cells [vI i])], [], ⟨rfl, ?_⟩, ?_⟩
          · repeat' (first | exact trivial | exact rfl | refine And.intro ?_ ?_)
          · conv => whnf
            repeat' (first | (refine tell (fun hQ => ?_) (fun hQ => ?_) <;> (try dsimp only at hQ) <;> first | (exfalso; omega) | (exact absurd rfl hQ) | (exact absurd hQ hne) | (exact absurd hne hQ) | (exact absurd hQ hcne) | (exact absurd hQ t1) | (exact absurd t1 hQ) | (exact absurd (by decide) hQ) | (conv => whnf)) | (refine allG rfl ?_; conv => whnf) | (refine And.intro (by first | omega | assumption | kernel_rfl | exact And.intro rfl rfl | ((try dsimp only [inR, idx, lowOf]); first | omega | (with_reducible decide) | (simp; omega) | (simp; done) | fail) | fail) ?_; conv => whnf) | fail)
            exact ⟨(), [], trivial, eB (fin (hmt.trans hfa)), trivial, trivial⟩
      · have hne : ¬ (ByteArray.toList ⟨f.toArray⟩ = ByteArray.toList ⟨#[43]⟩) := fun e => h43 ((bS_inj (b := [43])).1 e)
        by_cases hin2 : i < ns.length
        · have hobt : ∃ n, ns[i]? = some n := ⟨_, List.getElem?_eq_getElem hin2⟩
          obtain ⟨n, hn⟩ := hobt
          have hnm : (ns.map bS)[i]? = some (bS n) := by rw [List.getElem?_map, hn]; rfl
          have hgo := match_go hf hn hno
          by_cases hfn : f = n
          · subst hfn
            rw [if_pos (.inr rfl)] at hgo
            conv => whnf
            repeat' (first | (refine tell (fun hQ => ?_) (fun hQ => ?_) <;> (try dsimp only at hQ) <;> first | (exfalso; omega) | (exact absurd rfl hQ) | (exact absurd hQ hne) | (exact absurd hne hQ) | (exact absurd hQ hcne) | (exact absurd hQ t1) | (exact absurd t1 hQ) | (exact absurd (by decide) hQ) | (conv => whnf)) | (refine allG (x := _) (by first | exact hnm | simpa [List.getElem?_append_right, lowOf] using hnm | fail) ?_; conv => whnf) | (refine allLst (x := _) (by first | omega | assumption | fail) (by first | exact hnm | simpa using hnm | fail) ?_; conv => whnf) | (refine allG rfl ?_; conv => whnf) | (refine And.intro (by first | omega | assumption | kernel_rfl | exact And.intro rfl rfl | ((try dsimp only [inR, idx, lowOf]); first | omega | (with_reducible decide) | (simp; omega) | (simp; done) | fail) | fail) ?_; conv => whnf) | fail)
            refine ⟨i + 1, [], ⟨rfl, hin2, hmt.trans (hgo)⟩, ?_⟩
            repeat' (first | exact trivial | exact rfl | refine And.intro ?_ ?_)
          · have t1 : ¬ (ByteArray.toList ⟨(f).toArray⟩ = ByteArray.toList ⟨n.toArray⟩) := fun e => hfn (bS_inj.1 e)
            rw [if_neg (by rintro (h | h); exact h43 h; exact hfn h)] at hgo
            conv => whnf
            repeat' (first | (refine tell (fun hQ => ?_) (fun hQ => ?_) <;> (try dsimp only at hQ) <;> first | (exfalso; omega) | (exact absurd rfl hQ) | (exact absurd hQ hne) | (exact absurd hne hQ) | (exact absurd hQ hcne) | (exact absurd hQ t1) | (exact absurd t1 hQ) | (exact absurd (by decide) hQ) | (conv => whnf)) | (refine allG (x := _) (by first | exact hnm | simpa [List.getElem?_append_right, lowOf] using hnm | fail) ?_; conv => whnf) | (refine allLst (x := _) (by first | omega | assumption | fail) (by first | exact hnm | simpa using hnm | fail) ?_; conv => whnf) | (refine allG rfl ?_; conv => whnf) | (refine And.intro (by first | omega | assumption | kernel_rfl | exact And.intro rfl rfl | ((try dsimp only [inR, idx, lowOf]); first | omega | (with_reducible decide) | (simp; omega) | (simp; done) | fail) | fail) ?_; conv => whnf) | fail)
            refine ⟨[(10, .cells [vB false]), (11, .cells [.lst 9 (ns.map bS)]), (12, .cells [vI ((fl.count 47 : Nat) : Int)]), (13, .cells [vI i])], [], ⟨rfl, ?_⟩, ?_⟩
            · repeat' (first | exact trivial | exact rfl | refine And.intro ?_ ?_)
            · conv => whnf
              repeat' (first | (refine tell (fun hQ => ?_) (fun hQ => ?_) <;> (try dsimp only at hQ) <;> first | (exfalso; omega) | (exact absurd rfl hQ) | (exact absurd hQ hne) | (exact absurd hne hQ) | (exact absurd hQ hcne) | (exact absurd hQ t1) | (exact absurd t1 hQ) | (exact absurd (by decide) hQ) | (conv => whnf)) | (refine allG rfl ?_; conv => whnf) | (refine And.intro (by first | omega | assumption | kernel_rfl | exact And.intro rfl rfl | ((try dsimp only [inR, idx, lowOf]); first | omega | (with_reducible decide) | (simp; omega) | (simp; done) | fail) | fail) ?_; conv => whnf) | fail)
              exact ⟨(), [], trivial, eB (fin (hmt.trans hgo)), trivial, trivial⟩
        · have hfa := match_end (ns := ns) hf (by omega) hno
          conv => whnf
          repeat' (first | (refine tell (fun hQ => ?_) (fun hQ => ?_) <;> (try dsimp only at hQ) <;> first | (exfalso; omega) | (exact absurd rfl hQ) | (exact absurd hQ hne) | (exact absurd hne hQ) | (exact absurd hQ hcne) | (exact absurd hQ t1) | (exact absurd t1 hQ) | (exact absurd (by decide) hQ) | (conv => whnf)) | (refine allG rfl ?_; conv => whnf) | (refine And.intro (by first | omega | assumption | kernel_rfl | exact And.intro rfl rfl | ((try dsimp only [inR, idx, lowOf]); first | omega | (with_reducible decide) | (simp; omega) | (simp; done) | fail) | fail) ?_; conv => whnf) | fail)
          refine ⟨[(10, .cells [vB false]), (11, .cells [.lst 9 (ns.map bS)]), (12, .cells [vI ((fl.count 47 : Nat) : Int)]), (13, .cells [vI i])], [], ⟨rfl, ?_⟩, ?_⟩
          · repeat' (first | exact trivial | exact rfl | refine And.intro ?_ ?_)
          · conv => whnf
            repeat' (first | (refine tell (fun hQ => ?_) (fun hQ => ?_) <;> (try dsimp only at hQ) <;> first | (exfalso; omega) | (exact absurd rfl hQ) | (exact absurd hQ hne) | (exact absurd hne hQ) | (exact absurd hQ hcne) | (exact absurd hQ t1) | (exact absurd t1 hQ) | (exact absurd (by decide) hQ) | (conv => whnf)) | (refine allG rfl ?_; conv => whnf) | (refine And.intro (by first | omega | assumption | kernel_rfl | exact And.intro rfl rfl | ((try dsimp only [inR, idx, lowOf]); first | omega | (with_reducible decide) | (simp; omega) | (simp; done) | fail) | fail) ?_; conv => whnf) | fail)
            exact ⟨(), [], trivial, eB (fin (hmt.trans hfa)), trivial, trivial⟩
  · rintro i ⟨rfl, hin, hmt⟩
    have hol : (outsS fl).length = (partsN fl).length := List.length_map ..
    have hend : matchP (partsN fl) ns = decide ((outsS fl).length = ns.length) := by
      rw [hmt, ← match_nil hin, hol, List.drop_length]
    by_cases he : (outsS fl).length = ns.length
    · conv => whnf
      repeat' (first | (refine tell (fun hQ => ?_) (fun hQ => ?_) <;> (try dsimp only at hQ) <;> first | (exfalso; omega) | (exact absurd rfl hQ) | (exact absurd hQ hne) | (exact absurd hne hQ) | (exact absurd hQ hcne) | (exact absurd hQ t1) | (exact absurd t1 hQ) | (exact absurd (by decide) hQ) | (conv => whnf)) | (refine allG rfl ?_; conv => whnf) | (refine And.intro (by first | omega | assumption | kernel_rfl | exact And.intro rfl rfl | ((try dsimp only [inR, idx, lowOf]); first | omega | (with_reducible decide) | (simp; omega) | (simp; done) | fail) | fail) ?_; conv => whnf) | fail)
      exact ⟨(), [], trivial, eB (fin (hend.trans (decide_eq_true he))), trivial, trivial⟩
    · conv => whnf
      repeat' (first | (refine tell (fun hQ => ?_) (fun hQ => ?_) <;> (try dsimp only at hQ) <;> first | (exfalso; omega) | (exact absurd rfl hQ) | (exact absurd hQ hne) | (exact absurd hne hQ) | (exact absurd hQ hcne) | (exact absurd hQ t1) | (exact absurd t1 hQ) | (exact absurd (by decide) hQ) | (conv => whnf)) | (refine allG rfl ?_; conv => whnf) | (refine And.intro (by first | omega | assumption | kernel_rfl | exact And.intro rfl rfl | ((try dsimp only [inR, idx, lowOf]); first | omega | (with_reducible decide) | (simp; omega) | (simp; done) | fail) | fail) ?_; conv => whnf) | fail)
      exact ⟨(), [], trivial, eB (fin (hend.trans (decide_eq_false he))), trivial, trivial⟩
end Go.Sx

