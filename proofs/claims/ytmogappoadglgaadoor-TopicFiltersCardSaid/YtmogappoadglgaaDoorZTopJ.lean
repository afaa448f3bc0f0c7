/-
  Layer 7, part J: TopicFilters.
-/
import Derived.Test.YtmogappoadglgaaDoorZTopJ0
set_option linter.unusedVariables false
set_option linter.unusedSimpArgs false
namespace Go.Sx
open Go Go.Proofs Go.Proofs.YtmogappoadglgaaDoor
abbrev pFilters (g : (Txt × Txt) × (Txt × Txt) × Int × Int × Int) : Prop := InI g.2.2.1 ∧ InI g.2.2.2.1 ∧ InI g.2.2.2.2
def hashH (t : Topic) (k i : Nat) : Txt := if k < i then plusG (plusP t k) k ++ [35] else []
theorem cat_size {a b : Txt} : ((⟨a.toArray⟩ : ByteArray) ++ ⟨b.toArray⟩).size = a.length + b.length := by rw [bS_append, size_bS, List.length_append]
set_option maxRecDepth 100000 in
set_option maxHeartbeats 1600000 in
theorem m_topicFilters : Meets Tryd.prog regF 15 (spLaw (fun g : (Txt × Txt) × (Txt × Txt) × Int × Int × Int => [.agg [vS g.1.1, vS g.1.2], .agg [vS g.2.1.1, vS g.2.1.2], vI g.2.2.1, vI g.2.2.2.1, vI g.2.2.2.2]) pFilters) := by
  refine meetsC Tryd.func15 136 noWr rfl (by kernel_rfl) (by kernel_rfl) ?_
  rintro ⟨⟨(a : Txt), (b : Txt)⟩, ⟨(a' : Txt), (b' : Txt)⟩, (c : Int), (c' : Int), (part : Int)⟩ ⟨(hc : InI c), (hc' : InI c'), (hpt : InI part)⟩
  have hobt : ∃ x, topicF a b c = x := ⟨_, rfl⟩
  obtain ⟨x, hxe⟩ := hobt
  have hx := topicF_ok a b c
  rw [hxe] at hx
  have hp0 := at_topic hc hxe
  clear hxe
  have hobt : ∃ y, topicF a' b' c' = y := ⟨_, rfl⟩
  obtain ⟨y, hye⟩ := hobt
  have hy := topicF_ok a' b' c'
  rw [hye] at hy
  have hq0 := at_topic hc' hye
  clear hye
  have hp1 := at_print hx
  have hq1 := at_print hy
  have hkb := pickF_bd (c := part) (n := 5) (by decide)
  have hobt : ∃ k : Nat, pickF part 5 = k := ⟨(pickF part 5).toNat, by omega⟩
  obtain ⟨k, hk⟩ := hobt
  have hk5 : k < 5 := by omega
  have hpk := meets_at m_pick07 (part, 5) ⟨hpt, by show (0 : Int) < 5; decide⟩ (vI k) fun _ => congrArg vI hk
  obtain ⟨x1, x2, x3⟩ := x
  obtain ⟨y1, y2, y3⟩ := y
  conv => whnf
  repeat' (first | (refine tell (fun hQ => ?_) (fun hQ => ?_) <;> (try dsimp only at hQ) <;> first | (exfalso; omega) | (exact absurd rfl hQ) | (exact absurd hQ hne) | (exact absurd hne hQ) | (exact absurd hQ t1) | (exact absurd t1 hQ) | (exact absurd (by decide) hQ) | (conv => whnf)) | (refine allG rfl ?_; conv => whnf) | (refine ⟨none, ?_⟩; conv => whnf) | (refine And.intro (by first | omega | assumption | kernel_rfl | exact And.intro rfl rfl | ((try dsimp only [inR, idx, lowOf]); first | omega | (with_reducible decide) | (simp; omega) | (simp; done) | fail) | fail) ?_; conv => whnf) | fail)
  refine ⟨_, m_awake07, (), [], false, ?_⟩
  conv => whnf
  refine And.intro (vc0 trivial (by (repeat' (first | exact trivial | exact rfl | refine And.intro ?_ ?_ | (refine congrArg vI ?_; first | omega | (dsimp only; omega) | fail) | (refine congrArg some ?_) | omega | exact Nat.le_refl _ | exact congrArg (SV.lst _) (List.take_of_length_le (Nat.le_refl _)).symm))) (by repeat' (first | exact trivial | exact rfl | refine And.intro ?_ ?_ | (refine congrArg vI ?_; first | omega | (dsimp only; omega) | fail) | (refine congrArg some ?_) | omega | exact Nat.le_refl _ | exact congrArg (SV.lst _) (List.take_of_length_le (Nat.le_refl _)).symm)) trivial trivial) ?_
  refine And.intro ⟨(), trivial⟩ (fun (_ : Unit) _ => ?_)
  conv => whnf
  conv => whnf
  repeat' (first | (refine tell (fun hQ => ?_) (fun hQ => ?_) <;> (try dsimp only at hQ) <;> first | (exfalso; omega) | (exact absurd rfl hQ) | (exact absurd hQ hne) | (exact absurd hne hQ) | (exact absurd hQ t1) | (exact absurd t1 hQ) | (exact absurd (by decide) hQ) | (conv => whnf)) | (refine allG rfl ?_; conv => whnf) | (refine ⟨none, ?_⟩; conv => whnf) | (refine And.intro (by first | omega | assumption | kernel_rfl | exact And.intro rfl rfl | ((try dsimp only [inR, idx, lowOf]); first | omega | (with_reducible decide) | (simp; omega) | (simp; done) | fail) | fail) ?_; conv => whnf) | fail)
  refine ⟨_, hp0, (), [], false, ?_⟩
  conv => whnf
  refine And.intro (vc0 trivial (by (repeat' (first | exact trivial | exact rfl | refine And.intro ?_ ?_ | (refine congrArg vI ?_; first | omega | (dsimp only; omega) | fail) | (refine congrArg some ?_) | omega | exact Nat.le_refl _ | exact congrArg (SV.lst _) (List.take_of_length_le (Nat.le_refl _)).symm))) (by repeat' (first | exact trivial | exact rfl | refine And.intro ?_ ?_ | (refine congrArg vI ?_; first | omega | (dsimp only; omega) | fail) | (refine congrArg some ?_) | omega | exact Nat.le_refl _ | exact congrArg (SV.lst _) (List.take_of_length_le (Nat.le_refl _)).symm)) trivial trivial) ?_
  refine And.intro ⟨(), trivial⟩ (fun (_ : Unit) _ => ?_)
  conv => whnf
  conv => whnf
  repeat' (first | (refine tell (fun hQ => ?_) (fun hQ => ?_) <;> (try dsimp only at hQ) <;> first | (exfalso; omega) | (exact absurd rfl hQ) | (exact absurd hQ hne) | (exact absurd hne hQ) | (exact absurd hQ t1) | (exact absurd t1 hQ) | (exact absurd (by decide) hQ) | (conv => whnf)) | (refine allG rfl ?_; conv => whnf) | (refine ⟨none, ?_⟩; conv => whnf) | (refine And.intro (by first | omega | assumption | kernel_rfl | exact And.intro rfl rfl | ((try dsimp only [inR, idx, lowOf]); first | omega | (with_reducible decide) | (simp; omega) | (simp; done) | fail) | fail) ?_; conv => whnf) | fail)
  refine ⟨_, hp1, (), [], false, ?_⟩
  conv => whnf
  refine And.intro (vc0 trivial (by (repeat' (first | exact trivial | exact rfl | refine And.intro ?_ ?_ | (refine congrArg vI ?_; first | omega | (dsimp only; omega) | fail) | (refine congrArg some ?_) | omega | exact Nat.le_refl _ | exact congrArg (SV.lst _) (List.take_of_length_le (Nat.le_refl _)).symm))) (by repeat' (first | exact trivial | exact rfl | refine And.intro ?_ ?_ | (refine congrArg vI ?_; first | omega | (dsimp only; omega) | fail) | (refine congrArg some ?_) | omega | exact Nat.le_refl _ | exact congrArg (SV.lst _) (List.take_of_length_le (Nat.le_refl _)).symm)) trivial trivial) ?_
  refine And.intro ⟨(), trivial⟩ (fun (_ : Unit) _ => ?_)
  conv => whnf
  conv => whnf
  repeat' (first | (refine tell (fun hQ => ?_) (fun hQ => ?_) <;> (try dsimp only at hQ) <;> first | (exfalso; omega) | (exact absurd rfl hQ) | (exact absurd hQ hne) | (exact absurd hne hQ) | (exact absurd hQ t1) | (exact absurd t1 hQ) | (exact absurd (by decide) hQ) | (conv => whnf)) | (refine allG rfl ?_; conv => whnf) | (refine ⟨none, ?_⟩; conv => whnf) | (refine And.intro (by first | omega | assumption | kernel_rfl | exact And.intro rfl rfl | ((try dsimp only [inR, idx, lowOf]); first | omega | (with_reducible decide) | (simp; omega) | (simp; done) | fail) | fail) ?_; conv => whnf) | fail)
  refine ⟨_, hq0, (), [], false, ?_⟩
  conv => whnf
  refine And.intro (vc0 trivial (by (repeat' (first | exact trivial | exact rfl | refine And.intro ?_ ?_ | (refine congrArg vI ?_; first | omega | (dsimp only; omega) | fail) | (refine congrArg some ?_) | omega | exact Nat.le_refl _ | exact congrArg (SV.lst _) (List.take_of_length_le (Nat.le_refl _)).symm))) (by repeat' (first | exact trivial | exact rfl | refine And.intro ?_ ?_ | (refine congrArg vI ?_; first | omega | (dsimp only; omega) | fail) | (refine congrArg some ?_) | omega | exact Nat.le_refl _ | exact congrArg (SV.lst _) (List.take_of_length_le (Nat.le_refl _)).symm)) trivial trivial) ?_
  refine And.intro ⟨(), trivial⟩ (fun (_ : Unit) _ => ?_)
  conv => whnf
  conv => whnf
  repeat' (first | (refine tell (fun hQ => ?_) (fun hQ => ?_) <;> (try dsimp only at hQ) <;> first | (exfalso; omega) | (exact absurd rfl hQ) | (exact absurd hQ hne) | (exact absurd hne hQ) | (exact absurd hQ t1) | (exact absurd t1 hQ) | (exact absurd (by decide) hQ) | (conv => whnf)) | (refine allG rfl ?_; conv => whnf) | (refine ⟨none, ?_⟩; conv => whnf) | (refine And.intro (by first | omega | assumption | kernel_rfl | exact And.intro rfl rfl | ((try dsimp only [inR, idx, lowOf]); first | omega | (with_reducible decide) | (simp; omega) | (simp; done) | fail) | fail) ?_; conv => whnf) | fail)
  refine ⟨_, hq1, (), [], false, ?_⟩
  conv => whnf
  refine And.intro (vc0 trivial (by (repeat' (first | exact trivial | exact rfl | refine And.intro ?_ ?_ | (refine congrArg vI ?_; first | omega | (dsimp only; omega) | fail) | (refine congrArg some ?_) | omega | exact Nat.le_refl _ | exact congrArg (SV.lst _) (List.take_of_length_le (Nat.le_refl _)).symm))) (by repeat' (first | exact trivial | exact rfl | refine And.intro ?_ ?_ | (refine congrArg vI ?_; first | omega | (dsimp only; omega) | fail) | (refine congrArg some ?_) | omega | exact Nat.le_refl _ | exact congrArg (SV.lst _) (List.take_of_length_le (Nat.le_refl _)).symm)) trivial trivial) ?_
  refine And.intro ⟨(), trivial⟩ (fun (_ : Unit) _ => ?_)
  conv => whnf
  conv => whnf
  repeat' (first | (refine tell (fun hQ => ?_) (fun hQ => ?_) <;> (try dsimp only at hQ) <;> first | (exfalso; omega) | (exact absurd rfl hQ) | (exact absurd hQ hne) | (exact absurd hne hQ) | (exact absurd hQ t1) | (exact absurd t1 hQ) | (exact absurd (by decide) hQ) | (conv => whnf)) | (refine allG rfl ?_; conv => whnf) | (refine ⟨none, ?_⟩; conv => whnf) | (refine And.intro (by first | omega | assumption | kernel_rfl | exact And.intro rfl rfl | ((try dsimp only [inR, idx, lowOf]); first | omega | (with_reducible decide) | (simp; omega) | (simp; done) | fail) | fail) ?_; conv => whnf) | fail)
  refine ⟨_, hp0, (), [], false, ?_⟩
  conv => whnf
  refine And.intro (vc0 trivial (by (repeat' (first | exact trivial | exact rfl | refine And.intro ?_ ?_ | (refine congrArg vI ?_; first | omega | (dsimp only; omega) | fail) | (refine congrArg some ?_) | omega | exact Nat.le_refl _ | exact congrArg (SV.lst _) (List.take_of_length_le (Nat.le_refl _)).symm))) (by repeat' (first | exact trivial | exact rfl | refine And.intro ?_ ?_ | (refine congrArg vI ?_; first | omega | (dsimp only; omega) | fail) | (refine congrArg some ?_) | omega | exact Nat.le_refl _ | exact congrArg (SV.lst _) (List.take_of_length_le (Nat.le_refl _)).symm)) trivial trivial) ?_
  refine And.intro ⟨(), trivial⟩ (fun (_ : Unit) _ => ?_)
  conv => whnf
  conv => whnf
  repeat' (first | (refine tell (fun hQ => ?_) (fun hQ => ?_) <;> (try dsimp only at hQ) <;> first | (exfalso; omega) | (exact absurd rfl hQ) | (exact absurd hQ hne) | (exact absurd hne hQ) | (exact absurd hQ t1) | (exact absurd t1 hQ) | (exact absurd (by decide) hQ) | (conv => whnf)) | (refine allG rfl ?_; conv => whnf) | (refine ⟨none, ?_⟩; conv => whnf) | (refine And.intro (by first | omega | assumption | kernel_rfl | exact And.intro rfl rfl | ((try dsimp only [inR, idx, lowOf]); first | omega | (with_reducible decide) | (simp; omega) | (simp; done) | fail) | fail) ?_; conv => whnf) | fail)
  refine ⟨_, hpk, (), [], false, ?_⟩
  conv => whnf
  refine And.intro (vc0 trivial (by (repeat' (first | exact trivial | exact rfl | refine And.intro ?_ ?_ | (refine congrArg vI ?_; first | omega | (dsimp only; omega) | fail) | (refine congrArg some ?_) | omega | exact Nat.le_refl _ | exact congrArg (SV.lst _) (List.take_of_length_le (Nat.le_refl _)).symm))) (by repeat' (first | exact trivial | exact rfl | refine And.intro ?_ ?_ | (refine congrArg vI ?_; first | omega | (dsimp only; omega) | fail) | (refine congrArg some ?_) | omega | exact Nat.le_refl _ | exact congrArg (SV.lst _) (List.take_of_length_le (Nat.le_refl _)).symm)) trivial trivial) ?_
  refine And.intro ⟨(), trivial⟩ (fun (_ : Unit) _ => ?_)
  conv => whnf
  conv => whnf
  repeat' (first | (refine tell (fun hQ => ?_) (fun hQ => ?_) <;> (try dsimp only at hQ) <;> first | (exfalso; omega) | (exact absurd rfl hQ) | (exact absurd hQ hne) | (exact absurd hne hQ) | (exact absurd hQ t1) | (exact absurd t1 hQ) | (exact absurd (by decide) hQ) | (conv => whnf)) | (refine allG rfl ?_; conv => whnf) | (refine ⟨none, ?_⟩; conv => whnf) | (refine And.intro (by first | omega | assumption | kernel_rfl | exact And.intro rfl rfl | ((try dsimp only [inR, idx, lowOf]); first | omega | (with_reducible decide) | (simp; omega) | (simp; done) | fail) | fail) ?_; conv => whnf) | fail)
  have hpl := plusP_len hx k
  have hgl := plusG_len hpl
  refine ⟨Nat, fun i => ⟨[(11, vB true), (12, vS (textT (x1, x2, x3))), (13, vI 0), (14, vS (textT (y1, y2, y3))), (15, vI 0), (17, .sl 1056 1 0 5), (18, vI k), (19, vS (plusG (plusP (x1, x2, x3) k) i)), (20, vS (hashH (x1, x2, x3) k i)), (21, vI i)], [(1056, .arr 9 ((partsT (x1, x2, x3)).map bS))]⟩, fun i => i ≤ 5, fun i => 5 - i, fun _ _ => rfl, ⟨0, [], Nat.zero_le _, ?_⟩, ?_⟩
  · refine ⟨rfl, ?_, ?_, rfl⟩
    all_goals (repeat' (first | exact trivial | exact rfl | refine And.intro ?_ ?_ | (refine congrArg vI ?_; first | omega | (dsimp only; omega) | fail) | (refine congrArg some ?_) | omega | exact Nat.le_refl _ | exact congrArg (SV.lst _) (List.take_of_length_le (Nat.le_refl _)).symm))
  clear hp0 hq0 hp1 hq1 hpk
  rintro (i : Nat) (hi : i ≤ 5)
  by_cases hlt : i < 5
  · as_aux_lemma =>
    have hobt : ∃ p, (partsT (x1, x2, x3))[i]? = some p := ⟨_, List.getElem?_eq_getElem (by show i < 5; exact hlt)⟩
    obtain ⟨p, hp⟩ := hobt
    have hpm : ((partsT (x1, x2, x3)).map bS)[0 + ((i : Nat) : Int).toNat]? = some (bS p) := by rw [Nat.zero_add, show ((i : Nat) : Int).toNat = i from rfl, List.getElem?_map, hp]; rfl
    have hpg : (partsT (x1, x2, x3)).getD i [] = p := by rw [List.getD_eq_getElem?_getD, hp]; rfl
    have hp16 := partsT_len hx i
    rw [hpg] at hp16
    have hs := plusG_succ (plusP (x1, x2, x3) k) i
    have hgi := hgl i
    have z0 := size_bS ((plusG (plusP (x1, x2, x3) k) i))
    have z1 : (bS p).size = p.length := size_bS p
    have z43 : (⟨#[43]⟩ : ByteArray).size = 1 := rfl
    have z35 : (⟨#[35]⟩ : ByteArray).size = 1 := rfl
    have z47 : (⟨#[47]⟩ : ByteArray).size = 1 := rfl
    have z2 : ((⟨((plusG (plusP (x1, x2, x3) k) i)).toArray⟩ : ByteArray) ++ bS p).size = ((plusG (plusP (x1, x2, x3) k) i)).length + p.length := cat_size
    have z3 : ((⟨((plusG (plusP (x1, x2, x3) k) i)).toArray⟩ : ByteArray) ++ ⟨#[43]⟩).size = ((plusG (plusP (x1, x2, x3) k) i)).length + 1 := cat_size (a := (plusG (plusP (x1, x2, x3) k) i)) (b := [43])
    by_cases hik : i = k
    · have hgp : plusP (x1, x2, x3) k i = [43] := if_pos hik
      rw [hgp] at hs
      have hh : hashH (x1, x2, x3) k (i + 1) = (plusG (plusP (x1, x2, x3) k) i) ++ [35] := by unfold hashH; rw [if_pos (by omega), hik]
      have e2 : (⟨((plusG (plusP (x1, x2, x3) k) i)).toArray⟩ : ByteArray) ++ ⟨#[35]⟩ = ⟨(hashH (x1, x2, x3) k (i + 1)).toArray⟩ := by rw [hh]; exact bS_append ((plusG (plusP (x1, x2, x3) k) i)) [35]
      by_cases h4 : i < 4
      · rw [if_pos h4] at hs
        have e1 : (⟨((plusG (plusP (x1, x2, x3) k) i)).toArray⟩ : ByteArray) ++ ⟨#[43]⟩ ++ ⟨#[47]⟩ = ⟨(plusG (plusP (x1, x2, x3) k) (i + 1)).toArray⟩ := by
          rw [hs, ← List.append_assoc, ← bS_append, ← bS_append]
        conv => whnf
        repeat' (first | (refine tell (fun hQ => ?_) (fun hQ => ?_) <;> (try dsimp only at hQ) <;> first | (exfalso; omega) | (exact absurd rfl hQ) | (exact absurd hQ hne) | (exact absurd hne hQ) | (exact absurd hQ t1) | (exact absurd t1 hQ) | (exact absurd (by decide) hQ) | (conv => whnf)) | (refine allG (x := _) (by first | exact hpm | simpa [List.getElem?_append_right, lowOf] using hpm | fail) ?_; conv => whnf) | (refine allLst (x := _) (by first | omega | assumption | fail) (by first | exact hpm | simpa using hpm | fail) ?_; conv => whnf) | (refine allG rfl ?_; conv => whnf) | (refine ⟨none, ?_⟩; conv => whnf) | (refine And.intro (by first | omega | assumption | kernel_rfl | exact And.intro rfl rfl | ((try dsimp only [inR, idx, lowOf]); first | omega | (with_reducible decide) | (simp; omega) | (simp; done) | fail) | fail) ?_; conv => whnf) | fail)
        refine ⟨i + 1, [], hlt, ?_, rfl, ?_, ?_, rfl⟩
        · dsimp only; first | omega | (simp; done) | (simp; omega)
        all_goals (repeat' (first | exact trivial | exact rfl | refine And.intro ?_ ?_ | (refine congrArg vI ?_; first | omega | (dsimp only; omega) | fail) | (refine congrArg some ?_) | omega | exact Nat.le_refl _ | exact congrArg (SV.lst _) (List.take_of_length_le (Nat.le_refl _)).symm))
        · exact congrArg (fun y => SV.val (A := AF) (.string y)) e1
        · exact congrArg (fun y => SV.val (A := AF) (.string y)) e2
      · rw [if_neg h4] at hs
        have e1 : (⟨((plusG (plusP (x1, x2, x3) k) i)).toArray⟩ : ByteArray) ++ ⟨#[43]⟩ = ⟨(plusG (plusP (x1, x2, x3) k) (i + 1)).toArray⟩ := by
          rw [hs, List.append_nil, ← bS_append]
        conv => whnf
        repeat' (first | (refine tell (fun hQ => ?_) (fun hQ => ?_) <;> (try dsimp only at hQ) <;> first | (exfalso; omega) | (exact absurd rfl hQ) | (exact absurd hQ hne) | (exact absurd hne hQ) | (exact absurd hQ t1) | (exact absurd t1 hQ) | (exact absurd (by decide) hQ) | (conv => whnf)) | (refine allG (x := _) (by first | exact hpm | simpa [List.getElem?_append_right, lowOf] using hpm | fail) ?_; conv => whnf) | (refine allLst (x := _) (by first | omega | assumption | fail) (by first | exact hpm | simpa using hpm | fail) ?_; conv => whnf) | (refine allG rfl ?_; conv => whnf) | (refine ⟨none, ?_⟩; conv => whnf) | (refine And.intro (by first | omega | assumption | kernel_rfl | exact And.intro rfl rfl | ((try dsimp only [inR, idx, lowOf]); first | omega | (with_reducible decide) | (simp; omega) | (simp; done) | fail) | fail) ?_; conv => whnf) | fail)
        refine ⟨i + 1, [], hlt, ?_, rfl, ?_, ?_, rfl⟩
        · dsimp only; first | omega | (simp; done) | (simp; omega)
        all_goals (repeat' (first | exact trivial | exact rfl | refine And.intro ?_ ?_ | (refine congrArg vI ?_; first | omega | (dsimp only; omega) | fail) | (refine congrArg some ?_) | omega | exact Nat.le_refl _ | exact congrArg (SV.lst _) (List.take_of_length_le (Nat.le_refl _)).symm))
        · exact congrArg (fun y => SV.val (A := AF) (.string y)) e1
        · exact congrArg (fun y => SV.val (A := AF) (.string y)) e2
    · have hgp : plusP (x1, x2, x3) k i = p := by unfold plusP; rw [if_neg hik, hpg]
      rw [hgp] at hs
      have hh : hashH (x1, x2, x3) k i = hashH (x1, x2, x3) k (i + 1) := by
        unfold hashH
        by_cases hki : k < i
        · rw [if_pos hki, if_pos (by omega)]
        · rw [if_neg hki, if_neg (by omega)]
      by_cases h4 : i < 4
      · rw [if_pos h4] at hs
        have e1 : (⟨((plusG (plusP (x1, x2, x3) k) i)).toArray⟩ : ByteArray) ++ bS p ++ ⟨#[47]⟩ = ⟨(plusG (plusP (x1, x2, x3) k) (i + 1)).toArray⟩ := by
          rw [hs, ← List.append_assoc, ← bS_append, ← bS_append]
        conv => whnf
        repeat' (first | (refine tell (fun hQ => ?_) (fun hQ => ?_) <;> (try dsimp only at hQ) <;> first | (exfalso; omega) | (exact absurd rfl hQ) | (exact absurd hQ hne) | (exact absurd hne hQ) | (exact absurd hQ t1) | (exact absurd t1 hQ) | (exact absurd (by decide) hQ) | (conv => whnf)) | (refine allG (x := _) (by first | exact hpm | simpa [List.getElem?_append_right, lowOf] using hpm | fail) ?_; conv => whnf) | (refine allLst (x := _) (by first | omega | assumption | fail) (by first | exact hpm | simpa using hpm | fail) ?_; conv => whnf) | (refine allG rfl ?_; conv => whnf) | (refine ⟨none, ?_⟩; conv => whnf) | (refine And.intro (by first | omega | assumption | kernel_rfl | exact And.intro rfl rfl | ((try dsimp only [inR, idx, lowOf]); first | omega | (with_reducible decide) | (simp; omega) | (simp; done) | fail) | fail) ?_; conv => whnf) | fail)
        refine ⟨i + 1, [], hlt, ?_, rfl, ?_, ?_, rfl⟩
        · dsimp only; first | omega | (simp; done) | (simp; omega)
        all_goals (repeat' (first | exact trivial | exact rfl | refine And.intro ?_ ?_ | (refine congrArg vI ?_; first | omega | (dsimp only; omega) | fail) | (refine congrArg some ?_) | omega | exact Nat.le_refl _ | exact congrArg (SV.lst _) (List.take_of_length_le (Nat.le_refl _)).symm))
        · exact congrArg (fun y => SV.val (A := AF) (.string y)) e1
        · exact congrArg vS hh
      · rw [if_neg h4] at hs
        have e1 : (⟨((plusG (plusP (x1, x2, x3) k) i)).toArray⟩ : ByteArray) ++ bS p = ⟨(plusG (plusP (x1, x2, x3) k) (i + 1)).toArray⟩ := by
          rw [hs, List.append_nil, ← bS_append]
        conv => whnf
        repeat' (first | (refine tell (fun hQ => ?_) (fun hQ => ?_) <;> (try dsimp only at hQ) <;> first | (exfalso; omega) | (exact absurd rfl hQ) | (exact absurd hQ hne) | (exact absurd hne hQ) | (exact absurd hQ t1) | (exact absurd t1 hQ) | (exact absurd (by decide) hQ) | (conv => whnf)) | (refine allG (x := _) (by first | exact hpm | simpa [List.getElem?_append_right, lowOf] using hpm | fail) ?_; conv => whnf) | (refine allLst (x := _) (by first | omega | assumption | fail) (by first | exact hpm | simpa using hpm | fail) ?_; conv => whnf) | (refine allG rfl ?_; conv => whnf) | (refine ⟨none, ?_⟩; conv => whnf) | (refine And.intro (by first | omega | assumption | kernel_rfl | exact And.intro rfl rfl | ((try dsimp only [inR, idx, lowOf]); first | omega | (with_reducible decide) | (simp; omega) | (simp; done) | fail) | fail) ?_; conv => whnf) | fail)
        refine ⟨i + 1, [], hlt, ?_, rfl, ?_, ?_, rfl⟩
        · dsimp only; first | omega | (simp; done) | (simp; omega)
        all_goals (repeat' (first | exact trivial | exact rfl | refine And.intro ?_ ?_ | (refine congrArg vI ?_; first | omega | (dsimp only; omega) | fail) | (refine congrArg some ?_) | omega | exact Nat.le_refl _ | exact congrArg (SV.lst _) (List.take_of_length_le (Nat.le_refl _)).symm))
        · exact congrArg (fun y => SV.val (A := AF) (.string y)) e1
        · exact congrArg vS hh
  · have hobt : i = 5 := by omega
    obtain rfl := hobt
    have hh : hashH (x1, x2, x3) k 5 = plusG (plusP (x1, x2, x3) k) k ++ [35] := if_pos hk5
    have lx := textT_len hx
    have ly := textT_len hy
    have lp := hgl 5
    have lh := hgl k
    have hhl : (hashH (x1, x2, x3) k 5).length ≤ 1000 := by rw [hh, List.length_append]; show _ + 1 ≤ _; omega
    have l2 : ∀ q : Txt, q.length = 2 → (textT (x1, x2, x3) ++ q).length ≤ 4000000000000 := fun q hq => by rw [List.length_append]; omega
    have z0 := size_bS (textT (x1, x2, x3))
    have z121 : (⟨#[47, 121]⟩ : ByteArray).size = 2 := rfl
    have z135 : (⟨#[47, 35]⟩ : ByteArray).size = 2 := rfl
    have c1 : (⟨(textT (x1, x2, x3)).toArray⟩ : ByteArray) ++ ⟨#[47, 121]⟩ = ⟨(textT (x1, x2, x3) ++ [47, 121]).toArray⟩ := bS_append _ [47, 121]
    have c2 : (⟨(textT (x1, x2, x3)).toArray⟩ : ByteArray) ++ ⟨#[47, 35]⟩ = ⟨(textT (x1, x2, x3) ++ [47, 35]).toArray⟩ := bS_append _ [47, 35]
    have hm1 := at_match (f := textT (x1, x2, x3)) (n := textT (x1, x2, x3)) (by omega) (by omega) (matchP_self _)
    have hm2 := at_match (n := textT (x1, x2, x3)) (show (plusG (plusP (x1, x2, x3) k) 5).length ≤ _ by omega) (by omega) (plus_match hx hk5)
    have hm3 := at_match (n := textT (x1, x2, x3)) (show (hashH (x1, x2, x3) k 5).length ≤ _ by omega) (by omega) (b := true) (by rw [hh]; exact hash_match hx hk5)
    have hm4 := at_match (f := [35]) (n := textT (x1, x2, x3)) (by decide) (by omega) (matchP_hash _)
    have hm6 := at_match (f := textT (x1, x2, x3)) (n := textT (x1, x2, x3) ++ [47, 121]) (by omega) (l2 _ rfl) (more_no hx)
    have hm7 := at_match (f := textT (x1, x2, x3) ++ [47, 121]) (n := textT (x1, x2, x3)) (l2 _ rfl) (by omega) (more_no' hx)
    have hm8 := at_match (f := textT (x1, x2, x3) ++ [47, 35]) (n := textT (x1, x2, x3)) (l2 _ rfl) (by omega) (more_hash hx)
    have heq := match_eq hx hy
    conv => whnf
    repeat' (first | (refine tell (fun hQ => ?_) (fun hQ => ?_) <;> (try dsimp only at hQ) <;> first | (exfalso; omega) | (exact absurd rfl hQ) | (exact absurd hQ hne) | (exact absurd hne hQ) | (exact absurd hQ t1) | (exact absurd t1 hQ) | (exact absurd (by decide) hQ) | (conv => whnf)) | (refine allG rfl ?_; conv => whnf) | (refine And.intro (by first | omega | assumption | kernel_rfl | exact And.intro rfl rfl | ((try dsimp only [inR, idx, lowOf]); first | omega | (with_reducible decide) | (simp; omega) | (simp; done) | fail) | fail) ?_; conv => whnf) | fail)
    refine ⟨none, ?_⟩
    conv => whnf
    conv => whnf
    repeat' (first | (refine tell (fun hQ => ?_) (fun hQ => ?_) <;> (try dsimp only at hQ) <;> first | (exfalso; omega) | (exact absurd rfl hQ) | (exact absurd hQ hne) | (exact absurd hne hQ) | (exact absurd hQ t1) | (exact absurd t1 hQ) | (exact absurd (by decide) hQ) | (conv => whnf)) | (refine allG rfl ?_; conv => whnf) | (refine And.intro (by first | omega | assumption | kernel_rfl | exact And.intro rfl rfl | ((try dsimp only [inR, idx, lowOf]); first | omega | (with_reducible decide) | (simp; omega) | (simp; done) | fail) | fail) ?_; conv => whnf) | fail)
    refine ⟨some (⟨[(11, vB true), (12, vS (textT (x1, x2, x3))), (13, vI 0), (14, vS (textT (y1, y2, y3))), (15, vI 0), (19, vS (plusG (plusP (x1, x2, x3) k) 5)), (20, vS (hashH (x1, x2, x3) k 5))], []⟩, []), ?_⟩
    conv => whnf
    refine And.intro rfl (And.intro ?_ ?_)
    · refine ⟨rfl, ?_, ?_, rfl⟩
      all_goals (repeat' (first | exact trivial | exact rfl | refine And.intro ?_ ?_ | (refine congrArg vI ?_; first | omega | (dsimp only; omega) | fail) | (refine congrArg some ?_) | omega | exact Nat.le_refl _ | exact congrArg (SV.lst _) (List.take_of_length_le (Nat.le_refl _)).symm))
    as_aux_lemma =>
    conv => whnf
    repeat' (first | (refine tell (fun hQ => ?_) (fun hQ => ?_) <;> (try dsimp only at hQ) <;> first | (exfalso; omega) | (exact absurd rfl hQ) | (exact absurd hQ hne) | (exact absurd hne hQ) | (exact absurd hQ t1) | (exact absurd t1 hQ) | (exact absurd (by decide) hQ) | (conv => whnf)) | (refine allG rfl ?_; conv => whnf) | (refine ⟨none, ?_⟩; conv => whnf) | (refine And.intro (by first | omega | assumption | kernel_rfl | exact And.intro rfl rfl | ((try dsimp only [inR, idx, lowOf]); first | omega | (with_reducible decide) | (simp; omega) | (simp; done) | fail) | fail) ?_; conv => whnf) | fail)
    refine ⟨_, hm1, (), [], false, ?_⟩
    conv => whnf
    refine And.intro (vc0 trivial (by (repeat' (first | exact trivial | exact rfl | refine And.intro ?_ ?_ | (refine congrArg vI ?_; first | omega | (dsimp only; omega) | fail) | (refine congrArg some ?_) | omega | exact Nat.le_refl _ | exact congrArg (SV.lst _) (List.take_of_length_le (Nat.le_refl _)).symm))) (by repeat' (first | exact trivial | exact rfl | refine And.intro ?_ ?_ | (refine congrArg vI ?_; first | omega | (dsimp only; omega) | fail) | (refine congrArg some ?_) | omega | exact Nat.le_refl _ | exact congrArg (SV.lst _) (List.take_of_length_le (Nat.le_refl _)).symm)) trivial trivial) ?_
    refine And.intro ⟨(), trivial⟩ (fun (_ : Unit) _ => ?_)
    conv => whnf
    conv => whnf
    repeat' (first | (refine tell (fun hQ => ?_) (fun hQ => ?_) <;> (try dsimp only at hQ) <;> first | (exfalso; omega) | (exact absurd rfl hQ) | (exact absurd hQ hne) | (exact absurd hne hQ) | (exact absurd hQ t1) | (exact absurd t1 hQ) | (exact absurd (by decide) hQ) | (conv => whnf)) | (refine allG rfl ?_; conv => whnf) | (refine ⟨none, ?_⟩; conv => whnf) | (refine And.intro (by first | omega | assumption | kernel_rfl | exact And.intro rfl rfl | ((try dsimp only [inR, idx, lowOf]); first | omega | (with_reducible decide) | (simp; omega) | (simp; done) | fail) | fail) ?_; conv => whnf) | fail)
    refine ⟨_, hm2, (), [], false, ?_⟩
    conv => whnf
    refine And.intro (vc0 trivial (by (repeat' (first | exact trivial | exact rfl | refine And.intro ?_ ?_ | (refine congrArg vI ?_; first | omega | (dsimp only; omega) | fail) | (refine congrArg some ?_) | omega | exact Nat.le_refl _ | exact congrArg (SV.lst _) (List.take_of_length_le (Nat.le_refl _)).symm))) (by repeat' (first | exact trivial | exact rfl | refine And.intro ?_ ?_ | (refine congrArg vI ?_; first | omega | (dsimp only; omega) | fail) | (refine congrArg some ?_) | omega | exact Nat.le_refl _ | exact congrArg (SV.lst _) (List.take_of_length_le (Nat.le_refl _)).symm)) trivial trivial) ?_
    refine And.intro ⟨(), trivial⟩ (fun (_ : Unit) _ => ?_)
    conv => whnf
    conv => whnf
    repeat' (first | (refine tell (fun hQ => ?_) (fun hQ => ?_) <;> (try dsimp only at hQ) <;> first | (exfalso; omega) | (exact absurd rfl hQ) | (exact absurd hQ hne) | (exact absurd hne hQ) | (exact absurd hQ t1) | (exact absurd t1 hQ) | (exact absurd (by decide) hQ) | (conv => whnf)) | (refine allG rfl ?_; conv => whnf) | (refine ⟨none, ?_⟩; conv => whnf) | (refine And.intro (by first | omega | assumption | kernel_rfl | exact And.intro rfl rfl | ((try dsimp only [inR, idx, lowOf]); first | omega | (with_reducible decide) | (simp; omega) | (simp; done) | fail) | fail) ?_; conv => whnf) | fail)
    refine ⟨_, hm3, (), [], false, ?_⟩
    conv => whnf
    refine And.intro (vc0 trivial (by (repeat' (first | exact trivial | exact rfl | refine And.intro ?_ ?_ | (refine congrArg vI ?_; first | omega | (dsimp only; omega) | fail) | (refine congrArg some ?_) | omega | exact Nat.le_refl _ | exact congrArg (SV.lst _) (List.take_of_length_le (Nat.le_refl _)).symm))) (by repeat' (first | exact trivial | exact rfl | refine And.intro ?_ ?_ | (refine congrArg vI ?_; first | omega | (dsimp only; omega) | fail) | (refine congrArg some ?_) | omega | exact Nat.le_refl _ | exact congrArg (SV.lst _) (List.take_of_length_le (Nat.le_refl _)).symm)) trivial trivial) ?_
    refine And.intro ⟨(), trivial⟩ (fun (_ : Unit) _ => ?_)
    conv => whnf
    conv => whnf
    repeat' (first | (refine tell (fun hQ => ?_) (fun hQ => ?_) <;> (try dsimp only at hQ) <;> first | (exfalso; omega) | (exact absurd rfl hQ) | (exact absurd hQ hne) | (exact absurd hne hQ) | (exact absurd hQ t1) | (exact absurd t1 hQ) | (exact absurd (by decide) hQ) | (conv => whnf)) | (refine allG rfl ?_; conv => whnf) | (refine ⟨none, ?_⟩; conv => whnf) | (refine And.intro (by first | omega | assumption | kernel_rfl | exact And.intro rfl rfl | ((try dsimp only [inR, idx, lowOf]); first | omega | (with_reducible decide) | (simp; omega) | (simp; done) | fail) | fail) ?_; conv => whnf) | fail)
    refine ⟨_, hm4, (), [], false, ?_⟩
    conv => whnf
    refine And.intro (vc0 trivial (by (repeat' (first | exact trivial | exact rfl | refine And.intro ?_ ?_ | (refine congrArg vI ?_; first | omega | (dsimp only; omega) | fail) | (refine congrArg some ?_) | omega | exact Nat.le_refl _ | exact congrArg (SV.lst _) (List.take_of_length_le (Nat.le_refl _)).symm))) (by repeat' (first | exact trivial | exact rfl | refine And.intro ?_ ?_ | (refine congrArg vI ?_; first | omega | (dsimp only; omega) | fail) | (refine congrArg some ?_) | omega | exact Nat.le_refl _ | exact congrArg (SV.lst _) (List.take_of_length_le (Nat.le_refl _)).symm)) trivial trivial) ?_
    refine And.intro ⟨(), trivial⟩ (fun (_ : Unit) _ => ?_)
    conv => whnf
    conv => whnf
    repeat' (first | (refine tell (fun hQ => ?_) (fun hQ => ?_) <;> (try dsimp only at hQ) <;> first | (exfalso; omega) | (exact absurd rfl hQ) | (exact absurd hQ hne) | (exact absurd hne hQ) | (exact absurd hQ t1) | (exact absurd t1 hQ) | (exact absurd (by decide) hQ) | (conv => whnf)) | (refine allG rfl ?_; conv => whnf) | (refine ⟨none, ?_⟩; conv => whnf) | (refine And.intro (by first | omega | assumption | kernel_rfl | exact And.intro rfl rfl | ((try dsimp only [inR, idx, lowOf]); first | omega | (with_reducible decide) | (simp; omega) | (simp; done) | fail) | fail) ?_; conv => whnf) | fail)
    by_cases hxy : textT (x1, x2, x3) = textT (y1, y2, y3)
    · have t1 : ByteArray.toList ⟨(textT (x1, x2, x3)).toArray⟩ = ByteArray.toList ⟨(textT (y1, y2, y3)).toArray⟩ := bS_inj.2 hxy
      have hm5 := at_match (f := textT (x1, x2, x3)) (n := textT (y1, y2, y3)) (by omega) (by omega) (heq.trans (decide_eq_true hxy))
      refine ⟨_, hm5, (), [], false, ?_⟩
      conv => whnf
      refine And.intro (vc0 trivial (by (repeat' (first | exact trivial | exact rfl | refine And.intro ?_ ?_ | (refine congrArg vI ?_; first | omega | (dsimp only; omega) | fail) | (refine congrArg some ?_) | omega | exact Nat.le_refl _ | exact congrArg (SV.lst _) (List.take_of_length_le (Nat.le_refl _)).symm))) (by repeat' (first | exact trivial | exact rfl | refine And.intro ?_ ?_ | (refine congrArg vI ?_; first | omega | (dsimp only; omega) | fail) | (refine congrArg some ?_) | omega | exact Nat.le_refl _ | exact congrArg (SV.lst _) (List.take_of_length_le (Nat.le_refl _)).symm)) trivial trivial) ?_
      refine And.intro ⟨(), trivial⟩ (fun (_ : Unit) _ => ?_)
      conv => whnf
      conv => whnf
      repeat' (first | (refine tell (fun hQ => ?_) (fun hQ => ?_) <;> (try dsimp only at hQ) <;> first | (exfalso; omega) | (exact absurd rfl hQ) | (exact absurd hQ hne) | (exact absurd hne hQ) | (exact absurd hQ t1) | (exact absurd t1 hQ) | (exact absurd (by decide) hQ) | (conv => whnf)) | (refine allG rfl ?_; conv => whnf) | (refine ⟨none, ?_⟩; conv => whnf) | (refine And.intro (by first | omega | assumption | kernel_rfl | exact And.intro rfl rfl | ((try dsimp only [inR, idx, lowOf]); first | omega | (with_reducible decide) | (simp; omega) | (simp; done) | fail) | fail) ?_; conv => whnf) | fail)
      refine ⟨_, hm6, (), [], false, ?_⟩
      conv => whnf
      refine And.intro (vc0 trivial (by (repeat' (first | exact trivial | exact rfl | refine And.intro ?_ ?_ | (refine congrArg vI ?_; first | omega | (dsimp only; omega) | fail) | (refine congrArg some ?_) | omega | exact Nat.le_refl _ | exact congrArg (SV.lst _) (List.take_of_length_le (Nat.le_refl _)).symm)); all_goals (exact congrArg (fun y => SV.val (A := AF) (.string y)) c1)) (by repeat' (first | exact trivial | exact rfl | refine And.intro ?_ ?_ | (refine congrArg vI ?_; first | omega | (dsimp only; omega) | fail) | (refine congrArg some ?_) | omega | exact Nat.le_refl _ | exact congrArg (SV.lst _) (List.take_of_length_le (Nat.le_refl _)).symm)) trivial trivial) ?_
      refine And.intro ⟨(), trivial⟩ (fun (_ : Unit) _ => ?_)
      conv => whnf
      conv => whnf
      repeat' (first | (refine tell (fun hQ => ?_) (fun hQ => ?_) <;> (try dsimp only at hQ) <;> first | (exfalso; omega) | (exact absurd rfl hQ) | (exact absurd hQ hne) | (exact absurd hne hQ) | (exact absurd hQ t1) | (exact absurd t1 hQ) | (exact absurd (by decide) hQ) | (conv => whnf)) | (refine allG rfl ?_; conv => whnf) | (refine ⟨none, ?_⟩; conv => whnf) | (refine And.intro (by first | omega | assumption | kernel_rfl | exact And.intro rfl rfl | ((try dsimp only [inR, idx, lowOf]); first | omega | (with_reducible decide) | (simp; omega) | (simp; done) | fail) | fail) ?_; conv => whnf) | fail)
      refine ⟨_, hm7, (), [], false, ?_⟩
      conv => whnf
      refine And.intro (vc0 trivial (by (repeat' (first | exact trivial | exact rfl | refine And.intro ?_ ?_ | (refine congrArg vI ?_; first | omega | (dsimp only; omega) | fail) | (refine congrArg some ?_) | omega | exact Nat.le_refl _ | exact congrArg (SV.lst _) (List.take_of_length_le (Nat.le_refl _)).symm)); all_goals (exact congrArg (fun y => SV.val (A := AF) (.string y)) c1)) (by repeat' (first | exact trivial | exact rfl | refine And.intro ?_ ?_ | (refine congrArg vI ?_; first | omega | (dsimp only; omega) | fail) | (refine congrArg some ?_) | omega | exact Nat.le_refl _ | exact congrArg (SV.lst _) (List.take_of_length_le (Nat.le_refl _)).symm)) trivial trivial) ?_
      refine And.intro ⟨(), trivial⟩ (fun (_ : Unit) _ => ?_)
      conv => whnf
      conv => whnf
      repeat' (first | (refine tell (fun hQ => ?_) (fun hQ => ?_) <;> (try dsimp only at hQ) <;> first | (exfalso; omega) | (exact absurd rfl hQ) | (exact absurd hQ hne) | (exact absurd hne hQ) | (exact absurd hQ t1) | (exact absurd t1 hQ) | (exact absurd (by decide) hQ) | (conv => whnf)) | (refine allG rfl ?_; conv => whnf) | (refine ⟨none, ?_⟩; conv => whnf) | (refine And.intro (by first | omega | assumption | kernel_rfl | exact And.intro rfl rfl | ((try dsimp only [inR, idx, lowOf]); first | omega | (with_reducible decide) | (simp; omega) | (simp; done) | fail) | fail) ?_; conv => whnf) | fail)
      refine ⟨_, hm8, (), [], false, ?_⟩
      conv => whnf
      refine And.intro (vc0 trivial (by (repeat' (first | exact trivial | exact rfl | refine And.intro ?_ ?_ | (refine congrArg vI ?_; first | omega | (dsimp only; omega) | fail) | (refine congrArg some ?_) | omega | exact Nat.le_refl _ | exact congrArg (SV.lst _) (List.take_of_length_le (Nat.le_refl _)).symm)); all_goals (exact congrArg (fun y => SV.val (A := AF) (.string y)) c2)) (by repeat' (first | exact trivial | exact rfl | refine And.intro ?_ ?_ | (refine congrArg vI ?_; first | omega | (dsimp only; omega) | fail) | (refine congrArg some ?_) | omega | exact Nat.le_refl _ | exact congrArg (SV.lst _) (List.take_of_length_le (Nat.le_refl _)).symm)) trivial trivial) ?_
      refine And.intro ⟨(), trivial⟩ (fun (_ : Unit) _ => ?_)
      conv => whnf
      conv => whnf
      repeat' (first | (refine tell (fun hQ => ?_) (fun hQ => ?_) <;> (try dsimp only at hQ) <;> first | (exfalso; omega) | (exact absurd rfl hQ) | (exact absurd hQ hne) | (exact absurd hne hQ) | (exact absurd hQ t1) | (exact absurd t1 hQ) | (exact absurd (by decide) hQ) | (conv => whnf)) | (refine allG rfl ?_; conv => whnf) | (refine ⟨none, ?_⟩; conv => whnf) | (refine And.intro (by first | omega | assumption | kernel_rfl | exact And.intro rfl rfl | ((try dsimp only [inR, idx, lowOf]); first | omega | (with_reducible decide) | (simp; omega) | (simp; done) | fail) | fail) ?_; conv => whnf) | fail)
      exact ⟨(), [], trivial, rfl, trivial, trivial⟩
    · have hne : ¬ (ByteArray.toList ⟨(textT (x1, x2, x3)).toArray⟩ = ByteArray.toList ⟨(textT (y1, y2, y3)).toArray⟩) := fun e => hxy (bS_inj.1 e)
      have hm5 := at_match (f := textT (x1, x2, x3)) (n := textT (y1, y2, y3)) (by omega) (by omega) (heq.trans (decide_eq_false hxy))
      refine ⟨_, hm5, (), [], false, ?_⟩
      conv => whnf
      refine And.intro (vc0 trivial (by (repeat' (first | exact trivial | exact rfl | refine And.intro ?_ ?_ | (refine congrArg vI ?_; first | omega | (dsimp only; omega) | fail) | (refine congrArg some ?_) | omega | exact Nat.le_refl _ | exact congrArg (SV.lst _) (List.take_of_length_le (Nat.le_refl _)).symm))) (by repeat' (first | exact trivial | exact rfl | refine And.intro ?_ ?_ | (refine congrArg vI ?_; first | omega | (dsimp only; omega) | fail) | (refine congrArg some ?_) | omega | exact Nat.le_refl _ | exact congrArg (SV.lst _) (List.take_of_length_le (Nat.le_refl _)).symm)) trivial trivial) ?_
      refine And.intro ⟨(), trivial⟩ (fun (_ : Unit) _ => ?_)
      conv => whnf
      conv => whnf
      repeat' (first | (refine tell (fun hQ => ?_) (fun hQ => ?_) <;> (try dsimp only at hQ) <;> first | (exfalso; omega) | (exact absurd rfl hQ) | (exact absurd hQ hne) | (exact absurd hne hQ) | (exact absurd hQ t1) | (exact absurd t1 hQ) | (exact absurd (by decide) hQ) | (conv => whnf)) | (refine allG rfl ?_; conv => whnf) | (refine ⟨none, ?_⟩; conv => whnf) | (refine And.intro (by first | omega | assumption | kernel_rfl | exact And.intro rfl rfl | ((try dsimp only [inR, idx, lowOf]); first | omega | (with_reducible decide) | (simp; omega) | (simp; done) | fail) | fail) ?_; conv => whnf) | fail)
      refine ⟨_, hm6, (), [], false, ?_⟩
      conv => whnf
      refine And.intro (vc0 trivial (by (repeat' (first | exact trivial | exact rfl | refine And.intro ?_ ?_ | (refine congrArg vI ?_; first | omega | (dsimp only; omega) | fail) | (refine congrArg some ?_) | omega | exact Nat.le_refl _ | exact congrArg (SV.lst _) (List.take_of_length_le (Nat.le_refl _)).symm)); all_goals (exact congrArg (fun y => SV.val (A := AF) (.string y)) c1)) (by repeat' (first | exact trivial | exact rfl | refine And.intro ?_ ?_ | (refine congrArg vI ?_; first | omega | (dsimp only; omega) | fail) | (refine congrArg some ?_) | omega | exact Nat.le_refl _ | exact congrArg (SV.lst _) (List.take_of_length_le (Nat.le_refl _)).symm)) trivial trivial) ?_
      refine And.intro ⟨(), trivial⟩ (fun (_ : Unit) _ => ?_)
      conv => whnf
      conv => whnf
      repeat' (first | (refine tell (fun hQ => ?_) (fun hQ => ?_) <;> (try dsimp only at hQ) <;> first | (exfalso; omega) | (exact absurd rfl hQ) | (exact absurd hQ hne) | (exact absurd hne hQ) | (exact absurd hQ t1) | (exact absurd t1 hQ) | (exact absurd (by decide) hQ) | (conv => whnf)) | (refine allG rfl ?_; conv => whnf) | (refine ⟨none, ?_⟩; conv => whnf) | (refine And.intro (by first | omega | assumption | kernel_rfl | exact And.intro rfl rfl | ((try dsimp only [inR, idx, lowOf]); first | omega | (with_reducible decide) | (simp; omega) | (simp; done) | fail) | fail) ?_; conv => whnf) | fail)
      refine ⟨_, hm7, (), [], false, ?_⟩
      conv => whnf
      refine And.intro (vc0 trivial (by (repeat' (first | exact trivial | exact rfl | refine And.intro ?_ ?_ | (refine congrArg vI ?_; first | omega | (dsimp only; omega) | fail) | (refine congrArg some ?_) | omega | exact Nat.le_refl _ | exact congrArg (SV.lst _) (List.take_of_length_le (Nat.le_refl _)).symm)); all_goals (exact congrArg (fun y => SV.val (A := AF) (.string y)) c1)) (by repeat' (first | exact trivial | exact rfl | refine And.intro ?_ ?_ | (refine congrArg vI ?_; first | omega | (dsimp only; omega) | fail) | (refine congrArg some ?_) | omega | exact Nat.le_refl _ | exact congrArg (SV.lst _) (List.take_of_length_le (Nat.le_refl _)).symm)) trivial trivial) ?_
      refine And.intro ⟨(), trivial⟩ (fun (_ : Unit) _ => ?_)
      conv => whnf
      conv => whnf
      repeat' (first | (refine tell (fun hQ => ?_) (fun hQ => ?_) <;> (try dsimp only at hQ) <;> first | (exfalso; omega) | (exact absurd rfl hQ) | (exact absurd hQ hne) | (exact absurd hne hQ) | (exact absurd hQ t1) | (exact absurd t1 hQ) | (exact absurd (by decide) hQ) | (conv => whnf)) | (refine allG rfl ?_; conv => whnf) | (refine ⟨none, ?_⟩; conv => whnf) | (refine And.intro (by first | omega | assumption | kernel_rfl | exact And.intro rfl rfl | ((try dsimp only [inR, idx, lowOf]); first | omega | (with_reducible decide) | (simp; omega) | (simp; done) | fail) | fail) ?_; conv => whnf) | fail)
      refine ⟨_, hm8, (), [], false, ?_⟩
      conv => whnf
      refine And.intro (vc0 trivial (by (repeat' (first | exact trivial | exact rfl | refine And.intro ?_ ?_ | (refine congrArg vI ?_; first | omega | (dsimp only; omega) | fail) | (refine congrArg some ?_) | omega | exact Nat.le_refl _ | exact congrArg (SV.lst _) (List.take_of_length_le (Nat.le_refl _)).symm)); all_goals (exact congrArg (fun y => SV.val (A := AF) (.string y)) c2)) (by repeat' (first | exact trivial | exact rfl | refine And.intro ?_ ?_ | (refine congrArg vI ?_; first | omega | (dsimp only; omega) | fail) | (refine congrArg some ?_) | omega | exact Nat.le_refl _ | exact congrArg (SV.lst _) (List.take_of_length_le (Nat.le_refl _)).symm)) trivial trivial) ?_
      refine And.intro ⟨(), trivial⟩ (fun (_ : Unit) _ => ?_)
      conv => whnf
      conv => whnf
      repeat' (first | (refine tell (fun hQ => ?_) (fun hQ => ?_) <;> (try dsimp only at hQ) <;> first | (exfalso; omega) | (exact absurd rfl hQ) | (exact absurd hQ hne) | (exact absurd hne hQ) | (exact absurd hQ t1) | (exact absurd t1 hQ) | (exact absurd (by decide) hQ) | (conv => whnf)) | (refine allG rfl ?_; conv => whnf) | (refine ⟨none, ?_⟩; conv => whnf) | (refine And.intro (by first | omega | assumption | kernel_rfl | exact And.intro rfl rfl | ((try dsimp only [inR, idx, lowOf]); first | omega | (with_reducible decide) | (simp; omega) | (simp; done) | fail) | fail) ?_; conv => whnf) | fail)
      exact ⟨(), [], trivial, rfl, trivial, trivial⟩
end Go.Sx

