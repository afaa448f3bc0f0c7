/-
  Layer 11, part U: LayoutMore.
-/
import Derived.Test.YtmogappoadglgaaLayT
namespace Go.Sx
open Go Go.Proofs Go.Proofs.Ytmogappoadglgaa
theorem m_more : Meets Try.prog regF 10 (spLaw (fun g : Int × List (Int × Int × Int) × List Int × Int × Int => [vI g.1, .lst 66 g.2.1, .lst 3 g.2.2.1, vI g.2.2.2.1, vI g.2.2.2.2]) (fun g => InI g.1 ∧ Triples g.2.1 ∧ g.2.2.1.length ≤ 17592186043904 ∧ InI g.2.2.2.1 ∧ InI g.2.2.2.2)) := by
  refine meets Try.func10 66 noWr rfl (by kernel_rfl) (by kernel_rfl) ?_
  rintro ⟨(c : Int), (l : List (Int × Int × Int)), (bl : List Int), (fr : Int), (mo : Int)⟩ ⟨(hc : InI c), (hl : Triples l), (hbl : bl.length ≤ 17592186043904), (hfr : InI fr), (hmo : InI mo)⟩
  obtain ⟨hR, h24⟩ := fit_right c l
  obtain ⟨hs0, hsn⟩ := pickF_bd (c := fr) hR.pos
  obtain ⟨hk0, hkn⟩ := pickF_bd (c := mo) hR.pos
  have hX : ((((bl.drop 0).take bl.length ++ [(pickF mo (fitN c))]).drop 0).take (bl.length + 1)) = bl ++ [(pickF mo (fitN c))] := by
    simp only [List.drop_zero, List.take_length]
    exact List.take_of_length_le (by simp)
  have hXl : (((((bl.drop 0).take bl.length ++ [(pickF mo (fitN c))]).drop 0).take (bl.length + 1))).length ≤ 9223372036854775807 := by rw [hX]; simp; omega
  have hA : ∀ v, v ∈ (reachF (fitN c) (fitL c l) bl (pickF fr (fitN c))) ↔ ReachI (fitL c l) bl false (pickF fr (fitN c)) v := fun v => mem_reachF hR hs0 hsn
  have hB : ∀ v, v ∈ (reachF (fitN c) (fitL c l) ((((bl.drop 0).take bl.length ++ [(pickF mo (fitN c))]).drop 0).take (bl.length + 1)) (pickF fr (fitN c))) ↔ ReachI (fitL c l) (bl ++ [(pickF mo (fitN c))]) false (pickF fr (fitN c)) v := fun v => by rw [mem_reachF hR hs0 hsn, hX]
  have hAl : (reachF (fitN c) (fitL c l) bl (pickF fr (fitN c))).length ≤ 9223372036854775807 := Nat.le_trans reachF_len (by decide)
  have hBl : (reachF (fitN c) (fitL c l) ((((bl.drop 0).take bl.length ++ [(pickF mo (fitN c))]).drop 0).take (bl.length + 1)) (pickF fr (fitN c))).length ≤ 40 := reachF_len
  have hsub : ∀ v, v ∈ (reachF (fitN c) (fitL c l) ((((bl.drop 0).take bl.length ++ [(pickF mo (fitN c))]).drop 0).take (bl.length + 1)) (pickF fr (fitN c))) → v ∈ (reachF (fitN c) (fitL c l) bl (pickF fr (fitN c))) := fun v hv => (hA v).2 (reachI_more (fun x hx => List.mem_append_left _ hx) ((hB v).1 hv))
  have hsame : (pickF mo (fitN c)) ∉ (reachF (fitN c) (fitL c l) bl (pickF fr (fitN c))) → (reachF (fitN c) (fitL c l) bl (pickF fr (fitN c))) = (reachF (fitN c) (fitL c l) ((((bl.drop 0).take bl.length ++ [(pickF mo (fitN c))]).drop 0).take (bl.length + 1)) (pickF fr (fitN c))) := fun h => by
    rw [reachF_is hR hs0 hsn, reachF_is hR hs0 hsn, hX]
    exact (reachN_same (fun hr => h ((hA _).2 hr)) 40).symm
  conv => whnf
  repeat' (first | (refine tell (fun htest => ?_) (fun htest => ?_) <;> (try dsimp only at htest) <;> first | (exfalso; omega) | (exact absurd rfl htest) | (exact absurd (by decide) htest) | (conv => whnf)) | (refine allG rfl ?_; conv => whnf) | (refine And.intro (by first | omega | assumption | kernel_rfl | exact And.intro rfl rfl | ((try dsimp only [inR, idx, lowOf]); first | omega | (with_reducible decide) | (simp; omega) | fail) | fail) ?_; conv => whnf) | fail)
  refine ⟨_, m_awakeL, (), [], false, ?_⟩
  conv => whnf
  refine And.intro (vc0 trivial (by (repeat' (first | exact trivial | exact rfl | refine And.intro ?_ ?_ | (refine congrArg vI ?_; first | omega | (dsimp only; omega) | fail) | (refine congrArg some ?_) | omega | exact Nat.le_refl _ | exact congrArg (SV.lst _) (List.take_of_length_le (Nat.le_refl _)).symm))) (by repeat' (first | exact trivial | exact rfl | refine And.intro ?_ ?_ | (refine congrArg vI ?_; first | omega | (dsimp only; omega) | fail) | (refine congrArg some ?_) | omega | exact Nat.le_refl _ | exact congrArg (SV.lst _) (List.take_of_length_le (Nat.le_refl _)).symm)) trivial trivial) ?_
  refine And.intro ⟨(), trivial⟩ (fun (_ : Unit) _ => ?_)
  conv => whnf
  conv => whnf
  repeat' (first | (refine tell (fun htest => ?_) (fun htest => ?_) <;> (try dsimp only at htest) <;> first | (exfalso; omega) | (exact absurd rfl htest) | (exact absurd (by decide) htest) | (conv => whnf)) | (refine allG rfl ?_; conv => whnf) | (refine And.intro (by first | omega | assumption | kernel_rfl | exact And.intro rfl rfl | ((try dsimp only [inR, idx, lowOf]); first | omega | (with_reducible decide) | (simp; omega) | fail) | fail) ?_; conv => whnf) | fail)
  refine ⟨_, m_fit, (c, l), [], false, ?_⟩
  conv => whnf
  refine And.intro (vc0 ⟨hc, hl⟩ (by (repeat' (first | exact trivial | exact rfl | refine And.intro ?_ ?_ | (refine congrArg vI ?_; first | omega | (dsimp only; omega) | fail) | (refine congrArg some ?_) | omega | exact Nat.le_refl _ | exact congrArg (SV.lst _) (List.take_of_length_le (Nat.le_refl _)).symm))) (by repeat' (first | exact trivial | exact rfl | refine And.intro ?_ ?_ | (refine congrArg vI ?_; first | omega | (dsimp only; omega) | fail) | (refine congrArg some ?_) | omega | exact Nat.le_refl _ | exact congrArg (SV.lst _) (List.take_of_length_le (Nat.le_refl _)).symm)) trivial trivial) ?_
  refine And.intro ⟨(), trivial⟩ (fun (_ : Unit) _ => ?_)
  conv => whnf
  conv => whnf
  repeat' (first | (refine tell (fun htest => ?_) (fun htest => ?_) <;> (try dsimp only at htest) <;> first | (exfalso; omega) | (exact absurd rfl htest) | (exact absurd (by decide) htest) | (conv => whnf)) | (refine allG rfl ?_; conv => whnf) | (refine And.intro (by first | omega | assumption | kernel_rfl | exact And.intro rfl rfl | ((try dsimp only [inR, idx, lowOf]); first | omega | (with_reducible decide) | (simp; omega) | fail) | fail) ?_; conv => whnf) | fail)
  refine ⟨_, m_pick11, (fr, (fitN c)), [], false, ?_⟩
  conv => whnf
  refine And.intro (vc0 ⟨hfr, hR.pos⟩ (by (repeat' (first | exact trivial | exact rfl | refine And.intro ?_ ?_ | (refine congrArg vI ?_; first | omega | (dsimp only; omega) | fail) | (refine congrArg some ?_) | omega | exact Nat.le_refl _ | exact congrArg (SV.lst _) (List.take_of_length_le (Nat.le_refl _)).symm))) (by repeat' (first | exact trivial | exact rfl | refine And.intro ?_ ?_ | (refine congrArg vI ?_; first | omega | (dsimp only; omega) | fail) | (refine congrArg some ?_) | omega | exact Nat.le_refl _ | exact congrArg (SV.lst _) (List.take_of_length_le (Nat.le_refl _)).symm)) trivial trivial) ?_
  refine And.intro ⟨(), trivial⟩ (fun (_ : Unit) _ => ?_)
  conv => whnf
  conv => whnf
  repeat' (first | (refine tell (fun htest => ?_) (fun htest => ?_) <;> (try dsimp only at htest) <;> first | (exfalso; omega) | (exact absurd rfl htest) | (exact absurd (by decide) htest) | (conv => whnf)) | (refine allG rfl ?_; conv => whnf) | (refine And.intro (by first | omega | assumption | kernel_rfl | exact And.intro rfl rfl | ((try dsimp only [inR, idx, lowOf]); first | omega | (with_reducible decide) | (simp; omega) | fail) | fail) ?_; conv => whnf) | fail)
  refine ⟨_, m_pick11, (mo, (fitN c)), [], false, ?_⟩
  conv => whnf
  refine And.intro (vc0 ⟨hmo, hR.pos⟩ (by (repeat' (first | exact trivial | exact rfl | refine And.intro ?_ ?_ | (refine congrArg vI ?_; first | omega | (dsimp only; omega) | fail) | (refine congrArg some ?_) | omega | exact Nat.le_refl _ | exact congrArg (SV.lst _) (List.take_of_length_le (Nat.le_refl _)).symm))) (by repeat' (first | exact trivial | exact rfl | refine And.intro ?_ ?_ | (refine congrArg vI ?_; first | omega | (dsimp only; omega) | fail) | (refine congrArg some ?_) | omega | exact Nat.le_refl _ | exact congrArg (SV.lst _) (List.take_of_length_le (Nat.le_refl _)).symm)) trivial trivial) ?_
  refine And.intro ⟨(), trivial⟩ (fun (_ : Unit) _ => ?_)
  conv => whnf
  conv => whnf
  repeat' (first | (refine tell (fun htest => ?_) (fun htest => ?_) <;> (try dsimp only at htest) <;> first | (exfalso; omega) | (exact absurd rfl htest) | (exact absurd (by decide) htest) | (conv => whnf)) | (refine allG rfl ?_; conv => whnf) | (refine And.intro (by first | omega | assumption | kernel_rfl | exact And.intro rfl rfl | ((try dsimp only [inR, idx, lowOf]); first | omega | (with_reducible decide) | (simp; omega) | fail) | fail) ?_; conv => whnf) | fail)
  refine ⟨_, m_reach, (((fitN c), (fitL c l)), bl, (pickF fr (fitN c))), [], false, ?_⟩
  conv => whnf
  refine And.intro (vc0 ⟨hR.good, by show bl.length ≤ 9223372036854775807; omega⟩ (by (repeat' (first | exact trivial | exact rfl | refine And.intro ?_ ?_ | (refine congrArg vI ?_; first | omega | (dsimp only; omega) | fail) | (refine congrArg some ?_) | omega | exact Nat.le_refl _ | exact congrArg (SV.lst _) (List.take_of_length_le (Nat.le_refl _)).symm))) (by repeat' (first | exact trivial | exact rfl | refine And.intro ?_ ?_ | (refine congrArg vI ?_; first | omega | (dsimp only; omega) | fail) | (refine congrArg some ?_) | omega | exact Nat.le_refl _ | exact congrArg (SV.lst _) (List.take_of_length_le (Nat.le_refl _)).symm)) trivial trivial) ?_
  refine And.intro ⟨(), trivial⟩ (fun (_ : Unit) _ => ?_)
  conv => whnf
  conv => whnf
  repeat' (first | (refine tell (fun htest => ?_) (fun htest => ?_) <;> (try dsimp only at htest) <;> first | (exfalso; omega) | (exact absurd rfl htest) | (exact absurd (by decide) htest) | (conv => whnf)) | (refine allG rfl ?_; conv => whnf) | (refine And.intro (by first | omega | assumption | kernel_rfl | exact And.intro rfl rfl | ((try dsimp only [inR, idx, lowOf]); first | omega | (with_reducible decide) | (simp; omega) | fail) | fail) ?_; conv => whnf) | fail)
  refine ⟨_, m_reach, (((fitN c), (fitL c l)), ((((bl.drop 0).take bl.length ++ [(pickF mo (fitN c))]).drop 0).take (bl.length + 1)), (pickF fr (fitN c))), [], false, ?_⟩
  conv => whnf
  refine And.intro (vc0 ⟨hR.good, hXl⟩ (by (repeat' (first | exact trivial | exact rfl | refine And.intro ?_ ?_ | (refine congrArg vI ?_; first | omega | (dsimp only; omega) | fail) | (refine congrArg some ?_) | omega | exact Nat.le_refl _ | exact congrArg (SV.lst _) (List.take_of_length_le (Nat.le_refl _)).symm)); all_goals ((simp; done))) (by repeat' (first | exact trivial | exact rfl | refine And.intro ?_ ?_ | (refine congrArg vI ?_; first | omega | (dsimp only; omega) | fail) | (refine congrArg some ?_) | omega | exact Nat.le_refl _ | exact congrArg (SV.lst _) (List.take_of_length_le (Nat.le_refl _)).symm)) trivial trivial) ?_
  refine And.intro ⟨(), trivial⟩ (fun (_ : Unit) _ => ?_)
  conv => whnf
  conv => whnf
  repeat' (first | (refine tell (fun htest => ?_) (fun htest => ?_) <;> (try dsimp only at htest) <;> first | (exfalso; omega) | (exact absurd rfl htest) | (exact absurd (by decide) htest) | (conv => whnf)) | (refine allG rfl ?_; conv => whnf) | (refine And.intro (by first | omega | assumption | kernel_rfl | exact And.intro rfl rfl | ((try dsimp only [inR, idx, lowOf]); first | omega | (with_reducible decide) | (simp; omega) | fail) | fail) ?_; conv => whnf) | fail)
  refine ⟨Nat, fun i => ⟨[(11, vB true), (14, vI (pickF mo (fitN c))), (15, .lst 3 (reachF (fitN c) (fitL c l) bl (pickF fr (fitN c)))), (16, .lst 3 (reachF (fitN c) (fitL c l) ((((bl.drop 0).take bl.length ++ [(pickF mo (fitN c))]).drop 0).take (bl.length + 1)) (pickF fr (fitN c)))), (17, vI i)], []⟩, fun i => i ≤ (reachF (fitN c) (fitL c l) ((((bl.drop 0).take bl.length ++ [(pickF mo (fitN c))]).drop 0).take (bl.length + 1)) (pickF fr (fitN c))).length, fun i => (reachF (fitN c) (fitL c l) ((((bl.drop 0).take bl.length ++ [(pickF mo (fitN c))]).drop 0).take (bl.length + 1)) (pickF fr (fitN c))).length - i, fun _ _ => rfl, ⟨0, [], Nat.zero_le _, ?_⟩, ?_⟩
  · refine ⟨rfl, ?_, ?_, rfl⟩
    all_goals (repeat' (first | exact trivial | exact rfl | refine And.intro ?_ ?_ | (refine congrArg vI ?_; first | omega | (dsimp only; omega) | fail) | (refine congrArg some ?_) | omega | exact Nat.le_refl _ | exact congrArg (SV.lst _) (List.take_of_length_le (Nat.le_refl _)).symm))
  rintro (i : Nat) (hi : i ≤ (reachF (fitN c) (fitL c l) ((((bl.drop 0).take bl.length ++ [(pickF mo (fitN c))]).drop 0).take (bl.length + 1)) (pickF fr (fitN c))).length)
  by_cases hlt : i < (reachF (fitN c) (fitL c l) ((((bl.drop 0).take bl.length ++ [(pickF mo (fitN c))]).drop 0).take (bl.length + 1)) (pickF fr (fitN c))).length
  · obtain ⟨x, hx⟩ : ∃ x, (reachF (fitN c) (fitL c l) ((((bl.drop 0).take bl.length ++ [(pickF mo (fitN c))]).drop 0).take (bl.length + 1)) (pickF fr (fitN c)))[i]? = some x := ⟨_, List.getElem?_eq_getElem hlt⟩
    have hxA := hsub x (List.mem_of_getElem? hx)
    conv => whnf
    repeat' (first | (refine tell (fun htest => ?_) (fun htest => ?_) <;> (try dsimp only at htest) <;> first | (exfalso; omega) | (exact absurd rfl htest) | (exact absurd (by decide) htest) | (conv => whnf)) | (refine allG (x := x) (by first | exact hx | simpa [List.getElem?_append_right, lowOf] using hx | fail) ?_; conv => whnf) | (refine allLst (x := x) (by first | omega | assumption | fail) (by first | exact hx | simpa using hx | fail) ?_; conv => whnf) | (refine allG rfl ?_; conv => whnf) | (refine And.intro (by first | omega | assumption | kernel_rfl | exact And.intro rfl rfl | ((try dsimp only [inR, idx, lowOf]); first | omega | (with_reducible decide) | (simp; omega) | fail) | fail) ?_; conv => whnf) | fail)
    refine ⟨_, m_has, ((reachF (fitN c) (fitL c l) bl (pickF fr (fitN c))), x), [], false, ?_⟩
    conv => whnf
    refine And.intro (vc0 hAl (by (repeat' (first | exact trivial | exact rfl | refine And.intro ?_ ?_ | (refine congrArg vI ?_; first | omega | (dsimp only; omega) | fail) | (refine congrArg some ?_) | omega | exact Nat.le_refl _ | exact congrArg (SV.lst _) (List.take_of_length_le (Nat.le_refl _)).symm))) (by repeat' (first | exact trivial | exact rfl | refine And.intro ?_ ?_ | (refine congrArg vI ?_; first | omega | (dsimp only; omega) | fail) | (refine congrArg some ?_) | omega | exact Nat.le_refl _ | exact congrArg (SV.lst _) (List.take_of_length_le (Nat.le_refl _)).symm)) trivial trivial) ?_
    refine And.intro (has_ex _ _) ?_
    intro (b : Bool) (hb : b = true ↔ x ∈ (reachF (fitN c) (fitL c l) bl (pickF fr (fitN c))))
    cases b
    · have := hb.2 hxA; cases this
    · conv => whnf
      repeat' (first | (refine tell (fun htest => ?_) (fun htest => ?_) <;> (try dsimp only at htest) <;> first | (exfalso; omega) | (exact absurd rfl htest) | (exact absurd (by decide) htest) | (conv => whnf)) | (refine allG rfl ?_; conv => whnf) | (refine And.intro (by first | omega | assumption | kernel_rfl | exact And.intro rfl rfl | ((try dsimp only [inR, idx, lowOf]); first | omega | (with_reducible decide) | (simp; omega) | fail) | fail) ?_; conv => whnf) | fail)
      refine ⟨i + 1, [], hlt, ?_, rfl, ?_, ?_, rfl⟩
      · dsimp only; first | omega | (simp; done) | (simp; omega)
      all_goals (repeat' (first | exact trivial | exact rfl | refine And.intro ?_ ?_ | (refine congrArg vI ?_; first | omega | (dsimp only; omega) | fail) | (refine congrArg some ?_) | omega | exact Nat.le_refl _ | exact congrArg (SV.lst _) (List.take_of_length_le (Nat.le_refl _)).symm))
  · conv => whnf
    repeat' (first | (refine tell (fun htest => ?_) (fun htest => ?_) <;> (try dsimp only at htest) <;> first | (exfalso; omega) | (exact absurd rfl htest) | (exact absurd (by decide) htest) | (conv => whnf)) | (refine allG rfl ?_; conv => whnf) | (refine And.intro (by first | omega | assumption | kernel_rfl | exact And.intro rfl rfl | ((try dsimp only [inR, idx, lowOf]); first | omega | (with_reducible decide) | (simp; omega) | fail) | fail) ?_; conv => whnf) | fail)
    refine ⟨_, m_has, ((reachF (fitN c) (fitL c l) bl (pickF fr (fitN c))), (pickF mo (fitN c))), [], false, ?_⟩
    conv => whnf
    refine And.intro (vc0 hAl (by (repeat' (first | exact trivial | exact rfl | refine And.intro ?_ ?_ | (refine congrArg vI ?_; first | omega | (dsimp only; omega) | fail) | (refine congrArg some ?_) | omega | exact Nat.le_refl _ | exact congrArg (SV.lst _) (List.take_of_length_le (Nat.le_refl _)).symm))) (by repeat' (first | exact trivial | exact rfl | refine And.intro ?_ ?_ | (refine congrArg vI ?_; first | omega | (dsimp only; omega) | fail) | (refine congrArg some ?_) | omega | exact Nat.le_refl _ | exact congrArg (SV.lst _) (List.take_of_length_le (Nat.le_refl _)).symm)) trivial trivial) ?_
    refine And.intro (has_ex _ _) ?_
    intro (b : Bool) (hb : b = true ↔ (pickF mo (fitN c)) ∈ (reachF (fitN c) (fitL c l) bl (pickF fr (fitN c))))
    cases b
    · have hs := hsame fun h => by have := hb.2 h; cases this
      conv => whnf
      repeat' (first | (refine tell (fun htest => ?_) (fun htest => ?_) <;> (try dsimp only at htest) <;> first | (exfalso; omega) | (exact absurd rfl htest) | (exact absurd (by decide) htest) | (conv => whnf)) | (refine allG rfl ?_; conv => whnf) | (refine And.intro (by first | omega | assumption | kernel_rfl | exact And.intro rfl rfl | ((try dsimp only [inR, idx, lowOf]); first | omega | (with_reducible decide) | (simp; omega) | fail) | fail) ?_; conv => whnf) | fail)
      refine ⟨_, m_ints, ((reachF (fitN c) (fitL c l) bl (pickF fr (fitN c))), (reachF (fitN c) (fitL c l) ((((bl.drop 0).take bl.length ++ [(pickF mo (fitN c))]).drop 0).take (bl.length + 1)) (pickF fr (fitN c)))), [], false, ?_⟩
      conv => whnf
      refine And.intro (vc0 hAl (by (repeat' (first | exact trivial | exact rfl | refine And.intro ?_ ?_ | (refine congrArg vI ?_; first | omega | (dsimp only; omega) | fail) | (refine congrArg some ?_) | omega | exact Nat.le_refl _ | exact congrArg (SV.lst _) (List.take_of_length_le (Nat.le_refl _)).symm))) (by repeat' (first | exact trivial | exact rfl | refine And.intro ?_ ?_ | (refine congrArg vI ?_; first | omega | (dsimp only; omega) | fail) | (refine congrArg some ?_) | omega | exact Nat.le_refl _ | exact congrArg (SV.lst _) (List.take_of_length_le (Nat.le_refl _)).symm)) trivial trivial) ?_
      refine And.intro ⟨true, ⟨fun _ => hs, fun _ => rfl⟩⟩ ?_
      intro (d : Bool) (hd : d = true ↔ (reachF (fitN c) (fitL c l) bl (pickF fr (fitN c))) = (reachF (fitN c) (fitL c l) ((((bl.drop 0).take bl.length ++ [(pickF mo (fitN c))]).drop 0).take (bl.length + 1)) (pickF fr (fitN c))))
      cases d
      · have := hd.2 hs; cases this
      conv => whnf
      repeat' (first | (refine tell (fun htest => ?_) (fun htest => ?_) <;> (try dsimp only at htest) <;> first | (exfalso; omega) | (exact absurd rfl htest) | (exact absurd (by decide) htest) | (conv => whnf)) | (refine allG rfl ?_; conv => whnf) | (refine And.intro (by first | omega | assumption | kernel_rfl | exact And.intro rfl rfl | ((try dsimp only [inR, idx, lowOf]); first | omega | (with_reducible decide) | (simp; omega) | fail) | fail) ?_; conv => whnf) | fail)
      exact ⟨(), [], trivial, rfl, trivial, trivial⟩
    · conv => whnf
      repeat' (first | (refine tell (fun htest => ?_) (fun htest => ?_) <;> (try dsimp only at htest) <;> first | (exfalso; omega) | (exact absurd rfl htest) | (exact absurd (by decide) htest) | (conv => whnf)) | (refine allG rfl ?_; conv => whnf) | (refine And.intro (by first | omega | assumption | kernel_rfl | exact And.intro rfl rfl | ((try dsimp only [inR, idx, lowOf]); first | omega | (with_reducible decide) | (simp; omega) | fail) | fail) ?_; conv => whnf) | fail)
      exact ⟨(), [], trivial, rfl, trivial, trivial⟩
end Go.Sx

