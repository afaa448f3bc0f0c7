/-
  Layer 13 at the door: Follows.
-/
import Derived.Test.YtmogappoadglgaaDoorZWalM
set_option linter.unusedVariables false
set_option linter.unusedSimpArgs false
namespace Go.Sx
open Go Go.Proofs Go.Proofs.YtmogappoadglgaaDoor
def FollowsP (a b : OrdT) : Prop := a.2.1 = b.2.1 ∧ a.1 < b.1 ∧ (a.2.2.1 = b.2.2.1 → a.2.2.2.1 < b.2.2.2.1 ∧ ∀ f g, b.2.2.2.2.1[0]? = some f → a.2.2.2.2.1[relN a.2.2.2.2.1 - 1]? = some g → f.1 = g.1 ∧ f.2.1 = g.2.1) ∧ (a.2.2.1 ≠ b.2.2.1 → b.2.2.2.1 = 0)
theorem relN_pos {ns : List Stp} {f : Stp} (h : ns[0]? = some f) (hf : f.2.2 = true) : 1 ≤ relN ns := by
  obtain ⟨y, ys, rfl⟩ : ∃ y ys, ns = y :: ys := by
    cases ns with
    | nil => simp at h
    | cons y ys => exact ⟨y, ys, rfl⟩
  cases h
  simp [relN, hf]
def spFollows : Spec AF where
  γ := OrdT × OrdT
  δ := Bool
  args := fun g => [ordS g.1, ordS g.2]
  own := fun _ => []
  pre := fun g => RightO g.1 ∧ RightO g.2
  nnew := 0
  res := fun _ c => vB c
  own' := fun _ _ => []
  post := fun g c => (c = true ↔ FollowsP g.1 g.2)
set_option maxHeartbeats 3200000 in
set_option maxRecDepth 100000 in
theorem m_follows : Meets Tryd.prog regF 28 spFollows := by
  refine meets Tryd.func28 72 noWr rfl (by kernel_rfl) (by kernel_rfl) ?_
  rintro ⟨⟨(h : Int), (v : List UInt8), (od : Int), (up : Int), (ns : List Stp), (es : List Stp)⟩, ⟨(h' : Int), (v' : List UInt8), (od' : Int), (up' : Int), (ns' : List Stp), (es' : List Stp)⟩⟩ ⟨(hr : RightO (h, v, od, up, ns, es)), (hr' : RightO (h', v', od', up', ns', es'))⟩
  have hL1 : 1 ≤ ns.length := hr.1.2.2.1
  have hL2 : ns.length ≤ 64 := hr.1.2.2.2.1
  have hL3 : es.length + 1 = ns.length := hr.1.2.2.2.2
  have hM1 : 1 ≤ ns'.length := hr'.1.2.2.1
  have hM2 : ns'.length ≤ 64 := hr'.1.2.2.2.1
  have hM3 : es'.length + 1 = ns'.length := hr'.1.2.2.2.2
  have hobt : ∃ y, ns'[0]? = some y := ⟨_, List.getElem?_eq_getElem (by omega)⟩
  obtain ⟨⟨(n0 : Int), (s0 : Int), (r0 : Bool)⟩, hf0⟩ := hobt
  have hrl : 1 ≤ relN ns := by
    have hobt := hr.2.1
    obtain ⟨f, e1, e2⟩ := hobt
    exact relN_pos e1 e2.2.1
  have hrle := relN_le ns
  have hobt : ∃ y, ns[relN ns - 1]? = some y := ⟨_, List.getElem?_eq_getElem (by omega)⟩
  obtain ⟨⟨(n1 : Int), (s1 : Int), (r1 : Bool)⟩, hg0⟩ := hobt
  conv => whnf
  repeat' (first | (refine tell (fun hQ => ?_) (fun hQ => ?_) <;> (try dsimp only at hQ) <;> first | (exfalso; omega) | (exact absurd rfl hQ) | (exact absurd hQ hne) | (exact absurd hne hQ) | (exact absurd (by decide) hQ) | (conv => whnf)) | (refine allG rfl ?_; conv => whnf) | (refine And.intro (by first | omega | assumption | kernel_rfl | exact And.intro rfl rfl | ((try dsimp only [inR, idx, lowOf]); first | omega | (with_reducible decide) | (simp; omega) | (simp; done) | fail) | fail) ?_; conv => whnf) | fail)
  refine ⟨_, m_rightO, (h, v, od, up, ns, es), [], false, ?_⟩
  conv => whnf
  refine And.intro (vc0 ⟨by show ns.length ≤ 9223372036854775807; omega, by show es.length ≤ 9223372036854775807; omega⟩ (by (repeat' (first | exact trivial | exact rfl | refine And.intro ?_ ?_ | (refine congrArg vI ?_; first | omega | (dsimp only; omega) | fail) | (refine congrArg some ?_) | omega | exact Nat.le_refl _ | exact congrArg (SV.lst _) (List.take_of_length_le (Nat.le_refl _)).symm))) (by repeat' (first | exact trivial | exact rfl | refine And.intro ?_ ?_ | (refine congrArg vI ?_; first | omega | (dsimp only; omega) | fail) | (refine congrArg some ?_) | omega | exact Nat.le_refl _ | exact congrArg (SV.lst _) (List.take_of_length_le (Nat.le_refl _)).symm)) trivial trivial) ?_
  refine And.intro (rightO_ex _) ?_
  intro (c : Bool) (hc : c = true ↔ RightO (h, v, od, up, ns, es))
  have hobt := hc.2 hr
  obtain rfl := hobt
  conv => whnf
  repeat' (first | (refine tell (fun hQ => ?_) (fun hQ => ?_) <;> (try dsimp only at hQ) <;> first | (exfalso; omega) | (exact absurd rfl hQ) | (exact absurd hQ hne) | (exact absurd hne hQ) | (exact absurd (by decide) hQ) | (conv => whnf)) | (refine allG rfl ?_; conv => whnf) | (refine And.intro (by first | omega | assumption | kernel_rfl | exact And.intro rfl rfl | ((try dsimp only [inR, idx, lowOf]); first | omega | (with_reducible decide) | (simp; omega) | (simp; done) | fail) | fail) ?_; conv => whnf) | fail)
  refine ⟨_, m_rightO, (h', v', od', up', ns', es'), [], false, ?_⟩
  conv => whnf
  refine And.intro (vc0 ⟨by show ns'.length ≤ 9223372036854775807; omega, by show es'.length ≤ 9223372036854775807; omega⟩ (by (repeat' (first | exact trivial | exact rfl | refine And.intro ?_ ?_ | (refine congrArg vI ?_; first | omega | (dsimp only; omega) | fail) | (refine congrArg some ?_) | omega | exact Nat.le_refl _ | exact congrArg (SV.lst _) (List.take_of_length_le (Nat.le_refl _)).symm))) (by repeat' (first | exact trivial | exact rfl | refine And.intro ?_ ?_ | (refine congrArg vI ?_; first | omega | (dsimp only; omega) | fail) | (refine congrArg some ?_) | omega | exact Nat.le_refl _ | exact congrArg (SV.lst _) (List.take_of_length_le (Nat.le_refl _)).symm)) trivial trivial) ?_
  refine And.intro (rightO_ex _) ?_
  intro (c1 : Bool) (hc1 : c1 = true ↔ RightO (h', v', od', up', ns', es'))
  have hobt := hc1.2 hr'
  obtain rfl := hobt
  have fin : ∀ c : Bool, (c = true ↔ FollowsP (h, v, od, up, ns, es) (h', v', od', up', ns', es')) → spFollows.post ((h, v, od, up, ns, es), (h', v', od', up', ns', es')) c := fun _ h => h
  by_cases hv : v = v'
  · subst hv
    by_cases hh : h < h'
    · conv => whnf
      repeat' (first | (refine tell (fun hQ => ?_) (fun hQ => ?_) <;> (try dsimp only at hQ) <;> first | (exfalso; omega) | (exact absurd rfl hQ) | (exact absurd hQ hne) | (exact absurd hne hQ) | (exact absurd (by decide) hQ) | (conv => whnf)) | (refine allG rfl ?_; conv => whnf) | (refine And.intro (by first | omega | assumption | kernel_rfl | exact And.intro rfl rfl | ((try dsimp only [inR, idx, lowOf]); first | omega | (with_reducible decide) | (simp; omega) | (simp; done) | fail) | fail) ?_; conv => whnf) | fail)
      refine ⟨_, m_baseC, (h, v, od, up, ns, es), [], false, ?_⟩
      conv => whnf
      refine And.intro (vc0 (by show ns.length ≤ 1000000; omega) (by (repeat' (first | exact trivial | exact rfl | refine And.intro ?_ ?_ | (refine congrArg vI ?_; first | omega | (dsimp only; omega) | fail) | (refine congrArg some ?_) | omega | exact Nat.le_refl _ | exact congrArg (SV.lst _) (List.take_of_length_le (Nat.le_refl _)).symm))) (by repeat' (first | exact trivial | exact rfl | refine And.intro ?_ ?_ | (refine congrArg vI ?_; first | omega | (dsimp only; omega) | fail) | (refine congrArg some ?_) | omega | exact Nat.le_refl _ | exact congrArg (SV.lst _) (List.take_of_length_le (Nat.le_refl _)).symm)) trivial trivial) ?_
      refine And.intro ⟨(), trivial⟩ (fun (_ : Unit) _ => ?_)
      conv => whnf
      have hidx : ((0 : Int)).toNat + 0 = 0 := rfl
      by_cases hod : od = od'
      · subst hod
        have hlen : (((ns.take (relN ns)).drop 0).length : Int) = (relN ns : Int) := by rw [List.drop_zero, List.length_take]; omega
        have hlast0 : 0 ≤ (((ns.take (relN ns)).drop 0).length : Int) - 1 := by omega
        have hlast : ((ns.take (relN ns)).drop 0)[((((ns.take (relN ns)).drop 0).length : Int) - 1).toNat]? = some (n1, s1, r1) := by
          rw [hlen, List.drop_zero, List.getElem?_take_of_lt (by omega), show ((relN ns : Int) - 1).toNat = relN ns - 1 by omega]; exact hg0
        by_cases hu : up < up'
        · by_cases e0 : n0 = n1
          · by_cases e1 : s0 = s1
            · have hyes : FollowsP (h, v, od, up, ns, es) (h', v, od, up', ns', es') := ⟨rfl, hh, fun _ => ⟨hu, fun f g hf hg => (by
                have hf : ns'[0]? = some f := hf
                have hg : ns[relN ns - 1]? = some g := hg
                rw [hf0] at hf; rw [hg0] at hg; cases hf; cases hg; exact ⟨e0, e1⟩)⟩, fun e => absurd rfl e⟩
              conv => whnf
              repeat' (first | (refine tell (fun hQ => ?_) (fun hQ => ?_) <;> (try dsimp only at hQ) <;> first | (exfalso; omega) | (exact absurd rfl hQ) | (exact absurd hQ hne) | (exact absurd hne hQ) | (exact absurd (by decide) hQ) | (conv => whnf)) | (refine allG (x := (n0,s0,r0)) (by first | exact hf0 | simpa [List.getElem?_append_right, lowOf] using hf0 | fail) ?_; conv => whnf) | (refine allLst (x := (n0,s0,r0)) (by first | omega | assumption | fail) (by first | exact hf0 | simpa using hf0 | fail) ?_; conv => whnf) | (refine allLst (x := (n1,s1,r1)) hlast0 hlast ?_; conv => whnf) | (refine allG rfl ?_; conv => whnf) | (refine And.intro (by first | omega | assumption | kernel_rfl | exact And.intro rfl rfl | ((try dsimp only [inR, idx, lowOf]); first | omega | (with_reducible decide) | (simp; omega) | (simp; done) | fail) | fail) ?_; conv => whnf) | fail)
              exact ⟨true, [], fin _ ⟨fun _ => hyes, fun _ => rfl⟩, rfl, trivial, trivial⟩
            · conv => whnf
              repeat' (first | (refine tell (fun hQ => ?_) (fun hQ => ?_) <;> (try dsimp only at hQ) <;> first | (exfalso; omega) | (exact absurd rfl hQ) | (exact absurd hQ hne) | (exact absurd hne hQ) | (exact absurd (by decide) hQ) | (conv => whnf)) | (refine allG (x := (n0,s0,r0)) (by first | exact hf0 | simpa [List.getElem?_append_right, lowOf] using hf0 | fail) ?_; conv => whnf) | (refine allLst (x := (n0,s0,r0)) (by first | omega | assumption | fail) (by first | exact hf0 | simpa using hf0 | fail) ?_; conv => whnf) | (refine allLst (x := (n1,s1,r1)) hlast0 hlast ?_; conv => whnf) | (refine allG rfl ?_; conv => whnf) | (refine And.intro (by first | omega | assumption | kernel_rfl | exact And.intro rfl rfl | ((try dsimp only [inR, idx, lowOf]); first | omega | (with_reducible decide) | (simp; omega) | (simp; done) | fail) | fail) ?_; conv => whnf) | fail)
              exact ⟨false, [], fin _ ⟨fun h => (by cases h), fun hp => absurd ((hp.2.2.1 rfl).2 _ _ hf0 hg0).2 e1⟩, rfl, trivial, trivial⟩
          · conv => whnf
            repeat' (first | (refine tell (fun hQ => ?_) (fun hQ => ?_) <;> (try dsimp only at hQ) <;> first | (exfalso; omega) | (exact absurd rfl hQ) | (exact absurd hQ hne) | (exact absurd hne hQ) | (exact absurd (by decide) hQ) | (conv => whnf)) | (refine allG (x := (n0,s0,r0)) (by first | exact hf0 | simpa [List.getElem?_append_right, lowOf] using hf0 | fail) ?_; conv => whnf) | (refine allLst (x := (n0,s0,r0)) (by first | omega | assumption | fail) (by first | exact hf0 | simpa using hf0 | fail) ?_; conv => whnf) | (refine allLst (x := (n1,s1,r1)) hlast0 hlast ?_; conv => whnf) | (refine allG rfl ?_; conv => whnf) | (refine And.intro (by first | omega | assumption | kernel_rfl | exact And.intro rfl rfl | ((try dsimp only [inR, idx, lowOf]); first | omega | (with_reducible decide) | (simp; omega) | (simp; done) | fail) | fail) ?_; conv => whnf) | fail)
            exact ⟨false, [], fin _ ⟨fun h => (by cases h), fun hp => absurd ((hp.2.2.1 rfl).2 _ _ hf0 hg0).1 e0⟩, rfl, trivial, trivial⟩
        · conv => whnf
          repeat' (first | (refine tell (fun hQ => ?_) (fun hQ => ?_) <;> (try dsimp only at hQ) <;> first | (exfalso; omega) | (exact absurd rfl hQ) | (exact absurd hQ hne) | (exact absurd hne hQ) | (exact absurd (by decide) hQ) | (conv => whnf)) | (refine allG (x := (n0,s0,r0)) (by first | exact hf0 | simpa [List.getElem?_append_right, lowOf] using hf0 | fail) ?_; conv => whnf) | (refine allLst (x := (n0,s0,r0)) (by first | omega | assumption | fail) (by first | exact hf0 | simpa using hf0 | fail) ?_; conv => whnf) | (refine allLst (x := (n1,s1,r1)) hlast0 hlast ?_; conv => whnf) | (refine allG rfl ?_; conv => whnf) | (refine And.intro (by first | omega | assumption | kernel_rfl | exact And.intro rfl rfl | ((try dsimp only [inR, idx, lowOf]); first | omega | (with_reducible decide) | (simp; omega) | (simp; done) | fail) | fail) ?_; conv => whnf) | fail)
          exact ⟨false, [], fin _ ⟨fun h => (by cases h), fun hp => absurd (hp.2.2.1 rfl).1 hu⟩, rfl, trivial, trivial⟩
      · by_cases hu : up' = 0
        · conv => whnf
          repeat' (first | (refine tell (fun hQ => ?_) (fun hQ => ?_) <;> (try dsimp only at hQ) <;> first | (exfalso; omega) | (exact absurd rfl hQ) | (exact absurd hQ hne) | (exact absurd hne hQ) | (exact absurd (by decide) hQ) | (conv => whnf)) | (refine allG (x := (n0,s0,r0)) (by first | exact hf0 | simpa [List.getElem?_append_right, lowOf] using hf0 | fail) ?_; conv => whnf) | (refine allLst (x := (n0,s0,r0)) (by first | omega | assumption | fail) (by first | exact hf0 | simpa using hf0 | fail) ?_; conv => whnf) | (refine allG rfl ?_; conv => whnf) | (refine And.intro (by first | omega | assumption | kernel_rfl | exact And.intro rfl rfl | ((try dsimp only [inR, idx, lowOf]); first | omega | (with_reducible decide) | (simp; omega) | (simp; done) | fail) | fail) ?_; conv => whnf) | fail)
          exact ⟨true, [], fin _ ⟨fun _ => ⟨rfl, hh, fun e => absurd e hod, fun _ => hu⟩, fun _ => rfl⟩, rfl, trivial, trivial⟩
        · conv => whnf
          repeat' (first | (refine tell (fun hQ => ?_) (fun hQ => ?_) <;> (try dsimp only at hQ) <;> first | (exfalso; omega) | (exact absurd rfl hQ) | (exact absurd hQ hne) | (exact absurd hne hQ) | (exact absurd (by decide) hQ) | (conv => whnf)) | (refine allG (x := (n0,s0,r0)) (by first | exact hf0 | simpa [List.getElem?_append_right, lowOf] using hf0 | fail) ?_; conv => whnf) | (refine allLst (x := (n0,s0,r0)) (by first | omega | assumption | fail) (by first | exact hf0 | simpa using hf0 | fail) ?_; conv => whnf) | (refine allG rfl ?_; conv => whnf) | (refine And.intro (by first | omega | assumption | kernel_rfl | exact And.intro rfl rfl | ((try dsimp only [inR, idx, lowOf]); first | omega | (with_reducible decide) | (simp; omega) | (simp; done) | fail) | fail) ?_; conv => whnf) | fail)
          exact ⟨false, [], fin _ ⟨fun h => (by cases h), fun hp => absurd (hp.2.2.2 hod) hu⟩, rfl, trivial, trivial⟩
    · conv => whnf
      repeat' (first | (refine tell (fun hQ => ?_) (fun hQ => ?_) <;> (try dsimp only at hQ) <;> first | (exfalso; omega) | (exact absurd rfl hQ) | (exact absurd hQ hne) | (exact absurd hne hQ) | (exact absurd (by decide) hQ) | (conv => whnf)) | (refine allG rfl ?_; conv => whnf) | (refine And.intro (by first | omega | assumption | kernel_rfl | exact And.intro rfl rfl | ((try dsimp only [inR, idx, lowOf]); first | omega | (with_reducible decide) | (simp; omega) | (simp; done) | fail) | fail) ?_; conv => whnf) | fail)
      exact ⟨false, [], fin _ ⟨fun h => (by cases h), fun hp => absurd hp.2.1 hh⟩, rfl, trivial, trivial⟩
  · have hne : ¬ (ByteArray.toList ⟨v.toArray⟩ = ByteArray.toList ⟨v'.toArray⟩) := fun e => hv (bS_inj.1 e)
    conv => whnf
    repeat' (first | (refine tell (fun hQ => ?_) (fun hQ => ?_) <;> (try dsimp only at hQ) <;> first | (exfalso; omega) | (exact absurd rfl hQ) | (exact absurd hQ hne) | (exact absurd hne hQ) | (exact absurd (by decide) hQ) | (conv => whnf)) | (refine allG rfl ?_; conv => whnf) | (refine And.intro (by first | omega | assumption | kernel_rfl | exact And.intro rfl rfl | ((try dsimp only [inR, idx, lowOf]); first | omega | (with_reducible decide) | (simp; omega) | (simp; done) | fail) | fail) ?_; conv => whnf) | fail)
    exact ⟨false, [], fin _ ⟨fun h => (by cases h), fun hp => absurd hp.1 hv⟩, rfl, trivial, trivial⟩
end Go.Sx

