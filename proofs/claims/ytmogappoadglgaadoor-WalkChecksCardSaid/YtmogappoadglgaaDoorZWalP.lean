/-
  Layer 13 at the door: begins.
-/
import Derived.Test.YtmogappoadglgaaDoorZWalO
set_option linter.unusedVariables false
set_option linter.unusedSimpArgs false
namespace Go.Sx
open Go Go.Proofs Go.Proofs.YtmogappoadglgaaDoor
def n0O (o : OrdT) : Int := (o.2.2.2.2.1.getD 0 (0, 0, false)).1
theorem hasN_iff {o : OrdT} {n0 : Int} : HasN o n0 ↔ ∃ t : Nat, (baseO o)[2 * t]? = some n0 := by
  unfold HasN evN
  rw [List.mem_map]
  constructor
  · rintro ⟨t, ht, h⟩
    rw [List.mem_range] at ht
    exact ⟨t, by rw [at_of (by omega), h]⟩
  · rintro ⟨t, h⟩
    have := (List.getElem?_eq_some_iff.1 h).1
    exact ⟨t, by rw [List.mem_range]; omega, getD_of h⟩
theorem n0O_of {o : OrdT} {n0 s0 : Int} {r0 : Bool} (h : o.2.2.2.2.1[0]? = some (n0, s0, r0)) : n0O o = n0 := by
  unfold n0O; rw [List.getD_eq_getElem?_getD, h]; rfl
def spBegins13 : Spec AF where
  γ := List OrdT × Nat × OrdT
  δ := Bool
  args := fun g => [.lst 34 (g.1.map toE), vI (g.2.1 : Nat)]
  own := fun _ => []
  pre := fun g => (∀ o ∈ g.1, RightO o) ∧ 1 ≤ g.2.1 ∧ g.1.length ≤ 1000 ∧ g.1[g.2.1]? = some g.2.2
  nnew := 0
  res := fun _ c => vB c
  own' := fun _ _ => []
  post := fun g c => (c = true ↔ FromP (g.1.take g.2.1) (n0O g.2.2))
set_option maxHeartbeats 3200000 in
set_option maxRecDepth 100000 in
theorem m_begins13 : Meets Tryd.prog regF 30 spBegins13 := by
  refine meets Tryd.func30 52 noWr rfl (by kernel_rfl) (by kernel_rfl) ?_
  rintro ⟨(ol : List OrdT), (i : Nat), (o : OrdT)⟩ ⟨(hall : ∀ o ∈ ol, RightO o), (hi1 : 1 ≤ i), (hl2 : ol.length ≤ 1000), (ho : ol[i]? = some o)⟩
  have hil := (List.getElem?_eq_some_iff.1 ho).1
  have hr := hall o (List.mem_of_getElem? ho)
  have hL1 : 1 ≤ o.2.2.2.2.1.length := hr.1.2.2.1
  have hobt : ∃ y, o.2.2.2.2.1[0]? = some y := ⟨_, List.getElem?_eq_getElem (by omega)⟩
  obtain ⟨⟨(n0 : Int), (s0 : Int), (r0 : Bool)⟩, hf0⟩ := hobt
  have hn0 := n0O_of hf0
  have hml : (ol.map toE).length = ol.length := List.length_map ..
  have htl : (ol.take i).length = i := by rw [List.length_take]; omega
  have hobt : ∃ y, ol[i - 1]? = some y := ⟨_, List.getElem?_eq_getElem (by omega)⟩
  obtain ⟨l, hl⟩ := hobt
  have hlm0 : 0 ≤ ((i : Nat) : Int) - 1 := by omega
  have hlm : (ol.map toE)[(((i : Nat) : Int) - 1).toNat]? = some (toE l) := by
    rw [show (((i : Nat) : Int) - 1).toNat = i - 1 by omega, List.getElem?_map, hl]; rfl
  have hom : (ol.map toE)[(((i : Nat) : Int)).toNat]? = some (toE o) := by rw [Int.toNat_natCast, List.getElem?_map, ho]; rfl
  have hom0 : 0 ≤ ((i : Nat) : Int) := by omega
  have hl' : (ol.take i)[(ol.take i).length - 1]? = some l := by rw [htl, List.getElem?_take_of_lt (by omega)]; exact hl
  have fin : ∀ c : Bool, (c = true ↔ FromP (ol.take i) n0) → spBegins13.post (ol, i, o) c := fun c hc => by
    show c = true ↔ FromP (ol.take i) (n0O o)
    rw [hn0]; exact hc
  conv => whnf
  repeat' (first | (refine tell (fun hQ => ?_) (fun hQ => ?_) <;> (try dsimp only at hQ) <;> first | (exfalso; omega) | (exact absurd rfl hQ) | (exact absurd (by decide) hQ) | (conv => whnf)) | (refine allG rfl ?_; conv => whnf) | (refine And.intro (by first | omega | assumption | kernel_rfl | exact And.intro rfl rfl | ((try dsimp only [inR, idx, lowOf]); first | omega | (with_reducible decide) | (simp; omega) | (simp; done) | fail) | fail) ?_; conv => whnf) | fail)
  refine ⟨Nat, fun m => ⟨[(0, .lst 34 (ol.map toE)), (1, vI i), (5, vI ((i : Int) - 1 - m))], []⟩, fun m => m ≤ i ∧ ∀ (j : Nat) (x : OrdT), i - m ≤ j → (ol.take i)[j]? = some x → ¬ HasN x n0 ∧ x.2.2.1 = l.2.2.1, fun m => i - m, fun _ _ => rfl, ⟨0, [], ⟨Nat.zero_le _, fun j x hj hx => absurd (List.getElem?_eq_some_iff.1 hx).1 (by omega)⟩, ?_⟩, ?_⟩
  · refine ⟨rfl, ?_, ?_, rfl⟩
    all_goals (repeat' (first | exact trivial | exact rfl | refine And.intro ?_ ?_ | (refine congrArg vI ?_; first | omega | (dsimp only; omega) | fail) | (refine congrArg some ?_) | omega | exact Nat.le_refl _ | exact congrArg (SV.lst _) (List.take_of_length_le (Nat.le_refl _)).symm))
  rintro (m : Nat) ⟨(hm : m ≤ i), (hno : ∀ (j : Nat) (x : OrdT), i - m ≤ j → (ol.take i)[j]? = some x → ¬ HasN x n0 ∧ x.2.2.1 = l.2.2.1)⟩
  by_cases hlt : m < i
  · have hobt : ∃ y, ol[i - 1 - m]? = some y := ⟨_, List.getElem?_eq_getElem (by omega)⟩
    obtain ⟨e, he⟩ := hobt
    have he' : (ol.take i)[(ol.take i).length - 1 - m]? = some e := by rw [htl, List.getElem?_take_of_lt (by omega)]; exact he
    have hem0 : 0 ≤ (i : Int) - 1 - m := by omega
    have hem : (ol.map toE)[((i : Int) - 1 - m).toNat]? = some (toE e) := by rw [show ((i : Int) - 1 - m).toNat = i - 1 - m by omega, List.getElem?_map, he]; rfl
    have hre := hall e (List.mem_of_getElem? he)
    have hbl := base_len41 hre
    by_cases hoe : e.2.2.1 = l.2.2.1
    · have hoe2 : (toE e).2.2.1 = (toE l).2.2.1 := hoe
      conv => whnf
      repeat' (first | (refine tell (fun hQ => ?_) (fun hQ => ?_) <;> (try dsimp only at hQ) <;> first | (exfalso; omega) | (exact absurd rfl hQ) | (exact absurd (by decide) hQ) | (conv => whnf)) | (refine allLst (x := _) hem0 hem ?_; conv => whnf) | (refine allLst (x := _) hlm0 hlm ?_; conv => whnf) | (refine allG rfl ?_; conv => whnf) | (refine And.intro (by first | omega | assumption | kernel_rfl | exact And.intro rfl rfl | ((try dsimp only [inR, idx, lowOf]); first | omega | (with_reducible decide) | (simp; omega) | (simp; done) | fail) | fail) ?_; conv => whnf) | fail)
      refine ⟨_, m_baseW, e, [], false, ?_⟩
      conv => whnf
      refine And.intro (vc0 hre (by (repeat' (first | exact trivial | exact rfl | refine And.intro ?_ ?_ | (refine congrArg vI ?_; first | omega | (dsimp only; omega) | fail) | (refine congrArg some ?_) | omega | exact Nat.le_refl _ | exact congrArg (SV.lst _) (List.take_of_length_le (Nat.le_refl _)).symm))) (by repeat' (first | exact trivial | exact rfl | refine And.intro ?_ ?_ | (refine congrArg vI ?_; first | omega | (dsimp only; omega) | fail) | (refine congrArg some ?_) | omega | exact Nat.le_refl _ | exact congrArg (SV.lst _) (List.take_of_length_le (Nat.le_refl _)).symm)) trivial trivial) ?_
      refine And.intro ⟨(), trivial⟩ (fun (_ : Unit) _ => ?_)
      conv => whnf
      conv => whnf
      repeat' (first | (refine tell (fun hQ => ?_) (fun hQ => ?_) <;> (try dsimp only at hQ) <;> first | (exfalso; omega) | (exact absurd rfl hQ) | (exact absurd (by decide) hQ) | (conv => whnf)) | (refine allG rfl ?_; conv => whnf) | (refine And.intro (by first | omega | assumption | kernel_rfl | exact And.intro rfl rfl | ((try dsimp only [inR, idx, lowOf]); first | omega | (with_reducible decide) | (simp; omega) | (simp; done) | fail) | fail) ?_; conv => whnf) | fail)
      refine ⟨Nat, fun t => ⟨[(0, .lst 34 (ol.map toE)), (1, vI i), (5, vI ((i : Int) - 1 - m)), (6, .lst 3 (baseO e)), (7, vI (2 * (t : Int)))], []⟩, fun t => 2 * t ≤ (baseO e).length + 1 ∧ ∀ u, u < t → ¬ (baseO e)[2 * u]? = some n0, fun t => (baseO e).length + 1 - t, fun _ _ => rfl, ⟨0, [], ⟨Nat.zero_le _, fun u hu => absurd hu (Nat.not_lt_zero _)⟩, ?_⟩, ?_⟩
      · refine ⟨rfl, ?_, ?_, rfl⟩
        all_goals (repeat' (first | exact trivial | exact rfl | refine And.intro ?_ ?_ | (refine congrArg vI ?_; first | omega | (dsimp only; omega) | fail) | (refine congrArg some ?_) | omega | exact Nat.le_refl _ | exact congrArg (SV.lst _) (List.take_of_length_le (Nat.le_refl _)).symm))
      rintro (t : Nat) ⟨(ht : 2 * t ≤ (baseO e).length + 1), (hnt : ∀ u, u < t → ¬ (baseO e)[2 * u]? = some n0)⟩
      by_cases htl2 : 2 * t < (baseO e).length
      · have hobt : ∃ y, (baseO e)[2 * t]? = some y := ⟨_, List.getElem?_eq_getElem htl2⟩
        obtain ⟨(b : Int), hb⟩ := hobt
        have hb0 : 0 ≤ 2 * (t : Int) := by omega
        have hb' : (baseO e)[(2 * (t : Int)).toNat]? = some b := by rw [show (2 * (t : Int)).toNat = 2 * t by omega]; exact hb
        by_cases hbn : b = n0
        · subst hbn
          have hF : FromP (ol.take i) b := ⟨_, e, he', fun j x y hj hx hy => (by
            rw [hl'] at hy; cases hy
            by_cases hji : j = (ol.take i).length - 1 - m
            · subst hji; rw [he'] at hx; cases hx; exact hoe
            · exact (hno j x (by omega) hx).2), hasN_iff.2 ⟨t, hb⟩⟩
          conv => whnf
          repeat' (first | (refine tell (fun hQ => ?_) (fun hQ => ?_) <;> (try dsimp only at hQ) <;> first | (exfalso; omega) | (exact absurd rfl hQ) | (exact absurd (by decide) hQ) | (conv => whnf)) | (refine allLst (x := b) hb0 hb' ?_; conv => whnf) | (refine allLst (x := _) hom0 hom ?_; conv => whnf) | (refine allG (x := (b,s0,r0)) (by first | exact hf0 | simpa [List.getElem?_append_right, lowOf] using hf0 | fail) ?_; conv => whnf) | (refine allLst (x := (b,s0,r0)) (by first | omega | assumption | fail) (by first | exact hf0 | simpa using hf0 | fail) ?_; conv => whnf) | (refine allG rfl ?_; conv => whnf) | (refine And.intro (by first | omega | assumption | kernel_rfl | exact And.intro rfl rfl | ((try dsimp only [inR, idx, lowOf]); first | omega | (with_reducible decide) | (simp; omega) | (simp; done) | fail) | fail) ?_; conv => whnf) | fail)
          exact ⟨true, [], fin _ ⟨fun _ => hF, fun _ => rfl⟩, rfl, trivial, trivial⟩
        · have hnt2 : ∀ u, u < t + 1 → ¬ (baseO e)[2 * u]? = some n0 := fun u hu => by
            by_cases e1 : u = t
            · subst e1; rw [hb]; exact fun h => hbn (Option.some.inj h)
            · exact hnt u (by omega)
          conv => whnf
          repeat' (first | (refine tell (fun hQ => ?_) (fun hQ => ?_) <;> (try dsimp only at hQ) <;> first | (exfalso; omega) | (exact absurd rfl hQ) | (exact absurd (by decide) hQ) | (conv => whnf)) | (refine allLst (x := b) hb0 hb' ?_; conv => whnf) | (refine allLst (x := _) hom0 hom ?_; conv => whnf) | (refine allG (x := (n0,s0,r0)) (by first | exact hf0 | simpa [List.getElem?_append_right, lowOf] using hf0 | fail) ?_; conv => whnf) | (refine allLst (x := (n0,s0,r0)) (by first | omega | assumption | fail) (by first | exact hf0 | simpa using hf0 | fail) ?_; conv => whnf) | (refine allG rfl ?_; conv => whnf) | (refine And.intro (by first | omega | assumption | kernel_rfl | exact And.intro rfl rfl | ((try dsimp only [inR, idx, lowOf]); first | omega | (with_reducible decide) | (simp; omega) | (simp; done) | fail) | fail) ?_; conv => whnf) | fail)
          refine ⟨t + 1, [], ⟨by omega, hnt2⟩, ?_, rfl, ?_, ?_, rfl⟩
          · dsimp only; first | omega | (simp; done) | (simp; omega)
          all_goals (repeat' (first | exact trivial | exact rfl | refine And.intro ?_ ?_ | (refine congrArg vI ?_; first | omega | (dsimp only; omega) | fail) | (refine congrArg some ?_) | omega | exact Nat.le_refl _ | exact congrArg (SV.lst _) (List.take_of_length_le (Nat.le_refl _)).symm))
      · have hnh : ¬ HasN e n0 := fun h => by
          have hobt := hasN_iff.1 h
          obtain ⟨u, hu⟩ := hobt
          have := (List.getElem?_eq_some_iff.1 hu).1
          exact hnt u (by omega) hu
        have hno2 : ∀ (j : Nat) (x : OrdT), i - (m + 1) ≤ j → (ol.take i)[j]? = some x → ¬ HasN x n0 ∧ x.2.2.1 = l.2.2.1 := fun j x hj hx => by
          by_cases hji : j = i - 1 - m
          · subst hji; rw [htl] at he'; rw [he'] at hx; cases hx; exact ⟨hnh, hoe⟩
          · exact hno j x (by omega) hx
        conv => whnf
        repeat' (first | (refine tell (fun hQ => ?_) (fun hQ => ?_) <;> (try dsimp only at hQ) <;> first | (exfalso; omega) | (exact absurd rfl hQ) | (exact absurd (by decide) hQ) | (conv => whnf)) | (refine allG rfl ?_; conv => whnf) | (refine And.intro (by first | omega | assumption | kernel_rfl | exact And.intro rfl rfl | ((try dsimp only [inR, idx, lowOf]); first | omega | (with_reducible decide) | (simp; omega) | (simp; done) | fail) | fail) ?_; conv => whnf) | fail)
        refine ⟨m + 1, [], ⟨hlt, hno2⟩, ?_, rfl, ?_, ?_, rfl⟩
        · dsimp only; first | omega | (simp; done) | (simp; omega)
        all_goals (repeat' (first | exact trivial | exact rfl | refine And.intro ?_ ?_ | (refine congrArg vI ?_; first | omega | (dsimp only; omega) | fail) | (refine congrArg some ?_) | omega | exact Nat.le_refl _ | exact congrArg (SV.lst _) (List.take_of_length_le (Nat.le_refl _)).symm))
    · have hnoF := from_no (i := m) (fun j x hj hx => (hno j x (by omega) hx).1) (by omega) he' hl' hoe
      have hoe2 : ¬ (toE e).2.2.1 = (toE l).2.2.1 := hoe
      conv => whnf
      repeat' (first | (refine tell (fun hQ => ?_) (fun hQ => ?_) <;> (try dsimp only at hQ) <;> first | (exfalso; omega) | (exact absurd rfl hQ) | (exact absurd (by decide) hQ) | (conv => whnf)) | (refine allLst (x := _) hem0 hem ?_; conv => whnf) | (refine allLst (x := _) hlm0 hlm ?_; conv => whnf) | (refine allG rfl ?_; conv => whnf) | (refine And.intro (by first | omega | assumption | kernel_rfl | exact And.intro rfl rfl | ((try dsimp only [inR, idx, lowOf]); first | omega | (with_reducible decide) | (simp; omega) | (simp; done) | fail) | fail) ?_; conv => whnf) | fail)
      exact ⟨false, [], fin _ ⟨fun h => (by cases h), fun h => absurd h hnoF⟩, rfl, trivial, trivial⟩
  · have hnoF : ¬ FromP (ol.take i) n0 := from_none fun j x hx => (hno j x (by omega) hx).1
    conv => whnf
    repeat' (first | (refine tell (fun hQ => ?_) (fun hQ => ?_) <;> (try dsimp only at hQ) <;> first | (exfalso; omega) | (exact absurd rfl hQ) | (exact absurd (by decide) hQ) | (conv => whnf)) | (refine allG rfl ?_; conv => whnf) | (refine And.intro (by first | omega | assumption | kernel_rfl | exact And.intro rfl rfl | ((try dsimp only [inR, idx, lowOf]); first | omega | (with_reducible decide) | (simp; omega) | (simp; done) | fail) | fail) ?_; conv => whnf) | fail)
    exact ⟨false, [], fin _ ⟨fun h => (by cases h), fun h => absurd h hnoF⟩, rfl, trivial, trivial⟩
end Go.Sx

