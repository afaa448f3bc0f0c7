/-
  Layer 11, part C: small things: which of n things; two lists the same; is a number in a list.
-/
import Derived.Test.YtmogappoadglgaaLayB
namespace Go.Sx
open Go Go.Proofs Go.Proofs.Ytmogappoadglgaa
theorem m_pick11 : Meets Try.prog regF 38 spPick := by
  refine meets Try.func38 13 noWr rfl (by kernel_rfl) (by kernel_rfl) ?_
  rintro ⟨(c : Int), (n : Int)⟩ ⟨⟨hc1, hc2⟩, (hn : 0 < n)⟩
  conv => whnf
  repeat' (first | (refine tell (fun htest => ?_) (fun htest => ?_) <;> (try dsimp only at htest) <;> first | (exfalso; omega) | (exact absurd rfl htest) | (exact absurd (by decide) htest) | (conv => whnf)) | (refine allG rfl ?_; conv => whnf) | (refine And.intro (by first | omega | assumption | kernel_rfl | exact And.intro rfl rfl | ((try dsimp only [inR, idx, lowOf]); first | omega | (with_reducible decide) | (simp; omega) | fail) | fail) ?_; conv => whnf) | fail)
  all_goals exact ⟨(), [], trivial, eI (by unfold pickF; first | rw [if_pos (by assumption)] | rw [if_neg (by assumption)]), trivial, trivial⟩
def spInts : Spec AF where
  γ := List Int × List Int
  δ := Bool
  args := fun g => [.lst 3 g.1, .lst 3 g.2]
  own := fun _ => []
  pre := fun g => g.1.length ≤ 9223372036854775807
  nnew := 0
  res := fun _ c => vB c
  own' := fun _ _ => []
  post := fun g c => (c = true ↔ g.1 = g.2)
theorem take_snocI {α : Type} {l : List α} {i : Nat} {y : α} (h : l[i]? = some y) : l.take (i + 1) = l.take i ++ [y] := by rw [List.take_add_one, h]; rfl
theorem m_ints : Meets Try.prog regF 41 spInts := by
  refine meets Try.func41 26 noWr rfl (by kernel_rfl) (by kernel_rfl) ?_
  rintro ⟨(a : List Int), (b : List Int)⟩ (hl : a.length ≤ 9223372036854775807)
  by_cases hlen : a.length = b.length
  · conv => whnf
    repeat' (first | (refine tell (fun htest => ?_) (fun htest => ?_) <;> (try dsimp only at htest) <;> first | (exfalso; omega) | (exact absurd rfl htest) | (exact absurd (by decide) htest) | (conv => whnf)) | (refine allG rfl ?_; conv => whnf) | (refine And.intro (by first | omega | assumption | kernel_rfl | exact And.intro rfl rfl | ((try dsimp only [inR, idx, lowOf]); first | omega | (with_reducible decide) | (simp; omega) | fail) | fail) ?_; conv => whnf) | fail)
    refine ⟨Nat, fun i => ⟨[(0, .lst 3 a), (1, .lst 3 b), (5, vI i)], []⟩, fun i => i ≤ a.length ∧ a.take i = b.take i, fun i => a.length - i, fun _ _ => rfl, ⟨0, [], ⟨Nat.zero_le _, by simp⟩, ?_⟩, ?_⟩
    · refine ⟨rfl, ?_, ?_, rfl⟩
      all_goals (repeat' (first | exact trivial | exact rfl | refine And.intro ?_ ?_ | (refine congrArg vI ?_; first | omega | (dsimp only; omega) | fail) | (refine congrArg some ?_) | omega | exact Nat.le_refl _ | exact congrArg (SV.lst _) (List.take_of_length_le (Nat.le_refl _)).symm))
    rintro (i : Nat) ⟨(hi : i ≤ a.length), (hs : a.take i = b.take i)⟩
    by_cases hlt : i < a.length
    · obtain ⟨x, hx⟩ : ∃ x, a[i]? = some x := ⟨_, List.getElem?_eq_getElem hlt⟩
      obtain ⟨y, hy⟩ : ∃ y, b[i]? = some y := ⟨_, List.getElem?_eq_getElem (by omega)⟩
      by_cases hxy : x = y
      · conv => whnf
        repeat' (first | (refine tell (fun htest => ?_) (fun htest => ?_) <;> (try dsimp only at htest) <;> first | (exfalso; omega) | (exact absurd rfl htest) | (exact absurd (by decide) htest) | (conv => whnf)) | (refine allG (x := x) (by first | exact hx | simpa [List.getElem?_append_right, lowOf] using hx | fail) ?_; conv => whnf) | (refine allLst (x := x) (by first | omega | assumption | fail) (by first | exact hx | simpa using hx | fail) ?_; conv => whnf) | (refine allG (x := y) (by first | exact hy | simpa [List.getElem?_append_right, lowOf] using hy | fail) ?_; conv => whnf) | (refine allLst (x := y) (by first | omega | assumption | fail) (by first | exact hy | simpa using hy | fail) ?_; conv => whnf) | (refine allG rfl ?_; conv => whnf) | (refine And.intro (by first | omega | assumption | kernel_rfl | exact And.intro rfl rfl | ((try dsimp only [inR, idx, lowOf]); first | omega | (with_reducible decide) | (simp; omega) | fail) | fail) ?_; conv => whnf) | fail)
        refine ⟨i + 1, [], ⟨hlt, by rw [take_snocI hx, take_snocI hy, hs, hxy]⟩, ?_, rfl, ?_, ?_, rfl⟩
        · dsimp only; first | omega | (simp; done) | (simp; omega)
        all_goals (repeat' (first | exact trivial | exact rfl | refine And.intro ?_ ?_ | (refine congrArg vI ?_; first | omega | (dsimp only; omega) | fail) | (refine congrArg some ?_) | omega | exact Nat.le_refl _ | exact congrArg (SV.lst _) (List.take_of_length_le (Nat.le_refl _)).symm))
      · have hne : ¬ a = b := fun h => by subst h; rw [hx] at hy; cases hy; exact hxy rfl
        conv => whnf
        repeat' (first | (refine tell (fun htest => ?_) (fun htest => ?_) <;> (try dsimp only at htest) <;> first | (exfalso; omega) | (exact absurd rfl htest) | (exact absurd (by decide) htest) | (conv => whnf)) | (refine allG (x := x) (by first | exact hx | simpa [List.getElem?_append_right, lowOf] using hx | fail) ?_; conv => whnf) | (refine allLst (x := x) (by first | omega | assumption | fail) (by first | exact hx | simpa using hx | fail) ?_; conv => whnf) | (refine allG (x := y) (by first | exact hy | simpa [List.getElem?_append_right, lowOf] using hy | fail) ?_; conv => whnf) | (refine allLst (x := y) (by first | omega | assumption | fail) (by first | exact hy | simpa using hy | fail) ?_; conv => whnf) | (refine allG rfl ?_; conv => whnf) | (refine And.intro (by first | omega | assumption | kernel_rfl | exact And.intro rfl rfl | ((try dsimp only [inR, idx, lowOf]); first | omega | (with_reducible decide) | (simp; omega) | fail) | fail) ?_; conv => whnf) | fail)
        exact ⟨false, [], by simp [spInts, hne], rfl, trivial, trivial⟩
    · have hab : a = b := by
        rw [List.take_of_length_le (by omega), List.take_of_length_le (by omega)] at hs; exact hs
      conv => whnf
      repeat' (first | (refine tell (fun htest => ?_) (fun htest => ?_) <;> (try dsimp only at htest) <;> first | (exfalso; omega) | (exact absurd rfl htest) | (exact absurd (by decide) htest) | (conv => whnf)) | (refine allG rfl ?_; conv => whnf) | (refine And.intro (by first | omega | assumption | kernel_rfl | exact And.intro rfl rfl | ((try dsimp only [inR, idx, lowOf]); first | omega | (with_reducible decide) | (simp; omega) | fail) | fail) ?_; conv => whnf) | fail)
      exact ⟨true, [], by simp [spInts, hab], rfl, trivial, trivial⟩
  · have hne : ¬ a = b := fun h => hlen (by rw [h])
    conv => whnf
    repeat' (first | (refine tell (fun htest => ?_) (fun htest => ?_) <;> (try dsimp only at htest) <;> first | (exfalso; omega) | (exact absurd rfl htest) | (exact absurd (by decide) htest) | (conv => whnf)) | (refine allG rfl ?_; conv => whnf) | (refine And.intro (by first | omega | assumption | kernel_rfl | exact And.intro rfl rfl | ((try dsimp only [inR, idx, lowOf]); first | omega | (with_reducible decide) | (simp; omega) | fail) | fail) ?_; conv => whnf) | fail)
    exact ⟨false, [], by simp [spInts, hne], rfl, trivial, trivial⟩
def spHas : Spec AF where
  γ := List Int × Int
  δ := Bool
  args := fun g => [.lst 3 g.1, vI g.2]
  own := fun _ => []
  pre := fun g => g.1.length ≤ 9223372036854775807
  nnew := 0
  res := fun _ c => vB c
  own' := fun _ _ => []
  post := fun g c => (c = true ↔ g.2 ∈ g.1)
theorem m_has : Meets Try.prog regF 50 spHas := by
  refine meets Try.func50 18 noWr rfl (by kernel_rfl) (by kernel_rfl) ?_
  rintro ⟨(a : List Int), (k : Int)⟩ (hl : a.length ≤ 9223372036854775807)
  conv => whnf
  repeat' (first | (refine tell (fun htest => ?_) (fun htest => ?_) <;> (try dsimp only at htest) <;> first | (exfalso; omega) | (exact absurd rfl htest) | (exact absurd (by decide) htest) | (conv => whnf)) | (refine allG rfl ?_; conv => whnf) | (refine And.intro (by first | omega | assumption | kernel_rfl | exact And.intro rfl rfl | ((try dsimp only [inR, idx, lowOf]); first | omega | (with_reducible decide) | (simp; omega) | fail) | fail) ?_; conv => whnf) | fail)
  refine ⟨Nat, fun i => ⟨[(0, .lst 3 a), (1, vI k), (5, vI i)], []⟩, fun i => i ≤ a.length ∧ k ∉ a.take i, fun i => a.length - i, fun _ _ => rfl, ⟨0, [], ⟨Nat.zero_le _, by simp⟩, ?_⟩, ?_⟩
  · refine ⟨rfl, ?_, ?_, rfl⟩
    all_goals (repeat' (first | exact trivial | exact rfl | refine And.intro ?_ ?_ | (refine congrArg vI ?_; first | omega | (dsimp only; omega) | fail) | (refine congrArg some ?_) | omega | exact Nat.le_refl _ | exact congrArg (SV.lst _) (List.take_of_length_le (Nat.le_refl _)).symm))
  rintro (i : Nat) ⟨(hi : i ≤ a.length), (hs : k ∉ a.take i)⟩
  by_cases hlt : i < a.length
  · obtain ⟨x, hx⟩ : ∃ x, a[i]? = some x := ⟨_, List.getElem?_eq_getElem hlt⟩
    have hm := List.mem_of_getElem? hx
    by_cases hxk : x = k
    · conv => whnf
      repeat' (first | (refine tell (fun htest => ?_) (fun htest => ?_) <;> (try dsimp only at htest) <;> first | (exfalso; omega) | (exact absurd rfl htest) | (exact absurd (by decide) htest) | (conv => whnf)) | (refine allG (x := x) (by first | exact hx | simpa [List.getElem?_append_right, lowOf] using hx | fail) ?_; conv => whnf) | (refine allLst (x := x) (by first | omega | assumption | fail) (by first | exact hx | simpa using hx | fail) ?_; conv => whnf) | (refine allG rfl ?_; conv => whnf) | (refine And.intro (by first | omega | assumption | kernel_rfl | exact And.intro rfl rfl | ((try dsimp only [inR, idx, lowOf]); first | omega | (with_reducible decide) | (simp; omega) | fail) | fail) ?_; conv => whnf) | fail)
      exact ⟨true, [], by simp [spHas]; exact hxk ▸ hm, rfl, trivial, trivial⟩
    · conv => whnf
      repeat' (first | (refine tell (fun htest => ?_) (fun htest => ?_) <;> (try dsimp only at htest) <;> first | (exfalso; omega) | (exact absurd rfl htest) | (exact absurd (by decide) htest) | (conv => whnf)) | (refine allG (x := x) (by first | exact hx | simpa [List.getElem?_append_right, lowOf] using hx | fail) ?_; conv => whnf) | (refine allLst (x := x) (by first | omega | assumption | fail) (by first | exact hx | simpa using hx | fail) ?_; conv => whnf) | (refine allG rfl ?_; conv => whnf) | (refine And.intro (by first | omega | assumption | kernel_rfl | exact And.intro rfl rfl | ((try dsimp only [inR, idx, lowOf]); first | omega | (with_reducible decide) | (simp; omega) | fail) | fail) ?_; conv => whnf) | fail)
      refine ⟨i + 1, [], ⟨hlt, by rw [take_snocI hx]; simp; exact ⟨hs, fun h => hxk h.symm⟩⟩, ?_, rfl, ?_, ?_, rfl⟩
      · dsimp only; first | omega | (simp; done) | (simp; omega)
      all_goals (repeat' (first | exact trivial | exact rfl | refine And.intro ?_ ?_ | (refine congrArg vI ?_; first | omega | (dsimp only; omega) | fail) | (refine congrArg some ?_) | omega | exact Nat.le_refl _ | exact congrArg (SV.lst _) (List.take_of_length_le (Nat.le_refl _)).symm))
  · rw [List.take_of_length_le (by omega)] at hs
    conv => whnf
    repeat' (first | (refine tell (fun htest => ?_) (fun htest => ?_) <;> (try dsimp only at htest) <;> first | (exfalso; omega) | (exact absurd rfl htest) | (exact absurd (by decide) htest) | (conv => whnf)) | (refine allG rfl ?_; conv => whnf) | (refine And.intro (by first | omega | assumption | kernel_rfl | exact And.intro rfl rfl | ((try dsimp only [inR, idx, lowOf]); first | omega | (with_reducible decide) | (simp; omega) | fail) | fail) ?_; conv => whnf) | fail)
    exact ⟨false, [], by simp [spHas, hs], rfl, trivial, trivial⟩
theorem m_rhas : Meets Try.prog regF 82 spHas := by
  refine meets Try.func82 18 noWr rfl (by kernel_rfl) (by kernel_rfl) ?_
  rintro ⟨(a : List Int), (k : Int)⟩ (hl : a.length ≤ 9223372036854775807)
  conv => whnf
  repeat' (first | (refine tell (fun htest => ?_) (fun htest => ?_) <;> (try dsimp only at htest) <;> first | (exfalso; omega) | (exact absurd rfl htest) | (exact absurd (by decide) htest) | (conv => whnf)) | (refine allG rfl ?_; conv => whnf) | (refine And.intro (by first | omega | assumption | kernel_rfl | exact And.intro rfl rfl | ((try dsimp only [inR, idx, lowOf]); first | omega | (with_reducible decide) | (simp; omega) | fail) | fail) ?_; conv => whnf) | fail)
  refine ⟨Nat, fun i => ⟨[(0, .lst 3 a), (1, vI k), (5, vI i)], []⟩, fun i => i ≤ a.length ∧ k ∉ a.take i, fun i => a.length - i, fun _ _ => rfl, ⟨0, [], ⟨Nat.zero_le _, by simp⟩, ?_⟩, ?_⟩
  · refine ⟨rfl, ?_, ?_, rfl⟩
    all_goals (repeat' (first | exact trivial | exact rfl | refine And.intro ?_ ?_ | (refine congrArg vI ?_; first | omega | (dsimp only; omega) | fail) | (refine congrArg some ?_) | omega | exact Nat.le_refl _ | exact congrArg (SV.lst _) (List.take_of_length_le (Nat.le_refl _)).symm))
  rintro (i : Nat) ⟨(hi : i ≤ a.length), (hs : k ∉ a.take i)⟩
  by_cases hlt : i < a.length
  · obtain ⟨x, hx⟩ : ∃ x, a[i]? = some x := ⟨_, List.getElem?_eq_getElem hlt⟩
    have hm := List.mem_of_getElem? hx
    by_cases hxk : x = k
    · conv => whnf
      repeat' (first | (refine tell (fun htest => ?_) (fun htest => ?_) <;> (try dsimp only at htest) <;> first | (exfalso; omega) | (exact absurd rfl htest) | (exact absurd (by decide) htest) | (conv => whnf)) | (refine allG (x := x) (by first | exact hx | simpa [List.getElem?_append_right, lowOf] using hx | fail) ?_; conv => whnf) | (refine allLst (x := x) (by first | omega | assumption | fail) (by first | exact hx | simpa using hx | fail) ?_; conv => whnf) | (refine allG rfl ?_; conv => whnf) | (refine And.intro (by first | omega | assumption | kernel_rfl | exact And.intro rfl rfl | ((try dsimp only [inR, idx, lowOf]); first | omega | (with_reducible decide) | (simp; omega) | fail) | fail) ?_; conv => whnf) | fail)
      exact ⟨true, [], by simp [spHas]; exact hxk ▸ hm, rfl, trivial, trivial⟩
    · conv => whnf
      repeat' (first | (refine tell (fun htest => ?_) (fun htest => ?_) <;> (try dsimp only at htest) <;> first | (exfalso; omega) | (exact absurd rfl htest) | (exact absurd (by decide) htest) | (conv => whnf)) | (refine allG (x := x) (by first | exact hx | simpa [List.getElem?_append_right, lowOf] using hx | fail) ?_; conv => whnf) | (refine allLst (x := x) (by first | omega | assumption | fail) (by first | exact hx | simpa using hx | fail) ?_; conv => whnf) | (refine allG rfl ?_; conv => whnf) | (refine And.intro (by first | omega | assumption | kernel_rfl | exact And.intro rfl rfl | ((try dsimp only [inR, idx, lowOf]); first | omega | (with_reducible decide) | (simp; omega) | fail) | fail) ?_; conv => whnf) | fail)
      refine ⟨i + 1, [], ⟨hlt, by rw [take_snocI hx]; simp; exact ⟨hs, fun h => hxk h.symm⟩⟩, ?_, rfl, ?_, ?_, rfl⟩
      · dsimp only; first | omega | (simp; done) | (simp; omega)
      all_goals (repeat' (first | exact trivial | exact rfl | refine And.intro ?_ ?_ | (refine congrArg vI ?_; first | omega | (dsimp only; omega) | fail) | (refine congrArg some ?_) | omega | exact Nat.le_refl _ | exact congrArg (SV.lst _) (List.take_of_length_le (Nat.le_refl _)).symm))
  · rw [List.take_of_length_le (by omega)] at hs
    conv => whnf
    repeat' (first | (refine tell (fun htest => ?_) (fun htest => ?_) <;> (try dsimp only at htest) <;> first | (exfalso; omega) | (exact absurd rfl htest) | (exact absurd (by decide) htest) | (conv => whnf)) | (refine allG rfl ?_; conv => whnf) | (refine And.intro (by first | omega | assumption | kernel_rfl | exact And.intro rfl rfl | ((try dsimp only [inR, idx, lowOf]); first | omega | (with_reducible decide) | (simp; omega) | fail) | fail) ?_; conv => whnf) | fail)
    exact ⟨false, [], by simp [spHas, hs], rfl, trivial, trivial⟩
end Go.Sx

