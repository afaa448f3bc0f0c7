/-
  Layer 11, part D: Contains; Out.
-/
import Derived.Test.YtmogappoadglgaaLayC
namespace Go.Sx
open Go Go.Proofs Go.Proofs.Ytmogappoadglgaa
def spIndex : Spec AF where
  γ := List Int × Int
  δ := Int
  args := fun g => [.lst 3 g.1, vI g.2]
  own := fun _ => []
  pre := fun g => g.1.length ≤ 9223372036854775807
  nnew := 0
  res := fun _ r => vI r
  own' := fun _ _ => []
  post := fun g r => (0 ≤ r ↔ g.2 ∈ g.1)
theorem m_index : Meets Try.prog regF 100 spIndex := by
  refine meets Try.func100 19 noWr rfl (by kernel_rfl) (by kernel_rfl) ?_
  rintro ⟨(a : List Int), (k : Int)⟩ (hl : a.length ≤ 9223372036854775807)
  conv => whnf
  repeat' (first | (refine tell (fun htest => ?_) (fun htest => ?_) <;> (try dsimp only at htest) <;> first | (exfalso; omega) | (exact absurd rfl htest) | (exact absurd (by decide) htest) | (conv => whnf)) | (refine allG rfl ?_; conv => whnf) | (refine And.intro (by first | omega | assumption | kernel_rfl | exact And.intro rfl rfl | ((try dsimp only [inR, idx, lowOf]); first | omega | (with_reducible decide) | (simp; omega) | fail) | fail) ?_; conv => whnf) | fail)
  refine ⟨Nat, fun i => ⟨[(0, .lst 3 a), (1, vI k), (7, vI a.length), (8, vI i)], []⟩, fun i => i ≤ a.length ∧ k ∉ a.take i, fun i => a.length - i, fun _ _ => rfl, ⟨0, [], ⟨Nat.zero_le _, by simp⟩, ?_⟩, ?_⟩
  · refine ⟨rfl, ?_, ?_, rfl⟩
    all_goals (repeat' (first | exact trivial | exact rfl | refine And.intro ?_ ?_ | (refine congrArg vI ?_; first | omega | (dsimp only; omega) | fail) | (refine congrArg some ?_) | omega | exact Nat.le_refl _ | exact congrArg (SV.lst _) (List.take_of_length_le (Nat.le_refl _)).symm))
  rintro (i : Nat) ⟨(hi : i ≤ a.length), (hs : k ∉ a.take i)⟩
  by_cases hlt : i < a.length
  · obtain ⟨x, hx⟩ : ∃ x, a[i]? = some x := ⟨_, List.getElem?_eq_getElem hlt⟩
    have hm := List.mem_of_getElem? hx
    by_cases hxk : x = k
    · conv => whnf
      repeat' (first | (refine tell (fun htest => ?_) (fun htest => ?_) <;> (try dsimp only at htest) <;> first | (exfalso; omega) | (exact absurd rfl htest) | (exact absurd (by decide) htest) | (conv => whnf)) | (refine allG (x := x) (by first | exact hx | simpa [List.getElem?_append_right, lowOf] using hx | fail) ?_; conv => whnf) | (refine allLst (x := x) (by first | omega | assumption | fail) (by first | exact hx | simpa using hx | fail) ?_; conv => whnf) | (refine allG rfl ?_; conv => whnf) | (refine And.intro (by first | omega | assumption | kernel_rfl | exact And.intro rfl rfl | ((try dsimp only [inR, idx, lowOf]); first | omega | (with_reducible decide) | (simp; omega) | fail) | fail) ?_; conv => whnf) | fail)
      exact ⟨(i : Int), [], ⟨fun _ => hxk ▸ hm, fun _ => Int.natCast_nonneg i⟩, rfl, trivial, trivial⟩
    · conv => whnf
      repeat' (first | (refine tell (fun htest => ?_) (fun htest => ?_) <;> (try dsimp only at htest) <;> first | (exfalso; omega) | (exact absurd rfl htest) | (exact absurd (by decide) htest) | (conv => whnf)) | (refine allG (x := x) (by first | exact hx | simpa [List.getElem?_append_right, lowOf] using hx | fail) ?_; conv => whnf) | (refine allLst (x := x) (by first | omega | assumption | fail) (by first | exact hx | simpa using hx | fail) ?_; conv => whnf) | (refine allG rfl ?_; conv => whnf) | (refine And.intro (by first | omega | assumption | kernel_rfl | exact And.intro rfl rfl | ((try dsimp only [inR, idx, lowOf]); first | omega | (with_reducible decide) | (simp; omega) | fail) | fail) ?_; conv => whnf) | fail)
      refine ⟨i + 1, [], ⟨hlt, by rw [take_snocI hx]; simp; exact ⟨hs, fun h => hxk h.symm⟩⟩, ?_, rfl, ?_, ?_, rfl⟩
      · dsimp only; first | omega | (simp; done) | (simp; omega)
      all_goals (repeat' (first | exact trivial | exact rfl | refine And.intro ?_ ?_ | (refine congrArg vI ?_; first | omega | (dsimp only; omega) | fail) | (refine congrArg some ?_) | omega | exact Nat.le_refl _ | exact congrArg (SV.lst _) (List.take_of_length_le (Nat.le_refl _)).symm))
  · rw [List.take_of_length_le (by omega)] at hs
    conv => whnf
    repeat' (first | (refine tell (fun htest => ?_) (fun htest => ?_) <;> (try dsimp only at htest) <;> first | (exfalso; omega) | (exact absurd rfl htest) | (exact absurd (by decide) htest) | (conv => whnf)) | (refine allG rfl ?_; conv => whnf) | (refine And.intro (by first | omega | assumption | kernel_rfl | exact And.intro rfl rfl | ((try dsimp only [inR, idx, lowOf]); first | omega | (with_reducible decide) | (simp; omega) | fail) | fail) ?_; conv => whnf) | fail)
    exact ⟨(-1 : Int), [], ⟨fun h => absurd h (by decide), fun h => absurd h hs⟩, rfl, trivial, trivial⟩
theorem index_ex (a : List Int) (k : Int) : ∃ r : Int, 0 ≤ r ↔ k ∈ a := by
  by_cases h : k ∈ a
  · exact ⟨0, by simp [h]⟩
  · exact ⟨-1, by simp [h]⟩
theorem m_contains : Meets Try.prog regF 88 spHas := by
  refine meets Try.func88 9 noWr rfl (by kernel_rfl) (by kernel_rfl) ?_
  rintro ⟨(a : List Int), (k : Int)⟩ (hl : a.length ≤ 9223372036854775807)
  conv => whnf
  repeat' (first | (refine tell (fun htest => ?_) (fun htest => ?_) <;> (try dsimp only at htest) <;> first | (exfalso; omega) | (exact absurd rfl htest) | (exact absurd (by decide) htest) | (conv => whnf)) | (refine allG rfl ?_; conv => whnf) | (refine And.intro (by first | omega | assumption | kernel_rfl | exact And.intro rfl rfl | ((try dsimp only [inR, idx, lowOf]); first | omega | (with_reducible decide) | (simp; omega) | fail) | fail) ?_; conv => whnf) | fail)
  refine ⟨_, m_index, (a, k), [], false, ?_⟩
  conv => whnf
  refine And.intro (vc0 hl (by (repeat' (first | exact trivial | exact rfl | refine And.intro ?_ ?_ | (refine congrArg vI ?_; first | omega | (dsimp only; omega) | fail) | (refine congrArg some ?_) | omega | exact Nat.le_refl _ | exact congrArg (SV.lst _) (List.take_of_length_le (Nat.le_refl _)).symm))) (by repeat' (first | exact trivial | exact rfl | refine And.intro ?_ ?_ | (refine congrArg vI ?_; first | omega | (dsimp only; omega) | fail) | (refine congrArg some ?_) | omega | exact Nat.le_refl _ | exact congrArg (SV.lst _) (List.take_of_length_le (Nat.le_refl _)).symm)) trivial trivial) ?_
  refine And.intro (index_ex a k) ?_
  intro (r : Int) (hr : 0 ≤ r ↔ k ∈ a)
  conv => whnf
  repeat' (first | (refine tell (fun htest => ?_) (fun htest => ?_) <;> (try dsimp only at htest) <;> first | (exfalso; omega) | (exact absurd rfl htest) | (exact absurd (by decide) htest) | (conv => whnf)) | (refine allG rfl ?_; conv => whnf) | (refine And.intro (by first | omega | assumption | kernel_rfl | exact And.intro rfl rfl | ((try dsimp only [inR, idx, lowOf]); first | omega | (with_reducible decide) | (simp; omega) | fail) | fail) ?_; conv => whnf) | fail)
  · exact ⟨true, [], ⟨fun _ => hr.1 (by assumption), fun _ => rfl⟩, rfl, trivial, trivial⟩
  · exact ⟨false, [], ⟨fun h => (by cases h), fun h => absurd (hr.2 h) (by omega)⟩, rfl, trivial, trivial⟩
/-- The edges out of a node. -/
def outL (es : List Edge) (n : Int) (i : Nat) : List Int := match es with
  | [] => []
  | e :: t => if e.1 = n then (i : Int) :: outL t n (i + 1) else outL t n (i + 1)
theorem outL_snoc (n : Int) (e : Edge) : ∀ (es : List Edge) (i : Nat), outL (es ++ [e]) n i = outL es n i ++ if e.1 = n then [((i + es.length : Nat) : Int)] else []
  | [], i => by simp only [List.nil_append, outL, List.length_nil, Nat.add_zero]
  | x :: t, i => by
    simp only [List.cons_append, outL]
    rw [outL_snoc n e t (i + 1), show i + 1 + t.length = i + (x :: t).length by simp; omega]
    split <;> simp
theorem outL_len (n : Int) : ∀ (es : List Edge) (i : Nat), (outL es n i).length ≤ es.length
  | [], _ => Nat.le_refl _
  | e :: t, i => by
    have := outL_len n t (i + 1)
    simp only [outL]
    split <;> simp <;> omega
open Classical in
noncomputable def outF (n : Int) (es : List Edge) (k : Int) : List Int := if RightL n es then outL es k 0 else []
noncomputable def spOut : Spec AF where
  γ := Int × List Edge × Int
  δ := Unit
  args := fun g => [layS g.1 g.2.1, vI g.2.2]
  own := fun _ => []
  pre := fun g => GoodL g.2.1
  nnew := 0
  res := fun g _ => .lst 3 (outF g.1 g.2.1 g.2.2)
  own' := fun _ _ => []
  post := fun _ _ => True
theorem right_ex (n : Int) (es : List Edge) : ∃ c : Bool, c = true ↔ RightL n es := by
  by_cases h : RightL n es
  · exact ⟨true, by simp [h]⟩
  · exact ⟨false, by simp [h]⟩
theorem m_out : Meets Try.prog regF 42 spOut := by
  refine meets Try.func42 27 noWr rfl (by kernel_rfl) (by kernel_rfl) ?_
  rintro ⟨(n : Int), (es : List Edge), (k : Int)⟩ (hg : GoodL es)
  conv => whnf
  repeat' (first | (refine tell (fun htest => ?_) (fun htest => ?_) <;> (try dsimp only at htest) <;> first | (exfalso; omega) | (exact absurd rfl htest) | (exact absurd (by decide) htest) | (conv => whnf)) | (refine allG rfl ?_; conv => whnf) | (refine And.intro (by first | omega | assumption | kernel_rfl | exact And.intro rfl rfl | ((try dsimp only [inR, idx, lowOf]); first | omega | (with_reducible decide) | (simp; omega) | fail) | fail) ?_; conv => whnf) | fail)
  refine ⟨_, m_right, (n, es), [], false, ?_⟩
  conv => whnf
  refine And.intro (vc0 hg (by (repeat' (first | exact trivial | exact rfl | refine And.intro ?_ ?_ | (refine congrArg vI ?_; first | omega | (dsimp only; omega) | fail) | (refine congrArg some ?_) | omega | exact Nat.le_refl _ | exact congrArg (SV.lst _) (List.take_of_length_le (Nat.le_refl _)).symm))) (by repeat' (first | exact trivial | exact rfl | refine And.intro ?_ ?_ | (refine congrArg vI ?_; first | omega | (dsimp only; omega) | fail) | (refine congrArg some ?_) | omega | exact Nat.le_refl _ | exact congrArg (SV.lst _) (List.take_of_length_le (Nat.le_refl _)).symm)) trivial trivial) ?_
  refine And.intro (right_ex n es) ?_
  intro (c : Bool) (hc : c = true ↔ RightL n es)
  cases c
  · have hr : ¬ RightL n es := fun h => by have := hc.2 h; cases this
    conv => whnf
    repeat' (first | (refine tell (fun htest => ?_) (fun htest => ?_) <;> (try dsimp only at htest) <;> first | (exfalso; omega) | (exact absurd rfl htest) | (exact absurd (by decide) htest) | (conv => whnf)) | (refine allG rfl ?_; conv => whnf) | (refine And.intro (by first | omega | assumption | kernel_rfl | exact And.intro rfl rfl | ((try dsimp only [inR, idx, lowOf]); first | omega | (with_reducible decide) | (simp; omega) | fail) | fail) ?_; conv => whnf) | fail)
    exact ⟨(), [], trivial, (by show _ = _; exact (if_neg hr)), trivial, trivial⟩
  have hr := hc.1 rfl
  have hl := hr.len
  conv => whnf
  repeat' (first | (refine tell (fun htest => ?_) (fun htest => ?_) <;> (try dsimp only at htest) <;> first | (exfalso; omega) | (exact absurd rfl htest) | (exact absurd (by decide) htest) | (conv => whnf)) | (refine allG rfl ?_; conv => whnf) | (refine And.intro (by first | omega | assumption | kernel_rfl | exact And.intro rfl rfl | ((try dsimp only [inR, idx, lowOf]); first | omega | (with_reducible decide) | (simp; omega) | fail) | fail) ?_; conv => whnf) | fail)
  refine ⟨Nat, fun i => ⟨[(1, vI k), (2, .ptr 1002 0 2 0), (4, .sl 3000 1 0 (outL (es.take i) k 0).length), (11, .lst 54 es), (12, vI es.length), (13, vI i)], [(1002, layC n es), (3000, .arr 3 (outL (es.take i) k 0))]⟩, fun i => i ≤ es.length, fun i => es.length - i, fun _ _ => rfl, ⟨0, [], Nat.zero_le _, ?_⟩, ?_⟩
  · refine ⟨rfl, ?_, ?_, rfl⟩
    all_goals (repeat' (first | exact trivial | exact rfl | refine And.intro ?_ ?_ | (refine congrArg vI ?_; first | omega | (dsimp only; omega) | fail) | (refine congrArg some ?_) | omega | exact Nat.le_refl _ | exact congrArg (SV.lst _) (List.take_of_length_le (Nat.le_refl _)).symm))
  rintro (i : Nat) (hi : i ≤ es.length)
  have hol := outL_len k (es.take i) 0
  rw [List.length_take] at hol
  by_cases hlt : i < es.length
  · obtain ⟨e, he⟩ : ∃ e, es[i]? = some e := ⟨_, List.getElem?_eq_getElem hlt⟩
    have htk := outL_snoc k e (es.take i) 0
    rw [← take_snocI he, List.length_take, Nat.min_eq_left hi, Nat.zero_add] at htk
    by_cases hek : e.1 = k
    · rw [if_pos hek] at htk
      conv => whnf
      repeat' (first | (refine tell (fun htest => ?_) (fun htest => ?_) <;> (try dsimp only at htest) <;> first | (exfalso; omega) | (exact absurd rfl htest) | (exact absurd (by decide) htest) | (conv => whnf)) | (refine allG (x := e) (by first | exact he | simpa [List.getElem?_append_right, lowOf] using he | fail) ?_; conv => whnf) | (refine allLst (x := e) (by first | omega | assumption | fail) (by first | exact he | simpa using he | fail) ?_; conv => whnf) | (refine allG rfl ?_; conv => whnf) | (refine And.intro (by first | omega | assumption | kernel_rfl | exact And.intro rfl rfl | ((try dsimp only [inR, idx, lowOf]); first | omega | (with_reducible decide) | (simp; omega) | fail) | fail) ?_; conv => whnf) | fail)
      refine ⟨i + 1, [(3000, 1025)], hlt, ?_, rfl, ?_, ?_, rfl⟩
      · dsimp only; first | omega | (simp; done) | (simp; omega)
      all_goals (repeat' (first | exact trivial | exact rfl | refine And.intro ?_ ?_ | (refine congrArg vI ?_; first | omega | (dsimp only; omega) | fail) | (refine congrArg some ?_) | omega | exact Nat.le_refl _ | exact congrArg (SV.lst _) (List.take_of_length_le (Nat.le_refl _)).symm))
      · exact congrArg (SV.sl (A := AF) 1025 1 0) (show (outL (es.take i) k 0).length + 1 = (outL (es.take (i + 1)) k 0).length by rw [htk]; simp)
      · exact congrArg (Ct.arr (A := AF) 3) (show ((outL (es.take i) k 0).drop 0).take (outL (es.take i) k 0).length ++ [(i : Int)] = outL (es.take (i + 1)) k 0 by rw [htk]; simp)
    · rw [if_neg hek, List.append_nil] at htk
      conv => whnf
      repeat' (first | (refine tell (fun htest => ?_) (fun htest => ?_) <;> (try dsimp only at htest) <;> first | (exfalso; omega) | (exact absurd rfl htest) | (exact absurd (by decide) htest) | (conv => whnf)) | (refine allG (x := e) (by first | exact he | simpa [List.getElem?_append_right, lowOf] using he | fail) ?_; conv => whnf) | (refine allLst (x := e) (by first | omega | assumption | fail) (by first | exact he | simpa using he | fail) ?_; conv => whnf) | (refine allG rfl ?_; conv => whnf) | (refine And.intro (by first | omega | assumption | kernel_rfl | exact And.intro rfl rfl | ((try dsimp only [inR, idx, lowOf]); first | omega | (with_reducible decide) | (simp; omega) | fail) | fail) ?_; conv => whnf) | fail)
      refine ⟨i + 1, [], hlt, ?_, rfl, ?_, ?_, rfl⟩
      · dsimp only; first | omega | (simp; done) | (simp; omega)
      all_goals (repeat' (first | exact trivial | exact rfl | refine And.intro ?_ ?_ | (refine congrArg vI ?_; first | omega | (dsimp only; omega) | fail) | (refine congrArg some ?_) | omega | exact Nat.le_refl _ | exact congrArg (SV.lst _) (List.take_of_length_le (Nat.le_refl _)).symm))
      · exact congrArg (SV.sl (A := AF) 3000 1 0) (congrArg List.length htk.symm)
      · exact congrArg (Ct.arr (A := AF) 3) htk.symm
  · have hi : i = es.length := by omega
    subst hi
    rw [List.take_of_length_le (Nat.le_refl _)] at hol
    conv => whnf
    repeat' (first | (refine tell (fun htest => ?_) (fun htest => ?_) <;> (try dsimp only at htest) <;> first | (exfalso; omega) | (exact absurd rfl htest) | (exact absurd (by decide) htest) | (conv => whnf)) | (refine allG rfl ?_; conv => whnf) | (refine And.intro (by first | omega | assumption | kernel_rfl | exact And.intro rfl rfl | ((try dsimp only [inR, idx, lowOf]); first | omega | (with_reducible decide) | (simp; omega) | fail) | fail) ?_; conv => whnf) | fail)
    refine ⟨(), [], trivial, ⟨by simp, rfl, ?_⟩, trivial, trivial⟩
    have e : outF n es k = ((outL (es.take es.length) k 0).drop 0).take (outL (es.take es.length) k 0).length := by
      unfold outF
      rw [if_pos hr, List.take_of_length_le (Nat.le_refl _)]
      simp
    exact congrArg (SV.lst (A := AF) 3) e
end Go.Sx

