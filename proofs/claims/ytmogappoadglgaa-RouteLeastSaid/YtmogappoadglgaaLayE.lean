/-
  Layer 11, part E: the document's Out; Between.
-/
import Derived.Test.YtmogappoadglgaaLayD
namespace Go.Sx
open Go Go.Proofs Go.Proofs.Ytmogappoadglgaa
noncomputable def spROut : Spec AF := { spOut with pre := fun g => g.2.1.length ≤ 9223372036854775807 }
theorem m_rout : Meets Try.prog regF 43 spROut := by
  refine meets Try.func43 33 noWr rfl (by kernel_rfl) (by kernel_rfl) ?_
  rintro ⟨(n : Int), (es : List Edge), (k : Int)⟩ (hg : es.length ≤ 9223372036854775807)
  conv => whnf
  repeat' (first | (refine tell (fun htest => ?_) (fun htest => ?_) <;> (try dsimp only at htest) <;> first | (exfalso; omega) | (exact absurd rfl htest) | (exact absurd (by decide) htest) | (conv => whnf)) | (refine allG rfl ?_; conv => whnf) | (refine And.intro (by first | omega | assumption | kernel_rfl | exact And.intro rfl rfl | ((try dsimp only [inR, idx, lowOf]); first | omega | (with_reducible decide) | (simp; omega) | fail) | fail) ?_; conv => whnf) | fail)
  refine ⟨_, m_rright, (n, es), [], false, ?_⟩
  conv => whnf
  refine And.intro (vc0 hg (by (repeat' (first | exact trivial | exact rfl | refine And.intro ?_ ?_ | (refine congrArg vI ?_; first | omega | (dsimp only; omega) | fail) | (refine congrArg some ?_) | omega | exact Nat.le_refl _ | exact congrArg (SV.lst _) (List.take_of_length_le (Nat.le_refl _)).symm))) (by repeat' (first | exact trivial | exact rfl | refine And.intro ?_ ?_ | (refine congrArg vI ?_; first | omega | (dsimp only; omega) | fail) | (refine congrArg some ?_) | omega | exact Nat.le_refl _ | exact congrArg (SV.lst _) (List.take_of_length_le (Nat.le_refl _)).symm)) trivial trivial) ?_
  refine And.intro (right_ex n es) ?_
  intro (c : Bool) (hc : c = true ↔ RightL n es)
  cases c
  · have hr : ¬ RightL n es := fun h => by have := hc.2 h; cases this
    conv => whnf
    repeat' (first | (refine tell (fun htest => ?_) (fun htest => ?_) <;> (try dsimp only at htest) <;> first | (exfalso; omega) | (exact absurd rfl htest) | (exact absurd (by decide) htest) | (conv => whnf)) | (refine allG rfl ?_; conv => whnf) | (refine And.intro (by first | omega | assumption | kernel_rfl | exact And.intro rfl rfl | ((try dsimp only [inR, idx, lowOf]); first | omega | (with_reducible decide) | (simp; omega) | fail) | fail) ?_; conv => whnf) | fail)
    refine ⟨Unit, fun _ => ⟨[(1, vI k), (2, .ptr 1002 0 2 0), (5, vB false), (6, .val (.slice none 0 0)), (7, vI 0)], [(1002, layC n es)]⟩, fun _ => True, fun _ => 0, fun _ _ => rfl, ⟨(), [], trivial, ?_⟩, ?_⟩
    · refine ⟨rfl, ?_, ?_, rfl⟩
      all_goals (repeat' (first | exact trivial | exact rfl | refine And.intro ?_ ?_ | (refine congrArg vI ?_; first | omega | (dsimp only; omega) | fail) | (refine congrArg some ?_) | omega | exact Nat.le_refl _ | exact congrArg (SV.lst _) (List.take_of_length_le (Nat.le_refl _)).symm))
    intro _ _
    conv => whnf
    repeat' (first | (refine tell (fun htest => ?_) (fun htest => ?_) <;> (try dsimp only at htest) <;> first | (exfalso; omega) | (exact absurd rfl htest) | (exact absurd (by decide) htest) | (conv => whnf)) | (refine allG rfl ?_; conv => whnf) | (refine And.intro (by first | omega | assumption | kernel_rfl | exact And.intro rfl rfl | ((try dsimp only [inR, idx, lowOf]); first | omega | (with_reducible decide) | (simp; omega) | fail) | fail) ?_; conv => whnf) | fail)
    all_goals exact ⟨(), [], trivial, (by show _ = _; exact (if_neg hr)), trivial, trivial⟩
  have hr := hc.1 rfl
  have hl := hr.len
  conv => whnf
  repeat' (first | (refine tell (fun htest => ?_) (fun htest => ?_) <;> (try dsimp only at htest) <;> first | (exfalso; omega) | (exact absurd rfl htest) | (exact absurd (by decide) htest) | (conv => whnf)) | (refine allG rfl ?_; conv => whnf) | (refine And.intro (by first | omega | assumption | kernel_rfl | exact And.intro rfl rfl | ((try dsimp only [inR, idx, lowOf]); first | omega | (with_reducible decide) | (simp; omega) | fail) | fail) ?_; conv => whnf) | fail)
  refine ⟨Nat, fun i => ⟨[(1, vI k), (2, .ptr 1002 0 2 0), (5, vB true), (6, .sl 3000 1 0 (outL (es.take i) k 0).length), (7, vI i)], [(1002, layC n es), (3000, .arr 3 (outL (es.take i) k 0))]⟩, fun i => i ≤ es.length, fun i => es.length - i, fun _ _ => rfl, ⟨0, [], Nat.zero_le _, ?_⟩, ?_⟩
  · refine ⟨rfl, ?_, ?_, rfl⟩
    all_goals (repeat' (first | exact trivial | exact rfl | refine And.intro ?_ ?_ | (refine congrArg vI ?_; first | omega | (dsimp only; omega) | fail) | (refine congrArg some ?_) | omega | exact Nat.le_refl _ | exact congrArg (SV.lst _) (List.take_of_length_le (Nat.le_refl _)).symm))
  rintro (i : Nat) (hi : i ≤ es.length)
  have hol := outL_len k (es.take i) 0
  rw [List.length_take] at hol
  by_cases hlt : i < es.length
  · obtain ⟨e, he⟩ : ∃ e, es[i]? = some e := ⟨_, List.getElem?_eq_getElem hlt⟩
    have htk := outL_snoc k e (es.take i) 0
    rw [← take_snocI he, List.length_take, Nat.min_eq_left hi, Nat.zero_add] at htk
    by_cases hek : e.1 = k
    · rw [if_pos hek] at htk
      conv => whnf
      repeat' (first | (refine tell (fun htest => ?_) (fun htest => ?_) <;> (try dsimp only at htest) <;> first | (exfalso; omega) | (exact absurd rfl htest) | (exact absurd (by decide) htest) | (conv => whnf)) | (refine allG (x := e) (by first | exact he | simpa [List.getElem?_append_right, lowOf] using he | fail) ?_; conv => whnf) | (refine allLst (x := e) (by first | omega | assumption | fail) (by first | exact he | simpa using he | fail) ?_; conv => whnf) | (refine allG rfl ?_; conv => whnf) | (refine And.intro (by first | omega | assumption | kernel_rfl | exact And.intro rfl rfl | ((try dsimp only [inR, idx, lowOf]); first | omega | (with_reducible decide) | (simp; omega) | fail) | fail) ?_; conv => whnf) | fail)
      refine ⟨i + 1, [(3000, 1031)], hlt, ?_, rfl, ?_, ?_, rfl⟩
      · dsimp only; first | omega | (simp; done) | (simp; omega)
      all_goals (repeat' (first | exact trivial | exact rfl | refine And.intro ?_ ?_ | (refine congrArg vI ?_; first | omega | (dsimp only; omega) | fail) | (refine congrArg some ?_) | omega | exact Nat.le_refl _ | exact congrArg (SV.lst _) (List.take_of_length_le (Nat.le_refl _)).symm))
      · exact congrArg (SV.sl (A := AF) 1031 1 0) (show (outL (es.take i) k 0).length + 1 = (outL (es.take (i + 1)) k 0).length by rw [htk]; simp)
      · exact congrArg (Ct.arr (A := AF) 3) (show ((outL (es.take i) k 0).drop 0).take (outL (es.take i) k 0).length ++ [(i : Int)] = outL (es.take (i + 1)) k 0 by rw [htk]; simp)
    · rw [if_neg hek, List.append_nil] at htk
      conv => whnf
      repeat' (first | (refine tell (fun htest => ?_) (fun htest => ?_) <;> (try dsimp only at htest) <;> first | (exfalso; omega) | (exact absurd rfl htest) | (exact absurd (by decide) htest) | (conv => whnf)) | (refine allG (x := e) (by first | exact he | simpa [List.getElem?_append_right, lowOf] using he | fail) ?_; conv => whnf) | (refine allLst (x := e) (by first | omega | assumption | fail) (by first | exact he | simpa using he | fail) ?_; conv => whnf) | (refine allG rfl ?_; conv => whnf) | (refine And.intro (by first | omega | assumption | kernel_rfl | exact And.intro rfl rfl | ((try dsimp only [inR, idx, lowOf]); first | omega | (with_reducible decide) | (simp; omega) | fail) | fail) ?_; conv => whnf) | fail)
      refine ⟨i + 1, [], hlt, ?_, rfl, ?_, ?_, rfl⟩
      · dsimp only; first | omega | (simp; done) | (simp; omega)
      all_goals (repeat' (first | exact trivial | exact rfl | refine And.intro ?_ ?_ | (refine congrArg vI ?_; first | omega | (dsimp only; omega) | fail) | (refine congrArg some ?_) | omega | exact Nat.le_refl _ | exact congrArg (SV.lst _) (List.take_of_length_le (Nat.le_refl _)).symm))
      · exact congrArg (SV.sl (A := AF) 3000 1 0) (congrArg List.length htk.symm)
      · exact congrArg (Ct.arr (A := AF) 3) htk.symm
  · have hi : i = es.length := by omega
    subst hi
    rw [List.take_of_length_le (Nat.le_refl _)] at hol
    conv => whnf
    repeat' (first | (refine tell (fun htest => ?_) (fun htest => ?_) <;> (try dsimp only at htest) <;> first | (exfalso; omega) | (exact absurd rfl htest) | (exact absurd (by decide) htest) | (conv => whnf)) | (refine allG rfl ?_; conv => whnf) | (refine And.intro (by first | omega | assumption | kernel_rfl | exact And.intro rfl rfl | ((try dsimp only [inR, idx, lowOf]); first | omega | (with_reducible decide) | (simp; omega) | fail) | fail) ?_; conv => whnf) | fail)
    refine ⟨(), [], trivial, ⟨by simp, rfl, ?_⟩, trivial, trivial⟩
    have e : outF n es k = ((outL (es.take es.length) k 0).drop 0).take (outL (es.take es.length) k 0).length := by
      unfold outF
      rw [if_pos hr, List.take_of_length_le (Nat.le_refl _)]
      simp
    exact congrArg (SV.lst (A := AF) 3) e
def spEdgeIs : Spec AF where
  γ := Edge × Int × Int
  δ := Bool
  args := fun g => [.agg [vI g.1.1, vI g.1.2.1, vI g.1.2.2], .ptr 0 0 1 0, .ptr 1 0 1 0]
  own := fun g => [.cells [vI g.2.1], .cells [vI g.2.2]]
  pre := fun _ => True
  nnew := 0
  res := fun _ c => vB c
  own' := fun g _ => [some (.cells [vI g.2.1]), some (.cells [vI g.2.2])]
  post := fun g c => (c = true ↔ wayE g.1 = g.2)
theorem m_edgeIs : Meets Try.prog regF 80 spEdgeIs := by
  refine meets Try.func80 15 noWr rfl (by kernel_rfl) (by kernel_rfl) ?_
  rintro ⟨(e : Edge), (a : Int), (b : Int)⟩ _
  have fin : ∀ {c : Bool}, (c = true ↔ e.1 = a ∧ e.2.1 = b) → spEdgeIs.post (e, a, b) c := fun h => h.trans ⟨fun h => Prod.ext h.1 h.2, fun h => ⟨congrArg Prod.fst h, congrArg Prod.snd h⟩⟩
  conv => whnf
  repeat' (first | (refine tell (fun htest => ?_) (fun htest => ?_) <;> (try dsimp only at htest) <;> first | (exfalso; omega) | (exact absurd rfl htest) | (exact absurd (by decide) htest) | (conv => whnf)) | (refine allG rfl ?_; conv => whnf) | (refine And.intro (by first | omega | assumption | kernel_rfl | exact And.intro rfl rfl | ((try dsimp only [inR, idx, lowOf]); first | omega | (with_reducible decide) | (simp; omega) | fail) | fail) ?_; conv => whnf) | fail)
  · exact ⟨true, [], fin (by simp; omega), rfl, ⟨⟨rfl, trivial⟩, ⟨rfl, trivial⟩, trivial⟩, trivial⟩
  · exact ⟨false, [], fin (by simp; omega), rfl, ⟨⟨rfl, trivial⟩, ⟨rfl, trivial⟩, trivial⟩, trivial⟩
  · exact ⟨false, [], fin (by simp; omega), rfl, ⟨⟨rfl, trivial⟩, ⟨rfl, trivial⟩, trivial⟩, trivial⟩
/-- The first edge between two nodes; below 0: there is none. -/
def idxF (w : Int × Int) : List Edge → Nat → Int
  | [], _ => -1
  | e :: t, i => if wayE e = w then (i : Int) else idxF w t (i + 1)
theorem idxF_skip (w : Int × Int) : ∀ (i : Nat) (es : List Edge) (j : Nat), i ≤ es.length → (∀ x ∈ es.take i, wayE x ≠ w) → idxF w es j = idxF w (es.drop i) (j + i)
  | 0, _, _, _, _ => rfl
  | i + 1, [], _, h, _ => by simp at h
  | i + 1, e :: t, j, h, hn => by
    rw [idxF, if_neg (hn e (by simp)), List.drop_succ_cons, idxF_skip w i t (j + 1) (by simpa using h) (fun x hx => hn x (by simp [hx])), show j + 1 + i = j + (i + 1) by omega]
def spIdxE : Spec AF where
  γ := List Edge × Int × Int
  δ := Unit
  args := fun g => [.lst 54 g.1, .fn (.func 80) [] [.ptr 0 0 1 0, .ptr 1 0 1 0]]
  own := fun g => [.cells [vI g.2.1], .cells [vI g.2.2]]
  pre := fun g => g.1.length ≤ 9223372036854775807
  nnew := 0
  res := fun g _ => vI (idxF g.2 g.1 0)
  own' := fun g _ => [some (.cells [vI g.2.1]), some (.cells [vI g.2.2])]
  post := fun _ _ => True
theorem edgeIs_ex (e : Edge) (w : Int × Int) : ∃ c : Bool, c = true ↔ wayE e = w := by
  by_cases h : wayE e = w
  · exact ⟨true, by simp [h]⟩
  · exact ⟨false, by simp [h]⟩
theorem m_idxE : Meets Try.prog regF 79 spIdxE := by
  refine meets Try.func79 19 noWr rfl (by kernel_rfl) (by kernel_rfl) ?_
  rintro ⟨(es : List Edge), (a : Int), (b : Int)⟩ (hl : es.length ≤ 9223372036854775807)
  conv => whnf
  repeat' (first | (refine tell (fun htest => ?_) (fun htest => ?_) <;> (try dsimp only at htest) <;> first | (exfalso; omega) | (exact absurd rfl htest) | (exact absurd (by decide) htest) | (conv => whnf)) | (refine allG rfl ?_; conv => whnf) | (refine And.intro (by first | omega | assumption | kernel_rfl | exact And.intro rfl rfl | ((try dsimp only [inR, idx, lowOf]); first | omega | (with_reducible decide) | (simp; omega) | fail) | fail) ?_; conv => whnf) | fail)
  refine ⟨Nat, fun i => ⟨[(0, .lst 54 es), (1, .fn (.func 80) [] [.ptr 0 0 1 0, .ptr 1 0 1 0]), (7, vI es.length), (8, vI i)], [(0, .cells [vI a]), (1, .cells [vI b])]⟩, fun i => i ≤ es.length ∧ ∀ x ∈ es.take i, wayE x ≠ (a, b), fun i => es.length - i, fun _ _ => rfl, ⟨0, [], ⟨Nat.zero_le _, by simp⟩, ?_⟩, ?_⟩
  · refine ⟨rfl, ?_, ?_, rfl⟩
    all_goals (repeat' (first | exact trivial | exact rfl | refine And.intro ?_ ?_ | (refine congrArg vI ?_; first | omega | (dsimp only; omega) | fail) | (refine congrArg some ?_) | omega | exact Nat.le_refl _ | exact congrArg (SV.lst _) (List.take_of_length_le (Nat.le_refl _)).symm))
  rintro (i : Nat) ⟨(hi : i ≤ es.length), (hs : ∀ x ∈ es.take i, wayE x ≠ (a, b))⟩
  have hk := idxF_skip (a, b) i es 0 hi hs
  by_cases hlt : i < es.length
  · obtain ⟨e, he⟩ : ∃ e, es[i]? = some e := ⟨_, List.getElem?_eq_getElem hlt⟩
    have hdr : es.drop i = e :: es.drop (i + 1) := by
      obtain ⟨h1, rfl⟩ := List.getElem?_eq_some_iff.1 he
      exact List.drop_eq_getElem_cons h1
    conv => whnf
    repeat' (first | (refine tell (fun htest => ?_) (fun htest => ?_) <;> (try dsimp only at htest) <;> first | (exfalso; omega) | (exact absurd rfl htest) | (exact absurd (by decide) htest) | (conv => whnf)) | (refine allG (x := e) (by first | exact he | simpa [List.getElem?_append_right, lowOf] using he | fail) ?_; conv => whnf) | (refine allLst (x := e) (by first | omega | assumption | fail) (by first | exact he | simpa using he | fail) ?_; conv => whnf) | (refine allG rfl ?_; conv => whnf) | (refine And.intro (by first | omega | assumption | kernel_rfl | exact And.intro rfl rfl | ((try dsimp only [inR, idx, lowOf]); first | omega | (with_reducible decide) | (simp; omega) | fail) | fail) ?_; conv => whnf) | fail)
    refine ⟨_, m_edgeIs, (e, a, b), [0, 1], false, ?_⟩
    conv => whnf
    refine And.intro (vc0 trivial (by (repeat' (first | exact trivial | exact rfl | refine And.intro ?_ ?_ | (refine congrArg vI ?_; first | omega | (dsimp only; omega) | fail) | (refine congrArg some ?_) | omega | exact Nat.le_refl _ | exact congrArg (SV.lst _) (List.take_of_length_le (Nat.le_refl _)).symm))) (by repeat' (first | exact trivial | exact rfl | refine And.intro ?_ ?_ | (refine congrArg vI ?_; first | omega | (dsimp only; omega) | fail) | (refine congrArg some ?_) | omega | exact Nat.le_refl _ | exact congrArg (SV.lst _) (List.take_of_length_le (Nat.le_refl _)).symm)) trivial trivial) ?_
    refine And.intro (edgeIs_ex e (a, b)) ?_
    intro (c : Bool) (hc : c = true ↔ wayE e = (a, b))
    cases c
    · have hne : wayE e ≠ (a, b) := fun h => by have := hc.2 h; cases this
      have hs' : ∀ x ∈ es.take (i + 1), wayE x ≠ (a, b) := fun x hx => by
        rw [take_snocI he] at hx
        rcases List.mem_append.1 hx with hx | hx
        · exact hs x hx
        · simp at hx; subst hx; exact hne
      conv => whnf
      repeat' (first | (refine tell (fun htest => ?_) (fun htest => ?_) <;> (try dsimp only at htest) <;> first | (exfalso; omega) | (exact absurd rfl htest) | (exact absurd (by decide) htest) | (conv => whnf)) | (refine allG rfl ?_; conv => whnf) | (refine And.intro (by first | omega | assumption | kernel_rfl | exact And.intro rfl rfl | ((try dsimp only [inR, idx, lowOf]); first | omega | (with_reducible decide) | (simp; omega) | fail) | fail) ?_; conv => whnf) | fail)
      refine ⟨i + 1, [], ⟨hlt, hs'⟩, ?_, rfl, ?_, ?_, rfl⟩
      · dsimp only; first | omega | (simp; done) | (simp; omega)
      all_goals (repeat' (first | exact trivial | exact rfl | refine And.intro ?_ ?_ | (refine congrArg vI ?_; first | omega | (dsimp only; omega) | fail) | (refine congrArg some ?_) | omega | exact Nat.le_refl _ | exact congrArg (SV.lst _) (List.take_of_length_le (Nat.le_refl _)).symm))
    · have heq := hc.1 rfl
      conv => whnf
      repeat' (first | (refine tell (fun htest => ?_) (fun htest => ?_) <;> (try dsimp only at htest) <;> first | (exfalso; omega) | (exact absurd rfl htest) | (exact absurd (by decide) htest) | (conv => whnf)) | (refine allG rfl ?_; conv => whnf) | (refine And.intro (by first | omega | assumption | kernel_rfl | exact And.intro rfl rfl | ((try dsimp only [inR, idx, lowOf]); first | omega | (with_reducible decide) | (simp; omega) | fail) | fail) ?_; conv => whnf) | fail)
      exact ⟨(), [], trivial, eI (by rw [hk, hdr, idxF, if_pos heq, Nat.zero_add]), ⟨⟨rfl, trivial⟩, ⟨rfl, trivial⟩, trivial⟩, trivial⟩
  · rw [List.drop_eq_nil_of_le (by omega)] at hk
    conv => whnf
    repeat' (first | (refine tell (fun htest => ?_) (fun htest => ?_) <;> (try dsimp only at htest) <;> first | (exfalso; omega) | (exact absurd rfl htest) | (exact absurd (by decide) htest) | (conv => whnf)) | (refine allG rfl ?_; conv => whnf) | (refine And.intro (by first | omega | assumption | kernel_rfl | exact And.intro rfl rfl | ((try dsimp only [inR, idx, lowOf]); first | omega | (with_reducible decide) | (simp; omega) | fail) | fail) ?_; conv => whnf) | fail)
    exact ⟨(), [], trivial, eI (by rw [hk]; rfl), ⟨⟨rfl, trivial⟩, ⟨rfl, trivial⟩, trivial⟩, trivial⟩
open Classical in
noncomputable def betF (n : Int) (es : List Edge) (w : Int × Int) : Int × Bool := if RightL n es ∧ 0 ≤ idxF w es 0 then (idxF w es 0, true) else (0, false)
noncomputable def spBetween : Spec AF where
  γ := (Int × List Edge) × Int × Int
  δ := Unit
  args := fun g => [layS g.1.1 g.1.2, vI g.2.1, vI g.2.2]
  own := fun _ => []
  pre := fun g => GoodL g.1.2
  nnew := 0
  res := fun g _ => .tup [vI (betF g.1.1 g.1.2 g.2).1, vB (betF g.1.1 g.1.2 g.2).2]
  own' := fun _ _ => []
  post := fun _ _ => True
theorem m_between : Meets Try.prog regF 39 spBetween := by
  refine meets Try.func39 21 noWr rfl (by kernel_rfl) (by kernel_rfl) ?_
  rintro ⟨⟨(n : Int), (es : List Edge)⟩, (a : Int), (b : Int)⟩ (hg : GoodL es)
  conv => whnf
  repeat' (first | (refine tell (fun htest => ?_) (fun htest => ?_) <;> (try dsimp only at htest) <;> first | (exfalso; omega) | (exact absurd rfl htest) | (exact absurd (by decide) htest) | (conv => whnf)) | (refine allG rfl ?_; conv => whnf) | (refine And.intro (by first | omega | assumption | kernel_rfl | exact And.intro rfl rfl | ((try dsimp only [inR, idx, lowOf]); first | omega | (with_reducible decide) | (simp; omega) | fail) | fail) ?_; conv => whnf) | fail)
  refine ⟨_, m_idxE, (es, a, b), [1004, 1005], false, ?_⟩
  conv => whnf
  refine And.intro (vc0 hg.1 (by (repeat' (first | exact trivial | exact rfl | refine And.intro ?_ ?_ | (refine congrArg vI ?_; first | omega | (dsimp only; omega) | fail) | (refine congrArg some ?_) | omega | exact Nat.le_refl _ | exact congrArg (SV.lst _) (List.take_of_length_le (Nat.le_refl _)).symm))) (by repeat' (first | exact trivial | exact rfl | refine And.intro ?_ ?_ | (refine congrArg vI ?_; first | omega | (dsimp only; omega) | fail) | (refine congrArg some ?_) | omega | exact Nat.le_refl _ | exact congrArg (SV.lst _) (List.take_of_length_le (Nat.le_refl _)).symm)) trivial trivial) ?_
  refine And.intro ⟨(), trivial⟩ (fun (_ : Unit) _ => ?_)
  conv => whnf
  by_cases hlt : idxF (a, b) es 0 < 0
  · have hb : betF n es (a, b) = (0, false) := if_neg fun h => by omega
    conv => whnf
    repeat' (first | (refine tell (fun htest => ?_) (fun htest => ?_) <;> (try dsimp only at htest) <;> first | (exfalso; omega) | (exact absurd rfl htest) | (exact absurd (by decide) htest) | (conv => whnf)) | (refine allG rfl ?_; conv => whnf) | (refine And.intro (by first | omega | assumption | kernel_rfl | exact And.intro rfl rfl | ((try dsimp only [inR, idx, lowOf]); first | omega | (with_reducible decide) | (simp; omega) | fail) | fail) ?_; conv => whnf) | fail)
    exact ⟨(), [], trivial, ⟨congrArg vI (congrArg Prod.fst hb).symm, congrArg vB (congrArg Prod.snd hb).symm, trivial⟩, trivial, trivial⟩
  conv => whnf
  repeat' (first | (refine tell (fun htest => ?_) (fun htest => ?_) <;> (try dsimp only at htest) <;> first | (exfalso; omega) | (exact absurd rfl htest) | (exact absurd (by decide) htest) | (conv => whnf)) | (refine allG rfl ?_; conv => whnf) | (refine And.intro (by first | omega | assumption | kernel_rfl | exact And.intro rfl rfl | ((try dsimp only [inR, idx, lowOf]); first | omega | (with_reducible decide) | (simp; omega) | fail) | fail) ?_; conv => whnf) | fail)
  refine ⟨_, m_right, (n, es), [], false, ?_⟩
  conv => whnf
  refine And.intro (vc0 hg (by (repeat' (first | exact trivial | exact rfl | refine And.intro ?_ ?_ | (refine congrArg vI ?_; first | omega | (dsimp only; omega) | fail) | (refine congrArg some ?_) | omega | exact Nat.le_refl _ | exact congrArg (SV.lst _) (List.take_of_length_le (Nat.le_refl _)).symm))) (by repeat' (first | exact trivial | exact rfl | refine And.intro ?_ ?_ | (refine congrArg vI ?_; first | omega | (dsimp only; omega) | fail) | (refine congrArg some ?_) | omega | exact Nat.le_refl _ | exact congrArg (SV.lst _) (List.take_of_length_le (Nat.le_refl _)).symm)) trivial trivial) ?_
  refine And.intro (right_ex n es) ?_
  intro (c : Bool) (hc : c = true ↔ RightL n es)
  cases c
  · have hb : betF n es (a, b) = (0, false) := if_neg fun h => by have := hc.2 h.1; cases this
    conv => whnf
    repeat' (first | (refine tell (fun htest => ?_) (fun htest => ?_) <;> (try dsimp only at htest) <;> first | (exfalso; omega) | (exact absurd rfl htest) | (exact absurd (by decide) htest) | (conv => whnf)) | (refine allG rfl ?_; conv => whnf) | (refine And.intro (by first | omega | assumption | kernel_rfl | exact And.intro rfl rfl | ((try dsimp only [inR, idx, lowOf]); first | omega | (with_reducible decide) | (simp; omega) | fail) | fail) ?_; conv => whnf) | fail)
    exact ⟨(), [], trivial, ⟨congrArg vI (congrArg Prod.fst hb).symm, congrArg vB (congrArg Prod.snd hb).symm, trivial⟩, trivial, trivial⟩
  · have hb : betF n es (a, b) = (idxF (a, b) es 0, true) := if_pos ⟨hc.1 rfl, by omega⟩
    conv => whnf
    repeat' (first | (refine tell (fun htest => ?_) (fun htest => ?_) <;> (try dsimp only at htest) <;> first | (exfalso; omega) | (exact absurd rfl htest) | (exact absurd (by decide) htest) | (conv => whnf)) | (refine allG rfl ?_; conv => whnf) | (refine And.intro (by first | omega | assumption | kernel_rfl | exact And.intro rfl rfl | ((try dsimp only [inR, idx, lowOf]); first | omega | (with_reducible decide) | (simp; omega) | fail) | fail) ?_; conv => whnf) | fail)
    exact ⟨(), [], trivial, ⟨congrArg vI (congrArg Prod.fst hb).symm, congrArg vB (congrArg Prod.snd hb).symm, trivial⟩, trivial, trivial⟩
end Go.Sx

