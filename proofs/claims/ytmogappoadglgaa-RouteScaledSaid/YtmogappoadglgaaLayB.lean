/-
  Layer 11, part B: the document's Right.
-/
import Derived.Test.YtmogappoadglgaaLayA
namespace Go.Sx
open Go Go.Proofs Go.Proofs.Ytmogappoadglgaa
theorem nodup_get {α : Type} {l : List α} (hn : l.Nodup) {j m : Nat} {a : α} (h1 : l[j]? = some a) (h2 : l[m]? = some a) : j = m := by
  obtain ⟨l1, g1⟩ := List.getElem?_eq_some_iff.1 h1
  obtain ⟨l2, g2⟩ := List.getElem?_eq_some_iff.1 h2
  exact (List.getElem_inj hn).1 (g1.trans g2.symm)
def spRRight : Spec AF := { spRight with pre := fun g => g.2.length ≤ 9223372036854775807 }
theorem m_rright : Meets Try.prog regF 47 spRRight := by
  refine meets Try.func47 96 noWr rfl (by kernel_rfl) (by kernel_rfl) ?_
  rintro ⟨(n : Int), (es : List Edge)⟩ (hl : es.length ≤ 9223372036854775807)
  have fin : ∀ {c : Bool}, (c = true ↔ RightL n es) → spRRight.post (n, es) c := fun h => h
  conv => whnf
  repeat' (first | (refine tell (fun htest => ?_) (fun htest => ?_) <;> (try dsimp only at htest) <;> first | (exfalso; omega) | (exact absurd rfl htest) | (exact absurd (by decide) htest) | (conv => whnf)) | (refine allG rfl ?_; conv => whnf) | (refine And.intro (by first | omega | assumption | kernel_rfl | exact And.intro rfl rfl | ((try dsimp only [inR, idx, lowOf]); first | omega | (with_reducible decide) | (simp; omega) | fail) | fail) ?_; conv => whnf) | fail)
  · exact ⟨false, [], fin (by simp; exact fun h => by have := h.pos; omega), rfl, trivial, trivial⟩
  · exact ⟨false, [], fin (by simp; exact fun h => by have := h.most; omega), rfl, trivial, trivial⟩
  · exact ⟨false, [], fin (by simp; exact fun h => by have := h.len; omega), rfl, trivial, trivial⟩
  have hn1 : 0 < n := by omega
  have hn2 : n ≤ 40 := by omega
  have hl2 : es.length ≤ 120 := by omega
  refine ⟨Nat, fun i => ⟨[(1, .ptr 1001 0 2 0), (3, vI i)], [(1001, layC n es)]⟩, fun i => i ≤ es.length ∧ (∀ e ∈ es.take i, EdgeOk n e) ∧ ((es.take i).map wayE).Nodup, fun i => es.length - i, fun _ _ => rfl, ⟨0, [], ⟨Nat.zero_le _, fun _ h => by simp at h, by simp⟩, ?_⟩, ?_⟩
  · refine ⟨rfl, ?_, ?_, rfl⟩
    all_goals (repeat' (first | exact trivial | exact rfl | refine And.intro ?_ ?_ | (refine congrArg vI ?_; first | omega | (dsimp only; omega) | fail) | (refine congrArg some ?_) | omega | exact Nat.le_refl _ | exact congrArg (SV.lst _) (List.take_of_length_le (Nat.le_refl _)).symm))
  rintro (i : Nat) ⟨(hi : i ≤ es.length), (hok : ∀ e ∈ es.take i, EdgeOk n e), (hnd : ((es.take i).map wayE).Nodup)⟩
  by_cases hlt : i < es.length
  · obtain ⟨e, he⟩ : ∃ e, es[i]? = some e := ⟨_, List.getElem?_eq_getElem hlt⟩
    have hmem : e ∈ es := List.mem_of_getElem? he
    have htk : es.take (i + 1) = es.take i ++ [e] := by rw [List.take_add_one, he]; rfl
    have no : ¬ EdgeOk n e → ¬ RightL n es := fun h1 h2 => h1 (h2.each e hmem)
    conv => whnf
    repeat' (first | (refine tell (fun htest => ?_) (fun htest => ?_) <;> (try dsimp only at htest) <;> first | (exfalso; omega) | (exact absurd rfl htest) | (exact absurd (by decide) htest) | (conv => whnf)) | (refine allG (x := e) (by first | exact he | simpa [List.getElem?_append_right, lowOf] using he | fail) ?_; conv => whnf) | (refine allLst (x := e) (by first | omega | assumption | fail) (by first | exact he | simpa using he | fail) ?_; conv => whnf) | (refine allG rfl ?_; conv => whnf) | (refine And.intro (by first | omega | assumption | kernel_rfl | exact And.intro rfl rfl | ((try dsimp only [inR, idx, lowOf]); first | omega | (with_reducible decide) | (simp; omega) | fail) | fail) ?_; conv => whnf) | fail)
    all_goals try (exact ⟨false, [], fin (by simp; exact no fun h => by obtain ⟨h1, h2, h3, h4, h5, h6, h7⟩ := h; omega), rfl, trivial, trivial⟩)
    have hedge : EdgeOk n e := ⟨by omega, by omega, by omega, by omega, by omega, by omega, by omega⟩
    refine ⟨Nat, fun k => ⟨[(1, .ptr 1001 0 2 0), (3, vI i), (4, .ptr 1004 0 3 0), (5, vI k)], [(1001, layC n es), (1004, .cells [vI e.1, vI e.2.1, vI e.2.2])]⟩, fun k => k ≤ i ∧ ∀ x ∈ es.take k, wayE x ≠ wayE e, fun k => i - k, fun _ _ => rfl, ⟨0, [], ⟨Nat.zero_le _, fun _ h => by simp at h⟩, ?_⟩, ?_⟩
    · refine ⟨rfl, ?_, ?_, rfl⟩
      all_goals (repeat' (first | exact trivial | exact rfl | refine And.intro ?_ ?_ | (refine congrArg vI ?_; first | omega | (dsimp only; omega) | fail) | (refine congrArg some ?_) | omega | exact Nat.le_refl _ | exact congrArg (SV.lst _) (List.take_of_length_le (Nat.le_refl _)).symm))
    rintro (k : Nat) ⟨(hk : k ≤ i), (hkk : ∀ x ∈ es.take k, wayE x ≠ wayE e)⟩
    by_cases hklt : k < i
    · obtain ⟨x, hx⟩ : ∃ x, es[k]? = some x := ⟨_, List.getElem?_eq_getElem (by omega)⟩
      have hkt : es.take (k + 1) = es.take k ++ [x] := by rw [List.take_add_one, hx]; rfl
      have hstep : wayE x ≠ wayE e → ∀ y ∈ es.take (k + 1), wayE y ≠ wayE e := fun h y hy => by
        rw [hkt] at hy
        rcases List.mem_append.1 hy with hy | hy
        · exact hkk y hy
        · simp at hy; subst hy; exact h
      have hsame : wayE x = wayE e → ¬ RightL n es := fun h h2 => by
        have := nodup_get h2.apart (j := k) (m := i) (a := wayE e) (by rw [List.getElem?_map, hx]; exact congrArg some h) (by rw [List.getElem?_map, he]; rfl)
        omega
      conv => whnf
      repeat' (first | (refine tell (fun htest => ?_) (fun htest => ?_) <;> (try dsimp only at htest) <;> first | (exfalso; omega) | (exact absurd rfl htest) | (exact absurd (by decide) htest) | (conv => whnf)) | (refine allG (x := x) (by first | exact hx | simpa [List.getElem?_append_right, lowOf] using hx | fail) ?_; conv => whnf) | (refine allLst (x := x) (by first | omega | assumption | fail) (by first | exact hx | simpa using hx | fail) ?_; conv => whnf) | (refine allG rfl ?_; conv => whnf) | (refine And.intro (by first | omega | assumption | kernel_rfl | exact And.intro rfl rfl | ((try dsimp only [inR, idx, lowOf]); first | omega | (with_reducible decide) | (simp; omega) | fail) | fail) ?_; conv => whnf) | fail)
      · have hr := hsame (Prod.ext (by assumption) (by assumption))
        exact ⟨false, [], fin (by simp; exact hr), rfl, trivial, trivial⟩
      · refine ⟨k + 1, [], ⟨hklt, hstep fun h => absurd (congrArg Prod.snd h) (by assumption)⟩, ?_, rfl, ?_, ?_, rfl⟩
        · dsimp only; first | omega | (simp; done) | (simp; omega)
        all_goals (repeat' (first | exact trivial | exact rfl | refine And.intro ?_ ?_ | (refine congrArg vI ?_; first | omega | (dsimp only; omega) | fail) | (refine congrArg some ?_) | omega | exact Nat.le_refl _ | exact congrArg (SV.lst _) (List.take_of_length_le (Nat.le_refl _)).symm))
      · refine ⟨k + 1, [], ⟨hklt, hstep fun h => absurd (congrArg Prod.fst h) (by assumption)⟩, ?_, rfl, ?_, ?_, rfl⟩
        · dsimp only; first | omega | (simp; done) | (simp; omega)
        all_goals (repeat' (first | exact trivial | exact rfl | refine And.intro ?_ ?_ | (refine congrArg vI ?_; first | omega | (dsimp only; omega) | fail) | (refine congrArg some ?_) | omega | exact Nat.le_refl _ | exact congrArg (SV.lst _) (List.take_of_length_le (Nat.le_refl _)).symm))
    · have hk : k = i := by omega
      subst hk
      have hw : wayE e ∉ (es.take k).map wayE := fun h => by
        obtain ⟨x, h1, h2⟩ := List.mem_map.1 h
        exact hkk x h1 h2
      have hok' : ∀ x ∈ es.take (k + 1), EdgeOk n x := fun x hx => by
        rw [htk] at hx
        rcases List.mem_append.1 hx with hx | hx
        · exact hok x hx
        · simp at hx; subst hx; exact hedge
      conv => whnf
      repeat' (first | (refine tell (fun htest => ?_) (fun htest => ?_) <;> (try dsimp only at htest) <;> first | (exfalso; omega) | (exact absurd rfl htest) | (exact absurd (by decide) htest) | (conv => whnf)) | (refine allG rfl ?_; conv => whnf) | (refine And.intro (by first | omega | assumption | kernel_rfl | exact And.intro rfl rfl | ((try dsimp only [inR, idx, lowOf]); first | omega | (with_reducible decide) | (simp; omega) | fail) | fail) ?_; conv => whnf) | fail)
      refine ⟨k + 1, [], ⟨hlt, hok', by rw [htk, List.map_append, List.nodup_append]; exact ⟨hnd, by simp, fun x hx z hz => by simp at hz; subst hz; exact fun h => hw (h ▸ hx)⟩⟩, ?_, rfl, ?_, ?_, rfl⟩
      · dsimp only; first | omega | (simp; done) | (simp; omega)
      all_goals (repeat' (first | exact trivial | exact rfl | refine And.intro ?_ ?_ | (refine congrArg vI ?_; first | omega | (dsimp only; omega) | fail) | (refine congrArg some ?_) | omega | exact Nat.le_refl _ | exact congrArg (SV.lst _) (List.take_of_length_le (Nat.le_refl _)).symm))
  · have hi : i = es.length := by omega
    subst hi
    rw [List.take_of_length_le (Nat.le_refl _)] at hok hnd
    conv => whnf
    repeat' (first | (refine tell (fun htest => ?_) (fun htest => ?_) <;> (try dsimp only at htest) <;> first | (exfalso; omega) | (exact absurd rfl htest) | (exact absurd (by decide) htest) | (conv => whnf)) | (refine allG rfl ?_; conv => whnf) | (refine And.intro (by first | omega | assumption | kernel_rfl | exact And.intro rfl rfl | ((try dsimp only [inR, idx, lowOf]); first | omega | (with_reducible decide) | (simp; omega) | fail) | fail) ?_; conv => whnf) | fail)
    exact ⟨true, [], fin ⟨fun _ => ⟨hn1, hn2, hl2, hok, hnd⟩, fun _ => rfl⟩, rfl, trivial, trivial⟩
end Go.Sx

