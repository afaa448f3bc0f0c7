/-
  Layer 11, part M: Fit.
-/
import Derived.Test.YtmogappoadglgaaLayL
namespace Go.Sx
open Go Go.Proofs Go.Proofs.Ytmogappoadglgaa
def fitE (n : Int) (r : Int × Int × Int) : Edge := (pickF r.1 n, pickF r.2.1 n, 1 + pickF r.2.2 9)
def fitIn (es : List Edge) (e : Edge) : Bool := decide (e.1 ≠ e.2.1) && es.all fun x => decide (x.1 ≠ e.1) || decide (x.2.1 ≠ e.2.1)
def fitGo (n : Int) : List (Int × Int × Int) → List Edge → List Edge
  | [], es => es
  | r :: t, es => if es.length < 24 then fitGo n t (if fitIn es (fitE n r) then es ++ [fitE n r] else es) else es
def fitN (c : Int) : Int := 1 + pickF c 8
def fitL (c : Int) (l : List (Int × Int × Int)) : List Edge := fitGo (fitN c) l []
def spFit : Spec AF where
  γ := Int × List (Int × Int × Int)
  δ := Unit
  args := fun g => [vI g.1, .lst 66 g.2]
  own := fun _ => []
  pre := fun g => InI g.1 ∧ g.2.length ≤ 9223372036854775807 ∧ ∀ r ∈ g.2, InI r.1 ∧ InI r.2.1 ∧ InI r.2.2
  nnew := 0
  res := fun g _ => layS (fitN g.1) (fitL g.1 g.2)
  own' := fun _ _ => []
  post := fun _ _ => True
theorem fit_no {n : Int} {r : Int × Int × Int} {es : List Edge} (h : pickF r.1 n = pickF r.2.1 n) : fitIn es (fitE n r) = false := by
  unfold fitIn fitE; simp [h]
def fitA (es : List Edge) (e : Edge) : Bool := es.all fun x => decide (x.1 ≠ e.1) || decide (x.2.1 ≠ e.2.1)
theorem fit_yes {n : Int} {r : Int × Int × Int} {es : List Edge} (h : ¬ pickF r.1 n = pickF r.2.1 n) : fitIn es (fitE n r) = fitA es (fitE n r) := by
  unfold fitIn fitA
  rw [decide_eq_true (show (fitE n r).1 ≠ (fitE n r).2.1 from h), Bool.true_and]
theorem fitA_snoc {es : List Edge} {x e : Edge} : fitA (es ++ [x]) e = (fitA es e && (decide (x.1 ≠ e.1) || decide (x.2.1 ≠ e.2.1))) := by simp [fitA]
theorem fitGo_step {n : Int} {l : List (Int × Int × Int)} {i : Nat} {r : Int × Int × Int} {es : List Edge} (hx : l[i]? = some r) (h : es.length < 24) :
    fitGo n (l.drop i) es = fitGo n (l.drop (i + 1)) (if fitIn es (fitE n r) then es ++ [fitE n r] else es) := by
  obtain ⟨l1, rfl⟩ := List.getElem?_eq_some_iff.1 hx
  rw [List.drop_eq_getElem_cons l1, fitGo, if_pos h]
theorem fitGo_full {n : Int} {es : List Edge} (h : ¬ es.length < 24) : ∀ l, fitGo n l es = es
  | [] => rfl
  | _ :: _ => by rw [fitGo, if_neg h]
theorem fit_end {st : St AF} {n : Int} {es es' : List Edge} (h : es = es') (hh : st.h 3000 = some (.arr 54 es) := by rfl) : EntL regF st [vI n, .sl 3000 3 0 es.length] [vI n, .lst 54 es'] := by
  subst h
  refine ⟨rfl, ?_, trivial⟩
  show EntA0 regF st (.sl 3000 3 0 es.length) (.lst 54 es)
  unfold EntA0
  dsimp only
  rw [hh]
  exact ⟨by omega, rfl, congrArg (SV.lst 54) (by simp)⟩
theorem m_fit : Meets Try.prog regF 37 spFit := by
  refine meets Try.func37 93 noWr rfl (by kernel_rfl) (by kernel_rfl) ?_
  rintro ⟨(c : Int), (l : List (Int × Int × Int))⟩ ⟨(hc : InI c), (hl : l.length ≤ 9223372036854775807), (hr : ∀ r ∈ l, InI r.1 ∧ InI r.2.1 ∧ InI r.2.2)⟩
  have h8 := pickF_bd (c := c) (n := 8) (by omega)
  have hn0 : 0 < fitN c ∧ fitN c ≤ 8 := by unfold fitN; omega
  conv => whnf
  repeat' (first | (refine tell (fun htest => ?_) (fun htest => ?_) <;> (try dsimp only at htest) <;> first | (exfalso; omega) | (exact absurd rfl htest) | (exact absurd (by decide) htest) | (conv => whnf)) | (refine allG rfl ?_; conv => whnf) | (refine And.intro (by first | omega | assumption | kernel_rfl | exact And.intro rfl rfl | ((try dsimp only [inR, idx, lowOf]); first | omega | (with_reducible decide) | (simp; omega) | fail) | fail) ?_; conv => whnf) | fail)
  refine ⟨_, m_pick11, (c, 8), [], false, ?_⟩
  conv => whnf
  refine And.intro (vc0 ⟨hc, by show (0 : Int) < 8; decide⟩ (by (repeat' (first | exact trivial | exact rfl | refine And.intro ?_ ?_ | (refine congrArg vI ?_; first | omega | (dsimp only; omega) | fail) | (refine congrArg some ?_) | omega | exact Nat.le_refl _ | exact congrArg (SV.lst _) (List.take_of_length_le (Nat.le_refl _)).symm))) (by repeat' (first | exact trivial | exact rfl | refine And.intro ?_ ?_ | (refine congrArg vI ?_; first | omega | (dsimp only; omega) | fail) | (refine congrArg some ?_) | omega | exact Nat.le_refl _ | exact congrArg (SV.lst _) (List.take_of_length_le (Nat.le_refl _)).symm)) trivial trivial) ?_
  refine And.intro ⟨(), trivial⟩ (fun (_ : Unit) _ => ?_)
  conv => whnf
  conv => whnf
  repeat' (first | (refine tell (fun htest => ?_) (fun htest => ?_) <;> (try dsimp only at htest) <;> first | (exfalso; omega) | (exact absurd rfl htest) | (exact absurd (by decide) htest) | (conv => whnf)) | (refine allG rfl ?_; conv => whnf) | (refine And.intro (by first | omega | assumption | kernel_rfl | exact And.intro rfl rfl | ((try dsimp only [inR, idx, lowOf]); first | omega | (with_reducible decide) | (simp; omega) | fail) | fail) ?_; conv => whnf) | fail)
  refine ⟨Nat × List Edge, fun p => ⟨[(0, vI c), (1, .lst 66 l), (4, .ptr 1004 0 2 0), (5, .ptr 1005 0 2 0), (6, vI p.1)], [(1004, .cells [vI 0, .val (.slice none 0 0)]), (1005, .cells [vI (fitN c), .sl 3000 3 0 p.2.length]), (3000, .arr 54 p.2)]⟩, fun p => p.1 ≤ l.length ∧ p.2.length ≤ 24 ∧ fitGo (fitN c) (l.drop p.1) p.2 = fitGo (fitN c) l [], fun p => l.length - p.1, fun _ _ => rfl, ⟨(0, []), [], ⟨Nat.zero_le _, Nat.zero_le _, rfl⟩, ?_⟩, ?_⟩
  · refine ⟨rfl, ?_, ?_, rfl⟩
    all_goals (repeat' (first | exact trivial | exact rfl | refine And.intro ?_ ?_ | (refine congrArg vI ?_; first | omega | (dsimp only; omega) | fail) | (refine congrArg some ?_) | omega | exact Nat.le_refl _ | exact congrArg (SV.lst _) (List.take_of_length_le (Nat.le_refl _)).symm))
  rintro ⟨(i : Nat), (es : List Edge)⟩ ⟨(hi : i ≤ l.length), (he24 : es.length ≤ 24), (hs : fitGo (fitN c) (l.drop i) es = fitGo (fitN c) l [])⟩
  by_cases hlt : i < l.length
  · obtain ⟨x, hx⟩ : ∃ x, l[i]? = some x := ⟨_, List.getElem?_eq_getElem hlt⟩
    obtain ⟨hx1, hx2, hx3⟩ := hr x (List.mem_of_getElem? hx)
    by_cases h24 : es.length < 24
    · rw [fitGo_step hx h24] at hs
      conv => whnf
      repeat' (first | (refine tell (fun htest => ?_) (fun htest => ?_) <;> (try dsimp only at htest) <;> first | (exfalso; omega) | (exact absurd rfl htest) | (exact absurd (by decide) htest) | (conv => whnf)) | (refine allG (x := x) (by first | exact hx | simpa [List.getElem?_append_right, lowOf] using hx | fail) ?_; conv => whnf) | (refine allLst (x := x) (by first | omega | assumption | fail) (by first | exact hx | simpa using hx | fail) ?_; conv => whnf) | (refine allG rfl ?_; conv => whnf) | (refine And.intro (by first | omega | assumption | kernel_rfl | exact And.intro rfl rfl | ((try dsimp only [inR, idx, lowOf]); first | omega | (with_reducible decide) | (simp; omega) | fail) | fail) ?_; conv => whnf) | fail)
      refine ⟨_, m_pick11, (x.1, fitN c), [], false, ?_⟩
      conv => whnf
      refine And.intro (vc0 ⟨hx1, hn0.1⟩ (by (repeat' (first | exact trivial | exact rfl | refine And.intro ?_ ?_ | (refine congrArg vI ?_; first | omega | (dsimp only; omega) | fail) | (refine congrArg some ?_) | omega | exact Nat.le_refl _ | exact congrArg (SV.lst _) (List.take_of_length_le (Nat.le_refl _)).symm))) (by repeat' (first | exact trivial | exact rfl | refine And.intro ?_ ?_ | (refine congrArg vI ?_; first | omega | (dsimp only; omega) | fail) | (refine congrArg some ?_) | omega | exact Nat.le_refl _ | exact congrArg (SV.lst _) (List.take_of_length_le (Nat.le_refl _)).symm)) trivial trivial) ?_
      refine And.intro ⟨(), trivial⟩ (fun (_ : Unit) _ => ?_)
      conv => whnf
      conv => whnf
      repeat' (first | (refine tell (fun htest => ?_) (fun htest => ?_) <;> (try dsimp only at htest) <;> first | (exfalso; omega) | (exact absurd rfl htest) | (exact absurd (by decide) htest) | (conv => whnf)) | (refine allG (x := x) (by first | exact hx | simpa [List.getElem?_append_right, lowOf] using hx | fail) ?_; conv => whnf) | (refine allLst (x := x) (by first | omega | assumption | fail) (by first | exact hx | simpa using hx | fail) ?_; conv => whnf) | (refine allG rfl ?_; conv => whnf) | (refine And.intro (by first | omega | assumption | kernel_rfl | exact And.intro rfl rfl | ((try dsimp only [inR, idx, lowOf]); first | omega | (with_reducible decide) | (simp; omega) | fail) | fail) ?_; conv => whnf) | fail)
      refine ⟨_, m_pick11, (x.2.1, fitN c), [], false, ?_⟩
      conv => whnf
      refine And.intro (vc0 ⟨hx2, hn0.1⟩ (by (repeat' (first | exact trivial | exact rfl | refine And.intro ?_ ?_ | (refine congrArg vI ?_; first | omega | (dsimp only; omega) | fail) | (refine congrArg some ?_) | omega | exact Nat.le_refl _ | exact congrArg (SV.lst _) (List.take_of_length_le (Nat.le_refl _)).symm))) (by repeat' (first | exact trivial | exact rfl | refine And.intro ?_ ?_ | (refine congrArg vI ?_; first | omega | (dsimp only; omega) | fail) | (refine congrArg some ?_) | omega | exact Nat.le_refl _ | exact congrArg (SV.lst _) (List.take_of_length_le (Nat.le_refl _)).symm)) trivial trivial) ?_
      refine And.intro ⟨(), trivial⟩ (fun (_ : Unit) _ => ?_)
      conv => whnf
      conv => whnf
      repeat' (first | (refine tell (fun htest => ?_) (fun htest => ?_) <;> (try dsimp only at htest) <;> first | (exfalso; omega) | (exact absurd rfl htest) | (exact absurd (by decide) htest) | (conv => whnf)) | (refine allG (x := x) (by first | exact hx | simpa [List.getElem?_append_right, lowOf] using hx | fail) ?_; conv => whnf) | (refine allLst (x := x) (by first | omega | assumption | fail) (by first | exact hx | simpa using hx | fail) ?_; conv => whnf) | (refine allG rfl ?_; conv => whnf) | (refine And.intro (by first | omega | assumption | kernel_rfl | exact And.intro rfl rfl | ((try dsimp only [inR, idx, lowOf]); first | omega | (with_reducible decide) | (simp; omega) | fail) | fail) ?_; conv => whnf) | fail)
      refine ⟨_, m_pick11, (x.2.2, 9), [], false, ?_⟩
      conv => whnf
      refine And.intro (vc0 ⟨hx3, by show (0 : Int) < 9; decide⟩ (by (repeat' (first | exact trivial | exact rfl | refine And.intro ?_ ?_ | (refine congrArg vI ?_; first | omega | (dsimp only; omega) | fail) | (refine congrArg some ?_) | omega | exact Nat.le_refl _ | exact congrArg (SV.lst _) (List.take_of_length_le (Nat.le_refl _)).symm))) (by repeat' (first | exact trivial | exact rfl | refine And.intro ?_ ?_ | (refine congrArg vI ?_; first | omega | (dsimp only; omega) | fail) | (refine congrArg some ?_) | omega | exact Nat.le_refl _ | exact congrArg (SV.lst _) (List.take_of_length_le (Nat.le_refl _)).symm)) trivial trivial) ?_
      refine And.intro ⟨(), trivial⟩ (fun (_ : Unit) _ => ?_)
      conv => whnf
      have h9 := pickF_bd (c := x.2.2) (n := 9) (by omega)
      by_cases hne : pickF x.1 (fitN c) = pickF x.2.1 (fitN c)
      · rw [fit_no hne, if_neg (by simp)] at hs
        conv => whnf
        repeat' (first | (refine tell (fun htest => ?_) (fun htest => ?_) <;> (try dsimp only at htest) <;> first | (exfalso; omega) | (exact absurd rfl htest) | (exact absurd (by decide) htest) | (conv => whnf)) | (refine allG rfl ?_; conv => whnf) | (refine And.intro (by first | omega | assumption | kernel_rfl | exact And.intro rfl rfl | ((try dsimp only [inR, idx, lowOf]); first | omega | (with_reducible decide) | (simp; omega) | fail) | fail) ?_; conv => whnf) | fail)
        refine ⟨Nat, fun j => ⟨[(0, vI c), (1, .lst 66 l), (4, .ptr 1004 0 2 0), (5, .ptr 1005 0 2 0), (6, vI i), (7, .ptr 1007 0 3 0), (8, vB false), (9, vI j)], [(1004, .cells [vI 0, .val (.slice none 0 0)]), (1005, .cells [vI (fitN c), .sl 3000 3 0 es.length]), (3000, .arr 54 es), (1007, .cells [vI (pickF x.1 (fitN c)), vI (pickF x.2.1 (fitN c)), vI (1 + pickF x.2.2 9)])]⟩, fun j => j ≤ es.length, fun j => es.length - j, fun _ _ => rfl, ⟨0, [], Nat.zero_le _, ?_⟩, ?_⟩
        · refine ⟨rfl, ?_, ?_, rfl⟩
          all_goals (repeat' (first | exact trivial | exact rfl | refine And.intro ?_ ?_ | (refine congrArg vI ?_; first | omega | (dsimp only; omega) | fail) | (refine congrArg some ?_) | omega | exact Nat.le_refl _ | exact congrArg (SV.lst _) (List.take_of_length_le (Nat.le_refl _)).symm))
        rintro (j : Nat) (hj : j ≤ es.length)
        by_cases hjl : j < es.length
        · obtain ⟨y, hy⟩ : ∃ y, es[j]? = some y := ⟨_, List.getElem?_eq_getElem hjl⟩
          conv => whnf
          repeat' (first | (refine tell (fun htest => ?_) (fun htest => ?_) <;> (try dsimp only at htest) <;> first | (exfalso; omega) | (exact absurd rfl htest) | (exact absurd (by decide) htest) | (conv => whnf)) | (refine allG (x := y) (by first | exact hy | simpa [List.getElem?_append_right, lowOf] using hy | fail) ?_; conv => whnf) | (refine allLst (x := y) (by first | omega | assumption | fail) (by first | exact hy | simpa using hy | fail) ?_; conv => whnf) | (refine allG rfl ?_; conv => whnf) | (refine And.intro (by first | omega | assumption | kernel_rfl | exact And.intro rfl rfl | ((try dsimp only [inR, idx, lowOf]); first | omega | (with_reducible decide) | (simp; omega) | fail) | fail) ?_; conv => whnf) | fail)
          refine ⟨j + 1, [], hjl, ?_, rfl, ?_, ?_, rfl⟩
          · dsimp only; first | omega | (simp; done) | (simp; omega)
          all_goals (repeat' (first | exact trivial | exact rfl | refine And.intro ?_ ?_ | (refine congrArg vI ?_; first | omega | (dsimp only; omega) | fail) | (refine congrArg some ?_) | omega | exact Nat.le_refl _ | exact congrArg (SV.lst _) (List.take_of_length_le (Nat.le_refl _)).symm))
        · have hj : j = es.length := by omega
          subst hj
          conv => whnf
          repeat' (first | (refine tell (fun htest => ?_) (fun htest => ?_) <;> (try dsimp only at htest) <;> first | (exfalso; omega) | (exact absurd rfl htest) | (exact absurd (by decide) htest) | (conv => whnf)) | (refine allG rfl ?_; conv => whnf) | (refine And.intro (by first | omega | assumption | kernel_rfl | exact And.intro rfl rfl | ((try dsimp only [inR, idx, lowOf]); first | omega | (with_reducible decide) | (simp; omega) | fail) | fail) ?_; conv => whnf) | fail)
          refine ⟨(i + 1, es), [], ⟨hlt, he24, hs⟩, ?_, rfl, ?_, ?_, rfl⟩
          · dsimp only; first | omega | (simp; done) | (simp; omega)
          all_goals (repeat' (first | exact trivial | exact rfl | refine And.intro ?_ ?_ | (refine congrArg vI ?_; first | omega | (dsimp only; omega) | fail) | (refine congrArg some ?_) | omega | exact Nat.le_refl _ | exact congrArg (SV.lst _) (List.take_of_length_le (Nat.le_refl _)).symm))
      · rw [fit_yes hne] at hs
        conv => whnf
        repeat' (first | (refine tell (fun htest => ?_) (fun htest => ?_) <;> (try dsimp only at htest) <;> first | (exfalso; omega) | (exact absurd rfl htest) | (exact absurd (by decide) htest) | (conv => whnf)) | (refine allG rfl ?_; conv => whnf) | (refine And.intro (by first | omega | assumption | kernel_rfl | exact And.intro rfl rfl | ((try dsimp only [inR, idx, lowOf]); first | omega | (with_reducible decide) | (simp; omega) | fail) | fail) ?_; conv => whnf) | fail)
        refine ⟨Nat × Bool, fun p => ⟨[(0, vI c), (1, .lst 66 l), (4, .ptr 1004 0 2 0), (5, .ptr 1005 0 2 0), (6, vI i), (7, .ptr 1007 0 3 0), (8, vB p.2), (9, vI p.1)], [(1004, .cells [vI 0, .val (.slice none 0 0)]), (1005, .cells [vI (fitN c), .sl 3000 3 0 es.length]), (3000, .arr 54 es), (1007, .cells [vI (pickF x.1 (fitN c)), vI (pickF x.2.1 (fitN c)), vI (1 + pickF x.2.2 9)])]⟩, fun p => p.1 ≤ es.length ∧ p.2 = fitA (es.take p.1) (fitE (fitN c) x), fun p => es.length - p.1, fun _ _ => rfl, ⟨(0, true), [], ⟨Nat.zero_le _, rfl⟩, ?_⟩, ?_⟩
        · refine ⟨rfl, ?_, ?_, rfl⟩
          all_goals (repeat' (first | exact trivial | exact rfl | refine And.intro ?_ ?_ | (refine congrArg vI ?_; first | omega | (dsimp only; omega) | fail) | (refine congrArg some ?_) | omega | exact Nat.le_refl _ | exact congrArg (SV.lst _) (List.take_of_length_le (Nat.le_refl _)).symm))
        rintro ⟨(j : Nat), (b : Bool)⟩ ⟨(hj : j ≤ es.length), (hb : b = fitA (es.take j) (fitE (fitN c) x))⟩
        by_cases hjl : j < es.length
        · obtain ⟨y, hy⟩ : ∃ y, es[j]? = some y := ⟨_, List.getElem?_eq_getElem hjl⟩
          have hsn : fitA (es.take (j + 1)) (fitE (fitN c) x) = (b && (decide (y.1 ≠ pickF x.1 (fitN c)) || decide (y.2.1 ≠ pickF x.2.1 (fitN c)))) := by rw [take_snocI hy, fitA_snoc, ← hb]; rfl
          cases b
          · conv => whnf
            repeat' (first | (refine tell (fun htest => ?_) (fun htest => ?_) <;> (try dsimp only at htest) <;> first | (exfalso; omega) | (exact absurd rfl htest) | (exact absurd (by decide) htest) | (conv => whnf)) | (refine allG (x := y) (by first | exact hy | simpa [List.getElem?_append_right, lowOf] using hy | fail) ?_; conv => whnf) | (refine allLst (x := y) (by first | omega | assumption | fail) (by first | exact hy | simpa using hy | fail) ?_; conv => whnf) | (refine allG rfl ?_; conv => whnf) | (refine And.intro (by first | omega | assumption | kernel_rfl | exact And.intro rfl rfl | ((try dsimp only [inR, idx, lowOf]); first | omega | (with_reducible decide) | (simp; omega) | fail) | fail) ?_; conv => whnf) | fail)
            refine ⟨(j + 1, false), [], ⟨hjl, by rw [hsn]; rfl⟩, ?_, rfl, ?_, ?_, rfl⟩
            · dsimp only; first | omega | (simp; done) | (simp; omega)
            all_goals (repeat' (first | exact trivial | exact rfl | refine And.intro ?_ ?_ | (refine congrArg vI ?_; first | omega | (dsimp only; omega) | fail) | (refine congrArg some ?_) | omega | exact Nat.le_refl _ | exact congrArg (SV.lst _) (List.take_of_length_le (Nat.le_refl _)).symm))
          · by_cases h1 : y.1 = pickF x.1 (fitN c)
            · by_cases h2 : y.2.1 = pickF x.2.1 (fitN c)
              · conv => whnf
                repeat' (first | (refine tell (fun htest => ?_) (fun htest => ?_) <;> (try dsimp only at htest) <;> first | (exfalso; omega) | (exact absurd rfl htest) | (exact absurd (by decide) htest) | (conv => whnf)) | (refine allG (x := y) (by first | exact hy | simpa [List.getElem?_append_right, lowOf] using hy | fail) ?_; conv => whnf) | (refine allLst (x := y) (by first | omega | assumption | fail) (by first | exact hy | simpa using hy | fail) ?_; conv => whnf) | (refine allG rfl ?_; conv => whnf) | (refine And.intro (by first | omega | assumption | kernel_rfl | exact And.intro rfl rfl | ((try dsimp only [inR, idx, lowOf]); first | omega | (with_reducible decide) | (simp; omega) | fail) | fail) ?_; conv => whnf) | fail)
                refine ⟨(j + 1, false), [], ⟨hjl, by rw [hsn]; simp [h1, h2]⟩, ?_, rfl, ?_, ?_, rfl⟩
                · dsimp only; first | omega | (simp; done) | (simp; omega)
                all_goals (repeat' (first | exact trivial | exact rfl | refine And.intro ?_ ?_ | (refine congrArg vI ?_; first | omega | (dsimp only; omega) | fail) | (refine congrArg some ?_) | omega | exact Nat.le_refl _ | exact congrArg (SV.lst _) (List.take_of_length_le (Nat.le_refl _)).symm))
              · conv => whnf
                repeat' (first | (refine tell (fun htest => ?_) (fun htest => ?_) <;> (try dsimp only at htest) <;> first | (exfalso; omega) | (exact absurd rfl htest) | (exact absurd (by decide) htest) | (conv => whnf)) | (refine allG (x := y) (by first | exact hy | simpa [List.getElem?_append_right, lowOf] using hy | fail) ?_; conv => whnf) | (refine allLst (x := y) (by first | omega | assumption | fail) (by first | exact hy | simpa using hy | fail) ?_; conv => whnf) | (refine allG rfl ?_; conv => whnf) | (refine And.intro (by first | omega | assumption | kernel_rfl | exact And.intro rfl rfl | ((try dsimp only [inR, idx, lowOf]); first | omega | (with_reducible decide) | (simp; omega) | fail) | fail) ?_; conv => whnf) | fail)
                refine ⟨(j + 1, true), [], ⟨hjl, by rw [hsn]; simp [h2]⟩, ?_, rfl, ?_, ?_, rfl⟩
                · dsimp only; first | omega | (simp; done) | (simp; omega)
                all_goals (repeat' (first | exact trivial | exact rfl | refine And.intro ?_ ?_ | (refine congrArg vI ?_; first | omega | (dsimp only; omega) | fail) | (refine congrArg some ?_) | omega | exact Nat.le_refl _ | exact congrArg (SV.lst _) (List.take_of_length_le (Nat.le_refl _)).symm))
            · conv => whnf
              repeat' (first | (refine tell (fun htest => ?_) (fun htest => ?_) <;> (try dsimp only at htest) <;> first | (exfalso; omega) | (exact absurd rfl htest) | (exact absurd (by decide) htest) | (conv => whnf)) | (refine allG (x := y) (by first | exact hy | simpa [List.getElem?_append_right, lowOf] using hy | fail) ?_; conv => whnf) | (refine allLst (x := y) (by first | omega | assumption | fail) (by first | exact hy | simpa using hy | fail) ?_; conv => whnf) | (refine allG rfl ?_; conv => whnf) | (refine And.intro (by first | omega | assumption | kernel_rfl | exact And.intro rfl rfl | ((try dsimp only [inR, idx, lowOf]); first | omega | (with_reducible decide) | (simp; omega) | fail) | fail) ?_; conv => whnf) | fail)
              refine ⟨(j + 1, true), [], ⟨hjl, by rw [hsn]; simp [h1]⟩, ?_, rfl, ?_, ?_, rfl⟩
              · dsimp only; first | omega | (simp; done) | (simp; omega)
              all_goals (repeat' (first | exact trivial | exact rfl | refine And.intro ?_ ?_ | (refine congrArg vI ?_; first | omega | (dsimp only; omega) | fail) | (refine congrArg some ?_) | omega | exact Nat.le_refl _ | exact congrArg (SV.lst _) (List.take_of_length_le (Nat.le_refl _)).symm))
        · have hj : j = es.length := by omega
          subst hj
          rw [List.take_of_length_le (Nat.le_refl _)] at hb
          rw [← hb] at hs
          cases b
          · rw [if_neg (by simp)] at hs
            conv => whnf
            repeat' (first | (refine tell (fun htest => ?_) (fun htest => ?_) <;> (try dsimp only at htest) <;> first | (exfalso; omega) | (exact absurd rfl htest) | (exact absurd (by decide) htest) | (conv => whnf)) | (refine allG rfl ?_; conv => whnf) | (refine And.intro (by first | omega | assumption | kernel_rfl | exact And.intro rfl rfl | ((try dsimp only [inR, idx, lowOf]); first | omega | (with_reducible decide) | (simp; omega) | fail) | fail) ?_; conv => whnf) | fail)
            refine ⟨(i + 1, es), [], ⟨hlt, he24, hs⟩, ?_, rfl, ?_, ?_, rfl⟩
            · dsimp only; first | omega | (simp; done) | (simp; omega)
            all_goals (repeat' (first | exact trivial | exact rfl | refine And.intro ?_ ?_ | (refine congrArg vI ?_; first | omega | (dsimp only; omega) | fail) | (refine congrArg some ?_) | omega | exact Nat.le_refl _ | exact congrArg (SV.lst _) (List.take_of_length_le (Nat.le_refl _)).symm))
          · rw [if_pos rfl] at hs
            conv => whnf
            repeat' (first | (refine tell (fun htest => ?_) (fun htest => ?_) <;> (try dsimp only at htest) <;> first | (exfalso; omega) | (exact absurd rfl htest) | (exact absurd (by decide) htest) | (conv => whnf)) | (refine allG rfl ?_; conv => whnf) | (refine And.intro (by first | omega | assumption | kernel_rfl | exact And.intro rfl rfl | ((try dsimp only [inR, idx, lowOf]); first | omega | (with_reducible decide) | (simp; omega) | fail) | fail) ?_; conv => whnf) | fail)
            refine ⟨(i + 1, es ++ [fitE (fitN c) x]), [(3000, 1090)], ⟨hlt, by simp; omega, hs⟩, ?_, rfl, ?_, ?_, rfl⟩
            · dsimp only; first | omega | (simp; done) | (simp; omega)
            all_goals (repeat' (first | exact trivial | exact rfl | refine And.intro ?_ ?_ | (refine congrArg vI ?_; first | omega | (dsimp only; omega) | fail) | (refine congrArg some ?_) | omega | exact Nat.le_refl _ | exact congrArg (SV.lst _) (List.take_of_length_le (Nat.le_refl _)).symm))
            · exact congrArg (SV.sl (A := AF) 1090 3 0) (show es.length + 1 = (es ++ [fitE (fitN c) x]).length by simp)
            · exact congrArg (Ct.arr (A := AF) 54) (show (es.drop 0).take es.length ++ [fitE (fitN c) x] = es ++ [fitE (fitN c) x] by simp)
    · rw [fitGo_full h24] at hs
      conv => whnf
      repeat' (first | (refine tell (fun htest => ?_) (fun htest => ?_) <;> (try dsimp only at htest) <;> first | (exfalso; omega) | (exact absurd rfl htest) | (exact absurd (by decide) htest) | (conv => whnf)) | (refine allG rfl ?_; conv => whnf) | (refine And.intro (by first | omega | assumption | kernel_rfl | exact And.intro rfl rfl | ((try dsimp only [inR, idx, lowOf]); first | omega | (with_reducible decide) | (simp; omega) | fail) | fail) ?_; conv => whnf) | fail)
      exact ⟨(), [], trivial, fit_end hs, trivial, trivial⟩
  · rw [List.drop_eq_nil_of_le (by omega)] at hs
    conv => whnf
    repeat' (first | (refine tell (fun htest => ?_) (fun htest => ?_) <;> (try dsimp only at htest) <;> first | (exfalso; omega) | (exact absurd rfl htest) | (exact absurd (by decide) htest) | (conv => whnf)) | (refine allG rfl ?_; conv => whnf) | (refine And.intro (by first | omega | assumption | kernel_rfl | exact And.intro rfl rfl | ((try dsimp only [inR, idx, lowOf]); first | omega | (with_reducible decide) | (simp; omega) | fail) | fail) ?_; conv => whnf) | fail)
    exact ⟨(), [], trivial, fit_end hs, trivial, trivial⟩
end Go.Sx

