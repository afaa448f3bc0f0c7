/-
  The door's seat, part A: pick, Ints, Fit of layer 11.
-/
import Derived.Test.YtmogappoadglgaaDoorZLay
set_option linter.unusedVariables false
set_option linter.unusedSimpArgs false
namespace Go.Sx
open Go Go.Proofs Go.Proofs.YtmogappoadglgaaDoor
theorem m_pick11 : Meets Tryd.prog regF 52 spPick := by
  refine meets Tryd.func52 13 noWr rfl (by kernel_rfl) (by kernel_rfl) ?_
  rintro ⟨(c : Int), (n : Int)⟩ ⟨⟨hc1, hc2⟩, (hn : 0 < n)⟩
  conv => whnf
  repeat' (first | (refine tell (fun htest => ?_) (fun htest => ?_) <;> (try dsimp only at htest) <;> first | (exfalso; omega) | (exact absurd rfl htest) | (exact absurd (by decide) htest) | (conv => whnf)) | (refine allG rfl ?_; conv => whnf) | (refine And.intro (by first | omega | assumption | kernel_rfl | exact And.intro rfl rfl | ((try dsimp only [inR, idx, lowOf]); first | omega | (with_reducible decide) | (simp; omega) | (simp; done) | fail) | fail) ?_; conv => whnf) | fail)
  all_goals exact ⟨(), [], trivial, eI (by unfold pickF; first | rw [if_pos (by assumption)] | rw [if_neg (by assumption)]), trivial, trivial⟩
def spInts : Spec AF where
  γ := List Int × List Int
  δ := Bool
  args := fun g => [.lst 3 g.1, .lst 3 g.2]
  own := fun _ => []
  pre := fun g => g.1.length ≤ 9223372036854775807
  nnew := 0
  res := fun _ c => vB c
  own' := fun _ _ => []
  post := fun g c => (c = true ↔ g.1 = g.2)
theorem take_snocI {α : Type} {l : List α} {i : Nat} {y : α} (h : l[i]? = some y) : l.take (i + 1) = l.take i ++ [y] := by rw [List.take_add_one, h]; rfl
theorem m_ints : Meets Tryd.prog regF 25 spInts := by
  refine meets Tryd.func25 26 noWr rfl (by kernel_rfl) (by kernel_rfl) ?_
  rintro ⟨(a : List Int), (b : List Int)⟩ (hl : a.length ≤ 9223372036854775807)
  by_cases hlen : a.length = b.length
  · conv => whnf
    repeat' (first | (refine tell (fun htest => ?_) (fun htest => ?_) <;> (try dsimp only at htest) <;> first | (exfalso; omega) | (exact absurd rfl htest) | (exact absurd (by decide) htest) | (conv => whnf)) | (refine allG rfl ?_; conv => whnf) | (refine And.intro (by first | omega | assumption | kernel_rfl | exact And.intro rfl rfl | ((try dsimp only [inR, idx, lowOf]); first | omega | (with_reducible decide) | (simp; omega) | (simp; done) | fail) | fail) ?_; conv => whnf) | fail)
    refine ⟨Nat, fun i => ⟨[(0, .lst 3 a), (1, .lst 3 b), (5, vI i)], []⟩, fun i => i ≤ a.length ∧ a.take i = b.take i, fun i => a.length - i, fun _ _ => rfl, ⟨0, [], ⟨Nat.zero_le _, by simp⟩, ?_⟩, ?_⟩
    · refine ⟨rfl, ?_, ?_, rfl⟩
      all_goals (repeat' (first | exact trivial | exact rfl | refine And.intro ?_ ?_ | (refine congrArg vI ?_; first | omega | (dsimp only; omega) | fail) | (refine congrArg some ?_) | omega | exact Nat.le_refl _ | exact congrArg (SV.lst _) (List.take_of_length_le (Nat.le_refl _)).symm))
    rintro (i : Nat) ⟨(hi : i ≤ a.length), (hs : a.take i = b.take i)⟩
    by_cases hlt : i < a.length
    · have hobt : ∃ x, a[i]? = some x := ⟨_, List.getElem?_eq_getElem hlt⟩
      obtain ⟨x, hx⟩ := hobt
      have hobt : ∃ y, b[i]? = some y := ⟨_, List.getElem?_eq_getElem (by omega)⟩
      obtain ⟨y, hy⟩ := hobt
      by_cases hxy : x = y
      · conv => whnf
        repeat' (first | (refine tell (fun htest => ?_) (fun htest => ?_) <;> (try dsimp only at htest) <;> first | (exfalso; omega) | (exact absurd rfl htest) | (exact absurd (by decide) htest) | (conv => whnf)) | (refine allG (x := x) (by first | exact hx | simpa [List.getElem?_append_right, lowOf] using hx | fail) ?_; conv => whnf) | (refine allLst (x := x) (by first | omega | assumption | fail) (by first | exact hx | simpa using hx | fail) ?_; conv => whnf) | (refine allG (x := y) (by first | exact hy | simpa [List.getElem?_append_right, lowOf] using hy | fail) ?_; conv => whnf) | (refine allLst (x := y) (by first | omega | assumption | fail) (by first | exact hy | simpa using hy | fail) ?_; conv => whnf) | (refine allG rfl ?_; conv => whnf) | (refine And.intro (by first | omega | assumption | kernel_rfl | exact And.intro rfl rfl | ((try dsimp only [inR, idx, lowOf]); first | omega | (with_reducible decide) | (simp; omega) | (simp; done) | fail) | fail) ?_; conv => whnf) | fail)
        refine ⟨i + 1, [], ⟨hlt, by rw [take_snocI hx, take_snocI hy, hs, hxy]⟩, ?_, rfl, ?_, ?_, rfl⟩
        · dsimp only; first | omega | (simp; done) | (simp; omega)
        all_goals (repeat' (first | exact trivial | exact rfl | refine And.intro ?_ ?_ | (refine congrArg vI ?_; first | omega | (dsimp only; omega) | fail) | (refine congrArg some ?_) | omega | exact Nat.le_refl _ | exact congrArg (SV.lst _) (List.take_of_length_le (Nat.le_refl _)).symm))
      · have hne : ¬ a = b := fun h => by subst h; rw [hx] at hy; cases hy; exact hxy rfl
        conv => whnf
        repeat' (first | (refine tell (fun htest => ?_) (fun htest => ?_) <;> (try dsimp only at htest) <;> first | (exfalso; omega) | (exact absurd rfl htest) | (exact absurd (by decide) htest) | (conv => whnf)) | (refine allG (x := x) (by first | exact hx | simpa [List.getElem?_append_right, lowOf] using hx | fail) ?_; conv => whnf) | (refine allLst (x := x) (by first | omega | assumption | fail) (by first | exact hx | simpa using hx | fail) ?_; conv => whnf) | (refine allG (x := y) (by first | exact hy | simpa [List.getElem?_append_right, lowOf] using hy | fail) ?_; conv => whnf) | (refine allLst (x := y) (by first | omega | assumption | fail) (by first | exact hy | simpa using hy | fail) ?_; conv => whnf) | (refine allG rfl ?_; conv => whnf) | (refine And.intro (by first | omega | assumption | kernel_rfl | exact And.intro rfl rfl | ((try dsimp only [inR, idx, lowOf]); first | omega | (with_reducible decide) | (simp; omega) | (simp; done) | fail) | fail) ?_; conv => whnf) | fail)
        exact ⟨false, [], by simp [spInts, hne], rfl, trivial, trivial⟩
    · have hab : a = b := by
        rw [List.take_of_length_le (by omega), List.take_of_length_le (by omega)] at hs; exact hs
      conv => whnf
      repeat' (first | (refine tell (fun htest => ?_) (fun htest => ?_) <;> (try dsimp only at htest) <;> first | (exfalso; omega) | (exact absurd rfl htest) | (exact absurd (by decide) htest) | (conv => whnf)) | (refine allG rfl ?_; conv => whnf) | (refine And.intro (by first | omega | assumption | kernel_rfl | exact And.intro rfl rfl | ((try dsimp only [inR, idx, lowOf]); first | omega | (with_reducible decide) | (simp; omega) | (simp; done) | fail) | fail) ?_; conv => whnf) | fail)
      exact ⟨true, [], by simp [spInts, hab], rfl, trivial, trivial⟩
  · have hne : ¬ a = b := fun h => hlen (by rw [h])
    conv => whnf
    repeat' (first | (refine tell (fun htest => ?_) (fun htest => ?_) <;> (try dsimp only at htest) <;> first | (exfalso; omega) | (exact absurd rfl htest) | (exact absurd (by decide) htest) | (conv => whnf)) | (refine allG rfl ?_; conv => whnf) | (refine And.intro (by first | omega | assumption | kernel_rfl | exact And.intro rfl rfl | ((try dsimp only [inR, idx, lowOf]); first | omega | (with_reducible decide) | (simp; omega) | (simp; done) | fail) | fail) ?_; conv => whnf) | fail)
    exact ⟨false, [], by simp [spInts, hne], rfl, trivial, trivial⟩
def fitE (n : Int) (r : Int × Int × Int) : Edge := (pickF r.1 n, pickF r.2.1 n, 1 + pickF r.2.2 9)
def fitIn (es : List Edge) (e : Edge) : Bool := decide (e.1 ≠ e.2.1) && es.all fun x => decide (x.1 ≠ e.1) || decide (x.2.1 ≠ e.2.1)
def fitGo (n : Int) : List (Int × Int × Int) → List Edge → List Edge
  | [], es => es
  | r :: t, es => if es.length < 24 then fitGo n t (if fitIn es (fitE n r) then es ++ [fitE n r] else es) else es
def fitN (c : Int) : Int := 1 + pickF c 8
def fitL (c : Int) (l : List (Int × Int × Int)) : List Edge := fitGo (fitN c) l []
def spFit : Spec AF where
  γ := Int × List (Int × Int × Int)
  δ := Unit
  args := fun g => [vI g.1, .lst 96 g.2]
  own := fun _ => []
  pre := fun g => InI g.1 ∧ g.2.length ≤ 9223372036854775807 ∧ ∀ r ∈ g.2, InI r.1 ∧ InI r.2.1 ∧ InI r.2.2
  nnew := 0
  res := fun g _ => layS (fitN g.1) (fitL g.1 g.2)
  own' := fun _ _ => []
  post := fun _ _ => True
theorem fit_no {n : Int} {r : Int × Int × Int} {es : List Edge} (h : pickF r.1 n = pickF r.2.1 n) : fitIn es (fitE n r) = false := by
  unfold fitIn fitE; simp [h]
def fitA (es : List Edge) (e : Edge) : Bool := es.all fun x => decide (x.1 ≠ e.1) || decide (x.2.1 ≠ e.2.1)
theorem fit_yes {n : Int} {r : Int × Int × Int} {es : List Edge} (h : ¬ pickF r.1 n = pickF r.2.1 n) : fitIn es (fitE n r) = fitA es (fitE n r) := by
  unfold fitIn fitA
  rw [decide_eq_true (show (fitE n r).1 ≠ (fitE n r).2.1 from h), Bool.true_and]
theorem fitA_snoc {es : List Edge} {x e : Edge} : fitA (es ++ [x]) e = (fitA es e && (decide (x.1 ≠ e.1) || decide (x.2.1 ≠ e.2.1))) := by simp [fitA]
theorem fitGo_step {n : Int} {l : List (Int × Int × Int)} {i : Nat} {r : Int × Int × Int} {es : List Edge} (hx : l[i]? = some r) (h : es.length < 24) :
    fitGo n (l.drop i) es = fitGo n (l.drop (i + 1)) (if fitIn es (fitE n r) then es ++ [fitE n r] else es) := by
  have hobt := List.getElem?_eq_some_iff.1 hx
  obtain ⟨l1, rfl⟩ := hobt
  rw [List.drop_eq_getElem_cons l1, fitGo, if_pos h]
theorem fitGo_full {n : Int} {es : List Edge} (h : ¬ es.length < 24) : ∀ l, fitGo n l es = es
  | [] => rfl
  | _ :: _ => by rw [fitGo, if_neg h]
theorem fit_end {st : St AF} {n : Int} {es es' : List Edge} (h : es = es') (hh : st.h 3000 = some (.arr 49 es) := by rfl) : EntL regF st [vI n, .sl 3000 3 0 es.length] [vI n, .lst 49 es'] := by
  subst h
  refine ⟨rfl, ?_, trivial⟩
  show EntA0 regF st (.sl 3000 3 0 es.length) (.lst 49 es)
  unfold EntA0
  dsimp only
  rw [hh]
  exact ⟨by omega, rfl, congrArg (SV.lst 49) (by simp)⟩
theorem m_fit : Meets Tryd.prog regF 20 spFit := by
  refine meets Tryd.func20 93 noWr rfl (by kernel_rfl) (by kernel_rfl) ?_
  rintro ⟨(c : Int), (l : List (Int × Int × Int))⟩ ⟨(hc : InI c), (hl : l.length ≤ 9223372036854775807), (hr : ∀ r ∈ l, InI r.1 ∧ InI r.2.1 ∧ InI r.2.2)⟩
  have h8 := pickF_bd (c := c) (n := 8) (by omega)
  have hn0 : 0 < fitN c ∧ fitN c ≤ 8 := by unfold fitN; omega
  conv => whnf
  repeat' (first | (refine tell (fun htest => ?_) (fun htest => ?_) <;> (try dsimp only at htest) <;> first | (exfalso; omega) | (exact absurd rfl htest) | (exact absurd (by decide) htest) | (conv => whnf)) | (refine allG rfl ?_; conv => whnf) | (refine And.intro (by first | omega | assumption | kernel_rfl | exact And.intro rfl rfl | ((try dsimp only [inR, idx, lowOf]); first | omega | (with_reducible decide) | (simp; omega) | (simp; done) | fail) | fail) ?_; conv => whnf) | fail)
  refine ⟨_, m_pick11, (c, 8), [], false, ?_⟩
  conv => whnf
  refine And.intro (vc0 ⟨hc, by show (0 : Int) < 8; decide⟩ (by (repeat' (first | exact trivial | exact rfl | refine And.intro ?_ ?_ | (refine congrArg vI ?_; first | omega | (dsimp only; omega) | fail) | (refine congrArg some ?_) | omega | exact Nat.le_refl _ | exact congrArg (SV.lst _) (List.take_of_length_le (Nat.le_refl _)).symm))) (by repeat' (first | exact trivial | exact rfl | refine And.intro ?_ ?_ | (refine congrArg vI ?_; first | omega | (dsimp only; omega) | fail) | (refine congrArg some ?_) | omega | exact Nat.le_refl _ | exact congrArg (SV.lst _) (List.take_of_length_le (Nat.le_refl _)).symm)) trivial trivial) ?_
  refine And.intro ⟨(), trivial⟩ (fun (_ : Unit) _ => ?_)
  conv => whnf
  conv => whnf
  repeat' (first | (refine tell (fun htest => ?_) (fun htest => ?_) <;> (try dsimp only at htest) <;> first | (exfalso; omega) | (exact absurd rfl htest) | (exact absurd (by decide) htest) | (conv => whnf)) | (refine allG rfl ?_; conv => whnf) | (refine And.intro (by first | omega | assumption | kernel_rfl | exact And.intro rfl rfl | ((try dsimp only [inR, idx, lowOf]); first | omega | (with_reducible decide) | (simp; omega) | (simp; done) | fail) | fail) ?_; conv => whnf) | fail)
  refine ⟨Nat × List Edge, fun p => ⟨[(0, vI c), (1, .lst 96 l), (4, .ptr 1004 0 2 0), (5, .ptr 1005 0 2 0), (6, vI p.1)], [(1004, .cells [vI 0, .val (.slice none 0 0)]), (1005, .cells [vI (fitN c), .sl 3000 3 0 p.2.length]), (3000, .arr 49 p.2)]⟩, fun p => p.1 ≤ l.length ∧ p.2.length ≤ 24 ∧ fitGo (fitN c) (l.drop p.1) p.2 = fitGo (fitN c) l [], fun p => l.length - p.1, fun _ _ => rfl, ⟨(0, []), [], ⟨Nat.zero_le _, Nat.zero_le _, rfl⟩, ?_⟩, ?_⟩
  · refine ⟨rfl, ?_, ?_, rfl⟩
    all_goals (repeat' (first | exact trivial | exact rfl | refine And.intro ?_ ?_ | (refine congrArg vI ?_; first | omega | (dsimp only; omega) | fail) | (refine congrArg some ?_) | omega | exact Nat.le_refl _ | exact congrArg (SV.lst _) (List.take_of_length_le (Nat.le_refl _)).symm))
  rintro ⟨(i : Nat), (es : List Edge)⟩ ⟨(hi : i ≤ l.length), (he24 : es.length ≤ 24), (hs : fitGo (fitN c) (l.drop i) es = fitGo (fitN c) l [])⟩
  by_cases hlt : i < l.length
  · have hobt : ∃ x, l[i]? = some x := ⟨_, List.getElem?_eq_getElem hlt⟩
    obtain ⟨x, hx⟩ := hobt
    have hobt := hr x (List.mem_of_getElem? hx)
    obtain ⟨hx1, hx2, hx3⟩ := hobt
    by_cases h24 : es.length < 24
    · rw [fitGo_step hx h24] at hs
      conv => whnf
      repeat' (first | (refine tell (fun htest => ?_) (fun htest => ?_) <;> (try dsimp only at htest) <;> first | (exfalso; omega) | (exact absurd rfl htest) | (exact absurd (by decide) htest) | (conv => whnf)) | (refine allG (x := x) (by first | exact hx | simpa [List.getElem?_append_right, lowOf] using hx | fail) ?_; conv => whnf) | (refine allLst (x := x) (by first | omega | assumption | fail) (by first | exact hx | simpa using hx | fail) ?_; conv => whnf) | (refine allG rfl ?_; conv => whnf) | (refine And.intro (by first | omega | assumption | kernel_rfl | exact And.intro rfl rfl | ((try dsimp only [inR, idx, lowOf]); first | omega | (with_reducible decide) | (simp; omega) | (simp; done) | fail) | fail) ?_; conv => whnf) | fail)
      refine ⟨_, m_pick11, (x.1, fitN c), [], false, ?_⟩
      conv => whnf
      refine And.intro (vc0 ⟨hx1, hn0.1⟩ (by (repeat' (first | exact trivial | exact rfl | refine And.intro ?_ ?_ | (refine congrArg vI ?_; first | omega | (dsimp only; omega) | fail) | (refine congrArg some ?_) | omega | exact Nat.le_refl _ | exact congrArg (SV.lst _) (List.take_of_length_le (Nat.le_refl _)).symm))) (by repeat' (first | exact trivial | exact rfl | refine And.intro ?_ ?_ | (refine congrArg vI ?_; first | omega | (dsimp only; omega) | fail) | (refine congrArg some ?_) | omega | exact Nat.le_refl _ | exact congrArg (SV.lst _) (List.take_of_length_le (Nat.le_refl _)).symm)) trivial trivial) ?_
      refine And.intro ⟨(), trivial⟩ (fun (_ : Unit) _ => ?_)
      conv => whnf
      conv => whnf
      repeat' (first | (refine tell (fun htest => ?_) (fun htest => ?_) <;> (try dsimp only at htest) <;> first | (exfalso; omega) | (exact absurd rfl htest) | (exact absurd (by decide) htest) | (conv => whnf)) | (refine allG (x := x) (by first | exact hx | simpa [List.getElem?_append_right, lowOf] using hx | fail) ?_; conv => whnf) | (refine allLst (x := x) (by first | omega | assumption | fail) (by first | exact hx | simpa using hx | fail) ?_; conv => whnf) | (refine allG rfl ?_; conv => whnf) | (refine And.intro (by first | omega | assumption | kernel_rfl | exact And.intro rfl rfl | ((try dsimp only [inR, idx, lowOf]); first | omega | (with_reducible decide) | (simp; omega) | (simp; done) | fail) | fail) ?_; conv => whnf) | fail)
      refine ⟨_, m_pick11, (x.2.1, fitN c), [], false, ?_⟩
      conv => whnf
      refine And.intro (vc0 ⟨hx2, hn0.1⟩ (by (repeat' (first | exact trivial | exact rfl | refine And.intro ?_ ?_ | (refine congrArg vI ?_; first | omega | (dsimp only; omega) | fail) | (refine congrArg some ?_) | omega | exact Nat.le_refl _ | exact congrArg (SV.lst _) (List.take_of_length_le (Nat.le_refl _)).symm))) (by repeat' (first | exact trivial | exact rfl | refine And.intro ?_ ?_ | (refine congrArg vI ?_; first | omega | (dsimp only; omega) | fail) | (refine congrArg some ?_) | omega | exact Nat.le_refl _ | exact congrArg (SV.lst _) (List.take_of_length_le (Nat.le_refl _)).symm)) trivial trivial) ?_
      refine And.intro ⟨(), trivial⟩ (fun (_ : Unit) _ => ?_)
      conv => whnf
      conv => whnf
      repeat' (first | (refine tell (fun htest => ?_) (fun htest => ?_) <;> (try dsimp only at htest) <;> first | (exfalso; omega) | (exact absurd rfl htest) | (exact absurd (by decide) htest) | (conv => whnf)) | (refine allG (x := x) (by first | exact hx | simpa [List.getElem?_append_right, lowOf] using hx | fail) ?_; conv => whnf) | (refine allLst (x := x) (by first | omega | assumption | fail) (by first | exact hx | simpa using hx | fail) ?_; conv => whnf) | (refine allG rfl ?_; conv => whnf) | (refine And.intro (by first | omega | assumption | kernel_rfl | exact And.intro rfl rfl | ((try dsimp only [inR, idx, lowOf]); first | omega | (with_reducible decide) | (simp; omega) | (simp; done) | fail) | fail) ?_; conv => whnf) | fail)
      refine ⟨_, m_pick11, (x.2.2, 9), [], false, ?_⟩
      conv => whnf
      refine And.intro (vc0 ⟨hx3, by show (0 : Int) < 9; decide⟩ (by (repeat' (first | exact trivial | exact rfl | refine And.intro ?_ ?_ | (refine congrArg vI ?_; first | omega | (dsimp only; omega) | fail) | (refine congrArg some ?_) | omega | exact Nat.le_refl _ | exact congrArg (SV.lst _) (List.take_of_length_le (Nat.le_refl _)).symm))) (by repeat' (first | exact trivial | exact rfl | refine And.intro ?_ ?_ | (refine congrArg vI ?_; first | omega | (dsimp only; omega) | fail) | (refine congrArg some ?_) | omega | exact Nat.le_refl _ | exact congrArg (SV.lst _) (List.take_of_length_le (Nat.le_refl _)).symm)) trivial trivial) ?_
      refine And.intro ⟨(), trivial⟩ (fun (_ : Unit) _ => ?_)
      conv => whnf
      have h9 := pickF_bd (c := x.2.2) (n := 9) (by omega)
      by_cases hne : pickF x.1 (fitN c) = pickF x.2.1 (fitN c)
      · rw [fit_no hne, if_neg (by simp)] at hs
        conv => whnf
        repeat' (first | (refine tell (fun htest => ?_) (fun htest => ?_) <;> (try dsimp only at htest) <;> first | (exfalso; omega) | (exact absurd rfl htest) | (exact absurd (by decide) htest) | (conv => whnf)) | (refine allG rfl ?_; conv => whnf) | (refine And.intro (by first | omega | assumption | kernel_rfl | exact And.intro rfl rfl | ((try dsimp only [inR, idx, lowOf]); first | omega | (with_reducible decide) | (simp; omega) | (simp; done) | fail) | fail) ?_; conv => whnf) | fail)
        refine ⟨Nat, fun j => ⟨[(0, vI c), (1, .lst 96 l), (4, .ptr 1004 0 2 0), (5, .ptr 1005 0 2 0), (6, vI i), (7, .ptr 1007 0 3 0), (8, vB false), (9, vI j)], [(1004, .cells [vI 0, .val (.slice none 0 0)]), (1005, .cells [vI (fitN c), .sl 3000 3 0 es.length]), (3000, .arr 49 es), (1007, .cells [vI (pickF x.1 (fitN c)), vI (pickF x.2.1 (fitN c)), vI (1 + pickF x.2.2 9)])]⟩, fun j => j ≤ es.length, fun j => es.length - j, fun _ _ => rfl, ⟨0, [], Nat.zero_le _, ?_⟩, ?_⟩
        · refine ⟨rfl, ?_, ?_, rfl⟩
          all_goals (repeat' (first | exact trivial | exact rfl | refine And.intro ?_ ?_ | (refine congrArg vI ?_; first | omega | (dsimp only; omega) | fail) | (refine congrArg some ?_) | omega | exact Nat.le_refl _ | exact congrArg (SV.lst _) (List.take_of_length_le (Nat.le_refl _)).symm))
        rintro (j : Nat) (hj : j ≤ es.length)
        by_cases hjl : j < es.length
        · have hobt : ∃ y, es[j]? = some y := ⟨_, List.getElem?_eq_getElem hjl⟩
          obtain ⟨y, hy⟩ := hobt
          conv => whnf
          repeat' (first | (refine tell (fun htest => ?_) (fun htest => ?_) <;> (try dsimp only at htest) <;> first | (exfalso; omega) | (exact absurd rfl htest) | (exact absurd (by decide) htest) | (conv => whnf)) | (refine allG (x := y) (by first | exact hy | simpa [List.getElem?_append_right, lowOf] using hy | fail) ?_; conv => whnf) | (refine allLst (x := y) (by first | omega | assumption | fail) (by first | exact hy | simpa using hy | fail) ?_; conv => whnf) | (refine allG rfl ?_; conv => whnf) | (refine And.intro (by first | omega | assumption | kernel_rfl | exact And.intro rfl rfl | ((try dsimp only [inR, idx, lowOf]); first | omega | (with_reducible decide) | (simp; omega) | (simp; done) | fail) | fail) ?_; conv => whnf) | fail)
          refine ⟨j + 1, [], hjl, ?_, rfl, ?_, ?_, rfl⟩
          · dsimp only; first | omega | (simp; done) | (simp; omega)
          all_goals (repeat' (first | exact trivial | exact rfl | refine And.intro ?_ ?_ | (refine congrArg vI ?_; first | omega | (dsimp only; omega) | fail) | (refine congrArg some ?_) | omega | exact Nat.le_refl _ | exact congrArg (SV.lst _) (List.take_of_length_le (Nat.le_refl _)).symm))
        · have hj : j = es.length := by omega
          subst hj
          conv => whnf
          repeat' (first | (refine tell (fun htest => ?_) (fun htest => ?_) <;> (try dsimp only at htest) <;> first | (exfalso; omega) | (exact absurd rfl htest) | (exact absurd (by decide) htest) | (conv => whnf)) | (refine allG rfl ?_; conv => whnf) | (refine And.intro (by first | omega | assumption | kernel_rfl | exact And.intro rfl rfl | ((try dsimp only [inR, idx, lowOf]); first | omega | (with_reducible decide) | (simp; omega) | (simp; done) | fail) | fail) ?_; conv => whnf) | fail)
          refine ⟨(i + 1, es), [], ⟨hlt, he24, hs⟩, ?_, rfl, ?_, ?_, rfl⟩
          · dsimp only; first | omega | (simp; done) | (simp; omega)
          all_goals (repeat' (first | exact trivial | exact rfl | refine And.intro ?_ ?_ | (refine congrArg vI ?_; first | omega | (dsimp only; omega) | fail) | (refine congrArg some ?_) | omega | exact Nat.le_refl _ | exact congrArg (SV.lst _) (List.take_of_length_le (Nat.le_refl _)).symm))
      · rw [fit_yes hne] at hs
        conv => whnf
        repeat' (first | (refine tell (fun htest => ?_) (fun htest => ?_) <;> (try dsimp only at htest) <;> first | (exfalso; omega) | (exact absurd rfl htest) | (exact absurd (by decide) htest) | (conv => whnf)) | (refine allG rfl ?_; conv => whnf) | (refine And.intro (by first | omega | assumption | kernel_rfl | exact And.intro rfl rfl | ((try dsimp only [inR, idx, lowOf]); first | omega | (with_reducible decide) | (simp; omega) | (simp; done) | fail) | fail) ?_; conv => whnf) | fail)
        refine ⟨Nat × Bool, fun p => ⟨[(0, vI c), (1, .lst 96 l), (4, .ptr 1004 0 2 0), (5, .ptr 1005 0 2 0), (6, vI i), (7, .ptr 1007 0 3 0), (8, vB p.2), (9, vI p.1)], [(1004, .cells [vI 0, .val (.slice none 0 0)]), (1005, .cells [vI (fitN c), .sl 3000 3 0 es.length]), (3000, .arr 49 es), (1007, .cells [vI (pickF x.1 (fitN c)), vI (pickF x.2.1 (fitN c)), vI (1 + pickF x.2.2 9)])]⟩, fun p => p.1 ≤ es.length ∧ p.2 = fitA (es.take p.1) (fitE (fitN c) x), fun p => es.length - p.1, fun _ _ => rfl, ⟨(0, true), [], ⟨Nat.zero_le _, rfl⟩, ?_⟩, ?_⟩
        · refine ⟨rfl, ?_, ?_, rfl⟩
          all_goals (repeat' (first | exact trivial | exact rfl | refine And.intro ?_ ?_ | (refine congrArg vI ?_; first | omega | (dsimp only; omega) | fail) | (refine congrArg some ?_) | omega | exact Nat.le_refl _ | exact congrArg (SV.lst _) (List.take_of_length_le (Nat.le_refl _)).symm))
        rintro ⟨(j : Nat), (b : Bool)⟩ ⟨(hj : j ≤ es.length), (hb : b = fitA (es.take j) (fitE (fitN c) x))⟩
        by_cases hjl : j < es.length
        · have hobt : ∃ y, es[j]? = some y := ⟨_, List.getElem?_eq_getElem hjl⟩
          obtain ⟨y, hy⟩ := hobt
          have hsn : fitA (es.take (j + 1)) (fitE (fitN c) x) = (b && (decide (y.1 ≠ pickF x.1 (fitN c)) || decide (y.2.1 ≠ pickF x.2.1 (fitN c)))) := by rw [take_snocI hy, fitA_snoc, ← hb]; rfl
          cases b
          · conv => whnf
            repeat' (first | (refine tell (fun htest => ?_) (fun htest => ?_) <;> (try dsimp only at htest) <;> first | (exfalso; omega) | (exact absurd rfl htest) | (exact absurd (by decide) htest) | (conv => whnf)) | (refine allG (x := y) (by first | exact hy | simpa [List.getElem?_append_right, lowOf] using hy | fail) ?_; conv => whnf) | (refine allLst (x := y) (by first | omega | assumption | fail) (by first | exact hy | simpa using hy | fail) ?_; conv => whnf) | (refine allG rfl ?_; conv => whnf) | (refine And.intro (by first | omega | assumption | kernel_rfl | exact And.intro rfl rfl | ((try dsimp only [inR, idx, lowOf]); first | omega | (with_reducible decide) | (simp; omega) | (simp; done) | fail) | fail) ?_; conv => whnf) | fail)
            refine ⟨(j + 1, false), [], ⟨hjl, by rw [hsn]; rfl⟩, ?_, rfl, ?_, ?_, rfl⟩
            · dsimp only; first | omega | (simp; done) | (simp; omega)
            all_goals (repeat' (first | exact trivial | exact rfl | refine And.intro ?_ ?_ | (refine congrArg vI ?_; first | omega | (dsimp only; omega) | fail) | (refine congrArg some ?_) | omega | exact Nat.le_refl _ | exact congrArg (SV.lst _) (List.take_of_length_le (Nat.le_refl _)).symm))
          · by_cases h1 : y.1 = pickF x.1 (fitN c)
            · by_cases h2 : y.2.1 = pickF x.2.1 (fitN c)
              · conv => whnf
                repeat' (first | (refine tell (fun htest => ?_) (fun htest => ?_) <;> (try dsimp only at htest) <;> first | (exfalso; omega) | (exact absurd rfl htest) | (exact absurd (by decide) htest) | (conv => whnf)) | (refine allG (x := y) (by first | exact hy | simpa [List.getElem?_append_right, lowOf] using hy | fail) ?_; conv => whnf) | (refine allLst (x := y) (by first | omega | assumption | fail) (by first | exact hy | simpa using hy | fail) ?_; conv => whnf) | (refine allG rfl ?_; conv => whnf) | (refine And.intro (by first | omega | assumption | kernel_rfl | exact And.intro rfl rfl | ((try dsimp only [inR, idx, lowOf]); first | omega | (with_reducible decide) | (simp; omega) | (simp; done) | fail) | fail) ?_; conv => whnf) | fail)
                refine ⟨(j + 1, false), [], ⟨hjl, by rw [hsn]; simp [h1, h2]⟩, ?_, rfl, ?_, ?_, rfl⟩
                · dsimp only; first | omega | (simp; done) | (simp; omega)
                all_goals (repeat' (first | exact trivial | exact rfl | refine And.intro ?_ ?_ | (refine congrArg vI ?_; first | omega | (dsimp only; omega) | fail) | (refine congrArg some ?_) | omega | exact Nat.le_refl _ | exact congrArg (SV.lst _) (List.take_of_length_le (Nat.le_refl _)).symm))
              · conv => whnf
                repeat' (first | (refine tell (fun htest => ?_) (fun htest => ?_) <;> (try dsimp only at htest) <;> first | (exfalso; omega) | (exact absurd rfl htest) | (exact absurd (by decide) htest) | (conv => whnf)) | (refine allG (x := y) (by first | exact hy | simpa [List.getElem?_append_right, lowOf] using hy | fail) ?_; conv => whnf) | (refine allLst (x := y) (by first | omega | assumption | fail) (by first | exact hy | simpa using hy | fail) ?_; conv => whnf) | (refine allG rfl ?_; conv => whnf) | (refine And.intro (by first | omega | assumption | kernel_rfl | exact And.intro rfl rfl | ((try dsimp only [inR, idx, lowOf]); first | omega | (with_reducible decide) | (simp; omega) | (simp; done) | fail) | fail) ?_; conv => whnf) | fail)
                refine ⟨(j + 1, true), [], ⟨hjl, by rw [hsn]; simp [h2]⟩, ?_, rfl, ?_, ?_, rfl⟩
                · dsimp only; first | omega | (simp; done) | (simp; omega)
                all_goals (repeat' (first | exact trivial | exact rfl | refine And.intro ?_ ?_ | (refine congrArg vI ?_; first | omega | (dsimp only; omega) | fail) | (refine congrArg some ?_) | omega | exact Nat.le_refl _ | exact congrArg (SV.lst _) (List.take_of_length_le (Nat.le_refl _)).symm))
            · conv => whnf
              repeat' (first | (refine tell (fun htest => ?_) (fun htest => ?_) <;> (try dsimp only at htest) <;> first | (exfalso; omega) | (exact absurd rfl htest) | (exact absurd (by decide) htest) | (conv => whnf)) | (refine allG (x := y) (by first | exact hy | simpa [List.getElem?_append_right, lowOf] using hy | fail) ?_; conv => whnf) | (refine allLst (x := y) (by first | omega | assumption | fail) (by first | exact hy | simpa using hy | fail) ?_; conv => whnf) | (refine allG rfl ?_; conv => whnf) | (refine And.intro (by first | omega | assumption | kernel_rfl | exact And.intro rfl rfl | ((try dsimp only [inR, idx, lowOf]); first | omega | (with_reducible decide) | (simp; omega) | (simp; done) | fail) | fail) ?_; conv => whnf) | fail)
              refine ⟨(j + 1, true), [], ⟨hjl, by rw [hsn]; simp [h1]⟩, ?_, rfl, ?_, ?_, rfl⟩
              · dsimp only; first | omega | (simp; done) | (simp; omega)
              all_goals (repeat' (first | exact trivial | exact rfl | refine And.intro ?_ ?_ | (refine congrArg vI ?_; first | omega | (dsimp only; omega) | fail) | (refine congrArg some ?_) | omega | exact Nat.le_refl _ | exact congrArg (SV.lst _) (List.take_of_length_le (Nat.le_refl _)).symm))
        · have hj : j = es.length := by omega
          subst hj
          rw [List.take_of_length_le (Nat.le_refl _)] at hb
          rw [← hb] at hs
          cases b
          · rw [if_neg (by simp)] at hs
            conv => whnf
            repeat' (first | (refine tell (fun htest => ?_) (fun htest => ?_) <;> (try dsimp only at htest) <;> first | (exfalso; omega) | (exact absurd rfl htest) | (exact absurd (by decide) htest) | (conv => whnf)) | (refine allG rfl ?_; conv => whnf) | (refine And.intro (by first | omega | assumption | kernel_rfl | exact And.intro rfl rfl | ((try dsimp only [inR, idx, lowOf]); first | omega | (with_reducible decide) | (simp; omega) | (simp; done) | fail) | fail) ?_; conv => whnf) | fail)
            refine ⟨(i + 1, es), [], ⟨hlt, he24, hs⟩, ?_, rfl, ?_, ?_, rfl⟩
            · dsimp only; first | omega | (simp; done) | (simp; omega)
            all_goals (repeat' (first | exact trivial | exact rfl | refine And.intro ?_ ?_ | (refine congrArg vI ?_; first | omega | (dsimp only; omega) | fail) | (refine congrArg some ?_) | omega | exact Nat.le_refl _ | exact congrArg (SV.lst _) (List.take_of_length_le (Nat.le_refl _)).symm))
          · rw [if_pos rfl] at hs
            conv => whnf
            repeat' (first | (refine tell (fun htest => ?_) (fun htest => ?_) <;> (try dsimp only at htest) <;> first | (exfalso; omega) | (exact absurd rfl htest) | (exact absurd (by decide) htest) | (conv => whnf)) | (refine allG rfl ?_; conv => whnf) | (refine And.intro (by first | omega | assumption | kernel_rfl | exact And.intro rfl rfl | ((try dsimp only [inR, idx, lowOf]); first | omega | (with_reducible decide) | (simp; omega) | (simp; done) | fail) | fail) ?_; conv => whnf) | fail)
            refine ⟨(i + 1, es ++ [fitE (fitN c) x]), [(3000, 1090)], ⟨hlt, by simp; omega, hs⟩, ?_, rfl, ?_, ?_, rfl⟩
            · dsimp only; first | omega | (simp; done) | (simp; omega)
            all_goals (repeat' (first | exact trivial | exact rfl | refine And.intro ?_ ?_ | (refine congrArg vI ?_; first | omega | (dsimp only; omega) | fail) | (refine congrArg some ?_) | omega | exact Nat.le_refl _ | exact congrArg (SV.lst _) (List.take_of_length_le (Nat.le_refl _)).symm))
            · exact congrArg (SV.sl (A := AF) 1090 3 0) (show es.length + 1 = (es ++ [fitE (fitN c) x]).length by simp)
            · exact congrArg (Ct.arr (A := AF) 49) (show (es.drop 0).take es.length ++ [fitE (fitN c) x] = es ++ [fitE (fitN c) x] by simp)
    · rw [fitGo_full h24] at hs
      conv => whnf
      repeat' (first | (refine tell (fun htest => ?_) (fun htest => ?_) <;> (try dsimp only at htest) <;> first | (exfalso; omega) | (exact absurd rfl htest) | (exact absurd (by decide) htest) | (conv => whnf)) | (refine allG rfl ?_; conv => whnf) | (refine And.intro (by first | omega | assumption | kernel_rfl | exact And.intro rfl rfl | ((try dsimp only [inR, idx, lowOf]); first | omega | (with_reducible decide) | (simp; omega) | (simp; done) | fail) | fail) ?_; conv => whnf) | fail)
      exact ⟨(), [], trivial, fit_end hs, trivial, trivial⟩
  · rw [List.drop_eq_nil_of_le (by omega)] at hs
    conv => whnf
    repeat' (first | (refine tell (fun htest => ?_) (fun htest => ?_) <;> (try dsimp only at htest) <;> first | (exfalso; omega) | (exact absurd rfl htest) | (exact absurd (by decide) htest) | (conv => whnf)) | (refine allG rfl ?_; conv => whnf) | (refine And.intro (by first | omega | assumption | kernel_rfl | exact And.intro rfl rfl | ((try dsimp only [inR, idx, lowOf]); first | omega | (with_reducible decide) | (simp; omega) | (simp; done) | fail) | fail) ?_; conv => whnf) | fail)
    exact ⟨(), [], trivial, fit_end hs, trivial, trivial⟩
theorem RightL.good {n : Int} {es : List Edge} (h : RightL n es) : GoodL es := by
  have := h.len
  have := h.most
  refine ⟨by omega, fun e he => ?_⟩
  have hobt := h.each e he
  obtain ⟨a, b, c, d, _⟩ := hobt
  exact ⟨⟨by omega, by omega⟩, ⟨by omega, by omega⟩⟩
theorem fitE_ok {n : Int} (hn : 0 < n) (r : Int × Int × Int) (hne : (fitE n r).1 ≠ (fitE n r).2.1) : EdgeOk n (fitE n r) := by
  have h1 := pickF_bd (c := r.1) hn
  have h2 := pickF_bd (c := r.2.1) hn
  have h3 := pickF_bd (c := r.2.2) (n := 9) (by omega)
  refine ⟨h1.1, h1.2, h2.1, h2.2, hne, ?_, ?_⟩
  · show 1 ≤ 1 + pickF r.2.2 9; omega
  · show 1 + pickF r.2.2 9 ≤ 1000; omega
theorem fitIn_iff {es : List Edge} {e : Edge} : fitIn es e = true ↔ e.1 ≠ e.2.1 ∧ wayE e ∉ es.map wayE := by
  unfold fitIn
  simp only [Bool.and_eq_true, decide_eq_true_iff, List.all_eq_true, Bool.or_eq_true, List.mem_map, not_exists, not_and]
  refine and_congr Iff.rfl ⟨fun h x hx he => ?_, fun h x hx => ?_⟩
  · have h1 : x.1 = e.1 := (Prod.ext_iff.1 he).1
    have h2 : x.2.1 = e.2.1 := (Prod.ext_iff.1 he).2
    rcases h x hx with h3 | h3
    · exact h3 h1
    · exact h3 h2
  · by_cases h1 : x.1 = e.1
    · right; intro h2; exact h x hx (Prod.ext h1 h2)
    · exact .inl h1
theorem fitGo_right {n : Int} (hn : 0 < n) (hn8 : n ≤ 40) : ∀ (l : List (Int × Int × Int)) (es : List Edge), RightL n es → es.length ≤ 24 → RightL n (fitGo n l es) ∧ (fitGo n l es).length ≤ 24
  | [], es, h, hl => ⟨h, hl⟩
  | r :: t, es, h, hl => by
    unfold fitGo
    by_cases h24 : es.length < 24
    · rw [if_pos h24]
      by_cases hin : fitIn es (fitE n r) = true
      · rw [if_pos hin]
        have hobt := fitIn_iff.1 hin
        obtain ⟨h1, h2⟩ := hobt
        refine fitGo_right hn hn8 t _ ⟨hn, hn8, by simp; omega, fun e he => ?_, ?_⟩ (by simp; omega)
        · rcases List.mem_append.1 he with he | he
          · exact h.each e he
          · simp at he; subst he; exact fitE_ok hn r h1
        · rw [List.map_append, List.nodup_append]
          refine ⟨h.apart, by simp, fun a ha b hb => ?_⟩
          simp at hb; subst hb
          rintro rfl
          exact h2 ha
      · rw [if_neg hin]
        exact fitGo_right hn hn8 t es h hl
    · rw [if_neg h24]; exact ⟨h, hl⟩
theorem fitN_bd (c : Int) : 0 < fitN c ∧ fitN c ≤ 8 := by
  have h8 := pickF_bd (c := c) (n := 8) (by omega)
  unfold fitN; omega
theorem fit_right (c : Int) (l : List (Int × Int × Int)) : RightL (fitN c) (fitL c l) ∧ (fitL c l).length ≤ 24 := by
  have h := fitN_bd c
  exact fitGo_right h.1 (by omega) l [] ⟨h.1, by omega, by simp, fun e he => by simp at he, by simp⟩ (by simp)
end Go.Sx


/-
  The door's seat, part B: of lists of numbers: Contains, Index, and the like; first_ex, pred_ex.
-/
namespace Go.Sx
open Go Go.Proofs Go.Proofs.YtmogappoadglgaaDoor
def spHas : Spec AF where
  γ := List Int × Int
  δ := Bool
  args := fun g => [.lst 3 g.1, vI g.2]
  own := fun _ => []
  pre := fun g => g.1.length ≤ 9223372036854775807
  nnew := 0
  res := fun _ c => vB c
  own' := fun _ _ => []
  post := fun g c => (c = true ↔ g.2 ∈ g.1)
theorem has_ex (a : List Int) (k : Int) : ∃ c : Bool, c = true ↔ k ∈ a := by
  by_cases h : k ∈ a
  · exact ⟨true, by simp [h]⟩
  · exact ⟨false, by simp [h]⟩
def spIndex : Spec AF where
  γ := List Int × Int
  δ := Int
  args := fun g => [.lst 3 g.1, vI g.2]
  own := fun _ => []
  pre := fun g => g.1.length ≤ 9223372036854775807
  nnew := 0
  res := fun _ r => vI r
  own' := fun _ _ => []
  post := fun g r => (0 ≤ r ↔ g.2 ∈ g.1)
theorem m_index : Meets Tryd.prog regF 88 spIndex := by
  refine meets Tryd.func88 19 noWr rfl (by kernel_rfl) (by kernel_rfl) ?_
  rintro ⟨(a : List Int), (k : Int)⟩ (hl : a.length ≤ 9223372036854775807)
  conv => whnf
  repeat' (first | (refine tell (fun htest => ?_) (fun htest => ?_) <;> (try dsimp only at htest) <;> first | (exfalso; omega) | (exact absurd rfl htest) | (exact absurd (by decide) htest) | (conv => whnf)) | (refine allG rfl ?_; conv => whnf) | (refine And.intro (by first | omega | assumption | kernel_rfl | exact And.intro rfl rfl | ((try dsimp only [inR, idx, lowOf]); first | omega | (with_reducible decide) | (simp; omega) | (simp; done) | fail) | fail) ?_; conv => whnf) | fail)
  refine ⟨Nat, fun i => ⟨[(0, .lst 3 a), (1, vI k), (7, vI a.length), (8, vI i)], []⟩, fun i => i ≤ a.length ∧ k ∉ a.take i, fun i => a.length - i, fun _ _ => rfl, ⟨0, [], ⟨Nat.zero_le _, by simp⟩, ?_⟩, ?_⟩
  · refine ⟨rfl, ?_, ?_, rfl⟩
    all_goals (repeat' (first | exact trivial | exact rfl | refine And.intro ?_ ?_ | (refine congrArg vI ?_; first | omega | (dsimp only; omega) | fail) | (refine congrArg some ?_) | omega | exact Nat.le_refl _ | exact congrArg (SV.lst _) (List.take_of_length_le (Nat.le_refl _)).symm))
  rintro (i : Nat) ⟨(hi : i ≤ a.length), (hs : k ∉ a.take i)⟩
  by_cases hlt : i < a.length
  · have hobt : ∃ x, a[i]? = some x := ⟨_, List.getElem?_eq_getElem hlt⟩
    obtain ⟨x, hx⟩ := hobt
    have hm := List.mem_of_getElem? hx
    by_cases hxk : x = k
    · conv => whnf
      repeat' (first | (refine tell (fun htest => ?_) (fun htest => ?_) <;> (try dsimp only at htest) <;> first | (exfalso; omega) | (exact absurd rfl htest) | (exact absurd (by decide) htest) | (conv => whnf)) | (refine allG (x := x) (by first | exact hx | simpa [List.getElem?_append_right, lowOf] using hx | fail) ?_; conv => whnf) | (refine allLst (x := x) (by first | omega | assumption | fail) (by first | exact hx | simpa using hx | fail) ?_; conv => whnf) | (refine allG rfl ?_; conv => whnf) | (refine And.intro (by first | omega | assumption | kernel_rfl | exact And.intro rfl rfl | ((try dsimp only [inR, idx, lowOf]); first | omega | (with_reducible decide) | (simp; omega) | (simp; done) | fail) | fail) ?_; conv => whnf) | fail)
      exact ⟨(i : Int), [], ⟨fun _ => hxk ▸ hm, fun _ => Int.natCast_nonneg i⟩, rfl, trivial, trivial⟩
    · conv => whnf
      repeat' (first | (refine tell (fun htest => ?_) (fun htest => ?_) <;> (try dsimp only at htest) <;> first | (exfalso; omega) | (exact absurd rfl htest) | (exact absurd (by decide) htest) | (conv => whnf)) | (refine allG (x := x) (by first | exact hx | simpa [List.getElem?_append_right, lowOf] using hx | fail) ?_; conv => whnf) | (refine allLst (x := x) (by first | omega | assumption | fail) (by first | exact hx | simpa using hx | fail) ?_; conv => whnf) | (refine allG rfl ?_; conv => whnf) | (refine And.intro (by first | omega | assumption | kernel_rfl | exact And.intro rfl rfl | ((try dsimp only [inR, idx, lowOf]); first | omega | (with_reducible decide) | (simp; omega) | (simp; done) | fail) | fail) ?_; conv => whnf) | fail)
      refine ⟨i + 1, [], ⟨hlt, by rw [take_snocI hx]; simp; exact ⟨hs, fun h => hxk h.symm⟩⟩, ?_, rfl, ?_, ?_, rfl⟩
      · dsimp only; first | omega | (simp; done) | (simp; omega)
      all_goals (repeat' (first | exact trivial | exact rfl | refine And.intro ?_ ?_ | (refine congrArg vI ?_; first | omega | (dsimp only; omega) | fail) | (refine congrArg some ?_) | omega | exact Nat.le_refl _ | exact congrArg (SV.lst _) (List.take_of_length_le (Nat.le_refl _)).symm))
  · rw [List.take_of_length_le (by omega)] at hs
    conv => whnf
    repeat' (first | (refine tell (fun htest => ?_) (fun htest => ?_) <;> (try dsimp only at htest) <;> first | (exfalso; omega) | (exact absurd rfl htest) | (exact absurd (by decide) htest) | (conv => whnf)) | (refine allG rfl ?_; conv => whnf) | (refine And.intro (by first | omega | assumption | kernel_rfl | exact And.intro rfl rfl | ((try dsimp only [inR, idx, lowOf]); first | omega | (with_reducible decide) | (simp; omega) | (simp; done) | fail) | fail) ?_; conv => whnf) | fail)
    exact ⟨(-1 : Int), [], ⟨fun h => absurd h (by decide), fun h => absurd h hs⟩, rfl, trivial, trivial⟩
theorem index_ex (a : List Int) (k : Int) : ∃ r : Int, 0 ≤ r ↔ k ∈ a := by
  by_cases h : k ∈ a
  · exact ⟨0, by simp [h]⟩
  · exact ⟨-1, by simp [h]⟩
theorem m_contains : Meets Tryd.prog regF 65 spHas := by
  refine meets Tryd.func65 9 noWr rfl (by kernel_rfl) (by kernel_rfl) ?_
  rintro ⟨(a : List Int), (k : Int)⟩ (hl : a.length ≤ 9223372036854775807)
  conv => whnf
  repeat' (first | (refine tell (fun htest => ?_) (fun htest => ?_) <;> (try dsimp only at htest) <;> first | (exfalso; omega) | (exact absurd rfl htest) | (exact absurd (by decide) htest) | (conv => whnf)) | (refine allG rfl ?_; conv => whnf) | (refine And.intro (by first | omega | assumption | kernel_rfl | exact And.intro rfl rfl | ((try dsimp only [inR, idx, lowOf]); first | omega | (with_reducible decide) | (simp; omega) | (simp; done) | fail) | fail) ?_; conv => whnf) | fail)
  refine ⟨_, m_index, (a, k), [], false, ?_⟩
  conv => whnf
  refine And.intro (vc0 hl (by (repeat' (first | exact trivial | exact rfl | refine And.intro ?_ ?_ | (refine congrArg vI ?_; first | omega | (dsimp only; omega) | fail) | (refine congrArg some ?_) | omega | exact Nat.le_refl _ | exact congrArg (SV.lst _) (List.take_of_length_le (Nat.le_refl _)).symm))) (by repeat' (first | exact trivial | exact rfl | refine And.intro ?_ ?_ | (refine congrArg vI ?_; first | omega | (dsimp only; omega) | fail) | (refine congrArg some ?_) | omega | exact Nat.le_refl _ | exact congrArg (SV.lst _) (List.take_of_length_le (Nat.le_refl _)).symm)) trivial trivial) ?_
  refine And.intro (index_ex a k) ?_
  intro (r : Int) (hr : 0 ≤ r ↔ k ∈ a)
  conv => whnf
  repeat' (first | (refine tell (fun htest => ?_) (fun htest => ?_) <;> (try dsimp only at htest) <;> first | (exfalso; omega) | (exact absurd rfl htest) | (exact absurd (by decide) htest) | (conv => whnf)) | (refine allG rfl ?_; conv => whnf) | (refine And.intro (by first | omega | assumption | kernel_rfl | exact And.intro rfl rfl | ((try dsimp only [inR, idx, lowOf]); first | omega | (with_reducible decide) | (simp; omega) | (simp; done) | fail) | fail) ?_; conv => whnf) | fail)
  · exact ⟨true, [], ⟨fun _ => hr.1 (by assumption), fun _ => rfl⟩, rfl, trivial, trivial⟩
  · exact ⟨false, [], ⟨fun h => (by cases h), fun h => absurd (hr.2 h) (by omega)⟩, rfl, trivial, trivial⟩
theorem first_ex {p : Nat → Prop} {n : Nat} (h : ∃ i, i < n ∧ p i) : ∃ i, i < n ∧ p i ∧ ∀ j, j < i → ¬ p j := by
  obtain ⟨i, hi, hp⟩ := h
  have hobt := ex_min (p := p) i hp
  obtain ⟨m, hm, hmin⟩ := hobt
  exact ⟨m, Nat.lt_of_le_of_lt (hmin i hp) hi, hm, fun j hj hpj => by have := hmin j hpj; omega⟩
/-- Of a list's places the first one that is right. -/
def FirstAt (os : List Int) (P : Int → Prop) (r : Int) : Prop :=
  (∃ (j : Nat) (i : Int), r = j ∧ os[j]? = some i ∧ P i ∧ ∀ (j' : Nat) i', j' < j → os[j']? = some i' → ¬ P i') ∨ (r = -1 ∧ ∀ i ∈ os, ¬ P i)
theorem firstAt_ex (os : List Int) (P : Int → Prop) : ∃ r, FirstAt os P r := by
  by_cases h : ∃ j, j < os.length ∧ ∃ i, os[j]? = some i ∧ P i
  · have hobt := first_ex h
    obtain ⟨j, _, ⟨i, h1, h2⟩, h3⟩ := hobt
    exact ⟨j, .inl ⟨j, i, rfl, h1, h2, fun j' i' hj hi hp => h3 j' hj ⟨i', hi, hp⟩⟩⟩
  · refine ⟨-1, .inr ⟨rfl, fun i hi hp => ?_⟩⟩
    have hobt := List.getElem?_of_mem hi
    obtain ⟨j, hj⟩ := hobt
    exact h ⟨j, (List.getElem?_eq_some_iff.1 hj).1, i, hj, hp⟩
theorem pred_ex (p : Prop) : ∃ c : Bool, (c = true ↔ p) := by
  by_cases h : p
  · exact ⟨true, by simp [h]⟩
  · exact ⟨false, by simp [h]⟩
theorem den_nil {R : Reg AF} {ρ : Rho} {O : Nat → Prop} {w : World} {v : Value} (T : Nat) (h : Den R ρ O w (.val (.slice none 0 0)) v) : Den R ρ O w (.lst T []) v := by
  cases h; exact .lnil T 0 rfl
/-- A function that meets one of several specifications, case by case, meets this one. -/
theorem meets_told {f : Nat} {S' : Spec AF} (he : Enters Tryd.prog f) (hp : ∀ g', S'.pre g' → ∃ (S : Spec AF) (_ : Meets Tryd.prog regF f S) (g : S.γ), S.pre g ∧ S.args g = S'.args g' ∧ S.own g = S'.own g' ∧ S.nnew = S'.nnew ∧
    ∀ d, S.post g d → ∃ d', S'.post g' d' ∧ S'.own' g' d' = S.own' g d ∧ (∀ ρ O w v, Den regF ρ O w (S.res g d) v → Den regF ρ O w (S'.res g' d') v) ∧ (∀ n : Nat → Bool, men n (S.res g d) = true → men n (S'.res g' d') = true)) : Meets Tryd.prog regF f S' := by
  refine ⟨he, fun g' hg' X ρ w vs h1 h2 h3 h4 => ?_⟩
  have hobt := hp g' hg'
  obtain ⟨S, hm, g, hg, ea, eo, en, hd⟩ := hobt
  rw [← ea] at h3
  rw [← eo] at h2 h3 h4
  refine (hm.2 g hg X ρ w vs h1 h2 h3 h4).mono fun e w' hh => ?_
  obtain ⟨d, ρ', v, q1, q2, q3, q4, q5, q6, q7, q8, q9, q10⟩ := hh
  have hobt := hd d q1
  obtain ⟨d', p1, p2, p3, p4⟩ := hobt
  refine ⟨d', ρ', v, p1, q2, ?_, ?_, ?_, ?_, ?_, ?_, ?_, ?_⟩
  · rw [← eo]; exact q3
  · rw [p2]; exact p3 _ _ _ _ q4
  · rw [p2]; exact q5
  · rw [p2, ← eo]; exact q6
  · rw [p2, ← eo, ← en]; exact q7
  · rw [← eo, ← en]; exact p4 _ q8
  · rw [p2, ← eo, ← en]; exact q9
  · rw [← eo]; exact q10
end Go.Sx


/-
  Layer 21, part A: Clone, DeleteFunc, Min, Equal; Shared, Kind.
-/
namespace Go.Sx
open Go Go.Proofs Go.Proofs.YtmogappoadglgaaDoor
def comm (xs ys : List Int) : List Int := xs.filter fun x => decide (x ∈ ys)
theorem comm_snoc {xs ys : List Int} {i : Nat} {x : Int} (h : xs[i]? = some x) : comm (xs.take (i + 1)) ys = comm (xs.take i) ys ++ (if x ∈ ys then [x] else []) := by
  rw [take_snocI h]
  unfold comm
  rw [List.filter_append]
  by_cases hx : x ∈ ys <;> simp [hx]
def spNotIn : Spec AF where
  γ := Int × List Int
  δ := Bool
  args := fun g => [vI g.1, .ptr 0 0 1 0]
  own := fun g => [.cells [.lst 3 g.2]]
  pre := fun g => g.2.length ≤ 9223372036854775807
  nnew := 0
  res := fun _ c => vB c
  own' := fun g _ => [some (.cells [.lst 3 g.2])]
  post := fun g c => (c = true ↔ g.1 ∉ g.2)
theorem m_notIn : Meets Tryd.prog regF 64 spNotIn := by
  refine meets Tryd.func64 8 noWr rfl (by kernel_rfl) (by kernel_rfl) ?_
  rintro ⟨(x : Int), (ys : List Int)⟩ (hl : ys.length ≤ 9223372036854775807)
  conv => whnf
  repeat' (first | (refine tell (fun htest => ?_) (fun htest => ?_) <;> (try dsimp only at htest) <;> first | (exfalso; omega) | (exact absurd rfl htest) | (exact absurd (by decide) htest) | (conv => whnf)) | (refine allG rfl ?_; conv => whnf) | (refine And.intro (by first | omega | assumption | kernel_rfl | exact And.intro rfl rfl | ((try dsimp only [inR, idx, lowOf]); first | omega | (with_reducible decide) | (simp; omega) | (simp; done) | fail) | fail) ?_; conv => whnf) | fail)
  refine ⟨_, m_contains, (ys, x), [], false, ?_⟩
  conv => whnf
  refine And.intro (vc0 hl (by (repeat' (first | exact trivial | exact rfl | refine And.intro ?_ ?_ | (refine congrArg vI ?_; first | omega | (dsimp only; omega) | fail) | (refine congrArg some ?_) | omega | exact Nat.le_refl _ | exact congrArg (SV.lst _) (List.take_of_length_le (Nat.le_refl _)).symm))) (by repeat' (first | exact trivial | exact rfl | refine And.intro ?_ ?_ | (refine congrArg vI ?_; first | omega | (dsimp only; omega) | fail) | (refine congrArg some ?_) | omega | exact Nat.le_refl _ | exact congrArg (SV.lst _) (List.take_of_length_le (Nat.le_refl _)).symm)) trivial trivial) ?_
  refine And.intro (has_ex _ _) ?_
  intro (c : Bool) (hc : c = true ↔ x ∈ ys)
  cases c
  · conv => whnf
    repeat' (first | (refine tell (fun htest => ?_) (fun htest => ?_) <;> (try dsimp only at htest) <;> first | (exfalso; omega) | (exact absurd rfl htest) | (exact absurd (by decide) htest) | (conv => whnf)) | (refine allG rfl ?_; conv => whnf) | (refine And.intro (by first | omega | assumption | kernel_rfl | exact And.intro rfl rfl | ((try dsimp only [inR, idx, lowOf]); first | omega | (with_reducible decide) | (simp; omega) | (simp; done) | fail) | fail) ?_; conv => whnf) | fail)
    exact ⟨true, [], ⟨fun _ h => (by have := hc.2 h; cases this), fun _ => rfl⟩, rfl, ⟨⟨rfl, trivial⟩, trivial⟩, trivial⟩
  · conv => whnf
    repeat' (first | (refine tell (fun htest => ?_) (fun htest => ?_) <;> (try dsimp only at htest) <;> first | (exfalso; omega) | (exact absurd rfl htest) | (exact absurd (by decide) htest) | (conv => whnf)) | (refine allG rfl ?_; conv => whnf) | (refine And.intro (by first | omega | assumption | kernel_rfl | exact And.intro rfl rfl | ((try dsimp only [inR, idx, lowOf]); first | omega | (with_reducible decide) | (simp; omega) | (simp; done) | fail) | fail) ?_; conv => whnf) | fail)
    exact ⟨false, [], ⟨fun h => (by cases h), fun h => absurd (hc.1 rfl) h⟩, rfl, ⟨⟨rfl, trivial⟩, trivial⟩, trivial⟩
def spIdxN : Spec AF where
  γ := List Int × List Int
  δ := Int
  args := fun g => [.lst 3 g.1, .fn (.func 64) [] [.ptr 0 0 1 0]]
  own := fun g => [.cells [.lst 3 g.2]]
  pre := fun g => g.1.length ≤ 9223372036854775806 ∧ g.2.length ≤ 9223372036854775807
  nnew := 0
  res := fun _ r => vI r
  own' := fun g _ => [some (.cells [.lst 3 g.2])]
  post := fun g r => FirstAt g.1 (fun x => x ∉ g.2) r
theorem m_idxN : Meets Tryd.prog regF 87 spIdxN := by
  refine meets Tryd.func87 19 noWr rfl (by kernel_rfl) (by kernel_rfl) ?_
  rintro ⟨(xs : List Int), (ys : List Int)⟩ ⟨(hx : xs.length ≤ 9223372036854775806), (hy : ys.length ≤ 9223372036854775807)⟩
  conv => whnf
  repeat' (first | (refine tell (fun htest => ?_) (fun htest => ?_) <;> (try dsimp only at htest) <;> first | (exfalso; omega) | (exact absurd rfl htest) | (exact absurd (by decide) htest) | (conv => whnf)) | (refine allG rfl ?_; conv => whnf) | (refine And.intro (by first | omega | assumption | kernel_rfl | exact And.intro rfl rfl | ((try dsimp only [inR, idx, lowOf]); first | omega | (with_reducible decide) | (simp; omega) | (simp; done) | fail) | fail) ?_; conv => whnf) | fail)
  refine ⟨Nat, fun j => ⟨[(0, .lst 3 xs), (1, .fn (.func 64) [] [.ptr 0 0 1 0]), (7, vI xs.length), (8, vI j)], [(0, .cells [.lst 3 ys])]⟩, fun j => j ≤ xs.length ∧ ∀ (j' : Nat) i', j' < j → xs[j']? = some i' → ¬ (i' ∉ ys), fun j => xs.length - j, fun _ _ => rfl, ⟨0, [], ⟨Nat.zero_le _, fun j' i' h => absurd h (Nat.not_lt_zero _)⟩, ?_⟩, ?_⟩
  · refine ⟨rfl, ?_, ?_, rfl⟩
    all_goals (repeat' (first | exact trivial | exact rfl | refine And.intro ?_ ?_ | (refine congrArg vI ?_; first | omega | (dsimp only; omega) | fail) | (refine congrArg some ?_) | omega | exact Nat.le_refl _ | exact congrArg (SV.lst _) (List.take_of_length_le (Nat.le_refl _)).symm))
  rintro (j : Nat) ⟨(hj : j ≤ xs.length), (hno : ∀ (j' : Nat) i', j' < j → xs[j']? = some i' → ¬ (i' ∉ ys))⟩
  by_cases hlt : j < xs.length
  · have hobt : ∃ x, xs[j]? = some x := ⟨_, List.getElem?_eq_getElem hlt⟩
    obtain ⟨x, hi⟩ := hobt
    conv => whnf
    repeat' (first | (refine tell (fun htest => ?_) (fun htest => ?_) <;> (try dsimp only at htest) <;> first | (exfalso; omega) | (exact absurd rfl htest) | (exact absurd (by decide) htest) | (conv => whnf)) | (refine allG (x := x) (by first | exact hi | simpa [List.getElem?_append_right, lowOf] using hi | fail) ?_; conv => whnf) | (refine allLst (x := x) (by first | omega | assumption | fail) (by first | exact hi | simpa using hi | fail) ?_; conv => whnf) | (refine allG rfl ?_; conv => whnf) | (refine And.intro (by first | omega | assumption | kernel_rfl | exact And.intro rfl rfl | ((try dsimp only [inR, idx, lowOf]); first | omega | (with_reducible decide) | (simp; omega) | (simp; done) | fail) | fail) ?_; conv => whnf) | fail)
    refine ⟨_, m_notIn, (x, ys), [0], false, ?_⟩
    conv => whnf
    refine And.intro (vc0 hy (by (repeat' (first | exact trivial | exact rfl | refine And.intro ?_ ?_ | (refine congrArg vI ?_; first | omega | (dsimp only; omega) | fail) | (refine congrArg some ?_) | omega | exact Nat.le_refl _ | exact congrArg (SV.lst _) (List.take_of_length_le (Nat.le_refl _)).symm))) (by repeat' (first | exact trivial | exact rfl | refine And.intro ?_ ?_ | (refine congrArg vI ?_; first | omega | (dsimp only; omega) | fail) | (refine congrArg some ?_) | omega | exact Nat.le_refl _ | exact congrArg (SV.lst _) (List.take_of_length_le (Nat.le_refl _)).symm)) trivial trivial) ?_
    refine And.intro (pred_ex _) ?_
    intro (c : Bool) (hc : c = true ↔ x ∉ ys)
    cases c
    · have hnx : ∀ (j' : Nat) i', j' < j + 1 → xs[j']? = some i' → ¬ (i' ∉ ys) := fun j' i' h1 h2 h3 => by
        by_cases e : j' = j
        · subst e; rw [hi] at h2; cases h2; have := hc.2 h3; cases this
        · exact hno j' i' (by omega) h2 h3
      conv => whnf
      repeat' (first | (refine tell (fun htest => ?_) (fun htest => ?_) <;> (try dsimp only at htest) <;> first | (exfalso; omega) | (exact absurd rfl htest) | (exact absurd (by decide) htest) | (conv => whnf)) | (refine allG rfl ?_; conv => whnf) | (refine And.intro (by first | omega | assumption | kernel_rfl | exact And.intro rfl rfl | ((try dsimp only [inR, idx, lowOf]); first | omega | (with_reducible decide) | (simp; omega) | (simp; done) | fail) | fail) ?_; conv => whnf) | fail)
      refine ⟨j + 1, [], ⟨hlt, hnx⟩, ?_, rfl, ?_, ?_, rfl⟩
      · dsimp only; first | omega | (simp; done) | (simp; omega)
      all_goals (repeat' (first | exact trivial | exact rfl | refine And.intro ?_ ?_ | (refine congrArg vI ?_; first | omega | (dsimp only; omega) | fail) | (refine congrArg some ?_) | omega | exact Nat.le_refl _ | exact congrArg (SV.lst _) (List.take_of_length_le (Nat.le_refl _)).symm))
    · conv => whnf
      repeat' (first | (refine tell (fun htest => ?_) (fun htest => ?_) <;> (try dsimp only at htest) <;> first | (exfalso; omega) | (exact absurd rfl htest) | (exact absurd (by decide) htest) | (conv => whnf)) | (refine allG rfl ?_; conv => whnf) | (refine And.intro (by first | omega | assumption | kernel_rfl | exact And.intro rfl rfl | ((try dsimp only [inR, idx, lowOf]); first | omega | (with_reducible decide) | (simp; omega) | (simp; done) | fail) | fail) ?_; conv => whnf) | fail)
      exact ⟨(j : Int), [], .inl ⟨j, x, rfl, hi, hc.1 rfl, hno⟩, rfl, ⟨⟨rfl, trivial⟩, trivial⟩, trivial⟩
  · conv => whnf
    repeat' (first | (refine tell (fun htest => ?_) (fun htest => ?_) <;> (try dsimp only at htest) <;> first | (exfalso; omega) | (exact absurd rfl htest) | (exact absurd (by decide) htest) | (conv => whnf)) | (refine allG rfl ?_; conv => whnf) | (refine And.intro (by first | omega | assumption | kernel_rfl | exact And.intro rfl rfl | ((try dsimp only [inR, idx, lowOf]); first | omega | (with_reducible decide) | (simp; omega) | (simp; done) | fail) | fail) ?_; conv => whnf) | fail)
    exact ⟨(-1 : Int), [], .inr ⟨rfl, fun x (hx : x ∈ xs) hn => by
      have hobt := List.getElem?_of_mem hx
      obtain ⟨m, hm⟩ := hobt
      have := (List.getElem?_eq_some_iff.1 hm).1
      exact hno m x (by omega) hm hn⟩, rfl, ⟨⟨rfl, trivial⟩, trivial⟩, trivial⟩
def spIdxN2 : Spec AF where
  γ := List Int × List Int
  δ := Int
  args := fun g => [.sl 0 1 0 g.1.length, .fn (.func 64) [] [.ptr 1 0 1 0]]
  own := fun g => [.arr 3 g.1, .cells [.lst 3 g.2]]
  pre := fun g => g.1.length ≤ 9223372036854775806 ∧ g.2.length ≤ 9223372036854775807
  nnew := 0
  res := fun _ r => vI r
  own' := fun g _ => [some (.arr 3 g.1), some (.cells [.lst 3 g.2])]
  post := fun g r => FirstAt g.1 (fun x => x ∉ g.2) r
theorem m_idxN2 : Meets Tryd.prog regF 87 spIdxN2 := by
  refine meets Tryd.func87 19 noWr rfl (by kernel_rfl) (by kernel_rfl) ?_
  rintro ⟨(xs : List Int), (ys : List Int)⟩ ⟨(hx : xs.length ≤ 9223372036854775806), (hy : ys.length ≤ 9223372036854775807)⟩
  conv => whnf
  repeat' (first | (refine tell (fun htest => ?_) (fun htest => ?_) <;> (try dsimp only at htest) <;> first | (exfalso; omega) | (exact absurd rfl htest) | (exact absurd (by decide) htest) | (conv => whnf)) | (refine allG rfl ?_; conv => whnf) | (refine And.intro (by first | omega | assumption | kernel_rfl | exact And.intro rfl rfl | ((try dsimp only [inR, idx, lowOf]); first | omega | (with_reducible decide) | (simp; omega) | (simp; done) | fail) | fail) ?_; conv => whnf) | fail)
  refine ⟨Nat, fun j => ⟨[(0, .sl 0 1 0 xs.length), (1, .fn (.func 64) [] [.ptr 1 0 1 0]), (7, vI xs.length), (8, vI j)], [(0, .arr 3 xs), (1, .cells [.lst 3 ys])]⟩, fun j => j ≤ xs.length ∧ ∀ (j' : Nat) i', j' < j → xs[j']? = some i' → ¬ (i' ∉ ys), fun j => xs.length - j, fun _ _ => rfl, ⟨0, [], ⟨Nat.zero_le _, fun j' i' h => absurd h (Nat.not_lt_zero _)⟩, ?_⟩, ?_⟩
  · refine ⟨rfl, ?_, ?_, rfl⟩
    all_goals (repeat' (first | exact trivial | exact rfl | refine And.intro ?_ ?_ | (refine congrArg vI ?_; first | omega | (dsimp only; omega) | fail) | (refine congrArg some ?_) | omega | exact Nat.le_refl _ | exact congrArg (SV.lst _) (List.take_of_length_le (Nat.le_refl _)).symm))
  rintro (j : Nat) ⟨(hj : j ≤ xs.length), (hno : ∀ (j' : Nat) i', j' < j → xs[j']? = some i' → ¬ (i' ∉ ys))⟩
  by_cases hlt : j < xs.length
  · have hobt : ∃ x, xs[j]? = some x := ⟨_, List.getElem?_eq_getElem hlt⟩
    obtain ⟨x, hi⟩ := hobt
    conv => whnf
    repeat' (first | (refine tell (fun htest => ?_) (fun htest => ?_) <;> (try dsimp only at htest) <;> first | (exfalso; omega) | (exact absurd rfl htest) | (exact absurd (by decide) htest) | (conv => whnf)) | (refine allG (x := x) (by first | exact hi | simpa [List.getElem?_append_right, lowOf] using hi | fail) ?_; conv => whnf) | (refine allLst (x := x) (by first | omega | assumption | fail) (by first | exact hi | simpa using hi | fail) ?_; conv => whnf) | (refine allG rfl ?_; conv => whnf) | (refine And.intro (by first | omega | assumption | kernel_rfl | exact And.intro rfl rfl | ((try dsimp only [inR, idx, lowOf]); first | omega | (with_reducible decide) | (simp; omega) | (simp; done) | fail) | fail) ?_; conv => whnf) | fail)
    refine ⟨_, m_notIn, (x, ys), [1], false, ?_⟩
    conv => whnf
    refine And.intro (vc0 hy (by (repeat' (first | exact trivial | exact rfl | refine And.intro ?_ ?_ | (refine congrArg vI ?_; first | omega | (dsimp only; omega) | fail) | (refine congrArg some ?_) | omega | exact Nat.le_refl _ | exact congrArg (SV.lst _) (List.take_of_length_le (Nat.le_refl _)).symm))) (by repeat' (first | exact trivial | exact rfl | refine And.intro ?_ ?_ | (refine congrArg vI ?_; first | omega | (dsimp only; omega) | fail) | (refine congrArg some ?_) | omega | exact Nat.le_refl _ | exact congrArg (SV.lst _) (List.take_of_length_le (Nat.le_refl _)).symm)) trivial trivial) ?_
    refine And.intro (pred_ex _) ?_
    intro (c : Bool) (hc : c = true ↔ x ∉ ys)
    cases c
    · have hnx : ∀ (j' : Nat) i', j' < j + 1 → xs[j']? = some i' → ¬ (i' ∉ ys) := fun j' i' h1 h2 h3 => by
        by_cases e : j' = j
        · subst e; rw [hi] at h2; cases h2; have := hc.2 h3; cases this
        · exact hno j' i' (by omega) h2 h3
      conv => whnf
      repeat' (first | (refine tell (fun htest => ?_) (fun htest => ?_) <;> (try dsimp only at htest) <;> first | (exfalso; omega) | (exact absurd rfl htest) | (exact absurd (by decide) htest) | (conv => whnf)) | (refine allG rfl ?_; conv => whnf) | (refine And.intro (by first | omega | assumption | kernel_rfl | exact And.intro rfl rfl | ((try dsimp only [inR, idx, lowOf]); first | omega | (with_reducible decide) | (simp; omega) | (simp; done) | fail) | fail) ?_; conv => whnf) | fail)
      refine ⟨j + 1, [], ⟨hlt, hnx⟩, ?_, rfl, ?_, ?_, rfl⟩
      · dsimp only; first | omega | (simp; done) | (simp; omega)
      all_goals (repeat' (first | exact trivial | exact rfl | refine And.intro ?_ ?_ | (refine congrArg vI ?_; first | omega | (dsimp only; omega) | fail) | (refine congrArg some ?_) | omega | exact Nat.le_refl _ | exact congrArg (SV.lst _) (List.take_of_length_le (Nat.le_refl _)).symm))
    · conv => whnf
      repeat' (first | (refine tell (fun htest => ?_) (fun htest => ?_) <;> (try dsimp only at htest) <;> first | (exfalso; omega) | (exact absurd rfl htest) | (exact absurd (by decide) htest) | (conv => whnf)) | (refine allG rfl ?_; conv => whnf) | (refine And.intro (by first | omega | assumption | kernel_rfl | exact And.intro rfl rfl | ((try dsimp only [inR, idx, lowOf]); first | omega | (with_reducible decide) | (simp; omega) | (simp; done) | fail) | fail) ?_; conv => whnf) | fail)
      exact ⟨(j : Int), [], .inl ⟨j, x, rfl, hi, hc.1 rfl, hno⟩, rfl, ⟨rfl, ⟨rfl, trivial⟩, trivial⟩, trivial⟩
  · conv => whnf
    repeat' (first | (refine tell (fun htest => ?_) (fun htest => ?_) <;> (try dsimp only at htest) <;> first | (exfalso; omega) | (exact absurd rfl htest) | (exact absurd (by decide) htest) | (conv => whnf)) | (refine allG rfl ?_; conv => whnf) | (refine And.intro (by first | omega | assumption | kernel_rfl | exact And.intro rfl rfl | ((try dsimp only [inR, idx, lowOf]); first | omega | (with_reducible decide) | (simp; omega) | (simp; done) | fail) | fail) ?_; conv => whnf) | fail)
    exact ⟨(-1 : Int), [], .inr ⟨rfl, fun x (hx : x ∈ xs) hn => by
      have hobt := List.getElem?_of_mem hx
      obtain ⟨m, hm⟩ := hobt
      have := (List.getElem?_eq_some_iff.1 hm).1
      exact hno m x (by omega) hm hn⟩, rfl, ⟨rfl, ⟨rfl, trivial⟩, trivial⟩, trivial⟩
def spDel0 : Spec AF where
  γ := List Int
  δ := Unit
  args := fun _ => [.lst 3 [], .fn (.func 64) [] [.ptr 0 0 1 0]]
  own := fun g => [.cells [.lst 3 g]]
  pre := fun g => g.length ≤ 9223372036854775807
  nnew := 0
  res := fun _ _ => .lst 3 []
  own' := fun g _ => [some (.cells [.lst 3 g])]
  post := fun _ _ => True
theorem m_del0 : Meets Tryd.prog regF 62 spDel0 := by
  refine meets Tryd.func62 42 noWr rfl (by kernel_rfl) (by kernel_rfl) ?_
  rintro (ys : List Int) (hy : ys.length ≤ 9223372036854775807)
  conv => whnf
  repeat' (first | (refine tell (fun htest => ?_) (fun htest => ?_) <;> (try dsimp only at htest) <;> first | (exfalso; omega) | (exact absurd rfl htest) | (exact absurd (by decide) htest) | (conv => whnf)) | (refine allG rfl ?_; conv => whnf) | (refine And.intro (by first | omega | assumption | kernel_rfl | exact And.intro rfl rfl | ((try dsimp only [inR, idx, lowOf]); first | omega | (with_reducible decide) | (simp; omega) | (simp; done) | fail) | fail) ?_; conv => whnf) | fail)
  refine ⟨_, m_idxN, ([], ys), [0], false, ?_⟩
  conv => whnf
  refine And.intro (vc0 ⟨Nat.zero_le _, hy⟩ (by (repeat' (first | exact trivial | exact rfl | refine And.intro ?_ ?_ | (refine congrArg vI ?_; first | omega | (dsimp only; omega) | fail) | (refine congrArg some ?_) | omega | exact Nat.le_refl _ | exact congrArg (SV.lst _) (List.take_of_length_le (Nat.le_refl _)).symm))) (by repeat' (first | exact trivial | exact rfl | refine And.intro ?_ ?_ | (refine congrArg vI ?_; first | omega | (dsimp only; omega) | fail) | (refine congrArg some ?_) | omega | exact Nat.le_refl _ | exact congrArg (SV.lst _) (List.take_of_length_le (Nat.le_refl _)).symm)) trivial trivial) ?_
  refine And.intro (firstAt_ex _ _) ?_
  rintro (r : Int) (hr : FirstAt [] (fun x => x ∉ ys) r)
  obtain rfl : r = -1 := by
    rcases hr with ⟨j, i, _, h, _⟩ | ⟨h, _⟩
    · simp at h
    · exact h
  conv => whnf
  repeat' (first | (refine tell (fun htest => ?_) (fun htest => ?_) <;> (try dsimp only at htest) <;> first | (exfalso; omega) | (exact absurd rfl htest) | (exact absurd (by decide) htest) | (conv => whnf)) | (refine allG rfl ?_; conv => whnf) | (refine And.intro (by first | omega | assumption | kernel_rfl | exact And.intro rfl rfl | ((try dsimp only [inR, idx, lowOf]); first | omega | (with_reducible decide) | (simp; omega) | (simp; done) | fail) | fail) ?_; conv => whnf) | fail)
  exact ⟨(), [], trivial, rfl, ⟨⟨rfl, trivial⟩, trivial⟩, trivial⟩
def spDel : Spec AF where
  γ := List Int × List Int
  δ := Unit
  args := fun g => [.sl 0 1 0 g.1.length, .fn (.func 64) [] [.ptr 1 0 1 0]]
  own := fun g => [.arr 3 g.1, .cells [.lst 3 g.2]]
  pre := fun g => g.1.length ≤ 9223372036854775806 ∧ g.2.length ≤ 9223372036854775807
  nnew := 0
  res := fun g _ => .lst 3 (comm g.1 g.2)
  own' := fun g _ => [none, some (.cells [.lst 3 g.2])]
  post := fun _ _ => True
theorem comm_all {xs ys : List Int} (h : ∀ x ∈ xs, ¬ (x ∉ ys)) : comm xs ys = xs := by
  unfold comm
  rw [List.filter_eq_self]
  intro x hx
  exact decide_eq_true (Classical.not_not.1 (h x hx))
set_option maxHeartbeats 1600000 in
theorem m_del : Meets Tryd.prog regF 62 spDel := by
  refine meets Tryd.func62 42 noWr rfl (by kernel_rfl) (by kernel_rfl) ?_
  rintro ⟨(xs : List Int), (ys : List Int)⟩ ⟨(hx : xs.length ≤ 9223372036854775806), (hy : ys.length ≤ 9223372036854775807)⟩
  conv => whnf
  repeat' (first | (refine tell (fun htest => ?_) (fun htest => ?_) <;> (try dsimp only at htest) <;> first | (exfalso; omega) | (exact absurd rfl htest) | (exact absurd (by decide) htest) | (conv => whnf)) | (refine allG rfl ?_; conv => whnf) | (refine And.intro (by first | omega | assumption | kernel_rfl | exact And.intro rfl rfl | ((try dsimp only [inR, idx, lowOf]); first | omega | (with_reducible decide) | (simp; omega) | (simp; done) | fail) | fail) ?_; conv => whnf) | fail)
  refine ⟨_, m_idxN2, (xs, ys), [0, 1], false, ?_⟩
  conv => whnf
  refine And.intro (vc0 ⟨hx, hy⟩ (by (repeat' (first | exact trivial | exact rfl | refine And.intro ?_ ?_ | (refine congrArg vI ?_; first | omega | (dsimp only; omega) | fail) | (refine congrArg some ?_) | omega | exact Nat.le_refl _ | exact congrArg (SV.lst _) (List.take_of_length_le (Nat.le_refl _)).symm))) (by repeat' (first | exact trivial | exact rfl | refine And.intro ?_ ?_ | (refine congrArg vI ?_; first | omega | (dsimp only; omega) | fail) | (refine congrArg some ?_) | omega | exact Nat.le_refl _ | exact congrArg (SV.lst _) (List.take_of_length_le (Nat.le_refl _)).symm)) trivial trivial) ?_
  refine And.intro (firstAt_ex _ _) ?_
  rintro (r : Int) (hr : FirstAt xs (fun x => x ∉ ys) r)
  rcases hr with ⟨m, x0, rfl, hm, hx0, hno⟩ | ⟨rfl, hall⟩
  · have hml := (List.getElem?_eq_some_iff.1 hm).1
    have hcm : comm (xs.take m) ys = xs.take m := comm_all fun x hx => by
      have hobt := List.getElem?_of_mem hx
      obtain ⟨j, hj⟩ := hobt
      have hj2 := (List.getElem?_eq_some_iff.1 hj).1
      rw [List.getElem?_take] at hj
      split at hj
      · exact hno j x (by assumption) hj
      · cases hj
    have hcm1 : comm (xs.take (m + 1)) ys = xs.take m := by rw [comm_snoc hm, if_neg hx0, hcm, List.append_nil]
    have hcl : (comm (xs.take (m + 1)) ys).length = m := by rw [hcm1]; simp; omega
    conv => whnf
    repeat' (first | (refine tell (fun htest => ?_) (fun htest => ?_) <;> (try dsimp only at htest) <;> first | (exfalso; omega) | (exact absurd rfl htest) | (exact absurd (by decide) htest) | (conv => whnf)) | (refine allG rfl ?_; conv => whnf) | (refine And.intro (by first | omega | assumption | kernel_rfl | exact And.intro rfl rfl | ((try dsimp only [inR, idx, lowOf]); first | omega | (with_reducible decide) | (simp; omega) | (simp; done) | fail) | fail) ?_; conv => whnf) | fail)
    refine ⟨Nat × List Int, fun p => ⟨[(0, .sl 0 1 0 xs.length), (1, .fn (.func 64) [] [.ptr 1 0 1 0]), (5, vI (comm (xs.take p.1) ys).length), (6, vI p.1)], [(0, .arr 3 p.2), (1, .cells [.lst 3 ys])]⟩, fun p => p.1 ≤ xs.length ∧ (comm (xs.take p.1) ys).length < p.1 ∧ p.2.length = xs.length ∧ p.2.take (comm (xs.take p.1) ys).length = comm (xs.take p.1) ys ∧ p.2.drop p.1 = xs.drop p.1, fun p => xs.length - p.1, fun _ _ => rfl, ⟨(m + 1, xs), [], ⟨hml, by rw [hcl]; exact Nat.lt_succ_self m, rfl, by rw [hcl, hcm1], rfl⟩, ?_⟩, ?_⟩
    · refine ⟨rfl, ?_, ?_, rfl⟩
      all_goals (repeat' (first | exact trivial | exact rfl | refine And.intro ?_ ?_ | (refine congrArg vI ?_; first | omega | (dsimp only; omega) | fail) | (refine congrArg some ?_) | omega | exact Nat.le_refl _ | exact congrArg (SV.lst _) (List.take_of_length_le (Nat.le_refl _)).symm))
    rintro ⟨(j : Nat), (c : List Int)⟩ ⟨(hj : j ≤ xs.length), (hlj : (comm (xs.take j) ys).length < j), (hcx : c.length = xs.length), (htk : c.take (comm (xs.take j) ys).length = comm (xs.take j) ys), (hdr : c.drop j = xs.drop j)⟩
    have hobt : ∃ k, (comm (xs.take j) ys).length = k := ⟨_, rfl⟩
    obtain ⟨k, hk⟩ := hobt
    rw [hk] at hlj htk
    by_cases hlt : j < xs.length
    · have hobt : ∃ x, xs[j]? = some x := ⟨_, List.getElem?_eq_getElem hlt⟩
      obtain ⟨x, hxj⟩ := hobt
      have hcj : c[j]? = some x := by
        have := congrArg (fun l => l[0]?) hdr
        simp only [List.getElem?_drop, Nat.add_zero] at this
        rw [this, hxj]
      have hobt : ∃ z, c[k]? = some z := ⟨_, List.getElem?_eq_getElem (by omega)⟩
      obtain ⟨z, hz⟩ := hobt
      have hcj2 : c[0 + j]? = some x := by rw [Nat.zero_add]; exact hcj
      have hz2 : c[0 + (comm (xs.take j) ys).length]? = some z := by rw [Nat.zero_add, hk]; exact hz
      have hsn := comm_snoc (ys := ys) hxj
      have hdr2 : c.drop (j + 1) = xs.drop (j + 1) := by rw [← List.drop_drop, hdr, List.drop_drop]
      conv => whnf
      repeat' (first | (refine tell (fun htest => ?_) (fun htest => ?_) <;> (try dsimp only at htest) <;> first | (exfalso; omega) | (exact absurd rfl htest) | (exact absurd (by decide) htest) | (conv => whnf)) | (refine allG (x := x) (by first | exact hcj2 | simpa [List.getElem?_append_right, lowOf] using hcj2 | fail) ?_; conv => whnf) | (refine allLst (x := x) (by first | omega | assumption | fail) (by first | exact hcj2 | simpa using hcj2 | fail) ?_; conv => whnf) | (refine allG rfl ?_; conv => whnf) | (refine And.intro (by first | omega | assumption | kernel_rfl | exact And.intro rfl rfl | ((try dsimp only [inR, idx, lowOf]); first | omega | (with_reducible decide) | (simp; omega) | (simp; done) | fail) | fail) ?_; conv => whnf) | fail)
      refine ⟨_, m_notIn, (x, ys), [1], false, ?_⟩
      conv => whnf
      refine And.intro (vc0 hy (by (repeat' (first | exact trivial | exact rfl | refine And.intro ?_ ?_ | (refine congrArg vI ?_; first | omega | (dsimp only; omega) | fail) | (refine congrArg some ?_) | omega | exact Nat.le_refl _ | exact congrArg (SV.lst _) (List.take_of_length_le (Nat.le_refl _)).symm))) (by repeat' (first | exact trivial | exact rfl | refine And.intro ?_ ?_ | (refine congrArg vI ?_; first | omega | (dsimp only; omega) | fail) | (refine congrArg some ?_) | omega | exact Nat.le_refl _ | exact congrArg (SV.lst _) (List.take_of_length_le (Nat.le_refl _)).symm)) trivial trivial) ?_
      refine And.intro (pred_ex _) ?_
      intro (d : Bool) (hd : d = true ↔ x ∉ ys)
      cases d
      · have hxy : x ∈ ys := Classical.byContradiction fun h => by have := hd.2 h; cases this
        rw [if_pos hxy] at hsn
        have hlen : (comm (xs.take (j + 1)) ys).length = k + 1 := by rw [hsn, List.length_append, hk]; rfl
        conv => whnf
        repeat' (first | (refine tell (fun htest => ?_) (fun htest => ?_) <;> (try dsimp only at htest) <;> first | (exfalso; omega) | (exact absurd rfl htest) | (exact absurd (by decide) htest) | (conv => whnf)) | (refine allG (x := z) (by first | exact hz2 | simpa [List.getElem?_append_right, lowOf] using hz2 | fail) ?_; conv => whnf) | (refine allLst (x := z) (by first | omega | assumption | fail) (by first | exact hz2 | simpa using hz2 | fail) ?_; conv => whnf) | (refine allG rfl ?_; conv => whnf) | (refine And.intro (by first | omega | assumption | kernel_rfl | exact And.intro rfl rfl | ((try dsimp only [inR, idx, lowOf]); first | omega | (with_reducible decide) | (simp; omega) | (simp; done) | fail) | fail) ?_; conv => whnf) | fail)
        refine ⟨(j + 1, c.set k x), [], ⟨hlt, by show (comm (xs.take (j + 1)) ys).length < j + 1; omega, by show (c.set k x).length = _; rw [List.length_set]; exact hcx, by show (c.set k x).take _ = _; rw [hlen, hsn, ← htk, List.take_add_one, List.getElem?_set_self (by omega), List.take_set_of_le (Nat.le_refl _)]; rfl, by show (c.set k x).drop (j + 1) = _; rw [List.drop_set_of_lt (by omega)]; exact hdr2⟩, ?_, rfl, ?_, ?_, rfl⟩
        · dsimp only; first | omega | (simp; done) | (simp; omega)
        all_goals (repeat' (first | exact trivial | exact rfl | refine And.intro ?_ ?_ | (refine congrArg vI ?_; first | omega | (dsimp only; omega) | fail) | (refine congrArg some ?_) | omega | exact Nat.le_refl _ | exact congrArg (SV.lst _) (List.take_of_length_le (Nat.le_refl _)).symm))
        exact congrArg (Ct.arr (A := AF) 3) (show c.set (0 + (comm (xs.take j) ys).length) x = c.set k x by rw [Nat.zero_add, hk])
      · rw [if_neg (hd.1 rfl), List.append_nil] at hsn
        have hlen : (comm (xs.take (j + 1)) ys).length = k := by rw [hsn, hk]
        conv => whnf
        repeat' (first | (refine tell (fun htest => ?_) (fun htest => ?_) <;> (try dsimp only at htest) <;> first | (exfalso; omega) | (exact absurd rfl htest) | (exact absurd (by decide) htest) | (conv => whnf)) | (refine allG rfl ?_; conv => whnf) | (refine And.intro (by first | omega | assumption | kernel_rfl | exact And.intro rfl rfl | ((try dsimp only [inR, idx, lowOf]); first | omega | (with_reducible decide) | (simp; omega) | (simp; done) | fail) | fail) ?_; conv => whnf) | fail)
        refine ⟨(j + 1, c), [], ⟨hlt, by show (comm (xs.take (j + 1)) ys).length < j + 1; omega, hcx, by show c.take _ = _; rw [hlen, hsn]; exact htk, hdr2⟩, ?_, rfl, ?_, ?_, rfl⟩
        · dsimp only; first | omega | (simp; done) | (simp; omega)
        all_goals (repeat' (first | exact trivial | exact rfl | refine And.intro ?_ ?_ | (refine congrArg vI ?_; first | omega | (dsimp only; omega) | fail) | (refine congrArg some ?_) | omega | exact Nat.le_refl _ | exact congrArg (SV.lst _) (List.take_of_length_le (Nat.le_refl _)).symm))
    · have hje : j = xs.length := by omega
      subst hje
      conv => whnf
      repeat' (first | (refine tell (fun htest => ?_) (fun htest => ?_) <;> (try dsimp only at htest) <;> first | (exfalso; omega) | (exact absurd rfl htest) | (exact absurd (by decide) htest) | (conv => whnf)) | (refine allG rfl ?_; conv => whnf) | (refine And.intro (by first | omega | assumption | kernel_rfl | exact And.intro rfl rfl | ((try dsimp only [inR, idx, lowOf]); first | omega | (with_reducible decide) | (simp; omega) | (simp; done) | fail) | fail) ?_; conv => whnf) | fail)
      refine ⟨(), [], trivial, ⟨?_, rfl, ?_⟩, ⟨trivial, ⟨rfl, trivial⟩, trivial⟩, trivial⟩
      · show 0 + 0 + ((comm (xs.take xs.length) ys).length - 0) ≤ (c.take (0 + (comm (xs.take xs.length) ys).length) ++ List.replicate (xs.length - (comm (xs.take xs.length) ys).length) 0 ++ c.drop (0 + (comm (xs.take xs.length) ys).length + (xs.length - (comm (xs.take xs.length) ys).length))).length
        rw [hk]; simp; omega
      · exact congrArg (SV.lst (A := AF) 3) (show comm xs ys = ((c.take (0 + (comm (xs.take xs.length) ys).length) ++ List.replicate (xs.length - (comm (xs.take xs.length) ys).length) 0 ++ c.drop (0 + (comm (xs.take xs.length) ys).length + (xs.length - (comm (xs.take xs.length) ys).length))).drop (0 + 0)).take ((comm (xs.take xs.length) ys).length - 0) by
          simp only [hk, Nat.zero_add]; rw [htk, Nat.sub_zero, List.drop_zero, List.append_assoc, List.take_append_of_le_length (by omega), List.take_of_length_le (Nat.le_refl xs.length), List.take_of_length_le (by rw [List.take_of_length_le (Nat.le_refl _)] at hk; omega)])
  · have hca : comm xs ys = xs := comm_all hall
    conv => whnf
    repeat' (first | (refine tell (fun htest => ?_) (fun htest => ?_) <;> (try dsimp only at htest) <;> first | (exfalso; omega) | (exact absurd rfl htest) | (exact absurd (by decide) htest) | (conv => whnf)) | (refine allG rfl ?_; conv => whnf) | (refine And.intro (by first | omega | assumption | kernel_rfl | exact And.intro rfl rfl | ((try dsimp only [inR, idx, lowOf]); first | omega | (with_reducible decide) | (simp; omega) | (simp; done) | fail) | fail) ?_; conv => whnf) | fail)
    refine ⟨(), [], trivial, ⟨?_, rfl, ?_⟩, ⟨trivial, ⟨rfl, trivial⟩, trivial⟩, trivial⟩
    · show 0 + xs.length ≤ xs.length
      omega
    · exact congrArg (SV.lst (A := AF) 3) (show comm xs ys = (xs.drop 0).take xs.length by rw [hca, List.drop_zero, List.take_of_length_le (Nat.le_refl _)])
def spClone0 : Spec AF where
  γ := Unit
  δ := Unit
  args := fun _ => [.lst 3 []]
  own := fun _ => []
  pre := fun _ => True
  nnew := 0
  res := fun _ _ => .lst 3 []
  own' := fun _ _ => []
  post := fun _ _ => True
def spClone1 : Spec AF := { spClone0 with args := fun _ => [.val (.slice none 0 0)] }
def spClone2 : Spec AF where
  γ := Addr × Nat
  δ := Unit
  args := fun g => [.val (.slice (some g.1) 0 g.2)]
  own := fun _ => []
  pre := fun _ => True
  nnew := 0
  res := fun _ _ => .lst 3 []
  own' := fun _ _ => []
  post := fun _ _ => True
theorem m_clone1 : Meets Tryd.prog regF 63 spClone1 := by
  refine meets Tryd.func63 8 noWr rfl (by kernel_rfl) (by kernel_rfl) ?_
  rintro ⟨⟩ _
  conv => whnf
  repeat' (first | (refine tell (fun htest => ?_) (fun htest => ?_) <;> (try dsimp only at htest) <;> first | (exfalso; omega) | (exact absurd rfl htest) | (exact absurd (by decide) htest) | (conv => whnf)) | (refine allG rfl ?_; conv => whnf) | (refine And.intro (by first | omega | assumption | kernel_rfl | exact And.intro rfl rfl | ((try dsimp only [inR, idx, lowOf]); first | omega | (with_reducible decide) | (simp; omega) | (simp; done) | fail) | fail) ?_; conv => whnf) | fail)
  exact ⟨(), [], trivial, rfl, trivial, trivial⟩
theorem m_clone2 : Meets Tryd.prog regF 63 spClone2 := by
  refine meets Tryd.func63 8 noWr rfl (by kernel_rfl) (by kernel_rfl) ?_
  rintro ⟨(a : Addr), (k : Nat)⟩ _
  conv => whnf
  repeat' (first | (refine tell (fun htest => ?_) (fun htest => ?_) <;> (try dsimp only at htest) <;> first | (exfalso; omega) | (exact absurd rfl htest) | (exact absurd (by decide) htest) | (conv => whnf)) | (refine allG rfl ?_; conv => whnf) | (refine And.intro (by first | omega | assumption | kernel_rfl | exact And.intro rfl rfl | ((try dsimp only [inR, idx, lowOf]); first | omega | (with_reducible decide) | (simp; omega) | (simp; done) | fail) | fail) ?_; conv => whnf) | fail)
  exact ⟨(), [], trivial, ⟨Nat.le_refl _, rfl, rfl⟩, trivial, trivial⟩
theorem m_clone0 : Meets Tryd.prog regF 63 spClone0 := by
  refine ⟨m_clone1.1, fun g hg X ρ w vs h1 h2 h3 h4 => ?_⟩
  have hobt := Array.size_eq_one_iff.1 (show vs.size = 1 by have h := h3.1; simp [spClone0] at h; exact h.symm)
  obtain ⟨v, rfl⟩ := hobt
  have hv : Den regF ρ (fun b => X b ∨ Blk ((spClone0.own g).map some) ρ b) w (.lst 3 []) v := h3.2 0 _ v rfl rfl
  have one : ∀ u : Value, DenL regF ρ (fun b => X b ∨ Blk ((spClone0.own g).map some) ρ b) w [.val u] [u] := fun u => ⟨rfl, fun j s x hs hx => by
    match j with
    | 0 => simp at hs hx; subst hs; subst hx; exact .val _
    | j + 1 => simp at hs⟩
  cases hv with
  | lnil _ cap hc => subst hc; exact m_clone1.2 () trivial X ρ w _ h1 h2 (one _) h4
  | lempty _ a cap ha =>
    cases a with
    | none => exact absurd rfl ha
    | some a => exact m_clone2.2 (a, cap) trivial X ρ w _ h1 h2 (one _) h4
  | lst _ _ b off cap c E fz g' ho hb hcap hc hd => exact m_clone2.2 (⟨b, off, none⟩, cap) trivial X ρ w _ h1 h2 (one _) h4
def spClone : Spec AF where
  γ := List Int
  δ := Unit
  args := fun xs => [.lst 3 xs]
  own := fun _ => []
  pre := fun xs => 0 < xs.length ∧ xs.length ≤ 17592186044416
  nnew := 1
  res := fun xs _ => .sl 0 1 0 xs.length
  own' := fun xs _ => [some (.arr 3 xs)]
  post := fun _ _ => True
theorem m_clone : Meets Tryd.prog regF 63 spClone := by
  refine meets Tryd.func63 8 noWr rfl (by kernel_rfl) (by kernel_rfl) ?_
  rintro (xs : List Int) ⟨(h0 : 0 < xs.length), (hl : xs.length ≤ 17592186044416)⟩
  conv => whnf
  repeat' (first | (refine tell (fun htest => ?_) (fun htest => ?_) <;> (try dsimp only at htest) <;> first | (exfalso; omega) | (exact absurd rfl htest) | (exact absurd (by decide) htest) | (conv => whnf)) | (refine allG rfl ?_; conv => whnf) | (refine And.intro (by first | omega | assumption | kernel_rfl | exact And.intro rfl rfl | ((try dsimp only [inR, idx, lowOf]); first | omega | (with_reducible decide) | (simp; omega) | (simp; done) | fail) | fail) ?_; conv => whnf) | fail)
  refine ⟨(), [1007], trivial, ?_, ?_, trivial⟩
  · exact congrArg (SV.sl (A := AF) 1007 1 0) (show 0 + xs.length = xs.length by omega)
  · exact ⟨rfl, trivial⟩
def spMin : Spec AF where
  γ := List Int
  δ := Int
  args := fun xs => [.lst 3 xs]
  own := fun _ => []
  pre := fun xs => 0 < xs.length ∧ xs.length ≤ 9223372036854775807
  nnew := 0
  res := fun _ r => vI r
  own' := fun _ _ => []
  post := fun xs r => r ∈ xs ∧ ∀ y ∈ xs, r ≤ y
theorem min_ex : ∀ {xs : List Int}, 0 < xs.length → ∃ r, r ∈ xs ∧ ∀ y ∈ xs, r ≤ y
  | [x], _ => ⟨x, by simp, by simp⟩
  | x :: y :: l, _ => by
    have hobt := min_ex (xs := y :: l) (by simp)
    obtain ⟨r, h1, h2⟩ := hobt
    by_cases h : x ≤ r
    · exact ⟨x, by simp, fun z hz => by
        rcases List.mem_cons.1 hz with rfl | hz
        · exact Int.le_refl _
        · have := h2 z hz; omega⟩
    · exact ⟨r, List.mem_cons_of_mem _ h1, fun z hz => by
        rcases List.mem_cons.1 hz with rfl | hz
        · omega
        · exact h2 z hz⟩
theorem m_min : Meets Tryd.prog regF 66 spMin := by
  refine meets Tryd.func66 25 noWr rfl (by kernel_rfl) (by kernel_rfl) ?_
  rintro (xs : List Int) ⟨(h0 : 0 < xs.length), (hl : xs.length ≤ 9223372036854775807)⟩
  have hobt : ∃ z, xs[0]? = some z := ⟨_, List.getElem?_eq_getElem h0⟩
  obtain ⟨z, hz⟩ := hobt
  conv => whnf
  repeat' (first | (refine tell (fun htest => ?_) (fun htest => ?_) <;> (try dsimp only at htest) <;> first | (exfalso; omega) | (exact absurd rfl htest) | (exact absurd (by decide) htest) | (conv => whnf)) | (refine allG (x := z) (by first | exact hz | simpa [List.getElem?_append_right, lowOf] using hz | fail) ?_; conv => whnf) | (refine allLst (x := z) (by first | omega | assumption | fail) (by first | exact hz | simpa using hz | fail) ?_; conv => whnf) | (refine allG rfl ?_; conv => whnf) | (refine And.intro (by first | omega | assumption | kernel_rfl | exact And.intro rfl rfl | ((try dsimp only [inR, idx, lowOf]); first | omega | (with_reducible decide) | (simp; omega) | (simp; done) | fail) | fail) ?_; conv => whnf) | fail)
  refine ⟨Nat × Int, fun p => ⟨[(0, .lst 3 xs), (3, vI p.2), (4, vI p.1)], []⟩, fun p => 1 ≤ p.1 ∧ p.1 ≤ xs.length ∧ p.2 ∈ xs.take p.1 ∧ ∀ y ∈ xs.take p.1, p.2 ≤ y, fun p => xs.length - p.1, fun _ _ => rfl, ⟨(1, z), [], ⟨Nat.le_refl 1, h0, by rw [take_snocI hz]; simp, by rw [take_snocI hz]; simp⟩, ?_⟩, ?_⟩
  · refine ⟨rfl, ?_, ?_, rfl⟩
    all_goals (repeat' (first | exact trivial | exact rfl | refine And.intro ?_ ?_ | (refine congrArg vI ?_; first | omega | (dsimp only; omega) | fail) | (refine congrArg some ?_) | omega | exact Nat.le_refl _ | exact congrArg (SV.lst _) (List.take_of_length_le (Nat.le_refl _)).symm))
  rintro ⟨(i : Nat), (m : Int)⟩ ⟨(h1 : 1 ≤ i), (hi : i ≤ xs.length), (hm : m ∈ xs.take i), (hmin : ∀ y ∈ xs.take i, m ≤ y)⟩
  by_cases hlt : i < xs.length
  · have hobt : ∃ x, xs[i]? = some x := ⟨_, List.getElem?_eq_getElem hlt⟩
    obtain ⟨x, hx⟩ := hobt
    have htk := take_snocI hx
    have hmm : min m x ∈ xs.take (i + 1) := by
      rw [htk]
      by_cases h : m ≤ x
      · rw [Int.min_eq_left h]; exact List.mem_append_left _ hm
      · rw [Int.min_eq_right (by omega)]; simp
    have hle : ∀ y ∈ xs.take (i + 1), min m x ≤ y := fun y hy => by
      rw [htk] at hy
      rcases List.mem_append.1 hy with hy | hy
      · have := hmin y hy; omega
      · simp at hy; omega
    conv => whnf
    repeat' (first | (refine tell (fun htest => ?_) (fun htest => ?_) <;> (try dsimp only at htest) <;> first | (exfalso; omega) | (exact absurd rfl htest) | (exact absurd (by decide) htest) | (conv => whnf)) | (refine allG (x := x) (by first | exact hx | simpa [List.getElem?_append_right, lowOf] using hx | fail) ?_; conv => whnf) | (refine allLst (x := x) (by first | omega | assumption | fail) (by first | exact hx | simpa using hx | fail) ?_; conv => whnf) | (refine allG rfl ?_; conv => whnf) | (refine And.intro (by first | omega | assumption | kernel_rfl | exact And.intro rfl rfl | ((try dsimp only [inR, idx, lowOf]); first | omega | (with_reducible decide) | (simp; omega) | (simp; done) | fail) | fail) ?_; conv => whnf) | fail)
    refine ⟨(i + 1, min m x), [], ⟨by show 1 ≤ i + 1; omega, hlt, hmm, hle⟩, ?_, rfl, ?_, ?_, rfl⟩
    · dsimp only; first | omega | (simp; done) | (simp; omega)
    all_goals (repeat' (first | exact trivial | exact rfl | refine And.intro ?_ ?_ | (refine congrArg vI ?_; first | omega | (dsimp only; omega) | fail) | (refine congrArg some ?_) | omega | exact Nat.le_refl _ | exact congrArg (SV.lst _) (List.take_of_length_le (Nat.le_refl _)).symm))
  · rw [List.take_of_length_le (by omega)] at hm hmin
    conv => whnf
    repeat' (first | (refine tell (fun htest => ?_) (fun htest => ?_) <;> (try dsimp only at htest) <;> first | (exfalso; omega) | (exact absurd rfl htest) | (exact absurd (by decide) htest) | (conv => whnf)) | (refine allG rfl ?_; conv => whnf) | (refine And.intro (by first | omega | assumption | kernel_rfl | exact And.intro rfl rfl | ((try dsimp only [inR, idx, lowOf]); first | omega | (with_reducible decide) | (simp; omega) | (simp; done) | fail) | fail) ?_; conv => whnf) | fail)
    exact ⟨m, [], ⟨hm, hmin⟩, rfl, trivial, trivial⟩
def spEqual : Spec AF where
  γ := List Int × List Int
  δ := Bool
  args := fun g => [.lst 3 g.1, .lst 3 g.2]
  own := fun _ => []
  pre := fun g => g.1.length ≤ 9223372036854775807
  nnew := 0
  res := fun _ c => vB c
  own' := fun _ _ => []
  post := fun g c => (c = true ↔ g.1 = g.2)
theorem m_equal : Meets Tryd.prog regF 67 spEqual := by
  refine meets Tryd.func67 26 noWr rfl (by kernel_rfl) (by kernel_rfl) ?_
  rintro ⟨(a : List Int), (b : List Int)⟩ (hl : a.length ≤ 9223372036854775807)
  by_cases hlen : a.length = b.length
  · conv => whnf
    repeat' (first | (refine tell (fun htest => ?_) (fun htest => ?_) <;> (try dsimp only at htest) <;> first | (exfalso; omega) | (exact absurd rfl htest) | (exact absurd (by decide) htest) | (conv => whnf)) | (refine allG rfl ?_; conv => whnf) | (refine And.intro (by first | omega | assumption | kernel_rfl | exact And.intro rfl rfl | ((try dsimp only [inR, idx, lowOf]); first | omega | (with_reducible decide) | (simp; omega) | (simp; done) | fail) | fail) ?_; conv => whnf) | fail)
    refine ⟨Nat, fun i => ⟨[(0, .lst 3 a), (1, .lst 3 b), (12, vI a.length), (13, vI i)], []⟩, fun i => i ≤ a.length ∧ a.take i = b.take i, fun i => a.length - i, fun _ _ => rfl, ⟨0, [], ⟨Nat.zero_le _, rfl⟩, ?_⟩, ?_⟩
    · refine ⟨rfl, ?_, ?_, rfl⟩
      all_goals (repeat' (first | exact trivial | exact rfl | refine And.intro ?_ ?_ | (refine congrArg vI ?_; first | omega | (dsimp only; omega) | fail) | (refine congrArg some ?_) | omega | exact Nat.le_refl _ | exact congrArg (SV.lst _) (List.take_of_length_le (Nat.le_refl _)).symm))
    rintro (i : Nat) ⟨(hi : i ≤ a.length), (hs : a.take i = b.take i)⟩
    by_cases hlt : i < a.length
    · have hobt : ∃ x, a[i]? = some x := ⟨_, List.getElem?_eq_getElem hlt⟩
      obtain ⟨x, hx⟩ := hobt
      have hobt : ∃ y, b[i]? = some y := ⟨_, List.getElem?_eq_getElem (by omega)⟩
      obtain ⟨y, hy⟩ := hobt
      by_cases hxy : x = y
      · conv => whnf
        repeat' (first | (refine tell (fun htest => ?_) (fun htest => ?_) <;> (try dsimp only at htest) <;> first | (exfalso; omega) | (exact absurd rfl htest) | (exact absurd (by decide) htest) | (conv => whnf)) | (refine allG (x := x) (by first | exact hx | simpa [List.getElem?_append_right, lowOf] using hx | fail) ?_; conv => whnf) | (refine allLst (x := x) (by first | omega | assumption | fail) (by first | exact hx | simpa using hx | fail) ?_; conv => whnf) | (refine allG (x := y) (by first | exact hy | simpa [List.getElem?_append_right, lowOf] using hy | fail) ?_; conv => whnf) | (refine allLst (x := y) (by first | omega | assumption | fail) (by first | exact hy | simpa using hy | fail) ?_; conv => whnf) | (refine allG rfl ?_; conv => whnf) | (refine And.intro (by first | omega | assumption | kernel_rfl | exact And.intro rfl rfl | ((try dsimp only [inR, idx, lowOf]); first | omega | (with_reducible decide) | (simp; omega) | (simp; done) | fail) | fail) ?_; conv => whnf) | fail)
        refine ⟨i + 1, [], ⟨hlt, by rw [take_snocI hx, take_snocI hy, hs, hxy]⟩, ?_, rfl, ?_, ?_, rfl⟩
        · dsimp only; first | omega | (simp; done) | (simp; omega)
        all_goals (repeat' (first | exact trivial | exact rfl | refine And.intro ?_ ?_ | (refine congrArg vI ?_; first | omega | (dsimp only; omega) | fail) | (refine congrArg some ?_) | omega | exact Nat.le_refl _ | exact congrArg (SV.lst _) (List.take_of_length_le (Nat.le_refl _)).symm))
      · have hne : ¬ a = b := fun h => hxy (by rw [h, hy] at hx; exact (Option.some.inj hx).symm)
        conv => whnf
        repeat' (first | (refine tell (fun htest => ?_) (fun htest => ?_) <;> (try dsimp only at htest) <;> first | (exfalso; omega) | (exact absurd rfl htest) | (exact absurd (by decide) htest) | (conv => whnf)) | (refine allG (x := x) (by first | exact hx | simpa [List.getElem?_append_right, lowOf] using hx | fail) ?_; conv => whnf) | (refine allLst (x := x) (by first | omega | assumption | fail) (by first | exact hx | simpa using hx | fail) ?_; conv => whnf) | (refine allG (x := y) (by first | exact hy | simpa [List.getElem?_append_right, lowOf] using hy | fail) ?_; conv => whnf) | (refine allLst (x := y) (by first | omega | assumption | fail) (by first | exact hy | simpa using hy | fail) ?_; conv => whnf) | (refine allG rfl ?_; conv => whnf) | (refine And.intro (by first | omega | assumption | kernel_rfl | exact And.intro rfl rfl | ((try dsimp only [inR, idx, lowOf]); first | omega | (with_reducible decide) | (simp; omega) | (simp; done) | fail) | fail) ?_; conv => whnf) | fail)
        exact ⟨false, [], ⟨fun h => (by cases h), fun h => absurd h hne⟩, rfl, trivial, trivial⟩
    · rw [List.take_of_length_le (by omega), List.take_of_length_le (by omega)] at hs
      conv => whnf
      repeat' (first | (refine tell (fun htest => ?_) (fun htest => ?_) <;> (try dsimp only at htest) <;> first | (exfalso; omega) | (exact absurd rfl htest) | (exact absurd (by decide) htest) | (conv => whnf)) | (refine allG rfl ?_; conv => whnf) | (refine And.intro (by first | omega | assumption | kernel_rfl | exact And.intro rfl rfl | ((try dsimp only [inR, idx, lowOf]); first | omega | (with_reducible decide) | (simp; omega) | (simp; done) | fail) | fail) ?_; conv => whnf) | fail)
      exact ⟨true, [], ⟨fun _ => hs, fun _ => rfl⟩, rfl, trivial, trivial⟩
  · have hne : ¬ a = b := fun h => hlen (by rw [h])
    conv => whnf
    repeat' (first | (refine tell (fun htest => ?_) (fun htest => ?_) <;> (try dsimp only at htest) <;> first | (exfalso; omega) | (exact absurd rfl htest) | (exact absurd (by decide) htest) | (conv => whnf)) | (refine allG rfl ?_; conv => whnf) | (refine And.intro (by first | omega | assumption | kernel_rfl | exact And.intro rfl rfl | ((try dsimp only [inR, idx, lowOf]); first | omega | (with_reducible decide) | (simp; omega) | (simp; done) | fail) | fail) ?_; conv => whnf) | fail)
    exact ⟨false, [], ⟨fun h => (by cases h), fun h => absurd h hne⟩, rfl, trivial, trivial⟩
end Go.Sx


/-
  Layer 21, part B: Shared, Kind.
-/
namespace Go.Sx
open Go Go.Proofs Go.Proofs.YtmogappoadglgaaDoor
theorem comm_nil {ys : List Int} : comm [] ys = [] := rfl
theorem mem_comm {xs ys : List Int} {x : Int} : x ∈ comm xs ys ↔ x ∈ xs ∧ x ∈ ys := by unfold comm; simp
abbrev LL := List (List Int)
/-- What two lists, the first ones, have in common. -/
def SharedR (l : LL) (p : Int × Int × Int × Bool) : Prop :=
  (p = (0, 0, 0, false) ∧ ∀ (i j : Nat) xs ys, i < j → l[i]? = some xs → l[j]? = some ys → comm xs ys = []) ∨
  (∃ (a b : Nat) (x : Int) (xs ys : List Int), p = ((a : Int), (b : Int), x, true) ∧ a < b ∧ l[a]? = some xs ∧ l[b]? = some ys ∧ x ∈ comm xs ys ∧ (∀ y ∈ comm xs ys, x ≤ y) ∧
    ∀ (i j : Nat) xs' ys', i < j → (i < a ∨ (i = a ∧ j < b)) → l[i]? = some xs' → l[j]? = some ys' → comm xs' ys' = [])
def ShortL (l : LL) : Prop := l.length ≤ 1000000 ∧ ∀ xs ∈ l, xs.length ≤ 17592186044416
theorem sharedR_ex (l : LL) : ∃ p, SharedR l p := by
  by_cases h : ∃ a : Nat, ∃ b xs ys, a < b ∧ l[a]? = some xs ∧ l[b]? = some ys ∧ comm xs ys ≠ []
  · obtain ⟨a0, h0⟩ := h
    have hobt := ex_min (p := fun a => ∃ b xs ys, a < b ∧ l[a]? = some xs ∧ l[b]? = some ys ∧ comm xs ys ≠ []) a0 h0
    obtain ⟨a, ha, hamin⟩ := hobt
    obtain ⟨b0, hb0⟩ := ha
    have hobt := ex_min (p := fun b => ∃ xs ys, a < b ∧ l[a]? = some xs ∧ l[b]? = some ys ∧ comm xs ys ≠ []) b0 hb0
    obtain ⟨b, ⟨xs, ys, hab, hxs, hys, hne⟩, hbmin⟩ := hobt
    have hobt := min_ex (List.length_pos_iff.2 hne)
    obtain ⟨x, hx, hmin⟩ := hobt
    refine ⟨_, .inr ⟨a, b, x, xs, ys, rfl, hab, hxs, hys, hx, hmin, fun i j xs' ys' hij hlt hi hj => Classical.byContradiction fun hc => ?_⟩⟩
    rcases hlt with h | ⟨rfl, h⟩
    · have := hamin i ⟨j, xs', ys', hij, hi, hj, hc⟩; omega
    · have := hbmin j ⟨xs', ys', hij, hi, hj, hc⟩; omega
  · exact ⟨_, .inl ⟨rfl, fun i j xs ys hij hi hj => Classical.byContradiction fun hc => h ⟨i, j, xs, ys, hij, hi, hj, hc⟩⟩⟩
def spShared : Spec AF where
  γ := LL
  δ := Int × Int × Int × Bool
  args := fun l => [.lst 23 l]
  own := fun _ => []
  pre := ShortL
  nnew := 0
  res := fun _ p => .tup [vI p.1, vI p.2.1, vI p.2.2.1, vB p.2.2.2]
  own' := fun _ _ => []
  post := SharedR
set_option maxHeartbeats 1600000 in
theorem m_shared : Meets Tryd.prog regF 33 spShared := by
  refine meets Tryd.func33 44 noWr rfl (by kernel_rfl) (by kernel_rfl) ?_
  rintro (l : LL) ⟨(hl : l.length ≤ 1000000), (hls : ∀ xs ∈ l, xs.length ≤ 17592186044416)⟩
  conv => whnf
  repeat' (first | (refine tell (fun htest => ?_) (fun htest => ?_) <;> (try dsimp only at htest) <;> first | (exfalso; omega) | (exact absurd rfl htest) | (exact absurd (by decide) htest) | (conv => whnf)) | (refine allG rfl ?_; conv => whnf) | (refine And.intro (by first | omega | assumption | kernel_rfl | exact And.intro rfl rfl | ((try dsimp only [inR, idx, lowOf]); first | omega | (with_reducible decide) | (simp; omega) | (simp; done) | fail) | fail) ?_; conv => whnf) | fail)
  refine ⟨Nat, fun i => ⟨[(0, .lst 23 l), (2, vI 0), (3, vI 0), (4, vI 0), (5, vB false), (11, .lst 23 l), (12, vI l.length), (13, vI i)], []⟩, fun i => i ≤ l.length ∧ ∀ (i' j : Nat) xs ys, i' < j → i' < i → l[i']? = some xs → l[j]? = some ys → comm xs ys = [], fun i => l.length - i, fun _ _ => rfl, ⟨0, [], ⟨Nat.zero_le _, fun i' j _ _ _ h => absurd h (Nat.not_lt_zero _)⟩, ?_⟩, ?_⟩
  · refine ⟨rfl, ?_, ?_, rfl⟩
    all_goals (repeat' (first | exact trivial | exact rfl | refine And.intro ?_ ?_ | (refine congrArg vI ?_; first | omega | (dsimp only; omega) | fail) | (refine congrArg some ?_) | omega | exact Nat.le_refl _ | exact congrArg (SV.lst _) (List.take_of_length_le (Nat.le_refl _)).symm))
  rintro (i : Nat) ⟨(hi : i ≤ l.length), (hno : ∀ (i' j : Nat) xs ys, i' < j → i' < i → l[i']? = some xs → l[j]? = some ys → comm xs ys = [])⟩
  by_cases hlt : i < l.length
  · have hobt : ∃ xs, l[i]? = some xs := ⟨_, List.getElem?_eq_getElem hlt⟩
    obtain ⟨xs, hxs⟩ := hobt
    have hxl := hls xs (List.mem_of_getElem? hxs)
    conv => whnf
    repeat' (first | (refine tell (fun htest => ?_) (fun htest => ?_) <;> (try dsimp only at htest) <;> first | (exfalso; omega) | (exact absurd rfl htest) | (exact absurd (by decide) htest) | (conv => whnf)) | (refine allG (x := xs) (by first | exact hxs | simpa [List.getElem?_append_right, lowOf] using hxs | fail) ?_; conv => whnf) | (refine allLst (x := xs) (by first | omega | assumption | fail) (by first | exact hxs | simpa using hxs | fail) ?_; conv => whnf) | (refine allG rfl ?_; conv => whnf) | (refine And.intro (by first | omega | assumption | kernel_rfl | exact And.intro rfl rfl | ((try dsimp only [inR, idx, lowOf]); first | omega | (with_reducible decide) | (simp; omega) | (simp; done) | fail) | fail) ?_; conv => whnf) | fail)
    have hdl : (l.drop (i + 1)).length = l.length - (i + 1) := List.length_drop
    refine ⟨Nat, fun k => ⟨[(0, .lst 23 l), (2, vI 0), (3, vI 0), (4, vI 0), (5, vB false), (11, .lst 23 l), (12, vI l.length), (13, vI i), (6, vI i), (7, .lst 3 xs), (21, .lst 23 (l.drop (i + 1))), (22, vI (l.drop (i + 1)).length), (23, vI k)], []⟩, fun k => k ≤ (l.drop (i + 1)).length ∧ ∀ (j : Nat) ys, i < j → j < i + 1 + k → l[j]? = some ys → comm xs ys = [], fun k => (l.drop (i + 1)).length - k, fun _ _ => rfl, ⟨0, [], ⟨Nat.zero_le _, fun j ys h1 h2 => by omega⟩, ?_⟩, ?_⟩
    · refine ⟨rfl, ?_, ?_, rfl⟩
      all_goals (repeat' (first | exact trivial | exact rfl | refine And.intro ?_ ?_ | (refine congrArg vI ?_; first | omega | (dsimp only; omega) | fail) | (refine congrArg some ?_) | omega | exact Nat.le_refl _ | exact congrArg (SV.lst _) (List.take_of_length_le (Nat.le_refl _)).symm))
    rintro (k : Nat) ⟨(hk : k ≤ (l.drop (i + 1)).length), (hnk : ∀ (j : Nat) ys, i < j → j < i + 1 + k → l[j]? = some ys → comm xs ys = [])⟩
    by_cases hkl : k < (l.drop (i + 1)).length
    · have hobt : ∃ ys, (l.drop (i + 1))[k]? = some ys := ⟨_, List.getElem?_eq_getElem hkl⟩
      obtain ⟨ys, hys⟩ := hobt
      have hys2 : l[i + 1 + k]? = some ys := by rw [List.getElem?_drop] at hys; exact hys
      have hyl := hls ys (List.mem_of_getElem? hys2)
      have next : comm xs ys = [] → ∀ (j : Nat) ys', i < j → j < i + 1 + (k + 1) → l[j]? = some ys' → comm xs ys' = [] := fun h j ys' h1 h2 h3 => by
        by_cases e : j = i + 1 + k
        · subst e; rw [hys2] at h3; cases h3; exact h
        · exact hnk j ys' h1 (by omega) h3
      by_cases hx0 : xs = []
      · subst hx0
        have h00 : (List.length ([] : List (AF 3))) = 0 := rfl
        conv => whnf
        repeat' (first | (refine tell (fun htest => ?_) (fun htest => ?_) <;> (try dsimp only at htest) <;> first | (exfalso; omega) | (exact absurd rfl htest) | (exact absurd (by decide) htest) | (conv => whnf)) | (refine allG (x := ys) (by first | exact hys | simpa [List.getElem?_append_right, lowOf] using hys | fail) ?_; conv => whnf) | (refine allLst (x := ys) (by first | omega | assumption | fail) (by first | exact hys | simpa using hys | fail) ?_; conv => whnf) | (refine allG rfl ?_; conv => whnf) | (refine And.intro (by first | omega | assumption | kernel_rfl | exact And.intro rfl rfl | ((try dsimp only [inR, idx, lowOf]); first | omega | (with_reducible decide) | (simp; omega) | (simp; done) | fail) | fail) ?_; conv => whnf) | fail)
        refine ⟨_, m_clone0, (), [], false, ?_⟩
        conv => whnf
        refine And.intro (vc0 trivial (by (repeat' (first | exact trivial | exact rfl | refine And.intro ?_ ?_ | (refine congrArg vI ?_; first | omega | (dsimp only; omega) | fail) | (refine congrArg some ?_) | omega | exact Nat.le_refl _ | exact congrArg (SV.lst _) (List.take_of_length_le (Nat.le_refl _)).symm))) (by repeat' (first | exact trivial | exact rfl | refine And.intro ?_ ?_ | (refine congrArg vI ?_; first | omega | (dsimp only; omega) | fail) | (refine congrArg some ?_) | omega | exact Nat.le_refl _ | exact congrArg (SV.lst _) (List.take_of_length_le (Nat.le_refl _)).symm)) trivial trivial) ?_
        refine And.intro ⟨(), trivial⟩ (fun (_ : Unit) _ => ?_)
        conv => whnf
        conv => whnf
        repeat' (first | (refine tell (fun htest => ?_) (fun htest => ?_) <;> (try dsimp only at htest) <;> first | (exfalso; omega) | (exact absurd rfl htest) | (exact absurd (by decide) htest) | (conv => whnf)) | (refine allG rfl ?_; conv => whnf) | (refine And.intro (by first | omega | assumption | kernel_rfl | exact And.intro rfl rfl | ((try dsimp only [inR, idx, lowOf]); first | omega | (with_reducible decide) | (simp; omega) | (simp; done) | fail) | fail) ?_; conv => whnf) | fail)
        refine ⟨_, m_del0, ys, [1009], false, ?_⟩
        conv => whnf
        refine And.intro (vc0 (show ys.length ≤ 9223372036854775807 by omega) (by (repeat' (first | exact trivial | exact rfl | refine And.intro ?_ ?_ | (refine congrArg vI ?_; first | omega | (dsimp only; omega) | fail) | (refine congrArg some ?_) | omega | exact Nat.le_refl _ | exact congrArg (SV.lst _) (List.take_of_length_le (Nat.le_refl _)).symm))) (by repeat' (first | exact trivial | exact rfl | refine And.intro ?_ ?_ | (refine congrArg vI ?_; first | omega | (dsimp only; omega) | fail) | (refine congrArg some ?_) | omega | exact Nat.le_refl _ | exact congrArg (SV.lst _) (List.take_of_length_le (Nat.le_refl _)).symm)) trivial trivial) ?_
        refine And.intro ⟨(), trivial⟩ (fun (_ : Unit) _ => ?_)
        conv => whnf
        conv => whnf
        repeat' (first | (refine tell (fun htest => ?_) (fun htest => ?_) <;> (try dsimp only at htest) <;> first | (exfalso; omega) | (exact absurd rfl htest) | (exact absurd (by decide) htest) | (conv => whnf)) | (refine allG rfl ?_; conv => whnf) | (refine And.intro (by first | omega | assumption | kernel_rfl | exact And.intro rfl rfl | ((try dsimp only [inR, idx, lowOf]); first | omega | (with_reducible decide) | (simp; omega) | (simp; done) | fail) | fail) ?_; conv => whnf) | fail)
        refine ⟨k + 1, [], ⟨hkl, next rfl⟩, ?_, rfl, ?_, ?_, rfl⟩
        · dsimp only; first | omega | (simp; done) | (simp; omega)
        all_goals (repeat' (first | exact trivial | exact rfl | refine And.intro ?_ ?_ | (refine congrArg vI ?_; first | omega | (dsimp only; omega) | fail) | (refine congrArg some ?_) | omega | exact Nat.le_refl _ | exact congrArg (SV.lst _) (List.take_of_length_le (Nat.le_refl _)).symm))
      · have hxp : 0 < xs.length := List.length_pos_iff.2 hx0
        conv => whnf
        repeat' (first | (refine tell (fun htest => ?_) (fun htest => ?_) <;> (try dsimp only at htest) <;> first | (exfalso; omega) | (exact absurd rfl htest) | (exact absurd (by decide) htest) | (conv => whnf)) | (refine allG (x := ys) (by first | exact hys | simpa [List.getElem?_append_right, lowOf] using hys | fail) ?_; conv => whnf) | (refine allLst (x := ys) (by first | omega | assumption | fail) (by first | exact hys | simpa using hys | fail) ?_; conv => whnf) | (refine allG rfl ?_; conv => whnf) | (refine And.intro (by first | omega | assumption | kernel_rfl | exact And.intro rfl rfl | ((try dsimp only [inR, idx, lowOf]); first | omega | (with_reducible decide) | (simp; omega) | (simp; done) | fail) | fail) ?_; conv => whnf) | fail)
        refine ⟨_, m_clone, xs, [], false, ?_⟩
        conv => whnf
        refine And.intro (vc0 ⟨hxp, hxl⟩ (by (repeat' (first | exact trivial | exact rfl | refine And.intro ?_ ?_ | (refine congrArg vI ?_; first | omega | (dsimp only; omega) | fail) | (refine congrArg some ?_) | omega | exact Nat.le_refl _ | exact congrArg (SV.lst _) (List.take_of_length_le (Nat.le_refl _)).symm))) (by repeat' (first | exact trivial | exact rfl | refine And.intro ?_ ?_ | (refine congrArg vI ?_; first | omega | (dsimp only; omega) | fail) | (refine congrArg some ?_) | omega | exact Nat.le_refl _ | exact congrArg (SV.lst _) (List.take_of_length_le (Nat.le_refl _)).symm)) trivial trivial) ?_
        refine And.intro ⟨(), trivial⟩ (fun (_ : Unit) _ => ?_)
        conv => whnf
        conv => whnf
        repeat' (first | (refine tell (fun htest => ?_) (fun htest => ?_) <;> (try dsimp only at htest) <;> first | (exfalso; omega) | (exact absurd rfl htest) | (exact absurd (by decide) htest) | (conv => whnf)) | (refine allG rfl ?_; conv => whnf) | (refine And.intro (by first | omega | assumption | kernel_rfl | exact And.intro rfl rfl | ((try dsimp only [inR, idx, lowOf]); first | omega | (with_reducible decide) | (simp; omega) | (simp; done) | fail) | fail) ?_; conv => whnf) | fail)
        refine ⟨_, m_del, (xs, ys), [1029, 1009], false, ?_⟩
        conv => whnf
        refine And.intro (vc0 ⟨(show xs.length ≤ 9223372036854775806 by omega), (show ys.length ≤ 9223372036854775807 by omega)⟩ (by (repeat' (first | exact trivial | exact rfl | refine And.intro ?_ ?_ | (refine congrArg vI ?_; first | omega | (dsimp only; omega) | fail) | (refine congrArg some ?_) | omega | exact Nat.le_refl _ | exact congrArg (SV.lst _) (List.take_of_length_le (Nat.le_refl _)).symm))) (by repeat' (first | exact trivial | exact rfl | refine And.intro ?_ ?_ | (refine congrArg vI ?_; first | omega | (dsimp only; omega) | fail) | (refine congrArg some ?_) | omega | exact Nat.le_refl _ | exact congrArg (SV.lst _) (List.take_of_length_le (Nat.le_refl _)).symm)) trivial trivial) ?_
        refine And.intro ⟨(), trivial⟩ (fun (_ : Unit) _ => ?_)
        conv => whnf
        by_cases hc : comm xs ys = []
        · have hc0 : (comm xs ys).length = 0 := by rw [hc]; rfl
          conv => whnf
          repeat' (first | (refine tell (fun htest => ?_) (fun htest => ?_) <;> (try dsimp only at htest) <;> first | (exfalso; omega) | (exact absurd rfl htest) | (exact absurd (by decide) htest) | (conv => whnf)) | (refine allG rfl ?_; conv => whnf) | (refine And.intro (by first | omega | assumption | kernel_rfl | exact And.intro rfl rfl | ((try dsimp only [inR, idx, lowOf]); first | omega | (with_reducible decide) | (simp; omega) | (simp; done) | fail) | fail) ?_; conv => whnf) | fail)
          refine ⟨k + 1, [], ⟨hkl, next hc⟩, ?_, rfl, ?_, ?_, rfl⟩
          · dsimp only; first | omega | (simp; done) | (simp; omega)
          all_goals (repeat' (first | exact trivial | exact rfl | refine And.intro ?_ ?_ | (refine congrArg vI ?_; first | omega | (dsimp only; omega) | fail) | (refine congrArg some ?_) | omega | exact Nat.le_refl _ | exact congrArg (SV.lst _) (List.take_of_length_le (Nat.le_refl _)).symm))
        · have hc0 : 0 < (comm xs ys).length := List.length_pos_iff.2 hc
          have hcl : (comm xs ys).length ≤ xs.length := by unfold comm; exact List.length_filter_le _ _
          conv => whnf
          repeat' (first | (refine tell (fun htest => ?_) (fun htest => ?_) <;> (try dsimp only at htest) <;> first | (exfalso; omega) | (exact absurd rfl htest) | (exact absurd (by decide) htest) | (conv => whnf)) | (refine allG rfl ?_; conv => whnf) | (refine And.intro (by first | omega | assumption | kernel_rfl | exact And.intro rfl rfl | ((try dsimp only [inR, idx, lowOf]); first | omega | (with_reducible decide) | (simp; omega) | (simp; done) | fail) | fail) ?_; conv => whnf) | fail)
          refine ⟨_, m_min, comm xs ys, [], false, ?_⟩
          conv => whnf
          refine And.intro (vc0 ⟨hc0, (show (comm xs ys).length ≤ 9223372036854775807 by omega)⟩ (by (repeat' (first | exact trivial | exact rfl | refine And.intro ?_ ?_ | (refine congrArg vI ?_; first | omega | (dsimp only; omega) | fail) | (refine congrArg some ?_) | omega | exact Nat.le_refl _ | exact congrArg (SV.lst _) (List.take_of_length_le (Nat.le_refl _)).symm))) (by repeat' (first | exact trivial | exact rfl | refine And.intro ?_ ?_ | (refine congrArg vI ?_; first | omega | (dsimp only; omega) | fail) | (refine congrArg some ?_) | omega | exact Nat.le_refl _ | exact congrArg (SV.lst _) (List.take_of_length_le (Nat.le_refl _)).symm)) trivial trivial) ?_
          refine And.intro (min_ex hc0) ?_
          rintro (r : Int) ⟨(hr : r ∈ comm xs ys), (hmin : ∀ y ∈ comm xs ys, r ≤ y)⟩
          conv => whnf
          repeat' (first | (refine tell (fun htest => ?_) (fun htest => ?_) <;> (try dsimp only at htest) <;> first | (exfalso; omega) | (exact absurd rfl htest) | (exact absurd (by decide) htest) | (conv => whnf)) | (refine allG rfl ?_; conv => whnf) | (refine And.intro (by first | omega | assumption | kernel_rfl | exact And.intro rfl rfl | ((try dsimp only [inR, idx, lowOf]); first | omega | (with_reducible decide) | (simp; omega) | (simp; done) | fail) | fail) ?_; conv => whnf) | fail)
          refine ⟨((i : Int), ((i + 1 + k : Nat) : Int), r, true), [], .inr ⟨i, i + 1 + k, r, xs, ys, rfl, by omega, hxs, hys2, hr, hmin, fun i' j xs' ys' hij hlt' hi' hj' => ?_⟩, ⟨rfl, congrArg vI (show (i : Int) + 1 + k = ((i + 1 + k : Nat) : Int) by omega), rfl, rfl, trivial⟩, trivial, trivial⟩
          rcases hlt' with h | ⟨rfl, h⟩
          · exact hno i' j xs' ys' hij h hi' hj'
          · rw [hxs] at hi'; cases hi'; exact hnk j ys' hij h hj'
    · have hnx : ∀ (i' j : Nat) xs' ys, i' < j → i' < i + 1 → l[i']? = some xs' → l[j]? = some ys → comm xs' ys = [] := fun i' j xs' ys hij hi' h1 h2 => by
        by_cases e : i' = i
        · subst e
          rw [hxs] at h1; cases h1
          have := (List.getElem?_eq_some_iff.1 h2).1
          exact hnk j ys hij (by omega) h2
        · exact hno i' j xs' ys hij (by omega) h1 h2
      conv => whnf
      repeat' (first | (refine tell (fun htest => ?_) (fun htest => ?_) <;> (try dsimp only at htest) <;> first | (exfalso; omega) | (exact absurd rfl htest) | (exact absurd (by decide) htest) | (conv => whnf)) | (refine allG rfl ?_; conv => whnf) | (refine And.intro (by first | omega | assumption | kernel_rfl | exact And.intro rfl rfl | ((try dsimp only [inR, idx, lowOf]); first | omega | (with_reducible decide) | (simp; omega) | (simp; done) | fail) | fail) ?_; conv => whnf) | fail)
      refine ⟨i + 1, [], ⟨hlt, hnx⟩, ?_, rfl, ?_, ?_, rfl⟩
      · dsimp only; first | omega | (simp; done) | (simp; omega)
      all_goals (repeat' (first | exact trivial | exact rfl | refine And.intro ?_ ?_ | (refine congrArg vI ?_; first | omega | (dsimp only; omega) | fail) | (refine congrArg some ?_) | omega | exact Nat.le_refl _ | exact congrArg (SV.lst _) (List.take_of_length_le (Nat.le_refl _)).symm))
  · conv => whnf
    repeat' (first | (refine tell (fun htest => ?_) (fun htest => ?_) <;> (try dsimp only at htest) <;> first | (exfalso; omega) | (exact absurd rfl htest) | (exact absurd (by decide) htest) | (conv => whnf)) | (refine allG rfl ?_; conv => whnf) | (refine And.intro (by first | omega | assumption | kernel_rfl | exact And.intro rfl rfl | ((try dsimp only [inR, idx, lowOf]); first | omega | (with_reducible decide) | (simp; omega) | (simp; done) | fail) | fail) ?_; conv => whnf) | fail)
    exact ⟨((0, 0, 0, false) : Int × Int × Int × Bool), [], .inl ⟨rfl, fun i' j xs ys hij h1 h2 => hno i' j xs ys hij (by have := (List.getElem?_eq_some_iff.1 h1).1; omega) h1 h2⟩, ⟨rfl, rfl, rfl, rfl, trivial⟩, trivial, trivial⟩
/-- Does a list begin with another one? -/
def spBegins : Spec AF where
  γ := List Int × List Int
  δ := Bool
  args := fun g => [.lst 3 g.1, .lst 3 g.2]
  own := fun _ => []
  pre := fun g => g.1.length ≤ 9223372036854775807 ∧ g.2.length ≤ 9223372036854775807
  nnew := 0
  res := fun _ c => vB c
  own' := fun _ _ => []
  post := fun g c => (c = true ↔ g.2 <+: g.1)
theorem m_begins : Meets Tryd.prog regF 68 spBegins := by
  refine meets Tryd.func68 18 noWr rfl (by kernel_rfl) (by kernel_rfl) ?_
  rintro ⟨(a : List Int), (b : List Int)⟩ ⟨(ha : a.length ≤ 9223372036854775807), (hb : b.length ≤ 9223372036854775807)⟩
  by_cases h : b.length ≤ a.length
  · conv => whnf
    repeat' (first | (refine tell (fun htest => ?_) (fun htest => ?_) <;> (try dsimp only at htest) <;> first | (exfalso; omega) | (exact absurd rfl htest) | (exact absurd (by decide) htest) | (conv => whnf)) | (refine allG rfl ?_; conv => whnf) | (refine And.intro (by first | omega | assumption | kernel_rfl | exact And.intro rfl rfl | ((try dsimp only [inR, idx, lowOf]); first | omega | (with_reducible decide) | (simp; omega) | (simp; done) | fail) | fail) ?_; conv => whnf) | fail)
    refine ⟨_, m_equal, ((a.take b.length).drop 0, b), [], false, ?_⟩
    conv => whnf
    refine And.intro (vc0 (show ((a.take b.length).drop 0).length ≤ 9223372036854775807 by simp; omega) (by (repeat' (first | exact trivial | exact rfl | refine And.intro ?_ ?_ | (refine congrArg vI ?_; first | omega | (dsimp only; omega) | fail) | (refine congrArg some ?_) | omega | exact Nat.le_refl _ | exact congrArg (SV.lst _) (List.take_of_length_le (Nat.le_refl _)).symm))) (by repeat' (first | exact trivial | exact rfl | refine And.intro ?_ ?_ | (refine congrArg vI ?_; first | omega | (dsimp only; omega) | fail) | (refine congrArg some ?_) | omega | exact Nat.le_refl _ | exact congrArg (SV.lst _) (List.take_of_length_le (Nat.le_refl _)).symm)) trivial trivial) ?_
    refine And.intro (pred_ex _) ?_
    intro (c : Bool) (hc : c = true ↔ (a.take b.length).drop 0 = b)
    rw [List.drop_zero] at hc
    have hp : (a.take b.length = b) ↔ b <+: a := by rw [List.prefix_iff_eq_take]; exact eq_comm
    conv => whnf
    repeat' (first | (refine tell (fun htest => ?_) (fun htest => ?_) <;> (try dsimp only at htest) <;> first | (exfalso; omega) | (exact absurd rfl htest) | (exact absurd (by decide) htest) | (conv => whnf)) | (refine allG rfl ?_; conv => whnf) | (refine And.intro (by first | omega | assumption | kernel_rfl | exact And.intro rfl rfl | ((try dsimp only [inR, idx, lowOf]); first | omega | (with_reducible decide) | (simp; omega) | (simp; done) | fail) | fail) ?_; conv => whnf) | fail)
    exact ⟨c, [], hc.trans hp, rfl, trivial, trivial⟩
  · have hn : ¬ b <+: a := fun hp => h hp.length_le
    conv => whnf
    repeat' (first | (refine tell (fun htest => ?_) (fun htest => ?_) <;> (try dsimp only at htest) <;> first | (exfalso; omega) | (exact absurd rfl htest) | (exact absurd (by decide) htest) | (conv => whnf)) | (refine allG rfl ?_; conv => whnf) | (refine And.intro (by first | omega | assumption | kernel_rfl | exact And.intro rfl rfl | ((try dsimp only [inR, idx, lowOf]); first | omega | (with_reducible decide) | (simp; omega) | (simp; done) | fail) | fail) ?_; conv => whnf) | fail)
    exact ⟨false, [], ⟨fun h => (by cases h), fun h => absurd h hn⟩, rfl, trivial, trivial⟩
/-- What became of a list. -/
noncomputable def kindF (a b : List Int) : Int := open Classical in
  if a = b then 1 else if 1 < a.length ∧ a.drop 1 = b then 2 else if a <+: b then 3 else if b.length = 1 ∧ b <+: a then 4 else 0
noncomputable def spKind : Spec AF where
  γ := List Int × List Int
  δ := Unit
  args := fun g => [.lst 3 g.1, .lst 3 g.2]
  own := fun _ => []
  pre := fun g => g.1.length ≤ 9223372036854775807 ∧ g.2.length ≤ 9223372036854775807
  nnew := 0
  res := fun g _ => vI (kindF g.1 g.2)
  own' := fun _ _ => []
  post := fun _ _ => True
theorem m_kind : Meets Tryd.prog regF 36 spKind := by
  refine meets Tryd.func36 32 noWr rfl (by kernel_rfl) (by kernel_rfl) ?_
  rintro ⟨(a : List Int), (b : List Int)⟩ ⟨(ha : a.length ≤ 9223372036854775807), (hb : b.length ≤ 9223372036854775807)⟩
  conv => whnf
  repeat' (first | (refine tell (fun htest => ?_) (fun htest => ?_) <;> (try dsimp only at htest) <;> first | (exfalso; omega) | (exact absurd rfl htest) | (exact absurd (by decide) htest) | (conv => whnf)) | (refine allG rfl ?_; conv => whnf) | (refine And.intro (by first | omega | assumption | kernel_rfl | exact And.intro rfl rfl | ((try dsimp only [inR, idx, lowOf]); first | omega | (with_reducible decide) | (simp; omega) | (simp; done) | fail) | fail) ?_; conv => whnf) | fail)
  refine ⟨_, m_equal, (a, b), [], false, ?_⟩
  conv => whnf
  refine And.intro (vc0 ha (by (repeat' (first | exact trivial | exact rfl | refine And.intro ?_ ?_ | (refine congrArg vI ?_; first | omega | (dsimp only; omega) | fail) | (refine congrArg some ?_) | omega | exact Nat.le_refl _ | exact congrArg (SV.lst _) (List.take_of_length_le (Nat.le_refl _)).symm))) (by repeat' (first | exact trivial | exact rfl | refine And.intro ?_ ?_ | (refine congrArg vI ?_; first | omega | (dsimp only; omega) | fail) | (refine congrArg some ?_) | omega | exact Nat.le_refl _ | exact congrArg (SV.lst _) (List.take_of_length_le (Nat.le_refl _)).symm)) trivial trivial) ?_
  refine And.intro (pred_ex _) ?_
  intro (c : Bool) (hc : c = true ↔ a = b)
  have tl : 1 < a.length → ∀ P : Prop, P → P := fun _ _ h => h
  cases c
  · have h1 : ¬ a = b := fun h => by have := hc.2 h; cases this
    have rest : ¬ (1 < a.length ∧ a.drop 1 = b) → ∀ k : Int, k = (open Classical in if a <+: b then 3 else if b.length = 1 ∧ b <+: a then 4 else 0) → k = kindF a b := fun h2 k hk => by
      unfold kindF; rw [if_neg h1, if_neg h2]; exact hk
    by_cases hl : 1 < a.length
    · conv => whnf
      repeat' (first | (refine tell (fun htest => ?_) (fun htest => ?_) <;> (try dsimp only at htest) <;> first | (exfalso; omega) | (exact absurd rfl htest) | (exact absurd (by decide) htest) | (conv => whnf)) | (refine allG rfl ?_; conv => whnf) | (refine And.intro (by first | omega | assumption | kernel_rfl | exact And.intro rfl rfl | ((try dsimp only [inR, idx, lowOf]); first | omega | (with_reducible decide) | (simp; omega) | (simp; done) | fail) | fail) ?_; conv => whnf) | fail)
      refine ⟨_, m_equal, (a.drop 1, b), [], false, ?_⟩
      conv => whnf
      refine And.intro (vc0 (show (a.drop 1).length ≤ 9223372036854775807 by simp; omega) (by (repeat' (first | exact trivial | exact rfl | refine And.intro ?_ ?_ | (refine congrArg vI ?_; first | omega | (dsimp only; omega) | fail) | (refine congrArg some ?_) | omega | exact Nat.le_refl _ | exact congrArg (SV.lst _) (List.take_of_length_le (Nat.le_refl _)).symm))) (by repeat' (first | exact trivial | exact rfl | refine And.intro ?_ ?_ | (refine congrArg vI ?_; first | omega | (dsimp only; omega) | fail) | (refine congrArg some ?_) | omega | exact Nat.le_refl _ | exact congrArg (SV.lst _) (List.take_of_length_le (Nat.le_refl _)).symm)) trivial trivial) ?_
      refine And.intro (pred_ex _) ?_
      intro (c : Bool) (hc2 : c = true ↔ a.drop 1 = b)
      cases c
      · have hn2 : ¬ (1 < a.length ∧ a.drop 1 = b) := fun h => by have := hc2.2 h.2; cases this
        conv => whnf
        repeat' (first | (refine tell (fun htest => ?_) (fun htest => ?_) <;> (try dsimp only at htest) <;> first | (exfalso; omega) | (exact absurd rfl htest) | (exact absurd (by decide) htest) | (conv => whnf)) | (refine allG rfl ?_; conv => whnf) | (refine And.intro (by first | omega | assumption | kernel_rfl | exact And.intro rfl rfl | ((try dsimp only [inR, idx, lowOf]); first | omega | (with_reducible decide) | (simp; omega) | (simp; done) | fail) | fail) ?_; conv => whnf) | fail)
        refine ⟨_, m_begins, (b, a), [], false, ?_⟩
        conv => whnf
        refine And.intro (vc0 ⟨hb, ha⟩ (by (repeat' (first | exact trivial | exact rfl | refine And.intro ?_ ?_ | (refine congrArg vI ?_; first | omega | (dsimp only; omega) | fail) | (refine congrArg some ?_) | omega | exact Nat.le_refl _ | exact congrArg (SV.lst _) (List.take_of_length_le (Nat.le_refl _)).symm))) (by repeat' (first | exact trivial | exact rfl | refine And.intro ?_ ?_ | (refine congrArg vI ?_; first | omega | (dsimp only; omega) | fail) | (refine congrArg some ?_) | omega | exact Nat.le_refl _ | exact congrArg (SV.lst _) (List.take_of_length_le (Nat.le_refl _)).symm)) trivial trivial) ?_
        refine And.intro (pred_ex _) ?_
        intro (c : Bool) (hc3 : c = true ↔ a <+: b)
        cases c
        · have h3 : ¬ a <+: b := fun h => by have := hc3.2 h; cases this
          by_cases hb1 : b.length = 1
          · conv => whnf
            repeat' (first | (refine tell (fun htest => ?_) (fun htest => ?_) <;> (try dsimp only at htest) <;> first | (exfalso; omega) | (exact absurd rfl htest) | (exact absurd (by decide) htest) | (conv => whnf)) | (refine allG rfl ?_; conv => whnf) | (refine And.intro (by first | omega | assumption | kernel_rfl | exact And.intro rfl rfl | ((try dsimp only [inR, idx, lowOf]); first | omega | (with_reducible decide) | (simp; omega) | (simp; done) | fail) | fail) ?_; conv => whnf) | fail)
            refine ⟨_, m_begins, (a, b), [], false, ?_⟩
            conv => whnf
            refine And.intro (vc0 ⟨ha, hb⟩ (by (repeat' (first | exact trivial | exact rfl | refine And.intro ?_ ?_ | (refine congrArg vI ?_; first | omega | (dsimp only; omega) | fail) | (refine congrArg some ?_) | omega | exact Nat.le_refl _ | exact congrArg (SV.lst _) (List.take_of_length_le (Nat.le_refl _)).symm))) (by repeat' (first | exact trivial | exact rfl | refine And.intro ?_ ?_ | (refine congrArg vI ?_; first | omega | (dsimp only; omega) | fail) | (refine congrArg some ?_) | omega | exact Nat.le_refl _ | exact congrArg (SV.lst _) (List.take_of_length_le (Nat.le_refl _)).symm)) trivial trivial) ?_
            refine And.intro (pred_ex _) ?_
            intro (c : Bool) (hc4 : c = true ↔ b <+: a)
            cases c
            · have h4 : ¬ (b.length = 1 ∧ b <+: a) := fun h => by have := hc4.2 h.2; cases this
              conv => whnf
              repeat' (first | (refine tell (fun htest => ?_) (fun htest => ?_) <;> (try dsimp only at htest) <;> first | (exfalso; omega) | (exact absurd rfl htest) | (exact absurd (by decide) htest) | (conv => whnf)) | (refine allG rfl ?_; conv => whnf) | (refine And.intro (by first | omega | assumption | kernel_rfl | exact And.intro rfl rfl | ((try dsimp only [inR, idx, lowOf]); first | omega | (with_reducible decide) | (simp; omega) | (simp; done) | fail) | fail) ?_; conv => whnf) | fail)
              exact ⟨(), [], trivial, eI (rest hn2 0 (by rw [if_neg h3, if_neg h4])), trivial, trivial⟩
            · conv => whnf
              repeat' (first | (refine tell (fun htest => ?_) (fun htest => ?_) <;> (try dsimp only at htest) <;> first | (exfalso; omega) | (exact absurd rfl htest) | (exact absurd (by decide) htest) | (conv => whnf)) | (refine allG rfl ?_; conv => whnf) | (refine And.intro (by first | omega | assumption | kernel_rfl | exact And.intro rfl rfl | ((try dsimp only [inR, idx, lowOf]); first | omega | (with_reducible decide) | (simp; omega) | (simp; done) | fail) | fail) ?_; conv => whnf) | fail)
              exact ⟨(), [], trivial, eI (rest hn2 4 (by rw [if_neg h3, if_pos ⟨hb1, hc4.1 rfl⟩])), trivial, trivial⟩
          · have h4 : ¬ (b.length = 1 ∧ b <+: a) := fun h => hb1 h.1
            conv => whnf
            repeat' (first | (refine tell (fun htest => ?_) (fun htest => ?_) <;> (try dsimp only at htest) <;> first | (exfalso; omega) | (exact absurd rfl htest) | (exact absurd (by decide) htest) | (conv => whnf)) | (refine allG rfl ?_; conv => whnf) | (refine And.intro (by first | omega | assumption | kernel_rfl | exact And.intro rfl rfl | ((try dsimp only [inR, idx, lowOf]); first | omega | (with_reducible decide) | (simp; omega) | (simp; done) | fail) | fail) ?_; conv => whnf) | fail)
            exact ⟨(), [], trivial, eI (rest hn2 0 (by rw [if_neg h3, if_neg h4])), trivial, trivial⟩
        · conv => whnf
          repeat' (first | (refine tell (fun htest => ?_) (fun htest => ?_) <;> (try dsimp only at htest) <;> first | (exfalso; omega) | (exact absurd rfl htest) | (exact absurd (by decide) htest) | (conv => whnf)) | (refine allG rfl ?_; conv => whnf) | (refine And.intro (by first | omega | assumption | kernel_rfl | exact And.intro rfl rfl | ((try dsimp only [inR, idx, lowOf]); first | omega | (with_reducible decide) | (simp; omega) | (simp; done) | fail) | fail) ?_; conv => whnf) | fail)
          exact ⟨(), [], trivial, eI (rest hn2 3 (by rw [if_pos (hc3.1 rfl)])), trivial, trivial⟩
      · conv => whnf
        repeat' (first | (refine tell (fun htest => ?_) (fun htest => ?_) <;> (try dsimp only at htest) <;> first | (exfalso; omega) | (exact absurd rfl htest) | (exact absurd (by decide) htest) | (conv => whnf)) | (refine allG rfl ?_; conv => whnf) | (refine And.intro (by first | omega | assumption | kernel_rfl | exact And.intro rfl rfl | ((try dsimp only [inR, idx, lowOf]); first | omega | (with_reducible decide) | (simp; omega) | (simp; done) | fail) | fail) ?_; conv => whnf) | fail)
        exact ⟨(), [], trivial, eI (show (2 : Int) = kindF a b by unfold kindF; rw [if_neg h1, if_pos ⟨hl, hc2.1 rfl⟩]), trivial, trivial⟩
    · have hn2 : ¬ (1 < a.length ∧ a.drop 1 = b) := fun h => hl h.1
      conv => whnf
      repeat' (first | (refine tell (fun htest => ?_) (fun htest => ?_) <;> (try dsimp only at htest) <;> first | (exfalso; omega) | (exact absurd rfl htest) | (exact absurd (by decide) htest) | (conv => whnf)) | (refine allG rfl ?_; conv => whnf) | (refine And.intro (by first | omega | assumption | kernel_rfl | exact And.intro rfl rfl | ((try dsimp only [inR, idx, lowOf]); first | omega | (with_reducible decide) | (simp; omega) | (simp; done) | fail) | fail) ?_; conv => whnf) | fail)
      refine ⟨_, m_begins, (b, a), [], false, ?_⟩
      conv => whnf
      refine And.intro (vc0 ⟨hb, ha⟩ (by (repeat' (first | exact trivial | exact rfl | refine And.intro ?_ ?_ | (refine congrArg vI ?_; first | omega | (dsimp only; omega) | fail) | (refine congrArg some ?_) | omega | exact Nat.le_refl _ | exact congrArg (SV.lst _) (List.take_of_length_le (Nat.le_refl _)).symm))) (by repeat' (first | exact trivial | exact rfl | refine And.intro ?_ ?_ | (refine congrArg vI ?_; first | omega | (dsimp only; omega) | fail) | (refine congrArg some ?_) | omega | exact Nat.le_refl _ | exact congrArg (SV.lst _) (List.take_of_length_le (Nat.le_refl _)).symm)) trivial trivial) ?_
      refine And.intro (pred_ex _) ?_
      intro (c : Bool) (hc3 : c = true ↔ a <+: b)
      cases c
      · have h3 : ¬ a <+: b := fun h => by have := hc3.2 h; cases this
        by_cases hb1 : b.length = 1
        · conv => whnf
          repeat' (first | (refine tell (fun htest => ?_) (fun htest => ?_) <;> (try dsimp only at htest) <;> first | (exfalso; omega) | (exact absurd rfl htest) | (exact absurd (by decide) htest) | (conv => whnf)) | (refine allG rfl ?_; conv => whnf) | (refine And.intro (by first | omega | assumption | kernel_rfl | exact And.intro rfl rfl | ((try dsimp only [inR, idx, lowOf]); first | omega | (with_reducible decide) | (simp; omega) | (simp; done) | fail) | fail) ?_; conv => whnf) | fail)
          refine ⟨_, m_begins, (a, b), [], false, ?_⟩
          conv => whnf
          refine And.intro (vc0 ⟨ha, hb⟩ (by (repeat' (first | exact trivial | exact rfl | refine And.intro ?_ ?_ | (refine congrArg vI ?_; first | omega | (dsimp only; omega) | fail) | (refine congrArg some ?_) | omega | exact Nat.le_refl _ | exact congrArg (SV.lst _) (List.take_of_length_le (Nat.le_refl _)).symm))) (by repeat' (first | exact trivial | exact rfl | refine And.intro ?_ ?_ | (refine congrArg vI ?_; first | omega | (dsimp only; omega) | fail) | (refine congrArg some ?_) | omega | exact Nat.le_refl _ | exact congrArg (SV.lst _) (List.take_of_length_le (Nat.le_refl _)).symm)) trivial trivial) ?_
          refine And.intro (pred_ex _) ?_
          intro (c : Bool) (hc4 : c = true ↔ b <+: a)
          cases c
          · have h4 : ¬ (b.length = 1 ∧ b <+: a) := fun h => by have := hc4.2 h.2; cases this
            conv => whnf
            repeat' (first | (refine tell (fun htest => ?_) (fun htest => ?_) <;> (try dsimp only at htest) <;> first | (exfalso; omega) | (exact absurd rfl htest) | (exact absurd (by decide) htest) | (conv => whnf)) | (refine allG rfl ?_; conv => whnf) | (refine And.intro (by first | omega | assumption | kernel_rfl | exact And.intro rfl rfl | ((try dsimp only [inR, idx, lowOf]); first | omega | (with_reducible decide) | (simp; omega) | (simp; done) | fail) | fail) ?_; conv => whnf) | fail)
            exact ⟨(), [], trivial, eI (rest hn2 0 (by rw [if_neg h3, if_neg h4])), trivial, trivial⟩
          · conv => whnf
            repeat' (first | (refine tell (fun htest => ?_) (fun htest => ?_) <;> (try dsimp only at htest) <;> first | (exfalso; omega) | (exact absurd rfl htest) | (exact absurd (by decide) htest) | (conv => whnf)) | (refine allG rfl ?_; conv => whnf) | (refine And.intro (by first | omega | assumption | kernel_rfl | exact And.intro rfl rfl | ((try dsimp only [inR, idx, lowOf]); first | omega | (with_reducible decide) | (simp; omega) | (simp; done) | fail) | fail) ?_; conv => whnf) | fail)
            exact ⟨(), [], trivial, eI (rest hn2 4 (by rw [if_neg h3, if_pos ⟨hb1, hc4.1 rfl⟩])), trivial, trivial⟩
        · have h4 : ¬ (b.length = 1 ∧ b <+: a) := fun h => hb1 h.1
          conv => whnf
          repeat' (first | (refine tell (fun htest => ?_) (fun htest => ?_) <;> (try dsimp only at htest) <;> first | (exfalso; omega) | (exact absurd rfl htest) | (exact absurd (by decide) htest) | (conv => whnf)) | (refine allG rfl ?_; conv => whnf) | (refine And.intro (by first | omega | assumption | kernel_rfl | exact And.intro rfl rfl | ((try dsimp only [inR, idx, lowOf]); first | omega | (with_reducible decide) | (simp; omega) | (simp; done) | fail) | fail) ?_; conv => whnf) | fail)
          exact ⟨(), [], trivial, eI (rest hn2 0 (by rw [if_neg h3, if_neg h4])), trivial, trivial⟩
      · conv => whnf
        repeat' (first | (refine tell (fun htest => ?_) (fun htest => ?_) <;> (try dsimp only at htest) <;> first | (exfalso; omega) | (exact absurd rfl htest) | (exact absurd (by decide) htest) | (conv => whnf)) | (refine allG rfl ?_; conv => whnf) | (refine And.intro (by first | omega | assumption | kernel_rfl | exact And.intro rfl rfl | ((try dsimp only [inR, idx, lowOf]); first | omega | (with_reducible decide) | (simp; omega) | (simp; done) | fail) | fail) ?_; conv => whnf) | fail)
        exact ⟨(), [], trivial, eI (rest hn2 3 (by rw [if_pos (hc3.1 rfl)])), trivial, trivial⟩
  · conv => whnf
    repeat' (first | (refine tell (fun htest => ?_) (fun htest => ?_) <;> (try dsimp only at htest) <;> first | (exfalso; omega) | (exact absurd rfl htest) | (exact absurd (by decide) htest) | (conv => whnf)) | (refine allG rfl ?_; conv => whnf) | (refine And.intro (by first | omega | assumption | kernel_rfl | exact And.intro rfl rfl | ((try dsimp only [inR, idx, lowOf]); first | omega | (with_reducible decide) | (simp; omega) | (simp; done) | fail) | fail) ?_; conv => whnf) | fail)
    exact ⟨(), [], trivial, eI (show (1 : Int) = kindF a b by unfold kindF; rw [if_pos (hc.1 rfl)]), trivial, trivial⟩
end Go.Sx


/-
  Layer 21, part C: next, Count.
-/
namespace Go.Sx
open Go Go.Proofs Go.Proofs.YtmogappoadglgaaDoor
/-- May a state follow another one? -/
def nextF (a b : Int) : Bool := if a = b then decide (1 ≤ a ∧ a ≤ 4) else if a = 1 then decide (2 ≤ b ∧ b ≤ 4) else if a = 2 then decide (b = 3) else false
def spNext : Spec AF where
  γ := Int × Int
  δ := Unit
  args := fun g => [vI g.1, vI g.2]
  own := fun _ => []
  pre := fun _ => True
  nnew := 0
  res := fun g _ => vB (nextF g.1 g.2)
  own' := fun _ _ => []
  post := fun _ _ => True
theorem nextF_same {a : Int} : nextF a a = decide (1 ≤ a ∧ a ≤ 4) := if_pos rfl
theorem nextF_one {b : Int} (h : ¬ (1 : Int) = b) : nextF 1 b = decide (2 ≤ b ∧ b ≤ 4) := by unfold nextF; rw [if_neg h, if_pos rfl]
theorem nextF_two {b : Int} (h : ¬ (2 : Int) = b) : nextF 2 b = decide (b = 3) := by unfold nextF; rw [if_neg h, if_neg (by decide), if_pos rfl]
theorem nextF_else {a b : Int} (h : ¬ a = b) (h1 : ¬ a = 1) (h2 : ¬ a = 2) : nextF a b = false := by unfold nextF; rw [if_neg h, if_neg h1, if_neg h2]
theorem m_next : Meets Tryd.prog regF 86 spNext := by
  refine meets Tryd.func86 27 noWr rfl (by kernel_rfl) (by kernel_rfl) ?_
  rintro ⟨(a : Int), (b : Int)⟩ _
  by_cases h : a = b
  · subst h
    by_cases h1 : 1 ≤ a
    · by_cases h2 : a ≤ 4
      · conv => whnf
        repeat' (first | (refine tell (fun htest => ?_) (fun htest => ?_) <;> (try dsimp only at htest) <;> first | (exfalso; omega) | (exact absurd rfl htest) | (exact absurd (by decide) htest) | (conv => whnf)) | (refine allG rfl ?_; conv => whnf) | (refine And.intro (by first | omega | assumption | kernel_rfl | exact And.intro rfl rfl | ((try dsimp only [inR, idx, lowOf]); first | omega | (with_reducible decide) | (simp; omega) | (simp; done) | fail) | fail) ?_; conv => whnf) | fail)
        exact ⟨(), [], trivial, eB (show true = nextF a a by rw [nextF_same, decide_eq_true ⟨h1, h2⟩]), trivial, trivial⟩
      · conv => whnf
        repeat' (first | (refine tell (fun htest => ?_) (fun htest => ?_) <;> (try dsimp only at htest) <;> first | (exfalso; omega) | (exact absurd rfl htest) | (exact absurd (by decide) htest) | (conv => whnf)) | (refine allG rfl ?_; conv => whnf) | (refine And.intro (by first | omega | assumption | kernel_rfl | exact And.intro rfl rfl | ((try dsimp only [inR, idx, lowOf]); first | omega | (with_reducible decide) | (simp; omega) | (simp; done) | fail) | fail) ?_; conv => whnf) | fail)
        exact ⟨(), [], trivial, eB (show false = nextF a a by rw [nextF_same, decide_eq_false fun h => h2 h.2]), trivial, trivial⟩
    · conv => whnf
      repeat' (first | (refine tell (fun htest => ?_) (fun htest => ?_) <;> (try dsimp only at htest) <;> first | (exfalso; omega) | (exact absurd rfl htest) | (exact absurd (by decide) htest) | (conv => whnf)) | (refine allG rfl ?_; conv => whnf) | (refine And.intro (by first | omega | assumption | kernel_rfl | exact And.intro rfl rfl | ((try dsimp only [inR, idx, lowOf]); first | omega | (with_reducible decide) | (simp; omega) | (simp; done) | fail) | fail) ?_; conv => whnf) | fail)
      exact ⟨(), [], trivial, eB (show false = nextF a a by rw [nextF_same, decide_eq_false fun h => h1 h.1]), trivial, trivial⟩
  · by_cases h1 : a = 1
    · subst h1
      by_cases h2 : 2 ≤ b
      · by_cases h3 : b ≤ 4
        · conv => whnf
          repeat' (first | (refine tell (fun htest => ?_) (fun htest => ?_) <;> (try dsimp only at htest) <;> first | (exfalso; omega) | (exact absurd rfl htest) | (exact absurd (by decide) htest) | (conv => whnf)) | (refine allG rfl ?_; conv => whnf) | (refine And.intro (by first | omega | assumption | kernel_rfl | exact And.intro rfl rfl | ((try dsimp only [inR, idx, lowOf]); first | omega | (with_reducible decide) | (simp; omega) | (simp; done) | fail) | fail) ?_; conv => whnf) | fail)
          exact ⟨(), [], trivial, eB (show true = nextF 1 b by rw [nextF_one h, decide_eq_true ⟨h2, h3⟩]), trivial, trivial⟩
        · conv => whnf
          repeat' (first | (refine tell (fun htest => ?_) (fun htest => ?_) <;> (try dsimp only at htest) <;> first | (exfalso; omega) | (exact absurd rfl htest) | (exact absurd (by decide) htest) | (conv => whnf)) | (refine allG rfl ?_; conv => whnf) | (refine And.intro (by first | omega | assumption | kernel_rfl | exact And.intro rfl rfl | ((try dsimp only [inR, idx, lowOf]); first | omega | (with_reducible decide) | (simp; omega) | (simp; done) | fail) | fail) ?_; conv => whnf) | fail)
          exact ⟨(), [], trivial, eB (show false = nextF 1 b by rw [nextF_one h, decide_eq_false fun h => h3 h.2]), trivial, trivial⟩
      · conv => whnf
        repeat' (first | (refine tell (fun htest => ?_) (fun htest => ?_) <;> (try dsimp only at htest) <;> first | (exfalso; omega) | (exact absurd rfl htest) | (exact absurd (by decide) htest) | (conv => whnf)) | (refine allG rfl ?_; conv => whnf) | (refine And.intro (by first | omega | assumption | kernel_rfl | exact And.intro rfl rfl | ((try dsimp only [inR, idx, lowOf]); first | omega | (with_reducible decide) | (simp; omega) | (simp; done) | fail) | fail) ?_; conv => whnf) | fail)
        exact ⟨(), [], trivial, eB (show false = nextF 1 b by rw [nextF_one h, decide_eq_false fun h => h2 h.1]), trivial, trivial⟩
    · by_cases h2 : a = 2
      · subst h2
        by_cases h3 : b = 3
        · conv => whnf
          repeat' (first | (refine tell (fun htest => ?_) (fun htest => ?_) <;> (try dsimp only at htest) <;> first | (exfalso; omega) | (exact absurd rfl htest) | (exact absurd (by decide) htest) | (conv => whnf)) | (refine allG rfl ?_; conv => whnf) | (refine And.intro (by first | omega | assumption | kernel_rfl | exact And.intro rfl rfl | ((try dsimp only [inR, idx, lowOf]); first | omega | (with_reducible decide) | (simp; omega) | (simp; done) | fail) | fail) ?_; conv => whnf) | fail)
          exact ⟨(), [], trivial, eB (show true = nextF 2 b by rw [nextF_two h, decide_eq_true h3]), trivial, trivial⟩
        · conv => whnf
          repeat' (first | (refine tell (fun htest => ?_) (fun htest => ?_) <;> (try dsimp only at htest) <;> first | (exfalso; omega) | (exact absurd rfl htest) | (exact absurd (by decide) htest) | (conv => whnf)) | (refine allG rfl ?_; conv => whnf) | (refine And.intro (by first | omega | assumption | kernel_rfl | exact And.intro rfl rfl | ((try dsimp only [inR, idx, lowOf]); first | omega | (with_reducible decide) | (simp; omega) | (simp; done) | fail) | fail) ?_; conv => whnf) | fail)
          exact ⟨(), [], trivial, eB (show false = nextF 2 b by rw [nextF_two h, decide_eq_false h3]), trivial, trivial⟩
      · conv => whnf
        repeat' (first | (refine tell (fun htest => ?_) (fun htest => ?_) <;> (try dsimp only at htest) <;> first | (exfalso; omega) | (exact absurd rfl htest) | (exact absurd (by decide) htest) | (conv => whnf)) | (refine allG rfl ?_; conv => whnf) | (refine And.intro (by first | omega | assumption | kernel_rfl | exact And.intro rfl rfl | ((try dsimp only [inR, idx, lowOf]); first | omega | (with_reducible decide) | (simp; omega) | (simp; done) | fail) | fail) ?_; conv => whnf) | fail)
        exact ⟨(), [], trivial, eB (nextF_else h h1 h2).symm, trivial, trivial⟩
abbrev Job := Int × Int × Int × Int
/-- How many jobs are in each of the five states. -/
def stF (s : Int) : Nat := if s < 0 ∨ 5 ≤ s then 0 else s.toNat
def bumpF (l : List Int) (k : Nat) : List Int := l.set k (l.getD k 0 + 1)
def cntF (js : List Job) : List Int := js.foldl (fun l j => bumpF l (stF j.2.2.1)) [0, 0, 0, 0, 0]
theorem stF_lt (s : Int) : stF s < 5 := by unfold stF; split <;> omega
theorem cntF_take {js : List Job} {i : Nat} {j : Job} (h : js[i]? = some j) : cntF (js.take (i + 1)) = bumpF (cntF (js.take i)) (stF j.2.2.1) := by
  unfold cntF
  rw [List.take_add_one, h, List.foldl_append]; rfl
theorem foldl_len (js : List Job) : ∀ l : List Int, (js.foldl (fun l j => bumpF l (stF j.2.2.1)) l).length = l.length := by
  induction js with
  | nil => exact fun _ => rfl
  | cons j js ih => exact fun l => (ih _).trans List.length_set
theorem cntF_len (js : List Job) : (cntF js).length = 5 := foldl_len js _
theorem cntF_most (js : List Job) (k : Nat) : 0 ≤ (cntF js).getD k 0 ∧ (cntF js).getD k 0 ≤ js.length := by
  suffices h : ∀ (js : List Job) (l : List Int) (n : Nat), (∀ k, 0 ≤ l.getD k 0 ∧ l.getD k 0 ≤ n) → ∀ k, 0 ≤ (js.foldl (fun l j => bumpF l (stF j.2.2.1)) l).getD k 0 ∧ (js.foldl (fun l j => bumpF l (stF j.2.2.1)) l).getD k 0 ≤ ((n + js.length : Nat) : Int) by
    have := h js [0, 0, 0, 0, 0] 0 (fun k => by
      match k with
      | 0 | 1 | 2 | 3 | 4 => exact ⟨Int.le_refl _, Int.le_refl _⟩
      | k + 5 => exact ⟨Int.le_refl _, Int.le_refl _⟩) k
    rw [Nat.zero_add] at this
    exact this
  intro js
  induction js with
  | nil => exact fun l n h k => h k
  | cons j js ih =>
    intro l n h k
    have := ih (bumpF l (stF j.2.2.1)) (n + 1) (fun k => by
      have h1 := h k
      have h2 := h (stF j.2.2.1)
      unfold bumpF
      simp only [List.getD_eq_getElem?_getD, List.getElem?_set] at *
      split
      · split
        · simp only [Option.getD_some]; omega
        · simp only [Option.getD_none]; omega
      · omega) k
    rw [List.length_cons]
    have e : n + 1 + js.length = n + (js.length + 1) := by omega
    rw [e] at this
    exact this
def spCount : Spec AF where
  γ := List Job
  δ := Unit
  args := fun js => [.lst 107 js]
  own := fun _ => []
  pre := fun js => js.length ≤ 9223372036854775806
  nnew := 0
  res := fun js _ => .aggl 3 (cntF js)
  own' := fun _ _ => []
  post := fun _ _ => True
theorem m_count : Meets Tryd.prog regF 39 spCount := by
  refine meets Tryd.func39 27 noWr rfl (by kernel_rfl) (by kernel_rfl) ?_
  rintro (js : List Job) (hj : js.length ≤ 9223372036854775806)
  conv => whnf
  repeat' (first | (refine tell (fun htest => ?_) (fun htest => ?_) <;> (try dsimp only at htest) <;> first | (exfalso; omega) | (exact absurd rfl htest) | (exact absurd (by decide) htest) | (conv => whnf)) | (refine allG rfl ?_; conv => whnf) | (refine And.intro (by first | omega | assumption | kernel_rfl | exact And.intro rfl rfl | ((try dsimp only [inR, idx, lowOf]); first | omega | (with_reducible decide) | (simp; omega) | (simp; done) | fail) | fail) ?_; conv => whnf) | fail)
  refine ⟨Nat, fun i => ⟨[(2, .ptr 1002 0 5 0), (5, .lst 107 js), (6, vI js.length), (7, vI i)], [(1002, .arr 3 (cntF (js.take i)))]⟩, fun i => i ≤ js.length, fun i => js.length - i, fun _ _ => rfl, ⟨0, [], Nat.zero_le _, ?_⟩, ?_⟩
  · refine ⟨rfl, ?_, ?_, rfl⟩
    all_goals (repeat' (first | exact trivial | exact rfl | refine And.intro ?_ ?_ | (refine congrArg vI ?_; first | omega | (dsimp only; omega) | fail) | (refine congrArg some ?_) | omega | exact Nat.le_refl _ | exact congrArg (SV.lst _) (List.take_of_length_le (Nat.le_refl _)).symm))
  rintro (i : Nat) (hi : i ≤ js.length)
  have h5 := cntF_len (js.take i)
  by_cases hlt : i < js.length
  · have hobt : ∃ y, js[i]? = some y := ⟨_, List.getElem?_eq_getElem hlt⟩
    obtain ⟨⟨(x1 : Int), (x2 : Int), (x3 : Int), (x4 : Int)⟩, hx⟩ := hobt
    have hn := cntF_take hx
    have hm0 := cntF_most (js.take i) (stF x3)
    have hkl := stF_lt x3
    have hil : (js.take i).length = i := by rw [List.length_take]; omega
    rw [hil] at hm0
    have hobt : ∃ y, (cntF (js.take i))[stF x3]? = some y := ⟨_, List.getElem?_eq_getElem (by omega)⟩
    obtain ⟨v, hv⟩ := hobt
    have hvd : (cntF (js.take i)).getD (stF x3) 0 = v := by rw [List.getD_eq_getElem?_getD, hv]; rfl
    rw [hvd] at hm0
    have hn2 : cntF (js.take (i + 1)) = (cntF (js.take i)).set (stF x3) (v + 1) := by rw [hn]; unfold bumpF; rw [hvd]
    by_cases h0 : x3 < 0
    · have hz : stF x3 = 0 := by unfold stF; rw [if_pos (.inl h0)]
      rw [hz] at hv hn2
      conv => whnf
      repeat' (first | (refine tell (fun htest => ?_) (fun htest => ?_) <;> (try dsimp only at htest) <;> first | (exfalso; omega) | (exact absurd rfl htest) | (exact absurd (by decide) htest) | (conv => whnf)) | (refine allG (x := _) (by first | exact hx | simpa [List.getElem?_append_right, lowOf] using hx | fail) ?_; conv => whnf) | (refine allLst (x := _) (by first | omega | assumption | fail) (by first | exact hx | simpa using hx | fail) ?_; conv => whnf) | (refine allG (x := v) (by first | exact hv | simpa [List.getElem?_append_right, lowOf] using hv | fail) ?_; conv => whnf) | (refine allLst (x := v) (by first | omega | assumption | fail) (by first | exact hv | simpa using hv | fail) ?_; conv => whnf) | (refine allG rfl ?_; conv => whnf) | (refine And.intro (by first | omega | assumption | kernel_rfl | exact And.intro rfl rfl | ((try dsimp only [inR, idx, lowOf]); first | omega | (with_reducible decide) | (simp; omega) | (simp; done) | fail) | fail) ?_; conv => whnf) | fail)
      refine ⟨i + 1, [], hlt, ?_, rfl, ?_, ?_, rfl⟩
      · dsimp only; first | omega | (simp; done) | (simp; omega)
      all_goals (repeat' (first | exact trivial | exact rfl | refine And.intro ?_ ?_ | (refine congrArg vI ?_; first | omega | (dsimp only; omega) | fail) | (refine congrArg some ?_) | omega | exact Nat.le_refl _ | exact congrArg (SV.lst _) (List.take_of_length_le (Nat.le_refl _)).symm))
      exact congrArg (Ct.arr (A := AF) 3) hn2.symm
    · by_cases h4 : 5 ≤ x3
      · have hz : stF x3 = 0 := by unfold stF; rw [if_pos (.inr h4)]
        rw [hz] at hv hn2
        conv => whnf
        repeat' (first | (refine tell (fun htest => ?_) (fun htest => ?_) <;> (try dsimp only at htest) <;> first | (exfalso; omega) | (exact absurd rfl htest) | (exact absurd (by decide) htest) | (conv => whnf)) | (refine allG (x := _) (by first | exact hx | simpa [List.getElem?_append_right, lowOf] using hx | fail) ?_; conv => whnf) | (refine allLst (x := _) (by first | omega | assumption | fail) (by first | exact hx | simpa using hx | fail) ?_; conv => whnf) | (refine allG (x := v) (by first | exact hv | simpa [List.getElem?_append_right, lowOf] using hv | fail) ?_; conv => whnf) | (refine allLst (x := v) (by first | omega | assumption | fail) (by first | exact hv | simpa using hv | fail) ?_; conv => whnf) | (refine allG rfl ?_; conv => whnf) | (refine And.intro (by first | omega | assumption | kernel_rfl | exact And.intro rfl rfl | ((try dsimp only [inR, idx, lowOf]); first | omega | (with_reducible decide) | (simp; omega) | (simp; done) | fail) | fail) ?_; conv => whnf) | fail)
        refine ⟨i + 1, [], hlt, ?_, rfl, ?_, ?_, rfl⟩
        · dsimp only; first | omega | (simp; done) | (simp; omega)
        all_goals (repeat' (first | exact trivial | exact rfl | refine And.intro ?_ ?_ | (refine congrArg vI ?_; first | omega | (dsimp only; omega) | fail) | (refine congrArg some ?_) | omega | exact Nat.le_refl _ | exact congrArg (SV.lst _) (List.take_of_length_le (Nat.le_refl _)).symm))
        exact congrArg (Ct.arr (A := AF) 3) hn2.symm
      · have hz : stF x3 = x3.toNat := by unfold stF; rw [if_neg (by omega)]
        rw [hz] at hv hn2
        conv => whnf
        repeat' (first | (refine tell (fun htest => ?_) (fun htest => ?_) <;> (try dsimp only at htest) <;> first | (exfalso; omega) | (exact absurd rfl htest) | (exact absurd (by decide) htest) | (conv => whnf)) | (refine allG (x := _) (by first | exact hx | simpa [List.getElem?_append_right, lowOf] using hx | fail) ?_; conv => whnf) | (refine allLst (x := _) (by first | omega | assumption | fail) (by first | exact hx | simpa using hx | fail) ?_; conv => whnf) | (refine allG (x := v) (by first | exact hv | simpa [List.getElem?_append_right, lowOf] using hv | fail) ?_; conv => whnf) | (refine allLst (x := v) (by first | omega | assumption | fail) (by first | exact hv | simpa using hv | fail) ?_; conv => whnf) | (refine allG rfl ?_; conv => whnf) | (refine And.intro (by first | omega | assumption | kernel_rfl | exact And.intro rfl rfl | ((try dsimp only [inR, idx, lowOf]); first | omega | (with_reducible decide) | (simp; omega) | (simp; done) | fail) | fail) ?_; conv => whnf) | fail)
        refine ⟨i + 1, [], hlt, ?_, rfl, ?_, ?_, rfl⟩
        · dsimp only; first | omega | (simp; done) | (simp; omega)
        all_goals (repeat' (first | exact trivial | exact rfl | refine And.intro ?_ ?_ | (refine congrArg vI ?_; first | omega | (dsimp only; omega) | fail) | (refine congrArg some ?_) | omega | exact Nat.le_refl _ | exact congrArg (SV.lst _) (List.take_of_length_le (Nat.le_refl _)).symm))
        exact congrArg (Ct.arr (A := AF) 3) hn2.symm
  · conv => whnf
    repeat' (first | (refine tell (fun htest => ?_) (fun htest => ?_) <;> (try dsimp only at htest) <;> first | (exfalso; omega) | (exact absurd rfl htest) | (exact absurd (by decide) htest) | (conv => whnf)) | (refine allG rfl ?_; conv => whnf) | (refine And.intro (by first | omega | assumption | kernel_rfl | exact And.intro rfl rfl | ((try dsimp only [inR, idx, lowOf]); first | omega | (with_reducible decide) | (simp; omega) | (simp; done) | fail) | fail) ?_; conv => whnf) | fail)
    have he : js.take i = js := List.take_of_length_le (by omega)
    refine And.intro ⟨h5, rfl⟩ ?_
    conv => whnf
    exact ⟨(), [], trivial, congrArg (SV.aggl (A := AF) 3) (congrArg cntF he), trivial, trivial⟩
end Go.Sx


/-
  Layer 21, part D: Allowed at the two cases that awake asks.
-/
namespace Go.Sx
open Go Go.Proofs Go.Proofs.YtmogappoadglgaaDoor
def spAllowA : Spec AF where
  γ := Unit
  δ := Unit
  args := fun _ => [.lst 107 [], .lst 107 [((1, 0, 1, 0) : Job)]]
  own := fun _ => []
  pre := fun _ => True
  nnew := 0
  res := fun _ _ => vB true
  own' := fun _ _ => []
  post := fun _ _ => True
def spAllowB : Spec AF where
  γ := Unit
  δ := Unit
  args := fun _ => [.lst 107 [((1, 0, 1, 0) : Job)], .lst 107 []]
  own := fun _ => []
  pre := fun _ => True
  nnew := 0
  res := fun _ _ => vB false
  own' := fun _ _ => []
  post := fun _ _ => True
theorem m_allowB : Meets Tryd.prog regF 61 spAllowB := by
  refine meets Tryd.func61 91 noWr rfl (by kernel_rfl) (by kernel_rfl) ?_
  rintro ⟨⟩ _
  conv => whnf
  repeat' (first | (refine tell (fun htest => ?_) (fun htest => ?_) <;> (try dsimp only at htest) <;> first | (exfalso; omega) | (exact absurd rfl htest) | (exact absurd (by decide) htest) | (conv => whnf)) | (refine allG rfl ?_; conv => whnf) | (refine And.intro (by first | omega | assumption | kernel_rfl | exact And.intro rfl rfl | ((try dsimp only [inR, idx, lowOf]); first | omega | (with_reducible decide) | (simp; omega) | (simp; done) | fail) | fail) ?_; conv => whnf) | fail)
  exact ⟨(), [], trivial, rfl, trivial, trivial⟩
theorem m_allowA : Meets Tryd.prog regF 61 spAllowA := by
  refine meets Tryd.func61 91 noWr rfl (by kernel_rfl) (by kernel_rfl) ?_
  rintro ⟨⟩ _
  have e0 : (List.length ([] : List (AF 107))) = 0 := rfl
  have e1 : (List.length ([((1, 0, 1, 0) : Job)] : List (AF 107))) = 1 := rfl
  conv => whnf
  repeat' (first | (refine tell (fun htest => ?_) (fun htest => ?_) <;> (try dsimp only at htest) <;> first | (exfalso; omega) | (exact absurd rfl htest) | (exact absurd (by decide) htest) | (conv => whnf)) | (refine allG rfl ?_; conv => whnf) | (refine And.intro (by first | omega | assumption | kernel_rfl | exact And.intro rfl rfl | ((try dsimp only [inR, idx, lowOf]); first | omega | (with_reducible decide) | (simp; omega) | (simp; done) | fail) | fail) ?_; conv => whnf) | fail)
  refine ⟨Nat, fun i => ⟨[(0, .lst 107 []), (1, .lst 107 [((1, 0, 1, 0) : Job)]), (5, .mp 1016), (17, .lst 107 [((1, 0, 1, 0) : Job)]), (18, vI 1), (19, vI i)], [(1016, .map 3 4 [])]⟩, fun i => i ≤ 1, fun i => 1 - i, fun _ _ => rfl, ⟨0, [], Nat.zero_le _, ?_⟩, ?_⟩
  · refine ⟨rfl, ?_, ?_, rfl⟩
    all_goals (repeat' (first | exact trivial | exact rfl | refine And.intro ?_ ?_ | (refine congrArg vI ?_; first | omega | (dsimp only; omega) | fail) | (refine congrArg some ?_) | omega | exact Nat.le_refl _ | exact congrArg (SV.lst _) (List.take_of_length_le (Nat.le_refl _)).symm))
  rintro (i : Nat) (hi : i ≤ 1)
  by_cases hlt : i < 1
  · have h0 : i = 0 := by omega
    subst h0
    have hx : ([((1, 0, 1, 0) : Job)])[0]? = some (1, 0, 1, 0) := rfl
    conv => whnf
    repeat' (first | (refine tell (fun htest => ?_) (fun htest => ?_) <;> (try dsimp only at htest) <;> first | (exfalso; omega) | (exact absurd rfl htest) | (exact absurd (by decide) htest) | (conv => whnf)) | (refine allG (x := _) (by first | exact hx | simpa [List.getElem?_append_right, lowOf] using hx | fail) ?_; conv => whnf) | (refine allLst (x := _) (by first | omega | assumption | fail) (by first | exact hx | simpa using hx | fail) ?_; conv => whnf) | (refine allG rfl ?_; conv => whnf) | (refine And.intro (by first | omega | assumption | kernel_rfl | exact And.intro rfl rfl | ((try dsimp only [inR, idx, lowOf]); first | omega | (with_reducible decide) | (simp; omega) | (simp; done) | fail) | fail) ?_; conv => whnf) | fail)
    refine ⟨1, [], Nat.le_refl _, ?_, rfl, ?_, ?_, rfl⟩
    · dsimp only; first | omega | (simp; done) | (simp; omega)
    all_goals (repeat' (first | exact trivial | exact rfl | refine And.intro ?_ ?_ | (refine congrArg vI ?_; first | omega | (dsimp only; omega) | fail) | (refine congrArg some ?_) | omega | exact Nat.le_refl _ | exact congrArg (SV.lst _) (List.take_of_length_le (Nat.le_refl _)).symm))
  · have h0 : i = 1 := by omega
    subst h0
    conv => whnf
    repeat' (first | (refine tell (fun htest => ?_) (fun htest => ?_) <;> (try dsimp only at htest) <;> first | (exfalso; omega) | (exact absurd rfl htest) | (exact absurd (by decide) htest) | (conv => whnf)) | (refine allG rfl ?_; conv => whnf) | (refine And.intro (by first | omega | assumption | kernel_rfl | exact And.intro rfl rfl | ((try dsimp only [inR, idx, lowOf]); first | omega | (with_reducible decide) | (simp; omega) | (simp; done) | fail) | fail) ?_; conv => whnf) | fail)
    exact ⟨(), [], trivial, rfl, trivial, trivial⟩
end Go.Sx


/-
  Layer 21, part E: word; TraceCounts, over what awake tells.
-/
namespace Go.Sx
open Go Go.Proofs Go.Proofs.YtmogappoadglgaaDoor
/-- The word of a state. -/
def wordF (n : Int) : ByteArray := if n = 1 then (⟨#[119, 97, 105, 116, 115]⟩ : ByteArray) else if n = 2 then (⟨#[103, 111, 101, 115]⟩ : ByteArray) else if n = 3 then (⟨#[100, 111, 110, 101]⟩ : ByteArray) else if n = 4 then (⟨#[102, 97, 105, 108, 101, 100]⟩ : ByteArray) else (⟨#[111, 100, 100]⟩ : ByteArray)
def spWord : Spec AF where
  γ := Int
  δ := Unit
  args := fun g => [vI g]
  own := fun _ => []
  pre := fun _ => True
  nnew := 0
  res := fun g _ => .val (.string (wordF g))
  own' := fun _ _ => []
  post := fun _ _ => True
theorem eS {R : Reg AF} {st : St AF} {a b : ByteArray} (h : a = b) : EntR R st (.val (.string a)) (.val (.string b)) := congrArg (fun x => SV.val (.string x)) h
theorem m_word : Meets Tryd.prog regF 70 spWord := by
  refine meets Tryd.func70 12 noWr rfl (by kernel_rfl) (by kernel_rfl) ?_
  rintro (n : Int) _
  by_cases h1 : n = 1
  · subst h1
    conv => whnf
    repeat' (first | (refine tell (fun htest => ?_) (fun htest => ?_) <;> (try dsimp only at htest) <;> first | (exfalso; omega) | (exact absurd rfl htest) | (exact absurd (by decide) htest) | (conv => whnf)) | (refine allG rfl ?_; conv => whnf) | (refine And.intro (by first | omega | assumption | kernel_rfl | exact And.intro rfl rfl | ((try dsimp only [inR, idx, lowOf]); first | omega | (with_reducible decide) | (simp; omega) | (simp; done) | fail) | fail) ?_; conv => whnf) | fail)
    exact ⟨(), [], trivial, rfl, trivial, trivial⟩
  · skip
    by_cases h2 : n = 2
    · subst h2
      conv => whnf
      repeat' (first | (refine tell (fun htest => ?_) (fun htest => ?_) <;> (try dsimp only at htest) <;> first | (exfalso; omega) | (exact absurd rfl htest) | (exact absurd (by decide) htest) | (conv => whnf)) | (refine allG rfl ?_; conv => whnf) | (refine And.intro (by first | omega | assumption | kernel_rfl | exact And.intro rfl rfl | ((try dsimp only [inR, idx, lowOf]); first | omega | (with_reducible decide) | (simp; omega) | (simp; done) | fail) | fail) ?_; conv => whnf) | fail)
      exact ⟨(), [], trivial, rfl, trivial, trivial⟩
    · skip
      by_cases h3 : n = 3
      · subst h3
        conv => whnf
        repeat' (first | (refine tell (fun htest => ?_) (fun htest => ?_) <;> (try dsimp only at htest) <;> first | (exfalso; omega) | (exact absurd rfl htest) | (exact absurd (by decide) htest) | (conv => whnf)) | (refine allG rfl ?_; conv => whnf) | (refine And.intro (by first | omega | assumption | kernel_rfl | exact And.intro rfl rfl | ((try dsimp only [inR, idx, lowOf]); first | omega | (with_reducible decide) | (simp; omega) | (simp; done) | fail) | fail) ?_; conv => whnf) | fail)
        exact ⟨(), [], trivial, rfl, trivial, trivial⟩
      · skip
        by_cases h4 : n = 4
        · subst h4
          conv => whnf
          repeat' (first | (refine tell (fun htest => ?_) (fun htest => ?_) <;> (try dsimp only at htest) <;> first | (exfalso; omega) | (exact absurd rfl htest) | (exact absurd (by decide) htest) | (conv => whnf)) | (refine allG rfl ?_; conv => whnf) | (refine And.intro (by first | omega | assumption | kernel_rfl | exact And.intro rfl rfl | ((try dsimp only [inR, idx, lowOf]); first | omega | (with_reducible decide) | (simp; omega) | (simp; done) | fail) | fail) ?_; conv => whnf) | fail)
          exact ⟨(), [], trivial, rfl, trivial, trivial⟩
        · skip
          conv => whnf
          repeat' (first | (refine tell (fun htest => ?_) (fun htest => ?_) <;> (try dsimp only at htest) <;> first | (exfalso; omega) | (exact absurd rfl htest) | (exact absurd (by decide) htest) | (conv => whnf)) | (refine allG rfl ?_; conv => whnf) | (refine And.intro (by first | omega | assumption | kernel_rfl | exact And.intro rfl rfl | ((try dsimp only [inR, idx, lowOf]); first | omega | (with_reducible decide) | (simp; omega) | (simp; done) | fail) | fail) ?_; conv => whnf) | fail)
          exact ⟨(), [], trivial, eS (show (⟨#[111, 100, 100]⟩ : ByteArray) = wordF n by unfold wordF; rw [if_neg h1, if_neg h2, if_neg h3, if_neg h4]), trivial, trivial⟩
/-- What awake tells. -/
def spAwake : Spec AF where
  γ := Unit
  δ := Unit
  args := fun _ => []
  own := fun _ => []
  pre := fun _ => True
  nnew := 0
  res := fun _ _ => vB true
  own' := fun _ _ => []
  post := fun _ _ => True
theorem foldl_add (js : List Job) : ∀ (l : List Int) (k : Nat), l.length = 5 → (js.foldl (fun l j => bumpF l (stF j.2.2.1)) l).getD k 0 = l.getD k 0 + (cntF js).getD k 0 := by
  induction js with
  | nil =>
    intro l k h
    have : (cntF []).getD k 0 = 0 := by
      match k with
      | 0 | 1 | 2 | 3 | 4 => rfl
      | k + 5 => rfl
    rw [this, Int.add_zero]; rfl
  | cons j js ih =>
    intro l k h
    have hb : ∀ l : List Int, l.length = 5 → (bumpF l (stF j.2.2.1)).length = 5 := fun l h => by unfold bumpF; rw [List.length_set, h]
    have h0 := ih (bumpF [0, 0, 0, 0, 0] (stF j.2.2.1)) k (hb _ rfl)
    have h1 := ih (bumpF l (stF j.2.2.1)) k (hb _ h)
    have e : (cntF (j :: js)) = js.foldl (fun l j => bumpF l (stF j.2.2.1)) (bumpF [0, 0, 0, 0, 0] (stF j.2.2.1)) := rfl
    rw [e, h0, List.foldl_cons, h1]
    have hs := stF_lt j.2.2.1
    have hz : ∀ k : Nat, ([0, 0, 0, 0, 0] : List Int).getD k 0 = 0 := fun k => by
      match k with
      | 0 | 1 | 2 | 3 | 4 => rfl
      | k + 5 => rfl
    have hbump : ∀ l : List Int, l.length = 5 → (bumpF l (stF j.2.2.1)).getD k 0 = l.getD k 0 + (if stF j.2.2.1 = k then 1 else 0) := fun l h => by
      unfold bumpF
      simp only [List.getD_eq_getElem?_getD, List.getElem?_set]
      split
      · rename_i e
        subst e
        rw [if_pos (by omega)]; simp
      · simp
    rw [hbump l h, hbump _ rfl, hz]
    omega
theorem cntF_append (a b : List Job) (k : Nat) : (cntF (a ++ b)).getD k 0 = (cntF a).getD k 0 + (cntF b).getD k 0 := by
  have : cntF (a ++ b) = b.foldl (fun l j => bumpF l (stF j.2.2.1)) (cntF a) := by unfold cntF; rw [List.foldl_append]
  rw [this, foldl_add b _ k (cntF_len a)]
def sum5 (l : List Int) : Int := l.getD 0 0 + l.getD 1 0 + l.getD 2 0 + l.getD 3 0 + l.getD 4 0
theorem sum5_bump (l : List Int) (h : l.length = 5) (k : Nat) (hk : k < 5) : sum5 (bumpF l k) = sum5 l + 1 := by
  match l, h with
  | [a, b, c, d, e], _ =>
    match k, hk with
    | 0, _ => show (a + 1) + b + c + d + e = a + b + c + d + e + 1; omega
    | 1, _ => show a + (b + 1) + c + d + e = a + b + c + d + e + 1; omega
    | 2, _ => show a + b + (c + 1) + d + e = a + b + c + d + e + 1; omega
    | 3, _ => show a + b + c + (d + 1) + e = a + b + c + d + e + 1; omega
    | 4, _ => show a + b + c + d + (e + 1) = a + b + c + d + e + 1; omega
theorem sum5_cnt (js : List Job) : sum5 (cntF js) = js.length := by
  suffices h : ∀ (js : List Job) (l : List Int), l.length = 5 → sum5 (js.foldl (fun l j => bumpF l (stF j.2.2.1)) l) = sum5 l + js.length from (h js _ rfl).trans (by show (0 : Int) + 0 + 0 + 0 + 0 + _ = _; omega)
  intro js
  induction js with
  | nil => exact fun l h => (Int.add_zero _).symm
  | cons j js ih =>
    intro l h
    have := ih (bumpF l (stF j.2.2.1)) (by unfold bumpF; rw [List.length_set, h])
    rw [List.foldl_cons, this, sum5_bump l h _ (stF_lt _), List.length_cons]
    omega
theorem m_countsR (hA : Meets Tryd.prog regF 32 spAwake) : Meets Tryd.prog regF 11 (spLaw (fun g : List Job × List Job => [.lst 107 g.1, .lst 107 g.2]) (fun g => g.1.length ≤ 9223372036854775807 ∧ g.2.length ≤ 9223372036854775807)) := by
  refine meets Tryd.func11 67 noWr rfl (by kernel_rfl) (by kernel_rfl) ?_
  rintro ⟨(a : List Job), (b : List Job)⟩ ⟨(ha : a.length ≤ 9223372036854775807), (hb : b.length ≤ 9223372036854775807)⟩
  conv => whnf
  repeat' (first | (refine tell (fun htest => ?_) (fun htest => ?_) <;> (try dsimp only at htest) <;> first | (exfalso; omega) | (exact absurd rfl htest) | (exact absurd (by decide) htest) | (conv => whnf)) | (refine allG rfl ?_; conv => whnf) | (refine And.intro (by first | omega | assumption | kernel_rfl | exact And.intro rfl rfl | ((try dsimp only [inR, idx, lowOf]); first | omega | (with_reducible decide) | (simp; omega) | (simp; done) | fail) | fail) ?_; conv => whnf) | fail)
  refine ⟨_, hA, (), [], false, ?_⟩
  conv => whnf
  refine And.intro (vc0 trivial (by (repeat' (first | exact trivial | exact rfl | refine And.intro ?_ ?_ | (refine congrArg vI ?_; first | omega | (dsimp only; omega) | fail) | (refine congrArg some ?_) | omega | exact Nat.le_refl _ | exact congrArg (SV.lst _) (List.take_of_length_le (Nat.le_refl _)).symm))) (by repeat' (first | exact trivial | exact rfl | refine And.intro ?_ ?_ | (refine congrArg vI ?_; first | omega | (dsimp only; omega) | fail) | (refine congrArg some ?_) | omega | exact Nat.le_refl _ | exact congrArg (SV.lst _) (List.take_of_length_le (Nat.le_refl _)).symm)) trivial trivial) ?_
  refine And.intro ⟨(), trivial⟩ (fun (_ : Unit) _ => ?_)
  conv => whnf
  have hca : (((a.take (min (a.length : Int) 12).toNat).drop 0)).length ≤ 12 := by simp; omega
  have hcb : (((b.take (min (b.length : Int) 12).toNat).drop 0)).length ≤ 12 := by simp; omega
  conv => whnf
  repeat' (first | (refine tell (fun htest => ?_) (fun htest => ?_) <;> (try dsimp only at htest) <;> first | (exfalso; omega) | (exact absurd rfl htest) | (exact absurd (by decide) htest) | (conv => whnf)) | (refine allG rfl ?_; conv => whnf) | (refine And.intro (by first | omega | assumption | kernel_rfl | exact And.intro rfl rfl | ((try dsimp only [inR, idx, lowOf]); first | omega | (with_reducible decide) | (simp; omega) | (simp; done) | fail) | fail) ?_; conv => whnf) | fail)
  refine ⟨_, m_count, (((a.take (min (a.length : Int) 12).toNat).drop 0)), [], false, ?_⟩
  conv => whnf
  refine And.intro (vc0 (show (((a.take (min (a.length : Int) 12).toNat).drop 0)).length ≤ 9223372036854775806 by omega) (by (repeat' (first | exact trivial | exact rfl | refine And.intro ?_ ?_ | (refine congrArg vI ?_; first | omega | (dsimp only; omega) | fail) | (refine congrArg some ?_) | omega | exact Nat.le_refl _ | exact congrArg (SV.lst _) (List.take_of_length_le (Nat.le_refl _)).symm))) (by repeat' (first | exact trivial | exact rfl | refine And.intro ?_ ?_ | (refine congrArg vI ?_; first | omega | (dsimp only; omega) | fail) | (refine congrArg some ?_) | omega | exact Nat.le_refl _ | exact congrArg (SV.lst _) (List.take_of_length_le (Nat.le_refl _)).symm)) trivial trivial) ?_
  refine And.intro ⟨(), trivial⟩ (fun (_ : Unit) _ => ?_)
  conv => whnf
  have h5a := cntF_len (((a.take (min (a.length : Int) 12).toNat).drop 0))
  have h5b := cntF_len (((b.take (min (b.length : Int) 12).toNat).drop 0))
  refine And.intro ⟨rfl, h5a, rfl⟩ ?_
  conv => whnf
  conv => whnf
  repeat' (first | (refine tell (fun htest => ?_) (fun htest => ?_) <;> (try dsimp only at htest) <;> first | (exfalso; omega) | (exact absurd rfl htest) | (exact absurd (by decide) htest) | (conv => whnf)) | (refine allG rfl ?_; conv => whnf) | (refine And.intro (by first | omega | assumption | kernel_rfl | exact And.intro rfl rfl | ((try dsimp only [inR, idx, lowOf]); first | omega | (with_reducible decide) | (simp; omega) | (simp; done) | fail) | fail) ?_; conv => whnf) | fail)
  refine ⟨_, m_count, (((b.take (min (b.length : Int) 12).toNat).drop 0)), [], false, ?_⟩
  conv => whnf
  refine And.intro (vc0 (show (((b.take (min (b.length : Int) 12).toNat).drop 0)).length ≤ 9223372036854775806 by omega) (by (repeat' (first | exact trivial | exact rfl | refine And.intro ?_ ?_ | (refine congrArg vI ?_; first | omega | (dsimp only; omega) | fail) | (refine congrArg some ?_) | omega | exact Nat.le_refl _ | exact congrArg (SV.lst _) (List.take_of_length_le (Nat.le_refl _)).symm))) (by repeat' (first | exact trivial | exact rfl | refine And.intro ?_ ?_ | (refine congrArg vI ?_; first | omega | (dsimp only; omega) | fail) | (refine congrArg some ?_) | omega | exact Nat.le_refl _ | exact congrArg (SV.lst _) (List.take_of_length_le (Nat.le_refl _)).symm)) trivial trivial) ?_
  refine And.intro ⟨(), trivial⟩ (fun (_ : Unit) _ => ?_)
  conv => whnf
  refine And.intro ⟨rfl, h5b, rfl⟩ ?_
  conv => whnf
  conv => whnf
  repeat' (first | (refine tell (fun htest => ?_) (fun htest => ?_) <;> (try dsimp only at htest) <;> first | (exfalso; omega) | (exact absurd rfl htest) | (exact absurd (by decide) htest) | (conv => whnf)) | (refine allG rfl ?_; conv => whnf) | (refine And.intro (by first | omega | assumption | kernel_rfl | exact And.intro rfl rfl | ((try dsimp only [inR, idx, lowOf]); first | omega | (with_reducible decide) | (simp; omega) | (simp; done) | fail) | fail) ?_; conv => whnf) | fail)
  have hX : ((((((a.take (min (a.length : Int) 12).toNat).drop 0)).drop 0).take (((a.take (min (a.length : Int) 12).toNat).drop 0)).length ++ (((b.take (min (b.length : Int) 12).toNat).drop 0)))) = (((a.take (min (a.length : Int) 12).toNat).drop 0)) ++ (((b.take (min (b.length : Int) 12).toNat).drop 0)) := by show List.take (((a.take (min (a.length : Int) 12).toNat).drop 0)).length (((a.take (min (a.length : Int) 12).toNat).drop 0)) ++ (((b.take (min (b.length : Int) 12).toNat).drop 0)) = _; rw [List.take_length]
  have hXl : ((((((a.take (min (a.length : Int) 12).toNat).drop 0)).drop 0).take (((a.take (min (a.length : Int) 12).toNat).drop 0)).length ++ (((b.take (min (b.length : Int) 12).toNat).drop 0)))).length = (((a.take (min (a.length : Int) 12).toNat).drop 0)).length + (((b.take (min (b.length : Int) 12).toNat).drop 0)).length := by rw [hX, List.length_append]
  refine ⟨_, m_count, ((((((a.take (min (a.length : Int) 12).toNat).drop 0)).drop 0).take (((a.take (min (a.length : Int) 12).toNat).drop 0)).length ++ (((b.take (min (b.length : Int) 12).toNat).drop 0)))), [], false, ?_⟩
  conv => whnf
  refine And.intro (vc0 (show ((((((a.take (min (a.length : Int) 12).toNat).drop 0)).drop 0).take (((a.take (min (a.length : Int) 12).toNat).drop 0)).length ++ (((b.take (min (b.length : Int) 12).toNat).drop 0)))).length ≤ 9223372036854775806 by omega) (by (repeat' (first | exact trivial | exact rfl | refine And.intro ?_ ?_ | (refine congrArg vI ?_; first | omega | (dsimp only; omega) | fail) | (refine congrArg some ?_) | omega | exact Nat.le_refl _ | exact congrArg (SV.lst _) (List.take_of_length_le (Nat.le_refl _)).symm)); all_goals (first | (show 0 + ((((a.take (min (a.length : Int) 12).toNat).drop 0)).length + (((b.take (min (b.length : Int) 12).toNat).drop 0)).length) ≤ ((((((a.take (min (a.length : Int) 12).toNat).drop 0)).drop 0).take (((a.take (min (a.length : Int) 12).toNat).drop 0)).length ++ (((b.take (min (b.length : Int) 12).toNat).drop 0)))).length; omega) | exact congrArg (SV.lst (A := AF) 107) (List.take_of_length_le (Nat.le_of_eq hXl)).symm | fail)) (by repeat' (first | exact trivial | exact rfl | refine And.intro ?_ ?_ | (refine congrArg vI ?_; first | omega | (dsimp only; omega) | fail) | (refine congrArg some ?_) | omega | exact Nat.le_refl _ | exact congrArg (SV.lst _) (List.take_of_length_le (Nat.le_refl _)).symm)) trivial trivial) ?_
  refine And.intro ⟨(), trivial⟩ (fun (_ : Unit) _ => ?_)
  conv => whnf
  have h5c := cntF_len ((((((a.take (min (a.length : Int) 12).toNat).drop 0)).drop 0).take (((a.take (min (a.length : Int) 12).toNat).drop 0)).length ++ (((b.take (min (b.length : Int) 12).toNat).drop 0))))
  refine And.intro ⟨rfl, h5c, rfl⟩ ?_
  conv => whnf
  conv => whnf
  repeat' (first | (refine tell (fun htest => ?_) (fun htest => ?_) <;> (try dsimp only at htest) <;> first | (exfalso; omega) | (exact absurd rfl htest) | (exact absurd (by decide) htest) | (conv => whnf)) | (refine allG rfl ?_; conv => whnf) | (refine And.intro (by first | omega | assumption | kernel_rfl | exact And.intro rfl rfl | ((try dsimp only [inR, idx, lowOf]); first | omega | (with_reducible decide) | (simp; omega) | (simp; done) | fail) | fail) ?_; conv => whnf) | fail)
  refine ⟨Nat, fun k => ⟨[(5, vB true), (6, .lst 107 (((a.take (min (a.length : Int) 12).toNat).drop 0))), (8, .ptr 1008 0 5 0), (9, .ptr 1009 0 5 0), (10, .ptr 1010 0 5 0), (11, vI k)], [(1008, .arr 3 (cntF (((a.take (min (a.length : Int) 12).toNat).drop 0)))), (1009, .arr 3 (cntF (((b.take (min (b.length : Int) 12).toNat).drop 0)))), (1010, .arr 3 (cntF ((((((a.take (min (a.length : Int) 12).toNat).drop 0)).drop 0).take (((a.take (min (a.length : Int) 12).toNat).drop 0)).length ++ (((b.take (min (b.length : Int) 12).toNat).drop 0))))))]⟩, fun k => k ≤ 5, fun k => 5 - k, fun _ _ => rfl, ⟨0, [], Nat.zero_le _, ?_⟩, ?_⟩
  · refine ⟨rfl, ?_, ?_, rfl⟩
    all_goals (repeat' (first | exact trivial | exact rfl | refine And.intro ?_ ?_ | (refine congrArg vI ?_; first | omega | (dsimp only; omega) | fail) | (refine congrArg some ?_) | omega | exact Nat.le_refl _ | exact congrArg (SV.lst _) (List.take_of_length_le (Nat.le_refl _)).symm))
  rintro (k : Nat) (hk : k ≤ 5)
  by_cases hlt : k < 5
  · have hobt : ∃ y, (cntF (((a.take (min (a.length : Int) 12).toNat).drop 0)))[k]? = some y := ⟨_, List.getElem?_eq_getElem (by omega)⟩
    obtain ⟨u, hu⟩ := hobt
    have hobt : ∃ y, (cntF (((b.take (min (b.length : Int) 12).toNat).drop 0)))[k]? = some y := ⟨_, List.getElem?_eq_getElem (by omega)⟩
    obtain ⟨v, hv⟩ := hobt
    have hobt : ∃ y, (cntF ((((((a.take (min (a.length : Int) 12).toNat).drop 0)).drop 0).take (((a.take (min (a.length : Int) 12).toNat).drop 0)).length ++ (((b.take (min (b.length : Int) 12).toNat).drop 0)))))[k]? = some y := ⟨_, List.getElem?_eq_getElem (by omega)⟩
    obtain ⟨w, hw⟩ := hobt
    have hs := cntF_append (((a.take (min (a.length : Int) 12).toNat).drop 0)) (((b.take (min (b.length : Int) 12).toNat).drop 0)) k
    rw [← hX] at hs
    have hm := cntF_most (((a.take (min (a.length : Int) 12).toNat).drop 0)) k
    have hn := cntF_most (((b.take (min (b.length : Int) 12).toNat).drop 0)) k
    rw [List.getD_eq_getElem?_getD, List.getD_eq_getElem?_getD, List.getD_eq_getElem?_getD, hu, hv, hw] at hs
    rw [List.getD_eq_getElem?_getD, hu] at hm
    rw [List.getD_eq_getElem?_getD, hv] at hn
    have hs : w = u + v := hs
    have hm : 0 ≤ u ∧ u ≤ (((a.take (min (a.length : Int) 12).toNat).drop 0)).length := hm
    have hn : 0 ≤ v ∧ v ≤ (((b.take (min (b.length : Int) 12).toNat).drop 0)).length := hn
    conv => whnf
    repeat' (first | (refine tell (fun htest => ?_) (fun htest => ?_) <;> (try dsimp only at htest) <;> first | (exfalso; omega) | (exact absurd rfl htest) | (exact absurd (by decide) htest) | (conv => whnf)) | (refine allG (x := w) (by first | exact hw | simpa [List.getElem?_append_right, lowOf] using hw | fail) ?_; conv => whnf) | (refine allLst (x := w) (by first | omega | assumption | fail) (by first | exact hw | simpa using hw | fail) ?_; conv => whnf) | (refine allG (x := u) (by first | exact hu | simpa [List.getElem?_append_right, lowOf] using hu | fail) ?_; conv => whnf) | (refine allLst (x := u) (by first | omega | assumption | fail) (by first | exact hu | simpa using hu | fail) ?_; conv => whnf) | (refine allG (x := v) (by first | exact hv | simpa [List.getElem?_append_right, lowOf] using hv | fail) ?_; conv => whnf) | (refine allLst (x := v) (by first | omega | assumption | fail) (by first | exact hv | simpa using hv | fail) ?_; conv => whnf) | (refine allG rfl ?_; conv => whnf) | (refine And.intro (by first | omega | assumption | kernel_rfl | exact And.intro rfl rfl | ((try dsimp only [inR, idx, lowOf]); first | omega | (with_reducible decide) | (simp; omega) | (simp; done) | fail) | fail) ?_; conv => whnf) | fail)
    refine ⟨k + 1, [], hlt, ?_, rfl, ?_, ?_, rfl⟩
    · dsimp only; first | omega | (simp; done) | (simp; omega)
    all_goals (repeat' (first | exact trivial | exact rfl | refine And.intro ?_ ?_ | (refine congrArg vI ?_; first | omega | (dsimp only; omega) | fail) | (refine congrArg some ?_) | omega | exact Nat.le_refl _ | exact congrArg (SV.lst _) (List.take_of_length_le (Nat.le_refl _)).symm))
  · have hg5 : ∀ k < 5, ∃ u, (cntF (((a.take (min (a.length : Int) 12).toNat).drop 0)))[k]? = some u ∧ (cntF (((a.take (min (a.length : Int) 12).toNat).drop 0))).getD k 0 = u := fun k h => ⟨_, List.getElem?_eq_getElem (by omega), by rw [List.getD_eq_getElem?_getD, List.getElem?_eq_getElem (by omega)]; rfl⟩
    have hobt := hg5 0 (by omega)
    obtain ⟨u0, hu0, e0⟩ := hobt
    have hobt := hg5 1 (by omega)
    obtain ⟨u1, hu1, e1⟩ := hobt
    have hobt := hg5 2 (by omega)
    obtain ⟨u2, hu2, e2⟩ := hobt
    have hobt := hg5 3 (by omega)
    obtain ⟨u3, hu3, e3⟩ := hobt
    have hobt := hg5 4 (by omega)
    obtain ⟨u4, hu4, e4⟩ := hobt
    have hsum : u0 + u1 + u2 + u3 + u4 = (((a.take (min (a.length : Int) 12).toNat).drop 0)).length := by rw [← sum5_cnt, ← e0, ← e1, ← e2, ← e3, ← e4]; rfl
    have m0 := cntF_most (((a.take (min (a.length : Int) 12).toNat).drop 0)) 0
    have m1 := cntF_most (((a.take (min (a.length : Int) 12).toNat).drop 0)) 1
    have m2 := cntF_most (((a.take (min (a.length : Int) 12).toNat).drop 0)) 2
    have m3 := cntF_most (((a.take (min (a.length : Int) 12).toNat).drop 0)) 3
    have m4 := cntF_most (((a.take (min (a.length : Int) 12).toNat).drop 0)) 4
    rw [e0] at m0; rw [e1] at m1; rw [e2] at m2; rw [e3] at m3; rw [e4] at m4
    conv => whnf
    repeat' (first | (refine tell (fun htest => ?_) (fun htest => ?_) <;> (try dsimp only at htest) <;> first | (exfalso; omega) | (exact absurd rfl htest) | (exact absurd (by decide) htest) | (conv => whnf)) | (refine allG (x := u0) (by first | exact hu0 | simpa [List.getElem?_append_right, lowOf] using hu0 | fail) ?_; conv => whnf) | (refine allLst (x := u0) (by first | omega | assumption | fail) (by first | exact hu0 | simpa using hu0 | fail) ?_; conv => whnf) | (refine allG (x := u1) (by first | exact hu1 | simpa [List.getElem?_append_right, lowOf] using hu1 | fail) ?_; conv => whnf) | (refine allLst (x := u1) (by first | omega | assumption | fail) (by first | exact hu1 | simpa using hu1 | fail) ?_; conv => whnf) | (refine allG (x := u2) (by first | exact hu2 | simpa [List.getElem?_append_right, lowOf] using hu2 | fail) ?_; conv => whnf) | (refine allLst (x := u2) (by first | omega | assumption | fail) (by first | exact hu2 | simpa using hu2 | fail) ?_; conv => whnf) | (refine allG (x := u3) (by first | exact hu3 | simpa [List.getElem?_append_right, lowOf] using hu3 | fail) ?_; conv => whnf) | (refine allLst (x := u3) (by first | omega | assumption | fail) (by first | exact hu3 | simpa using hu3 | fail) ?_; conv => whnf) | (refine allG (x := u4) (by first | exact hu4 | simpa [List.getElem?_append_right, lowOf] using hu4 | fail) ?_; conv => whnf) | (refine allLst (x := u4) (by first | omega | assumption | fail) (by first | exact hu4 | simpa using hu4 | fail) ?_; conv => whnf) | (refine allG rfl ?_; conv => whnf) | (refine And.intro (by first | omega | assumption | kernel_rfl | exact And.intro rfl rfl | ((try dsimp only [inR, idx, lowOf]); first | omega | (with_reducible decide) | (simp; omega) | (simp; done) | fail) | fail) ?_; conv => whnf) | fail)
    exact ⟨(), [], trivial, rfl, trivial, trivial⟩
end Go.Sx


/-
  Layer 21, part F: TraceShares, over what awake tells.
-/
namespace Go.Sx
open Go Go.Proofs Go.Proofs.YtmogappoadglgaaDoor
def spHas21 : Spec AF where
  γ := List Int × Int
  δ := Bool
  args := fun g => [.lst 3 g.1, vI g.2]
  own := fun _ => []
  pre := fun g => g.1.length ≤ 9223372036854775807
  nnew := 0
  res := fun _ c => vB c
  own' := fun _ _ => []
  post := fun g c => (c = true ↔ g.2 ∈ g.1)
theorem notin_snoc {l : List Int} {i : Nat} {x y : Int} (hy : l[i]? = some y) (hno : ¬ x ∈ l.take i) (he : ¬ y = x) : ¬ x ∈ l.take (i + 1) := by
  rw [take_snocI hy]
  intro h
  rcases List.mem_append.1 h with h | h
  · exact hno h
  · exact he (List.mem_singleton.1 h).symm
theorem m_has21 : Meets Tryd.prog regF 34 spHas21 := by
  refine meets Tryd.func34 18 noWr rfl (by kernel_rfl) (by kernel_rfl) ?_
  rintro ⟨(l : List Int), (x : Int)⟩ (hl : l.length ≤ 9223372036854775807)
  conv => whnf
  repeat' (first | (refine tell (fun htest => ?_) (fun htest => ?_) <;> (try dsimp only at htest) <;> first | (exfalso; omega) | (exact absurd rfl htest) | (exact absurd (by decide) htest) | (conv => whnf)) | (refine allG rfl ?_; conv => whnf) | (refine And.intro (by first | omega | assumption | kernel_rfl | exact And.intro rfl rfl | ((try dsimp only [inR, idx, lowOf]); first | omega | (with_reducible decide) | (simp; omega) | (simp; done) | fail) | fail) ?_; conv => whnf) | fail)
  refine ⟨Nat, fun i => ⟨[(0, .lst 3 l), (1, vI x), (5, vI i)], []⟩, fun i => i ≤ l.length ∧ ¬ x ∈ l.take i, fun i => l.length - i, fun _ _ => rfl, ⟨0, [], ⟨Nat.zero_le _, by simp⟩, ?_⟩, ?_⟩
  · refine ⟨rfl, ?_, ?_, rfl⟩
    all_goals (repeat' (first | exact trivial | exact rfl | refine And.intro ?_ ?_ | (refine congrArg vI ?_; first | omega | (dsimp only; omega) | fail) | (refine congrArg some ?_) | omega | exact Nat.le_refl _ | exact congrArg (SV.lst _) (List.take_of_length_le (Nat.le_refl _)).symm))
  rintro (i : Nat) ⟨(hi : i ≤ l.length), (hno : ¬ x ∈ l.take i)⟩
  by_cases hlt : i < l.length
  · have hobt : ∃ y, l[i]? = some y := ⟨_, List.getElem?_eq_getElem hlt⟩
    obtain ⟨y, hy⟩ := hobt
    by_cases he : y = x
    · subst he
      conv => whnf
      repeat' (first | (refine tell (fun htest => ?_) (fun htest => ?_) <;> (try dsimp only at htest) <;> first | (exfalso; omega) | (exact absurd rfl htest) | (exact absurd (by decide) htest) | (conv => whnf)) | (refine allG (x := y) (by first | exact hy | simpa [List.getElem?_append_right, lowOf] using hy | fail) ?_; conv => whnf) | (refine allLst (x := y) (by first | omega | assumption | fail) (by first | exact hy | simpa using hy | fail) ?_; conv => whnf) | (refine allG rfl ?_; conv => whnf) | (refine And.intro (by first | omega | assumption | kernel_rfl | exact And.intro rfl rfl | ((try dsimp only [inR, idx, lowOf]); first | omega | (with_reducible decide) | (simp; omega) | (simp; done) | fail) | fail) ?_; conv => whnf) | fail)
      exact ⟨true, [], ⟨fun _ => List.mem_of_getElem? hy, fun _ => rfl⟩, rfl, trivial, trivial⟩
    · conv => whnf
      repeat' (first | (refine tell (fun htest => ?_) (fun htest => ?_) <;> (try dsimp only at htest) <;> first | (exfalso; omega) | (exact absurd rfl htest) | (exact absurd (by decide) htest) | (conv => whnf)) | (refine allG (x := y) (by first | exact hy | simpa [List.getElem?_append_right, lowOf] using hy | fail) ?_; conv => whnf) | (refine allLst (x := y) (by first | omega | assumption | fail) (by first | exact hy | simpa using hy | fail) ?_; conv => whnf) | (refine allG rfl ?_; conv => whnf) | (refine And.intro (by first | omega | assumption | kernel_rfl | exact And.intro rfl rfl | ((try dsimp only [inR, idx, lowOf]); first | omega | (with_reducible decide) | (simp; omega) | (simp; done) | fail) | fail) ?_; conv => whnf) | fail)
      refine ⟨i + 1, [], ⟨hlt, notin_snoc hy hno he⟩, ?_, rfl, ?_, ?_, rfl⟩
      · dsimp only; first | omega | (simp; done) | (simp; omega)
      all_goals (repeat' (first | exact trivial | exact rfl | refine And.intro ?_ ?_ | (refine congrArg vI ?_; first | omega | (dsimp only; omega) | fail) | (refine congrArg some ?_) | omega | exact Nat.le_refl _ | exact congrArg (SV.lst _) (List.take_of_length_le (Nat.le_refl _)).symm))
  · conv => whnf
    repeat' (first | (refine tell (fun htest => ?_) (fun htest => ?_) <;> (try dsimp only at htest) <;> first | (exfalso; omega) | (exact absurd rfl htest) | (exact absurd (by decide) htest) | (conv => whnf)) | (refine allG rfl ?_; conv => whnf) | (refine And.intro (by first | omega | assumption | kernel_rfl | exact And.intro rfl rfl | ((try dsimp only [inR, idx, lowOf]); first | omega | (with_reducible decide) | (simp; omega) | (simp; done) | fail) | fail) ?_; conv => whnf) | fail)
    have hn : ¬ x ∈ l := by rw [List.take_of_length_le (by omega)] at hno; exact hno
    exact ⟨false, [], ⟨fun h => (by cases h), fun h => absurd h hn⟩, rfl, trivial, trivial⟩
theorem has21_ex (l : List Int) (x : Int) : ∃ c : Bool, (c = true ↔ x ∈ l) := pred_ex _
set_option maxHeartbeats 3200000 in
theorem m_sharesR (hA : Meets Tryd.prog regF 32 spAwake) : Meets Tryd.prog regF 8 (spLaw (fun l : LL => [.lst 23 l]) (fun l => l.length ≤ 9223372036854775807 ∧ ∀ xs ∈ l, xs.length ≤ 17592186044416)) := by
  refine meets Tryd.func8 145 noWr rfl (by kernel_rfl) (by kernel_rfl) ?_
  rintro (l : LL) ⟨(hl : l.length ≤ 9223372036854775807), (hls : ∀ xs ∈ l, xs.length ≤ 17592186044416)⟩
  have hc8 : (((l.take (min (l.length : Int) 8).toNat).drop 0)).length ≤ 8 := by simp; omega
  have hcs : ∀ xs ∈ (((l.take (min (l.length : Int) 8).toNat).drop 0)), xs.length ≤ 17592186044416 := fun xs h => hls xs (List.mem_of_mem_take h)
  conv => whnf
  repeat' (first | (refine tell (fun htest => ?_) (fun htest => ?_) <;> (try dsimp only at htest) <;> first | (exfalso; omega) | (exact absurd rfl htest) | (exact absurd (by decide) htest) | (conv => whnf)) | (refine allG rfl ?_; conv => whnf) | (refine And.intro (by first | omega | assumption | kernel_rfl | exact And.intro rfl rfl | ((try dsimp only [inR, idx, lowOf]); first | omega | (with_reducible decide) | (simp; omega) | (simp; done) | fail) | fail) ?_; conv => whnf) | fail)
  refine ⟨_, hA, (), [], false, ?_⟩
  conv => whnf
  refine And.intro (vc0 trivial (by (repeat' (first | exact trivial | exact rfl | refine And.intro ?_ ?_ | (refine congrArg vI ?_; first | omega | (dsimp only; omega) | fail) | (refine congrArg some ?_) | omega | exact Nat.le_refl _ | exact congrArg (SV.lst _) (List.take_of_length_le (Nat.le_refl _)).symm))) (by repeat' (first | exact trivial | exact rfl | refine And.intro ?_ ?_ | (refine congrArg vI ?_; first | omega | (dsimp only; omega) | fail) | (refine congrArg some ?_) | omega | exact Nat.le_refl _ | exact congrArg (SV.lst _) (List.take_of_length_le (Nat.le_refl _)).symm)) trivial trivial) ?_
  refine And.intro ⟨(), trivial⟩ (fun (_ : Unit) _ => ?_)
  conv => whnf
  conv => whnf
  repeat' (first | (refine tell (fun htest => ?_) (fun htest => ?_) <;> (try dsimp only at htest) <;> first | (exfalso; omega) | (exact absurd rfl htest) | (exact absurd (by decide) htest) | (conv => whnf)) | (refine allG rfl ?_; conv => whnf) | (refine And.intro (by first | omega | assumption | kernel_rfl | exact And.intro rfl rfl | ((try dsimp only [inR, idx, lowOf]); first | omega | (with_reducible decide) | (simp; omega) | (simp; done) | fail) | fail) ?_; conv => whnf) | fail)
  refine ⟨_, m_shared, (((l.take (min (l.length : Int) 8).toNat).drop 0)), [], false, ?_⟩
  conv => whnf
  refine And.intro (vc0 ⟨(show (((l.take (min (l.length : Int) 8).toNat).drop 0)).length ≤ 1000000 by omega), hcs⟩ (by (repeat' (first | exact trivial | exact rfl | refine And.intro ?_ ?_ | (refine congrArg vI ?_; first | omega | (dsimp only; omega) | fail) | (refine congrArg some ?_) | omega | exact Nat.le_refl _ | exact congrArg (SV.lst _) (List.take_of_length_le (Nat.le_refl _)).symm))) (by repeat' (first | exact trivial | exact rfl | refine And.intro ?_ ?_ | (refine congrArg vI ?_; first | omega | (dsimp only; omega) | fail) | (refine congrArg some ?_) | omega | exact Nat.le_refl _ | exact congrArg (SV.lst _) (List.take_of_length_le (Nat.le_refl _)).symm)) trivial trivial) ?_
  refine And.intro (sharedR_ex _) ?_
  rintro ⟨(pa : Int), (pb : Int), (px : Int), (pc : Bool)⟩ (hS : SharedR (((l.take (min (l.length : Int) 8).toNat).drop 0)) (pa, pb, px, pc))
  have hS2 := hS
  rcases hS2 with ⟨he, hno⟩ | ⟨a, b, x, xs, ys, he, hab, hxs, hys, hx, hmin, hfst⟩
  · obtain ⟨rfl, rfl, rfl, rfl⟩ : pa = 0 ∧ pb = 0 ∧ px = 0 ∧ pc = false := by
      have := Prod.mk.inj he; have h2 := Prod.mk.inj this.2; have h3 := Prod.mk.inj h2.2; exact ⟨this.1, h2.1, h3.1, h3.2⟩
    conv => whnf
    repeat' (first | (refine tell (fun htest => ?_) (fun htest => ?_) <;> (try dsimp only at htest) <;> first | (exfalso; omega) | (exact absurd rfl htest) | (exact absurd (by decide) htest) | (conv => whnf)) | (refine allG rfl ?_; conv => whnf) | (refine And.intro (by first | omega | assumption | kernel_rfl | exact And.intro rfl rfl | ((try dsimp only [inR, idx, lowOf]); first | omega | (with_reducible decide) | (simp; omega) | (simp; done) | fail) | fail) ?_; conv => whnf) | fail)
    refine ⟨Nat, fun i => ⟨[(0, .lst 23 (((l.take (min (l.length : Int) 8).toNat).drop 0))), (3, vB true), (4, vI 0), (5, vI 0), (6, vI 0), (7, vB false), (8, .val (.func (.func 34) #[] #[])), (9, vI i)], []⟩, fun i => i ≤ (((l.take (min (l.length : Int) 8).toNat).drop 0)).length, fun i => (((l.take (min (l.length : Int) 8).toNat).drop 0)).length - i, fun _ _ => rfl, ⟨0, [], Nat.zero_le _, ?_⟩, ?_⟩
    · refine ⟨rfl, ?_, ?_, rfl⟩
      all_goals (repeat' (first | exact trivial | exact rfl | refine And.intro ?_ ?_ | (refine congrArg vI ?_; first | omega | (dsimp only; omega) | fail) | (refine congrArg some ?_) | omega | exact Nat.le_refl _ | exact congrArg (SV.lst _) (List.take_of_length_le (Nat.le_refl _)).symm))
    rintro (i : Nat) (hi : i ≤ (((l.take (min (l.length : Int) 8).toNat).drop 0)).length)
    by_cases hlt : i < (((l.take (min (l.length : Int) 8).toNat).drop 0)).length
    · have hobt : ∃ us, (((l.take (min (l.length : Int) 8).toNat).drop 0))[i]? = some us := ⟨_, List.getElem?_eq_getElem hlt⟩
      obtain ⟨us, hus⟩ := hobt
      have hul := hcs us (List.mem_of_getElem? hus)
      conv => whnf
      repeat' (first | (refine tell (fun htest => ?_) (fun htest => ?_) <;> (try dsimp only at htest) <;> first | (exfalso; omega) | (exact absurd rfl htest) | (exact absurd (by decide) htest) | (conv => whnf)) | (refine allG rfl ?_; conv => whnf) | (refine And.intro (by first | omega | assumption | kernel_rfl | exact And.intro rfl rfl | ((try dsimp only [inR, idx, lowOf]); first | omega | (with_reducible decide) | (simp; omega) | (simp; done) | fail) | fail) ?_; conv => whnf) | fail)
      refine ⟨Nat, fun j => ⟨[(0, .lst 23 (((l.take (min (l.length : Int) 8).toNat).drop 0))), (3, vB true), (4, vI 0), (5, vI 0), (6, vI 0), (7, vB false), (8, .val (.func (.func 34) #[] #[])), (9, vI i), (10, vI j)], []⟩, fun j => i + 1 ≤ j ∧ j ≤ (((l.take (min (l.length : Int) 8).toNat).drop 0)).length, fun j => (((l.take (min (l.length : Int) 8).toNat).drop 0)).length - j, fun _ _ => rfl, ⟨i + 1, [], ⟨Nat.le_refl _, hlt⟩, ?_⟩, ?_⟩
      · refine ⟨rfl, ?_, ?_, rfl⟩
        all_goals (repeat' (first | exact trivial | exact rfl | refine And.intro ?_ ?_ | (refine congrArg vI ?_; first | omega | (dsimp only; omega) | fail) | (refine congrArg some ?_) | omega | exact Nat.le_refl _ | exact congrArg (SV.lst _) (List.take_of_length_le (Nat.le_refl _)).symm))
      rintro (j : Nat) ⟨(hj1 : i + 1 ≤ j), (hj : j ≤ (((l.take (min (l.length : Int) 8).toNat).drop 0)).length)⟩
      by_cases hjl : j < (((l.take (min (l.length : Int) 8).toNat).drop 0)).length
      · have hobt : ∃ vs, (((l.take (min (l.length : Int) 8).toNat).drop 0))[j]? = some vs := ⟨_, List.getElem?_eq_getElem hjl⟩
        obtain ⟨vs, hvs⟩ := hobt
        have hvl := hcs vs (List.mem_of_getElem? hvs)
        conv => whnf
        repeat' (first | (refine tell (fun htest => ?_) (fun htest => ?_) <;> (try dsimp only at htest) <;> first | (exfalso; omega) | (exact absurd rfl htest) | (exact absurd (by decide) htest) | (conv => whnf)) | (refine allG rfl ?_; conv => whnf) | (refine And.intro (by first | omega | assumption | kernel_rfl | exact And.intro rfl rfl | ((try dsimp only [inR, idx, lowOf]); first | omega | (with_reducible decide) | (simp; omega) | (simp; done) | fail) | fail) ?_; conv => whnf) | fail)
        refine ⟨Nat, fun k => ⟨[(0, .lst 23 (((l.take (min (l.length : Int) 8).toNat).drop 0))), (3, vB true), (4, vI 0), (5, vI 0), (6, vI 0), (7, vB false), (8, .val (.func (.func 34) #[] #[])), (9, vI i), (10, vI j), (11, vI k)], []⟩, fun k => k ≤ us.length, fun k => us.length - k, fun _ _ => rfl, ⟨0, [], Nat.zero_le _, ?_⟩, ?_⟩
        · refine ⟨rfl, ?_, ?_, rfl⟩
          all_goals (repeat' (first | exact trivial | exact rfl | refine And.intro ?_ ?_ | (refine congrArg vI ?_; first | omega | (dsimp only; omega) | fail) | (refine congrArg some ?_) | omega | exact Nat.le_refl _ | exact congrArg (SV.lst _) (List.take_of_length_le (Nat.le_refl _)).symm))
        rintro (k : Nat) (hk : k ≤ us.length)
        by_cases hkl : k < us.length
        · have hobt : ∃ y, us[k]? = some y := ⟨_, List.getElem?_eq_getElem hkl⟩
          obtain ⟨y, hy⟩ := hobt
          conv => whnf
          repeat' (first | (refine tell (fun htest => ?_) (fun htest => ?_) <;> (try dsimp only at htest) <;> first | (exfalso; omega) | (exact absurd rfl htest) | (exact absurd (by decide) htest) | (conv => whnf)) | (refine allG (x := us) (by first | exact hus | simpa [List.getElem?_append_right, lowOf] using hus | fail) ?_; conv => whnf) | (refine allLst (x := us) (by first | omega | assumption | fail) (by first | exact hus | simpa using hus | fail) ?_; conv => whnf) | (refine allG (x := vs) (by first | exact hvs | simpa [List.getElem?_append_right, lowOf] using hvs | fail) ?_; conv => whnf) | (refine allLst (x := vs) (by first | omega | assumption | fail) (by first | exact hvs | simpa using hvs | fail) ?_; conv => whnf) | (refine allG (x := y) (by first | exact hy | simpa [List.getElem?_append_right, lowOf] using hy | fail) ?_; conv => whnf) | (refine allLst (x := y) (by first | omega | assumption | fail) (by first | exact hy | simpa using hy | fail) ?_; conv => whnf) | (refine allG rfl ?_; conv => whnf) | (refine And.intro (by first | omega | assumption | kernel_rfl | exact And.intro rfl rfl | ((try dsimp only [inR, idx, lowOf]); first | omega | (with_reducible decide) | (simp; omega) | (simp; done) | fail) | fail) ?_; conv => whnf) | fail)
          refine ⟨_, m_has21, (vs, y), [], false, ?_⟩
          conv => whnf
          refine And.intro (vc0 (show vs.length ≤ 9223372036854775807 by omega) (by (repeat' (first | exact trivial | exact rfl | refine And.intro ?_ ?_ | (refine congrArg vI ?_; first | omega | (dsimp only; omega) | fail) | (refine congrArg some ?_) | omega | exact Nat.le_refl _ | exact congrArg (SV.lst _) (List.take_of_length_le (Nat.le_refl _)).symm))) (by repeat' (first | exact trivial | exact rfl | refine And.intro ?_ ?_ | (refine congrArg vI ?_; first | omega | (dsimp only; omega) | fail) | (refine congrArg some ?_) | omega | exact Nat.le_refl _ | exact congrArg (SV.lst _) (List.take_of_length_le (Nat.le_refl _)).symm)) trivial trivial) ?_
          refine And.intro (has21_ex _ _) ?_
          intro (q : Bool) (hq : q = true ↔ y ∈ vs)
          cases q
          · conv => whnf
            repeat' (first | (refine tell (fun htest => ?_) (fun htest => ?_) <;> (try dsimp only at htest) <;> first | (exfalso; omega) | (exact absurd rfl htest) | (exact absurd (by decide) htest) | (conv => whnf)) | (refine allG (x := us) (by first | exact hus | simpa [List.getElem?_append_right, lowOf] using hus | fail) ?_; conv => whnf) | (refine allLst (x := us) (by first | omega | assumption | fail) (by first | exact hus | simpa using hus | fail) ?_; conv => whnf) | (refine allG rfl ?_; conv => whnf) | (refine And.intro (by first | omega | assumption | kernel_rfl | exact And.intro rfl rfl | ((try dsimp only [inR, idx, lowOf]); first | omega | (with_reducible decide) | (simp; omega) | (simp; done) | fail) | fail) ?_; conv => whnf) | fail)
            refine ⟨k + 1, [], hkl, ?_, rfl, ?_, ?_, rfl⟩
            · dsimp only; first | omega | (simp; done) | (simp; omega)
            all_goals (repeat' (first | exact trivial | exact rfl | refine And.intro ?_ ?_ | (refine congrArg vI ?_; first | omega | (dsimp only; omega) | fail) | (refine congrArg some ?_) | omega | exact Nat.le_refl _ | exact congrArg (SV.lst _) (List.take_of_length_le (Nat.le_refl _)).symm))
          · have hmem : y ∈ comm us vs := mem_comm.2 ⟨List.mem_of_getElem? hy, hq.1 rfl⟩
            have h0 := hno i j us vs (by omega) hus hvs
            rw [h0] at hmem; cases hmem
        · conv => whnf
          repeat' (first | (refine tell (fun htest => ?_) (fun htest => ?_) <;> (try dsimp only at htest) <;> first | (exfalso; omega) | (exact absurd rfl htest) | (exact absurd (by decide) htest) | (conv => whnf)) | (refine allG (x := us) (by first | exact hus | simpa [List.getElem?_append_right, lowOf] using hus | fail) ?_; conv => whnf) | (refine allLst (x := us) (by first | omega | assumption | fail) (by first | exact hus | simpa using hus | fail) ?_; conv => whnf) | (refine allG rfl ?_; conv => whnf) | (refine And.intro (by first | omega | assumption | kernel_rfl | exact And.intro rfl rfl | ((try dsimp only [inR, idx, lowOf]); first | omega | (with_reducible decide) | (simp; omega) | (simp; done) | fail) | fail) ?_; conv => whnf) | fail)
          refine ⟨j + 1, [], ⟨by omega, hjl⟩, ?_, rfl, ?_, ?_, rfl⟩
          · dsimp only; first | omega | (simp; done) | (simp; omega)
          all_goals (repeat' (first | exact trivial | exact rfl | refine And.intro ?_ ?_ | (refine congrArg vI ?_; first | omega | (dsimp only; omega) | fail) | (refine congrArg some ?_) | omega | exact Nat.le_refl _ | exact congrArg (SV.lst _) (List.take_of_length_le (Nat.le_refl _)).symm))
      · conv => whnf
        repeat' (first | (refine tell (fun htest => ?_) (fun htest => ?_) <;> (try dsimp only at htest) <;> first | (exfalso; omega) | (exact absurd rfl htest) | (exact absurd (by decide) htest) | (conv => whnf)) | (refine allG rfl ?_; conv => whnf) | (refine And.intro (by first | omega | assumption | kernel_rfl | exact And.intro rfl rfl | ((try dsimp only [inR, idx, lowOf]); first | omega | (with_reducible decide) | (simp; omega) | (simp; done) | fail) | fail) ?_; conv => whnf) | fail)
        refine ⟨i + 1, [], hlt, ?_, rfl, ?_, ?_, rfl⟩
        · dsimp only; first | omega | (simp; done) | (simp; omega)
        all_goals (repeat' (first | exact trivial | exact rfl | refine And.intro ?_ ?_ | (refine congrArg vI ?_; first | omega | (dsimp only; omega) | fail) | (refine congrArg some ?_) | omega | exact Nat.le_refl _ | exact congrArg (SV.lst _) (List.take_of_length_le (Nat.le_refl _)).symm))
    · conv => whnf
      repeat' (first | (refine tell (fun htest => ?_) (fun htest => ?_) <;> (try dsimp only at htest) <;> first | (exfalso; omega) | (exact absurd rfl htest) | (exact absurd (by decide) htest) | (conv => whnf)) | (refine allG rfl ?_; conv => whnf) | (refine And.intro (by first | omega | assumption | kernel_rfl | exact And.intro rfl rfl | ((try dsimp only [inR, idx, lowOf]); first | omega | (with_reducible decide) | (simp; omega) | (simp; done) | fail) | fail) ?_; conv => whnf) | fail)
      exact ⟨(), [], trivial, rfl, trivial, trivial⟩
  · obtain ⟨rfl, rfl, rfl, rfl⟩ : pa = a ∧ pb = b ∧ px = x ∧ pc = true := by
      have := Prod.mk.inj he; have h2 := Prod.mk.inj this.2; have h3 := Prod.mk.inj h2.2; exact ⟨this.1, h2.1, h3.1, h3.2⟩
    have hbl : b < (((l.take (min (l.length : Int) 8).toNat).drop 0)).length := (List.getElem?_eq_some_iff.1 hys).1
    conv => whnf
    repeat' (first | (refine tell (fun htest => ?_) (fun htest => ?_) <;> (try dsimp only at htest) <;> first | (exfalso; omega) | (exact absurd rfl htest) | (exact absurd (by decide) htest) | (conv => whnf)) | (refine allG rfl ?_; conv => whnf) | (refine And.intro (by first | omega | assumption | kernel_rfl | exact And.intro rfl rfl | ((try dsimp only [inR, idx, lowOf]); first | omega | (with_reducible decide) | (simp; omega) | (simp; done) | fail) | fail) ?_; conv => whnf) | fail)
    refine ⟨Nat, fun i => ⟨[(0, .lst 23 (((l.take (min (l.length : Int) 8).toNat).drop 0))), (3, vB true), (4, vI a), (5, vI b), (6, vI px), (7, vB true), (8, .val (.func (.func 34) #[] #[])), (9, vI i)], []⟩, fun i => i ≤ (((l.take (min (l.length : Int) 8).toNat).drop 0)).length, fun i => (((l.take (min (l.length : Int) 8).toNat).drop 0)).length - i, fun _ _ => rfl, ⟨0, [], Nat.zero_le _, ?_⟩, ?_⟩
    · refine ⟨rfl, ?_, ?_, rfl⟩
      all_goals (repeat' (first | exact trivial | exact rfl | refine And.intro ?_ ?_ | (refine congrArg vI ?_; first | omega | (dsimp only; omega) | fail) | (refine congrArg some ?_) | omega | exact Nat.le_refl _ | exact congrArg (SV.lst _) (List.take_of_length_le (Nat.le_refl _)).symm))
    rintro (i : Nat) (hi : i ≤ (((l.take (min (l.length : Int) 8).toNat).drop 0)).length)
    by_cases hlt : i < (((l.take (min (l.length : Int) 8).toNat).drop 0)).length
    · have hobt : ∃ us, (((l.take (min (l.length : Int) 8).toNat).drop 0))[i]? = some us := ⟨_, List.getElem?_eq_getElem hlt⟩
      obtain ⟨us, hus⟩ := hobt
      have hul := hcs us (List.mem_of_getElem? hus)
      conv => whnf
      repeat' (first | (refine tell (fun htest => ?_) (fun htest => ?_) <;> (try dsimp only at htest) <;> first | (exfalso; omega) | (exact absurd rfl htest) | (exact absurd (by decide) htest) | (conv => whnf)) | (refine allG rfl ?_; conv => whnf) | (refine And.intro (by first | omega | assumption | kernel_rfl | exact And.intro rfl rfl | ((try dsimp only [inR, idx, lowOf]); first | omega | (with_reducible decide) | (simp; omega) | (simp; done) | fail) | fail) ?_; conv => whnf) | fail)
      refine ⟨Nat, fun j => ⟨[(0, .lst 23 (((l.take (min (l.length : Int) 8).toNat).drop 0))), (3, vB true), (4, vI a), (5, vI b), (6, vI px), (7, vB true), (8, .val (.func (.func 34) #[] #[])), (9, vI i), (10, vI j)], []⟩, fun j => i + 1 ≤ j ∧ j ≤ (((l.take (min (l.length : Int) 8).toNat).drop 0)).length, fun j => (((l.take (min (l.length : Int) 8).toNat).drop 0)).length - j, fun _ _ => rfl, ⟨i + 1, [], ⟨Nat.le_refl _, hlt⟩, ?_⟩, ?_⟩
      · refine ⟨rfl, ?_, ?_, rfl⟩
        all_goals (repeat' (first | exact trivial | exact rfl | refine And.intro ?_ ?_ | (refine congrArg vI ?_; first | omega | (dsimp only; omega) | fail) | (refine congrArg some ?_) | omega | exact Nat.le_refl _ | exact congrArg (SV.lst _) (List.take_of_length_le (Nat.le_refl _)).symm))
      rintro (j : Nat) ⟨(hj1 : i + 1 ≤ j), (hj : j ≤ (((l.take (min (l.length : Int) 8).toNat).drop 0)).length)⟩
      by_cases hjl : j < (((l.take (min (l.length : Int) 8).toNat).drop 0)).length
      · have hobt : ∃ vs, (((l.take (min (l.length : Int) 8).toNat).drop 0))[j]? = some vs := ⟨_, List.getElem?_eq_getElem hjl⟩
        obtain ⟨vs, hvs⟩ := hobt
        have hvl := hcs vs (List.mem_of_getElem? hvs)
        conv => whnf
        repeat' (first | (refine tell (fun htest => ?_) (fun htest => ?_) <;> (try dsimp only at htest) <;> first | (exfalso; omega) | (exact absurd rfl htest) | (exact absurd (by decide) htest) | (conv => whnf)) | (refine allG rfl ?_; conv => whnf) | (refine And.intro (by first | omega | assumption | kernel_rfl | exact And.intro rfl rfl | ((try dsimp only [inR, idx, lowOf]); first | omega | (with_reducible decide) | (simp; omega) | (simp; done) | fail) | fail) ?_; conv => whnf) | fail)
        refine ⟨Nat, fun k => ⟨[(0, .lst 23 (((l.take (min (l.length : Int) 8).toNat).drop 0))), (3, vB true), (4, vI a), (5, vI b), (6, vI px), (7, vB true), (8, .val (.func (.func 34) #[] #[])), (9, vI i), (10, vI j), (11, vI k)], []⟩, fun k => k ≤ us.length, fun k => us.length - k, fun _ _ => rfl, ⟨0, [], Nat.zero_le _, ?_⟩, ?_⟩
        · refine ⟨rfl, ?_, ?_, rfl⟩
          all_goals (repeat' (first | exact trivial | exact rfl | refine And.intro ?_ ?_ | (refine congrArg vI ?_; first | omega | (dsimp only; omega) | fail) | (refine congrArg some ?_) | omega | exact Nat.le_refl _ | exact congrArg (SV.lst _) (List.take_of_length_le (Nat.le_refl _)).symm))
        rintro (k : Nat) (hk : k ≤ us.length)
        by_cases hkl : k < us.length
        · have hobt : ∃ y, us[k]? = some y := ⟨_, List.getElem?_eq_getElem hkl⟩
          obtain ⟨y, hy⟩ := hobt
          conv => whnf
          repeat' (first | (refine tell (fun htest => ?_) (fun htest => ?_) <;> (try dsimp only at htest) <;> first | (exfalso; omega) | (exact absurd rfl htest) | (exact absurd (by decide) htest) | (conv => whnf)) | (refine allG (x := us) (by first | exact hus | simpa [List.getElem?_append_right, lowOf] using hus | fail) ?_; conv => whnf) | (refine allLst (x := us) (by first | omega | assumption | fail) (by first | exact hus | simpa using hus | fail) ?_; conv => whnf) | (refine allG (x := vs) (by first | exact hvs | simpa [List.getElem?_append_right, lowOf] using hvs | fail) ?_; conv => whnf) | (refine allLst (x := vs) (by first | omega | assumption | fail) (by first | exact hvs | simpa using hvs | fail) ?_; conv => whnf) | (refine allG (x := y) (by first | exact hy | simpa [List.getElem?_append_right, lowOf] using hy | fail) ?_; conv => whnf) | (refine allLst (x := y) (by first | omega | assumption | fail) (by first | exact hy | simpa using hy | fail) ?_; conv => whnf) | (refine allG rfl ?_; conv => whnf) | (refine And.intro (by first | omega | assumption | kernel_rfl | exact And.intro rfl rfl | ((try dsimp only [inR, idx, lowOf]); first | omega | (with_reducible decide) | (simp; omega) | (simp; done) | fail) | fail) ?_; conv => whnf) | fail)
          refine ⟨_, m_has21, (vs, y), [], false, ?_⟩
          conv => whnf
          refine And.intro (vc0 (show vs.length ≤ 9223372036854775807 by omega) (by (repeat' (first | exact trivial | exact rfl | refine And.intro ?_ ?_ | (refine congrArg vI ?_; first | omega | (dsimp only; omega) | fail) | (refine congrArg some ?_) | omega | exact Nat.le_refl _ | exact congrArg (SV.lst _) (List.take_of_length_le (Nat.le_refl _)).symm))) (by repeat' (first | exact trivial | exact rfl | refine And.intro ?_ ?_ | (refine congrArg vI ?_; first | omega | (dsimp only; omega) | fail) | (refine congrArg some ?_) | omega | exact Nat.le_refl _ | exact congrArg (SV.lst _) (List.take_of_length_le (Nat.le_refl _)).symm)) trivial trivial) ?_
          refine And.intro (has21_ex _ _) ?_
          intro (q : Bool) (hq : q = true ↔ y ∈ vs)
          cases q
          · conv => whnf
            repeat' (first | (refine tell (fun htest => ?_) (fun htest => ?_) <;> (try dsimp only at htest) <;> first | (exfalso; omega) | (exact absurd rfl htest) | (exact absurd (by decide) htest) | (conv => whnf)) | (refine allG (x := us) (by first | exact hus | simpa [List.getElem?_append_right, lowOf] using hus | fail) ?_; conv => whnf) | (refine allLst (x := us) (by first | omega | assumption | fail) (by first | exact hus | simpa using hus | fail) ?_; conv => whnf) | (refine allG rfl ?_; conv => whnf) | (refine And.intro (by first | omega | assumption | kernel_rfl | exact And.intro rfl rfl | ((try dsimp only [inR, idx, lowOf]); first | omega | (with_reducible decide) | (simp; omega) | (simp; done) | fail) | fail) ?_; conv => whnf) | fail)
            refine ⟨k + 1, [], hkl, ?_, rfl, ?_, ?_, rfl⟩
            · dsimp only; first | omega | (simp; done) | (simp; omega)
            all_goals (repeat' (first | exact trivial | exact rfl | refine And.intro ?_ ?_ | (refine congrArg vI ?_; first | omega | (dsimp only; omega) | fail) | (refine congrArg some ?_) | omega | exact Nat.le_refl _ | exact congrArg (SV.lst _) (List.take_of_length_le (Nat.le_refl _)).symm))
          · have hmem : y ∈ comm us vs := mem_comm.2 ⟨List.mem_of_getElem? hy, hq.1 rfl⟩
            have hne : ¬ comm us vs = [] := fun h => by rw [h] at hmem; cases hmem
            have hA1 : ¬ i < a := fun h => hne (hfst i j us vs (by omega) (.inl h) hus hvs)
            have hA2 : ¬ (i = a ∧ j < b) := fun h => hne (hfst i j us vs (by omega) (.inr h) hus hvs)
            have hA3 : ¬ (i = a ∧ j = b ∧ y < px) := fun ⟨h1, h2, h3⟩ => by
              subst h1; subst h2
              rw [hxs] at hus; cases hus
              rw [hys] at hvs; cases hvs
              have := hmin y hmem; omega
            by_cases e1 : i = a
            · by_cases e2 : j = b
              · conv => whnf
                repeat' (first | (refine tell (fun htest => ?_) (fun htest => ?_) <;> (try dsimp only at htest) <;> first | (exfalso; omega) | (exact absurd rfl htest) | (exact absurd (by decide) htest) | (conv => whnf)) | (refine allG (x := us) (by first | exact hus | simpa [List.getElem?_append_right, lowOf] using hus | fail) ?_; conv => whnf) | (refine allLst (x := us) (by first | omega | assumption | fail) (by first | exact hus | simpa using hus | fail) ?_; conv => whnf) | (refine allG (x := y) (by first | exact hy | simpa [List.getElem?_append_right, lowOf] using hy | fail) ?_; conv => whnf) | (refine allLst (x := y) (by first | omega | assumption | fail) (by first | exact hy | simpa using hy | fail) ?_; conv => whnf) | (refine allG rfl ?_; conv => whnf) | (refine And.intro (by first | omega | assumption | kernel_rfl | exact And.intro rfl rfl | ((try dsimp only [inR, idx, lowOf]); first | omega | (with_reducible decide) | (simp; omega) | (simp; done) | fail) | fail) ?_; conv => whnf) | fail)
                refine ⟨k + 1, [], hkl, ?_, rfl, ?_, ?_, rfl⟩
                · dsimp only; first | omega | (simp; done) | (simp; omega)
                all_goals (repeat' (first | exact trivial | exact rfl | refine And.intro ?_ ?_ | (refine congrArg vI ?_; first | omega | (dsimp only; omega) | fail) | (refine congrArg some ?_) | omega | exact Nat.le_refl _ | exact congrArg (SV.lst _) (List.take_of_length_le (Nat.le_refl _)).symm))
              · conv => whnf
                repeat' (first | (refine tell (fun htest => ?_) (fun htest => ?_) <;> (try dsimp only at htest) <;> first | (exfalso; omega) | (exact absurd rfl htest) | (exact absurd (by decide) htest) | (conv => whnf)) | (refine allG (x := us) (by first | exact hus | simpa [List.getElem?_append_right, lowOf] using hus | fail) ?_; conv => whnf) | (refine allLst (x := us) (by first | omega | assumption | fail) (by first | exact hus | simpa using hus | fail) ?_; conv => whnf) | (refine allG (x := y) (by first | exact hy | simpa [List.getElem?_append_right, lowOf] using hy | fail) ?_; conv => whnf) | (refine allLst (x := y) (by first | omega | assumption | fail) (by first | exact hy | simpa using hy | fail) ?_; conv => whnf) | (refine allG rfl ?_; conv => whnf) | (refine And.intro (by first | omega | assumption | kernel_rfl | exact And.intro rfl rfl | ((try dsimp only [inR, idx, lowOf]); first | omega | (with_reducible decide) | (simp; omega) | (simp; done) | fail) | fail) ?_; conv => whnf) | fail)
                refine ⟨k + 1, [], hkl, ?_, rfl, ?_, ?_, rfl⟩
                · dsimp only; first | omega | (simp; done) | (simp; omega)
                all_goals (repeat' (first | exact trivial | exact rfl | refine And.intro ?_ ?_ | (refine congrArg vI ?_; first | omega | (dsimp only; omega) | fail) | (refine congrArg some ?_) | omega | exact Nat.le_refl _ | exact congrArg (SV.lst _) (List.take_of_length_le (Nat.le_refl _)).symm))
            · conv => whnf
              repeat' (first | (refine tell (fun htest => ?_) (fun htest => ?_) <;> (try dsimp only at htest) <;> first | (exfalso; omega) | (exact absurd rfl htest) | (exact absurd (by decide) htest) | (conv => whnf)) | (refine allG (x := us) (by first | exact hus | simpa [List.getElem?_append_right, lowOf] using hus | fail) ?_; conv => whnf) | (refine allLst (x := us) (by first | omega | assumption | fail) (by first | exact hus | simpa using hus | fail) ?_; conv => whnf) | (refine allG (x := y) (by first | exact hy | simpa [List.getElem?_append_right, lowOf] using hy | fail) ?_; conv => whnf) | (refine allLst (x := y) (by first | omega | assumption | fail) (by first | exact hy | simpa using hy | fail) ?_; conv => whnf) | (refine allG rfl ?_; conv => whnf) | (refine And.intro (by first | omega | assumption | kernel_rfl | exact And.intro rfl rfl | ((try dsimp only [inR, idx, lowOf]); first | omega | (with_reducible decide) | (simp; omega) | (simp; done) | fail) | fail) ?_; conv => whnf) | fail)
              refine ⟨k + 1, [], hkl, ?_, rfl, ?_, ?_, rfl⟩
              · dsimp only; first | omega | (simp; done) | (simp; omega)
              all_goals (repeat' (first | exact trivial | exact rfl | refine And.intro ?_ ?_ | (refine congrArg vI ?_; first | omega | (dsimp only; omega) | fail) | (refine congrArg some ?_) | omega | exact Nat.le_refl _ | exact congrArg (SV.lst _) (List.take_of_length_le (Nat.le_refl _)).symm))
        · conv => whnf
          repeat' (first | (refine tell (fun htest => ?_) (fun htest => ?_) <;> (try dsimp only at htest) <;> first | (exfalso; omega) | (exact absurd rfl htest) | (exact absurd (by decide) htest) | (conv => whnf)) | (refine allG (x := us) (by first | exact hus | simpa [List.getElem?_append_right, lowOf] using hus | fail) ?_; conv => whnf) | (refine allLst (x := us) (by first | omega | assumption | fail) (by first | exact hus | simpa using hus | fail) ?_; conv => whnf) | (refine allG rfl ?_; conv => whnf) | (refine And.intro (by first | omega | assumption | kernel_rfl | exact And.intro rfl rfl | ((try dsimp only [inR, idx, lowOf]); first | omega | (with_reducible decide) | (simp; omega) | (simp; done) | fail) | fail) ?_; conv => whnf) | fail)
          refine ⟨j + 1, [], ⟨by omega, hjl⟩, ?_, rfl, ?_, ?_, rfl⟩
          · dsimp only; first | omega | (simp; done) | (simp; omega)
          all_goals (repeat' (first | exact trivial | exact rfl | refine And.intro ?_ ?_ | (refine congrArg vI ?_; first | omega | (dsimp only; omega) | fail) | (refine congrArg some ?_) | omega | exact Nat.le_refl _ | exact congrArg (SV.lst _) (List.take_of_length_le (Nat.le_refl _)).symm))
      · conv => whnf
        repeat' (first | (refine tell (fun htest => ?_) (fun htest => ?_) <;> (try dsimp only at htest) <;> first | (exfalso; omega) | (exact absurd rfl htest) | (exact absurd (by decide) htest) | (conv => whnf)) | (refine allG rfl ?_; conv => whnf) | (refine And.intro (by first | omega | assumption | kernel_rfl | exact And.intro rfl rfl | ((try dsimp only [inR, idx, lowOf]); first | omega | (with_reducible decide) | (simp; omega) | (simp; done) | fail) | fail) ?_; conv => whnf) | fail)
        refine ⟨i + 1, [], hlt, ?_, rfl, ?_, ?_, rfl⟩
        · dsimp only; first | omega | (simp; done) | (simp; omega)
        all_goals (repeat' (first | exact trivial | exact rfl | refine And.intro ?_ ?_ | (refine congrArg vI ?_; first | omega | (dsimp only; omega) | fail) | (refine congrArg some ?_) | omega | exact Nat.le_refl _ | exact congrArg (SV.lst _) (List.take_of_length_le (Nat.le_refl _)).symm))
    · conv => whnf
      repeat' (first | (refine tell (fun htest => ?_) (fun htest => ?_) <;> (try dsimp only at htest) <;> first | (exfalso; omega) | (exact absurd rfl htest) | (exact absurd (by decide) htest) | (conv => whnf)) | (refine allG rfl ?_; conv => whnf) | (refine And.intro (by first | omega | assumption | kernel_rfl | exact And.intro rfl rfl | ((try dsimp only [inR, idx, lowOf]); first | omega | (with_reducible decide) | (simp; omega) | (simp; done) | fail) | fail) ?_; conv => whnf) | fail)
      have hxl := hcs xs (List.mem_of_getElem? hxs)
      have hyl := hcs ys (List.mem_of_getElem? hys)
      conv => whnf
      repeat' (first | (refine tell (fun htest => ?_) (fun htest => ?_) <;> (try dsimp only at htest) <;> first | (exfalso; omega) | (exact absurd rfl htest) | (exact absurd (by decide) htest) | (conv => whnf)) | (refine allG (x := xs) (by first | exact hxs | simpa [List.getElem?_append_right, lowOf] using hxs | fail) ?_; conv => whnf) | (refine allLst (x := xs) (by first | omega | assumption | fail) (by first | exact hxs | simpa using hxs | fail) ?_; conv => whnf) | (refine allG rfl ?_; conv => whnf) | (refine And.intro (by first | omega | assumption | kernel_rfl | exact And.intro rfl rfl | ((try dsimp only [inR, idx, lowOf]); first | omega | (with_reducible decide) | (simp; omega) | (simp; done) | fail) | fail) ?_; conv => whnf) | fail)
      refine ⟨_, m_has21, (xs, px), [], false, ?_⟩
      conv => whnf
      refine And.intro (vc0 (show xs.length ≤ 9223372036854775807 by omega) (by (repeat' (first | exact trivial | exact rfl | refine And.intro ?_ ?_ | (refine congrArg vI ?_; first | omega | (dsimp only; omega) | fail) | (refine congrArg some ?_) | omega | exact Nat.le_refl _ | exact congrArg (SV.lst _) (List.take_of_length_le (Nat.le_refl _)).symm))) (by repeat' (first | exact trivial | exact rfl | refine And.intro ?_ ?_ | (refine congrArg vI ?_; first | omega | (dsimp only; omega) | fail) | (refine congrArg some ?_) | omega | exact Nat.le_refl _ | exact congrArg (SV.lst _) (List.take_of_length_le (Nat.le_refl _)).symm)) trivial trivial) ?_
      refine And.intro (has21_ex _ _) ?_
      intro (q : Bool) (hq : q = true ↔ px ∈ xs)
      have hobt := hq.2 (mem_comm.1 hx).1
      obtain rfl := hobt
      conv => whnf
      repeat' (first | (refine tell (fun htest => ?_) (fun htest => ?_) <;> (try dsimp only at htest) <;> first | (exfalso; omega) | (exact absurd rfl htest) | (exact absurd (by decide) htest) | (conv => whnf)) | (refine allG (x := ys) (by first | exact hys | simpa [List.getElem?_append_right, lowOf] using hys | fail) ?_; conv => whnf) | (refine allLst (x := ys) (by first | omega | assumption | fail) (by first | exact hys | simpa using hys | fail) ?_; conv => whnf) | (refine allG rfl ?_; conv => whnf) | (refine And.intro (by first | omega | assumption | kernel_rfl | exact And.intro rfl rfl | ((try dsimp only [inR, idx, lowOf]); first | omega | (with_reducible decide) | (simp; omega) | (simp; done) | fail) | fail) ?_; conv => whnf) | fail)
      refine ⟨_, m_has21, (ys, px), [], false, ?_⟩
      conv => whnf
      refine And.intro (vc0 (show ys.length ≤ 9223372036854775807 by omega) (by (repeat' (first | exact trivial | exact rfl | refine And.intro ?_ ?_ | (refine congrArg vI ?_; first | omega | (dsimp only; omega) | fail) | (refine congrArg some ?_) | omega | exact Nat.le_refl _ | exact congrArg (SV.lst _) (List.take_of_length_le (Nat.le_refl _)).symm))) (by repeat' (first | exact trivial | exact rfl | refine And.intro ?_ ?_ | (refine congrArg vI ?_; first | omega | (dsimp only; omega) | fail) | (refine congrArg some ?_) | omega | exact Nat.le_refl _ | exact congrArg (SV.lst _) (List.take_of_length_le (Nat.le_refl _)).symm)) trivial trivial) ?_
      refine And.intro (has21_ex _ _) ?_
      intro (q : Bool) (hq : q = true ↔ px ∈ ys)
      have hobt := hq.2 (mem_comm.1 hx).2
      obtain rfl := hobt
      conv => whnf
      repeat' (first | (refine tell (fun htest => ?_) (fun htest => ?_) <;> (try dsimp only at htest) <;> first | (exfalso; omega) | (exact absurd rfl htest) | (exact absurd (by decide) htest) | (conv => whnf)) | (refine allG rfl ?_; conv => whnf) | (refine And.intro (by first | omega | assumption | kernel_rfl | exact And.intro rfl rfl | ((try dsimp only [inR, idx, lowOf]); first | omega | (with_reducible decide) | (simp; omega) | (simp; done) | fail) | fail) ?_; conv => whnf) | fail)
      exact ⟨(), [], trivial, rfl, trivial, trivial⟩
end Go.Sx


/-
  Layer 21, part G: TraceKinds, over what awake tells.
-/
namespace Go.Sx
open Go Go.Proofs Go.Proofs.YtmogappoadglgaaDoor
theorem m_pick21 : Meets Tryd.prog regF 35 spPick := by
  refine meets Tryd.func35 13 noWr rfl (by kernel_rfl) (by kernel_rfl) ?_
  rintro ⟨(c : Int), (n : Int)⟩ ⟨⟨hc1, hc2⟩, (hn : 0 < n)⟩
  conv => whnf
  repeat' (first | (refine tell (fun htest => ?_) (fun htest => ?_) <;> (try dsimp only at htest) <;> first | (exfalso; omega) | (exact absurd rfl htest) | (exact absurd (by decide) htest) | (conv => whnf)) | (refine allG rfl ?_; conv => whnf) | (refine And.intro (by first | omega | assumption | kernel_rfl | exact And.intro rfl rfl | ((try dsimp only [inR, idx, lowOf]); first | omega | (with_reducible decide) | (simp; omega) | (simp; done) | fail) | fail) ?_; conv => whnf) | fail)
  all_goals exact ⟨(), [], trivial, eI (by unfold pickF; first | rw [if_pos (by assumption)] | rw [if_neg (by assumption)]), trivial, trivial⟩
/-- C, C+1, .. -/
def upF (c : Int) (n : Nat) : List Int := (List.range n).map fun (i : Nat) => c + (i : Int)
theorem upF_succ (c : Int) (n : Nat) : upF c (n + 1) = upF c n ++ [c + (n : Int)] := by unfold upF; rw [List.range_succ, List.map_append]; rfl
theorem upF_len (c : Int) (n : Nat) : (upF c n).length = n := by simp [upF]
theorem upF_get (c : Int) (n i : Nat) (h : i < n) : (upF c n)[i]? = some (c + (i : Int)) := by simp [upF, h]
theorem kind_same (a : List Int) : kindF a a = 1 := if_pos rfl
theorem kind_tail {a : List Int} (h : 1 < a.length) : kindF a (a.drop 1) = 2 := by
  unfold kindF
  rw [if_neg (fun e => by have := congrArg List.length e; simp at this; omega), if_pos ⟨h, rfl⟩]
theorem kind_more {a b : List Int} (h : a <+: b) (hl : a.length < b.length) : kindF a b = 3 := by
  unfold kindF
  rw [if_neg (fun e => by rw [e] at hl; omega), if_neg (fun e => by have := congrArg List.length e.2; simp at this; omega), if_pos h]
theorem kind_first {a b : List Int} (h : b <+: a) (hb : b.length = 1) (hl : 2 < a.length) : kindF a b = 4 := by
  unfold kindF
  rw [if_neg (fun e => by rw [e] at hl; omega), if_neg (fun e => by have := congrArg List.length e.2; simp at this; omega), if_neg (fun e => by have := e.length_le; omega), if_pos ⟨hb, h⟩]
theorem kind_none {a b : List Int} (h1 : a ≠ b) (h2 : a.drop 1 ≠ b) (h3 : b.length < a.length) (h4 : ¬ (b.length = 1 ∧ b <+: a)) : kindF a b = 0 := by
  unfold kindF
  rw [if_neg h1, if_neg (fun e => h2 e.2), if_neg (fun e => by have := e.length_le; omega), if_neg h4]
theorem two_cons {l : List Int} {x y : Int} (h0 : l[0]? = some x) (h1 : l[1]? = some y) : ∃ r, l = x :: y :: r := by
  match l, h0, h1 with
  | p :: q :: r, h0, h1 => cases h0; cases h1; exact ⟨r, rfl⟩
theorem kB {x y z : Int} {r : List Int} (h : x ≠ y) : kindF ((x :: y :: r) ++ [z]) (x :: y :: r) = 0 :=
  kind_none (fun e => by have := congrArg List.length e; simp at this) (fun e => by simp at e; exact h e.1.symm) (by simp) (fun e => by simp at e)
theorem kC {x y : Int} {r : List Int} (hr : 0 < r.length) : kindF (x :: y :: r) [x] = 4 :=
  kind_first ⟨y :: r, rfl⟩ rfl (by simp; omega)
theorem kD {x y : Int} {r : List Int} (h : x ≠ y) (hr : 0 < r.length) : kindF (x :: y :: r) [y] = 0 :=
  kind_none (fun e => by cases e) (fun e => by simp at e; rw [e] at hr; cases hr) (by simp) (fun e => by obtain ⟨_, t, ht⟩ := e; simp at ht; exact h ht.1.symm)
theorem kE {x y : Int} {r : List Int} : kindF (x :: y :: r) [] = 0 :=
  kind_none (fun e => by cases e) (fun e => by cases e) (by simp) (fun e => by cases e.1)
theorem kF {x y : Int} {r : List Int} : kindF [] (x :: y :: r) = 3 := kind_more ⟨_, rfl⟩ (by simp)
set_option maxHeartbeats 3200000 in
theorem m_kindsR (hA : Meets Tryd.prog regF 32 spAwake) : Meets Tryd.prog regF 9 (spLaw (fun g : Int × Int => [vI g.1, vI g.2]) (fun g => InI g.1 ∧ InI g.2)) := by
  refine meets Tryd.func9 93 noWr rfl (by kernel_rfl) (by kernel_rfl) ?_
  rintro ⟨(a : Int), (b : Int)⟩ ⟨(ha : InI a), (hb : InI b)⟩
  have h18 := pickF_bd (c := a) (n := 18) (by decide)
  have hC := pickF_bd (c := b) (n := 1000) (by decide)
  have hobt : ∃ N : Nat, (N : Int) = 3 + pickF a 18 := ⟨(3 + pickF a 18).toNat, by omega⟩
  obtain ⟨N, hN⟩ := hobt
  conv => whnf
  repeat' (first | (refine tell (fun htest => ?_) (fun htest => ?_) <;> (try dsimp only at htest) <;> first | (exfalso; omega) | (exact absurd rfl htest) | (exact absurd (by decide) htest) | (conv => whnf)) | (refine allG rfl ?_; conv => whnf) | (refine And.intro (by first | omega | assumption | kernel_rfl | exact And.intro rfl rfl | ((try dsimp only [inR, idx, lowOf]); first | omega | (with_reducible decide) | (simp; omega) | (simp; done) | fail) | fail) ?_; conv => whnf) | fail)
  refine ⟨_, hA, (), [], false, ?_⟩
  conv => whnf
  refine And.intro (vc0 trivial (by (repeat' (first | exact trivial | exact rfl | refine And.intro ?_ ?_ | (refine congrArg vI ?_; first | omega | (dsimp only; omega) | fail) | (refine congrArg some ?_) | omega | exact Nat.le_refl _ | exact congrArg (SV.lst _) (List.take_of_length_le (Nat.le_refl _)).symm))) (by repeat' (first | exact trivial | exact rfl | refine And.intro ?_ ?_ | (refine congrArg vI ?_; first | omega | (dsimp only; omega) | fail) | (refine congrArg some ?_) | omega | exact Nat.le_refl _ | exact congrArg (SV.lst _) (List.take_of_length_le (Nat.le_refl _)).symm)) trivial trivial) ?_
  refine And.intro ⟨(), trivial⟩ (fun (_ : Unit) _ => ?_)
  conv => whnf
  conv => whnf
  repeat' (first | (refine tell (fun htest => ?_) (fun htest => ?_) <;> (try dsimp only at htest) <;> first | (exfalso; omega) | (exact absurd rfl htest) | (exact absurd (by decide) htest) | (conv => whnf)) | (refine allG rfl ?_; conv => whnf) | (refine And.intro (by first | omega | assumption | kernel_rfl | exact And.intro rfl rfl | ((try dsimp only [inR, idx, lowOf]); first | omega | (with_reducible decide) | (simp; omega) | (simp; done) | fail) | fail) ?_; conv => whnf) | fail)
  refine ⟨_, m_pick21, (a, 18), [], false, ?_⟩
  conv => whnf
  refine And.intro (vc0 ⟨ha, (by decide : (0 : Int) < 18)⟩ (by (repeat' (first | exact trivial | exact rfl | refine And.intro ?_ ?_ | (refine congrArg vI ?_; first | omega | (dsimp only; omega) | fail) | (refine congrArg some ?_) | omega | exact Nat.le_refl _ | exact congrArg (SV.lst _) (List.take_of_length_le (Nat.le_refl _)).symm))) (by repeat' (first | exact trivial | exact rfl | refine And.intro ?_ ?_ | (refine congrArg vI ?_; first | omega | (dsimp only; omega) | fail) | (refine congrArg some ?_) | omega | exact Nat.le_refl _ | exact congrArg (SV.lst _) (List.take_of_length_le (Nat.le_refl _)).symm)) trivial trivial) ?_
  refine And.intro ⟨(), trivial⟩ (fun (_ : Unit) _ => ?_)
  conv => whnf
  conv => whnf
  repeat' (first | (refine tell (fun htest => ?_) (fun htest => ?_) <;> (try dsimp only at htest) <;> first | (exfalso; omega) | (exact absurd rfl htest) | (exact absurd (by decide) htest) | (conv => whnf)) | (refine allG rfl ?_; conv => whnf) | (refine And.intro (by first | omega | assumption | kernel_rfl | exact And.intro rfl rfl | ((try dsimp only [inR, idx, lowOf]); first | omega | (with_reducible decide) | (simp; omega) | (simp; done) | fail) | fail) ?_; conv => whnf) | fail)
  refine ⟨_, m_pick21, (b, 1000), [], false, ?_⟩
  conv => whnf
  refine And.intro (vc0 ⟨hb, (by decide : (0 : Int) < 1000)⟩ (by (repeat' (first | exact trivial | exact rfl | refine And.intro ?_ ?_ | (refine congrArg vI ?_; first | omega | (dsimp only; omega) | fail) | (refine congrArg some ?_) | omega | exact Nat.le_refl _ | exact congrArg (SV.lst _) (List.take_of_length_le (Nat.le_refl _)).symm))) (by repeat' (first | exact trivial | exact rfl | refine And.intro ?_ ?_ | (refine congrArg vI ?_; first | omega | (dsimp only; omega) | fail) | (refine congrArg some ?_) | omega | exact Nat.le_refl _ | exact congrArg (SV.lst _) (List.take_of_length_le (Nat.le_refl _)).symm)) trivial trivial) ?_
  refine And.intro ⟨(), trivial⟩ (fun (_ : Unit) _ => ?_)
  conv => whnf
  conv => whnf
  repeat' (first | (refine tell (fun htest => ?_) (fun htest => ?_) <;> (try dsimp only at htest) <;> first | (exfalso; omega) | (exact absurd rfl htest) | (exact absurd (by decide) htest) | (conv => whnf)) | (refine allG rfl ?_; conv => whnf) | (refine And.intro (by first | omega | assumption | kernel_rfl | exact And.intro rfl rfl | ((try dsimp only [inR, idx, lowOf]); first | omega | (with_reducible decide) | (simp; omega) | (simp; done) | fail) | fail) ?_; conv => whnf) | fail)
  refine ⟨Nat, fun i => ⟨[(5, vB true), (6, vI N), (7, vI (pickF b 1000)), (8, .sl 3000 1 0 i), (9, vI i)], [(3000, .arr 3 (upF (pickF b 1000) i))]⟩, fun i => i ≤ N, fun i => N - i, fun _ _ => rfl, ⟨0, [], Nat.zero_le _, ?_⟩, ?_⟩
  · refine ⟨rfl, ?_, ?_, rfl⟩
    all_goals (repeat' (first | exact trivial | exact rfl | refine And.intro ?_ ?_ | (refine congrArg vI ?_; first | omega | (dsimp only; omega) | fail) | (refine congrArg some ?_) | omega | exact Nat.le_refl _ | exact congrArg (SV.lst _) (List.take_of_length_le (Nat.le_refl _)).symm))
  rintro (i : Nat) (hi : i ≤ N)
  have hli := upF_len (pickF b 1000) i
  have hsu := upF_succ (pickF b 1000) i
  by_cases hlt : i < N
  · conv => whnf
    repeat' (first | (refine tell (fun htest => ?_) (fun htest => ?_) <;> (try dsimp only at htest) <;> first | (exfalso; omega) | (exact absurd rfl htest) | (exact absurd (by decide) htest) | (conv => whnf)) | (refine allG rfl ?_; conv => whnf) | (refine And.intro (by first | omega | assumption | kernel_rfl | exact And.intro rfl rfl | ((try dsimp only [inR, idx, lowOf]); first | omega | (with_reducible decide) | (simp; omega) | (simp; done) | fail) | fail) ?_; conv => whnf) | fail)
    refine ⟨i + 1, [(3000, 1028)], hlt, ?_, rfl, ?_, ?_, rfl⟩
    · dsimp only; first | omega | (simp; done) | (simp; omega)
    all_goals (repeat' (first | exact trivial | exact rfl | refine And.intro ?_ ?_ | (refine congrArg vI ?_; first | omega | (dsimp only; omega) | fail) | (refine congrArg some ?_) | omega | exact Nat.le_refl _ | exact congrArg (SV.lst _) (List.take_of_length_le (Nat.le_refl _)).symm))
    exact congrArg (Ct.arr (A := AF) 3) (show ((upF (pickF b 1000) i).drop 0).take i ++ [pickF b 1000 + (i : Int)] = upF (pickF b 1000) (i + 1) by rw [hsu, List.drop_zero, List.take_of_length_le (by omega)])
  · have hiN : i = N := by omega
    subst hiN
    have hx0 := upF_get (pickF b 1000) i 0 (by omega)
    have hx1 := upF_get (pickF b 1000) i 1 (by omega)
    conv => whnf
    repeat' (first | (refine tell (fun htest => ?_) (fun htest => ?_) <;> (try dsimp only at htest) <;> first | (exfalso; omega) | (exact absurd rfl htest) | (exact absurd (by decide) htest) | (conv => whnf)) | (refine allG rfl ?_; conv => whnf) | (refine And.intro (by first | omega | assumption | kernel_rfl | exact And.intro rfl rfl | ((try dsimp only [inR, idx, lowOf]); first | omega | (with_reducible decide) | (simp; omega) | (simp; done) | fail) | fail) ?_; conv => whnf) | fail)
    refine ⟨Nat, fun j => ⟨[(5, vB true), (6, vI i), (7, vI (pickF b 1000)), (8, .sl 3000 1 0 i), (10, vI j)], [(3000, .arr 3 ((upF (pickF b 1000) i)))]⟩, fun j => j + 1 ≤ i, fun j => i - j, fun _ _ => rfl, ⟨0, [], (show 0 + 1 ≤ i by omega), ?_⟩, ?_⟩
    · refine ⟨rfl, ?_, ?_, rfl⟩
      all_goals (repeat' (first | exact trivial | exact rfl | refine And.intro ?_ ?_ | (refine congrArg vI ?_; first | omega | (dsimp only; omega) | fail) | (refine congrArg some ?_) | omega | exact Nat.le_refl _ | exact congrArg (SV.lst _) (List.take_of_length_le (Nat.le_refl _)).symm))
    rintro (j : Nat) (hj : j + 1 ≤ i)
    by_cases hjl : j + 1 < i
    · have hk2 : kindF (((((upF (pickF b 1000) i)).drop (0 + j)).take (i - j))) (((((upF (pickF b 1000) i)).drop (0 + (j + 1))).take (i - (j + 1)))) = 2 := by
        rw [List.take_of_length_le (by rw [List.length_drop]; omega), List.take_of_length_le (by rw [List.length_drop]; omega), Nat.zero_add, Nat.zero_add, ← List.drop_drop]
        exact kind_tail (by rw [List.length_drop]; omega)
      conv => whnf
      repeat' (first | (refine tell (fun htest => ?_) (fun htest => ?_) <;> (try dsimp only at htest) <;> first | (exfalso; omega) | (exact absurd rfl htest) | (exact absurd (by decide) htest) | (conv => whnf)) | (refine allG rfl ?_; conv => whnf) | (refine And.intro (by first | omega | assumption | kernel_rfl | exact And.intro rfl rfl | ((try dsimp only [inR, idx, lowOf]); first | omega | (with_reducible decide) | (simp; omega) | (simp; done) | fail) | fail) ?_; conv => whnf) | fail)
      refine ⟨_, m_kind, ((((((upF (pickF b 1000) i)).drop (0 + j)).take (i - j))), (((((upF (pickF b 1000) i)).drop (0 + (j + 1))).take (i - (j + 1))))), [], true, ?_⟩
      conv => whnf
      refine And.intro (vc0 ⟨(show (((((upF (pickF b 1000) i)).drop (0 + j)).take (i - j))).length ≤ 9223372036854775807 by rw [List.length_take]; omega), (show (((((upF (pickF b 1000) i)).drop (0 + (j + 1))).take (i - (j + 1)))).length ≤ 9223372036854775807 by rw [List.length_take]; omega)⟩ (by (repeat' (first | exact trivial | exact rfl | refine And.intro ?_ ?_ | (refine congrArg vI ?_; first | omega | (dsimp only; omega) | fail) | (refine congrArg some ?_) | omega | exact Nat.le_refl _ | exact congrArg (SV.lst _) (List.take_of_length_le (Nat.le_refl _)).symm)); all_goals (first | (show 0 + j + (i - j) ≤ ((upF (pickF b 1000) i)).length; omega) | (show 0 + (j + 1) + (i - (j + 1)) ≤ ((upF (pickF b 1000) i)).length; omega) | fail)) (by repeat' (first | exact trivial | exact rfl | refine And.intro ?_ ?_ | (refine congrArg vI ?_; first | omega | (dsimp only; omega) | fail) | (refine congrArg some ?_) | omega | exact Nat.le_refl _ | exact congrArg (SV.lst _) (List.take_of_length_le (Nat.le_refl _)).symm)) trivial (.inr (fun _ => ⟨rfl, fun h ct he => by rcases h with _ | _ | h <;> first | (cases he; done) | (cases he; rfl)⟩))) ?_
      refine And.intro ⟨(), trivial⟩ (fun (_ : Unit) _ => ?_)
      conv => whnf
      skip
      conv => whnf
      repeat' (first | (refine tell (fun htest => ?_) (fun htest => ?_) <;> (try dsimp only at htest) <;> first | (exfalso; omega) | (exact absurd rfl htest) | (exact absurd (by decide) htest) | (conv => whnf)) | (refine allG rfl ?_; conv => whnf) | (refine And.intro (by first | omega | assumption | kernel_rfl | exact And.intro rfl rfl | ((try dsimp only [inR, idx, lowOf]); first | omega | (with_reducible decide) | (simp; omega) | (simp; done) | fail) | fail) ?_; conv => whnf) | fail)
      refine ⟨j + 1, [], (by omega), ?_, rfl, ?_, ?_, rfl⟩
      · dsimp only; first | omega | (simp; done) | (simp; omega)
      all_goals (repeat' (first | exact trivial | exact rfl | refine And.intro ?_ ?_ | (refine congrArg vI ?_; first | omega | (dsimp only; omega) | fail) | (refine congrArg some ?_) | omega | exact Nat.le_refl _ | exact congrArg (SV.lst _) (List.take_of_length_le (Nat.le_refl _)).symm))
    · have hL0 : (((((upF (pickF b 1000) i)).drop 0).take i)) = ((upF (pickF b 1000) i)) := by rw [List.drop_zero, List.take_of_length_le (by omega)]
      have hLl : (((((upF (pickF b 1000) i)).drop 0).take i)).length = i := by rw [hL0]; exact hli
      have hk1 : kindF (((((upF (pickF b 1000) i)).drop 0).take i)) (((((upF (pickF b 1000) i)).drop 0).take i)) = 1 := kind_same _
      conv => whnf
      repeat' (first | (refine tell (fun htest => ?_) (fun htest => ?_) <;> (try dsimp only at htest) <;> first | (exfalso; omega) | (exact absurd rfl htest) | (exact absurd (by decide) htest) | (conv => whnf)) | (refine allG rfl ?_; conv => whnf) | (refine And.intro (by first | omega | assumption | kernel_rfl | exact And.intro rfl rfl | ((try dsimp only [inR, idx, lowOf]); first | omega | (with_reducible decide) | (simp; omega) | (simp; done) | fail) | fail) ?_; conv => whnf) | fail)
      refine ⟨_, m_kind, ((((((upF (pickF b 1000) i)).drop 0).take i)), (((((upF (pickF b 1000) i)).drop 0).take i))), [], true, ?_⟩
      conv => whnf
      refine And.intro (vc0 ⟨(show (((((upF (pickF b 1000) i)).drop 0).take i)).length ≤ 9223372036854775807 by omega), (show (((((upF (pickF b 1000) i)).drop 0).take i)).length ≤ 9223372036854775807 by omega)⟩ (by (repeat' (first | exact trivial | exact rfl | refine And.intro ?_ ?_ | (refine congrArg vI ?_; first | omega | (dsimp only; omega) | fail) | (refine congrArg some ?_) | omega | exact Nat.le_refl _ | exact congrArg (SV.lst _) (List.take_of_length_le (Nat.le_refl _)).symm)); all_goals (first | (show 0 + i ≤ ((upF (pickF b 1000) i)).length; omega) | fail)) (by repeat' (first | exact trivial | exact rfl | refine And.intro ?_ ?_ | (refine congrArg vI ?_; first | omega | (dsimp only; omega) | fail) | (refine congrArg some ?_) | omega | exact Nat.le_refl _ | exact congrArg (SV.lst _) (List.take_of_length_le (Nat.le_refl _)).symm)) trivial (.inr (fun _ => ⟨rfl, fun h ct he => by rcases h with _ | _ | h <;> first | (cases he; done) | (cases he; rfl)⟩))) ?_
      refine And.intro ⟨(), trivial⟩ (fun (_ : Unit) _ => ?_)
      conv => whnf
      have hm : ((((((upF (pickF b 1000) i)).drop 0).take i)).drop 0).take i = ((upF (pickF b 1000) i)) := by rw [hL0, List.drop_zero, List.take_of_length_le (by omega)]
      have hY : (((((((((((upF (pickF b 1000) i)).drop 0).take i)).drop 0).take i ++ (([((pickF b 1000)) - 1] : List Int).drop 0).take 1)).drop 0).take (i + 1))) = ((upF (pickF b 1000) i)) ++ [((pickF b 1000)) - 1] := by rw [hm, List.drop_zero, List.take_of_length_le (by rw [List.length_append, hli]; exact Nat.le_refl _)]; rfl
      have hYY : ((((((((upF (pickF b 1000) i)).drop 0).take i)).drop 0).take i ++ (([((pickF b 1000)) - 1] : List Int).drop 0).take 1)).length = i + 1 := by rw [hm, List.length_append, hli]; rfl
      have hYl : (((((((((((upF (pickF b 1000) i)).drop 0).take i)).drop 0).take i ++ (([((pickF b 1000)) - 1] : List Int).drop 0).take 1)).drop 0).take (i + 1))).length = i + 1 := by rw [hY, List.length_append, hli]; rfl
      have hobt := two_cons hx0 hx1
      obtain ⟨r, hX⟩ := hobt
      have hrl : 0 < r.length := by have h := hli; rw [hX] at h; simp at h; omega
      have hne : (((pickF b 1000)) + ((0 : Nat) : Int)) ≠ ((pickF b 1000)) + ((1 : Nat) : Int) := by omega
      have hT1 : (((((upF (pickF b 1000) i)).drop 0).take 1)) = [((pickF b 1000)) + ((0 : Nat) : Int)] := by rw [hX]; rfl
      have hT2 : (((((upF (pickF b 1000) i)).drop 1).take 1)) = [((pickF b 1000)) + ((1 : Nat) : Int)] := by rw [hX]; rfl
      have f2 : kindF (((((upF (pickF b 1000) i)).drop 0).take i)) (((((((((((upF (pickF b 1000) i)).drop 0).take i)).drop 0).take i ++ (([((pickF b 1000)) - 1] : List Int).drop 0).take 1)).drop 0).take (i + 1))) = 3 := by rw [hY, hL0]; exact kind_more ⟨_, rfl⟩ (by simp)
      have f3 : kindF (((((((((((upF (pickF b 1000) i)).drop 0).take i)).drop 0).take i ++ (([((pickF b 1000)) - 1] : List Int).drop 0).take 1)).drop 0).take (i + 1))) (((((upF (pickF b 1000) i)).drop 0).take i)) = 0 := by rw [hY, hL0, hX]; exact kB hne
      have f4 : kindF (((((upF (pickF b 1000) i)).drop 0).take i)) (((((upF (pickF b 1000) i)).drop 0).take 1)) = 4 := by rw [hT1, hL0, hX]; exact kC hrl
      have f5 : kindF (((((upF (pickF b 1000) i)).drop 0).take i)) (((((upF (pickF b 1000) i)).drop 1).take 1)) = 0 := by rw [hT2, hL0, hX]; exact kD hne hrl
      have f6 : kindF (((((upF (pickF b 1000) i)).drop 0).take i)) [] = 0 := by rw [hL0, hX]; exact kE
      have f7 : kindF [] (((((upF (pickF b 1000) i)).drop 0).take i)) = 3 := by rw [hL0, hX]; exact kF
      clear hX hY hT1 hT2 hm
      have l1 : (((((upF (pickF b 1000) i)).drop 0).take 1)).length ≤ 1 := List.length_take_le _ _
      have l2 : (((((upF (pickF b 1000) i)).drop 1).take 1)).length ≤ 1 := List.length_take_le _ _
      conv => whnf
      repeat' (first | (refine tell (fun htest => ?_) (fun htest => ?_) <;> (try dsimp only at htest) <;> first | (exfalso; omega) | (exact absurd rfl htest) | (exact absurd (by decide) htest) | (conv => whnf)) | (refine allG rfl ?_; conv => whnf) | (refine And.intro (by first | omega | assumption | kernel_rfl | exact And.intro rfl rfl | ((try dsimp only [inR, idx, lowOf]); first | omega | (with_reducible decide) | (simp; omega) | (simp; done) | fail) | fail) ?_; conv => whnf) | fail)
      refine ⟨_, m_kind, ((((((upF (pickF b 1000) i)).drop 0).take i)), (((((((((((upF (pickF b 1000) i)).drop 0).take i)).drop 0).take i ++ (([((pickF b 1000)) - 1] : List Int).drop 0).take 1)).drop 0).take (i + 1)))), [], true, ?_⟩
      conv => whnf
      refine And.intro (vc0 ⟨(show (((((upF (pickF b 1000) i)).drop 0).take i)).length ≤ 9223372036854775807 by omega), (show (((((((((((upF (pickF b 1000) i)).drop 0).take i)).drop 0).take i ++ (([((pickF b 1000)) - 1] : List Int).drop 0).take 1)).drop 0).take (i + 1))).length ≤ 9223372036854775807 by omega)⟩ (by (repeat' (first | exact trivial | exact rfl | refine And.intro ?_ ?_ | (refine congrArg vI ?_; first | omega | (dsimp only; omega) | fail) | (refine congrArg some ?_) | omega | exact Nat.le_refl _ | exact congrArg (SV.lst _) (List.take_of_length_le (Nat.le_refl _)).symm)); all_goals (first | (show 0 + i ≤ ((upF (pickF b 1000) i)).length; omega) | (show 0 + (i + 1) ≤ ((((((((upF (pickF b 1000) i)).drop 0).take i)).drop 0).take i ++ (([((pickF b 1000)) - 1] : List Int).drop 0).take 1)).length; omega) | fail)) (by repeat' (first | exact trivial | exact rfl | refine And.intro ?_ ?_ | (refine congrArg vI ?_; first | omega | (dsimp only; omega) | fail) | (refine congrArg some ?_) | omega | exact Nat.le_refl _ | exact congrArg (SV.lst _) (List.take_of_length_le (Nat.le_refl _)).symm)) trivial (.inr (fun _ => ⟨rfl, fun h ct he => by rcases h with _ | _ | h <;> first | (cases he; done) | (cases he; rfl)⟩))) ?_
      refine And.intro ⟨(), trivial⟩ (fun (_ : Unit) _ => ?_)
      conv => whnf
      conv => whnf
      repeat' (first | (refine tell (fun htest => ?_) (fun htest => ?_) <;> (try dsimp only at htest) <;> first | (exfalso; omega) | (exact absurd rfl htest) | (exact absurd (by decide) htest) | (conv => whnf)) | (refine allG rfl ?_; conv => whnf) | (refine And.intro (by first | omega | assumption | kernel_rfl | exact And.intro rfl rfl | ((try dsimp only [inR, idx, lowOf]); first | omega | (with_reducible decide) | (simp; omega) | (simp; done) | fail) | fail) ?_; conv => whnf) | fail)
      refine ⟨_, m_kind, ((((((((((((upF (pickF b 1000) i)).drop 0).take i)).drop 0).take i ++ (([((pickF b 1000)) - 1] : List Int).drop 0).take 1)).drop 0).take (i + 1))), (((((upF (pickF b 1000) i)).drop 0).take i))), [], true, ?_⟩
      conv => whnf
      refine And.intro (vc0 ⟨(show (((((((((((upF (pickF b 1000) i)).drop 0).take i)).drop 0).take i ++ (([((pickF b 1000)) - 1] : List Int).drop 0).take 1)).drop 0).take (i + 1))).length ≤ 9223372036854775807 by omega), (show (((((upF (pickF b 1000) i)).drop 0).take i)).length ≤ 9223372036854775807 by omega)⟩ (by (repeat' (first | exact trivial | exact rfl | refine And.intro ?_ ?_ | (refine congrArg vI ?_; first | omega | (dsimp only; omega) | fail) | (refine congrArg some ?_) | omega | exact Nat.le_refl _ | exact congrArg (SV.lst _) (List.take_of_length_le (Nat.le_refl _)).symm)); all_goals (first | (show 0 + i ≤ ((upF (pickF b 1000) i)).length; omega) | (show 0 + (i + 1) ≤ ((((((((upF (pickF b 1000) i)).drop 0).take i)).drop 0).take i ++ (([((pickF b 1000)) - 1] : List Int).drop 0).take 1)).length; omega) | fail)) (by repeat' (first | exact trivial | exact rfl | refine And.intro ?_ ?_ | (refine congrArg vI ?_; first | omega | (dsimp only; omega) | fail) | (refine congrArg some ?_) | omega | exact Nat.le_refl _ | exact congrArg (SV.lst _) (List.take_of_length_le (Nat.le_refl _)).symm)) trivial (.inr (fun _ => ⟨rfl, fun h ct he => by rcases h with _ | _ | h <;> first | (cases he; done) | (cases he; rfl)⟩))) ?_
      refine And.intro ⟨(), trivial⟩ (fun (_ : Unit) _ => ?_)
      conv => whnf
      conv => whnf
      repeat' (first | (refine tell (fun htest => ?_) (fun htest => ?_) <;> (try dsimp only at htest) <;> first | (exfalso; omega) | (exact absurd rfl htest) | (exact absurd (by decide) htest) | (conv => whnf)) | (refine allG rfl ?_; conv => whnf) | (refine And.intro (by first | omega | assumption | kernel_rfl | exact And.intro rfl rfl | ((try dsimp only [inR, idx, lowOf]); first | omega | (with_reducible decide) | (simp; omega) | (simp; done) | fail) | fail) ?_; conv => whnf) | fail)
      refine ⟨_, m_kind, ((((((upF (pickF b 1000) i)).drop 0).take i)), (((((upF (pickF b 1000) i)).drop 0).take 1))), [], true, ?_⟩
      conv => whnf
      refine And.intro (vc0 ⟨(show (((((upF (pickF b 1000) i)).drop 0).take i)).length ≤ 9223372036854775807 by omega), (show (((((upF (pickF b 1000) i)).drop 0).take 1)).length ≤ 9223372036854775807 by omega)⟩ (by (repeat' (first | exact trivial | exact rfl | refine And.intro ?_ ?_ | (refine congrArg vI ?_; first | omega | (dsimp only; omega) | fail) | (refine congrArg some ?_) | omega | exact Nat.le_refl _ | exact congrArg (SV.lst _) (List.take_of_length_le (Nat.le_refl _)).symm)); all_goals (first | (show 0 + i ≤ ((upF (pickF b 1000) i)).length; omega) | (show 0 + 1 ≤ ((upF (pickF b 1000) i)).length; omega) | fail)) (by repeat' (first | exact trivial | exact rfl | refine And.intro ?_ ?_ | (refine congrArg vI ?_; first | omega | (dsimp only; omega) | fail) | (refine congrArg some ?_) | omega | exact Nat.le_refl _ | exact congrArg (SV.lst _) (List.take_of_length_le (Nat.le_refl _)).symm)) trivial (.inr (fun _ => ⟨rfl, fun h ct he => by rcases h with _ | _ | h <;> first | (cases he; done) | (cases he; rfl)⟩))) ?_
      refine And.intro ⟨(), trivial⟩ (fun (_ : Unit) _ => ?_)
      conv => whnf
      conv => whnf
      repeat' (first | (refine tell (fun htest => ?_) (fun htest => ?_) <;> (try dsimp only at htest) <;> first | (exfalso; omega) | (exact absurd rfl htest) | (exact absurd (by decide) htest) | (conv => whnf)) | (refine allG rfl ?_; conv => whnf) | (refine And.intro (by first | omega | assumption | kernel_rfl | exact And.intro rfl rfl | ((try dsimp only [inR, idx, lowOf]); first | omega | (with_reducible decide) | (simp; omega) | (simp; done) | fail) | fail) ?_; conv => whnf) | fail)
      refine ⟨_, m_kind, ((((((upF (pickF b 1000) i)).drop 0).take i)), (((((upF (pickF b 1000) i)).drop 1).take 1))), [], true, ?_⟩
      conv => whnf
      refine And.intro (vc0 ⟨(show (((((upF (pickF b 1000) i)).drop 0).take i)).length ≤ 9223372036854775807 by omega), (show (((((upF (pickF b 1000) i)).drop 1).take 1)).length ≤ 9223372036854775807 by omega)⟩ (by (repeat' (first | exact trivial | exact rfl | refine And.intro ?_ ?_ | (refine congrArg vI ?_; first | omega | (dsimp only; omega) | fail) | (refine congrArg some ?_) | omega | exact Nat.le_refl _ | exact congrArg (SV.lst _) (List.take_of_length_le (Nat.le_refl _)).symm)); all_goals (first | (show 0 + i ≤ ((upF (pickF b 1000) i)).length; omega) | (show 0 + 1 + 1 ≤ ((upF (pickF b 1000) i)).length; omega) | fail)) (by repeat' (first | exact trivial | exact rfl | refine And.intro ?_ ?_ | (refine congrArg vI ?_; first | omega | (dsimp only; omega) | fail) | (refine congrArg some ?_) | omega | exact Nat.le_refl _ | exact congrArg (SV.lst _) (List.take_of_length_le (Nat.le_refl _)).symm)) trivial (.inr (fun _ => ⟨rfl, fun h ct he => by rcases h with _ | _ | h <;> first | (cases he; done) | (cases he; rfl)⟩))) ?_
      refine And.intro ⟨(), trivial⟩ (fun (_ : Unit) _ => ?_)
      conv => whnf
      conv => whnf
      repeat' (first | (refine tell (fun htest => ?_) (fun htest => ?_) <;> (try dsimp only at htest) <;> first | (exfalso; omega) | (exact absurd rfl htest) | (exact absurd (by decide) htest) | (conv => whnf)) | (refine allG rfl ?_; conv => whnf) | (refine And.intro (by first | omega | assumption | kernel_rfl | exact And.intro rfl rfl | ((try dsimp only [inR, idx, lowOf]); first | omega | (with_reducible decide) | (simp; omega) | (simp; done) | fail) | fail) ?_; conv => whnf) | fail)
      refine ⟨_, m_kind, ((((((upF (pickF b 1000) i)).drop 0).take i)), []), [], true, ?_⟩
      conv => whnf
      refine And.intro (vc0 ⟨(show (((((upF (pickF b 1000) i)).drop 0).take i)).length ≤ 9223372036854775807 by omega), (by simp)⟩ (by (repeat' (first | exact trivial | exact rfl | refine And.intro ?_ ?_ | (refine congrArg vI ?_; first | omega | (dsimp only; omega) | fail) | (refine congrArg some ?_) | omega | exact Nat.le_refl _ | exact congrArg (SV.lst _) (List.take_of_length_le (Nat.le_refl _)).symm)); all_goals (first | (show 0 + i ≤ ((upF (pickF b 1000) i)).length; omega) | fail)) (by repeat' (first | exact trivial | exact rfl | refine And.intro ?_ ?_ | (refine congrArg vI ?_; first | omega | (dsimp only; omega) | fail) | (refine congrArg some ?_) | omega | exact Nat.le_refl _ | exact congrArg (SV.lst _) (List.take_of_length_le (Nat.le_refl _)).symm)) trivial (.inr (fun _ => ⟨rfl, fun h ct he => by rcases h with _ | _ | h <;> first | (cases he; done) | (cases he; rfl)⟩))) ?_
      refine And.intro ⟨(), trivial⟩ (fun (_ : Unit) _ => ?_)
      conv => whnf
      conv => whnf
      repeat' (first | (refine tell (fun htest => ?_) (fun htest => ?_) <;> (try dsimp only at htest) <;> first | (exfalso; omega) | (exact absurd rfl htest) | (exact absurd (by decide) htest) | (conv => whnf)) | (refine allG rfl ?_; conv => whnf) | (refine And.intro (by first | omega | assumption | kernel_rfl | exact And.intro rfl rfl | ((try dsimp only [inR, idx, lowOf]); first | omega | (with_reducible decide) | (simp; omega) | (simp; done) | fail) | fail) ?_; conv => whnf) | fail)
      refine ⟨_, m_kind, ([], (((((upF (pickF b 1000) i)).drop 0).take i))), [], true, ?_⟩
      conv => whnf
      refine And.intro (vc0 ⟨(by simp), (show (((((upF (pickF b 1000) i)).drop 0).take i)).length ≤ 9223372036854775807 by omega)⟩ (by (repeat' (first | exact trivial | exact rfl | refine And.intro ?_ ?_ | (refine congrArg vI ?_; first | omega | (dsimp only; omega) | fail) | (refine congrArg some ?_) | omega | exact Nat.le_refl _ | exact congrArg (SV.lst _) (List.take_of_length_le (Nat.le_refl _)).symm)); all_goals (first | (show 0 + i ≤ ((upF (pickF b 1000) i)).length; omega) | fail)) (by repeat' (first | exact trivial | exact rfl | refine And.intro ?_ ?_ | (refine congrArg vI ?_; first | omega | (dsimp only; omega) | fail) | (refine congrArg some ?_) | omega | exact Nat.le_refl _ | exact congrArg (SV.lst _) (List.take_of_length_le (Nat.le_refl _)).symm)) trivial (.inr (fun _ => ⟨rfl, fun h ct he => by rcases h with _ | _ | h <;> first | (cases he; done) | (cases he; rfl)⟩))) ?_
      refine And.intro ⟨(), trivial⟩ (fun (_ : Unit) _ => ?_)
      conv => whnf
      conv => whnf
      repeat' (first | (refine tell (fun htest => ?_) (fun htest => ?_) <;> (try dsimp only at htest) <;> first | (exfalso; omega) | (exact absurd rfl htest) | (exact absurd (by decide) htest) | (conv => whnf)) | (refine allG rfl ?_; conv => whnf) | (refine And.intro (by first | omega | assumption | kernel_rfl | exact And.intro rfl rfl | ((try dsimp only [inR, idx, lowOf]); first | omega | (with_reducible decide) | (simp; omega) | (simp; done) | fail) | fail) ?_; conv => whnf) | fail)
      exact ⟨(), [], trivial, rfl, trivial, trivial⟩
end Go.Sx


/-
  Layer 21, part H: Jobs.
-/
namespace Go.Sx
open Go Go.Proofs Go.Proofs.YtmogappoadglgaaDoor
/-- A job of the law's. -/
def SmallJ (j : Job) : Prop := (1 ≤ j.1 ∧ j.1 ≤ 12) ∧ (0 ≤ j.2.1 ∧ j.2.1 ≤ 4) ∧ (1 ≤ j.2.2.1 ∧ j.2.2.1 ≤ 4) ∧ (-1 ≤ j.2.2.2 ∧ j.2.2.2 ≤ 2)
def SmallJs (js : List Job) : Prop := js.length ≤ 12 ∧ ∀ j ∈ js, SmallJ j
theorem small_snoc {js : List Job} {j : Job} (h : ∀ j ∈ js, SmallJ j) (hj : SmallJ j) : ∀ x ∈ js ++ [j], SmallJ x := fun x hx => by
  rcases List.mem_append.1 hx with hx | hx
  · exact h x hx
  · rw [List.mem_singleton.1 hx]; exact hj
def spJobs : Spec AF where
  γ := List Job
  δ := List Job
  args := fun js => [.lst 107 js]
  own := fun _ => []
  pre := fun js => js.length ≤ 9223372036854775807 ∧ ∀ j ∈ js, InI j.1 ∧ InI j.2.1 ∧ InI j.2.2.1 ∧ InI j.2.2.2
  nnew := 1
  res := fun _ js => .sl 0 4 0 js.length
  own' := fun _ js => [some (.arr 107 js)]
  post := fun _ js => SmallJs js
set_option maxHeartbeats 3200000 in
theorem m_jobs : Meets Tryd.prog regF 37 spJobs := by
  refine meets Tryd.func37 65 noWr rfl (by kernel_rfl) (by kernel_rfl) ?_
  rintro (l : List Job) ⟨(hl : l.length ≤ 9223372036854775807), (hg : ∀ j ∈ l, InI j.1 ∧ InI j.2.1 ∧ InI j.2.2.1 ∧ InI j.2.2.2)⟩
  conv => whnf
  repeat' (first | (refine tell (fun htest => ?_) (fun htest => ?_) <;> (try dsimp only at htest) <;> first | (exfalso; omega) | (exact absurd rfl htest) | (exact absurd (by decide) htest) | (conv => whnf)) | (refine allG rfl ?_; conv => whnf) | (refine And.intro (by first | omega | assumption | kernel_rfl | exact And.intro rfl rfl | ((try dsimp only [inR, idx, lowOf]); first | omega | (with_reducible decide) | (simp; omega) | (simp; done) | fail) | fail) ?_; conv => whnf) | fail)
  refine ⟨List Job × List Bool, fun p => ⟨[(0, .lst 107 l), (3, .sl 3000 4 0 p.1.length), (4, .ptr 1004 0 3 0), (5, vI p.1.length)], [(3000, .arr 107 p.1), (1004, .arr 4 p.2)]⟩, fun p => p.2.length = 3 ∧ p.1.length ≤ l.length ∧ SmallJs p.1, fun p => l.length - p.1.length, fun _ _ => rfl, ⟨([], [false, false, false]), [], ⟨rfl, Nat.zero_le _, Nat.zero_le _, fun _ h => by cases h⟩, ?_⟩, ?_⟩
  · refine ⟨rfl, ?_, ?_, rfl⟩
    all_goals (repeat' (first | exact trivial | exact rfl | refine And.intro ?_ ?_ | (refine congrArg vI ?_; first | omega | (dsimp only; omega) | fail) | (refine congrArg some ?_) | omega | exact Nat.le_refl _ | exact congrArg (SV.lst _) (List.take_of_length_le (Nat.le_refl _)).symm))
  rintro ⟨(js : List Job), (d : List Bool)⟩ ⟨(hd3 : d.length = 3), (hi : js.length ≤ l.length), (hj12 : js.length ≤ 12), (hjs : ∀ j ∈ js, SmallJ j)⟩
  by_cases hlt : js.length < l.length
  · by_cases h12 : js.length < 12
    · have hobt : ∃ y, l[js.length]? = some y := ⟨_, List.getElem?_eq_getElem hlt⟩
      obtain ⟨⟨(r1 : Int), (r2 : Int), (r3 : Int), (r4 : Int)⟩, hr⟩ := hobt
      have hgr := hg _ (List.mem_of_getElem? hr)
      have hg2 : InI r2 := hgr.2.1
      have hg3 : InI r3 := hgr.2.2.1
      have hg4 : InI r4 := hgr.2.2.2
      have b2 := pickF_bd (c := r2) (n := 5) (by decide)
      have b3 := pickF_bd (c := r3) (n := 4) (by decide)
      have b4 := pickF_bd (c := r4) (n := 3) (by decide)
      conv => whnf
      repeat' (first | (refine tell (fun htest => ?_) (fun htest => ?_) <;> (try dsimp only at htest) <;> first | (exfalso; omega) | (exact absurd rfl htest) | (exact absurd (by decide) htest) | (conv => whnf)) | (refine allG (x := _) (by first | exact hr | simpa [List.getElem?_append_right, lowOf] using hr | fail) ?_; conv => whnf) | (refine allLst (x := _) (by first | omega | assumption | fail) (by first | exact hr | simpa using hr | fail) ?_; conv => whnf) | (refine allG rfl ?_; conv => whnf) | (refine And.intro (by first | omega | assumption | kernel_rfl | exact And.intro rfl rfl | ((try dsimp only [inR, idx, lowOf]); first | omega | (with_reducible decide) | (simp; omega) | (simp; done) | fail) | fail) ?_; conv => whnf) | fail)
      refine ⟨_, m_pick21, (r2, 5), [], false, ?_⟩
      conv => whnf
      refine And.intro (vc0 ⟨hg2, (by decide : (0 : Int) < 5)⟩ (by (repeat' (first | exact trivial | exact rfl | refine And.intro ?_ ?_ | (refine congrArg vI ?_; first | omega | (dsimp only; omega) | fail) | (refine congrArg some ?_) | omega | exact Nat.le_refl _ | exact congrArg (SV.lst _) (List.take_of_length_le (Nat.le_refl _)).symm))) (by repeat' (first | exact trivial | exact rfl | refine And.intro ?_ ?_ | (refine congrArg vI ?_; first | omega | (dsimp only; omega) | fail) | (refine congrArg some ?_) | omega | exact Nat.le_refl _ | exact congrArg (SV.lst _) (List.take_of_length_le (Nat.le_refl _)).symm)) trivial trivial) ?_
      refine And.intro ⟨(), trivial⟩ (fun (_ : Unit) _ => ?_)
      conv => whnf
      conv => whnf
      repeat' (first | (refine tell (fun htest => ?_) (fun htest => ?_) <;> (try dsimp only at htest) <;> first | (exfalso; omega) | (exact absurd rfl htest) | (exact absurd (by decide) htest) | (conv => whnf)) | (refine allG (x := _) (by first | exact hr | simpa [List.getElem?_append_right, lowOf] using hr | fail) ?_; conv => whnf) | (refine allLst (x := _) (by first | omega | assumption | fail) (by first | exact hr | simpa using hr | fail) ?_; conv => whnf) | (refine allG rfl ?_; conv => whnf) | (refine And.intro (by first | omega | assumption | kernel_rfl | exact And.intro rfl rfl | ((try dsimp only [inR, idx, lowOf]); first | omega | (with_reducible decide) | (simp; omega) | (simp; done) | fail) | fail) ?_; conv => whnf) | fail)
      refine ⟨_, m_pick21, (r3, 4), [], false, ?_⟩
      conv => whnf
      refine And.intro (vc0 ⟨hg3, (by decide : (0 : Int) < 4)⟩ (by (repeat' (first | exact trivial | exact rfl | refine And.intro ?_ ?_ | (refine congrArg vI ?_; first | omega | (dsimp only; omega) | fail) | (refine congrArg some ?_) | omega | exact Nat.le_refl _ | exact congrArg (SV.lst _) (List.take_of_length_le (Nat.le_refl _)).symm))) (by repeat' (first | exact trivial | exact rfl | refine And.intro ?_ ?_ | (refine congrArg vI ?_; first | omega | (dsimp only; omega) | fail) | (refine congrArg some ?_) | omega | exact Nat.le_refl _ | exact congrArg (SV.lst _) (List.take_of_length_le (Nat.le_refl _)).symm)) trivial trivial) ?_
      refine And.intro ⟨(), trivial⟩ (fun (_ : Unit) _ => ?_)
      conv => whnf
      by_cases e2 : 1 + pickF r3 4 = 2
      · have hobt : ∃ v, d[(pickF r4 3).toNat]? = some v := ⟨_, List.getElem?_eq_getElem (by omega)⟩
        obtain ⟨v, hv⟩ := hobt
        conv => whnf
        repeat' (first | (refine tell (fun htest => ?_) (fun htest => ?_) <;> (try dsimp only at htest) <;> first | (exfalso; omega) | (exact absurd rfl htest) | (exact absurd (by decide) htest) | (conv => whnf)) | (refine allG (x := _) (by first | exact hr | simpa [List.getElem?_append_right, lowOf] using hr | fail) ?_; conv => whnf) | (refine allLst (x := _) (by first | omega | assumption | fail) (by first | exact hr | simpa using hr | fail) ?_; conv => whnf) | (refine allG rfl ?_; conv => whnf) | (refine And.intro (by first | omega | assumption | kernel_rfl | exact And.intro rfl rfl | ((try dsimp only [inR, idx, lowOf]); first | omega | (with_reducible decide) | (simp; omega) | (simp; done) | fail) | fail) ?_; conv => whnf) | fail)
        refine ⟨_, m_pick21, (r4, 3), [], false, ?_⟩
        conv => whnf
        refine And.intro (vc0 ⟨hg4, (by decide : (0 : Int) < 3)⟩ (by (repeat' (first | exact trivial | exact rfl | refine And.intro ?_ ?_ | (refine congrArg vI ?_; first | omega | (dsimp only; omega) | fail) | (refine congrArg some ?_) | omega | exact Nat.le_refl _ | exact congrArg (SV.lst _) (List.take_of_length_le (Nat.le_refl _)).symm))) (by repeat' (first | exact trivial | exact rfl | refine And.intro ?_ ?_ | (refine congrArg vI ?_; first | omega | (dsimp only; omega) | fail) | (refine congrArg some ?_) | omega | exact Nat.le_refl _ | exact congrArg (SV.lst _) (List.take_of_length_le (Nat.le_refl _)).symm)) trivial trivial) ?_
        refine And.intro ⟨(), trivial⟩ (fun (_ : Unit) _ => ?_)
        conv => whnf
        cases v
        · have hlen : (js ++ [(((js.length : Int) + 1, pickF r2 5, 1 + pickF r3 4, pickF r4 3) : Job)]).length = js.length + 1 := by rw [List.length_append]; rfl
          have hsm := small_snoc (j := ((js.length : Int) + 1, pickF r2 5, 1 + pickF r3 4, pickF r4 3)) hjs ⟨⟨by dsimp only; omega, by dsimp only; omega⟩, ⟨by dsimp only; omega, by dsimp only; omega⟩, ⟨by dsimp only; omega, by dsimp only; omega⟩, ⟨by dsimp only; omega, by dsimp only; omega⟩⟩
          conv => whnf
          repeat' (first | (refine tell (fun htest => ?_) (fun htest => ?_) <;> (try dsimp only at htest) <;> first | (exfalso; omega) | (exact absurd rfl htest) | (exact absurd (by decide) htest) | (conv => whnf)) | (refine allG (x := false) (by first | exact hv | simpa [List.getElem?_append_right, lowOf] using hv | fail) ?_; conv => whnf) | (refine allLst (x := false) (by first | omega | assumption | fail) (by first | exact hv | simpa using hv | fail) ?_; conv => whnf) | (refine allG rfl ?_; conv => whnf) | (refine And.intro (by first | omega | assumption | kernel_rfl | exact And.intro rfl rfl | ((try dsimp only [inR, idx, lowOf]); first | omega | (with_reducible decide) | (simp; omega) | (simp; done) | fail) | fail) ?_; conv => whnf) | fail)
          refine ⟨(js ++ [(((js.length : Int) + 1, pickF r2 5, 1 + pickF r3 4, pickF r4 3) : Job)], d.set (pickF r4 3).toNat true), [(3000, 1063)], ⟨(show (d.set (pickF r4 3).toNat true).length = 3 by rw [List.length_set, hd3]), (show (js ++ [(((js.length : Int) + 1, pickF r2 5, 1 + pickF r3 4, pickF r4 3) : Job)]).length ≤ l.length by omega), (show (js ++ [(((js.length : Int) + 1, pickF r2 5, 1 + pickF r3 4, pickF r4 3) : Job)]).length ≤ 12 by omega), hsm⟩, ?_, rfl, ?_, ?_, rfl⟩
          · dsimp only; first | omega | (simp; done) | (simp; omega)
          all_goals (repeat' (first | exact trivial | exact rfl | refine And.intro ?_ ?_ | (refine congrArg vI ?_; first | omega | (dsimp only; omega) | fail) | (refine congrArg some ?_) | omega | exact Nat.le_refl _ | exact congrArg (SV.lst _) (List.take_of_length_le (Nat.le_refl _)).symm))
          all_goals first | exact congrArg (SV.sl (A := AF) 1063 4 0) hlen.symm | exact congrArg (Ct.arr (A := AF) 107) (by rw [List.drop_zero, List.take_of_length_le (Nat.le_refl _)]; rfl) | fail
        · have hlen : (js ++ [(((js.length : Int) + 1, pickF r2 5, 3, pickF r4 3) : Job)]).length = js.length + 1 := by rw [List.length_append]; rfl
          have hsm := small_snoc (j := ((js.length : Int) + 1, pickF r2 5, 3, pickF r4 3)) hjs ⟨⟨by dsimp only; omega, by dsimp only; omega⟩, ⟨by dsimp only; omega, by dsimp only; omega⟩, ⟨by dsimp only; omega, by dsimp only; omega⟩, ⟨by dsimp only; omega, by dsimp only; omega⟩⟩
          conv => whnf
          repeat' (first | (refine tell (fun htest => ?_) (fun htest => ?_) <;> (try dsimp only at htest) <;> first | (exfalso; omega) | (exact absurd rfl htest) | (exact absurd (by decide) htest) | (conv => whnf)) | (refine allG (x := true) (by first | exact hv | simpa [List.getElem?_append_right, lowOf] using hv | fail) ?_; conv => whnf) | (refine allLst (x := true) (by first | omega | assumption | fail) (by first | exact hv | simpa using hv | fail) ?_; conv => whnf) | (refine allG rfl ?_; conv => whnf) | (refine And.intro (by first | omega | assumption | kernel_rfl | exact And.intro rfl rfl | ((try dsimp only [inR, idx, lowOf]); first | omega | (with_reducible decide) | (simp; omega) | (simp; done) | fail) | fail) ?_; conv => whnf) | fail)
          refine ⟨(js ++ [(((js.length : Int) + 1, pickF r2 5, 3, pickF r4 3) : Job)], d), [(3000, 1063)], ⟨hd3, (show (js ++ [(((js.length : Int) + 1, pickF r2 5, 3, pickF r4 3) : Job)]).length ≤ l.length by omega), (show (js ++ [(((js.length : Int) + 1, pickF r2 5, 3, pickF r4 3) : Job)]).length ≤ 12 by omega), hsm⟩, ?_, rfl, ?_, ?_, rfl⟩
          · dsimp only; first | omega | (simp; done) | (simp; omega)
          all_goals (repeat' (first | exact trivial | exact rfl | refine And.intro ?_ ?_ | (refine congrArg vI ?_; first | omega | (dsimp only; omega) | fail) | (refine congrArg some ?_) | omega | exact Nat.le_refl _ | exact congrArg (SV.lst _) (List.take_of_length_le (Nat.le_refl _)).symm))
          all_goals first | exact congrArg (SV.sl (A := AF) 1063 4 0) hlen.symm | exact congrArg (Ct.arr (A := AF) 107) (by rw [List.drop_zero, List.take_of_length_le (Nat.le_refl _)]; rfl) | fail
      · by_cases e3 : 1 + pickF r3 4 = 3
        · conv => whnf
          repeat' (first | (refine tell (fun htest => ?_) (fun htest => ?_) <;> (try dsimp only at htest) <;> first | (exfalso; omega) | (exact absurd rfl htest) | (exact absurd (by decide) htest) | (conv => whnf)) | (refine allG (x := _) (by first | exact hr | simpa [List.getElem?_append_right, lowOf] using hr | fail) ?_; conv => whnf) | (refine allLst (x := _) (by first | omega | assumption | fail) (by first | exact hr | simpa using hr | fail) ?_; conv => whnf) | (refine allG rfl ?_; conv => whnf) | (refine And.intro (by first | omega | assumption | kernel_rfl | exact And.intro rfl rfl | ((try dsimp only [inR, idx, lowOf]); first | omega | (with_reducible decide) | (simp; omega) | (simp; done) | fail) | fail) ?_; conv => whnf) | fail)
          refine ⟨_, m_pick21, (r4, 3), [], false, ?_⟩
          conv => whnf
          refine And.intro (vc0 ⟨hg4, (by decide : (0 : Int) < 3)⟩ (by (repeat' (first | exact trivial | exact rfl | refine And.intro ?_ ?_ | (refine congrArg vI ?_; first | omega | (dsimp only; omega) | fail) | (refine congrArg some ?_) | omega | exact Nat.le_refl _ | exact congrArg (SV.lst _) (List.take_of_length_le (Nat.le_refl _)).symm))) (by repeat' (first | exact trivial | exact rfl | refine And.intro ?_ ?_ | (refine congrArg vI ?_; first | omega | (dsimp only; omega) | fail) | (refine congrArg some ?_) | omega | exact Nat.le_refl _ | exact congrArg (SV.lst _) (List.take_of_length_le (Nat.le_refl _)).symm)) trivial trivial) ?_
          refine And.intro ⟨(), trivial⟩ (fun (_ : Unit) _ => ?_)
          conv => whnf
          have hlen : (js ++ [(((js.length : Int) + 1, pickF r2 5, 1 + pickF r3 4, pickF r4 3) : Job)]).length = js.length + 1 := by rw [List.length_append]; rfl
          have hsm := small_snoc (j := ((js.length : Int) + 1, pickF r2 5, 1 + pickF r3 4, pickF r4 3)) hjs ⟨⟨by dsimp only; omega, by dsimp only; omega⟩, ⟨by dsimp only; omega, by dsimp only; omega⟩, ⟨by dsimp only; omega, by dsimp only; omega⟩, ⟨by dsimp only; omega, by dsimp only; omega⟩⟩
          conv => whnf
          repeat' (first | (refine tell (fun htest => ?_) (fun htest => ?_) <;> (try dsimp only at htest) <;> first | (exfalso; omega) | (exact absurd rfl htest) | (exact absurd (by decide) htest) | (conv => whnf)) | (refine allG rfl ?_; conv => whnf) | (refine And.intro (by first | omega | assumption | kernel_rfl | exact And.intro rfl rfl | ((try dsimp only [inR, idx, lowOf]); first | omega | (with_reducible decide) | (simp; omega) | (simp; done) | fail) | fail) ?_; conv => whnf) | fail)
          refine ⟨(js ++ [(((js.length : Int) + 1, pickF r2 5, 1 + pickF r3 4, pickF r4 3) : Job)], d), [(3000, 1063)], ⟨hd3, (show (js ++ [(((js.length : Int) + 1, pickF r2 5, 1 + pickF r3 4, pickF r4 3) : Job)]).length ≤ l.length by omega), (show (js ++ [(((js.length : Int) + 1, pickF r2 5, 1 + pickF r3 4, pickF r4 3) : Job)]).length ≤ 12 by omega), hsm⟩, ?_, rfl, ?_, ?_, rfl⟩
          · dsimp only; first | omega | (simp; done) | (simp; omega)
          all_goals (repeat' (first | exact trivial | exact rfl | refine And.intro ?_ ?_ | (refine congrArg vI ?_; first | omega | (dsimp only; omega) | fail) | (refine congrArg some ?_) | omega | exact Nat.le_refl _ | exact congrArg (SV.lst _) (List.take_of_length_le (Nat.le_refl _)).symm))
          all_goals first | exact congrArg (SV.sl (A := AF) 1063 4 0) hlen.symm | exact congrArg (Ct.arr (A := AF) 107) (by rw [List.drop_zero, List.take_of_length_le (Nat.le_refl _)]; rfl) | fail
        · have hlen : (js ++ [(((js.length : Int) + 1, pickF r2 5, 1 + pickF r3 4, -1) : Job)]).length = js.length + 1 := by rw [List.length_append]; rfl
          have hsm := small_snoc (j := ((js.length : Int) + 1, pickF r2 5, 1 + pickF r3 4, -1)) hjs ⟨⟨by dsimp only; omega, by dsimp only; omega⟩, ⟨by dsimp only; omega, by dsimp only; omega⟩, ⟨by dsimp only; omega, by dsimp only; omega⟩, ⟨by dsimp only; omega, by dsimp only; omega⟩⟩
          conv => whnf
          repeat' (first | (refine tell (fun htest => ?_) (fun htest => ?_) <;> (try dsimp only at htest) <;> first | (exfalso; omega) | (exact absurd rfl htest) | (exact absurd (by decide) htest) | (conv => whnf)) | (refine allG rfl ?_; conv => whnf) | (refine And.intro (by first | omega | assumption | kernel_rfl | exact And.intro rfl rfl | ((try dsimp only [inR, idx, lowOf]); first | omega | (with_reducible decide) | (simp; omega) | (simp; done) | fail) | fail) ?_; conv => whnf) | fail)
          refine ⟨(js ++ [(((js.length : Int) + 1, pickF r2 5, 1 + pickF r3 4, -1) : Job)], d), [(3000, 1063)], ⟨hd3, (show (js ++ [(((js.length : Int) + 1, pickF r2 5, 1 + pickF r3 4, -1) : Job)]).length ≤ l.length by omega), (show (js ++ [(((js.length : Int) + 1, pickF r2 5, 1 + pickF r3 4, -1) : Job)]).length ≤ 12 by omega), hsm⟩, ?_, rfl, ?_, ?_, rfl⟩
          · dsimp only; first | omega | (simp; done) | (simp; omega)
          all_goals (repeat' (first | exact trivial | exact rfl | refine And.intro ?_ ?_ | (refine congrArg vI ?_; first | omega | (dsimp only; omega) | fail) | (refine congrArg some ?_) | omega | exact Nat.le_refl _ | exact congrArg (SV.lst _) (List.take_of_length_le (Nat.le_refl _)).symm))
          all_goals first | exact congrArg (SV.sl (A := AF) 1063 4 0) hlen.symm | exact congrArg (Ct.arr (A := AF) 107) (by rw [List.drop_zero, List.take_of_length_le (Nat.le_refl _)]; rfl) | fail
    · conv => whnf
      repeat' (first | (refine tell (fun htest => ?_) (fun htest => ?_) <;> (try dsimp only at htest) <;> first | (exfalso; omega) | (exact absurd rfl htest) | (exact absurd (by decide) htest) | (conv => whnf)) | (refine allG rfl ?_; conv => whnf) | (refine And.intro (by first | omega | assumption | kernel_rfl | exact And.intro rfl rfl | ((try dsimp only [inR, idx, lowOf]); first | omega | (with_reducible decide) | (simp; omega) | (simp; done) | fail) | fail) ?_; conv => whnf) | fail)
      refine ⟨js, [3000], ⟨hj12, hjs⟩, ?_, ?_, ?_⟩
      all_goals (repeat' (first | exact trivial | exact rfl | refine And.intro ?_ ?_ | (refine congrArg vI ?_; first | omega | (dsimp only; omega) | fail) | (refine congrArg some ?_) | omega | exact Nat.le_refl _ | exact congrArg (SV.lst _) (List.take_of_length_le (Nat.le_refl _)).symm))
  · conv => whnf
    repeat' (first | (refine tell (fun htest => ?_) (fun htest => ?_) <;> (try dsimp only at htest) <;> first | (exfalso; omega) | (exact absurd rfl htest) | (exact absurd (by decide) htest) | (conv => whnf)) | (refine allG rfl ?_; conv => whnf) | (refine And.intro (by first | omega | assumption | kernel_rfl | exact And.intro rfl rfl | ((try dsimp only [inR, idx, lowOf]); first | omega | (with_reducible decide) | (simp; omega) | (simp; done) | fail) | fail) ?_; conv => whnf) | fail)
    refine ⟨js, [3000], ⟨hj12, hjs⟩, ?_, ?_, ?_⟩
    all_goals (repeat' (first | exact trivial | exact rfl | refine And.intro ?_ ?_ | (refine congrArg vI ?_; first | omega | (dsimp only; omega) | fail) | (refine congrArg some ?_) | omega | exact Nat.le_refl _ | exact congrArg (SV.lst _) (List.take_of_length_le (Nat.le_refl _)).symm))
end Go.Sx


/-
  Layer 21, part I: Itoa of small numbers.
-/
namespace Go.Sx
open Go Go.Proofs Go.Proofs.YtmogappoadglgaaDoor
/-- The decimal digits of a number up to 12. -/
def itoaF (i : Int) : ByteArray := if i = 0 then ⟨#[48]⟩ else if i = 1 then ⟨#[49]⟩ else if i = 2 then ⟨#[50]⟩ else if i = 3 then ⟨#[51]⟩ else if i = 4 then ⟨#[52]⟩ else if i = 5 then ⟨#[53]⟩ else if i = 6 then ⟨#[54]⟩ else if i = 7 then ⟨#[55]⟩ else if i = 8 then ⟨#[56]⟩ else if i = 9 then ⟨#[57]⟩ else if i = 10 then ⟨#[49, 48]⟩ else if i = 11 then ⟨#[49, 49]⟩ else if i = 12 then ⟨#[49, 50]⟩ else ⟨#[]⟩
def spItoa : Spec AF where
  γ := Int
  δ := Unit
  args := fun i => [vI i]
  own := fun _ => []
  pre := fun i => 0 ≤ i ∧ i ≤ 12
  nnew := 0
  res := fun i _ => .val (.string (itoaF i))
  own' := fun _ _ => []
  post := fun _ _ => True
set_option maxRecDepth 100000 in
theorem m_small : Meets Tryd.prog regF 118 spItoa := by
  refine meets Tryd.func118 15 noWr rfl (by kernel_rfl) (by kernel_rfl) ?_
  rintro (i : Int) ⟨(h0 : 0 ≤ i), (h1 : i ≤ 12)⟩
  have hi : i = 0 ∨ i = 1 ∨ i = 2 ∨ i = 3 ∨ i = 4 ∨ i = 5 ∨ i = 6 ∨ i = 7 ∨ i = 8 ∨ i = 9 ∨ i = 10 ∨ i = 11 ∨ i = 12 := by omega
  rcases hi with rfl | rfl | rfl | rfl | rfl | rfl | rfl | rfl | rfl | rfl | rfl | rfl | rfl
  · conv => whnf
    repeat' (first | (refine tell (fun htest => ?_) (fun htest => ?_) <;> (try dsimp only at htest) <;> first | (exfalso; omega) | (exact absurd rfl htest) | (exact absurd (by decide) htest) | (conv => whnf)) | (refine allG rfl ?_; conv => whnf) | (refine And.intro (by first | omega | assumption | kernel_rfl | exact And.intro rfl rfl | ((try dsimp only [inR, idx, lowOf]); first | omega | (with_reducible decide) | (simp; omega) | (simp; done) | fail) | fail) ?_; conv => whnf) | fail)
    exact ⟨(), [], trivial, eS (by kernel_rfl), trivial, trivial⟩
  · conv => whnf
    repeat' (first | (refine tell (fun htest => ?_) (fun htest => ?_) <;> (try dsimp only at htest) <;> first | (exfalso; omega) | (exact absurd rfl htest) | (exact absurd (by decide) htest) | (conv => whnf)) | (refine allG rfl ?_; conv => whnf) | (refine And.intro (by first | omega | assumption | kernel_rfl | exact And.intro rfl rfl | ((try dsimp only [inR, idx, lowOf]); first | omega | (with_reducible decide) | (simp; omega) | (simp; done) | fail) | fail) ?_; conv => whnf) | fail)
    exact ⟨(), [], trivial, eS (by kernel_rfl), trivial, trivial⟩
  · conv => whnf
    repeat' (first | (refine tell (fun htest => ?_) (fun htest => ?_) <;> (try dsimp only at htest) <;> first | (exfalso; omega) | (exact absurd rfl htest) | (exact absurd (by decide) htest) | (conv => whnf)) | (refine allG rfl ?_; conv => whnf) | (refine And.intro (by first | omega | assumption | kernel_rfl | exact And.intro rfl rfl | ((try dsimp only [inR, idx, lowOf]); first | omega | (with_reducible decide) | (simp; omega) | (simp; done) | fail) | fail) ?_; conv => whnf) | fail)
    exact ⟨(), [], trivial, eS (by kernel_rfl), trivial, trivial⟩
  · conv => whnf
    repeat' (first | (refine tell (fun htest => ?_) (fun htest => ?_) <;> (try dsimp only at htest) <;> first | (exfalso; omega) | (exact absurd rfl htest) | (exact absurd (by decide) htest) | (conv => whnf)) | (refine allG rfl ?_; conv => whnf) | (refine And.intro (by first | omega | assumption | kernel_rfl | exact And.intro rfl rfl | ((try dsimp only [inR, idx, lowOf]); first | omega | (with_reducible decide) | (simp; omega) | (simp; done) | fail) | fail) ?_; conv => whnf) | fail)
    exact ⟨(), [], trivial, eS (by kernel_rfl), trivial, trivial⟩
  · conv => whnf
    repeat' (first | (refine tell (fun htest => ?_) (fun htest => ?_) <;> (try dsimp only at htest) <;> first | (exfalso; omega) | (exact absurd rfl htest) | (exact absurd (by decide) htest) | (conv => whnf)) | (refine allG rfl ?_; conv => whnf) | (refine And.intro (by first | omega | assumption | kernel_rfl | exact And.intro rfl rfl | ((try dsimp only [inR, idx, lowOf]); first | omega | (with_reducible decide) | (simp; omega) | (simp; done) | fail) | fail) ?_; conv => whnf) | fail)
    exact ⟨(), [], trivial, eS (by kernel_rfl), trivial, trivial⟩
  · conv => whnf
    repeat' (first | (refine tell (fun htest => ?_) (fun htest => ?_) <;> (try dsimp only at htest) <;> first | (exfalso; omega) | (exact absurd rfl htest) | (exact absurd (by decide) htest) | (conv => whnf)) | (refine allG rfl ?_; conv => whnf) | (refine And.intro (by first | omega | assumption | kernel_rfl | exact And.intro rfl rfl | ((try dsimp only [inR, idx, lowOf]); first | omega | (with_reducible decide) | (simp; omega) | (simp; done) | fail) | fail) ?_; conv => whnf) | fail)
    exact ⟨(), [], trivial, eS (by kernel_rfl), trivial, trivial⟩
  · conv => whnf
    repeat' (first | (refine tell (fun htest => ?_) (fun htest => ?_) <;> (try dsimp only at htest) <;> first | (exfalso; omega) | (exact absurd rfl htest) | (exact absurd (by decide) htest) | (conv => whnf)) | (refine allG rfl ?_; conv => whnf) | (refine And.intro (by first | omega | assumption | kernel_rfl | exact And.intro rfl rfl | ((try dsimp only [inR, idx, lowOf]); first | omega | (with_reducible decide) | (simp; omega) | (simp; done) | fail) | fail) ?_; conv => whnf) | fail)
    exact ⟨(), [], trivial, eS (by kernel_rfl), trivial, trivial⟩
  · conv => whnf
    repeat' (first | (refine tell (fun htest => ?_) (fun htest => ?_) <;> (try dsimp only at htest) <;> first | (exfalso; omega) | (exact absurd rfl htest) | (exact absurd (by decide) htest) | (conv => whnf)) | (refine allG rfl ?_; conv => whnf) | (refine And.intro (by first | omega | assumption | kernel_rfl | exact And.intro rfl rfl | ((try dsimp only [inR, idx, lowOf]); first | omega | (with_reducible decide) | (simp; omega) | (simp; done) | fail) | fail) ?_; conv => whnf) | fail)
    exact ⟨(), [], trivial, eS (by kernel_rfl), trivial, trivial⟩
  · conv => whnf
    repeat' (first | (refine tell (fun htest => ?_) (fun htest => ?_) <;> (try dsimp only at htest) <;> first | (exfalso; omega) | (exact absurd rfl htest) | (exact absurd (by decide) htest) | (conv => whnf)) | (refine allG rfl ?_; conv => whnf) | (refine And.intro (by first | omega | assumption | kernel_rfl | exact And.intro rfl rfl | ((try dsimp only [inR, idx, lowOf]); first | omega | (with_reducible decide) | (simp; omega) | (simp; done) | fail) | fail) ?_; conv => whnf) | fail)
    exact ⟨(), [], trivial, eS (by kernel_rfl), trivial, trivial⟩
  · conv => whnf
    repeat' (first | (refine tell (fun htest => ?_) (fun htest => ?_) <;> (try dsimp only at htest) <;> first | (exfalso; omega) | (exact absurd rfl htest) | (exact absurd (by decide) htest) | (conv => whnf)) | (refine allG rfl ?_; conv => whnf) | (refine And.intro (by first | omega | assumption | kernel_rfl | exact And.intro rfl rfl | ((try dsimp only [inR, idx, lowOf]); first | omega | (with_reducible decide) | (simp; omega) | (simp; done) | fail) | fail) ?_; conv => whnf) | fail)
    exact ⟨(), [], trivial, eS (by kernel_rfl), trivial, trivial⟩
  · conv => whnf
    repeat' (first | (refine tell (fun htest => ?_) (fun htest => ?_) <;> (try dsimp only at htest) <;> first | (exfalso; omega) | (exact absurd rfl htest) | (exact absurd (by decide) htest) | (conv => whnf)) | (refine allG rfl ?_; conv => whnf) | (refine And.intro (by first | omega | assumption | kernel_rfl | exact And.intro rfl rfl | ((try dsimp only [inR, idx, lowOf]); first | omega | (with_reducible decide) | (simp; omega) | (simp; done) | fail) | fail) ?_; conv => whnf) | fail)
    exact ⟨(), [], trivial, eS (by kernel_rfl), trivial, trivial⟩
  · conv => whnf
    repeat' (first | (refine tell (fun htest => ?_) (fun htest => ?_) <;> (try dsimp only at htest) <;> first | (exfalso; omega) | (exact absurd rfl htest) | (exact absurd (by decide) htest) | (conv => whnf)) | (refine allG rfl ?_; conv => whnf) | (refine And.intro (by first | omega | assumption | kernel_rfl | exact And.intro rfl rfl | ((try dsimp only [inR, idx, lowOf]); first | omega | (with_reducible decide) | (simp; omega) | (simp; done) | fail) | fail) ?_; conv => whnf) | fail)
    exact ⟨(), [], trivial, eS (by kernel_rfl), trivial, trivial⟩
  · conv => whnf
    repeat' (first | (refine tell (fun htest => ?_) (fun htest => ?_) <;> (try dsimp only at htest) <;> first | (exfalso; omega) | (exact absurd rfl htest) | (exact absurd (by decide) htest) | (conv => whnf)) | (refine allG rfl ?_; conv => whnf) | (refine And.intro (by first | omega | assumption | kernel_rfl | exact And.intro rfl rfl | ((try dsimp only [inR, idx, lowOf]); first | omega | (with_reducible decide) | (simp; omega) | (simp; done) | fail) | fail) ?_; conv => whnf) | fail)
    exact ⟨(), [], trivial, eS (by kernel_rfl), trivial, trivial⟩
def spFmt : Spec AF where
  γ := Int
  δ := Unit
  args := fun i => [vI i, vI 10]
  own := fun _ => []
  pre := fun i => 0 ≤ i ∧ i ≤ 12
  nnew := 0
  res := fun i _ => .val (.string (itoaF i))
  own' := fun _ _ => []
  post := fun _ _ => True
theorem m_fmt : Meets Tryd.prog regF 108 spFmt := by
  refine meets Tryd.func108 54 noWr rfl (by kernel_rfl) (by kernel_rfl) ?_
  rintro (i : Int) ⟨(h0 : 0 ≤ i), (h1 : i ≤ 12)⟩
  conv => whnf
  repeat' (first | (refine tell (fun htest => ?_) (fun htest => ?_) <;> (try dsimp only at htest) <;> first | (exfalso; omega) | (exact absurd rfl htest) | (exact absurd (by decide) htest) | (conv => whnf)) | (refine allG rfl ?_; conv => whnf) | (refine And.intro (by first | omega | assumption | kernel_rfl | exact And.intro rfl rfl | ((try dsimp only [inR, idx, lowOf]); first | omega | (with_reducible decide) | (simp; omega) | (simp; done) | fail) | fail) ?_; conv => whnf) | fail)
  refine ⟨_, m_small, i, [], false, ?_⟩
  conv => whnf
  refine And.intro (vc0 ⟨h0, h1⟩ (by (repeat' (first | exact trivial | exact rfl | refine And.intro ?_ ?_ | (refine congrArg vI ?_; first | omega | (dsimp only; omega) | fail) | (refine congrArg some ?_) | omega | exact Nat.le_refl _ | exact congrArg (SV.lst _) (List.take_of_length_le (Nat.le_refl _)).symm))) (by repeat' (first | exact trivial | exact rfl | refine And.intro ?_ ?_ | (refine congrArg vI ?_; first | omega | (dsimp only; omega) | fail) | (refine congrArg some ?_) | omega | exact Nat.le_refl _ | exact congrArg (SV.lst _) (List.take_of_length_le (Nat.le_refl _)).symm)) trivial trivial) ?_
  refine And.intro ⟨(), trivial⟩ (fun (_ : Unit) _ => ?_)
  conv => whnf
  conv => whnf
  repeat' (first | (refine tell (fun htest => ?_) (fun htest => ?_) <;> (try dsimp only at htest) <;> first | (exfalso; omega) | (exact absurd rfl htest) | (exact absurd (by decide) htest) | (conv => whnf)) | (refine allG rfl ?_; conv => whnf) | (refine And.intro (by first | omega | assumption | kernel_rfl | exact And.intro rfl rfl | ((try dsimp only [inR, idx, lowOf]); first | omega | (with_reducible decide) | (simp; omega) | (simp; done) | fail) | fail) ?_; conv => whnf) | fail)
  exact ⟨(), [], trivial, rfl, trivial, trivial⟩
theorem m_itoa0 : Meets Tryd.prog regF 89 spItoa := by
  refine meets Tryd.func89 5 noWr rfl (by kernel_rfl) (by kernel_rfl) ?_
  rintro (i : Int) ⟨(h0 : 0 ≤ i), (h1 : i ≤ 12)⟩
  conv => whnf
  repeat' (first | (refine tell (fun htest => ?_) (fun htest => ?_) <;> (try dsimp only at htest) <;> first | (exfalso; omega) | (exact absurd rfl htest) | (exact absurd (by decide) htest) | (conv => whnf)) | (refine allG rfl ?_; conv => whnf) | (refine And.intro (by first | omega | assumption | kernel_rfl | exact And.intro rfl rfl | ((try dsimp only [inR, idx, lowOf]); first | omega | (with_reducible decide) | (simp; omega) | (simp; done) | fail) | fail) ?_; conv => whnf) | fail)
  refine ⟨_, m_fmt, i, [], false, ?_⟩
  conv => whnf
  refine And.intro (vc0 ⟨h0, h1⟩ (by (repeat' (first | exact trivial | exact rfl | refine And.intro ?_ ?_ | (refine congrArg vI ?_; first | omega | (dsimp only; omega) | fail) | (refine congrArg some ?_) | omega | exact Nat.le_refl _ | exact congrArg (SV.lst _) (List.take_of_length_le (Nat.le_refl _)).symm))) (by repeat' (first | exact trivial | exact rfl | refine And.intro ?_ ?_ | (refine congrArg vI ?_; first | omega | (dsimp only; omega) | fail) | (refine congrArg some ?_) | omega | exact Nat.le_refl _ | exact congrArg (SV.lst _) (List.take_of_length_le (Nat.le_refl _)).symm)) trivial trivial) ?_
  refine And.intro ⟨(), trivial⟩ (fun (_ : Unit) _ => ?_)
  conv => whnf
  conv => whnf
  repeat' (first | (refine tell (fun htest => ?_) (fun htest => ?_) <;> (try dsimp only at htest) <;> first | (exfalso; omega) | (exact absurd rfl htest) | (exact absurd (by decide) htest) | (conv => whnf)) | (refine allG rfl ?_; conv => whnf) | (refine And.intro (by first | omega | assumption | kernel_rfl | exact And.intro rfl rfl | ((try dsimp only [inR, idx, lowOf]); first | omega | (with_reducible decide) | (simp; omega) | (simp; done) | fail) | fail) ?_; conv => whnf) | fail)
  exact ⟨(), [], trivial, rfl, trivial, trivial⟩
theorem m_itoa : Meets Tryd.prog regF 69 spItoa := by
  refine meets Tryd.func69 5 noWr rfl (by kernel_rfl) (by kernel_rfl) ?_
  rintro (i : Int) ⟨(h0 : 0 ≤ i), (h1 : i ≤ 12)⟩
  conv => whnf
  repeat' (first | (refine tell (fun htest => ?_) (fun htest => ?_) <;> (try dsimp only at htest) <;> first | (exfalso; omega) | (exact absurd rfl htest) | (exact absurd (by decide) htest) | (conv => whnf)) | (refine allG rfl ?_; conv => whnf) | (refine And.intro (by first | omega | assumption | kernel_rfl | exact And.intro rfl rfl | ((try dsimp only [inR, idx, lowOf]); first | omega | (with_reducible decide) | (simp; omega) | (simp; done) | fail) | fail) ?_; conv => whnf) | fail)
  refine ⟨_, m_itoa0, i, [], false, ?_⟩
  conv => whnf
  refine And.intro (vc0 ⟨h0, h1⟩ (by (repeat' (first | exact trivial | exact rfl | refine And.intro ?_ ?_ | (refine congrArg vI ?_; first | omega | (dsimp only; omega) | fail) | (refine congrArg some ?_) | omega | exact Nat.le_refl _ | exact congrArg (SV.lst _) (List.take_of_length_le (Nat.le_refl _)).symm))) (by repeat' (first | exact trivial | exact rfl | refine And.intro ?_ ?_ | (refine congrArg vI ?_; first | omega | (dsimp only; omega) | fail) | (refine congrArg some ?_) | omega | exact Nat.le_refl _ | exact congrArg (SV.lst _) (List.take_of_length_le (Nat.le_refl _)).symm)) trivial trivial) ?_
  refine And.intro ⟨(), trivial⟩ (fun (_ : Unit) _ => ?_)
  conv => whnf
  conv => whnf
  repeat' (first | (refine tell (fun htest => ?_) (fun htest => ?_) <;> (try dsimp only at htest) <;> first | (exfalso; omega) | (exact absurd rfl htest) | (exact absurd (by decide) htest) | (conv => whnf)) | (refine allG rfl ?_; conv => whnf) | (refine And.intro (by first | omega | assumption | kernel_rfl | exact And.intro rfl rfl | ((try dsimp only [inR, idx, lowOf]); first | omega | (with_reducible decide) | (simp; omega) | (simp; done) | fail) | fail) ?_; conv => whnf) | fail)
  exact ⟨(), [], trivial, rfl, trivial, trivial⟩
end Go.Sx

