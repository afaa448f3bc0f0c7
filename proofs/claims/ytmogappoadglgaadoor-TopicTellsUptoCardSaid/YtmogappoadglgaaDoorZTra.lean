/-
  The door's seat, part A: pick, Ints, Fit of layer 11.
-/
import Derived.Lay
import Derived.MakeChecks
import Derived.Test.YtmogappoadglgaaDoorZLay
import Derived.Test.YtmogappoadglgaaDoorZSxFour
set_option linter.unusedVariables false
set_option linter.unusedSimpArgs false
namespace Go.Sx
open Go Go.Proofs Go.Proofs.YtmogappoadglgaaDoor
theorem m_pick11 : Meets Tryd.prog regF 52 spPick := by
  refine meets Tryd.func52 13 noWr rfl (by kernel_rfl) (by kernel_rfl) ?_
  rintro ⟨(c : Int), (n : Int)⟩ ⟨⟨hc1, hc2⟩, (hn : 0 < n)⟩
  conv => whnf
  repeat' (first | (refine tell (fun hQ => ?_) (fun hQ => ?_) <;> (try dsimp only at hQ) <;> first | (exfalso; omega) | (exact absurd rfl hQ) | (exact absurd hQ hne) | (exact absurd hne hQ) | (exact absurd (by decide) hQ) | (conv => whnf)) | (refine allG rfl ?_; conv => whnf) | (refine And.intro (by first | omega | assumption | kernel_rfl | exact And.intro rfl rfl | ((try dsimp only [inR, idx, lowOf]); first | omega | (with_reducible decide) | (simp; omega) | (simp; done) | fail) | fail) ?_; conv => whnf) | fail)
  all_goals exact ⟨(), [], trivial, eI (by unfold pickF; first | rw [if_pos (by assumption)] | rw [if_neg (by assumption)]), trivial, trivial⟩
def spInts : Spec AF where
  γ := List Int × List Int
  δ := Bool
  args := fun g => [.lst 3 g.1, .lst 3 g.2]
  own := fun _ => []
  pre := fun g => g.1.length ≤ 9223372036854775807
  nnew := 0
  res := fun _ c => vB c
  own' := fun _ _ => []
  post := fun g c => (c = true ↔ g.1 = g.2)
theorem take_snocI {α : Type} {l : List α} {i : Nat} {y : α} (h : l[i]? = some y) : l.take (i + 1) = l.take i ++ [y] := by rw [List.take_add_one, h]; rfl
theorem m_ints : Meets Tryd.prog regF 25 spInts := by
  refine meets Tryd.func25 26 noWr rfl (by kernel_rfl) (by kernel_rfl) ?_
  rintro ⟨(a : List Int), (b : List Int)⟩ (hl : a.length ≤ 9223372036854775807)
  by_cases hlen : a.length = b.length
  · conv => whnf
    repeat' (first | (refine tell (fun hQ => ?_) (fun hQ => ?_) <;> (try dsimp only at hQ) <;> first | (exfalso; omega) | (exact absurd rfl hQ) | (exact absurd hQ hne) | (exact absurd hne hQ) | (exact absurd (by decide) hQ) | (conv => whnf)) | (refine allG rfl ?_; conv => whnf) | (refine And.intro (by first | omega | assumption | kernel_rfl | exact And.intro rfl rfl | ((try dsimp only [inR, idx, lowOf]); first | omega | (with_reducible decide) | (simp; omega) | (simp; done) | fail) | fail) ?_; conv => whnf) | fail)
    refine ⟨Nat, fun i => ⟨[(0, .lst 3 a), (1, .lst 3 b), (5, vI i)], []⟩, fun i => i ≤ a.length ∧ a.take i = b.take i, fun i => a.length - i, fun _ _ => rfl, ⟨0, [], ⟨Nat.zero_le _, by simp⟩, ?_⟩, ?_⟩
    · refine ⟨rfl, ?_, ?_, rfl⟩
      all_goals (repeat' (first | exact trivial | exact rfl | refine And.intro ?_ ?_ | (refine congrArg vI ?_; first | omega | (dsimp only; omega) | fail) | (refine congrArg some ?_) | omega | exact Nat.le_refl _ | exact congrArg (SV.lst _) (List.take_of_length_le (Nat.le_refl _)).symm))
    rintro (i : Nat) ⟨(hi : i ≤ a.length), (hs : a.take i = b.take i)⟩
    by_cases hlt : i < a.length
    · have hobt : ∃ x, a[i]? = some x := ⟨_, List.getElem?_eq_getElem hlt⟩
      obtain ⟨x, hx⟩ := hobt
      have hobt : ∃ y, b[i]? = some y := ⟨_, List.getElem?_eq_getElem (by omega)⟩
      obtain ⟨y, hy⟩ := hobt
      by_cases hxy : x = y
      · conv => whnf
        repeat' (first | (refine tell (fun hQ => ?_) (fun hQ => ?_) <;> (try dsimp only at hQ) <;> first | (exfalso; omega) | (exact absurd rfl hQ) | (exact absurd hQ hne) | (exact absurd hne hQ) | (exact absurd (by decide) hQ) | (conv => whnf)) | (refine allG (x := x) (by first | exact hx | simpa [List.getElem?_append_right, lowOf] using hx | fail) ?_; conv => whnf) | (refine allLst (x := x) (by first | omega | assumption | fail) (by first | exact hx | simpa using hx | fail) ?_; conv => whnf) | (refine allG (x := y) (by first | exact hy | simpa [List.getElem?_append_right, lowOf] using hy | fail) ?_; conv => whnf) | (refine allLst (x := y) (by first | omega | assumption | fail) (by first | exact hy | simpa using hy | fail) ?_; conv => whnf) | (refine allG rfl ?_; conv => whnf) | (refine And.intro (by first | omega | assumption | kernel_rfl | exact And.intro rfl rfl | ((try dsimp only [inR, idx, lowOf]); first | omega | (with_reducible decide) | (simp; omega) | (simp; done) | fail) | fail) ?_; conv => whnf) | fail)
        refine ⟨i + 1, [], ⟨hlt, by rw [take_snocI hx, take_snocI hy, hs, hxy]⟩, ?_, rfl, ?_, ?_, rfl⟩
        · dsimp only; first | omega | (simp; done) | (simp; omega)
        all_goals (repeat' (first | exact trivial | exact rfl | refine And.intro ?_ ?_ | (refine congrArg vI ?_; first | omega | (dsimp only; omega) | fail) | (refine congrArg some ?_) | omega | exact Nat.le_refl _ | exact congrArg (SV.lst _) (List.take_of_length_le (Nat.le_refl _)).symm))
      · have hne : ¬ a = b := fun h => by subst h; rw [hx] at hy; cases hy; exact hxy rfl
        conv => whnf
        repeat' (first | (refine tell (fun hQ => ?_) (fun hQ => ?_) <;> (try dsimp only at hQ) <;> first | (exfalso; omega) | (exact absurd rfl hQ) | (exact absurd hQ hne) | (exact absurd hne hQ) | (exact absurd (by decide) hQ) | (conv => whnf)) | (refine allG (x := x) (by first | exact hx | simpa [List.getElem?_append_right, lowOf] using hx | fail) ?_; conv => whnf) | (refine allLst (x := x) (by first | omega | assumption | fail) (by first | exact hx | simpa using hx | fail) ?_; conv => whnf) | (refine allG (x := y) (by first | exact hy | simpa [List.getElem?_append_right, lowOf] using hy | fail) ?_; conv => whnf) | (refine allLst (x := y) (by first | omega | assumption | fail) (by first | exact hy | simpa using hy | fail) ?_; conv => whnf) | (refine allG rfl ?_; conv => whnf) | (refine And.intro (by first | omega | assumption | kernel_rfl | exact And.intro rfl rfl | ((try dsimp only [inR, idx, lowOf]); first | omega | (with_reducible decide) | (simp; omega) | (simp; done) | fail) | fail) ?_; conv => whnf) | fail)
        exact ⟨false, [], by simp [spInts, hne], rfl, trivial, trivial⟩
    · have hab : a = b := by
        rw [List.take_of_length_le (by omega), List.take_of_length_le (by omega)] at hs; exact hs
      conv => whnf
      repeat' (first | (refine tell (fun hQ => ?_) (fun hQ => ?_) <;> (try dsimp only at hQ) <;> first | (exfalso; omega) | (exact absurd rfl hQ) | (exact absurd hQ hne) | (exact absurd hne hQ) | (exact absurd (by decide) hQ) | (conv => whnf)) | (refine allG rfl ?_; conv => whnf) | (refine And.intro (by first | omega | assumption | kernel_rfl | exact And.intro rfl rfl | ((try dsimp only [inR, idx, lowOf]); first | omega | (with_reducible decide) | (simp; omega) | (simp; done) | fail) | fail) ?_; conv => whnf) | fail)
      exact ⟨true, [], by simp [spInts, hab], rfl, trivial, trivial⟩
  · have hne : ¬ a = b := fun h => hlen (by rw [h])
    conv => whnf
    repeat' (first | (refine tell (fun hQ => ?_) (fun hQ => ?_) <;> (try dsimp only at hQ) <;> first | (exfalso; omega) | (exact absurd rfl hQ) | (exact absurd hQ hne) | (exact absurd hne hQ) | (exact absurd (by decide) hQ) | (conv => whnf)) | (refine allG rfl ?_; conv => whnf) | (refine And.intro (by first | omega | assumption | kernel_rfl | exact And.intro rfl rfl | ((try dsimp only [inR, idx, lowOf]); first | omega | (with_reducible decide) | (simp; omega) | (simp; done) | fail) | fail) ?_; conv => whnf) | fail)
    exact ⟨false, [], by simp [spInts, hne], rfl, trivial, trivial⟩
def fitE (n : Int) (r : Int × Int × Int) : Edge := (pickF r.1 n, pickF r.2.1 n, 1 + pickF r.2.2 9)
def fitIn (es : List Edge) (e : Edge) : Bool := decide (e.1 ≠ e.2.1) && es.all fun x => decide (x.1 ≠ e.1) || decide (x.2.1 ≠ e.2.1)
def fitGo (n : Int) : List (Int × Int × Int) → List Edge → List Edge
  | [], es => es
  | r :: t, es => if es.length < 24 then fitGo n t (if fitIn es (fitE n r) then es ++ [fitE n r] else es) else es
def fitN (c : Int) : Int := 1 + pickF c 8
def fitL (c : Int) (l : List (Int × Int × Int)) : List Edge := fitGo (fitN c) l []
def spFit : Spec AF where
  γ := Int × List (Int × Int × Int)
  δ := Unit
  args := fun g => [vI g.1, .lst 96 g.2]
  own := fun _ => []
  pre := fun g => InI g.1 ∧ g.2.length ≤ 9223372036854775807 ∧ ∀ r ∈ g.2, InI r.1 ∧ InI r.2.1 ∧ InI r.2.2
  nnew := 0
  res := fun g _ => layS (fitN g.1) (fitL g.1 g.2)
  own' := fun _ _ => []
  post := fun _ _ => True
theorem fit_no {n : Int} {r : Int × Int × Int} {es : List Edge} (h : pickF r.1 n = pickF r.2.1 n) : fitIn es (fitE n r) = false := by
  unfold fitIn fitE; simp [h]
def fitA (es : List Edge) (e : Edge) : Bool := es.all fun x => decide (x.1 ≠ e.1) || decide (x.2.1 ≠ e.2.1)
theorem fit_yes {n : Int} {r : Int × Int × Int} {es : List Edge} (h : ¬ pickF r.1 n = pickF r.2.1 n) : fitIn es (fitE n r) = fitA es (fitE n r) := by
  unfold fitIn fitA
  rw [decide_eq_true (show (fitE n r).1 ≠ (fitE n r).2.1 from h), Bool.true_and]
theorem fitA_snoc {es : List Edge} {x e : Edge} : fitA (es ++ [x]) e = (fitA es e && (decide (x.1 ≠ e.1) || decide (x.2.1 ≠ e.2.1))) := by simp [fitA]
theorem fitGo_step {n : Int} {l : List (Int × Int × Int)} {i : Nat} {r : Int × Int × Int} {es : List Edge} (hx : l[i]? = some r) (h : es.length < 24) :
    fitGo n (l.drop i) es = fitGo n (l.drop (i + 1)) (if fitIn es (fitE n r) then es ++ [fitE n r] else es) := by
  have hobt := List.getElem?_eq_some_iff.1 hx
  obtain ⟨l1, rfl⟩ := hobt
  rw [List.drop_eq_getElem_cons l1, fitGo, if_pos h]
theorem fitGo_full {n : Int} {es : List Edge} (h : ¬ es.length < 24) : ∀ l, fitGo n l es = es
  | [] => rfl
  | _ :: _ => by rw [fitGo, if_neg h]
theorem fit_end {st : St AF} {n : Int} {es es' : List Edge} (h : es = es') (hh : st.h 3000 = some (.arr 49 es) := by rfl) : EntL regF st [vI n, .sl 3000 3 0 es.length] [vI n, .lst 49 es'] := by
  subst h
  refine ⟨rfl, ?_, trivial⟩
  show EntA0 regF st (.sl 3000 3 0 es.length) (.lst 49 es)
  unfold EntA0
  dsimp only
  rw [hh]
  exact ⟨by omega, rfl, congrArg (SV.lst 49) (by simp)⟩
theorem m_fit : Meets Tryd.prog regF 20 spFit := by
  refine meets Tryd.func20 93 noWr rfl (by kernel_rfl) (by kernel_rfl) ?_
  rintro ⟨(c : Int), (l : List (Int × Int × Int))⟩ ⟨(hc : InI c), (hl : l.length ≤ 9223372036854775807), (hr : ∀ r ∈ l, InI r.1 ∧ InI r.2.1 ∧ InI r.2.2)⟩
  have h8 := pickF_bd (c := c) (n := 8) (by omega)
  have hn0 : 0 < fitN c ∧ fitN c ≤ 8 := by unfold fitN; omega
  conv => whnf
  repeat' (first | (refine tell (fun hQ => ?_) (fun hQ => ?_) <;> (try dsimp only at hQ) <;> first | (exfalso; omega) | (exact absurd rfl hQ) | (exact absurd hQ hne) | (exact absurd hne hQ) | (exact absurd (by decide) hQ) | (conv => whnf)) | (refine allG rfl ?_; conv => whnf) | (refine And.intro (by first | omega | assumption | kernel_rfl | exact And.intro rfl rfl | ((try dsimp only [inR, idx, lowOf]); first | omega | (with_reducible decide) | (simp; omega) | (simp; done) | fail) | fail) ?_; conv => whnf) | fail)
  refine ⟨_, m_pick11, (c, 8), [], false, ?_⟩
  conv => whnf
  refine And.intro (vc0 ⟨hc, by show (0 : Int) < 8; decide⟩ (by (repeat' (first | exact trivial | exact rfl | refine And.intro ?_ ?_ | (refine congrArg vI ?_; first | omega | (dsimp only; omega) | fail) | (refine congrArg some ?_) | omega | exact Nat.le_refl _ | exact congrArg (SV.lst _) (List.take_of_length_le (Nat.le_refl _)).symm))) (by repeat' (first | exact trivial | exact rfl | refine And.intro ?_ ?_ | (refine congrArg vI ?_; first | omega | (dsimp only; omega) | fail) | (refine congrArg some ?_) | omega | exact Nat.le_refl _ | exact congrArg (SV.lst _) (List.take_of_length_le (Nat.le_refl _)).symm)) trivial trivial) ?_
  refine And.intro ⟨(), trivial⟩ (fun (_ : Unit) _ => ?_)
  conv => whnf
  conv => whnf
  repeat' (first | (refine tell (fun hQ => ?_) (fun hQ => ?_) <;> (try dsimp only at hQ) <;> first | (exfalso; omega) | (exact absurd rfl hQ) | (exact absurd hQ hne) | (exact absurd hne hQ) | (exact absurd (by decide) hQ) | (conv => whnf)) | (refine allG rfl ?_; conv => whnf) | (refine And.intro (by first | omega | assumption | kernel_rfl | exact And.intro rfl rfl | ((try dsimp only [inR, idx, lowOf]); first | omega | (with_reducible decide) | (simp; omega) | (simp; done) | fail) | fail) ?_; conv => whnf) | fail)
  refine ⟨Nat × List Edge, fun p => ⟨[(0, vI c), (1, .lst 96 l), (4, .ptr 1004 0 2 0), (5, .ptr 1005 0 2 0), (6, vI p.1)], [(1004, .cells [vI 0, .val (.slice none 0 0)]), (1005, .cells [vI (fitN c), .sl 3000 3 0 p.2.length]), (3000, .arr 49 p.2)]⟩, fun p => p.1 ≤ l.length ∧ p.2.length ≤ 24 ∧ fitGo (fitN c) (l.drop p.1) p.2 = fitGo (fitN c) l [], fun p => l.length - p.1, fun _ _ => rfl, ⟨(0, []), [], ⟨Nat.zero_le _, Nat.zero_le _, rfl⟩, ?_⟩, ?_⟩
  · refine ⟨rfl, ?_, ?_, rfl⟩
    all_goals (repeat' (first | exact trivial | exact rfl | refine And.intro ?_ ?_ | (refine congrArg vI ?_; first | omega | (dsimp only; omega) | fail) | (refine congrArg some ?_) | omega | exact Nat.le_refl _ | exact congrArg (SV.lst _) (List.take_of_length_le (Nat.le_refl _)).symm))
  rintro ⟨(i : Nat), (es : List Edge)⟩ ⟨(hi : i ≤ l.length), (he24 : es.length ≤ 24), (hs : fitGo (fitN c) (l.drop i) es = fitGo (fitN c) l [])⟩
  by_cases hlt : i < l.length
  · have hobt : ∃ x, l[i]? = some x := ⟨_, List.getElem?_eq_getElem hlt⟩
    obtain ⟨x, hx⟩ := hobt
    have hobt := hr x (List.mem_of_getElem? hx)
    obtain ⟨hx1, hx2, hx3⟩ := hobt
    by_cases h24 : es.length < 24
    · rw [fitGo_step hx h24] at hs
      conv => whnf
      repeat' (first | (refine tell (fun hQ => ?_) (fun hQ => ?_) <;> (try dsimp only at hQ) <;> first | (exfalso; omega) | (exact absurd rfl hQ) | (exact absurd hQ hne) | (exact absurd hne hQ) | (exact absurd (by decide) hQ) | (conv => whnf)) | (refine allG (x := x) (by first | exact hx | simpa [List.getElem?_append_right, lowOf] using hx | fail) ?_; conv => whnf) | (refine allLst (x := x) (by first | omega | assumption | fail) (by first | exact hx | simpa using hx | fail) ?_; conv => whnf) | (refine allG rfl ?_; conv => whnf) | (refine And.intro (by first | omega | assumption | kernel_rfl | exact And.intro rfl rfl | ((try dsimp only [inR, idx, lowOf]); first | omega | (with_reducible decide) | (simp; omega) | (simp; done) | fail) | fail) ?_; conv => whnf) | fail)
      refine ⟨_, m_pick11, (x.1, fitN c), [], false, ?_⟩
      conv => whnf
      refine And.intro (vc0 ⟨hx1, hn0.1⟩ (by (repeat' (first | exact trivial | exact rfl | refine And.intro ?_ ?_ | (refine congrArg vI ?_; first | omega | (dsimp only; omega) | fail) | (refine congrArg some ?_) | omega | exact Nat.le_refl _ | exact congrArg (SV.lst _) (List.take_of_length_le (Nat.le_refl _)).symm))) (by repeat' (first | exact trivial | exact rfl | refine And.intro ?_ ?_ | (refine congrArg vI ?_; first | omega | (dsimp only; omega) | fail) | (refine congrArg some ?_) | omega | exact Nat.le_refl _ | exact congrArg (SV.lst _) (List.take_of_length_le (Nat.le_refl _)).symm)) trivial trivial) ?_
      refine And.intro ⟨(), trivial⟩ (fun (_ : Unit) _ => ?_)
      conv => whnf
      conv => whnf
      repeat' (first | (refine tell (fun hQ => ?_) (fun hQ => ?_) <;> (try dsimp only at hQ) <;> first | (exfalso; omega) | (exact absurd rfl hQ) | (exact absurd hQ hne) | (exact absurd hne hQ) | (exact absurd (by decide) hQ) | (conv => whnf)) | (refine allG (x := x) (by first | exact hx | simpa [List.getElem?_append_right, lowOf] using hx | fail) ?_; conv => whnf) | (refine allLst (x := x) (by first | omega | assumption | fail) (by first | exact hx | simpa using hx | fail) ?_; conv => whnf) | (refine allG rfl ?_; conv => whnf) | (refine And.intro (by first | omega | assumption | kernel_rfl | exact And.intro rfl rfl | ((try dsimp only [inR, idx, lowOf]); first | omega | (with_reducible decide) | (simp; omega) | (simp; done) | fail) | fail) ?_; conv => whnf) | fail)
      refine ⟨_, m_pick11, (x.2.1, fitN c), [], false, ?_⟩
      conv => whnf
      refine And.intro (vc0 ⟨hx2, hn0.1⟩ (by (repeat' (first | exact trivial | exact rfl | refine And.intro ?_ ?_ | (refine congrArg vI ?_; first | omega | (dsimp only; omega) | fail) | (refine congrArg some ?_) | omega | exact Nat.le_refl _ | exact congrArg (SV.lst _) (List.take_of_length_le (Nat.le_refl _)).symm))) (by repeat' (first | exact trivial | exact rfl | refine And.intro ?_ ?_ | (refine congrArg vI ?_; first | omega | (dsimp only; omega) | fail) | (refine congrArg some ?_) | omega | exact Nat.le_refl _ | exact congrArg (SV.lst _) (List.take_of_length_le (Nat.le_refl _)).symm)) trivial trivial) ?_
      refine And.intro ⟨(), trivial⟩ (fun (_ : Unit) _ => ?_)
      conv => whnf
      conv => whnf
      repeat' (first | (refine tell (fun hQ => ?_) (fun hQ => ?_) <;> (try dsimp only at hQ) <;> first | (exfalso; omega) | (exact absurd rfl hQ) | (exact absurd hQ hne) | (exact absurd hne hQ) | (exact absurd (by decide) hQ) | (conv => whnf)) | (refine allG (x := x) (by first | exact hx | simpa [List.getElem?_append_right, lowOf] using hx | fail) ?_; conv => whnf) | (refine allLst (x := x) (by first | omega | assumption | fail) (by first | exact hx | simpa using hx | fail) ?_; conv => whnf) | (refine allG rfl ?_; conv => whnf) | (refine And.intro (by first | omega | assumption | kernel_rfl | exact And.intro rfl rfl | ((try dsimp only [inR, idx, lowOf]); first | omega | (with_reducible decide) | (simp; omega) | (simp; done) | fail) | fail) ?_; conv => whnf) | fail)
      refine ⟨_, m_pick11, (x.2.2, 9), [], false, ?_⟩
      conv => whnf
      refine And.intro (vc0 ⟨hx3, by show (0 : Int) < 9; decide⟩ (by (repeat' (first | exact trivial | exact rfl | refine And.intro ?_ ?_ | (refine congrArg vI ?_; first | omega | (dsimp only; omega) | fail) | (refine congrArg some ?_) | omega | exact Nat.le_refl _ | exact congrArg (SV.lst _) (List.take_of_length_le (Nat.le_refl _)).symm))) (by repeat' (first | exact trivial | exact rfl | refine And.intro ?_ ?_ | (refine congrArg vI ?_; first | omega | (dsimp only; omega) | fail) | (refine congrArg some ?_) | omega | exact Nat.le_refl _ | exact congrArg (SV.lst _) (List.take_of_length_le (Nat.le_refl _)).symm)) trivial trivial) ?_
      refine And.intro ⟨(), trivial⟩ (fun (_ : Unit) _ => ?_)
      conv => whnf
      have h9 := pickF_bd (c := x.2.2) (n := 9) (by omega)
      by_cases hne : pickF x.1 (fitN c) = pickF x.2.1 (fitN c)
      · rw [fit_no hne, if_neg (by simp)] at hs
        conv => whnf
        repeat' (first | (refine tell (fun hQ => ?_) (fun hQ => ?_) <;> (try dsimp only at hQ) <;> first | (exfalso; omega) | (exact absurd rfl hQ) | (exact absurd hQ hne) | (exact absurd hne hQ) | (exact absurd (by decide) hQ) | (conv => whnf)) | (refine allG rfl ?_; conv => whnf) | (refine And.intro (by first | omega | assumption | kernel_rfl | exact And.intro rfl rfl | ((try dsimp only [inR, idx, lowOf]); first | omega | (with_reducible decide) | (simp; omega) | (simp; done) | fail) | fail) ?_; conv => whnf) | fail)
        refine ⟨Nat, fun j => ⟨[(0, vI c), (1, .lst 96 l), (4, .ptr 1004 0 2 0), (5, .ptr 1005 0 2 0), (6, vI i), (7, .ptr 1007 0 3 0), (8, vB false), (9, vI j)], [(1004, .cells [vI 0, .val (.slice none 0 0)]), (1005, .cells [vI (fitN c), .sl 3000 3 0 es.length]), (3000, .arr 49 es), (1007, .cells [vI (pickF x.1 (fitN c)), vI (pickF x.2.1 (fitN c)), vI (1 + pickF x.2.2 9)])]⟩, fun j => j ≤ es.length, fun j => es.length - j, fun _ _ => rfl, ⟨0, [], Nat.zero_le _, ?_⟩, ?_⟩
        · refine ⟨rfl, ?_, ?_, rfl⟩
          all_goals (repeat' (first | exact trivial | exact rfl | refine And.intro ?_ ?_ | (refine congrArg vI ?_; first | omega | (dsimp only; omega) | fail) | (refine congrArg some ?_) | omega | exact Nat.le_refl _ | exact congrArg (SV.lst _) (List.take_of_length_le (Nat.le_refl _)).symm))
        rintro (j : Nat) (hj : j ≤ es.length)
        by_cases hjl : j < es.length
        · have hobt : ∃ y, es[j]? = some y := ⟨_, List.getElem?_eq_getElem hjl⟩
          obtain ⟨y, hy⟩ := hobt
          conv => whnf
          repeat' (first | (refine tell (fun hQ => ?_) (fun hQ => ?_) <;> (try dsimp only at hQ) <;> first | (exfalso; omega) | (exact absurd rfl hQ) | (exact absurd hQ hne) | (exact absurd hne hQ) | (exact absurd (by decide) hQ) | (conv => whnf)) | (refine allG (x := y) (by first | exact hy | simpa [List.getElem?_append_right, lowOf] using hy | fail) ?_; conv => whnf) | (refine allLst (x := y) (by first | omega | assumption | fail) (by first | exact hy | simpa using hy | fail) ?_; conv => whnf) | (refine allG rfl ?_; conv => whnf) | (refine And.intro (by first | omega | assumption | kernel_rfl | exact And.intro rfl rfl | ((try dsimp only [inR, idx, lowOf]); first | omega | (with_reducible decide) | (simp; omega) | (simp; done) | fail) | fail) ?_; conv => whnf) | fail)
          refine ⟨j + 1, [], hjl, ?_, rfl, ?_, ?_, rfl⟩
          · dsimp only; first | omega | (simp; done) | (simp; omega)
          all_goals (repeat' (first | exact trivial | exact rfl | refine And.intro ?_ ?_ | (refine congrArg vI ?_; first | omega | (dsimp only; omega) | fail) | (refine congrArg some ?_) | omega | exact Nat.le_refl _ | exact congrArg (SV.lst _) (List.take_of_length_le (Nat.le_refl _)).symm))
        · have hj : j = es.length := by omega
          subst hj
          conv => whnf
          repeat' (first | (refine tell (fun hQ => ?_) (fun hQ => ?_) <;> (try dsimp only at hQ) <;> first | (exfalso; omega) | (exact absurd rfl hQ) | (exact absurd hQ hne) | (exact absurd hne hQ) | (exact absurd (by decide) hQ) | (conv => whnf)) | (refine allG rfl ?_; conv => whnf) | (refine And.intro (by first | omega | assumption | kernel_rfl | exact And.intro rfl rfl | ((try dsimp only [inR, idx, lowOf]); first | omega | (with_reducible decide) | (simp; omega) | (simp; done) | fail) | fail) ?_; conv => whnf) | fail)
          refine ⟨(i + 1, es), [], ⟨hlt, he24, hs⟩, ?_, rfl, ?_, ?_, rfl⟩
          · dsimp only; first | omega | (simp; done) | (simp; omega)
          all_goals (repeat' (first | exact trivial | exact rfl | refine And.intro ?_ ?_ | (refine congrArg vI ?_; first | omega | (dsimp only; omega) | fail) | (refine congrArg some ?_) | omega | exact Nat.le_refl _ | exact congrArg (SV.lst _) (List.take_of_length_le (Nat.le_refl _)).symm))
      · rw [fit_yes hne] at hs
        conv => whnf
        repeat' (first | (refine tell (fun hQ => ?_) (fun hQ => ?_) <;> (try dsimp only at hQ) <;> first | (exfalso; omega) | (exact absurd rfl hQ) | (exact absurd hQ hne) | (exact absurd hne hQ) | (exact absurd (by decide) hQ) | (conv => whnf)) | (refine allG rfl ?_; conv => whnf) | (refine And.intro (by first | omega | assumption | kernel_rfl | exact And.intro rfl rfl | ((try dsimp only [inR, idx, lowOf]); first | omega | (with_reducible decide) | (simp; omega) | (simp; done) | fail) | fail) ?_; conv => whnf) | fail)
        refine ⟨Nat × Bool, fun p => ⟨[(0, vI c), (1, .lst 96 l), (4, .ptr 1004 0 2 0), (5, .ptr 1005 0 2 0), (6, vI i), (7, .ptr 1007 0 3 0), (8, vB p.2), (9, vI p.1)], [(1004, .cells [vI 0, .val (.slice none 0 0)]), (1005, .cells [vI (fitN c), .sl 3000 3 0 es.length]), (3000, .arr 49 es), (1007, .cells [vI (pickF x.1 (fitN c)), vI (pickF x.2.1 (fitN c)), vI (1 + pickF x.2.2 9)])]⟩, fun p => p.1 ≤ es.length ∧ p.2 = fitA (es.take p.1) (fitE (fitN c) x), fun p => es.length - p.1, fun _ _ => rfl, ⟨(0, true), [], ⟨Nat.zero_le _, rfl⟩, ?_⟩, ?_⟩
        · refine ⟨rfl, ?_, ?_, rfl⟩
          all_goals (repeat' (first | exact trivial | exact rfl | refine And.intro ?_ ?_ | (refine congrArg vI ?_; first | omega | (dsimp only; omega) | fail) | (refine congrArg some ?_) | omega | exact Nat.le_refl _ | exact congrArg (SV.lst _) (List.take_of_length_le (Nat.le_refl _)).symm))
        rintro ⟨(j : Nat), (b : Bool)⟩ ⟨(hj : j ≤ es.length), (hb : b = fitA (es.take j) (fitE (fitN c) x))⟩
        by_cases hjl : j < es.length
        · have hobt : ∃ y, es[j]? = some y := ⟨_, List.getElem?_eq_getElem hjl⟩
          obtain ⟨y, hy⟩ := hobt
          have hsn : fitA (es.take (j + 1)) (fitE (fitN c) x) = (b && (decide (y.1 ≠ pickF x.1 (fitN c)) || decide (y.2.1 ≠ pickF x.2.1 (fitN c)))) := by rw [take_snocI hy, fitA_snoc, ← hb]; rfl
          cases b
          · conv => whnf
            repeat' (first | (refine tell (fun hQ => ?_) (fun hQ => ?_) <;> (try dsimp only at hQ) <;> first | (exfalso; omega) | (exact absurd rfl hQ) | (exact absurd hQ hne) | (exact absurd hne hQ) | (exact absurd (by decide) hQ) | (conv => whnf)) | (refine allG (x := y) (by first | exact hy | simpa [List.getElem?_append_right, lowOf] using hy | fail) ?_; conv => whnf) | (refine allLst (x := y) (by first | omega | assumption | fail) (by first | exact hy | simpa using hy | fail) ?_; conv => whnf) | (refine allG rfl ?_; conv => whnf) | (refine And.intro (by first | omega | assumption | kernel_rfl | exact And.intro rfl rfl | ((try dsimp only [inR, idx, lowOf]); first | omega | (with_reducible decide) | (simp; omega) | (simp; done) | fail) | fail) ?_; conv => whnf) | fail)
            refine ⟨(j + 1, false), [], ⟨hjl, by rw [hsn]; rfl⟩, ?_, rfl, ?_, ?_, rfl⟩
            · dsimp only; first | omega | (simp; done) | (simp; omega)
            all_goals (repeat' (first | exact trivial | exact rfl | refine And.intro ?_ ?_ | (refine congrArg vI ?_; first | omega | (dsimp only; omega) | fail) | (refine congrArg some ?_) | omega | exact Nat.le_refl _ | exact congrArg (SV.lst _) (List.take_of_length_le (Nat.le_refl _)).symm))
          · by_cases h1 : y.1 = pickF x.1 (fitN c)
            · by_cases h2 : y.2.1 = pickF x.2.1 (fitN c)
              · conv => whnf
                repeat' (first | (refine tell (fun hQ => ?_) (fun hQ => ?_) <;> (try dsimp only at hQ) <;> first | (exfalso; omega) | (exact absurd rfl hQ) | (exact absurd hQ hne) | (exact absurd hne hQ) | (exact absurd (by decide) hQ) | (conv => whnf)) | (refine allG (x := y) (by first | exact hy | simpa [List.getElem?_append_right, lowOf] using hy | fail) ?_; conv => whnf) | (refine allLst (x := y) (by first | omega | assumption | fail) (by first | exact hy | simpa using hy | fail) ?_; conv => whnf) | (refine allG rfl ?_; conv => whnf) | (refine And.intro (by first | omega | assumption | kernel_rfl | exact And.intro rfl rfl | ((try dsimp only [inR, idx, lowOf]); first | omega | (with_reducible decide) | (simp; omega) | (simp; done) | fail) | fail) ?_; conv => whnf) | fail)
                refine ⟨(j + 1, false), [], ⟨hjl, by rw [hsn]; simp [h1, h2]⟩, ?_, rfl, ?_, ?_, rfl⟩
                · dsimp only; first | omega | (simp; done) | (simp; omega)
                all_goals (repeat' (first | exact trivial | exact rfl | refine And.intro ?_ ?_ | (refine congrArg vI ?_; first | omega | (dsimp only; omega) | fail) | (refine congrArg some ?_) | omega | exact Nat.le_refl _ | exact congrArg (SV.lst _) (List.take_of_length_le (Nat.le_refl _)).symm))
              · conv => whnf
                repeat' (first | (refine tell (fun hQ => ?_) (fun hQ => ?_) <;> (try dsimp only at hQ) <;> first | (exfalso; omega) | (exact absurd rfl hQ) | (exact absurd hQ hne) | (exact absurd hne hQ) | (exact absurd (by decide) hQ) | (conv => whnf)) | (refine allG (x := y) (by first | exact hy | simpa [List.getElem?_append_right, lowOf] using hy | fail) ?_; conv => whnf) | (refine allLst (x := y) (by first | omega | assumption | fail) (by first | exact hy | simpa using hy | fail) ?_; conv => whnf) | (refine allG rfl ?_; conv => whnf) | (refine And.intro (by first | omega | assumption | kernel_rfl | exact And.intro rfl rfl | ((try dsimp only [inR, idx, lowOf]); first | omega | (with_reducible decide) | (simp; omega) | (simp; done) | fail) | fail) ?_; conv => whnf) | fail)
                refine ⟨(j + 1, true), [], ⟨hjl, by rw [hsn]; simp [h2]⟩, ?_, rfl, ?_, ?_, rfl⟩
                · dsimp only; first | omega | (simp; done) | (simp; omega)
                all_goals (repeat' (first | exact trivial | exact rfl | refine And.intro ?_ ?_ | (refine congrArg vI ?_; first | omega | (dsimp only; omega) | fail) | (refine congrArg some ?_) | omega | exact Nat.le_refl _ | exact congrArg (SV.lst _) (List.take_of_length_le (Nat.le_refl _)).symm))
            · conv => whnf
              repeat' (first | (refine tell (fun hQ => ?_) (fun hQ => ?_) <;> (try dsimp only at hQ) <;> first | (exfalso; omega) | (exact absurd rfl hQ) | (exact absurd hQ hne) | (exact absurd hne hQ) | (exact absurd (by decide) hQ) | (conv => whnf)) | (refine allG (x := y) (by first | exact hy | simpa [List.getElem?_append_right, lowOf] using hy | fail) ?_; conv => whnf) | (refine allLst (x := y) (by first | omega | assumption | fail) (by first | exact hy | simpa using hy | fail) ?_; conv => whnf) | (refine allG rfl ?_; conv => whnf) | (refine And.intro (by first | omega | assumption | kernel_rfl | exact And.intro rfl rfl | ((try dsimp only [inR, idx, lowOf]); first | omega | (with_reducible decide) | (simp; omega) | (simp; done) | fail) | fail) ?_; conv => whnf) | fail)
              refine ⟨(j + 1, true), [], ⟨hjl, by rw [hsn]; simp [h1]⟩, ?_, rfl, ?_, ?_, rfl⟩
              · dsimp only; first | omega | (simp; done) | (simp; omega)
              all_goals (repeat' (first | exact trivial | exact rfl | refine And.intro ?_ ?_ | (refine congrArg vI ?_; first | omega | (dsimp only; omega) | fail) | (refine congrArg some ?_) | omega | exact Nat.le_refl _ | exact congrArg (SV.lst _) (List.take_of_length_le (Nat.le_refl _)).symm))
        · have hj : j = es.length := by omega
          subst hj
          rw [List.take_of_length_le (Nat.le_refl _)] at hb
          rw [← hb] at hs
          cases b
          · rw [if_neg (by simp)] at hs
            conv => whnf
            repeat' (first | (refine tell (fun hQ => ?_) (fun hQ => ?_) <;> (try dsimp only at hQ) <;> first | (exfalso; omega) | (exact absurd rfl hQ) | (exact absurd hQ hne) | (exact absurd hne hQ) | (exact absurd (by decide) hQ) | (conv => whnf)) | (refine allG rfl ?_; conv => whnf) | (refine And.intro (by first | omega | assumption | kernel_rfl | exact And.intro rfl rfl | ((try dsimp only [inR, idx, lowOf]); first | omega | (with_reducible decide) | (simp; omega) | (simp; done) | fail) | fail) ?_; conv => whnf) | fail)
            refine ⟨(i + 1, es), [], ⟨hlt, he24, hs⟩, ?_, rfl, ?_, ?_, rfl⟩
            · dsimp only; first | omega | (simp; done) | (simp; omega)
            all_goals (repeat' (first | exact trivial | exact rfl | refine And.intro ?_ ?_ | (refine congrArg vI ?_; first | omega | (dsimp only; omega) | fail) | (refine congrArg some ?_) | omega | exact Nat.le_refl _ | exact congrArg (SV.lst _) (List.take_of_length_le (Nat.le_refl _)).symm))
          · rw [if_pos rfl] at hs
            conv => whnf
            repeat' (first | (refine tell (fun hQ => ?_) (fun hQ => ?_) <;> (try dsimp only at hQ) <;> first | (exfalso; omega) | (exact absurd rfl hQ) | (exact absurd hQ hne) | (exact absurd hne hQ) | (exact absurd (by decide) hQ) | (conv => whnf)) | (refine allG rfl ?_; conv => whnf) | (refine And.intro (by first | omega | assumption | kernel_rfl | exact And.intro rfl rfl | ((try dsimp only [inR, idx, lowOf]); first | omega | (with_reducible decide) | (simp; omega) | (simp; done) | fail) | fail) ?_; conv => whnf) | fail)
            refine ⟨(i + 1, es ++ [fitE (fitN c) x]), [(3000, 1090)], ⟨hlt, by simp; omega, hs⟩, ?_, rfl, ?_, ?_, rfl⟩
            · dsimp only; first | omega | (simp; done) | (simp; omega)
            all_goals (repeat' (first | exact trivial | exact rfl | refine And.intro ?_ ?_ | (refine congrArg vI ?_; first | omega | (dsimp only; omega) | fail) | (refine congrArg some ?_) | omega | exact Nat.le_refl _ | exact congrArg (SV.lst _) (List.take_of_length_le (Nat.le_refl _)).symm))
            · exact congrArg (SV.sl (A := AF) 1090 3 0) (show es.length + 1 = (es ++ [fitE (fitN c) x]).length by simp)
            · exact congrArg (Ct.arr (A := AF) 49) (show (es.drop 0).take es.length ++ [fitE (fitN c) x] = es ++ [fitE (fitN c) x] by simp)
    · rw [fitGo_full h24] at hs
      conv => whnf
      repeat' (first | (refine tell (fun hQ => ?_) (fun hQ => ?_) <;> (try dsimp only at hQ) <;> first | (exfalso; omega) | (exact absurd rfl hQ) | (exact absurd hQ hne) | (exact absurd hne hQ) | (exact absurd (by decide) hQ) | (conv => whnf)) | (refine allG rfl ?_; conv => whnf) | (refine And.intro (by first | omega | assumption | kernel_rfl | exact And.intro rfl rfl | ((try dsimp only [inR, idx, lowOf]); first | omega | (with_reducible decide) | (simp; omega) | (simp; done) | fail) | fail) ?_; conv => whnf) | fail)
      exact ⟨(), [], trivial, fit_end hs, trivial, trivial⟩
  · rw [List.drop_eq_nil_of_le (by omega)] at hs
    conv => whnf
    repeat' (first | (refine tell (fun hQ => ?_) (fun hQ => ?_) <;> (try dsimp only at hQ) <;> first | (exfalso; omega) | (exact absurd rfl hQ) | (exact absurd hQ hne) | (exact absurd hne hQ) | (exact absurd (by decide) hQ) | (conv => whnf)) | (refine allG rfl ?_; conv => whnf) | (refine And.intro (by first | omega | assumption | kernel_rfl | exact And.intro rfl rfl | ((try dsimp only [inR, idx, lowOf]); first | omega | (with_reducible decide) | (simp; omega) | (simp; done) | fail) | fail) ?_; conv => whnf) | fail)
    exact ⟨(), [], trivial, fit_end hs, trivial, trivial⟩
theorem RightL.good {n : Int} {es : List Edge} (h : RightL n es) : GoodL es := by
  have := h.len
  have := h.most
  refine ⟨by omega, fun e he => ?_⟩
  have hobt := h.each e he
  obtain ⟨a, b, c, d, _⟩ := hobt
  exact ⟨⟨by omega, by omega⟩, ⟨by omega, by omega⟩⟩
theorem fitE_ok {n : Int} (hn : 0 < n) (r : Int × Int × Int) (hne : (fitE n r).1 ≠ (fitE n r).2.1) : EdgeOk n (fitE n r) := by
  have h1 := pickF_bd (c := r.1) hn
  have h2 := pickF_bd (c := r.2.1) hn
  have h3 := pickF_bd (c := r.2.2) (n := 9) (by omega)
  refine ⟨h1.1, h1.2, h2.1, h2.2, hne, ?_, ?_⟩
  · show 1 ≤ 1 + pickF r.2.2 9; omega
  · show 1 + pickF r.2.2 9 ≤ 1000; omega
theorem fitIn_iff {es : List Edge} {e : Edge} : fitIn es e = true ↔ e.1 ≠ e.2.1 ∧ wayE e ∉ es.map wayE := by
  unfold fitIn
  simp only [Bool.and_eq_true, decide_eq_true_iff, List.all_eq_true, Bool.or_eq_true, List.mem_map, not_exists, not_and]
  refine and_congr Iff.rfl ⟨fun h x hx he => ?_, fun h x hx => ?_⟩
  · have h1 : x.1 = e.1 := (Prod.ext_iff.1 he).1
    have h2 : x.2.1 = e.2.1 := (Prod.ext_iff.1 he).2
    rcases h x hx with h3 | h3
    · exact h3 h1
    · exact h3 h2
  · by_cases h1 : x.1 = e.1
    · right; intro h2; exact h x hx (Prod.ext h1 h2)
    · exact .inl h1
theorem fitGo_right {n : Int} (hn : 0 < n) (hn8 : n ≤ 40) : ∀ (l : List (Int × Int × Int)) (es : List Edge), RightL n es → es.length ≤ 24 → RightL n (fitGo n l es) ∧ (fitGo n l es).length ≤ 24
  | [], es, h, hl => ⟨h, hl⟩
  | r :: t, es, h, hl => by
    unfold fitGo
    by_cases h24 : es.length < 24
    · rw [if_pos h24]
      by_cases hin : fitIn es (fitE n r) = true
      · rw [if_pos hin]
        have hobt := fitIn_iff.1 hin
        obtain ⟨h1, h2⟩ := hobt
        refine fitGo_right hn hn8 t _ ⟨hn, hn8, by simp; omega, fun e he => ?_, ?_⟩ (by simp; omega)
        · rcases List.mem_append.1 he with he | he
          · exact h.each e he
          · simp at he; subst he; exact fitE_ok hn r h1
        · rw [List.map_append, List.nodup_append]
          refine ⟨h.apart, by simp, fun a ha b hb => ?_⟩
          simp at hb; subst hb
          rintro rfl
          exact h2 ha
      · rw [if_neg hin]
        exact fitGo_right hn hn8 t es h hl
    · rw [if_neg h24]; exact ⟨h, hl⟩
theorem fitN_bd (c : Int) : 0 < fitN c ∧ fitN c ≤ 8 := by
  have h8 := pickF_bd (c := c) (n := 8) (by omega)
  unfold fitN; omega
theorem fit_right (c : Int) (l : List (Int × Int × Int)) : RightL (fitN c) (fitL c l) ∧ (fitL c l).length ≤ 24 := by
  have h := fitN_bd c
  exact fitGo_right h.1 (by omega) l [] ⟨h.1, by omega, by simp, fun e he => by simp at he, by simp⟩ (by simp)
end Go.Sx


/-
  The door's seat, part B: of lists of numbers: Contains, Index, and the like; first_ex, pred_ex.
-/
namespace Go.Sx
open Go Go.Proofs Go.Proofs.YtmogappoadglgaaDoor
def spHas : Spec AF where
  γ := List Int × Int
  δ := Bool
  args := fun g => [.lst 3 g.1, vI g.2]
  own := fun _ => []
  pre := fun g => g.1.length ≤ 9223372036854775807
  nnew := 0
  res := fun _ c => vB c
  own' := fun _ _ => []
  post := fun g c => (c = true ↔ g.2 ∈ g.1)
theorem has_ex (a : List Int) (k : Int) : ∃ c : Bool, c = true ↔ k ∈ a := by
  by_cases h : k ∈ a
  · exact ⟨true, by simp [h]⟩
  · exact ⟨false, by simp [h]⟩
def spIndex : Spec AF where
  γ := List Int × Int
  δ := Int
  args := fun g => [.lst 3 g.1, vI g.2]
  own := fun _ => []
  pre := fun g => g.1.length ≤ 9223372036854775807
  nnew := 0
  res := fun _ r => vI r
  own' := fun _ _ => []
  post := fun g r => (0 ≤ r ↔ g.2 ∈ g.1)
theorem m_index : Meets Tryd.prog regF 88 spIndex := by
  refine meets Tryd.func88 19 noWr rfl (by kernel_rfl) (by kernel_rfl) ?_
  rintro ⟨(a : List Int), (k : Int)⟩ (hl : a.length ≤ 9223372036854775807)
  conv => whnf
  repeat' (first | (refine tell (fun hQ => ?_) (fun hQ => ?_) <;> (try dsimp only at hQ) <;> first | (exfalso; omega) | (exact absurd rfl hQ) | (exact absurd (by decide) hQ) | (conv => whnf)) | (refine allG rfl ?_; conv => whnf) | (refine And.intro (by first | omega | assumption | kernel_rfl | exact And.intro rfl rfl | ((try dsimp only [inR, idx, lowOf]); first | omega | (with_reducible decide) | (simp; omega) | (simp; done) | fail) | fail) ?_; conv => whnf) | fail)
  refine ⟨Nat, fun i => ⟨[(0, .lst 3 a), (1, vI k), (7, vI a.length), (8, vI i)], []⟩, fun i => i ≤ a.length ∧ k ∉ a.take i, fun i => a.length - i, fun _ _ => rfl, ⟨0, [], ⟨Nat.zero_le _, by simp⟩, ?_⟩, ?_⟩
  · refine ⟨rfl, ?_, ?_, rfl⟩
    all_goals (repeat' (first | exact trivial | exact rfl | refine And.intro ?_ ?_ | (refine congrArg vI ?_; first | omega | (dsimp only; omega) | fail) | (refine congrArg some ?_) | omega | exact Nat.le_refl _ | exact congrArg (SV.lst _) (List.take_of_length_le (Nat.le_refl _)).symm))
  rintro (i : Nat) ⟨(hi : i ≤ a.length), (hs : k ∉ a.take i)⟩
  by_cases hlt : i < a.length
  · have hobt : ∃ x, a[i]? = some x := ⟨_, List.getElem?_eq_getElem hlt⟩
    obtain ⟨x, hx⟩ := hobt
    have hm := List.mem_of_getElem? hx
    by_cases hxk : x = k
    · conv => whnf
      repeat' (first | (refine tell (fun hQ => ?_) (fun hQ => ?_) <;> (try dsimp only at hQ) <;> first | (exfalso; omega) | (exact absurd rfl hQ) | (exact absurd (by decide) hQ) | (conv => whnf)) | (refine allG (x := x) (by first | exact hx | simpa [List.getElem?_append_right, lowOf] using hx | fail) ?_; conv => whnf) | (refine allLst (x := x) (by first | omega | assumption | fail) (by first | exact hx | simpa using hx | fail) ?_; conv => whnf) | (refine allG rfl ?_; conv => whnf) | (refine And.intro (by first | omega | assumption | kernel_rfl | exact And.intro rfl rfl | ((try dsimp only [inR, idx, lowOf]); first | omega | (with_reducible decide) | (simp; omega) | (simp; done) | fail) | fail) ?_; conv => whnf) | fail)
      exact ⟨(i : Int), [], ⟨fun _ => hxk ▸ hm, fun _ => Int.natCast_nonneg i⟩, rfl, trivial, trivial⟩
    · conv => whnf
      repeat' (first | (refine tell (fun hQ => ?_) (fun hQ => ?_) <;> (try dsimp only at hQ) <;> first | (exfalso; omega) | (exact absurd rfl hQ) | (exact absurd (by decide) hQ) | (conv => whnf)) | (refine allG (x := x) (by first | exact hx | simpa [List.getElem?_append_right, lowOf] using hx | fail) ?_; conv => whnf) | (refine allLst (x := x) (by first | omega | assumption | fail) (by first | exact hx | simpa using hx | fail) ?_; conv => whnf) | (refine allG rfl ?_; conv => whnf) | (refine And.intro (by first | omega | assumption | kernel_rfl | exact And.intro rfl rfl | ((try dsimp only [inR, idx, lowOf]); first | omega | (with_reducible decide) | (simp; omega) | (simp; done) | fail) | fail) ?_; conv => whnf) | fail)
      refine ⟨i + 1, [], ⟨hlt, by rw [take_snocI hx]; simp; exact ⟨hs, fun h => hxk h.symm⟩⟩, ?_, rfl, ?_, ?_, rfl⟩
      · dsimp only; first | omega | (simp; done) | (simp; omega)
      all_goals (repeat' (first | exact trivial | exact rfl | refine And.intro ?_ ?_ | (refine congrArg vI ?_; first | omega | (dsimp only; omega) | fail) | (refine congrArg some ?_) | omega | exact Nat.le_refl _ | exact congrArg (SV.lst _) (List.take_of_length_le (Nat.le_refl _)).symm))
  · rw [List.take_of_length_le (by omega)] at hs
    conv => whnf
    repeat' (first | (refine tell (fun hQ => ?_) (fun hQ => ?_) <;> (try dsimp only at hQ) <;> first | (exfalso; omega) | (exact absurd rfl hQ) | (exact absurd (by decide) hQ) | (conv => whnf)) | (refine allG rfl ?_; conv => whnf) | (refine And.intro (by first | omega | assumption | kernel_rfl | exact And.intro rfl rfl | ((try dsimp only [inR, idx, lowOf]); first | omega | (with_reducible decide) | (simp; omega) | (simp; done) | fail) | fail) ?_; conv => whnf) | fail)
    exact ⟨(-1 : Int), [], ⟨fun h => absurd h (by decide), fun h => absurd h hs⟩, rfl, trivial, trivial⟩
theorem index_ex (a : List Int) (k : Int) : ∃ r : Int, 0 ≤ r ↔ k ∈ a := by
  by_cases h : k ∈ a
  · exact ⟨0, by simp [h]⟩
  · exact ⟨-1, by simp [h]⟩
theorem m_contains : Meets Tryd.prog regF 65 spHas := by
  refine meets Tryd.func65 9 noWr rfl (by kernel_rfl) (by kernel_rfl) ?_
  rintro ⟨(a : List Int), (k : Int)⟩ (hl : a.length ≤ 9223372036854775807)
  conv => whnf
  repeat' (first | (refine tell (fun hQ => ?_) (fun hQ => ?_) <;> (try dsimp only at hQ) <;> first | (exfalso; omega) | (exact absurd rfl hQ) | (exact absurd (by decide) hQ) | (conv => whnf)) | (refine allG rfl ?_; conv => whnf) | (refine And.intro (by first | omega | assumption | kernel_rfl | exact And.intro rfl rfl | ((try dsimp only [inR, idx, lowOf]); first | omega | (with_reducible decide) | (simp; omega) | (simp; done) | fail) | fail) ?_; conv => whnf) | fail)
  refine ⟨_, m_index, (a, k), [], false, ?_⟩
  conv => whnf
  refine And.intro (vc0 hl (by (repeat' (first | exact trivial | exact rfl | refine And.intro ?_ ?_ | (refine congrArg vI ?_; first | omega | (dsimp only; omega) | fail) | (refine congrArg some ?_) | omega | exact Nat.le_refl _ | exact congrArg (SV.lst _) (List.take_of_length_le (Nat.le_refl _)).symm))) (by repeat' (first | exact trivial | exact rfl | refine And.intro ?_ ?_ | (refine congrArg vI ?_; first | omega | (dsimp only; omega) | fail) | (refine congrArg some ?_) | omega | exact Nat.le_refl _ | exact congrArg (SV.lst _) (List.take_of_length_le (Nat.le_refl _)).symm)) trivial trivial) ?_
  refine And.intro (index_ex a k) ?_
  intro (r : Int) (hr : 0 ≤ r ↔ k ∈ a)
  conv => whnf
  repeat' (first | (refine tell (fun hQ => ?_) (fun hQ => ?_) <;> (try dsimp only at hQ) <;> first | (exfalso; omega) | (exact absurd rfl hQ) | (exact absurd (by decide) hQ) | (conv => whnf)) | (refine allG rfl ?_; conv => whnf) | (refine And.intro (by first | omega | assumption | kernel_rfl | exact And.intro rfl rfl | ((try dsimp only [inR, idx, lowOf]); first | omega | (with_reducible decide) | (simp; omega) | (simp; done) | fail) | fail) ?_; conv => whnf) | fail)
  · exact ⟨true, [], ⟨fun _ => hr.1 (by assumption), fun _ => rfl⟩, rfl, trivial, trivial⟩
  · exact ⟨false, [], ⟨fun h => (by cases h), fun h => absurd (hr.2 h) (by omega)⟩, rfl, trivial, trivial⟩
theorem first_ex {p : Nat → Prop} {n : Nat} (h : ∃ i, i < n ∧ p i) : ∃ i, i < n ∧ p i ∧ ∀ j, j < i → ¬ p j := by
  obtain ⟨i, hi, hp⟩ := h
  have hobt := ex_min (p := p) i hp
  obtain ⟨m, hm, hmin⟩ := hobt
  exact ⟨m, Nat.lt_of_le_of_lt (hmin i hp) hi, hm, fun j hj hpj => by have := hmin j hpj; omega⟩
/-- Of a list's places the first one that is right. -/
def FirstAt (os : List Int) (P : Int → Prop) (r : Int) : Prop :=
  (∃ (j : Nat) (i : Int), r = j ∧ os[j]? = some i ∧ P i ∧ ∀ (j' : Nat) i', j' < j → os[j']? = some i' → ¬ P i') ∨ (r = -1 ∧ ∀ i ∈ os, ¬ P i)
theorem firstAt_ex (os : List Int) (P : Int → Prop) : ∃ r, FirstAt os P r := by
  by_cases h : ∃ j, j < os.length ∧ ∃ i, os[j]? = some i ∧ P i
  · have hobt := first_ex h
    obtain ⟨j, _, ⟨i, h1, h2⟩, h3⟩ := hobt
    exact ⟨j, .inl ⟨j, i, rfl, h1, h2, fun j' i' hj hi hp => h3 j' hj ⟨i', hi, hp⟩⟩⟩
  · refine ⟨-1, .inr ⟨rfl, fun i hi hp => ?_⟩⟩
    have hobt := List.getElem?_of_mem hi
    obtain ⟨j, hj⟩ := hobt
    exact h ⟨j, (List.getElem?_eq_some_iff.1 hj).1, i, hj, hp⟩
theorem pred_ex (p : Prop) : ∃ c : Bool, (c = true ↔ p) := by
  by_cases h : p
  · exact ⟨true, by simp [h]⟩
  · exact ⟨false, by simp [h]⟩
theorem den_nil {R : Reg AF} {ρ : Rho} {O : Nat → Prop} {w : World} {v : Value} (T : Nat) (h : Den R ρ O w (.val (.slice none 0 0)) v) : Den R ρ O w (.lst T []) v := by
  cases h; exact .lnil T 0 rfl
/-- A function that meets one of several specifications, case by case, meets this one. -/
theorem meets_told {f : Nat} {S' : Spec AF} (he : Enters Tryd.prog f) (hp : ∀ g', S'.pre g' → ∃ (S : Spec AF) (_ : Meets Tryd.prog regF f S) (g : S.γ), S.pre g ∧ S.args g = S'.args g' ∧ S.own g = S'.own g' ∧ S.nnew = S'.nnew ∧
    ∀ d, S.post g d → ∃ d', S'.post g' d' ∧ S'.own' g' d' = S.own' g d ∧ (∀ ρ O w v, Den regF ρ O w (S.res g d) v → Den regF ρ O w (S'.res g' d') v) ∧ (∀ n : Nat → Bool, men n (S.res g d) = true → men n (S'.res g' d') = true)) : Meets Tryd.prog regF f S' := by
  refine ⟨he, fun g' hg' X ρ w vs h1 h2 h3 h4 => ?_⟩
  have hobt := hp g' hg'
  obtain ⟨S, hm, g, hg, ea, eo, en, hd⟩ := hobt
  rw [← ea] at h3
  rw [← eo] at h2 h3 h4
  refine (hm.2 g hg X ρ w vs h1 h2 h3 h4).mono fun e w' hh => ?_
  obtain ⟨d, ρ', v, q1, q2, q3, q4, q5, q6, q7, q8, q9, q10⟩ := hh
  have hobt := hd d q1
  obtain ⟨d', p1, p2, p3, p4⟩ := hobt
  refine ⟨d', ρ', v, p1, q2, ?_, ?_, ?_, ?_, ?_, ?_, ?_, ?_⟩
  · rw [← eo]; exact q3
  · rw [p2]; exact p3 _ _ _ _ q4
  · rw [p2]; exact q5
  · rw [p2, ← eo]; exact q6
  · rw [p2, ← eo, ← en]; exact q7
  · rw [← eo, ← en]; exact p4 _ q8
  · rw [p2, ← eo, ← en]; exact q9
  · rw [← eo]; exact q10
end Go.Sx


/-
  Layer 21, part A: Clone, DeleteFunc, Min, Equal; Shared, Kind.
-/
namespace Go.Sx
open Go Go.Proofs Go.Proofs.YtmogappoadglgaaDoor
def comm (xs ys : List Int) : List Int := xs.filter fun x => decide (x ∈ ys)
theorem comm_snoc {xs ys : List Int} {i : Nat} {x : Int} (h : xs[i]? = some x) : comm (xs.take (i + 1)) ys = comm (xs.take i) ys ++ (if x ∈ ys then [x] else []) := by
  rw [take_snocI h]
  unfold comm
  rw [List.filter_append]
  by_cases hx : x ∈ ys <;> simp [hx]
def spNotIn : Spec AF where
  γ := Int × List Int
  δ := Bool
  args := fun g => [vI g.1, .ptr 0 0 1 0]
  own := fun g => [.cells [.lst 3 g.2]]
  pre := fun g => g.2.length ≤ 9223372036854775807
  nnew := 0
  res := fun _ c => vB c
  own' := fun g _ => [some (.cells [.lst 3 g.2])]
  post := fun g c => (c = true ↔ g.1 ∉ g.2)
theorem m_notIn : Meets Tryd.prog regF 64 spNotIn := by
  refine meets Tryd.func64 8 noWr rfl (by kernel_rfl) (by kernel_rfl) ?_
  rintro ⟨(x : Int), (ys : List Int)⟩ (hl : ys.length ≤ 9223372036854775807)
  conv => whnf
  repeat' (first | (refine tell (fun hQ => ?_) (fun hQ => ?_) <;> (try dsimp only at hQ) <;> first | (exfalso; omega) | (exact absurd rfl hQ) | (exact absurd hQ hne) | (exact absurd hne hQ) | (exact absurd (by decide) hQ) | (conv => whnf)) | (refine allG rfl ?_; conv => whnf) | (refine And.intro (by first | omega | assumption | kernel_rfl | exact And.intro rfl rfl | ((try dsimp only [inR, idx, lowOf]); first | omega | (with_reducible decide) | (simp; omega) | (simp; done) | fail) | fail) ?_; conv => whnf) | fail)
  refine ⟨_, m_contains, (ys, x), [], false, ?_⟩
  conv => whnf
  refine And.intro (vc0 hl (by (repeat' (first | exact trivial | exact rfl | refine And.intro ?_ ?_ | (refine congrArg vI ?_; first | omega | (dsimp only; omega) | fail) | (refine congrArg some ?_) | omega | exact Nat.le_refl _ | exact congrArg (SV.lst _) (List.take_of_length_le (Nat.le_refl _)).symm))) (by repeat' (first | exact trivial | exact rfl | refine And.intro ?_ ?_ | (refine congrArg vI ?_; first | omega | (dsimp only; omega) | fail) | (refine congrArg some ?_) | omega | exact Nat.le_refl _ | exact congrArg (SV.lst _) (List.take_of_length_le (Nat.le_refl _)).symm)) trivial trivial) ?_
  refine And.intro (has_ex _ _) ?_
  intro (c : Bool) (hc : c = true ↔ x ∈ ys)
  cases c
  · conv => whnf
    repeat' (first | (refine tell (fun hQ => ?_) (fun hQ => ?_) <;> (try dsimp only at hQ) <;> first | (exfalso; omega) | (exact absurd rfl hQ) | (exact absurd hQ hne) | (exact absurd hne hQ) | (exact absurd (by decide) hQ) | (conv => whnf)) | (refine allG rfl ?_; conv => whnf) | (refine And.intro (by first | omega | assumption | kernel_rfl | exact And.intro rfl rfl | ((try dsimp only [inR, idx, lowOf]); first | omega | (with_reducible decide) | (simp; omega) | (simp; done) | fail) | fail) ?_; conv => whnf) | fail)
    exact ⟨true, [], ⟨fun _ h => (by have := hc.2 h; cases this), fun _ => rfl⟩, rfl, ⟨⟨rfl, trivial⟩, trivial⟩, trivial⟩
  · conv => whnf
    repeat' (first | (refine tell (fun hQ => ?_) (fun hQ => ?_) <;> (try dsimp only at hQ) <;> first | (exfalso; omega) | (exact absurd rfl hQ) | (exact absurd hQ hne) | (exact absurd hne hQ) | (exact absurd (by decide) hQ) | (conv => whnf)) | (refine allG rfl ?_; conv => whnf) | (refine And.intro (by first | omega | assumption | kernel_rfl | exact And.intro rfl rfl | ((try dsimp only [inR, idx, lowOf]); first | omega | (with_reducible decide) | (simp; omega) | (simp; done) | fail) | fail) ?_; conv => whnf) | fail)
    exact ⟨false, [], ⟨fun h => (by cases h), fun h => absurd (hc.1 rfl) h⟩, rfl, ⟨⟨rfl, trivial⟩, trivial⟩, trivial⟩
def spIdxN : Spec AF where
  γ := List Int × List Int
  δ := Int
  args := fun g => [.lst 3 g.1, .fn (.func 64) [] [.ptr 0 0 1 0]]
  own := fun g => [.cells [.lst 3 g.2]]
  pre := fun g => g.1.length ≤ 9223372036854775806 ∧ g.2.length ≤ 9223372036854775807
  nnew := 0
  res := fun _ r => vI r
  own' := fun g _ => [some (.cells [.lst 3 g.2])]
  post := fun g r => FirstAt g.1 (fun x => x ∉ g.2) r
theorem m_idxN : Meets Tryd.prog regF 87 spIdxN := by
  refine meets Tryd.func87 19 noWr rfl (by kernel_rfl) (by kernel_rfl) ?_
  rintro ⟨(xs : List Int), (ys : List Int)⟩ ⟨(hx : xs.length ≤ 9223372036854775806), (hy : ys.length ≤ 9223372036854775807)⟩
  conv => whnf
  repeat' (first | (refine tell (fun hQ => ?_) (fun hQ => ?_) <;> (try dsimp only at hQ) <;> first | (exfalso; omega) | (exact absurd rfl hQ) | (exact absurd hQ hne) | (exact absurd hne hQ) | (exact absurd (by decide) hQ) | (conv => whnf)) | (refine allG rfl ?_; conv => whnf) | (refine And.intro (by first | omega | assumption | kernel_rfl | exact And.intro rfl rfl | ((try dsimp only [inR, idx, lowOf]); first | omega | (with_reducible decide) | (simp; omega) | (simp; done) | fail) | fail) ?_; conv => whnf) | fail)
  refine ⟨Nat, fun j => ⟨[(0, .lst 3 xs), (1, .fn (.func 64) [] [.ptr 0 0 1 0]), (7, vI xs.length), (8, vI j)], [(0, .cells [.lst 3 ys])]⟩, fun j => j ≤ xs.length ∧ ∀ (j' : Nat) i', j' < j → xs[j']? = some i' → ¬ (i' ∉ ys), fun j => xs.length - j, fun _ _ => rfl, ⟨0, [], ⟨Nat.zero_le _, fun j' i' h => absurd h (Nat.not_lt_zero _)⟩, ?_⟩, ?_⟩
  · refine ⟨rfl, ?_, ?_, rfl⟩
    all_goals (repeat' (first | exact trivial | exact rfl | refine And.intro ?_ ?_ | (refine congrArg vI ?_; first | omega | (dsimp only; omega) | fail) | (refine congrArg some ?_) | omega | exact Nat.le_refl _ | exact congrArg (SV.lst _) (List.take_of_length_le (Nat.le_refl _)).symm))
  rintro (j : Nat) ⟨(hj : j ≤ xs.length), (hno : ∀ (j' : Nat) i', j' < j → xs[j']? = some i' → ¬ (i' ∉ ys))⟩
  by_cases hlt : j < xs.length
  · have hobt : ∃ x, xs[j]? = some x := ⟨_, List.getElem?_eq_getElem hlt⟩
    obtain ⟨x, hi⟩ := hobt
    conv => whnf
    repeat' (first | (refine tell (fun hQ => ?_) (fun hQ => ?_) <;> (try dsimp only at hQ) <;> first | (exfalso; omega) | (exact absurd rfl hQ) | (exact absurd hQ hne) | (exact absurd hne hQ) | (exact absurd (by decide) hQ) | (conv => whnf)) | (refine allG (x := x) (by first | exact hi | simpa [List.getElem?_append_right, lowOf] using hi | fail) ?_; conv => whnf) | (refine allLst (x := x) (by first | omega | assumption | fail) (by first | exact hi | simpa using hi | fail) ?_; conv => whnf) | (refine allG rfl ?_; conv => whnf) | (refine And.intro (by first | omega | assumption | kernel_rfl | exact And.intro rfl rfl | ((try dsimp only [inR, idx, lowOf]); first | omega | (with_reducible decide) | (simp; omega) | (simp; done) | fail) | fail) ?_; conv => whnf) | fail)
    refine ⟨_, m_notIn, (x, ys), [0], false, ?_⟩
    conv => whnf
    refine And.intro (vc0 hy (by (repeat' (first | exact trivial | exact rfl | refine And.intro ?_ ?_ | (refine congrArg vI ?_; first | omega | (dsimp only; omega) | fail) | (refine congrArg some ?_) | omega | exact Nat.le_refl _ | exact congrArg (SV.lst _) (List.take_of_length_le (Nat.le_refl _)).symm))) (by repeat' (first | exact trivial | exact rfl | refine And.intro ?_ ?_ | (refine congrArg vI ?_; first | omega | (dsimp only; omega) | fail) | (refine congrArg some ?_) | omega | exact Nat.le_refl _ | exact congrArg (SV.lst _) (List.take_of_length_le (Nat.le_refl _)).symm)) trivial trivial) ?_
    refine And.intro (pred_ex _) ?_
    intro (c : Bool) (hc : c = true ↔ x ∉ ys)
    cases c
    · have hnx : ∀ (j' : Nat) i', j' < j + 1 → xs[j']? = some i' → ¬ (i' ∉ ys) := fun j' i' h1 h2 h3 => by
        by_cases e : j' = j
        · subst e; rw [hi] at h2; cases h2; have := hc.2 h3; cases this
        · exact hno j' i' (by omega) h2 h3
      conv => whnf
      repeat' (first | (refine tell (fun hQ => ?_) (fun hQ => ?_) <;> (try dsimp only at hQ) <;> first | (exfalso; omega) | (exact absurd rfl hQ) | (exact absurd hQ hne) | (exact absurd hne hQ) | (exact absurd (by decide) hQ) | (conv => whnf)) | (refine allG rfl ?_; conv => whnf) | (refine And.intro (by first | omega | assumption | kernel_rfl | exact And.intro rfl rfl | ((try dsimp only [inR, idx, lowOf]); first | omega | (with_reducible decide) | (simp; omega) | (simp; done) | fail) | fail) ?_; conv => whnf) | fail)
      refine ⟨j + 1, [], ⟨hlt, hnx⟩, ?_, rfl, ?_, ?_, rfl⟩
      · dsimp only; first | omega | (simp; done) | (simp; omega)
      all_goals (repeat' (first | exact trivial | exact rfl | refine And.intro ?_ ?_ | (refine congrArg vI ?_; first | omega | (dsimp only; omega) | fail) | (refine congrArg some ?_) | omega | exact Nat.le_refl _ | exact congrArg (SV.lst _) (List.take_of_length_le (Nat.le_refl _)).symm))
    · conv => whnf
      repeat' (first | (refine tell (fun hQ => ?_) (fun hQ => ?_) <;> (try dsimp only at hQ) <;> first | (exfalso; omega) | (exact absurd rfl hQ) | (exact absurd hQ hne) | (exact absurd hne hQ) | (exact absurd (by decide) hQ) | (conv => whnf)) | (refine allG rfl ?_; conv => whnf) | (refine And.intro (by first | omega | assumption | kernel_rfl | exact And.intro rfl rfl | ((try dsimp only [inR, idx, lowOf]); first | omega | (with_reducible decide) | (simp; omega) | (simp; done) | fail) | fail) ?_; conv => whnf) | fail)
      exact ⟨(j : Int), [], .inl ⟨j, x, rfl, hi, hc.1 rfl, hno⟩, rfl, ⟨⟨rfl, trivial⟩, trivial⟩, trivial⟩
  · conv => whnf
    repeat' (first | (refine tell (fun hQ => ?_) (fun hQ => ?_) <;> (try dsimp only at hQ) <;> first | (exfalso; omega) | (exact absurd rfl hQ) | (exact absurd hQ hne) | (exact absurd hne hQ) | (exact absurd (by decide) hQ) | (conv => whnf)) | (refine allG rfl ?_; conv => whnf) | (refine And.intro (by first | omega | assumption | kernel_rfl | exact And.intro rfl rfl | ((try dsimp only [inR, idx, lowOf]); first | omega | (with_reducible decide) | (simp; omega) | (simp; done) | fail) | fail) ?_; conv => whnf) | fail)
    exact ⟨(-1 : Int), [], .inr ⟨rfl, fun x (hx : x ∈ xs) hn => by
      have hobt := List.getElem?_of_mem hx
      obtain ⟨m, hm⟩ := hobt
      have := (List.getElem?_eq_some_iff.1 hm).1
      exact hno m x (by omega) hm hn⟩, rfl, ⟨⟨rfl, trivial⟩, trivial⟩, trivial⟩
def spIdxN2 : Spec AF where
  γ := List Int × List Int
  δ := Int
  args := fun g => [.sl 0 1 0 g.1.length, .fn (.func 64) [] [.ptr 1 0 1 0]]
  own := fun g => [.arr 3 g.1, .cells [.lst 3 g.2]]
  pre := fun g => g.1.length ≤ 9223372036854775806 ∧ g.2.length ≤ 9223372036854775807
  nnew := 0
  res := fun _ r => vI r
  own' := fun g _ => [some (.arr 3 g.1), some (.cells [.lst 3 g.2])]
  post := fun g r => FirstAt g.1 (fun x => x ∉ g.2) r
theorem m_idxN2 : Meets Tryd.prog regF 87 spIdxN2 := by
  refine meets Tryd.func87 19 noWr rfl (by kernel_rfl) (by kernel_rfl) ?_
  rintro ⟨(xs : List Int), (ys : List Int)⟩ ⟨(hx : xs.length ≤ 9223372036854775806), (hy : ys.length ≤ 9223372036854775807)⟩
  conv => whnf
  repeat' (first | (refine tell (fun hQ => ?_) (fun hQ => ?_) <;> (try dsimp only at hQ) <;> first | (exfalso; omega) | (exact absurd rfl hQ) | (exact absurd hQ hne) | (exact absurd hne hQ) | (exact absurd (by decide) hQ) | (conv => whnf)) | (refine allG rfl ?_; conv => whnf) | (refine And.intro (by first | omega | assumption | kernel_rfl | exact And.intro rfl rfl | ((try dsimp only [inR, idx, lowOf]); first | omega | (with_reducible decide) | (simp; omega) | (simp; done) | fail) | fail) ?_; conv => whnf) | fail)
  refine ⟨Nat, fun j => ⟨[(0, .sl 0 1 0 xs.length), (1, .fn (.func 64) [] [.ptr 1 0 1 0]), (7, vI xs.length), (8, vI j)], [(0, .arr 3 xs), (1, .cells [.lst 3 ys])]⟩, fun j => j ≤ xs.length ∧ ∀ (j' : Nat) i', j' < j → xs[j']? = some i' → ¬ (i' ∉ ys), fun j => xs.length - j, fun _ _ => rfl, ⟨0, [], ⟨Nat.zero_le _, fun j' i' h => absurd h (Nat.not_lt_zero _)⟩, ?_⟩, ?_⟩
  · refine ⟨rfl, ?_, ?_, rfl⟩
    all_goals (repeat' (first | exact trivial | exact rfl | refine And.intro ?_ ?_ | (refine congrArg vI ?_; first | omega | (dsimp only; omega) | fail) | (refine congrArg some ?_) | omega | exact Nat.le_refl _ | exact congrArg (SV.lst _) (List.take_of_length_le (Nat.le_refl _)).symm))
  rintro (j : Nat) ⟨(hj : j ≤ xs.length), (hno : ∀ (j' : Nat) i', j' < j → xs[j']? = some i' → ¬ (i' ∉ ys))⟩
  by_cases hlt : j < xs.length
  · have hobt : ∃ x, xs[j]? = some x := ⟨_, List.getElem?_eq_getElem hlt⟩
    obtain ⟨x, hi⟩ := hobt
    conv => whnf
    repeat' (first | (refine tell (fun hQ => ?_) (fun hQ => ?_) <;> (try dsimp only at hQ) <;> first | (exfalso; omega) | (exact absurd rfl hQ) | (exact absurd hQ hne) | (exact absurd hne hQ) | (exact absurd (by decide) hQ) | (conv => whnf)) | (refine allG (x := x) (by first | exact hi | simpa [List.getElem?_append_right, lowOf] using hi | fail) ?_; conv => whnf) | (refine allLst (x := x) (by first | omega | assumption | fail) (by first | exact hi | simpa using hi | fail) ?_; conv => whnf) | (refine allG rfl ?_; conv => whnf) | (refine And.intro (by first | omega | assumption | kernel_rfl | exact And.intro rfl rfl | ((try dsimp only [inR, idx, lowOf]); first | omega | (with_reducible decide) | (simp; omega) | (simp; done) | fail) | fail) ?_; conv => whnf) | fail)
    refine ⟨_, m_notIn, (x, ys), [1], false, ?_⟩
    conv => whnf
    refine And.intro (vc0 hy (by (repeat' (first | exact trivial | exact rfl | refine And.intro ?_ ?_ | (refine congrArg vI ?_; first | omega | (dsimp only; omega) | fail) | (refine congrArg some ?_) | omega | exact Nat.le_refl _ | exact congrArg (SV.lst _) (List.take_of_length_le (Nat.le_refl _)).symm))) (by repeat' (first | exact trivial | exact rfl | refine And.intro ?_ ?_ | (refine congrArg vI ?_; first | omega | (dsimp only; omega) | fail) | (refine congrArg some ?_) | omega | exact Nat.le_refl _ | exact congrArg (SV.lst _) (List.take_of_length_le (Nat.le_refl _)).symm)) trivial trivial) ?_
    refine And.intro (pred_ex _) ?_
    intro (c : Bool) (hc : c = true ↔ x ∉ ys)
    cases c
    · have hnx : ∀ (j' : Nat) i', j' < j + 1 → xs[j']? = some i' → ¬ (i' ∉ ys) := fun j' i' h1 h2 h3 => by
        by_cases e : j' = j
        · subst e; rw [hi] at h2; cases h2; have := hc.2 h3; cases this
        · exact hno j' i' (by omega) h2 h3
      conv => whnf
      repeat' (first | (refine tell (fun hQ => ?_) (fun hQ => ?_) <;> (try dsimp only at hQ) <;> first | (exfalso; omega) | (exact absurd rfl hQ) | (exact absurd hQ hne) | (exact absurd hne hQ) | (exact absurd (by decide) hQ) | (conv => whnf)) | (refine allG rfl ?_; conv => whnf) | (refine And.intro (by first | omega | assumption | kernel_rfl | exact And.intro rfl rfl | ((try dsimp only [inR, idx, lowOf]); first | omega | (with_reducible decide) | (simp; omega) | (simp; done) | fail) | fail) ?_; conv => whnf) | fail)
      refine ⟨j + 1, [], ⟨hlt, hnx⟩, ?_, rfl, ?_, ?_, rfl⟩
      · dsimp only; first | omega | (simp; done) | (simp; omega)
      all_goals (repeat' (first | exact trivial | exact rfl | refine And.intro ?_ ?_ | (refine congrArg vI ?_; first | omega | (dsimp only; omega) | fail) | (refine congrArg some ?_) | omega | exact Nat.le_refl _ | exact congrArg (SV.lst _) (List.take_of_length_le (Nat.le_refl _)).symm))
    · conv => whnf
      repeat' (first | (refine tell (fun hQ => ?_) (fun hQ => ?_) <;> (try dsimp only at hQ) <;> first | (exfalso; omega) | (exact absurd rfl hQ) | (exact absurd hQ hne) | (exact absurd hne hQ) | (exact absurd (by decide) hQ) | (conv => whnf)) | (refine allG rfl ?_; conv => whnf) | (refine And.intro (by first | omega | assumption | kernel_rfl | exact And.intro rfl rfl | ((try dsimp only [inR, idx, lowOf]); first | omega | (with_reducible decide) | (simp; omega) | (simp; done) | fail) | fail) ?_; conv => whnf) | fail)
      exact ⟨(j : Int), [], .inl ⟨j, x, rfl, hi, hc.1 rfl, hno⟩, rfl, ⟨rfl, ⟨rfl, trivial⟩, trivial⟩, trivial⟩
  · conv => whnf
    repeat' (first | (refine tell (fun hQ => ?_) (fun hQ => ?_) <;> (try dsimp only at hQ) <;> first | (exfalso; omega) | (exact absurd rfl hQ) | (exact absurd hQ hne) | (exact absurd hne hQ) | (exact absurd (by decide) hQ) | (conv => whnf)) | (refine allG rfl ?_; conv => whnf) | (refine And.intro (by first | omega | assumption | kernel_rfl | exact And.intro rfl rfl | ((try dsimp only [inR, idx, lowOf]); first | omega | (with_reducible decide) | (simp; omega) | (simp; done) | fail) | fail) ?_; conv => whnf) | fail)
    exact ⟨(-1 : Int), [], .inr ⟨rfl, fun x (hx : x ∈ xs) hn => by
      have hobt := List.getElem?_of_mem hx
      obtain ⟨m, hm⟩ := hobt
      have := (List.getElem?_eq_some_iff.1 hm).1
      exact hno m x (by omega) hm hn⟩, rfl, ⟨rfl, ⟨rfl, trivial⟩, trivial⟩, trivial⟩
def spDel0 : Spec AF where
  γ := List Int
  δ := Unit
  args := fun _ => [.lst 3 [], .fn (.func 64) [] [.ptr 0 0 1 0]]
  own := fun g => [.cells [.lst 3 g]]
  pre := fun g => g.length ≤ 9223372036854775807
  nnew := 0
  res := fun _ _ => .lst 3 []
  own' := fun g _ => [some (.cells [.lst 3 g])]
  post := fun _ _ => True
theorem m_del0 : Meets Tryd.prog regF 62 spDel0 := by
  refine meets Tryd.func62 42 noWr rfl (by kernel_rfl) (by kernel_rfl) ?_
  rintro (ys : List Int) (hy : ys.length ≤ 9223372036854775807)
  conv => whnf
  repeat' (first | (refine tell (fun hQ => ?_) (fun hQ => ?_) <;> (try dsimp only at hQ) <;> first | (exfalso; omega) | (exact absurd rfl hQ) | (exact absurd hQ hne) | (exact absurd hne hQ) | (exact absurd (by decide) hQ) | (conv => whnf)) | (refine allG rfl ?_; conv => whnf) | (refine And.intro (by first | omega | assumption | kernel_rfl | exact And.intro rfl rfl | ((try dsimp only [inR, idx, lowOf]); first | omega | (with_reducible decide) | (simp; omega) | (simp; done) | fail) | fail) ?_; conv => whnf) | fail)
  refine ⟨_, m_idxN, ([], ys), [0], false, ?_⟩
  conv => whnf
  refine And.intro (vc0 ⟨Nat.zero_le _, hy⟩ (by (repeat' (first | exact trivial | exact rfl | refine And.intro ?_ ?_ | (refine congrArg vI ?_; first | omega | (dsimp only; omega) | fail) | (refine congrArg some ?_) | omega | exact Nat.le_refl _ | exact congrArg (SV.lst _) (List.take_of_length_le (Nat.le_refl _)).symm))) (by repeat' (first | exact trivial | exact rfl | refine And.intro ?_ ?_ | (refine congrArg vI ?_; first | omega | (dsimp only; omega) | fail) | (refine congrArg some ?_) | omega | exact Nat.le_refl _ | exact congrArg (SV.lst _) (List.take_of_length_le (Nat.le_refl _)).symm)) trivial trivial) ?_
  refine And.intro (firstAt_ex _ _) ?_
  rintro (r : Int) (hr : FirstAt [] (fun x => x ∉ ys) r)
  obtain rfl : r = -1 := by
    rcases hr with ⟨j, i, _, h, _⟩ | ⟨h, _⟩
    · simp at h
    · exact h
  conv => whnf
  repeat' (first | (refine tell (fun hQ => ?_) (fun hQ => ?_) <;> (try dsimp only at hQ) <;> first | (exfalso; omega) | (exact absurd rfl hQ) | (exact absurd hQ hne) | (exact absurd hne hQ) | (exact absurd (by decide) hQ) | (conv => whnf)) | (refine allG rfl ?_; conv => whnf) | (refine And.intro (by first | omega | assumption | kernel_rfl | exact And.intro rfl rfl | ((try dsimp only [inR, idx, lowOf]); first | omega | (with_reducible decide) | (simp; omega) | (simp; done) | fail) | fail) ?_; conv => whnf) | fail)
  exact ⟨(), [], trivial, rfl, ⟨⟨rfl, trivial⟩, trivial⟩, trivial⟩
def spDel : Spec AF where
  γ := List Int × List Int
  δ := Unit
  args := fun g => [.sl 0 1 0 g.1.length, .fn (.func 64) [] [.ptr 1 0 1 0]]
  own := fun g => [.arr 3 g.1, .cells [.lst 3 g.2]]
  pre := fun g => g.1.length ≤ 9223372036854775806 ∧ g.2.length ≤ 9223372036854775807
  nnew := 0
  res := fun g _ => .lst 3 (comm g.1 g.2)
  own' := fun g _ => [none, some (.cells [.lst 3 g.2])]
  post := fun _ _ => True
theorem comm_all {xs ys : List Int} (h : ∀ x ∈ xs, ¬ (x ∉ ys)) : comm xs ys = xs := by
  unfold comm
  rw [List.filter_eq_self]
  intro x hx
  exact decide_eq_true (Classical.not_not.1 (h x hx))
set_option maxHeartbeats 1600000 in
theorem m_del : Meets Tryd.prog regF 62 spDel := by
  refine meets Tryd.func62 42 noWr rfl (by kernel_rfl) (by kernel_rfl) ?_
  rintro ⟨(xs : List Int), (ys : List Int)⟩ ⟨(hx : xs.length ≤ 9223372036854775806), (hy : ys.length ≤ 9223372036854775807)⟩
  conv => whnf
  repeat' (first | (refine tell (fun hQ => ?_) (fun hQ => ?_) <;> (try dsimp only at hQ) <;> first | (exfalso; omega) | (exact absurd rfl hQ) | (exact absurd hQ hne) | (exact absurd hne hQ) | (exact absurd (by decide) hQ) | (conv => whnf)) | (refine allG rfl ?_; conv => whnf) | (refine And.intro (by first | omega | assumption | kernel_rfl | exact And.intro rfl rfl | ((try dsimp only [inR, idx, lowOf]); first | omega | (with_reducible decide) | (simp; omega) | (simp; done) | fail) | fail) ?_; conv => whnf) | fail)
  refine ⟨_, m_idxN2, (xs, ys), [0, 1], false, ?_⟩
  conv => whnf
  refine And.intro (vc0 ⟨hx, hy⟩ (by (repeat' (first | exact trivial | exact rfl | refine And.intro ?_ ?_ | (refine congrArg vI ?_; first | omega | (dsimp only; omega) | fail) | (refine congrArg some ?_) | omega | exact Nat.le_refl _ | exact congrArg (SV.lst _) (List.take_of_length_le (Nat.le_refl _)).symm))) (by repeat' (first | exact trivial | exact rfl | refine And.intro ?_ ?_ | (refine congrArg vI ?_; first | omega | (dsimp only; omega) | fail) | (refine congrArg some ?_) | omega | exact Nat.le_refl _ | exact congrArg (SV.lst _) (List.take_of_length_le (Nat.le_refl _)).symm)) trivial trivial) ?_
  refine And.intro (firstAt_ex _ _) ?_
  rintro (r : Int) (hr : FirstAt xs (fun x => x ∉ ys) r)
  rcases hr with ⟨m, x0, rfl, hm, hx0, hno⟩ | ⟨rfl, hall⟩
  · have hml := (List.getElem?_eq_some_iff.1 hm).1
    have hcm : comm (xs.take m) ys = xs.take m := comm_all fun x hx => by
      have hobt := List.getElem?_of_mem hx
      obtain ⟨j, hj⟩ := hobt
      have hj2 := (List.getElem?_eq_some_iff.1 hj).1
      rw [List.getElem?_take] at hj
      split at hj
      · exact hno j x (by assumption) hj
      · cases hj
    have hcm1 : comm (xs.take (m + 1)) ys = xs.take m := by rw [comm_snoc hm, if_neg hx0, hcm, List.append_nil]
    have hcl : (comm (xs.take (m + 1)) ys).length = m := by rw [hcm1]; simp; omega
    conv => whnf
    repeat' (first | (refine tell (fun hQ => ?_) (fun hQ => ?_) <;> (try dsimp only at hQ) <;> first | (exfalso; omega) | (exact absurd rfl hQ) | (exact absurd hQ hne) | (exact absurd hne hQ) | (exact absurd (by decide) hQ) | (conv => whnf)) | (refine allG rfl ?_; conv => whnf) | (refine And.intro (by first | omega | assumption | kernel_rfl | exact And.intro rfl rfl | ((try dsimp only [inR, idx, lowOf]); first | omega | (with_reducible decide) | (simp; omega) | (simp; done) | fail) | fail) ?_; conv => whnf) | fail)
    refine ⟨Nat × List Int, fun p => ⟨[(0, .sl 0 1 0 xs.length), (1, .fn (.func 64) [] [.ptr 1 0 1 0]), (5, vI (comm (xs.take p.1) ys).length), (6, vI p.1)], [(0, .arr 3 p.2), (1, .cells [.lst 3 ys])]⟩, fun p => p.1 ≤ xs.length ∧ (comm (xs.take p.1) ys).length < p.1 ∧ p.2.length = xs.length ∧ p.2.take (comm (xs.take p.1) ys).length = comm (xs.take p.1) ys ∧ p.2.drop p.1 = xs.drop p.1, fun p => xs.length - p.1, fun _ _ => rfl, ⟨(m + 1, xs), [], ⟨hml, by rw [hcl]; exact Nat.lt_succ_self m, rfl, by rw [hcl, hcm1], rfl⟩, ?_⟩, ?_⟩
    · refine ⟨rfl, ?_, ?_, rfl⟩
      all_goals (repeat' (first | exact trivial | exact rfl | refine And.intro ?_ ?_ | (refine congrArg vI ?_; first | omega | (dsimp only; omega) | fail) | (refine congrArg some ?_) | omega | exact Nat.le_refl _ | exact congrArg (SV.lst _) (List.take_of_length_le (Nat.le_refl _)).symm))
    rintro ⟨(j : Nat), (c : List Int)⟩ ⟨(hj : j ≤ xs.length), (hlj : (comm (xs.take j) ys).length < j), (hcx : c.length = xs.length), (htk : c.take (comm (xs.take j) ys).length = comm (xs.take j) ys), (hdr : c.drop j = xs.drop j)⟩
    have hobt : ∃ k, (comm (xs.take j) ys).length = k := ⟨_, rfl⟩
    obtain ⟨k, hk⟩ := hobt
    rw [hk] at hlj htk
    by_cases hlt : j < xs.length
    · have hobt : ∃ x, xs[j]? = some x := ⟨_, List.getElem?_eq_getElem hlt⟩
      obtain ⟨x, hxj⟩ := hobt
      have hcj : c[j]? = some x := by
        have := congrArg (fun l => l[0]?) hdr
        simp only [List.getElem?_drop, Nat.add_zero] at this
        rw [this, hxj]
      have hobt : ∃ z, c[k]? = some z := ⟨_, List.getElem?_eq_getElem (by omega)⟩
      obtain ⟨z, hz⟩ := hobt
      have hcj2 : c[0 + j]? = some x := by rw [Nat.zero_add]; exact hcj
      have hz2 : c[0 + (comm (xs.take j) ys).length]? = some z := by rw [Nat.zero_add, hk]; exact hz
      have hsn := comm_snoc (ys := ys) hxj
      have hdr2 : c.drop (j + 1) = xs.drop (j + 1) := by rw [← List.drop_drop, hdr, List.drop_drop]
      conv => whnf
      repeat' (first | (refine tell (fun hQ => ?_) (fun hQ => ?_) <;> (try dsimp only at hQ) <;> first | (exfalso; omega) | (exact absurd rfl hQ) | (exact absurd hQ hne) | (exact absurd hne hQ) | (exact absurd (by decide) hQ) | (conv => whnf)) | (refine allG (x := x) (by first | exact hcj2 | simpa [List.getElem?_append_right, lowOf] using hcj2 | fail) ?_; conv => whnf) | (refine allLst (x := x) (by first | omega | assumption | fail) (by first | exact hcj2 | simpa using hcj2 | fail) ?_; conv => whnf) | (refine allG rfl ?_; conv => whnf) | (refine And.intro (by first | omega | assumption | kernel_rfl | exact And.intro rfl rfl | ((try dsimp only [inR, idx, lowOf]); first | omega | (with_reducible decide) | (simp; omega) | (simp; done) | fail) | fail) ?_; conv => whnf) | fail)
      refine ⟨_, m_notIn, (x, ys), [1], false, ?_⟩
      conv => whnf
      refine And.intro (vc0 hy (by (repeat' (first | exact trivial | exact rfl | refine And.intro ?_ ?_ | (refine congrArg vI ?_; first | omega | (dsimp only; omega) | fail) | (refine congrArg some ?_) | omega | exact Nat.le_refl _ | exact congrArg (SV.lst _) (List.take_of_length_le (Nat.le_refl _)).symm))) (by repeat' (first | exact trivial | exact rfl | refine And.intro ?_ ?_ | (refine congrArg vI ?_; first | omega | (dsimp only; omega) | fail) | (refine congrArg some ?_) | omega | exact Nat.le_refl _ | exact congrArg (SV.lst _) (List.take_of_length_le (Nat.le_refl _)).symm)) trivial trivial) ?_
      refine And.intro (pred_ex _) ?_
      intro (d : Bool) (hd : d = true ↔ x ∉ ys)
      cases d
      · have hxy : x ∈ ys := Classical.byContradiction fun h => by have := hd.2 h; cases this
        rw [if_pos hxy] at hsn
        have hlen : (comm (xs.take (j + 1)) ys).length = k + 1 := by rw [hsn, List.length_append, hk]; rfl
        conv => whnf
        repeat' (first | (refine tell (fun hQ => ?_) (fun hQ => ?_) <;> (try dsimp only at hQ) <;> first | (exfalso; omega) | (exact absurd rfl hQ) | (exact absurd hQ hne) | (exact absurd hne hQ) | (exact absurd (by decide) hQ) | (conv => whnf)) | (refine allG (x := z) (by first | exact hz2 | simpa [List.getElem?_append_right, lowOf] using hz2 | fail) ?_; conv => whnf) | (refine allLst (x := z) (by first | omega | assumption | fail) (by first | exact hz2 | simpa using hz2 | fail) ?_; conv => whnf) | (refine allG rfl ?_; conv => whnf) | (refine And.intro (by first | omega | assumption | kernel_rfl | exact And.intro rfl rfl | ((try dsimp only [inR, idx, lowOf]); first | omega | (with_reducible decide) | (simp; omega) | (simp; done) | fail) | fail) ?_; conv => whnf) | fail)
        refine ⟨(j + 1, c.set k x), [], ⟨hlt, by show (comm (xs.take (j + 1)) ys).length < j + 1; omega, by show (c.set k x).length = _; rw [List.length_set]; exact hcx, by show (c.set k x).take _ = _; rw [hlen, hsn, ← htk, List.take_add_one, List.getElem?_set_self (by omega), List.take_set_of_le (Nat.le_refl _)]; rfl, by show (c.set k x).drop (j + 1) = _; rw [List.drop_set_of_lt (by omega)]; exact hdr2⟩, ?_, rfl, ?_, ?_, rfl⟩
        · dsimp only; first | omega | (simp; done) | (simp; omega)
        all_goals (repeat' (first | exact trivial | exact rfl | refine And.intro ?_ ?_ | (refine congrArg vI ?_; first | omega | (dsimp only; omega) | fail) | (refine congrArg some ?_) | omega | exact Nat.le_refl _ | exact congrArg (SV.lst _) (List.take_of_length_le (Nat.le_refl _)).symm))
        exact congrArg (Ct.arr (A := AF) 3) (show c.set (0 + (comm (xs.take j) ys).length) x = c.set k x by rw [Nat.zero_add, hk])
      · rw [if_neg (hd.1 rfl), List.append_nil] at hsn
        have hlen : (comm (xs.take (j + 1)) ys).length = k := by rw [hsn, hk]
        conv => whnf
        repeat' (first | (refine tell (fun hQ => ?_) (fun hQ => ?_) <;> (try dsimp only at hQ) <;> first | (exfalso; omega) | (exact absurd rfl hQ) | (exact absurd hQ hne) | (exact absurd hne hQ) | (exact absurd (by decide) hQ) | (conv => whnf)) | (refine allG rfl ?_; conv => whnf) | (refine And.intro (by first | omega | assumption | kernel_rfl | exact And.intro rfl rfl | ((try dsimp only [inR, idx, lowOf]); first | omega | (with_reducible decide) | (simp; omega) | (simp; done) | fail) | fail) ?_; conv => whnf) | fail)
        refine ⟨(j + 1, c), [], ⟨hlt, by show (comm (xs.take (j + 1)) ys).length < j + 1; omega, hcx, by show c.take _ = _; rw [hlen, hsn]; exact htk, hdr2⟩, ?_, rfl, ?_, ?_, rfl⟩
        · dsimp only; first | omega | (simp; done) | (simp; omega)
        all_goals (repeat' (first | exact trivial | exact rfl | refine And.intro ?_ ?_ | (refine congrArg vI ?_; first | omega | (dsimp only; omega) | fail) | (refine congrArg some ?_) | omega | exact Nat.le_refl _ | exact congrArg (SV.lst _) (List.take_of_length_le (Nat.le_refl _)).symm))
    · have hje : j = xs.length := by omega
      subst hje
      conv => whnf
      repeat' (first | (refine tell (fun hQ => ?_) (fun hQ => ?_) <;> (try dsimp only at hQ) <;> first | (exfalso; omega) | (exact absurd rfl hQ) | (exact absurd hQ hne) | (exact absurd hne hQ) | (exact absurd (by decide) hQ) | (conv => whnf)) | (refine allG rfl ?_; conv => whnf) | (refine And.intro (by first | omega | assumption | kernel_rfl | exact And.intro rfl rfl | ((try dsimp only [inR, idx, lowOf]); first | omega | (with_reducible decide) | (simp; omega) | (simp; done) | fail) | fail) ?_; conv => whnf) | fail)
      refine ⟨(), [], trivial, ⟨?_, rfl, ?_⟩, ⟨trivial, ⟨rfl, trivial⟩, trivial⟩, trivial⟩
      · show 0 + 0 + ((comm (xs.take xs.length) ys).length - 0) ≤ (c.take (0 + (comm (xs.take xs.length) ys).length) ++ List.replicate (xs.length - (comm (xs.take xs.length) ys).length) 0 ++ c.drop (0 + (comm (xs.take xs.length) ys).length + (xs.length - (comm (xs.take xs.length) ys).length))).length
        rw [hk]; simp; omega
      · exact congrArg (SV.lst (A := AF) 3) (show comm xs ys = ((c.take (0 + (comm (xs.take xs.length) ys).length) ++ List.replicate (xs.length - (comm (xs.take xs.length) ys).length) 0 ++ c.drop (0 + (comm (xs.take xs.length) ys).length + (xs.length - (comm (xs.take xs.length) ys).length))).drop (0 + 0)).take ((comm (xs.take xs.length) ys).length - 0) by
          simp only [hk, Nat.zero_add]; rw [htk, Nat.sub_zero, List.drop_zero, List.append_assoc, List.take_append_of_le_length (by omega), List.take_of_length_le (Nat.le_refl xs.length), List.take_of_length_le (by rw [List.take_of_length_le (Nat.le_refl _)] at hk; omega)])
  · have hca : comm xs ys = xs := comm_all hall
    conv => whnf
    repeat' (first | (refine tell (fun hQ => ?_) (fun hQ => ?_) <;> (try dsimp only at hQ) <;> first | (exfalso; omega) | (exact absurd rfl hQ) | (exact absurd hQ hne) | (exact absurd hne hQ) | (exact absurd (by decide) hQ) | (conv => whnf)) | (refine allG rfl ?_; conv => whnf) | (refine And.intro (by first | omega | assumption | kernel_rfl | exact And.intro rfl rfl | ((try dsimp only [inR, idx, lowOf]); first | omega | (with_reducible decide) | (simp; omega) | (simp; done) | fail) | fail) ?_; conv => whnf) | fail)
    refine ⟨(), [], trivial, ⟨?_, rfl, ?_⟩, ⟨trivial, ⟨rfl, trivial⟩, trivial⟩, trivial⟩
    · show 0 + xs.length ≤ xs.length
      omega
    · exact congrArg (SV.lst (A := AF) 3) (show comm xs ys = (xs.drop 0).take xs.length by rw [hca, List.drop_zero, List.take_of_length_le (Nat.le_refl _)])
def spClone0 : Spec AF where
  γ := Unit
  δ := Unit
  args := fun _ => [.lst 3 []]
  own := fun _ => []
  pre := fun _ => True
  nnew := 0
  res := fun _ _ => .lst 3 []
  own' := fun _ _ => []
  post := fun _ _ => True
def spClone1 : Spec AF := { spClone0 with args := fun _ => [.val (.slice none 0 0)] }
def spClone2 : Spec AF where
  γ := Addr × Nat
  δ := Unit
  args := fun g => [.val (.slice (some g.1) 0 g.2)]
  own := fun _ => []
  pre := fun _ => True
  nnew := 0
  res := fun _ _ => .lst 3 []
  own' := fun _ _ => []
  post := fun _ _ => True
theorem m_clone1 : Meets Tryd.prog regF 63 spClone1 := by
  refine meets Tryd.func63 8 noWr rfl (by kernel_rfl) (by kernel_rfl) ?_
  rintro ⟨⟩ _
  conv => whnf
  repeat' (first | (refine tell (fun hQ => ?_) (fun hQ => ?_) <;> (try dsimp only at hQ) <;> first | (exfalso; omega) | (exact absurd rfl hQ) | (exact absurd hQ hne) | (exact absurd hne hQ) | (exact absurd (by decide) hQ) | (conv => whnf)) | (refine allG rfl ?_; conv => whnf) | (refine And.intro (by first | omega | assumption | kernel_rfl | exact And.intro rfl rfl | ((try dsimp only [inR, idx, lowOf]); first | omega | (with_reducible decide) | (simp; omega) | (simp; done) | fail) | fail) ?_; conv => whnf) | fail)
  exact ⟨(), [], trivial, rfl, trivial, trivial⟩
theorem m_clone2 : Meets Tryd.prog regF 63 spClone2 := by
  refine meets Tryd.func63 8 noWr rfl (by kernel_rfl) (by kernel_rfl) ?_
  rintro ⟨(a : Addr), (k : Nat)⟩ _
  conv => whnf
  repeat' (first | (refine tell (fun hQ => ?_) (fun hQ => ?_) <;> (try dsimp only at hQ) <;> first | (exfalso; omega) | (exact absurd rfl hQ) | (exact absurd hQ hne) | (exact absurd hne hQ) | (exact absurd (by decide) hQ) | (conv => whnf)) | (refine allG rfl ?_; conv => whnf) | (refine And.intro (by first | omega | assumption | kernel_rfl | exact And.intro rfl rfl | ((try dsimp only [inR, idx, lowOf]); first | omega | (with_reducible decide) | (simp; omega) | (simp; done) | fail) | fail) ?_; conv => whnf) | fail)
  exact ⟨(), [], trivial, ⟨Nat.le_refl _, rfl, rfl⟩, trivial, trivial⟩
theorem m_clone0 : Meets Tryd.prog regF 63 spClone0 := by
  refine ⟨m_clone1.1, fun g hg X ρ w vs h1 h2 h3 h4 => ?_⟩
  have hobt := Array.size_eq_one_iff.1 (show vs.size = 1 by have h := h3.1; simp [spClone0] at h; exact h.symm)
  obtain ⟨v, rfl⟩ := hobt
  have hv : Den regF ρ (fun b => X b ∨ Blk ((spClone0.own g).map some) ρ b) w (.lst 3 []) v := h3.2 0 _ v rfl rfl
  have one : ∀ u : Value, DenL regF ρ (fun b => X b ∨ Blk ((spClone0.own g).map some) ρ b) w [.val u] [u] := fun u => ⟨rfl, fun j s x hs hx => by
    match j with
    | 0 => simp at hs hx; subst hs; subst hx; exact .val _
    | j + 1 => simp at hs⟩
  cases hv with
  | lnil _ cap hc => subst hc; exact m_clone1.2 () trivial X ρ w _ h1 h2 (one _) h4
  | lempty _ a cap ha =>
    cases a with
    | none => exact absurd rfl ha
    | some a => exact m_clone2.2 (a, cap) trivial X ρ w _ h1 h2 (one _) h4
  | lst _ _ b off cap c E fz g' ho hb hcap hc hd => exact m_clone2.2 (⟨b, off, none⟩, cap) trivial X ρ w _ h1 h2 (one _) h4
def spClone : Spec AF where
  γ := List Int
  δ := Unit
  args := fun xs => [.lst 3 xs]
  own := fun _ => []
  pre := fun xs => 0 < xs.length ∧ xs.length ≤ 17592186044416
  nnew := 1
  res := fun xs _ => .sl 0 1 0 xs.length
  own' := fun xs _ => [some (.arr 3 xs)]
  post := fun _ _ => True
theorem m_clone : Meets Tryd.prog regF 63 spClone := by
  refine meets Tryd.func63 8 noWr rfl (by kernel_rfl) (by kernel_rfl) ?_
  rintro (xs : List Int) ⟨(h0 : 0 < xs.length), (hl : xs.length ≤ 17592186044416)⟩
  conv => whnf
  repeat' (first | (refine tell (fun hQ => ?_) (fun hQ => ?_) <;> (try dsimp only at hQ) <;> first | (exfalso; omega) | (exact absurd rfl hQ) | (exact absurd hQ hne) | (exact absurd hne hQ) | (exact absurd (by decide) hQ) | (conv => whnf)) | (refine allG rfl ?_; conv => whnf) | (refine And.intro (by first | omega | assumption | kernel_rfl | exact And.intro rfl rfl | ((try dsimp only [inR, idx, lowOf]); first | omega | (with_reducible decide) | (simp; omega) | (simp; done) | fail) | fail) ?_; conv => whnf) | fail)
  refine ⟨(), [1007], trivial, ?_, ?_, trivial⟩
  · exact congrArg (SV.sl (A := AF) 1007 1 0) (show 0 + xs.length = xs.length by omega)
  · exact ⟨rfl, trivial⟩
def spMin : Spec AF where
  γ := List Int
  δ := Int
  args := fun xs => [.lst 3 xs]
  own := fun _ => []
  pre := fun xs => 0 < xs.length ∧ xs.length ≤ 9223372036854775807
  nnew := 0
  res := fun _ r => vI r
  own' := fun _ _ => []
  post := fun xs r => r ∈ xs ∧ ∀ y ∈ xs, r ≤ y
theorem min_ex : ∀ {xs : List Int}, 0 < xs.length → ∃ r, r ∈ xs ∧ ∀ y ∈ xs, r ≤ y
  | [x], _ => ⟨x, by simp, by simp⟩
  | x :: y :: l, _ => by
    have hobt := min_ex (xs := y :: l) (by simp)
    obtain ⟨r, h1, h2⟩ := hobt
    by_cases h : x ≤ r
    · exact ⟨x, by simp, fun z hz => by
        rcases List.mem_cons.1 hz with rfl | hz
        · exact Int.le_refl _
        · have := h2 z hz; omega⟩
    · exact ⟨r, List.mem_cons_of_mem _ h1, fun z hz => by
        rcases List.mem_cons.1 hz with rfl | hz
        · omega
        · exact h2 z hz⟩
theorem m_min : Meets Tryd.prog regF 66 spMin := by
  refine meets Tryd.func66 25 noWr rfl (by kernel_rfl) (by kernel_rfl) ?_
  rintro (xs : List Int) ⟨(h0 : 0 < xs.length), (hl : xs.length ≤ 9223372036854775807)⟩
  have hobt : ∃ z, xs[0]? = some z := ⟨_, List.getElem?_eq_getElem h0⟩
  obtain ⟨z, hz⟩ := hobt
  conv => whnf
  repeat' (first | (refine tell (fun hQ => ?_) (fun hQ => ?_) <;> (try dsimp only at hQ) <;> first | (exfalso; omega) | (exact absurd rfl hQ) | (exact absurd hQ hne) | (exact absurd hne hQ) | (exact absurd (by decide) hQ) | (conv => whnf)) | (refine allG (x := z) (by first | exact hz | simpa [List.getElem?_append_right, lowOf] using hz | fail) ?_; conv => whnf) | (refine allLst (x := z) (by first | omega | assumption | fail) (by first | exact hz | simpa using hz | fail) ?_; conv => whnf) | (refine allG rfl ?_; conv => whnf) | (refine And.intro (by first | omega | assumption | kernel_rfl | exact And.intro rfl rfl | ((try dsimp only [inR, idx, lowOf]); first | omega | (with_reducible decide) | (simp; omega) | (simp; done) | fail) | fail) ?_; conv => whnf) | fail)
  refine ⟨Nat × Int, fun p => ⟨[(0, .lst 3 xs), (3, vI p.2), (4, vI p.1)], []⟩, fun p => 1 ≤ p.1 ∧ p.1 ≤ xs.length ∧ p.2 ∈ xs.take p.1 ∧ ∀ y ∈ xs.take p.1, p.2 ≤ y, fun p => xs.length - p.1, fun _ _ => rfl, ⟨(1, z), [], ⟨Nat.le_refl 1, h0, by rw [take_snocI hz]; simp, by rw [take_snocI hz]; simp⟩, ?_⟩, ?_⟩
  · refine ⟨rfl, ?_, ?_, rfl⟩
    all_goals (repeat' (first | exact trivial | exact rfl | refine And.intro ?_ ?_ | (refine congrArg vI ?_; first | omega | (dsimp only; omega) | fail) | (refine congrArg some ?_) | omega | exact Nat.le_refl _ | exact congrArg (SV.lst _) (List.take_of_length_le (Nat.le_refl _)).symm))
  rintro ⟨(i : Nat), (m : Int)⟩ ⟨(h1 : 1 ≤ i), (hi : i ≤ xs.length), (hm : m ∈ xs.take i), (hmin : ∀ y ∈ xs.take i, m ≤ y)⟩
  by_cases hlt : i < xs.length
  · have hobt : ∃ x, xs[i]? = some x := ⟨_, List.getElem?_eq_getElem hlt⟩
    obtain ⟨x, hx⟩ := hobt
    have htk := take_snocI hx
    have hmm : min m x ∈ xs.take (i + 1) := by
      rw [htk]
      by_cases h : m ≤ x
      · rw [Int.min_eq_left h]; exact List.mem_append_left _ hm
      · rw [Int.min_eq_right (by omega)]; simp
    have hle : ∀ y ∈ xs.take (i + 1), min m x ≤ y := fun y hy => by
      rw [htk] at hy
      rcases List.mem_append.1 hy with hy | hy
      · have := hmin y hy; omega
      · simp at hy; omega
    conv => whnf
    repeat' (first | (refine tell (fun hQ => ?_) (fun hQ => ?_) <;> (try dsimp only at hQ) <;> first | (exfalso; omega) | (exact absurd rfl hQ) | (exact absurd hQ hne) | (exact absurd hne hQ) | (exact absurd (by decide) hQ) | (conv => whnf)) | (refine allG (x := x) (by first | exact hx | simpa [List.getElem?_append_right, lowOf] using hx | fail) ?_; conv => whnf) | (refine allLst (x := x) (by first | omega | assumption | fail) (by first | exact hx | simpa using hx | fail) ?_; conv => whnf) | (refine allG rfl ?_; conv => whnf) | (refine And.intro (by first | omega | assumption | kernel_rfl | exact And.intro rfl rfl | ((try dsimp only [inR, idx, lowOf]); first | omega | (with_reducible decide) | (simp; omega) | (simp; done) | fail) | fail) ?_; conv => whnf) | fail)
    refine ⟨(i + 1, min m x), [], ⟨by show 1 ≤ i + 1; omega, hlt, hmm, hle⟩, ?_, rfl, ?_, ?_, rfl⟩
    · dsimp only; first | omega | (simp; done) | (simp; omega)
    all_goals (repeat' (first | exact trivial | exact rfl | refine And.intro ?_ ?_ | (refine congrArg vI ?_; first | omega | (dsimp only; omega) | fail) | (refine congrArg some ?_) | omega | exact Nat.le_refl _ | exact congrArg (SV.lst _) (List.take_of_length_le (Nat.le_refl _)).symm))
  · rw [List.take_of_length_le (by omega)] at hm hmin
    conv => whnf
    repeat' (first | (refine tell (fun hQ => ?_) (fun hQ => ?_) <;> (try dsimp only at hQ) <;> first | (exfalso; omega) | (exact absurd rfl hQ) | (exact absurd hQ hne) | (exact absurd hne hQ) | (exact absurd (by decide) hQ) | (conv => whnf)) | (refine allG rfl ?_; conv => whnf) | (refine And.intro (by first | omega | assumption | kernel_rfl | exact And.intro rfl rfl | ((try dsimp only [inR, idx, lowOf]); first | omega | (with_reducible decide) | (simp; omega) | (simp; done) | fail) | fail) ?_; conv => whnf) | fail)
    exact ⟨m, [], ⟨hm, hmin⟩, rfl, trivial, trivial⟩
def spEqual : Spec AF where
  γ := List Int × List Int
  δ := Bool
  args := fun g => [.lst 3 g.1, .lst 3 g.2]
  own := fun _ => []
  pre := fun g => g.1.length ≤ 9223372036854775807
  nnew := 0
  res := fun _ c => vB c
  own' := fun _ _ => []
  post := fun g c => (c = true ↔ g.1 = g.2)
theorem m_equal : Meets Tryd.prog regF 67 spEqual := by
  refine meets Tryd.func67 26 noWr rfl (by kernel_rfl) (by kernel_rfl) ?_
  rintro ⟨(a : List Int), (b : List Int)⟩ (hl : a.length ≤ 9223372036854775807)
  by_cases hlen : a.length = b.length
  · conv => whnf
    repeat' (first | (refine tell (fun hQ => ?_) (fun hQ => ?_) <;> (try dsimp only at hQ) <;> first | (exfalso; omega) | (exact absurd rfl hQ) | (exact absurd hQ hne) | (exact absurd hne hQ) | (exact absurd (by decide) hQ) | (conv => whnf)) | (refine allG rfl ?_; conv => whnf) | (refine And.intro (by first | omega | assumption | kernel_rfl | exact And.intro rfl rfl | ((try dsimp only [inR, idx, lowOf]); first | omega | (with_reducible decide) | (simp; omega) | (simp; done) | fail) | fail) ?_; conv => whnf) | fail)
    refine ⟨Nat, fun i => ⟨[(0, .lst 3 a), (1, .lst 3 b), (12, vI a.length), (13, vI i)], []⟩, fun i => i ≤ a.length ∧ a.take i = b.take i, fun i => a.length - i, fun _ _ => rfl, ⟨0, [], ⟨Nat.zero_le _, rfl⟩, ?_⟩, ?_⟩
    · refine ⟨rfl, ?_, ?_, rfl⟩
      all_goals (repeat' (first | exact trivial | exact rfl | refine And.intro ?_ ?_ | (refine congrArg vI ?_; first | omega | (dsimp only; omega) | fail) | (refine congrArg some ?_) | omega | exact Nat.le_refl _ | exact congrArg (SV.lst _) (List.take_of_length_le (Nat.le_refl _)).symm))
    rintro (i : Nat) ⟨(hi : i ≤ a.length), (hs : a.take i = b.take i)⟩
    by_cases hlt : i < a.length
    · have hobt : ∃ x, a[i]? = some x := ⟨_, List.getElem?_eq_getElem hlt⟩
      obtain ⟨x, hx⟩ := hobt
      have hobt : ∃ y, b[i]? = some y := ⟨_, List.getElem?_eq_getElem (by omega)⟩
      obtain ⟨y, hy⟩ := hobt
      by_cases hxy : x = y
      · conv => whnf
        repeat' (first | (refine tell (fun hQ => ?_) (fun hQ => ?_) <;> (try dsimp only at hQ) <;> first | (exfalso; omega) | (exact absurd rfl hQ) | (exact absurd hQ hne) | (exact absurd hne hQ) | (exact absurd (by decide) hQ) | (conv => whnf)) | (refine allG (x := x) (by first | exact hx | simpa [List.getElem?_append_right, lowOf] using hx | fail) ?_; conv => whnf) | (refine allLst (x := x) (by first | omega | assumption | fail) (by first | exact hx | simpa using hx | fail) ?_; conv => whnf) | (refine allG (x := y) (by first | exact hy | simpa [List.getElem?_append_right, lowOf] using hy | fail) ?_; conv => whnf) | (refine allLst (x := y) (by first | omega | assumption | fail) (by first | exact hy | simpa using hy | fail) ?_; conv => whnf) | (refine allG rfl ?_; conv => whnf) | (refine And.intro (by first | omega | assumption | kernel_rfl | exact And.intro rfl rfl | ((try dsimp only [inR, idx, lowOf]); first | omega | (with_reducible decide) | (simp; omega) | (simp; done) | fail) | fail) ?_; conv => whnf) | fail)
        refine ⟨i + 1, [], ⟨hlt, by rw [take_snocI hx, take_snocI hy, hs, hxy]⟩, ?_, rfl, ?_, ?_, rfl⟩
        · dsimp only; first | omega | (simp; done) | (simp; omega)
        all_goals (repeat' (first | exact trivial | exact rfl | refine And.intro ?_ ?_ | (refine congrArg vI ?_; first | omega | (dsimp only; omega) | fail) | (refine congrArg some ?_) | omega | exact Nat.le_refl _ | exact congrArg (SV.lst _) (List.take_of_length_le (Nat.le_refl _)).symm))
      · have hne : ¬ a = b := fun h => hxy (by rw [h, hy] at hx; exact (Option.some.inj hx).symm)
        conv => whnf
        repeat' (first | (refine tell (fun hQ => ?_) (fun hQ => ?_) <;> (try dsimp only at hQ) <;> first | (exfalso; omega) | (exact absurd rfl hQ) | (exact absurd hQ hne) | (exact absurd hne hQ) | (exact absurd (by decide) hQ) | (conv => whnf)) | (refine allG (x := x) (by first | exact hx | simpa [List.getElem?_append_right, lowOf] using hx | fail) ?_; conv => whnf) | (refine allLst (x := x) (by first | omega | assumption | fail) (by first | exact hx | simpa using hx | fail) ?_; conv => whnf) | (refine allG (x := y) (by first | exact hy | simpa [List.getElem?_append_right, lowOf] using hy | fail) ?_; conv => whnf) | (refine allLst (x := y) (by first | omega | assumption | fail) (by first | exact hy | simpa using hy | fail) ?_; conv => whnf) | (refine allG rfl ?_; conv => whnf) | (refine And.intro (by first | omega | assumption | kernel_rfl | exact And.intro rfl rfl | ((try dsimp only [inR, idx, lowOf]); first | omega | (with_reducible decide) | (simp; omega) | (simp; done) | fail) | fail) ?_; conv => whnf) | fail)
        exact ⟨false, [], ⟨fun h => (by cases h), fun h => absurd h hne⟩, rfl, trivial, trivial⟩
    · rw [List.take_of_length_le (by omega), List.take_of_length_le (by omega)] at hs
      conv => whnf
      repeat' (first | (refine tell (fun hQ => ?_) (fun hQ => ?_) <;> (try dsimp only at hQ) <;> first | (exfalso; omega) | (exact absurd rfl hQ) | (exact absurd hQ hne) | (exact absurd hne hQ) | (exact absurd (by decide) hQ) | (conv => whnf)) | (refine allG rfl ?_; conv => whnf) | (refine And.intro (by first | omega | assumption | kernel_rfl | exact And.intro rfl rfl | ((try dsimp only [inR, idx, lowOf]); first | omega | (with_reducible decide) | (simp; omega) | (simp; done) | fail) | fail) ?_; conv => whnf) | fail)
      exact ⟨true, [], ⟨fun _ => hs, fun _ => rfl⟩, rfl, trivial, trivial⟩
  · have hne : ¬ a = b := fun h => hlen (by rw [h])
    conv => whnf
    repeat' (first | (refine tell (fun hQ => ?_) (fun hQ => ?_) <;> (try dsimp only at hQ) <;> first | (exfalso; omega) | (exact absurd rfl hQ) | (exact absurd hQ hne) | (exact absurd hne hQ) | (exact absurd (by decide) hQ) | (conv => whnf)) | (refine allG rfl ?_; conv => whnf) | (refine And.intro (by first | omega | assumption | kernel_rfl | exact And.intro rfl rfl | ((try dsimp only [inR, idx, lowOf]); first | omega | (with_reducible decide) | (simp; omega) | (simp; done) | fail) | fail) ?_; conv => whnf) | fail)
    exact ⟨false, [], ⟨fun h => (by cases h), fun h => absurd h hne⟩, rfl, trivial, trivial⟩
end Go.Sx


/-
  Layer 21, part B: Shared, Kind.
-/
namespace Go.Sx
open Go Go.Proofs Go.Proofs.YtmogappoadglgaaDoor
theorem comm_nil {ys : List Int} : comm [] ys = [] := rfl
theorem mem_comm {xs ys : List Int} {x : Int} : x ∈ comm xs ys ↔ x ∈ xs ∧ x ∈ ys := by unfold comm; simp
abbrev LL := List (List Int)
/-- What two lists, the first ones, have in common. -/
def SharedR (l : LL) (p : Int × Int × Int × Bool) : Prop :=
  (p = (0, 0, 0, false) ∧ ∀ (i j : Nat) xs ys, i < j → l[i]? = some xs → l[j]? = some ys → comm xs ys = []) ∨
  (∃ (a b : Nat) (x : Int) (xs ys : List Int), p = ((a : Int), (b : Int), x, true) ∧ a < b ∧ l[a]? = some xs ∧ l[b]? = some ys ∧ x ∈ comm xs ys ∧ (∀ y ∈ comm xs ys, x ≤ y) ∧
    ∀ (i j : Nat) xs' ys', i < j → (i < a ∨ (i = a ∧ j < b)) → l[i]? = some xs' → l[j]? = some ys' → comm xs' ys' = [])
def ShortL (l : LL) : Prop := l.length ≤ 1000000 ∧ ∀ xs ∈ l, xs.length ≤ 17592186044416
theorem sharedR_ex (l : LL) : ∃ p, SharedR l p := by
  by_cases h : ∃ a : Nat, ∃ b xs ys, a < b ∧ l[a]? = some xs ∧ l[b]? = some ys ∧ comm xs ys ≠ []
  · obtain ⟨a0, h0⟩ := h
    have hobt := ex_min (p := fun a => ∃ b xs ys, a < b ∧ l[a]? = some xs ∧ l[b]? = some ys ∧ comm xs ys ≠ []) a0 h0
    obtain ⟨a, ha, hamin⟩ := hobt
    obtain ⟨b0, hb0⟩ := ha
    have hobt := ex_min (p := fun b => ∃ xs ys, a < b ∧ l[a]? = some xs ∧ l[b]? = some ys ∧ comm xs ys ≠ []) b0 hb0
    obtain ⟨b, ⟨xs, ys, hab, hxs, hys, hne⟩, hbmin⟩ := hobt
    have hobt := min_ex (List.length_pos_iff.2 hne)
    obtain ⟨x, hx, hmin⟩ := hobt
    refine ⟨_, .inr ⟨a, b, x, xs, ys, rfl, hab, hxs, hys, hx, hmin, fun i j xs' ys' hij hlt hi hj => Classical.byContradiction fun hc => ?_⟩⟩
    rcases hlt with h | ⟨rfl, h⟩
    · have := hamin i ⟨j, xs', ys', hij, hi, hj, hc⟩; omega
    · have := hbmin j ⟨xs', ys', hij, hi, hj, hc⟩; omega
  · exact ⟨_, .inl ⟨rfl, fun i j xs ys hij hi hj => Classical.byContradiction fun hc => h ⟨i, j, xs, ys, hij, hi, hj, hc⟩⟩⟩
def spShared : Spec AF where
  γ := LL
  δ := Int × Int × Int × Bool
  args := fun l => [.lst 23 l]
  own := fun _ => []
  pre := ShortL
  nnew := 0
  res := fun _ p => .tup [vI p.1, vI p.2.1, vI p.2.2.1, vB p.2.2.2]
  own' := fun _ _ => []
  post := SharedR
set_option maxHeartbeats 1600000 in
theorem m_shared : Meets Tryd.prog regF 33 spShared := by
  refine meets Tryd.func33 44 noWr rfl (by kernel_rfl) (by kernel_rfl) ?_
  rintro (l : LL) ⟨(hl : l.length ≤ 1000000), (hls : ∀ xs ∈ l, xs.length ≤ 17592186044416)⟩
  conv => whnf
  repeat' (first | (refine tell (fun hQ => ?_) (fun hQ => ?_) <;> (try dsimp only at hQ) <;> first | (exfalso; omega) | (exact absurd rfl hQ) | (exact absurd hQ hne) | (exact absurd hne hQ) | (exact absurd (by decide) hQ) | (conv => whnf)) | (refine allG rfl ?_; conv => whnf) | (refine And.intro (by first | omega | assumption | kernel_rfl | exact And.intro rfl rfl | ((try dsimp only [inR, idx, lowOf]); first | omega | (with_reducible decide) | (simp; omega) | (simp; done) | fail) | fail) ?_; conv => whnf) | fail)
  refine ⟨Nat, fun i => ⟨[(0, .lst 23 l), (2, vI 0), (3, vI 0), (4, vI 0), (5, vB false), (11, .lst 23 l), (12, vI l.length), (13, vI i)], []⟩, fun i => i ≤ l.length ∧ ∀ (i' j : Nat) xs ys, i' < j → i' < i → l[i']? = some xs → l[j]? = some ys → comm xs ys = [], fun i => l.length - i, fun _ _ => rfl, ⟨0, [], ⟨Nat.zero_le _, fun i' j _ _ _ h => absurd h (Nat.not_lt_zero _)⟩, ?_⟩, ?_⟩
  · refine ⟨rfl, ?_, ?_, rfl⟩
    all_goals (repeat' (first | exact trivial | exact rfl | refine And.intro ?_ ?_ | (refine congrArg vI ?_; first | omega | (dsimp only; omega) | fail) | (refine congrArg some ?_) | omega | exact Nat.le_refl _ | exact congrArg (SV.lst _) (List.take_of_length_le (Nat.le_refl _)).symm))
  rintro (i : Nat) ⟨(hi : i ≤ l.length), (hno : ∀ (i' j : Nat) xs ys, i' < j → i' < i → l[i']? = some xs → l[j]? = some ys → comm xs ys = [])⟩
  by_cases hlt : i < l.length
  · have hobt : ∃ xs, l[i]? = some xs := ⟨_, List.getElem?_eq_getElem hlt⟩
    obtain ⟨xs, hxs⟩ := hobt
    have hxl := hls xs (List.mem_of_getElem? hxs)
    conv => whnf
    repeat' (first | (refine tell (fun hQ => ?_) (fun hQ => ?_) <;> (try dsimp only at hQ) <;> first | (exfalso; omega) | (exact absurd rfl hQ) | (exact absurd hQ hne) | (exact absurd hne hQ) | (exact absurd (by decide) hQ) | (conv => whnf)) | (refine allG (x := xs) (by first | exact hxs | simpa [List.getElem?_append_right, lowOf] using hxs | fail) ?_; conv => whnf) | (refine allLst (x := xs) (by first | omega | assumption | fail) (by first | exact hxs | simpa using hxs | fail) ?_; conv => whnf) | (refine allG rfl ?_; conv => whnf) | (refine And.intro (by first | omega | assumption | kernel_rfl | exact And.intro rfl rfl | ((try dsimp only [inR, idx, lowOf]); first | omega | (with_reducible decide) | (simp; omega) | (simp; done) | fail) | fail) ?_; conv => whnf) | fail)
    have hdl : (l.drop (i + 1)).length = l.length - (i + 1) := List.length_drop
    refine ⟨Nat, fun k => ⟨[(0, .lst 23 l), (2, vI 0), (3, vI 0), (4, vI 0), (5, vB false), (11, .lst 23 l), (12, vI l.length), (13, vI i), (6, vI i), (7, .lst 3 xs), (21, .lst 23 (l.drop (i + 1))), (22, vI (l.drop (i + 1)).length), (23, vI k)], []⟩, fun k => k ≤ (l.drop (i + 1)).length ∧ ∀ (j : Nat) ys, i < j → j < i + 1 + k → l[j]? = some ys → comm xs ys = [], fun k => (l.drop (i + 1)).length - k, fun _ _ => rfl, ⟨0, [], ⟨Nat.zero_le _, fun j ys h1 h2 => by omega⟩, ?_⟩, ?_⟩
    · refine ⟨rfl, ?_, ?_, rfl⟩
      all_goals (repeat' (first | exact trivial | exact rfl | refine And.intro ?_ ?_ | (refine congrArg vI ?_; first | omega | (dsimp only; omega) | fail) | (refine congrArg some ?_) | omega | exact Nat.le_refl _ | exact congrArg (SV.lst _) (List.take_of_length_le (Nat.le_refl _)).symm))
    rintro (k : Nat) ⟨(hk : k ≤ (l.drop (i + 1)).length), (hnk : ∀ (j : Nat) ys, i < j → j < i + 1 + k → l[j]? = some ys → comm xs ys = [])⟩
    by_cases hkl : k < (l.drop (i + 1)).length
    · have hobt : ∃ ys, (l.drop (i + 1))[k]? = some ys := ⟨_, List.getElem?_eq_getElem hkl⟩
      obtain ⟨ys, hys⟩ := hobt
      have hys2 : l[i + 1 + k]? = some ys := by rw [List.getElem?_drop] at hys; exact hys
      have hyl := hls ys (List.mem_of_getElem? hys2)
      have next : comm xs ys = [] → ∀ (j : Nat) ys', i < j → j < i + 1 + (k + 1) → l[j]? = some ys' → comm xs ys' = [] := fun h j ys' h1 h2 h3 => by
        by_cases e : j = i + 1 + k
        · subst e; rw [hys2] at h3; cases h3; exact h
        · exact hnk j ys' h1 (by omega) h3
      by_cases hx0 : xs = []
      · subst hx0
        have h00 : (List.length ([] : List (AF 3))) = 0 := rfl
        conv => whnf
        repeat' (first | (refine tell (fun hQ => ?_) (fun hQ => ?_) <;> (try dsimp only at hQ) <;> first | (exfalso; omega) | (exact absurd rfl hQ) | (exact absurd hQ hne) | (exact absurd hne hQ) | (exact absurd (by decide) hQ) | (conv => whnf)) | (refine allG (x := ys) (by first | exact hys | simpa [List.getElem?_append_right, lowOf] using hys | fail) ?_; conv => whnf) | (refine allLst (x := ys) (by first | omega | assumption | fail) (by first | exact hys | simpa using hys | fail) ?_; conv => whnf) | (refine allG rfl ?_; conv => whnf) | (refine And.intro (by first | omega | assumption | kernel_rfl | exact And.intro rfl rfl | ((try dsimp only [inR, idx, lowOf]); first | omega | (with_reducible decide) | (simp; omega) | (simp; done) | fail) | fail) ?_; conv => whnf) | fail)
        refine ⟨_, m_clone0, (), [], false, ?_⟩
        conv => whnf
        refine And.intro (vc0 trivial (by (repeat' (first | exact trivial | exact rfl | refine And.intro ?_ ?_ | (refine congrArg vI ?_; first | omega | (dsimp only; omega) | fail) | (refine congrArg some ?_) | omega | exact Nat.le_refl _ | exact congrArg (SV.lst _) (List.take_of_length_le (Nat.le_refl _)).symm))) (by repeat' (first | exact trivial | exact rfl | refine And.intro ?_ ?_ | (refine congrArg vI ?_; first | omega | (dsimp only; omega) | fail) | (refine congrArg some ?_) | omega | exact Nat.le_refl _ | exact congrArg (SV.lst _) (List.take_of_length_le (Nat.le_refl _)).symm)) trivial trivial) ?_
        refine And.intro ⟨(), trivial⟩ (fun (_ : Unit) _ => ?_)
        conv => whnf
        conv => whnf
        repeat' (first | (refine tell (fun hQ => ?_) (fun hQ => ?_) <;> (try dsimp only at hQ) <;> first | (exfalso; omega) | (exact absurd rfl hQ) | (exact absurd hQ hne) | (exact absurd hne hQ) | (exact absurd (by decide) hQ) | (conv => whnf)) | (refine allG rfl ?_; conv => whnf) | (refine And.intro (by first | omega | assumption | kernel_rfl | exact And.intro rfl rfl | ((try dsimp only [inR, idx, lowOf]); first | omega | (with_reducible decide) | (simp; omega) | (simp; done) | fail) | fail) ?_; conv => whnf) | fail)
        refine ⟨_, m_del0, ys, [1009], false, ?_⟩
        conv => whnf
        refine And.intro (vc0 (show ys.length ≤ 9223372036854775807 by omega) (by (repeat' (first | exact trivial | exact rfl | refine And.intro ?_ ?_ | (refine congrArg vI ?_; first | omega | (dsimp only; omega) | fail) | (refine congrArg some ?_) | omega | exact Nat.le_refl _ | exact congrArg (SV.lst _) (List.take_of_length_le (Nat.le_refl _)).symm))) (by repeat' (first | exact trivial | exact rfl | refine And.intro ?_ ?_ | (refine congrArg vI ?_; first | omega | (dsimp only; omega) | fail) | (refine congrArg some ?_) | omega | exact Nat.le_refl _ | exact congrArg (SV.lst _) (List.take_of_length_le (Nat.le_refl _)).symm)) trivial trivial) ?_
        refine And.intro ⟨(), trivial⟩ (fun (_ : Unit) _ => ?_)
        conv => whnf
        conv => whnf
        repeat' (first | (refine tell (fun hQ => ?_) (fun hQ => ?_) <;> (try dsimp only at hQ) <;> first | (exfalso; omega) | (exact absurd rfl hQ) | (exact absurd hQ hne) | (exact absurd hne hQ) | (exact absurd (by decide) hQ) | (conv => whnf)) | (refine allG rfl ?_; conv => whnf) | (refine And.intro (by first | omega | assumption | kernel_rfl | exact And.intro rfl rfl | ((try dsimp only [inR, idx, lowOf]); first | omega | (with_reducible decide) | (simp; omega) | (simp; done) | fail) | fail) ?_; conv => whnf) | fail)
        refine ⟨k + 1, [], ⟨hkl, next rfl⟩, ?_, rfl, ?_, ?_, rfl⟩
        · dsimp only; first | omega | (simp; done) | (simp; omega)
        all_goals (repeat' (first | exact trivial | exact rfl | refine And.intro ?_ ?_ | (refine congrArg vI ?_; first | omega | (dsimp only; omega) | fail) | (refine congrArg some ?_) | omega | exact Nat.le_refl _ | exact congrArg (SV.lst _) (List.take_of_length_le (Nat.le_refl _)).symm))
      · have hxp : 0 < xs.length := List.length_pos_iff.2 hx0
        conv => whnf
        repeat' (first | (refine tell (fun hQ => ?_) (fun hQ => ?_) <;> (try dsimp only at hQ) <;> first | (exfalso; omega) | (exact absurd rfl hQ) | (exact absurd hQ hne) | (exact absurd hne hQ) | (exact absurd (by decide) hQ) | (conv => whnf)) | (refine allG (x := ys) (by first | exact hys | simpa [List.getElem?_append_right, lowOf] using hys | fail) ?_; conv => whnf) | (refine allLst (x := ys) (by first | omega | assumption | fail) (by first | exact hys | simpa using hys | fail) ?_; conv => whnf) | (refine allG rfl ?_; conv => whnf) | (refine And.intro (by first | omega | assumption | kernel_rfl | exact And.intro rfl rfl | ((try dsimp only [inR, idx, lowOf]); first | omega | (with_reducible decide) | (simp; omega) | (simp; done) | fail) | fail) ?_; conv => whnf) | fail)
        refine ⟨_, m_clone, xs, [], false, ?_⟩
        conv => whnf
        refine And.intro (vc0 ⟨hxp, hxl⟩ (by (repeat' (first | exact trivial | exact rfl | refine And.intro ?_ ?_ | (refine congrArg vI ?_; first | omega | (dsimp only; omega) | fail) | (refine congrArg some ?_) | omega | exact Nat.le_refl _ | exact congrArg (SV.lst _) (List.take_of_length_le (Nat.le_refl _)).symm))) (by repeat' (first | exact trivial | exact rfl | refine And.intro ?_ ?_ | (refine congrArg vI ?_; first | omega | (dsimp only; omega) | fail) | (refine congrArg some ?_) | omega | exact Nat.le_refl _ | exact congrArg (SV.lst _) (List.take_of_length_le (Nat.le_refl _)).symm)) trivial trivial) ?_
        refine And.intro ⟨(), trivial⟩ (fun (_ : Unit) _ => ?_)
        conv => whnf
        conv => whnf
        repeat' (first | (refine tell (fun hQ => ?_) (fun hQ => ?_) <;> (try dsimp only at hQ) <;> first | (exfalso; omega) | (exact absurd rfl hQ) | (exact absurd hQ hne) | (exact absurd hne hQ) | (exact absurd (by decide) hQ) | (conv => whnf)) | (refine allG rfl ?_; conv => whnf) | (refine And.intro (by first | omega | assumption | kernel_rfl | exact And.intro rfl rfl | ((try dsimp only [inR, idx, lowOf]); first | omega | (with_reducible decide) | (simp; omega) | (simp; done) | fail) | fail) ?_; conv => whnf) | fail)
        refine ⟨_, m_del, (xs, ys), [1029, 1009], false, ?_⟩
        conv => whnf
        refine And.intro (vc0 ⟨(show xs.length ≤ 9223372036854775806 by omega), (show ys.length ≤ 9223372036854775807 by omega)⟩ (by (repeat' (first | exact trivial | exact rfl | refine And.intro ?_ ?_ | (refine congrArg vI ?_; first | omega | (dsimp only; omega) | fail) | (refine congrArg some ?_) | omega | exact Nat.le_refl _ | exact congrArg (SV.lst _) (List.take_of_length_le (Nat.le_refl _)).symm))) (by repeat' (first | exact trivial | exact rfl | refine And.intro ?_ ?_ | (refine congrArg vI ?_; first | omega | (dsimp only; omega) | fail) | (refine congrArg some ?_) | omega | exact Nat.le_refl _ | exact congrArg (SV.lst _) (List.take_of_length_le (Nat.le_refl _)).symm)) trivial trivial) ?_
        refine And.intro ⟨(), trivial⟩ (fun (_ : Unit) _ => ?_)
        conv => whnf
        by_cases hc : comm xs ys = []
        · have hc0 : (comm xs ys).length = 0 := by rw [hc]; rfl
          conv => whnf
          repeat' (first | (refine tell (fun hQ => ?_) (fun hQ => ?_) <;> (try dsimp only at hQ) <;> first | (exfalso; omega) | (exact absurd rfl hQ) | (exact absurd hQ hne) | (exact absurd hne hQ) | (exact absurd (by decide) hQ) | (conv => whnf)) | (refine allG rfl ?_; conv => whnf) | (refine And.intro (by first | omega | assumption | kernel_rfl | exact And.intro rfl rfl | ((try dsimp only [inR, idx, lowOf]); first | omega | (with_reducible decide) | (simp; omega) | (simp; done) | fail) | fail) ?_; conv => whnf) | fail)
          refine ⟨k + 1, [], ⟨hkl, next hc⟩, ?_, rfl, ?_, ?_, rfl⟩
          · dsimp only; first | omega | (simp; done) | (simp; omega)
          all_goals (repeat' (first | exact trivial | exact rfl | refine And.intro ?_ ?_ | (refine congrArg vI ?_; first | omega | (dsimp only; omega) | fail) | (refine congrArg some ?_) | omega | exact Nat.le_refl _ | exact congrArg (SV.lst _) (List.take_of_length_le (Nat.le_refl _)).symm))
        · have hc0 : 0 < (comm xs ys).length := List.length_pos_iff.2 hc
          have hcl : (comm xs ys).length ≤ xs.length := by unfold comm; exact List.length_filter_le _ _
          conv => whnf
          repeat' (first | (refine tell (fun hQ => ?_) (fun hQ => ?_) <;> (try dsimp only at hQ) <;> first | (exfalso; omega) | (exact absurd rfl hQ) | (exact absurd hQ hne) | (exact absurd hne hQ) | (exact absurd (by decide) hQ) | (conv => whnf)) | (refine allG rfl ?_; conv => whnf) | (refine And.intro (by first | omega | assumption | kernel_rfl | exact And.intro rfl rfl | ((try dsimp only [inR, idx, lowOf]); first | omega | (with_reducible decide) | (simp; omega) | (simp; done) | fail) | fail) ?_; conv => whnf) | fail)
          refine ⟨_, m_min, comm xs ys, [], false, ?_⟩
          conv => whnf
          refine And.intro (vc0 ⟨hc0, (show (comm xs ys).length ≤ 9223372036854775807 by omega)⟩ (by (repeat' (first | exact trivial | exact rfl | refine And.intro ?_ ?_ | (refine congrArg vI ?_; first | omega | (dsimp only; omega) | fail) | (refine congrArg some ?_) | omega | exact Nat.le_refl _ | exact congrArg (SV.lst _) (List.take_of_length_le (Nat.le_refl _)).symm))) (by repeat' (first | exact trivial | exact rfl | refine And.intro ?_ ?_ | (refine congrArg vI ?_; first | omega | (dsimp only; omega) | fail) | (refine congrArg some ?_) | omega | exact Nat.le_refl _ | exact congrArg (SV.lst _) (List.take_of_length_le (Nat.le_refl _)).symm)) trivial trivial) ?_
          refine And.intro (min_ex hc0) ?_
          rintro (r : Int) ⟨(hr : r ∈ comm xs ys), (hmin : ∀ y ∈ comm xs ys, r ≤ y)⟩
          conv => whnf
          repeat' (first | (refine tell (fun hQ => ?_) (fun hQ => ?_) <;> (try dsimp only at hQ) <;> first | (exfalso; omega) | (exact absurd rfl hQ) | (exact absurd hQ hne) | (exact absurd hne hQ) | (exact absurd (by decide) hQ) | (conv => whnf)) | (refine allG rfl ?_; conv => whnf) | (refine And.intro (by first | omega | assumption | kernel_rfl | exact And.intro rfl rfl | ((try dsimp only [inR, idx, lowOf]); first | omega | (with_reducible decide) | (simp; omega) | (simp; done) | fail) | fail) ?_; conv => whnf) | fail)
          refine ⟨((i : Int), ((i + 1 + k : Nat) : Int), r, true), [], .inr ⟨i, i + 1 + k, r, xs, ys, rfl, by omega, hxs, hys2, hr, hmin, fun i' j xs' ys' hij hlt' hi' hj' => ?_⟩, ⟨rfl, congrArg vI (show (i : Int) + 1 + k = ((i + 1 + k : Nat) : Int) by omega), rfl, rfl, trivial⟩, trivial, trivial⟩
          rcases hlt' with h | ⟨rfl, h⟩
          · exact hno i' j xs' ys' hij h hi' hj'
          · rw [hxs] at hi'; cases hi'; exact hnk j ys' hij h hj'
    · have hnx : ∀ (i' j : Nat) xs' ys, i' < j → i' < i + 1 → l[i']? = some xs' → l[j]? = some ys → comm xs' ys = [] := fun i' j xs' ys hij hi' h1 h2 => by
        by_cases e : i' = i
        · subst e
          rw [hxs] at h1; cases h1
          have := (List.getElem?_eq_some_iff.1 h2).1
          exact hnk j ys hij (by omega) h2
        · exact hno i' j xs' ys hij (by omega) h1 h2
      conv => whnf
      repeat' (first | (refine tell (fun hQ => ?_) (fun hQ => ?_) <;> (try dsimp only at hQ) <;> first | (exfalso; omega) | (exact absurd rfl hQ) | (exact absurd hQ hne) | (exact absurd hne hQ) | (exact absurd (by decide) hQ) | (conv => whnf)) | (refine allG rfl ?_; conv => whnf) | (refine And.intro (by first | omega | assumption | kernel_rfl | exact And.intro rfl rfl | ((try dsimp only [inR, idx, lowOf]); first | omega | (with_reducible decide) | (simp; omega) | (simp; done) | fail) | fail) ?_; conv => whnf) | fail)
      refine ⟨i + 1, [], ⟨hlt, hnx⟩, ?_, rfl, ?_, ?_, rfl⟩
      · dsimp only; first | omega | (simp; done) | (simp; omega)
      all_goals (repeat' (first | exact trivial | exact rfl | refine And.intro ?_ ?_ | (refine congrArg vI ?_; first | omega | (dsimp only; omega) | fail) | (refine congrArg some ?_) | omega | exact Nat.le_refl _ | exact congrArg (SV.lst _) (List.take_of_length_le (Nat.le_refl _)).symm))
  · conv => whnf
    repeat' (first | (refine tell (fun hQ => ?_) (fun hQ => ?_) <;> (try dsimp only at hQ) <;> first | (exfalso; omega) | (exact absurd rfl hQ) | (exact absurd hQ hne) | (exact absurd hne hQ) | (exact absurd (by decide) hQ) | (conv => whnf)) | (refine allG rfl ?_; conv => whnf) | (refine And.intro (by first | omega | assumption | kernel_rfl | exact And.intro rfl rfl | ((try dsimp only [inR, idx, lowOf]); first | omega | (with_reducible decide) | (simp; omega) | (simp; done) | fail) | fail) ?_; conv => whnf) | fail)
    exact ⟨((0, 0, 0, false) : Int × Int × Int × Bool), [], .inl ⟨rfl, fun i' j xs ys hij h1 h2 => hno i' j xs ys hij (by have := (List.getElem?_eq_some_iff.1 h1).1; omega) h1 h2⟩, ⟨rfl, rfl, rfl, rfl, trivial⟩, trivial, trivial⟩
/-- Does a list begin with another one? -/
def spBegins : Spec AF where
  γ := List Int × List Int
  δ := Bool
  args := fun g => [.lst 3 g.1, .lst 3 g.2]
  own := fun _ => []
  pre := fun g => g.1.length ≤ 9223372036854775807 ∧ g.2.length ≤ 9223372036854775807
  nnew := 0
  res := fun _ c => vB c
  own' := fun _ _ => []
  post := fun g c => (c = true ↔ g.2 <+: g.1)
theorem m_begins : Meets Tryd.prog regF 68 spBegins := by
  refine meets Tryd.func68 18 noWr rfl (by kernel_rfl) (by kernel_rfl) ?_
  rintro ⟨(a : List Int), (b : List Int)⟩ ⟨(ha : a.length ≤ 9223372036854775807), (hb : b.length ≤ 9223372036854775807)⟩
  by_cases h : b.length ≤ a.length
  · conv => whnf
    repeat' (first | (refine tell (fun hQ => ?_) (fun hQ => ?_) <;> (try dsimp only at hQ) <;> first | (exfalso; omega) | (exact absurd rfl hQ) | (exact absurd hQ hne) | (exact absurd hne hQ) | (exact absurd (by decide) hQ) | (conv => whnf)) | (refine allG rfl ?_; conv => whnf) | (refine And.intro (by first | omega | assumption | kernel_rfl | exact And.intro rfl rfl | ((try dsimp only [inR, idx, lowOf]); first | omega | (with_reducible decide) | (simp; omega) | (simp; done) | fail) | fail) ?_; conv => whnf) | fail)
    refine ⟨_, m_equal, ((a.take b.length).drop 0, b), [], false, ?_⟩
    conv => whnf
    refine And.intro (vc0 (show ((a.take b.length).drop 0).length ≤ 9223372036854775807 by simp; omega) (by (repeat' (first | exact trivial | exact rfl | refine And.intro ?_ ?_ | (refine congrArg vI ?_; first | omega | (dsimp only; omega) | fail) | (refine congrArg some ?_) | omega | exact Nat.le_refl _ | exact congrArg (SV.lst _) (List.take_of_length_le (Nat.le_refl _)).symm))) (by repeat' (first | exact trivial | exact rfl | refine And.intro ?_ ?_ | (refine congrArg vI ?_; first | omega | (dsimp only; omega) | fail) | (refine congrArg some ?_) | omega | exact Nat.le_refl _ | exact congrArg (SV.lst _) (List.take_of_length_le (Nat.le_refl _)).symm)) trivial trivial) ?_
    refine And.intro (pred_ex _) ?_
    intro (c : Bool) (hc : c = true ↔ (a.take b.length).drop 0 = b)
    rw [List.drop_zero] at hc
    have hp : (a.take b.length = b) ↔ b <+: a := by rw [List.prefix_iff_eq_take]; exact eq_comm
    conv => whnf
    repeat' (first | (refine tell (fun hQ => ?_) (fun hQ => ?_) <;> (try dsimp only at hQ) <;> first | (exfalso; omega) | (exact absurd rfl hQ) | (exact absurd hQ hne) | (exact absurd hne hQ) | (exact absurd (by decide) hQ) | (conv => whnf)) | (refine allG rfl ?_; conv => whnf) | (refine And.intro (by first | omega | assumption | kernel_rfl | exact And.intro rfl rfl | ((try dsimp only [inR, idx, lowOf]); first | omega | (with_reducible decide) | (simp; omega) | (simp; done) | fail) | fail) ?_; conv => whnf) | fail)
    exact ⟨c, [], hc.trans hp, rfl, trivial, trivial⟩
  · have hn : ¬ b <+: a := fun hp => h hp.length_le
    conv => whnf
    repeat' (first | (refine tell (fun hQ => ?_) (fun hQ => ?_) <;> (try dsimp only at hQ) <;> first | (exfalso; omega) | (exact absurd rfl hQ) | (exact absurd hQ hne) | (exact absurd hne hQ) | (exact absurd (by decide) hQ) | (conv => whnf)) | (refine allG rfl ?_; conv => whnf) | (refine And.intro (by first | omega | assumption | kernel_rfl | exact And.intro rfl rfl | ((try dsimp only [inR, idx, lowOf]); first | omega | (with_reducible decide) | (simp; omega) | (simp; done) | fail) | fail) ?_; conv => whnf) | fail)
    exact ⟨false, [], ⟨fun h => (by cases h), fun h => absurd h hn⟩, rfl, trivial, trivial⟩
/-- What became of a list. -/
noncomputable def kindF (a b : List Int) : Int := open Classical in
  if a = b then 1 else if 1 < a.length ∧ a.drop 1 = b then 2 else if a <+: b then 3 else if b.length = 1 ∧ b <+: a then 4 else 0
noncomputable def spKind : Spec AF where
  γ := List Int × List Int
  δ := Unit
  args := fun g => [.lst 3 g.1, .lst 3 g.2]
  own := fun _ => []
  pre := fun g => g.1.length ≤ 9223372036854775807 ∧ g.2.length ≤ 9223372036854775807
  nnew := 0
  res := fun g _ => vI (kindF g.1 g.2)
  own' := fun _ _ => []
  post := fun _ _ => True
theorem m_kind : Meets Tryd.prog regF 36 spKind := by
  refine meets Tryd.func36 32 noWr rfl (by kernel_rfl) (by kernel_rfl) ?_
  rintro ⟨(a : List Int), (b : List Int)⟩ ⟨(ha : a.length ≤ 9223372036854775807), (hb : b.length ≤ 9223372036854775807)⟩
  conv => whnf
  repeat' (first | (refine tell (fun hQ => ?_) (fun hQ => ?_) <;> (try dsimp only at hQ) <;> first | (exfalso; omega) | (exact absurd rfl hQ) | (exact absurd hQ hne) | (exact absurd hne hQ) | (exact absurd (by decide) hQ) | (conv => whnf)) | (refine allG rfl ?_; conv => whnf) | (refine And.intro (by first | omega | assumption | kernel_rfl | exact And.intro rfl rfl | ((try dsimp only [inR, idx, lowOf]); first | omega | (with_reducible decide) | (simp; omega) | (simp; done) | fail) | fail) ?_; conv => whnf) | fail)
  refine ⟨_, m_equal, (a, b), [], false, ?_⟩
  conv => whnf
  refine And.intro (vc0 ha (by (repeat' (first | exact trivial | exact rfl | refine And.intro ?_ ?_ | (refine congrArg vI ?_; first | omega | (dsimp only; omega) | fail) | (refine congrArg some ?_) | omega | exact Nat.le_refl _ | exact congrArg (SV.lst _) (List.take_of_length_le (Nat.le_refl _)).symm))) (by repeat' (first | exact trivial | exact rfl | refine And.intro ?_ ?_ | (refine congrArg vI ?_; first | omega | (dsimp only; omega) | fail) | (refine congrArg some ?_) | omega | exact Nat.le_refl _ | exact congrArg (SV.lst _) (List.take_of_length_le (Nat.le_refl _)).symm)) trivial trivial) ?_
  refine And.intro (pred_ex _) ?_
  intro (c : Bool) (hc : c = true ↔ a = b)
  have tl : 1 < a.length → ∀ P : Prop, P → P := fun _ _ h => h
  cases c
  · have h1 : ¬ a = b := fun h => by have := hc.2 h; cases this
    have rest : ¬ (1 < a.length ∧ a.drop 1 = b) → ∀ k : Int, k = (open Classical in if a <+: b then 3 else if b.length = 1 ∧ b <+: a then 4 else 0) → k = kindF a b := fun h2 k hk => by
      unfold kindF; rw [if_neg h1, if_neg h2]; exact hk
    by_cases hl : 1 < a.length
    · conv => whnf
      repeat' (first | (refine tell (fun hQ => ?_) (fun hQ => ?_) <;> (try dsimp only at hQ) <;> first | (exfalso; omega) | (exact absurd rfl hQ) | (exact absurd hQ hne) | (exact absurd hne hQ) | (exact absurd (by decide) hQ) | (conv => whnf)) | (refine allG rfl ?_; conv => whnf) | (refine And.intro (by first | omega | assumption | kernel_rfl | exact And.intro rfl rfl | ((try dsimp only [inR, idx, lowOf]); first | omega | (with_reducible decide) | (simp; omega) | (simp; done) | fail) | fail) ?_; conv => whnf) | fail)
      refine ⟨_, m_equal, (a.drop 1, b), [], false, ?_⟩
      conv => whnf
      refine And.intro (vc0 (show (a.drop 1).length ≤ 9223372036854775807 by simp; omega) (by (repeat' (first | exact trivial | exact rfl | refine And.intro ?_ ?_ | (refine congrArg vI ?_; first | omega | (dsimp only; omega) | fail) | (refine congrArg some ?_) | omega | exact Nat.le_refl _ | exact congrArg (SV.lst _) (List.take_of_length_le (Nat.le_refl _)).symm))) (by repeat' (first | exact trivial | exact rfl | refine And.intro ?_ ?_ | (refine congrArg vI ?_; first | omega | (dsimp only; omega) | fail) | (refine congrArg some ?_) | omega | exact Nat.le_refl _ | exact congrArg (SV.lst _) (List.take_of_length_le (Nat.le_refl _)).symm)) trivial trivial) ?_
      refine And.intro (pred_ex _) ?_
      intro (c : Bool) (hc2 : c = true ↔ a.drop 1 = b)
      cases c
      · have hn2 : ¬ (1 < a.length ∧ a.drop 1 = b) := fun h => by have := hc2.2 h.2; cases this
        conv => whnf
        repeat' (first | (refine tell (fun hQ => ?_) (fun hQ => ?_) <;> (try dsimp only at hQ) <;> first | (exfalso; omega) | (exact absurd rfl hQ) | (exact absurd hQ hne) | (exact absurd hne hQ) | (exact absurd (by decide) hQ) | (conv => whnf)) | (refine allG rfl ?_; conv => whnf) | (refine And.intro (by first | omega | assumption | kernel_rfl | exact And.intro rfl rfl | ((try dsimp only [inR, idx, lowOf]); first | omega | (with_reducible decide) | (simp; omega) | (simp; done) | fail) | fail) ?_; conv => whnf) | fail)
        refine ⟨_, m_begins, (b, a), [], false, ?_⟩
        conv => whnf
        refine And.intro (vc0 ⟨hb, ha⟩ (by (repeat' (first | exact trivial | exact rfl | refine And.intro ?_ ?_ | (refine congrArg vI ?_; first | omega | (dsimp only; omega) | fail) | (refine congrArg some ?_) | omega | exact Nat.le_refl _ | exact congrArg (SV.lst _) (List.take_of_length_le (Nat.le_refl _)).symm))) (by repeat' (first | exact trivial | exact rfl | refine And.intro ?_ ?_ | (refine congrArg vI ?_; first | omega | (dsimp only; omega) | fail) | (refine congrArg some ?_) | omega | exact Nat.le_refl _ | exact congrArg (SV.lst _) (List.take_of_length_le (Nat.le_refl _)).symm)) trivial trivial) ?_
        refine And.intro (pred_ex _) ?_
        intro (c : Bool) (hc3 : c = true ↔ a <+: b)
        cases c
        · have h3 : ¬ a <+: b := fun h => by have := hc3.2 h; cases this
          by_cases hb1 : b.length = 1
          · conv => whnf
            repeat' (first | (refine tell (fun hQ => ?_) (fun hQ => ?_) <;> (try dsimp only at hQ) <;> first | (exfalso; omega) | (exact absurd rfl hQ) | (exact absurd hQ hne) | (exact absurd hne hQ) | (exact absurd (by decide) hQ) | (conv => whnf)) | (refine allG rfl ?_; conv => whnf) | (refine And.intro (by first | omega | assumption | kernel_rfl | exact And.intro rfl rfl | ((try dsimp only [inR, idx, lowOf]); first | omega | (with_reducible decide) | (simp; omega) | (simp; done) | fail) | fail) ?_; conv => whnf) | fail)
            refine ⟨_, m_begins, (a, b), [], false, ?_⟩
            conv => whnf
            refine And.intro (vc0 ⟨ha, hb⟩ (by (repeat' (first | exact trivial | exact rfl | refine And.intro ?_ ?_ | (refine congrArg vI ?_; first | omega | (dsimp only; omega) | fail) | (refine congrArg some ?_) | omega | exact Nat.le_refl _ | exact congrArg (SV.lst _) (List.take_of_length_le (Nat.le_refl _)).symm))) (by repeat' (first | exact trivial | exact rfl | refine And.intro ?_ ?_ | (refine congrArg vI ?_; first | omega | (dsimp only; omega) | fail) | (refine congrArg some ?_) | omega | exact Nat.le_refl _ | exact congrArg (SV.lst _) (List.take_of_length_le (Nat.le_refl _)).symm)) trivial trivial) ?_
            refine And.intro (pred_ex _) ?_
            intro (c : Bool) (hc4 : c = true ↔ b <+: a)
            cases c
            · have h4 : ¬ (b.length = 1 ∧ b <+: a) := fun h => by have := hc4.2 h.2; cases this
              conv => whnf
              repeat' (first | (refine tell (fun hQ => ?_) (fun hQ => ?_) <;> (try dsimp only at hQ) <;> first | (exfalso; omega) | (exact absurd rfl hQ) | (exact absurd hQ hne) | (exact absurd hne hQ) | (exact absurd (by decide) hQ) | (conv => whnf)) | (refine allG rfl ?_; conv => whnf) | (refine And.intro (by first | omega | assumption | kernel_rfl | exact And.intro rfl rfl | ((try dsimp only [inR, idx, lowOf]); first | omega | (with_reducible decide) | (simp; omega) | (simp; done) | fail) | fail) ?_; conv => whnf) | fail)
              exact ⟨(), [], trivial, eI (rest hn2 0 (by rw [if_neg h3, if_neg h4])), trivial, trivial⟩
            · conv => whnf
              repeat' (first | (refine tell (fun hQ => ?_) (fun hQ => ?_) <;> (try dsimp only at hQ) <;> first | (exfalso; omega) | (exact absurd rfl hQ) | (exact absurd hQ hne) | (exact absurd hne hQ) | (exact absurd (by decide) hQ) | (conv => whnf)) | (refine allG rfl ?_; conv => whnf) | (refine And.intro (by first | omega | assumption | kernel_rfl | exact And.intro rfl rfl | ((try dsimp only [inR, idx, lowOf]); first | omega | (with_reducible decide) | (simp; omega) | (simp; done) | fail) | fail) ?_; conv => whnf) | fail)
              exact ⟨(), [], trivial, eI (rest hn2 4 (by rw [if_neg h3, if_pos ⟨hb1, hc4.1 rfl⟩])), trivial, trivial⟩
          · have h4 : ¬ (b.length = 1 ∧ b <+: a) := fun h => hb1 h.1
            conv => whnf
            repeat' (first | (refine tell (fun hQ => ?_) (fun hQ => ?_) <;> (try dsimp only at hQ) <;> first | (exfalso; omega) | (exact absurd rfl hQ) | (exact absurd hQ hne) | (exact absurd hne hQ) | (exact absurd (by decide) hQ) | (conv => whnf)) | (refine allG rfl ?_; conv => whnf) | (refine And.intro (by first | omega | assumption | kernel_rfl | exact And.intro rfl rfl | ((try dsimp only [inR, idx, lowOf]); first | omega | (with_reducible decide) | (simp; omega) | (simp; done) | fail) | fail) ?_; conv => whnf) | fail)
            exact ⟨(), [], trivial, eI (rest hn2 0 (by rw [if_neg h3, if_neg h4])), trivial, trivial⟩
        · conv => whnf
          repeat' (first | (refine tell (fun hQ => ?_) (fun hQ => ?_) <;> (try dsimp only at hQ) <;> first | (exfalso; omega) | (exact absurd rfl hQ) | (exact absurd hQ hne) | (exact absurd hne hQ) | (exact absurd (by decide) hQ) | (conv => whnf)) | (refine allG rfl ?_; conv => whnf) | (refine And.intro (by first | omega | assumption | kernel_rfl | exact And.intro rfl rfl | ((try dsimp only [inR, idx, lowOf]); first | omega | (with_reducible decide) | (simp; omega) | (simp; done) | fail) | fail) ?_; conv => whnf) | fail)
          exact ⟨(), [], trivial, eI (rest hn2 3 (by rw [if_pos (hc3.1 rfl)])), trivial, trivial⟩
      · conv => whnf
        repeat' (first | (refine tell (fun hQ => ?_) (fun hQ => ?_) <;> (try dsimp only at hQ) <;> first | (exfalso; omega) | (exact absurd rfl hQ) | (exact absurd hQ hne) | (exact absurd hne hQ) | (exact absurd (by decide) hQ) | (conv => whnf)) | (refine allG rfl ?_; conv => whnf) | (refine And.intro (by first | omega | assumption | kernel_rfl | exact And.intro rfl rfl | ((try dsimp only [inR, idx, lowOf]); first | omega | (with_reducible decide) | (simp; omega) | (simp; done) | fail) | fail) ?_; conv => whnf) | fail)
        exact ⟨(), [], trivial, eI (show (2 : Int) = kindF a b by unfold kindF; rw [if_neg h1, if_pos ⟨hl, hc2.1 rfl⟩]), trivial, trivial⟩
    · have hn2 : ¬ (1 < a.length ∧ a.drop 1 = b) := fun h => hl h.1
      conv => whnf
      repeat' (first | (refine tell (fun hQ => ?_) (fun hQ => ?_) <;> (try dsimp only at hQ) <;> first | (exfalso; omega) | (exact absurd rfl hQ) | (exact absurd hQ hne) | (exact absurd hne hQ) | (exact absurd (by decide) hQ) | (conv => whnf)) | (refine allG rfl ?_; conv => whnf) | (refine And.intro (by first | omega | assumption | kernel_rfl | exact And.intro rfl rfl | ((try dsimp only [inR, idx, lowOf]); first | omega | (with_reducible decide) | (simp; omega) | (simp; done) | fail) | fail) ?_; conv => whnf) | fail)
      refine ⟨_, m_begins, (b, a), [], false, ?_⟩
      conv => whnf
      refine And.intro (vc0 ⟨hb, ha⟩ (by (repeat' (first | exact trivial | exact rfl | refine And.intro ?_ ?_ | (refine congrArg vI ?_; first | omega | (dsimp only; omega) | fail) | (refine congrArg some ?_) | omega | exact Nat.le_refl _ | exact congrArg (SV.lst _) (List.take_of_length_le (Nat.le_refl _)).symm))) (by repeat' (first | exact trivial | exact rfl | refine And.intro ?_ ?_ | (refine congrArg vI ?_; first | omega | (dsimp only; omega) | fail) | (refine congrArg some ?_) | omega | exact Nat.le_refl _ | exact congrArg (SV.lst _) (List.take_of_length_le (Nat.le_refl _)).symm)) trivial trivial) ?_
      refine And.intro (pred_ex _) ?_
      intro (c : Bool) (hc3 : c = true ↔ a <+: b)
      cases c
      · have h3 : ¬ a <+: b := fun h => by have := hc3.2 h; cases this
        by_cases hb1 : b.length = 1
        · conv => whnf
          repeat' (first | (refine tell (fun hQ => ?_) (fun hQ => ?_) <;> (try dsimp only at hQ) <;> first | (exfalso; omega) | (exact absurd rfl hQ) | (exact absurd hQ hne) | (exact absurd hne hQ) | (exact absurd (by decide) hQ) | (conv => whnf)) | (refine allG rfl ?_; conv => whnf) | (refine And.intro (by first | omega | assumption | kernel_rfl | exact And.intro rfl rfl | ((try dsimp only [inR, idx, lowOf]); first | omega | (with_reducible decide) | (simp; omega) | (simp; done) | fail) | fail) ?_; conv => whnf) | fail)
          refine ⟨_, m_begins, (a, b), [], false, ?_⟩
          conv => whnf
          refine And.intro (vc0 ⟨ha, hb⟩ (by (repeat' (first | exact trivial | exact rfl | refine And.intro ?_ ?_ | (refine congrArg vI ?_; first | omega | (dsimp only; omega) | fail) | (refine congrArg some ?_) | omega | exact Nat.le_refl _ | exact congrArg (SV.lst _) (List.take_of_length_le (Nat.le_refl _)).symm))) (by repeat' (first | exact trivial | exact rfl | refine And.intro ?_ ?_ | (refine congrArg vI ?_; first | omega | (dsimp only; omega) | fail) | (refine congrArg some ?_) | omega | exact Nat.le_refl _ | exact congrArg (SV.lst _) (List.take_of_length_le (Nat.le_refl _)).symm)) trivial trivial) ?_
          refine And.intro (pred_ex _) ?_
          intro (c : Bool) (hc4 : c = true ↔ b <+: a)
          cases c
          · have h4 : ¬ (b.length = 1 ∧ b <+: a) := fun h => by have := hc4.2 h.2; cases this
            conv => whnf
            repeat' (first | (refine tell (fun hQ => ?_) (fun hQ => ?_) <;> (try dsimp only at hQ) <;> first | (exfalso; omega) | (exact absurd rfl hQ) | (exact absurd hQ hne) | (exact absurd hne hQ) | (exact absurd (by decide) hQ) | (conv => whnf)) | (refine allG rfl ?_; conv => whnf) | (refine And.intro (by first | omega | assumption | kernel_rfl | exact And.intro rfl rfl | ((try dsimp only [inR, idx, lowOf]); first | omega | (with_reducible decide) | (simp; omega) | (simp; done) | fail) | fail) ?_; conv => whnf) | fail)
            exact ⟨(), [], trivial, eI (rest hn2 0 (by rw [if_neg h3, if_neg h4])), trivial, trivial⟩
          · conv => whnf
            repeat' (first | (refine tell (fun hQ => ?_) (fun hQ => ?_) <;> (try dsimp only at hQ) <;> first | (exfalso; omega) | (exact absurd rfl hQ) | (exact absurd hQ hne) | (exact absurd hne hQ) | (exact absurd (by decide) hQ) | (conv => whnf)) | (refine allG rfl ?_; conv => whnf) | (refine And.intro (by first | omega | assumption | kernel_rfl | exact And.intro rfl rfl | ((try dsimp only [inR, idx, lowOf]); first | omega | (with_reducible decide) | (simp; omega) | (simp; done) | fail) | fail) ?_; conv => whnf) | fail)
            exact ⟨(), [], trivial, eI (rest hn2 4 (by rw [if_neg h3, if_pos ⟨hb1, hc4.1 rfl⟩])), trivial, trivial⟩
        · have h4 : ¬ (b.length = 1 ∧ b <+: a) := fun h => hb1 h.1
          conv => whnf
          repeat' (first | (refine tell (fun hQ => ?_) (fun hQ => ?_) <;> (try dsimp only at hQ) <;> first | (exfalso; omega) | (exact absurd rfl hQ) | (exact absurd hQ hne) | (exact absurd hne hQ) | (exact absurd (by decide) hQ) | (conv => whnf)) | (refine allG rfl ?_; conv => whnf) | (refine And.intro (by first | omega | assumption | kernel_rfl | exact And.intro rfl rfl | ((try dsimp only [inR, idx, lowOf]); first | omega | (with_reducible decide) | (simp; omega) | (simp; done) | fail) | fail) ?_; conv => whnf) | fail)
          exact ⟨(), [], trivial, eI (rest hn2 0 (by rw [if_neg h3, if_neg h4])), trivial, trivial⟩
      · conv => whnf
        repeat' (first | (refine tell (fun hQ => ?_) (fun hQ => ?_) <;> (try dsimp only at hQ) <;> first | (exfalso; omega) | (exact absurd rfl hQ) | (exact absurd hQ hne) | (exact absurd hne hQ) | (exact absurd (by decide) hQ) | (conv => whnf)) | (refine allG rfl ?_; conv => whnf) | (refine And.intro (by first | omega | assumption | kernel_rfl | exact And.intro rfl rfl | ((try dsimp only [inR, idx, lowOf]); first | omega | (with_reducible decide) | (simp; omega) | (simp; done) | fail) | fail) ?_; conv => whnf) | fail)
        exact ⟨(), [], trivial, eI (rest hn2 3 (by rw [if_pos (hc3.1 rfl)])), trivial, trivial⟩
  · conv => whnf
    repeat' (first | (refine tell (fun hQ => ?_) (fun hQ => ?_) <;> (try dsimp only at hQ) <;> first | (exfalso; omega) | (exact absurd rfl hQ) | (exact absurd hQ hne) | (exact absurd hne hQ) | (exact absurd (by decide) hQ) | (conv => whnf)) | (refine allG rfl ?_; conv => whnf) | (refine And.intro (by first | omega | assumption | kernel_rfl | exact And.intro rfl rfl | ((try dsimp only [inR, idx, lowOf]); first | omega | (with_reducible decide) | (simp; omega) | (simp; done) | fail) | fail) ?_; conv => whnf) | fail)
    exact ⟨(), [], trivial, eI (show (1 : Int) = kindF a b by unfold kindF; rw [if_pos (hc.1 rfl)]), trivial, trivial⟩
end Go.Sx


/-
  Layer 21, part C: next, Count.
-/
namespace Go.Sx
open Go Go.Proofs Go.Proofs.YtmogappoadglgaaDoor
/-- May a state follow another one? -/
def nextF (a b : Int) : Bool := if a = b then decide (1 ≤ a ∧ a ≤ 4) else if a = 1 then decide (2 ≤ b ∧ b ≤ 4) else if a = 2 then decide (b = 3) else false
def spNext : Spec AF where
  γ := Int × Int
  δ := Unit
  args := fun g => [vI g.1, vI g.2]
  own := fun _ => []
  pre := fun _ => True
  nnew := 0
  res := fun g _ => vB (nextF g.1 g.2)
  own' := fun _ _ => []
  post := fun _ _ => True
theorem nextF_same {a : Int} : nextF a a = decide (1 ≤ a ∧ a ≤ 4) := if_pos rfl
theorem nextF_one {b : Int} (h : ¬ (1 : Int) = b) : nextF 1 b = decide (2 ≤ b ∧ b ≤ 4) := by unfold nextF; rw [if_neg h, if_pos rfl]
theorem nextF_two {b : Int} (h : ¬ (2 : Int) = b) : nextF 2 b = decide (b = 3) := by unfold nextF; rw [if_neg h, if_neg (by decide), if_pos rfl]
theorem nextF_else {a b : Int} (h : ¬ a = b) (h1 : ¬ a = 1) (h2 : ¬ a = 2) : nextF a b = false := by unfold nextF; rw [if_neg h, if_neg h1, if_neg h2]
theorem m_next : Meets Tryd.prog regF 86 spNext := by
  refine meets Tryd.func86 27 noWr rfl (by kernel_rfl) (by kernel_rfl) ?_
  rintro ⟨(a : Int), (b : Int)⟩ _
  by_cases h : a = b
  · subst h
    by_cases h1 : 1 ≤ a
    · by_cases h2 : a ≤ 4
      · conv => whnf
        repeat' (first | (refine tell (fun hQ => ?_) (fun hQ => ?_) <;> (try dsimp only at hQ) <;> first | (exfalso; omega) | (exact absurd rfl hQ) | (exact absurd (by decide) hQ) | (conv => whnf)) | (refine allG rfl ?_; conv => whnf) | (refine And.intro (by first | omega | assumption | kernel_rfl | exact And.intro rfl rfl | ((try dsimp only [inR, idx, lowOf]); first | omega | (with_reducible decide) | (simp; omega) | (simp; done) | fail) | fail) ?_; conv => whnf) | fail)
        exact ⟨(), [], trivial, eB (show true = nextF a a by rw [nextF_same, decide_eq_true ⟨h1, h2⟩]), trivial, trivial⟩
      · conv => whnf
        repeat' (first | (refine tell (fun hQ => ?_) (fun hQ => ?_) <;> (try dsimp only at hQ) <;> first | (exfalso; omega) | (exact absurd rfl hQ) | (exact absurd (by decide) hQ) | (conv => whnf)) | (refine allG rfl ?_; conv => whnf) | (refine And.intro (by first | omega | assumption | kernel_rfl | exact And.intro rfl rfl | ((try dsimp only [inR, idx, lowOf]); first | omega | (with_reducible decide) | (simp; omega) | (simp; done) | fail) | fail) ?_; conv => whnf) | fail)
        exact ⟨(), [], trivial, eB (show false = nextF a a by rw [nextF_same, decide_eq_false fun h => h2 h.2]), trivial, trivial⟩
    · conv => whnf
      repeat' (first | (refine tell (fun hQ => ?_) (fun hQ => ?_) <;> (try dsimp only at hQ) <;> first | (exfalso; omega) | (exact absurd rfl hQ) | (exact absurd (by decide) hQ) | (conv => whnf)) | (refine allG rfl ?_; conv => whnf) | (refine And.intro (by first | omega | assumption | kernel_rfl | exact And.intro rfl rfl | ((try dsimp only [inR, idx, lowOf]); first | omega | (with_reducible decide) | (simp; omega) | (simp; done) | fail) | fail) ?_; conv => whnf) | fail)
      exact ⟨(), [], trivial, eB (show false = nextF a a by rw [nextF_same, decide_eq_false fun h => h1 h.1]), trivial, trivial⟩
  · by_cases h1 : a = 1
    · subst h1
      by_cases h2 : 2 ≤ b
      · by_cases h3 : b ≤ 4
        · conv => whnf
          repeat' (first | (refine tell (fun hQ => ?_) (fun hQ => ?_) <;> (try dsimp only at hQ) <;> first | (exfalso; omega) | (exact absurd rfl hQ) | (exact absurd (by decide) hQ) | (conv => whnf)) | (refine allG rfl ?_; conv => whnf) | (refine And.intro (by first | omega | assumption | kernel_rfl | exact And.intro rfl rfl | ((try dsimp only [inR, idx, lowOf]); first | omega | (with_reducible decide) | (simp; omega) | (simp; done) | fail) | fail) ?_; conv => whnf) | fail)
          exact ⟨(), [], trivial, eB (show true = nextF 1 b by rw [nextF_one h, decide_eq_true ⟨h2, h3⟩]), trivial, trivial⟩
        · conv => whnf
          repeat' (first | (refine tell (fun hQ => ?_) (fun hQ => ?_) <;> (try dsimp only at hQ) <;> first | (exfalso; omega) | (exact absurd rfl hQ) | (exact absurd (by decide) hQ) | (conv => whnf)) | (refine allG rfl ?_; conv => whnf) | (refine And.intro (by first | omega | assumption | kernel_rfl | exact And.intro rfl rfl | ((try dsimp only [inR, idx, lowOf]); first | omega | (with_reducible decide) | (simp; omega) | (simp; done) | fail) | fail) ?_; conv => whnf) | fail)
          exact ⟨(), [], trivial, eB (show false = nextF 1 b by rw [nextF_one h, decide_eq_false fun h => h3 h.2]), trivial, trivial⟩
      · conv => whnf
        repeat' (first | (refine tell (fun hQ => ?_) (fun hQ => ?_) <;> (try dsimp only at hQ) <;> first | (exfalso; omega) | (exact absurd rfl hQ) | (exact absurd (by decide) hQ) | (conv => whnf)) | (refine allG rfl ?_; conv => whnf) | (refine And.intro (by first | omega | assumption | kernel_rfl | exact And.intro rfl rfl | ((try dsimp only [inR, idx, lowOf]); first | omega | (with_reducible decide) | (simp; omega) | (simp; done) | fail) | fail) ?_; conv => whnf) | fail)
        exact ⟨(), [], trivial, eB (show false = nextF 1 b by rw [nextF_one h, decide_eq_false fun h => h2 h.1]), trivial, trivial⟩
    · by_cases h2 : a = 2
      · subst h2
        by_cases h3 : b = 3
        · conv => whnf
          repeat' (first | (refine tell (fun hQ => ?_) (fun hQ => ?_) <;> (try dsimp only at hQ) <;> first | (exfalso; omega) | (exact absurd rfl hQ) | (exact absurd (by decide) hQ) | (conv => whnf)) | (refine allG rfl ?_; conv => whnf) | (refine And.intro (by first | omega | assumption | kernel_rfl | exact And.intro rfl rfl | ((try dsimp only [inR, idx, lowOf]); first | omega | (with_reducible decide) | (simp; omega) | (simp; done) | fail) | fail) ?_; conv => whnf) | fail)
          exact ⟨(), [], trivial, eB (show true = nextF 2 b by rw [nextF_two h, decide_eq_true h3]), trivial, trivial⟩
        · conv => whnf
          repeat' (first | (refine tell (fun hQ => ?_) (fun hQ => ?_) <;> (try dsimp only at hQ) <;> first | (exfalso; omega) | (exact absurd rfl hQ) | (exact absurd (by decide) hQ) | (conv => whnf)) | (refine allG rfl ?_; conv => whnf) | (refine And.intro (by first | omega | assumption | kernel_rfl | exact And.intro rfl rfl | ((try dsimp only [inR, idx, lowOf]); first | omega | (with_reducible decide) | (simp; omega) | (simp; done) | fail) | fail) ?_; conv => whnf) | fail)
          exact ⟨(), [], trivial, eB (show false = nextF 2 b by rw [nextF_two h, decide_eq_false h3]), trivial, trivial⟩
      · conv => whnf
        repeat' (first | (refine tell (fun hQ => ?_) (fun hQ => ?_) <;> (try dsimp only at hQ) <;> first | (exfalso; omega) | (exact absurd rfl hQ) | (exact absurd (by decide) hQ) | (conv => whnf)) | (refine allG rfl ?_; conv => whnf) | (refine And.intro (by first | omega | assumption | kernel_rfl | exact And.intro rfl rfl | ((try dsimp only [inR, idx, lowOf]); first | omega | (with_reducible decide) | (simp; omega) | (simp; done) | fail) | fail) ?_; conv => whnf) | fail)
        exact ⟨(), [], trivial, eB (nextF_else h h1 h2).symm, trivial, trivial⟩
abbrev Job := Int × Int × Int × Int
/-- How many jobs are in each of the five states. -/
def stF (s : Int) : Nat := if s < 0 ∨ 5 ≤ s then 0 else s.toNat
def bumpF (l : List Int) (k : Nat) : List Int := l.set k (l.getD k 0 + 1)
def cntF (js : List Job) : List Int := js.foldl (fun l j => bumpF l (stF j.2.2.1)) [0, 0, 0, 0, 0]
theorem stF_lt (s : Int) : stF s < 5 := by unfold stF; split <;> omega
theorem cntF_take {js : List Job} {i : Nat} {j : Job} (h : js[i]? = some j) : cntF (js.take (i + 1)) = bumpF (cntF (js.take i)) (stF j.2.2.1) := by
  unfold cntF
  rw [List.take_add_one, h, List.foldl_append]; rfl
theorem foldl_len (js : List Job) : ∀ l : List Int, (js.foldl (fun l j => bumpF l (stF j.2.2.1)) l).length = l.length := by
  induction js with
  | nil => exact fun _ => rfl
  | cons j js ih => exact fun l => (ih _).trans List.length_set
theorem cntF_len (js : List Job) : (cntF js).length = 5 := foldl_len js _
theorem cntF_most (js : List Job) (k : Nat) : 0 ≤ (cntF js).getD k 0 ∧ (cntF js).getD k 0 ≤ js.length := by
  suffices h : ∀ (js : List Job) (l : List Int) (n : Nat), (∀ k, 0 ≤ l.getD k 0 ∧ l.getD k 0 ≤ n) → ∀ k, 0 ≤ (js.foldl (fun l j => bumpF l (stF j.2.2.1)) l).getD k 0 ∧ (js.foldl (fun l j => bumpF l (stF j.2.2.1)) l).getD k 0 ≤ ((n + js.length : Nat) : Int) by
    have := h js [0, 0, 0, 0, 0] 0 (fun k => by
      match k with
      | 0 | 1 | 2 | 3 | 4 => exact ⟨Int.le_refl _, Int.le_refl _⟩
      | k + 5 => exact ⟨Int.le_refl _, Int.le_refl _⟩) k
    rw [Nat.zero_add] at this
    exact this
  intro js
  induction js with
  | nil => exact fun l n h k => h k
  | cons j js ih =>
    intro l n h k
    have := ih (bumpF l (stF j.2.2.1)) (n + 1) (fun k => by
      have h1 := h k
      have h2 := h (stF j.2.2.1)
      unfold bumpF
      simp only [List.getD_eq_getElem?_getD, List.getElem?_set] at *
      split
      · split
        · simp only [Option.getD_some]; omega
        · simp only [Option.getD_none]; omega
      · omega) k
    rw [List.length_cons]
    have e : n + 1 + js.length = n + (js.length + 1) := by omega
    rw [e] at this
    exact this
def spCount : Spec AF where
  γ := List Job
  δ := Unit
  args := fun js => [.lst 107 js]
  own := fun _ => []
  pre := fun js => js.length ≤ 9223372036854775806
  nnew := 0
  res := fun js _ => .aggl 3 (cntF js)
  own' := fun _ _ => []
  post := fun _ _ => True
theorem m_count : Meets Tryd.prog regF 39 spCount := by
  refine meets Tryd.func39 27 noWr rfl (by kernel_rfl) (by kernel_rfl) ?_
  rintro (js : List Job) (hj : js.length ≤ 9223372036854775806)
  conv => whnf
  repeat' (first | (refine tell (fun hQ => ?_) (fun hQ => ?_) <;> (try dsimp only at hQ) <;> first | (exfalso; omega) | (exact absurd rfl hQ) | (exact absurd (by decide) hQ) | (conv => whnf)) | (refine allG rfl ?_; conv => whnf) | (refine And.intro (by first | omega | assumption | kernel_rfl | exact And.intro rfl rfl | ((try dsimp only [inR, idx, lowOf]); first | omega | (with_reducible decide) | (simp; omega) | (simp; done) | fail) | fail) ?_; conv => whnf) | fail)
  refine ⟨Nat, fun i => ⟨[(2, .ptr 1002 0 5 0), (5, .lst 107 js), (6, vI js.length), (7, vI i)], [(1002, .arr 3 (cntF (js.take i)))]⟩, fun i => i ≤ js.length, fun i => js.length - i, fun _ _ => rfl, ⟨0, [], Nat.zero_le _, ?_⟩, ?_⟩
  · refine ⟨rfl, ?_, ?_, rfl⟩
    all_goals (repeat' (first | exact trivial | exact rfl | refine And.intro ?_ ?_ | (refine congrArg vI ?_; first | omega | (dsimp only; omega) | fail) | (refine congrArg some ?_) | omega | exact Nat.le_refl _ | exact congrArg (SV.lst _) (List.take_of_length_le (Nat.le_refl _)).symm))
  rintro (i : Nat) (hi : i ≤ js.length)
  have h5 := cntF_len (js.take i)
  by_cases hlt : i < js.length
  · have hobt : ∃ y, js[i]? = some y := ⟨_, List.getElem?_eq_getElem hlt⟩
    obtain ⟨⟨(x1 : Int), (x2 : Int), (x3 : Int), (x4 : Int)⟩, hx⟩ := hobt
    have hn := cntF_take hx
    have hm0 := cntF_most (js.take i) (stF x3)
    have hkl := stF_lt x3
    have hil : (js.take i).length = i := by rw [List.length_take]; omega
    rw [hil] at hm0
    have hobt : ∃ y, (cntF (js.take i))[stF x3]? = some y := ⟨_, List.getElem?_eq_getElem (by omega)⟩
    obtain ⟨v, hv⟩ := hobt
    have hvd : (cntF (js.take i)).getD (stF x3) 0 = v := by rw [List.getD_eq_getElem?_getD, hv]; rfl
    rw [hvd] at hm0
    have hn2 : cntF (js.take (i + 1)) = (cntF (js.take i)).set (stF x3) (v + 1) := by rw [hn]; unfold bumpF; rw [hvd]
    by_cases h0 : x3 < 0
    · have hz : stF x3 = 0 := by unfold stF; rw [if_pos (.inl h0)]
      rw [hz] at hv hn2
      conv => whnf
      repeat' (first | (refine tell (fun hQ => ?_) (fun hQ => ?_) <;> (try dsimp only at hQ) <;> first | (exfalso; omega) | (exact absurd rfl hQ) | (exact absurd (by decide) hQ) | (conv => whnf)) | (refine allG (x := _) (by first | exact hx | simpa [List.getElem?_append_right, lowOf] using hx | fail) ?_; conv => whnf) | (refine allLst (x := _) (by first | omega | assumption | fail) (by first | exact hx | simpa using hx | fail) ?_; conv => whnf) | (refine allG (x := v) (by first | exact hv | simpa [List.getElem?_append_right, lowOf] using hv | fail) ?_; conv => whnf) | (refine allLst (x := v) (by first | omega | assumption | fail) (by first | exact hv | simpa using hv | fail) ?_; conv => whnf) | (refine allG rfl ?_; conv => whnf) | (refine And.intro (by first | omega | assumption | kernel_rfl | exact And.intro rfl rfl | ((try dsimp only [inR, idx, lowOf]); first | omega | (with_reducible decide) | (simp; omega) | (simp; done) | fail) | fail) ?_; conv => whnf) | fail)
      refine ⟨i + 1, [], hlt, ?_, rfl, ?_, ?_, rfl⟩
      · dsimp only; first | omega | (simp; done) | (simp; omega)
      all_goals (repeat' (first | exact trivial | exact rfl | refine And.intro ?_ ?_ | (refine congrArg vI ?_; first | omega | (dsimp only; omega) | fail) | (refine congrArg some ?_) | omega | exact Nat.le_refl _ | exact congrArg (SV.lst _) (List.take_of_length_le (Nat.le_refl _)).symm))
      exact congrArg (Ct.arr (A := AF) 3) hn2.symm
    · by_cases h4 : 5 ≤ x3
      · have hz : stF x3 = 0 := by unfold stF; rw [if_pos (.inr h4)]
        rw [hz] at hv hn2
        conv => whnf
        repeat' (first | (refine tell (fun hQ => ?_) (fun hQ => ?_) <;> (try dsimp only at hQ) <;> first | (exfalso; omega) | (exact absurd rfl hQ) | (exact absurd (by decide) hQ) | (conv => whnf)) | (refine allG (x := _) (by first | exact hx | simpa [List.getElem?_append_right, lowOf] using hx | fail) ?_; conv => whnf) | (refine allLst (x := _) (by first | omega | assumption | fail) (by first | exact hx | simpa using hx | fail) ?_; conv => whnf) | (refine allG (x := v) (by first | exact hv | simpa [List.getElem?_append_right, lowOf] using hv | fail) ?_; conv => whnf) | (refine allLst (x := v) (by first | omega | assumption | fail) (by first | exact hv | simpa using hv | fail) ?_; conv => whnf) | (refine allG rfl ?_; conv => whnf) | (refine And.intro (by first | omega | assumption | kernel_rfl | exact And.intro rfl rfl | ((try dsimp only [inR, idx, lowOf]); first | omega | (with_reducible decide) | (simp; omega) | (simp; done) | fail) | fail) ?_; conv => whnf) | fail)
        refine ⟨i + 1, [], hlt, ?_, rfl, ?_, ?_, rfl⟩
        · dsimp only; first | omega | (simp; done) | (simp; omega)
        all_goals (repeat' (first | exact trivial | exact rfl | refine And.intro ?_ ?_ | (refine congrArg vI ?_; first | omega | (dsimp only; omega) | fail) | (refine congrArg some ?_) | omega | exact Nat.le_refl _ | exact congrArg (SV.lst _) (List.take_of_length_le (Nat.le_refl _)).symm))
        exact congrArg (Ct.arr (A := AF) 3) hn2.symm
      · have hz : stF x3 = x3.toNat := by unfold stF; rw [if_neg (by omega)]
        rw [hz] at hv hn2
        conv => whnf
        repeat' (first | (refine tell (fun hQ => ?_) (fun hQ => ?_) <;> (try dsimp only at hQ) <;> first | (exfalso; omega) | (exact absurd rfl hQ) | (exact absurd (by decide) hQ) | (conv => whnf)) | (refine allG (x := _) (by first | exact hx | simpa [List.getElem?_append_right, lowOf] using hx | fail) ?_; conv => whnf) | (refine allLst (x := _) (by first | omega | assumption | fail) (by first | exact hx | simpa using hx | fail) ?_; conv => whnf) | (refine allG (x := v) (by first | exact hv | simpa [List.getElem?_append_right, lowOf] using hv | fail) ?_; conv => whnf) | (refine allLst (x := v) (by first | omega | assumption | fail) (by first | exact hv | simpa using hv | fail) ?_; conv => whnf) | (refine allG rfl ?_; conv => whnf) | (refine And.intro (by first | omega | assumption | kernel_rfl | exact And.intro rfl rfl | ((try dsimp only [inR, idx, lowOf]); first | omega | (with_reducible decide) | (simp; omega) | (simp; done) | fail) | fail) ?_; conv => whnf) | fail)
        refine ⟨i + 1, [], hlt, ?_, rfl, ?_, ?_, rfl⟩
        · dsimp only; first | omega | (simp; done) | (simp; omega)
        all_goals (repeat' (first | exact trivial | exact rfl | refine And.intro ?_ ?_ | (refine congrArg vI ?_; first | omega | (dsimp only; omega) | fail) | (refine congrArg some ?_) | omega | exact Nat.le_refl _ | exact congrArg (SV.lst _) (List.take_of_length_le (Nat.le_refl _)).symm))
        exact congrArg (Ct.arr (A := AF) 3) hn2.symm
  · conv => whnf
    repeat' (first | (refine tell (fun hQ => ?_) (fun hQ => ?_) <;> (try dsimp only at hQ) <;> first | (exfalso; omega) | (exact absurd rfl hQ) | (exact absurd (by decide) hQ) | (conv => whnf)) | (refine allG rfl ?_; conv => whnf) | (refine And.intro (by first | omega | assumption | kernel_rfl | exact And.intro rfl rfl | ((try dsimp only [inR, idx, lowOf]); first | omega | (with_reducible decide) | (simp; omega) | (simp; done) | fail) | fail) ?_; conv => whnf) | fail)
    have he : js.take i = js := List.take_of_length_le (by omega)
    refine And.intro ⟨h5, rfl⟩ ?_
    conv => whnf
    exact ⟨(), [], trivial, congrArg (SV.aggl (A := AF) 3) (congrArg cntF he), trivial, trivial⟩
end Go.Sx


/-
  The door's seat, part R: what the laws are given, read: numbers, jobs.
-/
namespace Go.Sx
open Go Go.Proofs Go.Proofs.YtmogappoadglgaaDoor
open Go.ChangeShapes Go.WideShapes
theorem und3 : Tryd.prog.underlying 3 = some (.int .i64) := by kernel_rfl
theorem und4 : Tryd.prog.underlying 4 = some .bool := by kernel_rfl
theorem und64 : Tryd.prog.underlying 64 = some (.slice 107) := by kernel_rfl
theorem und23 : Tryd.prog.underlying 23 = some (.slice 3) := by kernel_rfl
theorem rdA_int_of {P : Program} {t : TypeId} (ht : P.underlying t = some (.int .i64)) : RdA P t (fun n : Int => vI n) InI := by
  intro H enc w sp base v d ps h hv
  have hobt := open_int ht hv h
  obtain ⟨a, rfl, _, _, wa⟩ := hobt
  exact ⟨a, wf_i64 wa, says_val _⟩
theorem rdA_int : RdA Tryd.prog 3 (fun n : Int => vI n) InI := rdA_int_of und3
theorem rd_int {P : Program} (h3 : P.underlying 3 = some (.int .i64)) : Rd P 3 InI := by
  intro H enc w sp n cs x h
  have hobt := rd_int_of h3 h
  obtain ⟨z, hz, rfl⟩ := hobt
  exact ⟨(z : Int), hz, saysL_cons (says_val _) saysL_nil⟩
/-- A struct that reads as data: its fields do. -/
theorem rd_fields {t : TypeId} {ti : TI} {fs : List (Nat × TypeId)} (ht : (envF 0 noWr).tt t = some ti) (hk : ti.k = .struct fs) {H : Type} {enc : TypeId × Value → H} {w : World} {sp : Nat → Bool} {n : Nat} {cs : List Value} {x : DataW H × List MemPlace}
    (h : DataW.trod enc Tryd.prog w 0 sp true n t cs = some x) : cs.length = Tryd.prog.cellsOf t ∧ ∀ (j off T : Nat), fs[j]? = some (off, T) → ∃ m y, DataW.trod enc Tryd.prog w 0 sp true m T ((cs.drop off).take (Tryd.prog.cellsOf T)) = some y := by
  have hobt := tiOf_inv ((env_ok 0 noWr).tt t ti ht)
  obtain ⟨dd, ii, hu, hi, hkk, _⟩ := hobt
  rw [hk] at hkk
  have hobt := kind_struct hkk
  obtain ⟨fields, rfl, rfl⟩ := hobt
  have hobt := DataW.trod_struct hu h
  obtain ⟨xs, m, _, _, hl, hlen, hf⟩ := hobt
  refine ⟨hl, fun j off T hj => ?_⟩
  rw [List.getElem?_map] at hj
  cases hfj : fields.toList[j]? with
  | none => rw [hfj] at hj; cases hj
  | some f =>
    rw [hfj] at hj
    simp only [Option.map_some, Option.some.injEq, Prod.mk.injEq] at hj
    obtain ⟨rfl, rfl⟩ := hj
    rw [Array.getElem?_toList] at hfj
    have := hf j f hfj
    have hjl := (Array.getElem?_eq_some_iff.1 hfj).1
    exact ⟨m, xs[j], by rw [this]; exact List.getElem?_eq_getElem (by omega)⟩
def GoodJ (j : Job) : Prop := InI j.1 ∧ InI j.2.1 ∧ InI j.2.2.1 ∧ InI j.2.2.2
theorem rd_job : Rd Tryd.prog 107 GoodJ := by
  intro H enc w sp n cs x h
  have hobt := rd_fields (t := 107) (ti := ti107) (by kernel_rfl) rfl h
  obtain ⟨hl, hf⟩ := hobt
  have hc : Tryd.prog.cellsOf 107 = 4 := by kernel_rfl
  have h3 : Tryd.prog.cellsOf 3 = 1 := by kernel_rfl
  rw [hc] at hl
  have hobt := hf 0 0 3 rfl
  obtain ⟨_, _, g0⟩ := hobt
  have hobt := hf 1 1 3 rfl
  obtain ⟨_, _, g1⟩ := hobt
  have hobt := hf 2 2 3 rfl
  obtain ⟨_, _, g2⟩ := hobt
  have hobt := hf 3 3 3 rfl
  obtain ⟨_, _, g3⟩ := hobt
  rw [h3] at g0 g1 g2 g3
  have hobt := rd_int_of und3 g0
  obtain ⟨a, ha, ea⟩ := hobt
  have hobt := rd_int_of und3 g1
  obtain ⟨b, hb, eb⟩ := hobt
  have hobt := rd_int_of und3 g2
  obtain ⟨c, hc, ec⟩ := hobt
  have hobt := rd_int_of und3 g3
  obtain ⟨d, hd, ed⟩ := hobt
  clear g0 g1 g2 g3 hf h h3
  refine ⟨((a, b, c, d) : Job), ⟨ha, hb, hc, hd⟩, ?_⟩
  match cs, hl with
  | [u, v, z, y], _ =>
    simp at ea eb ec ed
    subst ea; subst eb; subst ec; subst ed
    exact saysL_cons (says_val _) (saysL_cons (says_val _) (saysL_cons (says_val _) (saysL_cons (says_val _) saysL_nil)))
theorem rdN_jobs : RdA Tryd.prog 64 (fun xs : List Job => .lst 107 xs) (fun xs => xs.length ≤ 9223372036854775807 ∧ ∀ y ∈ xs, GoodJ y) :=
  rdN_slice und64 (by kernel_rfl) (by decide) rd_job
end Go.Sx

