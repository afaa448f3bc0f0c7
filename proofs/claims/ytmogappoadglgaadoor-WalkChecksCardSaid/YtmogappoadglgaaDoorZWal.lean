/-
  Layer 8 at the door: numbers that may be, order.Right, order.Base; the document's Right, Same.
-/
import Derived.Test.YtmogappoadglgaaDoorZTopA
import Derived.Test.YtmogappoadglgaaDoorZTra
set_option linter.unusedVariables false
set_option linter.unusedSimpArgs false
namespace Go.Sx
open Go Go.Proofs Go.Proofs.YtmogappoadglgaaDoor
def OkN (n : Int) : Prop := 0 ≤ n ∧ n ≤ 1000000000
instance (n : Int) : Decidable (OkN n) := inferInstanceAs (Decidable (_ ∧ _))
def spNum1 : Spec AF where
  γ := Int
  δ := Bool
  args := fun n => [vI n]
  own := fun _ => []
  pre := fun _ => True
  nnew := 0
  res := fun _ c => vB c
  own' := fun _ _ => []
  post := fun n c => c = !decide (OkN n)
theorem m_num1 : Meets Tryd.prog regF 105 spNum1 := by
  refine meets Tryd.func105 9 noWr rfl (by kernel_rfl) (by kernel_rfl) ?_
  rintro (n : Int) _
  by_cases h0 : n < 0
  · conv => whnf
    repeat' (first | (refine tell (fun hQ => ?_) (fun hQ => ?_) <;> (try dsimp only at hQ) <;> first | (exfalso; omega) | (exact absurd rfl hQ) | (exact absurd (by decide) hQ) | (conv => whnf)) | (refine allG rfl ?_; conv => whnf) | (refine And.intro (by first | omega | assumption | kernel_rfl | exact And.intro rfl rfl | ((try dsimp only [inR, idx, lowOf]); first | omega | (with_reducible decide) | (simp; omega) | (simp; done) | fail) | fail) ?_; conv => whnf) | fail)
    exact ⟨true, [], (show true = !decide (OkN n) by rw [decide_eq_false (fun h => by have := h.1; omega)]; rfl), rfl, trivial, trivial⟩
  · by_cases h1 : n ≤ 1000000000
    · conv => whnf
      repeat' (first | (refine tell (fun hQ => ?_) (fun hQ => ?_) <;> (try dsimp only at hQ) <;> first | (exfalso; omega) | (exact absurd rfl hQ) | (exact absurd (by decide) hQ) | (conv => whnf)) | (refine allG rfl ?_; conv => whnf) | (refine And.intro (by first | omega | assumption | kernel_rfl | exact And.intro rfl rfl | ((try dsimp only [inR, idx, lowOf]); first | omega | (with_reducible decide) | (simp; omega) | (simp; done) | fail) | fail) ?_; conv => whnf) | fail)
      exact ⟨false, [], (show false = !decide (OkN n) by rw [decide_eq_true ⟨by omega, h1⟩]; rfl), rfl, trivial, trivial⟩
    · conv => whnf
      repeat' (first | (refine tell (fun hQ => ?_) (fun hQ => ?_) <;> (try dsimp only at hQ) <;> first | (exfalso; omega) | (exact absurd rfl hQ) | (exact absurd (by decide) hQ) | (conv => whnf)) | (refine allG rfl ?_; conv => whnf) | (refine And.intro (by first | omega | assumption | kernel_rfl | exact And.intro rfl rfl | ((try dsimp only [inR, idx, lowOf]); first | omega | (with_reducible decide) | (simp; omega) | (simp; done) | fail) | fail) ?_; conv => whnf) | fail)
      exact ⟨true, [], (show true = !decide (OkN n) by rw [decide_eq_false (fun h => by have := h.2; omega)]; rfl), rfl, trivial, trivial⟩
def spIdxNum : Spec AF where
  γ := List Int
  δ := Int
  args := fun l => [.lst 3 l, .val (.func (.func 105) #[] #[])]
  own := fun _ => []
  pre := fun l => l.length ≤ 9223372036854775806
  nnew := 0
  res := fun _ r => vI r
  own' := fun _ _ => []
  post := fun l r => (0 ≤ r ↔ ¬ ∀ n ∈ l, OkN n)
theorem m_idxNum : Meets Tryd.prog regF 87 spIdxNum := by
  refine meets Tryd.func87 19 noWr rfl (by kernel_rfl) (by kernel_rfl) ?_
  rintro (l : List Int) (hl : l.length ≤ 9223372036854775806)
  conv => whnf
  repeat' (first | (refine tell (fun hQ => ?_) (fun hQ => ?_) <;> (try dsimp only at hQ) <;> first | (exfalso; omega) | (exact absurd rfl hQ) | (exact absurd (by decide) hQ) | (conv => whnf)) | (refine allG rfl ?_; conv => whnf) | (refine And.intro (by first | omega | assumption | kernel_rfl | exact And.intro rfl rfl | ((try dsimp only [inR, idx, lowOf]); first | omega | (with_reducible decide) | (simp; omega) | (simp; done) | fail) | fail) ?_; conv => whnf) | fail)
  refine ⟨Nat, fun j => ⟨[(0, .lst 3 l), (1, .val (.func (.func 105) #[] #[])), (7, vI l.length), (8, vI j)], []⟩, fun j => j ≤ l.length ∧ ∀ n ∈ l.take j, OkN n, fun j => l.length - j, fun _ _ => rfl, ⟨0, [], ⟨Nat.zero_le _, fun n h => by simp at h⟩, ?_⟩, ?_⟩
  · refine ⟨rfl, ?_, ?_, rfl⟩
    all_goals (repeat' (first | exact trivial | exact rfl | refine And.intro ?_ ?_ | (refine congrArg vI ?_; first | omega | (dsimp only; omega) | fail) | (refine congrArg some ?_) | omega | exact Nat.le_refl _ | exact congrArg (SV.lst _) (List.take_of_length_le (Nat.le_refl _)).symm))
  rintro (j : Nat) ⟨(hj : j ≤ l.length), (hs : ∀ n ∈ l.take j, OkN n)⟩
  by_cases hlt : j < l.length
  · have hobt : ∃ x, l[j]? = some x := ⟨_, List.getElem?_eq_getElem hlt⟩
    obtain ⟨x, hx⟩ := hobt
    conv => whnf
    repeat' (first | (refine tell (fun hQ => ?_) (fun hQ => ?_) <;> (try dsimp only at hQ) <;> first | (exfalso; omega) | (exact absurd rfl hQ) | (exact absurd (by decide) hQ) | (conv => whnf)) | (refine allG (x := x) (by first | exact hx | simpa [List.getElem?_append_right, lowOf] using hx | fail) ?_; conv => whnf) | (refine allLst (x := x) (by first | omega | assumption | fail) (by first | exact hx | simpa using hx | fail) ?_; conv => whnf) | (refine allG rfl ?_; conv => whnf) | (refine And.intro (by first | omega | assumption | kernel_rfl | exact And.intro rfl rfl | ((try dsimp only [inR, idx, lowOf]); first | omega | (with_reducible decide) | (simp; omega) | (simp; done) | fail) | fail) ?_; conv => whnf) | fail)
    refine ⟨_, m_num1, x, [], false, ?_⟩
    conv => whnf
    refine And.intro (vc0 trivial (by (repeat' (first | exact trivial | exact rfl | refine And.intro ?_ ?_ | (refine congrArg vI ?_; first | omega | (dsimp only; omega) | fail) | (refine congrArg some ?_) | omega | exact Nat.le_refl _ | exact congrArg (SV.lst _) (List.take_of_length_le (Nat.le_refl _)).symm))) (by repeat' (first | exact trivial | exact rfl | refine And.intro ?_ ?_ | (refine congrArg vI ?_; first | omega | (dsimp only; omega) | fail) | (refine congrArg some ?_) | omega | exact Nat.le_refl _ | exact congrArg (SV.lst _) (List.take_of_length_le (Nat.le_refl _)).symm)) trivial trivial) ?_
    refine And.intro ⟨_, rfl⟩ ?_
    intro (c : Bool) (hc : c = !decide (OkN x))
    by_cases hk : OkN x
    · rw [decide_eq_true hk] at hc
      subst hc
      have hn : ∀ n ∈ l.take (j + 1), OkN n := fun n hn => by
        rw [take_snocI hx] at hn
        rcases List.mem_append.1 hn with hn | hn
        · exact hs n hn
        · rw [List.mem_singleton.1 hn]; exact hk
      conv => whnf
      repeat' (first | (refine tell (fun hQ => ?_) (fun hQ => ?_) <;> (try dsimp only at hQ) <;> first | (exfalso; omega) | (exact absurd rfl hQ) | (exact absurd (by decide) hQ) | (conv => whnf)) | (refine allG rfl ?_; conv => whnf) | (refine And.intro (by first | omega | assumption | kernel_rfl | exact And.intro rfl rfl | ((try dsimp only [inR, idx, lowOf]); first | omega | (with_reducible decide) | (simp; omega) | (simp; done) | fail) | fail) ?_; conv => whnf) | fail)
      refine ⟨j + 1, [], ⟨hlt, hn⟩, ?_, rfl, ?_, ?_, rfl⟩
      · dsimp only; first | omega | (simp; done) | (simp; omega)
      all_goals (repeat' (first | exact trivial | exact rfl | refine And.intro ?_ ?_ | (refine congrArg vI ?_; first | omega | (dsimp only; omega) | fail) | (refine congrArg some ?_) | omega | exact Nat.le_refl _ | exact congrArg (SV.lst _) (List.take_of_length_le (Nat.le_refl _)).symm))
    · rw [decide_eq_false hk] at hc
      subst hc
      conv => whnf
      repeat' (first | (refine tell (fun hQ => ?_) (fun hQ => ?_) <;> (try dsimp only at hQ) <;> first | (exfalso; omega) | (exact absurd rfl hQ) | (exact absurd (by decide) hQ) | (conv => whnf)) | (refine allG rfl ?_; conv => whnf) | (refine And.intro (by first | omega | assumption | kernel_rfl | exact And.intro rfl rfl | ((try dsimp only [inR, idx, lowOf]); first | omega | (with_reducible decide) | (simp; omega) | (simp; done) | fail) | fail) ?_; conv => whnf) | fail)
      exact ⟨(j : Int), [], ⟨fun _ h => hk (h x (List.mem_of_getElem? hx)), fun _ => Int.natCast_nonneg j⟩, rfl, trivial, trivial⟩
  · rw [List.take_of_length_le (by omega)] at hs
    conv => whnf
    repeat' (first | (refine tell (fun hQ => ?_) (fun hQ => ?_) <;> (try dsimp only at hQ) <;> first | (exfalso; omega) | (exact absurd rfl hQ) | (exact absurd (by decide) hQ) | (conv => whnf)) | (refine allG rfl ?_; conv => whnf) | (refine And.intro (by first | omega | assumption | kernel_rfl | exact And.intro rfl rfl | ((try dsimp only [inR, idx, lowOf]); first | omega | (with_reducible decide) | (simp; omega) | (simp; done) | fail) | fail) ?_; conv => whnf) | fail)
    exact ⟨(-1 : Int), [], ⟨fun h => absurd h (by decide), fun h => absurd hs h⟩, rfl, trivial, trivial⟩
def spNum : Spec AF where
  γ := List Int
  δ := Bool
  args := fun l => [.lst 3 l]
  own := fun _ => []
  pre := fun l => l.length ≤ 9223372036854775806
  nnew := 0
  res := fun _ c => vB c
  own' := fun _ _ => []
  post := fun l c => (c = true ↔ ∀ n ∈ l, OkN n)
theorem num_ex (l : List Int) : ∃ c : Bool, c = true ↔ ∀ n ∈ l, OkN n := by
  by_cases h : ∀ n ∈ l, OkN n
  · exact ⟨true, by simp; exact h⟩
  · exact ⟨false, by simp; simpa using h⟩
theorem idxNum_ex (l : List Int) : ∃ r : Int, 0 ≤ r ↔ ¬ ∀ n ∈ l, OkN n := by
  by_cases h : ∀ n ∈ l, OkN n
  · exact ⟨-1, fun h => absurd h (by decide), fun hn => absurd h hn⟩
  · exact ⟨0, fun _ => h, fun _ => by decide⟩
def spCNum : Spec AF where
  γ := List Int
  δ := Bool
  args := fun l => [.lst 3 l, .val (.func (.func 105) #[] #[])]
  own := fun _ => []
  pre := fun l => l.length ≤ 9223372036854775806
  nnew := 0
  res := fun _ c => vB c
  own' := fun _ _ => []
  post := fun l c => (c = true ↔ ¬ ∀ n ∈ l, OkN n)
theorem m_containsNum : Meets Tryd.prog regF 104 spCNum := by
  refine meets Tryd.func104 9 noWr rfl (by kernel_rfl) (by kernel_rfl) ?_
  rintro (l : List Int) (hl : l.length ≤ 9223372036854775806)
  conv => whnf
  repeat' (first | (refine tell (fun hQ => ?_) (fun hQ => ?_) <;> (try dsimp only at hQ) <;> first | (exfalso; omega) | (exact absurd rfl hQ) | (exact absurd (by decide) hQ) | (conv => whnf)) | (refine allG rfl ?_; conv => whnf) | (refine And.intro (by first | omega | assumption | kernel_rfl | exact And.intro rfl rfl | ((try dsimp only [inR, idx, lowOf]); first | omega | (with_reducible decide) | (simp; omega) | (simp; done) | fail) | fail) ?_; conv => whnf) | fail)
  refine ⟨_, m_idxNum, l, [], false, ?_⟩
  conv => whnf
  refine And.intro (vc0 hl (by (repeat' (first | exact trivial | exact rfl | refine And.intro ?_ ?_ | (refine congrArg vI ?_; first | omega | (dsimp only; omega) | fail) | (refine congrArg some ?_) | omega | exact Nat.le_refl _ | exact congrArg (SV.lst _) (List.take_of_length_le (Nat.le_refl _)).symm))) (by repeat' (first | exact trivial | exact rfl | refine And.intro ?_ ?_ | (refine congrArg vI ?_; first | omega | (dsimp only; omega) | fail) | (refine congrArg some ?_) | omega | exact Nat.le_refl _ | exact congrArg (SV.lst _) (List.take_of_length_le (Nat.le_refl _)).symm)) trivial trivial) ?_
  refine And.intro (idxNum_ex l) ?_
  intro (r : Int) (hr : 0 ≤ r ↔ ¬ ∀ n ∈ l, OkN n)
  conv => whnf
  repeat' (first | (refine tell (fun hQ => ?_) (fun hQ => ?_) <;> (try dsimp only at hQ) <;> first | (exfalso; omega) | (exact absurd rfl hQ) | (exact absurd (by decide) hQ) | (conv => whnf)) | (refine allG rfl ?_; conv => whnf) | (refine And.intro (by first | omega | assumption | kernel_rfl | exact And.intro rfl rfl | ((try dsimp only [inR, idx, lowOf]); first | omega | (with_reducible decide) | (simp; omega) | (simp; done) | fail) | fail) ?_; conv => whnf) | fail)
  · exact ⟨true, [], ⟨fun _ => hr.1 (by assumption), fun _ => rfl⟩, rfl, trivial, trivial⟩
  · exact ⟨false, [], ⟨fun h => (by cases h), fun h => absurd (hr.2 h) (by assumption)⟩, rfl, trivial, trivial⟩
theorem cnum_ex (l : List Int) : ∃ c : Bool, c = true ↔ ¬ ∀ n ∈ l, OkN n := by
  have hobt := num_ex l
  obtain ⟨c, hc⟩ := hobt
  exact ⟨!c, by rw [← hc]; cases c <;> simp⟩
theorem m_num : Meets Tryd.prog regF 82 spNum := by
  refine meets Tryd.func82 6 noWr rfl (by kernel_rfl) (by kernel_rfl) ?_
  rintro (l : List Int) (hl : l.length ≤ 9223372036854775806)
  conv => whnf
  repeat' (first | (refine tell (fun hQ => ?_) (fun hQ => ?_) <;> (try dsimp only at hQ) <;> first | (exfalso; omega) | (exact absurd rfl hQ) | (exact absurd (by decide) hQ) | (conv => whnf)) | (refine allG rfl ?_; conv => whnf) | (refine And.intro (by first | omega | assumption | kernel_rfl | exact And.intro rfl rfl | ((try dsimp only [inR, idx, lowOf]); first | omega | (with_reducible decide) | (simp; omega) | (simp; done) | fail) | fail) ?_; conv => whnf) | fail)
  refine ⟨_, m_containsNum, l, [], false, ?_⟩
  conv => whnf
  refine And.intro (vc0 hl (by (repeat' (first | exact trivial | exact rfl | refine And.intro ?_ ?_ | (refine congrArg vI ?_; first | omega | (dsimp only; omega) | fail) | (refine congrArg some ?_) | omega | exact Nat.le_refl _ | exact congrArg (SV.lst _) (List.take_of_length_le (Nat.le_refl _)).symm))) (by repeat' (first | exact trivial | exact rfl | refine And.intro ?_ ?_ | (refine congrArg vI ?_; first | omega | (dsimp only; omega) | fail) | (refine congrArg some ?_) | omega | exact Nat.le_refl _ | exact congrArg (SV.lst _) (List.take_of_length_le (Nat.le_refl _)).symm)) trivial trivial) ?_
  refine And.intro (cnum_ex l) ?_
  intro (c : Bool) (hc : c = true ↔ ¬ ∀ n ∈ l, OkN n)
  cases c
  · conv => whnf
    repeat' (first | (refine tell (fun hQ => ?_) (fun hQ => ?_) <;> (try dsimp only at hQ) <;> first | (exfalso; omega) | (exact absurd rfl hQ) | (exact absurd (by decide) hQ) | (conv => whnf)) | (refine allG rfl ?_; conv => whnf) | (refine And.intro (by first | omega | assumption | kernel_rfl | exact And.intro rfl rfl | ((try dsimp only [inR, idx, lowOf]); first | omega | (with_reducible decide) | (simp; omega) | (simp; done) | fail) | fail) ?_; conv => whnf) | fail)
    exact ⟨true, [], ⟨fun _ => Classical.byContradiction fun h => (by have := hc.2 h; cases this), fun _ => rfl⟩, rfl, trivial, trivial⟩
  · conv => whnf
    repeat' (first | (refine tell (fun hQ => ?_) (fun hQ => ?_) <;> (try dsimp only at hQ) <;> first | (exfalso; omega) | (exact absurd rfl hQ) | (exact absurd (by decide) hQ) | (conv => whnf)) | (refine allG rfl ?_; conv => whnf) | (refine And.intro (by first | omega | assumption | kernel_rfl | exact And.intro rfl rfl | ((try dsimp only [inR, idx, lowOf]); first | omega | (with_reducible decide) | (simp; omega) | (simp; done) | fail) | fail) ?_; conv => whnf) | fail)
    exact ⟨false, [], ⟨fun h => (by cases h), fun h => absurd h (hc.1 rfl)⟩, rfl, trivial, trivial⟩
end Go.Sx


/-
  Layer 8 at the door: order.Right, order.Base.
-/
namespace Go.Sx
open Go Go.Proofs Go.Proofs.YtmogappoadglgaaDoor
abbrev Stp := Int × Int × Bool
abbrev OrdT := Int × List UInt8 × Int × Int × List Stp × List Stp
/-- An order, as it is handed over. -/
abbrev ordCs (o : OrdT) : List (SV AF) := [vI o.1, vS o.2.1, vI o.2.2.1, vI o.2.2.2.1, .lst 46 o.2.2.2.2.1, .lst 95 o.2.2.2.2.2]
abbrev ordS (o : OrdT) : SV AF := .agg (ordCs o)
def StepOk (f e t : Stp) : Prop := (OkN e.1 ∧ OkN e.2.1 ∧ OkN t.1 ∧ OkN t.2.1) ∧ e.2.1 = f.2.1 + 1 ∧ t.2.1 = e.2.1 + 1 ∧ e.2.2 = t.2.2 ∧ (t.2.2 = true → f.2.2 = true)
def HeadOk (o : OrdT) : Prop := nameF o.2.1 = true ∧ (OkN o.1 ∧ OkN o.2.2.1 ∧ OkN o.2.2.2.1) ∧ 1 ≤ o.2.2.2.2.1.length ∧ o.2.2.2.2.1.length ≤ 64 ∧ o.2.2.2.2.2.length + 1 = o.2.2.2.2.1.length
def FirstOk (f : Stp) : Prop := f.2.1.tmod 2 = 0 ∧ f.2.2 = true ∧ OkN f.1 ∧ OkN f.2.1
def RightO (o : OrdT) : Prop := HeadOk o ∧ (∃ f, o.2.2.2.2.1[0]? = some f ∧ FirstOk f) ∧ ∀ (i : Nat) f e t, o.2.2.2.2.2[i]? = some e → o.2.2.2.2.1[i]? = some f → o.2.2.2.2.1[i + 1]? = some t → StepOk f e t
def spRightO : Spec AF where
  γ := OrdT
  δ := Bool
  args := fun o => [ordS o]
  own := fun _ => []
  pre := fun o => o.2.2.2.2.1.length ≤ 9223372036854775807 ∧ o.2.2.2.2.2.length ≤ 9223372036854775807
  nnew := 0
  res := fun _ c => vB c
  own' := fun _ _ => []
  post := fun o c => (c = true ↔ RightO o)
theorem rightO_ex (o : OrdT) : ∃ c : Bool, c = true ↔ RightO o := by
  by_cases h : RightO o
  · exact ⟨true, by simp [h]⟩
  · exact ⟨false, by simp [h]⟩
set_option maxHeartbeats 3200000 in
theorem m_rightO : Meets Tryd.prog regF 56 spRightO := by
  refine meets Tryd.func56 128 noWr rfl (by kernel_rfl) (by kernel_rfl) ?_
  rintro ⟨(h : Int), (v : List UInt8), (od : Int), (up : Int), (ns : List Stp), (es : List Stp)⟩ ⟨(hnl : ns.length ≤ 9223372036854775807), (hel : es.length ≤ 9223372036854775807)⟩
  conv => whnf
  repeat' (first | (refine tell (fun hQ => ?_) (fun hQ => ?_) <;> (try dsimp only at hQ) <;> first | (exfalso; omega) | (exact absurd rfl hQ) | (exact absurd hQ t1) | (exact absurd t1 hQ) | (exact absurd (by decide) hQ) | (conv => whnf)) | (refine allG rfl ?_; conv => whnf) | (refine And.intro (by first | omega | assumption | kernel_rfl | exact And.intro rfl rfl | ((try dsimp only [inR, idx, lowOf]); first | omega | (with_reducible decide) | (simp; omega) | (simp; done) | fail) | fail) ?_; conv => whnf) | fail)
  refine ⟨_, m_name, v, [], false, ?_⟩
  conv => whnf
  refine And.intro (vc0 trivial (by (repeat' (first | exact trivial | exact rfl | refine And.intro ?_ ?_ | (refine congrArg vI ?_; first | omega | (dsimp only; omega) | fail) | (refine congrArg some ?_) | omega | exact Nat.le_refl _ | exact congrArg (SV.lst _) (List.take_of_length_le (Nat.le_refl _)).symm))) (by repeat' (first | exact trivial | exact rfl | refine And.intro ?_ ?_ | (refine congrArg vI ?_; first | omega | (dsimp only; omega) | fail) | (refine congrArg some ?_) | omega | exact Nat.le_refl _ | exact congrArg (SV.lst _) (List.take_of_length_le (Nat.le_refl _)).symm)) trivial trivial) ?_
  refine And.intro ⟨(), trivial⟩ (fun (_ : Unit) _ => ?_)
  conv => whnf
  cases hv : nameF v
  · have hno : ¬ RightO (h, v, od, up, ns, es) := fun hr => by have : nameF v = true := hr.1.1; rw [hv] at this; cases this
    conv => whnf
    repeat' (first | (refine tell (fun hQ => ?_) (fun hQ => ?_) <;> (try dsimp only at hQ) <;> first | (exfalso; omega) | (exact absurd rfl hQ) | (exact absurd hQ t1) | (exact absurd t1 hQ) | (exact absurd (by decide) hQ) | (conv => whnf)) | (refine allG rfl ?_; conv => whnf) | (refine And.intro (by first | omega | assumption | kernel_rfl | exact And.intro rfl rfl | ((try dsimp only [inR, idx, lowOf]); first | omega | (with_reducible decide) | (simp; omega) | (simp; done) | fail) | fail) ?_; conv => whnf) | fail)
    exact ⟨false, [], ⟨fun h => (by cases h), fun h => absurd h hno⟩, rfl, trivial, trivial⟩
  · conv => whnf
    repeat' (first | (refine tell (fun hQ => ?_) (fun hQ => ?_) <;> (try dsimp only at hQ) <;> first | (exfalso; omega) | (exact absurd rfl hQ) | (exact absurd hQ t1) | (exact absurd t1 hQ) | (exact absurd (by decide) hQ) | (conv => whnf)) | (refine allG rfl ?_; conv => whnf) | (refine And.intro (by first | omega | assumption | kernel_rfl | exact And.intro rfl rfl | ((try dsimp only [inR, idx, lowOf]); first | omega | (with_reducible decide) | (simp; omega) | (simp; done) | fail) | fail) ?_; conv => whnf) | fail)
    refine ⟨_, m_num, [h, od, up], [], false, ?_⟩
    conv => whnf
    refine And.intro (vc0 (show (3 : Nat) ≤ 9223372036854775806 by decide) (by (repeat' (first | exact trivial | exact rfl | refine And.intro ?_ ?_ | (refine congrArg vI ?_; first | omega | (dsimp only; omega) | fail) | (refine congrArg some ?_) | omega | exact Nat.le_refl _ | exact congrArg (SV.lst _) (List.take_of_length_le (Nat.le_refl _)).symm))) (by repeat' (first | exact trivial | exact rfl | refine And.intro ?_ ?_ | (refine congrArg vI ?_; first | omega | (dsimp only; omega) | fail) | (refine congrArg some ?_) | omega | exact Nat.le_refl _ | exact congrArg (SV.lst _) (List.take_of_length_le (Nat.le_refl _)).symm)) trivial trivial) ?_
    refine And.intro (num_ex _) ?_
    intro (c : Bool) (hc : c = true ↔ ∀ n ∈ [h, od, up], OkN n)
    cases c
    · have hno : ¬ RightO (h, v, od, up, ns, es) := fun hr => by
        have hh : OkN h ∧ OkN od ∧ OkN up := hr.1.2.1
        have := hc.2 (by simp; exact hh)
        cases this
      conv => whnf
      repeat' (first | (refine tell (fun hQ => ?_) (fun hQ => ?_) <;> (try dsimp only at hQ) <;> first | (exfalso; omega) | (exact absurd rfl hQ) | (exact absurd hQ t1) | (exact absurd t1 hQ) | (exact absurd (by decide) hQ) | (conv => whnf)) | (refine allG rfl ?_; conv => whnf) | (refine And.intro (by first | omega | assumption | kernel_rfl | exact And.intro rfl rfl | ((try dsimp only [inR, idx, lowOf]); first | omega | (with_reducible decide) | (simp; omega) | (simp; done) | fail) | fail) ?_; conv => whnf) | fail)
      exact ⟨false, [], ⟨fun h => (by cases h), fun h => absurd h hno⟩, rfl, trivial, trivial⟩
    · have hn3 := hc.1 rfl
      have hn3 : OkN h ∧ OkN od ∧ OkN up := by simpa using hn3
      by_cases hL : 1 ≤ ns.length ∧ ns.length ≤ 64 ∧ es.length + 1 = ns.length
      · obtain ⟨hL1, hL2, hL3⟩ := hL
        have hobt : ∃ y, ns[0]? = some y := ⟨_, List.getElem?_eq_getElem (by omega)⟩
        obtain ⟨⟨(n0 : Int), (s0 : Int), (r0 : Bool)⟩, hf0⟩ := hobt
        have hfirst : RightO (h, v, od, up, ns, es) → FirstOk (n0, s0, r0) := fun hr => by
          have hobt := hr.2.1
          obtain ⟨f, h1, h2⟩ := hobt
          have h1 : ns[0]? = some f := h1
          rw [hf0] at h1; cases h1; exact h2
        by_cases h2 : s0.tmod 2 = 0
        · cases r0
          · have hno : ¬ RightO (h, v, od, up, ns, es) := fun hr => by have := (hfirst hr).2.1; cases this
            conv => whnf
            repeat' (first | (refine tell (fun hQ => ?_) (fun hQ => ?_) <;> (try dsimp only at hQ) <;> first | (exfalso; omega) | (exact absurd rfl hQ) | (exact absurd hQ t1) | (exact absurd t1 hQ) | (exact absurd (by decide) hQ) | (conv => whnf)) | (refine allG (x := _) (by first | exact hf0 | simpa [List.getElem?_append_right, lowOf] using hf0 | fail) ?_; conv => whnf) | (refine allLst (x := _) (by first | omega | assumption | fail) (by first | exact hf0 | simpa using hf0 | fail) ?_; conv => whnf) | (refine allG rfl ?_; conv => whnf) | (refine And.intro (by first | omega | assumption | kernel_rfl | exact And.intro rfl rfl | ((try dsimp only [inR, idx, lowOf]); first | omega | (with_reducible decide) | (simp; omega) | (simp; done) | fail) | fail) ?_; conv => whnf) | fail)
            exact ⟨false, [], ⟨fun h => (by cases h), fun h => absurd h hno⟩, rfl, trivial, trivial⟩
          · conv => whnf
            repeat' (first | (refine tell (fun hQ => ?_) (fun hQ => ?_) <;> (try dsimp only at hQ) <;> first | (exfalso; omega) | (exact absurd rfl hQ) | (exact absurd hQ t1) | (exact absurd t1 hQ) | (exact absurd (by decide) hQ) | (conv => whnf)) | (refine allG (x := _) (by first | exact hf0 | simpa [List.getElem?_append_right, lowOf] using hf0 | fail) ?_; conv => whnf) | (refine allLst (x := _) (by first | omega | assumption | fail) (by first | exact hf0 | simpa using hf0 | fail) ?_; conv => whnf) | (refine allG rfl ?_; conv => whnf) | (refine And.intro (by first | omega | assumption | kernel_rfl | exact And.intro rfl rfl | ((try dsimp only [inR, idx, lowOf]); first | omega | (with_reducible decide) | (simp; omega) | (simp; done) | fail) | fail) ?_; conv => whnf) | fail)
            refine ⟨_, m_num, [n0, s0], [], false, ?_⟩
            conv => whnf
            refine And.intro (vc0 (show (2 : Nat) ≤ 9223372036854775806 by decide) (by (repeat' (first | exact trivial | exact rfl | refine And.intro ?_ ?_ | (refine congrArg vI ?_; first | omega | (dsimp only; omega) | fail) | (refine congrArg some ?_) | omega | exact Nat.le_refl _ | exact congrArg (SV.lst _) (List.take_of_length_le (Nat.le_refl _)).symm))) (by repeat' (first | exact trivial | exact rfl | refine And.intro ?_ ?_ | (refine congrArg vI ?_; first | omega | (dsimp only; omega) | fail) | (refine congrArg some ?_) | omega | exact Nat.le_refl _ | exact congrArg (SV.lst _) (List.take_of_length_le (Nat.le_refl _)).symm)) trivial trivial) ?_
            refine And.intro (num_ex _) ?_
            intro (c : Bool) (hc : c = true ↔ ∀ n ∈ [n0, s0], OkN n)
            cases c
            · have hno : ¬ RightO (h, v, od, up, ns, es) := fun hr => by
                have hh := (hfirst hr).2.2
                have := hc.2 (by simp; exact hh)
                cases this
              conv => whnf
              repeat' (first | (refine tell (fun hQ => ?_) (fun hQ => ?_) <;> (try dsimp only at hQ) <;> first | (exfalso; omega) | (exact absurd rfl hQ) | (exact absurd hQ t1) | (exact absurd t1 hQ) | (exact absurd (by decide) hQ) | (conv => whnf)) | (refine allG rfl ?_; conv => whnf) | (refine And.intro (by first | omega | assumption | kernel_rfl | exact And.intro rfl rfl | ((try dsimp only [inR, idx, lowOf]); first | omega | (with_reducible decide) | (simp; omega) | (simp; done) | fail) | fail) ?_; conv => whnf) | fail)
              exact ⟨false, [], ⟨fun h => (by cases h), fun h => absurd h hno⟩, rfl, trivial, trivial⟩
            · have hn2 := hc.1 rfl
              have hn2 : OkN n0 ∧ OkN s0 := by simpa using hn2
              conv => whnf
              repeat' (first | (refine tell (fun hQ => ?_) (fun hQ => ?_) <;> (try dsimp only at hQ) <;> first | (exfalso; omega) | (exact absurd rfl hQ) | (exact absurd hQ t1) | (exact absurd t1 hQ) | (exact absurd (by decide) hQ) | (conv => whnf)) | (refine allG rfl ?_; conv => whnf) | (refine And.intro (by first | omega | assumption | kernel_rfl | exact And.intro rfl rfl | ((try dsimp only [inR, idx, lowOf]); first | omega | (with_reducible decide) | (simp; omega) | (simp; done) | fail) | fail) ?_; conv => whnf) | fail)
              refine ⟨Nat, fun i => ⟨[(1, .ptr 1001 0 6 0), (66, .lst 95 es), (67, vI es.length), (68, vI i)], [(1001, .cells [vI h, vS v, vI od, vI up, .lst 46 ns, .lst 95 es])]⟩, fun i => i ≤ es.length ∧ (∀ f, ns[i]? = some f → OkN f.2.1) ∧ ∀ (j : Nat) f e t, j < i → es[j]? = some e → ns[j]? = some f → ns[j + 1]? = some t → StepOk f e t, fun i => es.length - i, fun _ _ => rfl, ⟨0, [], ⟨Nat.zero_le _, fun f hf => by rw [hf0] at hf; cases hf; exact hn2.2, fun j f e t hj => absurd hj (Nat.not_lt_zero _)⟩, ?_⟩, ?_⟩
              · refine ⟨rfl, ?_, ?_, rfl⟩
                all_goals (repeat' (first | exact trivial | exact rfl | refine And.intro ?_ ?_ | (refine congrArg vI ?_; first | omega | (dsimp only; omega) | fail) | (refine congrArg some ?_) | omega | exact Nat.le_refl _ | exact congrArg (SV.lst _) (List.take_of_length_le (Nat.le_refl _)).symm))
              rintro (i : Nat) ⟨(hi : i ≤ es.length), (hseq : ∀ f, ns[i]? = some f → OkN f.2.1), (hst : ∀ (j : Nat) f e t, j < i → es[j]? = some e → ns[j]? = some f → ns[j + 1]? = some t → StepOk f e t)⟩
              by_cases hlt : i < es.length
              · have hobt : ∃ y, es[i]? = some y := ⟨_, List.getElem?_eq_getElem hlt⟩
                obtain ⟨⟨(e0 : Int), (e1 : Int), (e2 : Bool)⟩, he⟩ := hobt
                have hobt : ∃ y, ns[i]? = some y := ⟨_, List.getElem?_eq_getElem (by omega)⟩
                obtain ⟨⟨(f0 : Int), (f1 : Int), (f2 : Bool)⟩, hf⟩ := hobt
                have hobt : ∃ y, ns[i + 1]? = some y := ⟨_, List.getElem?_eq_getElem (by omega)⟩
                obtain ⟨⟨(t0 : Int), (t1 : Int), (t2 : Bool)⟩, ht⟩ := hobt
                have hf1 : OkN f1 := hseq _ hf
                have hf1a := hf1.1
                have hf1b := hf1.2
                have ht' : ns[((i : Int) + 1).toNat]? = some (t0, t1, t2) := by rw [show ((i : Int) + 1).toNat = i + 1 by omega]; exact ht
                have hstep : RightO (h, v, od, up, ns, es) → StepOk (f0, f1, f2) (e0, e1, e2) (t0, t1, t2) := fun hr => hr.2.2 i _ _ _ he hf ht
                conv => whnf
                repeat' (first | (refine tell (fun hQ => ?_) (fun hQ => ?_) <;> (try dsimp only at hQ) <;> first | (exfalso; omega) | (exact absurd rfl hQ) | (exact absurd hQ t1) | (exact absurd t1 hQ) | (exact absurd (by decide) hQ) | (conv => whnf)) | (refine allG (x := _) (by first | exact he | simpa [List.getElem?_append_right, lowOf] using he | fail) ?_; conv => whnf) | (refine allLst (x := _) (by first | omega | assumption | fail) (by first | exact he | simpa using he | fail) ?_; conv => whnf) | (refine allG (x := _) (by first | exact hf | simpa [List.getElem?_append_right, lowOf] using hf | fail) ?_; conv => whnf) | (refine allLst (x := _) (by first | omega | assumption | fail) (by first | exact hf | simpa using hf | fail) ?_; conv => whnf) | (refine allG (x := _) (by first | exact ht' | simpa [List.getElem?_append_right, lowOf] using ht' | fail) ?_; conv => whnf) | (refine allLst (x := _) (by first | omega | assumption | fail) (by first | exact ht' | simpa using ht' | fail) ?_; conv => whnf) | (refine allG rfl ?_; conv => whnf) | (refine And.intro (by first | omega | assumption | kernel_rfl | exact And.intro rfl rfl | ((try dsimp only [inR, idx, lowOf]); first | omega | (with_reducible decide) | (simp; omega) | (simp; done) | fail) | fail) ?_; conv => whnf) | fail)
                refine ⟨_, m_num, [e0, e1, t0, t1], [], false, ?_⟩
                conv => whnf
                refine And.intro (vc0 (show (4 : Nat) ≤ 9223372036854775806 by decide) (by (repeat' (first | exact trivial | exact rfl | refine And.intro ?_ ?_ | (refine congrArg vI ?_; first | omega | (dsimp only; omega) | fail) | (refine congrArg some ?_) | omega | exact Nat.le_refl _ | exact congrArg (SV.lst _) (List.take_of_length_le (Nat.le_refl _)).symm))) (by repeat' (first | exact trivial | exact rfl | refine And.intro ?_ ?_ | (refine congrArg vI ?_; first | omega | (dsimp only; omega) | fail) | (refine congrArg some ?_) | omega | exact Nat.le_refl _ | exact congrArg (SV.lst _) (List.take_of_length_le (Nat.le_refl _)).symm)) trivial trivial) ?_
                refine And.intro (num_ex _) ?_
                intro (c : Bool) (hc : c = true ↔ ∀ n ∈ [e0, e1, t0, t1], OkN n)
                cases c
                · have hno : ¬ RightO (h, v, od, up, ns, es) := fun hr => by
                    have hh := (hstep hr).1
                    have := hc.2 (by simp; exact hh)
                    cases this
                  conv => whnf
                  repeat' (first | (refine tell (fun hQ => ?_) (fun hQ => ?_) <;> (try dsimp only at hQ) <;> first | (exfalso; omega) | (exact absurd rfl hQ) | (exact absurd hQ t1) | (exact absurd t1 hQ) | (exact absurd (by decide) hQ) | (conv => whnf)) | (refine allG rfl ?_; conv => whnf) | (refine And.intro (by first | omega | assumption | kernel_rfl | exact And.intro rfl rfl | ((try dsimp only [inR, idx, lowOf]); first | omega | (with_reducible decide) | (simp; omega) | (simp; done) | fail) | fail) ?_; conv => whnf) | fail)
                  exact ⟨false, [], ⟨fun h => (by cases h), fun h => absurd h hno⟩, rfl, trivial, trivial⟩
                · have hn4 := hc.1 rfl
                  have hn4 : OkN e0 ∧ OkN e1 ∧ OkN t0 ∧ OkN t1 := by simpa using hn4
                  have hea := hn4.2.1.1
                  have heb := hn4.2.1.2
                  have hta := hn4.2.2.2.1
                  have htb := hn4.2.2.2.2
                  by_cases h5 : e1 = f1 + 1
                  · by_cases h6 : t1 = e1 + 1
                    · cases e2
                      · cases t2
                        · cases f2
                          · have hso : StepOk (f0, f1, false) (e0, e1, false) (t0, t1, false) := ⟨hn4, h5, h6, rfl, fun h => by first | exact h | rfl⟩
                            have hnext : ∀ (j : Nat) f e t, j < i + 1 → es[j]? = some e → ns[j]? = some f → ns[j + 1]? = some t → StepOk f e t := fun j f e t hj h1 h2 h3 => by
                              by_cases hji : j = i
                              · subst hji; rw [he] at h1; rw [hf] at h2; rw [ht] at h3; cases h1; cases h2; cases h3; exact hso
                              · exact hst j f e t (by omega) h1 h2 h3
                            have hsn : ∀ f, ns[i + 1]? = some f → OkN f.2.1 := fun f h1 => by rw [ht] at h1; cases h1; exact hn4.2.2.2
                            conv => whnf
                            repeat' (first | (refine tell (fun hQ => ?_) (fun hQ => ?_) <;> (try dsimp only at hQ) <;> first | (exfalso; omega) | (exact absurd rfl hQ) | (exact absurd hQ t1) | (exact absurd t1 hQ) | (exact absurd (by decide) hQ) | (conv => whnf)) | (refine allG rfl ?_; conv => whnf) | (refine And.intro (by first | omega | assumption | kernel_rfl | exact And.intro rfl rfl | ((try dsimp only [inR, idx, lowOf]); first | omega | (with_reducible decide) | (simp; omega) | (simp; done) | fail) | fail) ?_; conv => whnf) | fail)
                            refine ⟨i + 1, [], ⟨hlt, hsn, hnext⟩, ?_, rfl, ?_, ?_, rfl⟩
                            · dsimp only; first | omega | (simp; done) | (simp; omega)
                            all_goals (repeat' (first | exact trivial | exact rfl | refine And.intro ?_ ?_ | (refine congrArg vI ?_; first | omega | (dsimp only; omega) | fail) | (refine congrArg some ?_) | omega | exact Nat.le_refl _ | exact congrArg (SV.lst _) (List.take_of_length_le (Nat.le_refl _)).symm))
                          · have hso : StepOk (f0, f1, true) (e0, e1, false) (t0, t1, false) := ⟨hn4, h5, h6, rfl, fun h => by first | exact h | rfl⟩
                            have hnext : ∀ (j : Nat) f e t, j < i + 1 → es[j]? = some e → ns[j]? = some f → ns[j + 1]? = some t → StepOk f e t := fun j f e t hj h1 h2 h3 => by
                              by_cases hji : j = i
                              · subst hji; rw [he] at h1; rw [hf] at h2; rw [ht] at h3; cases h1; cases h2; cases h3; exact hso
                              · exact hst j f e t (by omega) h1 h2 h3
                            have hsn : ∀ f, ns[i + 1]? = some f → OkN f.2.1 := fun f h1 => by rw [ht] at h1; cases h1; exact hn4.2.2.2
                            conv => whnf
                            repeat' (first | (refine tell (fun hQ => ?_) (fun hQ => ?_) <;> (try dsimp only at hQ) <;> first | (exfalso; omega) | (exact absurd rfl hQ) | (exact absurd hQ t1) | (exact absurd t1 hQ) | (exact absurd (by decide) hQ) | (conv => whnf)) | (refine allG rfl ?_; conv => whnf) | (refine And.intro (by first | omega | assumption | kernel_rfl | exact And.intro rfl rfl | ((try dsimp only [inR, idx, lowOf]); first | omega | (with_reducible decide) | (simp; omega) | (simp; done) | fail) | fail) ?_; conv => whnf) | fail)
                            refine ⟨i + 1, [], ⟨hlt, hsn, hnext⟩, ?_, rfl, ?_, ?_, rfl⟩
                            · dsimp only; first | omega | (simp; done) | (simp; omega)
                            all_goals (repeat' (first | exact trivial | exact rfl | refine And.intro ?_ ?_ | (refine congrArg vI ?_; first | omega | (dsimp only; omega) | fail) | (refine congrArg some ?_) | omega | exact Nat.le_refl _ | exact congrArg (SV.lst _) (List.take_of_length_le (Nat.le_refl _)).symm))
                        · cases f2
                          · have hno : ¬ RightO (h, v, od, up, ns, es) := fun hr => by have := (hstep hr).2.2.2.1; cases this
                            conv => whnf
                            repeat' (first | (refine tell (fun hQ => ?_) (fun hQ => ?_) <;> (try dsimp only at hQ) <;> first | (exfalso; omega) | (exact absurd rfl hQ) | (exact absurd hQ t1) | (exact absurd t1 hQ) | (exact absurd (by decide) hQ) | (conv => whnf)) | (refine allG rfl ?_; conv => whnf) | (refine And.intro (by first | omega | assumption | kernel_rfl | exact And.intro rfl rfl | ((try dsimp only [inR, idx, lowOf]); first | omega | (with_reducible decide) | (simp; omega) | (simp; done) | fail) | fail) ?_; conv => whnf) | fail)
                            exact ⟨false, [], ⟨fun h => (by cases h), fun h => absurd h hno⟩, rfl, trivial, trivial⟩
                          · have hno : ¬ RightO (h, v, od, up, ns, es) := fun hr => by have := (hstep hr).2.2.2.1; cases this
                            conv => whnf
                            repeat' (first | (refine tell (fun hQ => ?_) (fun hQ => ?_) <;> (try dsimp only at hQ) <;> first | (exfalso; omega) | (exact absurd rfl hQ) | (exact absurd hQ t1) | (exact absurd t1 hQ) | (exact absurd (by decide) hQ) | (conv => whnf)) | (refine allG rfl ?_; conv => whnf) | (refine And.intro (by first | omega | assumption | kernel_rfl | exact And.intro rfl rfl | ((try dsimp only [inR, idx, lowOf]); first | omega | (with_reducible decide) | (simp; omega) | (simp; done) | fail) | fail) ?_; conv => whnf) | fail)
                            exact ⟨false, [], ⟨fun h => (by cases h), fun h => absurd h hno⟩, rfl, trivial, trivial⟩
                      · cases t2
                        · cases f2
                          · have hno : ¬ RightO (h, v, od, up, ns, es) := fun hr => by have := (hstep hr).2.2.2.1; cases this
                            conv => whnf
                            repeat' (first | (refine tell (fun hQ => ?_) (fun hQ => ?_) <;> (try dsimp only at hQ) <;> first | (exfalso; omega) | (exact absurd rfl hQ) | (exact absurd hQ t1) | (exact absurd t1 hQ) | (exact absurd (by decide) hQ) | (conv => whnf)) | (refine allG rfl ?_; conv => whnf) | (refine And.intro (by first | omega | assumption | kernel_rfl | exact And.intro rfl rfl | ((try dsimp only [inR, idx, lowOf]); first | omega | (with_reducible decide) | (simp; omega) | (simp; done) | fail) | fail) ?_; conv => whnf) | fail)
                            exact ⟨false, [], ⟨fun h => (by cases h), fun h => absurd h hno⟩, rfl, trivial, trivial⟩
                          · have hno : ¬ RightO (h, v, od, up, ns, es) := fun hr => by have := (hstep hr).2.2.2.1; cases this
                            conv => whnf
                            repeat' (first | (refine tell (fun hQ => ?_) (fun hQ => ?_) <;> (try dsimp only at hQ) <;> first | (exfalso; omega) | (exact absurd rfl hQ) | (exact absurd hQ t1) | (exact absurd t1 hQ) | (exact absurd (by decide) hQ) | (conv => whnf)) | (refine allG rfl ?_; conv => whnf) | (refine And.intro (by first | omega | assumption | kernel_rfl | exact And.intro rfl rfl | ((try dsimp only [inR, idx, lowOf]); first | omega | (with_reducible decide) | (simp; omega) | (simp; done) | fail) | fail) ?_; conv => whnf) | fail)
                            exact ⟨false, [], ⟨fun h => (by cases h), fun h => absurd h hno⟩, rfl, trivial, trivial⟩
                        · cases f2
                          · have hno : ¬ RightO (h, v, od, up, ns, es) := fun hr => by have := ((hstep hr).2.2.2.2 rfl); cases this
                            conv => whnf
                            repeat' (first | (refine tell (fun hQ => ?_) (fun hQ => ?_) <;> (try dsimp only at hQ) <;> first | (exfalso; omega) | (exact absurd rfl hQ) | (exact absurd hQ t1) | (exact absurd t1 hQ) | (exact absurd (by decide) hQ) | (conv => whnf)) | (refine allG rfl ?_; conv => whnf) | (refine And.intro (by first | omega | assumption | kernel_rfl | exact And.intro rfl rfl | ((try dsimp only [inR, idx, lowOf]); first | omega | (with_reducible decide) | (simp; omega) | (simp; done) | fail) | fail) ?_; conv => whnf) | fail)
                            exact ⟨false, [], ⟨fun h => (by cases h), fun h => absurd h hno⟩, rfl, trivial, trivial⟩
                          · have hso : StepOk (f0, f1, true) (e0, e1, true) (t0, t1, true) := ⟨hn4, h5, h6, rfl, fun h => by first | exact h | rfl⟩
                            have hnext : ∀ (j : Nat) f e t, j < i + 1 → es[j]? = some e → ns[j]? = some f → ns[j + 1]? = some t → StepOk f e t := fun j f e t hj h1 h2 h3 => by
                              by_cases hji : j = i
                              · subst hji; rw [he] at h1; rw [hf] at h2; rw [ht] at h3; cases h1; cases h2; cases h3; exact hso
                              · exact hst j f e t (by omega) h1 h2 h3
                            have hsn : ∀ f, ns[i + 1]? = some f → OkN f.2.1 := fun f h1 => by rw [ht] at h1; cases h1; exact hn4.2.2.2
                            conv => whnf
                            repeat' (first | (refine tell (fun hQ => ?_) (fun hQ => ?_) <;> (try dsimp only at hQ) <;> first | (exfalso; omega) | (exact absurd rfl hQ) | (exact absurd hQ t1) | (exact absurd t1 hQ) | (exact absurd (by decide) hQ) | (conv => whnf)) | (refine allG rfl ?_; conv => whnf) | (refine And.intro (by first | omega | assumption | kernel_rfl | exact And.intro rfl rfl | ((try dsimp only [inR, idx, lowOf]); first | omega | (with_reducible decide) | (simp; omega) | (simp; done) | fail) | fail) ?_; conv => whnf) | fail)
                            refine ⟨i + 1, [], ⟨hlt, hsn, hnext⟩, ?_, rfl, ?_, ?_, rfl⟩
                            · dsimp only; first | omega | (simp; done) | (simp; omega)
                            all_goals (repeat' (first | exact trivial | exact rfl | refine And.intro ?_ ?_ | (refine congrArg vI ?_; first | omega | (dsimp only; omega) | fail) | (refine congrArg some ?_) | omega | exact Nat.le_refl _ | exact congrArg (SV.lst _) (List.take_of_length_le (Nat.le_refl _)).symm))
                    · have hno : ¬ RightO (h, v, od, up, ns, es) := fun hr => absurd (hstep hr).2.2.1 h6
                      conv => whnf
                      repeat' (first | (refine tell (fun hQ => ?_) (fun hQ => ?_) <;> (try dsimp only at hQ) <;> first | (exfalso; omega) | (exact absurd rfl hQ) | (exact absurd hQ t1) | (exact absurd t1 hQ) | (exact absurd (by decide) hQ) | (conv => whnf)) | (refine allG rfl ?_; conv => whnf) | (refine And.intro (by first | omega | assumption | kernel_rfl | exact And.intro rfl rfl | ((try dsimp only [inR, idx, lowOf]); first | omega | (with_reducible decide) | (simp; omega) | (simp; done) | fail) | fail) ?_; conv => whnf) | fail)
                      exact ⟨false, [], ⟨fun h => (by cases h), fun h => absurd h hno⟩, rfl, trivial, trivial⟩
                  · have hno : ¬ RightO (h, v, od, up, ns, es) := fun hr => absurd (hstep hr).2.1 h5
                    conv => whnf
                    repeat' (first | (refine tell (fun hQ => ?_) (fun hQ => ?_) <;> (try dsimp only at hQ) <;> first | (exfalso; omega) | (exact absurd rfl hQ) | (exact absurd hQ t1) | (exact absurd t1 hQ) | (exact absurd (by decide) hQ) | (conv => whnf)) | (refine allG rfl ?_; conv => whnf) | (refine And.intro (by first | omega | assumption | kernel_rfl | exact And.intro rfl rfl | ((try dsimp only [inR, idx, lowOf]); first | omega | (with_reducible decide) | (simp; omega) | (simp; done) | fail) | fail) ?_; conv => whnf) | fail)
                    exact ⟨false, [], ⟨fun h => (by cases h), fun h => absurd h hno⟩, rfl, trivial, trivial⟩
              · have hyes : RightO (h, v, od, up, ns, es) := ⟨⟨hv, hn3, hL1, hL2, hL3⟩, ⟨_, hf0, h2, rfl, hn2.1, hn2.2⟩, fun j f e t h1 h2 h3 => hst j f e t (by have := (List.getElem?_eq_some_iff.1 h1).1; have h9 : j < es.length := this; omega) h1 h2 h3⟩
                conv => whnf
                repeat' (first | (refine tell (fun hQ => ?_) (fun hQ => ?_) <;> (try dsimp only at hQ) <;> first | (exfalso; omega) | (exact absurd rfl hQ) | (exact absurd hQ t1) | (exact absurd t1 hQ) | (exact absurd (by decide) hQ) | (conv => whnf)) | (refine allG rfl ?_; conv => whnf) | (refine And.intro (by first | omega | assumption | kernel_rfl | exact And.intro rfl rfl | ((try dsimp only [inR, idx, lowOf]); first | omega | (with_reducible decide) | (simp; omega) | (simp; done) | fail) | fail) ?_; conv => whnf) | fail)
                exact ⟨true, [], ⟨fun _ => hyes, fun _ => rfl⟩, rfl, trivial, trivial⟩
        · have hno : ¬ RightO (h, v, od, up, ns, es) := fun hr => absurd (hfirst hr).1 h2
          conv => whnf
          repeat' (first | (refine tell (fun hQ => ?_) (fun hQ => ?_) <;> (try dsimp only at hQ) <;> first | (exfalso; omega) | (exact absurd rfl hQ) | (exact absurd hQ t1) | (exact absurd t1 hQ) | (exact absurd (by decide) hQ) | (conv => whnf)) | (refine allG (x := _) (by first | exact hf0 | simpa [List.getElem?_append_right, lowOf] using hf0 | fail) ?_; conv => whnf) | (refine allLst (x := _) (by first | omega | assumption | fail) (by first | exact hf0 | simpa using hf0 | fail) ?_; conv => whnf) | (refine allG rfl ?_; conv => whnf) | (refine And.intro (by first | omega | assumption | kernel_rfl | exact And.intro rfl rfl | ((try dsimp only [inR, idx, lowOf]); first | omega | (with_reducible decide) | (simp; omega) | (simp; done) | fail) | fail) ?_; conv => whnf) | fail)
          exact ⟨false, [], ⟨fun h => (by cases h), fun h => absurd h hno⟩, rfl, trivial, trivial⟩
      · have hno : ¬ RightO (h, v, od, up, ns, es) := fun hr => hL hr.1.2.2
        conv => whnf
        repeat' (first | (refine tell (fun hQ => ?_) (fun hQ => ?_) <;> (try dsimp only at hQ) <;> first | (exfalso; omega) | (exact absurd rfl hQ) | (exact absurd hQ t1) | (exact absurd t1 hQ) | (exact absurd (by decide) hQ) | (conv => whnf)) | (refine allG rfl ?_; conv => whnf) | (refine And.intro (by first | omega | assumption | kernel_rfl | exact And.intro rfl rfl | ((try dsimp only [inR, idx, lowOf]); first | omega | (with_reducible decide) | (simp; omega) | (simp; done) | fail) | fail) ?_; conv => whnf) | fail)
        all_goals exact ⟨false, [], ⟨fun h => (by cases h), fun h => absurd h hno⟩, rfl, trivial, trivial⟩
end Go.Sx


/-
  Layer 8 at the door: the document's num, Same, Right.
-/
namespace Go.Sx
open Go Go.Proofs Go.Proofs.YtmogappoadglgaaDoor
def spNum08 : Spec AF where
  γ := Int
  δ := Unit
  args := fun n => [vI n]
  own := fun _ => []
  pre := OkN
  nnew := 0
  res := fun _ _ => vB true
  own' := fun _ _ => []
  post := fun _ _ => True
theorem m_num08 : Meets Tryd.prog regF 103 spNum08 := by
  refine meets Tryd.func103 9 noWr rfl (by kernel_rfl) (by kernel_rfl) ?_
  rintro (n : Int) ⟨(h0 : 0 ≤ n), (h1 : n ≤ 1000000000)⟩
  conv => whnf
  repeat' (first | (refine tell (fun hQ => ?_) (fun hQ => ?_) <;> (try dsimp only at hQ) <;> first | (exfalso; omega) | (exact absurd rfl hQ) | (exact absurd hQ hne) | (exact absurd hne hQ) | (exact absurd hQ t1) | (exact absurd t1 hQ) | (exact absurd (by decide) hQ) | (conv => whnf)) | (refine allG rfl ?_; conv => whnf) | (refine And.intro (by first | omega | assumption | kernel_rfl | exact And.intro rfl rfl | ((try dsimp only [inR, idx, lowOf]); first | omega | (with_reducible decide) | (simp; omega) | (simp; done) | fail) | fail) ?_; conv => whnf) | fail)
  exact ⟨(), [], trivial, rfl, trivial, trivial⟩
def spSame : Spec AF where
  γ := OrdT
  δ := Unit
  args := fun o => [ordS o, ordS o]
  own := fun _ => []
  pre := fun o => o.2.2.2.2.1.length ≤ 9223372036854775807 ∧ o.2.2.2.2.2.length ≤ 9223372036854775807
  nnew := 0
  res := fun _ _ => vB true
  own' := fun _ _ => []
  post := fun _ _ => True
theorem m_same : Meets Tryd.prog regF 31 spSame := by
  refine meets Tryd.func31 87 noWr rfl (by kernel_rfl) (by kernel_rfl) ?_
  rintro ⟨(h : Int), (v : List UInt8), (od : Int), (up : Int), (ns : List Stp), (es : List Stp)⟩ ⟨(hnl : ns.length ≤ 9223372036854775807), (hel : es.length ≤ 9223372036854775807)⟩
  conv => whnf
  repeat' (first | (refine tell (fun hQ => ?_) (fun hQ => ?_) <;> (try dsimp only at hQ) <;> first | (exfalso; omega) | (exact absurd rfl hQ) | (exact absurd hQ hne) | (exact absurd hne hQ) | (exact absurd hQ t1) | (exact absurd t1 hQ) | (exact absurd (by decide) hQ) | (conv => whnf)) | (refine allG rfl ?_; conv => whnf) | (refine And.intro (by first | omega | assumption | kernel_rfl | exact And.intro rfl rfl | ((try dsimp only [inR, idx, lowOf]); first | omega | (with_reducible decide) | (simp; omega) | (simp; done) | fail) | fail) ?_; conv => whnf) | fail)
  refine ⟨Nat, fun i => ⟨[(2, .ptr 1002 0 6 0), (3, .ptr 1003 0 6 0), (5, vI i)], [(1002, .cells (ordCs (h, v, od, up, ns, es))), (1003, .cells (ordCs (h, v, od, up, ns, es)))]⟩, fun i => i ≤ ns.length, fun i => ns.length - i, fun _ _ => rfl, ⟨0, [], Nat.zero_le _, ?_⟩, ?_⟩
  · refine ⟨rfl, ?_, ?_, rfl⟩
    all_goals (repeat' (first | exact trivial | exact rfl | refine And.intro ?_ ?_ | (refine congrArg vI ?_; first | omega | (dsimp only; omega) | fail) | (refine congrArg some ?_) | omega | exact Nat.le_refl _ | exact congrArg (SV.lst _) (List.take_of_length_le (Nat.le_refl _)).symm))
  rintro (i : Nat) (hi : i ≤ ns.length)
  by_cases hlt : i < ns.length
  · have hobt : ∃ y, ns[i]? = some y := ⟨_, List.getElem?_eq_getElem hlt⟩
    obtain ⟨⟨(e0 : Int), (e1 : Int), (e2 : Bool)⟩, he⟩ := hobt
    have hne : ¬ ((e0 == e0 && (e1 == e1 && (e2 == e2 && true))) = false) := by simp
    conv => whnf
    repeat' (first | (refine tell (fun hQ => ?_) (fun hQ => ?_) <;> (try dsimp only at hQ) <;> first | (exfalso; omega) | (exact absurd rfl hQ) | (exact absurd hQ hne) | (exact absurd hne hQ) | (exact absurd hQ t1) | (exact absurd t1 hQ) | (exact absurd (by decide) hQ) | (conv => whnf)) | (refine allG (x := _) (by first | exact he | simpa [List.getElem?_append_right, lowOf] using he | fail) ?_; conv => whnf) | (refine allLst (x := _) (by first | omega | assumption | fail) (by first | exact he | simpa using he | fail) ?_; conv => whnf) | (refine allG rfl ?_; conv => whnf) | (refine And.intro (by first | omega | assumption | kernel_rfl | exact And.intro rfl rfl | ((try dsimp only [inR, idx, lowOf]); first | omega | (with_reducible decide) | (simp; omega) | (simp; done) | fail) | fail) ?_; conv => whnf) | fail)
    refine ⟨i + 1, [], hlt, ?_, rfl, ?_, ?_, rfl⟩
    · dsimp only; first | omega | (simp; done) | (simp; omega)
    all_goals (repeat' (first | exact trivial | exact rfl | refine And.intro ?_ ?_ | (refine congrArg vI ?_; first | omega | (dsimp only; omega) | fail) | (refine congrArg some ?_) | omega | exact Nat.le_refl _ | exact congrArg (SV.lst _) (List.take_of_length_le (Nat.le_refl _)).symm))
  · conv => whnf
    repeat' (first | (refine tell (fun hQ => ?_) (fun hQ => ?_) <;> (try dsimp only at hQ) <;> first | (exfalso; omega) | (exact absurd rfl hQ) | (exact absurd hQ hne) | (exact absurd hne hQ) | (exact absurd hQ t1) | (exact absurd t1 hQ) | (exact absurd (by decide) hQ) | (conv => whnf)) | (refine allG rfl ?_; conv => whnf) | (refine And.intro (by first | omega | assumption | kernel_rfl | exact And.intro rfl rfl | ((try dsimp only [inR, idx, lowOf]); first | omega | (with_reducible decide) | (simp; omega) | (simp; done) | fail) | fail) ?_; conv => whnf) | fail)
    refine ⟨Nat, fun i => ⟨[(2, .ptr 1002 0 6 0), (3, .ptr 1003 0 6 0), (6, vI i)], [(1002, .cells (ordCs (h, v, od, up, ns, es))), (1003, .cells (ordCs (h, v, od, up, ns, es)))]⟩, fun i => i ≤ es.length, fun i => es.length - i, fun _ _ => rfl, ⟨0, [], Nat.zero_le _, ?_⟩, ?_⟩
    · refine ⟨rfl, ?_, ?_, rfl⟩
      all_goals (repeat' (first | exact trivial | exact rfl | refine And.intro ?_ ?_ | (refine congrArg vI ?_; first | omega | (dsimp only; omega) | fail) | (refine congrArg some ?_) | omega | exact Nat.le_refl _ | exact congrArg (SV.lst _) (List.take_of_length_le (Nat.le_refl _)).symm))
    rintro (i : Nat) (hi : i ≤ es.length)
    by_cases hlt : i < es.length
    · have hobt : ∃ y, es[i]? = some y := ⟨_, List.getElem?_eq_getElem hlt⟩
      obtain ⟨⟨(e0 : Int), (e1 : Int), (e2 : Bool)⟩, he⟩ := hobt
      have hne : ¬ ((e0 == e0 && (e1 == e1 && (e2 == e2 && true))) = false) := by simp
      conv => whnf
      repeat' (first | (refine tell (fun hQ => ?_) (fun hQ => ?_) <;> (try dsimp only at hQ) <;> first | (exfalso; omega) | (exact absurd rfl hQ) | (exact absurd hQ hne) | (exact absurd hne hQ) | (exact absurd hQ t1) | (exact absurd t1 hQ) | (exact absurd (by decide) hQ) | (conv => whnf)) | (refine allG (x := _) (by first | exact he | simpa [List.getElem?_append_right, lowOf] using he | fail) ?_; conv => whnf) | (refine allLst (x := _) (by first | omega | assumption | fail) (by first | exact he | simpa using he | fail) ?_; conv => whnf) | (refine allG rfl ?_; conv => whnf) | (refine And.intro (by first | omega | assumption | kernel_rfl | exact And.intro rfl rfl | ((try dsimp only [inR, idx, lowOf]); first | omega | (with_reducible decide) | (simp; omega) | (simp; done) | fail) | fail) ?_; conv => whnf) | fail)
      refine ⟨i + 1, [], hlt, ?_, rfl, ?_, ?_, rfl⟩
      · dsimp only; first | omega | (simp; done) | (simp; omega)
      all_goals (repeat' (first | exact trivial | exact rfl | refine And.intro ?_ ?_ | (refine congrArg vI ?_; first | omega | (dsimp only; omega) | fail) | (refine congrArg some ?_) | omega | exact Nat.le_refl _ | exact congrArg (SV.lst _) (List.take_of_length_le (Nat.le_refl _)).symm))
    · conv => whnf
      repeat' (first | (refine tell (fun hQ => ?_) (fun hQ => ?_) <;> (try dsimp only at hQ) <;> first | (exfalso; omega) | (exact absurd rfl hQ) | (exact absurd hQ hne) | (exact absurd hne hQ) | (exact absurd hQ t1) | (exact absurd t1 hQ) | (exact absurd (by decide) hQ) | (conv => whnf)) | (refine allG rfl ?_; conv => whnf) | (refine And.intro (by first | omega | assumption | kernel_rfl | exact And.intro rfl rfl | ((try dsimp only [inR, idx, lowOf]); first | omega | (with_reducible decide) | (simp; omega) | (simp; done) | fail) | fail) ?_; conv => whnf) | fail)
      exact ⟨(), [], trivial, rfl, trivial, trivial⟩
/-- A node of an order that is right. -/
theorem right_node {o : OrdT} (h : RightO o) {f : Stp} (hf : o.2.2.2.2.1[0]? = some f) : ∀ (i : Nat) x, o.2.2.2.2.1[i]? = some x → OkN x.1 ∧ OkN x.2.1 ∧ x.2.1 = f.2.1 + 2 * i
  | 0, x, hx => by
    have hobt := h.2.1
    obtain ⟨g, h1, h2⟩ := hobt
    rw [hx] at h1; cases h1
    rw [hx] at hf; cases hf
    exact ⟨h2.2.2.1, h2.2.2.2, by simp⟩
  | i + 1, x, hx => by
    have hlen := (List.getElem?_eq_some_iff.1 hx).1
    have hes : i < o.2.2.2.2.2.length := by have := h.1.2.2.2.2; omega
    have hobt : ∃ y, o.2.2.2.2.2[i]? = some y := ⟨_, List.getElem?_eq_getElem hes⟩
    obtain ⟨e, he⟩ := hobt
    have hobt : ∃ y, o.2.2.2.2.1[i]? = some y := ⟨_, List.getElem?_eq_getElem (by omega)⟩
    obtain ⟨y, hy⟩ := hobt
    have ih := right_node h hf i y hy
    have hs := h.2.2 i y e x he hy hx
    refine ⟨hs.1.2.2.1, hs.1.2.2.2, ?_⟩
    rw [hs.2.2.1, hs.2.1, ih.2.2]
    omega
def spRight08 : Spec AF where
  γ := OrdT
  δ := Unit
  args := fun o => [ordS o]
  own := fun _ => []
  pre := RightO
  nnew := 0
  res := fun _ _ => vB true
  own' := fun _ _ => []
  post := fun _ _ => True
set_option maxHeartbeats 3200000 in
theorem m_right08 : Meets Tryd.prog regF 81 spRight08 := by
  refine meets Tryd.func81 164 noWr rfl (by kernel_rfl) (by kernel_rfl) ?_
  rintro ⟨(h : Int), (v : List UInt8), (od : Int), (up : Int), (ns : List Stp), (es : List Stp)⟩ (hr : RightO (h, v, od, up, ns, es))
  have hv : nameF v = true := hr.1.1
  have hoh : OkN h := hr.1.2.1.1
  have hood : OkN od := hr.1.2.1.2.1
  have houp : OkN up := hr.1.2.1.2.2
  have hL1 : 1 ≤ ns.length := hr.1.2.2.1
  have hL2 : ns.length ≤ 64 := hr.1.2.2.2.1
  have hL3 : es.length + 1 = ns.length := hr.1.2.2.2.2
  have hvl : v.length ≤ 9223372036854775807 := by
    unfold nameF at hv
    simp at hv
    omega
  have hobt : ∃ f, ns[0]? = some f ∧ FirstOk f := hr.2.1
  obtain ⟨⟨(n0 : Int), (s0 : Int), (r0 : Bool)⟩, hf0, hfo⟩ := hobt
  have h2 : s0.tmod 2 = 0 := hfo.1
  have hobt : r0 = true := hfo.2.1
  obtain rfl := hobt
  have hs0a : 0 ≤ s0 := hfo.2.2.2.1
  have hs0b : s0 ≤ 1000000000 := hfo.2.2.2.2
  have hnode : ∀ (i : Nat) x, ns[i]? = some x → OkN x.1 ∧ OkN x.2.1 ∧ x.2.1 = s0 + 2 * i := fun i x hx => right_node hr hf0 i x hx
  conv => whnf
  repeat' (first | (refine tell (fun hQ => ?_) (fun hQ => ?_) <;> (try dsimp only at hQ) <;> first | (exfalso; omega) | (exact absurd rfl hQ) | (exact absurd hQ hne) | (exact absurd hne hQ) | (exact absurd hQ t1) | (exact absurd t1 hQ) | (exact absurd (by decide) hQ) | (conv => whnf)) | (refine allG rfl ?_; conv => whnf) | (refine And.intro (by first | omega | assumption | kernel_rfl | exact And.intro rfl rfl | ((try dsimp only [inR, idx, lowOf]); first | omega | (with_reducible decide) | (simp; omega) | (simp; done) | fail) | fail) ?_; conv => whnf) | fail)
  refine ⟨_, m_name07, v, [], false, ?_⟩
  conv => whnf
  refine And.intro (vc0 hvl (by (repeat' (first | exact trivial | exact rfl | refine And.intro ?_ ?_ | (refine congrArg vI ?_; first | omega | (dsimp only; omega) | fail) | (refine congrArg some ?_) | omega | exact Nat.le_refl _ | exact congrArg (SV.lst _) (List.take_of_length_le (Nat.le_refl _)).symm))) (by repeat' (first | exact trivial | exact rfl | refine And.intro ?_ ?_ | (refine congrArg vI ?_; first | omega | (dsimp only; omega) | fail) | (refine congrArg some ?_) | omega | exact Nat.le_refl _ | exact congrArg (SV.lst _) (List.take_of_length_le (Nat.le_refl _)).symm)) trivial trivial) ?_
  refine And.intro ⟨(), trivial⟩ (fun (_ : Unit) _ => ?_)
  conv => whnf
  rw [hv]
  conv => whnf
  repeat' (first | (refine tell (fun hQ => ?_) (fun hQ => ?_) <;> (try dsimp only at hQ) <;> first | (exfalso; omega) | (exact absurd rfl hQ) | (exact absurd hQ hne) | (exact absurd hne hQ) | (exact absurd hQ t1) | (exact absurd t1 hQ) | (exact absurd (by decide) hQ) | (conv => whnf)) | (refine allG rfl ?_; conv => whnf) | (refine And.intro (by first | omega | assumption | kernel_rfl | exact And.intro rfl rfl | ((try dsimp only [inR, idx, lowOf]); first | omega | (with_reducible decide) | (simp; omega) | (simp; done) | fail) | fail) ?_; conv => whnf) | fail)
  refine ⟨_, m_num08, h, [], false, ?_⟩
  conv => whnf
  refine And.intro (vc0 hoh (by (repeat' (first | exact trivial | exact rfl | refine And.intro ?_ ?_ | (refine congrArg vI ?_; first | omega | (dsimp only; omega) | fail) | (refine congrArg some ?_) | omega | exact Nat.le_refl _ | exact congrArg (SV.lst _) (List.take_of_length_le (Nat.le_refl _)).symm))) (by repeat' (first | exact trivial | exact rfl | refine And.intro ?_ ?_ | (refine congrArg vI ?_; first | omega | (dsimp only; omega) | fail) | (refine congrArg some ?_) | omega | exact Nat.le_refl _ | exact congrArg (SV.lst _) (List.take_of_length_le (Nat.le_refl _)).symm)) trivial trivial) ?_
  refine And.intro ⟨(), trivial⟩ (fun (_ : Unit) _ => ?_)
  conv => whnf
  conv => whnf
  repeat' (first | (refine tell (fun hQ => ?_) (fun hQ => ?_) <;> (try dsimp only at hQ) <;> first | (exfalso; omega) | (exact absurd rfl hQ) | (exact absurd hQ hne) | (exact absurd hne hQ) | (exact absurd hQ t1) | (exact absurd t1 hQ) | (exact absurd (by decide) hQ) | (conv => whnf)) | (refine allG rfl ?_; conv => whnf) | (refine And.intro (by first | omega | assumption | kernel_rfl | exact And.intro rfl rfl | ((try dsimp only [inR, idx, lowOf]); first | omega | (with_reducible decide) | (simp; omega) | (simp; done) | fail) | fail) ?_; conv => whnf) | fail)
  refine ⟨_, m_num08, od, [], false, ?_⟩
  conv => whnf
  refine And.intro (vc0 hood (by (repeat' (first | exact trivial | exact rfl | refine And.intro ?_ ?_ | (refine congrArg vI ?_; first | omega | (dsimp only; omega) | fail) | (refine congrArg some ?_) | omega | exact Nat.le_refl _ | exact congrArg (SV.lst _) (List.take_of_length_le (Nat.le_refl _)).symm))) (by repeat' (first | exact trivial | exact rfl | refine And.intro ?_ ?_ | (refine congrArg vI ?_; first | omega | (dsimp only; omega) | fail) | (refine congrArg some ?_) | omega | exact Nat.le_refl _ | exact congrArg (SV.lst _) (List.take_of_length_le (Nat.le_refl _)).symm)) trivial trivial) ?_
  refine And.intro ⟨(), trivial⟩ (fun (_ : Unit) _ => ?_)
  conv => whnf
  conv => whnf
  repeat' (first | (refine tell (fun hQ => ?_) (fun hQ => ?_) <;> (try dsimp only at hQ) <;> first | (exfalso; omega) | (exact absurd rfl hQ) | (exact absurd hQ hne) | (exact absurd hne hQ) | (exact absurd hQ t1) | (exact absurd t1 hQ) | (exact absurd (by decide) hQ) | (conv => whnf)) | (refine allG rfl ?_; conv => whnf) | (refine And.intro (by first | omega | assumption | kernel_rfl | exact And.intro rfl rfl | ((try dsimp only [inR, idx, lowOf]); first | omega | (with_reducible decide) | (simp; omega) | (simp; done) | fail) | fail) ?_; conv => whnf) | fail)
  refine ⟨_, m_num08, up, [], false, ?_⟩
  conv => whnf
  refine And.intro (vc0 houp (by (repeat' (first | exact trivial | exact rfl | refine And.intro ?_ ?_ | (refine congrArg vI ?_; first | omega | (dsimp only; omega) | fail) | (refine congrArg some ?_) | omega | exact Nat.le_refl _ | exact congrArg (SV.lst _) (List.take_of_length_le (Nat.le_refl _)).symm))) (by repeat' (first | exact trivial | exact rfl | refine And.intro ?_ ?_ | (refine congrArg vI ?_; first | omega | (dsimp only; omega) | fail) | (refine congrArg some ?_) | omega | exact Nat.le_refl _ | exact congrArg (SV.lst _) (List.take_of_length_le (Nat.le_refl _)).symm)) trivial trivial) ?_
  refine And.intro ⟨(), trivial⟩ (fun (_ : Unit) _ => ?_)
  conv => whnf
  conv => whnf
  repeat' (first | (refine tell (fun hQ => ?_) (fun hQ => ?_) <;> (try dsimp only at hQ) <;> first | (exfalso; omega) | (exact absurd rfl hQ) | (exact absurd hQ hne) | (exact absurd hne hQ) | (exact absurd hQ t1) | (exact absurd t1 hQ) | (exact absurd (by decide) hQ) | (conv => whnf)) | (refine allG (x := _) (by first | exact hf0 | simpa [List.getElem?_append_right, lowOf] using hf0 | fail) ?_; conv => whnf) | (refine allLst (x := _) (by first | omega | assumption | fail) (by first | exact hf0 | simpa using hf0 | fail) ?_; conv => whnf) | (refine allG rfl ?_; conv => whnf) | (refine And.intro (by first | omega | assumption | kernel_rfl | exact And.intro rfl rfl | ((try dsimp only [inR, idx, lowOf]); first | omega | (with_reducible decide) | (simp; omega) | (simp; done) | fail) | fail) ?_; conv => whnf) | fail)
  refine ⟨Nat, fun i => ⟨[(1, .ptr 1001 0 6 0), (4, vI ns.length), (5, vI i)], [(1001, .cells (ordCs (h, v, od, up, ns, es)))]⟩, fun i => i ≤ ns.length, fun i => ns.length - i, fun _ _ => rfl, ⟨0, [], Nat.zero_le _, ?_⟩, ?_⟩
  · refine ⟨rfl, ?_, ?_, rfl⟩
    all_goals (repeat' (first | exact trivial | exact rfl | refine And.intro ?_ ?_ | (refine congrArg vI ?_; first | omega | (dsimp only; omega) | fail) | (refine congrArg some ?_) | omega | exact Nat.le_refl _ | exact congrArg (SV.lst _) (List.take_of_length_le (Nat.le_refl _)).symm))
  rintro (i : Nat) (hi : i ≤ ns.length)
  by_cases hlt : i < ns.length
  · have hobt : ∃ y, ns[i]? = some y := ⟨_, List.getElem?_eq_getElem hlt⟩
    obtain ⟨⟨(x0 : Int), (x1 : Int), (x2 : Bool)⟩, hx⟩ := hobt
    have hxx := hnode i _ hx
    have hx0 : OkN x0 := hxx.1
    have hx1 : OkN x1 := hxx.2.1
    have hx2 : x1 = s0 + 2 * i := hxx.2.2
    conv => whnf
    repeat' (first | (refine tell (fun hQ => ?_) (fun hQ => ?_) <;> (try dsimp only at hQ) <;> first | (exfalso; omega) | (exact absurd rfl hQ) | (exact absurd hQ hne) | (exact absurd hne hQ) | (exact absurd hQ t1) | (exact absurd t1 hQ) | (exact absurd (by decide) hQ) | (conv => whnf)) | (refine allG (x := _) (by first | exact hx | simpa [List.getElem?_append_right, lowOf] using hx | fail) ?_; conv => whnf) | (refine allLst (x := _) (by first | omega | assumption | fail) (by first | exact hx | simpa using hx | fail) ?_; conv => whnf) | (refine allG rfl ?_; conv => whnf) | (refine And.intro (by first | omega | assumption | kernel_rfl | exact And.intro rfl rfl | ((try dsimp only [inR, idx, lowOf]); first | omega | (with_reducible decide) | (simp; omega) | (simp; done) | fail) | fail) ?_; conv => whnf) | fail)
    refine ⟨_, m_num08, x0, [], false, ?_⟩
    conv => whnf
    refine And.intro (vc0 hx0 (by (repeat' (first | exact trivial | exact rfl | refine And.intro ?_ ?_ | (refine congrArg vI ?_; first | omega | (dsimp only; omega) | fail) | (refine congrArg some ?_) | omega | exact Nat.le_refl _ | exact congrArg (SV.lst _) (List.take_of_length_le (Nat.le_refl _)).symm))) (by repeat' (first | exact trivial | exact rfl | refine And.intro ?_ ?_ | (refine congrArg vI ?_; first | omega | (dsimp only; omega) | fail) | (refine congrArg some ?_) | omega | exact Nat.le_refl _ | exact congrArg (SV.lst _) (List.take_of_length_le (Nat.le_refl _)).symm)) trivial trivial) ?_
    refine And.intro ⟨(), trivial⟩ (fun (_ : Unit) _ => ?_)
    conv => whnf
    conv => whnf
    repeat' (first | (refine tell (fun hQ => ?_) (fun hQ => ?_) <;> (try dsimp only at hQ) <;> first | (exfalso; omega) | (exact absurd rfl hQ) | (exact absurd hQ hne) | (exact absurd hne hQ) | (exact absurd hQ t1) | (exact absurd t1 hQ) | (exact absurd (by decide) hQ) | (conv => whnf)) | (refine allG rfl ?_; conv => whnf) | (refine And.intro (by first | omega | assumption | kernel_rfl | exact And.intro rfl rfl | ((try dsimp only [inR, idx, lowOf]); first | omega | (with_reducible decide) | (simp; omega) | (simp; done) | fail) | fail) ?_; conv => whnf) | fail)
    refine ⟨_, m_num08, x1, [], false, ?_⟩
    conv => whnf
    refine And.intro (vc0 hx1 (by (repeat' (first | exact trivial | exact rfl | refine And.intro ?_ ?_ | (refine congrArg vI ?_; first | omega | (dsimp only; omega) | fail) | (refine congrArg some ?_) | omega | exact Nat.le_refl _ | exact congrArg (SV.lst _) (List.take_of_length_le (Nat.le_refl _)).symm))) (by repeat' (first | exact trivial | exact rfl | refine And.intro ?_ ?_ | (refine congrArg vI ?_; first | omega | (dsimp only; omega) | fail) | (refine congrArg some ?_) | omega | exact Nat.le_refl _ | exact congrArg (SV.lst _) (List.take_of_length_le (Nat.le_refl _)).symm)) trivial trivial) ?_
    refine And.intro ⟨(), trivial⟩ (fun (_ : Unit) _ => ?_)
    conv => whnf
    by_cases hi0 : i = 0
    · subst hi0
      rw [hf0] at hx; cases hx
      conv => whnf
      repeat' (first | (refine tell (fun hQ => ?_) (fun hQ => ?_) <;> (try dsimp only at hQ) <;> first | (exfalso; omega) | (exact absurd rfl hQ) | (exact absurd hQ hne) | (exact absurd hne hQ) | (exact absurd hQ t1) | (exact absurd t1 hQ) | (exact absurd (by decide) hQ) | (conv => whnf)) | (refine allG (x := _) (by first | exact hf0 | simpa [List.getElem?_append_right, lowOf] using hf0 | fail) ?_; conv => whnf) | (refine allLst (x := _) (by first | omega | assumption | fail) (by first | exact hf0 | simpa using hf0 | fail) ?_; conv => whnf) | (refine allG rfl ?_; conv => whnf) | (refine And.intro (by first | omega | assumption | kernel_rfl | exact And.intro rfl rfl | ((try dsimp only [inR, idx, lowOf]); first | omega | (with_reducible decide) | (simp; omega) | (simp; done) | fail) | fail) ?_; conv => whnf) | fail)
      refine ⟨0 + 1, [], hlt, ?_, rfl, ?_, ?_, rfl⟩
      · dsimp only; first | omega | (simp; done) | (simp; omega)
      all_goals (repeat' (first | exact trivial | exact rfl | refine And.intro ?_ ?_ | (refine congrArg vI ?_; first | omega | (dsimp only; omega) | fail) | (refine congrArg some ?_) | omega | exact Nat.le_refl _ | exact congrArg (SV.lst _) (List.take_of_length_le (Nat.le_refl _)).symm))
    · have hobt : ∃ y, ns[i - 1]? = some y := ⟨_, List.getElem?_eq_getElem (by omega)⟩
      obtain ⟨⟨(p0 : Int), (p1 : Int), (p2 : Bool)⟩, hp⟩ := hobt
      have hp' : ns[((i : Int) - 1).toNat]? = some (p0, p1, p2) := by rw [show ((i : Int) - 1).toNat = i - 1 by omega]; exact hp
      have hobt : ∃ y, es[i - 1]? = some y := ⟨_, List.getElem?_eq_getElem (by omega)⟩
      obtain ⟨⟨(e0 : Int), (e1 : Int), (e2 : Bool)⟩, he⟩ := hobt
      have hst : StepOk (p0, p1, p2) (e0, e1, e2) (x0, x1, x2) := hr.2.2 (i - 1) _ _ _ he hp (by rw [show i - 1 + 1 = i by omega]; exact hx)
      have himp : x2 = true → p2 = true := hst.2.2.2.2
      cases x2
      · conv => whnf
        repeat' (first | (refine tell (fun hQ => ?_) (fun hQ => ?_) <;> (try dsimp only at hQ) <;> first | (exfalso; omega) | (exact absurd rfl hQ) | (exact absurd hQ hne) | (exact absurd hne hQ) | (exact absurd hQ t1) | (exact absurd t1 hQ) | (exact absurd (by decide) hQ) | (conv => whnf)) | (refine allG (x := _) (by first | exact hf0 | simpa [List.getElem?_append_right, lowOf] using hf0 | fail) ?_; conv => whnf) | (refine allLst (x := _) (by first | omega | assumption | fail) (by first | exact hf0 | simpa using hf0 | fail) ?_; conv => whnf) | (refine allG rfl ?_; conv => whnf) | (refine And.intro (by first | omega | assumption | kernel_rfl | exact And.intro rfl rfl | ((try dsimp only [inR, idx, lowOf]); first | omega | (with_reducible decide) | (simp; omega) | (simp; done) | fail) | fail) ?_; conv => whnf) | fail)
        refine ⟨i + 1, [], hlt, ?_, rfl, ?_, ?_, rfl⟩
        · dsimp only; first | omega | (simp; done) | (simp; omega)
        all_goals (repeat' (first | exact trivial | exact rfl | refine And.intro ?_ ?_ | (refine congrArg vI ?_; first | omega | (dsimp only; omega) | fail) | (refine congrArg some ?_) | omega | exact Nat.le_refl _ | exact congrArg (SV.lst _) (List.take_of_length_le (Nat.le_refl _)).symm))
      · have hobt := himp rfl
        obtain rfl := hobt
        conv => whnf
        repeat' (first | (refine tell (fun hQ => ?_) (fun hQ => ?_) <;> (try dsimp only at hQ) <;> first | (exfalso; omega) | (exact absurd rfl hQ) | (exact absurd hQ hne) | (exact absurd hne hQ) | (exact absurd hQ t1) | (exact absurd t1 hQ) | (exact absurd (by decide) hQ) | (conv => whnf)) | (refine allG (x := _) (by first | exact hf0 | simpa [List.getElem?_append_right, lowOf] using hf0 | fail) ?_; conv => whnf) | (refine allLst (x := _) (by first | omega | assumption | fail) (by first | exact hf0 | simpa using hf0 | fail) ?_; conv => whnf) | (refine allG (x := _) (by first | exact hp' | simpa [List.getElem?_append_right, lowOf] using hp' | fail) ?_; conv => whnf) | (refine allLst (x := _) (by first | omega | assumption | fail) (by first | exact hp' | simpa using hp' | fail) ?_; conv => whnf) | (refine allG rfl ?_; conv => whnf) | (refine And.intro (by first | omega | assumption | kernel_rfl | exact And.intro rfl rfl | ((try dsimp only [inR, idx, lowOf]); first | omega | (with_reducible decide) | (simp; omega) | (simp; done) | fail) | fail) ?_; conv => whnf) | fail)
        refine ⟨i + 1, [], hlt, ?_, rfl, ?_, ?_, rfl⟩
        · dsimp only; first | omega | (simp; done) | (simp; omega)
        all_goals (repeat' (first | exact trivial | exact rfl | refine And.intro ?_ ?_ | (refine congrArg vI ?_; first | omega | (dsimp only; omega) | fail) | (refine congrArg some ?_) | omega | exact Nat.le_refl _ | exact congrArg (SV.lst _) (List.take_of_length_le (Nat.le_refl _)).symm))
  · conv => whnf
    repeat' (first | (refine tell (fun hQ => ?_) (fun hQ => ?_) <;> (try dsimp only at hQ) <;> first | (exfalso; omega) | (exact absurd rfl hQ) | (exact absurd hQ hne) | (exact absurd hne hQ) | (exact absurd hQ t1) | (exact absurd t1 hQ) | (exact absurd (by decide) hQ) | (conv => whnf)) | (refine allG rfl ?_; conv => whnf) | (refine And.intro (by first | omega | assumption | kernel_rfl | exact And.intro rfl rfl | ((try dsimp only [inR, idx, lowOf]); first | omega | (with_reducible decide) | (simp; omega) | (simp; done) | fail) | fail) ?_; conv => whnf) | fail)
    refine ⟨Nat, fun i => ⟨[(1, .ptr 1001 0 6 0), (4, vI ns.length), (7, vI i)], [(1001, .cells (ordCs (h, v, od, up, ns, es)))]⟩, fun i => i ≤ es.length, fun i => es.length - i, fun _ _ => rfl, ⟨0, [], Nat.zero_le _, ?_⟩, ?_⟩
    · refine ⟨rfl, ?_, ?_, rfl⟩
      all_goals (repeat' (first | exact trivial | exact rfl | refine And.intro ?_ ?_ | (refine congrArg vI ?_; first | omega | (dsimp only; omega) | fail) | (refine congrArg some ?_) | omega | exact Nat.le_refl _ | exact congrArg (SV.lst _) (List.take_of_length_le (Nat.le_refl _)).symm))
    rintro (i : Nat) (hi : i ≤ es.length)
    by_cases hlt : i < es.length
    · have hobt : ∃ y, es[i]? = some y := ⟨_, List.getElem?_eq_getElem hlt⟩
      obtain ⟨⟨(e0 : Int), (e1 : Int), (e2 : Bool)⟩, he⟩ := hobt
      have hobt : ∃ y, ns[i]? = some y := ⟨_, List.getElem?_eq_getElem (by omega)⟩
      obtain ⟨⟨(f0 : Int), (f1 : Int), (f2 : Bool)⟩, hf⟩ := hobt
      have hobt : ∃ y, ns[i + 1]? = some y := ⟨_, List.getElem?_eq_getElem (by omega)⟩
      obtain ⟨⟨(t0 : Int), (t1 : Int), (t2 : Bool)⟩, ht⟩ := hobt
      have ht' : ns[((i : Int) + 1).toNat]? = some (t0, t1, t2) := by rw [show ((i : Int) + 1).toNat = i + 1 by omega]; exact ht
      have hst : StepOk (f0, f1, f2) (e0, e1, e2) (t0, t1, t2) := hr.2.2 i _ _ _ he hf ht
      have he0 : OkN e0 := hst.1.1
      have he1 : OkN e1 := hst.1.2.1
      have he1a := he1.1
      have he1b := he1.2
      have hef : e1 = f1 + 1 := hst.2.1
      have hobt : e2 = t2 := hst.2.2.2.1
      obtain rfl := hobt
      conv => whnf
      repeat' (first | (refine tell (fun hQ => ?_) (fun hQ => ?_) <;> (try dsimp only at hQ) <;> first | (exfalso; omega) | (exact absurd rfl hQ) | (exact absurd hQ hne) | (exact absurd hne hQ) | (exact absurd hQ t1) | (exact absurd t1 hQ) | (exact absurd (by decide) hQ) | (conv => whnf)) | (refine allG (x := _) (by first | exact he | simpa [List.getElem?_append_right, lowOf] using he | fail) ?_; conv => whnf) | (refine allLst (x := _) (by first | omega | assumption | fail) (by first | exact he | simpa using he | fail) ?_; conv => whnf) | (refine allG rfl ?_; conv => whnf) | (refine And.intro (by first | omega | assumption | kernel_rfl | exact And.intro rfl rfl | ((try dsimp only [inR, idx, lowOf]); first | omega | (with_reducible decide) | (simp; omega) | (simp; done) | fail) | fail) ?_; conv => whnf) | fail)
      refine ⟨_, m_num08, e0, [], false, ?_⟩
      conv => whnf
      refine And.intro (vc0 he0 (by (repeat' (first | exact trivial | exact rfl | refine And.intro ?_ ?_ | (refine congrArg vI ?_; first | omega | (dsimp only; omega) | fail) | (refine congrArg some ?_) | omega | exact Nat.le_refl _ | exact congrArg (SV.lst _) (List.take_of_length_le (Nat.le_refl _)).symm))) (by repeat' (first | exact trivial | exact rfl | refine And.intro ?_ ?_ | (refine congrArg vI ?_; first | omega | (dsimp only; omega) | fail) | (refine congrArg some ?_) | omega | exact Nat.le_refl _ | exact congrArg (SV.lst _) (List.take_of_length_le (Nat.le_refl _)).symm)) trivial trivial) ?_
      refine And.intro ⟨(), trivial⟩ (fun (_ : Unit) _ => ?_)
      conv => whnf
      conv => whnf
      repeat' (first | (refine tell (fun hQ => ?_) (fun hQ => ?_) <;> (try dsimp only at hQ) <;> first | (exfalso; omega) | (exact absurd rfl hQ) | (exact absurd hQ hne) | (exact absurd hne hQ) | (exact absurd hQ t1) | (exact absurd t1 hQ) | (exact absurd (by decide) hQ) | (conv => whnf)) | (refine allG rfl ?_; conv => whnf) | (refine And.intro (by first | omega | assumption | kernel_rfl | exact And.intro rfl rfl | ((try dsimp only [inR, idx, lowOf]); first | omega | (with_reducible decide) | (simp; omega) | (simp; done) | fail) | fail) ?_; conv => whnf) | fail)
      refine ⟨_, m_num08, e1, [], false, ?_⟩
      conv => whnf
      refine And.intro (vc0 he1 (by (repeat' (first | exact trivial | exact rfl | refine And.intro ?_ ?_ | (refine congrArg vI ?_; first | omega | (dsimp only; omega) | fail) | (refine congrArg some ?_) | omega | exact Nat.le_refl _ | exact congrArg (SV.lst _) (List.take_of_length_le (Nat.le_refl _)).symm))) (by repeat' (first | exact trivial | exact rfl | refine And.intro ?_ ?_ | (refine congrArg vI ?_; first | omega | (dsimp only; omega) | fail) | (refine congrArg some ?_) | omega | exact Nat.le_refl _ | exact congrArg (SV.lst _) (List.take_of_length_le (Nat.le_refl _)).symm)) trivial trivial) ?_
      refine And.intro ⟨(), trivial⟩ (fun (_ : Unit) _ => ?_)
      conv => whnf
      conv => whnf
      repeat' (first | (refine tell (fun hQ => ?_) (fun hQ => ?_) <;> (try dsimp only at hQ) <;> first | (exfalso; omega) | (exact absurd rfl hQ) | (exact absurd hQ hne) | (exact absurd hne hQ) | (exact absurd hQ t1) | (exact absurd t1 hQ) | (exact absurd (by decide) hQ) | (conv => whnf)) | (refine allG (x := _) (by first | exact hf | simpa [List.getElem?_append_right, lowOf] using hf | fail) ?_; conv => whnf) | (refine allLst (x := _) (by first | omega | assumption | fail) (by first | exact hf | simpa using hf | fail) ?_; conv => whnf) | (refine allG (x := _) (by first | exact ht' | simpa [List.getElem?_append_right, lowOf] using ht' | fail) ?_; conv => whnf) | (refine allLst (x := _) (by first | omega | assumption | fail) (by first | exact ht' | simpa using ht' | fail) ?_; conv => whnf) | (refine allG rfl ?_; conv => whnf) | (refine And.intro (by first | omega | assumption | kernel_rfl | exact And.intro rfl rfl | ((try dsimp only [inR, idx, lowOf]); first | omega | (with_reducible decide) | (simp; omega) | (simp; done) | fail) | fail) ?_; conv => whnf) | fail)
      refine ⟨i + 1, [], hlt, ?_, rfl, ?_, ?_, rfl⟩
      · dsimp only; first | omega | (simp; done) | (simp; omega)
      all_goals (repeat' (first | exact trivial | exact rfl | refine And.intro ?_ ?_ | (refine congrArg vI ?_; first | omega | (dsimp only; omega) | fail) | (refine congrArg some ?_) | omega | exact Nat.le_refl _ | exact congrArg (SV.lst _) (List.take_of_length_le (Nat.le_refl _)).symm))
    · conv => whnf
      repeat' (first | (refine tell (fun hQ => ?_) (fun hQ => ?_) <;> (try dsimp only at hQ) <;> first | (exfalso; omega) | (exact absurd rfl hQ) | (exact absurd hQ hne) | (exact absurd hne hQ) | (exact absurd hQ t1) | (exact absurd t1 hQ) | (exact absurd (by decide) hQ) | (conv => whnf)) | (refine allG rfl ?_; conv => whnf) | (refine And.intro (by first | omega | assumption | kernel_rfl | exact And.intro rfl rfl | ((try dsimp only [inR, idx, lowOf]); first | omega | (with_reducible decide) | (simp; omega) | (simp; done) | fail) | fail) ?_; conv => whnf) | fail)
      exact ⟨(), [], trivial, rfl, trivial, trivial⟩
end Go.Sx


/-
  Layer 13 at the door: paths, orders over paths (as lists); pick, isPath, Stops.
-/
namespace Go.Sx
open Go Go.Proofs Go.Proofs.YtmogappoadglgaaDoor
def PathOk (p : List Int) : Prop := p.length % 2 = 1 ∧ ∀ (i : Nat) x, p[i]? = some x → 0 ≤ x ∧ (1000 ≤ x ↔ i % 2 = 1)
def evN (p : List Int) (m : Nat) : List Int := (List.range m).map fun j => p.getD (2 * j) 0
def nodesN (p : List Int) (s k : Int) (m : Nat) : List Stp := (List.range m).map fun j => (p.getD (2 * j) 0, s + 2 * (j : Int), decide ((j : Int) < k))
def edgesN (p : List Int) (s k : Int) (m : Nat) : List Stp := (List.range m).map fun j => (p.getD (2 * j + 1) 0 - 1000, s + (2 * (j : Int) + 1), decide ((j : Int) + 1 < k))
def ordOf (o : OrdT) (p : List Int) (s k : Int) : OrdT := (o.1, o.2.1, o.2.2.1, o.2.2.2.1, nodesN p s k ((p.length + 1) / 2), edgesN p s k (p.length / 2))
theorem evN_len (p : List Int) (m : Nat) : (evN p m).length = m := by simp [evN]
theorem nodesN_len (p : List Int) (s k : Int) (m : Nat) : (nodesN p s k m).length = m := by simp [nodesN]
theorem edgesN_len (p : List Int) (s k : Int) (m : Nat) : (edgesN p s k m).length = m := by simp [edgesN]
theorem evN_succ (p : List Int) (m : Nat) : evN p (m + 1) = evN p m ++ [p.getD (2 * m) 0] := by simp [evN, List.range_succ]
theorem nodesN_succ (p : List Int) (s k : Int) (m : Nat) : nodesN p s k (m + 1) = nodesN p s k m ++ [(p.getD (2 * m) 0, s + 2 * (m : Int), decide ((m : Int) < k))] := by simp [nodesN, List.range_succ]
theorem edgesN_succ (p : List Int) (s k : Int) (m : Nat) : edgesN p s k (m + 1) = edgesN p s k m ++ [(p.getD (2 * m + 1) 0 - 1000, s + (2 * (m : Int) + 1), decide ((m : Int) + 1 < k))] := by simp [edgesN, List.range_succ]
theorem nodesN_get {p : List Int} {s k : Int} {m j : Nat} {x : Stp} (h : (nodesN p s k m)[j]? = some x) : j < m ∧ x = (p.getD (2 * j) 0, s + 2 * (j : Int), decide ((j : Int) < k)) := by
  have hj := (List.getElem?_eq_some_iff.1 h).1
  rw [nodesN_len] at hj
  simp [nodesN, hj] at h
  exact ⟨hj, h.symm⟩
theorem edgesN_get {p : List Int} {s k : Int} {m j : Nat} {x : Stp} (h : (edgesN p s k m)[j]? = some x) : j < m ∧ x = (p.getD (2 * j + 1) 0 - 1000, s + (2 * (j : Int) + 1), decide ((j : Int) + 1 < k)) := by
  have hj := (List.getElem?_eq_some_iff.1 h).1
  rw [edgesN_len] at hj
  simp [edgesN, hj] at h
  exact ⟨hj, h.symm⟩
/-- Elements are no greater than this. -/
def Small (p : List Int) : Prop := ∀ x ∈ p, x ≤ 1000001000
theorem ordOf_right {o : OrdT} {p : List Int} {s k : Int} (hp : PathOk p) (hsm : Small p) (hl : p.length ≤ 127) (hv : nameF o.2.1 = true) (hn : OkN o.1 ∧ OkN o.2.2.1 ∧ OkN o.2.2.2.1) (hs : s.tmod 2 = 0) (h0 : 0 ≤ s) (h1 : s ≤ 1000000) (hk : 1 ≤ k) : RightO (ordOf o p s k) := by
  have hodd := hp.1
  have get : ∀ i, i < p.length → ∃ x, p[i]? = some x ∧ p.getD i 0 = x := fun i hi => ⟨p[i], List.getElem?_eq_getElem hi, by rw [List.getD_eq_getElem?_getD, List.getElem?_eq_getElem hi]; rfl⟩
  have ev : ∀ j, 2 * j < p.length → OkN (p.getD (2 * j) 0) := fun j hj => by
    have hobt := get (2 * j) hj
    obtain ⟨x, hx, e⟩ := hobt
    rw [e]
    have := hp.2 _ _ hx
    exact ⟨this.1, by have := this.2.1; omega⟩
  have od : ∀ j, 2 * j + 1 < p.length → OkN (p.getD (2 * j + 1) 0 - 1000) := fun j hj => by
    have hobt := get (2 * j + 1) hj
    obtain ⟨x, hx, e⟩ := hobt
    rw [e]
    have h1 := hp.2 _ _ hx
    have h2 := hsm x (List.mem_of_getElem? hx)
    have h3 := h1.2.2 (by omega)
    exact ⟨by omega, by omega⟩
  refine ⟨⟨hv, hn, ?_, ?_, ?_⟩, ?_, fun i f e t he hf ht => ?_⟩
  · show 1 ≤ (nodesN _ _ _ _).length
    rw [nodesN_len]; omega
  · show (nodesN _ _ _ _).length ≤ 64
    rw [nodesN_len]; omega
  · show (edgesN _ _ _ _).length + 1 = (nodesN _ _ _ _).length
    rw [nodesN_len, edgesN_len]; omega
  · have hlt : 0 < (nodesN p s k ((p.length + 1) / 2)).length := by rw [nodesN_len]; omega
    have h0' := List.getElem?_eq_getElem hlt
    have hobt := nodesN_get h0'
    obtain ⟨_, e⟩ := hobt
    refine ⟨_, h0', ?_⟩
    rw [e]
    refine ⟨?_, by dsimp only; exact decide_eq_true (by omega), ev 0 (by omega), ⟨by dsimp only; omega, by dsimp only; omega⟩⟩
    show (s + 2 * ((0 : Nat) : Int)).tmod 2 = 0
    rw [show s + 2 * ((0 : Nat) : Int) = s by omega]; exact hs
  · have hobt := edgesN_get he
    obtain ⟨hi, rfl⟩ := hobt
    have hobt := nodesN_get hf
    obtain ⟨_, rfl⟩ := hobt
    have hobt := nodesN_get ht
    obtain ⟨_, rfl⟩ := hobt
    refine ⟨⟨od i (by omega), ⟨by dsimp only; omega, by dsimp only; omega⟩, ev (i + 1) (by omega), ⟨by dsimp only; omega, by dsimp only; omega⟩⟩, by dsimp only; omega, by dsimp only; omega, ?_, ?_⟩
    · show decide ((i : Int) + 1 < k) = decide (((i + 1 : Nat) : Int) < k)
      rw [decide_eq_decide]; omega
    · intro h
      have h : decide (((i + 1 : Nat) : Int) < k) = true := h
      have := of_decide_eq_true h
      exact decide_eq_true (by omega)
theorem m_pick13 : Meets Tryd.prog regF 22 spPick := by
  refine meets Tryd.func22 13 noWr rfl (by kernel_rfl) (by kernel_rfl) ?_
  rintro ⟨(c : Int), (n : Int)⟩ ⟨⟨hc1, hc2⟩, (hn : 0 < n)⟩
  conv => whnf
  repeat' (first | (refine tell (fun hQ => ?_) (fun hQ => ?_) <;> (try dsimp only at hQ) <;> first | (exfalso; omega) | (exact absurd rfl hQ) | (exact absurd (by decide) hQ) | (conv => whnf)) | (refine allG rfl ?_; conv => whnf) | (refine And.intro (by first | omega | assumption | kernel_rfl | exact And.intro rfl rfl | ((try dsimp only [inR, idx, lowOf]); first | omega | (with_reducible decide) | (simp; omega) | (simp; done) | fail) | fail) ?_; conv => whnf) | fail)
  all_goals exact ⟨(), [], trivial, eI (by unfold pickF; first | rw [if_pos (by assumption)] | rw [if_neg (by assumption)]), trivial, trivial⟩
def spIsPath : Spec AF where
  γ := List Int
  δ := Bool
  args := fun p => [.lst 3 p]
  own := fun _ => []
  pre := fun p => p.length ≤ 9223372036854775807
  nnew := 0
  res := fun _ c => vB c
  own' := fun _ _ => []
  post := fun p c => (c = true ↔ PathOk p)
theorem path_ex (p : List Int) : ∃ c : Bool, c = true ↔ PathOk p := by
  by_cases h : PathOk p
  · exact ⟨true, by simp [h]⟩
  · exact ⟨false, by simp [h]⟩
theorem m_isPath : Meets Tryd.prog regF 55 spIsPath := by
  refine meets Tryd.func55 29 noWr rfl (by kernel_rfl) (by kernel_rfl) ?_
  rintro (p : List Int) (hl : p.length ≤ 9223372036854775807)
  conv => whnf
  repeat' (first | (refine tell (fun hQ => ?_) (fun hQ => ?_) <;> (try dsimp only at hQ) <;> first | (exfalso; omega) | (exact absurd rfl hQ) | (exact absurd (by decide) hQ) | (conv => whnf)) | (refine allG rfl ?_; conv => whnf) | (refine And.intro (by first | omega | assumption | kernel_rfl | exact And.intro rfl rfl | ((try dsimp only [inR, idx, lowOf]); first | omega | (with_reducible decide) | (simp; omega) | (simp; done) | fail) | fail) ?_; conv => whnf) | fail)
  refine ⟨Nat, fun i => ⟨[(0, .lst 3 p), (6, .lst 3 p), (7, vI p.length), (8, vI i)], []⟩, fun i => i ≤ p.length ∧ ∀ (j : Nat) x, j < i → p[j]? = some x → 0 ≤ x ∧ (1000 ≤ x ↔ j % 2 = 1), fun i => p.length - i, fun _ _ => rfl, ⟨0, [], ⟨Nat.zero_le _, fun j x h => absurd h (Nat.not_lt_zero _)⟩, ?_⟩, ?_⟩
  · refine ⟨rfl, ?_, ?_, rfl⟩
    all_goals (repeat' (first | exact trivial | exact rfl | refine And.intro ?_ ?_ | (refine congrArg vI ?_; first | omega | (dsimp only; omega) | fail) | (refine congrArg some ?_) | omega | exact Nat.le_refl _ | exact congrArg (SV.lst _) (List.take_of_length_le (Nat.le_refl _)).symm))
  rintro (i : Nat) ⟨(hi : i ≤ p.length), (hs : ∀ (j : Nat) x, j < i → p[j]? = some x → 0 ≤ x ∧ (1000 ≤ x ↔ j % 2 = 1))⟩
  have hpl : (p.length : Int).tmod 2 = ((p.length % 2 : Nat) : Int) := by rw [Int.tmod_eq_emod_of_nonneg (by omega)]; omega
  have hpi : (i : Int).tmod 2 = ((i % 2 : Nat) : Int) := by rw [Int.tmod_eq_emod_of_nonneg (by omega)]; omega
  by_cases hlt : i < p.length
  · have hobt : ∃ y, p[i]? = some y := ⟨_, List.getElem?_eq_getElem hlt⟩
    obtain ⟨x, hx⟩ := hobt
    by_cases hg : 0 ≤ x ∧ (1000 ≤ x ↔ i % 2 = 1)
    · have hnext : ∀ (j : Nat) y, j < i + 1 → p[j]? = some y → 0 ≤ y ∧ (1000 ≤ y ↔ j % 2 = 1) := fun j y hj hy => by
        by_cases e : j = i
        · subst e; rw [hx] at hy; cases hy; exact hg
        · exact hs j y (by omega) hy
      obtain ⟨hg0, hg1⟩ := hg
      by_cases h1 : 1000 ≤ x
      · have h2 := hg1.1 h1
        conv => whnf
        repeat' (first | (refine tell (fun hQ => ?_) (fun hQ => ?_) <;> (try dsimp only at hQ) <;> first | (exfalso; omega) | (exact absurd rfl hQ) | (exact absurd (by decide) hQ) | (conv => whnf)) | (refine allG (x := x) (by first | exact hx | simpa [List.getElem?_append_right, lowOf] using hx | fail) ?_; conv => whnf) | (refine allLst (x := x) (by first | omega | assumption | fail) (by first | exact hx | simpa using hx | fail) ?_; conv => whnf) | (refine allG rfl ?_; conv => whnf) | (refine And.intro (by first | omega | assumption | kernel_rfl | exact And.intro rfl rfl | ((try dsimp only [inR, idx, lowOf]); first | omega | (with_reducible decide) | (simp; omega) | (simp; done) | fail) | fail) ?_; conv => whnf) | fail)
        refine ⟨i + 1, [], ⟨hlt, hnext⟩, ?_, rfl, ?_, ?_, rfl⟩
        · dsimp only; first | omega | (simp; done) | (simp; omega)
        all_goals (repeat' (first | exact trivial | exact rfl | refine And.intro ?_ ?_ | (refine congrArg vI ?_; first | omega | (dsimp only; omega) | fail) | (refine congrArg some ?_) | omega | exact Nat.le_refl _ | exact congrArg (SV.lst _) (List.take_of_length_le (Nat.le_refl _)).symm))
      · have h2 : ¬ i % 2 = 1 := fun h => h1 (hg1.2 h)
        conv => whnf
        repeat' (first | (refine tell (fun hQ => ?_) (fun hQ => ?_) <;> (try dsimp only at hQ) <;> first | (exfalso; omega) | (exact absurd rfl hQ) | (exact absurd (by decide) hQ) | (conv => whnf)) | (refine allG (x := x) (by first | exact hx | simpa [List.getElem?_append_right, lowOf] using hx | fail) ?_; conv => whnf) | (refine allLst (x := x) (by first | omega | assumption | fail) (by first | exact hx | simpa using hx | fail) ?_; conv => whnf) | (refine allG rfl ?_; conv => whnf) | (refine And.intro (by first | omega | assumption | kernel_rfl | exact And.intro rfl rfl | ((try dsimp only [inR, idx, lowOf]); first | omega | (with_reducible decide) | (simp; omega) | (simp; done) | fail) | fail) ?_; conv => whnf) | fail)
        refine ⟨i + 1, [], ⟨hlt, hnext⟩, ?_, rfl, ?_, ?_, rfl⟩
        · dsimp only; first | omega | (simp; done) | (simp; omega)
        all_goals (repeat' (first | exact trivial | exact rfl | refine And.intro ?_ ?_ | (refine congrArg vI ?_; first | omega | (dsimp only; omega) | fail) | (refine congrArg some ?_) | omega | exact Nat.le_refl _ | exact congrArg (SV.lst _) (List.take_of_length_le (Nat.le_refl _)).symm))
    · have hno : ¬ PathOk p := fun h => hg (h.2 i x hx)
      by_cases h0 : 0 ≤ x
      · by_cases h1 : 1000 ≤ x
        · have h2 : ¬ i % 2 = 1 := fun h => hg ⟨h0, by simp [h1, h]⟩
          conv => whnf
          repeat' (first | (refine tell (fun hQ => ?_) (fun hQ => ?_) <;> (try dsimp only at hQ) <;> first | (exfalso; omega) | (exact absurd rfl hQ) | (exact absurd (by decide) hQ) | (conv => whnf)) | (refine allG (x := x) (by first | exact hx | simpa [List.getElem?_append_right, lowOf] using hx | fail) ?_; conv => whnf) | (refine allLst (x := x) (by first | omega | assumption | fail) (by first | exact hx | simpa using hx | fail) ?_; conv => whnf) | (refine allG rfl ?_; conv => whnf) | (refine And.intro (by first | omega | assumption | kernel_rfl | exact And.intro rfl rfl | ((try dsimp only [inR, idx, lowOf]); first | omega | (with_reducible decide) | (simp; omega) | (simp; done) | fail) | fail) ?_; conv => whnf) | fail)
          exact ⟨false, [], ⟨fun h => (by cases h), fun h => absurd h hno⟩, rfl, trivial, trivial⟩
        · have h2 : i % 2 = 1 := Classical.byContradiction fun h => hg ⟨h0, by simp [h1, h]⟩
          conv => whnf
          repeat' (first | (refine tell (fun hQ => ?_) (fun hQ => ?_) <;> (try dsimp only at hQ) <;> first | (exfalso; omega) | (exact absurd rfl hQ) | (exact absurd (by decide) hQ) | (conv => whnf)) | (refine allG (x := x) (by first | exact hx | simpa [List.getElem?_append_right, lowOf] using hx | fail) ?_; conv => whnf) | (refine allLst (x := x) (by first | omega | assumption | fail) (by first | exact hx | simpa using hx | fail) ?_; conv => whnf) | (refine allG rfl ?_; conv => whnf) | (refine And.intro (by first | omega | assumption | kernel_rfl | exact And.intro rfl rfl | ((try dsimp only [inR, idx, lowOf]); first | omega | (with_reducible decide) | (simp; omega) | (simp; done) | fail) | fail) ?_; conv => whnf) | fail)
          exact ⟨false, [], ⟨fun h => (by cases h), fun h => absurd h hno⟩, rfl, trivial, trivial⟩
      · conv => whnf
        repeat' (first | (refine tell (fun hQ => ?_) (fun hQ => ?_) <;> (try dsimp only at hQ) <;> first | (exfalso; omega) | (exact absurd rfl hQ) | (exact absurd (by decide) hQ) | (conv => whnf)) | (refine allG (x := x) (by first | exact hx | simpa [List.getElem?_append_right, lowOf] using hx | fail) ?_; conv => whnf) | (refine allLst (x := x) (by first | omega | assumption | fail) (by first | exact hx | simpa using hx | fail) ?_; conv => whnf) | (refine allG rfl ?_; conv => whnf) | (refine And.intro (by first | omega | assumption | kernel_rfl | exact And.intro rfl rfl | ((try dsimp only [inR, idx, lowOf]); first | omega | (with_reducible decide) | (simp; omega) | (simp; done) | fail) | fail) ?_; conv => whnf) | fail)
        all_goals exact ⟨false, [], ⟨fun h => (by cases h), fun h => absurd h hno⟩, rfl, trivial, trivial⟩
  · have hall : ∀ (j : Nat) x, p[j]? = some x → 0 ≤ x ∧ (1000 ≤ x ↔ j % 2 = 1) := fun j x hj => hs j x (by have := (List.getElem?_eq_some_iff.1 hj).1; omega) hj
    by_cases ho : p.length % 2 = 1
    · conv => whnf
      repeat' (first | (refine tell (fun hQ => ?_) (fun hQ => ?_) <;> (try dsimp only at hQ) <;> first | (exfalso; omega) | (exact absurd rfl hQ) | (exact absurd (by decide) hQ) | (conv => whnf)) | (refine allG rfl ?_; conv => whnf) | (refine And.intro (by first | omega | assumption | kernel_rfl | exact And.intro rfl rfl | ((try dsimp only [inR, idx, lowOf]); first | omega | (with_reducible decide) | (simp; omega) | (simp; done) | fail) | fail) ?_; conv => whnf) | fail)
      exact ⟨true, [], ⟨fun _ => ⟨ho, hall⟩, fun _ => rfl⟩, rfl, trivial, trivial⟩
    · conv => whnf
      repeat' (first | (refine tell (fun hQ => ?_) (fun hQ => ?_) <;> (try dsimp only at hQ) <;> first | (exfalso; omega) | (exact absurd rfl hQ) | (exact absurd (by decide) hQ) | (conv => whnf)) | (refine allG rfl ?_; conv => whnf) | (refine And.intro (by first | omega | assumption | kernel_rfl | exact And.intro rfl rfl | ((try dsimp only [inR, idx, lowOf]); first | omega | (with_reducible decide) | (simp; omega) | (simp; done) | fail) | fail) ?_; conv => whnf) | fail)
      exact ⟨false, [], ⟨fun h => (by cases h), fun h => absurd h.1 ho⟩, rfl, trivial, trivial⟩
def spStops : Spec AF where
  γ := List Int
  δ := Unit
  args := fun p => [.lst 3 p]
  own := fun _ => []
  pre := fun p => p.length ≤ 1000000
  nnew := 0
  res := fun p _ => .lst 3 (evN p ((p.length + 1) / 2))
  own' := fun _ _ => []
  post := fun _ _ => True
theorem m_stops : Meets Tryd.prog regF 27 spStops := by
  refine meets Tryd.func27 20 noWr rfl (by kernel_rfl) (by kernel_rfl) ?_
  rintro (p : List Int) (hl : p.length ≤ 1000000)
  conv => whnf
  repeat' (first | (refine tell (fun hQ => ?_) (fun hQ => ?_) <;> (try dsimp only at hQ) <;> first | (exfalso; omega) | (exact absurd rfl hQ) | (exact absurd (by decide) hQ) | (conv => whnf)) | (refine allG rfl ?_; conv => whnf) | (refine And.intro (by first | omega | assumption | kernel_rfl | exact And.intro rfl rfl | ((try dsimp only [inR, idx, lowOf]); first | omega | (with_reducible decide) | (simp; omega) | (simp; done) | fail) | fail) ?_; conv => whnf) | fail)
  refine ⟨Nat, fun i => ⟨[(2, .sl 3000 1 0 ((i + 1) / 2)), (5, .lst 3 p), (6, vI p.length), (7, vI i)], [(3000, .arr 3 (evN p ((i + 1) / 2)))]⟩, fun i => i ≤ p.length, fun i => p.length - i, fun _ _ => rfl, ⟨0, [], Nat.zero_le _, ?_⟩, ?_⟩
  · refine ⟨rfl, ?_, ?_, rfl⟩
    all_goals (repeat' (first | exact trivial | exact rfl | refine And.intro ?_ ?_ | (refine congrArg vI ?_; first | omega | (dsimp only; omega) | fail) | (refine congrArg some ?_) | omega | exact Nat.le_refl _ | exact congrArg (SV.lst _) (List.take_of_length_le (Nat.le_refl _)).symm))
  rintro (i : Nat) (hi : i ≤ p.length)
  have hpi : (i : Int).tmod 2 = ((i % 2 : Nat) : Int) := by rw [Int.tmod_eq_emod_of_nonneg (by omega)]; omega
  have hel := evN_len p ((i + 1) / 2)
  by_cases hlt : i < p.length
  · have hobt : ∃ y, p[i]? = some y := ⟨_, List.getElem?_eq_getElem hlt⟩
    obtain ⟨x, hx⟩ := hobt
    by_cases h2 : i % 2 = 0
    · have hn : evN p ((i + 1 + 1) / 2) = evN p ((i + 1) / 2) ++ [x] := by
        rw [show (i + 1 + 1) / 2 = (i + 1) / 2 + 1 by omega, evN_succ, show 2 * ((i + 1) / 2) = i by omega, List.getD_eq_getElem?_getD, hx]; rfl
      conv => whnf
      repeat' (first | (refine tell (fun hQ => ?_) (fun hQ => ?_) <;> (try dsimp only at hQ) <;> first | (exfalso; omega) | (exact absurd rfl hQ) | (exact absurd (by decide) hQ) | (conv => whnf)) | (refine allG (x := x) (by first | exact hx | simpa [List.getElem?_append_right, lowOf] using hx | fail) ?_; conv => whnf) | (refine allLst (x := x) (by first | omega | assumption | fail) (by first | exact hx | simpa using hx | fail) ?_; conv => whnf) | (refine allG rfl ?_; conv => whnf) | (refine And.intro (by first | omega | assumption | kernel_rfl | exact And.intro rfl rfl | ((try dsimp only [inR, idx, lowOf]); first | omega | (with_reducible decide) | (simp; omega) | (simp; done) | fail) | fail) ?_; conv => whnf) | fail)
      refine ⟨i + 1, [(3000, 1018)], hlt, ?_, rfl, ?_, ?_, rfl⟩
      · dsimp only; first | omega | (simp; done) | (simp; omega)
      all_goals (repeat' (first | exact trivial | exact rfl | refine And.intro ?_ ?_ | (refine congrArg vI ?_; first | omega | (dsimp only; omega) | fail) | (refine congrArg some ?_) | omega | exact Nat.le_refl _ | exact congrArg (SV.lst _) (List.take_of_length_le (Nat.le_refl _)).symm))
      all_goals first | exact congrArg (SV.sl (A := AF) 1018 1 0) (by omega) | exact congrArg (Ct.arr (A := AF) 3) (by rw [hn, List.drop_zero, List.take_of_length_le (by omega)]; rfl) | fail
    · have e : (i + 1 + 1) / 2 = (i + 1) / 2 := by omega
      conv => whnf
      repeat' (first | (refine tell (fun hQ => ?_) (fun hQ => ?_) <;> (try dsimp only at hQ) <;> first | (exfalso; omega) | (exact absurd rfl hQ) | (exact absurd (by decide) hQ) | (conv => whnf)) | (refine allG (x := x) (by first | exact hx | simpa [List.getElem?_append_right, lowOf] using hx | fail) ?_; conv => whnf) | (refine allLst (x := x) (by first | omega | assumption | fail) (by first | exact hx | simpa using hx | fail) ?_; conv => whnf) | (refine allG rfl ?_; conv => whnf) | (refine And.intro (by first | omega | assumption | kernel_rfl | exact And.intro rfl rfl | ((try dsimp only [inR, idx, lowOf]); first | omega | (with_reducible decide) | (simp; omega) | (simp; done) | fail) | fail) ?_; conv => whnf) | fail)
      refine ⟨i + 1, [], hlt, ?_, rfl, ?_, ?_, rfl⟩
      · dsimp only; first | omega | (simp; done) | (simp; omega)
      all_goals (repeat' (first | exact trivial | exact rfl | refine And.intro ?_ ?_ | (refine congrArg vI ?_; first | omega | (dsimp only; omega) | fail) | (refine congrArg some ?_) | omega | exact Nat.le_refl _ | exact congrArg (SV.lst _) (List.take_of_length_le (Nat.le_refl _)).symm))
      all_goals first | exact congrArg (SV.sl (A := AF) 3000 1 0) e.symm | exact congrArg (fun m => Ct.arr (A := AF) 3 (evN p m)) e.symm | fail
  · have hobt : i = p.length := by omega
    obtain rfl := hobt
    conv => whnf
    repeat' (first | (refine tell (fun hQ => ?_) (fun hQ => ?_) <;> (try dsimp only at hQ) <;> first | (exfalso; omega) | (exact absurd rfl hQ) | (exact absurd (by decide) hQ) | (conv => whnf)) | (refine allG rfl ?_; conv => whnf) | (refine And.intro (by first | omega | assumption | kernel_rfl | exact And.intro rfl rfl | ((try dsimp only [inR, idx, lowOf]); first | omega | (with_reducible decide) | (simp; omega) | (simp; done) | fail) | fail) ?_; conv => whnf) | fail)
    exact ⟨(), [], trivial, ⟨by omega, rfl, congrArg (SV.lst (A := AF) 3) (by rw [List.drop_zero, List.take_of_length_le (by omega)])⟩, trivial, trivial⟩
end Go.Sx


/-
  Layer 13 at the door: walk.Order; the document's Order.
-/
namespace Go.Sx
open Go Go.Proofs Go.Proofs.YtmogappoadglgaaDoor
abbrev zeroO : OrdT := (0, [], 0, 0, [], [])
def resO (o : OrdT) (c : Bool) : SV AF := match c with
  | true => .tup [ordS o, vB true]
  | false => .tup [ordS zeroO, vB false]
def spOrder : Spec AF where
  γ := OrdT × List Int × Int × Int
  δ := Bool
  args := fun g => [ordS g.1, .lst 3 g.2.1, vI g.2.2.1, vI g.2.2.2]
  own := fun _ => []
  pre := fun g => g.2.1.length ≤ 127 ∧ (∀ x ∈ g.2.1, InI x) ∧ (0 ≤ g.2.2.1 ∧ g.2.2.1 ≤ 1000000)
  nnew := 0
  res := fun g c => resO (ordOf g.1 g.2.1 g.2.2.1 g.2.2.2) c
  own' := fun _ _ => []
  post := fun g c => (c = true ↔ PathOk g.2.1 ∧ RightO (ordOf g.1 g.2.1 g.2.2.1 g.2.2.2))
def spOrder13 : Spec AF where
  γ := OrdT × List Int × Int × Int
  δ := Unit
  args := fun g => [ordS g.1, .lst 3 g.2.1, vI g.2.2.1, vI g.2.2.2]
  own := fun _ => []
  pre := fun g => g.2.1.length ≤ 127 ∧ (∀ x ∈ g.2.1, InI x) ∧ (0 ≤ g.2.2.1 ∧ g.2.2.1 ≤ 1000000) ∧ PathOk g.2.1 ∧ RightO (ordOf g.1 g.2.1 g.2.2.1 g.2.2.2)
  nnew := 0
  res := fun g _ => .tup [ordS (ordOf g.1 g.2.1 g.2.2.1 g.2.2.2), vB true]
  own' := fun _ _ => []
  post := fun _ _ => True
theorem nodes_full (p : List Int) (s k : Int) (m : Nat) : (nodesN p s k m) = ((nodesN p s k m).drop 0).take m := by rw [List.drop_zero, List.take_of_length_le (by rw [nodesN_len]; exact Nat.le_refl _)]
theorem edges_full (p : List Int) (s k : Int) (m : Nat) : (edgesN p s k m) = ((edgesN p s k m).drop 0).take m := by rw [List.drop_zero, List.take_of_length_le (by rw [edgesN_len]; exact Nat.le_refl _)]
theorem rightO_lens (o : OrdT) (p : List Int) (s k : Int) (hl : p.length ≤ 127) : (ordOf o p s k).2.2.2.2.1.length ≤ 9223372036854775807 ∧ (ordOf o p s k).2.2.2.2.2.length ≤ 9223372036854775807 := by
  show (nodesN _ _ _ _).length ≤ 9223372036854775807 ∧ (edgesN _ _ _ _).length ≤ 9223372036854775807
  rw [nodesN_len, edgesN_len]
  omega
abbrev ordZ : List (SV AF) := [.val (.int .i64 0), .val (.string ⟨#[]⟩), .val (.int .i64 0), .val (.int .i64 0), .val (.slice none 0 0), .val (.slice none 0 0)]
set_option maxHeartbeats 3200000 in
set_option maxRecDepth 100000 in
theorem m_order : Meets Tryd.prog regF 23 spOrder := by
  refine meets Tryd.func23 72 noWr rfl (by kernel_rfl) (by kernel_rfl) ?_
  rintro ⟨⟨(h : Int), (v : List UInt8), (od : Int), (up : Int), (ns0 : List Stp), (es0 : List Stp)⟩, (p : List Int), (s : Int), (k : Int)⟩ ⟨(hl : p.length ≤ 127), (hin : ∀ x ∈ p, InI x), (hs0 : 0 ≤ s), (hs1 : s ≤ 1000000)⟩
  conv => whnf
  repeat' (first | (refine tell (fun hQ => ?_) (fun hQ => ?_) <;> (try dsimp only at hQ) <;> first | (exfalso; omega) | (exact absurd rfl hQ) | (exact absurd (by decide) hQ) | (conv => whnf)) | (refine allG rfl ?_; conv => whnf) | (refine And.intro (by first | omega | assumption | kernel_rfl | exact And.intro rfl rfl | ((try dsimp only [inR, idx, lowOf]); first | omega | (with_reducible decide) | (simp; omega) | (simp; done) | fail) | fail) ?_; conv => whnf) | fail)
  refine ⟨_, m_isPath, p, [], false, ?_⟩
  conv => whnf
  refine And.intro (vc0 (show p.length ≤ 9223372036854775807 by omega) (by (repeat' (first | exact trivial | exact rfl | refine And.intro ?_ ?_ | (refine congrArg vI ?_; first | omega | (dsimp only; omega) | fail) | (refine congrArg some ?_) | omega | exact Nat.le_refl _ | exact congrArg (SV.lst _) (List.take_of_length_le (Nat.le_refl _)).symm))) (by repeat' (first | exact trivial | exact rfl | refine And.intro ?_ ?_ | (refine congrArg vI ?_; first | omega | (dsimp only; omega) | fail) | (refine congrArg some ?_) | omega | exact Nat.le_refl _ | exact congrArg (SV.lst _) (List.take_of_length_le (Nat.le_refl _)).symm)) trivial trivial) ?_
  refine And.intro (path_ex p) ?_
  intro (c : Bool) (hc : c = true ↔ PathOk p)
  cases c
  · have hno : ¬ (PathOk p ∧ RightO (ordOf (h, v, od, up, ns0, es0) p s k)) := fun hh => (by have := hc.2 hh.1; cases this)
    conv => whnf
    repeat' (first | (refine tell (fun hQ => ?_) (fun hQ => ?_) <;> (try dsimp only at hQ) <;> first | (exfalso; omega) | (exact absurd rfl hQ) | (exact absurd (by decide) hQ) | (conv => whnf)) | (refine allG rfl ?_; conv => whnf) | (refine And.intro (by first | omega | assumption | kernel_rfl | exact And.intro rfl rfl | ((try dsimp only [inR, idx, lowOf]); first | omega | (with_reducible decide) | (simp; omega) | (simp; done) | fail) | fail) ?_; conv => whnf) | fail)
    exact ⟨false, [], ⟨fun h => (by cases h), fun h => absurd h hno⟩, ⟨⟨rfl, rfl, rfl, rfl, rfl, rfl, trivial⟩, rfl, trivial⟩, trivial, trivial⟩
  have hpo := hc.1 rfl
  have hp' : ((p.take (min (p.length : Int) 127).toNat).drop ((0 : Int)).toNat) = p := by
    rw [show (min (p.length : Int) 127).toNat = p.length by omega, List.take_length]; rfl
  conv => whnf
  repeat' (first | (refine tell (fun hQ => ?_) (fun hQ => ?_) <;> (try dsimp only at hQ) <;> first | (exfalso; omega) | (exact absurd rfl hQ) | (exact absurd (by decide) hQ) | (conv => whnf)) | (refine allG rfl ?_; conv => whnf) | (refine And.intro (by first | omega | assumption | kernel_rfl | exact And.intro rfl rfl | ((try dsimp only [inR, idx, lowOf]); first | omega | (with_reducible decide) | (simp; omega) | (simp; done) | fail) | fail) ?_; conv => whnf) | fail)
  refine ⟨Nat, fun i => ⟨[(2, vI s), (3, vI k), (8, .ptr 1008 0 6 0), (10, .ptr 1010 0 6 0), (25, .lst 3 p), (26, vI p.length), (27, vI i)], [(1008, .cells (ordZ)), (1010, .cells [vI h, vS v, vI od, vI up, .sl 3001 3 0 ((i + 1) / 2), .sl 3002 3 0 (i / 2)]), (3001, .arr 46 (nodesN p s k ((i + 1) / 2))), (3002, .arr 95 (edgesN p s k (i / 2)))]⟩, fun i => i ≤ p.length, fun i => p.length - i, fun _ _ => rfl, ⟨0, [], Nat.zero_le _, ?_⟩, ?_⟩
  · refine ⟨rfl, ?_, ?_, rfl⟩
    all_goals (repeat' (first | exact trivial | exact rfl | refine And.intro ?_ ?_ | (refine congrArg vI ?_; first | omega | (dsimp only; omega) | fail) | (refine congrArg some ?_) | omega | exact Nat.le_refl _ | exact congrArg (SV.lst _) (List.take_of_length_le (Nat.le_refl _)).symm))
    all_goals (first | exact congrArg (SV.lst (A := AF) 3) hp' | exact congrArg (fun l : List Int => vI (l.length : Int)) hp' | fail)
  rintro (i : Nat) (hi : i ≤ p.length)
  have hpi : (i : Int).tmod 2 = ((i % 2 : Nat) : Int) := by rw [Int.tmod_eq_emod_of_nonneg (by omega)]; omega
  have hqi : (i : Int).tdiv 2 = ((i / 2 : Nat) : Int) := by rw [Int.tdiv_eq_ediv_of_nonneg (by omega)]; omega
  have hqj : ((i : Int) + 1).tdiv 2 = (((i + 1) / 2 : Nat) : Int) := by rw [Int.tdiv_eq_ediv_of_nonneg (by omega)]; omega
  have hnl := nodesN_len p s k ((i + 1) / 2)
  have hel := edgesN_len p s k (i / 2)
  by_cases hlt : i < p.length
  · have hobt : ∃ y, p[i]? = some y := ⟨_, List.getElem?_eq_getElem hlt⟩
    obtain ⟨x, hx⟩ := hobt
    have hx2 := hpo.2 i x hx
    have hx0 := hx2.1
    have hxb : InI x := hin x (List.mem_of_getElem? hx)
    have hxb1 := hxb.1
    have hxb2 := hxb.2
    by_cases h2 : i % 2 = 0
    · have e1 : (i + 1) / 2 = i / 2 := by omega
      have e2 : (i + 1 + 1) / 2 = i / 2 + 1 := by omega
      by_cases hk : (i : Int) - (i : Int).tdiv 2 < k
      · have hn : nodesN p s k ((i + 1 + 1) / 2) = nodesN p s k ((i + 1) / 2) ++ [(x, s + (i : Int), true)] := by
          rw [e2, e1, nodesN_succ, show 2 * (i / 2) = i by omega, List.getD_eq_getElem?_getD, hx, show s + 2 * ((i / 2 : Nat) : Int) = s + (i : Int) by omega, decide_eq_true (show ((i / 2 : Nat) : Int) < k by omega)]; rfl
        conv => whnf
        repeat' (first | (refine tell (fun hQ => ?_) (fun hQ => ?_) <;> (try dsimp only at hQ) <;> first | (exfalso; omega) | (exact absurd rfl hQ) | (exact absurd (by decide) hQ) | (conv => whnf)) | (refine allG (x := x) (by first | exact hx | simpa [List.getElem?_append_right, lowOf] using hx | fail) ?_; conv => whnf) | (refine allLst (x := x) (by first | omega | assumption | fail) (by first | exact hx | simpa using hx | fail) ?_; conv => whnf) | (refine allG rfl ?_; conv => whnf) | (refine And.intro (by first | omega | assumption | kernel_rfl | exact And.intro rfl rfl | ((try dsimp only [inR, idx, lowOf]); first | omega | (with_reducible decide) | (simp; omega) | (simp; done) | fail) | fail) ?_; conv => whnf) | fail)
        refine ⟨i + 1, [(3001, 1064)], hlt, ?_, rfl, ?_, ?_, rfl⟩
        · dsimp only; first | omega | (simp; done) | (simp; omega)
        all_goals (repeat' (first | exact trivial | exact rfl | refine And.intro ?_ ?_ | (refine congrArg vI ?_; first | omega | (dsimp only; omega) | fail) | (refine congrArg some ?_) | omega | exact Nat.le_refl _ | exact congrArg (SV.lst _) (List.take_of_length_le (Nat.le_refl _)).symm))
        all_goals first | exact congrArg (SV.sl (A := AF) 1064 3 0) (by omega) | exact congrArg (SV.sl (A := AF) 3002 3 0) e1.symm | exact congrArg (fun m => Ct.arr (A := AF) 95 (edgesN p s k m)) e1.symm | exact congrArg (Ct.arr (A := AF) 46) (by rw [hn, ← nodes_full]; rfl) | fail
      · have hn : nodesN p s k ((i + 1 + 1) / 2) = nodesN p s k ((i + 1) / 2) ++ [(x, s + (i : Int), false)] := by
          rw [e2, e1, nodesN_succ, show 2 * (i / 2) = i by omega, List.getD_eq_getElem?_getD, hx, show s + 2 * ((i / 2 : Nat) : Int) = s + (i : Int) by omega, decide_eq_false (show ¬ ((i / 2 : Nat) : Int) < k by omega)]; rfl
        conv => whnf
        repeat' (first | (refine tell (fun hQ => ?_) (fun hQ => ?_) <;> (try dsimp only at hQ) <;> first | (exfalso; omega) | (exact absurd rfl hQ) | (exact absurd (by decide) hQ) | (conv => whnf)) | (refine allG (x := x) (by first | exact hx | simpa [List.getElem?_append_right, lowOf] using hx | fail) ?_; conv => whnf) | (refine allLst (x := x) (by first | omega | assumption | fail) (by first | exact hx | simpa using hx | fail) ?_; conv => whnf) | (refine allG rfl ?_; conv => whnf) | (refine And.intro (by first | omega | assumption | kernel_rfl | exact And.intro rfl rfl | ((try dsimp only [inR, idx, lowOf]); first | omega | (with_reducible decide) | (simp; omega) | (simp; done) | fail) | fail) ?_; conv => whnf) | fail)
        refine ⟨i + 1, [(3001, 1064)], hlt, ?_, rfl, ?_, ?_, rfl⟩
        · dsimp only; first | omega | (simp; done) | (simp; omega)
        all_goals (repeat' (first | exact trivial | exact rfl | refine And.intro ?_ ?_ | (refine congrArg vI ?_; first | omega | (dsimp only; omega) | fail) | (refine congrArg some ?_) | omega | exact Nat.le_refl _ | exact congrArg (SV.lst _) (List.take_of_length_le (Nat.le_refl _)).symm))
        all_goals first | exact congrArg (SV.sl (A := AF) 1064 3 0) (by omega) | exact congrArg (SV.sl (A := AF) 3002 3 0) e1.symm | exact congrArg (fun m => Ct.arr (A := AF) 95 (edgesN p s k m)) e1.symm | exact congrArg (Ct.arr (A := AF) 46) (by rw [hn, ← nodes_full]; rfl) | fail
    · have e1 : (i + 1) / 2 = i / 2 + 1 := by omega
      have e2 : (i + 1 + 1) / 2 = (i + 1) / 2 := by omega
      by_cases hk : (i : Int) - (i : Int).tdiv 2 < k
      · have hn : edgesN p s k ((i + 1) / 2) = edgesN p s k (i / 2) ++ [(x - 1000, s + (i : Int), true)] := by
          rw [e1, edgesN_succ, show 2 * (i / 2) + 1 = i by omega, List.getD_eq_getElem?_getD, hx, show s + (2 * ((i / 2 : Nat) : Int) + 1) = s + (i : Int) by omega, decide_eq_true (show ((i / 2 : Nat) : Int) + 1 < k by omega)]; rfl
        conv => whnf
        repeat' (first | (refine tell (fun hQ => ?_) (fun hQ => ?_) <;> (try dsimp only at hQ) <;> first | (exfalso; omega) | (exact absurd rfl hQ) | (exact absurd (by decide) hQ) | (conv => whnf)) | (refine allG (x := x) (by first | exact hx | simpa [List.getElem?_append_right, lowOf] using hx | fail) ?_; conv => whnf) | (refine allLst (x := x) (by first | omega | assumption | fail) (by first | exact hx | simpa using hx | fail) ?_; conv => whnf) | (refine allG rfl ?_; conv => whnf) | (refine And.intro (by first | omega | assumption | kernel_rfl | exact And.intro rfl rfl | ((try dsimp only [inR, idx, lowOf]); first | omega | (with_reducible decide) | (simp; omega) | (simp; done) | fail) | fail) ?_; conv => whnf) | fail)
        refine ⟨i + 1, [(3002, 1051)], hlt, ?_, rfl, ?_, ?_, rfl⟩
        · dsimp only; first | omega | (simp; done) | (simp; omega)
        all_goals (repeat' (first | exact trivial | exact rfl | refine And.intro ?_ ?_ | (refine congrArg vI ?_; first | omega | (dsimp only; omega) | fail) | (refine congrArg some ?_) | omega | exact Nat.le_refl _ | exact congrArg (SV.lst _) (List.take_of_length_le (Nat.le_refl _)).symm))
        all_goals first | exact congrArg (SV.sl (A := AF) 1051 3 0) (by omega) | exact congrArg (SV.sl (A := AF) 3001 3 0) e2.symm | exact congrArg (fun m => Ct.arr (A := AF) 46 (nodesN p s k m)) e2.symm | exact congrArg (Ct.arr (A := AF) 95) (by rw [hn, ← edges_full]; rfl) | fail
      · have hn : edgesN p s k ((i + 1) / 2) = edgesN p s k (i / 2) ++ [(x - 1000, s + (i : Int), false)] := by
          rw [e1, edgesN_succ, show 2 * (i / 2) + 1 = i by omega, List.getD_eq_getElem?_getD, hx, show s + (2 * ((i / 2 : Nat) : Int) + 1) = s + (i : Int) by omega, decide_eq_false (show ¬ ((i / 2 : Nat) : Int) + 1 < k by omega)]; rfl
        conv => whnf
        repeat' (first | (refine tell (fun hQ => ?_) (fun hQ => ?_) <;> (try dsimp only at hQ) <;> first | (exfalso; omega) | (exact absurd rfl hQ) | (exact absurd (by decide) hQ) | (conv => whnf)) | (refine allG (x := x) (by first | exact hx | simpa [List.getElem?_append_right, lowOf] using hx | fail) ?_; conv => whnf) | (refine allLst (x := x) (by first | omega | assumption | fail) (by first | exact hx | simpa using hx | fail) ?_; conv => whnf) | (refine allG rfl ?_; conv => whnf) | (refine And.intro (by first | omega | assumption | kernel_rfl | exact And.intro rfl rfl | ((try dsimp only [inR, idx, lowOf]); first | omega | (with_reducible decide) | (simp; omega) | (simp; done) | fail) | fail) ?_; conv => whnf) | fail)
        refine ⟨i + 1, [(3002, 1051)], hlt, ?_, rfl, ?_, ?_, rfl⟩
        · dsimp only; first | omega | (simp; done) | (simp; omega)
        all_goals (repeat' (first | exact trivial | exact rfl | refine And.intro ?_ ?_ | (refine congrArg vI ?_; first | omega | (dsimp only; omega) | fail) | (refine congrArg some ?_) | omega | exact Nat.le_refl _ | exact congrArg (SV.lst _) (List.take_of_length_le (Nat.le_refl _)).symm))
        all_goals first | exact congrArg (SV.sl (A := AF) 1051 3 0) (by omega) | exact congrArg (SV.sl (A := AF) 3001 3 0) e2.symm | exact congrArg (fun m => Ct.arr (A := AF) 46 (nodesN p s k m)) e2.symm | exact congrArg (Ct.arr (A := AF) 95) (by rw [hn, ← edges_full]; rfl) | fail
  · have hobt : i = p.length := by omega
    obtain rfl := hobt
    conv => whnf
    repeat' (first | (refine tell (fun hQ => ?_) (fun hQ => ?_) <;> (try dsimp only at hQ) <;> first | (exfalso; omega) | (exact absurd rfl hQ) | (exact absurd (by decide) hQ) | (conv => whnf)) | (refine allG rfl ?_; conv => whnf) | (refine And.intro (by first | omega | assumption | kernel_rfl | exact And.intro rfl rfl | ((try dsimp only [inR, idx, lowOf]); first | omega | (with_reducible decide) | (simp; omega) | (simp; done) | fail) | fail) ?_; conv => whnf) | fail)
    refine ⟨_, m_rightO, (ordOf (h, v, od, up, ns0, es0) p s k), [], true, ?_⟩
    conv => whnf
    refine And.intro (vc0 (rightO_lens _ p s k hl) (by (repeat' (first | exact trivial | exact rfl | refine And.intro ?_ ?_ | (refine congrArg vI ?_; first | omega | (dsimp only; omega) | fail) | (refine congrArg some ?_) | omega | exact Nat.le_refl _ | exact congrArg (SV.lst _) (List.take_of_length_le (Nat.le_refl _)).symm)); all_goals (first | omega | exact congrArg (SV.lst (A := AF) 46) (nodes_full p s k _) | exact congrArg (SV.lst (A := AF) 95) (edges_full p s k _) | fail)) (by repeat' (first | exact trivial | exact rfl | refine And.intro ?_ ?_ | (refine congrArg vI ?_; first | omega | (dsimp only; omega) | fail) | (refine congrArg some ?_) | omega | exact Nat.le_refl _ | exact congrArg (SV.lst _) (List.take_of_length_le (Nat.le_refl _)).symm)) trivial (.inr (fun _ => ⟨rfl, fun h ct he => by rcases h with _ | _ | h <;> first | (cases he; done) | (cases he; rfl)⟩))) ?_
    refine And.intro (rightO_ex _) ?_
    intro (c : Bool) (hc : c = true ↔ RightO (ordOf (h, v, od, up, ns0, es0) p s k))
    cases c
    · have hno : ¬ (PathOk p ∧ RightO (ordOf (h, v, od, up, ns0, es0) p s k)) := fun hh => (by have := hc.2 hh.2; cases this)
      conv => whnf
      repeat' (first | (refine tell (fun hQ => ?_) (fun hQ => ?_) <;> (try dsimp only at hQ) <;> first | (exfalso; omega) | (exact absurd rfl hQ) | (exact absurd (by decide) hQ) | (conv => whnf)) | (refine allG rfl ?_; conv => whnf) | (refine And.intro (by first | omega | assumption | kernel_rfl | exact And.intro rfl rfl | ((try dsimp only [inR, idx, lowOf]); first | omega | (with_reducible decide) | (simp; omega) | (simp; done) | fail) | fail) ?_; conv => whnf) | fail)
      exact ⟨false, [], ⟨fun h => (by cases h), fun h => absurd h hno⟩, ⟨⟨rfl, rfl, rfl, rfl, rfl, rfl, trivial⟩, rfl, trivial⟩, trivial, trivial⟩
    · conv => whnf
      repeat' (first | (refine tell (fun hQ => ?_) (fun hQ => ?_) <;> (try dsimp only at hQ) <;> first | (exfalso; omega) | (exact absurd rfl hQ) | (exact absurd (by decide) hQ) | (conv => whnf)) | (refine allG rfl ?_; conv => whnf) | (refine And.intro (by first | omega | assumption | kernel_rfl | exact And.intro rfl rfl | ((try dsimp only [inR, idx, lowOf]); first | omega | (with_reducible decide) | (simp; omega) | (simp; done) | fail) | fail) ?_; conv => whnf) | fail)
      exact ⟨true, [], ⟨fun _ => ⟨hpo, hc.1 rfl⟩, fun _ => rfl⟩, ⟨⟨rfl, rfl, rfl, rfl, ⟨by omega, rfl, congrArg (SV.lst (A := AF) 46) (nodes_full p s k _)⟩, ⟨by omega, rfl, congrArg (SV.lst (A := AF) 95) (edges_full p s k _)⟩, trivial⟩, rfl, trivial⟩, trivial, trivial⟩
set_option maxHeartbeats 3200000 in
theorem m_order13 : Meets Tryd.prog regF 54 spOrder13 := by
  refine meets Tryd.func54 119 noWr rfl (by kernel_rfl) (by kernel_rfl) ?_
  rintro ⟨⟨(h : Int), (v : List UInt8), (od : Int), (up : Int), (ns0 : List Stp), (es0 : List Stp)⟩, (p : List Int), (s : Int), (k : Int)⟩ ⟨(hl : p.length ≤ 127), (hin : ∀ x ∈ p, InI x), ⟨(hs0 : 0 ≤ s), (hs1 : s ≤ 1000000)⟩, (hpo : PathOk p), (hr : RightO (ordOf (h, v, od, up, ns0, es0) p s k))⟩
  have hodd := hpo.1
  have hpl : (p.length : Int).tmod 2 = ((p.length % 2 : Nat) : Int) := by rw [Int.tmod_eq_emod_of_nonneg (by omega)]; omega
  conv => whnf
  repeat' (first | (refine tell (fun hQ => ?_) (fun hQ => ?_) <;> (try dsimp only at hQ) <;> first | (exfalso; omega) | (exact absurd rfl hQ) | (exact absurd (by decide) hQ) | (conv => whnf)) | (refine allG rfl ?_; conv => whnf) | (refine And.intro (by first | omega | assumption | kernel_rfl | exact And.intro rfl rfl | ((try dsimp only [inR, idx, lowOf]); first | omega | (with_reducible decide) | (simp; omega) | (simp; done) | fail) | fail) ?_; conv => whnf) | fail)
  refine ⟨Nat, fun i => ⟨[(1, .lst 3 p), (2, vI s), (3, vI k), (4, .ptr 1004 0 6 0), (8, .ptr 1008 0 6 0), (10, vI i)], [(1004, .cells (ordCs (h, v, od, up, ns0, es0))), (1008, .cells ordZ)]⟩, fun i => i ≤ p.length, fun i => p.length - i, fun _ _ => rfl, ⟨0, [], Nat.zero_le _, ?_⟩, ?_⟩
  · refine ⟨rfl, ?_, ?_, rfl⟩
    all_goals (repeat' (first | exact trivial | exact rfl | refine And.intro ?_ ?_ | (refine congrArg vI ?_; first | omega | (dsimp only; omega) | fail) | (refine congrArg some ?_) | omega | exact Nat.le_refl _ | exact congrArg (SV.lst _) (List.take_of_length_le (Nat.le_refl _)).symm))
  rintro (i : Nat) (hi : i ≤ p.length)
  have hpi : (i : Int).tmod 2 = ((i % 2 : Nat) : Int) := by rw [Int.tmod_eq_emod_of_nonneg (by omega)]; omega
  have hqi : (i : Int).tdiv 2 = ((i / 2 : Nat) : Int) := by rw [Int.tdiv_eq_ediv_of_nonneg (by omega)]; omega
  have hqj : ((i : Int) + 1).tdiv 2 = (((i + 1) / 2 : Nat) : Int) := by rw [Int.tdiv_eq_ediv_of_nonneg (by omega)]; omega
  by_cases hlt : i < p.length
  · have hobt : ∃ y, p[i]? = some y := ⟨_, List.getElem?_eq_getElem hlt⟩
    obtain ⟨x, hx⟩ := hobt
    have hx2 := hpo.2 i x hx
    have hx0 := hx2.1
    by_cases h2 : i % 2 = 0
    · have hx1 : ¬ 1000 ≤ x := fun h => by have := hx2.2.1 h; omega
      conv => whnf
      repeat' (first | (refine tell (fun hQ => ?_) (fun hQ => ?_) <;> (try dsimp only at hQ) <;> first | (exfalso; omega) | (exact absurd rfl hQ) | (exact absurd (by decide) hQ) | (conv => whnf)) | (refine allG (x := x) (by first | exact hx | simpa [List.getElem?_append_right, lowOf] using hx | fail) ?_; conv => whnf) | (refine allLst (x := x) (by first | omega | assumption | fail) (by first | exact hx | simpa using hx | fail) ?_; conv => whnf) | (refine allG rfl ?_; conv => whnf) | (refine And.intro (by first | omega | assumption | kernel_rfl | exact And.intro rfl rfl | ((try dsimp only [inR, idx, lowOf]); first | omega | (with_reducible decide) | (simp; omega) | (simp; done) | fail) | fail) ?_; conv => whnf) | fail)
      refine ⟨i + 1, [], hlt, ?_, rfl, ?_, ?_, rfl⟩
      · dsimp only; first | omega | (simp; done) | (simp; omega)
      all_goals (repeat' (first | exact trivial | exact rfl | refine And.intro ?_ ?_ | (refine congrArg vI ?_; first | omega | (dsimp only; omega) | fail) | (refine congrArg some ?_) | omega | exact Nat.le_refl _ | exact congrArg (SV.lst _) (List.take_of_length_le (Nat.le_refl _)).symm))
    · have hx1 : 1000 ≤ x := hx2.2.2 (by omega)
      conv => whnf
      repeat' (first | (refine tell (fun hQ => ?_) (fun hQ => ?_) <;> (try dsimp only at hQ) <;> first | (exfalso; omega) | (exact absurd rfl hQ) | (exact absurd (by decide) hQ) | (conv => whnf)) | (refine allG (x := x) (by first | exact hx | simpa [List.getElem?_append_right, lowOf] using hx | fail) ?_; conv => whnf) | (refine allLst (x := x) (by first | omega | assumption | fail) (by first | exact hx | simpa using hx | fail) ?_; conv => whnf) | (refine allG rfl ?_; conv => whnf) | (refine And.intro (by first | omega | assumption | kernel_rfl | exact And.intro rfl rfl | ((try dsimp only [inR, idx, lowOf]); first | omega | (with_reducible decide) | (simp; omega) | (simp; done) | fail) | fail) ?_; conv => whnf) | fail)
      refine ⟨i + 1, [], hlt, ?_, rfl, ?_, ?_, rfl⟩
      · dsimp only; first | omega | (simp; done) | (simp; omega)
      all_goals (repeat' (first | exact trivial | exact rfl | refine And.intro ?_ ?_ | (refine congrArg vI ?_; first | omega | (dsimp only; omega) | fail) | (refine congrArg some ?_) | omega | exact Nat.le_refl _ | exact congrArg (SV.lst _) (List.take_of_length_le (Nat.le_refl _)).symm))
  conv => whnf
  repeat' (first | (refine tell (fun hQ => ?_) (fun hQ => ?_) <;> (try dsimp only at hQ) <;> first | (exfalso; omega) | (exact absurd rfl hQ) | (exact absurd (by decide) hQ) | (conv => whnf)) | (refine allG rfl ?_; conv => whnf) | (refine And.intro (by first | omega | assumption | kernel_rfl | exact And.intro rfl rfl | ((try dsimp only [inR, idx, lowOf]); first | omega | (with_reducible decide) | (simp; omega) | (simp; done) | fail) | fail) ?_; conv => whnf) | fail)
  refine ⟨Nat, fun i => ⟨[(1, .lst 3 p), (2, vI s), (3, vI k), (8, .ptr 1008 0 6 0), (11, .ptr 1011 0 6 0), (12, vI i)], [(1008, .cells (ordZ)), (1011, .cells [vI h, vS v, vI od, vI up, .sl 3001 3 0 ((i + 1) / 2), .sl 3002 3 0 (i / 2)]), (3001, .arr 46 (nodesN p s k ((i + 1) / 2))), (3002, .arr 95 (edgesN p s k (i / 2)))]⟩, fun i => i ≤ p.length, fun i => p.length - i, fun _ _ => rfl, ⟨0, [], Nat.zero_le _, ?_⟩, ?_⟩
  · refine ⟨rfl, ?_, ?_, rfl⟩
    all_goals (repeat' (first | exact trivial | exact rfl | refine And.intro ?_ ?_ | (refine congrArg vI ?_; first | omega | (dsimp only; omega) | fail) | (refine congrArg some ?_) | omega | exact Nat.le_refl _ | exact congrArg (SV.lst _) (List.take_of_length_le (Nat.le_refl _)).symm))
  rintro (i : Nat) (hi : i ≤ p.length)
  have hpi : (i : Int).tmod 2 = ((i % 2 : Nat) : Int) := by rw [Int.tmod_eq_emod_of_nonneg (by omega)]; omega
  have hqi : (i : Int).tdiv 2 = ((i / 2 : Nat) : Int) := by rw [Int.tdiv_eq_ediv_of_nonneg (by omega)]; omega
  have hqj : ((i : Int) + 1).tdiv 2 = (((i + 1) / 2 : Nat) : Int) := by rw [Int.tdiv_eq_ediv_of_nonneg (by omega)]; omega
  have hnl := nodesN_len p s k ((i + 1) / 2)
  have hel := edgesN_len p s k (i / 2)
  by_cases hlt : i < p.length
  · have hobt : ∃ y, p[i]? = some y := ⟨_, List.getElem?_eq_getElem hlt⟩
    obtain ⟨x, hx⟩ := hobt
    have hx2 := hpo.2 i x hx
    have hx0 := hx2.1
    have hxb : InI x := hin x (List.mem_of_getElem? hx)
    have hxb1 := hxb.1
    have hxb2 := hxb.2
    by_cases h2 : i % 2 = 0
    · have e1 : (i + 1) / 2 = i / 2 := by omega
      have e2 : (i + 1 + 1) / 2 = i / 2 + 1 := by omega
      by_cases hk : (i : Int).tdiv 2 < k
      · have hn : nodesN p s k ((i + 1 + 1) / 2) = nodesN p s k ((i + 1) / 2) ++ [(x, s + (i : Int), true)] := by
          rw [e2, e1, nodesN_succ, show 2 * (i / 2) = i by omega, List.getD_eq_getElem?_getD, hx, show s + 2 * ((i / 2 : Nat) : Int) = s + (i : Int) by omega, decide_eq_true (show ((i / 2 : Nat) : Int) < k by omega)]; rfl
        conv => whnf
        repeat' (first | (refine tell (fun hQ => ?_) (fun hQ => ?_) <;> (try dsimp only at hQ) <;> first | (exfalso; omega) | (exact absurd rfl hQ) | (exact absurd (by decide) hQ) | (conv => whnf)) | (refine allG (x := x) (by first | exact hx | simpa [List.getElem?_append_right, lowOf] using hx | fail) ?_; conv => whnf) | (refine allLst (x := x) (by first | omega | assumption | fail) (by first | exact hx | simpa using hx | fail) ?_; conv => whnf) | (refine allG rfl ?_; conv => whnf) | (refine And.intro (by first | omega | assumption | kernel_rfl | exact And.intro rfl rfl | ((try dsimp only [inR, idx, lowOf]); first | omega | (with_reducible decide) | (simp; omega) | (simp; done) | fail) | fail) ?_; conv => whnf) | fail)
        refine ⟨i + 1, [(3001, 1092)], hlt, ?_, rfl, ?_, ?_, rfl⟩
        · dsimp only; first | omega | (simp; done) | (simp; omega)
        all_goals (repeat' (first | exact trivial | exact rfl | refine And.intro ?_ ?_ | (refine congrArg vI ?_; first | omega | (dsimp only; omega) | fail) | (refine congrArg some ?_) | omega | exact Nat.le_refl _ | exact congrArg (SV.lst _) (List.take_of_length_le (Nat.le_refl _)).symm))
        all_goals first | exact congrArg (SV.sl (A := AF) 1092 3 0) (by omega) | exact congrArg (SV.sl (A := AF) 3002 3 0) e1.symm | exact congrArg (fun m => Ct.arr (A := AF) 95 (edgesN p s k m)) e1.symm | exact congrArg (Ct.arr (A := AF) 46) (by rw [hn, ← nodes_full]; rfl) | fail
      · have hn : nodesN p s k ((i + 1 + 1) / 2) = nodesN p s k ((i + 1) / 2) ++ [(x, s + (i : Int), false)] := by
          rw [e2, e1, nodesN_succ, show 2 * (i / 2) = i by omega, List.getD_eq_getElem?_getD, hx, show s + 2 * ((i / 2 : Nat) : Int) = s + (i : Int) by omega, decide_eq_false (show ¬ ((i / 2 : Nat) : Int) < k by omega)]; rfl
        conv => whnf
        repeat' (first | (refine tell (fun hQ => ?_) (fun hQ => ?_) <;> (try dsimp only at hQ) <;> first | (exfalso; omega) | (exact absurd rfl hQ) | (exact absurd (by decide) hQ) | (conv => whnf)) | (refine allG (x := x) (by first | exact hx | simpa [List.getElem?_append_right, lowOf] using hx | fail) ?_; conv => whnf) | (refine allLst (x := x) (by first | omega | assumption | fail) (by first | exact hx | simpa using hx | fail) ?_; conv => whnf) | (refine allG rfl ?_; conv => whnf) | (refine And.intro (by first | omega | assumption | kernel_rfl | exact And.intro rfl rfl | ((try dsimp only [inR, idx, lowOf]); first | omega | (with_reducible decide) | (simp; omega) | (simp; done) | fail) | fail) ?_; conv => whnf) | fail)
        refine ⟨i + 1, [(3001, 1092)], hlt, ?_, rfl, ?_, ?_, rfl⟩
        · dsimp only; first | omega | (simp; done) | (simp; omega)
        all_goals (repeat' (first | exact trivial | exact rfl | refine And.intro ?_ ?_ | (refine congrArg vI ?_; first | omega | (dsimp only; omega) | fail) | (refine congrArg some ?_) | omega | exact Nat.le_refl _ | exact congrArg (SV.lst _) (List.take_of_length_le (Nat.le_refl _)).symm))
        all_goals first | exact congrArg (SV.sl (A := AF) 1092 3 0) (by omega) | exact congrArg (SV.sl (A := AF) 3002 3 0) e1.symm | exact congrArg (fun m => Ct.arr (A := AF) 95 (edgesN p s k m)) e1.symm | exact congrArg (Ct.arr (A := AF) 46) (by rw [hn, ← nodes_full]; rfl) | fail
    · have e1 : (i + 1) / 2 = i / 2 + 1 := by omega
      have e2 : (i + 1 + 1) / 2 = (i + 1) / 2 := by omega
      by_cases hk : ((i : Int) + 1).tdiv 2 < k
      · have hn : edgesN p s k ((i + 1) / 2) = edgesN p s k (i / 2) ++ [(x - 1000, s + (i : Int), true)] := by
          rw [e1, edgesN_succ, show 2 * (i / 2) + 1 = i by omega, List.getD_eq_getElem?_getD, hx, show s + (2 * ((i / 2 : Nat) : Int) + 1) = s + (i : Int) by omega, decide_eq_true (show ((i / 2 : Nat) : Int) + 1 < k by omega)]; rfl
        conv => whnf
        repeat' (first | (refine tell (fun hQ => ?_) (fun hQ => ?_) <;> (try dsimp only at hQ) <;> first | (exfalso; omega) | (exact absurd rfl hQ) | (exact absurd (by decide) hQ) | (conv => whnf)) | (refine allG (x := x) (by first | exact hx | simpa [List.getElem?_append_right, lowOf] using hx | fail) ?_; conv => whnf) | (refine allLst (x := x) (by first | omega | assumption | fail) (by first | exact hx | simpa using hx | fail) ?_; conv => whnf) | (refine allG rfl ?_; conv => whnf) | (refine And.intro (by first | omega | assumption | kernel_rfl | exact And.intro rfl rfl | ((try dsimp only [inR, idx, lowOf]); first | omega | (with_reducible decide) | (simp; omega) | (simp; done) | fail) | fail) ?_; conv => whnf) | fail)
        refine ⟨i + 1, [(3002, 1111)], hlt, ?_, rfl, ?_, ?_, rfl⟩
        · dsimp only; first | omega | (simp; done) | (simp; omega)
        all_goals (repeat' (first | exact trivial | exact rfl | refine And.intro ?_ ?_ | (refine congrArg vI ?_; first | omega | (dsimp only; omega) | fail) | (refine congrArg some ?_) | omega | exact Nat.le_refl _ | exact congrArg (SV.lst _) (List.take_of_length_le (Nat.le_refl _)).symm))
        all_goals first | exact congrArg (SV.sl (A := AF) 1111 3 0) (by omega) | exact congrArg (SV.sl (A := AF) 3001 3 0) e2.symm | exact congrArg (fun m => Ct.arr (A := AF) 46 (nodesN p s k m)) e2.symm | exact congrArg (Ct.arr (A := AF) 95) (by rw [hn, ← edges_full]; rfl) | fail
      · have hn : edgesN p s k ((i + 1) / 2) = edgesN p s k (i / 2) ++ [(x - 1000, s + (i : Int), false)] := by
          rw [e1, edgesN_succ, show 2 * (i / 2) + 1 = i by omega, List.getD_eq_getElem?_getD, hx, show s + (2 * ((i / 2 : Nat) : Int) + 1) = s + (i : Int) by omega, decide_eq_false (show ¬ ((i / 2 : Nat) : Int) + 1 < k by omega)]; rfl
        conv => whnf
        repeat' (first | (refine tell (fun hQ => ?_) (fun hQ => ?_) <;> (try dsimp only at hQ) <;> first | (exfalso; omega) | (exact absurd rfl hQ) | (exact absurd (by decide) hQ) | (conv => whnf)) | (refine allG (x := x) (by first | exact hx | simpa [List.getElem?_append_right, lowOf] using hx | fail) ?_; conv => whnf) | (refine allLst (x := x) (by first | omega | assumption | fail) (by first | exact hx | simpa using hx | fail) ?_; conv => whnf) | (refine allG rfl ?_; conv => whnf) | (refine And.intro (by first | omega | assumption | kernel_rfl | exact And.intro rfl rfl | ((try dsimp only [inR, idx, lowOf]); first | omega | (with_reducible decide) | (simp; omega) | (simp; done) | fail) | fail) ?_; conv => whnf) | fail)
        refine ⟨i + 1, [(3002, 1111)], hlt, ?_, rfl, ?_, ?_, rfl⟩
        · dsimp only; first | omega | (simp; done) | (simp; omega)
        all_goals (repeat' (first | exact trivial | exact rfl | refine And.intro ?_ ?_ | (refine congrArg vI ?_; first | omega | (dsimp only; omega) | fail) | (refine congrArg some ?_) | omega | exact Nat.le_refl _ | exact congrArg (SV.lst _) (List.take_of_length_le (Nat.le_refl _)).symm))
        all_goals first | exact congrArg (SV.sl (A := AF) 1111 3 0) (by omega) | exact congrArg (SV.sl (A := AF) 3001 3 0) e2.symm | exact congrArg (fun m => Ct.arr (A := AF) 46 (nodesN p s k m)) e2.symm | exact congrArg (Ct.arr (A := AF) 95) (by rw [hn, ← edges_full]; rfl) | fail
  · have hobt : i = p.length := by omega
    obtain rfl := hobt
    conv => whnf
    repeat' (first | (refine tell (fun hQ => ?_) (fun hQ => ?_) <;> (try dsimp only at hQ) <;> first | (exfalso; omega) | (exact absurd rfl hQ) | (exact absurd (by decide) hQ) | (conv => whnf)) | (refine allG rfl ?_; conv => whnf) | (refine And.intro (by first | omega | assumption | kernel_rfl | exact And.intro rfl rfl | ((try dsimp only [inR, idx, lowOf]); first | omega | (with_reducible decide) | (simp; omega) | (simp; done) | fail) | fail) ?_; conv => whnf) | fail)
    refine ⟨_, m_right08, (ordOf (h, v, od, up, ns0, es0) p s k), [], true, ?_⟩
    conv => whnf
    refine And.intro (vc0 hr (by (repeat' (first | exact trivial | exact rfl | refine And.intro ?_ ?_ | (refine congrArg vI ?_; first | omega | (dsimp only; omega) | fail) | (refine congrArg some ?_) | omega | exact Nat.le_refl _ | exact congrArg (SV.lst _) (List.take_of_length_le (Nat.le_refl _)).symm)); all_goals (first | omega | exact congrArg (SV.lst (A := AF) 46) (nodes_full p s k _) | exact congrArg (SV.lst (A := AF) 95) (edges_full p s k _) | fail)) (by repeat' (first | exact trivial | exact rfl | refine And.intro ?_ ?_ | (refine congrArg vI ?_; first | omega | (dsimp only; omega) | fail) | (refine congrArg some ?_) | omega | exact Nat.le_refl _ | exact congrArg (SV.lst _) (List.take_of_length_le (Nat.le_refl _)).symm)) trivial (.inr (fun _ => ⟨rfl, fun h ct he => by rcases h with _ | _ | h <;> first | (cases he; done) | (cases he; rfl)⟩))) ?_
    refine And.intro ⟨(), trivial⟩ (fun (_ : Unit) _ => ?_)
    conv => whnf
    conv => whnf
    repeat' (first | (refine tell (fun hQ => ?_) (fun hQ => ?_) <;> (try dsimp only at hQ) <;> first | (exfalso; omega) | (exact absurd rfl hQ) | (exact absurd (by decide) hQ) | (conv => whnf)) | (refine allG rfl ?_; conv => whnf) | (refine And.intro (by first | omega | assumption | kernel_rfl | exact And.intro rfl rfl | ((try dsimp only [inR, idx, lowOf]); first | omega | (with_reducible decide) | (simp; omega) | (simp; done) | fail) | fail) ?_; conv => whnf) | fail)
    exact ⟨(), [], trivial, ⟨⟨rfl, rfl, rfl, rfl, ⟨by omega, rfl, congrArg (SV.lst (A := AF) 46) (nodes_full p s k _)⟩, ⟨by omega, rfl, congrArg (SV.lst (A := AF) 95) (edges_full p s k _)⟩, trivial⟩, rfl, trivial⟩, trivial, trivial⟩
end Go.Sx

