/-
  Layer 14, part K: the document's table's functions.
-/
import Derived.Test.YtmogappoadglgaaTabJ
namespace Go.Sx
open Go Go.Proofs Go.Proofs.Ytmogappoadglgaa
def spRTNew : Spec AF where
  γ := Unit
  δ := Unit
  args := fun _ => []
  own := fun _ => []
  pre := fun _ => True
  nnew := 3
  res := fun _ _ => .ptr 0 0 2 0
  own' := fun _ _ => [some (refT 1 2 0), some (.arr 3 []), some (.arr 3 [])]
  post := fun _ _ => True
theorem m_rtnew : Meets Try.prog regF 65 spRTNew := by
  refine meets Try.func65 3 noWr rfl (by kernel_rfl) (by kernel_rfl) ?_
  intro (g : Unit) hg
  conv => whnf
  exact ⟨(), [1002, 9000, 9001], trivial, rfl, ⟨⟨⟨rfl, rfl, rfl, rfl⟩, ⟨rfl, rfl, rfl, rfl⟩, trivial⟩, ⟨rfl, rfl⟩, ⟨rfl, rfl⟩, trivial⟩, trivial⟩
abbrev ownR (r : TM) : List (Ct AF) := [refT 1 2 r.length, .arr 3 (keysR r), .arr 3 (whosR r)]
def spFind : Spec AF where
  γ := TM × Int
  δ := Nat × Bool
  args := fun g => [.ptr 0 0 2 0, vI g.2]
  own := fun g => ownR g.1
  pre := fun g => g.1.length ≤ 9223372036854775807
  nnew := 0
  res := fun _ d => .tup [vI d.1, vB d.2]
  own' := fun g _ => (ownR g.1).map some
  post := fun g d => d.1 = findK g.1 g.2 ∧ (d.2 = true ↔ ∃ p, g.1[findK g.1 g.2]? = some p ∧ p.1 = g.2)
theorem keysR_at {r : TM} {i : Nat} {p : Int × Int} (h : r[i]? = some p) : (keysR r)[i]? = some p.1 := by unfold keysR; rw [List.getElem?_map, h]; rfl
theorem whosR_at {r : TM} {i : Nat} {p : Int × Int} (h : r[i]? = some p) : (whosR r)[i]? = some p.2 := by unfold whosR; rw [List.getElem?_map, h]; rfl
theorem m_find : Meets Try.prog regF 91 spFind := by
  refine meets Try.func91 46 noWr rfl (by kernel_rfl) (by kernel_rfl) ?_
  rintro ⟨(r : TM), (x : Int)⟩ (hl : r.length ≤ 9223372036854775807)
  have hkl := keysR_len r
  have hfk := findK_le r x
  conv => whnf
  repeat' (first | (refine tell (fun htest => ?_) (fun htest => ?_) <;> (try dsimp only at htest) <;> first | (exfalso; omega) | (exact absurd rfl htest) | (exact absurd (by decide) htest) | (conv => whnf)) | (refine allG rfl ?_; conv => whnf) | (refine And.intro (by first | omega | assumption | kernel_rfl | exact And.intro rfl rfl | ((try dsimp only [inR, idx, lowOf]); first | omega | (with_reducible decide) | (simp; omega) | fail) | fail) ?_; conv => whnf) | fail)
  refine ⟨Nat, fun k => ⟨[(0, .ptr 0 0 2 0), (1, vI x), (6, vI k)], [(0, refT 1 2 r.length), (1, .arr 3 (keysR r)), (2, .arr 3 (whosR r))]⟩, fun k => k ≤ findK r x, fun k => findK r x - k, fun _ _ => rfl, ⟨0, [], Nat.zero_le _, ?_⟩, ?_⟩
  · refine ⟨rfl, ?_, ?_, rfl⟩
    all_goals (repeat' (first | exact trivial | exact rfl | refine And.intro ?_ ?_ | (refine congrArg vI ?_; first | omega | (dsimp only; omega) | fail) | (refine congrArg some ?_) | omega | exact Nat.le_refl _ | exact congrArg (SV.lst _) (List.take_of_length_le (Nat.le_refl _)).symm))
  rintro (k : Nat) (hk : k ≤ findK r x)
  by_cases hkr : k < r.length
  · obtain ⟨p, hp⟩ : ∃ p, r[k]? = some p := ⟨_, List.getElem?_eq_getElem hkr⟩
    have hpk := keysR_at hp
    by_cases hlt : k < findK r x
    · have hpx := findK_below r x k p hp hlt
      conv => whnf
      repeat' (first | (refine tell (fun htest => ?_) (fun htest => ?_) <;> (try dsimp only at htest) <;> first | (exfalso; omega) | (exact absurd rfl htest) | (exact absurd (by decide) htest) | (conv => whnf)) | (refine allG (x := p.1) (by first | exact hpk | simpa [List.getElem?_append_right, lowOf] using hpk | fail) ?_; conv => whnf) | (refine allLst (x := p.1) (by first | omega | assumption | fail) (by first | exact hpk | simpa using hpk | fail) ?_; conv => whnf) | (refine allG rfl ?_; conv => whnf) | (refine And.intro (by first | omega | assumption | kernel_rfl | exact And.intro rfl rfl | ((try dsimp only [inR, idx, lowOf]); first | omega | (with_reducible decide) | (simp; omega) | fail) | fail) ?_; conv => whnf) | fail)
      refine ⟨k + 1, [], hlt, ?_, rfl, ?_, ?_, rfl⟩
      · dsimp only; first | omega | (simp; done) | (simp; omega)
      all_goals (repeat' (first | exact trivial | exact rfl | refine And.intro ?_ ?_ | (refine congrArg vI ?_; first | omega | (dsimp only; omega) | fail) | (refine congrArg some ?_) | omega | exact Nat.le_refl _ | exact congrArg (SV.lst _) (List.take_of_length_le (Nat.le_refl _)).symm))
    · obtain rfl : k = findK r x := by omega
      have hpx := findK_at r x p hp
      by_cases he : p.1 = x
      · conv => whnf
        repeat' (first | (refine tell (fun htest => ?_) (fun htest => ?_) <;> (try dsimp only at htest) <;> first | (exfalso; omega) | (exact absurd rfl htest) | (exact absurd (by decide) htest) | (conv => whnf)) | (refine allG (x := p.1) (by first | exact hpk | simpa [List.getElem?_append_right, lowOf] using hpk | fail) ?_; conv => whnf) | (refine allLst (x := p.1) (by first | omega | assumption | fail) (by first | exact hpk | simpa using hpk | fail) ?_; conv => whnf) | (refine allG rfl ?_; conv => whnf) | (refine And.intro (by first | omega | assumption | kernel_rfl | exact And.intro rfl rfl | ((try dsimp only [inR, idx, lowOf]); first | omega | (with_reducible decide) | (simp; omega) | fail) | fail) ?_; conv => whnf) | fail)
        exact ⟨(findK r x, true), [], ⟨rfl, ⟨fun _ => ⟨p, hp, he⟩, fun _ => rfl⟩⟩, ⟨rfl, rfl, trivial⟩, ⟨⟨rfl, rfl, trivial⟩, rfl, rfl, trivial⟩, trivial⟩
      · have hno : false = true ↔ ∃ q, r[findK r x]? = some q ∧ q.1 = x := ⟨fun h => (by cases h), fun ⟨q, hq, e⟩ => by rw [hp] at hq; cases hq; exact absurd e he⟩
        conv => whnf
        repeat' (first | (refine tell (fun htest => ?_) (fun htest => ?_) <;> (try dsimp only at htest) <;> first | (exfalso; omega) | (exact absurd rfl htest) | (exact absurd (by decide) htest) | (conv => whnf)) | (refine allG (x := p.1) (by first | exact hpk | simpa [List.getElem?_append_right, lowOf] using hpk | fail) ?_; conv => whnf) | (refine allLst (x := p.1) (by first | omega | assumption | fail) (by first | exact hpk | simpa using hpk | fail) ?_; conv => whnf) | (refine allG rfl ?_; conv => whnf) | (refine And.intro (by first | omega | assumption | kernel_rfl | exact And.intro rfl rfl | ((try dsimp only [inR, idx, lowOf]); first | omega | (with_reducible decide) | (simp; omega) | fail) | fail) ?_; conv => whnf) | fail)
        exact ⟨(findK r x, false), [], ⟨rfl, hno⟩, ⟨rfl, rfl, trivial⟩, ⟨⟨rfl, rfl, trivial⟩, rfl, rfl, trivial⟩, trivial⟩
  · obtain rfl : k = findK r x := by omega
    have hno : false = true ↔ ∃ q, r[findK r x]? = some q ∧ q.1 = x := ⟨fun h => (by cases h), fun ⟨q, hq, e⟩ => by rw [List.getElem?_eq_none (by omega)] at hq; cases hq⟩
    conv => whnf
    repeat' (first | (refine tell (fun htest => ?_) (fun htest => ?_) <;> (try dsimp only at htest) <;> first | (exfalso; omega) | (exact absurd rfl htest) | (exact absurd (by decide) htest) | (conv => whnf)) | (refine allG rfl ?_; conv => whnf) | (refine And.intro (by first | omega | assumption | kernel_rfl | exact And.intro rfl rfl | ((try dsimp only [inR, idx, lowOf]); first | omega | (with_reducible decide) | (simp; omega) | fail) | fail) ?_; conv => whnf) | fail)
    exact ⟨(findK r x, false), [], ⟨rfl, hno⟩, ⟨rfl, rfl, trivial⟩, ⟨⟨rfl, rfl, trivial⟩, rfl, rfl, trivial⟩, trivial⟩
theorem find_ex (r : TM) (x : Int) : ∃ d : Nat × Bool, d.1 = findK r x ∧ (d.2 = true ↔ ∃ p, r[findK r x]? = some p ∧ p.1 = x) := by
  by_cases h : ∃ p, r[findK r x]? = some p ∧ p.1 = x
  · exact ⟨(findK r x, true), rfl, ⟨fun _ => h, fun _ => rfl⟩⟩
  · exact ⟨(findK r x, false), rfl, ⟨fun e => (by cases e), fun h2 => absurd h2 h⟩⟩
/-- What 'find' tells, by what the table tells. -/
theorem find_yes {r : TM} (hr : Rises r) {x : Int} {k : Nat} (h : k = findK r x ∧ (true = true ↔ ∃ p, r[findK r x]? = some p ∧ p.1 = x)) : ∃ w, r[k]? = some (x, w) ∧ lookT r x = some w := by
  obtain ⟨rfl, h2⟩ := h
  obtain ⟨p, hp, hx⟩ := h2.1 rfl
  refine ⟨p.2, by rw [hp, ← hx], ?_⟩
  rw [lookT_at hr, hp]
  simp [hx]
theorem find_no {r : TM} (hr : Rises r) {x : Int} {k : Nat} (h : k = findK r x ∧ (false = true ↔ ∃ p, r[findK r x]? = some p ∧ p.1 = x)) : lookT r x = none := by
  obtain ⟨rfl, h2⟩ := h
  rw [lookT_at hr]
  cases hp : r[findK r x]? with
  | none => rfl
  | some p =>
    have : p.1 ≠ x := fun e => by have := h2.2 ⟨p, hp, e⟩; cases this
    simp [this]
def spROwner : Spec AF where
  γ := TM × Int
  δ := Int × Bool
  args := fun g => [.ptr 0 0 2 0, vI g.2]
  own := fun g => ownR g.1
  pre := fun g => g.1.length ≤ 9223372036854775807 ∧ Rises g.1
  nnew := 0
  res := fun _ d => .tup [vI d.1, vB d.2]
  own' := fun g _ => (ownR g.1).map some
  post := fun g d => d = ((lookT g.1 g.2).getD 0, (lookT g.1 g.2).isSome)
theorem m_rowner : Meets Try.prog regF 75 spROwner := by
  refine meets Try.func75 23 noWr rfl (by kernel_rfl) (by kernel_rfl) ?_
  rintro ⟨(r : TM), (x : Int)⟩ ⟨(hl : r.length ≤ 9223372036854775807), (hr : Rises r)⟩
  have hwl := whosR_len r
  conv => whnf
  repeat' (first | (refine tell (fun htest => ?_) (fun htest => ?_) <;> (try dsimp only at htest) <;> first | (exfalso; omega) | (exact absurd rfl htest) | (exact absurd (by decide) htest) | (conv => whnf)) | (refine allG rfl ?_; conv => whnf) | (refine And.intro (by first | omega | assumption | kernel_rfl | exact And.intro rfl rfl | ((try dsimp only [inR, idx, lowOf]); first | omega | (with_reducible decide) | (simp; omega) | fail) | fail) ?_; conv => whnf) | fail)
  refine ⟨_, m_find, (r, x), [0, 1, 2], false, ?_⟩
  conv => whnf
  refine And.intro (vc0 hl (by (repeat' (first | exact trivial | exact rfl | refine And.intro ?_ ?_ | (refine congrArg vI ?_; first | omega | (dsimp only; omega) | fail) | (refine congrArg some ?_) | omega | exact Nat.le_refl _ | exact congrArg (SV.lst _) (List.take_of_length_le (Nat.le_refl _)).symm))) (by repeat' (first | exact trivial | exact rfl | refine And.intro ?_ ?_ | (refine congrArg vI ?_; first | omega | (dsimp only; omega) | fail) | (refine congrArg some ?_) | omega | exact Nat.le_refl _ | exact congrArg (SV.lst _) (List.take_of_length_le (Nat.le_refl _)).symm)) trivial trivial) ?_
  refine And.intro (find_ex r x) ?_
  rintro ⟨(k : Nat), (is : Bool)⟩ hd
  cases is
  · have hd : lookT r x = none := find_no hr hd
    conv => whnf
    repeat' (first | (refine tell (fun htest => ?_) (fun htest => ?_) <;> (try dsimp only at htest) <;> first | (exfalso; omega) | (exact absurd rfl htest) | (exact absurd (by decide) htest) | (conv => whnf)) | (refine allG rfl ?_; conv => whnf) | (refine And.intro (by first | omega | assumption | kernel_rfl | exact And.intro rfl rfl | ((try dsimp only [inR, idx, lowOf]); first | omega | (with_reducible decide) | (simp; omega) | fail) | fail) ?_; conv => whnf) | fail)
    exact ⟨(0, false), [], (by show _ = _; rw [hd]; rfl), ⟨rfl, rfl, trivial⟩, ⟨⟨rfl, rfl, trivial⟩, rfl, rfl, trivial⟩, trivial⟩
  · obtain ⟨w, hw, hd⟩ := find_yes hr hd
    have hwk := whosR_at hw
    have hkl := (List.getElem?_eq_some_iff.1 hw).1
    conv => whnf
    repeat' (first | (refine tell (fun htest => ?_) (fun htest => ?_) <;> (try dsimp only at htest) <;> first | (exfalso; omega) | (exact absurd rfl htest) | (exact absurd (by decide) htest) | (conv => whnf)) | (refine allG (x := w) (by first | exact hwk | simpa [List.getElem?_append_right, lowOf] using hwk | fail) ?_; conv => whnf) | (refine allLst (x := w) (by first | omega | assumption | fail) (by first | exact hwk | simpa using hwk | fail) ?_; conv => whnf) | (refine allG rfl ?_; conv => whnf) | (refine And.intro (by first | omega | assumption | kernel_rfl | exact And.intro rfl rfl | ((try dsimp only [inR, idx, lowOf]); first | omega | (with_reducible decide) | (simp; omega) | fail) | fail) ?_; conv => whnf) | fail)
    exact ⟨(w, true), [], (by show _ = _; rw [hd]; rfl), ⟨rfl, rfl, trivial⟩, ⟨⟨rfl, rfl, trivial⟩, rfl, rfl, trivial⟩, trivial⟩
/-- Somebody's elements, in the document's table. -/
def ofR (r : TM) (who : Int) : List Int := (r.filter fun p => decide (p.2 = who)).map (·.1)
theorem ofR_snoc {r : TM} {i : Nat} {p : Int × Int} (who : Int) (hp : r[i]? = some p) : ofR (r.take (i + 1)) who = ofR (r.take i) who ++ if p.2 = who then [p.1] else [] := by
  unfold ofR
  rw [take_snocI hp, List.filter_append, List.map_append, List.filter_cons]
  by_cases h : p.2 = who
  · rw [if_pos (decide_eq_true h), if_pos h]; rfl
  · rw [if_neg (by simpa using h), if_neg h]; rfl
theorem ofR_len (r : TM) (who : Int) : (ofR r who).length ≤ r.length := by unfold ofR; rw [List.length_map]; exact List.length_filter_le _ _
def spROf : Spec AF where
  γ := TM × Int
  δ := Unit
  args := fun g => [.ptr 0 0 2 0, vI g.2]
  own := fun g => ownR g.1
  pre := fun g => g.1.length ≤ 17592186044416
  nnew := 0
  res := fun g _ => .lst 3 (ofR g.1 g.2)
  own' := fun g _ => (ownR g.1).map some
  post := fun _ _ => True
theorem m_rof : Meets Try.prog regF 73 spROf := by
  refine meets Try.func73 36 noWr rfl (by kernel_rfl) (by kernel_rfl) ?_
  rintro ⟨(r : TM), (who : Int)⟩ (hl : r.length ≤ 17592186044416)
  have hwl := whosR_len r
  have hkl := keysR_len r
  conv => whnf
  repeat' (first | (refine tell (fun htest => ?_) (fun htest => ?_) <;> (try dsimp only at htest) <;> first | (exfalso; omega) | (exact absurd rfl htest) | (exact absurd (by decide) htest) | (conv => whnf)) | (refine allG rfl ?_; conv => whnf) | (refine And.intro (by first | omega | assumption | kernel_rfl | exact And.intro rfl rfl | ((try dsimp only [inR, idx, lowOf]); first | omega | (with_reducible decide) | (simp; omega) | fail) | fail) ?_; conv => whnf) | fail)
  refine ⟨Nat, fun i => ⟨[(0, .ptr 0 0 2 0), (1, vI who), (5, .sl 3000 1 0 (ofR (r.take i) who).length), (6, vI i)], [(0, refT 1 2 r.length), (1, .arr 3 (keysR r)), (2, .arr 3 (whosR r)), (3000, .arr 3 (ofR (r.take i) who))]⟩, fun i => i ≤ r.length, fun i => r.length - i, fun _ _ => rfl, ⟨0, [], Nat.zero_le _, ?_⟩, ?_⟩
  · refine ⟨rfl, ?_, ?_, rfl⟩
    all_goals (repeat' (first | exact trivial | exact rfl | refine And.intro ?_ ?_ | (refine congrArg vI ?_; first | omega | (dsimp only; omega) | fail) | (refine congrArg some ?_) | omega | exact Nat.le_refl _ | exact congrArg (SV.lst _) (List.take_of_length_le (Nat.le_refl _)).symm))
  rintro (i : Nat) (hi : i ≤ r.length)
  have hol := ofR_len (r.take i) who
  rw [List.length_take] at hol
  by_cases hlt : i < r.length
  · obtain ⟨p, hp⟩ : ∃ p, r[i]? = some p := ⟨_, List.getElem?_eq_getElem hlt⟩
    have hpk := keysR_at hp
    have hpw := whosR_at hp
    have hsn := ofR_snoc who hp
    by_cases hw : p.2 = who
    · rw [if_pos hw] at hsn
      conv => whnf
      repeat' (first | (refine tell (fun htest => ?_) (fun htest => ?_) <;> (try dsimp only at htest) <;> first | (exfalso; omega) | (exact absurd rfl htest) | (exact absurd (by decide) htest) | (conv => whnf)) | (refine allG (x := p.2) (by first | exact hpw | simpa [List.getElem?_append_right, lowOf] using hpw | fail) ?_; conv => whnf) | (refine allLst (x := p.2) (by first | omega | assumption | fail) (by first | exact hpw | simpa using hpw | fail) ?_; conv => whnf) | (refine allG (x := p.1) (by first | exact hpk | simpa [List.getElem?_append_right, lowOf] using hpk | fail) ?_; conv => whnf) | (refine allLst (x := p.1) (by first | omega | assumption | fail) (by first | exact hpk | simpa using hpk | fail) ?_; conv => whnf) | (refine allG rfl ?_; conv => whnf) | (refine And.intro (by first | omega | assumption | kernel_rfl | exact And.intro rfl rfl | ((try dsimp only [inR, idx, lowOf]); first | omega | (with_reducible decide) | (simp; omega) | fail) | fail) ?_; conv => whnf) | fail)
      refine ⟨i + 1, [(3000, 1034)], hlt, ?_, rfl, ?_, ?_, rfl⟩
      · dsimp only; first | omega | (simp; done) | (simp; omega)
      all_goals (repeat' (first | exact trivial | exact rfl | refine And.intro ?_ ?_ | (refine congrArg vI ?_; first | omega | (dsimp only; omega) | fail) | (refine congrArg some ?_) | omega | exact Nat.le_refl _ | exact congrArg (SV.lst _) (List.take_of_length_le (Nat.le_refl _)).symm))
      · exact congrArg (SV.sl (A := AF) 1034 1 0) (show (ofR (r.take i) who).length + 1 = (ofR (r.take (i + 1)) who).length by rw [hsn]; simp)
      · exact congrArg (Ct.arr (A := AF) 3) (show ((ofR (r.take i) who).drop 0).take (ofR (r.take i) who).length ++ [p.1] = ofR (r.take (i + 1)) who by rw [hsn]; simp)
    · rw [if_neg hw, List.append_nil] at hsn
      conv => whnf
      repeat' (first | (refine tell (fun htest => ?_) (fun htest => ?_) <;> (try dsimp only at htest) <;> first | (exfalso; omega) | (exact absurd rfl htest) | (exact absurd (by decide) htest) | (conv => whnf)) | (refine allG (x := p.2) (by first | exact hpw | simpa [List.getElem?_append_right, lowOf] using hpw | fail) ?_; conv => whnf) | (refine allLst (x := p.2) (by first | omega | assumption | fail) (by first | exact hpw | simpa using hpw | fail) ?_; conv => whnf) | (refine allG rfl ?_; conv => whnf) | (refine And.intro (by first | omega | assumption | kernel_rfl | exact And.intro rfl rfl | ((try dsimp only [inR, idx, lowOf]); first | omega | (with_reducible decide) | (simp; omega) | fail) | fail) ?_; conv => whnf) | fail)
      refine ⟨i + 1, [], hlt, ?_, rfl, ?_, ?_, rfl⟩
      · dsimp only; first | omega | (simp; done) | (simp; omega)
      all_goals (repeat' (first | exact trivial | exact rfl | refine And.intro ?_ ?_ | (refine congrArg vI ?_; first | omega | (dsimp only; omega) | fail) | (refine congrArg some ?_) | omega | exact Nat.le_refl _ | exact congrArg (SV.lst _) (List.take_of_length_le (Nat.le_refl _)).symm))
      · exact congrArg (SV.sl (A := AF) 3000 1 0) (congrArg List.length hsn.symm)
      · exact congrArg (Ct.arr (A := AF) 3) hsn.symm
  · obtain rfl : i = r.length := by omega
    conv => whnf
    repeat' (first | (refine tell (fun htest => ?_) (fun htest => ?_) <;> (try dsimp only at htest) <;> first | (exfalso; omega) | (exact absurd rfl htest) | (exact absurd (by decide) htest) | (conv => whnf)) | (refine allG rfl ?_; conv => whnf) | (refine And.intro (by first | omega | assumption | kernel_rfl | exact And.intro rfl rfl | ((try dsimp only [inR, idx, lowOf]); first | omega | (with_reducible decide) | (simp; omega) | fail) | fail) ?_; conv => whnf) | fail)
    refine ⟨(), [], trivial, ⟨by simp, rfl, ?_⟩, ⟨⟨rfl, rfl, trivial⟩, rfl, rfl, trivial⟩, trivial⟩
    exact congrArg (SV.lst (A := AF) 3) (show ofR r who = ((ofR (r.take r.length) who).drop 0).take (ofR (r.take r.length) who).length by rw [List.take_of_length_le (Nat.le_refl r.length)]; simp)
end Go.Sx

