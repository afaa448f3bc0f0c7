/-
  Layer 14, part D: elements of raw numbers; the example.
-/
import Derived.Test.YtmogappoadglgaaTabC
namespace Go.Sx
open Go Go.Proofs Go.Proofs.Ytmogappoadglgaa
theorem tdiv9 {x : Int} (h : InI x) : -9223372036854775808 ≤ x.tdiv 9 ∧ x.tdiv 9 ≤ 9223372036854775807 := by
  obtain ⟨h1, h2⟩ := h
  by_cases h0 : x < 0
  · obtain ⟨y, rfl⟩ : ∃ y, x = -y := ⟨-x, by omega⟩
    rw [Int.neg_tdiv, Int.tdiv_eq_ediv_of_nonneg (by omega)]
    omega
  · rw [Int.tdiv_eq_ediv_of_nonneg (by omega)]
    omega
def elemF (x : Int) : Int := pickF x 9 + 1000 * pickF (x.tdiv 9) 2
def elemsL (l : List Int) : List Int := (l.take 8).map elemF
theorem elemF_bd (x : Int) : 0 ≤ elemF x ∧ elemF x ≤ 1008 := by
  have h1 := pickF_bd (c := x) (n := 9) (by omega)
  have h2 := pickF_bd (c := x.tdiv 9) (n := 2) (by omega)
  unfold elemF; omega
theorem elemsL_in (l : List Int) : ∀ x ∈ elemsL l, InI x := fun x hx => by
  obtain ⟨y, _, rfl⟩ := List.mem_map.1 hx
  have := elemF_bd y
  exact ⟨by omega, by omega⟩
theorem elemsL_len (l : List Int) : (elemsL l).length ≤ 8 := by unfold elemsL; rw [List.length_map, List.length_take]; omega
theorem elemsL_ok (l : List Int) : InL (elemsL l) := ⟨by have := elemsL_len l; omega, elemsL_in l⟩
def spElems : Spec AF where
  γ := List Int
  δ := Unit
  args := fun g => [.lst 3 g]
  own := fun _ => []
  pre := fun g => InL g
  nnew := 0
  res := fun g _ => .lst 3 (elemsL g)
  own' := fun _ _ => []
  post := fun _ _ => True
theorem elems_end {l : List Int} {i : Nat} (h : elemsL l = (l.take i).map elemF) : elemsL l = (((l.take i).map elemF).drop 0).take ((l.take i).map elemF).length := by
  rw [h, List.drop_zero, List.take_length]
theorem m_elems : Meets Try.prog regF 69 spElems := by
  refine meets Try.func69 32 noWr rfl (by kernel_rfl) (by kernel_rfl) ?_
  rintro (l : List Int) ⟨(hl : l.length ≤ 9223372036854775807), (hI : ∀ x ∈ l, InI x)⟩
  conv => whnf
  repeat' (first | (refine tell (fun htest => ?_) (fun htest => ?_) <;> (try dsimp only at htest) <;> first | (exfalso; omega) | (exact absurd rfl htest) | (exact absurd (by decide) htest) | (conv => whnf)) | (refine allG rfl ?_; conv => whnf) | (refine And.intro (by first | omega | assumption | kernel_rfl | exact And.intro rfl rfl | ((try dsimp only [inR, idx, lowOf]); first | omega | (with_reducible decide) | (simp; omega) | fail) | fail) ?_; conv => whnf) | fail)
  refine ⟨Nat, fun i => ⟨[(0, .lst 3 l), (3, .sl 3000 1 0 ((l.take i).map elemF).length), (4, vI i)], [(3000, .arr 3 ((l.take i).map elemF))]⟩, fun i => i ≤ l.length ∧ i ≤ 8, fun i => 8 - i, fun _ _ => rfl, ⟨0, [], ⟨Nat.zero_le _, Nat.zero_le _⟩, ?_⟩, ?_⟩
  · refine ⟨rfl, ?_, ?_, rfl⟩
    all_goals (repeat' (first | exact trivial | exact rfl | refine And.intro ?_ ?_ | (refine congrArg vI ?_; first | omega | (dsimp only; omega) | fail) | (refine congrArg some ?_) | omega | exact Nat.le_refl _ | exact congrArg (SV.lst _) (List.take_of_length_le (Nat.le_refl _)).symm))
  rintro (i : Nat) ⟨(hi : i ≤ l.length), (hi8 : i ≤ 8)⟩
  have hml : ((l.take i).map elemF).length = i := by rw [List.length_map, List.length_take]; omega
  by_cases hlt : i < l.length
  · by_cases h8 : i < 8
    · obtain ⟨x, hx⟩ : ∃ x, l[i]? = some x := ⟨_, List.getElem?_eq_getElem hlt⟩
      have hxI := hI x (List.mem_of_getElem? hx)
      have htd := tdiv9 hxI
      have h1 := pickF_bd (c := x) (n := 9) (by omega)
      have h2 := pickF_bd (c := x.tdiv 9) (n := 2) (by omega)
      have hsn : (l.take (i + 1)).map elemF = (l.take i).map elemF ++ [elemF x] := by rw [take_snocI hx, List.map_append]; rfl
      conv => whnf
      repeat' (first | (refine tell (fun htest => ?_) (fun htest => ?_) <;> (try dsimp only at htest) <;> first | (exfalso; omega) | (exact absurd rfl htest) | (exact absurd (by decide) htest) | (conv => whnf)) | (refine allG (x := x) (by first | exact hx | simpa [List.getElem?_append_right, lowOf] using hx | fail) ?_; conv => whnf) | (refine allLst (x := x) (by first | omega | assumption | fail) (by first | exact hx | simpa using hx | fail) ?_; conv => whnf) | (refine allG rfl ?_; conv => whnf) | (refine And.intro (by first | omega | assumption | kernel_rfl | exact And.intro rfl rfl | ((try dsimp only [inR, idx, lowOf]); first | omega | (with_reducible decide) | (simp; omega) | fail) | fail) ?_; conv => whnf) | fail)
      refine ⟨_, m_pick14, (x, 9), [], false, ?_⟩
      conv => whnf
      refine And.intro (vc0 ⟨hxI, by show (0 : Int) < 9; decide⟩ (by (repeat' (first | exact trivial | exact rfl | refine And.intro ?_ ?_ | (refine congrArg vI ?_; first | omega | (dsimp only; omega) | fail) | (refine congrArg some ?_) | omega | exact Nat.le_refl _ | exact congrArg (SV.lst _) (List.take_of_length_le (Nat.le_refl _)).symm))) (by repeat' (first | exact trivial | exact rfl | refine And.intro ?_ ?_ | (refine congrArg vI ?_; first | omega | (dsimp only; omega) | fail) | (refine congrArg some ?_) | omega | exact Nat.le_refl _ | exact congrArg (SV.lst _) (List.take_of_length_le (Nat.le_refl _)).symm)) trivial trivial) ?_
      refine And.intro ⟨(), trivial⟩ (fun (_ : Unit) _ => ?_)
      conv => whnf
      conv => whnf
      repeat' (first | (refine tell (fun htest => ?_) (fun htest => ?_) <;> (try dsimp only at htest) <;> first | (exfalso; omega) | (exact absurd rfl htest) | (exact absurd (by decide) htest) | (conv => whnf)) | (refine allG (x := x) (by first | exact hx | simpa [List.getElem?_append_right, lowOf] using hx | fail) ?_; conv => whnf) | (refine allLst (x := x) (by first | omega | assumption | fail) (by first | exact hx | simpa using hx | fail) ?_; conv => whnf) | (refine allG rfl ?_; conv => whnf) | (refine And.intro (by first | omega | assumption | kernel_rfl | exact And.intro rfl rfl | ((try dsimp only [inR, idx, lowOf]); first | omega | (with_reducible decide) | (simp; omega) | fail) | fail) ?_; conv => whnf) | fail)
      refine ⟨_, m_pick14, (x.tdiv 9, 2), [], false, ?_⟩
      conv => whnf
      refine And.intro (vc0 ⟨htd, by show (0 : Int) < 2; decide⟩ (by (repeat' (first | exact trivial | exact rfl | refine And.intro ?_ ?_ | (refine congrArg vI ?_; first | omega | (dsimp only; omega) | fail) | (refine congrArg some ?_) | omega | exact Nat.le_refl _ | exact congrArg (SV.lst _) (List.take_of_length_le (Nat.le_refl _)).symm))) (by repeat' (first | exact trivial | exact rfl | refine And.intro ?_ ?_ | (refine congrArg vI ?_; first | omega | (dsimp only; omega) | fail) | (refine congrArg some ?_) | omega | exact Nat.le_refl _ | exact congrArg (SV.lst _) (List.take_of_length_le (Nat.le_refl _)).symm)) trivial trivial) ?_
      refine And.intro ⟨(), trivial⟩ (fun (_ : Unit) _ => ?_)
      conv => whnf
      conv => whnf
      repeat' (first | (refine tell (fun htest => ?_) (fun htest => ?_) <;> (try dsimp only at htest) <;> first | (exfalso; omega) | (exact absurd rfl htest) | (exact absurd (by decide) htest) | (conv => whnf)) | (refine allG rfl ?_; conv => whnf) | (refine And.intro (by first | omega | assumption | kernel_rfl | exact And.intro rfl rfl | ((try dsimp only [inR, idx, lowOf]); first | omega | (with_reducible decide) | (simp; omega) | fail) | fail) ?_; conv => whnf) | fail)
      refine ⟨i + 1, [(3000, 1030)], ⟨hlt, h8⟩, ?_, rfl, ?_, ?_, rfl⟩
      · dsimp only; first | omega | (simp; done) | (simp; omega)
      all_goals (repeat' (first | exact trivial | exact rfl | refine And.intro ?_ ?_ | (refine congrArg vI ?_; first | omega | (dsimp only; omega) | fail) | (refine congrArg some ?_) | omega | exact Nat.le_refl _ | exact congrArg (SV.lst _) (List.take_of_length_le (Nat.le_refl _)).symm))
      · exact congrArg (SV.sl (A := AF) 1030 1 0) (show ((l.take i).map elemF).length + 1 = ((l.take (i + 1)).map elemF).length by rw [hsn, List.length_append]; rfl)
      · exact congrArg (Ct.arr (A := AF) 3) (show (((l.take i).map elemF).drop 0).take ((l.take i).map elemF).length ++ [elemF x] = (l.take (i + 1)).map elemF by rw [hsn, List.drop_zero, List.take_length])
    · obtain rfl : i = 8 := by omega
      conv => whnf
      repeat' (first | (refine tell (fun htest => ?_) (fun htest => ?_) <;> (try dsimp only at htest) <;> first | (exfalso; omega) | (exact absurd rfl htest) | (exact absurd (by decide) htest) | (conv => whnf)) | (refine allG rfl ?_; conv => whnf) | (refine And.intro (by first | omega | assumption | kernel_rfl | exact And.intro rfl rfl | ((try dsimp only [inR, idx, lowOf]); first | omega | (with_reducible decide) | (simp; omega) | fail) | fail) ?_; conv => whnf) | fail)
      refine ⟨(), [], trivial, ⟨by simp, rfl, ?_⟩, trivial, trivial⟩
      exact congrArg (SV.lst (A := AF) 3) (elems_end (l := l) (i := 8) rfl)
  · conv => whnf
    repeat' (first | (refine tell (fun htest => ?_) (fun htest => ?_) <;> (try dsimp only at htest) <;> first | (exfalso; omega) | (exact absurd rfl htest) | (exact absurd (by decide) htest) | (conv => whnf)) | (refine allG rfl ?_; conv => whnf) | (refine And.intro (by first | omega | assumption | kernel_rfl | exact And.intro rfl rfl | ((try dsimp only [inR, idx, lowOf]); first | omega | (with_reducible decide) | (simp; omega) | fail) | fail) ?_; conv => whnf) | fail)
    refine ⟨(), [], trivial, ⟨by simp, rfl, ?_⟩, trivial, trivial⟩
    exact congrArg (SV.lst (A := AF) 3) (elems_end (l := l) (i := i) (by unfold elemsL; rw [List.take_of_length_le (show l.length ≤ 8 by omega), List.take_of_length_le (show l.length ≤ i by omega)]))
theorem claim_ex (es : TM) (who : Int) (l : List Int) : ∃ c : Bool, c = true ↔ ClaimOk es who l := by
  by_cases h : ClaimOk es who l
  · exact ⟨true, by simp [h]⟩
  · exact ⟨false, by simp [h]⟩
/-- Owner, its answer under a name of its own; Free, likewise. -/
def spOwnerD : Spec AF where
  γ := TM × Int
  δ := Int × Bool
  args := fun g => [.ptr 0 0 1 0, vI g.2]
  own := fun g => [tabC, .map 3 3 g.1]
  pre := fun g => InI g.2
  nnew := 0
  res := fun _ d => .tup [vI d.1, vB d.2]
  own' := fun g _ => [some tabC, some (.map 3 3 g.1)]
  post := fun g d => d = ((lookT g.1 g.2).getD 0, (lookT g.1 g.2).isSome)
theorem m_ownerD : Meets Try.prog regF 74 spOwnerD :=
  ⟨m_owner.1, fun g hg X ρ w vs h1 h2 h3 h4 => (m_owner.2 g hg X ρ w vs h1 h2 h3 h4).mono fun _ _ hp => by
    obtain ⟨_, ρ', v, _, rest⟩ := hp
    exact ⟨((lookT g.1 g.2).getD 0, (lookT g.1 g.2).isSome), ρ', v, rfl, rest⟩⟩
def spFreeD : Spec AF where
  γ := TM × Int × List Int
  δ := TM × Nat
  args := fun g => [.ptr 0 0 1 0, vI g.2.1, .lst 3 g.2.2]
  own := fun g => [tabC, .map 3 3 g.1]
  pre := fun g => InL g.2.2
  nnew := 0
  res := fun _ d => vI d.2
  own' := fun _ d => [some tabC, some (.map 3 3 d.1)]
  post := fun g d => d = freeL g.2.1 g.1 g.2.2
theorem m_freeD : Meets Try.prog regF 70 spFreeD :=
  ⟨m_free.1, fun g hg X ρ w vs h1 h2 h3 h4 => (m_free.2 g hg X ρ w vs h1 h2 h3 h4).mono fun _ _ hp => by
    obtain ⟨_, ρ', v, _, rest⟩ := hp
    exact ⟨freeL g.2.1 g.1 g.2.2, ρ', v, rfl, rest⟩⟩
/-- Claim, what the map holds behind it under a name of its own. -/
def spClaimD : Spec AF where
  γ := TM × Int × List Int
  δ := Bool × TM
  args := fun g => [.ptr 0 0 1 0, vI g.2.1, .lst 3 g.2.2]
  own := fun g => [tabC, .map 3 3 g.1]
  pre := fun g => InL g.2.2
  nnew := 0
  res := fun _ d => vB d.1
  own' := fun _ d => [some tabC, some (.map 3 3 d.2)]
  post := fun g d => (d.1 = true ↔ ClaimOk g.1 g.2.1 g.2.2) ∧ d.2 = if d.1 then claimL g.2.1 g.1 g.2.2 else g.1
theorem m_claimD : Meets Try.prog regF 66 spClaimD :=
  ⟨m_claim.1, fun g hg X ρ w vs h1 h2 h3 h4 => (m_claim.2 g hg X ρ w vs h1 h2 h3 h4).mono fun _ _ hp => by
    obtain ⟨(c : Bool), ρ', v, hc, rest⟩ := hp
    exact ⟨((c, if c then claimL g.2.1 g.1 g.2.2 else g.1) : Bool × TM), ρ', v, ⟨hc, rfl⟩, rest⟩⟩
theorem claimD_ex (es : TM) (who : Int) (l : List Int) : ∃ d : Bool × TM, (d.1 = true ↔ ClaimOk es who l) ∧ d.2 = if d.1 then claimL who es l else es := by
  obtain ⟨c, hc⟩ := claim_ex es who l
  exact ⟨(c, if c then claimL who es l else es), hc, rfl⟩
theorem inL_of {l : List Int} (h : l.length ≤ 100) (h2 : ∀ x ∈ l, 0 ≤ x ∧ x ≤ 10000) : InL l := ⟨by omega, fun x hx => by have := h2 x hx; exact ⟨by omega, by omega⟩⟩
theorem of34 : ofL (claimL 1 [] [3, 4]) 1 = [3, 4] := by
  have h : sortK (claimL 1 [] [3, 4]) = [3, 4] := by
    show ([3, 4] : List Int).mergeSort _ = [3, 4]
    exact List.mergeSort_of_pairwise (by simp)
  unfold ofL
  rw [h]
  rfl
theorem a1_in : ∀ p ∈ (claimL 1 [] [3, 4]), InI p.1 := fun p hp => by
  have hp : p ∈ [((3 : Int), (1 : Int)), (4, 1)] := hp
  simp at hp
  rcases hp with rfl | rfl <;> exact ⟨by decide, by decide⟩
def spAwakeT : Spec AF where
  γ := Unit
  δ := Unit
  args := fun _ => []
  own := fun _ => []
  pre := fun _ => True
  nnew := 0
  res := fun _ _ => vB true
  own' := fun _ _ => []
  post := fun _ _ => True
theorem m_awakeT : Meets Try.prog regF 63 spAwakeT := by
  refine meets Try.func63 55 noWr rfl (by kernel_rfl) (by kernel_rfl) ?_
  rintro ⟨⟩ ⟨⟩
  conv => whnf
  repeat' (first | (refine tell (fun htest => ?_) (fun htest => ?_) <;> (try dsimp only at htest) <;> first | (exfalso; omega) | (exact absurd rfl htest) | (exact absurd (by decide) htest) | (conv => whnf)) | (refine allG rfl ?_; conv => whnf) | (refine And.intro (by first | omega | assumption | kernel_rfl | exact And.intro rfl rfl | ((try dsimp only [inR, idx, lowOf]); first | omega | (with_reducible decide) | (simp; omega) | fail) | fail) ?_; conv => whnf) | fail)
  refine ⟨_, m_tnew, (), [], false, ?_⟩
  conv => whnf
  refine And.intro (vc0 trivial (by (repeat' (first | exact trivial | exact rfl | refine And.intro ?_ ?_ | (refine congrArg vI ?_; first | omega | (dsimp only; omega) | fail) | (refine congrArg some ?_) | omega | exact Nat.le_refl _ | exact congrArg (SV.lst _) (List.take_of_length_le (Nat.le_refl _)).symm))) (by repeat' (first | exact trivial | exact rfl | refine And.intro ?_ ?_ | (refine congrArg vI ?_; first | omega | (dsimp only; omega) | fail) | (refine congrArg some ?_) | omega | exact Nat.le_refl _ | exact congrArg (SV.lst _) (List.take_of_length_le (Nat.le_refl _)).symm)) trivial trivial) ?_
  refine And.intro ⟨(), trivial⟩ (fun (_ : Unit) _ => ?_)
  conv => whnf
  conv => whnf
  repeat' (first | (refine tell (fun htest => ?_) (fun htest => ?_) <;> (try dsimp only at htest) <;> first | (exfalso; omega) | (exact absurd rfl htest) | (exact absurd (by decide) htest) | (conv => whnf)) | (refine allG rfl ?_; conv => whnf) | (refine And.intro (by first | omega | assumption | kernel_rfl | exact And.intro rfl rfl | ((try dsimp only [inR, idx, lowOf]); first | omega | (with_reducible decide) | (simp; omega) | fail) | fail) ?_; conv => whnf) | fail)
  refine ⟨_, m_claimD, ([], 1, [3, 4]), [1008, 2008], false, ?_⟩
  conv => whnf
  refine And.intro (vc0 (inL_of (by decide) (by decide)) (by (repeat' (first | exact trivial | exact rfl | refine And.intro ?_ ?_ | (refine congrArg vI ?_; first | omega | (dsimp only; omega) | fail) | (refine congrArg some ?_) | omega | exact Nat.le_refl _ | exact congrArg (SV.lst _) (List.take_of_length_le (Nat.le_refl _)).symm))) (by repeat' (first | exact trivial | exact rfl | refine And.intro ?_ ?_ | (refine congrArg vI ?_; first | omega | (dsimp only; omega) | fail) | (refine congrArg some ?_) | omega | exact Nat.le_refl _ | exact congrArg (SV.lst _) (List.take_of_length_le (Nat.le_refl _)).symm)) trivial trivial) ?_
  refine And.intro (claimD_ex _ _ _) ?_
  rintro ⟨(c : Bool), (m : TM)⟩ ⟨(hc : c = true ↔ ClaimOk [] 1 [3, 4]), (hm : m = if c then claimL 1 [] [3, 4] else [])⟩
  cases c
  · have := hc.2 (fun x _ w hw => by cases hw); cases this
  obtain rfl : m = (claimL 1 [] [3, 4]) := hm
  conv => whnf
  repeat' (first | (refine tell (fun htest => ?_) (fun htest => ?_) <;> (try dsimp only at htest) <;> first | (exfalso; omega) | (exact absurd rfl htest) | (exact absurd (by decide) htest) | (conv => whnf)) | (refine allG rfl ?_; conv => whnf) | (refine And.intro (by first | omega | assumption | kernel_rfl | exact And.intro rfl rfl | ((try dsimp only [inR, idx, lowOf]); first | omega | (with_reducible decide) | (simp; omega) | fail) | fail) ?_; conv => whnf) | fail)
  refine ⟨_, m_claimD, ((claimL 1 [] [3, 4]), 2, [4, 5]), [1008, 2008], false, ?_⟩
  conv => whnf
  refine And.intro (vc0 (inL_of (by decide) (by decide)) (by (repeat' (first | exact trivial | exact rfl | refine And.intro ?_ ?_ | (refine congrArg vI ?_; first | omega | (dsimp only; omega) | fail) | (refine congrArg some ?_) | omega | exact Nat.le_refl _ | exact congrArg (SV.lst _) (List.take_of_length_le (Nat.le_refl _)).symm))) (by repeat' (first | exact trivial | exact rfl | refine And.intro ?_ ?_ | (refine congrArg vI ?_; first | omega | (dsimp only; omega) | fail) | (refine congrArg some ?_) | omega | exact Nat.le_refl _ | exact congrArg (SV.lst _) (List.take_of_length_le (Nat.le_refl _)).symm)) trivial trivial) ?_
  refine And.intro (claimD_ex _ _ _) ?_
  rintro ⟨(c : Bool), (m : TM)⟩ ⟨(hc2 : c = true ↔ ClaimOk (claimL 1 [] [3, 4]) 2 [4, 5]), (hm2 : m = if c then claimL 2 (claimL 1 [] [3, 4]) [4, 5] else (claimL 1 [] [3, 4]))⟩
  cases c
  rotate_left
  · have := hc2.1 rfl 4 (by simp) 1 (by rfl); exact absurd this (by decide)
  obtain rfl : m = (claimL 1 [] [3, 4]) := hm2
  conv => whnf
  repeat' (first | (refine tell (fun htest => ?_) (fun htest => ?_) <;> (try dsimp only at htest) <;> first | (exfalso; omega) | (exact absurd rfl htest) | (exact absurd (by decide) htest) | (conv => whnf)) | (refine allG rfl ?_; conv => whnf) | (refine And.intro (by first | omega | assumption | kernel_rfl | exact And.intro rfl rfl | ((try dsimp only [inR, idx, lowOf]); first | omega | (with_reducible decide) | (simp; omega) | fail) | fail) ?_; conv => whnf) | fail)
  refine ⟨_, m_ownerD, ((claimL 1 [] [3, 4]), 4), [1008, 2008], false, ?_⟩
  conv => whnf
  refine And.intro (vc0 ⟨by decide, by decide⟩ (by (repeat' (first | exact trivial | exact rfl | refine And.intro ?_ ?_ | (refine congrArg vI ?_; first | omega | (dsimp only; omega) | fail) | (refine congrArg some ?_) | omega | exact Nat.le_refl _ | exact congrArg (SV.lst _) (List.take_of_length_le (Nat.le_refl _)).symm))) (by repeat' (first | exact trivial | exact rfl | refine And.intro ?_ ?_ | (refine congrArg vI ?_; first | omega | (dsimp only; omega) | fail) | (refine congrArg some ?_) | omega | exact Nat.le_refl _ | exact congrArg (SV.lst _) (List.take_of_length_le (Nat.le_refl _)).symm)) trivial trivial) ?_
  refine And.intro ⟨_, rfl⟩ ?_
  rintro ⟨(v : Int), (is : Bool)⟩ (hv : (v, is) = ((lookT (claimL 1 [] [3, 4]) 4).getD 0, (lookT (claimL 1 [] [3, 4]) 4).isSome))
  have hv : (v, is) = (1, true) := hv
  cases hv
  conv => whnf
  repeat' (first | (refine tell (fun htest => ?_) (fun htest => ?_) <;> (try dsimp only at htest) <;> first | (exfalso; omega) | (exact absurd rfl htest) | (exact absurd (by decide) htest) | (conv => whnf)) | (refine allG rfl ?_; conv => whnf) | (refine And.intro (by first | omega | assumption | kernel_rfl | exact And.intro rfl rfl | ((try dsimp only [inR, idx, lowOf]); first | omega | (with_reducible decide) | (simp; omega) | fail) | fail) ?_; conv => whnf) | fail)
  refine ⟨_, m_ownerD, ((claimL 1 [] [3, 4]), 5), [1008, 2008], false, ?_⟩
  conv => whnf
  refine And.intro (vc0 ⟨by decide, by decide⟩ (by (repeat' (first | exact trivial | exact rfl | refine And.intro ?_ ?_ | (refine congrArg vI ?_; first | omega | (dsimp only; omega) | fail) | (refine congrArg some ?_) | omega | exact Nat.le_refl _ | exact congrArg (SV.lst _) (List.take_of_length_le (Nat.le_refl _)).symm))) (by repeat' (first | exact trivial | exact rfl | refine And.intro ?_ ?_ | (refine congrArg vI ?_; first | omega | (dsimp only; omega) | fail) | (refine congrArg some ?_) | omega | exact Nat.le_refl _ | exact congrArg (SV.lst _) (List.take_of_length_le (Nat.le_refl _)).symm)) trivial trivial) ?_
  refine And.intro ⟨_, rfl⟩ ?_
  rintro ⟨(v : Int), (is : Bool)⟩ (hv : (v, is) = ((lookT (claimL 1 [] [3, 4]) 5).getD 0, (lookT (claimL 1 [] [3, 4]) 5).isSome))
  have hv : (v, is) = (0, false) := hv
  cases hv
  conv => whnf
  repeat' (first | (refine tell (fun htest => ?_) (fun htest => ?_) <;> (try dsimp only at htest) <;> first | (exfalso; omega) | (exact absurd rfl htest) | (exact absurd (by decide) htest) | (conv => whnf)) | (refine allG rfl ?_; conv => whnf) | (refine And.intro (by first | omega | assumption | kernel_rfl | exact And.intro rfl rfl | ((try dsimp only [inR, idx, lowOf]); first | omega | (with_reducible decide) | (simp; omega) | fail) | fail) ?_; conv => whnf) | fail)
  refine ⟨_, m_of, ((claimL 1 [] [3, 4]), 1), [1008, 2008], false, ?_⟩
  conv => whnf
  refine And.intro (vc0 ⟨by decide, a1_in⟩ (by (repeat' (first | exact trivial | exact rfl | refine And.intro ?_ ?_ | (refine congrArg vI ?_; first | omega | (dsimp only; omega) | fail) | (refine congrArg some ?_) | omega | exact Nat.le_refl _ | exact congrArg (SV.lst _) (List.take_of_length_le (Nat.le_refl _)).symm))) (by repeat' (first | exact trivial | exact rfl | refine And.intro ?_ ?_ | (refine congrArg vI ?_; first | omega | (dsimp only; omega) | fail) | (refine congrArg some ?_) | omega | exact Nat.le_refl _ | exact congrArg (SV.lst _) (List.take_of_length_le (Nat.le_refl _)).symm)) trivial trivial) ?_
  refine And.intro ⟨(), trivial⟩ (fun (_ : Unit) _ => ?_)
  conv => whnf
  conv => whnf
  repeat' (first | (refine tell (fun htest => ?_) (fun htest => ?_) <;> (try dsimp only at htest) <;> first | (exfalso; omega) | (exact absurd rfl htest) | (exact absurd (by decide) htest) | (conv => whnf)) | (refine allG rfl ?_; conv => whnf) | (refine And.intro (by first | omega | assumption | kernel_rfl | exact And.intro rfl rfl | ((try dsimp only [inR, idx, lowOf]); first | omega | (with_reducible decide) | (simp; omega) | fail) | fail) ?_; conv => whnf) | fail)
  refine ⟨_, m_ints, (ofL (claimL 1 [] [3, 4]) 1, [3, 4]), [], false, ?_⟩
  conv => whnf
  refine And.intro (vc0 (show (ofL (claimL 1 [] [3, 4]) 1).length ≤ 9223372036854775807 by rw [of34]; decide) (by (repeat' (first | exact trivial | exact rfl | refine And.intro ?_ ?_ | (refine congrArg vI ?_; first | omega | (dsimp only; omega) | fail) | (refine congrArg some ?_) | omega | exact Nat.le_refl _ | exact congrArg (SV.lst _) (List.take_of_length_le (Nat.le_refl _)).symm))) (by repeat' (first | exact trivial | exact rfl | refine And.intro ?_ ?_ | (refine congrArg vI ?_; first | omega | (dsimp only; omega) | fail) | (refine congrArg some ?_) | omega | exact Nat.le_refl _ | exact congrArg (SV.lst _) (List.take_of_length_le (Nat.le_refl _)).symm)) trivial trivial) ?_
  refine And.intro ⟨true, ⟨fun _ => of34, fun _ => rfl⟩⟩ ?_
  intro (c : Bool) (hc : c = true ↔ ofL (claimL 1 [] [3, 4]) 1 = [3, 4])
  cases c
  · have := hc.2 of34; cases this
  conv => whnf
  repeat' (first | (refine tell (fun htest => ?_) (fun htest => ?_) <;> (try dsimp only at htest) <;> first | (exfalso; omega) | (exact absurd rfl htest) | (exact absurd (by decide) htest) | (conv => whnf)) | (refine allG rfl ?_; conv => whnf) | (refine And.intro (by first | omega | assumption | kernel_rfl | exact And.intro rfl rfl | ((try dsimp only [inR, idx, lowOf]); first | omega | (with_reducible decide) | (simp; omega) | fail) | fail) ?_; conv => whnf) | fail)
  refine ⟨_, m_freeD, ((claimL 1 [] [3, 4]), 1, [4, 9]), [1008, 2008], false, ?_⟩
  conv => whnf
  refine And.intro (vc0 (inL_of (by decide) (by decide)) (by (repeat' (first | exact trivial | exact rfl | refine And.intro ?_ ?_ | (refine congrArg vI ?_; first | omega | (dsimp only; omega) | fail) | (refine congrArg some ?_) | omega | exact Nat.le_refl _ | exact congrArg (SV.lst _) (List.take_of_length_le (Nat.le_refl _)).symm))) (by repeat' (first | exact trivial | exact rfl | refine And.intro ?_ ?_ | (refine congrArg vI ?_; first | omega | (dsimp only; omega) | fail) | (refine congrArg some ?_) | omega | exact Nat.le_refl _ | exact congrArg (SV.lst _) (List.take_of_length_le (Nat.le_refl _)).symm)) trivial trivial) ?_
  refine And.intro ⟨_, rfl⟩ ?_
  rintro ⟨(m : TM), (n : Nat)⟩ (hf : (m, n) = freeL 1 (claimL 1 [] [3, 4]) [4, 9])
  have hn : n = 1 := (congrArg Prod.snd hf).trans rfl
  conv => whnf
  repeat' (first | (refine tell (fun htest => ?_) (fun htest => ?_) <;> (try dsimp only at htest) <;> first | (exfalso; omega) | (exact absurd rfl htest) | (exact absurd (by decide) htest) | (conv => whnf)) | (refine allG rfl ?_; conv => whnf) | (refine And.intro (by first | omega | assumption | kernel_rfl | exact And.intro rfl rfl | ((try dsimp only [inR, idx, lowOf]); first | omega | (with_reducible decide) | (simp; omega) | fail) | fail) ?_; conv => whnf) | fail)
  exact ⟨(), [], trivial, rfl, trivial, trivial⟩
end Go.Sx

