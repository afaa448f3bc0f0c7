/-
  Layer 7, part B: lists of texts (Contains, Index), kinds; pick, Fit and Topic of the statements.
-/
import Derived.Test.YtmogappoadglgaaDoorZTopP
set_option linter.unusedVariables false
set_option linter.unusedSimpArgs false
namespace Go.Sx
open Go Go.Proofs Go.Proofs.YtmogappoadglgaaDoor
def spIndexS : Spec AF where
  γ := List Txt × Txt
  δ := Int
  args := fun g => [.lst 9 (g.1.map bS), vS g.2]
  own := fun _ => []
  pre := fun g => g.1.length ≤ 9223372036854775807
  nnew := 0
  res := fun _ r => vI r
  own' := fun _ _ => []
  post := fun g r => (0 ≤ r ↔ g.2 ∈ g.1)
theorem indexS_ex (a : List Txt) (k : Txt) : ∃ r : Int, 0 ≤ r ↔ k ∈ a := by
  by_cases h : k ∈ a
  · exact ⟨0, by simp [h]⟩
  · exact ⟨-1, by simp [h]⟩
theorem m_indexS : Meets Tryd.prog regF 111 spIndexS := by
  refine meets Tryd.func111 19 noWr rfl (by kernel_rfl) (by kernel_rfl) ?_
  rintro ⟨(a : List Txt), (k : Txt)⟩ (hl : a.length ≤ 9223372036854775807)
  have hml : (a.map bS).length = a.length := List.length_map ..
  conv => whnf
  repeat' (first | (refine tell (fun hQ => ?_) (fun hQ => ?_) <;> (try dsimp only at hQ) <;> first | (exfalso; omega) | (exact absurd rfl hQ) | (exact absurd hQ hne) | (exact absurd hne hQ) | (exact absurd hQ t1) | (exact absurd t1 hQ) | (exact absurd (by decide) hQ) | (conv => whnf)) | (refine allG rfl ?_; conv => whnf) | (refine And.intro (by first | omega | assumption | kernel_rfl | exact And.intro rfl rfl | ((try dsimp only [inR, idx, lowOf]); first | omega | (with_reducible decide) | (simp; omega) | (simp; done) | fail) | fail) ?_; conv => whnf) | fail)
  refine ⟨Nat, fun i => ⟨[(0, .lst 9 (a.map bS)), (1, vS k), (7, vI a.length), (8, vI i)], []⟩, fun i => i ≤ a.length ∧ k ∉ a.take i, fun i => a.length - i, fun _ _ => rfl, ⟨0, [], ⟨Nat.zero_le _, by simp⟩, ?_⟩, ?_⟩
  · refine ⟨rfl, ?_, ?_, rfl⟩
    all_goals (repeat' (first | exact trivial | exact rfl | refine And.intro ?_ ?_ | (refine congrArg vI ?_; first | omega | (dsimp only; omega) | fail) | (refine congrArg some ?_) | omega | exact Nat.le_refl _ | exact congrArg (SV.lst _) (List.take_of_length_le (Nat.le_refl _)).symm))
  rintro (i : Nat) ⟨(hi : i ≤ a.length), (hs : k ∉ a.take i)⟩
  by_cases hlt : i < a.length
  · have hobt : ∃ x, a[i]? = some x := ⟨_, List.getElem?_eq_getElem hlt⟩
    obtain ⟨x, hx⟩ := hobt
    have hxm : (a.map bS)[i]? = some (bS x) := by rw [List.getElem?_map, hx]; rfl
    have hm := List.mem_of_getElem? hx
    by_cases hxk : x = k
    · have t1 : ByteArray.toList ⟨k.toArray⟩ = ByteArray.toList ⟨x.toArray⟩ := bS_inj.2 hxk.symm
      conv => whnf
      repeat' (first | (refine tell (fun hQ => ?_) (fun hQ => ?_) <;> (try dsimp only at hQ) <;> first | (exfalso; omega) | (exact absurd rfl hQ) | (exact absurd hQ hne) | (exact absurd hne hQ) | (exact absurd hQ t1) | (exact absurd t1 hQ) | (exact absurd (by decide) hQ) | (conv => whnf)) | (refine allG (x := _) (by first | exact hxm | simpa [List.getElem?_append_right, lowOf] using hxm | fail) ?_; conv => whnf) | (refine allLst (x := _) (by first | omega | assumption | fail) (by first | exact hxm | simpa using hxm | fail) ?_; conv => whnf) | (refine allG rfl ?_; conv => whnf) | (refine And.intro (by first | omega | assumption | kernel_rfl | exact And.intro rfl rfl | ((try dsimp only [inR, idx, lowOf]); first | omega | (with_reducible decide) | (simp; omega) | (simp; done) | fail) | fail) ?_; conv => whnf) | fail)
      exact ⟨(i : Int), [], ⟨fun _ => hxk ▸ hm, fun _ => Int.natCast_nonneg i⟩, rfl, trivial, trivial⟩
    · have hne : ¬ (ByteArray.toList ⟨k.toArray⟩ = ByteArray.toList ⟨x.toArray⟩) := fun e => hxk (bS_inj.1 e).symm
      conv => whnf
      repeat' (first | (refine tell (fun hQ => ?_) (fun hQ => ?_) <;> (try dsimp only at hQ) <;> first | (exfalso; omega) | (exact absurd rfl hQ) | (exact absurd hQ hne) | (exact absurd hne hQ) | (exact absurd hQ t1) | (exact absurd t1 hQ) | (exact absurd (by decide) hQ) | (conv => whnf)) | (refine allG (x := _) (by first | exact hxm | simpa [List.getElem?_append_right, lowOf] using hxm | fail) ?_; conv => whnf) | (refine allLst (x := _) (by first | omega | assumption | fail) (by first | exact hxm | simpa using hxm | fail) ?_; conv => whnf) | (refine allG rfl ?_; conv => whnf) | (refine And.intro (by first | omega | assumption | kernel_rfl | exact And.intro rfl rfl | ((try dsimp only [inR, idx, lowOf]); first | omega | (with_reducible decide) | (simp; omega) | (simp; done) | fail) | fail) ?_; conv => whnf) | fail)
      refine ⟨i + 1, [], ⟨hlt, by rw [take_snocI hx]; simp; exact ⟨hs, fun h => hxk h.symm⟩⟩, ?_, rfl, ?_, ?_, rfl⟩
      · dsimp only; first | omega | (simp; done) | (simp; omega)
      all_goals (repeat' (first | exact trivial | exact rfl | refine And.intro ?_ ?_ | (refine congrArg vI ?_; first | omega | (dsimp only; omega) | fail) | (refine congrArg some ?_) | omega | exact Nat.le_refl _ | exact congrArg (SV.lst _) (List.take_of_length_le (Nat.le_refl _)).symm))
  · rw [List.take_of_length_le (by omega)] at hs
    conv => whnf
    repeat' (first | (refine tell (fun hQ => ?_) (fun hQ => ?_) <;> (try dsimp only at hQ) <;> first | (exfalso; omega) | (exact absurd rfl hQ) | (exact absurd hQ hne) | (exact absurd hne hQ) | (exact absurd hQ t1) | (exact absurd t1 hQ) | (exact absurd (by decide) hQ) | (conv => whnf)) | (refine allG rfl ?_; conv => whnf) | (refine And.intro (by first | omega | assumption | kernel_rfl | exact And.intro rfl rfl | ((try dsimp only [inR, idx, lowOf]); first | omega | (with_reducible decide) | (simp; omega) | (simp; done) | fail) | fail) ?_; conv => whnf) | fail)
    exact ⟨(-1 : Int), [], ⟨fun h => absurd h (by decide), fun h => absurd h hs⟩, rfl, trivial, trivial⟩
def spHasS : Spec AF where
  γ := List Txt × Txt
  δ := Bool
  args := fun g => [.lst 9 (g.1.map bS), vS g.2]
  own := fun _ => []
  pre := fun g => g.1.length ≤ 9223372036854775807
  nnew := 0
  res := fun _ c => vB c
  own' := fun _ _ => []
  post := fun g c => (c = true ↔ g.2 ∈ g.1)
theorem m_containsS : Meets Tryd.prog regF 92 spHasS := by
  refine meets Tryd.func92 9 noWr rfl (by kernel_rfl) (by kernel_rfl) ?_
  rintro ⟨(a : List Txt), (k : Txt)⟩ (hl : a.length ≤ 9223372036854775807)
  conv => whnf
  repeat' (first | (refine tell (fun hQ => ?_) (fun hQ => ?_) <;> (try dsimp only at hQ) <;> first | (exfalso; omega) | (exact absurd rfl hQ) | (exact absurd hQ hne) | (exact absurd hne hQ) | (exact absurd hQ t1) | (exact absurd t1 hQ) | (exact absurd (by decide) hQ) | (conv => whnf)) | (refine allG rfl ?_; conv => whnf) | (refine And.intro (by first | omega | assumption | kernel_rfl | exact And.intro rfl rfl | ((try dsimp only [inR, idx, lowOf]); first | omega | (with_reducible decide) | (simp; omega) | (simp; done) | fail) | fail) ?_; conv => whnf) | fail)
  refine ⟨_, m_indexS, (a, k), [], false, ?_⟩
  conv => whnf
  refine And.intro (vc0 hl (by (repeat' (first | exact trivial | exact rfl | refine And.intro ?_ ?_ | (refine congrArg vI ?_; first | omega | (dsimp only; omega) | fail) | (refine congrArg some ?_) | omega | exact Nat.le_refl _ | exact congrArg (SV.lst _) (List.take_of_length_le (Nat.le_refl _)).symm))) (by repeat' (first | exact trivial | exact rfl | refine And.intro ?_ ?_ | (refine congrArg vI ?_; first | omega | (dsimp only; omega) | fail) | (refine congrArg some ?_) | omega | exact Nat.le_refl _ | exact congrArg (SV.lst _) (List.take_of_length_le (Nat.le_refl _)).symm)) trivial trivial) ?_
  refine And.intro (indexS_ex a k) ?_
  intro (r : Int) (hr : 0 ≤ r ↔ k ∈ a)
  conv => whnf
  repeat' (first | (refine tell (fun hQ => ?_) (fun hQ => ?_) <;> (try dsimp only at hQ) <;> first | (exfalso; omega) | (exact absurd rfl hQ) | (exact absurd hQ hne) | (exact absurd hne hQ) | (exact absurd hQ t1) | (exact absurd t1 hQ) | (exact absurd (by decide) hQ) | (conv => whnf)) | (refine allG rfl ?_; conv => whnf) | (refine And.intro (by first | omega | assumption | kernel_rfl | exact And.intro rfl rfl | ((try dsimp only [inR, idx, lowOf]); first | omega | (with_reducible decide) | (simp; omega) | (simp; done) | fail) | fail) ?_; conv => whnf) | fail)
  · exact ⟨true, [], ⟨fun _ => hr.1 (by assumption), fun _ => rfl⟩, rfl, trivial, trivial⟩
  · exact ⟨false, [], ⟨fun h => (by cases h), fun h => absurd (hr.2 h) (by omega)⟩, rfl, trivial, trivial⟩
theorem hasS_ex (a : List Txt) (k : Txt) : ∃ c : Bool, c = true ↔ k ∈ a := by
  by_cases h : k ∈ a
  · exact ⟨true, by simp [h]⟩
  · exact ⟨false, by simp [h]⟩
def spKindS : Spec AF where
  γ := Txt
  δ := Unit
  args := fun k => [vS k]
  own := fun _ => []
  pre := fun _ => True
  nnew := 0
  res := fun k _ => vB (kindT k)
  own' := fun _ _ => []
  post := fun _ _ => True
theorem m_kindS : Meets Tryd.prog regF 74 spKindS := by
  refine meets Tryd.func74 6 noWr rfl (by kernel_rfl) (by kernel_rfl) ?_
  rintro (k : Txt) _
  conv => whnf
  repeat' (first | (refine tell (fun hQ => ?_) (fun hQ => ?_) <;> (try dsimp only at hQ) <;> first | (exfalso; omega) | (exact absurd rfl hQ) | (exact absurd hQ hne) | (exact absurd hne hQ) | (exact absurd hQ t1) | (exact absurd t1 hQ) | (exact absurd (by decide) hQ) | (conv => whnf)) | (refine allG rfl ?_; conv => whnf) | (refine And.intro (by first | omega | assumption | kernel_rfl | exact And.intro rfl rfl | ((try dsimp only [inR, idx, lowOf]); first | omega | (with_reducible decide) | (simp; omega) | (simp; done) | fail) | fail) ?_; conv => whnf) | fail)
  refine ⟨_, m_containsS, (kindsL, k), [], false, ?_⟩
  conv => whnf
  refine And.intro (vc0 (by show (5 : Nat) ≤ _; decide) (by (repeat' (first | exact trivial | exact rfl | refine And.intro ?_ ?_ | (refine congrArg vI ?_; first | omega | (dsimp only; omega) | fail) | (refine congrArg some ?_) | omega | exact Nat.le_refl _ | exact congrArg (SV.lst _) (List.take_of_length_le (Nat.le_refl _)).symm))) (by repeat' (first | exact trivial | exact rfl | refine And.intro ?_ ?_ | (refine congrArg vI ?_; first | omega | (dsimp only; omega) | fail) | (refine congrArg some ?_) | omega | exact Nat.le_refl _ | exact congrArg (SV.lst _) (List.take_of_length_le (Nat.le_refl _)).symm)) trivial trivial) ?_
  refine And.intro (hasS_ex kindsL k) ?_
  intro (c : Bool) (hc : c = true ↔ k ∈ kindsL)
  have hk : c = kindT k := by
    unfold kindT
    rw [Bool.eq_iff_iff, hc]; simp
  subst hk
  conv => whnf
  repeat' (first | (refine tell (fun hQ => ?_) (fun hQ => ?_) <;> (try dsimp only at hQ) <;> first | (exfalso; omega) | (exact absurd rfl hQ) | (exact absurd hQ hne) | (exact absurd hne hQ) | (exact absurd hQ t1) | (exact absurd t1 hQ) | (exact absurd (by decide) hQ) | (conv => whnf)) | (refine allG rfl ?_; conv => whnf) | (refine And.intro (by first | omega | assumption | kernel_rfl | exact And.intro rfl rfl | ((try dsimp only [inR, idx, lowOf]); first | omega | (with_reducible decide) | (simp; omega) | (simp; done) | fail) | fail) ?_; conv => whnf) | fail)
  exact ⟨(), [], trivial, rfl, trivial, trivial⟩
theorem m_pick07 : Meets Tryd.prog regF 43 spPick := by
  refine meets Tryd.func43 13 noWr rfl (by kernel_rfl) (by kernel_rfl) ?_
  rintro ⟨(c : Int), (n : Int)⟩ ⟨⟨hc1, hc2⟩, (hn : 0 < n)⟩
  conv => whnf
  repeat' (first | (refine tell (fun hQ => ?_) (fun hQ => ?_) <;> (try dsimp only at hQ) <;> first | (exfalso; omega) | (exact absurd rfl hQ) | (exact absurd hQ hne) | (exact absurd hne hQ) | (exact absurd hQ t1) | (exact absurd t1 hQ) | (exact absurd (by decide) hQ) | (conv => whnf)) | (refine allG rfl ?_; conv => whnf) | (refine And.intro (by first | omega | assumption | kernel_rfl | exact And.intro rfl rfl | ((try dsimp only [inR, idx, lowOf]); first | omega | (with_reducible decide) | (simp; omega) | (simp; done) | fail) | fail) ?_; conv => whnf) | fail)
  all_goals exact ⟨(), [], trivial, eI (by unfold pickF; first | rw [if_pos (by assumption)] | rw [if_neg (by assumption)]), trivial, trivial⟩
/-- Bytes as a slice of bytes has them. -/
def intsL (l : Txt) : List Int := l.map fun b => (b.toNat : Int)
def mixL (t : Txt) (i : Nat) : Txt := 110 :: ((t.take (i - 1)).map fitB ++ t.drop (i - 1))
theorem mixL_len (t : Txt) (i : Nat) : (mixL t i).length = t.length + 1 := by
  unfold mixL
  simp
  omega
theorem mixL_end {t : Txt} {i : Nat} (h : t.length + 1 ≤ i) : mixL t i = 110 :: t.map fitB := by
  unfold mixL
  rw [List.take_of_length_le (by omega), List.drop_eq_nil_of_le (by omega), List.append_nil]
theorem mixL_at {t : Txt} {i : Nat} {x : UInt8} (h1 : 1 ≤ i) (hx : t[i - 1]? = some x) : (mixL t i)[i]? = some x ∧ mixL t (i + 1) = (mixL t i).set i (fitB x) := by
  have hobt : ∃ j, i = j + 1 := ⟨i - 1, by omega⟩
  obtain ⟨j, rfl⟩ := hobt
  simp only [Nat.add_sub_cancel] at hx
  have hj : j < t.length := (List.getElem?_eq_some_iff.1 hx).1
  unfold mixL
  simp only [Nat.add_sub_cancel]
  have hd : t.drop j = x :: t.drop (j + 1) := by
    rw [List.drop_eq_getElem_cons hj]
    congr 1
    exact (List.getElem?_eq_some_iff.1 hx).2
  have hl : ((t.take j).map fitB).length = j := by simp; omega
  refine ⟨?_, ?_⟩
  · rw [List.getElem?_cons_succ, List.getElem?_append_right (by omega), hl, hd, Nat.sub_self]; rfl
  · rw [List.set_cons_succ, List.set_append_right _ _ (by omega), hl, hd, Nat.sub_self, take_snocI hx]
    simp
theorem ints_inj : ∀ {a b : Txt}, (a.map fun x => ((x.toNat : Nat) : Int)) = (b.map fun x => ((x.toNat : Nat) : Int)) → a = b
  | [], [], _ => rfl
  | [], _ :: _, h => by simp at h
  | _ :: _, [], h => by simp at h
  | x :: a, y :: b, h => by
    simp only [List.map_cons, List.cons.injEq] at h
    rw [UInt8.toNat_inj.1 (Int.ofNat.inj h.1), ints_inj h.2]
def spFit07 : Spec AF where
  γ := Txt
  δ := Unit
  args := fun s => [vS s]
  own := fun _ => []
  pre := fun _ => True
  nnew := 0
  res := fun s _ => vS (fitS s)
  own' := fun _ _ => []
  post := fun _ _ => True
set_option maxRecDepth 100000 in
theorem m_fit07 : Meets Tryd.prog regF 51 spFit07 := by
  refine meets Tryd.func51 30 noWr rfl (by kernel_rfl) (by kernel_rfl) ?_
  rintro (s : Txt) _
  have hz := size_bS s
  have hcut : (⟨s.toArray⟩ : ByteArray).extract (lowOf none).toNat (min (((⟨s.toArray⟩ : ByteArray).size : Nat) : Int) 15).toNat = ⟨(s.take 15).toArray⟩ := by
    rw [bS_cut, hz]
    show (⟨((s.take _).drop 0).toArray⟩ : ByteArray) = _
    rw [List.drop_zero, show (min ((s.length : Nat) : Int) 15).toNat = min s.length 15 by omega]
    congr 2
    by_cases h : s.length ≤ 15
    · rw [Nat.min_eq_left h, List.take_length, List.take_of_length_le h]
    · rw [Nat.min_eq_right (by omega)]
  have htl : (s.take 15).length ≤ 15 := by rw [List.length_take]; omega
  have hsz : (⟨#[110]⟩ : ByteArray).size + ((⟨s.toArray⟩ : ByteArray).extract (lowOf none).toNat (min (((⟨s.toArray⟩ : ByteArray).size : Nat) : Int) 15).toNat).size ≤ 9223372036854775807 := by
    rw [hcut]
    have := size_bS (s.take 15)
    show 1 + (⟨(s.take 15).toArray⟩ : ByteArray).size ≤ _
    omega
  have hb : (⟨#[110]⟩ : ByteArray) ++ (⟨s.toArray⟩ : ByteArray).extract (lowOf none).toNat (min (((⟨s.toArray⟩ : ByteArray).size : Nat) : Int) 15).toNat = ⟨(110 :: s.take 15).toArray⟩ := by
    rw [hcut]
    exact bS_append [110] (s.take 15)
  have hbn := (congrArg ByteArray.size hb).trans (size_bS _)
  have hbl := congrArg (fun x : ByteArray => x.data.toList.map fun b => ((b.toNat : Nat) : Int)) hb
  conv => whnf
  repeat' (first | (refine tell (fun hQ => ?_) (fun hQ => ?_) <;> (try dsimp only at hQ) <;> first | (exfalso; omega) | (exact absurd rfl hQ) | (exact absurd hQ hne) | (exact absurd hne hQ) | (exact absurd hQ t1) | (exact absurd t1 hQ) | (exact absurd (by decide) hQ) | (conv => whnf)) | (refine allG rfl ?_; conv => whnf) | (refine And.intro (by first | omega | assumption | kernel_rfl | exact And.intro rfl rfl | ((try dsimp only [inR, idx, lowOf]); first | omega | (with_reducible decide) | (simp; omega) | (simp; done) | fail) | fail) ?_; conv => whnf) | fail)
  generalize ht : s.take 15 = t at *
  refine ⟨Nat, fun i => ⟨[(3, .sl 1011 1 0 (t.length + 1)), (4, vI i)], [(1011, .arr 5 (intsL (mixL t i)))]⟩, fun i => 1 ≤ i ∧ i ≤ t.length + 1, fun i => t.length + 1 - i, fun _ _ => rfl, ⟨1, [], ⟨Nat.le_refl _, by omega⟩, ?_⟩, ?_⟩
  · refine ⟨rfl, ?_, ?_, rfl⟩
    all_goals (repeat' (first | exact trivial | exact rfl | refine And.intro ?_ ?_ | (refine congrArg vI ?_; first | omega | (dsimp only; omega) | fail) | (refine congrArg some ?_) | omega | exact Nat.le_refl _ | exact congrArg (SV.lst _) (List.take_of_length_le (Nat.le_refl _)).symm))
    all_goals (first | exact congrArg (SV.sl (A := AF) 1011 1 0) hbn | exact congrArg (Ct.arr (A := AF) 5) hbl | fail)
  rintro (i : Nat) ⟨(hi1 : 1 ≤ i), (hi : i ≤ t.length + 1)⟩
  have hml : (intsL (mixL t i)).length = t.length + 1 := by unfold intsL; rw [List.length_map, mixL_len]
  by_cases hlt : i < t.length + 1
  · have hobt : ∃ x, t[i - 1]? = some x := ⟨_, List.getElem?_eq_getElem (by omega)⟩
    obtain ⟨x, hx⟩ := hobt
    have hobt := mixL_at hi1 hx
    obtain ⟨h1, h2⟩ := hobt
    have hxi : (intsL (mixL t i))[i]? = some (x.toNat : Int) := by unfold intsL; rw [List.getElem?_map, h1]; rfl
    have hw : (IntKind.i64.wrap ((x.toNat : Nat) : Int)).tmod 20 = ((x.toNat % 20 : Nat) : Int) := by
      have hx8 := UInt8.toNat_lt x
      rw [show IntKind.i64.wrap ((x.toNat : Nat) : Int) = ((x.toNat : Nat) : Int) from inR_wrap (k := .i64) ⟨by omega, by omega⟩, Int.tmod_eq_emod_of_nonneg (by omega)]
      omega
    have hid : idx ((IntKind.i64.wrap ((x.toNat : Nat) : Int)).tmod 20) (⟨#[97, 98, 99, 120, 121, 122, 65, 66, 67, 88, 89, 90, 48, 49, 56, 57, 95, 46, 58, 45]⟩ : ByteArray).size := by
      rw [hw]
      show 0 ≤ _ ∧ _ < ((20 : Nat) : Int)
      omega
    have hset : intsL (mixL t (i + 1)) = (intsL (mixL t i)).set i ((fitB x).toNat : Int) := by rw [h2]; unfold intsL; rw [List.map_set]
    conv => whnf
    repeat' (first | (refine tell (fun hQ => ?_) (fun hQ => ?_) <;> (try dsimp only at hQ) <;> first | (exfalso; omega) | (exact absurd rfl hQ) | (exact absurd hQ hne) | (exact absurd hne hQ) | (exact absurd hQ t1) | (exact absurd t1 hQ) | (exact absurd (by decide) hQ) | (conv => whnf)) | (refine allG (x := _) (by first | exact hxi | simpa [List.getElem?_append_right, lowOf] using hxi | fail) ?_; conv => whnf) | (refine allLst (x := _) (by first | omega | assumption | fail) (by first | exact hxi | simpa using hxi | fail) ?_; conv => whnf) | (refine allG rfl ?_; conv => whnf) | (refine And.intro (by first | omega | assumption | kernel_rfl | exact And.intro rfl rfl | ((try dsimp only [inR, idx, lowOf]); first | omega | (with_reducible decide) | (simp; omega) | (simp; done) | fail) | fail) ?_; conv => whnf) | fail)
    refine ⟨i + 1, [], ⟨by omega, by omega⟩, ?_, rfl, ?_, ?_, rfl⟩
    · dsimp only; first | omega | (simp; done) | (simp; omega)
    all_goals (repeat' (first | exact trivial | exact rfl | refine And.intro ?_ ?_ | (refine congrArg vI ?_; first | omega | (dsimp only; omega) | fail) | (refine congrArg some ?_) | omega | exact Nat.le_refl _ | exact congrArg (SV.lst _) (List.take_of_length_le (Nat.le_refl _)).symm))
    all_goals refine congrArg (Ct.arr (A := AF) 5) (Eq.trans ?_ hset.symm)
    all_goals (rw [hw, Nat.zero_add]; rfl)
  · have he : mixL t i = 110 :: t.map fitB := mixL_end (by omega)
    have hex : ((intsL (mixL t i)).drop 0).take (t.length + 1) = (110 :: t.map fitB).map fun b => ((b.toNat : Nat) : Int) := by
      rw [List.drop_zero, List.take_of_length_le (by omega), he]; rfl
    conv => whnf
    repeat' (first | (refine tell (fun hQ => ?_) (fun hQ => ?_) <;> (try dsimp only at hQ) <;> first | (exfalso; omega) | (exact absurd rfl hQ) | (exact absurd hQ hne) | (exact absurd hne hQ) | (exact absurd hQ t1) | (exact absurd t1 hQ) | (exact absurd (by decide) hQ) | (conv => whnf)) | (refine allG rfl ?_; conv => whnf) | (refine And.intro (by first | omega | assumption | kernel_rfl | exact And.intro rfl rfl | ((try dsimp only [inR, idx, lowOf]); first | omega | (with_reducible decide) | (simp; omega) | (simp; done) | fail) | fail) ?_; conv => whnf) | fail)
    refine And.intro ⟨_, hex⟩ (fun l' hl' => ?_)
    conv => whnf
    have hll : l' = 110 :: t.map fitB := ints_inj (hl'.symm.trans hex)
    subst hll
    conv => whnf
    repeat' (first | (refine tell (fun hQ => ?_) (fun hQ => ?_) <;> (try dsimp only at hQ) <;> first | (exfalso; omega) | (exact absurd rfl hQ) | (exact absurd hQ hne) | (exact absurd hne hQ) | (exact absurd hQ t1) | (exact absurd t1 hQ) | (exact absurd (by decide) hQ) | (conv => whnf)) | (refine allG rfl ?_; conv => whnf) | (refine And.intro (by first | omega | assumption | kernel_rfl | exact And.intro rfl rfl | ((try dsimp only [inR, idx, lowOf]); first | omega | (with_reducible decide) | (simp; omega) | (simp; done) | fail) | fail) ?_; conv => whnf) | fail)
    exact ⟨(), [], trivial, eVS (by unfold fitS; rw [ht]), trivial, trivial⟩
def topS (t : Topic) : SV AF := .agg [vS t.1, vS t.2.1, vS t.2.2]
def spTopic07 : Spec AF where
  γ := Txt × Txt × Int
  δ := Unit
  args := fun g => [vS g.1, vS g.2.1, vI g.2.2]
  own := fun _ => []
  pre := fun g => InI g.2.2
  nnew := 0
  res := fun g _ => topS (topicF g.1 g.2.1 g.2.2)
  own' := fun _ _ => []
  post := fun _ _ => True
theorem m_topic07 : Meets Tryd.prog regF 41 spTopic07 := by
  refine meets Tryd.func41 17 noWr rfl (by kernel_rfl) (by kernel_rfl) ?_
  rintro ⟨(m : Txt), (s : Txt), (c : Int)⟩ (hc : InI c)
  have hb := pickF_bd (c := c) (n := 5) (by decide)
  have hk : (kindsL.map bS)[(pickF c 5).toNat]? = some (bS (kindN c)) := by
    unfold kindN
    rw [List.getElem?_map, List.getD_eq_getElem?_getD, List.getElem?_eq_getElem (show (pickF c 5).toNat < kindsL.length by show _ < 5; omega)]
    rfl
  conv => whnf
  repeat' (first | (refine tell (fun hQ => ?_) (fun hQ => ?_) <;> (try dsimp only at hQ) <;> first | (exfalso; omega) | (exact absurd rfl hQ) | (exact absurd hQ hne) | (exact absurd hne hQ) | (exact absurd hQ t1) | (exact absurd t1 hQ) | (exact absurd (by decide) hQ) | (conv => whnf)) | (refine allG rfl ?_; conv => whnf) | (refine And.intro (by first | omega | assumption | kernel_rfl | exact And.intro rfl rfl | ((try dsimp only [inR, idx, lowOf]); first | omega | (with_reducible decide) | (simp; omega) | (simp; done) | fail) | fail) ?_; conv => whnf) | fail)
  refine ⟨_, m_fit07, m, [], false, ?_⟩
  conv => whnf
  refine And.intro (vc0 trivial (by (repeat' (first | exact trivial | exact rfl | refine And.intro ?_ ?_ | (refine congrArg vI ?_; first | omega | (dsimp only; omega) | fail) | (refine congrArg some ?_) | omega | exact Nat.le_refl _ | exact congrArg (SV.lst _) (List.take_of_length_le (Nat.le_refl _)).symm))) (by repeat' (first | exact trivial | exact rfl | refine And.intro ?_ ?_ | (refine congrArg vI ?_; first | omega | (dsimp only; omega) | fail) | (refine congrArg some ?_) | omega | exact Nat.le_refl _ | exact congrArg (SV.lst _) (List.take_of_length_le (Nat.le_refl _)).symm)) trivial trivial) ?_
  refine And.intro ⟨(), trivial⟩ (fun (_ : Unit) _ => ?_)
  conv => whnf
  conv => whnf
  repeat' (first | (refine tell (fun hQ => ?_) (fun hQ => ?_) <;> (try dsimp only at hQ) <;> first | (exfalso; omega) | (exact absurd rfl hQ) | (exact absurd hQ hne) | (exact absurd hne hQ) | (exact absurd hQ t1) | (exact absurd t1 hQ) | (exact absurd (by decide) hQ) | (conv => whnf)) | (refine allG rfl ?_; conv => whnf) | (refine And.intro (by first | omega | assumption | kernel_rfl | exact And.intro rfl rfl | ((try dsimp only [inR, idx, lowOf]); first | omega | (with_reducible decide) | (simp; omega) | (simp; done) | fail) | fail) ?_; conv => whnf) | fail)
  refine ⟨_, m_fit07, s, [], false, ?_⟩
  conv => whnf
  refine And.intro (vc0 trivial (by (repeat' (first | exact trivial | exact rfl | refine And.intro ?_ ?_ | (refine congrArg vI ?_; first | omega | (dsimp only; omega) | fail) | (refine congrArg some ?_) | omega | exact Nat.le_refl _ | exact congrArg (SV.lst _) (List.take_of_length_le (Nat.le_refl _)).symm))) (by repeat' (first | exact trivial | exact rfl | refine And.intro ?_ ?_ | (refine congrArg vI ?_; first | omega | (dsimp only; omega) | fail) | (refine congrArg some ?_) | omega | exact Nat.le_refl _ | exact congrArg (SV.lst _) (List.take_of_length_le (Nat.le_refl _)).symm)) trivial trivial) ?_
  refine And.intro ⟨(), trivial⟩ (fun (_ : Unit) _ => ?_)
  conv => whnf
  conv => whnf
  repeat' (first | (refine tell (fun hQ => ?_) (fun hQ => ?_) <;> (try dsimp only at hQ) <;> first | (exfalso; omega) | (exact absurd rfl hQ) | (exact absurd hQ hne) | (exact absurd hne hQ) | (exact absurd hQ t1) | (exact absurd t1 hQ) | (exact absurd (by decide) hQ) | (conv => whnf)) | (refine allG rfl ?_; conv => whnf) | (refine And.intro (by first | omega | assumption | kernel_rfl | exact And.intro rfl rfl | ((try dsimp only [inR, idx, lowOf]); first | omega | (with_reducible decide) | (simp; omega) | (simp; done) | fail) | fail) ?_; conv => whnf) | fail)
  refine ⟨_, m_pick07, (c, 5), [], false, ?_⟩
  conv => whnf
  refine And.intro (vc0 ⟨hc, by show (0 : Int) < 5; decide⟩ (by (repeat' (first | exact trivial | exact rfl | refine And.intro ?_ ?_ | (refine congrArg vI ?_; first | omega | (dsimp only; omega) | fail) | (refine congrArg some ?_) | omega | exact Nat.le_refl _ | exact congrArg (SV.lst _) (List.take_of_length_le (Nat.le_refl _)).symm))) (by repeat' (first | exact trivial | exact rfl | refine And.intro ?_ ?_ | (refine congrArg vI ?_; first | omega | (dsimp only; omega) | fail) | (refine congrArg some ?_) | omega | exact Nat.le_refl _ | exact congrArg (SV.lst _) (List.take_of_length_le (Nat.le_refl _)).symm)) trivial trivial) ?_
  refine And.intro ⟨(), trivial⟩ (fun (_ : Unit) _ => ?_)
  conv => whnf
  conv => whnf
  repeat' (first | (refine tell (fun hQ => ?_) (fun hQ => ?_) <;> (try dsimp only at hQ) <;> first | (exfalso; omega) | (exact absurd rfl hQ) | (exact absurd hQ hne) | (exact absurd hne hQ) | (exact absurd hQ t1) | (exact absurd t1 hQ) | (exact absurd (by decide) hQ) | (conv => whnf)) | (refine allG (x := _) (by first | exact hk | simpa [List.getElem?_append_right, lowOf] using hk | fail) ?_; conv => whnf) | (refine allLst (x := _) (by first | omega | assumption | fail) (by first | exact hk | simpa using hk | fail) ?_; conv => whnf) | (refine allG rfl ?_; conv => whnf) | (refine And.intro (by first | omega | assumption | kernel_rfl | exact And.intro rfl rfl | ((try dsimp only [inR, idx, lowOf]); first | omega | (with_reducible decide) | (simp; omega) | (simp; done) | fail) | fail) ?_; conv => whnf) | fail)
  exact ⟨(), [], trivial, ⟨rfl, rfl, rfl, trivial⟩, trivial, trivial⟩
end Go.Sx

