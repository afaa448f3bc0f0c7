/-
  Layer 7, part C: a text's parts, as the program gets them (strings.SplitSeq, slices.Collect).
-/
import Derived.Test.YtmogappoadglgaaDoorZTopB
import Derived.Test.YtmogappoadglgaaDoorZIteC
set_option linter.unusedVariables false
set_option linter.unusedSimpArgs false
namespace Go.Sx
open Go Go.Proofs Go.Proofs.YtmogappoadglgaaDoor
def spSplit : Spec AF where
  γ := Txt
  δ := Unit
  args := fun s => [vS s, vS [47], vI 0]
  own := fun _ => []
  pre := fun _ => True
  nnew := 3
  res := fun _ _ => .fn (.func 125) [] capS
  own' := fun s _ => (ownS s).map some
  post := fun _ _ => True
theorem m_split : Meets Tryd.prog regF 116 spSplit := by
  refine meets Tryd.func116 8 noWr rfl (by kernel_rfl) (by kernel_rfl) ?_
  rintro (s : Txt) _
  conv => whnf
  repeat' (first | (refine tell (fun hQ => ?_) (fun hQ => ?_) <;> (try dsimp only at hQ) <;> first | (exfalso; omega) | (exact absurd rfl hQ) | (exact absurd (by decide) hQ) | (conv => whnf)) | (refine allG rfl ?_; conv => whnf) | (refine And.intro (by first | omega | assumption | kernel_rfl | exact And.intro rfl rfl | ((try dsimp only [inR, idx, lowOf]); first | omega | (with_reducible decide) | (simp; omega) | (simp; done) | fail) | fail) ?_; conv => whnf) | fail)
  exact ⟨(), [1004, 1003, 1005], trivial, rfl, ⟨⟨rfl, trivial⟩, ⟨rfl, trivial⟩, ⟨rfl, trivial⟩, trivial⟩, trivial⟩
def spSplitSeq : Spec AF where
  γ := Txt
  δ := Unit
  args := fun s => [vS s, vS [47]]
  own := fun _ => []
  pre := fun _ => True
  nnew := 3
  res := fun _ _ => .fn (.func 125) [] capS
  own' := fun s _ => (ownS s).map some
  post := fun _ _ => True
theorem m_splitSeq : Meets Tryd.prog regF 99 spSplitSeq := by
  refine meets Tryd.func99 8 noWr rfl (by kernel_rfl) (by kernel_rfl) ?_
  rintro (s : Txt) _
  conv => whnf
  repeat' (first | (refine tell (fun hQ => ?_) (fun hQ => ?_) <;> (try dsimp only at hQ) <;> first | (exfalso; omega) | (exact absurd rfl hQ) | (exact absurd (by decide) hQ) | (conv => whnf)) | (refine allG rfl ?_; conv => whnf) | (refine And.intro (by first | omega | assumption | kernel_rfl | exact And.intro rfl rfl | ((try dsimp only [inR, idx, lowOf]); first | omega | (with_reducible decide) | (simp; omega) | (simp; done) | fail) | fail) ?_; conv => whnf) | fail)
  refine ⟨_, m_split, s, [], false, ?_⟩
  conv => whnf
  refine And.intro (vc0 trivial (by (repeat' (first | exact trivial | exact rfl | refine And.intro ?_ ?_ | (refine congrArg vI ?_; first | omega | (dsimp only; omega) | fail) | (refine congrArg some ?_) | omega | exact Nat.le_refl _ | exact congrArg (SV.lst _) (List.take_of_length_le (Nat.le_refl _)).symm))) (by repeat' (first | exact trivial | exact rfl | refine And.intro ?_ ?_ | (refine congrArg vI ?_; first | omega | (dsimp only; omega) | fail) | (refine congrArg some ?_) | omega | exact Nat.le_refl _ | exact congrArg (SV.lst _) (List.take_of_length_le (Nat.le_refl _)).symm)) trivial trivial) ?_
  refine And.intro ⟨(), trivial⟩ (fun (_ : Unit) _ => ?_)
  conv => whnf
  conv => whnf
  repeat' (first | (refine tell (fun hQ => ?_) (fun hQ => ?_) <;> (try dsimp only at hQ) <;> first | (exfalso; omega) | (exact absurd rfl hQ) | (exact absurd (by decide) hQ) | (conv => whnf)) | (refine allG rfl ?_; conv => whnf) | (refine And.intro (by first | omega | assumption | kernel_rfl | exact And.intro rfl rfl | ((try dsimp only [inR, idx, lowOf]); first | omega | (with_reducible decide) | (simp; omega) | (simp; done) | fail) | fail) ?_; conv => whnf) | fail)
  exact ⟨(), [1007, 2007, 3007], trivial, rfl, ⟨⟨rfl, trivial⟩, ⟨rfl, trivial⟩, ⟨rfl, trivial⟩, trivial⟩, trivial⟩
def spParts : Spec AF where
  γ := Txt
  δ := Unit
  args := fun s => [vS s]
  own := fun _ => []
  pre := fun _ => True
  nnew := 3
  res := fun _ _ => .fn (.func 125) [] capS
  own' := fun s _ => (ownS s).map some
  post := fun _ _ => True
theorem m_parts : Meets Tryd.prog regF 78 spParts := by
  refine meets Tryd.func78 5 noWr rfl (by kernel_rfl) (by kernel_rfl) ?_
  rintro (s : Txt) _
  conv => whnf
  repeat' (first | (refine tell (fun hQ => ?_) (fun hQ => ?_) <;> (try dsimp only at hQ) <;> first | (exfalso; omega) | (exact absurd rfl hQ) | (exact absurd (by decide) hQ) | (conv => whnf)) | (refine allG rfl ?_; conv => whnf) | (refine And.intro (by first | omega | assumption | kernel_rfl | exact And.intro rfl rfl | ((try dsimp only [inR, idx, lowOf]); first | omega | (with_reducible decide) | (simp; omega) | (simp; done) | fail) | fail) ?_; conv => whnf) | fail)
  refine ⟨_, m_splitSeq, s, [], false, ?_⟩
  conv => whnf
  refine And.intro (vc0 trivial (by (repeat' (first | exact trivial | exact rfl | refine And.intro ?_ ?_ | (refine congrArg vI ?_; first | omega | (dsimp only; omega) | fail) | (refine congrArg some ?_) | omega | exact Nat.le_refl _ | exact congrArg (SV.lst _) (List.take_of_length_le (Nat.le_refl _)).symm))) (by repeat' (first | exact trivial | exact rfl | refine And.intro ?_ ?_ | (refine congrArg vI ?_; first | omega | (dsimp only; omega) | fail) | (refine congrArg some ?_) | omega | exact Nat.le_refl _ | exact congrArg (SV.lst _) (List.take_of_length_le (Nat.le_refl _)).symm)) trivial trivial) ?_
  refine And.intro ⟨(), trivial⟩ (fun (_ : Unit) _ => ?_)
  conv => whnf
  conv => whnf
  repeat' (first | (refine tell (fun hQ => ?_) (fun hQ => ?_) <;> (try dsimp only at hQ) <;> first | (exfalso; omega) | (exact absurd rfl hQ) | (exact absurd (by decide) hQ) | (conv => whnf)) | (refine allG rfl ?_; conv => whnf) | (refine And.intro (by first | omega | assumption | kernel_rfl | exact And.intro rfl rfl | ((try dsimp only [inR, idx, lowOf]); first | omega | (with_reducible decide) | (simp; omega) | (simp; done) | fail) | fail) ?_; conv => whnf) | fail)
  exact ⟨(), [1004, 2004, 3004], trivial, rfl, ⟨⟨rfl, trivial⟩, ⟨rfl, trivial⟩, ⟨rfl, trivial⟩, trivial⟩, trivial⟩
def spAppS : Spec AF where
  γ := Txt
  δ := Unit
  args := fun _ => [.val (.slice none 0 0), .fn (.func 125) [] capS]
  own := fun s => ownS s
  pre := fun s => s.length ≤ 4000000000000
  nnew := 0
  res := fun s _ => .lst 9 ((partsN s).map bS)
  own' := fun _ _ => [none, none, none]
  post := fun _ _ => True
set_option maxRecDepth 100000 in
theorem m_appS : Meets Tryd.prog regF 98 spAppS := by
  refine meets Tryd.func98 13 noWr rfl (by kernel_rfl) (by kernel_rfl) ?_
  rintro (s : Txt) (hs : s.length ≤ 4000000000000)
  have hpl := partsN_lenle s
  conv => whnf
  repeat' (first | (refine tell (fun hQ => ?_) (fun hQ => ?_) <;> (try dsimp only at hQ) <;> first | (exfalso; omega) | (exact absurd rfl hQ) | (exact absurd (by decide) hQ) | (conv => whnf)) | (refine allG rfl ?_; conv => whnf) | (refine And.intro (by first | omega | assumption | kernel_rfl | exact And.intro rfl rfl | ((try dsimp only [inR, idx, lowOf]); first | omega | (with_reducible decide) | (simp; omega) | (simp; done) | fail) | fail) ?_; conv => whnf) | fail)
  refine .inr ⟨ownS s, capS, [0, 1, 2], outsS s, it_split s (by omega), Nat, [(2, .ptr 10 0 1 0)], fun i => [(10, .cells [.sl 12 1 0 i]), (12, .arr 9 (((partsN s).take i).map bS))], fun i j => i = j ∧ i ≤ (partsN s).length, ⟨rfl, rfl, ⟨rfl, rfl, rfl, trivial⟩, rfl⟩, fun _ _ _ => rfl, ⟨0, [(10, 1002), (12, 3011)], ⟨rfl, Nat.zero_le _⟩, ?_, ?_, rfl⟩, ?_, ?_⟩
  · repeat' (first | exact trivial | exact rfl | refine And.intro ?_ ?_)
  · repeat' (first | exact trivial | exact rfl | refine And.intro ?_ ?_)
  · rintro i _ o ⟨rfl, hi⟩ ho
    have hobt := outsS_get ho
    obtain ⟨p, hp, rfl⟩ := hobt
    have hlt : i < (partsN s).length := (List.getElem?_eq_some_iff.1 hp).1
    refine ⟨⟨rfl, trivial⟩, ?_⟩
    have hml : (((partsN s).take i).map bS).length = i := by rw [List.length_map, List.length_take]; omega
    conv => whnf
    repeat' (first | (refine tell (fun hQ => ?_) (fun hQ => ?_) <;> (try dsimp only at hQ) <;> first | (exfalso; omega) | (exact absurd rfl hQ) | (exact absurd (by decide) hQ) | (conv => whnf)) | (refine allG rfl ?_; conv => whnf) | (refine And.intro (by first | omega | assumption | kernel_rfl | exact And.intro rfl rfl | ((try dsimp only [inR, idx, lowOf]); first | omega | (with_reducible decide) | (simp; omega) | (simp; done) | fail) | fail) ?_; conv => whnf) | fail)
    refine ⟨i + 1, [(12, 1011)], ⟨rfl, hlt⟩, ?_⟩
    repeat' (first | exact trivial | exact rfl | refine And.intro ?_ ?_)
    refine congrArg (Ct.arr (A := AF) 9) ?_
    show ((((partsN s).take i).map bS).drop 0).take i ++ [bS p] = ((partsN s).take (i + 1)).map bS
    rw [take_snocI hp, List.map_append, List.drop_zero, List.take_of_length_le (by omega)]
    rfl
  · rintro i ⟨rfl, hi⟩
    have hol : (outsS s).length = (partsN s).length := List.length_map ..
    have hml : (((partsN s).take (outsS s).length).map bS).length = (outsS s).length := by rw [List.length_map, List.length_take]; omega
    conv => whnf
    repeat' (first | (refine tell (fun hQ => ?_) (fun hQ => ?_) <;> (try dsimp only at hQ) <;> first | (exfalso; omega) | (exact absurd rfl hQ) | (exact absurd (by decide) hQ) | (conv => whnf)) | (refine allG rfl ?_; conv => whnf) | (refine And.intro (by first | omega | assumption | kernel_rfl | exact And.intro rfl rfl | ((try dsimp only [inR, idx, lowOf]); first | omega | (with_reducible decide) | (simp; omega) | (simp; done) | fail) | fail) ?_; conv => whnf) | fail)
    refine ⟨(), [], trivial, ⟨?_, rfl, congrArg (SV.lst (A := AF) 9) ?_⟩, ?_, trivial⟩
    · rw [hml]; omega
    · show (partsN s).map bS = ((((partsN s).take (outsS s).length).map bS).drop 0).take (outsS s).length
      rw [hol, List.take_length, List.drop_zero, List.take_of_length_le (by rw [List.length_map]; omega)]
    · repeat' (first | exact trivial | exact rfl | refine And.intro ?_ ?_)
def spCollect : Spec AF where
  γ := Txt
  δ := Unit
  args := fun _ => [.fn (.func 125) [] capS]
  own := fun s => ownS s
  pre := fun s => s.length ≤ 4000000000000
  nnew := 0
  res := fun s _ => .lst 9 ((partsN s).map bS)
  own' := fun _ _ => [none, none, none]
  post := fun _ _ => True
theorem m_collect : Meets Tryd.prog regF 77 spCollect := by
  refine meets Tryd.func77 5 noWr rfl (by kernel_rfl) (by kernel_rfl) ?_
  rintro (s : Txt) (hs : s.length ≤ 4000000000000)
  conv => whnf
  repeat' (first | (refine tell (fun hQ => ?_) (fun hQ => ?_) <;> (try dsimp only at hQ) <;> first | (exfalso; omega) | (exact absurd rfl hQ) | (exact absurd (by decide) hQ) | (conv => whnf)) | (refine allG rfl ?_; conv => whnf) | (refine And.intro (by first | omega | assumption | kernel_rfl | exact And.intro rfl rfl | ((try dsimp only [inR, idx, lowOf]); first | omega | (with_reducible decide) | (simp; omega) | (simp; done) | fail) | fail) ?_; conv => whnf) | fail)
  refine ⟨_, m_appS, s, [0, 1, 2], false, ?_⟩
  conv => whnf
  refine And.intro (vc0 hs (by (repeat' (first | exact trivial | exact rfl | refine And.intro ?_ ?_ | (refine congrArg vI ?_; first | omega | (dsimp only; omega) | fail) | (refine congrArg some ?_) | omega | exact Nat.le_refl _ | exact congrArg (SV.lst _) (List.take_of_length_le (Nat.le_refl _)).symm))) (by repeat' (first | exact trivial | exact rfl | refine And.intro ?_ ?_ | (refine congrArg vI ?_; first | omega | (dsimp only; omega) | fail) | (refine congrArg some ?_) | omega | exact Nat.le_refl _ | exact congrArg (SV.lst _) (List.take_of_length_le (Nat.le_refl _)).symm)) trivial trivial) ?_
  refine And.intro ⟨(), trivial⟩ (fun (_ : Unit) _ => ?_)
  conv => whnf
  conv => whnf
  repeat' (first | (refine tell (fun hQ => ?_) (fun hQ => ?_) <;> (try dsimp only at hQ) <;> first | (exfalso; omega) | (exact absurd rfl hQ) | (exact absurd (by decide) hQ) | (conv => whnf)) | (refine allG rfl ?_; conv => whnf) | (refine And.intro (by first | omega | assumption | kernel_rfl | exact And.intro rfl rfl | ((try dsimp only [inR, idx, lowOf]); first | omega | (with_reducible decide) | (simp; omega) | (simp; done) | fail) | fail) ?_; conv => whnf) | fail)
  exact ⟨(), [], trivial, rfl, ⟨trivial, trivial, trivial, trivial⟩, trivial⟩
end Go.Sx

