/-
  Layer 7, part M: the document's parts and Print.
-/
import Derived.Test.YtmogappoadglgaaDoorZTopF
set_option linter.unusedVariables false
set_option linter.unusedSimpArgs false
namespace Go.Sx
open Go Go.Proofs Go.Proofs.YtmogappoadglgaaDoor
def spParts07 : Spec AF where
  γ := Txt
  δ := Unit
  args := fun s => [vS s]
  own := fun _ => []
  pre := fun s => s.length ≤ 4000000000000
  nnew := 0
  res := fun s _ => .lst 9 ((partsN s).map bS)
  own' := fun _ _ => []
  post := fun _ _ => True
/-- The parts so far, and where the next one begins. -/
def PartsAt (s : Txt) (i fr : Nat) (out : List Txt) : Prop := fr ≤ i ∧ i ≤ s.length ∧ 47 ∉ (s.drop fr).take (i - fr) ∧ partsN s = out ++ partsN (s.drop fr) ∧ out.length ≤ i
theorem parts_next {s : Txt} {i fr : Nat} {out : List Txt} (h : PartsAt s i fr out) (hx : s[i]? = some 47) : PartsAt s (i + 1) (i + 1) (out ++ [(s.take i).drop fr]) := by
  obtain ⟨h1, h2, h3, h4, h5⟩ := h
  have hlt := (List.getElem?_eq_some_iff.1 hx).1
  have hd : s.drop fr = (s.take i).drop fr ++ 47 :: s.drop (i + 1) := by
    have e1 : s.drop i = 47 :: s.drop (i + 1) := by rw [List.drop_eq_getElem_cons hlt, (List.getElem?_eq_some_iff.1 hx).2]
    conv => lhs; rw [← List.take_append_drop i s]
    rw [List.drop_append_of_le_length (by rw [List.length_take]; omega), e1]
  have e2 : (s.take i).drop fr = (s.drop fr).take (i - fr) := by rw [List.drop_take]
  refine ⟨Nat.le_refl _, hlt, by simp, ?_, by rw [List.length_append]; show _ + 1 ≤ _; omega⟩
  rw [h4, hd, partsN_app (by rw [e2]; exact h3), List.append_assoc]
  rfl
theorem parts_same {s : Txt} {i fr : Nat} {out : List Txt} {x : UInt8} (h : PartsAt s i fr out) (hx : s[i]? = some x) (hne : x ≠ 47) : PartsAt s (i + 1) fr out := by
  obtain ⟨h1, h2, h3, h4, h5⟩ := h
  have hlt := (List.getElem?_eq_some_iff.1 hx).1
  refine ⟨by omega, hlt, ?_, h4, by omega⟩
  have : (s.drop fr)[i - fr]? = some x := by rw [List.getElem?_drop, show fr + (i - fr) = i by omega, hx]
  rw [show i + 1 - fr = (i - fr) + 1 by omega, take_snocI this]
  intro hm
  rcases List.mem_append.1 hm with hm | hm
  · exact h3 hm
  · exact hne (List.mem_singleton.1 hm).symm
theorem parts_done {s : Txt} {fr : Nat} {out : List Txt} (h : PartsAt s s.length fr out) : partsN s = out ++ [s.drop fr] := by
  obtain ⟨h1, h2, h3, h4, h5⟩ := h
  rw [h4, partsN_one]
  rw [List.take_of_length_le (by rw [List.length_drop]; exact Nat.le_refl _)] at h3
  exact h3
set_option maxRecDepth 100000 in
theorem m_parts07 : Meets Tryd.prog regF 79 spParts07 := by
  refine meets Tryd.func79 31 noWr rfl (by kernel_rfl) (by kernel_rfl) ?_
  rintro (s : Txt) (hs : s.length ≤ 4000000000000)
  have hz := size_bS s
  conv => whnf
  repeat' (first | (refine tell (fun hQ => ?_) (fun hQ => ?_) <;> (try dsimp only at hQ) <;> first | (exfalso; omega) | (exact absurd rfl hQ) | (exact absurd hQ hne) | (exact absurd hne hQ) | (exact absurd (by decide) hQ) | (conv => whnf)) | (refine allG rfl ?_; conv => whnf) | (refine And.intro (by first | omega | assumption | kernel_rfl | exact And.intro rfl rfl | ((try dsimp only [inR, idx, lowOf]); first | omega | (with_reducible decide) | (simp; omega) | (simp; done) | fail) | fail) ?_; conv => whnf) | fail)
  refine ⟨Nat × Nat × List Txt, fun g => ⟨[(0, vS s), (3, .sl 3000 1 0 g.2.2.length), (4, vI g.2.1), (5, vI g.1)], [(3000, .arr 9 (g.2.2.map bS))]⟩, fun g => PartsAt s g.1 g.2.1 g.2.2, fun g => s.length - g.1, fun _ _ => rfl, ⟨(0, 0, []), [], ⟨Nat.le_refl _, Nat.zero_le _, by simp, by simp, Nat.zero_le _⟩, ?_⟩, ?_⟩
  · refine ⟨rfl, ?_, ?_, rfl⟩
    all_goals (repeat' (first | exact trivial | exact rfl | refine And.intro ?_ ?_ | (refine congrArg vI ?_; first | omega | (dsimp only; omega) | fail) | (refine congrArg some ?_) | omega | exact Nat.le_refl _ | exact congrArg (SV.lst _) (List.take_of_length_le (Nat.le_refl _)).symm))
  rintro ⟨(i : Nat), (fr : Nat), (out : List Txt)⟩ (h : PartsAt s i fr out)
  have hobt := id h
  obtain ⟨h1, h2, h3, h4, h5⟩ := hobt
  have hml : (out.map bS).length = out.length := List.length_map ..
  by_cases hlt : i < s.length
  · have hobt : ∃ y, s[i]? = some y := ⟨_, List.getElem?_eq_getElem hlt⟩
    obtain ⟨x, hx⟩ := hobt
    have hv : ((((s.getD (i : Int).toNat 0).toNat : Nat) : Int)) = (x.toNat : Int) := by
      rw [List.getD_eq_getElem?_getD]
      simp [hx]
    by_cases hk : x = 47
    · subst hk
      have hv : ((((s.getD (i : Int).toNat 0).toNat : Nat) : Int)) = 47 := hv
      have hn := parts_next h hx
      have hcut : (⟨s.toArray⟩ : ByteArray).extract ((fr : Nat) : Int).toNat ((i : Nat) : Int).toNat = ⟨((s.take i).drop fr).toArray⟩ := bS_cut s fr i
      conv => whnf
      repeat' (first | (refine tell (fun hQ => ?_) (fun hQ => ?_) <;> (try dsimp only at hQ) <;> first | (exfalso; omega) | (exact absurd rfl hQ) | (exact absurd hQ hne) | (exact absurd hne hQ) | (exact absurd (by decide) hQ) | (conv => whnf)) | (refine allG rfl ?_; conv => whnf) | (refine And.intro (by first | omega | assumption | kernel_rfl | exact And.intro rfl rfl | ((try dsimp only [inR, idx, lowOf]); first | omega | (with_reducible decide) | (simp; omega) | (simp; done) | fail) | fail) ?_; conv => whnf) | fail)
      refine ⟨(i + 1, i + 1, out ++ [(s.take i).drop fr]), [(3000, 1022)], hn, ?_, rfl, ?_, ?_, rfl⟩
      · dsimp only; first | omega | (simp; done) | (simp; omega)
      all_goals (repeat' (first | exact trivial | exact rfl | refine And.intro ?_ ?_ | (refine congrArg vI ?_; first | omega | (dsimp only; omega) | fail) | (refine congrArg some ?_) | omega | exact Nat.le_refl _ | exact congrArg (SV.lst _) (List.take_of_length_le (Nat.le_refl _)).symm))
      · exact congrArg (SV.sl (A := AF) 1022 1 0) (show out.length + 1 = (out ++ [(s.take i).drop fr]).length by rw [List.length_append]; rfl)
      · refine congrArg (Ct.arr (A := AF) 9) ?_
        show ((out.map bS).drop 0).take out.length ++ [(⟨s.toArray⟩ : ByteArray).extract ((fr : Nat) : Int).toNat ((i : Nat) : Int).toNat] = (out ++ [(s.take i).drop fr]).map bS
        rw [List.drop_zero, List.take_of_length_le (by omega), List.map_append, hcut]
        rfl
    · have hv2 : ¬ ((((s.getD (i : Int).toNat 0).toNat : Nat) : Int)) = 47 := by
        rw [hv]; intro e; exact hk (UInt8.toNat_inj.1 (by show x.toNat = 47; omega))
      have hn := parts_same h hx hk
      conv => whnf
      repeat' (first | (refine tell (fun hQ => ?_) (fun hQ => ?_) <;> (try dsimp only at hQ) <;> first | (exfalso; omega) | (exact absurd rfl hQ) | (exact absurd hQ hne) | (exact absurd hne hQ) | (exact absurd (by decide) hQ) | (conv => whnf)) | (refine allG rfl ?_; conv => whnf) | (refine And.intro (by first | omega | assumption | kernel_rfl | exact And.intro rfl rfl | ((try dsimp only [inR, idx, lowOf]); first | omega | (with_reducible decide) | (simp; omega) | (simp; done) | fail) | fail) ?_; conv => whnf) | fail)
      refine ⟨(i + 1, fr, out), [], hn, ?_, rfl, ?_, ?_, rfl⟩
      · dsimp only; first | omega | (simp; done) | (simp; omega)
      all_goals (repeat' (first | exact trivial | exact rfl | refine And.intro ?_ ?_ | (refine congrArg vI ?_; first | omega | (dsimp only; omega) | fail) | (refine congrArg some ?_) | omega | exact Nat.le_refl _ | exact congrArg (SV.lst _) (List.take_of_length_le (Nat.le_refl _)).symm))
  · have hobt : i = s.length := by omega
    obtain rfl := hobt
    have hd := parts_done h
    have hcut := bS_drop s fr
    have key : ((out.map bS).drop 0).take out.length ++ [(⟨s.toArray⟩ : ByteArray).extract ((fr : Nat) : Int).toNat (⟨s.toArray⟩ : ByteArray).size] = (partsN s).map bS := by
      rw [show ((fr : Nat) : Int).toNat = fr from rfl, hcut, List.drop_zero, List.take_of_length_le (by omega), hd, List.map_append]
      rfl
    have hlen : (partsN s).length = out.length + 1 := by rw [hd, List.length_append]; rfl
    conv => whnf
    repeat' (first | (refine tell (fun hQ => ?_) (fun hQ => ?_) <;> (try dsimp only at hQ) <;> first | (exfalso; omega) | (exact absurd rfl hQ) | (exact absurd hQ hne) | (exact absurd hne hQ) | (exact absurd (by decide) hQ) | (conv => whnf)) | (refine allG rfl ?_; conv => whnf) | (refine And.intro (by first | omega | assumption | kernel_rfl | exact And.intro rfl rfl | ((try dsimp only [inR, idx, lowOf]); first | omega | (with_reducible decide) | (simp; omega) | (simp; done) | fail) | fail) ?_; conv => whnf) | fail)
    refine ⟨(), [], trivial, ⟨?_, rfl, congrArg (SV.lst (A := AF) 9) ?_⟩, trivial, trivial⟩
    · show 0 + (out.length + 1) ≤ (((out.map bS).drop 0).take out.length ++ [(⟨s.toArray⟩ : ByteArray).extract ((fr : Nat) : Int).toNat (⟨s.toArray⟩ : ByteArray).size]).length
      rw [key, List.length_map, hlen]; omega
    · show (partsN s).map bS = ((((out.map bS).drop 0).take out.length ++ [(⟨s.toArray⟩ : ByteArray).extract ((fr : Nat) : Int).toNat (⟨s.toArray⟩ : ByteArray).size]).drop 0).take (out.length + 1)
      rw [key, List.drop_zero, List.take_of_length_le (by rw [List.length_map, hlen]; exact Nat.le_refl _)]
theorem kindT_iff {k : Txt} : kindT k = true ↔ ByteArray.toList ⟨k.toArray⟩ = ByteArray.toList ⟨#[111, 114, 100, 101, 114]⟩ ∨ ByteArray.toList ⟨k.toArray⟩ = ByteArray.toList ⟨#[105, 110, 115, 116, 97, 110, 116, 65, 99, 116, 105, 111, 110, 115]⟩ ∨
    ByteArray.toList ⟨k.toArray⟩ = ByteArray.toList ⟨#[115, 116, 97, 116, 101]⟩ ∨ ByteArray.toList ⟨k.toArray⟩ = ByteArray.toList ⟨#[99, 111, 110, 110, 101, 99, 116, 105, 111, 110]⟩ ∨ ByteArray.toList ⟨k.toArray⟩ = ByteArray.toList ⟨#[118, 105, 115, 117, 97, 108, 105, 122, 97, 116, 105, 111, 110]⟩ := by
  unfold kindT
  rw [decide_eq_true_iff]
  have h : ∀ l : Txt, (ByteArray.toList ⟨k.toArray⟩ = ByteArray.toList ⟨l.toArray⟩ ↔ k = l) := fun l => bS_inj
  rw [h [111, 114, 100, 101, 114], h [105, 110, 115, 116, 97, 110, 116, 65, 99, 116, 105, 111, 110, 115], h [115, 116, 97, 116, 101], h [99, 111, 110, 110, 101, 99, 116, 105, 111, 110], h [118, 105, 115, 117, 97, 108, 105, 122, 97, 116, 105, 111, 110]]
  simp only [List.mem_cons, List.not_mem_nil, or_false]
theorem at_name07 {m : Txt} {b : Bool} (hm : m.length ≤ 9223372036854775807) (h : nameF m = b) : Meets Tryd.prog regF 46 (spAt { spName with pre := fun l => l.length ≤ 9223372036854775807 } m (vB b)) := meets_at m_name07 m hm _ fun _ => congrArg vB h
abbrev spPrint07 : Spec AF := { spPrint with pre := fun t => t.1.length ≤ 9223372036854775807 ∧ t.2.1.length ≤ 9223372036854775807 }
set_option maxRecDepth 100000 in
set_option maxHeartbeats 1600000 in
theorem m_print07 : Meets Tryd.prog regF 42 spPrint07 := by
  refine meets Tryd.func42 51 noWr rfl (by kernel_rfl) (by kernel_rfl) ?_
  rintro ⟨(m : Txt), (s : Txt), (k : Txt)⟩ ⟨(hm : m.length ≤ 9223372036854775807), (hs : s.length ≤ 9223372036854775807)⟩
  have bad : okT (m, s, k) = false → printS (m, s, k) = [] ∧ printE (m, s, k) = 70 := fun h => by unfold printS printE; rw [h]; exact ⟨rfl, rfl⟩
  have hki := kindT_iff (k := k)
  cases h1 : nameF m
  · have hobt := bad (by unfold okT; simp [h1])
    obtain ⟨e1, e2⟩ := hobt
    cases h2 : nameF s
    · have n1 := at_name07 hm h1
      have n2 := at_name07 hs h2
      conv => whnf
      repeat' (first | (refine tell (fun hQ => ?_) (fun hQ => ?_) <;> (try dsimp only at hQ) <;> first | (exfalso; omega) | (exact absurd rfl hQ) | (exact absurd hQ hne) | (exact absurd hne hQ) | (exact absurd (by decide) hQ) | (conv => whnf)) | (refine allG rfl ?_; conv => whnf) | (refine And.intro (by first | omega | assumption | kernel_rfl | exact And.intro rfl rfl | ((try dsimp only [inR, idx, lowOf]); first | omega | (with_reducible decide) | (simp; omega) | (simp; done) | fail) | fail) ?_; conv => whnf) | fail)
      refine ⟨_, n1, (), [], false, ?_⟩
      conv => whnf
      refine And.intro (vc0 trivial (by (repeat' (first | exact trivial | exact rfl | refine And.intro ?_ ?_ | (refine congrArg vI ?_; first | omega | (dsimp only; omega) | fail) | (refine congrArg some ?_) | omega | exact Nat.le_refl _ | exact congrArg (SV.lst _) (List.take_of_length_le (Nat.le_refl _)).symm))) (by repeat' (first | exact trivial | exact rfl | refine And.intro ?_ ?_ | (refine congrArg vI ?_; first | omega | (dsimp only; omega) | fail) | (refine congrArg some ?_) | omega | exact Nat.le_refl _ | exact congrArg (SV.lst _) (List.take_of_length_le (Nat.le_refl _)).symm)) trivial trivial) ?_
      refine And.intro ⟨(), trivial⟩ (fun (_ : Unit) _ => ?_)
      conv => whnf
      conv => whnf
      repeat' (first | (refine tell (fun hQ => ?_) (fun hQ => ?_) <;> (try dsimp only at hQ) <;> first | (exfalso; omega) | (exact absurd rfl hQ) | (exact absurd hQ hne) | (exact absurd hne hQ) | (exact absurd (by decide) hQ) | (conv => whnf)) | (refine allG rfl ?_; conv => whnf) | (refine And.intro (by first | omega | assumption | kernel_rfl | exact And.intro rfl rfl | ((try dsimp only [inR, idx, lowOf]); first | omega | (with_reducible decide) | (simp; omega) | (simp; done) | fail) | fail) ?_; conv => whnf) | fail)
      refine ⟨_, n2, (), [], false, ?_⟩
      conv => whnf
      refine And.intro (vc0 trivial (by (repeat' (first | exact trivial | exact rfl | refine And.intro ?_ ?_ | (refine congrArg vI ?_; first | omega | (dsimp only; omega) | fail) | (refine congrArg some ?_) | omega | exact Nat.le_refl _ | exact congrArg (SV.lst _) (List.take_of_length_le (Nat.le_refl _)).symm))) (by repeat' (first | exact trivial | exact rfl | refine And.intro ?_ ?_ | (refine congrArg vI ?_; first | omega | (dsimp only; omega) | fail) | (refine congrArg some ?_) | omega | exact Nat.le_refl _ | exact congrArg (SV.lst _) (List.take_of_length_le (Nat.le_refl _)).symm)) trivial trivial) ?_
      refine And.intro ⟨(), trivial⟩ (fun (_ : Unit) _ => ?_)
      conv => whnf
      conv => whnf
      repeat' (first | (refine tell (fun hQ => ?_) (fun hQ => ?_) <;> (try dsimp only at hQ) <;> first | (exfalso; omega) | (exact absurd rfl hQ) | (exact absurd hQ hne) | (exact absurd hne hQ) | (exact absurd (by decide) hQ) | (conv => whnf)) | (refine allG rfl ?_; conv => whnf) | (refine And.intro (by first | omega | assumption | kernel_rfl | exact And.intro rfl rfl | ((try dsimp only [inR, idx, lowOf]); first | omega | (with_reducible decide) | (simp; omega) | (simp; done) | fail) | fail) ?_; conv => whnf) | fail)
      exact ⟨(), [], trivial, ⟨eVSA e1.symm, eIA e2.symm, trivial⟩, trivial, trivial⟩
    · have n1 := at_name07 hm h1
      have n2 := at_name07 hs h2
      conv => whnf
      repeat' (first | (refine tell (fun hQ => ?_) (fun hQ => ?_) <;> (try dsimp only at hQ) <;> first | (exfalso; omega) | (exact absurd rfl hQ) | (exact absurd hQ hne) | (exact absurd hne hQ) | (exact absurd (by decide) hQ) | (conv => whnf)) | (refine allG rfl ?_; conv => whnf) | (refine And.intro (by first | omega | assumption | kernel_rfl | exact And.intro rfl rfl | ((try dsimp only [inR, idx, lowOf]); first | omega | (with_reducible decide) | (simp; omega) | (simp; done) | fail) | fail) ?_; conv => whnf) | fail)
      refine ⟨_, n1, (), [], false, ?_⟩
      conv => whnf
      refine And.intro (vc0 trivial (by (repeat' (first | exact trivial | exact rfl | refine And.intro ?_ ?_ | (refine congrArg vI ?_; first | omega | (dsimp only; omega) | fail) | (refine congrArg some ?_) | omega | exact Nat.le_refl _ | exact congrArg (SV.lst _) (List.take_of_length_le (Nat.le_refl _)).symm))) (by repeat' (first | exact trivial | exact rfl | refine And.intro ?_ ?_ | (refine congrArg vI ?_; first | omega | (dsimp only; omega) | fail) | (refine congrArg some ?_) | omega | exact Nat.le_refl _ | exact congrArg (SV.lst _) (List.take_of_length_le (Nat.le_refl _)).symm)) trivial trivial) ?_
      refine And.intro ⟨(), trivial⟩ (fun (_ : Unit) _ => ?_)
      conv => whnf
      conv => whnf
      repeat' (first | (refine tell (fun hQ => ?_) (fun hQ => ?_) <;> (try dsimp only at hQ) <;> first | (exfalso; omega) | (exact absurd rfl hQ) | (exact absurd hQ hne) | (exact absurd hne hQ) | (exact absurd (by decide) hQ) | (conv => whnf)) | (refine allG rfl ?_; conv => whnf) | (refine And.intro (by first | omega | assumption | kernel_rfl | exact And.intro rfl rfl | ((try dsimp only [inR, idx, lowOf]); first | omega | (with_reducible decide) | (simp; omega) | (simp; done) | fail) | fail) ?_; conv => whnf) | fail)
      refine ⟨_, n2, (), [], false, ?_⟩
      conv => whnf
      refine And.intro (vc0 trivial (by (repeat' (first | exact trivial | exact rfl | refine And.intro ?_ ?_ | (refine congrArg vI ?_; first | omega | (dsimp only; omega) | fail) | (refine congrArg some ?_) | omega | exact Nat.le_refl _ | exact congrArg (SV.lst _) (List.take_of_length_le (Nat.le_refl _)).symm))) (by repeat' (first | exact trivial | exact rfl | refine And.intro ?_ ?_ | (refine congrArg vI ?_; first | omega | (dsimp only; omega) | fail) | (refine congrArg some ?_) | omega | exact Nat.le_refl _ | exact congrArg (SV.lst _) (List.take_of_length_le (Nat.le_refl _)).symm)) trivial trivial) ?_
      refine And.intro ⟨(), trivial⟩ (fun (_ : Unit) _ => ?_)
      conv => whnf
      conv => whnf
      repeat' (first | (refine tell (fun hQ => ?_) (fun hQ => ?_) <;> (try dsimp only at hQ) <;> first | (exfalso; omega) | (exact absurd rfl hQ) | (exact absurd hQ hne) | (exact absurd hne hQ) | (exact absurd (by decide) hQ) | (conv => whnf)) | (refine allG rfl ?_; conv => whnf) | (refine And.intro (by first | omega | assumption | kernel_rfl | exact And.intro rfl rfl | ((try dsimp only [inR, idx, lowOf]); first | omega | (with_reducible decide) | (simp; omega) | (simp; done) | fail) | fail) ?_; conv => whnf) | fail)
      exact ⟨(), [], trivial, ⟨eVSA e1.symm, eIA e2.symm, trivial⟩, trivial, trivial⟩
  cases h2 : nameF s
  · have hobt := bad (by unfold okT; simp [h2])
    obtain ⟨e1, e2⟩ := hobt
    have n1 := at_name07 hm h1
    have n2 := at_name07 hs h2
    conv => whnf
    repeat' (first | (refine tell (fun hQ => ?_) (fun hQ => ?_) <;> (try dsimp only at hQ) <;> first | (exfalso; omega) | (exact absurd rfl hQ) | (exact absurd hQ hne) | (exact absurd hne hQ) | (exact absurd (by decide) hQ) | (conv => whnf)) | (refine allG rfl ?_; conv => whnf) | (refine And.intro (by first | omega | assumption | kernel_rfl | exact And.intro rfl rfl | ((try dsimp only [inR, idx, lowOf]); first | omega | (with_reducible decide) | (simp; omega) | (simp; done) | fail) | fail) ?_; conv => whnf) | fail)
    refine ⟨_, n1, (), [], false, ?_⟩
    conv => whnf
    refine And.intro (vc0 trivial (by (repeat' (first | exact trivial | exact rfl | refine And.intro ?_ ?_ | (refine congrArg vI ?_; first | omega | (dsimp only; omega) | fail) | (refine congrArg some ?_) | omega | exact Nat.le_refl _ | exact congrArg (SV.lst _) (List.take_of_length_le (Nat.le_refl _)).symm))) (by repeat' (first | exact trivial | exact rfl | refine And.intro ?_ ?_ | (refine congrArg vI ?_; first | omega | (dsimp only; omega) | fail) | (refine congrArg some ?_) | omega | exact Nat.le_refl _ | exact congrArg (SV.lst _) (List.take_of_length_le (Nat.le_refl _)).symm)) trivial trivial) ?_
    refine And.intro ⟨(), trivial⟩ (fun (_ : Unit) _ => ?_)
    conv => whnf
    conv => whnf
    repeat' (first | (refine tell (fun hQ => ?_) (fun hQ => ?_) <;> (try dsimp only at hQ) <;> first | (exfalso; omega) | (exact absurd rfl hQ) | (exact absurd hQ hne) | (exact absurd hne hQ) | (exact absurd (by decide) hQ) | (conv => whnf)) | (refine allG rfl ?_; conv => whnf) | (refine And.intro (by first | omega | assumption | kernel_rfl | exact And.intro rfl rfl | ((try dsimp only [inR, idx, lowOf]); first | omega | (with_reducible decide) | (simp; omega) | (simp; done) | fail) | fail) ?_; conv => whnf) | fail)
    refine ⟨_, n2, (), [], false, ?_⟩
    conv => whnf
    refine And.intro (vc0 trivial (by (repeat' (first | exact trivial | exact rfl | refine And.intro ?_ ?_ | (refine congrArg vI ?_; first | omega | (dsimp only; omega) | fail) | (refine congrArg some ?_) | omega | exact Nat.le_refl _ | exact congrArg (SV.lst _) (List.take_of_length_le (Nat.le_refl _)).symm))) (by repeat' (first | exact trivial | exact rfl | refine And.intro ?_ ?_ | (refine congrArg vI ?_; first | omega | (dsimp only; omega) | fail) | (refine congrArg some ?_) | omega | exact Nat.le_refl _ | exact congrArg (SV.lst _) (List.take_of_length_le (Nat.le_refl _)).symm)) trivial trivial) ?_
    refine And.intro ⟨(), trivial⟩ (fun (_ : Unit) _ => ?_)
    conv => whnf
    conv => whnf
    repeat' (first | (refine tell (fun hQ => ?_) (fun hQ => ?_) <;> (try dsimp only at hQ) <;> first | (exfalso; omega) | (exact absurd rfl hQ) | (exact absurd hQ hne) | (exact absurd hne hQ) | (exact absurd (by decide) hQ) | (conv => whnf)) | (refine allG rfl ?_; conv => whnf) | (refine And.intro (by first | omega | assumption | kernel_rfl | exact And.intro rfl rfl | ((try dsimp only [inR, idx, lowOf]); first | omega | (with_reducible decide) | (simp; omega) | (simp; done) | fail) | fail) ?_; conv => whnf) | fail)
    exact ⟨(), [], trivial, ⟨eVSA e1.symm, eIA e2.symm, trivial⟩, trivial, trivial⟩
  have n1 := at_name07 hm h1
  have n2 := at_name07 hs h2
  conv => whnf
  repeat' (first | (refine tell (fun hQ => ?_) (fun hQ => ?_) <;> (try dsimp only at hQ) <;> first | (exfalso; omega) | (exact absurd rfl hQ) | (exact absurd hQ hne) | (exact absurd hne hQ) | (exact absurd (by decide) hQ) | (conv => whnf)) | (refine allG rfl ?_; conv => whnf) | (refine And.intro (by first | omega | assumption | kernel_rfl | exact And.intro rfl rfl | ((try dsimp only [inR, idx, lowOf]); first | omega | (with_reducible decide) | (simp; omega) | (simp; done) | fail) | fail) ?_; conv => whnf) | fail)
  refine ⟨_, n1, (), [], false, ?_⟩
  conv => whnf
  refine And.intro (vc0 trivial (by (repeat' (first | exact trivial | exact rfl | refine And.intro ?_ ?_ | (refine congrArg vI ?_; first | omega | (dsimp only; omega) | fail) | (refine congrArg some ?_) | omega | exact Nat.le_refl _ | exact congrArg (SV.lst _) (List.take_of_length_le (Nat.le_refl _)).symm))) (by repeat' (first | exact trivial | exact rfl | refine And.intro ?_ ?_ | (refine congrArg vI ?_; first | omega | (dsimp only; omega) | fail) | (refine congrArg some ?_) | omega | exact Nat.le_refl _ | exact congrArg (SV.lst _) (List.take_of_length_le (Nat.le_refl _)).symm)) trivial trivial) ?_
  refine And.intro ⟨(), trivial⟩ (fun (_ : Unit) _ => ?_)
  conv => whnf
  conv => whnf
  repeat' (first | (refine tell (fun hQ => ?_) (fun hQ => ?_) <;> (try dsimp only at hQ) <;> first | (exfalso; omega) | (exact absurd rfl hQ) | (exact absurd hQ hne) | (exact absurd hne hQ) | (exact absurd (by decide) hQ) | (conv => whnf)) | (refine allG rfl ?_; conv => whnf) | (refine And.intro (by first | omega | assumption | kernel_rfl | exact And.intro rfl rfl | ((try dsimp only [inR, idx, lowOf]); first | omega | (with_reducible decide) | (simp; omega) | (simp; done) | fail) | fail) ?_; conv => whnf) | fail)
  refine ⟨_, n2, (), [], false, ?_⟩
  conv => whnf
  refine And.intro (vc0 trivial (by (repeat' (first | exact trivial | exact rfl | refine And.intro ?_ ?_ | (refine congrArg vI ?_; first | omega | (dsimp only; omega) | fail) | (refine congrArg some ?_) | omega | exact Nat.le_refl _ | exact congrArg (SV.lst _) (List.take_of_length_le (Nat.le_refl _)).symm))) (by repeat' (first | exact trivial | exact rfl | refine And.intro ?_ ?_ | (refine congrArg vI ?_; first | omega | (dsimp only; omega) | fail) | (refine congrArg some ?_) | omega | exact Nat.le_refl _ | exact congrArg (SV.lst _) (List.take_of_length_le (Nat.le_refl _)).symm)) trivial trivial) ?_
  refine And.intro ⟨(), trivial⟩ (fun (_ : Unit) _ => ?_)
  conv => whnf
  cases h3 : kindT k
  · have hobt := bad (by unfold okT; simp [h3])
    obtain ⟨e1, e2⟩ := hobt
    rw [h3] at hki
    have hno : ∀ {p : Prop}, (ByteArray.toList ⟨k.toArray⟩ = ByteArray.toList ⟨#[111, 114, 100, 101, 114]⟩ ∨ ByteArray.toList ⟨k.toArray⟩ = ByteArray.toList ⟨#[105, 110, 115, 116, 97, 110, 116, 65, 99, 116, 105, 111, 110, 115]⟩ ∨     ByteArray.toList ⟨k.toArray⟩ = ByteArray.toList ⟨#[115, 116, 97, 116, 101]⟩ ∨ ByteArray.toList ⟨k.toArray⟩ = ByteArray.toList ⟨#[99, 111, 110, 110, 101, 99, 116, 105, 111, 110]⟩ ∨ ByteArray.toList ⟨k.toArray⟩ = ByteArray.toList ⟨#[118, 105, 115, 117, 97, 108, 105, 122, 97, 116, 105, 111, 110]⟩) → p := fun h => absurd (hki.2 h) Bool.false_ne_true
    clear hki
    conv => whnf
    repeat' (first | (refine tell (fun hQ => ?_) (fun hQ => ?_) <;> (try dsimp only at hQ) <;> first | (exfalso; omega) | (exact absurd rfl hQ) | (exact absurd hQ hne) | (exact absurd hne hQ) | (exact absurd (by decide) hQ) | (conv => whnf)) | (refine allG rfl ?_; conv => whnf) | (refine And.intro (by first | omega | assumption | kernel_rfl | exact And.intro rfl rfl | ((try dsimp only [inR, idx, lowOf]); first | omega | (with_reducible decide) | (simp; omega) | (simp; done) | fail) | fail) ?_; conv => whnf) | fail)
    · exact ⟨(), [], trivial, ⟨eVSA e1.symm, eIA e2.symm, trivial⟩, trivial, trivial⟩
    all_goals first | exact hno (.inl (Classical.not_not.1 (by assumption))) | exact hno (.inr (.inl (Classical.not_not.1 (by assumption)))) | exact hno (.inr (.inr (.inl (Classical.not_not.1 (by assumption))))) | exact hno (.inr (.inr (.inr (.inl (Classical.not_not.1 (by assumption)))))) | exact hno (.inr (.inr (.inr (.inr (Classical.not_not.1 (by assumption))))))
  · have hok : okT (m, s, k) = true := okT_iff.2 ⟨h1, h2, h3⟩
    rw [h3] at hki
    have hyes := hki.1 rfl
    clear hki
    have l1 := nameF_len h1
    have l2 := nameF_len h2
    have l3 := kindT_len h3
    have z1 := size_bS m
    have z2 := size_bS s
    have z3 := size_bS k
    have y0 : (⟨#[117, 97, 103, 118, 47, 118, 50, 47]⟩ : ByteArray).size = 8 := rfl
    have y1 : (⟨#[47]⟩ : ByteArray).size = 1 := rfl
    have y2 : ((⟨#[117, 97, 103, 118, 47, 118, 50, 47]⟩ : ByteArray) ++ ⟨m.toArray⟩).size = 8 + m.length := by rw [ByteArray.size_append, y0, z1]
    have y3 : ((⟨#[117, 97, 103, 118, 47, 118, 50, 47]⟩ : ByteArray) ++ ⟨m.toArray⟩ ++ ⟨#[47]⟩).size = 9 + m.length := by rw [ByteArray.size_append, y2, y1]; omega
    have y4 : ((⟨#[117, 97, 103, 118, 47, 118, 50, 47]⟩ : ByteArray) ++ ⟨m.toArray⟩ ++ ⟨#[47]⟩ ++ ⟨s.toArray⟩).size = 9 + m.length + s.length := by rw [ByteArray.size_append, y3, z2]
    have y5 : ((⟨#[117, 97, 103, 118, 47, 118, 50, 47]⟩ : ByteArray) ++ ⟨m.toArray⟩ ++ ⟨#[47]⟩ ++ ⟨s.toArray⟩ ++ ⟨#[47]⟩).size = 10 + m.length + s.length := by rw [ByteArray.size_append, y4, y1]; omega
    have e1 : (⟨#[117, 97, 103, 118, 47, 118, 50, 47]⟩ : ByteArray) ++ ⟨m.toArray⟩ ++ ⟨#[47]⟩ ++ ⟨s.toArray⟩ ++ ⟨#[47]⟩ ++ ⟨k.toArray⟩ = ⟨(printS (m, s, k)).toArray⟩ := by
      unfold printS
      rw [hok, if_pos rfl, text_eq]
      have h1 : (⟨#[117, 97, 103, 118, 47, 118, 50, 47]⟩ : ByteArray) ++ ⟨m.toArray⟩ = ⟨(headL ++ m).toArray⟩ := bS_append headL m
      have h2 : ∀ l : Txt, (⟨l.toArray⟩ : ByteArray) ++ ⟨#[47]⟩ = ⟨(l ++ [47]).toArray⟩ := fun l => bS_append l [47]
      rw [h1, h2, bS_append, h2, bS_append]
      simp
    have e2 : printE (m, s, k) = 0 := by unfold printE; rw [hok]; rfl
    conv => whnf
    repeat' (first | (refine tell (fun hQ => ?_) (fun hQ => ?_) <;> (try dsimp only at hQ) <;> first | (exfalso; omega) | (exact absurd rfl hQ) | (exact absurd hQ hne) | (exact absurd hne hQ) | (exact absurd (by decide) hQ) | (conv => whnf)) | (refine allG rfl ?_; conv => whnf) | (refine And.intro (by first | omega | assumption | kernel_rfl | exact And.intro rfl rfl | ((try dsimp only [inR, idx, lowOf]); first | omega | (with_reducible decide) | (simp; omega) | (simp; done) | fail) | fail) ?_; conv => whnf) | fail)
    · exfalso
      rcases hyes with h | h | h | h | h
      all_goals exact absurd h (by assumption)
    all_goals exact ⟨(), [], trivial, ⟨congrArg (fun y => SV.val (A := AF) (.string y)) e1, eIA e2.symm, trivial⟩, trivial, trivial⟩
end Go.Sx

