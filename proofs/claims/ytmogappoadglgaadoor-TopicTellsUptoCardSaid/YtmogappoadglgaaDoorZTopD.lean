/-
  Layer 7, part D: strings.Count, strings.CutPrefix by the kit; Print, Parse, Match.
-/
import Derived.Test.YtmogappoadglgaaDoorZTopC
import Derived.Test.YtmogappoadglgaaDoorZBldt
set_option linter.unusedVariables false
set_option linter.unusedSimpArgs false
namespace Go.Sx
open Go Go.Proofs Go.Proofs.YtmogappoadglgaaDoor Go.Shelf
theorem args2' {vs : Array Value} {R : Reg AF} {ρ : Rho} {O : Nat → Prop} {w : World} {a b : SV AF} (h : DenL R ρ O w [a, b] vs.toList) : ∃ u v, vs = #[u, v] ∧ Den R ρ O w a u ∧ Den R ρ O w b v := by
  obtain ⟨h1, h2⟩ := h
  obtain ⟨l⟩ := vs
  match l, h1, h2 with
  | [u, v], _, h2 => exact ⟨u, v, rfl, h2 0 a u rfl rfl, h2 1 b v rfl rfl⟩
theorem eVSA {R : Reg AF} {st : St AF} {a b : List UInt8} (h : a = b) : EntA R st (vS a) (vS b) := congrArg vS h
theorem eIA {R : Reg AF} {st : St AF} {a b : Int} (h : a = b) : EntA R st (vI a) (vI b) := congrArg vI h
def spCountS : Spec AF where
  γ := Txt
  δ := Unit
  args := fun l => [vS l, vS [47]]
  own := fun _ => []
  pre := fun _ => True
  nnew := 0
  res := fun l _ => vI ((l.count 47 : Nat) : Int)
  own' := fun _ _ => []
  post := fun _ _ => True
theorem m_countS : Meets Tryd.prog regF 80 spCountS := by
  refine ⟨⟨_, Tryd.func80, by kernel_rfl, by kernel_rfl⟩, ?_⟩
  intro (l : Txt) _ X ρ w vs hX1 hX2 hargs hown
  have hobt := args2' hargs
  obtain ⟨u, v, rfl, hu, hv⟩ := hobt
  have hobt := val_inv hu
  obtain rfl := hobt
  have hobt := val_inv hv
  obtain rfl := hobt
  refine (Any.strings_Count_one TopT.cnt ⟨l.toArray⟩ 47 w).mono ?_
  rintro e w' ⟨rfl, rfl⟩
  have hrel : WRel (fun _ => False) w' w' := WRel.refl
  refine ⟨(), ρ, _, trivial, rfl, fun _ _ => rfl, .val _, ⟨fun h ct hct => by simp [spCountS] at hct, fun h h' ct ct' k base base' hct hct' e e' => by simp [spCountS] at hct⟩, fun k hk => ?_, rfl, rfl, fun h ct hct => by simp [spCountS] at hct, ?_⟩
  · obtain ⟨h, ct, base, hct, hr⟩ := hk
    simp [spCountS] at hct
  · exact ⟨hrel.os, hrel.tape, hrel.output, hrel.size, fun k hk hn => hrel.block k hk (fun e => e), hrel.shape⟩
def spCut : Spec AF where
  γ := Txt
  δ := Unit
  args := fun l => [vS l, vS headL]
  own := fun _ => []
  pre := fun _ => True
  nnew := 0
  res := fun l _ => .tup [vS (Lib.trimPrefix l headL), vB (Lib.hasPrefix l headL)]
  own' := fun _ _ => []
  post := fun _ _ => True
theorem m_cut : Meets Tryd.prog regF 76 spCut := by
  refine ⟨⟨_, Tryd.func76, by kernel_rfl, by kernel_rfl⟩, ?_⟩
  intro (l : Txt) _ X ρ w vs hX1 hX2 hargs hown
  have hobt := args2' hargs
  obtain ⟨u, v, rfl, hu, hv⟩ := hobt
  have hobt := val_inv hu
  obtain rfl := hobt
  have hobt := val_inv hv
  obtain rfl := hobt
  refine (Any.strings_CutPrefix TopT.cut ⟨l.toArray⟩ ⟨headL.toArray⟩ w).mono ?_
  rintro e w' ⟨rfl, rfl⟩
  have hrel : WRel (fun _ => False) w' w' := WRel.refl
  refine ⟨(), ρ, _, trivial, rfl, fun _ _ => rfl, ?_, ⟨fun h ct hct => by simp [spCut] at hct, fun h h' ct ct' k base base' hct hct' e e' => by simp [spCut] at hct⟩, fun k hk => ?_, rfl, rfl, fun h ct hct => by simp [spCut] at hct, ?_⟩
  · refine Den.tup _ _ rfl fun j a v ha hv => ?_
    match j, ha, hv with
    | 0, ha, hv => cases ha; cases hv; exact .val _
    | 1, ha, hv => cases ha; cases hv; exact .val _
  · obtain ⟨h, ct, base, hct, hr⟩ := hk
    simp [spCut] at hct
  · exact ⟨hrel.os, hrel.tape, hrel.output, hrel.size, fun k hk hn => hrel.block k hk (fun e => e), hrel.shape⟩
def spPrint : Spec AF where
  γ := Topic
  δ := Unit
  args := fun t => [topS t]
  own := fun _ => []
  pre := fun _ => True
  nnew := 0
  res := fun t _ => .tup [vS (printS t), vI (printE t)]
  own' := fun _ _ => []
  post := fun _ _ => True
theorem joinL_three (a b c : Txt) : joinL (bS [47]) [bS a, bS b, bS c] = a ++ 47 :: (b ++ 47 :: c) := by
  simp [joinL, restL]
set_option maxRecDepth 100000 in
theorem m_print : Meets Tryd.prog regF 44 spPrint := by
  refine meets Tryd.func44 29 noWr rfl (by kernel_rfl) (by kernel_rfl) ?_
  rintro ⟨(m : Txt), (s : Txt), (k : Txt)⟩ _
  have bad : okT (m, s, k) = false → printS (m, s, k) = [] ∧ printE (m, s, k) = 70 := fun h => by unfold printS printE; rw [h]; exact ⟨rfl, rfl⟩
  conv => whnf
  repeat' (first | (refine tell (fun hQ => ?_) (fun hQ => ?_) <;> (try dsimp only at hQ) <;> first | (exfalso; omega) | (exact absurd rfl hQ) | (exact absurd (by decide) hQ) | (conv => whnf)) | (refine allG rfl ?_; conv => whnf) | (refine And.intro (by first | omega | assumption | kernel_rfl | exact And.intro rfl rfl | ((try dsimp only [inR, idx, lowOf]); first | omega | (with_reducible decide) | (simp; omega) | (simp; done) | fail) | fail) ?_; conv => whnf) | fail)
  refine ⟨_, m_name, m, [], false, ?_⟩
  conv => whnf
  refine And.intro (vc0 trivial (by (repeat' (first | exact trivial | exact rfl | refine And.intro ?_ ?_ | (refine congrArg vI ?_; first | omega | (dsimp only; omega) | fail) | (refine congrArg some ?_) | omega | exact Nat.le_refl _ | exact congrArg (SV.lst _) (List.take_of_length_le (Nat.le_refl _)).symm))) (by repeat' (first | exact trivial | exact rfl | refine And.intro ?_ ?_ | (refine congrArg vI ?_; first | omega | (dsimp only; omega) | fail) | (refine congrArg some ?_) | omega | exact Nat.le_refl _ | exact congrArg (SV.lst _) (List.take_of_length_le (Nat.le_refl _)).symm)) trivial trivial) ?_
  refine And.intro ⟨(), trivial⟩ (fun (_ : Unit) _ => ?_)
  conv => whnf
  cases h1 : nameF m
  · have hobt := bad (by unfold okT; simp [h1])
    obtain ⟨e1, e2⟩ := hobt
    conv => whnf
    repeat' (first | (refine tell (fun hQ => ?_) (fun hQ => ?_) <;> (try dsimp only at hQ) <;> first | (exfalso; omega) | (exact absurd rfl hQ) | (exact absurd (by decide) hQ) | (conv => whnf)) | (refine allG rfl ?_; conv => whnf) | (refine And.intro (by first | omega | assumption | kernel_rfl | exact And.intro rfl rfl | ((try dsimp only [inR, idx, lowOf]); first | omega | (with_reducible decide) | (simp; omega) | (simp; done) | fail) | fail) ?_; conv => whnf) | fail)
    exact ⟨(), [], trivial, ⟨eVSA e1.symm, eIA e2.symm, trivial⟩, trivial, trivial⟩
  conv => whnf
  repeat' (first | (refine tell (fun hQ => ?_) (fun hQ => ?_) <;> (try dsimp only at hQ) <;> first | (exfalso; omega) | (exact absurd rfl hQ) | (exact absurd (by decide) hQ) | (conv => whnf)) | (refine allG rfl ?_; conv => whnf) | (refine And.intro (by first | omega | assumption | kernel_rfl | exact And.intro rfl rfl | ((try dsimp only [inR, idx, lowOf]); first | omega | (with_reducible decide) | (simp; omega) | (simp; done) | fail) | fail) ?_; conv => whnf) | fail)
  refine ⟨_, m_name, s, [], false, ?_⟩
  conv => whnf
  refine And.intro (vc0 trivial (by (repeat' (first | exact trivial | exact rfl | refine And.intro ?_ ?_ | (refine congrArg vI ?_; first | omega | (dsimp only; omega) | fail) | (refine congrArg some ?_) | omega | exact Nat.le_refl _ | exact congrArg (SV.lst _) (List.take_of_length_le (Nat.le_refl _)).symm))) (by repeat' (first | exact trivial | exact rfl | refine And.intro ?_ ?_ | (refine congrArg vI ?_; first | omega | (dsimp only; omega) | fail) | (refine congrArg some ?_) | omega | exact Nat.le_refl _ | exact congrArg (SV.lst _) (List.take_of_length_le (Nat.le_refl _)).symm)) trivial trivial) ?_
  refine And.intro ⟨(), trivial⟩ (fun (_ : Unit) _ => ?_)
  conv => whnf
  cases h2 : nameF s
  · have hobt := bad (by unfold okT; simp [h2])
    obtain ⟨e1, e2⟩ := hobt
    conv => whnf
    repeat' (first | (refine tell (fun hQ => ?_) (fun hQ => ?_) <;> (try dsimp only at hQ) <;> first | (exfalso; omega) | (exact absurd rfl hQ) | (exact absurd (by decide) hQ) | (conv => whnf)) | (refine allG rfl ?_; conv => whnf) | (refine And.intro (by first | omega | assumption | kernel_rfl | exact And.intro rfl rfl | ((try dsimp only [inR, idx, lowOf]); first | omega | (with_reducible decide) | (simp; omega) | (simp; done) | fail) | fail) ?_; conv => whnf) | fail)
    exact ⟨(), [], trivial, ⟨eVSA e1.symm, eIA e2.symm, trivial⟩, trivial, trivial⟩
  conv => whnf
  repeat' (first | (refine tell (fun hQ => ?_) (fun hQ => ?_) <;> (try dsimp only at hQ) <;> first | (exfalso; omega) | (exact absurd rfl hQ) | (exact absurd (by decide) hQ) | (conv => whnf)) | (refine allG rfl ?_; conv => whnf) | (refine And.intro (by first | omega | assumption | kernel_rfl | exact And.intro rfl rfl | ((try dsimp only [inR, idx, lowOf]); first | omega | (with_reducible decide) | (simp; omega) | (simp; done) | fail) | fail) ?_; conv => whnf) | fail)
  refine ⟨_, m_kindS, k, [], false, ?_⟩
  conv => whnf
  refine And.intro (vc0 trivial (by (repeat' (first | exact trivial | exact rfl | refine And.intro ?_ ?_ | (refine congrArg vI ?_; first | omega | (dsimp only; omega) | fail) | (refine congrArg some ?_) | omega | exact Nat.le_refl _ | exact congrArg (SV.lst _) (List.take_of_length_le (Nat.le_refl _)).symm))) (by repeat' (first | exact trivial | exact rfl | refine And.intro ?_ ?_ | (refine congrArg vI ?_; first | omega | (dsimp only; omega) | fail) | (refine congrArg some ?_) | omega | exact Nat.le_refl _ | exact congrArg (SV.lst _) (List.take_of_length_le (Nat.le_refl _)).symm)) trivial trivial) ?_
  refine And.intro ⟨(), trivial⟩ (fun (_ : Unit) _ => ?_)
  conv => whnf
  cases h3 : kindT k
  · have hobt := bad (by unfold okT; simp [h3])
    obtain ⟨e1, e2⟩ := hobt
    conv => whnf
    repeat' (first | (refine tell (fun hQ => ?_) (fun hQ => ?_) <;> (try dsimp only at hQ) <;> first | (exfalso; omega) | (exact absurd rfl hQ) | (exact absurd (by decide) hQ) | (conv => whnf)) | (refine allG rfl ?_; conv => whnf) | (refine And.intro (by first | omega | assumption | kernel_rfl | exact And.intro rfl rfl | ((try dsimp only [inR, idx, lowOf]); first | omega | (with_reducible decide) | (simp; omega) | (simp; done) | fail) | fail) ?_; conv => whnf) | fail)
    exact ⟨(), [], trivial, ⟨eVSA e1.symm, eIA e2.symm, trivial⟩, trivial, trivial⟩
  have hok : okT (m, s, k) = true := okT_iff.2 ⟨h1, h2, h3⟩
  have z1 := size_bS m
  have z2 := size_bS s
  have z3 := size_bS k
  have l1 := nameF_len h1
  have l2 := nameF_len h2
  have l3 := kindT_len h3
  have hpre : spJoin.pre ([bS m, bS s, bS k], bS [47]) := by
    refine ⟨⟨by show 2 ≤ 3; decide, by show 3 ≤ 1000; decide⟩, ⟨by show 0 < 1; decide, by show 1 ≤ 100; decide⟩, fun x hx => ?_⟩
    have hx : x ∈ [bS m, bS s, bS k] := hx
    simp only [List.mem_cons, List.not_mem_nil, or_false] at hx
    rcases hx with rfl | rfl | rfl
    · show (⟨m.toArray⟩ : ByteArray).size ≤ _; omega
    · show (⟨s.toArray⟩ : ByteArray).size ≤ _; omega
    · show (⟨k.toArray⟩ : ByteArray).size ≤ _; omega
  conv => whnf
  repeat' (first | (refine tell (fun hQ => ?_) (fun hQ => ?_) <;> (try dsimp only at hQ) <;> first | (exfalso; omega) | (exact absurd rfl hQ) | (exact absurd (by decide) hQ) | (conv => whnf)) | (refine allG rfl ?_; conv => whnf) | (refine And.intro (by first | omega | assumption | kernel_rfl | exact And.intro rfl rfl | ((try dsimp only [inR, idx, lowOf]); first | omega | (with_reducible decide) | (simp; omega) | (simp; done) | fail) | fail) ?_; conv => whnf) | fail)
  refine ⟨_, m_join, ([bS m, bS s, bS k], bS [47]), [], false, ?_⟩
  conv => whnf
  refine And.intro (vc0 hpre (by (repeat' (first | exact trivial | exact rfl | refine And.intro ?_ ?_ | (refine congrArg vI ?_; first | omega | (dsimp only; omega) | fail) | (refine congrArg some ?_) | omega | exact Nat.le_refl _ | exact congrArg (SV.lst _) (List.take_of_length_le (Nat.le_refl _)).symm))) (by repeat' (first | exact trivial | exact rfl | refine And.intro ?_ ?_ | (refine congrArg vI ?_; first | omega | (dsimp only; omega) | fail) | (refine congrArg some ?_) | omega | exact Nat.le_refl _ | exact congrArg (SV.lst _) (List.take_of_length_le (Nat.le_refl _)).symm)) trivial trivial) ?_
  refine And.intro ⟨(), trivial⟩ (fun (_ : Unit) _ => ?_)
  conv => whnf
  have hj : (⟨(joinL (bS [47]) [bS m, bS s, bS k]).toArray⟩ : ByteArray) = ⟨(m ++ 47 :: (s ++ 47 :: k)).toArray⟩ := by rw [joinL_three]
  have hjs : (⟨#[117, 97, 103, 118, 47, 118, 50, 47]⟩ : ByteArray).size + (⟨(joinL (bS [47]) [bS m, bS s, bS k]).toArray⟩ : ByteArray).size ≤ 9223372036854775807 := by
    rw [hj]
    have := size_bS (m ++ 47 :: (s ++ 47 :: k))
    simp only [List.length_append, List.length_cons] at this
    show 8 + (⟨(m ++ 47 :: (s ++ 47 :: k)).toArray⟩ : ByteArray).size ≤ _
    omega
  have he : (⟨#[117, 97, 103, 118, 47, 118, 50, 47]⟩ : ByteArray) ++ (⟨(joinL (bS [47]) [bS m, bS s, bS k]).toArray⟩ : ByteArray) = ⟨(printS (m, s, k)).toArray⟩ := by
    unfold printS
    rw [hok, if_pos rfl, hj, text_eq]
    exact bS_append headL _
  have e2 : printE (m, s, k) = 0 := by unfold printE; rw [hok]; rfl
  conv => whnf
  repeat' (first | (refine tell (fun hQ => ?_) (fun hQ => ?_) <;> (try dsimp only at hQ) <;> first | (exfalso; omega) | (exact absurd rfl hQ) | (exact absurd (by decide) hQ) | (conv => whnf)) | (refine allG rfl ?_; conv => whnf) | (refine And.intro (by first | omega | assumption | kernel_rfl | exact And.intro rfl rfl | ((try dsimp only [inR, idx, lowOf]); first | omega | (with_reducible decide) | (simp; omega) | (simp; done) | fail) | fail) ?_; conv => whnf) | fail)
  exact ⟨(), [], trivial, ⟨congrArg (fun y => SV.val (A := AF) (.string y)) he, eIA e2.symm, trivial⟩, trivial, trivial⟩
end Go.Sx

