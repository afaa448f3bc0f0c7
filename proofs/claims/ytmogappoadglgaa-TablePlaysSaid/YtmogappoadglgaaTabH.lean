/-
  Layer 14, part H: TableBack.
-/
import Derived.Test.YtmogappoadglgaaTabG
namespace Go.Sx
open Go Go.Proofs Go.Proofs.Ytmogappoadglgaa
theorem mem_snoc {l : List Int} {i : Nat} {x y : Int} (hx : l[i]? = some x) : y ∈ l.take (i + 1) ↔ y ∈ l.take i ∨ x = y := by
  rw [take_snocI hx, List.mem_append]; simp [eq_comm]
set_option maxHeartbeats 3200000 in
theorem m_back : Meets Try.prog regF 24 (spLaw (fun g : List OpT × Int × List Int => [.lst 77 g.1, vI g.2.1, .lst 3 g.2.2]) (fun g => OpsOk g.1 ∧ InI g.2.1 ∧ InL g.2.2)) := by
  refine meets Try.func24 154 noWr rfl (by kernel_rfl) (by kernel_rfl) ?_
  rintro ⟨(l : List OpT), (who : Int), (raw : List Int)⟩ ⟨⟨(hl : l.length ≤ 9223372036854775807), (hI : ∀ o ∈ l, InI o.1 ∧ InL o.2.2)⟩, (hwho : InI who), (hraw : InL raw)⟩
  have hW := pick3 who
  have hXl := elemsL_len raw
  have hXI := elemsL_in raw
  conv => whnf
  repeat' (first | (refine tell (fun htest => ?_) (fun htest => ?_) <;> (try dsimp only at htest) <;> first | (exfalso; omega) | (exact absurd rfl htest) | (exact absurd (by decide) htest) | (conv => whnf)) | (refine allG rfl ?_; conv => whnf) | (refine And.intro (by first | omega | assumption | kernel_rfl | exact And.intro rfl rfl | ((try dsimp only [inR, idx, lowOf]); first | omega | (with_reducible decide) | (simp; omega) | fail) | fail) ?_; conv => whnf) | fail)
  refine ⟨_, m_awakeT, (), [], false, ?_⟩
  conv => whnf
  refine And.intro (vc0 trivial (by (repeat' (first | exact trivial | exact rfl | refine And.intro ?_ ?_ | (refine congrArg vI ?_; first | omega | (dsimp only; omega) | fail) | (refine congrArg some ?_) | omega | exact Nat.le_refl _ | exact congrArg (SV.lst _) (List.take_of_length_le (Nat.le_refl _)).symm))) (by repeat' (first | exact trivial | exact rfl | refine And.intro ?_ ?_ | (refine congrArg vI ?_; first | omega | (dsimp only; omega) | fail) | (refine congrArg some ?_) | omega | exact Nat.le_refl _ | exact congrArg (SV.lst _) (List.take_of_length_le (Nat.le_refl _)).symm)) trivial trivial) ?_
  refine And.intro ⟨(), trivial⟩ (fun (_ : Unit) _ => ?_)
  conv => whnf
  conv => whnf
  repeat' (first | (refine tell (fun htest => ?_) (fun htest => ?_) <;> (try dsimp only at htest) <;> first | (exfalso; omega) | (exact absurd rfl htest) | (exact absurd (by decide) htest) | (conv => whnf)) | (refine allG rfl ?_; conv => whnf) | (refine And.intro (by first | omega | assumption | kernel_rfl | exact And.intro rfl rfl | ((try dsimp only [inR, idx, lowOf]); first | omega | (with_reducible decide) | (simp; omega) | fail) | fail) ?_; conv => whnf) | fail)
  refine ⟨_, m_tnew, (), [], false, ?_⟩
  conv => whnf
  refine And.intro (vc0 trivial (by (repeat' (first | exact trivial | exact rfl | refine And.intro ?_ ?_ | (refine congrArg vI ?_; first | omega | (dsimp only; omega) | fail) | (refine congrArg some ?_) | omega | exact Nat.le_refl _ | exact congrArg (SV.lst _) (List.take_of_length_le (Nat.le_refl _)).symm))) (by repeat' (first | exact trivial | exact rfl | refine And.intro ?_ ?_ | (refine congrArg vI ?_; first | omega | (dsimp only; omega) | fail) | (refine congrArg some ?_) | omega | exact Nat.le_refl _ | exact congrArg (SV.lst _) (List.take_of_length_le (Nat.le_refl _)).symm)) trivial trivial) ?_
  refine And.intro ⟨(), trivial⟩ (fun (_ : Unit) _ => ?_)
  conv => whnf
  conv => whnf
  repeat' (first | (refine tell (fun htest => ?_) (fun htest => ?_) <;> (try dsimp only at htest) <;> first | (exfalso; omega) | (exact absurd rfl htest) | (exact absurd (by decide) htest) | (conv => whnf)) | (refine allG rfl ?_; conv => whnf) | (refine And.intro (by first | omega | assumption | kernel_rfl | exact And.intro rfl rfl | ((try dsimp only [inR, idx, lowOf]); first | omega | (with_reducible decide) | (simp; omega) | fail) | fail) ?_; conv => whnf) | fail)
  refine ⟨Nat × TM, fun p => ⟨[(0, .lst 77 l), (1, vI who), (2, .lst 3 raw), (8, .ptr 1022 0 1 0), (9, vI p.1)], [(1022, .cells [.mp 2022]), (2022, .map 3 3 p.2)]⟩, fun p => p.1 ≤ l.length ∧ p.1 ≤ 30 ∧ TOk p.2 (8 * p.1), fun p => 30 - p.1, fun _ _ => rfl, ⟨(0, []), [], ⟨Nat.zero_le _, Nat.zero_le _, TOk.nil⟩, ?_⟩, ?_⟩
  · refine ⟨rfl, ?_, ?_, rfl⟩
    all_goals (repeat' (first | exact trivial | exact rfl | refine And.intro ?_ ?_ | (refine congrArg vI ?_; first | omega | (dsimp only; omega) | fail) | (refine congrArg some ?_) | omega | exact Nat.le_refl _ | exact congrArg (SV.lst _) (List.take_of_length_le (Nat.le_refl _)).symm))
  rintro ⟨(i : Nat), (m : TM)⟩ ⟨(hi : i ≤ l.length), (hi30 : i ≤ 30), (hT : TOk m (8 * i))⟩
  by_cases hlt : i < l.length ∧ i < 30
  · obtain ⟨hl1, hl2⟩ := hlt
    obtain ⟨⟨wh, fr, L⟩, ho⟩ : ∃ o, l[i]? = some o := ⟨_, List.getElem?_eq_getElem hl1⟩
    obtain ⟨(hwh : InI wh), (hL : InL L)⟩ := hI _ (List.mem_of_getElem? ho)
    cases fr
    · conv => whnf
      repeat' (first | (refine tell (fun htest => ?_) (fun htest => ?_) <;> (try dsimp only at htest) <;> first | (exfalso; omega) | (exact absurd rfl htest) | (exact absurd (by decide) htest) | (conv => whnf)) | (refine allG (x := (wh,false,L)) (by first | exact ho | simpa [List.getElem?_append_right, lowOf] using ho | fail) ?_; conv => whnf) | (refine allLst (x := (wh,false,L)) (by first | omega | assumption | fail) (by first | exact ho | simpa using ho | fail) ?_; conv => whnf) | (refine allG rfl ?_; conv => whnf) | (refine And.intro (by first | omega | assumption | kernel_rfl | exact And.intro rfl rfl | ((try dsimp only [inR, idx, lowOf]); first | omega | (with_reducible decide) | (simp; omega) | fail) | fail) ?_; conv => whnf) | fail)
      refine ⟨_, m_pick14, (wh, 3), [], false, ?_⟩
      conv => whnf
      refine And.intro (vc0 ⟨hwh, by show (0 : Int) < 3; decide⟩ (by (repeat' (first | exact trivial | exact rfl | refine And.intro ?_ ?_ | (refine congrArg vI ?_; first | omega | (dsimp only; omega) | fail) | (refine congrArg some ?_) | omega | exact Nat.le_refl _ | exact congrArg (SV.lst _) (List.take_of_length_le (Nat.le_refl _)).symm))) (by repeat' (first | exact trivial | exact rfl | refine And.intro ?_ ?_ | (refine congrArg vI ?_; first | omega | (dsimp only; omega) | fail) | (refine congrArg some ?_) | omega | exact Nat.le_refl _ | exact congrArg (SV.lst _) (List.take_of_length_le (Nat.le_refl _)).symm)) trivial trivial) ?_
      refine And.intro ⟨(), trivial⟩ (fun (_ : Unit) _ => ?_)
      conv => whnf
      conv => whnf
      repeat' (first | (refine tell (fun htest => ?_) (fun htest => ?_) <;> (try dsimp only at htest) <;> first | (exfalso; omega) | (exact absurd rfl htest) | (exact absurd (by decide) htest) | (conv => whnf)) | (refine allG (x := (wh,false,L)) (by first | exact ho | simpa [List.getElem?_append_right, lowOf] using ho | fail) ?_; conv => whnf) | (refine allLst (x := (wh,false,L)) (by first | omega | assumption | fail) (by first | exact ho | simpa using ho | fail) ?_; conv => whnf) | (refine allG rfl ?_; conv => whnf) | (refine And.intro (by first | omega | assumption | kernel_rfl | exact And.intro rfl rfl | ((try dsimp only [inR, idx, lowOf]); first | omega | (with_reducible decide) | (simp; omega) | fail) | fail) ?_; conv => whnf) | fail)
      refine ⟨_, m_elems, L, [], false, ?_⟩
      conv => whnf
      refine And.intro (vc0 hL (by (repeat' (first | exact trivial | exact rfl | refine And.intro ?_ ?_ | (refine congrArg vI ?_; first | omega | (dsimp only; omega) | fail) | (refine congrArg some ?_) | omega | exact Nat.le_refl _ | exact congrArg (SV.lst _) (List.take_of_length_le (Nat.le_refl _)).symm))) (by repeat' (first | exact trivial | exact rfl | refine And.intro ?_ ?_ | (refine congrArg vI ?_; first | omega | (dsimp only; omega) | fail) | (refine congrArg some ?_) | omega | exact Nat.le_refl _ | exact congrArg (SV.lst _) (List.take_of_length_le (Nat.le_refl _)).symm)) trivial trivial) ?_
      refine And.intro ⟨(), trivial⟩ (fun (_ : Unit) _ => ?_)
      conv => whnf
      conv => whnf
      repeat' (first | (refine tell (fun htest => ?_) (fun htest => ?_) <;> (try dsimp only at htest) <;> first | (exfalso; omega) | (exact absurd rfl htest) | (exact absurd (by decide) htest) | (conv => whnf)) | (refine allG rfl ?_; conv => whnf) | (refine And.intro (by first | omega | assumption | kernel_rfl | exact And.intro rfl rfl | ((try dsimp only [inR, idx, lowOf]); first | omega | (with_reducible decide) | (simp; omega) | fail) | fail) ?_; conv => whnf) | fail)
      refine ⟨_, m_claimD, (m, pickF wh 3, elemsL L), [1022, 2022], false, ?_⟩
      conv => whnf
      refine And.intro (vc0 (elemsL_ok L) (by (repeat' (first | exact trivial | exact rfl | refine And.intro ?_ ?_ | (refine congrArg vI ?_; first | omega | (dsimp only; omega) | fail) | (refine congrArg some ?_) | omega | exact Nat.le_refl _ | exact congrArg (SV.lst _) (List.take_of_length_le (Nat.le_refl _)).symm))) (by repeat' (first | exact trivial | exact rfl | refine And.intro ?_ ?_ | (refine congrArg vI ?_; first | omega | (dsimp only; omega) | fail) | (refine congrArg some ?_) | omega | exact Nat.le_refl _ | exact congrArg (SV.lst _) (List.take_of_length_le (Nat.le_refl _)).symm)) trivial trivial) ?_
      refine And.intro (claimD_ex _ _ _) ?_
      rintro ⟨(c : Bool), (m' : TM)⟩ ⟨hc, (hm' : m' = if c then claimL (pickF wh 3) m (elemsL L) else m)⟩
      conv => whnf
      repeat' (first | (refine tell (fun htest => ?_) (fun htest => ?_) <;> (try dsimp only at htest) <;> first | (exfalso; omega) | (exact absurd rfl htest) | (exact absurd (by decide) htest) | (conv => whnf)) | (refine allG rfl ?_; conv => whnf) | (refine And.intro (by first | omega | assumption | kernel_rfl | exact And.intro rfl rfl | ((try dsimp only [inR, idx, lowOf]); first | omega | (with_reducible decide) | (simp; omega) | fail) | fail) ?_; conv => whnf) | fail)
      refine ⟨(i + 1, m'), [], ⟨hl1, hl2, hT.opClaim (pick3 wh) (elemsL_len L) (elemsL_in L) hm'⟩, ?_, rfl, ?_, ?_, rfl⟩
      · dsimp only; first | omega | (simp; done) | (simp; omega)
      all_goals (repeat' (first | exact trivial | exact rfl | refine And.intro ?_ ?_ | (refine congrArg vI ?_; first | omega | (dsimp only; omega) | fail) | (refine congrArg some ?_) | omega | exact Nat.le_refl _ | exact congrArg (SV.lst _) (List.take_of_length_le (Nat.le_refl _)).symm))
    · conv => whnf
      repeat' (first | (refine tell (fun htest => ?_) (fun htest => ?_) <;> (try dsimp only at htest) <;> first | (exfalso; omega) | (exact absurd rfl htest) | (exact absurd (by decide) htest) | (conv => whnf)) | (refine allG (x := (wh,true,L)) (by first | exact ho | simpa [List.getElem?_append_right, lowOf] using ho | fail) ?_; conv => whnf) | (refine allLst (x := (wh,true,L)) (by first | omega | assumption | fail) (by first | exact ho | simpa using ho | fail) ?_; conv => whnf) | (refine allG rfl ?_; conv => whnf) | (refine And.intro (by first | omega | assumption | kernel_rfl | exact And.intro rfl rfl | ((try dsimp only [inR, idx, lowOf]); first | omega | (with_reducible decide) | (simp; omega) | fail) | fail) ?_; conv => whnf) | fail)
      refine ⟨_, m_pick14, (wh, 3), [], false, ?_⟩
      conv => whnf
      refine And.intro (vc0 ⟨hwh, by show (0 : Int) < 3; decide⟩ (by (repeat' (first | exact trivial | exact rfl | refine And.intro ?_ ?_ | (refine congrArg vI ?_; first | omega | (dsimp only; omega) | fail) | (refine congrArg some ?_) | omega | exact Nat.le_refl _ | exact congrArg (SV.lst _) (List.take_of_length_le (Nat.le_refl _)).symm))) (by repeat' (first | exact trivial | exact rfl | refine And.intro ?_ ?_ | (refine congrArg vI ?_; first | omega | (dsimp only; omega) | fail) | (refine congrArg some ?_) | omega | exact Nat.le_refl _ | exact congrArg (SV.lst _) (List.take_of_length_le (Nat.le_refl _)).symm)) trivial trivial) ?_
      refine And.intro ⟨(), trivial⟩ (fun (_ : Unit) _ => ?_)
      conv => whnf
      conv => whnf
      repeat' (first | (refine tell (fun htest => ?_) (fun htest => ?_) <;> (try dsimp only at htest) <;> first | (exfalso; omega) | (exact absurd rfl htest) | (exact absurd (by decide) htest) | (conv => whnf)) | (refine allG (x := (wh,true,L)) (by first | exact ho | simpa [List.getElem?_append_right, lowOf] using ho | fail) ?_; conv => whnf) | (refine allLst (x := (wh,true,L)) (by first | omega | assumption | fail) (by first | exact ho | simpa using ho | fail) ?_; conv => whnf) | (refine allG rfl ?_; conv => whnf) | (refine And.intro (by first | omega | assumption | kernel_rfl | exact And.intro rfl rfl | ((try dsimp only [inR, idx, lowOf]); first | omega | (with_reducible decide) | (simp; omega) | fail) | fail) ?_; conv => whnf) | fail)
      refine ⟨_, m_elems, L, [], false, ?_⟩
      conv => whnf
      refine And.intro (vc0 hL (by (repeat' (first | exact trivial | exact rfl | refine And.intro ?_ ?_ | (refine congrArg vI ?_; first | omega | (dsimp only; omega) | fail) | (refine congrArg some ?_) | omega | exact Nat.le_refl _ | exact congrArg (SV.lst _) (List.take_of_length_le (Nat.le_refl _)).symm))) (by repeat' (first | exact trivial | exact rfl | refine And.intro ?_ ?_ | (refine congrArg vI ?_; first | omega | (dsimp only; omega) | fail) | (refine congrArg some ?_) | omega | exact Nat.le_refl _ | exact congrArg (SV.lst _) (List.take_of_length_le (Nat.le_refl _)).symm)) trivial trivial) ?_
      refine And.intro ⟨(), trivial⟩ (fun (_ : Unit) _ => ?_)
      conv => whnf
      conv => whnf
      repeat' (first | (refine tell (fun htest => ?_) (fun htest => ?_) <;> (try dsimp only at htest) <;> first | (exfalso; omega) | (exact absurd rfl htest) | (exact absurd (by decide) htest) | (conv => whnf)) | (refine allG rfl ?_; conv => whnf) | (refine And.intro (by first | omega | assumption | kernel_rfl | exact And.intro rfl rfl | ((try dsimp only [inR, idx, lowOf]); first | omega | (with_reducible decide) | (simp; omega) | fail) | fail) ?_; conv => whnf) | fail)
      refine ⟨_, m_freeD, (m, pickF wh 3, elemsL L), [1022, 2022], false, ?_⟩
      conv => whnf
      refine And.intro (vc0 (elemsL_ok L) (by (repeat' (first | exact trivial | exact rfl | refine And.intro ?_ ?_ | (refine congrArg vI ?_; first | omega | (dsimp only; omega) | fail) | (refine congrArg some ?_) | omega | exact Nat.le_refl _ | exact congrArg (SV.lst _) (List.take_of_length_le (Nat.le_refl _)).symm))) (by repeat' (first | exact trivial | exact rfl | refine And.intro ?_ ?_ | (refine congrArg vI ?_; first | omega | (dsimp only; omega) | fail) | (refine congrArg some ?_) | omega | exact Nat.le_refl _ | exact congrArg (SV.lst _) (List.take_of_length_le (Nat.le_refl _)).symm)) trivial trivial) ?_
      refine And.intro ⟨_, rfl⟩ ?_
      rintro ⟨(m' : TM), (n : Nat)⟩ (hf : (m', n) = freeL (pickF wh 3) m (elemsL L))
      conv => whnf
      repeat' (first | (refine tell (fun htest => ?_) (fun htest => ?_) <;> (try dsimp only at htest) <;> first | (exfalso; omega) | (exact absurd rfl htest) | (exact absurd (by decide) htest) | (conv => whnf)) | (refine allG rfl ?_; conv => whnf) | (refine And.intro (by first | omega | assumption | kernel_rfl | exact And.intro rfl rfl | ((try dsimp only [inR, idx, lowOf]); first | omega | (with_reducible decide) | (simp; omega) | fail) | fail) ?_; conv => whnf) | fail)
      refine ⟨(i + 1, m'), [], ⟨hl1, hl2, (hT.opFree hf).more (by show 8 * i ≤ 8 * (i + 1); omega)⟩, ?_, rfl, ?_, ?_, rfl⟩
      · dsimp only; first | omega | (simp; done) | (simp; omega)
      all_goals (repeat' (first | exact trivial | exact rfl | refine And.intro ?_ ?_ | (refine congrArg vI ?_; first | omega | (dsimp only; omega) | fail) | (refine congrArg some ?_) | omega | exact Nat.le_refl _ | exact congrArg (SV.lst _) (List.take_of_length_le (Nat.le_refl _)).symm))
  · have hT : TOk m 240 := hT.more (by omega)
    conv => whnf
    repeat' (first | (refine tell (fun htest => ?_) (fun htest => ?_) <;> (try dsimp only at htest) <;> first | (exfalso; omega) | (exact absurd rfl htest) | (exact absurd (by decide) htest) | (conv => whnf)) | (refine allG rfl ?_; conv => whnf) | (refine And.intro (by first | omega | assumption | kernel_rfl | exact And.intro rfl rfl | ((try dsimp only [inR, idx, lowOf]); first | omega | (with_reducible decide) | (simp; omega) | fail) | fail) ?_; conv => whnf) | fail)
    all_goals
      refine ⟨_, m_of, (m, 0), [1022, 2022], false, ?_⟩
      conv => whnf
      refine And.intro (vc0 (hT.of (by omega)) (by (repeat' (first | exact trivial | exact rfl | refine And.intro ?_ ?_ | (refine congrArg vI ?_; first | omega | (dsimp only; omega) | fail) | (refine congrArg some ?_) | omega | exact Nat.le_refl _ | exact congrArg (SV.lst _) (List.take_of_length_le (Nat.le_refl _)).symm))) (by repeat' (first | exact trivial | exact rfl | refine And.intro ?_ ?_ | (refine congrArg vI ?_; first | omega | (dsimp only; omega) | fail) | (refine congrArg some ?_) | omega | exact Nat.le_refl _ | exact congrArg (SV.lst _) (List.take_of_length_le (Nat.le_refl _)).symm)) trivial trivial) ?_
      refine And.intro ⟨(), trivial⟩ (fun (_ : Unit) _ => ?_)
      conv => whnf
      conv => whnf
      repeat' (first | (refine tell (fun htest => ?_) (fun htest => ?_) <;> (try dsimp only at htest) <;> first | (exfalso; omega) | (exact absurd rfl htest) | (exact absurd (by decide) htest) | (conv => whnf)) | (refine allG rfl ?_; conv => whnf) | (refine And.intro (by first | omega | assumption | kernel_rfl | exact And.intro rfl rfl | ((try dsimp only [inR, idx, lowOf]); first | omega | (with_reducible decide) | (simp; omega) | fail) | fail) ?_; conv => whnf) | fail)
      refine ⟨_, m_of, (m, 1), [1022, 2022], false, ?_⟩
      conv => whnf
      refine And.intro (vc0 (hT.of (by omega)) (by (repeat' (first | exact trivial | exact rfl | refine And.intro ?_ ?_ | (refine congrArg vI ?_; first | omega | (dsimp only; omega) | fail) | (refine congrArg some ?_) | omega | exact Nat.le_refl _ | exact congrArg (SV.lst _) (List.take_of_length_le (Nat.le_refl _)).symm))) (by repeat' (first | exact trivial | exact rfl | refine And.intro ?_ ?_ | (refine congrArg vI ?_; first | omega | (dsimp only; omega) | fail) | (refine congrArg some ?_) | omega | exact Nat.le_refl _ | exact congrArg (SV.lst _) (List.take_of_length_le (Nat.le_refl _)).symm)) trivial trivial) ?_
      refine And.intro ⟨(), trivial⟩ (fun (_ : Unit) _ => ?_)
      conv => whnf
      conv => whnf
      repeat' (first | (refine tell (fun htest => ?_) (fun htest => ?_) <;> (try dsimp only at htest) <;> first | (exfalso; omega) | (exact absurd rfl htest) | (exact absurd (by decide) htest) | (conv => whnf)) | (refine allG rfl ?_; conv => whnf) | (refine And.intro (by first | omega | assumption | kernel_rfl | exact And.intro rfl rfl | ((try dsimp only [inR, idx, lowOf]); first | omega | (with_reducible decide) | (simp; omega) | fail) | fail) ?_; conv => whnf) | fail)
      refine ⟨_, m_of, (m, 2), [1022, 2022], false, ?_⟩
      conv => whnf
      refine And.intro (vc0 (hT.of (by omega)) (by (repeat' (first | exact trivial | exact rfl | refine And.intro ?_ ?_ | (refine congrArg vI ?_; first | omega | (dsimp only; omega) | fail) | (refine congrArg some ?_) | omega | exact Nat.le_refl _ | exact congrArg (SV.lst _) (List.take_of_length_le (Nat.le_refl _)).symm))) (by repeat' (first | exact trivial | exact rfl | refine And.intro ?_ ?_ | (refine congrArg vI ?_; first | omega | (dsimp only; omega) | fail) | (refine congrArg some ?_) | omega | exact Nat.le_refl _ | exact congrArg (SV.lst _) (List.take_of_length_le (Nat.le_refl _)).symm)) trivial trivial) ?_
      refine And.intro ⟨(), trivial⟩ (fun (_ : Unit) _ => ?_)
      conv => whnf
      conv => whnf
      repeat' (first | (refine tell (fun htest => ?_) (fun htest => ?_) <;> (try dsimp only at htest) <;> first | (exfalso; omega) | (exact absurd rfl htest) | (exact absurd (by decide) htest) | (conv => whnf)) | (refine allG rfl ?_; conv => whnf) | (refine And.intro (by first | omega | assumption | kernel_rfl | exact And.intro rfl rfl | ((try dsimp only [inR, idx, lowOf]); first | omega | (with_reducible decide) | (simp; omega) | fail) | fail) ?_; conv => whnf) | fail)
      refine ⟨_, m_pick14, (who, 3), [], false, ?_⟩
      conv => whnf
      refine And.intro (vc0 ⟨hwho, by show (0 : Int) < 3; decide⟩ (by (repeat' (first | exact trivial | exact rfl | refine And.intro ?_ ?_ | (refine congrArg vI ?_; first | omega | (dsimp only; omega) | fail) | (refine congrArg some ?_) | omega | exact Nat.le_refl _ | exact congrArg (SV.lst _) (List.take_of_length_le (Nat.le_refl _)).symm))) (by repeat' (first | exact trivial | exact rfl | refine And.intro ?_ ?_ | (refine congrArg vI ?_; first | omega | (dsimp only; omega) | fail) | (refine congrArg some ?_) | omega | exact Nat.le_refl _ | exact congrArg (SV.lst _) (List.take_of_length_le (Nat.le_refl _)).symm)) trivial trivial) ?_
      refine And.intro ⟨(), trivial⟩ (fun (_ : Unit) _ => ?_)
      conv => whnf
      conv => whnf
      repeat' (first | (refine tell (fun htest => ?_) (fun htest => ?_) <;> (try dsimp only at htest) <;> first | (exfalso; omega) | (exact absurd rfl htest) | (exact absurd (by decide) htest) | (conv => whnf)) | (refine allG rfl ?_; conv => whnf) | (refine And.intro (by first | omega | assumption | kernel_rfl | exact And.intro rfl rfl | ((try dsimp only [inR, idx, lowOf]); first | omega | (with_reducible decide) | (simp; omega) | fail) | fail) ?_; conv => whnf) | fail)
      refine ⟨_, m_elems, raw, [], false, ?_⟩
      conv => whnf
      refine And.intro (vc0 hraw (by (repeat' (first | exact trivial | exact rfl | refine And.intro ?_ ?_ | (refine congrArg vI ?_; first | omega | (dsimp only; omega) | fail) | (refine congrArg some ?_) | omega | exact Nat.le_refl _ | exact congrArg (SV.lst _) (List.take_of_length_le (Nat.le_refl _)).symm))) (by repeat' (first | exact trivial | exact rfl | refine And.intro ?_ ?_ | (refine congrArg vI ?_; first | omega | (dsimp only; omega) | fail) | (refine congrArg some ?_) | omega | exact Nat.le_refl _ | exact congrArg (SV.lst _) (List.take_of_length_le (Nat.le_refl _)).symm)) trivial trivial) ?_
      refine And.intro ⟨(), trivial⟩ (fun (_ : Unit) _ => ?_)
      conv => whnf
      conv => whnf
      repeat' (first | (refine tell (fun htest => ?_) (fun htest => ?_) <;> (try dsimp only at htest) <;> first | (exfalso; omega) | (exact absurd rfl htest) | (exact absurd (by decide) htest) | (conv => whnf)) | (refine allG rfl ?_; conv => whnf) | (refine And.intro (by first | omega | assumption | kernel_rfl | exact And.intro rfl rfl | ((try dsimp only [inR, idx, lowOf]); first | omega | (with_reducible decide) | (simp; omega) | fail) | fail) ?_; conv => whnf) | fail)
      refine ⟨Nat × List Int, fun p => ⟨[(8, .ptr 1022 0 1 0), (11, .sl 1074 1 0 3), (12, vI (pickF who 3)), (13, .sl 3000 1 0 p.2.length), (78, .lst 3 (elemsL raw)), (79, vI ((elemsL raw)).length), (80, vI p.1)], [(1022, .cells [.mp 2022]), (2022, .map 3 3 m), (1074, .cells [.lst 3 (ofL m 0), .lst 3 (ofL m 1), .lst 3 (ofL m 2)]), (3000, .arr 3 p.2)]⟩, fun p => p.1 ≤ ((elemsL raw)).length ∧ p.2.length ≤ p.1 ∧ p.2.Nodup ∧ ∀ y ∈ p.2, InI y ∧ lookT m y = none, fun p => 8 - p.1, fun _ _ => rfl, ⟨(0, []), [], ⟨Nat.zero_le _, Nat.zero_le _, by simp, fun y h => by simp at h⟩, ?_⟩, ?_⟩
      · refine ⟨rfl, ?_, ?_, rfl⟩
        all_goals (repeat' (first | exact trivial | exact rfl | refine And.intro ?_ ?_ | (refine congrArg vI ?_; first | omega | (dsimp only; omega) | fail) | (refine congrArg some ?_) | omega | exact Nat.le_refl _ | exact congrArg (SV.lst _) (List.take_of_length_le (Nat.le_refl _)).symm))
      rintro ⟨(j : Nat), (ys : List Int)⟩ ⟨(hj : j ≤ ((elemsL raw)).length), (hyl : ys.length ≤ j), (hyn : ys.Nodup), (hys : ∀ y ∈ ys, InI y ∧ lookT m y = none)⟩
      by_cases hjl : j < ((elemsL raw)).length
      · obtain ⟨x, hx⟩ : ∃ x, ((elemsL raw))[j]? = some x := ⟨_, List.getElem?_eq_getElem hjl⟩
        have hxI := hXI x (List.mem_of_getElem? hx)
        conv => whnf
        repeat' (first | (refine tell (fun htest => ?_) (fun htest => ?_) <;> (try dsimp only at htest) <;> first | (exfalso; omega) | (exact absurd rfl htest) | (exact absurd (by decide) htest) | (conv => whnf)) | (refine allG (x := x) (by first | exact hx | simpa [List.getElem?_append_right, lowOf] using hx | fail) ?_; conv => whnf) | (refine allLst (x := x) (by first | omega | assumption | fail) (by first | exact hx | simpa using hx | fail) ?_; conv => whnf) | (refine allG rfl ?_; conv => whnf) | (refine And.intro (by first | omega | assumption | kernel_rfl | exact And.intro rfl rfl | ((try dsimp only [inR, idx, lowOf]); first | omega | (with_reducible decide) | (simp; omega) | fail) | fail) ?_; conv => whnf) | fail)
        refine ⟨_, m_ownerD, (m, x), [1022, 2022], false, ?_⟩
        conv => whnf
        refine And.intro (vc0 hxI (by (repeat' (first | exact trivial | exact rfl | refine And.intro ?_ ?_ | (refine congrArg vI ?_; first | omega | (dsimp only; omega) | fail) | (refine congrArg some ?_) | omega | exact Nat.le_refl _ | exact congrArg (SV.lst _) (List.take_of_length_le (Nat.le_refl _)).symm))) (by repeat' (first | exact trivial | exact rfl | refine And.intro ?_ ?_ | (refine congrArg vI ?_; first | omega | (dsimp only; omega) | fail) | (refine congrArg some ?_) | omega | exact Nat.le_refl _ | exact congrArg (SV.lst _) (List.take_of_length_le (Nat.le_refl _)).symm)) trivial trivial) ?_
        refine And.intro ⟨_, rfl⟩ ?_
        rintro ⟨(v : Int), (is : Bool)⟩ (hv : (v, is) = ((lookT m x).getD 0, (lookT m x).isSome))
        have his : is = (lookT m x).isSome := congrArg Prod.snd hv
        conv => whnf
        repeat' (first | (refine tell (fun htest => ?_) (fun htest => ?_) <;> (try dsimp only at htest) <;> first | (exfalso; omega) | (exact absurd rfl htest) | (exact absurd (by decide) htest) | (conv => whnf)) | (refine allG rfl ?_; conv => whnf) | (refine And.intro (by first | omega | assumption | kernel_rfl | exact And.intro rfl rfl | ((try dsimp only [inR, idx, lowOf]); first | omega | (with_reducible decide) | (simp; omega) | fail) | fail) ?_; conv => whnf) | fail)
        refine ⟨Nat × Bool, fun p => ⟨[(8, .ptr 1022 0 1 0), (11, .sl 1074 1 0 3), (12, vI (pickF who 3)), (13, .sl 3000 1 0 ys.length), (15, vI x), (17, vB is), (18, vB p.2), (19, vI p.1), (78, .lst 3 (elemsL raw)), (79, vI ((elemsL raw)).length), (80, vI j)], [(1022, .cells [.mp 2022]), (2022, .map 3 3 m), (1074, .cells [.lst 3 (ofL m 0), .lst 3 (ofL m 1), .lst 3 (ofL m 2)]), (3000, .arr 3 ys)]⟩, fun p => p.1 ≤ ys.length ∧ (p.2 = true ↔ x ∈ ys.take p.1), fun p => ys.length - p.1, fun _ _ => rfl, ⟨(0, false), [], ⟨Nat.zero_le _, by simp⟩, ?_⟩, ?_⟩
        · refine ⟨rfl, ?_, ?_, rfl⟩
          all_goals (repeat' (first | exact trivial | exact rfl | refine And.intro ?_ ?_ | (refine congrArg vI ?_; first | omega | (dsimp only; omega) | fail) | (refine congrArg some ?_) | omega | exact Nat.le_refl _ | exact congrArg (SV.lst _) (List.take_of_length_le (Nat.le_refl _)).symm))
        rintro ⟨(i2 : Nat), (b : Bool)⟩ ⟨(hi2 : i2 ≤ ys.length), (hb : b = true ↔ x ∈ ys.take i2)⟩
        by_cases hil : i2 < ys.length
        · obtain ⟨y, hy⟩ : ∃ y, ys[i2]? = some y := ⟨_, List.getElem?_eq_getElem hil⟩
          have hsn := mem_snoc (y := x) hy
          cases b
          · by_cases hyx : y = x
            · have hk : true = true ↔ x ∈ ys.take (i2 + 1) := ⟨fun _ => hsn.2 (.inr hyx), fun _ => rfl⟩
              conv => whnf
              repeat' (first | (refine tell (fun htest => ?_) (fun htest => ?_) <;> (try dsimp only at htest) <;> first | (exfalso; omega) | (exact absurd rfl htest) | (exact absurd (by decide) htest) | (conv => whnf)) | (refine allG (x := y) (by first | exact hy | simpa [List.getElem?_append_right, lowOf] using hy | fail) ?_; conv => whnf) | (refine allLst (x := y) (by first | omega | assumption | fail) (by first | exact hy | simpa using hy | fail) ?_; conv => whnf) | (refine allG rfl ?_; conv => whnf) | (refine And.intro (by first | omega | assumption | kernel_rfl | exact And.intro rfl rfl | ((try dsimp only [inR, idx, lowOf]); first | omega | (with_reducible decide) | (simp; omega) | fail) | fail) ?_; conv => whnf) | fail)
              refine ⟨(i2 + 1, true), [], ⟨hil, hk⟩, ?_, rfl, ?_, ?_, rfl⟩
              · dsimp only; first | omega | (simp; done) | (simp; omega)
              all_goals (repeat' (first | exact trivial | exact rfl | refine And.intro ?_ ?_ | (refine congrArg vI ?_; first | omega | (dsimp only; omega) | fail) | (refine congrArg some ?_) | omega | exact Nat.le_refl _ | exact congrArg (SV.lst _) (List.take_of_length_le (Nat.le_refl _)).symm))
            · have hk : false = true ↔ x ∈ ys.take (i2 + 1) := ⟨fun h => (by cases h), fun h => (hsn.1 h).elim (fun h => hb.2 h) (fun h => absurd h hyx)⟩
              conv => whnf
              repeat' (first | (refine tell (fun htest => ?_) (fun htest => ?_) <;> (try dsimp only at htest) <;> first | (exfalso; omega) | (exact absurd rfl htest) | (exact absurd (by decide) htest) | (conv => whnf)) | (refine allG (x := y) (by first | exact hy | simpa [List.getElem?_append_right, lowOf] using hy | fail) ?_; conv => whnf) | (refine allLst (x := y) (by first | omega | assumption | fail) (by first | exact hy | simpa using hy | fail) ?_; conv => whnf) | (refine allG rfl ?_; conv => whnf) | (refine And.intro (by first | omega | assumption | kernel_rfl | exact And.intro rfl rfl | ((try dsimp only [inR, idx, lowOf]); first | omega | (with_reducible decide) | (simp; omega) | fail) | fail) ?_; conv => whnf) | fail)
              refine ⟨(i2 + 1, false), [], ⟨hil, hk⟩, ?_, rfl, ?_, ?_, rfl⟩
              · dsimp only; first | omega | (simp; done) | (simp; omega)
              all_goals (repeat' (first | exact trivial | exact rfl | refine And.intro ?_ ?_ | (refine congrArg vI ?_; first | omega | (dsimp only; omega) | fail) | (refine congrArg some ?_) | omega | exact Nat.le_refl _ | exact congrArg (SV.lst _) (List.take_of_length_le (Nat.le_refl _)).symm))
          · have hk : true = true ↔ x ∈ ys.take (i2 + 1) := ⟨fun _ => hsn.2 (.inl (hb.1 rfl)), fun _ => rfl⟩
            conv => whnf
            repeat' (first | (refine tell (fun htest => ?_) (fun htest => ?_) <;> (try dsimp only at htest) <;> first | (exfalso; omega) | (exact absurd rfl htest) | (exact absurd (by decide) htest) | (conv => whnf)) | (refine allG (x := y) (by first | exact hy | simpa [List.getElem?_append_right, lowOf] using hy | fail) ?_; conv => whnf) | (refine allLst (x := y) (by first | omega | assumption | fail) (by first | exact hy | simpa using hy | fail) ?_; conv => whnf) | (refine allG rfl ?_; conv => whnf) | (refine And.intro (by first | omega | assumption | kernel_rfl | exact And.intro rfl rfl | ((try dsimp only [inR, idx, lowOf]); first | omega | (with_reducible decide) | (simp; omega) | fail) | fail) ?_; conv => whnf) | fail)
            refine ⟨(i2 + 1, true), [], ⟨hil, hk⟩, ?_, rfl, ?_, ?_, rfl⟩
            · dsimp only; first | omega | (simp; done) | (simp; omega)
            all_goals (repeat' (first | exact trivial | exact rfl | refine And.intro ?_ ?_ | (refine congrArg vI ?_; first | omega | (dsimp only; omega) | fail) | (refine congrArg some ?_) | omega | exact Nat.le_refl _ | exact congrArg (SV.lst _) (List.take_of_length_le (Nat.le_refl _)).symm))
        · rw [List.take_of_length_le (by omega)] at hb
          cases is
          · cases b
            · have hxn : x ∉ ys := fun h => by have := hb.2 h; cases this
              have hno : lookT m x = none := by
                cases e : lookT m x with
                | none => rfl
                | some w => rw [e] at his; cases his
              conv => whnf
              repeat' (first | (refine tell (fun htest => ?_) (fun htest => ?_) <;> (try dsimp only at htest) <;> first | (exfalso; omega) | (exact absurd rfl htest) | (exact absurd (by decide) htest) | (conv => whnf)) | (refine allG rfl ?_; conv => whnf) | (refine And.intro (by first | omega | assumption | kernel_rfl | exact And.intro rfl rfl | ((try dsimp only [inR, idx, lowOf]); first | omega | (with_reducible decide) | (simp; omega) | fail) | fail) ?_; conv => whnf) | fail)
              refine ⟨(j + 1, ys ++ [x]), [(3000, 1114)], ⟨hjl, by simp; omega, by rw [List.nodup_append]; exact ⟨hyn, by simp, fun a ha c hc => by simp at hc; subst hc; rintro rfl; exact hxn ha⟩, fun y hy => by rcases List.mem_append.1 hy with hy | hy; exact hys y hy; simp at hy; subst hy; exact ⟨hxI, hno⟩⟩, ?_, rfl, ?_, ?_, rfl⟩
              · dsimp only; first | omega | (simp; done) | (simp; omega)
              all_goals (repeat' (first | exact trivial | exact rfl | refine And.intro ?_ ?_ | (refine congrArg vI ?_; first | omega | (dsimp only; omega) | fail) | (refine congrArg some ?_) | omega | exact Nat.le_refl _ | exact congrArg (SV.lst _) (List.take_of_length_le (Nat.le_refl _)).symm))
              · exact congrArg (SV.sl (A := AF) 1114 1 0) (show ys.length + 1 = (ys ++ [x]).length by simp)
              · exact congrArg (Ct.arr (A := AF) 3) (show (ys.drop 0).take ys.length ++ [x] = ys ++ [x] by simp)
            · conv => whnf
              repeat' (first | (refine tell (fun htest => ?_) (fun htest => ?_) <;> (try dsimp only at htest) <;> first | (exfalso; omega) | (exact absurd rfl htest) | (exact absurd (by decide) htest) | (conv => whnf)) | (refine allG rfl ?_; conv => whnf) | (refine And.intro (by first | omega | assumption | kernel_rfl | exact And.intro rfl rfl | ((try dsimp only [inR, idx, lowOf]); first | omega | (with_reducible decide) | (simp; omega) | fail) | fail) ?_; conv => whnf) | fail)
              refine ⟨(j + 1, ys), [], ⟨hjl, by dsimp only; omega, hyn, hys⟩, ?_, rfl, ?_, ?_, rfl⟩
              · dsimp only; first | omega | (simp; done) | (simp; omega)
              all_goals (repeat' (first | exact trivial | exact rfl | refine And.intro ?_ ?_ | (refine congrArg vI ?_; first | omega | (dsimp only; omega) | fail) | (refine congrArg some ?_) | omega | exact Nat.le_refl _ | exact congrArg (SV.lst _) (List.take_of_length_le (Nat.le_refl _)).symm))
          · conv => whnf
            repeat' (first | (refine tell (fun htest => ?_) (fun htest => ?_) <;> (try dsimp only at htest) <;> first | (exfalso; omega) | (exact absurd rfl htest) | (exact absurd (by decide) htest) | (conv => whnf)) | (refine allG rfl ?_; conv => whnf) | (refine And.intro (by first | omega | assumption | kernel_rfl | exact And.intro rfl rfl | ((try dsimp only [inR, idx, lowOf]); first | omega | (with_reducible decide) | (simp; omega) | fail) | fail) ?_; conv => whnf) | fail)
            all_goals
              refine ⟨(j + 1, ys), [], ⟨hjl, by dsimp only; omega, hyn, hys⟩, ?_, rfl, ?_, ?_, rfl⟩
              · dsimp only; first | omega | (simp; done) | (simp; omega)
              all_goals (repeat' (first | exact trivial | exact rfl | refine And.intro ?_ ?_ | (refine congrArg vI ?_; first | omega | (dsimp only; omega) | fail) | (refine congrArg some ?_) | omega | exact Nat.le_refl _ | exact congrArg (SV.lst _) (List.take_of_length_le (Nat.le_refl _)).symm))
      · have hyI : InL ys := ⟨by omega, fun y hy => (hys y hy).1⟩
        have hc1 : ClaimOk m (pickF who 3) ys := fun x hx w hw => by rw [(hys x hx).2] at hw; cases hw
        have hT1 : TOk (claimL (pickF who 3) m ys) 248 := (TOk.claim hW hT hyI.2).more (by omega)
        have hlk1 : ∀ x, lookT (claimL (pickF who 3) m ys) x = if x ∈ ys then some (pickF who 3) else lookT m x := fun x => lookT_claim _ _ _ _
        have hYY : ((((((ys.drop 0).take ys.length).drop 0).take ys.length ++ (ys.drop 0).take ys.length).drop 0).take (ys.length + ys.length)) = ys ++ ys := by
          simp only [List.drop_zero, List.take_length]
          exact List.take_of_length_le (by simp)
        have hYI : InL ((((((ys.drop 0).take ys.length).drop 0).take ys.length ++ (ys.drop 0).take ys.length).drop 0).take (ys.length + ys.length)) := by rw [hYY]; exact ⟨by simp; omega, fun y hy => by rcases List.mem_append.1 hy with hy | hy <;> exact hyI.2 y hy⟩
        conv => whnf
        repeat' (first | (refine tell (fun htest => ?_) (fun htest => ?_) <;> (try dsimp only at htest) <;> first | (exfalso; omega) | (exact absurd rfl htest) | (exact absurd (by decide) htest) | (conv => whnf)) | (refine allG rfl ?_; conv => whnf) | (refine And.intro (by first | omega | assumption | kernel_rfl | exact And.intro rfl rfl | ((try dsimp only [inR, idx, lowOf]); first | omega | (with_reducible decide) | (simp; omega) | fail) | fail) ?_; conv => whnf) | fail)
        refine ⟨_, m_claimD, (m, (pickF who 3), ys), [1022, 2022], true, ?_⟩
        conv => whnf
        refine And.intro (vc0 hyI (by (repeat' (first | exact trivial | exact rfl | refine And.intro ?_ ?_ | (refine congrArg vI ?_; first | omega | (dsimp only; omega) | fail) | (refine congrArg some ?_) | omega | exact Nat.le_refl _ | exact congrArg (SV.lst _) (List.take_of_length_le (Nat.le_refl _)).symm))) (by repeat' (first | exact trivial | exact rfl | refine And.intro ?_ ?_ | (refine congrArg vI ?_; first | omega | (dsimp only; omega) | fail) | (refine congrArg some ?_) | omega | exact Nat.le_refl _ | exact congrArg (SV.lst _) (List.take_of_length_le (Nat.le_refl _)).symm)) trivial (.inr (fun _ => ⟨rfl, fun h ct he => by rcases h with _ | _ | h <;> first | (cases he; done) | (cases he; rfl)⟩))) ?_
        refine And.intro (claimD_ex _ _ _) ?_
        intro (d : Bool × TM) hd
        obtain rfl : d = (true, (claimL (pickF who 3) m ys)) := claim_yes hd hc1
        conv => whnf
        repeat' (first | (refine tell (fun htest => ?_) (fun htest => ?_) <;> (try dsimp only at htest) <;> first | (exfalso; omega) | (exact absurd rfl htest) | (exact absurd (by decide) htest) | (conv => whnf)) | (refine allG rfl ?_; conv => whnf) | (refine And.intro (by first | omega | assumption | kernel_rfl | exact And.intro rfl rfl | ((try dsimp only [inR, idx, lowOf]); first | omega | (with_reducible decide) | (simp; omega) | fail) | fail) ?_; conv => whnf) | fail)
        refine ⟨_, m_freeD, ((claimL (pickF who 3) m ys), (pickF who 3) + 1, ys), [1022, 2022], true, ?_⟩
        conv => whnf
        refine And.intro (vc0 hyI (by (repeat' (first | exact trivial | exact rfl | refine And.intro ?_ ?_ | (refine congrArg vI ?_; first | omega | (dsimp only; omega) | fail) | (refine congrArg some ?_) | omega | exact Nat.le_refl _ | exact congrArg (SV.lst _) (List.take_of_length_le (Nat.le_refl _)).symm))) (by repeat' (first | exact trivial | exact rfl | refine And.intro ?_ ?_ | (refine congrArg vI ?_; first | omega | (dsimp only; omega) | fail) | (refine congrArg some ?_) | omega | exact Nat.le_refl _ | exact congrArg (SV.lst _) (List.take_of_length_le (Nat.le_refl _)).symm)) trivial (.inr (fun _ => ⟨rfl, fun h ct he => by rcases h with _ | _ | h <;> first | (cases he; done) | (cases he; rfl)⟩))) ?_
        refine And.intro ⟨_, rfl⟩ ?_
        rintro ⟨(m2 : TM), (n : Nat)⟩ (hf : (m2, n) = freeL ((pickF who 3) + 1) (claimL (pickF who 3) m ys) ys)
        have hf : (m2, n) = ((claimL (pickF who 3) m ys), 0) := hf.trans (free_none (s := ((claimL (pickF who 3) m ys), 0)) fun x hx => by
          show lookT (claimL (pickF who 3) m ys) x ≠ _
          rw [hlk1, if_pos hx]; intro h; have := Option.some.inj h; omega)
        cases hf
        conv => whnf
        repeat' (first | (refine tell (fun htest => ?_) (fun htest => ?_) <;> (try dsimp only at htest) <;> first | (exfalso; omega) | (exact absurd rfl htest) | (exact absurd (by decide) htest) | (conv => whnf)) | (refine allG rfl ?_; conv => whnf) | (refine And.intro (by first | omega | assumption | kernel_rfl | exact And.intro rfl rfl | ((try dsimp only [inR, idx, lowOf]); first | omega | (with_reducible decide) | (simp; omega) | fail) | fail) ?_; conv => whnf) | fail)
        refine ⟨_, m_freeD, ((claimL (pickF who 3) m ys), (pickF who 3), ((((((ys.drop 0).take ys.length).drop 0).take ys.length ++ (ys.drop 0).take ys.length).drop 0).take (ys.length + ys.length))), [1022, 2022], false, ?_⟩
        conv => whnf
        refine And.intro (vc0 hYI (by (repeat' (first | exact trivial | exact rfl | refine And.intro ?_ ?_ | (refine congrArg vI ?_; first | omega | (dsimp only; omega) | fail) | (refine congrArg some ?_) | omega | exact Nat.le_refl _ | exact congrArg (SV.lst _) (List.take_of_length_le (Nat.le_refl _)).symm)); all_goals ((simp; done))) (by repeat' (first | exact trivial | exact rfl | refine And.intro ?_ ?_ | (refine congrArg vI ?_; first | omega | (dsimp only; omega) | fail) | (refine congrArg some ?_) | omega | exact Nat.le_refl _ | exact congrArg (SV.lst _) (List.take_of_length_le (Nat.le_refl _)).symm)) trivial trivial) ?_
        refine And.intro ⟨_, rfl⟩ ?_
        rintro ⟨(m2 : TM), (n : Nat)⟩ (hf : (m2, n) = freeL (pickF who 3) (claimL (pickF who 3) m ys) ((((((ys.drop 0).take ys.length).drop 0).take ys.length ++ (ys.drop 0).take ys.length).drop 0).take (ys.length + ys.length)))
        rw [hYY] at hf
        have hall : ∀ x ∈ ys, lookT (claimL (pickF who 3) m ys) x = some (pickF who 3) := fun x hx => by rw [hlk1, if_pos hx]
        have h1 : (ys.foldl (freeS (pickF who 3)) ((claimL (pickF who 3) m ys), 0)).2 = ys.length := by rw [free_all (s := ((claimL (pickF who 3) m ys), 0)) hyn hall]; simp
        have h2 : freeL (pickF who 3) (claimL (pickF who 3) m ys) (ys ++ ys) = ys.foldl (freeS (pickF who 3)) ((claimL (pickF who 3) m ys), 0) := by
          unfold freeL
          rw [List.foldl_append]
          refine free_none fun x hx => ?_
          rw [lookT_free, if_pos ⟨hx, hall x hx⟩]
          simp
        rw [h2] at hf
        have hn : n = ys.length := (congrArg Prod.snd hf).trans h1
        have hT2 : TOk m2 248 := hT1.opFree hf
        have hlk2 : ∀ x, lookT m2 x = lookT m x := fun x => by
          rw [show m2 = (ys.foldl (freeS (pickF who 3)) ((claimL (pickF who 3) m ys), 0)).1 from congrArg Prod.fst hf, lookT_free]
          by_cases hx : x ∈ ys
          · rw [if_pos ⟨hx, hall x hx⟩, (hys x hx).2]
          · rw [if_neg fun h => hx h.1]
            show lookT (claimL (pickF who 3) m ys) x = _
            rw [hlk1, if_neg hx]
        have he : ∀ k, ofL m2 k = ofL m k := fun k => ofL_ext hT2.nd hT.nd fun x => by rw [hlk2]
        conv => whnf
        repeat' (first | (refine tell (fun htest => ?_) (fun htest => ?_) <;> (try dsimp only at htest) <;> first | (exfalso; omega) | (exact absurd rfl htest) | (exact absurd (by decide) htest) | (conv => whnf)) | (refine allG rfl ?_; conv => whnf) | (refine And.intro (by first | omega | assumption | kernel_rfl | exact And.intro rfl rfl | ((try dsimp only [inR, idx, lowOf]); first | omega | (with_reducible decide) | (simp; omega) | fail) | fail) ?_; conv => whnf) | fail)
        refine ⟨Nat, fun k => ⟨[(8, .ptr 1022 0 1 0), (11, .sl 1074 1 0 3), (20, vI k)], [(1022, .cells [.mp 2022]), (2022, .map 3 3 m2), (1074, .cells [.lst 3 (ofL m 0), .lst 3 (ofL m 1), .lst 3 (ofL m 2)])]⟩, fun k => k ≤ 3, fun k => 3 - k, fun _ _ => rfl, ⟨0, [], Nat.zero_le _, ?_⟩, ?_⟩
        · refine ⟨rfl, ?_, ?_, rfl⟩
          all_goals (repeat' (first | exact trivial | exact rfl | refine And.intro ?_ ?_ | (refine congrArg vI ?_; first | omega | (dsimp only; omega) | fail) | (refine congrArg some ?_) | omega | exact Nat.le_refl _ | exact congrArg (SV.lst _) (List.take_of_length_le (Nat.le_refl _)).symm))
        rintro (k : Nat) (hk : k ≤ 3)
        rcases k with _ | _ | _ | k
        · conv => whnf
          repeat' (first | (refine tell (fun htest => ?_) (fun htest => ?_) <;> (try dsimp only at htest) <;> first | (exfalso; omega) | (exact absurd rfl htest) | (exact absurd (by decide) htest) | (conv => whnf)) | (refine allG rfl ?_; conv => whnf) | (refine And.intro (by first | omega | assumption | kernel_rfl | exact And.intro rfl rfl | ((try dsimp only [inR, idx, lowOf]); first | omega | (with_reducible decide) | (simp; omega) | fail) | fail) ?_; conv => whnf) | fail)
          refine ⟨_, m_of, (m2, 0), [1022, 2022], false, ?_⟩
          conv => whnf
          refine And.intro (vc0 (hT2.of (by omega)) (by (repeat' (first | exact trivial | exact rfl | refine And.intro ?_ ?_ | (refine congrArg vI ?_; first | omega | (dsimp only; omega) | fail) | (refine congrArg some ?_) | omega | exact Nat.le_refl _ | exact congrArg (SV.lst _) (List.take_of_length_le (Nat.le_refl _)).symm))) (by repeat' (first | exact trivial | exact rfl | refine And.intro ?_ ?_ | (refine congrArg vI ?_; first | omega | (dsimp only; omega) | fail) | (refine congrArg some ?_) | omega | exact Nat.le_refl _ | exact congrArg (SV.lst _) (List.take_of_length_le (Nat.le_refl _)).symm)) trivial trivial) ?_
          refine And.intro ⟨(), trivial⟩ (fun (_ : Unit) _ => ?_)
          conv => whnf
          conv => whnf
          repeat' (first | (refine tell (fun htest => ?_) (fun htest => ?_) <;> (try dsimp only at htest) <;> first | (exfalso; omega) | (exact absurd rfl htest) | (exact absurd (by decide) htest) | (conv => whnf)) | (refine allG rfl ?_; conv => whnf) | (refine And.intro (by first | omega | assumption | kernel_rfl | exact And.intro rfl rfl | ((try dsimp only [inR, idx, lowOf]); first | omega | (with_reducible decide) | (simp; omega) | fail) | fail) ?_; conv => whnf) | fail)
          refine ⟨_, m_ints, (ofL m2 0, ofL m 0), [], false, ?_⟩
          conv => whnf
          refine And.intro (vc0 (ofL_in hT2 (by omega) 0).1 (by (repeat' (first | exact trivial | exact rfl | refine And.intro ?_ ?_ | (refine congrArg vI ?_; first | omega | (dsimp only; omega) | fail) | (refine congrArg some ?_) | omega | exact Nat.le_refl _ | exact congrArg (SV.lst _) (List.take_of_length_le (Nat.le_refl _)).symm))) (by repeat' (first | exact trivial | exact rfl | refine And.intro ?_ ?_ | (refine congrArg vI ?_; first | omega | (dsimp only; omega) | fail) | (refine congrArg some ?_) | omega | exact Nat.le_refl _ | exact congrArg (SV.lst _) (List.take_of_length_le (Nat.le_refl _)).symm)) trivial trivial) ?_
          refine And.intro ⟨true, ⟨fun _ => he 0, fun _ => rfl⟩⟩ ?_
          intro (d : Bool) (hd : d = true ↔ ofL m2 0 = ofL m 0)
          cases d
          · have := hd.2 (he 0); cases this
          conv => whnf
          repeat' (first | (refine tell (fun htest => ?_) (fun htest => ?_) <;> (try dsimp only at htest) <;> first | (exfalso; omega) | (exact absurd rfl htest) | (exact absurd (by decide) htest) | (conv => whnf)) | (refine allG rfl ?_; conv => whnf) | (refine And.intro (by first | omega | assumption | kernel_rfl | exact And.intro rfl rfl | ((try dsimp only [inR, idx, lowOf]); first | omega | (with_reducible decide) | (simp; omega) | fail) | fail) ?_; conv => whnf) | fail)
          refine ⟨1, [], (by decide), ?_, rfl, ?_, ?_, rfl⟩
          · dsimp only; first | omega | (simp; done) | (simp; omega)
          all_goals (repeat' (first | exact trivial | exact rfl | refine And.intro ?_ ?_ | (refine congrArg vI ?_; first | omega | (dsimp only; omega) | fail) | (refine congrArg some ?_) | omega | exact Nat.le_refl _ | exact congrArg (SV.lst _) (List.take_of_length_le (Nat.le_refl _)).symm))
        · conv => whnf
          repeat' (first | (refine tell (fun htest => ?_) (fun htest => ?_) <;> (try dsimp only at htest) <;> first | (exfalso; omega) | (exact absurd rfl htest) | (exact absurd (by decide) htest) | (conv => whnf)) | (refine allG rfl ?_; conv => whnf) | (refine And.intro (by first | omega | assumption | kernel_rfl | exact And.intro rfl rfl | ((try dsimp only [inR, idx, lowOf]); first | omega | (with_reducible decide) | (simp; omega) | fail) | fail) ?_; conv => whnf) | fail)
          refine ⟨_, m_of, (m2, 1), [1022, 2022], false, ?_⟩
          conv => whnf
          refine And.intro (vc0 (hT2.of (by omega)) (by (repeat' (first | exact trivial | exact rfl | refine And.intro ?_ ?_ | (refine congrArg vI ?_; first | omega | (dsimp only; omega) | fail) | (refine congrArg some ?_) | omega | exact Nat.le_refl _ | exact congrArg (SV.lst _) (List.take_of_length_le (Nat.le_refl _)).symm))) (by repeat' (first | exact trivial | exact rfl | refine And.intro ?_ ?_ | (refine congrArg vI ?_; first | omega | (dsimp only; omega) | fail) | (refine congrArg some ?_) | omega | exact Nat.le_refl _ | exact congrArg (SV.lst _) (List.take_of_length_le (Nat.le_refl _)).symm)) trivial trivial) ?_
          refine And.intro ⟨(), trivial⟩ (fun (_ : Unit) _ => ?_)
          conv => whnf
          conv => whnf
          repeat' (first | (refine tell (fun htest => ?_) (fun htest => ?_) <;> (try dsimp only at htest) <;> first | (exfalso; omega) | (exact absurd rfl htest) | (exact absurd (by decide) htest) | (conv => whnf)) | (refine allG rfl ?_; conv => whnf) | (refine And.intro (by first | omega | assumption | kernel_rfl | exact And.intro rfl rfl | ((try dsimp only [inR, idx, lowOf]); first | omega | (with_reducible decide) | (simp; omega) | fail) | fail) ?_; conv => whnf) | fail)
          refine ⟨_, m_ints, (ofL m2 1, ofL m 1), [], false, ?_⟩
          conv => whnf
          refine And.intro (vc0 (ofL_in hT2 (by omega) 1).1 (by (repeat' (first | exact trivial | exact rfl | refine And.intro ?_ ?_ | (refine congrArg vI ?_; first | omega | (dsimp only; omega) | fail) | (refine congrArg some ?_) | omega | exact Nat.le_refl _ | exact congrArg (SV.lst _) (List.take_of_length_le (Nat.le_refl _)).symm))) (by repeat' (first | exact trivial | exact rfl | refine And.intro ?_ ?_ | (refine congrArg vI ?_; first | omega | (dsimp only; omega) | fail) | (refine congrArg some ?_) | omega | exact Nat.le_refl _ | exact congrArg (SV.lst _) (List.take_of_length_le (Nat.le_refl _)).symm)) trivial trivial) ?_
          refine And.intro ⟨true, ⟨fun _ => he 1, fun _ => rfl⟩⟩ ?_
          intro (d : Bool) (hd : d = true ↔ ofL m2 1 = ofL m 1)
          cases d
          · have := hd.2 (he 1); cases this
          conv => whnf
          repeat' (first | (refine tell (fun htest => ?_) (fun htest => ?_) <;> (try dsimp only at htest) <;> first | (exfalso; omega) | (exact absurd rfl htest) | (exact absurd (by decide) htest) | (conv => whnf)) | (refine allG rfl ?_; conv => whnf) | (refine And.intro (by first | omega | assumption | kernel_rfl | exact And.intro rfl rfl | ((try dsimp only [inR, idx, lowOf]); first | omega | (with_reducible decide) | (simp; omega) | fail) | fail) ?_; conv => whnf) | fail)
          refine ⟨2, [], (by decide), ?_, rfl, ?_, ?_, rfl⟩
          · dsimp only; first | omega | (simp; done) | (simp; omega)
          all_goals (repeat' (first | exact trivial | exact rfl | refine And.intro ?_ ?_ | (refine congrArg vI ?_; first | omega | (dsimp only; omega) | fail) | (refine congrArg some ?_) | omega | exact Nat.le_refl _ | exact congrArg (SV.lst _) (List.take_of_length_le (Nat.le_refl _)).symm))
        · conv => whnf
          repeat' (first | (refine tell (fun htest => ?_) (fun htest => ?_) <;> (try dsimp only at htest) <;> first | (exfalso; omega) | (exact absurd rfl htest) | (exact absurd (by decide) htest) | (conv => whnf)) | (refine allG rfl ?_; conv => whnf) | (refine And.intro (by first | omega | assumption | kernel_rfl | exact And.intro rfl rfl | ((try dsimp only [inR, idx, lowOf]); first | omega | (with_reducible decide) | (simp; omega) | fail) | fail) ?_; conv => whnf) | fail)
          refine ⟨_, m_of, (m2, 2), [1022, 2022], false, ?_⟩
          conv => whnf
          refine And.intro (vc0 (hT2.of (by omega)) (by (repeat' (first | exact trivial | exact rfl | refine And.intro ?_ ?_ | (refine congrArg vI ?_; first | omega | (dsimp only; omega) | fail) | (refine congrArg some ?_) | omega | exact Nat.le_refl _ | exact congrArg (SV.lst _) (List.take_of_length_le (Nat.le_refl _)).symm))) (by repeat' (first | exact trivial | exact rfl | refine And.intro ?_ ?_ | (refine congrArg vI ?_; first | omega | (dsimp only; omega) | fail) | (refine congrArg some ?_) | omega | exact Nat.le_refl _ | exact congrArg (SV.lst _) (List.take_of_length_le (Nat.le_refl _)).symm)) trivial trivial) ?_
          refine And.intro ⟨(), trivial⟩ (fun (_ : Unit) _ => ?_)
          conv => whnf
          conv => whnf
          repeat' (first | (refine tell (fun htest => ?_) (fun htest => ?_) <;> (try dsimp only at htest) <;> first | (exfalso; omega) | (exact absurd rfl htest) | (exact absurd (by decide) htest) | (conv => whnf)) | (refine allG rfl ?_; conv => whnf) | (refine And.intro (by first | omega | assumption | kernel_rfl | exact And.intro rfl rfl | ((try dsimp only [inR, idx, lowOf]); first | omega | (with_reducible decide) | (simp; omega) | fail) | fail) ?_; conv => whnf) | fail)
          refine ⟨_, m_ints, (ofL m2 2, ofL m 2), [], false, ?_⟩
          conv => whnf
          refine And.intro (vc0 (ofL_in hT2 (by omega) 2).1 (by (repeat' (first | exact trivial | exact rfl | refine And.intro ?_ ?_ | (refine congrArg vI ?_; first | omega | (dsimp only; omega) | fail) | (refine congrArg some ?_) | omega | exact Nat.le_refl _ | exact congrArg (SV.lst _) (List.take_of_length_le (Nat.le_refl _)).symm))) (by repeat' (first | exact trivial | exact rfl | refine And.intro ?_ ?_ | (refine congrArg vI ?_; first | omega | (dsimp only; omega) | fail) | (refine congrArg some ?_) | omega | exact Nat.le_refl _ | exact congrArg (SV.lst _) (List.take_of_length_le (Nat.le_refl _)).symm)) trivial trivial) ?_
          refine And.intro ⟨true, ⟨fun _ => he 2, fun _ => rfl⟩⟩ ?_
          intro (d : Bool) (hd : d = true ↔ ofL m2 2 = ofL m 2)
          cases d
          · have := hd.2 (he 2); cases this
          conv => whnf
          repeat' (first | (refine tell (fun htest => ?_) (fun htest => ?_) <;> (try dsimp only at htest) <;> first | (exfalso; omega) | (exact absurd rfl htest) | (exact absurd (by decide) htest) | (conv => whnf)) | (refine allG rfl ?_; conv => whnf) | (refine And.intro (by first | omega | assumption | kernel_rfl | exact And.intro rfl rfl | ((try dsimp only [inR, idx, lowOf]); first | omega | (with_reducible decide) | (simp; omega) | fail) | fail) ?_; conv => whnf) | fail)
          refine ⟨3, [], (by decide), ?_, rfl, ?_, ?_, rfl⟩
          · dsimp only; first | omega | (simp; done) | (simp; omega)
          all_goals (repeat' (first | exact trivial | exact rfl | refine And.intro ?_ ?_ | (refine congrArg vI ?_; first | omega | (dsimp only; omega) | fail) | (refine congrArg some ?_) | omega | exact Nat.le_refl _ | exact congrArg (SV.lst _) (List.take_of_length_le (Nat.le_refl _)).symm))
        · conv => whnf
          repeat' (first | (refine tell (fun htest => ?_) (fun htest => ?_) <;> (try dsimp only at htest) <;> first | (exfalso; omega) | (exact absurd rfl htest) | (exact absurd (by decide) htest) | (conv => whnf)) | (refine allG rfl ?_; conv => whnf) | (refine And.intro (by first | omega | assumption | kernel_rfl | exact And.intro rfl rfl | ((try dsimp only [inR, idx, lowOf]); first | omega | (with_reducible decide) | (simp; omega) | fail) | fail) ?_; conv => whnf) | fail)
          exact ⟨(), [], trivial, rfl, trivial, trivial⟩
end Go.Sx

