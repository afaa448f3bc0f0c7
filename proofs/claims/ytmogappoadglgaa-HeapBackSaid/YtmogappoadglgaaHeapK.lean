/-
  Layer 10, part K: HeapBack.
-/
import Derived.Test.YtmogappoadglgaaHeapJ
namespace Go.Sx
open Go Go.Proofs Go.Proofs.Ytmogappoadglgaa
theorem m_back : Meets Try.prog regF 7 (spLaw (fun g : List (Int × Int) × Int => [.lst 32 g.1, vI g.2]) (fun g => InI g.2)) := by
  refine meets Try.func7 126 noWr rfl (by kernel_rfl) (by kernel_rfl) ?_
  rintro ⟨(l : List Item), (many : Int)⟩ (ht : InI many)
  conv => whnf
  repeat' (first | (refine tell (fun htest => ?_) (fun htest => ?_) <;> (try dsimp only at htest) <;> first | (exfalso; omega) | (exact absurd rfl htest) | (exact absurd (by decide) htest) | (conv => whnf)) | (refine allG rfl ?_; conv => whnf) | (refine And.intro (by first | kernel_rfl | omega | ((try dsimp only [inR, idx, lowOf]); first | omega | (with_reducible decide) | (simp; omega) | fail) | fail) ?_; conv => whnf) | fail)
  refine ⟨_, m_awake, (), [], false, ?_⟩
  conv => whnf
  refine And.intro (vc0 trivial (by repeat' (first | exact trivial | exact rfl | refine And.intro ?_ ?_ | (refine congrArg vI ?_; first | omega | (dsimp only; omega) | fail) | (refine congrArg some ?_) | omega)) (by repeat' (first | exact trivial | exact rfl | refine And.intro ?_ ?_ | (refine congrArg vI ?_; first | omega | (dsimp only; omega) | fail) | (refine congrArg some ?_) | omega)) trivial trivial) ?_
  refine And.intro ⟨(), trivial⟩ (fun (_ : Unit) _ => ?_)
  conv => whnf
  refine ⟨_, m_new, (), [], false, ?_⟩
  conv => whnf
  refine And.intro (vc0 trivial (by repeat' (first | exact trivial | exact rfl | refine And.intro ?_ ?_ | (refine congrArg vI ?_; first | omega | (dsimp only; omega) | fail) | (refine congrArg some ?_) | omega)) (by repeat' (first | exact trivial | exact rfl | refine And.intro ?_ ?_ | (refine congrArg vI ?_; first | omega | (dsimp only; omega) | fail) | (refine congrArg some ?_) | omega)) trivial trivial) ?_
  refine And.intro ⟨(), trivial⟩ (fun (_ : Unit) _ => ?_)
  conv => whnf
  conv => whnf
  repeat' (first | (refine tell (fun htest => ?_) (fun htest => ?_) <;> (try dsimp only at htest) <;> first | (exfalso; omega) | (exact absurd rfl htest) | (exact absurd (by decide) htest) | (conv => whnf)) | (refine allG rfl ?_; conv => whnf) | (refine And.intro (by first | kernel_rfl | omega | ((try dsimp only [inR, idx, lowOf]); first | omega | (with_reducible decide) | (simp; omega) | fail) | fail) ?_; conv => whnf) | fail)
  obtain ⟨n, hn⟩ : ∃ n : Nat, n = min l.length 100 := ⟨_, rfl⟩
  obtain ⟨L, hL⟩ : ∃ L, L = l.take n := ⟨_, rfl⟩
  have hLl : L.length = n := by rw [hL]; simp; omega
  refine ⟨List Item × Nat, fun q => ⟨[(0, .lst 32 l), (1, vI many), (6, .ptr 1021 0 2 0), (7, vI n), (8, vI q.2)], [(1021, hpN 3001 q.1.length), (3001, .arr 97 q.1)]⟩, fun q => q.2 ≤ n ∧ HS (sortP (L.take q.2)) q.1 q.1, fun q => n - q.2, fun _ _ => rfl, ⟨([], 0), [(3001, 2021)], ⟨Nat.zero_le _, HS.nil⟩, ?_⟩, ?_⟩
  · refine ⟨rfl, ?_, ?_, rfl⟩
    all_goals (repeat' (first | exact trivial | exact rfl | refine And.intro ?_ ?_ | (refine congrArg vI ?_; first | omega | (dsimp only; omega) | fail) | (refine congrArg some ?_) | omega))
  rintro ⟨(xs : List Item), (i : Nat)⟩ ⟨(hi : i ≤ n), (hs : HS (sortP (L.take i)) xs xs)⟩
  have hxl : xs.length = i := by rw [hs.len, (sortP_perm _).length_eq]; simp; omega
  by_cases hlt : i < n
  · obtain ⟨y, hy⟩ : ∃ y, l[i]? = some y := ⟨_, List.getElem?_eq_getElem (by omega)⟩
    have hyL : L[i]? = some y := by rw [hL, List.getElem?_take, if_pos hlt]; exact hy
    conv => whnf
    repeat' (first | (refine tell (fun htest => ?_) (fun htest => ?_) <;> (try dsimp only at htest) <;> first | (exfalso; omega) | (exact absurd rfl htest) | (exact absurd (by decide) htest) | (conv => whnf)) | (refine allG (x := y) (by first | exact hy | simpa [List.getElem?_append_right, lowOf] using hy | fail) ?_; conv => whnf) | (refine allLst (x := y) (by first | omega | assumption | fail) (by first | exact hy | simpa using hy | fail) ?_; conv => whnf) | (refine allG rfl ?_; conv => whnf) | (refine And.intro (by first | kernel_rfl | omega | ((try dsimp only [inR, idx, lowOf]); first | omega | (with_reducible decide) | (simp; omega) | fail) | fail) ?_; conv => whnf) | fail)
    refine ⟨_, m_push, (xs, xs, y), [1021, 3001], false, ?_⟩
    conv => whnf
    refine And.intro (vc0 (hs.pre' (by rw [← hs.len]; omega)) (by repeat' (first | exact trivial | exact rfl | refine And.intro ?_ ?_ | (refine congrArg vI ?_; first | omega | (dsimp only; omega) | fail) | (refine congrArg some ?_) | omega)) (by repeat' (first | exact trivial | exact rfl | refine And.intro ?_ ?_ | (refine congrArg vI ?_; first | omega | (dsimp only; omega) | fail) | (refine congrArg some ?_) | omega)) trivial trivial) ?_
    refine And.intro (heap_ex _) ?_
    rintro (d : List Item) ⟨hpd, hd⟩
    have hs' := hs.push hpd hd
    rw [← sortP_snoc, ← take_snoc hyL] at hs'
    conv => whnf
    repeat' (first | (refine tell (fun htest => ?_) (fun htest => ?_) <;> (try dsimp only at htest) <;> first | (exfalso; omega) | (exact absurd rfl htest) | (exact absurd (by decide) htest) | (conv => whnf)) | (refine allG rfl ?_; conv => whnf) | (refine And.intro (by first | kernel_rfl | omega | ((try dsimp only [inR, idx, lowOf]); first | omega | (with_reducible decide) | (simp; omega) | fail) | fail) ?_; conv => whnf) | fail)
    refine ⟨(d, i + 1), [(3001, 1047)], ⟨hlt, hs'⟩, ?_, rfl, ?_, ?_, rfl⟩
    · dsimp only; first | omega | (simp; done) | (simp; omega)
    all_goals (repeat' (first | exact trivial | exact rfl | refine And.intro ?_ ?_ | (refine congrArg vI ?_; first | omega | (dsimp only; omega) | fail) | (refine congrArg some ?_) | omega))
  · have hi : n = i := by omega
    subst hi
    rw [List.take_of_length_le (by omega)] at hs
    have hSl : (sortP L).length = n := by rw [(sortP_perm L).length_eq, hLl]
    obtain ⟨S, hS⟩ : ∃ S, S = sortP L := ⟨_, rfl⟩
    have hss : SortedL S := by rw [hS]; exact sortP_sorted L
    rw [← hS] at hs hSl
    conv => whnf
    repeat' (first | (refine tell (fun htest => ?_) (fun htest => ?_) <;> (try dsimp only at htest) <;> first | (exfalso; omega) | (exact absurd rfl htest) | (exact absurd (by decide) htest) | (conv => whnf)) | (refine allG rfl ?_; conv => whnf) | (refine And.intro (by first | kernel_rfl | omega | ((try dsimp only [inR, idx, lowOf]); first | omega | (with_reducible decide) | (simp; omega) | fail) | fail) ?_; conv => whnf) | fail)
    refine ⟨_, m_pick, (many, n + 1), [], false, ?_⟩
    conv => whnf
    refine And.intro (vc0 ⟨ht, by show (0 : Int) < (n : Int) + 1; omega⟩ (by repeat' (first | exact trivial | exact rfl | refine And.intro ?_ ?_ | (refine congrArg vI ?_; first | omega | (dsimp only; omega) | fail) | (refine congrArg some ?_) | omega)) (by repeat' (first | exact trivial | exact rfl | refine And.intro ?_ ?_ | (refine congrArg vI ?_; first | omega | (dsimp only; omega) | fail) | (refine congrArg some ?_) | omega)) trivial trivial) ?_
    refine And.intro ⟨(), trivial⟩ (fun (_ : Unit) _ => ?_)
    conv => whnf
    obtain ⟨hk1, hk2⟩ := pickF_bd (c := many) (n := (n : Int) + 1) (by omega)
    obtain ⟨k, hk⟩ : ∃ k : Nat, (k : Int) = pickF many ((n : Int) + 1) := ⟨(pickF many ((n : Int) + 1)).toNat, by omega⟩
    have hkn : k ≤ n := by omega
    conv => whnf
    repeat' (first | (refine tell (fun htest => ?_) (fun htest => ?_) <;> (try dsimp only at htest) <;> first | (exfalso; omega) | (exact absurd rfl htest) | (exact absurd (by decide) htest) | (conv => whnf)) | (refine allG rfl ?_; conv => whnf) | (refine And.intro (by first | kernel_rfl | omega | ((try dsimp only [inR, idx, lowOf]); first | omega | (with_reducible decide) | (simp; omega) | fail) | fail) ?_; conv => whnf) | fail)
    refine ⟨List Item × List Item × Nat, fun q => ⟨[(6, .ptr 1021 0 2 0), (7, vI n), (9, vI k), (10, .sl 3000 2 0 q.2.2), (11, vI q.2.2)], [(1021, hpN 3001 q.1.length), (3001, .arr 97 q.2.1), (3000, .arr 32 (S.take q.2.2))]⟩, fun q => q.2.2 ≤ k ∧ HS (S.drop q.2.2) q.1 q.2.1, fun q => k - q.2.2, fun _ _ => rfl, ⟨(xs, xs, 0), [], ⟨Nat.zero_le _, hs⟩, ?_⟩, ?_⟩
    · refine ⟨rfl, ?_, ?_, rfl⟩
      all_goals (repeat' (first | exact trivial | exact rfl | refine And.intro ?_ ?_ | (refine congrArg vI ?_; first | omega | (dsimp only; omega) | fail) | (refine congrArg some ?_) | omega))
      all_goals (exact congrArg vI hk.symm)
    clear hs
    rintro ⟨(xs : List Item), (zs : List Item), (i : Nat)⟩ ⟨(hi : i ≤ k), (hs : HS (S.drop i) xs zs)⟩
    by_cases hlt : i < k
    · obtain ⟨y, hy⟩ : ∃ y, S[i]? = some y := ⟨_, List.getElem?_eq_getElem (by omega)⟩
      have hdr : S.drop i = y :: S.drop (i + 1) := by
        obtain ⟨h1, rfl⟩ := List.getElem?_eq_some_iff.1 hy
        exact List.drop_eq_getElem_cons h1
      have hdl : (S.drop i).length ≤ 1000 := by rw [List.length_drop, hSl]; omega
      rw [hdr] at hs hdl
      conv => whnf
      repeat' (first | (refine tell (fun htest => ?_) (fun htest => ?_) <;> (try dsimp only at htest) <;> first | (exfalso; omega) | (exact absurd rfl htest) | (exact absurd (by decide) htest) | (conv => whnf)) | (refine allG rfl ?_; conv => whnf) | (refine And.intro (by first | kernel_rfl | omega | ((try dsimp only [inR, idx, lowOf]); first | omega | (with_reducible decide) | (simp; omega) | fail) | fail) ?_; conv => whnf) | fail)
      refine ⟨_, m_pop, (xs, zs), [1021, 3001], false, ?_⟩
      conv => whnf
      refine And.intro (vc0 (hs.pre (by omega)) (by repeat' (first | exact trivial | exact rfl | refine And.intro ?_ ?_ | (refine congrArg vI ?_; first | omega | (dsimp only; omega) | fail) | (refine congrArg some ?_) | omega)) (by repeat' (first | exact trivial | exact rfl | refine And.intro ?_ ?_ | (refine congrArg vI ?_; first | omega | (dsimp only; omega) | fail) | (refine congrArg some ?_) | omega)) trivial trivial) ?_
      refine And.intro (pop_ex hs.heap) ?_
      rintro ⟨(d : List Item), (vs : List Item), (a : Item), (ok : Bool)⟩ hq
      obtain ⟨rfl, rfl, hs'⟩ := hs.pop1 hq
      have hct : ((S.take i).drop 0).take i ++ [a] = S.take (i + 1) := by rw [List.drop_zero, List.take_take, Nat.min_self, take_snoc hy]
      conv => whnf
      repeat' (first | (refine tell (fun htest => ?_) (fun htest => ?_) <;> (try dsimp only at htest) <;> first | (exfalso; omega) | (exact absurd rfl htest) | (exact absurd (by decide) htest) | (conv => whnf)) | (refine allG rfl ?_; conv => whnf) | (refine And.intro (by first | kernel_rfl | omega | ((try dsimp only [inR, idx, lowOf]); first | omega | (with_reducible decide) | (simp; omega) | fail) | fail) ?_; conv => whnf) | fail)
      refine ⟨(d, vs, i + 1), [(3000, 1070)], ⟨hlt, hs'⟩, ?_, rfl, ?_, ?_, rfl⟩
      · dsimp only; first | omega | (simp; done) | (simp; omega)
      all_goals (repeat' (first | exact trivial | exact rfl | refine And.intro ?_ ?_ | (refine congrArg vI ?_; first | omega | (dsimp only; omega) | fail) | (refine congrArg some ?_) | omega))
      · exact congrArg (Ct.arr (A := AF) 32) hct
    · have hi : k = i := by omega
      subst hi
      conv => whnf
      repeat' (first | (refine tell (fun htest => ?_) (fun htest => ?_) <;> (try dsimp only at htest) <;> first | (exfalso; omega) | (exact absurd rfl htest) | (exact absurd (by decide) htest) | (conv => whnf)) | (refine allG rfl ?_; conv => whnf) | (refine And.intro (by first | kernel_rfl | omega | ((try dsimp only [inR, idx, lowOf]); first | omega | (with_reducible decide) | (simp; omega) | fail) | fail) ?_; conv => whnf) | fail)
      refine ⟨List Item × List Item × Nat, fun q => ⟨[(6, .ptr 1021 0 2 0), (7, vI n), (9, vI k), (10, .sl 3000 2 0 k), (15, vI ((q.2.2 : Int) - 1))], [(1021, hpN 3001 q.1.length), (3001, .arr 97 q.2.1), (3000, .arr 32 (S.take k))]⟩, fun q => q.2.2 ≤ k ∧ HS (S.drop q.2.2) q.1 q.2.1, fun q => q.2.2, fun _ _ => rfl, ⟨(xs, zs, k), [], ⟨Nat.le_refl _, hs⟩, ?_⟩, ?_⟩
      · refine ⟨rfl, ?_, ?_, rfl⟩
        all_goals (repeat' (first | exact trivial | exact rfl | refine And.intro ?_ ?_ | (refine congrArg vI ?_; first | omega | (dsimp only; omega) | fail) | (refine congrArg some ?_) | omega))
      clear hs
      rintro ⟨(xs : List Item), (zs : List Item), (m : Nat)⟩ ⟨(hm : m ≤ k), (hs : HS (S.drop m) xs zs)⟩
      cases m with
      | succ i =>
        obtain ⟨y, hy⟩ : ∃ y, S[i]? = some y := ⟨_, List.getElem?_eq_getElem (by omega)⟩
        have hdr : S.drop i = y :: S.drop (i + 1) := by
          obtain ⟨h1, rfl⟩ := List.getElem?_eq_some_iff.1 hy
          exact List.drop_eq_getElem_cons h1
        have hyk : (S.take k)[0 + (((i + 1 : Nat) : Int) - 1).toNat]? = some y := by
          rw [show 0 + (((i + 1 : Nat) : Int) - 1).toNat = i by omega, List.getElem?_take, if_pos (by omega)]; exact hy
        have hin : insP y (S.drop (i + 1)) = S.drop i := by
          rw [hdr]
          refine insP_head ?_
          have h : SortedL (S.drop i) := List.Pairwise.drop hss
          rw [hdr] at h
          exact (List.pairwise_cons.1 h).1
        have hdl : (S.drop (i + 1)).length ≤ 1000 := by rw [List.length_drop, hSl]; omega
        conv => whnf
        repeat' (first | (refine tell (fun htest => ?_) (fun htest => ?_) <;> (try dsimp only at htest) <;> first | (exfalso; omega) | (exact absurd rfl htest) | (exact absurd (by decide) htest) | (conv => whnf)) | (refine allG (x := y) (by first | exact hyk | simpa [List.getElem?_append_right, lowOf] using hyk | fail) ?_; conv => whnf) | (refine allLst (x := y) (by first | omega | assumption | fail) (by first | exact hyk | simpa using hyk | fail) ?_; conv => whnf) | (refine allG rfl ?_; conv => whnf) | (refine And.intro (by first | kernel_rfl | omega | ((try dsimp only [inR, idx, lowOf]); first | omega | (with_reducible decide) | (simp; omega) | fail) | fail) ?_; conv => whnf) | fail)
        refine ⟨_, m_push, (xs, zs, y), [1021, 3001], false, ?_⟩
        conv => whnf
        refine And.intro (vc0 (hs.pre' (by omega)) (by repeat' (first | exact trivial | exact rfl | refine And.intro ?_ ?_ | (refine congrArg vI ?_; first | omega | (dsimp only; omega) | fail) | (refine congrArg some ?_) | omega)) (by repeat' (first | exact trivial | exact rfl | refine And.intro ?_ ?_ | (refine congrArg vI ?_; first | omega | (dsimp only; omega) | fail) | (refine congrArg some ?_) | omega)) trivial trivial) ?_
        refine And.intro (heap_ex _) ?_
        rintro (d : List Item) ⟨hpd, hd⟩
        have hs' := hs.push hpd hd
        rw [show (xs, zs, y).2.2 = y from rfl, hin] at hs'
        conv => whnf
        repeat' (first | (refine tell (fun htest => ?_) (fun htest => ?_) <;> (try dsimp only at htest) <;> first | (exfalso; omega) | (exact absurd rfl htest) | (exact absurd (by decide) htest) | (conv => whnf)) | (refine allG rfl ?_; conv => whnf) | (refine And.intro (by first | kernel_rfl | omega | ((try dsimp only [inR, idx, lowOf]); first | omega | (with_reducible decide) | (simp; omega) | fail) | fail) ?_; conv => whnf) | fail)
        refine ⟨(d, d, i), [(3001, 1088)], ⟨by dsimp only; omega, hs'⟩, ?_, rfl, ?_, ?_, rfl⟩
        · dsimp only; first | omega | (simp; done) | (simp; omega)
        all_goals (repeat' (first | exact trivial | exact rfl | refine And.intro ?_ ?_ | (refine congrArg vI ?_; first | omega | (dsimp only; omega) | fail) | (refine congrArg some ?_) | omega))
      | zero =>
        rw [List.drop_zero] at hs
        conv => whnf
        repeat' (first | (refine tell (fun htest => ?_) (fun htest => ?_) <;> (try dsimp only at htest) <;> first | (exfalso; omega) | (exact absurd rfl htest) | (exact absurd (by decide) htest) | (conv => whnf)) | (refine allG rfl ?_; conv => whnf) | (refine And.intro (by first | kernel_rfl | omega | ((try dsimp only [inR, idx, lowOf]); first | omega | (with_reducible decide) | (simp; omega) | fail) | fail) ?_; conv => whnf) | fail)
        refine ⟨List Item × List Item × Nat, fun q => ⟨[(6, .ptr 1021 0 2 0), (7, vI n), (9, vI k), (10, .sl 3000 2 0 k), (16, vI q.2.2)], [(1021, hpN 3001 q.1.length), (3001, .arr 97 q.2.1), (3000, .arr 32 (S.take k))]⟩, fun q => q.2.2 ≤ k ∧ HS (S.drop q.2.2) q.1 q.2.1, fun q => k - q.2.2, fun _ _ => rfl, ⟨(xs, zs, 0), [], ⟨Nat.zero_le _, hs⟩, ?_⟩, ?_⟩
        · refine ⟨rfl, ?_, ?_, rfl⟩
          all_goals (repeat' (first | exact trivial | exact rfl | refine And.intro ?_ ?_ | (refine congrArg vI ?_; first | omega | (dsimp only; omega) | fail) | (refine congrArg some ?_) | omega))
        clear hs
        rintro ⟨(xs : List Item), (zs : List Item), (i : Nat)⟩ ⟨(hi : i ≤ k), (hs : HS (S.drop i) xs zs)⟩
        have hxl : xs.length = n - i := by rw [hs.len, List.length_drop, hSl]
        by_cases hlt : i < k
        · obtain ⟨y, hy⟩ : ∃ y, S[i]? = some y := ⟨_, List.getElem?_eq_getElem (by omega)⟩
          have hdr : S.drop i = y :: S.drop (i + 1) := by
            obtain ⟨h1, rfl⟩ := List.getElem?_eq_some_iff.1 hy
            exact List.drop_eq_getElem_cons h1
          have hyk : (S.take k)[0 + (i : Int).toNat]? = some y := by
            rw [show 0 + (i : Int).toNat = i by omega, List.getElem?_take, if_pos (by omega)]; exact hy
          have hdl : (S.drop i).length ≤ 1000 := by rw [List.length_drop, hSl]; omega
          rw [hdr] at hs hdl
          conv => whnf
          repeat' (first | (refine tell (fun htest => ?_) (fun htest => ?_) <;> (try dsimp only at htest) <;> first | (exfalso; omega) | (exact absurd rfl htest) | (exact absurd (by decide) htest) | (conv => whnf)) | (refine allG rfl ?_; conv => whnf) | (refine And.intro (by first | kernel_rfl | omega | ((try dsimp only [inR, idx, lowOf]); first | omega | (with_reducible decide) | (simp; omega) | fail) | fail) ?_; conv => whnf) | fail)
          refine ⟨_, m_pop, (xs, zs), [1021, 3001], false, ?_⟩
          conv => whnf
          refine And.intro (vc0 (hs.pre (by omega)) (by repeat' (first | exact trivial | exact rfl | refine And.intro ?_ ?_ | (refine congrArg vI ?_; first | omega | (dsimp only; omega) | fail) | (refine congrArg some ?_) | omega)) (by repeat' (first | exact trivial | exact rfl | refine And.intro ?_ ?_ | (refine congrArg vI ?_; first | omega | (dsimp only; omega) | fail) | (refine congrArg some ?_) | omega)) trivial trivial) ?_
          refine And.intro (pop_ex hs.heap) ?_
          rintro ⟨(d : List Item), (vs : List Item), (a : Item), (ok : Bool)⟩ hq
          obtain ⟨rfl, rfl, hs'⟩ := hs.pop1 hq
          conv => whnf
          repeat' (first | (refine tell (fun htest => ?_) (fun htest => ?_) <;> (try dsimp only at htest) <;> first | (exfalso; omega) | (exact absurd rfl htest) | (exact absurd (by decide) htest) | (conv => whnf)) | (refine allG (x := a) (by first | exact hyk | simpa [List.getElem?_append_right, lowOf] using hyk | fail) ?_; conv => whnf) | (refine allLst (x := a) (by first | omega | assumption | fail) (by first | exact hyk | simpa using hyk | fail) ?_; conv => whnf) | (refine allG rfl ?_; conv => whnf) | (refine And.intro (by first | kernel_rfl | omega | ((try dsimp only [inR, idx, lowOf]); first | omega | (with_reducible decide) | (simp; omega) | fail) | fail) ?_; conv => whnf) | fail)
          refine ⟨(d, vs, i + 1), [], ⟨hlt, hs'⟩, ?_, rfl, ?_, ?_, rfl⟩
          · dsimp only; first | omega | (simp; done) | (simp; omega)
          all_goals (repeat' (first | exact trivial | exact rfl | refine And.intro ?_ ?_ | (refine congrArg vI ?_; first | omega | (dsimp only; omega) | fail) | (refine congrArg some ?_) | omega))
        · have hi : k = i := by omega
          subst hi
          conv => whnf
          repeat' (first | (refine tell (fun htest => ?_) (fun htest => ?_) <;> (try dsimp only at htest) <;> first | (exfalso; omega) | (exact absurd rfl htest) | (exact absurd (by decide) htest) | (conv => whnf)) | (refine allG rfl ?_; conv => whnf) | (refine And.intro (by first | kernel_rfl | omega | ((try dsimp only [inR, idx, lowOf]); first | omega | (with_reducible decide) | (simp; omega) | fail) | fail) ?_; conv => whnf) | fail)
          refine ⟨_, m_len, (xs, zs), [1021, 3001], false, ?_⟩
          conv => whnf
          refine And.intro (vc0 trivial (by repeat' (first | exact trivial | exact rfl | refine And.intro ?_ ?_ | (refine congrArg vI ?_; first | omega | (dsimp only; omega) | fail) | (refine congrArg some ?_) | omega)) (by repeat' (first | exact trivial | exact rfl | refine And.intro ?_ ?_ | (refine congrArg vI ?_; first | omega | (dsimp only; omega) | fail) | (refine congrArg some ?_) | omega)) trivial trivial) ?_
          refine And.intro ⟨(), trivial⟩ (fun (_ : Unit) _ => ?_)
          conv => whnf
          conv => whnf
          repeat' (first | (refine tell (fun htest => ?_) (fun htest => ?_) <;> (try dsimp only at htest) <;> first | (exfalso; omega) | (exact absurd rfl htest) | (exact absurd (by decide) htest) | (conv => whnf)) | (refine allG rfl ?_; conv => whnf) | (refine And.intro (by first | kernel_rfl | omega | ((try dsimp only [inR, idx, lowOf]); first | omega | (with_reducible decide) | (simp; omega) | fail) | fail) ?_; conv => whnf) | fail)
          exact ⟨(), [], trivial, rfl, trivial, trivial⟩
end Go.Sx

