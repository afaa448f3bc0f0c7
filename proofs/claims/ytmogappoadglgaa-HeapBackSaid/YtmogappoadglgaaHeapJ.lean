/-
  Layer 10, part J: HeapApart, HeapBack.
-/
import Derived.Test.YtmogappoadglgaaHeapI
namespace Go.Sx
open Go Go.Proofs Go.Proofs.Ytmogappoadglgaa
theorem rot_get {L : List Item} {p i : Nat} (hp : p < L.length) (hi : i < L.length) : (L.drop p ++ L.take p)[i]? = L[(i + p) % L.length]? := by
  by_cases h : i + p < L.length
  · rw [Nat.mod_eq_of_lt h, List.getElem?_append_left (by simp; omega), List.getElem?_drop, Nat.add_comm]
  · rw [List.getElem?_append_right (by simp; omega), List.length_drop, Nat.mod_eq_sub_mod (by omega), Nat.mod_eq_of_lt (by omega), List.getElem?_take, if_pos (by omega)]
    congr 1; omega
theorem rot_perm (L : List Item) (p : Nat) : List.Perm (L.drop p ++ L.take p) L := by
  have h := List.perm_append_comm (l₁ := L.drop p) (l₂ := L.take p)
  rwa [List.take_append_drop] at h
theorem m_apart : Meets Try.prog regF 6 (spLaw (fun g : List (Int × Int) × Int => [.lst 32 g.1, vI g.2]) (fun g => InI g.2)) := by
  refine meets Try.func6 112 noWr rfl (by kernel_rfl) (by kernel_rfl) ?_
  rintro ⟨(l : List Item), (turn : Int)⟩ (ht : InI turn)
  conv => whnf
  repeat' (first | (refine tell (fun htest => ?_) (fun htest => ?_) <;> (try dsimp only at htest) <;> first | (exfalso; omega) | (exact absurd rfl htest) | (exact absurd (by decide) htest) | (conv => whnf)) | (refine allG rfl ?_; conv => whnf) | (refine And.intro (by first | kernel_rfl | omega | ((try dsimp only [inR, idx, lowOf]); first | omega | (with_reducible decide) | (simp; omega) | fail) | fail) ?_; conv => whnf) | fail)
  refine ⟨_, m_awake, (), [], false, ?_⟩
  conv => whnf
  refine And.intro (vc0 trivial (by repeat' (first | exact trivial | exact rfl | refine And.intro ?_ ?_ | (refine congrArg vI ?_; first | omega | (dsimp only; omega) | fail) | (refine congrArg some ?_) | omega)) (by repeat' (first | exact trivial | exact rfl | refine And.intro ?_ ?_ | (refine congrArg vI ?_; first | omega | (dsimp only; omega) | fail) | (refine congrArg some ?_) | omega)) trivial trivial) ?_
  refine And.intro ⟨(), trivial⟩ (fun (_ : Unit) _ => ?_)
  conv => whnf
  refine ⟨_, m_new, (), [], false, ?_⟩
  conv => whnf
  refine And.intro (vc0 trivial (by repeat' (first | exact trivial | exact rfl | refine And.intro ?_ ?_ | (refine congrArg vI ?_; first | omega | (dsimp only; omega) | fail) | (refine congrArg some ?_) | omega)) (by repeat' (first | exact trivial | exact rfl | refine And.intro ?_ ?_ | (refine congrArg vI ?_; first | omega | (dsimp only; omega) | fail) | (refine congrArg some ?_) | omega)) trivial trivial) ?_
  refine And.intro ⟨(), trivial⟩ (fun (_ : Unit) _ => ?_)
  conv => whnf
  refine ⟨_, m_new, (), [], false, ?_⟩
  conv => whnf
  refine And.intro (vc0 trivial (by repeat' (first | exact trivial | exact rfl | refine And.intro ?_ ?_ | (refine congrArg vI ?_; first | omega | (dsimp only; omega) | fail) | (refine congrArg some ?_) | omega)) (by repeat' (first | exact trivial | exact rfl | refine And.intro ?_ ?_ | (refine congrArg vI ?_; first | omega | (dsimp only; omega) | fail) | (refine congrArg some ?_) | omega)) trivial trivial) ?_
  refine And.intro ⟨(), trivial⟩ (fun (_ : Unit) _ => ?_)
  conv => whnf
  conv => whnf
  repeat' (first | (refine tell (fun htest => ?_) (fun htest => ?_) <;> (try dsimp only at htest) <;> first | (exfalso; omega) | (exact absurd rfl htest) | (exact absurd (by decide) htest) | (conv => whnf)) | (refine allG rfl ?_; conv => whnf) | (refine And.intro (by first | kernel_rfl | omega | ((try dsimp only [inR, idx, lowOf]); first | omega | (with_reducible decide) | (simp; omega) | fail) | fail) ?_; conv => whnf) | fail)
  obtain ⟨n, hn⟩ : ∃ n : Nat, n = min l.length 100 := ⟨_, rfl⟩
  obtain ⟨L, hL⟩ : ∃ L, L = l.take n := ⟨_, rfl⟩
  have hLl : L.length = n := by rw [hL]; simp; omega
  obtain ⟨p, hp⟩ : ∃ p : Nat, p = (pickF turn n).toNat := ⟨_, rfl⟩
  obtain ⟨R, hR⟩ : ∃ R, R = L.drop p ++ L.take p := ⟨_, rfl⟩
  have hRp : List.Perm R L := by rw [hR]; exact rot_perm L p
  have hRl : R.length = n := by rw [hRp.length_eq, hLl]
  have hpp : 0 < n → 0 ≤ pickF turn n ∧ pickF turn n < n := fun h => pickF_bd (by omega)
  refine ⟨List Item × List Item × Nat, fun q => ⟨[(0, .lst 32 l), (1, vI turn), (6, .ptr 1019 0 2 0), (7, .ptr 1020 0 2 0), (8, vI n), (9, vI q.2.2)], [(1019, hpN 3001 q.1.length), (3001, .arr 97 q.1), (1020, hpN 3002 q.2.1.length), (3002, .arr 97 q.2.1)]⟩, fun q => q.2.2 ≤ n ∧ HS (sortP (L.take q.2.2)) q.1 q.1 ∧ HS (sortP (R.take q.2.2)) q.2.1 q.2.1, fun q => n - q.2.2, fun _ _ => rfl, ⟨([], [], 0), [(3001, 2019), (3002, 2020)], ⟨Nat.zero_le _, HS.nil, HS.nil⟩, ?_⟩, ?_⟩
  · refine ⟨rfl, ?_, ?_, rfl⟩
    all_goals (repeat' (first | exact trivial | exact rfl | refine And.intro ?_ ?_ | (refine congrArg vI ?_; first | omega | (dsimp only; omega) | fail) | (refine congrArg some ?_) | omega))
  rintro ⟨(xs : List Item), (ys : List Item), (i : Nat)⟩ ⟨(hi : i ≤ n), (hs : HS (sortP (L.take i)) xs xs), (hr : HS (sortP (R.take i)) ys ys)⟩
  have hxl : xs.length = i := by rw [hs.len, (sortP_perm _).length_eq]; simp; omega
  have hyl : ys.length = i := by rw [hr.len, (sortP_perm _).length_eq]; simp; omega
  by_cases hlt : i < n
  · obtain ⟨hp1, hp2⟩ := hpp (by omega)
    obtain ⟨y, hy⟩ : ∃ y, l[i]? = some y := ⟨_, List.getElem?_eq_getElem (by omega)⟩
    have hyL : L[i]? = some y := by rw [hL, List.getElem?_take, if_pos hlt]; exact hy
    obtain ⟨z, hz⟩ : ∃ z, R[i]? = some z := ⟨_, List.getElem?_eq_getElem (by omega)⟩
    have hm : (((i : Int) + pickF turn n).tmod n).toNat = (i + p) % n := by
      rw [Int.tmod_eq_emod_of_nonneg (by omega), show (i : Int) + pickF turn n = ((i + p : Nat) : Int) by omega, ← Int.natCast_emod, Int.toNat_natCast]
    have hm0 : 0 ≤ ((i : Int) + pickF turn n).tmod n := by rw [Int.tmod_eq_emod_of_nonneg (by omega)]; exact Int.emod_nonneg _ (by omega)
    have hzl : l[(((i : Int) + pickF turn n).tmod n).toNat]? = some z := by
      have h := rot_get (L := L) (p := p) (i := i) (by omega) (by omega)
      rw [← hR, hz, hLl, hL, List.getElem?_take, if_pos (Nat.mod_lt _ (by omega))] at h
      rw [hm]; exact h.symm
    conv => whnf
    repeat' (first | (refine tell (fun htest => ?_) (fun htest => ?_) <;> (try dsimp only at htest) <;> first | (exfalso; omega) | (exact absurd rfl htest) | (exact absurd (by decide) htest) | (conv => whnf)) | (refine allG (x := y) (by first | exact hy | simpa [List.getElem?_append_right, lowOf] using hy | fail) ?_; conv => whnf) | (refine allLst (x := y) (by first | omega | assumption | fail) (by first | exact hy | simpa using hy | fail) ?_; conv => whnf) | (refine allG rfl ?_; conv => whnf) | (refine And.intro (by first | kernel_rfl | omega | ((try dsimp only [inR, idx, lowOf]); first | omega | (with_reducible decide) | (simp; omega) | fail) | fail) ?_; conv => whnf) | fail)
    refine ⟨_, m_push, (xs, xs, y), [1019, 3001], false, ?_⟩
    conv => whnf
    refine And.intro (vc0 (hs.pre' (by rw [← hs.len]; omega)) (by repeat' (first | exact trivial | exact rfl | refine And.intro ?_ ?_ | (refine congrArg vI ?_; first | omega | (dsimp only; omega) | fail) | (refine congrArg some ?_) | omega)) (by repeat' (first | exact trivial | exact rfl | refine And.intro ?_ ?_ | (refine congrArg vI ?_; first | omega | (dsimp only; omega) | fail) | (refine congrArg some ?_) | omega)) trivial trivial) ?_
    refine And.intro (heap_ex _) ?_
    rintro (d : List Item) ⟨hpd, hd⟩
    have hs' := hs.push hpd hd
    rw [← sortP_snoc, ← take_snoc hyL] at hs'
    conv => whnf
    repeat' (first | (refine tell (fun htest => ?_) (fun htest => ?_) <;> (try dsimp only at htest) <;> first | (exfalso; omega) | (exact absurd rfl htest) | (exact absurd (by decide) htest) | (conv => whnf)) | (refine allG rfl ?_; conv => whnf) | (refine And.intro (by first | kernel_rfl | omega | ((try dsimp only [inR, idx, lowOf]); first | omega | (with_reducible decide) | (simp; omega) | fail) | fail) ?_; conv => whnf) | fail)
    refine ⟨_, m_len, (ys, ys), [1020, 3002], false, ?_⟩
    conv => whnf
    refine And.intro (vc0 trivial (by repeat' (first | exact trivial | exact rfl | refine And.intro ?_ ?_ | (refine congrArg vI ?_; first | omega | (dsimp only; omega) | fail) | (refine congrArg some ?_) | omega)) (by repeat' (first | exact trivial | exact rfl | refine And.intro ?_ ?_ | (refine congrArg vI ?_; first | omega | (dsimp only; omega) | fail) | (refine congrArg some ?_) | omega)) trivial trivial) ?_
    refine And.intro ⟨(), trivial⟩ (fun (_ : Unit) _ => ?_)
    conv => whnf
    conv => whnf
    repeat' (first | (refine tell (fun htest => ?_) (fun htest => ?_) <;> (try dsimp only at htest) <;> first | (exfalso; omega) | (exact absurd rfl htest) | (exact absurd (by decide) htest) | (conv => whnf)) | (refine allG rfl ?_; conv => whnf) | (refine And.intro (by first | kernel_rfl | omega | ((try dsimp only [inR, idx, lowOf]); first | omega | (with_reducible decide) | (simp; omega) | fail) | fail) ?_; conv => whnf) | fail)
    refine ⟨_, m_pick, (turn, n), [], false, ?_⟩
    conv => whnf
    refine And.intro (vc0 ⟨ht, by show (0 : Int) < n; omega⟩ (by repeat' (first | exact trivial | exact rfl | refine And.intro ?_ ?_ | (refine congrArg vI ?_; first | omega | (dsimp only; omega) | fail) | (refine congrArg some ?_) | omega)) (by repeat' (first | exact trivial | exact rfl | refine And.intro ?_ ?_ | (refine congrArg vI ?_; first | omega | (dsimp only; omega) | fail) | (refine congrArg some ?_) | omega)) trivial trivial) ?_
    refine And.intro ⟨(), trivial⟩ (fun (_ : Unit) _ => ?_)
    conv => whnf
    conv => whnf
    repeat' (first | (refine tell (fun htest => ?_) (fun htest => ?_) <;> (try dsimp only at htest) <;> first | (exfalso; omega) | (exact absurd rfl htest) | (exact absurd (by decide) htest) | (conv => whnf)) | (refine allLst (x := z) hm0 hzl ?_; conv => whnf) | (refine allG rfl ?_; conv => whnf) | (refine And.intro (by first | kernel_rfl | omega | ((try dsimp only [inR, idx, lowOf]); first | omega | (with_reducible decide) | (simp; omega) | fail) | fail) ?_; conv => whnf) | fail)
    refine ⟨_, m_push, (ys, ys, z), [1020, 3002], false, ?_⟩
    conv => whnf
    refine And.intro (vc0 (hr.pre' (by rw [← hr.len]; omega)) (by repeat' (first | exact trivial | exact rfl | refine And.intro ?_ ?_ | (refine congrArg vI ?_; first | omega | (dsimp only; omega) | fail) | (refine congrArg some ?_) | omega)) (by repeat' (first | exact trivial | exact rfl | refine And.intro ?_ ?_ | (refine congrArg vI ?_; first | omega | (dsimp only; omega) | fail) | (refine congrArg some ?_) | omega)) trivial trivial) ?_
    refine And.intro (heap_ex _) ?_
    rintro (e : List Item) ⟨hpe, he⟩
    have hr' := hr.push hpe he
    rw [← sortP_snoc, ← take_snoc hz] at hr'
    conv => whnf
    repeat' (first | (refine tell (fun htest => ?_) (fun htest => ?_) <;> (try dsimp only at htest) <;> first | (exfalso; omega) | (exact absurd rfl htest) | (exact absurd (by decide) htest) | (conv => whnf)) | (refine allG rfl ?_; conv => whnf) | (refine And.intro (by first | kernel_rfl | omega | ((try dsimp only [inR, idx, lowOf]); first | omega | (with_reducible decide) | (simp; omega) | fail) | fail) ?_; conv => whnf) | fail)
    refine ⟨(d, e, i + 1), [(3001, 1050), (3002, 1070)], ⟨hlt, hs', hr'⟩, ?_, rfl, ?_, ?_, rfl⟩
    · dsimp only; first | omega | (simp; done) | (simp; omega)
    all_goals (repeat' (first | exact trivial | exact rfl | refine And.intro ?_ ?_ | (refine congrArg vI ?_; first | omega | (dsimp only; omega) | fail) | (refine congrArg some ?_) | omega))
  · have hi : n = i := by omega
    subst hi
    rw [List.take_of_length_le (by omega)] at hs hr
    have hSR : sortP R = sortP L := sorted_unique ((sortP_perm R).trans (hRp.trans (sortP_perm L).symm)) (sortP_sorted R) (sortP_sorted L)
    have hSl : (sortP L).length = n := by rw [(sortP_perm L).length_eq, hLl]
    rw [hSR] at hr
    conv => whnf
    repeat' (first | (refine tell (fun htest => ?_) (fun htest => ?_) <;> (try dsimp only at htest) <;> first | (exfalso; omega) | (exact absurd rfl htest) | (exact absurd (by decide) htest) | (conv => whnf)) | (refine allG rfl ?_; conv => whnf) | (refine And.intro (by first | kernel_rfl | omega | ((try dsimp only [inR, idx, lowOf]); first | omega | (with_reducible decide) | (simp; omega) | fail) | fail) ?_; conv => whnf) | fail)
    refine ⟨(List Item × List Item) × (List Item × List Item) × Nat, fun q => ⟨[(6, .ptr 1019 0 2 0), (7, .ptr 1020 0 2 0), (8, vI n), (11, vI q.2.2)], [(1019, hpN 3001 q.1.1.length), (3001, .arr 97 q.1.2), (1020, hpN 3002 q.2.1.1.length), (3002, .arr 97 q.2.1.2)]⟩, fun q => q.2.2 ≤ n ∧ HS ((sortP L).drop q.2.2) q.1.1 q.1.2 ∧ HS ((sortP L).drop q.2.2) q.2.1.1 q.2.1.2, fun q => n - q.2.2, fun _ _ => rfl, ⟨((xs, xs), (ys, ys), 0), [], ⟨Nat.zero_le _, hs, hr⟩, ?_⟩, ?_⟩
    · refine ⟨rfl, ?_, ?_, rfl⟩
      all_goals (repeat' (first | exact trivial | exact rfl | refine And.intro ?_ ?_ | (refine congrArg vI ?_; first | omega | (dsimp only; omega) | fail) | (refine congrArg some ?_) | omega))
    clear hs hr
    rintro ⟨⟨(xs : List Item), (zs : List Item)⟩, ⟨(ys : List Item), (ws : List Item)⟩, (i : Nat)⟩ ⟨(hi : i ≤ n), (hs : HS ((sortP L).drop i) xs zs), (hr : HS ((sortP L).drop i) ys ws)⟩
    by_cases hlt : i < n
    · obtain ⟨y, hy⟩ : ∃ y, (sortP L)[i]? = some y := ⟨_, List.getElem?_eq_getElem (by omega)⟩
      have hdr : (sortP L).drop i = y :: (sortP L).drop (i + 1) := by
        obtain ⟨h1, rfl⟩ := List.getElem?_eq_some_iff.1 hy
        exact List.drop_eq_getElem_cons h1
      have hdl : ((sortP L).drop i).length ≤ 1000 := by rw [List.length_drop, hSl]; omega
      rw [hdr] at hs hr hdl
      conv => whnf
      repeat' (first | (refine tell (fun htest => ?_) (fun htest => ?_) <;> (try dsimp only at htest) <;> first | (exfalso; omega) | (exact absurd rfl htest) | (exact absurd (by decide) htest) | (conv => whnf)) | (refine allG rfl ?_; conv => whnf) | (refine And.intro (by first | kernel_rfl | omega | ((try dsimp only [inR, idx, lowOf]); first | omega | (with_reducible decide) | (simp; omega) | fail) | fail) ?_; conv => whnf) | fail)
      refine ⟨_, m_pop, (xs, zs), [1019, 3001], false, ?_⟩
      conv => whnf
      refine And.intro (vc0 (hs.pre (by omega)) (by repeat' (first | exact trivial | exact rfl | refine And.intro ?_ ?_ | (refine congrArg vI ?_; first | omega | (dsimp only; omega) | fail) | (refine congrArg some ?_) | omega)) (by repeat' (first | exact trivial | exact rfl | refine And.intro ?_ ?_ | (refine congrArg vI ?_; first | omega | (dsimp only; omega) | fail) | (refine congrArg some ?_) | omega)) trivial trivial) ?_
      refine And.intro (pop_ex hs.heap) ?_
      rintro ⟨(d : List Item), (vs : List Item), (a : Item), (ok : Bool)⟩ hq
      obtain ⟨rfl, rfl, hs'⟩ := hs.pop1 hq
      conv => whnf
      repeat' (first | (refine tell (fun htest => ?_) (fun htest => ?_) <;> (try dsimp only at htest) <;> first | (exfalso; omega) | (exact absurd rfl htest) | (exact absurd (by decide) htest) | (conv => whnf)) | (refine allG rfl ?_; conv => whnf) | (refine And.intro (by first | kernel_rfl | omega | ((try dsimp only [inR, idx, lowOf]); first | omega | (with_reducible decide) | (simp; omega) | fail) | fail) ?_; conv => whnf) | fail)
      refine ⟨_, m_pop, (ys, ws), [1020, 3002], false, ?_⟩
      conv => whnf
      refine And.intro (vc0 (hr.pre (by omega)) (by repeat' (first | exact trivial | exact rfl | refine And.intro ?_ ?_ | (refine congrArg vI ?_; first | omega | (dsimp only; omega) | fail) | (refine congrArg some ?_) | omega)) (by repeat' (first | exact trivial | exact rfl | refine And.intro ?_ ?_ | (refine congrArg vI ?_; first | omega | (dsimp only; omega) | fail) | (refine congrArg some ?_) | omega)) trivial trivial) ?_
      refine And.intro (pop_ex hr.heap) ?_
      rintro ⟨(e : List Item), (us : List Item), (b : Item), (ok : Bool)⟩ hq
      obtain ⟨rfl, rfl, hr'⟩ := hr.pop1 hq
      conv => whnf
      repeat' (first | (refine tell (fun htest => ?_) (fun htest => ?_) <;> (try dsimp only at htest) <;> first | (exfalso; omega) | (exact absurd rfl htest) | (exact absurd (by decide) htest) | (conv => whnf)) | (refine allG rfl ?_; conv => whnf) | (refine And.intro (by first | kernel_rfl | omega | ((try dsimp only [inR, idx, lowOf]); first | omega | (with_reducible decide) | (simp; omega) | fail) | fail) ?_; conv => whnf) | fail)
      refine ⟨((d, vs), (e, us), i + 1), [], ⟨hlt, hs', hr'⟩, ?_, rfl, ?_, ?_, rfl⟩
      · dsimp only; first | omega | (simp; done) | (simp; omega)
      all_goals (repeat' (first | exact trivial | exact rfl | refine And.intro ?_ ?_ | (refine congrArg vI ?_; first | omega | (dsimp only; omega) | fail) | (refine congrArg some ?_) | omega))
    · rw [List.drop_eq_nil_of_le (by omega)] at hs hr
      have hx0 : xs.length = 0 := hs.len
      have hy0 : ys.length = 0 := hr.len
      conv => whnf
      repeat' (first | (refine tell (fun htest => ?_) (fun htest => ?_) <;> (try dsimp only at htest) <;> first | (exfalso; omega) | (exact absurd rfl htest) | (exact absurd (by decide) htest) | (conv => whnf)) | (refine allG rfl ?_; conv => whnf) | (refine And.intro (by first | kernel_rfl | omega | ((try dsimp only [inR, idx, lowOf]); first | omega | (with_reducible decide) | (simp; omega) | fail) | fail) ?_; conv => whnf) | fail)
      refine ⟨_, m_len, (xs, zs), [1019, 3001], false, ?_⟩
      conv => whnf
      refine And.intro (vc0 trivial (by repeat' (first | exact trivial | exact rfl | refine And.intro ?_ ?_ | (refine congrArg vI ?_; first | omega | (dsimp only; omega) | fail) | (refine congrArg some ?_) | omega)) (by repeat' (first | exact trivial | exact rfl | refine And.intro ?_ ?_ | (refine congrArg vI ?_; first | omega | (dsimp only; omega) | fail) | (refine congrArg some ?_) | omega)) trivial trivial) ?_
      refine And.intro ⟨(), trivial⟩ (fun (_ : Unit) _ => ?_)
      conv => whnf
      conv => whnf
      repeat' (first | (refine tell (fun htest => ?_) (fun htest => ?_) <;> (try dsimp only at htest) <;> first | (exfalso; omega) | (exact absurd rfl htest) | (exact absurd (by decide) htest) | (conv => whnf)) | (refine allG rfl ?_; conv => whnf) | (refine And.intro (by first | kernel_rfl | omega | ((try dsimp only [inR, idx, lowOf]); first | omega | (with_reducible decide) | (simp; omega) | fail) | fail) ?_; conv => whnf) | fail)
      refine ⟨_, m_len, (ys, ws), [1020, 3002], false, ?_⟩
      conv => whnf
      refine And.intro (vc0 trivial (by repeat' (first | exact trivial | exact rfl | refine And.intro ?_ ?_ | (refine congrArg vI ?_; first | omega | (dsimp only; omega) | fail) | (refine congrArg some ?_) | omega)) (by repeat' (first | exact trivial | exact rfl | refine And.intro ?_ ?_ | (refine congrArg vI ?_; first | omega | (dsimp only; omega) | fail) | (refine congrArg some ?_) | omega)) trivial trivial) ?_
      refine And.intro ⟨(), trivial⟩ (fun (_ : Unit) _ => ?_)
      conv => whnf
      conv => whnf
      repeat' (first | (refine tell (fun htest => ?_) (fun htest => ?_) <;> (try dsimp only at htest) <;> first | (exfalso; omega) | (exact absurd rfl htest) | (exact absurd (by decide) htest) | (conv => whnf)) | (refine allG rfl ?_; conv => whnf) | (refine And.intro (by first | kernel_rfl | omega | ((try dsimp only [inR, idx, lowOf]); first | omega | (with_reducible decide) | (simp; omega) | fail) | fail) ?_; conv => whnf) | fail)
      exact ⟨(), [], trivial, rfl, trivial, trivial⟩
end Go.Sx

