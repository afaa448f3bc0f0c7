/-
  Layer 10, part I: HeapLeast, HeapApart.
-/
import Derived.Test.YtmogappoadglgaaHeapH
namespace Go.Sx
open Go Go.Proofs Go.Proofs.Ytmogappoadglgaa
theorem insP_head {x : Item} {s : List Item} (h : ∀ z ∈ s, leP x z) : insP x s = x :: s := by
  cases s with
  | nil => rfl
  | cons y t =>
    have : ltP y x = false := h y (by simp)
    rw [insP_cons, if_neg (by rw [this]; simp)]
theorem sorted_unique : ∀ {s t : List Item}, List.Perm s t → SortedL s → SortedL t → s = t
  | [], t, h, _, _ => (List.Perm.nil_eq h)
  | x :: s, [], h, _, _ => absurd h.length_eq (by simp)
  | x :: s, y :: t, h, h1, h2 => by
    obtain ⟨a1, a2⟩ := List.pairwise_cons.1 h1
    obtain ⟨b1, b2⟩ := List.pairwise_cons.1 h2
    have e : x = y := by
      have hx : x ∈ y :: t := h.mem_iff.1 (by simp)
      have hy : y ∈ x :: s := h.mem_iff.2 (by simp)
      rcases List.mem_cons.1 hx with e | hx
      · exact e
      · rcases List.mem_cons.1 hy with e | hy
        · exact e.symm
        · exact leP_antisymm (a1 y hy) (b1 x hx)
    subst e
    rw [sorted_unique (List.Perm.cons_inv h) a2 b2]
theorem m_least : Meets Try.prog regF 5 (spLaw (fun g : List (Int × Int) × Int => [.lst 32 g.1, vI g.2]) (fun _ => True)) := by
  refine meets Try.func5 83 noWr rfl (by kernel_rfl) (by kernel_rfl) ?_
  rintro ⟨(l : List Item), (th : Int)⟩ _
  conv => whnf
  repeat' (first | (refine tell (fun htest => ?_) (fun htest => ?_) <;> (try dsimp only at htest) <;> first | (exfalso; omega) | (exact absurd rfl htest) | (exact absurd (by decide) htest) | (conv => whnf)) | (refine And.intro (by first | kernel_rfl | omega | ((try dsimp only [inR, idx, lowOf]); first | omega | (with_reducible decide) | (simp; omega) | fail) | fail) ?_; conv => whnf) | fail)
  refine ⟨_, m_awake, (), [], false, ?_⟩
  conv => whnf
  refine And.intro (vc0 trivial (by repeat' (first | exact trivial | exact rfl | refine And.intro ?_ ?_ | (refine congrArg vI ?_; omega) | (refine congrArg some ?_) | omega)) (by repeat' (first | exact trivial | exact rfl | refine And.intro ?_ ?_ | (refine congrArg vI ?_; omega) | (refine congrArg some ?_) | omega)) trivial trivial) ?_
  refine And.intro ⟨(), trivial⟩ (fun (_ : Unit) _ => ?_)
  conv => whnf
  refine ⟨_, m_new, (), [], false, ?_⟩
  conv => whnf
  refine And.intro (vc0 trivial (by repeat' (first | exact trivial | exact rfl | refine And.intro ?_ ?_ | (refine congrArg vI ?_; omega) | (refine congrArg some ?_) | omega)) (by repeat' (first | exact trivial | exact rfl | refine And.intro ?_ ?_ | (refine congrArg vI ?_; omega) | (refine congrArg some ?_) | omega)) trivial trivial) ?_
  refine And.intro ⟨(), trivial⟩ (fun (_ : Unit) _ => ?_)
  conv => whnf
  conv => whnf
  repeat' (first | (refine tell (fun htest => ?_) (fun htest => ?_) <;> (try dsimp only at htest) <;> first | (exfalso; omega) | (exact absurd rfl htest) | (exact absurd (by decide) htest) | (conv => whnf)) | (refine And.intro (by first | kernel_rfl | omega | ((try dsimp only [inR, idx, lowOf]); first | omega | (with_reducible decide) | (simp; omega) | fail) | fail) ?_; conv => whnf) | fail)
  refine ⟨List Item × List Item × Nat, fun p => ⟨[(0, .lst 32 l), (1, vI th), (6, .ptr 1016 0 2 0), (7, vI p.2.2)], [(1016, hpN 3001 p.2.1.length), (3001, .arr 97 p.2.1)]⟩, fun p => p.2.2 ≤ 100 ∧ p.2.2 ≤ l.length ∧ p.1.length ≤ p.2.2 ∧ HS p.1 p.2.1 p.2.1 ∧ ∀ z ∈ p.1, -4611686018427387904 ≤ z.1, fun p => 100 - p.2.2, fun _ _ => rfl, ⟨([], [], 0), [(3001, 2016)], ⟨Nat.zero_le _, Nat.zero_le _, Nat.le_refl _, HS.nil, fun _ h => by simp at h⟩, ?_⟩, ?_⟩
  · refine ⟨rfl, ?_, ?_, rfl⟩
    all_goals (repeat' (first | exact trivial | exact rfl | refine And.intro ?_ ?_ | (refine congrArg vI ?_; omega) | (refine congrArg some ?_) | omega))
  rintro ⟨(s : List Item), (xs : List Item), (i : Nat)⟩ ⟨(hi : i ≤ 100), (hil : i ≤ l.length), (hsl : s.length ≤ i), (hs : HS s xs xs), (hz : ∀ z ∈ s, -4611686018427387904 ≤ z.1)⟩
  by_cases hlt : i < l.length ∧ i < 100
  · obtain ⟨hl1, hl2⟩ := hlt
    obtain ⟨y, hy⟩ : ∃ y, l[i]? = some y := ⟨_, List.getElem?_eq_getElem hl1⟩
    conv => whnf
    repeat' (first | (refine tell (fun htest => ?_) (fun htest => ?_) <;> (try dsimp only at htest) <;> first | (exfalso; omega) | (exact absurd rfl htest) | (exact absurd (by decide) htest) | (conv => whnf)) | (refine allG (x := y) (by first | exact hy | simpa [List.getElem?_append_right, lowOf] using hy | fail) ?_; conv => whnf) | (refine allLst (x := y) (by omega) (by first | exact hy | simpa using hy | fail) ?_; conv => whnf) | (refine And.intro (by first | kernel_rfl | omega | ((try dsimp only [inR, idx, lowOf]); first | omega | (with_reducible decide) | (simp; omega) | fail) | fail) ?_; conv => whnf) | fail)
    refine ⟨_, m_push, (xs, xs, (max y.1 (-4611686018427387904), y.2)), [1016, 3001], false, ?_⟩
    conv => whnf
    refine And.intro (vc0 (hs.pre' (by omega)) (by repeat' (first | exact trivial | exact rfl | refine And.intro ?_ ?_ | (refine congrArg vI ?_; omega) | (refine congrArg some ?_) | omega)) (by repeat' (first | exact trivial | exact rfl | refine And.intro ?_ ?_ | (refine congrArg vI ?_; omega) | (refine congrArg some ?_) | omega)) trivial trivial) ?_
    refine And.intro (heap_ex _) ?_
    rintro (d : List Item) ⟨hpd, hd⟩
    have hs' := hs.push hpd hd
    have hz2 : ∀ z ∈ insP (max y.1 (-4611686018427387904), y.2) s, -4611686018427387904 ≤ z.1 := fun z hz' => by
      rcases List.mem_cons.1 ((insP_perm _ s).mem_iff.1 hz') with rfl | hz'
      · show -4611686018427387904 ≤ max y.1 (-4611686018427387904); omega
      · exact hz z hz'
    conv => whnf
    repeat' (first | (refine tell (fun htest => ?_) (fun htest => ?_) <;> (try dsimp only at htest) <;> first | (exfalso; omega) | (exact absurd rfl htest) | (exact absurd (by decide) htest) | (conv => whnf)) | (refine And.intro (by first | kernel_rfl | omega | ((try dsimp only [inR, idx, lowOf]); first | omega | (with_reducible decide) | (simp; omega) | fail) | fail) ?_; conv => whnf) | fail)
    refine ⟨(insP (max y.1 (-4611686018427387904), y.2) s, d, i + 1), [(3001, 1045)], ⟨by dsimp only; omega, by dsimp only; omega, by dsimp only; rw [insP_len]; omega, hs', hz2⟩, ?_, rfl, ?_, ?_, rfl⟩
    · dsimp only; first | omega | (simp; done) | (simp; omega)
    all_goals (repeat' (first | exact trivial | exact rfl | refine And.intro ?_ ?_ | (refine congrArg vI ?_; omega) | (refine congrArg some ?_) | omega))
  · conv => whnf
    repeat' (first | (refine tell (fun htest => ?_) (fun htest => ?_) <;> (try dsimp only at htest) <;> first | (exfalso; omega) | (exact absurd rfl htest) | (exact absurd (by decide) htest) | (conv => whnf)) | (refine And.intro (by first | kernel_rfl | omega | ((try dsimp only [inR, idx, lowOf]); first | omega | (with_reducible decide) | (simp; omega) | fail) | fail) ?_; conv => whnf) | fail)
    all_goals
      refine ⟨_, m_push, (xs, xs, (-9223372036854775808, th)), [1016, 3001], false, ?_⟩
      conv => whnf
      refine And.intro (vc0 (hs.pre' (by omega)) (by repeat' (first | exact trivial | exact rfl | refine And.intro ?_ ?_ | (refine congrArg vI ?_; omega) | (refine congrArg some ?_) | omega)) (by repeat' (first | exact trivial | exact rfl | refine And.intro ?_ ?_ | (refine congrArg vI ?_; omega) | (refine congrArg some ?_) | omega)) trivial trivial) ?_
      refine And.intro (heap_ex _) ?_
      rintro (d : List Item) ⟨hpd, hd⟩
      have hs1 := hs.push hpd hd
      rw [insP_head (fun z h => leP_iff.2 (.inl (by have := hz z h; dsimp only; omega)))] at hs1
      conv => whnf
      repeat' (first | (refine tell (fun htest => ?_) (fun htest => ?_) <;> (try dsimp only at htest) <;> first | (exfalso; omega) | (exact absurd rfl htest) | (exact absurd (by decide) htest) | (conv => whnf)) | (refine And.intro (by first | kernel_rfl | omega | ((try dsimp only [inR, idx, lowOf]); first | omega | (with_reducible decide) | (simp; omega) | fail) | fail) ?_; conv => whnf) | fail)
      refine ⟨_, m_pop, (d, d), [1016, 1048], false, ?_⟩
      conv => whnf
      refine And.intro (vc0 (hs1.pre (by simp; omega)) (by repeat' (first | exact trivial | exact rfl | refine And.intro ?_ ?_ | (refine congrArg vI ?_; omega) | (refine congrArg some ?_) | omega)) (by repeat' (first | exact trivial | exact rfl | refine And.intro ?_ ?_ | (refine congrArg vI ?_; omega) | (refine congrArg some ?_) | omega)) trivial trivial) ?_
      refine And.intro (pop_ex hs1.heap) ?_
      rintro ⟨(d2 : List Item), (ws : List Item), (a : Item), (ok : Bool)⟩ hq
      obtain ⟨rfl, rfl, hs2⟩ := hs1.pop1 hq
      clear hs1 hq hpd hd hs
      conv => whnf
      repeat' (first | (refine tell (fun htest => ?_) (fun htest => ?_) <;> (try dsimp only at htest) <;> first | (exfalso; omega) | (exact absurd rfl htest) | (exact absurd (by decide) htest) | (conv => whnf)) | (refine And.intro (by first | kernel_rfl | omega | ((try dsimp only [inR, idx, lowOf]); first | omega | (with_reducible decide) | (simp; omega) | fail) | fail) ?_; conv => whnf) | fail)
      refine ⟨List Item × List Item × List Item × Int, fun p => ⟨[(6, .ptr 1016 0 2 0), (11, vI p.2.2.2)], [(1016, hpN 3001 p.2.1.length), (3001, .arr 97 p.2.2.1)]⟩, fun p => HS p.1 p.2.1 p.2.2.1 ∧ p.1.length ≤ 1000 ∧ ∀ z ∈ p.1, p.2.2.2 ≤ z.1, fun p => p.1.length, fun _ _ => rfl, ⟨(s, d2, ws, -9223372036854775808), [(3001, 1048)], ⟨hs2, by dsimp only; omega, fun z h => by have := hz z h; dsimp only; omega⟩, ?_⟩, ?_⟩
      · refine ⟨rfl, ?_, ?_, rfl⟩
        all_goals (repeat' (first | exact trivial | exact rfl | refine And.intro ?_ ?_ | (refine congrArg vI ?_; omega) | (refine congrArg some ?_) | omega))
      clear hs2 hz
      rintro ⟨(s : List Item), (xs : List Item), (zs : List Item), (la : Int)⟩ ⟨(hs : HS s xs zs), (hsl : s.length ≤ 1000), (hz : ∀ z ∈ s, la ≤ z.1)⟩
      have hxl := hs.len
      conv => whnf
      repeat' (first | (refine tell (fun htest => ?_) (fun htest => ?_) <;> (try dsimp only at htest) <;> first | (exfalso; omega) | (exact absurd rfl htest) | (exact absurd (by decide) htest) | (conv => whnf)) | (refine And.intro (by first | kernel_rfl | omega | ((try dsimp only [inR, idx, lowOf]); first | omega | (with_reducible decide) | (simp; omega) | fail) | fail) ?_; conv => whnf) | fail)
      refine ⟨_, m_len, (xs, zs), [1016, 3001], false, ?_⟩
      conv => whnf
      refine And.intro (vc0 trivial (by repeat' (first | exact trivial | exact rfl | refine And.intro ?_ ?_ | (refine congrArg vI ?_; omega) | (refine congrArg some ?_) | omega)) (by repeat' (first | exact trivial | exact rfl | refine And.intro ?_ ?_ | (refine congrArg vI ?_; omega) | (refine congrArg some ?_) | omega)) trivial trivial) ?_
      refine And.intro ⟨(), trivial⟩ (fun (_ : Unit) _ => ?_)
      conv => whnf
      cases s with
      | nil =>
        have hx0 : xs.length = 0 := hxl
        conv => whnf
        repeat' (first | (refine tell (fun htest => ?_) (fun htest => ?_) <;> (try dsimp only at htest) <;> first | (exfalso; omega) | (exact absurd rfl htest) | (exact absurd (by decide) htest) | (conv => whnf)) | (refine And.intro (by first | kernel_rfl | omega | ((try dsimp only [inR, idx, lowOf]); first | omega | (with_reducible decide) | (simp; omega) | fail) | fail) ?_; conv => whnf) | fail)
        exact ⟨(), [], trivial, rfl, trivial, trivial⟩
      | cons y t =>
        have hx0 : xs.length = t.length + 1 := hxl
        conv => whnf
        repeat' (first | (refine tell (fun htest => ?_) (fun htest => ?_) <;> (try dsimp only at htest) <;> first | (exfalso; omega) | (exact absurd rfl htest) | (exact absurd (by decide) htest) | (conv => whnf)) | (refine And.intro (by first | kernel_rfl | omega | ((try dsimp only [inR, idx, lowOf]); first | omega | (with_reducible decide) | (simp; omega) | fail) | fail) ?_; conv => whnf) | fail)
        refine ⟨_, m_pop, (xs, zs), [1016, 3001], false, ?_⟩
        conv => whnf
        refine And.intro (vc0 (hs.pre (by omega)) (by repeat' (first | exact trivial | exact rfl | refine And.intro ?_ ?_ | (refine congrArg vI ?_; omega) | (refine congrArg some ?_) | omega)) (by repeat' (first | exact trivial | exact rfl | refine And.intro ?_ ?_ | (refine congrArg vI ?_; omega) | (refine congrArg some ?_) | omega)) trivial trivial) ?_
        refine And.intro (pop_ex hs.heap) ?_
        rintro ⟨(d : List Item), (ws : List Item), (a : Item), (ok : Bool)⟩ hq
        obtain ⟨rfl, rfl, hs'⟩ := hs.pop1 hq
        have hya := hz a (by simp)
        have hst : ∀ z ∈ t, a.1 ≤ z.1 := fun z h => by
          have := leP_iff.1 ((List.pairwise_cons.1 hs.sorted).1 z h)
          omega
        have htl : t.length ≤ 1000 := by simp at hsl; omega
        conv => whnf
        repeat' (first | (refine tell (fun htest => ?_) (fun htest => ?_) <;> (try dsimp only at htest) <;> first | (exfalso; omega) | (exact absurd rfl htest) | (exact absurd (by decide) htest) | (conv => whnf)) | (refine And.intro (by first | kernel_rfl | omega | ((try dsimp only [inR, idx, lowOf]); first | omega | (with_reducible decide) | (simp; omega) | fail) | fail) ?_; conv => whnf) | fail)
        refine ⟨(t, d, ws, a.1), [], ⟨hs', htl, hst⟩, ?_, rfl, ?_, ?_, rfl⟩
        · dsimp only; first | omega | (simp; done) | (simp; omega)
        all_goals (repeat' (first | exact trivial | exact rfl | refine And.intro ?_ ?_ | (refine congrArg vI ?_; omega) | (refine congrArg some ?_) | omega))
end Go.Sx

