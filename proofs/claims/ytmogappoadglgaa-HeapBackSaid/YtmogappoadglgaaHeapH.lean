/-
  Layer 10, part H: HeapPlays, HeapLeast, HeapApart, HeapBack.
-/
import Derived.Test.YtmogappoadglgaaHeapG
import Derived.Test.YtmogappoadglgaaSxX
namespace Go.Sx
open Go Go.Proofs Go.Proofs.Ytmogappoadglgaa
abbrev refN (a off n : Nat) : Ct AF := .cells [.sl a 2 off n]
theorem m_plays : Meets Try.prog regF 3 (spLaw (fun g : List (Int × Int) × List Bool => [.lst 32 g.1, .lst 4 g.2]) (fun _ => True)) := by
  refine meets Try.func3 98 noWr rfl (by kernel_rfl) (by kernel_rfl) ?_
  rintro ⟨(l : List Item), (ps : List Bool)⟩ _
  conv => whnf
  repeat' (first | (refine tell (fun htest => ?_) (fun htest => ?_) <;> (try dsimp only at htest) <;> first | (exfalso; omega) | (exact absurd rfl htest) | (exact absurd (by decide) htest) | (conv => whnf)) | (refine And.intro (by first | kernel_rfl | omega | ((try dsimp only [inR, idx, lowOf]); first | omega | (with_reducible decide) | (simp; omega) | fail) | fail) ?_; conv => whnf) | fail)
  refine ⟨_, m_awake, (), [], false, ?_⟩
  conv => whnf
  refine And.intro (vc0 trivial (by repeat' (first | exact trivial | exact rfl | refine And.intro ?_ ?_ | (refine congrArg vI ?_; omega) | (refine congrArg some ?_) | omega)) (by repeat' (first | exact trivial | exact rfl | refine And.intro ?_ ?_ | (refine congrArg vI ?_; omega) | (refine congrArg some ?_) | omega)) trivial trivial) ?_
  refine And.intro ⟨(), trivial⟩ (fun (_ : Unit) _ => ?_)
  conv => whnf
  refine ⟨_, m_new, (), [], false, ?_⟩
  conv => whnf
  refine And.intro (vc0 trivial (by repeat' (first | exact trivial | exact rfl | refine And.intro ?_ ?_ | (refine congrArg vI ?_; omega) | (refine congrArg some ?_) | omega)) (by repeat' (first | exact trivial | exact rfl | refine And.intro ?_ ?_ | (refine congrArg vI ?_; omega) | (refine congrArg some ?_) | omega)) trivial trivial) ?_
  refine And.intro ⟨(), trivial⟩ (fun (_ : Unit) _ => ?_)
  conv => whnf
  refine ⟨_, m_rnew, (), [], false, ?_⟩
  conv => whnf
  refine And.intro (vc0 trivial (by repeat' (first | exact trivial | exact rfl | refine And.intro ?_ ?_ | (refine congrArg vI ?_; omega) | (refine congrArg some ?_) | omega)) (by repeat' (first | exact trivial | exact rfl | refine And.intro ?_ ?_ | (refine congrArg vI ?_; omega) | (refine congrArg some ?_) | omega)) trivial trivial) ?_
  refine And.intro ⟨(), trivial⟩ (fun (_ : Unit) _ => ?_)
  conv => whnf
  conv => whnf
  repeat' (first | (refine tell (fun htest => ?_) (fun htest => ?_) <;> (try dsimp only at htest) <;> first | (exfalso; omega) | (exact absurd rfl htest) | (exact absurd (by decide) htest) | (conv => whnf)) | (refine And.intro (by first | kernel_rfl | omega | ((try dsimp only [inR, idx, lowOf]); first | omega | (with_reducible decide) | (simp; omega) | fail) | fail) ?_; conv => whnf) | fail)
  refine ⟨List Item × List Item × List Item × List Item × Nat, fun p => ⟨[(0, .lst 32 l), (1, .lst 4 ps), (6, .ptr 1016 0 2 0), (7, .ptr 1017 0 1 0), (8, vI p.2.2.2.2)], [(1016, hpN 3001 p.2.1.length), (3001, .arr 97 p.2.2.1), (1017, refN 3002 p.2.2.2.1.length p.1.length), (3002, .arr 32 (p.2.2.2.1 ++ p.1))]⟩, fun p => p.2.2.2.2 ≤ 120 ∧ p.2.2.2.2 ≤ l.length ∧ p.1.length ≤ p.2.2.2.2 ∧ HS p.1 p.2.1 p.2.2.1, fun p => 120 - p.2.2.2.2, fun _ _ => rfl, ⟨([], [], [], [], 0), [(3001, 2016), (3002, 2017)], ⟨Nat.zero_le _, Nat.zero_le _, Nat.le_refl _, HS.nil⟩, ?_⟩, ?_⟩
  · refine ⟨rfl, ?_, ?_, rfl⟩
    all_goals (repeat' (first | exact trivial | exact rfl | refine And.intro ?_ ?_ | (refine congrArg vI ?_; omega) | (refine congrArg some ?_) | omega))
  rintro ⟨(s : List Item), (xs : List Item), (zs : List Item), (pre : List Item), (i : Nat)⟩ ⟨(hi : i ≤ 120), (hil : i ≤ l.length), (hsl : s.length ≤ i), (hs : HS s xs zs)⟩
  by_cases hlt : i < l.length ∧ i < 120
  · obtain ⟨hl1, hl2⟩ := hlt
    obtain ⟨y, hy⟩ : ∃ y, l[i]? = some y := ⟨_, List.getElem?_eq_getElem hl1⟩
    have pushS : ∀ {d : List Item}, List.Perm d (y :: xs) → HeapL d → HS (insP y s) d d ∧ d.length = s.length + 1 ∧ (insP y s).length = s.length + 1 := fun h1 h2 => ⟨hs.push h1 h2, by rw [(hs.push h1 h2).len, insP_len], insP_len y s⟩
    by_cases hp : i < ps.length
    · obtain ⟨b, hb⟩ : ∃ b, ps[i]? = some b := ⟨_, List.getElem?_eq_getElem hp⟩
      cases b
      · conv => whnf
        repeat' (first | (refine tell (fun htest => ?_) (fun htest => ?_) <;> (try dsimp only at htest) <;> first | (exfalso; omega) | (exact absurd rfl htest) | (exact absurd (by decide) htest) | (conv => whnf)) | (refine allG (x := y) (by first | exact hy | simpa [List.getElem?_append_right, lowOf] using hy | fail) ?_; conv => whnf) | (refine allLst (x := y) (by omega) (by first | exact hy | simpa using hy | fail) ?_; conv => whnf) | (refine allG (x := false) (by first | exact hb | simpa [List.getElem?_append_right, lowOf] using hb | fail) ?_; conv => whnf) | (refine allLst (x := false) (by omega) (by first | exact hb | simpa using hb | fail) ?_; conv => whnf) | (refine And.intro (by first | kernel_rfl | omega | ((try dsimp only [inR, idx, lowOf]); first | omega | (with_reducible decide) | (simp; omega) | fail) | fail) ?_; conv => whnf) | fail)
        refine ⟨_, m_push, (xs, zs, y), [1016, 3001], false, ?_⟩
        conv => whnf
        refine And.intro (vc0 (hs.pre' (by omega)) (by repeat' (first | exact trivial | exact rfl | refine And.intro ?_ ?_ | (refine congrArg vI ?_; omega) | (refine congrArg some ?_) | omega)) (by repeat' (first | exact trivial | exact rfl | refine And.intro ?_ ?_ | (refine congrArg vI ?_; omega) | (refine congrArg some ?_) | omega)) trivial trivial) ?_
        refine And.intro (heap_ex _) ?_
        rintro (d : List Item) ⟨hpd, hd⟩
        obtain ⟨hs', hl3, hl4⟩ := pushS hpd hd
        conv => whnf
        repeat' (first | (refine tell (fun htest => ?_) (fun htest => ?_) <;> (try dsimp only at htest) <;> first | (exfalso; omega) | (exact absurd rfl htest) | (exact absurd (by decide) htest) | (conv => whnf)) | (refine allG (x := y) (by first | exact hy | simpa [List.getElem?_append_right, lowOf] using hy | fail) ?_; conv => whnf) | (refine allLst (x := y) (by omega) (by first | exact hy | simpa using hy | fail) ?_; conv => whnf) | (refine And.intro (by first | kernel_rfl | omega | ((try dsimp only [inR, idx, lowOf]); first | omega | (with_reducible decide) | (simp; omega) | fail) | fail) ?_; conv => whnf) | fail)
        refine ⟨_, m_rpush, (pre, s, y), [1017, 3002], false, ?_⟩
        conv => whnf
        refine And.intro (vc0 (by show s.length ≤ 1000000; omega) (by repeat' (first | exact trivial | exact rfl | refine And.intro ?_ ?_ | (refine congrArg vI ?_; omega) | (refine congrArg some ?_) | omega)) (by repeat' (first | exact trivial | exact rfl | refine And.intro ?_ ?_ | (refine congrArg vI ?_; omega) | (refine congrArg some ?_) | omega)) trivial trivial) ?_
        refine And.intro ⟨(), trivial⟩ (fun (_ : Unit) _ => ?_)
        conv => whnf
        conv => whnf
        repeat' (first | (refine tell (fun htest => ?_) (fun htest => ?_) <;> (try dsimp only at htest) <;> first | (exfalso; omega) | (exact absurd rfl htest) | (exact absurd (by decide) htest) | (conv => whnf)) | (refine And.intro (by first | kernel_rfl | omega | ((try dsimp only [inR, idx, lowOf]); first | omega | (with_reducible decide) | (simp; omega) | fail) | fail) ?_; conv => whnf) | fail)
        refine ⟨_, m_len, (d, d), [1016, 1080], false, ?_⟩
        conv => whnf
        refine And.intro (vc0 trivial (by repeat' (first | exact trivial | exact rfl | refine And.intro ?_ ?_ | (refine congrArg vI ?_; omega) | (refine congrArg some ?_) | omega)) (by repeat' (first | exact trivial | exact rfl | refine And.intro ?_ ?_ | (refine congrArg vI ?_; omega) | (refine congrArg some ?_) | omega)) trivial trivial) ?_
        refine And.intro ⟨(), trivial⟩ (fun (_ : Unit) _ => ?_)
        conv => whnf
        conv => whnf
        repeat' (first | (refine tell (fun htest => ?_) (fun htest => ?_) <;> (try dsimp only at htest) <;> first | (exfalso; omega) | (exact absurd rfl htest) | (exact absurd (by decide) htest) | (conv => whnf)) | (refine And.intro (by first | kernel_rfl | omega | ((try dsimp only [inR, idx, lowOf]); first | omega | (with_reducible decide) | (simp; omega) | fail) | fail) ?_; conv => whnf) | fail)
        refine ⟨_, m_rlen, (0, (insP y s).length, insP y s), [1017, 1092], false, ?_⟩
        conv => whnf
        refine And.intro (vc0 trivial (by repeat' (first | exact trivial | exact rfl | refine And.intro ?_ ?_ | (refine congrArg vI ?_; omega) | (refine congrArg some ?_) | omega)) (by repeat' (first | exact trivial | exact rfl | refine And.intro ?_ ?_ | (refine congrArg vI ?_; omega) | (refine congrArg some ?_) | omega)) trivial trivial) ?_
        refine And.intro ⟨(), trivial⟩ (fun (_ : Unit) _ => ?_)
        conv => whnf
        conv => whnf
        repeat' (first | (refine tell (fun htest => ?_) (fun htest => ?_) <;> (try dsimp only at htest) <;> first | (exfalso; omega) | (exact absurd rfl htest) | (exact absurd (by decide) htest) | (conv => whnf)) | (refine And.intro (by first | kernel_rfl | omega | ((try dsimp only [inR, idx, lowOf]); first | omega | (with_reducible decide) | (simp; omega) | fail) | fail) ?_; conv => whnf) | fail)
        refine ⟨(insP y s, d, d, [], i + 1), [(3001, 1080), (3002, 1092)], ⟨by dsimp only; omega, by dsimp only; omega, by dsimp only; omega, hs'⟩, ?_, rfl, ?_, ?_, rfl⟩
        · dsimp only; omega
        all_goals (repeat' (first | exact trivial | exact rfl | refine And.intro ?_ ?_ | (refine congrArg vI ?_; omega) | (refine congrArg some ?_) | omega))
      · conv => whnf
        repeat' (first | (refine tell (fun htest => ?_) (fun htest => ?_) <;> (try dsimp only at htest) <;> first | (exfalso; omega) | (exact absurd rfl htest) | (exact absurd (by decide) htest) | (conv => whnf)) | (refine allG (x := y) (by first | exact hy | simpa [List.getElem?_append_right, lowOf] using hy | fail) ?_; conv => whnf) | (refine allLst (x := y) (by omega) (by first | exact hy | simpa using hy | fail) ?_; conv => whnf) | (refine allG (x := true) (by first | exact hb | simpa [List.getElem?_append_right, lowOf] using hb | fail) ?_; conv => whnf) | (refine allLst (x := true) (by omega) (by first | exact hb | simpa using hb | fail) ?_; conv => whnf) | (refine And.intro (by first | kernel_rfl | omega | ((try dsimp only [inR, idx, lowOf]); first | omega | (with_reducible decide) | (simp; omega) | fail) | fail) ?_; conv => whnf) | fail)
        cases s with
        | nil =>
          refine ⟨_, m_pop, (xs, zs), [1016, 3001], false, ?_⟩
          conv => whnf
          refine And.intro (vc0 (hs.pre (by simp)) (by repeat' (first | exact trivial | exact rfl | refine And.intro ?_ ?_ | (refine congrArg vI ?_; omega) | (refine congrArg some ?_) | omega)) (by repeat' (first | exact trivial | exact rfl | refine And.intro ?_ ?_ | (refine congrArg vI ?_; omega) | (refine congrArg some ?_) | omega)) trivial trivial) ?_
          refine And.intro (pop_ex hs.heap) ?_
          rintro ⟨(d : List Item), (ws : List Item), (a : Item), (ok : Bool)⟩ hq
          obtain ⟨rfl, rfl, hs'⟩ := hs.pop0 hq
          conv => whnf
          repeat' (first | (refine tell (fun htest => ?_) (fun htest => ?_) <;> (try dsimp only at htest) <;> first | (exfalso; omega) | (exact absurd rfl htest) | (exact absurd (by decide) htest) | (conv => whnf)) | (refine And.intro (by first | kernel_rfl | omega | ((try dsimp only [inR, idx, lowOf]); first | omega | (with_reducible decide) | (simp; omega) | fail) | fail) ?_; conv => whnf) | fail)
          refine ⟨_, m_rpop, (pre, []), [1017, 3002], false, ?_⟩
          conv => whnf
          refine And.intro (vc0 trivial (by repeat' (first | exact trivial | exact rfl | refine And.intro ?_ ?_ | (refine congrArg vI ?_; omega) | (refine congrArg some ?_) | omega)) (by repeat' (first | exact trivial | exact rfl | refine And.intro ?_ ?_ | (refine congrArg vI ?_; omega) | (refine congrArg some ?_) | omega)) trivial trivial) ?_
          refine And.intro ⟨(), trivial⟩ (fun (_ : Unit) _ => ?_)
          conv => whnf
          conv => whnf
          repeat' (first | (refine tell (fun htest => ?_) (fun htest => ?_) <;> (try dsimp only at htest) <;> first | (exfalso; omega) | (exact absurd rfl htest) | (exact absurd (by decide) htest) | (conv => whnf)) | (refine And.intro (by first | kernel_rfl | omega | ((try dsimp only [inR, idx, lowOf]); first | omega | (with_reducible decide) | (simp; omega) | fail) | fail) ?_; conv => whnf) | fail)
          refine ⟨_, m_len, (d, ws), [1016, 3001], false, ?_⟩
          conv => whnf
          refine And.intro (vc0 trivial (by repeat' (first | exact trivial | exact rfl | refine And.intro ?_ ?_ | (refine congrArg vI ?_; omega) | (refine congrArg some ?_) | omega)) (by repeat' (first | exact trivial | exact rfl | refine And.intro ?_ ?_ | (refine congrArg vI ?_; omega) | (refine congrArg some ?_) | omega)) trivial trivial) ?_
          refine And.intro ⟨(), trivial⟩ (fun (_ : Unit) _ => ?_)
          conv => whnf
          conv => whnf
          repeat' (first | (refine tell (fun htest => ?_) (fun htest => ?_) <;> (try dsimp only at htest) <;> first | (exfalso; omega) | (exact absurd rfl htest) | (exact absurd (by decide) htest) | (conv => whnf)) | (refine And.intro (by first | kernel_rfl | omega | ((try dsimp only [inR, idx, lowOf]); first | omega | (with_reducible decide) | (simp; omega) | fail) | fail) ?_; conv => whnf) | fail)
          refine ⟨_, m_rlen, (pre.length, 0, pre ++ []), [1017, 3002], false, ?_⟩
          conv => whnf
          refine And.intro (vc0 trivial (by repeat' (first | exact trivial | exact rfl | refine And.intro ?_ ?_ | (refine congrArg vI ?_; omega) | (refine congrArg some ?_) | omega)) (by repeat' (first | exact trivial | exact rfl | refine And.intro ?_ ?_ | (refine congrArg vI ?_; omega) | (refine congrArg some ?_) | omega)) trivial trivial) ?_
          refine And.intro ⟨(), trivial⟩ (fun (_ : Unit) _ => ?_)
          conv => whnf
          have hl3 : d.length = 0 := hs'.len
          conv => whnf
          repeat' (first | (refine tell (fun htest => ?_) (fun htest => ?_) <;> (try dsimp only at htest) <;> first | (exfalso; omega) | (exact absurd rfl htest) | (exact absurd (by decide) htest) | (conv => whnf)) | (refine And.intro (by first | kernel_rfl | omega | ((try dsimp only [inR, idx, lowOf]); first | omega | (with_reducible decide) | (simp; omega) | fail) | fail) ?_; conv => whnf) | fail)
          refine ⟨([], d, ws, pre, i + 1), [], ⟨by dsimp only; omega, by dsimp only; omega, Nat.zero_le _, hs'⟩, ?_, rfl, ?_, ?_, rfl⟩
          · dsimp only; omega
          all_goals (repeat' (first | exact trivial | exact rfl | refine And.intro ?_ ?_ | (refine congrArg vI ?_; omega) | (refine congrArg some ?_) | omega))
        | cons z t =>
          refine ⟨_, m_pop, (xs, zs), [1016, 3001], false, ?_⟩
          conv => whnf
          refine And.intro (vc0 (hs.pre (by simp at hsl ⊢; omega)) (by repeat' (first | exact trivial | exact rfl | refine And.intro ?_ ?_ | (refine congrArg vI ?_; omega) | (refine congrArg some ?_) | omega)) (by repeat' (first | exact trivial | exact rfl | refine And.intro ?_ ?_ | (refine congrArg vI ?_; omega) | (refine congrArg some ?_) | omega)) trivial trivial) ?_
          refine And.intro (pop_ex hs.heap) ?_
          rintro ⟨(d : List Item), (ws : List Item), (a : Item), (ok : Bool)⟩ hq
          obtain ⟨rfl, rfl, hs'⟩ := hs.pop1 hq
          conv => whnf
          repeat' (first | (refine tell (fun htest => ?_) (fun htest => ?_) <;> (try dsimp only at htest) <;> first | (exfalso; omega) | (exact absurd rfl htest) | (exact absurd (by decide) htest) | (conv => whnf)) | (refine And.intro (by first | kernel_rfl | omega | ((try dsimp only [inR, idx, lowOf]); first | omega | (with_reducible decide) | (simp; omega) | fail) | fail) ?_; conv => whnf) | fail)
          refine ⟨_, m_rpop, (pre, a :: t), [1017, 3002], false, ?_⟩
          conv => whnf
          refine And.intro (vc0 trivial (by repeat' (first | exact trivial | exact rfl | refine And.intro ?_ ?_ | (refine congrArg vI ?_; omega) | (refine congrArg some ?_) | omega)) (by repeat' (first | exact trivial | exact rfl | refine And.intro ?_ ?_ | (refine congrArg vI ?_; omega) | (refine congrArg some ?_) | omega)) trivial trivial) ?_
          refine And.intro ⟨(), trivial⟩ (fun (_ : Unit) _ => ?_)
          conv => whnf
          conv => whnf
          repeat' (first | (refine tell (fun htest => ?_) (fun htest => ?_) <;> (try dsimp only at htest) <;> first | (exfalso; omega) | (exact absurd rfl htest) | (exact absurd (by decide) htest) | (conv => whnf)) | (refine And.intro (by first | kernel_rfl | omega | ((try dsimp only [inR, idx, lowOf]); first | omega | (with_reducible decide) | (simp; omega) | fail) | fail) ?_; conv => whnf) | fail)
          refine ⟨_, m_len, (d, ws), [1016, 3001], false, ?_⟩
          conv => whnf
          refine And.intro (vc0 trivial (by repeat' (first | exact trivial | exact rfl | refine And.intro ?_ ?_ | (refine congrArg vI ?_; omega) | (refine congrArg some ?_) | omega)) (by repeat' (first | exact trivial | exact rfl | refine And.intro ?_ ?_ | (refine congrArg vI ?_; omega) | (refine congrArg some ?_) | omega)) trivial trivial) ?_
          refine And.intro ⟨(), trivial⟩ (fun (_ : Unit) _ => ?_)
          conv => whnf
          conv => whnf
          repeat' (first | (refine tell (fun htest => ?_) (fun htest => ?_) <;> (try dsimp only at htest) <;> first | (exfalso; omega) | (exact absurd rfl htest) | (exact absurd (by decide) htest) | (conv => whnf)) | (refine And.intro (by first | kernel_rfl | omega | ((try dsimp only [inR, idx, lowOf]); first | omega | (with_reducible decide) | (simp; omega) | fail) | fail) ?_; conv => whnf) | fail)
          refine ⟨_, m_rlen, (pre.length + 1, t.length, pre ++ a :: t), [1017, 3002], false, ?_⟩
          conv => whnf
          refine And.intro (vc0 trivial (by repeat' (first | exact trivial | exact rfl | refine And.intro ?_ ?_ | (refine congrArg vI ?_; omega) | (refine congrArg some ?_) | omega)) (by repeat' (first | exact trivial | exact rfl | refine And.intro ?_ ?_ | (refine congrArg vI ?_; omega) | (refine congrArg some ?_) | omega)) trivial trivial) ?_
          refine And.intro ⟨(), trivial⟩ (fun (_ : Unit) _ => ?_)
          conv => whnf
          have hl3 := hs'.len
          conv => whnf
          repeat' (first | (refine tell (fun htest => ?_) (fun htest => ?_) <;> (try dsimp only at htest) <;> first | (exfalso; omega) | (exact absurd rfl htest) | (exact absurd (by decide) htest) | (conv => whnf)) | (refine And.intro (by first | kernel_rfl | omega | ((try dsimp only [inR, idx, lowOf]); first | omega | (with_reducible decide) | (simp; omega) | fail) | fail) ?_; conv => whnf) | fail)
          refine ⟨(t, d, ws, pre ++ [a], i + 1), [], ⟨by dsimp only; omega, by dsimp only; omega, by simp at hsl ⊢; omega, hs'⟩, ?_, rfl, ?_, ?_, rfl⟩
          · dsimp only; omega
          all_goals (repeat' (first | exact trivial | exact rfl | refine And.intro ?_ ?_ | (refine congrArg vI ?_; omega) | (refine congrArg some ?_) | omega))
          · exact congrArg (fun n => SV.sl (A := AF) 3002 2 n t.length) (by simp)
          · exact congrArg (Ct.arr (A := AF) 32) (by simp)
    · conv => whnf
      repeat' (first | (refine tell (fun htest => ?_) (fun htest => ?_) <;> (try dsimp only at htest) <;> first | (exfalso; omega) | (exact absurd rfl htest) | (exact absurd (by decide) htest) | (conv => whnf)) | (refine allG (x := y) (by first | exact hy | simpa [List.getElem?_append_right, lowOf] using hy | fail) ?_; conv => whnf) | (refine allLst (x := y) (by omega) (by first | exact hy | simpa using hy | fail) ?_; conv => whnf) | (refine And.intro (by first | kernel_rfl | omega | ((try dsimp only [inR, idx, lowOf]); first | omega | (with_reducible decide) | (simp; omega) | fail) | fail) ?_; conv => whnf) | fail)
      refine ⟨_, m_push, (xs, zs, y), [1016, 3001], false, ?_⟩
      conv => whnf
      refine And.intro (vc0 (hs.pre' (by omega)) (by repeat' (first | exact trivial | exact rfl | refine And.intro ?_ ?_ | (refine congrArg vI ?_; omega) | (refine congrArg some ?_) | omega)) (by repeat' (first | exact trivial | exact rfl | refine And.intro ?_ ?_ | (refine congrArg vI ?_; omega) | (refine congrArg some ?_) | omega)) trivial trivial) ?_
      refine And.intro (heap_ex _) ?_
      rintro (d : List Item) ⟨hpd, hd⟩
      obtain ⟨hs', hl3, hl4⟩ := pushS hpd hd
      conv => whnf
      repeat' (first | (refine tell (fun htest => ?_) (fun htest => ?_) <;> (try dsimp only at htest) <;> first | (exfalso; omega) | (exact absurd rfl htest) | (exact absurd (by decide) htest) | (conv => whnf)) | (refine allG (x := y) (by first | exact hy | simpa [List.getElem?_append_right, lowOf] using hy | fail) ?_; conv => whnf) | (refine allLst (x := y) (by omega) (by first | exact hy | simpa using hy | fail) ?_; conv => whnf) | (refine And.intro (by first | kernel_rfl | omega | ((try dsimp only [inR, idx, lowOf]); first | omega | (with_reducible decide) | (simp; omega) | fail) | fail) ?_; conv => whnf) | fail)
      refine ⟨_, m_rpush, (pre, s, y), [1017, 3002], false, ?_⟩
      conv => whnf
      refine And.intro (vc0 (by show s.length ≤ 1000000; omega) (by repeat' (first | exact trivial | exact rfl | refine And.intro ?_ ?_ | (refine congrArg vI ?_; omega) | (refine congrArg some ?_) | omega)) (by repeat' (first | exact trivial | exact rfl | refine And.intro ?_ ?_ | (refine congrArg vI ?_; omega) | (refine congrArg some ?_) | omega)) trivial trivial) ?_
      refine And.intro ⟨(), trivial⟩ (fun (_ : Unit) _ => ?_)
      conv => whnf
      conv => whnf
      repeat' (first | (refine tell (fun htest => ?_) (fun htest => ?_) <;> (try dsimp only at htest) <;> first | (exfalso; omega) | (exact absurd rfl htest) | (exact absurd (by decide) htest) | (conv => whnf)) | (refine And.intro (by first | kernel_rfl | omega | ((try dsimp only [inR, idx, lowOf]); first | omega | (with_reducible decide) | (simp; omega) | fail) | fail) ?_; conv => whnf) | fail)
      refine ⟨_, m_len, (d, d), [1016, 1080], false, ?_⟩
      conv => whnf
      refine And.intro (vc0 trivial (by repeat' (first | exact trivial | exact rfl | refine And.intro ?_ ?_ | (refine congrArg vI ?_; omega) | (refine congrArg some ?_) | omega)) (by repeat' (first | exact trivial | exact rfl | refine And.intro ?_ ?_ | (refine congrArg vI ?_; omega) | (refine congrArg some ?_) | omega)) trivial trivial) ?_
      refine And.intro ⟨(), trivial⟩ (fun (_ : Unit) _ => ?_)
      conv => whnf
      conv => whnf
      repeat' (first | (refine tell (fun htest => ?_) (fun htest => ?_) <;> (try dsimp only at htest) <;> first | (exfalso; omega) | (exact absurd rfl htest) | (exact absurd (by decide) htest) | (conv => whnf)) | (refine And.intro (by first | kernel_rfl | omega | ((try dsimp only [inR, idx, lowOf]); first | omega | (with_reducible decide) | (simp; omega) | fail) | fail) ?_; conv => whnf) | fail)
      refine ⟨_, m_rlen, (0, (insP y s).length, insP y s), [1017, 1092], false, ?_⟩
      conv => whnf
      refine And.intro (vc0 trivial (by repeat' (first | exact trivial | exact rfl | refine And.intro ?_ ?_ | (refine congrArg vI ?_; omega) | (refine congrArg some ?_) | omega)) (by repeat' (first | exact trivial | exact rfl | refine And.intro ?_ ?_ | (refine congrArg vI ?_; omega) | (refine congrArg some ?_) | omega)) trivial trivial) ?_
      refine And.intro ⟨(), trivial⟩ (fun (_ : Unit) _ => ?_)
      conv => whnf
      conv => whnf
      repeat' (first | (refine tell (fun htest => ?_) (fun htest => ?_) <;> (try dsimp only at htest) <;> first | (exfalso; omega) | (exact absurd rfl htest) | (exact absurd (by decide) htest) | (conv => whnf)) | (refine And.intro (by first | kernel_rfl | omega | ((try dsimp only [inR, idx, lowOf]); first | omega | (with_reducible decide) | (simp; omega) | fail) | fail) ?_; conv => whnf) | fail)
      refine ⟨(insP y s, d, d, [], i + 1), [(3001, 1080), (3002, 1092)], ⟨by dsimp only; omega, by dsimp only; omega, by dsimp only; omega, hs'⟩, ?_, rfl, ?_, ?_, rfl⟩
      · dsimp only; omega
      all_goals (repeat' (first | exact trivial | exact rfl | refine And.intro ?_ ?_ | (refine congrArg vI ?_; omega) | (refine congrArg some ?_) | omega))
  · conv => whnf
    repeat' (first | (refine tell (fun htest => ?_) (fun htest => ?_) <;> (try dsimp only at htest) <;> first | (exfalso; omega) | (exact absurd rfl htest) | (exact absurd (by decide) htest) | (conv => whnf)) | (refine And.intro (by first | kernel_rfl | omega | ((try dsimp only [inR, idx, lowOf]); first | omega | (with_reducible decide) | (simp; omega) | fail) | fail) ?_; conv => whnf) | fail)
    all_goals exact ⟨(), [], trivial, rfl, trivial, trivial⟩
end Go.Sx

