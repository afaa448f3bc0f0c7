/-
  Layer 11, part S: LayoutEdges.
-/
import Derived.Test.YtmogappoadglgaaLayQ
namespace Go.Sx
open Go Go.Proofs Go.Proofs.Ytmogappoadglgaa
theorem lowN_le (es : List Edge) (k : Nat) : lowN es k ≤ es.length := List.length_filter_le _ _
theorem betF_snd {n : Int} {es : List Edge} (h : RightL n es) (w : Int × Int) : (betF n es w).2 = decide (w ∈ es.map wayE) := by
  by_cases hw : w ∈ es.map wayE
  · obtain ⟨e, he, rfl⟩ := List.mem_map.1 hw
    obtain ⟨i, hi⟩ := List.getElem?_of_mem he
    rw [betF_at h hi rfl, decide_eq_true hw]
  · rw [betF_no hw, decide_eq_false hw]
theorem way_snoc {es : List Edge} {i : Nat} {e : Edge} (he : es[i]? = some e) (w : Int × Int) : (w ∈ (es.take (i + 1)).map wayE) ↔ (w ∈ (es.take i).map wayE) ∨ w = wayE e := by
  rw [take_snocI he, List.map_append, List.mem_append]; simp
theorem way_of {e : Edge} {a b : Int} (h : (a, b) = wayE e) : e.1 = a ∧ e.2.1 = b := ⟨(Prod.ext_iff.1 h).1.symm, (Prod.ext_iff.1 h).2.symm⟩
/-- Between, its answer under a name of its own. -/
noncomputable def spBetD : Spec AF where
  γ := (Int × List Edge) × Int × Int
  δ := Int × Bool
  args := fun g => [layS g.1.1 g.1.2, vI g.2.1, vI g.2.2]
  own := fun _ => []
  pre := fun g => GoodL g.1.2
  nnew := 0
  res := fun _ d => .tup [vI d.1, vB d.2]
  own' := fun _ _ => []
  post := fun g d => d = betF g.1.1 g.1.2 g.2
theorem m_betD : Meets Try.prog regF 39 spBetD :=
  ⟨m_between.1, fun g hg X ρ w vs h1 h2 h3 h4 => (m_between.2 g hg X ρ w vs h1 h2 h3 h4).mono fun _ _ hp => by
    obtain ⟨_, ρ', v, _, rest⟩ := hp
    exact ⟨betF g.1.1 g.1.2 g.2, ρ', v, rfl, rest⟩⟩
set_option maxHeartbeats 1600000 in
theorem m_edges : Meets Try.prog regF 12 (spLaw (fun g : Int × List (Int × Int × Int) => [vI g.1, .lst 66 g.2]) (fun g => InI g.1 ∧ Triples g.2)) := by
  refine meets Try.func12 135 noWr rfl (by kernel_rfl) (by kernel_rfl) ?_
  rintro ⟨(c : Int), (l : List (Int × Int × Int))⟩ ⟨(hc : InI c), (hl : Triples l)⟩
  obtain ⟨hR, h24⟩ := fit_right c l
  have hN := fitN_bd c
  conv => whnf
  repeat' (first | (refine tell (fun htest => ?_) (fun htest => ?_) <;> (try dsimp only at htest) <;> first | (exfalso; omega) | (exact absurd rfl htest) | (exact absurd (by decide) htest) | (conv => whnf)) | (refine allG rfl ?_; conv => whnf) | (refine And.intro (by first | omega | assumption | kernel_rfl | exact And.intro rfl rfl | ((try dsimp only [inR, idx, lowOf]); first | omega | (with_reducible decide) | (simp; omega) | fail) | fail) ?_; conv => whnf) | fail)
  refine ⟨_, m_awakeL, (), [], false, ?_⟩
  conv => whnf
  refine And.intro (vc0 trivial (by (repeat' (first | exact trivial | exact rfl | refine And.intro ?_ ?_ | (refine congrArg vI ?_; first | omega | (dsimp only; omega) | fail) | (refine congrArg some ?_) | omega | exact Nat.le_refl _ | exact congrArg (SV.lst _) (List.take_of_length_le (Nat.le_refl _)).symm))) (by repeat' (first | exact trivial | exact rfl | refine And.intro ?_ ?_ | (refine congrArg vI ?_; first | omega | (dsimp only; omega) | fail) | (refine congrArg some ?_) | omega | exact Nat.le_refl _ | exact congrArg (SV.lst _) (List.take_of_length_le (Nat.le_refl _)).symm)) trivial trivial) ?_
  refine And.intro ⟨(), trivial⟩ (fun (_ : Unit) _ => ?_)
  conv => whnf
  conv => whnf
  repeat' (first | (refine tell (fun htest => ?_) (fun htest => ?_) <;> (try dsimp only at htest) <;> first | (exfalso; omega) | (exact absurd rfl htest) | (exact absurd (by decide) htest) | (conv => whnf)) | (refine allG rfl ?_; conv => whnf) | (refine And.intro (by first | omega | assumption | kernel_rfl | exact And.intro rfl rfl | ((try dsimp only [inR, idx, lowOf]); first | omega | (with_reducible decide) | (simp; omega) | fail) | fail) ?_; conv => whnf) | fail)
  refine ⟨_, m_fit, (c, l), [], false, ?_⟩
  conv => whnf
  refine And.intro (vc0 ⟨hc, hl⟩ (by (repeat' (first | exact trivial | exact rfl | refine And.intro ?_ ?_ | (refine congrArg vI ?_; first | omega | (dsimp only; omega) | fail) | (refine congrArg some ?_) | omega | exact Nat.le_refl _ | exact congrArg (SV.lst _) (List.take_of_length_le (Nat.le_refl _)).symm))) (by repeat' (first | exact trivial | exact rfl | refine And.intro ?_ ?_ | (refine congrArg vI ?_; first | omega | (dsimp only; omega) | fail) | (refine congrArg some ?_) | omega | exact Nat.le_refl _ | exact congrArg (SV.lst _) (List.take_of_length_le (Nat.le_refl _)).symm)) trivial trivial) ?_
  refine And.intro ⟨(), trivial⟩ (fun (_ : Unit) _ => ?_)
  conv => whnf
  conv => whnf
  repeat' (first | (refine tell (fun htest => ?_) (fun htest => ?_) <;> (try dsimp only at htest) <;> first | (exfalso; omega) | (exact absurd rfl htest) | (exact absurd (by decide) htest) | (conv => whnf)) | (refine allG rfl ?_; conv => whnf) | (refine And.intro (by first | omega | assumption | kernel_rfl | exact And.intro rfl rfl | ((try dsimp only [inR, idx, lowOf]); first | omega | (with_reducible decide) | (simp; omega) | fail) | fail) ?_; conv => whnf) | fail)
  refine ⟨Nat, fun k => ⟨[(5, vB true), (6, .ptr 1006 0 2 0), (7, vI (lowN (fitL c l) k)), (8, vI k)], [(1006, layC (fitN c) (fitL c l))]⟩, fun k => (k : Int) ≤ (fitN c), fun k => 8 - k, fun _ _ => rfl, ⟨0, [], (by omega), ?_⟩, ?_⟩
  · refine ⟨rfl, ?_, ?_, rfl⟩
    all_goals (repeat' (first | exact trivial | exact rfl | refine And.intro ?_ ?_ | (refine congrArg vI ?_; first | omega | (dsimp only; omega) | fail) | (refine congrArg some ?_) | omega | exact Nat.le_refl _ | exact congrArg (SV.lst _) (List.take_of_length_le (Nat.le_refl _)).symm))
    all_goals (exact congrArg vI (by rw [lowN_zero hR.each]; rfl))
  rintro (k : Nat) (hk : (k : Int) ≤ (fitN c))
  by_cases hlt : (k : Int) < (fitN c)
  · have hO : (outF (fitN c) (fitL c l) k) = outL (fitL c l) k 0 := if_pos hR
    have hlow : lowN (fitL c l) (k + 1) = lowN (fitL c l) k + (outF (fitN c) (fitL c l) k).length := by rw [hO]; exact lowN_succ hR.each k 0
    have hle := lowN_le (fitL c l) (k + 1)
    have hOS : (outF (fitN c) (fitL c l) k).Pairwise (· < ·) := by rw [hO]; exact outL_sorted _ _ _
    conv => whnf
    repeat' (first | (refine tell (fun htest => ?_) (fun htest => ?_) <;> (try dsimp only at htest) <;> first | (exfalso; omega) | (exact absurd rfl htest) | (exact absurd (by decide) htest) | (conv => whnf)) | (refine allG rfl ?_; conv => whnf) | (refine And.intro (by first | omega | assumption | kernel_rfl | exact And.intro rfl rfl | ((try dsimp only [inR, idx, lowOf]); first | omega | (with_reducible decide) | (simp; omega) | fail) | fail) ?_; conv => whnf) | fail)
    refine ⟨_, m_out, ((fitN c), (fitL c l), (k : Int)), [], false, ?_⟩
    conv => whnf
    refine And.intro (vc0 hR.good (by (repeat' (first | exact trivial | exact rfl | refine And.intro ?_ ?_ | (refine congrArg vI ?_; first | omega | (dsimp only; omega) | fail) | (refine congrArg some ?_) | omega | exact Nat.le_refl _ | exact congrArg (SV.lst _) (List.take_of_length_le (Nat.le_refl _)).symm))) (by repeat' (first | exact trivial | exact rfl | refine And.intro ?_ ?_ | (refine congrArg vI ?_; first | omega | (dsimp only; omega) | fail) | (refine congrArg some ?_) | omega | exact Nat.le_refl _ | exact congrArg (SV.lst _) (List.take_of_length_le (Nat.le_refl _)).symm)) trivial trivial) ?_
    refine And.intro ⟨(), trivial⟩ (fun (_ : Unit) _ => ?_)
    conv => whnf
    conv => whnf
    repeat' (first | (refine tell (fun htest => ?_) (fun htest => ?_) <;> (try dsimp only at htest) <;> first | (exfalso; omega) | (exact absurd rfl htest) | (exact absurd (by decide) htest) | (conv => whnf)) | (refine allG rfl ?_; conv => whnf) | (refine And.intro (by first | omega | assumption | kernel_rfl | exact And.intro rfl rfl | ((try dsimp only [inR, idx, lowOf]); first | omega | (with_reducible decide) | (simp; omega) | fail) | fail) ?_; conv => whnf) | fail)
    refine ⟨Nat, fun i => ⟨[(5, vB true), (6, .ptr 1006 0 2 0), (7, vI (lowN (fitL c l) (k + 1))), (8, vI k), (9, .lst 3 (outF (fitN c) (fitL c l) k)), (10, vI i)], [(1006, layC (fitN c) (fitL c l))]⟩, fun i => i ≤ (outF (fitN c) (fitL c l) k).length, fun i => (outF (fitN c) (fitL c l) k).length - i, fun _ _ => rfl, ⟨0, [], Nat.zero_le _, ?_⟩, ?_⟩
    · refine ⟨rfl, ?_, ?_, rfl⟩
      all_goals (repeat' (first | exact trivial | exact rfl | refine And.intro ?_ ?_ | (refine congrArg vI ?_; first | omega | (dsimp only; omega) | fail) | (refine congrArg some ?_) | omega | exact Nat.le_refl _ | exact congrArg (SV.lst _) (List.take_of_length_le (Nat.le_refl _)).symm))
    rintro (i : Nat) (hi : i ≤ (outF (fitN c) (fitL c l) k).length)
    by_cases hil : i < (outF (fitN c) (fitL c l) k).length
    · obtain ⟨x, hx⟩ : ∃ x, (outF (fitN c) (fitL c l) k)[i]? = some x := ⟨_, List.getElem?_eq_getElem hil⟩
      obtain ⟨j, e, hxj, he0, hek⟩ := (outL_mem (k : Int) (fitL c l) 0 x).1 (hO ▸ List.mem_of_getElem? hx)
      rw [Nat.zero_add] at hxj
      have hx0 : 0 ≤ x := by omega
      have hjl := (List.getElem?_eq_some_iff.1 he0).1
      have he : (fitL c l)[x.toNat]? = some e := by rw [hxj]; exact he0
      rcases i with _ | i
      · conv => whnf
        repeat' (first | (refine tell (fun htest => ?_) (fun htest => ?_) <;> (try dsimp only at htest) <;> first | (exfalso; omega) | (exact absurd rfl htest) | (exact absurd (by decide) htest) | (conv => whnf)) | (refine allG (x := x) (by first | exact hx | simpa [List.getElem?_append_right, lowOf] using hx | fail) ?_; conv => whnf) | (refine allLst (x := x) (by first | omega | assumption | fail) (by first | exact hx | simpa using hx | fail) ?_; conv => whnf) | (refine allLst (x := e) hx0 he ?_; conv => whnf) | (refine allG rfl ?_; conv => whnf) | (refine And.intro (by first | omega | assumption | kernel_rfl | exact And.intro rfl rfl | ((try dsimp only [inR, idx, lowOf]); first | omega | (with_reducible decide) | (simp; omega) | fail) | fail) ?_; conv => whnf) | fail)
        refine ⟨0 + 1, [], hil, ?_, rfl, ?_, ?_, rfl⟩
        · dsimp only; first | omega | (simp; done) | (simp; omega)
        all_goals (repeat' (first | exact trivial | exact rfl | refine And.intro ?_ ?_ | (refine congrArg vI ?_; first | omega | (dsimp only; omega) | fail) | (refine congrArg some ?_) | omega | exact Nat.le_refl _ | exact congrArg (SV.lst _) (List.take_of_length_le (Nat.le_refl _)).symm))
      · obtain ⟨y, hy⟩ : ∃ y, (outF (fitN c) (fitL c l) k)[i]? = some y := ⟨_, List.getElem?_eq_getElem (by omega)⟩
        have hyx := sorted_at hOS hy hx
        conv => whnf
        repeat' (first | (refine tell (fun htest => ?_) (fun htest => ?_) <;> (try dsimp only at htest) <;> first | (exfalso; omega) | (exact absurd rfl htest) | (exact absurd (by decide) htest) | (conv => whnf)) | (refine allG (x := x) (by first | exact hx | simpa [List.getElem?_append_right, lowOf] using hx | fail) ?_; conv => whnf) | (refine allLst (x := x) (by first | omega | assumption | fail) (by first | exact hx | simpa using hx | fail) ?_; conv => whnf) | (refine allLst (x := e) hx0 he ?_; conv => whnf) | (refine allG (x := y) (by first | exact hy | simpa [List.getElem?_append_right, lowOf] using hy | fail) ?_; conv => whnf) | (refine allLst (x := y) (by first | omega | assumption | fail) (by first | exact hy | simpa using hy | fail) ?_; conv => whnf) | (refine allG rfl ?_; conv => whnf) | (refine And.intro (by first | omega | assumption | kernel_rfl | exact And.intro rfl rfl | ((try dsimp only [inR, idx, lowOf]); first | omega | (with_reducible decide) | (simp; omega) | fail) | fail) ?_; conv => whnf) | fail)
        refine ⟨i + 1 + 1, [], hil, ?_, rfl, ?_, ?_, rfl⟩
        · dsimp only; first | omega | (simp; done) | (simp; omega)
        all_goals (repeat' (first | exact trivial | exact rfl | refine And.intro ?_ ?_ | (refine congrArg vI ?_; first | omega | (dsimp only; omega) | fail) | (refine congrArg some ?_) | omega | exact Nat.le_refl _ | exact congrArg (SV.lst _) (List.take_of_length_le (Nat.le_refl _)).symm))
    · have hxx := hi
      conv => whnf
      repeat' (first | (refine tell (fun htest => ?_) (fun htest => ?_) <;> (try dsimp only at htest) <;> first | (exfalso; omega) | (exact absurd rfl htest) | (exact absurd (by decide) htest) | (conv => whnf)) | (refine allG rfl ?_; conv => whnf) | (refine And.intro (by first | omega | assumption | kernel_rfl | exact And.intro rfl rfl | ((try dsimp only [inR, idx, lowOf]); first | omega | (with_reducible decide) | (simp; omega) | fail) | fail) ?_; conv => whnf) | fail)
      refine ⟨Nat, fun j => ⟨[(5, vB true), (6, .ptr 1006 0 2 0), (7, vI (lowN (fitL c l) (k + 1))), (8, vI k), (11, vI j)], [(1006, layC (fitN c) (fitL c l))]⟩, fun j => (j : Int) ≤ (fitN c), fun j => 8 - j, fun _ _ => rfl, ⟨0, [], (by omega), ?_⟩, ?_⟩
      · refine ⟨rfl, ?_, ?_, rfl⟩
        all_goals (repeat' (first | exact trivial | exact rfl | refine And.intro ?_ ?_ | (refine congrArg vI ?_; first | omega | (dsimp only; omega) | fail) | (refine congrArg some ?_) | omega | exact Nat.le_refl _ | exact congrArg (SV.lst _) (List.take_of_length_le (Nat.le_refl _)).symm))
      rintro (j : Nat) (hj : (j : Int) ≤ (fitN c))
      by_cases hjl : (j : Int) < (fitN c)
      · conv => whnf
        repeat' (first | (refine tell (fun htest => ?_) (fun htest => ?_) <;> (try dsimp only at htest) <;> first | (exfalso; omega) | (exact absurd rfl htest) | (exact absurd (by decide) htest) | (conv => whnf)) | (refine allG rfl ?_; conv => whnf) | (refine And.intro (by first | omega | assumption | kernel_rfl | exact And.intro rfl rfl | ((try dsimp only [inR, idx, lowOf]); first | omega | (with_reducible decide) | (simp; omega) | fail) | fail) ?_; conv => whnf) | fail)
        refine ⟨_, m_betD, (((fitN c), (fitL c l)), (k : Int), (j : Int)), [], false, ?_⟩
        conv => whnf
        refine And.intro (vc0 hR.good (by (repeat' (first | exact trivial | exact rfl | refine And.intro ?_ ?_ | (refine congrArg vI ?_; first | omega | (dsimp only; omega) | fail) | (refine congrArg some ?_) | omega | exact Nat.le_refl _ | exact congrArg (SV.lst _) (List.take_of_length_le (Nat.le_refl _)).symm))) (by repeat' (first | exact trivial | exact rfl | refine And.intro ?_ ?_ | (refine congrArg vI ?_; first | omega | (dsimp only; omega) | fail) | (refine congrArg some ?_) | omega | exact Nat.le_refl _ | exact congrArg (SV.lst _) (List.take_of_length_le (Nat.le_refl _)).symm)) trivial trivial) ?_
        refine And.intro ⟨betF (fitN c) (fitL c l) ((k : Int), (j : Int)), rfl⟩ ?_
        rintro ⟨(p : Int), (q : Bool)⟩ (hB : (p, q) = betF (fitN c) (fitL c l) ((k : Int), (j : Int)))
        have hB := hB.symm
        have hq : q = decide (((k : Int), (j : Int)) ∈ (fitL c l).map wayE) := by rw [← betF_snd hR, hB]
        conv => whnf
        repeat' (first | (refine tell (fun htest => ?_) (fun htest => ?_) <;> (try dsimp only at htest) <;> first | (exfalso; omega) | (exact absurd rfl htest) | (exact absurd (by decide) htest) | (conv => whnf)) | (refine allG rfl ?_; conv => whnf) | (refine And.intro (by first | omega | assumption | kernel_rfl | exact And.intro rfl rfl | ((try dsimp only [inR, idx, lowOf]); first | omega | (with_reducible decide) | (simp; omega) | fail) | fail) ?_; conv => whnf) | fail)
        refine ⟨Nat × Bool, fun s => ⟨[(5, vB true), (6, .ptr 1006 0 2 0), (7, vI (lowN (fitL c l) (k + 1))), (8, vI k), (11, vI j), (12, vI p), (13, vB q), (14, vB s.2), (15, vI s.1)], [(1006, layC (fitN c) (fitL c l))]⟩, fun s => s.1 ≤ (fitL c l).length ∧ s.2 = decide (((k : Int), (j : Int)) ∈ ((fitL c l).take s.1).map wayE), fun s => (fitL c l).length - s.1, fun _ _ => rfl, ⟨(0, false), [], ⟨Nat.zero_le _, by simp⟩, ?_⟩, ?_⟩
        · refine ⟨rfl, ?_, ?_, rfl⟩
          all_goals (repeat' (first | exact trivial | exact rfl | refine And.intro ?_ ?_ | (refine congrArg vI ?_; first | omega | (dsimp only; omega) | fail) | (refine congrArg some ?_) | omega | exact Nat.le_refl _ | exact congrArg (SV.lst _) (List.take_of_length_le (Nat.le_refl _)).symm))
        rintro ⟨(i : Nat), (b : Bool)⟩ ⟨(hi : i ≤ (fitL c l).length), (hb : b = decide (((k : Int), (j : Int)) ∈ ((fitL c l).take i).map wayE))⟩
        by_cases hil : i < (fitL c l).length
        · obtain ⟨e, he⟩ : ∃ e, (fitL c l)[i]? = some e := ⟨_, List.getElem?_eq_getElem hil⟩
          by_cases h1 : e.1 = k
          · by_cases h2 : e.2.1 = j
            · have hw : wayE e = ((k : Int), (j : Int)) := Prod.ext h1 h2
              have hp : p = i := by have := betF_at hR he hw; rw [hB] at this; exact congrArg Prod.fst this
              conv => whnf
              repeat' (first | (refine tell (fun htest => ?_) (fun htest => ?_) <;> (try dsimp only at htest) <;> first | (exfalso; omega) | (exact absurd rfl htest) | (exact absurd (by decide) htest) | (conv => whnf)) | (refine allG (x := e) (by first | exact he | simpa [List.getElem?_append_right, lowOf] using he | fail) ?_; conv => whnf) | (refine allLst (x := e) (by first | omega | assumption | fail) (by first | exact he | simpa using he | fail) ?_; conv => whnf) | (refine allG rfl ?_; conv => whnf) | (refine And.intro (by first | omega | assumption | kernel_rfl | exact And.intro rfl rfl | ((try dsimp only [inR, idx, lowOf]); first | omega | (with_reducible decide) | (simp; omega) | fail) | fail) ?_; conv => whnf) | fail)
              refine ⟨(i + 1, true), [], ⟨hil, (decide_eq_true ((way_snoc he _).2 (.inr hw.symm))).symm⟩, ?_, rfl, ?_, ?_, rfl⟩
              · dsimp only; first | omega | (simp; done) | (simp; omega)
              all_goals (repeat' (first | exact trivial | exact rfl | refine And.intro ?_ ?_ | (refine congrArg vI ?_; first | omega | (dsimp only; omega) | fail) | (refine congrArg some ?_) | omega | exact Nat.le_refl _ | exact congrArg (SV.lst _) (List.take_of_length_le (Nat.le_refl _)).symm))
            · conv => whnf
              repeat' (first | (refine tell (fun htest => ?_) (fun htest => ?_) <;> (try dsimp only at htest) <;> first | (exfalso; omega) | (exact absurd rfl htest) | (exact absurd (by decide) htest) | (conv => whnf)) | (refine allG (x := e) (by first | exact he | simpa [List.getElem?_append_right, lowOf] using he | fail) ?_; conv => whnf) | (refine allLst (x := e) (by first | omega | assumption | fail) (by first | exact he | simpa using he | fail) ?_; conv => whnf) | (refine allG rfl ?_; conv => whnf) | (refine And.intro (by first | omega | assumption | kernel_rfl | exact And.intro rfl rfl | ((try dsimp only [inR, idx, lowOf]); first | omega | (with_reducible decide) | (simp; omega) | fail) | fail) ?_; conv => whnf) | fail)
              refine ⟨(i + 1, b), [], ⟨hil, by rw [hb]; exact decide_eq_decide.2 ((way_snoc he _).trans ⟨fun h => h.resolve_right fun h => h2 (way_of h).2, .inl⟩).symm⟩, ?_, rfl, ?_, ?_, rfl⟩
              · dsimp only; first | omega | (simp; done) | (simp; omega)
              all_goals (repeat' (first | exact trivial | exact rfl | refine And.intro ?_ ?_ | (refine congrArg vI ?_; first | omega | (dsimp only; omega) | fail) | (refine congrArg some ?_) | omega | exact Nat.le_refl _ | exact congrArg (SV.lst _) (List.take_of_length_le (Nat.le_refl _)).symm))
          · conv => whnf
            repeat' (first | (refine tell (fun htest => ?_) (fun htest => ?_) <;> (try dsimp only at htest) <;> first | (exfalso; omega) | (exact absurd rfl htest) | (exact absurd (by decide) htest) | (conv => whnf)) | (refine allG (x := e) (by first | exact he | simpa [List.getElem?_append_right, lowOf] using he | fail) ?_; conv => whnf) | (refine allLst (x := e) (by first | omega | assumption | fail) (by first | exact he | simpa using he | fail) ?_; conv => whnf) | (refine allG rfl ?_; conv => whnf) | (refine And.intro (by first | omega | assumption | kernel_rfl | exact And.intro rfl rfl | ((try dsimp only [inR, idx, lowOf]); first | omega | (with_reducible decide) | (simp; omega) | fail) | fail) ?_; conv => whnf) | fail)
            refine ⟨(i + 1, b), [], ⟨hil, by rw [hb]; exact decide_eq_decide.2 ((way_snoc he _).trans ⟨fun h => h.resolve_right fun h => h1 (way_of h).1, .inl⟩).symm⟩, ?_, rfl, ?_, ?_, rfl⟩
            · dsimp only; first | omega | (simp; done) | (simp; omega)
            all_goals (repeat' (first | exact trivial | exact rfl | refine And.intro ?_ ?_ | (refine congrArg vI ?_; first | omega | (dsimp only; omega) | fail) | (refine congrArg some ?_) | omega | exact Nat.le_refl _ | exact congrArg (SV.lst _) (List.take_of_length_le (Nat.le_refl _)).symm))
        · rw [List.take_of_length_le (by omega), ← hq] at hb
          subst hb
          conv => whnf
          repeat' (first | (refine tell (fun htest => ?_) (fun htest => ?_) <;> (try dsimp only at htest) <;> first | (exfalso; omega) | (exact absurd rfl htest) | (exact absurd (by decide) htest) | (conv => whnf)) | (refine allG rfl ?_; conv => whnf) | (refine And.intro (by first | omega | assumption | kernel_rfl | exact And.intro rfl rfl | ((try dsimp only [inR, idx, lowOf]); first | omega | (with_reducible decide) | (simp; omega) | fail) | fail) ?_; conv => whnf) | fail)
          refine ⟨j + 1, [], hjl, ?_, rfl, ?_, ?_, rfl⟩
          · dsimp only; first | omega | (simp; done) | (simp; omega)
          all_goals (repeat' (first | exact trivial | exact rfl | refine And.intro ?_ ?_ | (refine congrArg vI ?_; first | omega | (dsimp only; omega) | fail) | (refine congrArg some ?_) | omega | exact Nat.le_refl _ | exact congrArg (SV.lst _) (List.take_of_length_le (Nat.le_refl _)).symm))
      · conv => whnf
        repeat' (first | (refine tell (fun htest => ?_) (fun htest => ?_) <;> (try dsimp only at htest) <;> first | (exfalso; omega) | (exact absurd rfl htest) | (exact absurd (by decide) htest) | (conv => whnf)) | (refine allG rfl ?_; conv => whnf) | (refine And.intro (by first | omega | assumption | kernel_rfl | exact And.intro rfl rfl | ((try dsimp only [inR, idx, lowOf]); first | omega | (with_reducible decide) | (simp; omega) | fail) | fail) ?_; conv => whnf) | fail)
        refine ⟨k + 1, [], hlt, ?_, rfl, ?_, ?_, rfl⟩
        · dsimp only; first | omega | (simp; done) | (simp; omega)
        all_goals (repeat' (first | exact trivial | exact rfl | refine And.intro ?_ ?_ | (refine congrArg vI ?_; first | omega | (dsimp only; omega) | fail) | (refine congrArg some ?_) | omega | exact Nat.le_refl _ | exact congrArg (SV.lst _) (List.take_of_length_le (Nat.le_refl _)).symm))
  · have hall : lowN (fitL c l) k = (fitL c l).length := by
      rw [← lowN_all hR.pos hR.each]
      congr 1; omega
    conv => whnf
    repeat' (first | (refine tell (fun htest => ?_) (fun htest => ?_) <;> (try dsimp only at htest) <;> first | (exfalso; omega) | (exact absurd rfl htest) | (exact absurd (by decide) htest) | (conv => whnf)) | (refine allG rfl ?_; conv => whnf) | (refine And.intro (by first | omega | assumption | kernel_rfl | exact And.intro rfl rfl | ((try dsimp only [inR, idx, lowOf]); first | omega | (with_reducible decide) | (simp; omega) | fail) | fail) ?_; conv => whnf) | fail)
    exact ⟨(), [], trivial, rfl, trivial, trivial⟩
end Go.Sx

