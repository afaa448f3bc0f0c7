/-
  Layer 12, part H: RouteMore.
-/
import Derived.Test.YtmogappoadglgaaRouF
import Derived.Test.YtmogappoadglgaaLayP
namespace Go.Sx
open Go Go.Proofs Go.Proofs.Ytmogappoadglgaa
theorem fitGo_cost (n : Int) : ∀ (l : List (Int × Int × Int)) (es : List Edge), (∀ e ∈ es, 1 ≤ e.2.2 ∧ e.2.2 ≤ 9) → ∀ e ∈ fitGo n l es, 1 ≤ e.2.2 ∧ e.2.2 ≤ 9
  | [], es, h => h
  | r :: t, es, h => by
    unfold fitGo
    split
    · refine fitGo_cost n t _ ?_
      split
      · intro e he
        rcases List.mem_append.1 he with he | he
        · exact h e he
        · simp at he; subst he
          have := pickF_bd (c := r.2.2) (n := 9) (by omega)
          show 1 ≤ 1 + pickF r.2.2 9 ∧ 1 + pickF r.2.2 9 ≤ 9
          omega
      · exact h
    · exact h
theorem fit_cost (c : Int) (l : List (Int × Int × Int)) : ∀ e ∈ fitL c l, 1 ≤ e.2.2 ∧ e.2.2 ≤ 9 := fitGo_cost _ l [] (fun e he => by simp at he)
section
variable {n : Int} {es es' : List Edge} {bl : List Int} {t v : Int}
/-- More that is blocked. -/
theorem wayC_more {p : Int} {c : Int} (h : WayC es (bl ++ [p]) t v c) : WayC es bl t v c := by
  induction h with
  | refl => exact .refl
  | step he hb _ ih => exact .step he (fun h => hb (by simp [h])) ih
/-- The same edges, some of them dearer. -/
structure Dearer (es es' : List Edge) : Prop where
  to : ∀ e ∈ es, ∃ x ∈ es', x.1 = e.1 ∧ x.2.1 = e.2.1
  back : ∀ x ∈ es', ∃ e ∈ es, e.1 = x.1 ∧ e.2.1 = x.2.1 ∧ e.2.2 ≤ x.2.2
theorem wayC_to (hd : Dearer es es') {c : Int} (h : WayC es bl t v c) : ∃ c', WayC es' bl t v c' := by
  induction h with
  | refl => exact ⟨0, .refl⟩
  | @step e c he hb _ ih =>
    obtain ⟨c', hc⟩ := ih
    obtain ⟨x, hx, h1, h2⟩ := hd.to e he
    rw [← h1]
    rw [← h2] at hc
    exact ⟨_, .step hx (by rw [h2]; exact hb) hc⟩
theorem wayC_back (hd : Dearer es es') {c : Int} (h : WayC es' bl t v c) : ∃ c', c' ≤ c ∧ WayC es bl t v c' := by
  induction h with
  | refl => exact ⟨0, Int.le_refl 0, .refl⟩
  | @step x c hx hb _ ih =>
    obtain ⟨c', hle, hc⟩ := ih
    obtain ⟨e, he, h1, h2, h3⟩ := hd.back x hx
    rw [← h1]
    rw [← h2] at hc
    exact ⟨_, by omega, .step he (by rw [h2]; exact hb) hc⟩
theorem far_more (hR : RightL n es) {p : Int} (h : 0 ≤ farV es (bl ++ [p]) t v) : 0 ≤ farV es bl t v ∧ farV es bl t v ≤ farV es (bl ++ [p]) t v := by
  have hw := wayC_more (farV_some hR h).1
  obtain ⟨h1, h2⟩ := farV_min hR hw
  exact ⟨wayC_nonneg hR h1, h2 _ hw⟩
theorem far_dear (hR : RightL n es) (hR' : RightL n es') (hd : Dearer es es') : (0 ≤ farV es' bl t v → farV es bl t v ≤ farV es' bl t v) ∧ (farV es' bl t v < 0 ↔ farV es bl t v < 0) := by
  refine ⟨fun h => ?_, fun h => ?_, fun h => ?_⟩
  · obtain ⟨c', hle, hc⟩ := wayC_back hd (farV_some hR' h).1
    have := (farV_min hR hc).2 _ hc
    omega
  · rcases farV_ge (bl := bl) (t := t) hR v with h1 | h1
    · omega
    · obtain ⟨c', hc⟩ := wayC_to hd (farV_some hR h1).1
      have := wayC_nonneg hR' (farV_min hR' hc).1
      omega
  · rcases farV_ge (bl := bl) (t := t) hR' v with h1 | h1
    · omega
    · obtain ⟨c', _, hc⟩ := wayC_back hd (farV_some hR' h1).1
      have := wayC_nonneg hR (farV_min hR hc).1
      omega
theorem set_ways {k : Nat} {e : Edge} {c : Int} (he : es[k]? = some e) : (es.set k (e.1, e.2.1, c)).map wayE = es.map wayE := by
  apply List.ext_getElem?
  intro i
  rw [List.getElem?_map, List.getElem?_map]
  by_cases h : i = k
  · subst h
    rw [List.getElem?_set_self (List.getElem?_eq_some_iff.1 he).1, he]; rfl
  · rw [List.getElem?_set_ne (Ne.symm h)]
theorem dear_right (hR : RightL n es) {k : Nat} {e : Edge} {c : Int} (he : es[k]? = some e) (hc : e.2.2 ≤ c) (hc2 : c ≤ 1000) : RightL n (es.set k (e.1, e.2.1, c)) ∧ Dearer es (es.set k (e.1, e.2.1, c)) := by
  have hlt := (List.getElem?_eq_some_iff.1 he).1
  have hmem : ∀ x ∈ es.set k (e.1, e.2.1, c), x ∈ es ∨ x = (e.1, e.2.1, c) := fun x hx => List.mem_or_eq_of_mem_set hx
  have hee := List.mem_of_getElem? he
  have hself : (e.1, e.2.1, c) ∈ es.set k (e.1, e.2.1, c) := List.mem_of_getElem? (i := k) (by rw [List.getElem?_set_self hlt])
  refine ⟨⟨hR.pos, hR.most, by rw [List.length_set]; exact hR.len, fun x hx => ?_, by rw [set_ways he]; exact hR.apart⟩, ⟨fun x hx => ?_, fun x hx => ?_⟩⟩
  · rcases hmem x hx with h | rfl
    · exact hR.each x h
    · obtain ⟨o1, o2, o3, o4, o5, o6, o7⟩ := hR.each e hee
      exact ⟨o1, o2, o3, o4, o5, by show 1 ≤ c; omega, hc2⟩
  · obtain ⟨j, hj⟩ := List.getElem?_of_mem hx
    by_cases h : j = k
    · subst h
      rw [he] at hj; cases hj
      exact ⟨_, hself, rfl, rfl⟩
    · exact ⟨x, List.mem_of_getElem? (i := j) (by rw [List.getElem?_set_ne (Ne.symm h)]; exact hj), rfl, rfl⟩
  · rcases hmem x hx with h | rfl
    · exact ⟨x, h, rfl, rfl, Int.le_refl _⟩
    · exact ⟨e, hee, rfl, rfl, hc⟩
theorem dear_refl : Dearer es es := ⟨fun e he => ⟨e, he, rfl, rfl⟩, fun e he => ⟨e, he, rfl, rfl, Int.le_refl _⟩⟩
end
set_option maxHeartbeats 3200000 in
theorem m_moreR : Meets Try.prog regF 16 (spLaw (fun g : Int × List (Int × Int × Int) × List Int × Int × Int × Int => [vI g.1, .lst 66 g.2.1, .lst 3 g.2.2.1, vI g.2.2.2.1, vI g.2.2.2.2.1, vI g.2.2.2.2.2]) (fun g => InI g.1 ∧ Triples g.2.1 ∧ g.2.2.1.length ≤ 17592186043904 ∧ InI g.2.2.2.1 ∧ InI g.2.2.2.2.1 ∧ InI g.2.2.2.2.2)) := by
  refine meets Try.func16 162 noWr rfl (by kernel_rfl) (by kernel_rfl) ?_
  rintro ⟨(c : Int), (l : List (Int × Int × Int)), (bl : List Int), (tt : Int), (more : Int), (edge : Int)⟩ ⟨(hc : InI c), (hl : Triples l), (hbl : bl.length ≤ 17592186043904), (htt : InI tt), (hmo : InI more), (hed : InI edge)⟩
  obtain ⟨hR, h24⟩ := fit_right c l
  have hcost := fit_cost c l
  obtain ⟨hb0, hbn⟩ := pickF_bd (c := tt) hR.pos
  have hNp := hR.pos
  have hNm := hR.most
  have hp5 := pickF_bd (c := more) (n := 5) (by omega)
  have hFl := farF_len (n := (fitN c)) (es := (fitL c l)) (bl := bl) (t := (pickF tt (fitN c)))
  have hBQ : (List.take (bl.length + 1) (List.drop 0 (List.take bl.length (List.drop 0 bl) ++ List.take 1 (List.drop 0 [(pickF more (fitN c))])))) = bl ++ [(pickF more (fitN c))] := by simp; exact List.take_of_length_le (by simp)
  have hGl := farF_len (n := (fitN c)) (es := (fitL c l)) (bl := (List.take (bl.length + 1) (List.drop 0 (List.take bl.length (List.drop 0 bl) ++ List.take 1 (List.drop 0 [(pickF more (fitN c))]))))) (t := (pickF tt (fitN c)))
  have hbl2 : bl.length ≤ 9223372036854775807 := by omega
  have hbl3 : (List.take (bl.length + 1) (List.drop 0 (List.take bl.length (List.drop 0 bl) ++ List.take 1 (List.drop 0 [(pickF more (fitN c))])))).length ≤ 9223372036854775807 := by rw [hBQ]; simp; omega
  conv => whnf
  repeat' (first | (refine tell (fun htest => ?_) (fun htest => ?_) <;> (try dsimp only at htest) <;> first | (exfalso; omega) | (exact absurd rfl htest) | (exact absurd (by decide) htest) | (conv => whnf)) | (refine allG rfl ?_; conv => whnf) | (refine And.intro (by first | omega | assumption | kernel_rfl | exact And.intro rfl rfl | ((try dsimp only [inR, idx, lowOf]); first | omega | (with_reducible decide) | (simp; omega) | fail) | fail) ?_; conv => whnf) | fail)
  refine ⟨_, m_awakeR, (), [], false, ?_⟩
  conv => whnf
  refine And.intro (vc0 trivial (by (repeat' (first | exact trivial | exact rfl | refine And.intro ?_ ?_ | (refine congrArg vI ?_; first | omega | (dsimp only; omega) | fail) | (refine congrArg some ?_) | omega | exact Nat.le_refl _ | exact congrArg (SV.lst _) (List.take_of_length_le (Nat.le_refl _)).symm))) (by repeat' (first | exact trivial | exact rfl | refine And.intro ?_ ?_ | (refine congrArg vI ?_; first | omega | (dsimp only; omega) | fail) | (refine congrArg some ?_) | omega | exact Nat.le_refl _ | exact congrArg (SV.lst _) (List.take_of_length_le (Nat.le_refl _)).symm)) trivial trivial) ?_
  refine And.intro ⟨(), trivial⟩ (fun (_ : Unit) _ => ?_)
  conv => whnf
  conv => whnf
  repeat' (first | (refine tell (fun htest => ?_) (fun htest => ?_) <;> (try dsimp only at htest) <;> first | (exfalso; omega) | (exact absurd rfl htest) | (exact absurd (by decide) htest) | (conv => whnf)) | (refine allG rfl ?_; conv => whnf) | (refine And.intro (by first | omega | assumption | kernel_rfl | exact And.intro rfl rfl | ((try dsimp only [inR, idx, lowOf]); first | omega | (with_reducible decide) | (simp; omega) | fail) | fail) ?_; conv => whnf) | fail)
  refine ⟨_, m_fit, (c, l), [], false, ?_⟩
  conv => whnf
  refine And.intro (vc0 ⟨hc, hl⟩ (by (repeat' (first | exact trivial | exact rfl | refine And.intro ?_ ?_ | (refine congrArg vI ?_; first | omega | (dsimp only; omega) | fail) | (refine congrArg some ?_) | omega | exact Nat.le_refl _ | exact congrArg (SV.lst _) (List.take_of_length_le (Nat.le_refl _)).symm))) (by repeat' (first | exact trivial | exact rfl | refine And.intro ?_ ?_ | (refine congrArg vI ?_; first | omega | (dsimp only; omega) | fail) | (refine congrArg some ?_) | omega | exact Nat.le_refl _ | exact congrArg (SV.lst _) (List.take_of_length_le (Nat.le_refl _)).symm)) trivial trivial) ?_
  refine And.intro ⟨(), trivial⟩ (fun (_ : Unit) _ => ?_)
  conv => whnf
  conv => whnf
  repeat' (first | (refine tell (fun htest => ?_) (fun htest => ?_) <;> (try dsimp only at htest) <;> first | (exfalso; omega) | (exact absurd rfl htest) | (exact absurd (by decide) htest) | (conv => whnf)) | (refine allG rfl ?_; conv => whnf) | (refine And.intro (by first | omega | assumption | kernel_rfl | exact And.intro rfl rfl | ((try dsimp only [inR, idx, lowOf]); first | omega | (with_reducible decide) | (simp; omega) | fail) | fail) ?_; conv => whnf) | fail)
  refine ⟨_, m_pick12, (tt, (fitN c)), [], false, ?_⟩
  conv => whnf
  refine And.intro (vc0 ⟨htt, hR.pos⟩ (by (repeat' (first | exact trivial | exact rfl | refine And.intro ?_ ?_ | (refine congrArg vI ?_; first | omega | (dsimp only; omega) | fail) | (refine congrArg some ?_) | omega | exact Nat.le_refl _ | exact congrArg (SV.lst _) (List.take_of_length_le (Nat.le_refl _)).symm))) (by repeat' (first | exact trivial | exact rfl | refine And.intro ?_ ?_ | (refine congrArg vI ?_; first | omega | (dsimp only; omega) | fail) | (refine congrArg some ?_) | omega | exact Nat.le_refl _ | exact congrArg (SV.lst _) (List.take_of_length_le (Nat.le_refl _)).symm)) trivial trivial) ?_
  refine And.intro ⟨(), trivial⟩ (fun (_ : Unit) _ => ?_)
  conv => whnf
  conv => whnf
  repeat' (first | (refine tell (fun htest => ?_) (fun htest => ?_) <;> (try dsimp only at htest) <;> first | (exfalso; omega) | (exact absurd rfl htest) | (exact absurd (by decide) htest) | (conv => whnf)) | (refine allG rfl ?_; conv => whnf) | (refine And.intro (by first | omega | assumption | kernel_rfl | exact And.intro rfl rfl | ((try dsimp only [inR, idx, lowOf]); first | omega | (with_reducible decide) | (simp; omega) | fail) | fail) ?_; conv => whnf) | fail)
  refine ⟨_, m_far, (((fitN c), (fitL c l)), bl, (pickF tt (fitN c))), [], false, ?_⟩
  conv => whnf
  refine And.intro (vc0 ⟨hR, hb0, hbn, hR.good, hbl2⟩ (by (repeat' (first | exact trivial | exact rfl | refine And.intro ?_ ?_ | (refine congrArg vI ?_; first | omega | (dsimp only; omega) | fail) | (refine congrArg some ?_) | omega | exact Nat.le_refl _ | exact congrArg (SV.lst _) (List.take_of_length_le (Nat.le_refl _)).symm))) (by repeat' (first | exact trivial | exact rfl | refine And.intro ?_ ?_ | (refine congrArg vI ?_; first | omega | (dsimp only; omega) | fail) | (refine congrArg some ?_) | omega | exact Nat.le_refl _ | exact congrArg (SV.lst _) (List.take_of_length_le (Nat.le_refl _)).symm)) trivial trivial) ?_
  refine And.intro ⟨(), trivial⟩ (fun (_ : Unit) _ => ?_)
  conv => whnf
  conv => whnf
  repeat' (first | (refine tell (fun htest => ?_) (fun htest => ?_) <;> (try dsimp only at htest) <;> first | (exfalso; omega) | (exact absurd rfl htest) | (exact absurd (by decide) htest) | (conv => whnf)) | (refine allG rfl ?_; conv => whnf) | (refine And.intro (by first | omega | assumption | kernel_rfl | exact And.intro rfl rfl | ((try dsimp only [inR, idx, lowOf]); first | omega | (with_reducible decide) | (simp; omega) | fail) | fail) ?_; conv => whnf) | fail)
  refine ⟨_, m_pick12, (more, (fitN c)), [], false, ?_⟩
  conv => whnf
  refine And.intro (vc0 ⟨hmo, hR.pos⟩ (by (repeat' (first | exact trivial | exact rfl | refine And.intro ?_ ?_ | (refine congrArg vI ?_; first | omega | (dsimp only; omega) | fail) | (refine congrArg some ?_) | omega | exact Nat.le_refl _ | exact congrArg (SV.lst _) (List.take_of_length_le (Nat.le_refl _)).symm))) (by repeat' (first | exact trivial | exact rfl | refine And.intro ?_ ?_ | (refine congrArg vI ?_; first | omega | (dsimp only; omega) | fail) | (refine congrArg some ?_) | omega | exact Nat.le_refl _ | exact congrArg (SV.lst _) (List.take_of_length_le (Nat.le_refl _)).symm)) trivial trivial) ?_
  refine And.intro ⟨(), trivial⟩ (fun (_ : Unit) _ => ?_)
  conv => whnf
  conv => whnf
  repeat' (first | (refine tell (fun htest => ?_) (fun htest => ?_) <;> (try dsimp only at htest) <;> first | (exfalso; omega) | (exact absurd rfl htest) | (exact absurd (by decide) htest) | (conv => whnf)) | (refine allG rfl ?_; conv => whnf) | (refine And.intro (by first | omega | assumption | kernel_rfl | exact And.intro rfl rfl | ((try dsimp only [inR, idx, lowOf]); first | omega | (with_reducible decide) | (simp; omega) | fail) | fail) ?_; conv => whnf) | fail)
  refine ⟨_, m_far, (((fitN c), (fitL c l)), (List.take (bl.length + 1) (List.drop 0 (List.take bl.length (List.drop 0 bl) ++ List.take 1 (List.drop 0 [(pickF more (fitN c))])))), (pickF tt (fitN c))), [], false, ?_⟩
  conv => whnf
  refine And.intro (vc0 ⟨hR, hb0, hbn, hR.good, hbl3⟩ (by (repeat' (first | exact trivial | exact rfl | refine And.intro ?_ ?_ | (refine congrArg vI ?_; first | omega | (dsimp only; omega) | fail) | (refine congrArg some ?_) | omega | exact Nat.le_refl _ | exact congrArg (SV.lst _) (List.take_of_length_le (Nat.le_refl _)).symm)); all_goals ((show 0 + (bl.length + 1) ≤ (List.take bl.length (List.drop 0 bl) ++ List.take 1 (List.drop 0 [(pickF more (fitN c))])).length; simp))) (by repeat' (first | exact trivial | exact rfl | refine And.intro ?_ ?_ | (refine congrArg vI ?_; first | omega | (dsimp only; omega) | fail) | (refine congrArg some ?_) | omega | exact Nat.le_refl _ | exact congrArg (SV.lst _) (List.take_of_length_le (Nat.le_refl _)).symm)) trivial trivial) ?_
  refine And.intro ⟨(), trivial⟩ (fun (_ : Unit) _ => ?_)
  conv => whnf
  by_cases hz : 0 < (fitL c l).length
  · have hk := pickF_bd (c := edge) (n := (fitL c l).length) (by omega)
    obtain ⟨x, hx⟩ : ∃ x, (fitL c l)[(pickF edge (fitL c l).length).toNat]? = some x := ⟨_, List.getElem?_eq_getElem (by omega)⟩
    have hxc := hcost x (List.mem_of_getElem? hx)
    have hRD : RightL (fitN c) (List.take (fitL c l).length (List.drop 0 ((fitL c l).set (0 + (pickF edge (fitL c l).length).toNat) (x.1, x.2.1, x.2.2 + 1 + pickF more 5)))) ∧ Dearer (fitL c l) (List.take (fitL c l).length (List.drop 0 ((fitL c l).set (0 + (pickF edge (fitL c l).length).toNat) (x.1, x.2.1, x.2.2 + 1 + pickF more 5)))) := by
      rw [List.drop_zero, Nat.zero_add, List.take_of_length_le (by simp)]
      exact dear_right (c := x.2.2 + 1 + pickF more 5) hR hx (by omega) (by omega)
    obtain ⟨hR2, hDe⟩ := hRD
    conv => whnf
    repeat' (first | (refine tell (fun htest => ?_) (fun htest => ?_) <;> (try dsimp only at htest) <;> first | (exfalso; omega) | (exact absurd rfl htest) | (exact absurd (by decide) htest) | (conv => whnf)) | (refine allG rfl ?_; conv => whnf) | (refine And.intro (by first | omega | assumption | kernel_rfl | exact And.intro rfl rfl | ((try dsimp only [inR, idx, lowOf]); first | omega | (with_reducible decide) | (simp; omega) | fail) | fail) ?_; conv => whnf) | fail)
    refine ⟨_, m_pick12, (edge, ((fitL c l).length : Int)), [], false, ?_⟩
    conv => whnf
    refine And.intro (vc0 ⟨hed, by show (0 : Int) < (fitL c l).length; omega⟩ (by (repeat' (first | exact trivial | exact rfl | refine And.intro ?_ ?_ | (refine congrArg vI ?_; first | omega | (dsimp only; omega) | fail) | (refine congrArg some ?_) | omega | exact Nat.le_refl _ | exact congrArg (SV.lst _) (List.take_of_length_le (Nat.le_refl _)).symm))) (by repeat' (first | exact trivial | exact rfl | refine And.intro ?_ ?_ | (refine congrArg vI ?_; first | omega | (dsimp only; omega) | fail) | (refine congrArg some ?_) | omega | exact Nat.le_refl _ | exact congrArg (SV.lst _) (List.take_of_length_le (Nat.le_refl _)).symm)) trivial trivial) ?_
    refine And.intro ⟨(), trivial⟩ (fun (_ : Unit) _ => ?_)
    conv => whnf
    conv => whnf
    repeat' (first | (refine tell (fun htest => ?_) (fun htest => ?_) <;> (try dsimp only at htest) <;> first | (exfalso; omega) | (exact absurd rfl htest) | (exact absurd (by decide) htest) | (conv => whnf)) | (refine allG (x := x) (by first | exact hx | simpa [List.getElem?_append_right, lowOf] using hx | fail) ?_; conv => whnf) | (refine allLst (x := x) (by first | omega | assumption | fail) (by first | exact hx | simpa using hx | fail) ?_; conv => whnf) | (refine allG rfl ?_; conv => whnf) | (refine And.intro (by first | omega | assumption | kernel_rfl | exact And.intro rfl rfl | ((try dsimp only [inR, idx, lowOf]); first | omega | (with_reducible decide) | (simp; omega) | fail) | fail) ?_; conv => whnf) | fail)
    refine ⟨_, m_pick12, (more, 5), [], false, ?_⟩
    conv => whnf
    refine And.intro (vc0 ⟨hmo, by show (0 : Int) < 5; decide⟩ (by (repeat' (first | exact trivial | exact rfl | refine And.intro ?_ ?_ | (refine congrArg vI ?_; first | omega | (dsimp only; omega) | fail) | (refine congrArg some ?_) | omega | exact Nat.le_refl _ | exact congrArg (SV.lst _) (List.take_of_length_le (Nat.le_refl _)).symm))) (by repeat' (first | exact trivial | exact rfl | refine And.intro ?_ ?_ | (refine congrArg vI ?_; first | omega | (dsimp only; omega) | fail) | (refine congrArg some ?_) | omega | exact Nat.le_refl _ | exact congrArg (SV.lst _) (List.take_of_length_le (Nat.le_refl _)).symm)) trivial trivial) ?_
    refine And.intro ⟨(), trivial⟩ (fun (_ : Unit) _ => ?_)
    conv => whnf
    conv => whnf
    repeat' (first | (refine tell (fun htest => ?_) (fun htest => ?_) <;> (try dsimp only at htest) <;> first | (exfalso; omega) | (exact absurd rfl htest) | (exact absurd (by decide) htest) | (conv => whnf)) | (refine allG (x := x) (by first | exact hx | simpa [List.getElem?_append_right, lowOf] using hx | fail) ?_; conv => whnf) | (refine allLst (x := x) (by first | omega | assumption | fail) (by first | exact hx | simpa using hx | fail) ?_; conv => whnf) | (refine allG rfl ?_; conv => whnf) | (refine And.intro (by first | omega | assumption | kernel_rfl | exact And.intro rfl rfl | ((try dsimp only [inR, idx, lowOf]); first | omega | (with_reducible decide) | (simp; omega) | fail) | fail) ?_; conv => whnf) | fail)
    have hHl := farF_len (n := (fitN c)) (es := (List.take (fitL c l).length (List.drop 0 ((fitL c l).set (0 + (pickF edge (fitL c l).length).toNat) (x.1, x.2.1, x.2.2 + 1 + pickF more 5))))) (bl := bl) (t := (pickF tt (fitN c)))
    refine ⟨_, m_far, (((fitN c), (List.take (fitL c l).length (List.drop 0 ((fitL c l).set (0 + (pickF edge (fitL c l).length).toNat) (x.1, x.2.1, x.2.2 + 1 + pickF more 5))))), bl, (pickF tt (fitN c))), [], false, ?_⟩
    conv => whnf
    refine And.intro (vc0 ⟨hR2, hb0, hbn, hR2.good, hbl2⟩ (by (repeat' (first | exact trivial | exact rfl | refine And.intro ?_ ?_ | (refine congrArg vI ?_; first | omega | (dsimp only; omega) | fail) | (refine congrArg some ?_) | omega | exact Nat.le_refl _ | exact congrArg (SV.lst _) (List.take_of_length_le (Nat.le_refl _)).symm)); all_goals ((show 0 + (fitL c l).length ≤ ((fitL c l).set (0 + (pickF edge (fitL c l).length).toNat) (x.1, x.2.1, x.2.2 + 1 + pickF more 5)).length; simp))) (by repeat' (first | exact trivial | exact rfl | refine And.intro ?_ ?_ | (refine congrArg vI ?_; first | omega | (dsimp only; omega) | fail) | (refine congrArg some ?_) | omega | exact Nat.le_refl _ | exact congrArg (SV.lst _) (List.take_of_length_le (Nat.le_refl _)).symm)) trivial trivial) ?_
    refine And.intro ⟨(), trivial⟩ (fun (_ : Unit) _ => ?_)
    conv => whnf
    conv => whnf
    repeat' (first | (refine tell (fun htest => ?_) (fun htest => ?_) <;> (try dsimp only at htest) <;> first | (exfalso; omega) | (exact absurd rfl htest) | (exact absurd (by decide) htest) | (conv => whnf)) | (refine allG rfl ?_; conv => whnf) | (refine And.intro (by first | omega | assumption | kernel_rfl | exact And.intro rfl rfl | ((try dsimp only [inR, idx, lowOf]); first | omega | (with_reducible decide) | (simp; omega) | fail) | fail) ?_; conv => whnf) | fail)
    refine ⟨Nat, fun i => ⟨[(13, vB true), (14, .ptr 1014 0 2 0), (16, .lst 3 (farF (fitN c) (fitL c l) bl (pickF tt (fitN c)))), (17, .lst 3 (farF (fitN c) (fitL c l) (List.take (bl.length + 1) (List.drop 0 (List.take bl.length (List.drop 0 bl) ++ List.take 1 (List.drop 0 [(pickF more (fitN c))])))) (pickF tt (fitN c)))), (20, .lst 3 (farF (fitN c) (List.take (fitL c l).length (List.drop 0 ((fitL c l).set (0 + (pickF edge (fitL c l).length).toNat) (x.1, x.2.1, x.2.2 + 1 + pickF more 5)))) bl (pickF tt (fitN c)))), (21, vI i)], [(1014, layC (fitN c) (fitL c l))]⟩, fun i => (i : Int) ≤ (fitN c), fun i => (fitN c).toNat - i, fun _ _ => rfl, ⟨0, [], (by show ((0 : Nat) : Int) ≤ (fitN c); omega), ?_⟩, ?_⟩
    · refine ⟨rfl, ?_, ?_, rfl⟩
      all_goals (repeat' (first | exact trivial | exact rfl | refine And.intro ?_ ?_ | (refine congrArg vI ?_; first | omega | (dsimp only; omega) | fail) | (refine congrArg some ?_) | omega | exact Nat.le_refl _ | exact congrArg (SV.lst _) (List.take_of_length_le (Nat.le_refl _)).symm))
    rintro (i : Nat) (hi : (i : Int) ≤ (fitN c))
    by_cases hlt : (i : Int) < (fitN c)
    · have hf := farF_get (es := (fitL c l)) (bl := bl) (t := (pickF tt (fitN c))) hlt
      have hg := farF_get (es := (fitL c l)) (bl := (List.take (bl.length + 1) (List.drop 0 (List.take bl.length (List.drop 0 bl) ++ List.take 1 (List.drop 0 [(pickF more (fitN c))]))))) (t := (pickF tt (fitN c))) hlt
      have hh := farF_get (es := (List.take (fitL c l).length (List.drop 0 ((fitL c l).set (0 + (pickF edge (fitL c l).length).toNat) (x.1, x.2.1, x.2.2 + 1 + pickF more 5))))) (bl := bl) (t := (pickF tt (fitN c))) hlt
      have q1 : 0 ≤ farV (fitL c l) (List.take (bl.length + 1) (List.drop 0 (List.take bl.length (List.drop 0 bl) ++ List.take 1 (List.drop 0 [(pickF more (fitN c))])))) (pickF tt (fitN c)) i → 0 ≤ farV (fitL c l) bl (pickF tt (fitN c)) i ∧ farV (fitL c l) bl (pickF tt (fitN c)) i ≤ farV (fitL c l) (List.take (bl.length + 1) (List.drop 0 (List.take bl.length (List.drop 0 bl) ++ List.take 1 (List.drop 0 [(pickF more (fitN c))])))) (pickF tt (fitN c)) i := fun h => by
        rw [hBQ] at h ⊢; exact far_more hR h
      obtain ⟨q2, q3⟩ := far_dear (bl := bl) (t := (pickF tt (fitN c))) (v := i) hR hR2 hDe
      by_cases hg0 : 0 ≤ farV (fitL c l) (List.take (bl.length + 1) (List.drop 0 (List.take bl.length (List.drop 0 bl) ++ List.take 1 (List.drop 0 [(pickF more (fitN c))])))) (pickF tt (fitN c)) i
      · obtain ⟨r1, r2⟩ := q1 hg0
        by_cases hh0 : 0 ≤ farV (List.take (fitL c l).length (List.drop 0 ((fitL c l).set (0 + (pickF edge (fitL c l).length).toNat) (x.1, x.2.1, x.2.2 + 1 + pickF more 5)))) bl (pickF tt (fitN c)) i
        · have r3 := q2 hh0
          conv => whnf
          repeat' (first | (refine tell (fun htest => ?_) (fun htest => ?_) <;> (try dsimp only at htest) <;> first | (exfalso; omega) | (exact absurd rfl htest) | (exact absurd (by decide) htest) | (conv => whnf)) | (refine allG (x := _) (by first | exact hf | simpa [List.getElem?_append_right, lowOf] using hf | fail) ?_; conv => whnf) | (refine allLst (x := _) (by first | omega | assumption | fail) (by first | exact hf | simpa using hf | fail) ?_; conv => whnf) | (refine allG (x := _) (by first | exact hg | simpa [List.getElem?_append_right, lowOf] using hg | fail) ?_; conv => whnf) | (refine allLst (x := _) (by first | omega | assumption | fail) (by first | exact hg | simpa using hg | fail) ?_; conv => whnf) | (refine allG (x := _) (by first | exact hh | simpa [List.getElem?_append_right, lowOf] using hh | fail) ?_; conv => whnf) | (refine allLst (x := _) (by first | omega | assumption | fail) (by first | exact hh | simpa using hh | fail) ?_; conv => whnf) | (refine allG rfl ?_; conv => whnf) | (refine And.intro (by first | omega | assumption | kernel_rfl | exact And.intro rfl rfl | ((try dsimp only [inR, idx, lowOf]); first | omega | (with_reducible decide) | (simp; omega) | fail) | fail) ?_; conv => whnf) | fail)
          refine ⟨i + 1, [], (by show ((i + 1 : Nat) : Int) ≤ (fitN c); omega), ?_, rfl, ?_, ?_, rfl⟩
          · dsimp only; first | omega | (simp; done) | (simp; omega)
          all_goals (repeat' (first | exact trivial | exact rfl | refine And.intro ?_ ?_ | (refine congrArg vI ?_; first | omega | (dsimp only; omega) | fail) | (refine congrArg some ?_) | omega | exact Nat.le_refl _ | exact congrArg (SV.lst _) (List.take_of_length_le (Nat.le_refl _)).symm))
        · have r4 : farV (fitL c l) bl (pickF tt (fitN c)) i < 0 := q3.1 (by omega)
          omega
      · by_cases hh0 : 0 ≤ farV (List.take (fitL c l).length (List.drop 0 ((fitL c l).set (0 + (pickF edge (fitL c l).length).toNat) (x.1, x.2.1, x.2.2 + 1 + pickF more 5)))) bl (pickF tt (fitN c)) i
        · have r3 := q2 hh0
          have r4 : ¬ farV (fitL c l) bl (pickF tt (fitN c)) i < 0 := fun h => by have := q3.2 h; omega
          conv => whnf
          repeat' (first | (refine tell (fun htest => ?_) (fun htest => ?_) <;> (try dsimp only at htest) <;> first | (exfalso; omega) | (exact absurd rfl htest) | (exact absurd (by decide) htest) | (conv => whnf)) | (refine allG (x := _) (by first | exact hf | simpa [List.getElem?_append_right, lowOf] using hf | fail) ?_; conv => whnf) | (refine allLst (x := _) (by first | omega | assumption | fail) (by first | exact hf | simpa using hf | fail) ?_; conv => whnf) | (refine allG (x := _) (by first | exact hg | simpa [List.getElem?_append_right, lowOf] using hg | fail) ?_; conv => whnf) | (refine allLst (x := _) (by first | omega | assumption | fail) (by first | exact hg | simpa using hg | fail) ?_; conv => whnf) | (refine allG (x := _) (by first | exact hh | simpa [List.getElem?_append_right, lowOf] using hh | fail) ?_; conv => whnf) | (refine allLst (x := _) (by first | omega | assumption | fail) (by first | exact hh | simpa using hh | fail) ?_; conv => whnf) | (refine allG rfl ?_; conv => whnf) | (refine And.intro (by first | omega | assumption | kernel_rfl | exact And.intro rfl rfl | ((try dsimp only [inR, idx, lowOf]); first | omega | (with_reducible decide) | (simp; omega) | fail) | fail) ?_; conv => whnf) | fail)
          refine ⟨i + 1, [], (by show ((i + 1 : Nat) : Int) ≤ (fitN c); omega), ?_, rfl, ?_, ?_, rfl⟩
          · dsimp only; first | omega | (simp; done) | (simp; omega)
          all_goals (repeat' (first | exact trivial | exact rfl | refine And.intro ?_ ?_ | (refine congrArg vI ?_; first | omega | (dsimp only; omega) | fail) | (refine congrArg some ?_) | omega | exact Nat.le_refl _ | exact congrArg (SV.lst _) (List.take_of_length_le (Nat.le_refl _)).symm))
        · have r4 : farV (fitL c l) bl (pickF tt (fitN c)) i < 0 := q3.1 (by omega)
          conv => whnf
          repeat' (first | (refine tell (fun htest => ?_) (fun htest => ?_) <;> (try dsimp only at htest) <;> first | (exfalso; omega) | (exact absurd rfl htest) | (exact absurd (by decide) htest) | (conv => whnf)) | (refine allG (x := _) (by first | exact hf | simpa [List.getElem?_append_right, lowOf] using hf | fail) ?_; conv => whnf) | (refine allLst (x := _) (by first | omega | assumption | fail) (by first | exact hf | simpa using hf | fail) ?_; conv => whnf) | (refine allG (x := _) (by first | exact hg | simpa [List.getElem?_append_right, lowOf] using hg | fail) ?_; conv => whnf) | (refine allLst (x := _) (by first | omega | assumption | fail) (by first | exact hg | simpa using hg | fail) ?_; conv => whnf) | (refine allG (x := _) (by first | exact hh | simpa [List.getElem?_append_right, lowOf] using hh | fail) ?_; conv => whnf) | (refine allLst (x := _) (by first | omega | assumption | fail) (by first | exact hh | simpa using hh | fail) ?_; conv => whnf) | (refine allG rfl ?_; conv => whnf) | (refine And.intro (by first | omega | assumption | kernel_rfl | exact And.intro rfl rfl | ((try dsimp only [inR, idx, lowOf]); first | omega | (with_reducible decide) | (simp; omega) | fail) | fail) ?_; conv => whnf) | fail)
          refine ⟨i + 1, [], (by show ((i + 1 : Nat) : Int) ≤ (fitN c); omega), ?_, rfl, ?_, ?_, rfl⟩
          · dsimp only; first | omega | (simp; done) | (simp; omega)
          all_goals (repeat' (first | exact trivial | exact rfl | refine And.intro ?_ ?_ | (refine congrArg vI ?_; first | omega | (dsimp only; omega) | fail) | (refine congrArg some ?_) | omega | exact Nat.le_refl _ | exact congrArg (SV.lst _) (List.take_of_length_le (Nat.le_refl _)).symm))
    · conv => whnf
      repeat' (first | (refine tell (fun htest => ?_) (fun htest => ?_) <;> (try dsimp only at htest) <;> first | (exfalso; omega) | (exact absurd rfl htest) | (exact absurd (by decide) htest) | (conv => whnf)) | (refine allG rfl ?_; conv => whnf) | (refine And.intro (by first | omega | assumption | kernel_rfl | exact And.intro rfl rfl | ((try dsimp only [inR, idx, lowOf]); first | omega | (with_reducible decide) | (simp; omega) | fail) | fail) ?_; conv => whnf) | fail)
      exact ⟨(), [], trivial, rfl, trivial, trivial⟩
  · have hR2 : RightL (fitN c) (List.take (fitL c l).length (List.drop 0 (fitL c l))) := by rw [List.drop_zero, List.take_of_length_le (Nat.le_refl _)]; exact hR
    have hDe : Dearer (fitL c l) (List.take (fitL c l).length (List.drop 0 (fitL c l))) := by rw [List.drop_zero, List.take_of_length_le (Nat.le_refl _)]; exact dear_refl
    conv => whnf
    repeat' (first | (refine tell (fun htest => ?_) (fun htest => ?_) <;> (try dsimp only at htest) <;> first | (exfalso; omega) | (exact absurd rfl htest) | (exact absurd (by decide) htest) | (conv => whnf)) | (refine allG rfl ?_; conv => whnf) | (refine And.intro (by first | omega | assumption | kernel_rfl | exact And.intro rfl rfl | ((try dsimp only [inR, idx, lowOf]); first | omega | (with_reducible decide) | (simp; omega) | fail) | fail) ?_; conv => whnf) | fail)
    have hHl := farF_len (n := (fitN c)) (es := (List.take (fitL c l).length (List.drop 0 (fitL c l)))) (bl := bl) (t := (pickF tt (fitN c)))
    refine ⟨_, m_far, (((fitN c), (List.take (fitL c l).length (List.drop 0 (fitL c l)))), bl, (pickF tt (fitN c))), [], false, ?_⟩
    conv => whnf
    refine And.intro (vc0 ⟨hR2, hb0, hbn, hR2.good, hbl2⟩ (by (repeat' (first | exact trivial | exact rfl | refine And.intro ?_ ?_ | (refine congrArg vI ?_; first | omega | (dsimp only; omega) | fail) | (refine congrArg some ?_) | omega | exact Nat.le_refl _ | exact congrArg (SV.lst _) (List.take_of_length_le (Nat.le_refl _)).symm)); all_goals ((show 0 + (fitL c l).length ≤ (fitL c l).length; omega))) (by repeat' (first | exact trivial | exact rfl | refine And.intro ?_ ?_ | (refine congrArg vI ?_; first | omega | (dsimp only; omega) | fail) | (refine congrArg some ?_) | omega | exact Nat.le_refl _ | exact congrArg (SV.lst _) (List.take_of_length_le (Nat.le_refl _)).symm)) trivial trivial) ?_
    refine And.intro ⟨(), trivial⟩ (fun (_ : Unit) _ => ?_)
    conv => whnf
    conv => whnf
    repeat' (first | (refine tell (fun htest => ?_) (fun htest => ?_) <;> (try dsimp only at htest) <;> first | (exfalso; omega) | (exact absurd rfl htest) | (exact absurd (by decide) htest) | (conv => whnf)) | (refine allG rfl ?_; conv => whnf) | (refine And.intro (by first | omega | assumption | kernel_rfl | exact And.intro rfl rfl | ((try dsimp only [inR, idx, lowOf]); first | omega | (with_reducible decide) | (simp; omega) | fail) | fail) ?_; conv => whnf) | fail)
    refine ⟨Nat, fun i => ⟨[(13, vB true), (14, .ptr 1014 0 2 0), (16, .lst 3 (farF (fitN c) (fitL c l) bl (pickF tt (fitN c)))), (17, .lst 3 (farF (fitN c) (fitL c l) (List.take (bl.length + 1) (List.drop 0 (List.take bl.length (List.drop 0 bl) ++ List.take 1 (List.drop 0 [(pickF more (fitN c))])))) (pickF tt (fitN c)))), (20, .lst 3 (farF (fitN c) (List.take (fitL c l).length (List.drop 0 (fitL c l))) bl (pickF tt (fitN c)))), (21, vI i)], [(1014, layC (fitN c) (fitL c l))]⟩, fun i => (i : Int) ≤ (fitN c), fun i => (fitN c).toNat - i, fun _ _ => rfl, ⟨0, [], (by show ((0 : Nat) : Int) ≤ (fitN c); omega), ?_⟩, ?_⟩
    · refine ⟨rfl, ?_, ?_, rfl⟩
      all_goals (repeat' (first | exact trivial | exact rfl | refine And.intro ?_ ?_ | (refine congrArg vI ?_; first | omega | (dsimp only; omega) | fail) | (refine congrArg some ?_) | omega | exact Nat.le_refl _ | exact congrArg (SV.lst _) (List.take_of_length_le (Nat.le_refl _)).symm))
    rintro (i : Nat) (hi : (i : Int) ≤ (fitN c))
    by_cases hlt : (i : Int) < (fitN c)
    · have hf := farF_get (es := (fitL c l)) (bl := bl) (t := (pickF tt (fitN c))) hlt
      have hg := farF_get (es := (fitL c l)) (bl := (List.take (bl.length + 1) (List.drop 0 (List.take bl.length (List.drop 0 bl) ++ List.take 1 (List.drop 0 [(pickF more (fitN c))]))))) (t := (pickF tt (fitN c))) hlt
      have hh := farF_get (es := (List.take (fitL c l).length (List.drop 0 (fitL c l)))) (bl := bl) (t := (pickF tt (fitN c))) hlt
      have q1 : 0 ≤ farV (fitL c l) (List.take (bl.length + 1) (List.drop 0 (List.take bl.length (List.drop 0 bl) ++ List.take 1 (List.drop 0 [(pickF more (fitN c))])))) (pickF tt (fitN c)) i → 0 ≤ farV (fitL c l) bl (pickF tt (fitN c)) i ∧ farV (fitL c l) bl (pickF tt (fitN c)) i ≤ farV (fitL c l) (List.take (bl.length + 1) (List.drop 0 (List.take bl.length (List.drop 0 bl) ++ List.take 1 (List.drop 0 [(pickF more (fitN c))])))) (pickF tt (fitN c)) i := fun h => by
        rw [hBQ] at h ⊢; exact far_more hR h
      obtain ⟨q2, q3⟩ := far_dear (bl := bl) (t := (pickF tt (fitN c))) (v := i) hR hR2 hDe
      by_cases hg0 : 0 ≤ farV (fitL c l) (List.take (bl.length + 1) (List.drop 0 (List.take bl.length (List.drop 0 bl) ++ List.take 1 (List.drop 0 [(pickF more (fitN c))])))) (pickF tt (fitN c)) i
      · obtain ⟨r1, r2⟩ := q1 hg0
        by_cases hh0 : 0 ≤ farV (List.take (fitL c l).length (List.drop 0 (fitL c l))) bl (pickF tt (fitN c)) i
        · have r3 := q2 hh0
          conv => whnf
          repeat' (first | (refine tell (fun htest => ?_) (fun htest => ?_) <;> (try dsimp only at htest) <;> first | (exfalso; omega) | (exact absurd rfl htest) | (exact absurd (by decide) htest) | (conv => whnf)) | (refine allG (x := _) (by first | exact hf | simpa [List.getElem?_append_right, lowOf] using hf | fail) ?_; conv => whnf) | (refine allLst (x := _) (by first | omega | assumption | fail) (by first | exact hf | simpa using hf | fail) ?_; conv => whnf) | (refine allG (x := _) (by first | exact hg | simpa [List.getElem?_append_right, lowOf] using hg | fail) ?_; conv => whnf) | (refine allLst (x := _) (by first | omega | assumption | fail) (by first | exact hg | simpa using hg | fail) ?_; conv => whnf) | (refine allG (x := _) (by first | exact hh | simpa [List.getElem?_append_right, lowOf] using hh | fail) ?_; conv => whnf) | (refine allLst (x := _) (by first | omega | assumption | fail) (by first | exact hh | simpa using hh | fail) ?_; conv => whnf) | (refine allG rfl ?_; conv => whnf) | (refine And.intro (by first | omega | assumption | kernel_rfl | exact And.intro rfl rfl | ((try dsimp only [inR, idx, lowOf]); first | omega | (with_reducible decide) | (simp; omega) | fail) | fail) ?_; conv => whnf) | fail)
          refine ⟨i + 1, [], (by show ((i + 1 : Nat) : Int) ≤ (fitN c); omega), ?_, rfl, ?_, ?_, rfl⟩
          · dsimp only; first | omega | (simp; done) | (simp; omega)
          all_goals (repeat' (first | exact trivial | exact rfl | refine And.intro ?_ ?_ | (refine congrArg vI ?_; first | omega | (dsimp only; omega) | fail) | (refine congrArg some ?_) | omega | exact Nat.le_refl _ | exact congrArg (SV.lst _) (List.take_of_length_le (Nat.le_refl _)).symm))
        · have r4 : farV (fitL c l) bl (pickF tt (fitN c)) i < 0 := q3.1 (by omega)
          omega
      · by_cases hh0 : 0 ≤ farV (List.take (fitL c l).length (List.drop 0 (fitL c l))) bl (pickF tt (fitN c)) i
        · have r3 := q2 hh0
          have r4 : ¬ farV (fitL c l) bl (pickF tt (fitN c)) i < 0 := fun h => by have := q3.2 h; omega
          conv => whnf
          repeat' (first | (refine tell (fun htest => ?_) (fun htest => ?_) <;> (try dsimp only at htest) <;> first | (exfalso; omega) | (exact absurd rfl htest) | (exact absurd (by decide) htest) | (conv => whnf)) | (refine allG (x := _) (by first | exact hf | simpa [List.getElem?_append_right, lowOf] using hf | fail) ?_; conv => whnf) | (refine allLst (x := _) (by first | omega | assumption | fail) (by first | exact hf | simpa using hf | fail) ?_; conv => whnf) | (refine allG (x := _) (by first | exact hg | simpa [List.getElem?_append_right, lowOf] using hg | fail) ?_; conv => whnf) | (refine allLst (x := _) (by first | omega | assumption | fail) (by first | exact hg | simpa using hg | fail) ?_; conv => whnf) | (refine allG (x := _) (by first | exact hh | simpa [List.getElem?_append_right, lowOf] using hh | fail) ?_; conv => whnf) | (refine allLst (x := _) (by first | omega | assumption | fail) (by first | exact hh | simpa using hh | fail) ?_; conv => whnf) | (refine allG rfl ?_; conv => whnf) | (refine And.intro (by first | omega | assumption | kernel_rfl | exact And.intro rfl rfl | ((try dsimp only [inR, idx, lowOf]); first | omega | (with_reducible decide) | (simp; omega) | fail) | fail) ?_; conv => whnf) | fail)
          refine ⟨i + 1, [], (by show ((i + 1 : Nat) : Int) ≤ (fitN c); omega), ?_, rfl, ?_, ?_, rfl⟩
          · dsimp only; first | omega | (simp; done) | (simp; omega)
          all_goals (repeat' (first | exact trivial | exact rfl | refine And.intro ?_ ?_ | (refine congrArg vI ?_; first | omega | (dsimp only; omega) | fail) | (refine congrArg some ?_) | omega | exact Nat.le_refl _ | exact congrArg (SV.lst _) (List.take_of_length_le (Nat.le_refl _)).symm))
        · have r4 : farV (fitL c l) bl (pickF tt (fitN c)) i < 0 := q3.1 (by omega)
          conv => whnf
          repeat' (first | (refine tell (fun htest => ?_) (fun htest => ?_) <;> (try dsimp only at htest) <;> first | (exfalso; omega) | (exact absurd rfl htest) | (exact absurd (by decide) htest) | (conv => whnf)) | (refine allG (x := _) (by first | exact hf | simpa [List.getElem?_append_right, lowOf] using hf | fail) ?_; conv => whnf) | (refine allLst (x := _) (by first | omega | assumption | fail) (by first | exact hf | simpa using hf | fail) ?_; conv => whnf) | (refine allG (x := _) (by first | exact hg | simpa [List.getElem?_append_right, lowOf] using hg | fail) ?_; conv => whnf) | (refine allLst (x := _) (by first | omega | assumption | fail) (by first | exact hg | simpa using hg | fail) ?_; conv => whnf) | (refine allG (x := _) (by first | exact hh | simpa [List.getElem?_append_right, lowOf] using hh | fail) ?_; conv => whnf) | (refine allLst (x := _) (by first | omega | assumption | fail) (by first | exact hh | simpa using hh | fail) ?_; conv => whnf) | (refine allG rfl ?_; conv => whnf) | (refine And.intro (by first | omega | assumption | kernel_rfl | exact And.intro rfl rfl | ((try dsimp only [inR, idx, lowOf]); first | omega | (with_reducible decide) | (simp; omega) | fail) | fail) ?_; conv => whnf) | fail)
          refine ⟨i + 1, [], (by show ((i + 1 : Nat) : Int) ≤ (fitN c); omega), ?_, rfl, ?_, ?_, rfl⟩
          · dsimp only; first | omega | (simp; done) | (simp; omega)
          all_goals (repeat' (first | exact trivial | exact rfl | refine And.intro ?_ ?_ | (refine congrArg vI ?_; first | omega | (dsimp only; omega) | fail) | (refine congrArg some ?_) | omega | exact Nat.le_refl _ | exact congrArg (SV.lst _) (List.take_of_length_le (Nat.le_refl _)).symm))
    · conv => whnf
      repeat' (first | (refine tell (fun htest => ?_) (fun htest => ?_) <;> (try dsimp only at htest) <;> first | (exfalso; omega) | (exact absurd rfl htest) | (exact absurd (by decide) htest) | (conv => whnf)) | (refine allG rfl ?_; conv => whnf) | (refine And.intro (by first | omega | assumption | kernel_rfl | exact And.intro rfl rfl | ((try dsimp only [inR, idx, lowOf]); first | omega | (with_reducible decide) | (simp; omega) | fail) | fail) ?_; conv => whnf) | fail)
      exact ⟨(), [], trivial, rfl, trivial, trivial⟩
end Go.Sx

