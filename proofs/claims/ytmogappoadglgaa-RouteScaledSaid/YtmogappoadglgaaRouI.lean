/-
  Layer 12, part I: RouteScaled.
-/
import Derived.Test.YtmogappoadglgaaRouF
import Derived.Test.YtmogappoadglgaaLayP
namespace Go.Sx
open Go Go.Proofs Go.Proofs.Ytmogappoadglgaa
theorem fitGo_costI (n : Int) : ∀ (l : List (Int × Int × Int)) (es : List Edge), (∀ e ∈ es, 1 ≤ e.2.2 ∧ e.2.2 ≤ 9) → ∀ e ∈ fitGo n l es, 1 ≤ e.2.2 ∧ e.2.2 ≤ 9
  | [], es, h => h
  | r :: t, es, h => by
    unfold fitGo
    split
    · refine fitGo_costI n t _ ?_
      split
      · intro e he
        rcases List.mem_append.1 he with he | he
        · exact h e he
        · simp at he; subst he
          have := pickF_bd (c := r.2.2) (n := 9) (by omega)
          show 1 ≤ 1 + pickF r.2.2 9 ∧ 1 + pickF r.2.2 9 ≤ 9
          omega
      · exact h
    · exact h
theorem fit_costI (c : Int) (l : List (Int × Int × Int)) : ∀ e ∈ fitL c l, 1 ≤ e.2.2 ∧ e.2.2 ≤ 9 := fitGo_costI _ l [] (fun e he => by simp at he)
def scaleE (k : Int) (e : Edge) : Edge := (e.1, e.2.1, e.2.2 * k)
section
variable {n k : Int} {es : List Edge} {bl : List Int} {t v : Int}
theorem wayC_up {c : Int} (h : WayC es bl t v c) : WayC (es.map (scaleE k)) bl t v (c * k) := by
  induction h with
  | refl => rw [Int.zero_mul]; exact .refl
  | @step e c he hb _ ih =>
    rw [Int.add_mul]
    exact WayC.step (e := scaleE k e) (List.mem_map.2 ⟨e, he, rfl⟩) hb ih
theorem wayC_down {c : Int} (h : WayC (es.map (scaleE k)) bl t v c) : ∃ c', c = c' * k ∧ WayC es bl t v c' := by
  induction h with
  | refl => exact ⟨0, by rw [Int.zero_mul], .refl⟩
  | @step x c hx hb _ ih =>
    obtain ⟨c', hc, hw⟩ := ih
    obtain ⟨e, he, rfl⟩ := List.mem_map.1 hx
    exact ⟨e.2.2 + c', by rw [Int.add_mul, hc]; rfl, WayC.step he hb hw⟩
theorem scale_right (hR : RightL n es) (hk : 1 ≤ k) (hk2 : k ≤ 100) (hc : ∀ e ∈ es, 1 ≤ e.2.2 ∧ e.2.2 ≤ 9) : RightL n (es.map (scaleE k)) := by
  refine ⟨hR.pos, hR.most, by rw [List.length_map]; exact hR.len, fun x hx => ?_, ?_⟩
  · obtain ⟨e, he, rfl⟩ := List.mem_map.1 hx
    obtain ⟨o1, o2, o3, o4, o5, _, _⟩ := hR.each e he
    obtain ⟨c1, c2⟩ := hc e he
    have h1 : 1 * 1 ≤ e.2.2 * k := Int.mul_le_mul c1 hk (by omega) (by omega)
    have h2 : e.2.2 * k ≤ 9 * 100 := Int.mul_le_mul c2 hk2 (by omega) (by omega)
    exact ⟨o1, o2, o3, o4, o5, by show 1 ≤ e.2.2 * k; omega, by show e.2.2 * k ≤ 1000; omega⟩
  · have : (es.map (scaleE k)).map wayE = es.map wayE := by rw [List.map_map]; rfl
    rw [this]; exact hR.apart
theorem far_scale (hR : RightL n es) (hR' : RightL n (es.map (scaleE k))) (hk : 1 ≤ k) : (farV es bl t v = -1 → farV (es.map (scaleE k)) bl t v = -1) ∧ (0 ≤ farV es bl t v → farV (es.map (scaleE k)) bl t v = farV es bl t v * k) := by
  refine ⟨fun h => ?_, fun h => ?_⟩
  · rcases farV_ge (bl := bl) (t := t) hR' v with h1 | h1
    · exact h1
    · obtain ⟨c', _, hw⟩ := wayC_down (farV_some hR' h1).1
      have := wayC_nonneg hR (farV_min hR hw).1
      omega
  · obtain ⟨h1, h2⟩ := farV_some hR h
    refine farV_eq hR' (wayC_up h1) fun c hc => ?_
    obtain ⟨c', rfl, hw⟩ := wayC_down hc
    exact Int.mul_le_mul_of_nonneg_right (h2 c' hw) (by omega)
theorem okE_scale (hR : RightL n es) (hR' : RightL n (es.map (scaleE k))) (hk : 1 ≤ k) (hv : 0 ≤ farV es bl t v) {e : Edge} : OkE (es.map (scaleE k)) bl t v (scaleE k e) ↔ OkE es bl t v e := by
  have hfv := (far_scale (bl := bl) (t := t) (v := v) hR hR' hk).2 hv
  rcases farV_ge (bl := bl) (t := t) hR e.2.1 with h1 | h1
  · have h2 := (far_scale (bl := bl) (t := t) (v := e.2.1) hR hR' hk).1 h1
    constructor
    · rintro ⟨h, _⟩
      have h : 0 ≤ farV (es.map (scaleE k)) bl t e.2.1 := h
      omega
    · rintro ⟨h, _⟩; omega
  · have h2 := (far_scale (bl := bl) (t := t) (v := e.2.1) hR hR' hk).2 h1
    have h3 : 0 ≤ farV es bl t e.2.1 * k := Int.mul_nonneg h1 (by omega)
    have key : farV es bl t e.2.1 * k + e.2.2 * k = farV es bl t v * k ↔ farV es bl t e.2.1 + e.2.2 = farV es bl t v := by
      rw [← Int.add_mul]
      exact ⟨fun h => Int.eq_of_mul_eq_mul_right (by omega) h, fun h => by rw [h]⟩
    unfold OkE
    show 0 ≤ farV (es.map (scaleE k)) bl t e.2.1 ∧ farV (es.map (scaleE k)) bl t e.2.1 + e.2.2 * k = farV (es.map (scaleE k)) bl t v ∧ e.2.1 ∉ bl ↔ _
    rw [h2, hfv, key]
    exact ⟨fun h => ⟨h1, h.2⟩, fun h => ⟨h3, h.2⟩⟩
theorem route_scale (hR : RightL n es) (hR' : RightL n (es.map (scaleE k))) (hk : 1 ≤ k) {l : List Int} (h : RouteP es bl t v l) : RouteP (es.map (scaleE k)) bl t v l := by
  induction h with
  | nil => exact .nil
  | @cons v i e l hv he h1 hok hmin hrest ih =>
    have h0 : 0 ≤ farV es bl t v := (route_len hR (.cons hv he h1 hok hmin hrest)).1
    refine RouteP.cons (e := scaleE k e) hv (by rw [List.getElem?_map, he]; rfl) h1 ((okE_scale hR hR' hk h0).2 hok) (fun j x hj hx hxv ho => ?_) ih
    rw [List.getElem?_map] at hx
    cases hy : es[j]? with
    | none => rw [hy] at hx; cases hx
    | some y =>
      rw [hy] at hx; cases hx
      exact hmin j y hj hy hxv ((okE_scale hR hR' hk h0).1 ho)
theorem cost_scale : ∀ l : List Int, costF (es.map (scaleE k)) l = k * costF es l
  | [] => by simp [costF]
  | i :: l => by
    simp only [costF, cost_scale l, List.length_map, List.getElem?_map]
    rw [Int.mul_add]
    congr 1
    split
    · cases es[i.toNat]? with
      | none => simp
      | some e => simp only [Option.map_some]; show e.2.2 * k = k * e.2.2; exact Int.mul_comm _ _
    · simp
end
set_option maxHeartbeats 3200000 in
theorem m_scaled : Meets Try.prog regF 17 (spLaw (fun g : Int × List (Int × Int × Int) × List Int × Int × Int × Int => [vI g.1, .lst 66 g.2.1, .lst 3 g.2.2.1, vI g.2.2.2.1, vI g.2.2.2.2.1, vI g.2.2.2.2.2]) (fun g => InI g.1 ∧ Triples g.2.1 ∧ g.2.2.1.length ≤ 9223372036854775807 ∧ InI g.2.2.2.1 ∧ InI g.2.2.2.2.1 ∧ InI g.2.2.2.2.2)) := by
  refine meets Try.func17 126 noWr rfl (by kernel_rfl) (by kernel_rfl) ?_
  rintro ⟨(c : Int), (l : List (Int × Int × Int)), (bl : List Int), (fr : Int), (tt : Int), (times : Int)⟩ ⟨(hc : InI c), (hl : Triples l), (hbl : bl.length ≤ 9223372036854775807), (hfr : InI fr), (htt : InI tt), (hti : InI times)⟩
  obtain ⟨hR, h24⟩ := fit_right c l
  have hcost := fit_costI c l
  obtain ⟨ha0, han⟩ := pickF_bd (c := fr) hR.pos
  obtain ⟨hb0, hbn⟩ := pickF_bd (c := tt) hR.pos
  have hNp := hR.pos
  have hNm := hR.most
  have hp := pickF_bd (c := times) (n := 100) (by omega)
  conv => whnf
  repeat' (first | (refine tell (fun htest => ?_) (fun htest => ?_) <;> (try dsimp only at htest) <;> first | (exfalso; omega) | (exact absurd rfl htest) | (exact absurd (by decide) htest) | (conv => whnf)) | (refine allG rfl ?_; conv => whnf) | (refine And.intro (by first | omega | assumption | kernel_rfl | exact And.intro rfl rfl | ((try dsimp only [inR, idx, lowOf]); first | omega | (with_reducible decide) | (simp; omega) | fail) | fail) ?_; conv => whnf) | fail)
  refine ⟨_, m_awakeR, (), [], false, ?_⟩
  conv => whnf
  refine And.intro (vc0 trivial (by (repeat' (first | exact trivial | exact rfl | refine And.intro ?_ ?_ | (refine congrArg vI ?_; first | omega | (dsimp only; omega) | fail) | (refine congrArg some ?_) | omega | exact Nat.le_refl _ | exact congrArg (SV.lst _) (List.take_of_length_le (Nat.le_refl _)).symm))) (by repeat' (first | exact trivial | exact rfl | refine And.intro ?_ ?_ | (refine congrArg vI ?_; first | omega | (dsimp only; omega) | fail) | (refine congrArg some ?_) | omega | exact Nat.le_refl _ | exact congrArg (SV.lst _) (List.take_of_length_le (Nat.le_refl _)).symm)) trivial trivial) ?_
  refine And.intro ⟨(), trivial⟩ (fun (_ : Unit) _ => ?_)
  conv => whnf
  conv => whnf
  repeat' (first | (refine tell (fun htest => ?_) (fun htest => ?_) <;> (try dsimp only at htest) <;> first | (exfalso; omega) | (exact absurd rfl htest) | (exact absurd (by decide) htest) | (conv => whnf)) | (refine allG rfl ?_; conv => whnf) | (refine And.intro (by first | omega | assumption | kernel_rfl | exact And.intro rfl rfl | ((try dsimp only [inR, idx, lowOf]); first | omega | (with_reducible decide) | (simp; omega) | fail) | fail) ?_; conv => whnf) | fail)
  refine ⟨_, m_fit, (c, l), [], false, ?_⟩
  conv => whnf
  refine And.intro (vc0 ⟨hc, hl⟩ (by (repeat' (first | exact trivial | exact rfl | refine And.intro ?_ ?_ | (refine congrArg vI ?_; first | omega | (dsimp only; omega) | fail) | (refine congrArg some ?_) | omega | exact Nat.le_refl _ | exact congrArg (SV.lst _) (List.take_of_length_le (Nat.le_refl _)).symm))) (by repeat' (first | exact trivial | exact rfl | refine And.intro ?_ ?_ | (refine congrArg vI ?_; first | omega | (dsimp only; omega) | fail) | (refine congrArg some ?_) | omega | exact Nat.le_refl _ | exact congrArg (SV.lst _) (List.take_of_length_le (Nat.le_refl _)).symm)) trivial trivial) ?_
  refine And.intro ⟨(), trivial⟩ (fun (_ : Unit) _ => ?_)
  conv => whnf
  conv => whnf
  repeat' (first | (refine tell (fun htest => ?_) (fun htest => ?_) <;> (try dsimp only at htest) <;> first | (exfalso; omega) | (exact absurd rfl htest) | (exact absurd (by decide) htest) | (conv => whnf)) | (refine allG rfl ?_; conv => whnf) | (refine And.intro (by first | omega | assumption | kernel_rfl | exact And.intro rfl rfl | ((try dsimp only [inR, idx, lowOf]); first | omega | (with_reducible decide) | (simp; omega) | fail) | fail) ?_; conv => whnf) | fail)
  refine ⟨_, m_pick12, (times, 100), [], false, ?_⟩
  conv => whnf
  refine And.intro (vc0 ⟨hti, by show (0 : Int) < 100; decide⟩ (by (repeat' (first | exact trivial | exact rfl | refine And.intro ?_ ?_ | (refine congrArg vI ?_; first | omega | (dsimp only; omega) | fail) | (refine congrArg some ?_) | omega | exact Nat.le_refl _ | exact congrArg (SV.lst _) (List.take_of_length_le (Nat.le_refl _)).symm))) (by repeat' (first | exact trivial | exact rfl | refine And.intro ?_ ?_ | (refine congrArg vI ?_; first | omega | (dsimp only; omega) | fail) | (refine congrArg some ?_) | omega | exact Nat.le_refl _ | exact congrArg (SV.lst _) (List.take_of_length_le (Nat.le_refl _)).symm)) trivial trivial) ?_
  refine And.intro ⟨(), trivial⟩ (fun (_ : Unit) _ => ?_)
  conv => whnf
  conv => whnf
  repeat' (first | (refine tell (fun htest => ?_) (fun htest => ?_) <;> (try dsimp only at htest) <;> first | (exfalso; omega) | (exact absurd rfl htest) | (exact absurd (by decide) htest) | (conv => whnf)) | (refine allG rfl ?_; conv => whnf) | (refine And.intro (by first | omega | assumption | kernel_rfl | exact And.intro rfl rfl | ((try dsimp only [inR, idx, lowOf]); first | omega | (with_reducible decide) | (simp; omega) | fail) | fail) ?_; conv => whnf) | fail)
  refine ⟨Nat, fun i => ⟨[(2, .lst 3 bl), (3, vI fr), (4, vI tt), (13, vB true), (14, .ptr 1014 0 2 0), (15, vI ((1 + pickF times 100))), (16, .ptr 1016 0 2 0), (17, vI i)], [(1014, layC (fitN c) (fitL c l)), (1016, .cells [vI (fitN c), .sl 3000 3 0 i]), (3000, .arr 54 (((fitL c l).take i).map (scaleE ((1 + pickF times 100)))))]⟩, fun i => i ≤ (fitL c l).length, fun i => (fitL c l).length - i, fun _ _ => rfl, ⟨0, [], Nat.zero_le _, ?_⟩, ?_⟩
  · refine ⟨rfl, ?_, ?_, rfl⟩
    all_goals (repeat' (first | exact trivial | exact rfl | refine And.intro ?_ ?_ | (refine congrArg vI ?_; first | omega | (dsimp only; omega) | fail) | (refine congrArg some ?_) | omega | exact Nat.le_refl _ | exact congrArg (SV.lst _) (List.take_of_length_le (Nat.le_refl _)).symm))
  rintro (i : Nat) (hi : i ≤ (fitL c l).length)
  have hil : (((fitL c l).take i).map (scaleE ((1 + pickF times 100)))).length = i := by simp; omega
  by_cases hlt : i < (fitL c l).length
  · obtain ⟨e, he⟩ : ∃ e, (fitL c l)[i]? = some e := ⟨_, List.getElem?_eq_getElem hlt⟩
    obtain ⟨c1, c2⟩ := hcost e (List.mem_of_getElem? he)
    have h1 : 1 * 1 ≤ e.2.2 * ((1 + pickF times 100)) := Int.mul_le_mul c1 (by omega) (by omega) (by omega)
    have h2 : e.2.2 * ((1 + pickF times 100)) ≤ 9 * 100 := Int.mul_le_mul c2 (by omega) (by omega) (by omega)
    conv => whnf
    repeat' (first | (refine tell (fun htest => ?_) (fun htest => ?_) <;> (try dsimp only at htest) <;> first | (exfalso; omega) | (exact absurd rfl htest) | (exact absurd (by decide) htest) | (conv => whnf)) | (refine allG (x := e) (by first | exact he | simpa [List.getElem?_append_right, lowOf] using he | fail) ?_; conv => whnf) | (refine allLst (x := e) (by first | omega | assumption | fail) (by first | exact he | simpa using he | fail) ?_; conv => whnf) | (refine allG rfl ?_; conv => whnf) | (refine And.intro (by first | omega | assumption | kernel_rfl | exact And.intro rfl rfl | ((try dsimp only [inR, idx, lowOf]); first | omega | (with_reducible decide) | (simp; omega) | fail) | fail) ?_; conv => whnf) | fail)
    refine ⟨i + 1, [(3000, 1061)], hlt, ?_, rfl, ?_, ?_, rfl⟩
    · dsimp only; first | omega | (simp; done) | (simp; omega)
    all_goals (repeat' (first | exact trivial | exact rfl | refine And.intro ?_ ?_ | (refine congrArg vI ?_; first | omega | (dsimp only; omega) | fail) | (refine congrArg some ?_) | omega | exact Nat.le_refl _ | exact congrArg (SV.lst _) (List.take_of_length_le (Nat.le_refl _)).symm))
    exact congrArg (Ct.arr (A := AF) 54) (show ((List.drop 0 (((fitL c l).take i).map (scaleE ((1 + pickF times 100))))).take i) ++ [scaleE ((1 + pickF times 100)) e] = ((fitL c l).take (i + 1)).map (scaleE ((1 + pickF times 100))) by rw [List.drop_zero, List.take_of_length_le (by rw [hil]; exact Nat.le_refl _), take_snocI he, List.map_append]; rfl)
  · have hie : i = (fitL c l).length := by omega
    subst hie
    have hMS : (List.take (fitL c l).length (List.drop 0 ((List.take (fitL c l).length (fitL c l)).map (scaleE (1 + pickF times 100))))) = (fitL c l).map (scaleE ((1 + pickF times 100))) := by rw [List.drop_zero, List.take_of_length_le (by simp), List.take_of_length_le (Nat.le_refl _)]
    have hRM0 : RightL (fitN c) ((fitL c l).map (scaleE ((1 + pickF times 100)))) := scale_right hR (by omega) (by omega) hcost
    have hRM : RightL (fitN c) (List.take (fitL c l).length (List.drop 0 ((List.take (fitL c l).length (fitL c l)).map (scaleE (1 + pickF times 100))))) := by rw [hMS]; exact hRM0
    have hsc := far_scale (bl := bl) (t := (pickF tt (fitN c))) (v := (pickF fr (fitN c))) hR hRM0 (by omega)
    rw [← hMS] at hsc
    have hself : 0 ≤ farV (fitL c l) bl (pickF fr (fitN c)) (pickF fr (fitN c)) := by rw [farV_self hR]; exact Int.le_refl 0
    have hcM : ∀ e ∈ (List.take (fitL c l).length (List.drop 0 ((List.take (fitL c l).length (fitL c l)).map (scaleE (1 + pickF times 100))))), 0 ≤ e.2.2 ∧ e.2.2 ≤ 1000 := fun e he => by obtain ⟨_, _, _, _, _, q6, q7⟩ := hRM.each e he; omega
    have hcL : ∀ e ∈ (fitL c l), 0 ≤ e.2.2 ∧ e.2.2 ≤ 1000 := fun e he => by have := hcost e he; omega
    have hlL : (fitL c l).length ≤ 9223372036854775807 := by omega
    have hlM : (List.take (fitL c l).length (List.drop 0 ((List.take (fitL c l).length (fitL c l)).map (scaleE (1 + pickF times 100))))).length ≤ 9223372036854775807 := by have := hRM.len; omega
    have hln : 0 + (fitL c l).length ≤ (((fitL c l).take (fitL c l).length).map (scaleE ((1 + pickF times 100)))).length := by simp
    conv => whnf
    repeat' (first | (refine tell (fun htest => ?_) (fun htest => ?_) <;> (try dsimp only at htest) <;> first | (exfalso; omega) | (exact absurd rfl htest) | (exact absurd (by decide) htest) | (conv => whnf)) | (refine allG rfl ?_; conv => whnf) | (refine And.intro (by first | omega | assumption | kernel_rfl | exact And.intro rfl rfl | ((try dsimp only [inR, idx, lowOf]); first | omega | (with_reducible decide) | (simp; omega) | fail) | fail) ?_; conv => whnf) | fail)
    refine ⟨_, m_pick12, (fr, (fitN c)), [], false, ?_⟩
    conv => whnf
    refine And.intro (vc0 ⟨hfr, hR.pos⟩ (by (repeat' (first | exact trivial | exact rfl | refine And.intro ?_ ?_ | (refine congrArg vI ?_; first | omega | (dsimp only; omega) | fail) | (refine congrArg some ?_) | omega | exact Nat.le_refl _ | exact congrArg (SV.lst _) (List.take_of_length_le (Nat.le_refl _)).symm))) (by repeat' (first | exact trivial | exact rfl | refine And.intro ?_ ?_ | (refine congrArg vI ?_; first | omega | (dsimp only; omega) | fail) | (refine congrArg some ?_) | omega | exact Nat.le_refl _ | exact congrArg (SV.lst _) (List.take_of_length_le (Nat.le_refl _)).symm)) trivial trivial) ?_
    refine And.intro ⟨(), trivial⟩ (fun (_ : Unit) _ => ?_)
    conv => whnf
    conv => whnf
    repeat' (first | (refine tell (fun htest => ?_) (fun htest => ?_) <;> (try dsimp only at htest) <;> first | (exfalso; omega) | (exact absurd rfl htest) | (exact absurd (by decide) htest) | (conv => whnf)) | (refine allG rfl ?_; conv => whnf) | (refine And.intro (by first | omega | assumption | kernel_rfl | exact And.intro rfl rfl | ((try dsimp only [inR, idx, lowOf]); first | omega | (with_reducible decide) | (simp; omega) | fail) | fail) ?_; conv => whnf) | fail)
    refine ⟨_, m_pick12, (tt, (fitN c)), [], false, ?_⟩
    conv => whnf
    refine And.intro (vc0 ⟨htt, hR.pos⟩ (by (repeat' (first | exact trivial | exact rfl | refine And.intro ?_ ?_ | (refine congrArg vI ?_; first | omega | (dsimp only; omega) | fail) | (refine congrArg some ?_) | omega | exact Nat.le_refl _ | exact congrArg (SV.lst _) (List.take_of_length_le (Nat.le_refl _)).symm))) (by repeat' (first | exact trivial | exact rfl | refine And.intro ?_ ?_ | (refine congrArg vI ?_; first | omega | (dsimp only; omega) | fail) | (refine congrArg some ?_) | omega | exact Nat.le_refl _ | exact congrArg (SV.lst _) (List.take_of_length_le (Nat.le_refl _)).symm)) trivial trivial) ?_
    refine And.intro ⟨(), trivial⟩ (fun (_ : Unit) _ => ?_)
    conv => whnf
    conv => whnf
    repeat' (first | (refine tell (fun htest => ?_) (fun htest => ?_) <;> (try dsimp only at htest) <;> first | (exfalso; omega) | (exact absurd rfl htest) | (exact absurd (by decide) htest) | (conv => whnf)) | (refine allG rfl ?_; conv => whnf) | (refine And.intro (by first | omega | assumption | kernel_rfl | exact And.intro rfl rfl | ((try dsimp only [inR, idx, lowOf]); first | omega | (with_reducible decide) | (simp; omega) | fail) | fail) ?_; conv => whnf) | fail)
    rcases farV_ge (bl := bl) (t := (pickF tt (fitN c))) hR (pickF fr (fitN c)) with hf | hf
    · refine ⟨_, m_routeE, (((fitN c), (fitL c l)), bl, (pickF fr (fitN c)), (pickF tt (fitN c))), [], false, ?_⟩
      conv => whnf
      refine And.intro (vc0 ⟨hR, ⟨ha0, han⟩, ⟨hb0, hbn⟩, hR.good, hbl, hf⟩ (by (repeat' (first | exact trivial | exact rfl | refine And.intro ?_ ?_ | (refine congrArg vI ?_; first | omega | (dsimp only; omega) | fail) | (refine congrArg some ?_) | omega | exact Nat.le_refl _ | exact congrArg (SV.lst _) (List.take_of_length_le (Nat.le_refl _)).symm))) (by repeat' (first | exact trivial | exact rfl | refine And.intro ?_ ?_ | (refine congrArg vI ?_; first | omega | (dsimp only; omega) | fail) | (refine congrArg some ?_) | omega | exact Nat.le_refl _ | exact congrArg (SV.lst _) (List.take_of_length_le (Nat.le_refl _)).symm)) trivial trivial) ?_
      refine And.intro ⟨(), trivial⟩ (fun (_ : Unit) _ => ?_)
      conv => whnf
      conv => whnf
      repeat' (first | (refine tell (fun htest => ?_) (fun htest => ?_) <;> (try dsimp only at htest) <;> first | (exfalso; omega) | (exact absurd rfl htest) | (exact absurd (by decide) htest) | (conv => whnf)) | (refine allG rfl ?_; conv => whnf) | (refine And.intro (by first | omega | assumption | kernel_rfl | exact And.intro rfl rfl | ((try dsimp only [inR, idx, lowOf]); first | omega | (with_reducible decide) | (simp; omega) | fail) | fail) ?_; conv => whnf) | fail)
      refine ⟨_, m_routeE, (((fitN c), (List.take (fitL c l).length (List.drop 0 ((List.take (fitL c l).length (fitL c l)).map (scaleE (1 + pickF times 100)))))), bl, (pickF fr (fitN c)), (pickF tt (fitN c))), [], true, ?_⟩
      conv => whnf
      refine And.intro (vc0 ⟨hRM, ⟨ha0, han⟩, ⟨hb0, hbn⟩, hRM.good, hbl, hsc.1 hf⟩ (by (repeat' (first | exact trivial | exact rfl | refine And.intro ?_ ?_ | (refine congrArg vI ?_; first | omega | (dsimp only; omega) | fail) | (refine congrArg some ?_) | omega | exact Nat.le_refl _ | exact congrArg (SV.lst _) (List.take_of_length_le (Nat.le_refl _)).symm)); all_goals (exact hln)) (by repeat' (first | exact trivial | exact rfl | refine And.intro ?_ ?_ | (refine congrArg vI ?_; first | omega | (dsimp only; omega) | fail) | (refine congrArg some ?_) | omega | exact Nat.le_refl _ | exact congrArg (SV.lst _) (List.take_of_length_le (Nat.le_refl _)).symm)) trivial (.inr (fun _ => ⟨rfl, fun h ct he => by rcases h with _ | _ | h <;> first | (cases he; done) | (cases he; rfl)⟩))) ?_
      refine And.intro ⟨(), trivial⟩ (fun (_ : Unit) _ => ?_)
      conv => whnf
      conv => whnf
      repeat' (first | (refine tell (fun htest => ?_) (fun htest => ?_) <;> (try dsimp only at htest) <;> first | (exfalso; omega) | (exact absurd rfl htest) | (exact absurd (by decide) htest) | (conv => whnf)) | (refine allG rfl ?_; conv => whnf) | (refine And.intro (by first | omega | assumption | kernel_rfl | exact And.intro rfl rfl | ((try dsimp only [inR, idx, lowOf]); first | omega | (with_reducible decide) | (simp; omega) | fail) | fail) ?_; conv => whnf) | fail)
      refine ⟨_, m_route, (((fitN c), (fitL c l)), bl, (pickF fr (fitN c)), (pickF fr (fitN c))), [], false, ?_⟩
      conv => whnf
      refine And.intro (vc0 ⟨hR, ⟨ha0, han⟩, ⟨ha0, han⟩, hR.good, hbl, hself⟩ (by (repeat' (first | exact trivial | exact rfl | refine And.intro ?_ ?_ | (refine congrArg vI ?_; first | omega | (dsimp only; omega) | fail) | (refine congrArg some ?_) | omega | exact Nat.le_refl _ | exact congrArg (SV.lst _) (List.take_of_length_le (Nat.le_refl _)).symm))) (by repeat' (first | exact trivial | exact rfl | refine And.intro ?_ ?_ | (refine congrArg vI ?_; first | omega | (dsimp only; omega) | fail) | (refine congrArg some ?_) | omega | exact Nat.le_refl _ | exact congrArg (SV.lst _) (List.take_of_length_le (Nat.le_refl _)).symm)) trivial trivial) ?_
      refine And.intro ⟨[], .nil⟩ ?_
      intro (s : List Int) (hs : RouteP (fitL c l) bl (pickF fr (fitN c)) (pickF fr (fitN c)) s)
      obtain rfl := route_one hs .nil
      conv => whnf
      repeat' (first | (refine tell (fun htest => ?_) (fun htest => ?_) <;> (try dsimp only at htest) <;> first | (exfalso; omega) | (exact absurd rfl htest) | (exact absurd (by decide) htest) | (conv => whnf)) | (refine allG rfl ?_; conv => whnf) | (refine And.intro (by first | omega | assumption | kernel_rfl | exact And.intro rfl rfl | ((try dsimp only [inR, idx, lowOf]); first | omega | (with_reducible decide) | (simp; omega) | fail) | fail) ?_; conv => whnf) | fail)
      refine ⟨_, m_ints, ([], []), [], true, ?_⟩
      conv => whnf
      refine And.intro (vc0 (show 0 ≤ 9223372036854775807 by decide) (by (repeat' (first | exact trivial | exact rfl | refine And.intro ?_ ?_ | (refine congrArg vI ?_; first | omega | (dsimp only; omega) | fail) | (refine congrArg some ?_) | omega | exact Nat.le_refl _ | exact congrArg (SV.lst _) (List.take_of_length_le (Nat.le_refl _)).symm))) (by repeat' (first | exact trivial | exact rfl | refine And.intro ?_ ?_ | (refine congrArg vI ?_; first | omega | (dsimp only; omega) | fail) | (refine congrArg some ?_) | omega | exact Nat.le_refl _ | exact congrArg (SV.lst _) (List.take_of_length_le (Nat.le_refl _)).symm)) trivial (.inr (fun _ => ⟨rfl, fun h ct he => by rcases h with _ | _ | h <;> first | (cases he; done) | (cases he; rfl)⟩))) ?_
      refine And.intro (pred_ex _) ?_
      intro (q : Bool) (hq : q = true ↔ ([] : List Int) = [])
      cases q
      · have := hq.2 rfl; cases this
      conv => whnf
      repeat' (first | (refine tell (fun htest => ?_) (fun htest => ?_) <;> (try dsimp only at htest) <;> first | (exfalso; omega) | (exact absurd rfl htest) | (exact absurd (by decide) htest) | (conv => whnf)) | (refine allG rfl ?_; conv => whnf) | (refine And.intro (by first | omega | assumption | kernel_rfl | exact And.intro rfl rfl | ((try dsimp only [inR, idx, lowOf]); first | omega | (with_reducible decide) | (simp; omega) | fail) | fail) ?_; conv => whnf) | fail)
      refine ⟨_, m_cost, (((fitN c), (List.take (fitL c l).length (List.drop 0 ((List.take (fitL c l).length (fitL c l)).map (scaleE (1 + pickF times 100)))))), []), [], true, ?_⟩
      conv => whnf
      refine And.intro (vc0 ⟨hcM, hlM, (show 0 ≤ 17592186044416 by decide)⟩ (by (repeat' (first | exact trivial | exact rfl | refine And.intro ?_ ?_ | (refine congrArg vI ?_; first | omega | (dsimp only; omega) | fail) | (refine congrArg some ?_) | omega | exact Nat.le_refl _ | exact congrArg (SV.lst _) (List.take_of_length_le (Nat.le_refl _)).symm)); all_goals (exact hln)) (by repeat' (first | exact trivial | exact rfl | refine And.intro ?_ ?_ | (refine congrArg vI ?_; first | omega | (dsimp only; omega) | fail) | (refine congrArg some ?_) | omega | exact Nat.le_refl _ | exact congrArg (SV.lst _) (List.take_of_length_le (Nat.le_refl _)).symm)) trivial (.inr (fun _ => ⟨rfl, fun h ct he => by rcases h with _ | _ | h <;> first | (cases he; done) | (cases he; rfl)⟩))) ?_
      refine And.intro ⟨(), trivial⟩ (fun (_ : Unit) _ => ?_)
      conv => whnf
      conv => whnf
      repeat' (first | (refine tell (fun htest => ?_) (fun htest => ?_) <;> (try dsimp only at htest) <;> first | (exfalso; omega) | (exact absurd rfl htest) | (exact absurd (by decide) htest) | (conv => whnf)) | (refine allG rfl ?_; conv => whnf) | (refine And.intro (by first | omega | assumption | kernel_rfl | exact And.intro rfl rfl | ((try dsimp only [inR, idx, lowOf]); first | omega | (with_reducible decide) | (simp; omega) | fail) | fail) ?_; conv => whnf) | fail)
      refine ⟨_, m_cost, (((fitN c), (fitL c l)), []), [], false, ?_⟩
      conv => whnf
      refine And.intro (vc0 ⟨hcL, hlL, (show 0 ≤ 17592186044416 by decide)⟩ (by (repeat' (first | exact trivial | exact rfl | refine And.intro ?_ ?_ | (refine congrArg vI ?_; first | omega | (dsimp only; omega) | fail) | (refine congrArg some ?_) | omega | exact Nat.le_refl _ | exact congrArg (SV.lst _) (List.take_of_length_le (Nat.le_refl _)).symm))) (by repeat' (first | exact trivial | exact rfl | refine And.intro ?_ ?_ | (refine congrArg vI ?_; first | omega | (dsimp only; omega) | fail) | (refine congrArg some ?_) | omega | exact Nat.le_refl _ | exact congrArg (SV.lst _) (List.take_of_length_le (Nat.le_refl _)).symm)) trivial trivial) ?_
      refine And.intro ⟨(), trivial⟩ (fun (_ : Unit) _ => ?_)
      conv => whnf
      conv => whnf
      repeat' (first | (refine tell (fun htest => ?_) (fun htest => ?_) <;> (try dsimp only at htest) <;> first | (exfalso; omega) | (exact absurd rfl htest) | (exact absurd (by decide) htest) | (conv => whnf)) | (refine allG rfl ?_; conv => whnf) | (refine And.intro (by first | omega | assumption | kernel_rfl | exact And.intro rfl rfl | ((try dsimp only [inR, idx, lowOf]); first | omega | (with_reducible decide) | (simp; omega) | fail) | fail) ?_; conv => whnf) | fail)
      refine And.intro (show inR .i64 (((1 + pickF times 100)) * 0) by rw [Int.mul_zero]; exact inI (by omega)) ?_
      have hzz : costF (List.take (fitL c l).length (List.drop 0 ((List.take (fitL c l).length (fitL c l)).map (scaleE (1 + pickF times 100))))) [] = ((1 + pickF times 100)) * costF (fitL c l) [] := by simp [costF]
      conv => whnf
      repeat' (first | (refine tell (fun htest => ?_) (fun htest => ?_) <;> (try dsimp only at htest) <;> first | (exfalso; omega) | (exact absurd rfl htest) | (exact absurd (by decide) htest) | (conv => whnf)) | (refine allG rfl ?_; conv => whnf) | (refine And.intro (by first | omega | assumption | kernel_rfl | exact And.intro rfl rfl | ((try dsimp only [inR, idx, lowOf]); first | omega | (with_reducible decide) | (simp; omega) | fail) | fail) ?_; conv => whnf) | fail)
      exact ⟨(), [], trivial, rfl, trivial, trivial⟩
    · obtain ⟨r0, hr0⟩ := route_ex hR _ _ hf (Int.le_of_eq (Int.toNat_of_nonneg hf).symm)
      have hf2 : 0 ≤ farV (List.take (fitL c l).length (List.drop 0 ((List.take (fitL c l).length (fitL c l)).map (scaleE (1 + pickF times 100))))) bl (pickF tt (fitN c)) (pickF fr (fitN c)) := by rw [hsc.2 hf]; exact Int.mul_nonneg hf (by omega)
      refine ⟨_, m_route, (((fitN c), (fitL c l)), bl, (pickF fr (fitN c)), (pickF tt (fitN c))), [], false, ?_⟩
      conv => whnf
      refine And.intro (vc0 ⟨hR, ⟨ha0, han⟩, ⟨hb0, hbn⟩, hR.good, hbl, hf⟩ (by (repeat' (first | exact trivial | exact rfl | refine And.intro ?_ ?_ | (refine congrArg vI ?_; first | omega | (dsimp only; omega) | fail) | (refine congrArg some ?_) | omega | exact Nat.le_refl _ | exact congrArg (SV.lst _) (List.take_of_length_le (Nat.le_refl _)).symm))) (by repeat' (first | exact trivial | exact rfl | refine And.intro ?_ ?_ | (refine congrArg vI ?_; first | omega | (dsimp only; omega) | fail) | (refine congrArg some ?_) | omega | exact Nat.le_refl _ | exact congrArg (SV.lst _) (List.take_of_length_le (Nat.le_refl _)).symm)) trivial trivial) ?_
      refine And.intro ⟨r0, hr0⟩ ?_
      intro (r : List Int) (hr : RouteP (fitL c l) bl (pickF tt (fitN c)) (pickF fr (fitN c)) r)
      have hr2 : RouteP (List.take (fitL c l).length (List.drop 0 ((List.take (fitL c l).length (fitL c l)).map (scaleE (1 + pickF times 100))))) bl (pickF tt (fitN c)) (pickF fr (fitN c)) r := by rw [hMS]; exact route_scale hR hRM0 (by omega) hr
      have hrl : r.length ≤ 40000 := by have h1 := route_len hR hr; have h2 := farV_bd hR hb0 hbn (bl := bl) (pickF fr (fitN c)); omega
      have hcr := route_cost hR hr
      have hcr2 : costF (List.take (fitL c l).length (List.drop 0 ((List.take (fitL c l).length (fitL c l)).map (scaleE (1 + pickF times 100))))) r = ((1 + pickF times 100)) * costF (fitL c l) r := by rw [hMS]; exact cost_scale r
      have hfb := farV_bd hR hb0 hbn (bl := bl) (pickF fr (fitN c))
      have hpb : 0 ≤ ((1 + pickF times 100)) * costF (fitL c l) r ∧ ((1 + pickF times 100)) * costF (fitL c l) r ≤ 100 * 40000 := ⟨Int.mul_nonneg (by omega) (by omega), Int.mul_le_mul (by omega) (by omega) (by omega) (by omega)⟩
      conv => whnf
      repeat' (first | (refine tell (fun htest => ?_) (fun htest => ?_) <;> (try dsimp only at htest) <;> first | (exfalso; omega) | (exact absurd rfl htest) | (exact absurd (by decide) htest) | (conv => whnf)) | (refine allG rfl ?_; conv => whnf) | (refine And.intro (by first | omega | assumption | kernel_rfl | exact And.intro rfl rfl | ((try dsimp only [inR, idx, lowOf]); first | omega | (with_reducible decide) | (simp; omega) | fail) | fail) ?_; conv => whnf) | fail)
      refine ⟨_, m_route2, (((fitN c), (List.take (fitL c l).length (List.drop 0 ((List.take (fitL c l).length (fitL c l)).map (scaleE (1 + pickF times 100)))))), bl, (pickF fr (fitN c)), (pickF tt (fitN c))), [], true, ?_⟩
      conv => whnf
      refine And.intro (vc0 ⟨hRM, ⟨ha0, han⟩, ⟨hb0, hbn⟩, hRM.good, hbl, hf2⟩ (by (repeat' (first | exact trivial | exact rfl | refine And.intro ?_ ?_ | (refine congrArg vI ?_; first | omega | (dsimp only; omega) | fail) | (refine congrArg some ?_) | omega | exact Nat.le_refl _ | exact congrArg (SV.lst _) (List.take_of_length_le (Nat.le_refl _)).symm)); all_goals (exact hln)) (by repeat' (first | exact trivial | exact rfl | refine And.intro ?_ ?_ | (refine congrArg vI ?_; first | omega | (dsimp only; omega) | fail) | (refine congrArg some ?_) | omega | exact Nat.le_refl _ | exact congrArg (SV.lst _) (List.take_of_length_le (Nat.le_refl _)).symm)) trivial (.inr (fun _ => ⟨rfl, fun h ct he => by rcases h with _ | _ | h <;> first | (cases he; done) | (cases he; rfl)⟩))) ?_
      refine And.intro ⟨r, hr2⟩ ?_
      intro (y : List Int) (hy : RouteP (List.take (fitL c l).length (List.drop 0 ((List.take (fitL c l).length (fitL c l)).map (scaleE (1 + pickF times 100))))) bl (pickF tt (fitN c)) (pickF fr (fitN c)) y)
      obtain rfl := route_one hr2 hy
      conv => whnf
      repeat' (first | (refine tell (fun htest => ?_) (fun htest => ?_) <;> (try dsimp only at htest) <;> first | (exfalso; omega) | (exact absurd rfl htest) | (exact absurd (by decide) htest) | (conv => whnf)) | (refine allG rfl ?_; conv => whnf) | (refine And.intro (by first | omega | assumption | kernel_rfl | exact And.intro rfl rfl | ((try dsimp only [inR, idx, lowOf]); first | omega | (with_reducible decide) | (simp; omega) | fail) | fail) ?_; conv => whnf) | fail)
      refine ⟨_, m_route, (((fitN c), (fitL c l)), bl, (pickF fr (fitN c)), (pickF fr (fitN c))), [], false, ?_⟩
      conv => whnf
      refine And.intro (vc0 ⟨hR, ⟨ha0, han⟩, ⟨ha0, han⟩, hR.good, hbl, hself⟩ (by (repeat' (first | exact trivial | exact rfl | refine And.intro ?_ ?_ | (refine congrArg vI ?_; first | omega | (dsimp only; omega) | fail) | (refine congrArg some ?_) | omega | exact Nat.le_refl _ | exact congrArg (SV.lst _) (List.take_of_length_le (Nat.le_refl _)).symm))) (by repeat' (first | exact trivial | exact rfl | refine And.intro ?_ ?_ | (refine congrArg vI ?_; first | omega | (dsimp only; omega) | fail) | (refine congrArg some ?_) | omega | exact Nat.le_refl _ | exact congrArg (SV.lst _) (List.take_of_length_le (Nat.le_refl _)).symm)) trivial trivial) ?_
      refine And.intro ⟨[], .nil⟩ ?_
      intro (s : List Int) (hs : RouteP (fitL c l) bl (pickF fr (fitN c)) (pickF fr (fitN c)) s)
      obtain rfl := route_one hs .nil
      conv => whnf
      repeat' (first | (refine tell (fun htest => ?_) (fun htest => ?_) <;> (try dsimp only at htest) <;> first | (exfalso; omega) | (exact absurd rfl htest) | (exact absurd (by decide) htest) | (conv => whnf)) | (refine allG rfl ?_; conv => whnf) | (refine And.intro (by first | omega | assumption | kernel_rfl | exact And.intro rfl rfl | ((try dsimp only [inR, idx, lowOf]); first | omega | (with_reducible decide) | (simp; omega) | fail) | fail) ?_; conv => whnf) | fail)
      refine ⟨_, m_ints, (r, r), [], true, ?_⟩
      conv => whnf
      refine And.intro (vc0 (show r.length ≤ 9223372036854775807 by omega) (by (repeat' (first | exact trivial | exact rfl | refine And.intro ?_ ?_ | (refine congrArg vI ?_; first | omega | (dsimp only; omega) | fail) | (refine congrArg some ?_) | omega | exact Nat.le_refl _ | exact congrArg (SV.lst _) (List.take_of_length_le (Nat.le_refl _)).symm))) (by repeat' (first | exact trivial | exact rfl | refine And.intro ?_ ?_ | (refine congrArg vI ?_; first | omega | (dsimp only; omega) | fail) | (refine congrArg some ?_) | omega | exact Nat.le_refl _ | exact congrArg (SV.lst _) (List.take_of_length_le (Nat.le_refl _)).symm)) trivial (.inr (fun _ => ⟨rfl, fun h ct he => by rcases h with _ | _ | h <;> first | (cases he; done) | (cases he; rfl)⟩))) ?_
      refine And.intro (pred_ex _) ?_
      intro (q : Bool) (hq : q = true ↔ r = r)
      cases q
      · have := hq.2 rfl; cases this
      conv => whnf
      repeat' (first | (refine tell (fun htest => ?_) (fun htest => ?_) <;> (try dsimp only at htest) <;> first | (exfalso; omega) | (exact absurd rfl htest) | (exact absurd (by decide) htest) | (conv => whnf)) | (refine allG rfl ?_; conv => whnf) | (refine And.intro (by first | omega | assumption | kernel_rfl | exact And.intro rfl rfl | ((try dsimp only [inR, idx, lowOf]); first | omega | (with_reducible decide) | (simp; omega) | fail) | fail) ?_; conv => whnf) | fail)
      refine ⟨_, m_cost, (((fitN c), (List.take (fitL c l).length (List.drop 0 ((List.take (fitL c l).length (fitL c l)).map (scaleE (1 + pickF times 100)))))), r), [], true, ?_⟩
      conv => whnf
      refine And.intro (vc0 ⟨hcM, hlM, (show r.length ≤ 17592186044416 by omega)⟩ (by (repeat' (first | exact trivial | exact rfl | refine And.intro ?_ ?_ | (refine congrArg vI ?_; first | omega | (dsimp only; omega) | fail) | (refine congrArg some ?_) | omega | exact Nat.le_refl _ | exact congrArg (SV.lst _) (List.take_of_length_le (Nat.le_refl _)).symm)); all_goals (exact hln)) (by repeat' (first | exact trivial | exact rfl | refine And.intro ?_ ?_ | (refine congrArg vI ?_; first | omega | (dsimp only; omega) | fail) | (refine congrArg some ?_) | omega | exact Nat.le_refl _ | exact congrArg (SV.lst _) (List.take_of_length_le (Nat.le_refl _)).symm)) trivial (.inr (fun _ => ⟨rfl, fun h ct he => by rcases h with _ | _ | h <;> first | (cases he; done) | (cases he; rfl)⟩))) ?_
      refine And.intro ⟨(), trivial⟩ (fun (_ : Unit) _ => ?_)
      conv => whnf
      conv => whnf
      repeat' (first | (refine tell (fun htest => ?_) (fun htest => ?_) <;> (try dsimp only at htest) <;> first | (exfalso; omega) | (exact absurd rfl htest) | (exact absurd (by decide) htest) | (conv => whnf)) | (refine allG rfl ?_; conv => whnf) | (refine And.intro (by first | omega | assumption | kernel_rfl | exact And.intro rfl rfl | ((try dsimp only [inR, idx, lowOf]); first | omega | (with_reducible decide) | (simp; omega) | fail) | fail) ?_; conv => whnf) | fail)
      refine ⟨_, m_cost, (((fitN c), (fitL c l)), r), [], false, ?_⟩
      conv => whnf
      refine And.intro (vc0 ⟨hcL, hlL, (show r.length ≤ 17592186044416 by omega)⟩ (by (repeat' (first | exact trivial | exact rfl | refine And.intro ?_ ?_ | (refine congrArg vI ?_; first | omega | (dsimp only; omega) | fail) | (refine congrArg some ?_) | omega | exact Nat.le_refl _ | exact congrArg (SV.lst _) (List.take_of_length_le (Nat.le_refl _)).symm))) (by repeat' (first | exact trivial | exact rfl | refine And.intro ?_ ?_ | (refine congrArg vI ?_; first | omega | (dsimp only; omega) | fail) | (refine congrArg some ?_) | omega | exact Nat.le_refl _ | exact congrArg (SV.lst _) (List.take_of_length_le (Nat.le_refl _)).symm)) trivial trivial) ?_
      refine And.intro ⟨(), trivial⟩ (fun (_ : Unit) _ => ?_)
      conv => whnf
      conv => whnf
      repeat' (first | (refine tell (fun htest => ?_) (fun htest => ?_) <;> (try dsimp only at htest) <;> first | (exfalso; omega) | (exact absurd rfl htest) | (exact absurd (by decide) htest) | (conv => whnf)) | (refine allG rfl ?_; conv => whnf) | (refine And.intro (by first | omega | assumption | kernel_rfl | exact And.intro rfl rfl | ((try dsimp only [inR, idx, lowOf]); first | omega | (with_reducible decide) | (simp; omega) | fail) | fail) ?_; conv => whnf) | fail)
      exact ⟨(), [], trivial, rfl, trivial, trivial⟩
end Go.Sx

