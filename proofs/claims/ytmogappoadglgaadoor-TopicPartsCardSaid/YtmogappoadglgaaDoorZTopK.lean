/-
  Layer 7, part K: TopicParts.
-/
import Derived.Test.YtmogappoadglgaaDoorZTopJ0
set_option linter.unusedVariables false
set_option linter.unusedSimpArgs false
namespace Go.Sx
open Go Go.Proofs Go.Proofs.YtmogappoadglgaaDoor
/-- The k-th part with a plus behind it. -/
def otherP (t : Topic) (k j : Nat) : Txt := if j = k then (partsT t).getD j [] ++ [43] else (partsT t).getD j []
theorem otherP_len {t : Topic} (h : okT t = true) (k j : Nat) : (otherP t k j).length ≤ 20 := by
  have := partsT_len h j
  unfold otherP
  split
  · rw [List.length_append]; show _ + 1 ≤ _; omega
  · omega
theorem okB_len1 {l : Txt} (h : l ≠ []) : plainP (l ++ [43]) := by
  cases l with
  | nil => exact absurd rfl h
  | cons x l => exact ⟨fun e => by have := congrArg List.length e; simp at this, fun e => by have := congrArg List.length e; simp at this⟩
theorem nameF_ne {m : Txt} (h : nameF m = true) : m ≠ [] := by rintro rfl; exact absurd h (by decide)
theorem kindT_ne {m : Txt} (h : kindT m = true) : m ≠ [] := by rintro rfl; exact absurd h (by decide)
theorem other_no {t : Topic} (h : okT t = true) {k : Nat} (hk : k < 5) : matchP (partsN (plusG (otherP t k) 5)) (partsN (textT t)) = false := by
  have hfr := partsT_free h
  have hobt := okT_iff.1 h
  obtain ⟨h1, h2, h3⟩ := hobt
  have n1 := nameF_ne h1
  have n2 := nameF_ne h2
  have n3 := kindT_ne h3
  rw [plusG_five, parts_text h]
  obtain ⟨m, s, d⟩ := t
  have hall : ∀ j, j < 5 → 47 ∉ otherP (m, s, d) k j ∧ plainP (otherP (m, s, d) k j) := fun j hj => by
    have hj2 : 47 ∉ (partsT (m, s, d)).getD j [] ∧ plainP ((partsT (m, s, d)).getD j []) ∧ (partsT (m, s, d)).getD j [] ≠ [] := by
      match j, hj with
      | 0, _ => exact ⟨(hfr _ (by simp [partsT])).1, (hfr _ (by simp [partsT])).2, by show uagvL ≠ []; decide⟩
      | 1, _ => exact ⟨(hfr v2L (by simp [partsT])).1, (hfr v2L (by simp [partsT])).2, by show v2L ≠ []; decide⟩
      | 2, _ => exact ⟨(hfr m (by simp [partsT])).1, (hfr m (by simp [partsT])).2, n1⟩
      | 3, _ => exact ⟨(hfr s (by simp [partsT])).1, (hfr s (by simp [partsT])).2, n2⟩
      | 4, _ => exact ⟨(hfr d (by simp [partsT])).1, (hfr d (by simp [partsT])).2, n3⟩
    unfold otherP
    split
    · refine ⟨fun hm => ?_, okB_len1 hj2.2.2⟩
      rcases List.mem_append.1 hm with hm | hm
      · exact hj2.1 hm
      · exact absurd (List.mem_singleton.1 hm) (by decide)
    · exact ⟨hj2.1, hj2.2.1⟩
  have hmem : ∀ p ∈ [otherP (m, s, d) k 0, otherP (m, s, d) k 1, otherP (m, s, d) k 2, otherP (m, s, d) k 3, otherP (m, s, d) k 4], 47 ∉ p ∧ plainP p := fun p hp => by
    simp only [List.mem_cons, List.not_mem_nil, or_false] at hp
    rcases hp with rfl | rfl | rfl | rfl | rfl
    · exact hall 0 (by decide)
    · exact hall 1 (by decide)
    · exact hall 2 (by decide)
    · exact hall 3 (by decide)
    · exact hall 4 (by decide)
  rw [partsN_join (by simp) fun p hp => (hmem p hp).1, matchP_plain fun p hp => (hmem p hp).2]
  refine decide_eq_false fun e => ?_
  have hneq : ∀ l : Txt, l ++ [43] ≠ l := fun l e => by
    have := congrArg List.length e
    rw [List.length_append] at this
    simp at this
  simp only [partsT, List.cons.injEq, and_true] at e
  obtain ⟨e0, e1, e2, e3, e4⟩ := e
  match k, hk with
  | 0, _ => exact hneq _ e0
  | 1, _ => exact hneq _ e1
  | 2, _ => exact hneq _ e2
  | 3, _ => exact hneq _ e3
  | 4, _ => exact hneq _ e4
theorem less_parts {t : Topic} (h : okT t = true) {k : Nat} (hk : 1 ≤ k) : partsN (joinN ((partsT t).take k)) = (partsT t).take k :=
  partsN_join (by obtain ⟨j, rfl⟩ : ∃ j, k = j + 1 := ⟨k - 1, by omega⟩; simp [partsT]) fun p hp => free_parts h p (List.mem_of_mem_take hp)
theorem take_ne {t : Topic} {k : Nat} (hk : k < 5) : (partsT t).take k ≠ partsT t := fun e => by
  have := congrArg List.length e
  rw [List.length_take] at this
  have h5 : (partsT t).length = 5 := rfl
  omega
theorem less_no {t : Topic} (h : okT t = true) {k : Nat} (hk : 1 ≤ k) (hk5 : k < 5) : matchP (partsN (joinN ((partsT t).take k))) (partsN (textT t)) = false := by
  rw [less_parts h hk, parts_text h, matchP_plain fun f hf => plain_parts h f (List.mem_of_mem_take hf), decide_eq_false (take_ne hk5)]
theorem less_no' {t : Topic} (h : okT t = true) {k : Nat} (hk : 1 ≤ k) (hk5 : k < 5) : matchP (partsN (textT t)) (partsN (joinN ((partsT t).take k))) = false := by
  rw [less_parts h hk, parts_text h, matchP_plain (plain_parts h), decide_eq_false fun e => take_ne hk5 e.symm]
theorem less_hash {t : Topic} (h : okT t = true) {k : Nat} (hk : 1 ≤ k) : matchP (partsN (joinN ((partsT t).take k) ++ [47, 35])) (partsN (textT t)) = true := by
  rw [show joinN ((partsT t).take k) ++ [47, 35] = joinN ((partsT t).take k) ++ 47 :: [35] from rfl, partsN_app2, less_parts h hk, parts_text h, partsN_one (by decide)]
  conv => lhs; arg 2; rw [← List.take_append_drop k (partsT t)]
  rw [matchP_app _ _ _ (by simp)]
  exact matchP_hash _
theorem more_plus {t : Topic} (h : okT t = true) : matchP (partsN (textT t ++ [47, 43])) (partsN (textT t)) = false := by
  rw [show textT t ++ [47, 43] = textT t ++ 47 :: [43] from rfl, more_parts h _ (by decide), parts_text h]
  conv => lhs; arg 2; rw [← List.append_nil (partsT t)]
  rw [matchP_app _ _ _ (by simp)]
  decide
theorem join_snoc : ∀ {ps : List Txt} (p : Txt), ps ≠ [] → joinN (ps ++ [p]) = joinN ps ++ 47 :: p
  | [], _, h => absurd rfl h
  | [q], p, _ => rfl
  | q :: r :: ps, p, _ => by
    have ih := join_snoc (ps := r :: ps) p (by simp)
    show joinN (q :: (r :: ps ++ [p])) = _
    rw [joinN_cons (p := q) (ps := r :: ps ++ [p]) (by simp), ih, joinN_cons (p := q) (ps := r :: ps) (by simp), List.append_assoc]
    rfl
theorem join_len {ps : List Txt} (h : ∀ p ∈ ps, p.length ≤ 16) : (joinN ps).length ≤ 17 * ps.length := by
  induction ps with
  | nil => simp [joinN]
  | cons p ps ih =>
    have h1 := h p (List.mem_cons_self ..)
    have h2 := ih fun q hq => h q (List.mem_cons_of_mem _ hq)
    by_cases hn : ps = []
    · subst hn; simp [joinN]; omega
    · rw [joinN_cons hn, List.length_append, List.length_cons, List.length_cons]; omega
theorem less_len {t : Topic} (h : okT t = true) (k : Nat) : (joinN ((partsT t).take k)).length ≤ 85 := by
  have := join_len (ps := (partsT t).take k) fun p hp => by
    have hobt := List.mem_iff_getElem?.1 (List.mem_of_mem_take hp)
    obtain ⟨j, hj⟩ := hobt
    have := partsT_len h j
    rw [List.getD_eq_getElem?_getD, hj] at this
    exact this
  have h5 : (partsT t).length = 5 := rfl
  rw [List.length_take] at this
  omega
abbrev pParts (g : Txt × Txt × Int × Int) : Prop := InI g.2.2.1 ∧ InI g.2.2.2
set_option maxRecDepth 100000 in
set_option maxHeartbeats 1600000 in
theorem m_topicParts : Meets Tryd.prog regF 18 (spLaw (fun g : Txt × Txt × Int × Int => [vS g.1, vS g.2.1, vI g.2.2.1, vI g.2.2.2]) pParts) := by
  refine meetsC Tryd.func18 111 noWr rfl (by kernel_rfl) (by kernel_rfl) ?_
  rintro ⟨(a : Txt), (b : Txt), (c : Int), (part : Int)⟩ ⟨(hc : InI c), (hpt : InI part)⟩
  have hobt : ∃ x, topicF a b c = x := ⟨_, rfl⟩
  obtain ⟨x, hxe⟩ := hobt
  have hx := topicF_ok a b c
  rw [hxe] at hx
  have hp0 := at_topic hc hxe
  clear hxe
  have hp1 := at_print hx
  have hkb := pickF_bd (c := part) (n := 4) (by decide)
  have hobt : ∃ k : Nat, 1 + pickF part 4 = k := ⟨(1 + pickF part 4).toNat, by omega⟩
  obtain ⟨k, hk⟩ := hobt
  have hk5 : k < 5 := by omega
  have hk1 : 1 ≤ k := by omega
  have hpk := meets_at m_pick07 (part, 4) ⟨hpt, by show (0 : Int) < 4; decide⟩ (vI ((k : Int) - 1)) fun _ => congrArg vI (by show pickF part 4 = _; omega)
  obtain ⟨x1, x2, x3⟩ := x
  have g0 : ((partsT (x1, x2, x3)).map bS)[0]? = some (bS uagvL) := rfl
  conv => whnf
  repeat' (first | (refine tell (fun hQ => ?_) (fun hQ => ?_) <;> (try dsimp only at hQ) <;> first | (exfalso; omega) | (exact absurd rfl hQ) | (exact absurd (by decide) hQ) | (conv => whnf)) | (refine allG rfl ?_; conv => whnf) | (refine ⟨none, ?_⟩; conv => whnf) | (refine And.intro (by first | omega | assumption | kernel_rfl | exact And.intro rfl rfl | ((try dsimp only [inR, idx, lowOf]); first | omega | (with_reducible decide) | (simp; omega) | (simp; done) | fail) | fail) ?_; conv => whnf) | fail)
  refine ⟨_, m_awake07, (), [], false, ?_⟩
  conv => whnf
  refine And.intro (vc0 trivial (by (repeat' (first | exact trivial | exact rfl | refine And.intro ?_ ?_ | (refine congrArg vI ?_; first | omega | (dsimp only; omega) | fail) | (refine congrArg some ?_) | omega | exact Nat.le_refl _ | exact congrArg (SV.lst _) (List.take_of_length_le (Nat.le_refl _)).symm))) (by repeat' (first | exact trivial | exact rfl | refine And.intro ?_ ?_ | (refine congrArg vI ?_; first | omega | (dsimp only; omega) | fail) | (refine congrArg some ?_) | omega | exact Nat.le_refl _ | exact congrArg (SV.lst _) (List.take_of_length_le (Nat.le_refl _)).symm)) trivial trivial) ?_
  refine And.intro ⟨(), trivial⟩ (fun (_ : Unit) _ => ?_)
  conv => whnf
  conv => whnf
  repeat' (first | (refine tell (fun hQ => ?_) (fun hQ => ?_) <;> (try dsimp only at hQ) <;> first | (exfalso; omega) | (exact absurd rfl hQ) | (exact absurd (by decide) hQ) | (conv => whnf)) | (refine allG rfl ?_; conv => whnf) | (refine ⟨none, ?_⟩; conv => whnf) | (refine And.intro (by first | omega | assumption | kernel_rfl | exact And.intro rfl rfl | ((try dsimp only [inR, idx, lowOf]); first | omega | (with_reducible decide) | (simp; omega) | (simp; done) | fail) | fail) ?_; conv => whnf) | fail)
  refine ⟨_, hp0, (), [], false, ?_⟩
  conv => whnf
  refine And.intro (vc0 trivial (by (repeat' (first | exact trivial | exact rfl | refine And.intro ?_ ?_ | (refine congrArg vI ?_; first | omega | (dsimp only; omega) | fail) | (refine congrArg some ?_) | omega | exact Nat.le_refl _ | exact congrArg (SV.lst _) (List.take_of_length_le (Nat.le_refl _)).symm))) (by repeat' (first | exact trivial | exact rfl | refine And.intro ?_ ?_ | (refine congrArg vI ?_; first | omega | (dsimp only; omega) | fail) | (refine congrArg some ?_) | omega | exact Nat.le_refl _ | exact congrArg (SV.lst _) (List.take_of_length_le (Nat.le_refl _)).symm)) trivial trivial) ?_
  refine And.intro ⟨(), trivial⟩ (fun (_ : Unit) _ => ?_)
  conv => whnf
  conv => whnf
  repeat' (first | (refine tell (fun hQ => ?_) (fun hQ => ?_) <;> (try dsimp only at hQ) <;> first | (exfalso; omega) | (exact absurd rfl hQ) | (exact absurd (by decide) hQ) | (conv => whnf)) | (refine allG rfl ?_; conv => whnf) | (refine ⟨none, ?_⟩; conv => whnf) | (refine And.intro (by first | omega | assumption | kernel_rfl | exact And.intro rfl rfl | ((try dsimp only [inR, idx, lowOf]); first | omega | (with_reducible decide) | (simp; omega) | (simp; done) | fail) | fail) ?_; conv => whnf) | fail)
  refine ⟨_, hp1, (), [], false, ?_⟩
  conv => whnf
  refine And.intro (vc0 trivial (by (repeat' (first | exact trivial | exact rfl | refine And.intro ?_ ?_ | (refine congrArg vI ?_; first | omega | (dsimp only; omega) | fail) | (refine congrArg some ?_) | omega | exact Nat.le_refl _ | exact congrArg (SV.lst _) (List.take_of_length_le (Nat.le_refl _)).symm))) (by repeat' (first | exact trivial | exact rfl | refine And.intro ?_ ?_ | (refine congrArg vI ?_; first | omega | (dsimp only; omega) | fail) | (refine congrArg some ?_) | omega | exact Nat.le_refl _ | exact congrArg (SV.lst _) (List.take_of_length_le (Nat.le_refl _)).symm)) trivial trivial) ?_
  refine And.intro ⟨(), trivial⟩ (fun (_ : Unit) _ => ?_)
  conv => whnf
  conv => whnf
  repeat' (first | (refine tell (fun hQ => ?_) (fun hQ => ?_) <;> (try dsimp only at hQ) <;> first | (exfalso; omega) | (exact absurd rfl hQ) | (exact absurd (by decide) hQ) | (conv => whnf)) | (refine allG rfl ?_; conv => whnf) | (refine ⟨none, ?_⟩; conv => whnf) | (refine And.intro (by first | omega | assumption | kernel_rfl | exact And.intro rfl rfl | ((try dsimp only [inR, idx, lowOf]); first | omega | (with_reducible decide) | (simp; omega) | (simp; done) | fail) | fail) ?_; conv => whnf) | fail)
  refine ⟨_, hpk, (), [], false, ?_⟩
  conv => whnf
  refine And.intro (vc0 trivial (by (repeat' (first | exact trivial | exact rfl | refine And.intro ?_ ?_ | (refine congrArg vI ?_; first | omega | (dsimp only; omega) | fail) | (refine congrArg some ?_) | omega | exact Nat.le_refl _ | exact congrArg (SV.lst _) (List.take_of_length_le (Nat.le_refl _)).symm))) (by repeat' (first | exact trivial | exact rfl | refine And.intro ?_ ?_ | (refine congrArg vI ?_; first | omega | (dsimp only; omega) | fail) | (refine congrArg some ?_) | omega | exact Nat.le_refl _ | exact congrArg (SV.lst _) (List.take_of_length_le (Nat.le_refl _)).symm)) trivial trivial) ?_
  refine And.intro ⟨(), trivial⟩ (fun (_ : Unit) _ => ?_)
  conv => whnf
  conv => whnf
  repeat' (first | (refine tell (fun hQ => ?_) (fun hQ => ?_) <;> (try dsimp only at hQ) <;> first | (exfalso; omega) | (exact absurd rfl hQ) | (exact absurd (by decide) hQ) | (conv => whnf)) | (refine allG (x := _) (by first | exact g0 | simpa [List.getElem?_append_right, lowOf] using g0 | fail) ?_; conv => whnf) | (refine allLst (x := _) (by first | omega | assumption | fail) (by first | exact g0 | simpa using g0 | fail) ?_; conv => whnf) | (refine allG rfl ?_; conv => whnf) | (refine ⟨none, ?_⟩; conv => whnf) | (refine And.intro (by first | omega | assumption | kernel_rfl | exact And.intro rfl rfl | ((try dsimp only [inR, idx, lowOf]); first | omega | (with_reducible decide) | (simp; omega) | (simp; done) | fail) | fail) ?_; conv => whnf) | fail)
  have hll := less_len hx
  refine ⟨Nat, fun i => ⟨[(9, vB true), (11, vS (textT (x1, x2, x3))), (12, vI 0), (13, .sl 1036 1 0 5), (14, vI k), (15, vS ((joinN ((partsT (x1, x2, x3)).take i)))), (16, vI i)], [(1036, .arr 9 ((partsT (x1, x2, x3)).map bS))]⟩, fun i => 1 ≤ i ∧ i ≤ k, fun i => k - i, fun _ _ => rfl, ⟨1, [], ⟨Nat.le_refl _, hk1⟩, ?_⟩, ?_⟩
  · refine ⟨rfl, ?_, ?_, rfl⟩
    all_goals (repeat' (first | exact trivial | exact rfl | refine And.intro ?_ ?_ | (refine congrArg vI ?_; first | omega | (dsimp only; omega) | fail) | (refine congrArg some ?_) | omega | exact Nat.le_refl _ | exact congrArg (SV.lst _) (List.take_of_length_le (Nat.le_refl _)).symm))
    all_goals (refine congrArg vI ?_; omega)
  clear hp0 hp1 hpk
  rintro (i : Nat) ⟨(hi1 : 1 ≤ i), (hi : i ≤ k)⟩
  by_cases hlt : i < k
  · as_aux_lemma =>
    have hobt : ∃ p, (partsT (x1, x2, x3))[i]? = some p := ⟨_, List.getElem?_eq_getElem (by show i < 5; omega)⟩
    obtain ⟨p, hp⟩ := hobt
    have hpm : ((partsT (x1, x2, x3)).map bS)[0 + ((i : Nat) : Int).toNat]? = some (bS p) := by rw [Nat.zero_add, show ((i : Nat) : Int).toNat = i from rfl, List.getElem?_map, hp]; rfl
    have hp16 := partsT_len hx i
    rw [List.getD_eq_getElem?_getD, hp] at hp16
    have hp16 : p.length ≤ 16 := hp16
    have hli := hll i
    have z0 := size_bS ((joinN ((partsT (x1, x2, x3)).take i)))
    have z1 : (bS p).size = p.length := size_bS p
    have z47 : (⟨#[47]⟩ : ByteArray).size = 1 := rfl
    have z2 : ((⟨((joinN ((partsT (x1, x2, x3)).take i))).toArray⟩ : ByteArray) ++ ⟨#[47]⟩).size = ((joinN ((partsT (x1, x2, x3)).take i))).length + 1 := cat_size (a := (joinN ((partsT (x1, x2, x3)).take i))) (b := [47])
    have e1 : (⟨((joinN ((partsT (x1, x2, x3)).take i))).toArray⟩ : ByteArray) ++ ⟨#[47]⟩ ++ bS p = ⟨(joinN ((partsT (x1, x2, x3)).take (i + 1))).toArray⟩ := by
      have : (partsT (x1, x2, x3)).take i ≠ [] := by
        have hobt : ∃ j, i = j + 1 := ⟨i - 1, by omega⟩
        obtain ⟨j, rfl⟩ := hobt
        simp [partsT]
      rw [take_snocI hp, join_snoc p this]
      have h1 : (⟨((joinN ((partsT (x1, x2, x3)).take i))).toArray⟩ : ByteArray) ++ ⟨#[47]⟩ = ⟨((joinN ((partsT (x1, x2, x3)).take i)) ++ [47]).toArray⟩ := bS_append _ [47]
      rw [h1, bS_append, List.append_assoc]
      rfl
    conv => whnf
    repeat' (first | (refine tell (fun hQ => ?_) (fun hQ => ?_) <;> (try dsimp only at hQ) <;> first | (exfalso; omega) | (exact absurd rfl hQ) | (exact absurd (by decide) hQ) | (conv => whnf)) | (refine allG (x := _) (by first | exact hpm | simpa [List.getElem?_append_right, lowOf] using hpm | fail) ?_; conv => whnf) | (refine allLst (x := _) (by first | omega | assumption | fail) (by first | exact hpm | simpa using hpm | fail) ?_; conv => whnf) | (refine allG rfl ?_; conv => whnf) | (refine ⟨none, ?_⟩; conv => whnf) | (refine And.intro (by first | omega | assumption | kernel_rfl | exact And.intro rfl rfl | ((try dsimp only [inR, idx, lowOf]); first | omega | (with_reducible decide) | (simp; omega) | (simp; done) | fail) | fail) ?_; conv => whnf) | fail)
    refine ⟨i + 1, [], ⟨by omega, hlt⟩, ?_, rfl, ?_, ?_, rfl⟩
    · dsimp only; first | omega | (simp; done) | (simp; omega)
    all_goals (repeat' (first | exact trivial | exact rfl | refine And.intro ?_ ?_ | (refine congrArg vI ?_; first | omega | (dsimp only; omega) | fail) | (refine congrArg some ?_) | omega | exact Nat.le_refl _ | exact congrArg (SV.lst _) (List.take_of_length_le (Nat.le_refl _)).symm))
    exact congrArg (fun y => SV.val (A := AF) (.string y)) e1
  have hobt : k = i := by omega
  obtain rfl := hobt
  have hpl := otherP_len hx k
  have hgl := plusG_len hpl
  clear hi hlt
  conv => whnf
  repeat' (first | (refine tell (fun hQ => ?_) (fun hQ => ?_) <;> (try dsimp only at hQ) <;> first | (exfalso; omega) | (exact absurd rfl hQ) | (exact absurd (by decide) hQ) | (conv => whnf)) | (refine allG rfl ?_; conv => whnf) | (refine ⟨none, ?_⟩; conv => whnf) | (refine And.intro (by first | omega | assumption | kernel_rfl | exact And.intro rfl rfl | ((try dsimp only [inR, idx, lowOf]); first | omega | (with_reducible decide) | (simp; omega) | (simp; done) | fail) | fail) ?_; conv => whnf) | fail)
  refine ⟨Nat, fun i => ⟨[(9, vB true), (11, vS (textT (x1, x2, x3))), (12, vI 0), (13, .sl 1036 1 0 5), (14, vI k), (15, vS (joinN ((partsT (x1, x2, x3)).take k))), (17, vS ((plusG (otherP (x1, x2, x3) k) i))), (18, vI i)], [(1036, .arr 9 ((partsT (x1, x2, x3)).map bS))]⟩, fun i => i ≤ 5, fun i => 5 - i, fun _ _ => rfl, ⟨0, [], Nat.zero_le _, ?_⟩, ?_⟩
  · refine ⟨rfl, ?_, ?_, rfl⟩
    all_goals (repeat' (first | exact trivial | exact rfl | refine And.intro ?_ ?_ | (refine congrArg vI ?_; first | omega | (dsimp only; omega) | fail) | (refine congrArg some ?_) | omega | exact Nat.le_refl _ | exact congrArg (SV.lst _) (List.take_of_length_le (Nat.le_refl _)).symm))
  rintro (i : Nat) (hi : i ≤ 5)
  by_cases hlt : i < 5
  · as_aux_lemma =>
    have hobt : ∃ p, (partsT (x1, x2, x3))[i]? = some p := ⟨_, List.getElem?_eq_getElem (by show i < 5; exact hlt)⟩
    obtain ⟨p, hp⟩ := hobt
    have hpm : ((partsT (x1, x2, x3)).map bS)[0 + ((i : Nat) : Int).toNat]? = some (bS p) := by rw [Nat.zero_add, show ((i : Nat) : Int).toNat = i from rfl, List.getElem?_map, hp]; rfl
    have hpg : (partsT (x1, x2, x3)).getD i [] = p := by rw [List.getD_eq_getElem?_getD, hp]; rfl
    have hp16 := partsT_len hx i
    rw [hpg] at hp16
    have hs := plusG_succ (otherP (x1, x2, x3) k) i
    have hgi := hgl i
    have z0 := size_bS ((plusG (otherP (x1, x2, x3) k) i))
    have z1 : (bS p).size = p.length := size_bS p
    have z43 : (⟨#[43]⟩ : ByteArray).size = 1 := rfl
    have z47 : (⟨#[47]⟩ : ByteArray).size = 1 := rfl
    have z2 : ((⟨((plusG (otherP (x1, x2, x3) k) i)).toArray⟩ : ByteArray) ++ bS p).size = ((plusG (otherP (x1, x2, x3) k) i)).length + p.length := cat_size
    have z4 : (bS p ++ ⟨#[43]⟩).size = p.length + 1 := cat_size (a := p) (b := [43])
    have z3 : ((⟨((plusG (otherP (x1, x2, x3) k) i)).toArray⟩ : ByteArray) ++ (bS p ++ ⟨#[43]⟩)).size = ((plusG (otherP (x1, x2, x3) k) i)).length + (p.length + 1) := by
      rw [show bS p ++ ⟨#[43]⟩ = bS (p ++ [43]) from bS_append p [43]]
      have := cat_size (a := (plusG (otherP (x1, x2, x3) k) i)) (b := p ++ [43])
      rw [List.length_append] at this
      exact this
    by_cases hik : i = k
    · have hgp : otherP (x1, x2, x3) k i = p ++ [43] := by unfold otherP; rw [if_pos hik, hpg]
      rw [hgp] at hs
      have e0 : bS p ++ ⟨#[43]⟩ = bS (p ++ [43]) := bS_append p [43]
      by_cases h4 : i < 4
      · rw [if_pos h4] at hs
        have e1 : (⟨((plusG (otherP (x1, x2, x3) k) i)).toArray⟩ : ByteArray) ++ (bS p ++ ⟨#[43]⟩) ++ ⟨#[47]⟩ = ⟨(plusG (otherP (x1, x2, x3) k) (i + 1)).toArray⟩ := by
          rw [hs, e0, ← List.append_assoc, ← bS_append, ← bS_append]
        conv => whnf
        repeat' (first | (refine tell (fun hQ => ?_) (fun hQ => ?_) <;> (try dsimp only at hQ) <;> first | (exfalso; omega) | (exact absurd rfl hQ) | (exact absurd (by decide) hQ) | (conv => whnf)) | (refine allG (x := _) (by first | exact hpm | simpa [List.getElem?_append_right, lowOf] using hpm | fail) ?_; conv => whnf) | (refine allLst (x := _) (by first | omega | assumption | fail) (by first | exact hpm | simpa using hpm | fail) ?_; conv => whnf) | (refine allG rfl ?_; conv => whnf) | (refine ⟨none, ?_⟩; conv => whnf) | (refine And.intro (by first | omega | assumption | kernel_rfl | exact And.intro rfl rfl | ((try dsimp only [inR, idx, lowOf]); first | omega | (with_reducible decide) | (simp; omega) | (simp; done) | fail) | fail) ?_; conv => whnf) | fail)
        refine ⟨i + 1, [], hlt, ?_, rfl, ?_, ?_, rfl⟩
        · dsimp only; first | omega | (simp; done) | (simp; omega)
        all_goals (repeat' (first | exact trivial | exact rfl | refine And.intro ?_ ?_ | (refine congrArg vI ?_; first | omega | (dsimp only; omega) | fail) | (refine congrArg some ?_) | omega | exact Nat.le_refl _ | exact congrArg (SV.lst _) (List.take_of_length_le (Nat.le_refl _)).symm))
        exact congrArg (fun y => SV.val (A := AF) (.string y)) e1
      · rw [if_neg h4] at hs
        have e1 : (⟨((plusG (otherP (x1, x2, x3) k) i)).toArray⟩ : ByteArray) ++ (bS p ++ ⟨#[43]⟩) = ⟨(plusG (otherP (x1, x2, x3) k) (i + 1)).toArray⟩ := by
          rw [hs, e0, List.append_nil, ← bS_append]
        conv => whnf
        repeat' (first | (refine tell (fun hQ => ?_) (fun hQ => ?_) <;> (try dsimp only at hQ) <;> first | (exfalso; omega) | (exact absurd rfl hQ) | (exact absurd (by decide) hQ) | (conv => whnf)) | (refine allG (x := _) (by first | exact hpm | simpa [List.getElem?_append_right, lowOf] using hpm | fail) ?_; conv => whnf) | (refine allLst (x := _) (by first | omega | assumption | fail) (by first | exact hpm | simpa using hpm | fail) ?_; conv => whnf) | (refine allG rfl ?_; conv => whnf) | (refine ⟨none, ?_⟩; conv => whnf) | (refine And.intro (by first | omega | assumption | kernel_rfl | exact And.intro rfl rfl | ((try dsimp only [inR, idx, lowOf]); first | omega | (with_reducible decide) | (simp; omega) | (simp; done) | fail) | fail) ?_; conv => whnf) | fail)
        refine ⟨i + 1, [], hlt, ?_, rfl, ?_, ?_, rfl⟩
        · dsimp only; first | omega | (simp; done) | (simp; omega)
        all_goals (repeat' (first | exact trivial | exact rfl | refine And.intro ?_ ?_ | (refine congrArg vI ?_; first | omega | (dsimp only; omega) | fail) | (refine congrArg some ?_) | omega | exact Nat.le_refl _ | exact congrArg (SV.lst _) (List.take_of_length_le (Nat.le_refl _)).symm))
        exact congrArg (fun y => SV.val (A := AF) (.string y)) e1
    · have hgp : otherP (x1, x2, x3) k i = p := by unfold otherP; rw [if_neg hik, hpg]
      rw [hgp] at hs
      by_cases h4 : i < 4
      · rw [if_pos h4] at hs
        have e1 : (⟨((plusG (otherP (x1, x2, x3) k) i)).toArray⟩ : ByteArray) ++ bS p ++ ⟨#[47]⟩ = ⟨(plusG (otherP (x1, x2, x3) k) (i + 1)).toArray⟩ := by
          rw [hs, ← List.append_assoc, ← bS_append, ← bS_append]
        conv => whnf
        repeat' (first | (refine tell (fun hQ => ?_) (fun hQ => ?_) <;> (try dsimp only at hQ) <;> first | (exfalso; omega) | (exact absurd rfl hQ) | (exact absurd (by decide) hQ) | (conv => whnf)) | (refine allG (x := _) (by first | exact hpm | simpa [List.getElem?_append_right, lowOf] using hpm | fail) ?_; conv => whnf) | (refine allLst (x := _) (by first | omega | assumption | fail) (by first | exact hpm | simpa using hpm | fail) ?_; conv => whnf) | (refine allG rfl ?_; conv => whnf) | (refine ⟨none, ?_⟩; conv => whnf) | (refine And.intro (by first | omega | assumption | kernel_rfl | exact And.intro rfl rfl | ((try dsimp only [inR, idx, lowOf]); first | omega | (with_reducible decide) | (simp; omega) | (simp; done) | fail) | fail) ?_; conv => whnf) | fail)
        refine ⟨i + 1, [], hlt, ?_, rfl, ?_, ?_, rfl⟩
        · dsimp only; first | omega | (simp; done) | (simp; omega)
        all_goals (repeat' (first | exact trivial | exact rfl | refine And.intro ?_ ?_ | (refine congrArg vI ?_; first | omega | (dsimp only; omega) | fail) | (refine congrArg some ?_) | omega | exact Nat.le_refl _ | exact congrArg (SV.lst _) (List.take_of_length_le (Nat.le_refl _)).symm))
        exact congrArg (fun y => SV.val (A := AF) (.string y)) e1
      · rw [if_neg h4] at hs
        have e1 : (⟨((plusG (otherP (x1, x2, x3) k) i)).toArray⟩ : ByteArray) ++ bS p = ⟨(plusG (otherP (x1, x2, x3) k) (i + 1)).toArray⟩ := by
          rw [hs, List.append_nil, ← bS_append]
        conv => whnf
        repeat' (first | (refine tell (fun hQ => ?_) (fun hQ => ?_) <;> (try dsimp only at hQ) <;> first | (exfalso; omega) | (exact absurd rfl hQ) | (exact absurd (by decide) hQ) | (conv => whnf)) | (refine allG (x := _) (by first | exact hpm | simpa [List.getElem?_append_right, lowOf] using hpm | fail) ?_; conv => whnf) | (refine allLst (x := _) (by first | omega | assumption | fail) (by first | exact hpm | simpa using hpm | fail) ?_; conv => whnf) | (refine allG rfl ?_; conv => whnf) | (refine ⟨none, ?_⟩; conv => whnf) | (refine And.intro (by first | omega | assumption | kernel_rfl | exact And.intro rfl rfl | ((try dsimp only [inR, idx, lowOf]); first | omega | (with_reducible decide) | (simp; omega) | (simp; done) | fail) | fail) ?_; conv => whnf) | fail)
        refine ⟨i + 1, [], hlt, ?_, rfl, ?_, ?_, rfl⟩
        · dsimp only; first | omega | (simp; done) | (simp; omega)
        all_goals (repeat' (first | exact trivial | exact rfl | refine And.intro ?_ ?_ | (refine congrArg vI ?_; first | omega | (dsimp only; omega) | fail) | (refine congrArg some ?_) | omega | exact Nat.le_refl _ | exact congrArg (SV.lst _) (List.take_of_length_le (Nat.le_refl _)).symm))
        exact congrArg (fun y => SV.val (A := AF) (.string y)) e1
  · have hobt : i = 5 := by omega
    obtain rfl := hobt
    have lx := textT_len hx
    have lp := hgl 5
    have ll := hll k
    have l2 : ∀ q : Txt, q.length = 2 → (textT (x1, x2, x3) ++ q).length ≤ 4000000000000 := fun q hq => by rw [List.length_append]; omega
    have z0 := size_bS (textT (x1, x2, x3))
    have z9 := size_bS (joinN ((partsT (x1, x2, x3)).take k))
    have z143 : (⟨#[47, 43]⟩ : ByteArray).size = 2 := rfl
    have z135 : (⟨#[47, 35]⟩ : ByteArray).size = 2 := rfl
    have c1 : (⟨(textT (x1, x2, x3)).toArray⟩ : ByteArray) ++ ⟨#[47, 43]⟩ = ⟨(textT (x1, x2, x3) ++ [47, 43]).toArray⟩ := bS_append _ [47, 43]
    have c2 : (⟨(joinN ((partsT (x1, x2, x3)).take k)).toArray⟩ : ByteArray) ++ ⟨#[47, 35]⟩ = ⟨(joinN ((partsT (x1, x2, x3)).take k) ++ [47, 35]).toArray⟩ := bS_append _ [47, 35]
    have hm1 := at_match (f := joinN ((partsT (x1, x2, x3)).take k)) (n := textT (x1, x2, x3)) (by omega) (by omega) (less_no hx hk1 hk5)
    have hm2 := at_match (f := joinN ((partsT (x1, x2, x3)).take k) ++ [47, 35]) (n := textT (x1, x2, x3)) (by rw [List.length_append]; show _ + 2 ≤ _; omega) (by omega) (less_hash hx hk1)
    have hm3 := at_match (f := textT (x1, x2, x3) ++ [47, 43]) (n := textT (x1, x2, x3)) (l2 _ rfl) (by omega) (more_plus hx)
    have hm4 := at_match (f := plusG (otherP (x1, x2, x3) k) 5) (n := textT (x1, x2, x3)) (by omega) (by omega) (other_no hx hk5)
    have hm5 := at_match (f := textT (x1, x2, x3)) (n := joinN ((partsT (x1, x2, x3)).take k)) (by omega) (by omega) (less_no' hx hk1 hk5)
    conv => whnf
    repeat' (first | (refine tell (fun hQ => ?_) (fun hQ => ?_) <;> (try dsimp only at hQ) <;> first | (exfalso; omega) | (exact absurd rfl hQ) | (exact absurd (by decide) hQ) | (conv => whnf)) | (refine allG rfl ?_; conv => whnf) | (refine And.intro (by first | omega | assumption | kernel_rfl | exact And.intro rfl rfl | ((try dsimp only [inR, idx, lowOf]); first | omega | (with_reducible decide) | (simp; omega) | (simp; done) | fail) | fail) ?_; conv => whnf) | fail)
    refine ⟨none, ?_⟩
    conv => whnf
    conv => whnf
    repeat' (first | (refine tell (fun hQ => ?_) (fun hQ => ?_) <;> (try dsimp only at hQ) <;> first | (exfalso; omega) | (exact absurd rfl hQ) | (exact absurd (by decide) hQ) | (conv => whnf)) | (refine allG rfl ?_; conv => whnf) | (refine And.intro (by first | omega | assumption | kernel_rfl | exact And.intro rfl rfl | ((try dsimp only [inR, idx, lowOf]); first | omega | (with_reducible decide) | (simp; omega) | (simp; done) | fail) | fail) ?_; conv => whnf) | fail)
    refine ⟨some (⟨[(9, vB true), (11, vS (textT (x1, x2, x3))), (12, vI 0), (15, vS (joinN ((partsT (x1, x2, x3)).take k))), (17, vS (plusG (otherP (x1, x2, x3) k) 5))], []⟩, []), ?_⟩
    conv => whnf
    refine And.intro rfl (And.intro ?_ ?_)
    · refine ⟨rfl, ?_, ?_, rfl⟩
      all_goals (repeat' (first | exact trivial | exact rfl | refine And.intro ?_ ?_ | (refine congrArg vI ?_; first | omega | (dsimp only; omega) | fail) | (refine congrArg some ?_) | omega | exact Nat.le_refl _ | exact congrArg (SV.lst _) (List.take_of_length_le (Nat.le_refl _)).symm))
    as_aux_lemma =>
    conv => whnf
    repeat' (first | (refine tell (fun hQ => ?_) (fun hQ => ?_) <;> (try dsimp only at hQ) <;> first | (exfalso; omega) | (exact absurd rfl hQ) | (exact absurd (by decide) hQ) | (conv => whnf)) | (refine allG rfl ?_; conv => whnf) | (refine ⟨none, ?_⟩; conv => whnf) | (refine And.intro (by first | omega | assumption | kernel_rfl | exact And.intro rfl rfl | ((try dsimp only [inR, idx, lowOf]); first | omega | (with_reducible decide) | (simp; omega) | (simp; done) | fail) | fail) ?_; conv => whnf) | fail)
    refine ⟨_, hm1, (), [], false, ?_⟩
    conv => whnf
    refine And.intro (vc0 trivial (by (repeat' (first | exact trivial | exact rfl | refine And.intro ?_ ?_ | (refine congrArg vI ?_; first | omega | (dsimp only; omega) | fail) | (refine congrArg some ?_) | omega | exact Nat.le_refl _ | exact congrArg (SV.lst _) (List.take_of_length_le (Nat.le_refl _)).symm))) (by repeat' (first | exact trivial | exact rfl | refine And.intro ?_ ?_ | (refine congrArg vI ?_; first | omega | (dsimp only; omega) | fail) | (refine congrArg some ?_) | omega | exact Nat.le_refl _ | exact congrArg (SV.lst _) (List.take_of_length_le (Nat.le_refl _)).symm)) trivial trivial) ?_
    refine And.intro ⟨(), trivial⟩ (fun (_ : Unit) _ => ?_)
    conv => whnf
    conv => whnf
    repeat' (first | (refine tell (fun hQ => ?_) (fun hQ => ?_) <;> (try dsimp only at hQ) <;> first | (exfalso; omega) | (exact absurd rfl hQ) | (exact absurd (by decide) hQ) | (conv => whnf)) | (refine allG rfl ?_; conv => whnf) | (refine ⟨none, ?_⟩; conv => whnf) | (refine And.intro (by first | omega | assumption | kernel_rfl | exact And.intro rfl rfl | ((try dsimp only [inR, idx, lowOf]); first | omega | (with_reducible decide) | (simp; omega) | (simp; done) | fail) | fail) ?_; conv => whnf) | fail)
    refine ⟨_, hm2, (), [], false, ?_⟩
    conv => whnf
    refine And.intro (vc0 trivial (by (repeat' (first | exact trivial | exact rfl | refine And.intro ?_ ?_ | (refine congrArg vI ?_; first | omega | (dsimp only; omega) | fail) | (refine congrArg some ?_) | omega | exact Nat.le_refl _ | exact congrArg (SV.lst _) (List.take_of_length_le (Nat.le_refl _)).symm)); all_goals (exact congrArg (fun y => SV.val (A := AF) (.string y)) c2)) (by repeat' (first | exact trivial | exact rfl | refine And.intro ?_ ?_ | (refine congrArg vI ?_; first | omega | (dsimp only; omega) | fail) | (refine congrArg some ?_) | omega | exact Nat.le_refl _ | exact congrArg (SV.lst _) (List.take_of_length_le (Nat.le_refl _)).symm)) trivial trivial) ?_
    refine And.intro ⟨(), trivial⟩ (fun (_ : Unit) _ => ?_)
    conv => whnf
    conv => whnf
    repeat' (first | (refine tell (fun hQ => ?_) (fun hQ => ?_) <;> (try dsimp only at hQ) <;> first | (exfalso; omega) | (exact absurd rfl hQ) | (exact absurd (by decide) hQ) | (conv => whnf)) | (refine allG rfl ?_; conv => whnf) | (refine ⟨none, ?_⟩; conv => whnf) | (refine And.intro (by first | omega | assumption | kernel_rfl | exact And.intro rfl rfl | ((try dsimp only [inR, idx, lowOf]); first | omega | (with_reducible decide) | (simp; omega) | (simp; done) | fail) | fail) ?_; conv => whnf) | fail)
    refine ⟨_, hm3, (), [], false, ?_⟩
    conv => whnf
    refine And.intro (vc0 trivial (by (repeat' (first | exact trivial | exact rfl | refine And.intro ?_ ?_ | (refine congrArg vI ?_; first | omega | (dsimp only; omega) | fail) | (refine congrArg some ?_) | omega | exact Nat.le_refl _ | exact congrArg (SV.lst _) (List.take_of_length_le (Nat.le_refl _)).symm)); all_goals (exact congrArg (fun y => SV.val (A := AF) (.string y)) c1)) (by repeat' (first | exact trivial | exact rfl | refine And.intro ?_ ?_ | (refine congrArg vI ?_; first | omega | (dsimp only; omega) | fail) | (refine congrArg some ?_) | omega | exact Nat.le_refl _ | exact congrArg (SV.lst _) (List.take_of_length_le (Nat.le_refl _)).symm)) trivial trivial) ?_
    refine And.intro ⟨(), trivial⟩ (fun (_ : Unit) _ => ?_)
    conv => whnf
    conv => whnf
    repeat' (first | (refine tell (fun hQ => ?_) (fun hQ => ?_) <;> (try dsimp only at hQ) <;> first | (exfalso; omega) | (exact absurd rfl hQ) | (exact absurd (by decide) hQ) | (conv => whnf)) | (refine allG rfl ?_; conv => whnf) | (refine ⟨none, ?_⟩; conv => whnf) | (refine And.intro (by first | omega | assumption | kernel_rfl | exact And.intro rfl rfl | ((try dsimp only [inR, idx, lowOf]); first | omega | (with_reducible decide) | (simp; omega) | (simp; done) | fail) | fail) ?_; conv => whnf) | fail)
    refine ⟨_, hm4, (), [], false, ?_⟩
    conv => whnf
    refine And.intro (vc0 trivial (by (repeat' (first | exact trivial | exact rfl | refine And.intro ?_ ?_ | (refine congrArg vI ?_; first | omega | (dsimp only; omega) | fail) | (refine congrArg some ?_) | omega | exact Nat.le_refl _ | exact congrArg (SV.lst _) (List.take_of_length_le (Nat.le_refl _)).symm))) (by repeat' (first | exact trivial | exact rfl | refine And.intro ?_ ?_ | (refine congrArg vI ?_; first | omega | (dsimp only; omega) | fail) | (refine congrArg some ?_) | omega | exact Nat.le_refl _ | exact congrArg (SV.lst _) (List.take_of_length_le (Nat.le_refl _)).symm)) trivial trivial) ?_
    refine And.intro ⟨(), trivial⟩ (fun (_ : Unit) _ => ?_)
    conv => whnf
    conv => whnf
    repeat' (first | (refine tell (fun hQ => ?_) (fun hQ => ?_) <;> (try dsimp only at hQ) <;> first | (exfalso; omega) | (exact absurd rfl hQ) | (exact absurd (by decide) hQ) | (conv => whnf)) | (refine allG rfl ?_; conv => whnf) | (refine ⟨none, ?_⟩; conv => whnf) | (refine And.intro (by first | omega | assumption | kernel_rfl | exact And.intro rfl rfl | ((try dsimp only [inR, idx, lowOf]); first | omega | (with_reducible decide) | (simp; omega) | (simp; done) | fail) | fail) ?_; conv => whnf) | fail)
    refine ⟨_, hm5, (), [], false, ?_⟩
    conv => whnf
    refine And.intro (vc0 trivial (by (repeat' (first | exact trivial | exact rfl | refine And.intro ?_ ?_ | (refine congrArg vI ?_; first | omega | (dsimp only; omega) | fail) | (refine congrArg some ?_) | omega | exact Nat.le_refl _ | exact congrArg (SV.lst _) (List.take_of_length_le (Nat.le_refl _)).symm))) (by repeat' (first | exact trivial | exact rfl | refine And.intro ?_ ?_ | (refine congrArg vI ?_; first | omega | (dsimp only; omega) | fail) | (refine congrArg some ?_) | omega | exact Nat.le_refl _ | exact congrArg (SV.lst _) (List.take_of_length_le (Nat.le_refl _)).symm)) trivial trivial) ?_
    refine And.intro ⟨(), trivial⟩ (fun (_ : Unit) _ => ?_)
    conv => whnf
    conv => whnf
    repeat' (first | (refine tell (fun hQ => ?_) (fun hQ => ?_) <;> (try dsimp only at hQ) <;> first | (exfalso; omega) | (exact absurd rfl hQ) | (exact absurd (by decide) hQ) | (conv => whnf)) | (refine allG rfl ?_; conv => whnf) | (refine ⟨none, ?_⟩; conv => whnf) | (refine And.intro (by first | omega | assumption | kernel_rfl | exact And.intro rfl rfl | ((try dsimp only [inR, idx, lowOf]); first | omega | (with_reducible decide) | (simp; omega) | (simp; done) | fail) | fail) ?_; conv => whnf) | fail)
    exact ⟨(), [], trivial, rfl, trivial, trivial⟩
end Go.Sx

