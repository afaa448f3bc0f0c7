/-
  Layer 7: texts put together part for part; what filters made of them match.
-/
import Derived.Test.YtmogappoadglgaaDoorZTopI
set_option linter.unusedVariables false
set_option linter.unusedSimpArgs false
namespace Go.Sx
open Go Go.Proofs Go.Proofs.YtmogappoadglgaaDoor
theorem cat_size {a b : Txt} : ((⟨a.toArray⟩ : ByteArray) ++ ⟨b.toArray⟩).size = a.length + b.length := by rw [bS_append, size_bS, List.length_append]
/-- The first i of five parts, each but the fifth with a slash behind it. -/
def plusG (g : Nat → Txt) (i : Nat) : Txt := (List.range i).flatMap fun j => g j ++ (if j < 4 then [47] else [])
theorem plusG_succ (g : Nat → Txt) (i : Nat) : plusG g (i + 1) = plusG g i ++ (g i ++ (if i < 4 then [47] else [])) := by
  unfold plusG
  rw [List.range_succ, List.flatMap_append]
  simp
theorem plusG_len {g : Nat → Txt} (h : ∀ j, (g j).length ≤ 20) : ∀ i, (plusG g i).length ≤ 21 * i
  | 0 => by simp [plusG]
  | i + 1 => by
    have h1 := plusG_len h i
    have h2 := h i
    rw [plusG_succ, List.length_append, List.length_append]
    have : (if i < 4 then ([47] : Txt) else []).length ≤ 1 := by split <;> simp
    omega
theorem plusG_five (g : Nat → Txt) : plusG g 5 = joinN [g 0, g 1, g 2, g 3, g 4] := by
  simp [plusG, List.range_succ, joinN]
theorem plusG_hash (g : Nat → Txt) {k : Nat} (hk : k < 5) : plusG g k ++ [35] = joinN ((List.range k).map g ++ [[35]]) := by
  match k, hk with
  | 0, _ => rfl
  | 1, _ => simp [plusG, List.range_succ, joinN]
  | 2, _ => simp [plusG, List.range_succ, joinN]
  | 3, _ => simp [plusG, List.range_succ, joinN]
  | 4, _ => simp [plusG, List.range_succ, joinN]
theorem partsT_len {t : Topic} (h : okT t = true) : ∀ j, ((partsT t).getD j []).length ≤ 16 := by
  obtain ⟨h1, h2, h3⟩ := okT_iff.1 h
  have l1 := nameF_len h1
  have l2 := nameF_len h2
  have l3 := kindT_len h3
  obtain ⟨m, s, k⟩ := t
  intro j
  match j with
  | 0 => show 4 ≤ 16; decide
  | 1 => show 2 ≤ 16; decide
  | 2 => exact l1
  | 3 => exact l2
  | 4 => exact Nat.le_trans l3 (by decide)
  | j + 5 => exact Nat.zero_le _
theorem plain_parts {t : Topic} (h : okT t = true) : ∀ f ∈ partsT t, plainP f := fun f hf => (partsT_free h f hf).2
theorem free_parts {t : Topic} (h : okT t = true) : ∀ f ∈ partsT t, 47 ∉ f := fun f hf => (partsT_free h f hf).1
theorem at_match {f n : Txt} {b : Bool} (hf : f.length ≤ 4000000000000) (hn : n.length ≤ 4000000000000) (h : matchP (partsN f) (partsN n) = b) : Meets Tryd.prog regF 49 (spAt spMatch (f, n) (vB b)) := meets_at m_match (f, n) ⟨hf, hn⟩ _ fun _ => congrArg vB h
/-- The k-th part a plus. -/
def plusP (t : Topic) (k j : Nat) : Txt := if j = k then [43] else (partsT t).getD j []
theorem plusP_len {t : Topic} (h : okT t = true) (k j : Nat) : (plusP t k j).length ≤ 20 := by
  unfold plusP
  split
  · decide
  · have := partsT_len h j; omega
theorem plus_match {t : Topic} (h : okT t = true) {k : Nat} (hk : k < 5) : matchP (partsN (plusG (plusP t k) 5)) (partsN (textT t)) = true := by
  rw [plusG_five, parts_text h, partsN_join (by simp)]
  · obtain ⟨m, s, d⟩ := t
    match k, hk with
    | 0, _ => exact matchP_plus (ps := []) (p := uagvL) [v2L, m, s, d]
    | 1, _ => exact matchP_plus (ps := [uagvL]) (p := v2L) [m, s, d]
    | 2, _ => exact matchP_plus (ps := [uagvL, v2L]) (p := m) [s, d]
    | 3, _ => exact matchP_plus (ps := [uagvL, v2L, m]) (p := s) [d]
    | 4, _ => exact matchP_plus (ps := [uagvL, v2L, m, s]) (p := d) []
  · intro p hp
    have hall : ∀ j, j < 5 → 47 ∉ plusP t k j := fun j hj => by
      unfold plusP
      split
      · decide
      · have := free_parts h
        obtain ⟨m, s, d⟩ := t
        match j, hj with
        | 0, _ => exact this _ (by simp [partsT])
        | 1, _ => exact this _ (by simp [partsT])
        | 2, _ => exact this _ (by simp [partsT])
        | 3, _ => exact this _ (by simp [partsT])
        | 4, _ => exact this _ (by simp [partsT])
    simp only [List.mem_cons, List.not_mem_nil, or_false] at hp
    rcases hp with rfl | rfl | rfl | rfl | rfl
    · exact hall 0 (by decide)
    · exact hall 1 (by decide)
    · exact hall 2 (by decide)
    · exact hall 3 (by decide)
    · exact hall 4 (by decide)
theorem hash_match {t : Topic} (h : okT t = true) {k : Nat} (hk : k < 5) : matchP (partsN (plusG (plusP t k) k ++ [35])) (partsN (textT t)) = true := by
  have hm : (List.range k).map (plusP t k) = (partsT t).take k := by
    obtain ⟨m, s, d⟩ := t
    match k, hk with
    | 0, _ => rfl
    | 1, _ => rfl
    | 2, _ => rfl
    | 3, _ => rfl
    | 4, _ => rfl
  rw [plusG_hash _ hk, hm, parts_text h, partsN_join (by simp)]
  · conv => lhs; arg 2; rw [← List.take_append_drop k (partsT t)]
    rw [matchP_app _ _ _ (by simp)]
    exact matchP_hash _
  · intro p hp
    rcases List.mem_append.1 hp with hp | hp
    · exact free_parts h p (List.mem_of_mem_take hp)
    · rw [List.mem_singleton.1 hp]; decide
theorem more_parts {t : Topic} (h : okT t = true) (p : Txt) (hp : 47 ∉ p) : partsN (textT t ++ 47 :: p) = partsT t ++ [p] := by rw [partsN_app2, parts_text h, partsN_one hp]
theorem ne_more {α : Type} (l : List α) (x : α) : l ≠ l ++ [x] := fun e => by
  have := congrArg List.length e
  rw [List.length_append] at this
  simp at this
theorem more_no {t : Topic} (h : okT t = true) : matchP (partsN (textT t)) (partsN (textT t ++ [47, 121])) = false := by
  rw [show textT t ++ [47, 121] = textT t ++ 47 :: [121] from rfl, more_parts h _ (by decide), parts_text h, matchP_plain (plain_parts h), decide_eq_false (ne_more _ _)]
theorem more_no' {t : Topic} (h : okT t = true) : matchP (partsN (textT t ++ [47, 121])) (partsN (textT t)) = false := by
  rw [show textT t ++ [47, 121] = textT t ++ 47 :: [121] from rfl, more_parts h _ (by decide), parts_text h, matchP_plain, decide_eq_false fun e => ne_more _ _ e.symm]
  intro f hf
  rcases List.mem_append.1 hf with hf | hf
  · exact plain_parts h f hf
  · rw [List.mem_singleton.1 hf]; unfold plainP; decide
theorem more_hash {t : Topic} (h : okT t = true) : matchP (partsN (textT t ++ [47, 35])) (partsN (textT t)) = true := by
  rw [show textT t ++ [47, 35] = textT t ++ 47 :: [35] from rfl, more_parts h _ (by decide), parts_text h]
  conv => lhs; arg 2; rw [← List.append_nil (partsT t)]
  rw [matchP_app _ _ _ (by simp)]
  exact matchP_hash _
theorem match_eq {x y : Topic} (hx : okT x = true) (hy : okT y = true) : matchP (partsN (textT x)) (partsN (textT y)) = decide (textT x = textT y) := by
  rw [parts_text hx, parts_text hy, matchP_plain (plain_parts hx)]
  by_cases e : textT x = textT y
  · rw [decide_eq_true e, decide_eq_true]
    rw [← parts_text hx, ← parts_text hy, e]
  · rw [decide_eq_false e, decide_eq_false]
    intro e'
    exact e (by unfold textT; rw [e'])
end Go.Sx
