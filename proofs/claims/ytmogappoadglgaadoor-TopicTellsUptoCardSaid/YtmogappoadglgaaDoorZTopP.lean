/-
  Layer 7, the plain laws: a text's parts, between slashes; topics and their texts; filters.
-/
import Derived.Lib.Bytealg
import Derived.Test.YtmogappoadglgaaDoorZTopA
set_option linter.unusedVariables false
set_option linter.unusedSimpArgs false
namespace Go.Sx
open Go Go.Proofs Go.Proofs.YtmogappoadglgaaDoor
abbrev Txt := List UInt8
/-- A text's parts, between slashes. -/
def partsN : Txt → List Txt
  | [] => [[]]
  | b :: l => if b = 47 then [] :: partsN l else (b :: (partsN l).headD []) :: (partsN l).tail
theorem partsN_ne : ∀ l, partsN l ≠ []
  | [] => by simp [partsN]
  | b :: l => by unfold partsN; split <;> simp
theorem partsN_eq (l : Txt) : ∃ p ps, partsN l = p :: ps := by
  cases h : partsN l with
  | nil => exact absurd h (partsN_ne l)
  | cons p ps => exact ⟨p, ps, rfl⟩
theorem partsN_app2 (a b : Txt) : partsN (a ++ 47 :: b) = partsN a ++ partsN b := by
  induction a with
  | nil => simp [partsN]
  | cons x a ih =>
    obtain ⟨p, ps, hp⟩ := partsN_eq a
    rw [List.cons_append, partsN, partsN, ih, hp]
    split <;> simp
theorem partsN_one : ∀ {a : Txt}, 47 ∉ a → partsN a = [a]
  | [], _ => rfl
  | x :: a, h => by
    have h1 : x ≠ 47 := fun e => h (by rw [e]; exact List.mem_cons_self ..)
    have h2 := partsN_one (a := a) fun e => h (List.mem_cons_of_mem _ e)
    rw [partsN, if_neg h1, h2]; rfl
theorem partsN_app {a b : Txt} (h : 47 ∉ a) : partsN (a ++ 47 :: b) = a :: partsN b := by rw [partsN_app2, partsN_one h]; rfl
theorem partsN_free : ∀ (l : Txt), ∀ p ∈ partsN l, 47 ∉ p
  | [], p, hp => by simp [partsN] at hp; subst hp; simp
  | b :: l, p, hp => by
    obtain ⟨q, qs, hq⟩ := partsN_eq l
    have ih := partsN_free l
    rw [hq] at ih
    rw [partsN, hq] at hp
    split at hp
    · rcases List.mem_cons.1 hp with rfl | hp
      · simp
      · exact ih p hp
    · rename_i hb
      rcases List.mem_cons.1 hp with rfl | hp
      · have h1 := ih q (List.mem_cons_self ..)
        simp only [List.headD_cons, List.mem_cons, not_or]
        exact ⟨fun e => hb e.symm, h1⟩
      · exact ih p (List.mem_cons_of_mem _ hp)
def joinN : List Txt → Txt
  | [] => []
  | [p] => p
  | p :: q :: ps => p ++ 47 :: joinN (q :: ps)
theorem joinN_cons {p : Txt} {ps : List Txt} (h : ps ≠ []) : joinN (p :: ps) = p ++ 47 :: joinN ps := by
  cases ps with
  | nil => exact absurd rfl h
  | cons q ps => rfl
theorem joinN_parts : ∀ l, joinN (partsN l) = l
  | [] => rfl
  | b :: l => by
    obtain ⟨q, qs, hq⟩ := partsN_eq l
    have ih := joinN_parts l
    rw [partsN, hq]
    rw [hq] at ih
    split
    · rename_i hb
      rw [joinN_cons (by simp), ih, hb]; rfl
    · cases qs with
      | nil => simp [joinN] at ih ⊢; exact ih
      | cons r rs => simp [joinN] at ih ⊢; exact ih
theorem partsN_join : ∀ {ps : List Txt}, ps ≠ [] → (∀ p ∈ ps, 47 ∉ p) → partsN (joinN ps) = ps
  | [], h, _ => absurd rfl h
  | [p], _, h => partsN_one (h p (List.mem_cons_self ..))
  | p :: q :: ps, _, h => by
    rw [joinN, partsN_app (h p (List.mem_cons_self ..)), partsN_join (by simp) fun r hr => h r (List.mem_cons_of_mem _ hr)]
theorem partsN_inj {a b : Txt} (h : partsN a = partsN b) : a = b := by rw [← joinN_parts a, h, joinN_parts]
theorem partsN_len : ∀ l : Txt, (partsN l).length = l.count 47 + 1
  | [] => rfl
  | b :: l => by
    obtain ⟨q, qs, hq⟩ := partsN_eq l
    have ih := partsN_len l
    rw [hq] at ih
    rw [partsN, hq, List.count_cons]
    split
    · rename_i hb
      subst hb
      simp at ih ⊢
      omega
    · rename_i hb
      have : (b == 47) = false := by simpa using hb
      rw [this]
      simp at ih ⊢
      omega
theorem partsN_lenle (l : Txt) : (partsN l).length ≤ l.length + 1 := by
  rw [partsN_len]
  have := List.count_le_length (a := (47 : UInt8)) (l := l)
  omega
theorem idx_cases : ∀ l : Txt, (Lib.indexByte l 47 = -1 ∧ 47 ∉ l) ∨ ∃ k : Nat, Lib.indexByte l 47 = k ∧ k < l.length ∧ 47 ∉ l.take k ∧ l = l.take k ++ 47 :: l.drop (k + 1)
  | [] => .inl ⟨rfl, by simp⟩
  | b :: l => by
    unfold Lib.indexByte
    by_cases hb : b = 47
    · subst hb
      exact .inr ⟨0, by simp, by simp, by simp, by simp⟩
    · have hb' : (b == 47) = false := by simpa using hb
      rw [hb']
      rcases idx_cases l with ⟨h1, h2⟩ | ⟨k, h1, h2, h3, h4⟩
      · refine .inl ⟨by simp [h1], ?_⟩
        simp only [List.mem_cons, not_or]
        exact ⟨fun e => hb e.symm, h2⟩
      · refine .inr ⟨k + 1, ?_, by simp; omega, ?_, ?_⟩
        · rw [h1]
          have : ((k : Int) == -1) = false := by
            rw [beq_eq_false_iff_ne]; omega
          simp [this]
        · rw [List.take_succ_cons]
          simp only [List.mem_cons, not_or]
          exact ⟨fun e => hb e.symm, h3⟩
        · rw [List.take_succ_cons, List.drop_succ_cons, List.cons_append, ← h4]
theorem partsN_idx {l : Txt} {k : Nat} (h3 : 47 ∉ l.take k) (h4 : l = l.take k ++ 47 :: l.drop (k + 1)) : partsN l = l.take k :: partsN (l.drop (k + 1)) := by
  conv => lhs; rw [h4]
  exact partsN_app h3

/-- Does a filter's parts let a text's parts in? -/
def matchP : List Txt → List Txt → Bool
  | [], ns => ns.isEmpty
  | f :: fs, [] => decide (f = [35] ∧ fs = [])
  | f :: fs, n :: ns => if f = [35] ∧ fs = [] then true else if f = [43] ∨ f = n then matchP fs ns else false
def plainP (f : Txt) : Prop := f ≠ [35] ∧ f ≠ [43]
theorem matchP_plain : ∀ {fs ns : List Txt}, (∀ f ∈ fs, plainP f) → matchP fs ns = decide (fs = ns)
  | [], [], _ => rfl
  | [], _ :: _, _ => by simp [matchP]
  | f :: fs, [], h => by
    have h1 := h f (List.mem_cons_self ..)
    rw [matchP, decide_eq_false fun e => h1.1 e.1]
    simp
  | f :: fs, n :: ns, h => by
    have h1 := h f (List.mem_cons_self ..)
    rw [matchP, if_neg fun e => h1.1 e.1]
    by_cases e : f = n
    · rw [if_pos (.inr e), matchP_plain fun g hg => h g (List.mem_cons_of_mem _ hg)]
      simp [e]
    · rw [if_neg (by rintro (e' | e'); exact h1.2 e'; exact e e')]
      simp [e]
theorem matchP_self : ∀ fs : List Txt, matchP fs fs = true
  | [] => rfl
  | f :: fs => by
    rw [matchP]
    split
    · rfl
    · rw [if_pos (.inr rfl)]
      exact matchP_self fs
/-- What is alike in front is matched. -/
theorem matchP_app : ∀ (ps fs ns : List Txt), fs ≠ [] → matchP (ps ++ fs) (ps ++ ns) = matchP fs ns
  | [], _, _, _ => rfl
  | p :: ps, fs, ns, h => by
    rw [List.cons_append, List.cons_append, matchP, if_neg (by simp [h]), if_pos (.inr rfl)]
    exact matchP_app ps fs ns h
theorem matchP_hash (ns : List Txt) : matchP [[35]] ns = true := by cases ns <;> simp [matchP]
theorem matchP_plus {ps : List Txt} {p : Txt} (fs : List Txt) : matchP (ps ++ [43] :: fs) (ps ++ p :: fs) = true := by
  rw [matchP_app _ _ _ (by simp), matchP, if_neg (by simp), if_pos (.inl rfl)]
  exact matchP_self fs

abbrev uagvL : Txt := [117, 97, 103, 118]
abbrev v2L : Txt := [118, 50]
abbrev headL : Txt := [117, 97, 103, 118, 47, 118, 50, 47]
abbrev kindsL : List Txt := [[111, 114, 100, 101, 114], [105, 110, 115, 116, 97, 110, 116, 65, 99, 116, 105, 111, 110, 115], [115, 116, 97, 116, 101], [99, 111, 110, 110, 101, 99, 116, 105, 111, 110], [118, 105, 115, 117, 97, 108, 105, 122, 97, 116, 105, 111, 110]]
def kindT (k : Txt) : Bool := decide (k ∈ kindsL)
abbrev Topic := Txt × Txt × Txt
def okT (t : Topic) : Bool := nameF t.1 && nameF t.2.1 && kindT t.2.2
def partsT (t : Topic) : List Txt := [uagvL, v2L, t.1, t.2.1, t.2.2]
def textT (t : Topic) : Txt := joinN (partsT t)
def printS (t : Topic) : Txt := if okT t then textT t else []
def printE (t : Topic) : Int := if okT t then 0 else 70
def parseN (l : Txt) : Option Topic := match partsN l with
  | [a, b, m, s, k] => if a = uagvL ∧ b = v2L ∧ okT (m, s, k) = true then some (m, s, k) else none
  | _ => none
def parseT (l : Txt) : Topic := (parseN l).getD ([], [], [])
def parseE (l : Txt) : Int := if (parseN l).isSome then 0 else 70
theorem okB_slash {b : UInt8} (h : okB b = true) : b ≠ 47 ∧ b ≠ 43 ∧ b ≠ 35 := by
  refine ⟨?_, ?_, ?_⟩ <;> (rintro rfl; revert h; decide)
theorem nameF_free {m : Txt} (h : nameF m = true) : 47 ∉ m ∧ plainP m := by
  unfold nameF at h
  rw [Bool.and_eq_true, List.all_eq_true] at h
  refine ⟨fun e => (okB_slash (h.1 _ e)).1 rfl, ?_, ?_⟩
  · rintro rfl; exact (okB_slash (h.1 35 (by simp))).2.2 rfl
  · rintro rfl; exact (okB_slash (h.1 43 (by simp))).2.1 rfl
theorem kindT_free {k : Txt} (h : kindT k = true) : 47 ∉ k ∧ plainP k := by
  have h := of_decide_eq_true h
  have : ∀ k ∈ kindsL, 47 ∉ k ∧ k ≠ [35] ∧ k ≠ [43] := by decide
  exact this k h
theorem nameF_len {m : Txt} (h : nameF m = true) : m.length ≤ 16 := by
  unfold nameF at h
  rw [Bool.and_eq_true, Bool.and_eq_true] at h
  exact of_decide_eq_true h.2.2
theorem kindT_len {k : Txt} (h : kindT k = true) : k.length ≤ 14 := by
  have h := of_decide_eq_true h
  have : ∀ k ∈ kindsL, k.length ≤ 14 := by decide
  exact this k h
theorem okT_iff {t : Topic} : okT t = true ↔ nameF t.1 = true ∧ nameF t.2.1 = true ∧ kindT t.2.2 = true := by
  unfold okT
  rw [Bool.and_eq_true, Bool.and_eq_true, and_assoc]
theorem partsT_free {t : Topic} (h : okT t = true) : ∀ p ∈ partsT t, 47 ∉ p ∧ plainP p := by
  obtain ⟨h1, h2, h3⟩ := okT_iff.1 h
  intro p hp
  simp only [partsT, List.mem_cons, List.not_mem_nil, or_false] at hp
  rcases hp with rfl | rfl | rfl | rfl | rfl
  · exact ⟨by decide, by unfold plainP; decide⟩
  · exact ⟨by decide, by unfold plainP; decide⟩
  · exact nameF_free h1
  · exact nameF_free h2
  · exact kindT_free h3
theorem parts_text {t : Topic} (h : okT t = true) : partsN (textT t) = partsT t := partsN_join (by simp [partsT]) fun p hp => (partsT_free h p hp).1
theorem parse_text {t : Topic} (h : okT t = true) : parseN (textT t) = some t := by
  unfold parseN
  rw [parts_text h]
  obtain ⟨m, s, k⟩ := t
  exact if_pos ⟨rfl, rfl, h⟩
theorem text_parse {l : Txt} {t : Topic} (h : parseN l = some t) : okT t = true ∧ textT t = l := by
  unfold parseN at h
  split at h
  · rename_i a b m s k hp
    split at h
    · rename_i hc
      obtain ⟨rfl, rfl, hk⟩ := hc
      cases h
      exact ⟨hk, by show joinN [uagvL, v2L, m, s, k] = l; rw [← hp, joinN_parts]⟩
    · cases h
  · cases h
theorem text_eq (m s k : Txt) : textT (m, s, k) = headL ++ (m ++ 47 :: (s ++ 47 :: k)) := rfl
/-- Of a text with the head in front. -/
theorem parse_head (l : Txt) : parseN (headL ++ l) = match partsN l with
    | [m, s, k] => if okT (m, s, k) = true then some (m, s, k) else none
    | _ => none := by
  have hp : partsN (headL ++ l) = uagvL :: v2L :: partsN l := by
    show partsN (uagvL ++ 47 :: (v2L ++ 47 :: l)) = _
    rw [partsN_app (by decide), partsN_app (by decide)]
  unfold parseN
  rw [hp]
  obtain ⟨p, ps, hq⟩ := partsN_eq l
  rw [hq]
  match ps with
  | [] => rfl
  | [_] => rfl
  | [s, k] => simp
  | _ :: _ :: _ :: _ => rfl
theorem parse_nohead {l : Txt} (h : ¬ headL <+: l) : parseN l = none := by
  cases e : parseN l with
  | none => rfl
  | some t =>
    obtain ⟨_, h2⟩ := text_parse e
    exact absurd (by rw [← h2]; exact List.prefix_append ..) h
/-- Of a raw text, a name that may be. -/
abbrev fitTab : Txt := [97, 98, 99, 120, 121, 122, 65, 66, 67, 88, 89, 90, 48, 49, 56, 57, 95, 46, 58, 45]
def fitB (b : UInt8) : UInt8 := fitTab.getD (b.toNat % 20) 0
def fitS (s : Txt) : Txt := 110 :: (s.take 15).map fitB
theorem fitB_ok (b : UInt8) : okB (fitB b) = true := by
  have h : ∀ n, n < 20 → okB (fitTab.getD n 0) = true := by decide
  exact h _ (Nat.mod_lt _ (by decide))
theorem fitS_len (s : Txt) : 1 ≤ (fitS s).length ∧ (fitS s).length ≤ 16 := by
  unfold fitS
  simp
  omega
theorem fitS_ok (s : Txt) : (fitS s).all okB = true := by
  unfold fitS
  rw [List.all_cons, List.all_eq_true.2]
  · decide
  · intro b hb
    obtain ⟨c, _, rfl⟩ := List.mem_map.1 hb
    exact fitB_ok c
theorem fitS_name (s : Txt) : nameF (fitS s) = true := by
  unfold nameF
  rw [fitS_ok, decide_eq_true (fitS_len s).2]
  unfold fitS
  rfl
def kindN (c : Int) : Txt := kindsL.getD (pickF c 5).toNat []
theorem kindN_ok (c : Int) : kindT (kindN c) = true := by
  have h := pickF_bd (c := c) (n := 5) (by decide)
  have : ∀ n, n < 5 → kindT (kindsL.getD n []) = true := by decide
  exact this _ (by omega)
def topicF (m s : Txt) (c : Int) : Topic := (fitS m, fitS s, kindN c)
theorem topicF_ok (m s : Txt) (c : Int) : okT (topicF m s c) = true := okT_iff.2 ⟨fitS_name m, fitS_name s, kindN_ok c⟩
end Go.Sx
