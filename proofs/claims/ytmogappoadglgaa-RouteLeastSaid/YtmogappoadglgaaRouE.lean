/-
  Layer 12, part E: where there is no way; what edges cost; small things.
-/
import Derived.Test.YtmogappoadglgaaRouD
namespace Go.Sx
open Go Go.Proofs Go.Proofs.Ytmogappoadglgaa
theorem m_pick12 : Meets Try.prog regF 52 spPick := by
  refine meets Try.func52 13 noWr rfl (by kernel_rfl) (by kernel_rfl) ?_
  rintro ⟨(c : Int), (n : Int)⟩ ⟨⟨hc1, hc2⟩, (hn : 0 < n)⟩
  conv => whnf
  repeat' (first | (refine tell (fun htest => ?_) (fun htest => ?_) <;> (try dsimp only at htest) <;> first | (exfalso; omega) | (exact absurd rfl htest) | (exact absurd (by decide) htest) | (conv => whnf)) | (refine allG rfl ?_; conv => whnf) | (refine And.intro (by first | omega | assumption | kernel_rfl | exact And.intro rfl rfl | ((try dsimp only [inR, idx, lowOf]); first | omega | (with_reducible decide) | (simp; omega) | fail) | fail) ?_; conv => whnf) | fail)
  all_goals exact ⟨(), [], trivial, eI (by unfold pickF; first | rw [if_pos (by assumption)] | rw [if_neg (by assumption)]), trivial, trivial⟩
theorem m_has12 : Meets Try.prog regF 55 spHas := by
  refine meets Try.func55 18 noWr rfl (by kernel_rfl) (by kernel_rfl) ?_
  rintro ⟨(a : List Int), (k : Int)⟩ (hl : a.length ≤ 9223372036854775807)
  conv => whnf
  repeat' (first | (refine tell (fun htest => ?_) (fun htest => ?_) <;> (try dsimp only at htest) <;> first | (exfalso; omega) | (exact absurd rfl htest) | (exact absurd (by decide) htest) | (conv => whnf)) | (refine allG rfl ?_; conv => whnf) | (refine And.intro (by first | omega | assumption | kernel_rfl | exact And.intro rfl rfl | ((try dsimp only [inR, idx, lowOf]); first | omega | (with_reducible decide) | (simp; omega) | fail) | fail) ?_; conv => whnf) | fail)
  refine ⟨Nat, fun i => ⟨[(0, .lst 3 a), (1, vI k), (5, vI i)], []⟩, fun i => i ≤ a.length ∧ k ∉ a.take i, fun i => a.length - i, fun _ _ => rfl, ⟨0, [], ⟨Nat.zero_le _, by simp⟩, ?_⟩, ?_⟩
  · refine ⟨rfl, ?_, ?_, rfl⟩
    all_goals (repeat' (first | exact trivial | exact rfl | refine And.intro ?_ ?_ | (refine congrArg vI ?_; first | omega | (dsimp only; omega) | fail) | (refine congrArg some ?_) | omega | exact Nat.le_refl _ | exact congrArg (SV.lst _) (List.take_of_length_le (Nat.le_refl _)).symm))
  rintro (i : Nat) ⟨(hi : i ≤ a.length), (hs : k ∉ a.take i)⟩
  by_cases hlt : i < a.length
  · obtain ⟨x, hx⟩ : ∃ x, a[i]? = some x := ⟨_, List.getElem?_eq_getElem hlt⟩
    have hm := List.mem_of_getElem? hx
    by_cases hxk : x = k
    · conv => whnf
      repeat' (first | (refine tell (fun htest => ?_) (fun htest => ?_) <;> (try dsimp only at htest) <;> first | (exfalso; omega) | (exact absurd rfl htest) | (exact absurd (by decide) htest) | (conv => whnf)) | (refine allG (x := x) (by first | exact hx | simpa [List.getElem?_append_right, lowOf] using hx | fail) ?_; conv => whnf) | (refine allLst (x := x) (by first | omega | assumption | fail) (by first | exact hx | simpa using hx | fail) ?_; conv => whnf) | (refine allG rfl ?_; conv => whnf) | (refine And.intro (by first | omega | assumption | kernel_rfl | exact And.intro rfl rfl | ((try dsimp only [inR, idx, lowOf]); first | omega | (with_reducible decide) | (simp; omega) | fail) | fail) ?_; conv => whnf) | fail)
      exact ⟨true, [], ⟨fun _ => hxk ▸ hm, fun _ => rfl⟩, rfl, trivial, trivial⟩
    · conv => whnf
      repeat' (first | (refine tell (fun htest => ?_) (fun htest => ?_) <;> (try dsimp only at htest) <;> first | (exfalso; omega) | (exact absurd rfl htest) | (exact absurd (by decide) htest) | (conv => whnf)) | (refine allG (x := x) (by first | exact hx | simpa [List.getElem?_append_right, lowOf] using hx | fail) ?_; conv => whnf) | (refine allLst (x := x) (by first | omega | assumption | fail) (by first | exact hx | simpa using hx | fail) ?_; conv => whnf) | (refine allG rfl ?_; conv => whnf) | (refine And.intro (by first | omega | assumption | kernel_rfl | exact And.intro rfl rfl | ((try dsimp only [inR, idx, lowOf]); first | omega | (with_reducible decide) | (simp; omega) | fail) | fail) ?_; conv => whnf) | fail)
      refine ⟨i + 1, [], ⟨hlt, by rw [take_snocI hx]; simp; exact ⟨hs, fun h => hxk h.symm⟩⟩, ?_, rfl, ?_, ?_, rfl⟩
      · dsimp only; first | omega | (simp; done) | (simp; omega)
      all_goals (repeat' (first | exact trivial | exact rfl | refine And.intro ?_ ?_ | (refine congrArg vI ?_; first | omega | (dsimp only; omega) | fail) | (refine congrArg some ?_) | omega | exact Nat.le_refl _ | exact congrArg (SV.lst _) (List.take_of_length_le (Nat.le_refl _)).symm))
  · rw [List.take_of_length_le (by omega)] at hs
    conv => whnf
    repeat' (first | (refine tell (fun htest => ?_) (fun htest => ?_) <;> (try dsimp only at htest) <;> first | (exfalso; omega) | (exact absurd rfl htest) | (exact absurd (by decide) htest) | (conv => whnf)) | (refine allG rfl ?_; conv => whnf) | (refine And.intro (by first | omega | assumption | kernel_rfl | exact And.intro rfl rfl | ((try dsimp only [inR, idx, lowOf]); first | omega | (with_reducible decide) | (simp; omega) | fail) | fail) ?_; conv => whnf) | fail)
    exact ⟨false, [], ⟨fun h => (by cases h), fun h => absurd h hs⟩, rfl, trivial, trivial⟩
def spRouteE : Spec AF where
  γ := (Int × List Edge) × List Int × Int × Int
  δ := Unit
  args := fun g => [layS g.1.1 g.1.2, .lst 3 g.2.1, vI g.2.2.1, vI g.2.2.2]
  own := fun _ => []
  pre := fun g => RightL g.1.1 g.1.2 ∧ (0 ≤ g.2.2.1 ∧ g.2.2.1 < g.1.1) ∧ (0 ≤ g.2.2.2 ∧ g.2.2.2 < g.1.1) ∧ GoodL g.1.2 ∧ g.2.1.length ≤ 9223372036854775807 ∧ farV g.1.2 g.2.1 g.2.2.2 g.2.2.1 = -1
  nnew := 0
  res := fun _ _ => .tup [.val (.slice none 0 0), vI 120]
  own' := fun _ _ => []
  post := fun _ _ => True
theorem m_routeE : Meets Try.prog regF 54 spRouteE := by
  refine meets Try.func54 64 noWr rfl (by kernel_rfl) (by kernel_rfl) ?_
  rintro ⟨⟨(n : Int), (es : List Edge)⟩, (bl : List Int), (a : Int), (t : Int)⟩ ⟨(hR : RightL n es), ⟨(ha0 : 0 ≤ a), (han : a < n)⟩, ⟨(ht0 : 0 ≤ t), (htn : t < n)⟩, (hg : GoodL es), (hbl : bl.length ≤ 9223372036854775807), (hfa : farV es bl t a = -1)⟩
  have hfl := farF_len (n := n) (es := es) (bl := bl) (t := t)
  have haa := farF_at (es := es) (bl := bl) (t := t) ha0 han
  conv => whnf
  repeat' (first | (refine tell (fun htest => ?_) (fun htest => ?_) <;> (try dsimp only at htest) <;> first | (exfalso; omega) | (exact absurd rfl htest) | (exact absurd (by decide) htest) | (conv => whnf)) | (refine allG rfl ?_; conv => whnf) | (refine And.intro (by first | omega | assumption | kernel_rfl | exact And.intro rfl rfl | ((try dsimp only [inR, idx, lowOf]); first | omega | (with_reducible decide) | (simp; omega) | fail) | fail) ?_; conv => whnf) | fail)
  refine ⟨_, m_far, ((n, es), bl, t), [], false, ?_⟩
  conv => whnf
  refine And.intro (vc0 ⟨hR, ht0, htn, hg, hbl⟩ (by (repeat' (first | exact trivial | exact rfl | refine And.intro ?_ ?_ | (refine congrArg vI ?_; first | omega | (dsimp only; omega) | fail) | (refine congrArg some ?_) | omega | exact Nat.le_refl _ | exact congrArg (SV.lst _) (List.take_of_length_le (Nat.le_refl _)).symm))) (by repeat' (first | exact trivial | exact rfl | refine And.intro ?_ ?_ | (refine congrArg vI ?_; first | omega | (dsimp only; omega) | fail) | (refine congrArg some ?_) | omega | exact Nat.le_refl _ | exact congrArg (SV.lst _) (List.take_of_length_le (Nat.le_refl _)).symm)) trivial trivial) ?_
  refine And.intro ⟨(), trivial⟩ (fun (_ : Unit) _ => ?_)
  conv => whnf
  conv => whnf
  repeat' (first | (refine tell (fun htest => ?_) (fun htest => ?_) <;> (try dsimp only at htest) <;> first | (exfalso; omega) | (exact absurd rfl htest) | (exact absurd (by decide) htest) | (conv => whnf)) | (refine allLst (x := _) ha0 haa ?_; conv => whnf) | (refine allG rfl ?_; conv => whnf) | (refine And.intro (by first | omega | assumption | kernel_rfl | exact And.intro rfl rfl | ((try dsimp only [inR, idx, lowOf]); first | omega | (with_reducible decide) | (simp; omega) | fail) | fail) ?_; conv => whnf) | fail)
  exact ⟨(), [], trivial, ⟨rfl, rfl, trivial⟩, trivial, trivial⟩
def spRouteA : Spec AF where
  γ := (Int × List Edge) × List Int × Int × Int
  δ := Unit
  args := fun g => [layS g.1.1 g.1.2, .lst 3 g.2.1, vI g.2.2.1, vI g.2.2.2]
  own := fun _ => []
  pre := fun g => ¬ (RightL g.1.1 g.1.2 ∧ (0 ≤ g.2.2.1 ∧ g.2.2.1 < g.1.1) ∧ (0 ≤ g.2.2.2 ∧ g.2.2.2 < g.1.1)) ∧ GoodL g.1.2 ∧ g.2.1.length ≤ 9223372036854775807
  nnew := 0
  res := fun _ _ => .tup [.val (.slice none 0 0), vI 1]
  own' := fun _ _ => []
  post := fun _ _ => True
theorem m_routeA : Meets Try.prog regF 54 spRouteA := by
  refine meets Try.func54 64 noWr rfl (by kernel_rfl) (by kernel_rfl) ?_
  rintro ⟨⟨(n : Int), (es : List Edge)⟩, (bl : List Int), (a : Int), (t : Int)⟩ ⟨(hno : ¬ (RightL n es ∧ (0 ≤ a ∧ a < n) ∧ (0 ≤ t ∧ t < n))), (hg : GoodL es), (hbl : bl.length ≤ 9223372036854775807)⟩
  by_cases hF : RightL n es ∧ 0 ≤ t ∧ t < n
  · obtain ⟨hR, ht0, htn⟩ := hF
    have hfl := farF_len (n := n) (es := es) (bl := bl) (t := t)
    have hp := hR.pos
    have hna : ¬ (0 ≤ a ∧ a < n) := fun h => hno ⟨hR, h, ht0, htn⟩
    conv => whnf
    repeat' (first | (refine tell (fun htest => ?_) (fun htest => ?_) <;> (try dsimp only at htest) <;> first | (exfalso; omega) | (exact absurd rfl htest) | (exact absurd (by decide) htest) | (conv => whnf)) | (refine allG rfl ?_; conv => whnf) | (refine And.intro (by first | omega | assumption | kernel_rfl | exact And.intro rfl rfl | ((try dsimp only [inR, idx, lowOf]); first | omega | (with_reducible decide) | (simp; omega) | fail) | fail) ?_; conv => whnf) | fail)
    refine ⟨_, m_far, ((n, es), bl, t), [], false, ?_⟩
    conv => whnf
    refine And.intro (vc0 ⟨hR, ht0, htn, hg, hbl⟩ (by (repeat' (first | exact trivial | exact rfl | refine And.intro ?_ ?_ | (refine congrArg vI ?_; first | omega | (dsimp only; omega) | fail) | (refine congrArg some ?_) | omega | exact Nat.le_refl _ | exact congrArg (SV.lst _) (List.take_of_length_le (Nat.le_refl _)).symm))) (by repeat' (first | exact trivial | exact rfl | refine And.intro ?_ ?_ | (refine congrArg vI ?_; first | omega | (dsimp only; omega) | fail) | (refine congrArg some ?_) | omega | exact Nat.le_refl _ | exact congrArg (SV.lst _) (List.take_of_length_le (Nat.le_refl _)).symm)) trivial trivial) ?_
    refine And.intro ⟨(), trivial⟩ (fun (_ : Unit) _ => ?_)
    conv => whnf
    by_cases h0 : a < 0
    · conv => whnf
      repeat' (first | (refine tell (fun htest => ?_) (fun htest => ?_) <;> (try dsimp only at htest) <;> first | (exfalso; omega) | (exact absurd rfl htest) | (exact absurd (by decide) htest) | (conv => whnf)) | (refine allG rfl ?_; conv => whnf) | (refine And.intro (by first | omega | assumption | kernel_rfl | exact And.intro rfl rfl | ((try dsimp only [inR, idx, lowOf]); first | omega | (with_reducible decide) | (simp; omega) | fail) | fail) ?_; conv => whnf) | fail)
      exact ⟨(), [], trivial, ⟨rfl, rfl, trivial⟩, trivial, trivial⟩
    · have h1 : n ≤ a := by omega
      conv => whnf
      repeat' (first | (refine tell (fun htest => ?_) (fun htest => ?_) <;> (try dsimp only at htest) <;> first | (exfalso; omega) | (exact absurd rfl htest) | (exact absurd (by decide) htest) | (conv => whnf)) | (refine allG rfl ?_; conv => whnf) | (refine And.intro (by first | omega | assumption | kernel_rfl | exact And.intro rfl rfl | ((try dsimp only [inR, idx, lowOf]); first | omega | (with_reducible decide) | (simp; omega) | fail) | fail) ?_; conv => whnf) | fail)
      exact ⟨(), [], trivial, ⟨rfl, rfl, trivial⟩, trivial, trivial⟩
  · conv => whnf
    repeat' (first | (refine tell (fun htest => ?_) (fun htest => ?_) <;> (try dsimp only at htest) <;> first | (exfalso; omega) | (exact absurd rfl htest) | (exact absurd (by decide) htest) | (conv => whnf)) | (refine allG rfl ?_; conv => whnf) | (refine And.intro (by first | omega | assumption | kernel_rfl | exact And.intro rfl rfl | ((try dsimp only [inR, idx, lowOf]); first | omega | (with_reducible decide) | (simp; omega) | fail) | fail) ?_; conv => whnf) | fail)
    refine ⟨_, m_farN, ((n, es), bl, t), [], false, ?_⟩
    conv => whnf
    refine And.intro (vc0 ⟨hF, hg⟩ (by (repeat' (first | exact trivial | exact rfl | refine And.intro ?_ ?_ | (refine congrArg vI ?_; first | omega | (dsimp only; omega) | fail) | (refine congrArg some ?_) | omega | exact Nat.le_refl _ | exact congrArg (SV.lst _) (List.take_of_length_le (Nat.le_refl _)).symm))) (by repeat' (first | exact trivial | exact rfl | refine And.intro ?_ ?_ | (refine congrArg vI ?_; first | omega | (dsimp only; omega) | fail) | (refine congrArg some ?_) | omega | exact Nat.le_refl _ | exact congrArg (SV.lst _) (List.take_of_length_le (Nat.le_refl _)).symm)) trivial trivial) ?_
    refine And.intro ⟨(), trivial⟩ (fun (_ : Unit) _ => ?_)
    conv => whnf
    conv => whnf
    repeat' (first | (refine tell (fun htest => ?_) (fun htest => ?_) <;> (try dsimp only at htest) <;> first | (exfalso; omega) | (exact absurd rfl htest) | (exact absurd (by decide) htest) | (conv => whnf)) | (refine allG rfl ?_; conv => whnf) | (refine And.intro (by first | omega | assumption | kernel_rfl | exact And.intro rfl rfl | ((try dsimp only [inR, idx, lowOf]); first | omega | (with_reducible decide) | (simp; omega) | fail) | fail) ?_; conv => whnf) | fail)
    exact ⟨(), [], trivial, ⟨rfl, rfl, trivial⟩, trivial, trivial⟩
/-- What edges cost. -/
def costF (es : List Edge) : List Int → Int
  | [] => 0
  | i :: l => (if 0 ≤ i ∧ i < es.length then (match es[i.toNat]? with | some e => e.2.2 | none => 0) else 0) + costF es l
theorem costF_app (es : List Edge) : ∀ a b : List Int, costF es (a ++ b) = costF es a + costF es b
  | [], b => by simp [costF]
  | i :: a, b => by
    simp only [List.cons_append, costF]
    rw [costF_app es a b]; omega
theorem costF_bd {es : List Edge} (h : ∀ e ∈ es, 0 ≤ e.2.2 ∧ e.2.2 ≤ 1000) : ∀ l : List Int, 0 ≤ costF es l ∧ costF es l ≤ 1000 * (l.length : Int)
  | [] => by simp [costF]
  | i :: l => by
    have ih := costF_bd h l
    simp only [costF, List.length_cons]
    split
    · split
      · rename_i e he
        have := h e (List.mem_of_getElem? he)
        omega
      · omega
    · omega
theorem costF_snoc {es : List Edge} {is : List Int} {i : Nat} {x : Int} (hx : is[i]? = some x) : costF es (is.take (i + 1)) = costF es (is.take i) + costF es [x] := by
  rw [take_snocI hx, costF_app]
theorem cost_in {es : List Edge} {x : Int} {e : Edge} (h0 : 0 ≤ x) (h1 : x < es.length) (he : es[x.toNat]? = some e) : costF es [x] = e.2.2 := by
  simp only [costF]
  rw [if_pos ⟨h0, h1⟩, he]
  simp
theorem cost_out {es : List Edge} {x : Int} (h : ¬ (0 ≤ x ∧ x < es.length)) : costF es [x] = 0 := by
  simp only [costF]
  rw [if_neg h]
  simp
def spCost : Spec AF where
  γ := (Int × List Edge) × List Int
  δ := Unit
  args := fun g => [layS g.1.1 g.1.2, .lst 3 g.2]
  own := fun _ => []
  pre := fun g => (∀ e ∈ g.1.2, 0 ≤ e.2.2 ∧ e.2.2 ≤ 1000) ∧ g.1.2.length ≤ 9223372036854775807 ∧ g.2.length ≤ 17592186044416
  nnew := 0
  res := fun g _ => vI (costF g.1.2 g.2)
  own' := fun _ _ => []
  post := fun _ _ => True
theorem m_cost : Meets Try.prog regF 56 spCost := by
  refine meets Try.func56 31 noWr rfl (by kernel_rfl) (by kernel_rfl) ?_
  rintro ⟨⟨(n : Int), (es : List Edge)⟩, (is : List Int)⟩ ⟨(hc : ∀ e ∈ es, 0 ≤ e.2.2 ∧ e.2.2 ≤ 1000), (hel : es.length ≤ 9223372036854775807), (hil : is.length ≤ 17592186044416)⟩
  conv => whnf
  repeat' (first | (refine tell (fun htest => ?_) (fun htest => ?_) <;> (try dsimp only at htest) <;> first | (exfalso; omega) | (exact absurd rfl htest) | (exact absurd (by decide) htest) | (conv => whnf)) | (refine allG rfl ?_; conv => whnf) | (refine And.intro (by first | omega | assumption | kernel_rfl | exact And.intro rfl rfl | ((try dsimp only [inR, idx, lowOf]); first | omega | (with_reducible decide) | (simp; omega) | fail) | fail) ?_; conv => whnf) | fail)
  refine ⟨Nat, fun i => ⟨[(2, .ptr 1002 0 2 0), (4, vI (costF es (is.take i))), (7, .lst 3 is), (8, vI is.length), (9, vI i)], [(1002, layC n es)]⟩, fun i => i ≤ is.length, fun i => is.length - i, fun _ _ => rfl, ⟨0, [], Nat.zero_le _, ?_⟩, ?_⟩
  · refine ⟨rfl, ?_, ?_, rfl⟩
    all_goals (repeat' (first | exact trivial | exact rfl | refine And.intro ?_ ?_ | (refine congrArg vI ?_; first | omega | (dsimp only; omega) | fail) | (refine congrArg some ?_) | omega | exact Nat.le_refl _ | exact congrArg (SV.lst _) (List.take_of_length_le (Nat.le_refl _)).symm))
  rintro (i : Nat) (hi : i ≤ is.length)
  by_cases hlt : i < is.length
  · obtain ⟨x, hx⟩ : ∃ x, is[i]? = some x := ⟨_, List.getElem?_eq_getElem hlt⟩
    have hs := costF_snoc (es := es) hx
    have hb := costF_bd hc (is.take i)
    rw [List.length_take] at hb
    by_cases h0 : 0 ≤ x
    · by_cases h1 : x < es.length
      · obtain ⟨e, he⟩ : ∃ e, es[x.toNat]? = some e := ⟨_, List.getElem?_eq_getElem (by omega)⟩
        have hce := hc e (List.mem_of_getElem? he)
        rw [cost_in h0 h1 he] at hs
        conv => whnf
        repeat' (first | (refine tell (fun htest => ?_) (fun htest => ?_) <;> (try dsimp only at htest) <;> first | (exfalso; omega) | (exact absurd rfl htest) | (exact absurd (by decide) htest) | (conv => whnf)) | (refine allG (x := x) (by first | exact hx | simpa [List.getElem?_append_right, lowOf] using hx | fail) ?_; conv => whnf) | (refine allLst (x := x) (by first | omega | assumption | fail) (by first | exact hx | simpa using hx | fail) ?_; conv => whnf) | (refine allLst (x := e) h0 he ?_; conv => whnf) | (refine allG rfl ?_; conv => whnf) | (refine And.intro (by first | omega | assumption | kernel_rfl | exact And.intro rfl rfl | ((try dsimp only [inR, idx, lowOf]); first | omega | (with_reducible decide) | (simp; omega) | fail) | fail) ?_; conv => whnf) | fail)
        refine ⟨i + 1, [], hlt, ?_, rfl, ?_, ?_, rfl⟩
        · dsimp only; first | omega | (simp; done) | (simp; omega)
        all_goals (repeat' (first | exact trivial | exact rfl | refine And.intro ?_ ?_ | (refine congrArg vI ?_; first | omega | (dsimp only; omega) | fail) | (refine congrArg some ?_) | omega | exact Nat.le_refl _ | exact congrArg (SV.lst _) (List.take_of_length_le (Nat.le_refl _)).symm))
      · rw [cost_out (by omega)] at hs
        conv => whnf
        repeat' (first | (refine tell (fun htest => ?_) (fun htest => ?_) <;> (try dsimp only at htest) <;> first | (exfalso; omega) | (exact absurd rfl htest) | (exact absurd (by decide) htest) | (conv => whnf)) | (refine allG (x := x) (by first | exact hx | simpa [List.getElem?_append_right, lowOf] using hx | fail) ?_; conv => whnf) | (refine allLst (x := x) (by first | omega | assumption | fail) (by first | exact hx | simpa using hx | fail) ?_; conv => whnf) | (refine allG rfl ?_; conv => whnf) | (refine And.intro (by first | omega | assumption | kernel_rfl | exact And.intro rfl rfl | ((try dsimp only [inR, idx, lowOf]); first | omega | (with_reducible decide) | (simp; omega) | fail) | fail) ?_; conv => whnf) | fail)
        refine ⟨i + 1, [], hlt, ?_, rfl, ?_, ?_, rfl⟩
        · dsimp only; first | omega | (simp; done) | (simp; omega)
        all_goals (repeat' (first | exact trivial | exact rfl | refine And.intro ?_ ?_ | (refine congrArg vI ?_; first | omega | (dsimp only; omega) | fail) | (refine congrArg some ?_) | omega | exact Nat.le_refl _ | exact congrArg (SV.lst _) (List.take_of_length_le (Nat.le_refl _)).symm))
    · rw [cost_out (by omega)] at hs
      conv => whnf
      repeat' (first | (refine tell (fun htest => ?_) (fun htest => ?_) <;> (try dsimp only at htest) <;> first | (exfalso; omega) | (exact absurd rfl htest) | (exact absurd (by decide) htest) | (conv => whnf)) | (refine allG (x := x) (by first | exact hx | simpa [List.getElem?_append_right, lowOf] using hx | fail) ?_; conv => whnf) | (refine allLst (x := x) (by first | omega | assumption | fail) (by first | exact hx | simpa using hx | fail) ?_; conv => whnf) | (refine allG rfl ?_; conv => whnf) | (refine And.intro (by first | omega | assumption | kernel_rfl | exact And.intro rfl rfl | ((try dsimp only [inR, idx, lowOf]); first | omega | (with_reducible decide) | (simp; omega) | fail) | fail) ?_; conv => whnf) | fail)
      refine ⟨i + 1, [], hlt, ?_, rfl, ?_, ?_, rfl⟩
      · dsimp only; first | omega | (simp; done) | (simp; omega)
      all_goals (repeat' (first | exact trivial | exact rfl | refine And.intro ?_ ?_ | (refine congrArg vI ?_; first | omega | (dsimp only; omega) | fail) | (refine congrArg some ?_) | omega | exact Nat.le_refl _ | exact congrArg (SV.lst _) (List.take_of_length_le (Nat.le_refl _)).symm))
  · conv => whnf
    repeat' (first | (refine tell (fun htest => ?_) (fun htest => ?_) <;> (try dsimp only at htest) <;> first | (exfalso; omega) | (exact absurd rfl htest) | (exact absurd (by decide) htest) | (conv => whnf)) | (refine allG rfl ?_; conv => whnf) | (refine And.intro (by first | omega | assumption | kernel_rfl | exact And.intro rfl rfl | ((try dsimp only [inR, idx, lowOf]); first | omega | (with_reducible decide) | (simp; omega) | fail) | fail) ?_; conv => whnf) | fail)
    exact ⟨(), [], trivial, congrArg vI (show costF es (is.take i) = costF es is by rw [List.take_of_length_le (by omega)]), trivial, trivial⟩
/-- A route costs as Far tells. -/
theorem route_cost {n : Int} {es : List Edge} {bl : List Int} {t v : Int} (hR : RightL n es) {l : List Int} (h : RouteP es bl t v l) : costF es l = farV es bl t v := by
  induction h with
  | nil => rw [farV_self hR]; rfl
  | @cons v i e l hv he h1 hok hmin _ ih =>
    have hil := (List.getElem?_eq_some_iff.1 he).1
    show costF es ([(i : Int)] ++ l) = _
    rw [costF_app, cost_in (by omega) (by omega) (by rw [Int.toNat_natCast]; exact he), ih, ← hok.2.1]; omega
end Go.Sx

