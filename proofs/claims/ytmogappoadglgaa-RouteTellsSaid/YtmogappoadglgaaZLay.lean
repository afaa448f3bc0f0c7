/-
  What the layers' statements share: which of n things a raw number speaks of.
-/
import Derived.Test.YtmogappoadglgaaZSxFour
set_option linter.unusedVariables false
set_option linter.unusedSimpArgs false
namespace Go.Sx
open Go Go.Proofs Go.Proofs.Ytmogappoadglgaa
def pickF (c n : Int) : Int := (if c < 0 then 0 - (c + 1) else c).tmod n
theorem pickF_bd {c n : Int} (hn : 0 < n) : 0 ≤ pickF c n ∧ pickF c n < n := by
  have h : 0 ≤ (if c < 0 then 0 - (c + 1) else c) := by split <;> omega
  unfold pickF
  rw [Int.tmod_eq_emod_of_nonneg h]
  exact ⟨Int.emod_nonneg _ (by omega), Int.emod_lt_of_pos _ hn⟩
def spPick : Spec AF where
  γ := Int × Int
  δ := Unit
  args := fun x => [vI x.1, vI x.2]
  own := fun _ => []
  pre := fun x => InI x.1 ∧ 0 < x.2
  nnew := 0
  res := fun x _ => vI (pickF x.1 x.2)
  own' := fun _ _ => []
  post := fun _ _ => True
theorem allLst {α : Type} {xs : List α} {n : Int} {x : α} {K : α → Prop} (h0 : 0 ≤ n) (h : xs[n.toNat]? = some x) (hK : K x) : (∃ y, 0 ≤ n ∧ xs[n.toNat]? = some y) ∧ ∀ y, (0 ≤ n ∧ xs[n.toNat]? = some y) → K y :=
  ⟨⟨x, h0, h⟩, fun y hy => by have hy := hy.2; rw [h] at hy; cases hy; exact hK⟩
theorem allG {α : Type} {L : List α} {j : Nat} {x : α} {K : α → Prop} (h : L[j]? = some x) (hK : K x) : (∃ y, L[j]? = some y) ∧ ∀ y, L[j]? = some y → K y :=
  ⟨⟨x, h⟩, fun y hy => by rw [h] at hy; cases hy; exact hK⟩
end Go.Sx


/-
  Layer 11, part A: Right.
-/
namespace Go.Sx
open Go Go.Proofs Go.Proofs.Ytmogappoadglgaa
abbrev Edge := Int × Int × Int
abbrev layS (n : Int) (es : List Edge) : SV AF := .agg [vI n, .lst 54 es]
abbrev layC (n : Int) (es : List Edge) : Ct AF := .cells [vI n, .lst 54 es]
def wayE (e : Edge) : Int × Int := (e.1, e.2.1)
def EdgeOk (n : Int) (e : Edge) : Prop := 0 ≤ e.1 ∧ e.1 < n ∧ 0 ≤ e.2.1 ∧ e.2.1 < n ∧ e.1 ≠ e.2.1 ∧ 1 ≤ e.2.2 ∧ e.2.2 ≤ 1000
/-- A layout that may be. -/
structure RightL (n : Int) (es : List Edge) : Prop where
  pos : 0 < n
  most : n ≤ 40
  len : es.length ≤ 120
  each : ∀ e ∈ es, EdgeOk n e
  apart : (es.map wayE).Nodup
/-- What may be read. -/
def GoodL (es : List Edge) : Prop := es.length ≤ 9223372036854775807 ∧ ∀ e ∈ es, InI e.1 ∧ InI e.2.1
theorem allEqB {α : Type} {z : α} {K : α → Prop} (hK : ∀ y, y = z → K y) : (∃ y, y = z) ∧ ∀ y, y = z → K y := ⟨⟨z, rfl⟩, hK⟩
def spNode : Spec AF where
  γ := Int × Int × List Edge
  δ := Bool
  args := fun g => [vI g.1, .ptr 0 0 2 0]
  own := fun g => [layC g.2.1 g.2.2]
  pre := fun _ => True
  nnew := 0
  res := fun _ c => vB c
  own' := fun g _ => [some (layC g.2.1 g.2.2)]
  post := fun g c => (c = true ↔ 0 ≤ g.1 ∧ g.1 < g.2.1)
theorem m_node : Meets Try.prog regF 83 spNode := by
  refine meets Try.func83 12 noWr rfl (by kernel_rfl) (by kernel_rfl) ?_
  rintro ⟨(k : Int), (n : Int), (es : List Edge)⟩ _
  conv => whnf
  repeat' (first | (refine tell (fun htest => ?_) (fun htest => ?_) <;> (try dsimp only at htest) <;> first | (exfalso; omega) | (exact absurd rfl htest) | (exact absurd (by decide) htest) | (conv => whnf)) | (refine allG rfl ?_; conv => whnf) | (refine And.intro (by first | omega | assumption | kernel_rfl | exact And.intro rfl rfl | ((try dsimp only [inR, idx, lowOf]); first | omega | (with_reducible decide) | (simp; omega) | fail) | fail) ?_; conv => whnf) | fail)
  · exact ⟨true, [], by simp [spNode]; omega, rfl, ⟨⟨rfl, rfl, trivial⟩, trivial⟩, trivial⟩
  · exact ⟨false, [], by simp [spNode]; omega, rfl, ⟨⟨rfl, rfl, trivial⟩, trivial⟩, trivial⟩
  · exact ⟨false, [], by simp [spNode]; omega, rfl, ⟨⟨rfl, rfl, trivial⟩, trivial⟩, trivial⟩
theorem node_ex (k n : Int) : ∃ c : Bool, c = true ↔ 0 ≤ k ∧ k < n := by
  by_cases h : 0 ≤ k ∧ k < n
  · exact ⟨true, by simp [h]⟩
  · exact ⟨false, by simp [h]⟩
def wsOf (l : List Edge) : List ((Int × Int) × Bool) := l.map fun e => (wayE e, true)
theorem look_ws (l : List Edge) (w : Int × Int) : (look regF 32 4 (wsOf l) w).getD false = decide (w ∈ l.map wayE) := by
  by_cases h : w ∈ l.map wayE
  · obtain ⟨e, he, rfl⟩ := List.mem_map.1 h
    have h2 : ((wsOf l).find? fun p => regF.beq 32 p.1 (wayE e)).isSome = true := List.find?_isSome.2 ⟨(wayE e, true), List.mem_map.2 ⟨e, he, rfl⟩, (regF.same 32 _ _).2 rfl⟩
    obtain ⟨p, hp⟩ := Option.isSome_iff_exists.1 h2
    have hm := List.mem_of_find?_eq_some hp
    obtain ⟨e2, _, rfl⟩ := List.mem_map.1 hm
    rw [decide_eq_true h]
    unfold look
    rw [hp]; rfl
  · have := (look_none (R := regF) (K := 32) (V := 4) (es := wsOf l) (k := w) fun p hp e => h (by
      obtain ⟨e2, h1, rfl⟩ := List.mem_map.1 hp
      exact List.mem_map.2 ⟨e2, h1, e⟩)).1
    rw [this, decide_eq_false h]; rfl
theorem ins_ws {l : List Edge} {e : Edge} (h : wayE e ∉ l.map wayE) : ins regF 32 4 (wsOf l) (wayE e) true = wsOf (l ++ [e]) := by
  have := (look_none (R := regF) (K := 32) (V := 4) (es := wsOf l) (k := wayE e) fun p hp e1 => h (by
      obtain ⟨e2, h1, rfl⟩ := List.mem_map.1 hp
      exact List.mem_map.2 ⟨e2, h1, e1⟩)).2
  unfold ins
  rw [this]
  simp [wsOf]
def spRight : Spec AF where
  γ := Int × List Edge
  δ := Bool
  args := fun g => [layS g.1 g.2]
  own := fun _ => []
  pre := fun g => GoodL g.2
  nnew := 0
  res := fun _ c => vB c
  own' := fun _ _ => []
  post := fun g c => (c = true ↔ RightL g.1 g.2)
theorem m_right : Meets Try.prog regF 46 spRight := by
  refine meets Try.func46 72 noWr rfl (by kernel_rfl) (by kernel_rfl) ?_
  rintro ⟨(n : Int), (es : List Edge)⟩ ⟨(hl : es.length ≤ 9223372036854775807), (hg : ∀ e ∈ es, InI e.1 ∧ InI e.2.1)⟩
  conv => whnf
  repeat' (first | (refine tell (fun htest => ?_) (fun htest => ?_) <;> (try dsimp only at htest) <;> first | (exfalso; omega) | (exact absurd rfl htest) | (exact absurd (by decide) htest) | (conv => whnf)) | (refine allG rfl ?_; conv => whnf) | (refine And.intro (by first | omega | assumption | kernel_rfl | exact And.intro rfl rfl | ((try dsimp only [inR, idx, lowOf]); first | omega | (with_reducible decide) | (simp; omega) | fail) | fail) ?_; conv => whnf) | fail)
  refine ⟨Nat, fun i => ⟨[(1, .ptr 1001 0 2 0), (3, .fn (.func 83) [] [.ptr 1001 0 2 0]), (4, .mp 1009), (11, .lst 54 es), (12, vI es.length), (13, vI i)], [(1001, layC n es), (1009, .map 32 4 (wsOf (es.take i)))]⟩, fun i => i ≤ es.length ∧ (∀ e ∈ es.take i, EdgeOk n e) ∧ ((es.take i).map wayE).Nodup, fun i => es.length - i, fun _ _ => rfl, ⟨0, [], ⟨Nat.zero_le _, fun _ h => by simp at h, by simp⟩, ?_⟩, ?_⟩
  · refine ⟨rfl, ?_, ?_, rfl⟩
    all_goals (repeat' (first | exact trivial | exact rfl | refine And.intro ?_ ?_ | (refine congrArg vI ?_; first | omega | (dsimp only; omega) | fail) | (refine congrArg some ?_) | omega | exact Nat.le_refl _ | exact congrArg (SV.lst _) (List.take_of_length_le (Nat.le_refl _)).symm))
  rintro (i : Nat) ⟨(hi : i ≤ es.length), (hok : ∀ e ∈ es.take i, EdgeOk n e), (hnd : ((es.take i).map wayE).Nodup)⟩
  by_cases hlt : i < es.length
  · obtain ⟨e, he⟩ : ∃ e, es[i]? = some e := ⟨_, List.getElem?_eq_getElem hlt⟩
    have hmem : e ∈ es := List.mem_of_getElem? he
    obtain ⟨hg1, hg2⟩ := hg e hmem
    have htk : es.take (i + 1) = es.take i ++ [e] := by rw [List.take_add_one, he]; rfl
    have no : ¬ EdgeOk n e → ¬ RightL n es := fun h1 h2 => h1 (h2.each e hmem)
    conv => whnf
    repeat' (first | (refine tell (fun htest => ?_) (fun htest => ?_) <;> (try dsimp only at htest) <;> first | (exfalso; omega) | (exact absurd rfl htest) | (exact absurd (by decide) htest) | (conv => whnf)) | (refine allG (x := e) (by first | exact he | simpa [List.getElem?_append_right, lowOf] using he | fail) ?_; conv => whnf) | (refine allLst (x := e) (by first | omega | assumption | fail) (by first | exact he | simpa using he | fail) ?_; conv => whnf) | (refine allG rfl ?_; conv => whnf) | (refine And.intro (by first | omega | assumption | kernel_rfl | exact And.intro rfl rfl | ((try dsimp only [inR, idx, lowOf]); first | omega | (with_reducible decide) | (simp; omega) | fail) | fail) ?_; conv => whnf) | fail)
    refine ⟨_, m_node, (e.1, n, es), [1001], false, ?_⟩
    conv => whnf
    refine And.intro (vc0 trivial (by (repeat' (first | exact trivial | exact rfl | refine And.intro ?_ ?_ | (refine congrArg vI ?_; first | omega | (dsimp only; omega) | fail) | (refine congrArg some ?_) | omega | exact Nat.le_refl _ | exact congrArg (SV.lst _) (List.take_of_length_le (Nat.le_refl _)).symm))) (by repeat' (first | exact trivial | exact rfl | refine And.intro ?_ ?_ | (refine congrArg vI ?_; first | omega | (dsimp only; omega) | fail) | (refine congrArg some ?_) | omega | exact Nat.le_refl _ | exact congrArg (SV.lst _) (List.take_of_length_le (Nat.le_refl _)).symm)) trivial trivial) ?_
    refine And.intro (node_ex e.1 n) ?_
    intro (c : Bool) (hc : c = true ↔ 0 ≤ e.1 ∧ e.1 < n)
    cases c
    · have hr : ¬ RightL n es := no fun h => by have := hc.2 ⟨h.1, h.2.1⟩; cases this
      conv => whnf
      repeat' (first | (refine tell (fun htest => ?_) (fun htest => ?_) <;> (try dsimp only at htest) <;> first | (exfalso; omega) | (exact absurd rfl htest) | (exact absurd (by decide) htest) | (conv => whnf)) | (refine allG rfl ?_; conv => whnf) | (refine And.intro (by first | omega | assumption | kernel_rfl | exact And.intro rfl rfl | ((try dsimp only [inR, idx, lowOf]); first | omega | (with_reducible decide) | (simp; omega) | fail) | fail) ?_; conv => whnf) | fail)
      exact ⟨false, [], by simp [spRight, hr], rfl, trivial, trivial⟩
    have hc := hc.1 rfl
    conv => whnf
    repeat' (first | (refine tell (fun htest => ?_) (fun htest => ?_) <;> (try dsimp only at htest) <;> first | (exfalso; omega) | (exact absurd rfl htest) | (exact absurd (by decide) htest) | (conv => whnf)) | (refine allG rfl ?_; conv => whnf) | (refine And.intro (by first | omega | assumption | kernel_rfl | exact And.intro rfl rfl | ((try dsimp only [inR, idx, lowOf]); first | omega | (with_reducible decide) | (simp; omega) | fail) | fail) ?_; conv => whnf) | fail)
    refine ⟨_, m_node, (e.2.1, n, es), [1001], false, ?_⟩
    conv => whnf
    refine And.intro (vc0 trivial (by (repeat' (first | exact trivial | exact rfl | refine And.intro ?_ ?_ | (refine congrArg vI ?_; first | omega | (dsimp only; omega) | fail) | (refine congrArg some ?_) | omega | exact Nat.le_refl _ | exact congrArg (SV.lst _) (List.take_of_length_le (Nat.le_refl _)).symm))) (by repeat' (first | exact trivial | exact rfl | refine And.intro ?_ ?_ | (refine congrArg vI ?_; first | omega | (dsimp only; omega) | fail) | (refine congrArg some ?_) | omega | exact Nat.le_refl _ | exact congrArg (SV.lst _) (List.take_of_length_le (Nat.le_refl _)).symm)) trivial trivial) ?_
    refine And.intro (node_ex e.2.1 n) ?_
    intro (c : Bool) (hc2 : c = true ↔ 0 ≤ e.2.1 ∧ e.2.1 < n)
    cases c
    · have hr : ¬ RightL n es := no fun h => by have := hc2.2 ⟨h.2.2.1, h.2.2.2.1⟩; cases this
      conv => whnf
      repeat' (first | (refine tell (fun htest => ?_) (fun htest => ?_) <;> (try dsimp only at htest) <;> first | (exfalso; omega) | (exact absurd rfl htest) | (exact absurd (by decide) htest) | (conv => whnf)) | (refine allG rfl ?_; conv => whnf) | (refine And.intro (by first | omega | assumption | kernel_rfl | exact And.intro rfl rfl | ((try dsimp only [inR, idx, lowOf]); first | omega | (with_reducible decide) | (simp; omega) | fail) | fail) ?_; conv => whnf) | fail)
      exact ⟨false, [], by simp [spRight, hr], rfl, trivial, trivial⟩
    have hc2 := hc2.1 rfl
    conv => whnf
    repeat' (first | (refine tell (fun htest => ?_) (fun htest => ?_) <;> (try dsimp only at htest) <;> first | (exfalso; omega) | (exact absurd rfl htest) | (exact absurd (by decide) htest) | (conv => whnf)) | (refine allG rfl ?_; conv => whnf) | (refine And.intro (by first | omega | assumption | kernel_rfl | exact And.intro rfl rfl | ((try dsimp only [inR, idx, lowOf]); first | omega | (with_reducible decide) | (simp; omega) | fail) | fail) ?_; conv => whnf) | fail)
    · have hr := no fun h => h.2.2.2.2.1 (by assumption)
      exact ⟨false, [], by simp [spRight, hr], rfl, trivial, trivial⟩
    · have hr := no fun h => by have := h.2.2.2.2.2.1; omega
      exact ⟨false, [], by simp [spRight, hr], rfl, trivial, trivial⟩
    · have hr := no fun h => by have := h.2.2.2.2.2.2; omega
      exact ⟨false, [], by simp [spRight, hr], rfl, trivial, trivial⟩
    · have hedge : EdgeOk n e := ⟨hc.1, hc.2, hc2.1, hc2.2, by assumption, by omega, by omega⟩
      refine And.intro (show (_ ∧ _) ∧ (_ ∧ _) from ⟨hg1, hg2⟩) ?_
      conv => whnf
      refine allEqB ?_
      intro (y : Bool) hy
      have hy : y = decide (wayE e ∈ (es.take i).map wayE) := hy.trans (look_ws _ _)
      cases y
      · have hw : wayE e ∉ (es.take i).map wayE := of_decide_eq_false hy.symm
        conv => whnf
        repeat' (first | (refine tell (fun htest => ?_) (fun htest => ?_) <;> (try dsimp only at htest) <;> first | (exfalso; omega) | (exact absurd rfl htest) | (exact absurd (by decide) htest) | (conv => whnf)) | (refine allG rfl ?_; conv => whnf) | (refine And.intro (by first | omega | assumption | kernel_rfl | exact And.intro rfl rfl | ((try dsimp only [inR, idx, lowOf]); first | omega | (with_reducible decide) | (simp; omega) | fail) | fail) ?_; conv => whnf) | fail)
        refine And.intro (show (_ ∧ _) ∧ (_ ∧ _) from ⟨hg1, hg2⟩) ?_
        conv => whnf
        repeat' (first | (refine tell (fun htest => ?_) (fun htest => ?_) <;> (try dsimp only at htest) <;> first | (exfalso; omega) | (exact absurd rfl htest) | (exact absurd (by decide) htest) | (conv => whnf)) | (refine allG rfl ?_; conv => whnf) | (refine And.intro (by first | omega | assumption | kernel_rfl | exact And.intro rfl rfl | ((try dsimp only [inR, idx, lowOf]); first | omega | (with_reducible decide) | (simp; omega) | fail) | fail) ?_; conv => whnf) | fail)
        have hok' : ∀ x ∈ es.take (i + 1), EdgeOk n x := fun x hx => by
          rw [htk] at hx
          rcases List.mem_append.1 hx with hx | hx
          · exact hok x hx
          · simp at hx; subst hx; exact hedge
        refine ⟨i + 1, [], ⟨hlt, hok', by rw [htk, List.map_append, List.nodup_append]; exact ⟨hnd, by simp, fun x hx z hz => by simp at hz; subst hz; exact fun h => hw (h ▸ hx)⟩⟩, ?_, rfl, ?_, ?_, rfl⟩
        · dsimp only; first | omega | (simp; done) | (simp; omega)
        all_goals (repeat' (first | exact trivial | exact rfl | refine And.intro ?_ ?_ | (refine congrArg vI ?_; first | omega | (dsimp only; omega) | fail) | (refine congrArg some ?_) | omega | exact Nat.le_refl _ | exact congrArg (SV.lst _) (List.take_of_length_le (Nat.le_refl _)).symm))
        · exact congrArg (Ct.map (A := AF) 32 4) ((ins_ws hw).trans (by rw [htk]))
      · have hw : wayE e ∈ (es.take i).map wayE := of_decide_eq_true hy.symm
        have hr : ¬ RightL n es := fun h => by
          have h2 := h.apart
          have h3 : (es.take (i + 1)).map wayE = (es.take i).map wayE ++ [wayE e] := by rw [htk]; simp
          have h4 : ((es.take (i + 1)).map wayE).Nodup := by
            rw [← List.take_append_drop (i + 1) es, List.map_append, List.nodup_append] at h2
            exact h2.1
          rw [h3, List.nodup_append] at h4
          exact h4.2.2 _ hw _ (by simp) rfl
        conv => whnf
        repeat' (first | (refine tell (fun htest => ?_) (fun htest => ?_) <;> (try dsimp only at htest) <;> first | (exfalso; omega) | (exact absurd rfl htest) | (exact absurd (by decide) htest) | (conv => whnf)) | (refine allG rfl ?_; conv => whnf) | (refine And.intro (by first | omega | assumption | kernel_rfl | exact And.intro rfl rfl | ((try dsimp only [inR, idx, lowOf]); first | omega | (with_reducible decide) | (simp; omega) | fail) | fail) ?_; conv => whnf) | fail)
        exact ⟨false, [], by simp [spRight, hr], rfl, trivial, trivial⟩
  · have hi : i = es.length := by omega
    subst hi
    rw [List.take_of_length_le (Nat.le_refl _)] at hok hnd
    conv => whnf
    repeat' (first | (refine tell (fun htest => ?_) (fun htest => ?_) <;> (try dsimp only at htest) <;> first | (exfalso; omega) | (exact absurd rfl htest) | (exact absurd (by decide) htest) | (conv => whnf)) | (refine allG rfl ?_; conv => whnf) | (refine And.intro (by first | omega | assumption | kernel_rfl | exact And.intro rfl rfl | ((try dsimp only [inR, idx, lowOf]); first | omega | (with_reducible decide) | (simp; omega) | fail) | fail) ?_; conv => whnf) | fail)
    refine ⟨_, m_node, (0, n, es), [1001], false, ?_⟩
    conv => whnf
    refine And.intro (vc0 trivial (by (repeat' (first | exact trivial | exact rfl | refine And.intro ?_ ?_ | (refine congrArg vI ?_; first | omega | (dsimp only; omega) | fail) | (refine congrArg some ?_) | omega | exact Nat.le_refl _ | exact congrArg (SV.lst _) (List.take_of_length_le (Nat.le_refl _)).symm))) (by repeat' (first | exact trivial | exact rfl | refine And.intro ?_ ?_ | (refine congrArg vI ?_; first | omega | (dsimp only; omega) | fail) | (refine congrArg some ?_) | omega | exact Nat.le_refl _ | exact congrArg (SV.lst _) (List.take_of_length_le (Nat.le_refl _)).symm)) trivial trivial) ?_
    refine And.intro (node_ex 0 n) ?_
    intro (c : Bool) (hc : c = true ↔ 0 ≤ (0 : Int) ∧ 0 < n)
    cases c
    · have hr : ¬ RightL n es := fun h => by have := hc.2 ⟨Int.le_refl 0, h.pos⟩; cases this
      conv => whnf
      repeat' (first | (refine tell (fun htest => ?_) (fun htest => ?_) <;> (try dsimp only at htest) <;> first | (exfalso; omega) | (exact absurd rfl htest) | (exact absurd (by decide) htest) | (conv => whnf)) | (refine allG rfl ?_; conv => whnf) | (refine And.intro (by first | omega | assumption | kernel_rfl | exact And.intro rfl rfl | ((try dsimp only [inR, idx, lowOf]); first | omega | (with_reducible decide) | (simp; omega) | fail) | fail) ?_; conv => whnf) | fail)
      exact ⟨false, [], by simp [spRight, hr], rfl, trivial, trivial⟩
    have hc := (hc.1 rfl).2
    conv => whnf
    repeat' (first | (refine tell (fun htest => ?_) (fun htest => ?_) <;> (try dsimp only at htest) <;> first | (exfalso; omega) | (exact absurd rfl htest) | (exact absurd (by decide) htest) | (conv => whnf)) | (refine allG rfl ?_; conv => whnf) | (refine And.intro (by first | omega | assumption | kernel_rfl | exact And.intro rfl rfl | ((try dsimp only [inR, idx, lowOf]); first | omega | (with_reducible decide) | (simp; omega) | fail) | fail) ?_; conv => whnf) | fail)
    · have hr : RightL n es := ⟨hc, by assumption, by omega, hok, hnd⟩
      exact ⟨true, [], by simp [spRight, hr], rfl, trivial, trivial⟩
    · have hr : ¬ RightL n es := fun h => by have := h.len; omega
      exact ⟨false, [], by simp [spRight, hr], rfl, trivial, trivial⟩
    · have hr : ¬ RightL n es := fun h => by have := h.most; omega
      exact ⟨false, [], by simp [spRight, hr], rfl, trivial, trivial⟩
end Go.Sx


/-
  Layer 11, part B: the document's Right.
-/
namespace Go.Sx
open Go Go.Proofs Go.Proofs.Ytmogappoadglgaa
theorem nodup_get {α : Type} {l : List α} (hn : l.Nodup) {j m : Nat} {a : α} (h1 : l[j]? = some a) (h2 : l[m]? = some a) : j = m := by
  obtain ⟨l1, g1⟩ := List.getElem?_eq_some_iff.1 h1
  obtain ⟨l2, g2⟩ := List.getElem?_eq_some_iff.1 h2
  exact (List.getElem_inj hn).1 (g1.trans g2.symm)
def spRRight : Spec AF := { spRight with pre := fun g => g.2.length ≤ 9223372036854775807 }
theorem m_rright : Meets Try.prog regF 47 spRRight := by
  refine meets Try.func47 96 noWr rfl (by kernel_rfl) (by kernel_rfl) ?_
  rintro ⟨(n : Int), (es : List Edge)⟩ (hl : es.length ≤ 9223372036854775807)
  have fin : ∀ {c : Bool}, (c = true ↔ RightL n es) → spRRight.post (n, es) c := fun h => h
  conv => whnf
  repeat' (first | (refine tell (fun htest => ?_) (fun htest => ?_) <;> (try dsimp only at htest) <;> first | (exfalso; omega) | (exact absurd rfl htest) | (exact absurd (by decide) htest) | (conv => whnf)) | (refine allG rfl ?_; conv => whnf) | (refine And.intro (by first | omega | assumption | kernel_rfl | exact And.intro rfl rfl | ((try dsimp only [inR, idx, lowOf]); first | omega | (with_reducible decide) | (simp; omega) | fail) | fail) ?_; conv => whnf) | fail)
  · exact ⟨false, [], fin (by simp; exact fun h => by have := h.pos; omega), rfl, trivial, trivial⟩
  · exact ⟨false, [], fin (by simp; exact fun h => by have := h.most; omega), rfl, trivial, trivial⟩
  · exact ⟨false, [], fin (by simp; exact fun h => by have := h.len; omega), rfl, trivial, trivial⟩
  have hn1 : 0 < n := by omega
  have hn2 : n ≤ 40 := by omega
  have hl2 : es.length ≤ 120 := by omega
  refine ⟨Nat, fun i => ⟨[(1, .ptr 1001 0 2 0), (3, vI i)], [(1001, layC n es)]⟩, fun i => i ≤ es.length ∧ (∀ e ∈ es.take i, EdgeOk n e) ∧ ((es.take i).map wayE).Nodup, fun i => es.length - i, fun _ _ => rfl, ⟨0, [], ⟨Nat.zero_le _, fun _ h => by simp at h, by simp⟩, ?_⟩, ?_⟩
  · refine ⟨rfl, ?_, ?_, rfl⟩
    all_goals (repeat' (first | exact trivial | exact rfl | refine And.intro ?_ ?_ | (refine congrArg vI ?_; first | omega | (dsimp only; omega) | fail) | (refine congrArg some ?_) | omega | exact Nat.le_refl _ | exact congrArg (SV.lst _) (List.take_of_length_le (Nat.le_refl _)).symm))
  rintro (i : Nat) ⟨(hi : i ≤ es.length), (hok : ∀ e ∈ es.take i, EdgeOk n e), (hnd : ((es.take i).map wayE).Nodup)⟩
  by_cases hlt : i < es.length
  · obtain ⟨e, he⟩ : ∃ e, es[i]? = some e := ⟨_, List.getElem?_eq_getElem hlt⟩
    have hmem : e ∈ es := List.mem_of_getElem? he
    have htk : es.take (i + 1) = es.take i ++ [e] := by rw [List.take_add_one, he]; rfl
    have no : ¬ EdgeOk n e → ¬ RightL n es := fun h1 h2 => h1 (h2.each e hmem)
    conv => whnf
    repeat' (first | (refine tell (fun htest => ?_) (fun htest => ?_) <;> (try dsimp only at htest) <;> first | (exfalso; omega) | (exact absurd rfl htest) | (exact absurd (by decide) htest) | (conv => whnf)) | (refine allG (x := e) (by first | exact he | simpa [List.getElem?_append_right, lowOf] using he | fail) ?_; conv => whnf) | (refine allLst (x := e) (by first | omega | assumption | fail) (by first | exact he | simpa using he | fail) ?_; conv => whnf) | (refine allG rfl ?_; conv => whnf) | (refine And.intro (by first | omega | assumption | kernel_rfl | exact And.intro rfl rfl | ((try dsimp only [inR, idx, lowOf]); first | omega | (with_reducible decide) | (simp; omega) | fail) | fail) ?_; conv => whnf) | fail)
    all_goals try (exact ⟨false, [], fin (by simp; exact no fun h => by obtain ⟨h1, h2, h3, h4, h5, h6, h7⟩ := h; omega), rfl, trivial, trivial⟩)
    have hedge : EdgeOk n e := ⟨by omega, by omega, by omega, by omega, by omega, by omega, by omega⟩
    refine ⟨Nat, fun k => ⟨[(1, .ptr 1001 0 2 0), (3, vI i), (4, .ptr 1004 0 3 0), (5, vI k)], [(1001, layC n es), (1004, .cells [vI e.1, vI e.2.1, vI e.2.2])]⟩, fun k => k ≤ i ∧ ∀ x ∈ es.take k, wayE x ≠ wayE e, fun k => i - k, fun _ _ => rfl, ⟨0, [], ⟨Nat.zero_le _, fun _ h => by simp at h⟩, ?_⟩, ?_⟩
    · refine ⟨rfl, ?_, ?_, rfl⟩
      all_goals (repeat' (first | exact trivial | exact rfl | refine And.intro ?_ ?_ | (refine congrArg vI ?_; first | omega | (dsimp only; omega) | fail) | (refine congrArg some ?_) | omega | exact Nat.le_refl _ | exact congrArg (SV.lst _) (List.take_of_length_le (Nat.le_refl _)).symm))
    rintro (k : Nat) ⟨(hk : k ≤ i), (hkk : ∀ x ∈ es.take k, wayE x ≠ wayE e)⟩
    by_cases hklt : k < i
    · obtain ⟨x, hx⟩ : ∃ x, es[k]? = some x := ⟨_, List.getElem?_eq_getElem (by omega)⟩
      have hkt : es.take (k + 1) = es.take k ++ [x] := by rw [List.take_add_one, hx]; rfl
      have hstep : wayE x ≠ wayE e → ∀ y ∈ es.take (k + 1), wayE y ≠ wayE e := fun h y hy => by
        rw [hkt] at hy
        rcases List.mem_append.1 hy with hy | hy
        · exact hkk y hy
        · simp at hy; subst hy; exact h
      have hsame : wayE x = wayE e → ¬ RightL n es := fun h h2 => by
        have := nodup_get h2.apart (j := k) (m := i) (a := wayE e) (by rw [List.getElem?_map, hx]; exact congrArg some h) (by rw [List.getElem?_map, he]; rfl)
        omega
      conv => whnf
      repeat' (first | (refine tell (fun htest => ?_) (fun htest => ?_) <;> (try dsimp only at htest) <;> first | (exfalso; omega) | (exact absurd rfl htest) | (exact absurd (by decide) htest) | (conv => whnf)) | (refine allG (x := x) (by first | exact hx | simpa [List.getElem?_append_right, lowOf] using hx | fail) ?_; conv => whnf) | (refine allLst (x := x) (by first | omega | assumption | fail) (by first | exact hx | simpa using hx | fail) ?_; conv => whnf) | (refine allG rfl ?_; conv => whnf) | (refine And.intro (by first | omega | assumption | kernel_rfl | exact And.intro rfl rfl | ((try dsimp only [inR, idx, lowOf]); first | omega | (with_reducible decide) | (simp; omega) | fail) | fail) ?_; conv => whnf) | fail)
      · have hr := hsame (Prod.ext (by assumption) (by assumption))
        exact ⟨false, [], fin (by simp; exact hr), rfl, trivial, trivial⟩
      · refine ⟨k + 1, [], ⟨hklt, hstep fun h => absurd (congrArg Prod.snd h) (by assumption)⟩, ?_, rfl, ?_, ?_, rfl⟩
        · dsimp only; first | omega | (simp; done) | (simp; omega)
        all_goals (repeat' (first | exact trivial | exact rfl | refine And.intro ?_ ?_ | (refine congrArg vI ?_; first | omega | (dsimp only; omega) | fail) | (refine congrArg some ?_) | omega | exact Nat.le_refl _ | exact congrArg (SV.lst _) (List.take_of_length_le (Nat.le_refl _)).symm))
      · refine ⟨k + 1, [], ⟨hklt, hstep fun h => absurd (congrArg Prod.fst h) (by assumption)⟩, ?_, rfl, ?_, ?_, rfl⟩
        · dsimp only; first | omega | (simp; done) | (simp; omega)
        all_goals (repeat' (first | exact trivial | exact rfl | refine And.intro ?_ ?_ | (refine congrArg vI ?_; first | omega | (dsimp only; omega) | fail) | (refine congrArg some ?_) | omega | exact Nat.le_refl _ | exact congrArg (SV.lst _) (List.take_of_length_le (Nat.le_refl _)).symm))
    · have hk : k = i := by omega
      subst hk
      have hw : wayE e ∉ (es.take k).map wayE := fun h => by
        obtain ⟨x, h1, h2⟩ := List.mem_map.1 h
        exact hkk x h1 h2
      have hok' : ∀ x ∈ es.take (k + 1), EdgeOk n x := fun x hx => by
        rw [htk] at hx
        rcases List.mem_append.1 hx with hx | hx
        · exact hok x hx
        · simp at hx; subst hx; exact hedge
      conv => whnf
      repeat' (first | (refine tell (fun htest => ?_) (fun htest => ?_) <;> (try dsimp only at htest) <;> first | (exfalso; omega) | (exact absurd rfl htest) | (exact absurd (by decide) htest) | (conv => whnf)) | (refine allG rfl ?_; conv => whnf) | (refine And.intro (by first | omega | assumption | kernel_rfl | exact And.intro rfl rfl | ((try dsimp only [inR, idx, lowOf]); first | omega | (with_reducible decide) | (simp; omega) | fail) | fail) ?_; conv => whnf) | fail)
      refine ⟨k + 1, [], ⟨hlt, hok', by rw [htk, List.map_append, List.nodup_append]; exact ⟨hnd, by simp, fun x hx z hz => by simp at hz; subst hz; exact fun h => hw (h ▸ hx)⟩⟩, ?_, rfl, ?_, ?_, rfl⟩
      · dsimp only; first | omega | (simp; done) | (simp; omega)
      all_goals (repeat' (first | exact trivial | exact rfl | refine And.intro ?_ ?_ | (refine congrArg vI ?_; first | omega | (dsimp only; omega) | fail) | (refine congrArg some ?_) | omega | exact Nat.le_refl _ | exact congrArg (SV.lst _) (List.take_of_length_le (Nat.le_refl _)).symm))
  · have hi : i = es.length := by omega
    subst hi
    rw [List.take_of_length_le (Nat.le_refl _)] at hok hnd
    conv => whnf
    repeat' (first | (refine tell (fun htest => ?_) (fun htest => ?_) <;> (try dsimp only at htest) <;> first | (exfalso; omega) | (exact absurd rfl htest) | (exact absurd (by decide) htest) | (conv => whnf)) | (refine allG rfl ?_; conv => whnf) | (refine And.intro (by first | omega | assumption | kernel_rfl | exact And.intro rfl rfl | ((try dsimp only [inR, idx, lowOf]); first | omega | (with_reducible decide) | (simp; omega) | fail) | fail) ?_; conv => whnf) | fail)
    exact ⟨true, [], fin ⟨fun _ => ⟨hn1, hn2, hl2, hok, hnd⟩, fun _ => rfl⟩, rfl, trivial, trivial⟩
end Go.Sx


/-
  Layer 11, part C: small things: which of n things; two lists the same; is a number in a list.
-/
namespace Go.Sx
open Go Go.Proofs Go.Proofs.Ytmogappoadglgaa
theorem m_pick11 : Meets Try.prog regF 38 spPick := by
  refine meets Try.func38 13 noWr rfl (by kernel_rfl) (by kernel_rfl) ?_
  rintro ⟨(c : Int), (n : Int)⟩ ⟨⟨hc1, hc2⟩, (hn : 0 < n)⟩
  conv => whnf
  repeat' (first | (refine tell (fun htest => ?_) (fun htest => ?_) <;> (try dsimp only at htest) <;> first | (exfalso; omega) | (exact absurd rfl htest) | (exact absurd (by decide) htest) | (conv => whnf)) | (refine allG rfl ?_; conv => whnf) | (refine And.intro (by first | omega | assumption | kernel_rfl | exact And.intro rfl rfl | ((try dsimp only [inR, idx, lowOf]); first | omega | (with_reducible decide) | (simp; omega) | fail) | fail) ?_; conv => whnf) | fail)
  all_goals exact ⟨(), [], trivial, eI (by unfold pickF; first | rw [if_pos (by assumption)] | rw [if_neg (by assumption)]), trivial, trivial⟩
def spInts : Spec AF where
  γ := List Int × List Int
  δ := Bool
  args := fun g => [.lst 3 g.1, .lst 3 g.2]
  own := fun _ => []
  pre := fun g => g.1.length ≤ 9223372036854775807
  nnew := 0
  res := fun _ c => vB c
  own' := fun _ _ => []
  post := fun g c => (c = true ↔ g.1 = g.2)
theorem take_snocI {α : Type} {l : List α} {i : Nat} {y : α} (h : l[i]? = some y) : l.take (i + 1) = l.take i ++ [y] := by rw [List.take_add_one, h]; rfl
theorem m_ints : Meets Try.prog regF 41 spInts := by
  refine meets Try.func41 26 noWr rfl (by kernel_rfl) (by kernel_rfl) ?_
  rintro ⟨(a : List Int), (b : List Int)⟩ (hl : a.length ≤ 9223372036854775807)
  by_cases hlen : a.length = b.length
  · conv => whnf
    repeat' (first | (refine tell (fun htest => ?_) (fun htest => ?_) <;> (try dsimp only at htest) <;> first | (exfalso; omega) | (exact absurd rfl htest) | (exact absurd (by decide) htest) | (conv => whnf)) | (refine allG rfl ?_; conv => whnf) | (refine And.intro (by first | omega | assumption | kernel_rfl | exact And.intro rfl rfl | ((try dsimp only [inR, idx, lowOf]); first | omega | (with_reducible decide) | (simp; omega) | fail) | fail) ?_; conv => whnf) | fail)
    refine ⟨Nat, fun i => ⟨[(0, .lst 3 a), (1, .lst 3 b), (5, vI i)], []⟩, fun i => i ≤ a.length ∧ a.take i = b.take i, fun i => a.length - i, fun _ _ => rfl, ⟨0, [], ⟨Nat.zero_le _, by simp⟩, ?_⟩, ?_⟩
    · refine ⟨rfl, ?_, ?_, rfl⟩
      all_goals (repeat' (first | exact trivial | exact rfl | refine And.intro ?_ ?_ | (refine congrArg vI ?_; first | omega | (dsimp only; omega) | fail) | (refine congrArg some ?_) | omega | exact Nat.le_refl _ | exact congrArg (SV.lst _) (List.take_of_length_le (Nat.le_refl _)).symm))
    rintro (i : Nat) ⟨(hi : i ≤ a.length), (hs : a.take i = b.take i)⟩
    by_cases hlt : i < a.length
    · obtain ⟨x, hx⟩ : ∃ x, a[i]? = some x := ⟨_, List.getElem?_eq_getElem hlt⟩
      obtain ⟨y, hy⟩ : ∃ y, b[i]? = some y := ⟨_, List.getElem?_eq_getElem (by omega)⟩
      by_cases hxy : x = y
      · conv => whnf
        repeat' (first | (refine tell (fun htest => ?_) (fun htest => ?_) <;> (try dsimp only at htest) <;> first | (exfalso; omega) | (exact absurd rfl htest) | (exact absurd (by decide) htest) | (conv => whnf)) | (refine allG (x := x) (by first | exact hx | simpa [List.getElem?_append_right, lowOf] using hx | fail) ?_; conv => whnf) | (refine allLst (x := x) (by first | omega | assumption | fail) (by first | exact hx | simpa using hx | fail) ?_; conv => whnf) | (refine allG (x := y) (by first | exact hy | simpa [List.getElem?_append_right, lowOf] using hy | fail) ?_; conv => whnf) | (refine allLst (x := y) (by first | omega | assumption | fail) (by first | exact hy | simpa using hy | fail) ?_; conv => whnf) | (refine allG rfl ?_; conv => whnf) | (refine And.intro (by first | omega | assumption | kernel_rfl | exact And.intro rfl rfl | ((try dsimp only [inR, idx, lowOf]); first | omega | (with_reducible decide) | (simp; omega) | fail) | fail) ?_; conv => whnf) | fail)
        refine ⟨i + 1, [], ⟨hlt, by rw [take_snocI hx, take_snocI hy, hs, hxy]⟩, ?_, rfl, ?_, ?_, rfl⟩
        · dsimp only; first | omega | (simp; done) | (simp; omega)
        all_goals (repeat' (first | exact trivial | exact rfl | refine And.intro ?_ ?_ | (refine congrArg vI ?_; first | omega | (dsimp only; omega) | fail) | (refine congrArg some ?_) | omega | exact Nat.le_refl _ | exact congrArg (SV.lst _) (List.take_of_length_le (Nat.le_refl _)).symm))
      · have hne : ¬ a = b := fun h => by subst h; rw [hx] at hy; cases hy; exact hxy rfl
        conv => whnf
        repeat' (first | (refine tell (fun htest => ?_) (fun htest => ?_) <;> (try dsimp only at htest) <;> first | (exfalso; omega) | (exact absurd rfl htest) | (exact absurd (by decide) htest) | (conv => whnf)) | (refine allG (x := x) (by first | exact hx | simpa [List.getElem?_append_right, lowOf] using hx | fail) ?_; conv => whnf) | (refine allLst (x := x) (by first | omega | assumption | fail) (by first | exact hx | simpa using hx | fail) ?_; conv => whnf) | (refine allG (x := y) (by first | exact hy | simpa [List.getElem?_append_right, lowOf] using hy | fail) ?_; conv => whnf) | (refine allLst (x := y) (by first | omega | assumption | fail) (by first | exact hy | simpa using hy | fail) ?_; conv => whnf) | (refine allG rfl ?_; conv => whnf) | (refine And.intro (by first | omega | assumption | kernel_rfl | exact And.intro rfl rfl | ((try dsimp only [inR, idx, lowOf]); first | omega | (with_reducible decide) | (simp; omega) | fail) | fail) ?_; conv => whnf) | fail)
        exact ⟨false, [], by simp [spInts, hne], rfl, trivial, trivial⟩
    · have hab : a = b := by
        rw [List.take_of_length_le (by omega), List.take_of_length_le (by omega)] at hs; exact hs
      conv => whnf
      repeat' (first | (refine tell (fun htest => ?_) (fun htest => ?_) <;> (try dsimp only at htest) <;> first | (exfalso; omega) | (exact absurd rfl htest) | (exact absurd (by decide) htest) | (conv => whnf)) | (refine allG rfl ?_; conv => whnf) | (refine And.intro (by first | omega | assumption | kernel_rfl | exact And.intro rfl rfl | ((try dsimp only [inR, idx, lowOf]); first | omega | (with_reducible decide) | (simp; omega) | fail) | fail) ?_; conv => whnf) | fail)
      exact ⟨true, [], by simp [spInts, hab], rfl, trivial, trivial⟩
  · have hne : ¬ a = b := fun h => hlen (by rw [h])
    conv => whnf
    repeat' (first | (refine tell (fun htest => ?_) (fun htest => ?_) <;> (try dsimp only at htest) <;> first | (exfalso; omega) | (exact absurd rfl htest) | (exact absurd (by decide) htest) | (conv => whnf)) | (refine allG rfl ?_; conv => whnf) | (refine And.intro (by first | omega | assumption | kernel_rfl | exact And.intro rfl rfl | ((try dsimp only [inR, idx, lowOf]); first | omega | (with_reducible decide) | (simp; omega) | fail) | fail) ?_; conv => whnf) | fail)
    exact ⟨false, [], by simp [spInts, hne], rfl, trivial, trivial⟩
def spHas : Spec AF where
  γ := List Int × Int
  δ := Bool
  args := fun g => [.lst 3 g.1, vI g.2]
  own := fun _ => []
  pre := fun g => g.1.length ≤ 9223372036854775807
  nnew := 0
  res := fun _ c => vB c
  own' := fun _ _ => []
  post := fun g c => (c = true ↔ g.2 ∈ g.1)
theorem m_has : Meets Try.prog regF 50 spHas := by
  refine meets Try.func50 18 noWr rfl (by kernel_rfl) (by kernel_rfl) ?_
  rintro ⟨(a : List Int), (k : Int)⟩ (hl : a.length ≤ 9223372036854775807)
  conv => whnf
  repeat' (first | (refine tell (fun htest => ?_) (fun htest => ?_) <;> (try dsimp only at htest) <;> first | (exfalso; omega) | (exact absurd rfl htest) | (exact absurd (by decide) htest) | (conv => whnf)) | (refine allG rfl ?_; conv => whnf) | (refine And.intro (by first | omega | assumption | kernel_rfl | exact And.intro rfl rfl | ((try dsimp only [inR, idx, lowOf]); first | omega | (with_reducible decide) | (simp; omega) | fail) | fail) ?_; conv => whnf) | fail)
  refine ⟨Nat, fun i => ⟨[(0, .lst 3 a), (1, vI k), (5, vI i)], []⟩, fun i => i ≤ a.length ∧ k ∉ a.take i, fun i => a.length - i, fun _ _ => rfl, ⟨0, [], ⟨Nat.zero_le _, by simp⟩, ?_⟩, ?_⟩
  · refine ⟨rfl, ?_, ?_, rfl⟩
    all_goals (repeat' (first | exact trivial | exact rfl | refine And.intro ?_ ?_ | (refine congrArg vI ?_; first | omega | (dsimp only; omega) | fail) | (refine congrArg some ?_) | omega | exact Nat.le_refl _ | exact congrArg (SV.lst _) (List.take_of_length_le (Nat.le_refl _)).symm))
  rintro (i : Nat) ⟨(hi : i ≤ a.length), (hs : k ∉ a.take i)⟩
  by_cases hlt : i < a.length
  · obtain ⟨x, hx⟩ : ∃ x, a[i]? = some x := ⟨_, List.getElem?_eq_getElem hlt⟩
    have hm := List.mem_of_getElem? hx
    by_cases hxk : x = k
    · conv => whnf
      repeat' (first | (refine tell (fun htest => ?_) (fun htest => ?_) <;> (try dsimp only at htest) <;> first | (exfalso; omega) | (exact absurd rfl htest) | (exact absurd (by decide) htest) | (conv => whnf)) | (refine allG (x := x) (by first | exact hx | simpa [List.getElem?_append_right, lowOf] using hx | fail) ?_; conv => whnf) | (refine allLst (x := x) (by first | omega | assumption | fail) (by first | exact hx | simpa using hx | fail) ?_; conv => whnf) | (refine allG rfl ?_; conv => whnf) | (refine And.intro (by first | omega | assumption | kernel_rfl | exact And.intro rfl rfl | ((try dsimp only [inR, idx, lowOf]); first | omega | (with_reducible decide) | (simp; omega) | fail) | fail) ?_; conv => whnf) | fail)
      exact ⟨true, [], by simp [spHas]; exact hxk ▸ hm, rfl, trivial, trivial⟩
    · conv => whnf
      repeat' (first | (refine tell (fun htest => ?_) (fun htest => ?_) <;> (try dsimp only at htest) <;> first | (exfalso; omega) | (exact absurd rfl htest) | (exact absurd (by decide) htest) | (conv => whnf)) | (refine allG (x := x) (by first | exact hx | simpa [List.getElem?_append_right, lowOf] using hx | fail) ?_; conv => whnf) | (refine allLst (x := x) (by first | omega | assumption | fail) (by first | exact hx | simpa using hx | fail) ?_; conv => whnf) | (refine allG rfl ?_; conv => whnf) | (refine And.intro (by first | omega | assumption | kernel_rfl | exact And.intro rfl rfl | ((try dsimp only [inR, idx, lowOf]); first | omega | (with_reducible decide) | (simp; omega) | fail) | fail) ?_; conv => whnf) | fail)
      refine ⟨i + 1, [], ⟨hlt, by rw [take_snocI hx]; simp; exact ⟨hs, fun h => hxk h.symm⟩⟩, ?_, rfl, ?_, ?_, rfl⟩
      · dsimp only; first | omega | (simp; done) | (simp; omega)
      all_goals (repeat' (first | exact trivial | exact rfl | refine And.intro ?_ ?_ | (refine congrArg vI ?_; first | omega | (dsimp only; omega) | fail) | (refine congrArg some ?_) | omega | exact Nat.le_refl _ | exact congrArg (SV.lst _) (List.take_of_length_le (Nat.le_refl _)).symm))
  · rw [List.take_of_length_le (by omega)] at hs
    conv => whnf
    repeat' (first | (refine tell (fun htest => ?_) (fun htest => ?_) <;> (try dsimp only at htest) <;> first | (exfalso; omega) | (exact absurd rfl htest) | (exact absurd (by decide) htest) | (conv => whnf)) | (refine allG rfl ?_; conv => whnf) | (refine And.intro (by first | omega | assumption | kernel_rfl | exact And.intro rfl rfl | ((try dsimp only [inR, idx, lowOf]); first | omega | (with_reducible decide) | (simp; omega) | fail) | fail) ?_; conv => whnf) | fail)
    exact ⟨false, [], by simp [spHas, hs], rfl, trivial, trivial⟩
theorem m_rhas : Meets Try.prog regF 82 spHas := by
  refine meets Try.func82 18 noWr rfl (by kernel_rfl) (by kernel_rfl) ?_
  rintro ⟨(a : List Int), (k : Int)⟩ (hl : a.length ≤ 9223372036854775807)
  conv => whnf
  repeat' (first | (refine tell (fun htest => ?_) (fun htest => ?_) <;> (try dsimp only at htest) <;> first | (exfalso; omega) | (exact absurd rfl htest) | (exact absurd (by decide) htest) | (conv => whnf)) | (refine allG rfl ?_; conv => whnf) | (refine And.intro (by first | omega | assumption | kernel_rfl | exact And.intro rfl rfl | ((try dsimp only [inR, idx, lowOf]); first | omega | (with_reducible decide) | (simp; omega) | fail) | fail) ?_; conv => whnf) | fail)
  refine ⟨Nat, fun i => ⟨[(0, .lst 3 a), (1, vI k), (5, vI i)], []⟩, fun i => i ≤ a.length ∧ k ∉ a.take i, fun i => a.length - i, fun _ _ => rfl, ⟨0, [], ⟨Nat.zero_le _, by simp⟩, ?_⟩, ?_⟩
  · refine ⟨rfl, ?_, ?_, rfl⟩
    all_goals (repeat' (first | exact trivial | exact rfl | refine And.intro ?_ ?_ | (refine congrArg vI ?_; first | omega | (dsimp only; omega) | fail) | (refine congrArg some ?_) | omega | exact Nat.le_refl _ | exact congrArg (SV.lst _) (List.take_of_length_le (Nat.le_refl _)).symm))
  rintro (i : Nat) ⟨(hi : i ≤ a.length), (hs : k ∉ a.take i)⟩
  by_cases hlt : i < a.length
  · obtain ⟨x, hx⟩ : ∃ x, a[i]? = some x := ⟨_, List.getElem?_eq_getElem hlt⟩
    have hm := List.mem_of_getElem? hx
    by_cases hxk : x = k
    · conv => whnf
      repeat' (first | (refine tell (fun htest => ?_) (fun htest => ?_) <;> (try dsimp only at htest) <;> first | (exfalso; omega) | (exact absurd rfl htest) | (exact absurd (by decide) htest) | (conv => whnf)) | (refine allG (x := x) (by first | exact hx | simpa [List.getElem?_append_right, lowOf] using hx | fail) ?_; conv => whnf) | (refine allLst (x := x) (by first | omega | assumption | fail) (by first | exact hx | simpa using hx | fail) ?_; conv => whnf) | (refine allG rfl ?_; conv => whnf) | (refine And.intro (by first | omega | assumption | kernel_rfl | exact And.intro rfl rfl | ((try dsimp only [inR, idx, lowOf]); first | omega | (with_reducible decide) | (simp; omega) | fail) | fail) ?_; conv => whnf) | fail)
      exact ⟨true, [], by simp [spHas]; exact hxk ▸ hm, rfl, trivial, trivial⟩
    · conv => whnf
      repeat' (first | (refine tell (fun htest => ?_) (fun htest => ?_) <;> (try dsimp only at htest) <;> first | (exfalso; omega) | (exact absurd rfl htest) | (exact absurd (by decide) htest) | (conv => whnf)) | (refine allG (x := x) (by first | exact hx | simpa [List.getElem?_append_right, lowOf] using hx | fail) ?_; conv => whnf) | (refine allLst (x := x) (by first | omega | assumption | fail) (by first | exact hx | simpa using hx | fail) ?_; conv => whnf) | (refine allG rfl ?_; conv => whnf) | (refine And.intro (by first | omega | assumption | kernel_rfl | exact And.intro rfl rfl | ((try dsimp only [inR, idx, lowOf]); first | omega | (with_reducible decide) | (simp; omega) | fail) | fail) ?_; conv => whnf) | fail)
      refine ⟨i + 1, [], ⟨hlt, by rw [take_snocI hx]; simp; exact ⟨hs, fun h => hxk h.symm⟩⟩, ?_, rfl, ?_, ?_, rfl⟩
      · dsimp only; first | omega | (simp; done) | (simp; omega)
      all_goals (repeat' (first | exact trivial | exact rfl | refine And.intro ?_ ?_ | (refine congrArg vI ?_; first | omega | (dsimp only; omega) | fail) | (refine congrArg some ?_) | omega | exact Nat.le_refl _ | exact congrArg (SV.lst _) (List.take_of_length_le (Nat.le_refl _)).symm))
  · rw [List.take_of_length_le (by omega)] at hs
    conv => whnf
    repeat' (first | (refine tell (fun htest => ?_) (fun htest => ?_) <;> (try dsimp only at htest) <;> first | (exfalso; omega) | (exact absurd rfl htest) | (exact absurd (by decide) htest) | (conv => whnf)) | (refine allG rfl ?_; conv => whnf) | (refine And.intro (by first | omega | assumption | kernel_rfl | exact And.intro rfl rfl | ((try dsimp only [inR, idx, lowOf]); first | omega | (with_reducible decide) | (simp; omega) | fail) | fail) ?_; conv => whnf) | fail)
    exact ⟨false, [], by simp [spHas, hs], rfl, trivial, trivial⟩
end Go.Sx


/-
  Layer 11, part D: Contains; Out.
-/
namespace Go.Sx
open Go Go.Proofs Go.Proofs.Ytmogappoadglgaa
def spIndex : Spec AF where
  γ := List Int × Int
  δ := Int
  args := fun g => [.lst 3 g.1, vI g.2]
  own := fun _ => []
  pre := fun g => g.1.length ≤ 9223372036854775807
  nnew := 0
  res := fun _ r => vI r
  own' := fun _ _ => []
  post := fun g r => (0 ≤ r ↔ g.2 ∈ g.1)
theorem m_index : Meets Try.prog regF 100 spIndex := by
  refine meets Try.func100 19 noWr rfl (by kernel_rfl) (by kernel_rfl) ?_
  rintro ⟨(a : List Int), (k : Int)⟩ (hl : a.length ≤ 9223372036854775807)
  conv => whnf
  repeat' (first | (refine tell (fun htest => ?_) (fun htest => ?_) <;> (try dsimp only at htest) <;> first | (exfalso; omega) | (exact absurd rfl htest) | (exact absurd (by decide) htest) | (conv => whnf)) | (refine allG rfl ?_; conv => whnf) | (refine And.intro (by first | omega | assumption | kernel_rfl | exact And.intro rfl rfl | ((try dsimp only [inR, idx, lowOf]); first | omega | (with_reducible decide) | (simp; omega) | fail) | fail) ?_; conv => whnf) | fail)
  refine ⟨Nat, fun i => ⟨[(0, .lst 3 a), (1, vI k), (7, vI a.length), (8, vI i)], []⟩, fun i => i ≤ a.length ∧ k ∉ a.take i, fun i => a.length - i, fun _ _ => rfl, ⟨0, [], ⟨Nat.zero_le _, by simp⟩, ?_⟩, ?_⟩
  · refine ⟨rfl, ?_, ?_, rfl⟩
    all_goals (repeat' (first | exact trivial | exact rfl | refine And.intro ?_ ?_ | (refine congrArg vI ?_; first | omega | (dsimp only; omega) | fail) | (refine congrArg some ?_) | omega | exact Nat.le_refl _ | exact congrArg (SV.lst _) (List.take_of_length_le (Nat.le_refl _)).symm))
  rintro (i : Nat) ⟨(hi : i ≤ a.length), (hs : k ∉ a.take i)⟩
  by_cases hlt : i < a.length
  · obtain ⟨x, hx⟩ : ∃ x, a[i]? = some x := ⟨_, List.getElem?_eq_getElem hlt⟩
    have hm := List.mem_of_getElem? hx
    by_cases hxk : x = k
    · conv => whnf
      repeat' (first | (refine tell (fun htest => ?_) (fun htest => ?_) <;> (try dsimp only at htest) <;> first | (exfalso; omega) | (exact absurd rfl htest) | (exact absurd (by decide) htest) | (conv => whnf)) | (refine allG (x := x) (by first | exact hx | simpa [List.getElem?_append_right, lowOf] using hx | fail) ?_; conv => whnf) | (refine allLst (x := x) (by first | omega | assumption | fail) (by first | exact hx | simpa using hx | fail) ?_; conv => whnf) | (refine allG rfl ?_; conv => whnf) | (refine And.intro (by first | omega | assumption | kernel_rfl | exact And.intro rfl rfl | ((try dsimp only [inR, idx, lowOf]); first | omega | (with_reducible decide) | (simp; omega) | fail) | fail) ?_; conv => whnf) | fail)
      exact ⟨(i : Int), [], ⟨fun _ => hxk ▸ hm, fun _ => Int.natCast_nonneg i⟩, rfl, trivial, trivial⟩
    · conv => whnf
      repeat' (first | (refine tell (fun htest => ?_) (fun htest => ?_) <;> (try dsimp only at htest) <;> first | (exfalso; omega) | (exact absurd rfl htest) | (exact absurd (by decide) htest) | (conv => whnf)) | (refine allG (x := x) (by first | exact hx | simpa [List.getElem?_append_right, lowOf] using hx | fail) ?_; conv => whnf) | (refine allLst (x := x) (by first | omega | assumption | fail) (by first | exact hx | simpa using hx | fail) ?_; conv => whnf) | (refine allG rfl ?_; conv => whnf) | (refine And.intro (by first | omega | assumption | kernel_rfl | exact And.intro rfl rfl | ((try dsimp only [inR, idx, lowOf]); first | omega | (with_reducible decide) | (simp; omega) | fail) | fail) ?_; conv => whnf) | fail)
      refine ⟨i + 1, [], ⟨hlt, by rw [take_snocI hx]; simp; exact ⟨hs, fun h => hxk h.symm⟩⟩, ?_, rfl, ?_, ?_, rfl⟩
      · dsimp only; first | omega | (simp; done) | (simp; omega)
      all_goals (repeat' (first | exact trivial | exact rfl | refine And.intro ?_ ?_ | (refine congrArg vI ?_; first | omega | (dsimp only; omega) | fail) | (refine congrArg some ?_) | omega | exact Nat.le_refl _ | exact congrArg (SV.lst _) (List.take_of_length_le (Nat.le_refl _)).symm))
  · rw [List.take_of_length_le (by omega)] at hs
    conv => whnf
    repeat' (first | (refine tell (fun htest => ?_) (fun htest => ?_) <;> (try dsimp only at htest) <;> first | (exfalso; omega) | (exact absurd rfl htest) | (exact absurd (by decide) htest) | (conv => whnf)) | (refine allG rfl ?_; conv => whnf) | (refine And.intro (by first | omega | assumption | kernel_rfl | exact And.intro rfl rfl | ((try dsimp only [inR, idx, lowOf]); first | omega | (with_reducible decide) | (simp; omega) | fail) | fail) ?_; conv => whnf) | fail)
    exact ⟨(-1 : Int), [], ⟨fun h => absurd h (by decide), fun h => absurd h hs⟩, rfl, trivial, trivial⟩
theorem index_ex (a : List Int) (k : Int) : ∃ r : Int, 0 ≤ r ↔ k ∈ a := by
  by_cases h : k ∈ a
  · exact ⟨0, by simp [h]⟩
  · exact ⟨-1, by simp [h]⟩
theorem m_contains : Meets Try.prog regF 88 spHas := by
  refine meets Try.func88 9 noWr rfl (by kernel_rfl) (by kernel_rfl) ?_
  rintro ⟨(a : List Int), (k : Int)⟩ (hl : a.length ≤ 9223372036854775807)
  conv => whnf
  repeat' (first | (refine tell (fun htest => ?_) (fun htest => ?_) <;> (try dsimp only at htest) <;> first | (exfalso; omega) | (exact absurd rfl htest) | (exact absurd (by decide) htest) | (conv => whnf)) | (refine allG rfl ?_; conv => whnf) | (refine And.intro (by first | omega | assumption | kernel_rfl | exact And.intro rfl rfl | ((try dsimp only [inR, idx, lowOf]); first | omega | (with_reducible decide) | (simp; omega) | fail) | fail) ?_; conv => whnf) | fail)
  refine ⟨_, m_index, (a, k), [], false, ?_⟩
  conv => whnf
  refine And.intro (vc0 hl (by (repeat' (first | exact trivial | exact rfl | refine And.intro ?_ ?_ | (refine congrArg vI ?_; first | omega | (dsimp only; omega) | fail) | (refine congrArg some ?_) | omega | exact Nat.le_refl _ | exact congrArg (SV.lst _) (List.take_of_length_le (Nat.le_refl _)).symm))) (by repeat' (first | exact trivial | exact rfl | refine And.intro ?_ ?_ | (refine congrArg vI ?_; first | omega | (dsimp only; omega) | fail) | (refine congrArg some ?_) | omega | exact Nat.le_refl _ | exact congrArg (SV.lst _) (List.take_of_length_le (Nat.le_refl _)).symm)) trivial trivial) ?_
  refine And.intro (index_ex a k) ?_
  intro (r : Int) (hr : 0 ≤ r ↔ k ∈ a)
  conv => whnf
  repeat' (first | (refine tell (fun htest => ?_) (fun htest => ?_) <;> (try dsimp only at htest) <;> first | (exfalso; omega) | (exact absurd rfl htest) | (exact absurd (by decide) htest) | (conv => whnf)) | (refine allG rfl ?_; conv => whnf) | (refine And.intro (by first | omega | assumption | kernel_rfl | exact And.intro rfl rfl | ((try dsimp only [inR, idx, lowOf]); first | omega | (with_reducible decide) | (simp; omega) | fail) | fail) ?_; conv => whnf) | fail)
  · exact ⟨true, [], ⟨fun _ => hr.1 (by assumption), fun _ => rfl⟩, rfl, trivial, trivial⟩
  · exact ⟨false, [], ⟨fun h => (by cases h), fun h => absurd (hr.2 h) (by omega)⟩, rfl, trivial, trivial⟩
/-- The edges out of a node. -/
def outL (es : List Edge) (n : Int) (i : Nat) : List Int := match es with
  | [] => []
  | e :: t => if e.1 = n then (i : Int) :: outL t n (i + 1) else outL t n (i + 1)
theorem outL_snoc (n : Int) (e : Edge) : ∀ (es : List Edge) (i : Nat), outL (es ++ [e]) n i = outL es n i ++ if e.1 = n then [((i + es.length : Nat) : Int)] else []
  | [], i => by simp only [List.nil_append, outL, List.length_nil, Nat.add_zero]
  | x :: t, i => by
    simp only [List.cons_append, outL]
    rw [outL_snoc n e t (i + 1), show i + 1 + t.length = i + (x :: t).length by simp; omega]
    split <;> simp
theorem outL_len (n : Int) : ∀ (es : List Edge) (i : Nat), (outL es n i).length ≤ es.length
  | [], _ => Nat.le_refl _
  | e :: t, i => by
    have := outL_len n t (i + 1)
    simp only [outL]
    split <;> simp <;> omega
open Classical in
noncomputable def outF (n : Int) (es : List Edge) (k : Int) : List Int := if RightL n es then outL es k 0 else []
noncomputable def spOut : Spec AF where
  γ := Int × List Edge × Int
  δ := Unit
  args := fun g => [layS g.1 g.2.1, vI g.2.2]
  own := fun _ => []
  pre := fun g => GoodL g.2.1
  nnew := 0
  res := fun g _ => .lst 3 (outF g.1 g.2.1 g.2.2)
  own' := fun _ _ => []
  post := fun _ _ => True
theorem right_ex (n : Int) (es : List Edge) : ∃ c : Bool, c = true ↔ RightL n es := by
  by_cases h : RightL n es
  · exact ⟨true, by simp [h]⟩
  · exact ⟨false, by simp [h]⟩
theorem m_out : Meets Try.prog regF 42 spOut := by
  refine meets Try.func42 27 noWr rfl (by kernel_rfl) (by kernel_rfl) ?_
  rintro ⟨(n : Int), (es : List Edge), (k : Int)⟩ (hg : GoodL es)
  conv => whnf
  repeat' (first | (refine tell (fun htest => ?_) (fun htest => ?_) <;> (try dsimp only at htest) <;> first | (exfalso; omega) | (exact absurd rfl htest) | (exact absurd (by decide) htest) | (conv => whnf)) | (refine allG rfl ?_; conv => whnf) | (refine And.intro (by first | omega | assumption | kernel_rfl | exact And.intro rfl rfl | ((try dsimp only [inR, idx, lowOf]); first | omega | (with_reducible decide) | (simp; omega) | fail) | fail) ?_; conv => whnf) | fail)
  refine ⟨_, m_right, (n, es), [], false, ?_⟩
  conv => whnf
  refine And.intro (vc0 hg (by (repeat' (first | exact trivial | exact rfl | refine And.intro ?_ ?_ | (refine congrArg vI ?_; first | omega | (dsimp only; omega) | fail) | (refine congrArg some ?_) | omega | exact Nat.le_refl _ | exact congrArg (SV.lst _) (List.take_of_length_le (Nat.le_refl _)).symm))) (by repeat' (first | exact trivial | exact rfl | refine And.intro ?_ ?_ | (refine congrArg vI ?_; first | omega | (dsimp only; omega) | fail) | (refine congrArg some ?_) | omega | exact Nat.le_refl _ | exact congrArg (SV.lst _) (List.take_of_length_le (Nat.le_refl _)).symm)) trivial trivial) ?_
  refine And.intro (right_ex n es) ?_
  intro (c : Bool) (hc : c = true ↔ RightL n es)
  cases c
  · have hr : ¬ RightL n es := fun h => by have := hc.2 h; cases this
    conv => whnf
    repeat' (first | (refine tell (fun htest => ?_) (fun htest => ?_) <;> (try dsimp only at htest) <;> first | (exfalso; omega) | (exact absurd rfl htest) | (exact absurd (by decide) htest) | (conv => whnf)) | (refine allG rfl ?_; conv => whnf) | (refine And.intro (by first | omega | assumption | kernel_rfl | exact And.intro rfl rfl | ((try dsimp only [inR, idx, lowOf]); first | omega | (with_reducible decide) | (simp; omega) | fail) | fail) ?_; conv => whnf) | fail)
    exact ⟨(), [], trivial, (by show _ = _; exact (if_neg hr)), trivial, trivial⟩
  have hr := hc.1 rfl
  have hl := hr.len
  conv => whnf
  repeat' (first | (refine tell (fun htest => ?_) (fun htest => ?_) <;> (try dsimp only at htest) <;> first | (exfalso; omega) | (exact absurd rfl htest) | (exact absurd (by decide) htest) | (conv => whnf)) | (refine allG rfl ?_; conv => whnf) | (refine And.intro (by first | omega | assumption | kernel_rfl | exact And.intro rfl rfl | ((try dsimp only [inR, idx, lowOf]); first | omega | (with_reducible decide) | (simp; omega) | fail) | fail) ?_; conv => whnf) | fail)
  refine ⟨Nat, fun i => ⟨[(1, vI k), (2, .ptr 1002 0 2 0), (4, .sl 3000 1 0 (outL (es.take i) k 0).length), (11, .lst 54 es), (12, vI es.length), (13, vI i)], [(1002, layC n es), (3000, .arr 3 (outL (es.take i) k 0))]⟩, fun i => i ≤ es.length, fun i => es.length - i, fun _ _ => rfl, ⟨0, [], Nat.zero_le _, ?_⟩, ?_⟩
  · refine ⟨rfl, ?_, ?_, rfl⟩
    all_goals (repeat' (first | exact trivial | exact rfl | refine And.intro ?_ ?_ | (refine congrArg vI ?_; first | omega | (dsimp only; omega) | fail) | (refine congrArg some ?_) | omega | exact Nat.le_refl _ | exact congrArg (SV.lst _) (List.take_of_length_le (Nat.le_refl _)).symm))
  rintro (i : Nat) (hi : i ≤ es.length)
  have hol := outL_len k (es.take i) 0
  rw [List.length_take] at hol
  by_cases hlt : i < es.length
  · obtain ⟨e, he⟩ : ∃ e, es[i]? = some e := ⟨_, List.getElem?_eq_getElem hlt⟩
    have htk := outL_snoc k e (es.take i) 0
    rw [← take_snocI he, List.length_take, Nat.min_eq_left hi, Nat.zero_add] at htk
    by_cases hek : e.1 = k
    · rw [if_pos hek] at htk
      conv => whnf
      repeat' (first | (refine tell (fun htest => ?_) (fun htest => ?_) <;> (try dsimp only at htest) <;> first | (exfalso; omega) | (exact absurd rfl htest) | (exact absurd (by decide) htest) | (conv => whnf)) | (refine allG (x := e) (by first | exact he | simpa [List.getElem?_append_right, lowOf] using he | fail) ?_; conv => whnf) | (refine allLst (x := e) (by first | omega | assumption | fail) (by first | exact he | simpa using he | fail) ?_; conv => whnf) | (refine allG rfl ?_; conv => whnf) | (refine And.intro (by first | omega | assumption | kernel_rfl | exact And.intro rfl rfl | ((try dsimp only [inR, idx, lowOf]); first | omega | (with_reducible decide) | (simp; omega) | fail) | fail) ?_; conv => whnf) | fail)
      refine ⟨i + 1, [(3000, 1025)], hlt, ?_, rfl, ?_, ?_, rfl⟩
      · dsimp only; first | omega | (simp; done) | (simp; omega)
      all_goals (repeat' (first | exact trivial | exact rfl | refine And.intro ?_ ?_ | (refine congrArg vI ?_; first | omega | (dsimp only; omega) | fail) | (refine congrArg some ?_) | omega | exact Nat.le_refl _ | exact congrArg (SV.lst _) (List.take_of_length_le (Nat.le_refl _)).symm))
      · exact congrArg (SV.sl (A := AF) 1025 1 0) (show (outL (es.take i) k 0).length + 1 = (outL (es.take (i + 1)) k 0).length by rw [htk]; simp)
      · exact congrArg (Ct.arr (A := AF) 3) (show ((outL (es.take i) k 0).drop 0).take (outL (es.take i) k 0).length ++ [(i : Int)] = outL (es.take (i + 1)) k 0 by rw [htk]; simp)
    · rw [if_neg hek, List.append_nil] at htk
      conv => whnf
      repeat' (first | (refine tell (fun htest => ?_) (fun htest => ?_) <;> (try dsimp only at htest) <;> first | (exfalso; omega) | (exact absurd rfl htest) | (exact absurd (by decide) htest) | (conv => whnf)) | (refine allG (x := e) (by first | exact he | simpa [List.getElem?_append_right, lowOf] using he | fail) ?_; conv => whnf) | (refine allLst (x := e) (by first | omega | assumption | fail) (by first | exact he | simpa using he | fail) ?_; conv => whnf) | (refine allG rfl ?_; conv => whnf) | (refine And.intro (by first | omega | assumption | kernel_rfl | exact And.intro rfl rfl | ((try dsimp only [inR, idx, lowOf]); first | omega | (with_reducible decide) | (simp; omega) | fail) | fail) ?_; conv => whnf) | fail)
      refine ⟨i + 1, [], hlt, ?_, rfl, ?_, ?_, rfl⟩
      · dsimp only; first | omega | (simp; done) | (simp; omega)
      all_goals (repeat' (first | exact trivial | exact rfl | refine And.intro ?_ ?_ | (refine congrArg vI ?_; first | omega | (dsimp only; omega) | fail) | (refine congrArg some ?_) | omega | exact Nat.le_refl _ | exact congrArg (SV.lst _) (List.take_of_length_le (Nat.le_refl _)).symm))
      · exact congrArg (SV.sl (A := AF) 3000 1 0) (congrArg List.length htk.symm)
      · exact congrArg (Ct.arr (A := AF) 3) htk.symm
  · have hi : i = es.length := by omega
    subst hi
    rw [List.take_of_length_le (Nat.le_refl _)] at hol
    conv => whnf
    repeat' (first | (refine tell (fun htest => ?_) (fun htest => ?_) <;> (try dsimp only at htest) <;> first | (exfalso; omega) | (exact absurd rfl htest) | (exact absurd (by decide) htest) | (conv => whnf)) | (refine allG rfl ?_; conv => whnf) | (refine And.intro (by first | omega | assumption | kernel_rfl | exact And.intro rfl rfl | ((try dsimp only [inR, idx, lowOf]); first | omega | (with_reducible decide) | (simp; omega) | fail) | fail) ?_; conv => whnf) | fail)
    refine ⟨(), [], trivial, ⟨by simp, rfl, ?_⟩, trivial, trivial⟩
    have e : outF n es k = ((outL (es.take es.length) k 0).drop 0).take (outL (es.take es.length) k 0).length := by
      unfold outF
      rw [if_pos hr, List.take_of_length_le (Nat.le_refl _)]
      simp
    exact congrArg (SV.lst (A := AF) 3) e
end Go.Sx


/-
  Layer 11, part E: the document's Out; Between.
-/
namespace Go.Sx
open Go Go.Proofs Go.Proofs.Ytmogappoadglgaa
noncomputable def spROut : Spec AF := { spOut with pre := fun g => g.2.1.length ≤ 9223372036854775807 }
theorem m_rout : Meets Try.prog regF 43 spROut := by
  refine meets Try.func43 33 noWr rfl (by kernel_rfl) (by kernel_rfl) ?_
  rintro ⟨(n : Int), (es : List Edge), (k : Int)⟩ (hg : es.length ≤ 9223372036854775807)
  conv => whnf
  repeat' (first | (refine tell (fun htest => ?_) (fun htest => ?_) <;> (try dsimp only at htest) <;> first | (exfalso; omega) | (exact absurd rfl htest) | (exact absurd (by decide) htest) | (conv => whnf)) | (refine allG rfl ?_; conv => whnf) | (refine And.intro (by first | omega | assumption | kernel_rfl | exact And.intro rfl rfl | ((try dsimp only [inR, idx, lowOf]); first | omega | (with_reducible decide) | (simp; omega) | fail) | fail) ?_; conv => whnf) | fail)
  refine ⟨_, m_rright, (n, es), [], false, ?_⟩
  conv => whnf
  refine And.intro (vc0 hg (by (repeat' (first | exact trivial | exact rfl | refine And.intro ?_ ?_ | (refine congrArg vI ?_; first | omega | (dsimp only; omega) | fail) | (refine congrArg some ?_) | omega | exact Nat.le_refl _ | exact congrArg (SV.lst _) (List.take_of_length_le (Nat.le_refl _)).symm))) (by repeat' (first | exact trivial | exact rfl | refine And.intro ?_ ?_ | (refine congrArg vI ?_; first | omega | (dsimp only; omega) | fail) | (refine congrArg some ?_) | omega | exact Nat.le_refl _ | exact congrArg (SV.lst _) (List.take_of_length_le (Nat.le_refl _)).symm)) trivial trivial) ?_
  refine And.intro (right_ex n es) ?_
  intro (c : Bool) (hc : c = true ↔ RightL n es)
  cases c
  · have hr : ¬ RightL n es := fun h => by have := hc.2 h; cases this
    conv => whnf
    repeat' (first | (refine tell (fun htest => ?_) (fun htest => ?_) <;> (try dsimp only at htest) <;> first | (exfalso; omega) | (exact absurd rfl htest) | (exact absurd (by decide) htest) | (conv => whnf)) | (refine allG rfl ?_; conv => whnf) | (refine And.intro (by first | omega | assumption | kernel_rfl | exact And.intro rfl rfl | ((try dsimp only [inR, idx, lowOf]); first | omega | (with_reducible decide) | (simp; omega) | fail) | fail) ?_; conv => whnf) | fail)
    refine ⟨Unit, fun _ => ⟨[(1, vI k), (2, .ptr 1002 0 2 0), (5, vB false), (6, .val (.slice none 0 0)), (7, vI 0)], [(1002, layC n es)]⟩, fun _ => True, fun _ => 0, fun _ _ => rfl, ⟨(), [], trivial, ?_⟩, ?_⟩
    · refine ⟨rfl, ?_, ?_, rfl⟩
      all_goals (repeat' (first | exact trivial | exact rfl | refine And.intro ?_ ?_ | (refine congrArg vI ?_; first | omega | (dsimp only; omega) | fail) | (refine congrArg some ?_) | omega | exact Nat.le_refl _ | exact congrArg (SV.lst _) (List.take_of_length_le (Nat.le_refl _)).symm))
    intro _ _
    conv => whnf
    repeat' (first | (refine tell (fun htest => ?_) (fun htest => ?_) <;> (try dsimp only at htest) <;> first | (exfalso; omega) | (exact absurd rfl htest) | (exact absurd (by decide) htest) | (conv => whnf)) | (refine allG rfl ?_; conv => whnf) | (refine And.intro (by first | omega | assumption | kernel_rfl | exact And.intro rfl rfl | ((try dsimp only [inR, idx, lowOf]); first | omega | (with_reducible decide) | (simp; omega) | fail) | fail) ?_; conv => whnf) | fail)
    all_goals exact ⟨(), [], trivial, (by show _ = _; exact (if_neg hr)), trivial, trivial⟩
  have hr := hc.1 rfl
  have hl := hr.len
  conv => whnf
  repeat' (first | (refine tell (fun htest => ?_) (fun htest => ?_) <;> (try dsimp only at htest) <;> first | (exfalso; omega) | (exact absurd rfl htest) | (exact absurd (by decide) htest) | (conv => whnf)) | (refine allG rfl ?_; conv => whnf) | (refine And.intro (by first | omega | assumption | kernel_rfl | exact And.intro rfl rfl | ((try dsimp only [inR, idx, lowOf]); first | omega | (with_reducible decide) | (simp; omega) | fail) | fail) ?_; conv => whnf) | fail)
  refine ⟨Nat, fun i => ⟨[(1, vI k), (2, .ptr 1002 0 2 0), (5, vB true), (6, .sl 3000 1 0 (outL (es.take i) k 0).length), (7, vI i)], [(1002, layC n es), (3000, .arr 3 (outL (es.take i) k 0))]⟩, fun i => i ≤ es.length, fun i => es.length - i, fun _ _ => rfl, ⟨0, [], Nat.zero_le _, ?_⟩, ?_⟩
  · refine ⟨rfl, ?_, ?_, rfl⟩
    all_goals (repeat' (first | exact trivial | exact rfl | refine And.intro ?_ ?_ | (refine congrArg vI ?_; first | omega | (dsimp only; omega) | fail) | (refine congrArg some ?_) | omega | exact Nat.le_refl _ | exact congrArg (SV.lst _) (List.take_of_length_le (Nat.le_refl _)).symm))
  rintro (i : Nat) (hi : i ≤ es.length)
  have hol := outL_len k (es.take i) 0
  rw [List.length_take] at hol
  by_cases hlt : i < es.length
  · obtain ⟨e, he⟩ : ∃ e, es[i]? = some e := ⟨_, List.getElem?_eq_getElem hlt⟩
    have htk := outL_snoc k e (es.take i) 0
    rw [← take_snocI he, List.length_take, Nat.min_eq_left hi, Nat.zero_add] at htk
    by_cases hek : e.1 = k
    · rw [if_pos hek] at htk
      conv => whnf
      repeat' (first | (refine tell (fun htest => ?_) (fun htest => ?_) <;> (try dsimp only at htest) <;> first | (exfalso; omega) | (exact absurd rfl htest) | (exact absurd (by decide) htest) | (conv => whnf)) | (refine allG (x := e) (by first | exact he | simpa [List.getElem?_append_right, lowOf] using he | fail) ?_; conv => whnf) | (refine allLst (x := e) (by first | omega | assumption | fail) (by first | exact he | simpa using he | fail) ?_; conv => whnf) | (refine allG rfl ?_; conv => whnf) | (refine And.intro (by first | omega | assumption | kernel_rfl | exact And.intro rfl rfl | ((try dsimp only [inR, idx, lowOf]); first | omega | (with_reducible decide) | (simp; omega) | fail) | fail) ?_; conv => whnf) | fail)
      refine ⟨i + 1, [(3000, 1031)], hlt, ?_, rfl, ?_, ?_, rfl⟩
      · dsimp only; first | omega | (simp; done) | (simp; omega)
      all_goals (repeat' (first | exact trivial | exact rfl | refine And.intro ?_ ?_ | (refine congrArg vI ?_; first | omega | (dsimp only; omega) | fail) | (refine congrArg some ?_) | omega | exact Nat.le_refl _ | exact congrArg (SV.lst _) (List.take_of_length_le (Nat.le_refl _)).symm))
      · exact congrArg (SV.sl (A := AF) 1031 1 0) (show (outL (es.take i) k 0).length + 1 = (outL (es.take (i + 1)) k 0).length by rw [htk]; simp)
      · exact congrArg (Ct.arr (A := AF) 3) (show ((outL (es.take i) k 0).drop 0).take (outL (es.take i) k 0).length ++ [(i : Int)] = outL (es.take (i + 1)) k 0 by rw [htk]; simp)
    · rw [if_neg hek, List.append_nil] at htk
      conv => whnf
      repeat' (first | (refine tell (fun htest => ?_) (fun htest => ?_) <;> (try dsimp only at htest) <;> first | (exfalso; omega) | (exact absurd rfl htest) | (exact absurd (by decide) htest) | (conv => whnf)) | (refine allG (x := e) (by first | exact he | simpa [List.getElem?_append_right, lowOf] using he | fail) ?_; conv => whnf) | (refine allLst (x := e) (by first | omega | assumption | fail) (by first | exact he | simpa using he | fail) ?_; conv => whnf) | (refine allG rfl ?_; conv => whnf) | (refine And.intro (by first | omega | assumption | kernel_rfl | exact And.intro rfl rfl | ((try dsimp only [inR, idx, lowOf]); first | omega | (with_reducible decide) | (simp; omega) | fail) | fail) ?_; conv => whnf) | fail)
      refine ⟨i + 1, [], hlt, ?_, rfl, ?_, ?_, rfl⟩
      · dsimp only; first | omega | (simp; done) | (simp; omega)
      all_goals (repeat' (first | exact trivial | exact rfl | refine And.intro ?_ ?_ | (refine congrArg vI ?_; first | omega | (dsimp only; omega) | fail) | (refine congrArg some ?_) | omega | exact Nat.le_refl _ | exact congrArg (SV.lst _) (List.take_of_length_le (Nat.le_refl _)).symm))
      · exact congrArg (SV.sl (A := AF) 3000 1 0) (congrArg List.length htk.symm)
      · exact congrArg (Ct.arr (A := AF) 3) htk.symm
  · have hi : i = es.length := by omega
    subst hi
    rw [List.take_of_length_le (Nat.le_refl _)] at hol
    conv => whnf
    repeat' (first | (refine tell (fun htest => ?_) (fun htest => ?_) <;> (try dsimp only at htest) <;> first | (exfalso; omega) | (exact absurd rfl htest) | (exact absurd (by decide) htest) | (conv => whnf)) | (refine allG rfl ?_; conv => whnf) | (refine And.intro (by first | omega | assumption | kernel_rfl | exact And.intro rfl rfl | ((try dsimp only [inR, idx, lowOf]); first | omega | (with_reducible decide) | (simp; omega) | fail) | fail) ?_; conv => whnf) | fail)
    refine ⟨(), [], trivial, ⟨by simp, rfl, ?_⟩, trivial, trivial⟩
    have e : outF n es k = ((outL (es.take es.length) k 0).drop 0).take (outL (es.take es.length) k 0).length := by
      unfold outF
      rw [if_pos hr, List.take_of_length_le (Nat.le_refl _)]
      simp
    exact congrArg (SV.lst (A := AF) 3) e
def spEdgeIs : Spec AF where
  γ := Edge × Int × Int
  δ := Bool
  args := fun g => [.agg [vI g.1.1, vI g.1.2.1, vI g.1.2.2], .ptr 0 0 1 0, .ptr 1 0 1 0]
  own := fun g => [.cells [vI g.2.1], .cells [vI g.2.2]]
  pre := fun _ => True
  nnew := 0
  res := fun _ c => vB c
  own' := fun g _ => [some (.cells [vI g.2.1]), some (.cells [vI g.2.2])]
  post := fun g c => (c = true ↔ wayE g.1 = g.2)
theorem m_edgeIs : Meets Try.prog regF 80 spEdgeIs := by
  refine meets Try.func80 15 noWr rfl (by kernel_rfl) (by kernel_rfl) ?_
  rintro ⟨(e : Edge), (a : Int), (b : Int)⟩ _
  have fin : ∀ {c : Bool}, (c = true ↔ e.1 = a ∧ e.2.1 = b) → spEdgeIs.post (e, a, b) c := fun h => h.trans ⟨fun h => Prod.ext h.1 h.2, fun h => ⟨congrArg Prod.fst h, congrArg Prod.snd h⟩⟩
  conv => whnf
  repeat' (first | (refine tell (fun htest => ?_) (fun htest => ?_) <;> (try dsimp only at htest) <;> first | (exfalso; omega) | (exact absurd rfl htest) | (exact absurd (by decide) htest) | (conv => whnf)) | (refine allG rfl ?_; conv => whnf) | (refine And.intro (by first | omega | assumption | kernel_rfl | exact And.intro rfl rfl | ((try dsimp only [inR, idx, lowOf]); first | omega | (with_reducible decide) | (simp; omega) | fail) | fail) ?_; conv => whnf) | fail)
  · exact ⟨true, [], fin (by simp; omega), rfl, ⟨⟨rfl, trivial⟩, ⟨rfl, trivial⟩, trivial⟩, trivial⟩
  · exact ⟨false, [], fin (by simp; omega), rfl, ⟨⟨rfl, trivial⟩, ⟨rfl, trivial⟩, trivial⟩, trivial⟩
  · exact ⟨false, [], fin (by simp; omega), rfl, ⟨⟨rfl, trivial⟩, ⟨rfl, trivial⟩, trivial⟩, trivial⟩
/-- The first edge between two nodes; below 0: there is none. -/
def idxF (w : Int × Int) : List Edge → Nat → Int
  | [], _ => -1
  | e :: t, i => if wayE e = w then (i : Int) else idxF w t (i + 1)
theorem idxF_skip (w : Int × Int) : ∀ (i : Nat) (es : List Edge) (j : Nat), i ≤ es.length → (∀ x ∈ es.take i, wayE x ≠ w) → idxF w es j = idxF w (es.drop i) (j + i)
  | 0, _, _, _, _ => rfl
  | i + 1, [], _, h, _ => by simp at h
  | i + 1, e :: t, j, h, hn => by
    rw [idxF, if_neg (hn e (by simp)), List.drop_succ_cons, idxF_skip w i t (j + 1) (by simpa using h) (fun x hx => hn x (by simp [hx])), show j + 1 + i = j + (i + 1) by omega]
def spIdxE : Spec AF where
  γ := List Edge × Int × Int
  δ := Unit
  args := fun g => [.lst 54 g.1, .fn (.func 80) [] [.ptr 0 0 1 0, .ptr 1 0 1 0]]
  own := fun g => [.cells [vI g.2.1], .cells [vI g.2.2]]
  pre := fun g => g.1.length ≤ 9223372036854775807
  nnew := 0
  res := fun g _ => vI (idxF g.2 g.1 0)
  own' := fun g _ => [some (.cells [vI g.2.1]), some (.cells [vI g.2.2])]
  post := fun _ _ => True
theorem edgeIs_ex (e : Edge) (w : Int × Int) : ∃ c : Bool, c = true ↔ wayE e = w := by
  by_cases h : wayE e = w
  · exact ⟨true, by simp [h]⟩
  · exact ⟨false, by simp [h]⟩
theorem m_idxE : Meets Try.prog regF 79 spIdxE := by
  refine meets Try.func79 19 noWr rfl (by kernel_rfl) (by kernel_rfl) ?_
  rintro ⟨(es : List Edge), (a : Int), (b : Int)⟩ (hl : es.length ≤ 9223372036854775807)
  conv => whnf
  repeat' (first | (refine tell (fun htest => ?_) (fun htest => ?_) <;> (try dsimp only at htest) <;> first | (exfalso; omega) | (exact absurd rfl htest) | (exact absurd (by decide) htest) | (conv => whnf)) | (refine allG rfl ?_; conv => whnf) | (refine And.intro (by first | omega | assumption | kernel_rfl | exact And.intro rfl rfl | ((try dsimp only [inR, idx, lowOf]); first | omega | (with_reducible decide) | (simp; omega) | fail) | fail) ?_; conv => whnf) | fail)
  refine ⟨Nat, fun i => ⟨[(0, .lst 54 es), (1, .fn (.func 80) [] [.ptr 0 0 1 0, .ptr 1 0 1 0]), (7, vI es.length), (8, vI i)], [(0, .cells [vI a]), (1, .cells [vI b])]⟩, fun i => i ≤ es.length ∧ ∀ x ∈ es.take i, wayE x ≠ (a, b), fun i => es.length - i, fun _ _ => rfl, ⟨0, [], ⟨Nat.zero_le _, by simp⟩, ?_⟩, ?_⟩
  · refine ⟨rfl, ?_, ?_, rfl⟩
    all_goals (repeat' (first | exact trivial | exact rfl | refine And.intro ?_ ?_ | (refine congrArg vI ?_; first | omega | (dsimp only; omega) | fail) | (refine congrArg some ?_) | omega | exact Nat.le_refl _ | exact congrArg (SV.lst _) (List.take_of_length_le (Nat.le_refl _)).symm))
  rintro (i : Nat) ⟨(hi : i ≤ es.length), (hs : ∀ x ∈ es.take i, wayE x ≠ (a, b))⟩
  have hk := idxF_skip (a, b) i es 0 hi hs
  by_cases hlt : i < es.length
  · obtain ⟨e, he⟩ : ∃ e, es[i]? = some e := ⟨_, List.getElem?_eq_getElem hlt⟩
    have hdr : es.drop i = e :: es.drop (i + 1) := by
      obtain ⟨h1, rfl⟩ := List.getElem?_eq_some_iff.1 he
      exact List.drop_eq_getElem_cons h1
    conv => whnf
    repeat' (first | (refine tell (fun htest => ?_) (fun htest => ?_) <;> (try dsimp only at htest) <;> first | (exfalso; omega) | (exact absurd rfl htest) | (exact absurd (by decide) htest) | (conv => whnf)) | (refine allG (x := e) (by first | exact he | simpa [List.getElem?_append_right, lowOf] using he | fail) ?_; conv => whnf) | (refine allLst (x := e) (by first | omega | assumption | fail) (by first | exact he | simpa using he | fail) ?_; conv => whnf) | (refine allG rfl ?_; conv => whnf) | (refine And.intro (by first | omega | assumption | kernel_rfl | exact And.intro rfl rfl | ((try dsimp only [inR, idx, lowOf]); first | omega | (with_reducible decide) | (simp; omega) | fail) | fail) ?_; conv => whnf) | fail)
    refine ⟨_, m_edgeIs, (e, a, b), [0, 1], false, ?_⟩
    conv => whnf
    refine And.intro (vc0 trivial (by (repeat' (first | exact trivial | exact rfl | refine And.intro ?_ ?_ | (refine congrArg vI ?_; first | omega | (dsimp only; omega) | fail) | (refine congrArg some ?_) | omega | exact Nat.le_refl _ | exact congrArg (SV.lst _) (List.take_of_length_le (Nat.le_refl _)).symm))) (by repeat' (first | exact trivial | exact rfl | refine And.intro ?_ ?_ | (refine congrArg vI ?_; first | omega | (dsimp only; omega) | fail) | (refine congrArg some ?_) | omega | exact Nat.le_refl _ | exact congrArg (SV.lst _) (List.take_of_length_le (Nat.le_refl _)).symm)) trivial trivial) ?_
    refine And.intro (edgeIs_ex e (a, b)) ?_
    intro (c : Bool) (hc : c = true ↔ wayE e = (a, b))
    cases c
    · have hne : wayE e ≠ (a, b) := fun h => by have := hc.2 h; cases this
      have hs' : ∀ x ∈ es.take (i + 1), wayE x ≠ (a, b) := fun x hx => by
        rw [take_snocI he] at hx
        rcases List.mem_append.1 hx with hx | hx
        · exact hs x hx
        · simp at hx; subst hx; exact hne
      conv => whnf
      repeat' (first | (refine tell (fun htest => ?_) (fun htest => ?_) <;> (try dsimp only at htest) <;> first | (exfalso; omega) | (exact absurd rfl htest) | (exact absurd (by decide) htest) | (conv => whnf)) | (refine allG rfl ?_; conv => whnf) | (refine And.intro (by first | omega | assumption | kernel_rfl | exact And.intro rfl rfl | ((try dsimp only [inR, idx, lowOf]); first | omega | (with_reducible decide) | (simp; omega) | fail) | fail) ?_; conv => whnf) | fail)
      refine ⟨i + 1, [], ⟨hlt, hs'⟩, ?_, rfl, ?_, ?_, rfl⟩
      · dsimp only; first | omega | (simp; done) | (simp; omega)
      all_goals (repeat' (first | exact trivial | exact rfl | refine And.intro ?_ ?_ | (refine congrArg vI ?_; first | omega | (dsimp only; omega) | fail) | (refine congrArg some ?_) | omega | exact Nat.le_refl _ | exact congrArg (SV.lst _) (List.take_of_length_le (Nat.le_refl _)).symm))
    · have heq := hc.1 rfl
      conv => whnf
      repeat' (first | (refine tell (fun htest => ?_) (fun htest => ?_) <;> (try dsimp only at htest) <;> first | (exfalso; omega) | (exact absurd rfl htest) | (exact absurd (by decide) htest) | (conv => whnf)) | (refine allG rfl ?_; conv => whnf) | (refine And.intro (by first | omega | assumption | kernel_rfl | exact And.intro rfl rfl | ((try dsimp only [inR, idx, lowOf]); first | omega | (with_reducible decide) | (simp; omega) | fail) | fail) ?_; conv => whnf) | fail)
      exact ⟨(), [], trivial, eI (by rw [hk, hdr, idxF, if_pos heq, Nat.zero_add]), ⟨⟨rfl, trivial⟩, ⟨rfl, trivial⟩, trivial⟩, trivial⟩
  · rw [List.drop_eq_nil_of_le (by omega)] at hk
    conv => whnf
    repeat' (first | (refine tell (fun htest => ?_) (fun htest => ?_) <;> (try dsimp only at htest) <;> first | (exfalso; omega) | (exact absurd rfl htest) | (exact absurd (by decide) htest) | (conv => whnf)) | (refine allG rfl ?_; conv => whnf) | (refine And.intro (by first | omega | assumption | kernel_rfl | exact And.intro rfl rfl | ((try dsimp only [inR, idx, lowOf]); first | omega | (with_reducible decide) | (simp; omega) | fail) | fail) ?_; conv => whnf) | fail)
    exact ⟨(), [], trivial, eI (by rw [hk]; rfl), ⟨⟨rfl, trivial⟩, ⟨rfl, trivial⟩, trivial⟩, trivial⟩
open Classical in
noncomputable def betF (n : Int) (es : List Edge) (w : Int × Int) : Int × Bool := if RightL n es ∧ 0 ≤ idxF w es 0 then (idxF w es 0, true) else (0, false)
noncomputable def spBetween : Spec AF where
  γ := (Int × List Edge) × Int × Int
  δ := Unit
  args := fun g => [layS g.1.1 g.1.2, vI g.2.1, vI g.2.2]
  own := fun _ => []
  pre := fun g => GoodL g.1.2
  nnew := 0
  res := fun g _ => .tup [vI (betF g.1.1 g.1.2 g.2).1, vB (betF g.1.1 g.1.2 g.2).2]
  own' := fun _ _ => []
  post := fun _ _ => True
theorem m_between : Meets Try.prog regF 39 spBetween := by
  refine meets Try.func39 21 noWr rfl (by kernel_rfl) (by kernel_rfl) ?_
  rintro ⟨⟨(n : Int), (es : List Edge)⟩, (a : Int), (b : Int)⟩ (hg : GoodL es)
  conv => whnf
  repeat' (first | (refine tell (fun htest => ?_) (fun htest => ?_) <;> (try dsimp only at htest) <;> first | (exfalso; omega) | (exact absurd rfl htest) | (exact absurd (by decide) htest) | (conv => whnf)) | (refine allG rfl ?_; conv => whnf) | (refine And.intro (by first | omega | assumption | kernel_rfl | exact And.intro rfl rfl | ((try dsimp only [inR, idx, lowOf]); first | omega | (with_reducible decide) | (simp; omega) | fail) | fail) ?_; conv => whnf) | fail)
  refine ⟨_, m_idxE, (es, a, b), [1004, 1005], false, ?_⟩
  conv => whnf
  refine And.intro (vc0 hg.1 (by (repeat' (first | exact trivial | exact rfl | refine And.intro ?_ ?_ | (refine congrArg vI ?_; first | omega | (dsimp only; omega) | fail) | (refine congrArg some ?_) | omega | exact Nat.le_refl _ | exact congrArg (SV.lst _) (List.take_of_length_le (Nat.le_refl _)).symm))) (by repeat' (first | exact trivial | exact rfl | refine And.intro ?_ ?_ | (refine congrArg vI ?_; first | omega | (dsimp only; omega) | fail) | (refine congrArg some ?_) | omega | exact Nat.le_refl _ | exact congrArg (SV.lst _) (List.take_of_length_le (Nat.le_refl _)).symm)) trivial trivial) ?_
  refine And.intro ⟨(), trivial⟩ (fun (_ : Unit) _ => ?_)
  conv => whnf
  by_cases hlt : idxF (a, b) es 0 < 0
  · have hb : betF n es (a, b) = (0, false) := if_neg fun h => by omega
    conv => whnf
    repeat' (first | (refine tell (fun htest => ?_) (fun htest => ?_) <;> (try dsimp only at htest) <;> first | (exfalso; omega) | (exact absurd rfl htest) | (exact absurd (by decide) htest) | (conv => whnf)) | (refine allG rfl ?_; conv => whnf) | (refine And.intro (by first | omega | assumption | kernel_rfl | exact And.intro rfl rfl | ((try dsimp only [inR, idx, lowOf]); first | omega | (with_reducible decide) | (simp; omega) | fail) | fail) ?_; conv => whnf) | fail)
    exact ⟨(), [], trivial, ⟨congrArg vI (congrArg Prod.fst hb).symm, congrArg vB (congrArg Prod.snd hb).symm, trivial⟩, trivial, trivial⟩
  conv => whnf
  repeat' (first | (refine tell (fun htest => ?_) (fun htest => ?_) <;> (try dsimp only at htest) <;> first | (exfalso; omega) | (exact absurd rfl htest) | (exact absurd (by decide) htest) | (conv => whnf)) | (refine allG rfl ?_; conv => whnf) | (refine And.intro (by first | omega | assumption | kernel_rfl | exact And.intro rfl rfl | ((try dsimp only [inR, idx, lowOf]); first | omega | (with_reducible decide) | (simp; omega) | fail) | fail) ?_; conv => whnf) | fail)
  refine ⟨_, m_right, (n, es), [], false, ?_⟩
  conv => whnf
  refine And.intro (vc0 hg (by (repeat' (first | exact trivial | exact rfl | refine And.intro ?_ ?_ | (refine congrArg vI ?_; first | omega | (dsimp only; omega) | fail) | (refine congrArg some ?_) | omega | exact Nat.le_refl _ | exact congrArg (SV.lst _) (List.take_of_length_le (Nat.le_refl _)).symm))) (by repeat' (first | exact trivial | exact rfl | refine And.intro ?_ ?_ | (refine congrArg vI ?_; first | omega | (dsimp only; omega) | fail) | (refine congrArg some ?_) | omega | exact Nat.le_refl _ | exact congrArg (SV.lst _) (List.take_of_length_le (Nat.le_refl _)).symm)) trivial trivial) ?_
  refine And.intro (right_ex n es) ?_
  intro (c : Bool) (hc : c = true ↔ RightL n es)
  cases c
  · have hb : betF n es (a, b) = (0, false) := if_neg fun h => by have := hc.2 h.1; cases this
    conv => whnf
    repeat' (first | (refine tell (fun htest => ?_) (fun htest => ?_) <;> (try dsimp only at htest) <;> first | (exfalso; omega) | (exact absurd rfl htest) | (exact absurd (by decide) htest) | (conv => whnf)) | (refine allG rfl ?_; conv => whnf) | (refine And.intro (by first | omega | assumption | kernel_rfl | exact And.intro rfl rfl | ((try dsimp only [inR, idx, lowOf]); first | omega | (with_reducible decide) | (simp; omega) | fail) | fail) ?_; conv => whnf) | fail)
    exact ⟨(), [], trivial, ⟨congrArg vI (congrArg Prod.fst hb).symm, congrArg vB (congrArg Prod.snd hb).symm, trivial⟩, trivial, trivial⟩
  · have hb : betF n es (a, b) = (idxF (a, b) es 0, true) := if_pos ⟨hc.1 rfl, by omega⟩
    conv => whnf
    repeat' (first | (refine tell (fun htest => ?_) (fun htest => ?_) <;> (try dsimp only at htest) <;> first | (exfalso; omega) | (exact absurd rfl htest) | (exact absurd (by decide) htest) | (conv => whnf)) | (refine allG rfl ?_; conv => whnf) | (refine And.intro (by first | omega | assumption | kernel_rfl | exact And.intro rfl rfl | ((try dsimp only [inR, idx, lowOf]); first | omega | (with_reducible decide) | (simp; omega) | fail) | fail) ?_; conv => whnf) | fail)
    exact ⟨(), [], trivial, ⟨congrArg vI (congrArg Prod.fst hb).symm, congrArg vB (congrArg Prod.snd hb).symm, trivial⟩, trivial, trivial⟩
end Go.Sx


/-
  Layer 11, part F: the document's Between.
-/
namespace Go.Sx
open Go Go.Proofs Go.Proofs.Ytmogappoadglgaa
noncomputable def spRBetween : Spec AF := { spBetween with pre := fun g => g.1.2.length ≤ 9223372036854775807 }
theorem m_rbetween : Meets Try.prog regF 40 spRBetween := by
  refine meets Try.func40 41 noWr rfl (by kernel_rfl) (by kernel_rfl) ?_
  rintro ⟨⟨(n : Int), (es : List Edge)⟩, (a : Int), (b : Int)⟩ (hg : es.length ≤ 9223372036854775807)
  conv => whnf
  repeat' (first | (refine tell (fun htest => ?_) (fun htest => ?_) <;> (try dsimp only at htest) <;> first | (exfalso; omega) | (exact absurd rfl htest) | (exact absurd (by decide) htest) | (conv => whnf)) | (refine allG rfl ?_; conv => whnf) | (refine And.intro (by first | omega | assumption | kernel_rfl | exact And.intro rfl rfl | ((try dsimp only [inR, idx, lowOf]); first | omega | (with_reducible decide) | (simp; omega) | fail) | fail) ?_; conv => whnf) | fail)
  refine ⟨_, m_rright, (n, es), [], false, ?_⟩
  conv => whnf
  refine And.intro (vc0 hg (by (repeat' (first | exact trivial | exact rfl | refine And.intro ?_ ?_ | (refine congrArg vI ?_; first | omega | (dsimp only; omega) | fail) | (refine congrArg some ?_) | omega | exact Nat.le_refl _ | exact congrArg (SV.lst _) (List.take_of_length_le (Nat.le_refl _)).symm))) (by repeat' (first | exact trivial | exact rfl | refine And.intro ?_ ?_ | (refine congrArg vI ?_; first | omega | (dsimp only; omega) | fail) | (refine congrArg some ?_) | omega | exact Nat.le_refl _ | exact congrArg (SV.lst _) (List.take_of_length_le (Nat.le_refl _)).symm)) trivial trivial) ?_
  refine And.intro (right_ex n es) ?_
  intro (c : Bool) (hc : c = true ↔ RightL n es)
  cases c
  · have hb : betF n es (a, b) = (0, false) := if_neg fun h => by have := hc.2 h.1; cases this
    conv => whnf
    repeat' (first | (refine tell (fun htest => ?_) (fun htest => ?_) <;> (try dsimp only at htest) <;> first | (exfalso; omega) | (exact absurd rfl htest) | (exact absurd (by decide) htest) | (conv => whnf)) | (refine allG rfl ?_; conv => whnf) | (refine And.intro (by first | omega | assumption | kernel_rfl | exact And.intro rfl rfl | ((try dsimp only [inR, idx, lowOf]); first | omega | (with_reducible decide) | (simp; omega) | fail) | fail) ?_; conv => whnf) | fail)
    refine ⟨Unit, fun _ => ⟨[(1, vI a), (2, vI b), (3, .ptr 1003 0 2 0), (8, vB false), (9, vI 0)], [(1003, layC n es)]⟩, fun _ => True, fun _ => 0, fun _ _ => rfl, ⟨(), [], trivial, ?_⟩, ?_⟩
    · refine ⟨rfl, ?_, ?_, rfl⟩
      all_goals (repeat' (first | exact trivial | exact rfl | refine And.intro ?_ ?_ | (refine congrArg vI ?_; first | omega | (dsimp only; omega) | fail) | (refine congrArg some ?_) | omega | exact Nat.le_refl _ | exact congrArg (SV.lst _) (List.take_of_length_le (Nat.le_refl _)).symm))
    intro _ _
    conv => whnf
    repeat' (first | (refine tell (fun htest => ?_) (fun htest => ?_) <;> (try dsimp only at htest) <;> first | (exfalso; omega) | (exact absurd rfl htest) | (exact absurd (by decide) htest) | (conv => whnf)) | (refine allG rfl ?_; conv => whnf) | (refine And.intro (by first | omega | assumption | kernel_rfl | exact And.intro rfl rfl | ((try dsimp only [inR, idx, lowOf]); first | omega | (with_reducible decide) | (simp; omega) | fail) | fail) ?_; conv => whnf) | fail)
    all_goals exact ⟨(), [], trivial, ⟨congrArg vI (congrArg Prod.fst hb).symm, congrArg vB (congrArg Prod.snd hb).symm, trivial⟩, trivial, trivial⟩
  have hr := hc.1 rfl
  have hl := hr.len
  conv => whnf
  repeat' (first | (refine tell (fun htest => ?_) (fun htest => ?_) <;> (try dsimp only at htest) <;> first | (exfalso; omega) | (exact absurd rfl htest) | (exact absurd (by decide) htest) | (conv => whnf)) | (refine allG rfl ?_; conv => whnf) | (refine And.intro (by first | omega | assumption | kernel_rfl | exact And.intro rfl rfl | ((try dsimp only [inR, idx, lowOf]); first | omega | (with_reducible decide) | (simp; omega) | fail) | fail) ?_; conv => whnf) | fail)
  refine ⟨Nat, fun i => ⟨[(1, vI a), (2, vI b), (3, .ptr 1003 0 2 0), (8, vB true), (9, vI i)], [(1003, layC n es)]⟩, fun i => i ≤ es.length ∧ ∀ x ∈ es.take i, wayE x ≠ (a, b), fun i => es.length - i, fun _ _ => rfl, ⟨0, [], ⟨Nat.zero_le _, by simp⟩, ?_⟩, ?_⟩
  · refine ⟨rfl, ?_, ?_, rfl⟩
    all_goals (repeat' (first | exact trivial | exact rfl | refine And.intro ?_ ?_ | (refine congrArg vI ?_; first | omega | (dsimp only; omega) | fail) | (refine congrArg some ?_) | omega | exact Nat.le_refl _ | exact congrArg (SV.lst _) (List.take_of_length_le (Nat.le_refl _)).symm))
  rintro (i : Nat) ⟨(hi : i ≤ es.length), (hs : ∀ x ∈ es.take i, wayE x ≠ (a, b))⟩
  have hk := idxF_skip (a, b) i es 0 hi hs
  by_cases hlt : i < es.length
  · obtain ⟨e, he⟩ : ∃ e, es[i]? = some e := ⟨_, List.getElem?_eq_getElem hlt⟩
    have hdr : es.drop i = e :: es.drop (i + 1) := by
      obtain ⟨h1, rfl⟩ := List.getElem?_eq_some_iff.1 he
      exact List.drop_eq_getElem_cons h1
    by_cases hw : wayE e = (a, b)
    · have h1 : e.1 = a := congrArg Prod.fst hw
      have h2 : e.2.1 = b := congrArg Prod.snd hw
      have hx : idxF (a, b) es 0 = (i : Int) := by rw [hk, hdr, idxF, if_pos hw, Nat.zero_add]
      have hb : betF n es (a, b) = ((i : Int), true) := by unfold betF; rw [hx, if_pos ⟨hr, Int.natCast_nonneg i⟩]
      conv => whnf
      repeat' (first | (refine tell (fun htest => ?_) (fun htest => ?_) <;> (try dsimp only at htest) <;> first | (exfalso; omega) | (exact absurd rfl htest) | (exact absurd (by decide) htest) | (conv => whnf)) | (refine allG (x := e) (by first | exact he | simpa [List.getElem?_append_right, lowOf] using he | fail) ?_; conv => whnf) | (refine allLst (x := e) (by first | omega | assumption | fail) (by first | exact he | simpa using he | fail) ?_; conv => whnf) | (refine allG rfl ?_; conv => whnf) | (refine And.intro (by first | omega | assumption | kernel_rfl | exact And.intro rfl rfl | ((try dsimp only [inR, idx, lowOf]); first | omega | (with_reducible decide) | (simp; omega) | fail) | fail) ?_; conv => whnf) | fail)
      exact ⟨(), [], trivial, ⟨congrArg vI (congrArg Prod.fst hb).symm, congrArg vB (congrArg Prod.snd hb).symm, trivial⟩, trivial, trivial⟩
    · have hs' : ∀ x ∈ es.take (i + 1), wayE x ≠ (a, b) := fun x hx => by
        rw [take_snocI he] at hx
        rcases List.mem_append.1 hx with hx | hx
        · exact hs x hx
        · simp at hx; subst hx; exact hw
      have hne : ¬ (e.1 = a ∧ e.2.1 = b) := fun h => hw (Prod.ext h.1 h.2)
      conv => whnf
      repeat' (first | (refine tell (fun htest => ?_) (fun htest => ?_) <;> (try dsimp only at htest) <;> first | (exfalso; omega) | (exact absurd rfl htest) | (exact absurd (by decide) htest) | (conv => whnf)) | (refine allG (x := e) (by first | exact he | simpa [List.getElem?_append_right, lowOf] using he | fail) ?_; conv => whnf) | (refine allLst (x := e) (by first | omega | assumption | fail) (by first | exact he | simpa using he | fail) ?_; conv => whnf) | (refine allG rfl ?_; conv => whnf) | (refine And.intro (by first | omega | assumption | kernel_rfl | exact And.intro rfl rfl | ((try dsimp only [inR, idx, lowOf]); first | omega | (with_reducible decide) | (simp; omega) | fail) | fail) ?_; conv => whnf) | fail)
      all_goals
        refine ⟨i + 1, [], ⟨hlt, hs'⟩, ?_, rfl, ?_, ?_, rfl⟩
        · dsimp only; first | omega | (simp; done) | (simp; omega)
        all_goals (repeat' (first | exact trivial | exact rfl | refine And.intro ?_ ?_ | (refine congrArg vI ?_; first | omega | (dsimp only; omega) | fail) | (refine congrArg some ?_) | omega | exact Nat.le_refl _ | exact congrArg (SV.lst _) (List.take_of_length_le (Nat.le_refl _)).symm))
  · rw [List.drop_eq_nil_of_le (by omega)] at hk
    have hx : idxF (a, b) es 0 = -1 := hk
    have hb : betF n es (a, b) = (0, false) := if_neg fun h => by omega
    conv => whnf
    repeat' (first | (refine tell (fun htest => ?_) (fun htest => ?_) <;> (try dsimp only at htest) <;> first | (exfalso; omega) | (exact absurd rfl htest) | (exact absurd (by decide) htest) | (conv => whnf)) | (refine allG rfl ?_; conv => whnf) | (refine And.intro (by first | omega | assumption | kernel_rfl | exact And.intro rfl rfl | ((try dsimp only [inR, idx, lowOf]); first | omega | (with_reducible decide) | (simp; omega) | fail) | fail) ?_; conv => whnf) | fail)
    exact ⟨(), [], trivial, ⟨congrArg vI (congrArg Prod.fst hb).symm, congrArg vB (congrArg Prod.snd hb).symm, trivial⟩, trivial, trivial⟩
end Go.Sx


/-
  Layer 11, part G: what one comes to.
-/
namespace Go.Sx
open Go Go.Proofs Go.Proofs.Ytmogappoadglgaa
def srcE (back : Bool) (e : Edge) : Int := match back with | true => e.2.1 | false => e.1
def dstE (back : Bool) (e : Edge) : Int := match back with | true => e.1 | false => e.2.1
inductive ReachI (es : List Edge) (bl : List Int) (back : Bool) (s : Int) : Int → Prop where
  | refl : ReachI es bl back s s
  | step {e : Edge} : ReachI es bl back s (srcE back e) → e ∈ es → dstE back e ∉ bl → ReachI es bl back s (dstE back e)
/-- What the outer loop keeps. -/
structure BfsOk (es : List Edge) (bl : List Int) (back : Bool) (s : Int) (n : Int) (bits : List Bool) (q : List Int) (open' : Int → Edge → Prop) : Prop where
  len : bits.length = 40
  sound : ∀ v : Nat, bits[v]? = some true → ReachI es bl back s v ∧ (v : Int) < n
  start : bits[s.toNat]? = some true
  queue : ∀ u ∈ q, 0 ≤ u ∧ u < n ∧ bits[u.toNat]? = some true
  closed : ∀ e ∈ es, ∀ u : Nat, bits[u]? = some true → srcE back e = u → dstE back e ∉ bl → bits[(dstE back e).toNat]? = some true ∨ (u : Int) ∈ q ∨ open' u e
theorem bfs_end {es : List Edge} {bl : List Int} {back : Bool} {s n : Int} {bits : List Bool} (hs : 0 ≤ s) (hr : ∀ e ∈ es, EdgeOk n e) (h : BfsOk es bl back s n bits [] (fun _ _ => False)) {v : Int} (hv : ReachI es bl back s v) : 0 ≤ v ∧ bits[v.toNat]? = some true := by
  induction hv with
  | refl => exact ⟨hs, h.start⟩
  | step h1 h2 h3 ih =>
    obtain ⟨i1, i2⟩ := ih
    rename_i e
    have := h.closed e h2 (srcE back e).toNat i2 (by omega) h3
    have hd : 0 ≤ dstE back e := by
      obtain ⟨a, _, b, _⟩ := hr e h2
      cases back
      · exact b
      · exact a
    simp at this
    exact ⟨hd, this⟩
theorem bit_set {bits : List Bool} {k v : Nat} (hk : k < bits.length) : (bits.set k true)[v]? = some true ↔ v = k ∨ bits[v]? = some true := by
  rw [List.getElem?_set]
  by_cases e : k = v
  · subst e; simp [hk]
  · rw [if_neg e]; constructor
    · exact .inr
    · rintro (h | h)
      · exact absurd h.symm e
      · exact h
def freeN (bits : List Bool) : Nat := bits.count false
theorem free_set {bits : List Bool} {k : Nat} (hk : bits[k]? = some false) : freeN (bits.set k true) + 1 = freeN bits := by
  induction bits generalizing k with
  | nil => simp at hk
  | cons b t ih =>
    cases k with
    | zero => simp at hk; subst hk; simp [freeN]
    | succ k =>
      have := ih (k := k) (by simpa using hk)
      simp only [freeN, List.set_cons_succ, List.count_cons] at this ⊢
      omega
/-- A node is taken from the queue. -/
theorem bfs_pop {es : List Edge} {bl : List Int} {back : Bool} {s n u : Int} {bits : List Bool} {q : List Int} (h : BfsOk es bl back s n bits (u :: q) (fun _ _ => False)) : BfsOk es bl back s n bits q (fun x e => x = u ∧ e ∈ es.drop 0) :=
  ⟨h.len, h.sound, h.start, fun x hx => h.queue x (by simp [hx]), fun e he x hx h1 h2 => by
    rcases h.closed e he x hx h1 h2 with h3 | h3 | h3
    · exact .inl h3
    · rcases List.mem_cons.1 h3 with h3 | h3
      · exact .inr (.inr ⟨h3, by simpa using he⟩)
      · exact .inr (.inl h3)
    · exact h3.elim⟩
/-- An edge that leads to nothing new. -/
theorem bfs_skip {es : List Edge} {bl : List Int} {back : Bool} {s n u : Int} {bits : List Bool} {q : List Int} {j : Nat} {e : Edge} (he : es[j]? = some e) (h : BfsOk es bl back s n bits q (fun x e => x = u ∧ e ∈ es.drop j))
    (hn : srcE back e = u → dstE back e ∉ bl → bits[(dstE back e).toNat]? = some true) : BfsOk es bl back s n bits q (fun x e => x = u ∧ e ∈ es.drop (j + 1)) :=
  ⟨h.len, h.sound, h.start, h.queue, fun e2 he2 x hx h1 h2 => by
    rcases h.closed e2 he2 x hx h1 h2 with h3 | h3 | ⟨h3, h4⟩
    · exact .inl h3
    · exact .inr (.inl h3)
    · obtain ⟨l1, rfl⟩ := List.getElem?_eq_some_iff.1 he
      rw [List.drop_eq_getElem_cons l1] at h4
      rcases List.mem_cons.1 h4 with rfl | h4
      · exact .inl (hn (h1.trans h3) h2)
      · exact .inr (.inr ⟨h3, h4⟩)⟩
/-- An edge that leads to a new node. -/
theorem bfs_new {es : List Edge} {bl : List Int} {back : Bool} {s n u : Int} {bits : List Bool} {q : List Int} {j : Nat} {e : Edge} (he : es[j]? = some e) (hn40 : n ≤ 40) (hd0 : 0 ≤ dstE back e) (hdn : dstE back e < n) (hu : bits[u.toNat]? = some true) (hu0 : 0 ≤ u)
    (h : BfsOk es bl back s n bits q (fun x e => x = u ∧ e ∈ es.drop j)) (hs : srcE back e = u) (hb : dstE back e ∉ bl) : BfsOk es bl back s n (bits.set (dstE back e).toNat true) (q ++ [dstE back e]) (fun x e => x = u ∧ e ∈ es.drop (j + 1)) := by
  have hk : (dstE back e).toNat < bits.length := by rw [h.len]; omega
  have hmem : e ∈ es := List.mem_of_getElem? he
  have up : ∀ {v : Nat}, bits[v]? = some true → (bits.set (dstE back e).toNat true)[v]? = some true := fun hv => (bit_set hk).2 (.inr hv)
  refine ⟨by simp [h.len], fun v hv => ?_, up h.start, fun x hx => ?_, fun e2 he2 x hx h1 h2 => ?_⟩
  · rcases (bit_set hk).1 hv with rfl | hv
    · have hr : ReachI es bl back s (srcE back e) := by
        rw [hs]
        have := (h.sound u.toNat hu).1
        rwa [Int.toNat_of_nonneg hu0] at this
      rw [Int.toNat_of_nonneg hd0]
      exact ⟨.step hr hmem hb, hdn⟩
    · exact h.sound v hv
  · rcases List.mem_append.1 hx with hx | hx
    · obtain ⟨a, b, c⟩ := h.queue x hx
      exact ⟨a, b, up c⟩
    · simp at hx; subst hx
      exact ⟨hd0, hdn, (bit_set hk).2 (.inl rfl)⟩
  · rcases (bit_set hk).1 hx with rfl | hx
    · exact .inr (.inl (by rw [Int.toNat_of_nonneg hd0]; simp))
    · rcases h.closed e2 he2 x hx h1 h2 with h3 | h3 | ⟨h3, h4⟩
      · exact .inl (up h3)
      · exact .inr (.inl (List.mem_append_left _ h3))
      · obtain ⟨l1, rfl⟩ := List.getElem?_eq_some_iff.1 he
        rw [List.drop_eq_getElem_cons l1] at h4
        rcases List.mem_cons.1 h4 with rfl | h4
        · exact .inl ((bit_set hk).2 (.inl rfl))
        · exact .inr (.inr ⟨h3, h4⟩)
end Go.Sx


/-
  Layer 11, part H: reached.
-/
namespace Go.Sx
open Go Go.Proofs Go.Proofs.Ytmogappoadglgaa
def spReached : Spec AF where
  γ := (Int × List Edge) × List Int × Int × Bool
  δ := List Bool
  args := fun g => [layS g.1.1 g.1.2, .lst 3 g.2.1, vI g.2.2.1, vB g.2.2.2]
  own := fun _ => []
  pre := fun g => RightL g.1.1 g.1.2 ∧ 0 ≤ g.2.2.1 ∧ g.2.2.1 < g.1.1 ∧ g.2.1.length ≤ 9223372036854775807
  nnew := 0
  res := fun _ d => .aggl 4 d
  own' := fun _ _ => []
  post := fun g d => d.length = 40 ∧ ∀ v : Nat, d[v]? = some true ↔ ReachI g.1.2 g.2.1 g.2.2.2 g.2.2.1 v
theorem has_ex (a : List Int) (k : Int) : ∃ c : Bool, c = true ↔ k ∈ a := by
  by_cases h : k ∈ a
  · exact ⟨true, by simp [h]⟩
  · exact ⟨false, by simp [h]⟩
theorem m_reached : Meets Try.prog regF 81 spReached := by
  refine meets Try.func81 66 noWr rfl (by kernel_rfl) (by kernel_rfl) ?_
  rintro ⟨⟨(n : Int), (es : List Edge)⟩, (bl : List Int), (s : Int), (back : Bool)⟩ ⟨(hr : RightL n es), (h0 : 0 ≤ s), (hsn : s < n), (hbl : bl.length ≤ 9223372036854775807)⟩
  have hn40 := hr.most
  have hel := hr.len
  have hb0 : (List.replicate 40 false)[s.toNat]? = some false := by rw [List.getElem?_replicate, if_pos (by omega)]
  have hinit : BfsOk es bl back s n ((List.replicate 40 false).set s.toNat true) [s] (fun _ _ => False) := by
    have hk : s.toNat < (List.replicate 40 false).length := by simp; omega
    refine ⟨by simp, fun v hv => ?_, (bit_set hk).2 (.inl rfl), fun u hu => ?_, fun e _ u hu _ _ => ?_⟩
    · rcases (bit_set hk).1 hv with rfl | hv
      · rw [Int.toNat_of_nonneg h0]; exact ⟨.refl, hsn⟩
      · rw [List.getElem?_replicate] at hv; split at hv <;> simp at hv
    · simp at hu; subst hu; exact ⟨h0, hsn, (bit_set hk).2 (.inl rfl)⟩
    · rcases (bit_set hk).1 hu with rfl | hv
      · exact .inr (.inl (by rw [Int.toNat_of_nonneg h0]; simp))
      · rw [List.getElem?_replicate] at hv; split at hv <;> simp at hv
  have hf0 : freeN ((List.replicate 40 false).set s.toNat true) + 1 = 40 := by rw [free_set hb0]; simp [freeN]
  conv => whnf
  repeat' (first | (refine tell (fun htest => ?_) (fun htest => ?_) <;> (try dsimp only at htest) <;> first | (exfalso; omega) | (exact absurd rfl htest) | (exact absurd (by decide) htest) | (conv => whnf)) | (refine allG (x := false) (by first | exact hb0 | simpa [List.getElem?_append_right, lowOf] using hb0 | fail) ?_; conv => whnf) | (refine allLst (x := false) (by first | omega | assumption | fail) (by first | exact hb0 | simpa using hb0 | fail) ?_; conv => whnf) | (refine allG rfl ?_; conv => whnf) | (refine And.intro (by first | omega | assumption | kernel_rfl | exact And.intro rfl rfl | ((try dsimp only [inR, idx, lowOf]); first | omega | (with_reducible decide) | (simp; omega) | fail) | fail) ?_; conv => whnf) | fail)
  refine ⟨List Bool × List Int × List Int, fun p => ⟨[(1, .lst 3 bl), (3, vB back), (4, .ptr 1004 0 2 0), (8, .ptr 1008 0 40 0), (9, .sl 3000 1 p.2.1.length p.2.2.length)], [(1004, layC n es), (1008, .arr 4 p.1), (3000, .arr 3 (p.2.1 ++ p.2.2))]⟩, fun p => BfsOk es bl back s n p.1 p.2.2 (fun _ _ => False) ∧ freeN p.1 + p.2.2.length ≤ 40, fun p => 2 * freeN p.1 + p.2.2.length, fun _ _ => rfl, ⟨((List.replicate 40 false).set s.toNat true, [], [s]), [(3000, 1016)], ⟨hinit, Nat.le_of_eq hf0⟩, ?_⟩, ?_⟩
  · refine ⟨rfl, ?_, ?_, rfl⟩
    all_goals (repeat' (first | exact trivial | exact rfl | refine And.intro ?_ ?_ | (refine congrArg vI ?_; first | omega | (dsimp only; omega) | fail) | (refine congrArg some ?_) | omega | exact Nat.le_refl _ | exact congrArg (SV.lst _) (List.take_of_length_le (Nat.le_refl _)).symm))
  rintro ⟨(bits : List Bool), (pre : List Int), (q : List Int)⟩ ⟨(hq : BfsOk es bl back s n bits q (fun _ _ => False)), (hfq : freeN bits + q.length ≤ 40)⟩
  cases q with
  | nil =>
    have hl0 : ([] : List Int).length = 0 := rfl
    conv => whnf
    repeat' (first | (refine tell (fun htest => ?_) (fun htest => ?_) <;> (try dsimp only at htest) <;> first | (exfalso; omega) | (exact absurd rfl htest) | (exact absurd (by decide) htest) | (conv => whnf)) | (refine allG rfl ?_; conv => whnf) | (refine And.intro (by first | omega | assumption | kernel_rfl | exact And.intro rfl rfl | ((try dsimp only [inR, idx, lowOf]); first | omega | (with_reducible decide) | (simp; omega) | fail) | fail) ?_; conv => whnf) | fail)
    refine And.intro ⟨hq.len, rfl⟩ ?_
    refine ⟨bits, [], ⟨hq.len, fun v => ⟨fun h => (hq.sound v h).1, fun h => ?_⟩⟩, rfl, trivial, trivial⟩
    have := (bfs_end h0 hr.each hq h).2
    simpa using this
  | cons u q =>
    have hu := hq.queue u (by simp)
    have hlq : (u :: q).length = q.length + 1 := rfl
    have hgu : (pre ++ u :: q)[pre.length + Int.toNat 0]? = some u := by simp
    have hpop := bfs_pop hq
    conv => whnf
    repeat' (first | (refine tell (fun htest => ?_) (fun htest => ?_) <;> (try dsimp only at htest) <;> first | (exfalso; omega) | (exact absurd rfl htest) | (exact absurd (by decide) htest) | (conv => whnf)) | (refine allG (x := u) (by first | exact hgu | simpa [List.getElem?_append_right, lowOf] using hgu | fail) ?_; conv => whnf) | (refine allLst (x := u) (by first | omega | assumption | fail) (by first | exact hgu | simpa using hgu | fail) ?_; conv => whnf) | (refine allG rfl ?_; conv => whnf) | (refine And.intro (by first | omega | assumption | kernel_rfl | exact And.intro rfl rfl | ((try dsimp only [inR, idx, lowOf]); first | omega | (with_reducible decide) | (simp; omega) | fail) | fail) ?_; conv => whnf) | fail)
    refine ⟨List Bool × List Int × List Int × Nat, fun p => ⟨[(1, .lst 3 bl), (3, vB back), (4, .ptr 1004 0 2 0), (8, .ptr 1008 0 40 0), (9, .sl 3001 1 p.2.1.length p.2.2.1.length), (10, vI u), (26, .lst 54 es), (27, vI es.length), (28, vI p.2.2.2)], [(1004, layC n es), (1008, .arr 4 p.1), (3001, .arr 3 (p.2.1 ++ p.2.2.1))]⟩, fun p => p.2.2.2 ≤ es.length ∧ BfsOk es bl back s n p.1 p.2.2.1 (fun x e => x = u ∧ e ∈ es.drop p.2.2.2) ∧ freeN p.1 + p.2.2.1.length ≤ 39 ∧ 2 * freeN p.1 + p.2.2.1.length ≤ 2 * freeN bits + q.length ∧ p.1[u.toNat]? = some true, fun p => es.length - p.2.2.2, fun _ _ => rfl, ⟨(bits, pre ++ [u], q, 0), [(3001, 3000)], ⟨Nat.zero_le _, hpop, by dsimp only; omega, Nat.le_refl _, hu.2.2⟩, ?_⟩, ?_⟩
    · refine ⟨rfl, ?_, ?_, rfl⟩
      all_goals (repeat' (first | exact trivial | exact rfl | refine And.intro ?_ ?_ | (refine congrArg vI ?_; first | omega | (dsimp only; omega) | fail) | (refine congrArg some ?_) | omega | exact Nat.le_refl _ | exact congrArg (SV.lst _) (List.take_of_length_le (Nat.le_refl _)).symm))
      all_goals (first | exact congrArg (Ct.arr (A := AF) 3) (by simp) | exact (show SV.sl (A := AF) 3000 1 (pre.length + 1) ((u :: q).length - 1) = SV.sl 3000 1 (pre ++ [u]).length q.length by simp))
    rintro ⟨(bits2 : List Bool), (pre2 : List Int), (q2 : List Int), (j : Nat)⟩ ⟨(hj : j ≤ es.length), (hB : BfsOk es bl back s n bits2 q2 (fun x e => x = u ∧ e ∈ es.drop j)), (hf1 : freeN bits2 + q2.length ≤ 39), (hf2 : 2 * freeN bits2 + q2.length ≤ 2 * freeN bits + q.length), (hub : bits2[u.toNat]? = some true)⟩
    by_cases hjl : j < es.length
    · obtain ⟨e, he⟩ : ∃ e, es[j]? = some e := ⟨_, List.getElem?_eq_getElem hjl⟩
      obtain ⟨d1, d2, d3, d4, _⟩ := hr.each e (List.mem_of_getElem? he)
      have hdd : 0 ≤ dstE back e ∧ dstE back e < n := by cases back <;> simp only [dstE] <;> omega
      obtain ⟨b, hb⟩ : ∃ b, bits2[(dstE back e).toNat]? = some b := ⟨_, List.getElem?_eq_getElem (by rw [hB.len]; omega)⟩
      have hskip := bfs_skip he hB
      have hnew := bfs_new he hn40 hdd.1 hdd.2 hub hu.1 hB
      cases back
      · have hnsrc : ∀ {K : Prop}, srcE false e = u → ¬ e.1 = u → K := fun h1 h2 => absurd h1 h2
        cases b
        · conv => whnf
          repeat' (first | (refine tell (fun htest => ?_) (fun htest => ?_) <;> (try dsimp only at htest) <;> first | (exfalso; omega) | (exact absurd rfl htest) | (exact absurd (by decide) htest) | (conv => whnf)) | (refine allG (x := e) (by first | exact he | simpa [List.getElem?_append_right, lowOf] using he | fail) ?_; conv => whnf) | (refine allLst (x := e) (by first | omega | assumption | fail) (by first | exact he | simpa using he | fail) ?_; conv => whnf) | (refine allG (x := false) (by first | exact hb | simpa [List.getElem?_append_right, lowOf] using hb | fail) ?_; conv => whnf) | (refine allLst (x := false) (by first | omega | assumption | fail) (by first | exact hb | simpa using hb | fail) ?_; conv => whnf) | (refine allG rfl ?_; conv => whnf) | (refine And.intro (by first | omega | assumption | kernel_rfl | exact And.intro rfl rfl | ((try dsimp only [inR, idx, lowOf]); first | omega | (with_reducible decide) | (simp; omega) | fail) | fail) ?_; conv => whnf) | fail)
          · refine ⟨_, m_contains, (bl, e.2.1), [], false, ?_⟩
            conv => whnf
            refine And.intro (vc0 hbl (by (repeat' (first | exact trivial | exact rfl | refine And.intro ?_ ?_ | (refine congrArg vI ?_; first | omega | (dsimp only; omega) | fail) | (refine congrArg some ?_) | omega | exact Nat.le_refl _ | exact congrArg (SV.lst _) (List.take_of_length_le (Nat.le_refl _)).symm))) (by repeat' (first | exact trivial | exact rfl | refine And.intro ?_ ?_ | (refine congrArg vI ?_; first | omega | (dsimp only; omega) | fail) | (refine congrArg some ?_) | omega | exact Nat.le_refl _ | exact congrArg (SV.lst _) (List.take_of_length_le (Nat.le_refl _)).symm)) trivial trivial) ?_
            refine And.intro (has_ex bl (e.2.1)) ?_
            intro (c : Bool) (hc : c = true ↔ e.2.1 ∈ bl)
            cases c
            · have hnb : dstE false e ∉ bl := fun h => by have := hc.2 h; cases this
              have hB2 := hnew (by assumption) hnb
              have hfr := free_set hb
              have hq2 : (q2 ++ [dstE false e]).length = q2.length + 1 := by simp
              conv => whnf
              repeat' (first | (refine tell (fun htest => ?_) (fun htest => ?_) <;> (try dsimp only at htest) <;> first | (exfalso; omega) | (exact absurd rfl htest) | (exact absurd (by decide) htest) | (conv => whnf)) | (refine allG (x := false) (by first | exact hb | simpa [List.getElem?_append_right, lowOf] using hb | fail) ?_; conv => whnf) | (refine allLst (x := false) (by first | omega | assumption | fail) (by first | exact hb | simpa using hb | fail) ?_; conv => whnf) | (refine allG rfl ?_; conv => whnf) | (refine And.intro (by first | omega | assumption | kernel_rfl | exact And.intro rfl rfl | ((try dsimp only [inR, idx, lowOf]); first | omega | (with_reducible decide) | (simp; omega) | fail) | fail) ?_; conv => whnf) | fail)
              refine ⟨(bits2.set (dstE false e).toNat true, [], q2 ++ [dstE false e], j + 1), [(3001, 1064)], ⟨hjl, hB2, by dsimp only; omega, by dsimp only; omega, (bit_set (by rw [hB.len]; show (e.2.1).toNat < 40; omega)).2 (.inr hub)⟩, ?_, rfl, ?_, ?_, rfl⟩
              · dsimp only; first | omega | (simp; done) | (simp; omega)
              all_goals (repeat' (first | exact trivial | exact rfl | refine And.intro ?_ ?_ | (refine congrArg vI ?_; first | omega | (dsimp only; omega) | fail) | (refine congrArg some ?_) | omega | exact Nat.le_refl _ | exact congrArg (SV.lst _) (List.take_of_length_le (Nat.le_refl _)).symm))
              · exact (show SV.sl (A := AF) 1064 1 0 (q2.length + 1) = SV.sl 1064 1 0 (q2 ++ [dstE false e]).length by rw [hq2])
              · exact congrArg (Ct.arr (A := AF) 3) (show ((pre2 ++ q2).drop pre2.length).take q2.length ++ [e.2.1] = [] ++ (q2 ++ [dstE false e]) by simp [dstE])
            · have hB2 := hskip fun _ h => absurd (hc.1 rfl) h
              conv => whnf
              repeat' (first | (refine tell (fun htest => ?_) (fun htest => ?_) <;> (try dsimp only at htest) <;> first | (exfalso; omega) | (exact absurd rfl htest) | (exact absurd (by decide) htest) | (conv => whnf)) | (refine allG rfl ?_; conv => whnf) | (refine And.intro (by first | omega | assumption | kernel_rfl | exact And.intro rfl rfl | ((try dsimp only [inR, idx, lowOf]); first | omega | (with_reducible decide) | (simp; omega) | fail) | fail) ?_; conv => whnf) | fail)
              refine ⟨(bits2, pre2, q2, j + 1), [], ⟨hjl, hB2, hf1, hf2, hub⟩, ?_, rfl, ?_, ?_, rfl⟩
              · dsimp only; first | omega | (simp; done) | (simp; omega)
              all_goals (repeat' (first | exact trivial | exact rfl | refine And.intro ?_ ?_ | (refine congrArg vI ?_; first | omega | (dsimp only; omega) | fail) | (refine congrArg some ?_) | omega | exact Nat.le_refl _ | exact congrArg (SV.lst _) (List.take_of_length_le (Nat.le_refl _)).symm))
          · have hB2 := hskip fun h => hnsrc h (by assumption)
            refine ⟨(bits2, pre2, q2, j + 1), [], ⟨hjl, hB2, hf1, hf2, hub⟩, ?_, rfl, ?_, ?_, rfl⟩
            · dsimp only; first | omega | (simp; done) | (simp; omega)
            all_goals (repeat' (first | exact trivial | exact rfl | refine And.intro ?_ ?_ | (refine congrArg vI ?_; first | omega | (dsimp only; omega) | fail) | (refine congrArg some ?_) | omega | exact Nat.le_refl _ | exact congrArg (SV.lst _) (List.take_of_length_le (Nat.le_refl _)).symm))
        · have hB2 := hskip fun _ _ => hb
          conv => whnf
          repeat' (first | (refine tell (fun htest => ?_) (fun htest => ?_) <;> (try dsimp only at htest) <;> first | (exfalso; omega) | (exact absurd rfl htest) | (exact absurd (by decide) htest) | (conv => whnf)) | (refine allG (x := e) (by first | exact he | simpa [List.getElem?_append_right, lowOf] using he | fail) ?_; conv => whnf) | (refine allLst (x := e) (by first | omega | assumption | fail) (by first | exact he | simpa using he | fail) ?_; conv => whnf) | (refine allG (x := true) (by first | exact hb | simpa [List.getElem?_append_right, lowOf] using hb | fail) ?_; conv => whnf) | (refine allLst (x := true) (by first | omega | assumption | fail) (by first | exact hb | simpa using hb | fail) ?_; conv => whnf) | (refine allG rfl ?_; conv => whnf) | (refine And.intro (by first | omega | assumption | kernel_rfl | exact And.intro rfl rfl | ((try dsimp only [inR, idx, lowOf]); first | omega | (with_reducible decide) | (simp; omega) | fail) | fail) ?_; conv => whnf) | fail)
          all_goals
            refine ⟨(bits2, pre2, q2, j + 1), [], ⟨hjl, hB2, hf1, hf2, hub⟩, ?_, rfl, ?_, ?_, rfl⟩
            · dsimp only; first | omega | (simp; done) | (simp; omega)
            all_goals (repeat' (first | exact trivial | exact rfl | refine And.intro ?_ ?_ | (refine congrArg vI ?_; first | omega | (dsimp only; omega) | fail) | (refine congrArg some ?_) | omega | exact Nat.le_refl _ | exact congrArg (SV.lst _) (List.take_of_length_le (Nat.le_refl _)).symm))
      · have hnsrc : ∀ {K : Prop}, srcE true e = u → ¬ e.2.1 = u → K := fun h1 h2 => absurd h1 h2
        cases b
        · conv => whnf
          repeat' (first | (refine tell (fun htest => ?_) (fun htest => ?_) <;> (try dsimp only at htest) <;> first | (exfalso; omega) | (exact absurd rfl htest) | (exact absurd (by decide) htest) | (conv => whnf)) | (refine allG (x := e) (by first | exact he | simpa [List.getElem?_append_right, lowOf] using he | fail) ?_; conv => whnf) | (refine allLst (x := e) (by first | omega | assumption | fail) (by first | exact he | simpa using he | fail) ?_; conv => whnf) | (refine allG (x := false) (by first | exact hb | simpa [List.getElem?_append_right, lowOf] using hb | fail) ?_; conv => whnf) | (refine allLst (x := false) (by first | omega | assumption | fail) (by first | exact hb | simpa using hb | fail) ?_; conv => whnf) | (refine allG rfl ?_; conv => whnf) | (refine And.intro (by first | omega | assumption | kernel_rfl | exact And.intro rfl rfl | ((try dsimp only [inR, idx, lowOf]); first | omega | (with_reducible decide) | (simp; omega) | fail) | fail) ?_; conv => whnf) | fail)
          · refine ⟨_, m_contains, (bl, e.1), [], false, ?_⟩
            conv => whnf
            refine And.intro (vc0 hbl (by (repeat' (first | exact trivial | exact rfl | refine And.intro ?_ ?_ | (refine congrArg vI ?_; first | omega | (dsimp only; omega) | fail) | (refine congrArg some ?_) | omega | exact Nat.le_refl _ | exact congrArg (SV.lst _) (List.take_of_length_le (Nat.le_refl _)).symm))) (by repeat' (first | exact trivial | exact rfl | refine And.intro ?_ ?_ | (refine congrArg vI ?_; first | omega | (dsimp only; omega) | fail) | (refine congrArg some ?_) | omega | exact Nat.le_refl _ | exact congrArg (SV.lst _) (List.take_of_length_le (Nat.le_refl _)).symm)) trivial trivial) ?_
            refine And.intro (has_ex bl (e.1)) ?_
            intro (c : Bool) (hc : c = true ↔ e.1 ∈ bl)
            cases c
            · have hnb : dstE true e ∉ bl := fun h => by have := hc.2 h; cases this
              have hB2 := hnew (by assumption) hnb
              have hfr := free_set hb
              have hq2 : (q2 ++ [dstE true e]).length = q2.length + 1 := by simp
              conv => whnf
              repeat' (first | (refine tell (fun htest => ?_) (fun htest => ?_) <;> (try dsimp only at htest) <;> first | (exfalso; omega) | (exact absurd rfl htest) | (exact absurd (by decide) htest) | (conv => whnf)) | (refine allG (x := false) (by first | exact hb | simpa [List.getElem?_append_right, lowOf] using hb | fail) ?_; conv => whnf) | (refine allLst (x := false) (by first | omega | assumption | fail) (by first | exact hb | simpa using hb | fail) ?_; conv => whnf) | (refine allG rfl ?_; conv => whnf) | (refine And.intro (by first | omega | assumption | kernel_rfl | exact And.intro rfl rfl | ((try dsimp only [inR, idx, lowOf]); first | omega | (with_reducible decide) | (simp; omega) | fail) | fail) ?_; conv => whnf) | fail)
              refine ⟨(bits2.set (dstE true e).toNat true, [], q2 ++ [dstE true e], j + 1), [(3001, 1064)], ⟨hjl, hB2, by dsimp only; omega, by dsimp only; omega, (bit_set (by rw [hB.len]; show (e.1).toNat < 40; omega)).2 (.inr hub)⟩, ?_, rfl, ?_, ?_, rfl⟩
              · dsimp only; first | omega | (simp; done) | (simp; omega)
              all_goals (repeat' (first | exact trivial | exact rfl | refine And.intro ?_ ?_ | (refine congrArg vI ?_; first | omega | (dsimp only; omega) | fail) | (refine congrArg some ?_) | omega | exact Nat.le_refl _ | exact congrArg (SV.lst _) (List.take_of_length_le (Nat.le_refl _)).symm))
              · exact (show SV.sl (A := AF) 1064 1 0 (q2.length + 1) = SV.sl 1064 1 0 (q2 ++ [dstE true e]).length by rw [hq2])
              · exact congrArg (Ct.arr (A := AF) 3) (show ((pre2 ++ q2).drop pre2.length).take q2.length ++ [e.1] = [] ++ (q2 ++ [dstE true e]) by simp [dstE])
            · have hB2 := hskip fun _ h => absurd (hc.1 rfl) h
              conv => whnf
              repeat' (first | (refine tell (fun htest => ?_) (fun htest => ?_) <;> (try dsimp only at htest) <;> first | (exfalso; omega) | (exact absurd rfl htest) | (exact absurd (by decide) htest) | (conv => whnf)) | (refine allG rfl ?_; conv => whnf) | (refine And.intro (by first | omega | assumption | kernel_rfl | exact And.intro rfl rfl | ((try dsimp only [inR, idx, lowOf]); first | omega | (with_reducible decide) | (simp; omega) | fail) | fail) ?_; conv => whnf) | fail)
              refine ⟨(bits2, pre2, q2, j + 1), [], ⟨hjl, hB2, hf1, hf2, hub⟩, ?_, rfl, ?_, ?_, rfl⟩
              · dsimp only; first | omega | (simp; done) | (simp; omega)
              all_goals (repeat' (first | exact trivial | exact rfl | refine And.intro ?_ ?_ | (refine congrArg vI ?_; first | omega | (dsimp only; omega) | fail) | (refine congrArg some ?_) | omega | exact Nat.le_refl _ | exact congrArg (SV.lst _) (List.take_of_length_le (Nat.le_refl _)).symm))
          · have hB2 := hskip fun h => hnsrc h (by assumption)
            refine ⟨(bits2, pre2, q2, j + 1), [], ⟨hjl, hB2, hf1, hf2, hub⟩, ?_, rfl, ?_, ?_, rfl⟩
            · dsimp only; first | omega | (simp; done) | (simp; omega)
            all_goals (repeat' (first | exact trivial | exact rfl | refine And.intro ?_ ?_ | (refine congrArg vI ?_; first | omega | (dsimp only; omega) | fail) | (refine congrArg some ?_) | omega | exact Nat.le_refl _ | exact congrArg (SV.lst _) (List.take_of_length_le (Nat.le_refl _)).symm))
        · have hB2 := hskip fun _ _ => hb
          conv => whnf
          repeat' (first | (refine tell (fun htest => ?_) (fun htest => ?_) <;> (try dsimp only at htest) <;> first | (exfalso; omega) | (exact absurd rfl htest) | (exact absurd (by decide) htest) | (conv => whnf)) | (refine allG (x := e) (by first | exact he | simpa [List.getElem?_append_right, lowOf] using he | fail) ?_; conv => whnf) | (refine allLst (x := e) (by first | omega | assumption | fail) (by first | exact he | simpa using he | fail) ?_; conv => whnf) | (refine allG (x := true) (by first | exact hb | simpa [List.getElem?_append_right, lowOf] using hb | fail) ?_; conv => whnf) | (refine allLst (x := true) (by first | omega | assumption | fail) (by first | exact hb | simpa using hb | fail) ?_; conv => whnf) | (refine allG rfl ?_; conv => whnf) | (refine And.intro (by first | omega | assumption | kernel_rfl | exact And.intro rfl rfl | ((try dsimp only [inR, idx, lowOf]); first | omega | (with_reducible decide) | (simp; omega) | fail) | fail) ?_; conv => whnf) | fail)
          all_goals
            refine ⟨(bits2, pre2, q2, j + 1), [], ⟨hjl, hB2, hf1, hf2, hub⟩, ?_, rfl, ?_, ?_, rfl⟩
            · dsimp only; first | omega | (simp; done) | (simp; omega)
            all_goals (repeat' (first | exact trivial | exact rfl | refine And.intro ?_ ?_ | (refine congrArg vI ?_; first | omega | (dsimp only; omega) | fail) | (refine congrArg some ?_) | omega | exact Nat.le_refl _ | exact congrArg (SV.lst _) (List.take_of_length_le (Nat.le_refl _)).symm))
    · have hj : j = es.length := by omega
      subst hj
      have hB' : BfsOk es bl back s n bits2 q2 (fun _ _ => False) := ⟨hB.len, hB.sound, hB.start, hB.queue, fun e he x hx h1 h2 => by
        rcases hB.closed e he x hx h1 h2 with h3 | h3 | h3
        · exact .inl h3
        · exact .inr (.inl h3)
        · simp at h3⟩
      conv => whnf
      repeat' (first | (refine tell (fun htest => ?_) (fun htest => ?_) <;> (try dsimp only at htest) <;> first | (exfalso; omega) | (exact absurd rfl htest) | (exact absurd (by decide) htest) | (conv => whnf)) | (refine allG rfl ?_; conv => whnf) | (refine And.intro (by first | omega | assumption | kernel_rfl | exact And.intro rfl rfl | ((try dsimp only [inR, idx, lowOf]); first | omega | (with_reducible decide) | (simp; omega) | fail) | fail) ?_; conv => whnf) | fail)
      refine ⟨(bits2, pre2, q2), [(3000, 3001)], ⟨hB', by dsimp only; omega⟩, ?_, rfl, ?_, ?_, rfl⟩
      · dsimp only; first | omega | (simp; done) | (simp; omega)
      all_goals (repeat' (first | exact trivial | exact rfl | refine And.intro ?_ ?_ | (refine congrArg vI ?_; first | omega | (dsimp only; omega) | fail) | (refine congrArg some ?_) | omega | exact Nat.le_refl _ | exact congrArg (SV.lst _) (List.take_of_length_le (Nat.le_refl _)).symm))
end Go.Sx


/-
  Layer 11, part I: Reach.
-/
namespace Go.Sx
open Go Go.Proofs Go.Proofs.Ytmogappoadglgaa
open Classical in
noncomputable def inB (es : List Edge) (bl : List Int) (back : Bool) (s : Int) (v : Nat) : Bool := decide (ReachI es bl back s v)
theorem inB_iff {es : List Edge} {bl : List Int} {back : Bool} {s : Int} {v : Nat} : inB es bl back s v = true ↔ ReachI es bl back s v := by unfold inB; simp
noncomputable def reachN (es : List Edge) (bl : List Int) (s : Int) (k : Nat) : List Int := ((List.range k).filter (inB es bl false s)).map fun v : Nat => (v : Int)
theorem reachN_succ (es : List Edge) (bl : List Int) (s : Int) (k : Nat) : reachN es bl s (k + 1) = reachN es bl s k ++ if inB es bl false s k = true then [(k : Int)] else [] := by
  unfold reachN
  rw [List.range_succ, List.filter_append, List.map_append]
  congr 1
  simp only [List.filter_cons, List.filter_nil]
  split <;> rfl
theorem reachN_len (es : List Edge) (bl : List Int) (s : Int) (k : Nat) : (reachN es bl s k).length ≤ k := by
  unfold reachN
  rw [List.length_map]
  exact Nat.le_trans (List.length_filter_le _ _) (by simp)
open Classical in
noncomputable def reachF (n : Int) (es : List Edge) (bl : List Int) (s : Int) : List Int := if RightL n es ∧ 0 ≤ s ∧ s < n then reachN es bl s 40 else []
theorem reached_ex (es : List Edge) (bl : List Int) (back : Bool) (s n : Int) (h : RightL n es) (h0 : 0 ≤ s) (hs : s < n) : ∃ d : List Bool, d.length = 40 ∧ ∀ v : Nat, d[v]? = some true ↔ ReachI es bl back s v := by
  have hb : ∀ {v : Int}, ReachI es bl back s v → 0 ≤ v ∧ v < n := fun hv => by
    cases hv with
    | refl => exact ⟨h0, hs⟩
    | step h1 h2 h3 =>
      rename_i e
      obtain ⟨a, b, c, d, _⟩ := h.each e h2
      cases back
      · exact ⟨c, d⟩
      · exact ⟨a, b⟩
  have h40 := h.most
  refine ⟨(List.range 40).map (inB es bl back s), by simp, fun v => ?_⟩
  rw [List.getElem?_map]
  by_cases hv : v < 40
  · rw [List.getElem?_range hv]; simp [inB]
  · rw [List.getElem?_eq_none (by simp; omega)]
    constructor
    · intro h; cases h
    · intro h; have := hb h; omega
noncomputable def spReach : Spec AF where
  γ := (Int × List Edge) × List Int × Int
  δ := Unit
  args := fun g => [layS g.1.1 g.1.2, .lst 3 g.2.1, vI g.2.2]
  own := fun _ => []
  pre := fun g => GoodL g.1.2 ∧ g.2.1.length ≤ 9223372036854775807
  nnew := 0
  res := fun g _ => .lst 3 (reachF g.1.1 g.1.2 g.2.1 g.2.2)
  own' := fun _ _ => []
  post := fun _ _ => True
theorem m_reach : Meets Try.prog regF 44 spReach := by
  refine meets Try.func44 36 noWr rfl (by kernel_rfl) (by kernel_rfl) ?_
  rintro ⟨⟨(n : Int), (es : List Edge)⟩, (bl : List Int), (s : Int)⟩ ⟨(hg : GoodL es), (hbl : bl.length ≤ 9223372036854775807)⟩
  conv => whnf
  repeat' (first | (refine tell (fun htest => ?_) (fun htest => ?_) <;> (try dsimp only at htest) <;> first | (exfalso; omega) | (exact absurd rfl htest) | (exact absurd (by decide) htest) | (conv => whnf)) | (refine allG rfl ?_; conv => whnf) | (refine And.intro (by first | omega | assumption | kernel_rfl | exact And.intro rfl rfl | ((try dsimp only [inR, idx, lowOf]); first | omega | (with_reducible decide) | (simp; omega) | fail) | fail) ?_; conv => whnf) | fail)
  refine ⟨_, m_right, (n, es), [], false, ?_⟩
  conv => whnf
  refine And.intro (vc0 hg (by (repeat' (first | exact trivial | exact rfl | refine And.intro ?_ ?_ | (refine congrArg vI ?_; first | omega | (dsimp only; omega) | fail) | (refine congrArg some ?_) | omega | exact Nat.le_refl _ | exact congrArg (SV.lst _) (List.take_of_length_le (Nat.le_refl _)).symm))) (by repeat' (first | exact trivial | exact rfl | refine And.intro ?_ ?_ | (refine congrArg vI ?_; first | omega | (dsimp only; omega) | fail) | (refine congrArg some ?_) | omega | exact Nat.le_refl _ | exact congrArg (SV.lst _) (List.take_of_length_le (Nat.le_refl _)).symm)) trivial trivial) ?_
  refine And.intro (right_ex n es) ?_
  intro (c : Bool) (hc : c = true ↔ RightL n es)
  by_cases hok : RightL n es ∧ 0 ≤ s ∧ s < n
  · obtain ⟨hr, h0, hsn⟩ := hok
    have hF : reachF n es bl s = reachN es bl s 40 := if_pos ⟨hr, h0, hsn⟩
    cases c
    · have := hc.2 hr; cases this
    conv => whnf
    repeat' (first | (refine tell (fun htest => ?_) (fun htest => ?_) <;> (try dsimp only at htest) <;> first | (exfalso; omega) | (exact absurd rfl htest) | (exact absurd (by decide) htest) | (conv => whnf)) | (refine allG rfl ?_; conv => whnf) | (refine And.intro (by first | omega | assumption | kernel_rfl | exact And.intro rfl rfl | ((try dsimp only [inR, idx, lowOf]); first | omega | (with_reducible decide) | (simp; omega) | fail) | fail) ?_; conv => whnf) | fail)
    refine ⟨_, m_reached, ((n, es), bl, s, false), [], false, ?_⟩
    conv => whnf
    refine And.intro (vc0 ⟨hr, h0, hsn, hbl⟩ (by (repeat' (first | exact trivial | exact rfl | refine And.intro ?_ ?_ | (refine congrArg vI ?_; first | omega | (dsimp only; omega) | fail) | (refine congrArg some ?_) | omega | exact Nat.le_refl _ | exact congrArg (SV.lst _) (List.take_of_length_le (Nat.le_refl _)).symm))) (by repeat' (first | exact trivial | exact rfl | refine And.intro ?_ ?_ | (refine congrArg vI ?_; first | omega | (dsimp only; omega) | fail) | (refine congrArg some ?_) | omega | exact Nat.le_refl _ | exact congrArg (SV.lst _) (List.take_of_length_le (Nat.le_refl _)).symm)) trivial trivial) ?_
    refine And.intro (reached_ex es bl false s n hr h0 hsn) ?_
    rintro (d : List Bool) ⟨(hd : d.length = 40), (hd2 : ∀ v : Nat, d[v]? = some true ↔ ReachI es bl false s v)⟩
    conv => whnf
    repeat' (first | (refine tell (fun htest => ?_) (fun htest => ?_) <;> (try dsimp only at htest) <;> first | (exfalso; omega) | (exact absurd rfl htest) | (exact absurd (by decide) htest) | (conv => whnf)) | (refine allG rfl ?_; conv => whnf) | (refine And.intro (by first | omega | assumption | kernel_rfl | exact And.intro rfl rfl | ((try dsimp only [inR, idx, lowOf]); first | omega | (with_reducible decide) | (simp; omega) | fail) | fail) ?_; conv => whnf) | fail)
    refine ⟨Nat, fun i => ⟨[(6, .sl 3000 1 0 (reachN es bl s i).length), (25, .aggl 4 d), (26, vI i)], [(3000, .arr 3 (reachN es bl s i))]⟩, fun i => i ≤ 40, fun i => 40 - i, fun _ _ => rfl, ⟨0, [], Nat.zero_le _, ?_⟩, ?_⟩
    · refine ⟨rfl, ?_, ?_, rfl⟩
      all_goals (repeat' (first | exact trivial | exact rfl | refine And.intro ?_ ?_ | (refine congrArg vI ?_; first | omega | (dsimp only; omega) | fail) | (refine congrArg some ?_) | omega | exact Nat.le_refl _ | exact congrArg (SV.lst _) (List.take_of_length_le (Nat.le_refl _)).symm))
    rintro (i : Nat) (hi : i ≤ 40)
    have hln := reachN_len es bl s i
    have hsu := reachN_succ es bl s i
    by_cases hlt : i < 40
    · obtain ⟨b, hb⟩ : ∃ b, d[i]? = some b := ⟨_, List.getElem?_eq_getElem (by omega)⟩
      have hbb : b = inB es bl false s i := by
        cases b
        · cases e : inB es bl false s i with
          | false => rfl
          | true => have := (hd2 i).2 (inB_iff.1 e); rw [hb] at this; cases this
        · exact (inB_iff.2 ((hd2 i).1 hb)).symm
      cases b
      · rw [← hbb, if_neg (by simp), List.append_nil] at hsu
        conv => whnf
        repeat' (first | (refine tell (fun htest => ?_) (fun htest => ?_) <;> (try dsimp only at htest) <;> first | (exfalso; omega) | (exact absurd rfl htest) | (exact absurd (by decide) htest) | (conv => whnf)) | (refine allG (x := false) (by first | exact hb | simpa [List.getElem?_append_right, lowOf] using hb | fail) ?_; conv => whnf) | (refine allLst (x := false) (by first | omega | assumption | fail) (by first | exact hb | simpa using hb | fail) ?_; conv => whnf) | (refine allG rfl ?_; conv => whnf) | (refine And.intro (by first | omega | assumption | kernel_rfl | exact And.intro rfl rfl | ((try dsimp only [inR, idx, lowOf]); first | omega | (with_reducible decide) | (simp; omega) | fail) | fail) ?_; conv => whnf) | fail)
        refine ⟨i + 1, [], hlt, ?_, rfl, ?_, ?_, rfl⟩
        · dsimp only; first | omega | (simp; done) | (simp; omega)
        all_goals (repeat' (first | exact trivial | exact rfl | refine And.intro ?_ ?_ | (refine congrArg vI ?_; first | omega | (dsimp only; omega) | fail) | (refine congrArg some ?_) | omega | exact Nat.le_refl _ | exact congrArg (SV.lst _) (List.take_of_length_le (Nat.le_refl _)).symm))
        · exact congrArg (SV.sl (A := AF) 3000 1 0) (congrArg List.length hsu.symm)
        · exact congrArg (Ct.arr (A := AF) 3) hsu.symm
      · rw [← hbb, if_pos rfl] at hsu
        conv => whnf
        repeat' (first | (refine tell (fun htest => ?_) (fun htest => ?_) <;> (try dsimp only at htest) <;> first | (exfalso; omega) | (exact absurd rfl htest) | (exact absurd (by decide) htest) | (conv => whnf)) | (refine allG (x := true) (by first | exact hb | simpa [List.getElem?_append_right, lowOf] using hb | fail) ?_; conv => whnf) | (refine allLst (x := true) (by first | omega | assumption | fail) (by first | exact hb | simpa using hb | fail) ?_; conv => whnf) | (refine allG rfl ?_; conv => whnf) | (refine And.intro (by first | omega | assumption | kernel_rfl | exact And.intro rfl rfl | ((try dsimp only [inR, idx, lowOf]); first | omega | (with_reducible decide) | (simp; omega) | fail) | fail) ?_; conv => whnf) | fail)
        refine ⟨i + 1, [(3000, 1034)], hlt, ?_, rfl, ?_, ?_, rfl⟩
        · dsimp only; first | omega | (simp; done) | (simp; omega)
        all_goals (repeat' (first | exact trivial | exact rfl | refine And.intro ?_ ?_ | (refine congrArg vI ?_; first | omega | (dsimp only; omega) | fail) | (refine congrArg some ?_) | omega | exact Nat.le_refl _ | exact congrArg (SV.lst _) (List.take_of_length_le (Nat.le_refl _)).symm))
        · exact congrArg (SV.sl (A := AF) 1034 1 0) (show (reachN es bl s i).length + 1 = (reachN es bl s (i + 1)).length by rw [hsu]; simp)
        · exact congrArg (Ct.arr (A := AF) 3) (show ((reachN es bl s i).drop 0).take (reachN es bl s i).length ++ [(i : Int)] = reachN es bl s (i + 1) by rw [hsu]; simp)
    · have hi : i = 40 := by omega
      subst hi
      conv => whnf
      repeat' (first | (refine tell (fun htest => ?_) (fun htest => ?_) <;> (try dsimp only at htest) <;> first | (exfalso; omega) | (exact absurd rfl htest) | (exact absurd (by decide) htest) | (conv => whnf)) | (refine allG rfl ?_; conv => whnf) | (refine And.intro (by first | omega | assumption | kernel_rfl | exact And.intro rfl rfl | ((try dsimp only [inR, idx, lowOf]); first | omega | (with_reducible decide) | (simp; omega) | fail) | fail) ?_; conv => whnf) | fail)
      refine ⟨(), [], trivial, ⟨by simp, rfl, ?_⟩, trivial, trivial⟩
      exact congrArg (SV.lst (A := AF) 3) (show reachF n es bl s = ((reachN es bl s 40).drop 0).take (reachN es bl s 40).length by rw [hF]; simp)
  · have hF : reachF n es bl s = [] := if_neg hok
    cases c
    · conv => whnf
      repeat' (first | (refine tell (fun htest => ?_) (fun htest => ?_) <;> (try dsimp only at htest) <;> first | (exfalso; omega) | (exact absurd rfl htest) | (exact absurd (by decide) htest) | (conv => whnf)) | (refine allG rfl ?_; conv => whnf) | (refine And.intro (by first | omega | assumption | kernel_rfl | exact And.intro rfl rfl | ((try dsimp only [inR, idx, lowOf]); first | omega | (with_reducible decide) | (simp; omega) | fail) | fail) ?_; conv => whnf) | fail)
      exact ⟨(), [], trivial, (by show _ = _; exact hF), trivial, trivial⟩
    · have hr := hc.1 rfl
      have hns : ¬ (0 ≤ s ∧ s < n) := fun h => hok ⟨hr, h⟩
      conv => whnf
      repeat' (first | (refine tell (fun htest => ?_) (fun htest => ?_) <;> (try dsimp only at htest) <;> first | (exfalso; omega) | (exact absurd rfl htest) | (exact absurd (by decide) htest) | (conv => whnf)) | (refine allG rfl ?_; conv => whnf) | (refine And.intro (by first | omega | assumption | kernel_rfl | exact And.intro rfl rfl | ((try dsimp only [inR, idx, lowOf]); first | omega | (with_reducible decide) | (simp; omega) | fail) | fail) ?_; conv => whnf) | fail)
      all_goals exact ⟨(), [], trivial, (by show _ = _; exact hF), trivial, trivial⟩
end Go.Sx


/-
  Layer 11, part J: Strong.
-/
namespace Go.Sx
open Go Go.Proofs Go.Proofs.Ytmogappoadglgaa
/-- From node 0 one comes to each, and from each to node 0. -/
def StrongL (n : Int) (es : List Edge) : Prop := RightL n es ∧ ∀ v : Nat, (v : Int) < n → ReachI es [] false 0 v ∧ ReachI es [] true 0 v
def spStrong : Spec AF where
  γ := Int × List Edge
  δ := Bool
  args := fun g => [layS g.1 g.2]
  own := fun _ => []
  pre := fun g => GoodL g.2
  nnew := 0
  res := fun _ c => vB c
  own' := fun _ _ => []
  post := fun g c => (c = true ↔ StrongL g.1 g.2)
theorem m_strong : Meets Try.prog regF 48 spStrong := by
  refine meets Try.func48 29 noWr rfl (by kernel_rfl) (by kernel_rfl) ?_
  rintro ⟨(n : Int), (es : List Edge)⟩ (hg : GoodL es)
  have fin : ∀ {c : Bool}, (c = true ↔ StrongL n es) → spStrong.post (n, es) c := fun h => h
  conv => whnf
  repeat' (first | (refine tell (fun htest => ?_) (fun htest => ?_) <;> (try dsimp only at htest) <;> first | (exfalso; omega) | (exact absurd rfl htest) | (exact absurd (by decide) htest) | (conv => whnf)) | (refine allG rfl ?_; conv => whnf) | (refine And.intro (by first | omega | assumption | kernel_rfl | exact And.intro rfl rfl | ((try dsimp only [inR, idx, lowOf]); first | omega | (with_reducible decide) | (simp; omega) | fail) | fail) ?_; conv => whnf) | fail)
  refine ⟨_, m_right, (n, es), [], false, ?_⟩
  conv => whnf
  refine And.intro (vc0 hg (by (repeat' (first | exact trivial | exact rfl | refine And.intro ?_ ?_ | (refine congrArg vI ?_; first | omega | (dsimp only; omega) | fail) | (refine congrArg some ?_) | omega | exact Nat.le_refl _ | exact congrArg (SV.lst _) (List.take_of_length_le (Nat.le_refl _)).symm))) (by repeat' (first | exact trivial | exact rfl | refine And.intro ?_ ?_ | (refine congrArg vI ?_; first | omega | (dsimp only; omega) | fail) | (refine congrArg some ?_) | omega | exact Nat.le_refl _ | exact congrArg (SV.lst _) (List.take_of_length_le (Nat.le_refl _)).symm)) trivial trivial) ?_
  refine And.intro (right_ex n es) ?_
  intro (c : Bool) (hc : c = true ↔ RightL n es)
  cases c
  · have hns : ¬ StrongL n es := fun h => by have := hc.2 h.1; cases this
    conv => whnf
    repeat' (first | (refine tell (fun htest => ?_) (fun htest => ?_) <;> (try dsimp only at htest) <;> first | (exfalso; omega) | (exact absurd rfl htest) | (exact absurd (by decide) htest) | (conv => whnf)) | (refine allG rfl ?_; conv => whnf) | (refine And.intro (by first | omega | assumption | kernel_rfl | exact And.intro rfl rfl | ((try dsimp only [inR, idx, lowOf]); first | omega | (with_reducible decide) | (simp; omega) | fail) | fail) ?_; conv => whnf) | fail)
    exact ⟨false, [], fin (by simp [hns]), rfl, trivial, trivial⟩
  have hr := hc.1 rfl
  have hn40 := hr.most
  have hn0 := hr.pos
  conv => whnf
  repeat' (first | (refine tell (fun htest => ?_) (fun htest => ?_) <;> (try dsimp only at htest) <;> first | (exfalso; omega) | (exact absurd rfl htest) | (exact absurd (by decide) htest) | (conv => whnf)) | (refine allG rfl ?_; conv => whnf) | (refine And.intro (by first | omega | assumption | kernel_rfl | exact And.intro rfl rfl | ((try dsimp only [inR, idx, lowOf]); first | omega | (with_reducible decide) | (simp; omega) | fail) | fail) ?_; conv => whnf) | fail)
  refine ⟨_, m_reached, ((n, es), [], 0, false), [], false, ?_⟩
  conv => whnf
  refine And.intro (vc0 ⟨hr, Int.le_refl 0, hr.pos, Nat.zero_le _⟩ (by (repeat' (first | exact trivial | exact rfl | refine And.intro ?_ ?_ | (refine congrArg vI ?_; first | omega | (dsimp only; omega) | fail) | (refine congrArg some ?_) | omega | exact Nat.le_refl _ | exact congrArg (SV.lst _) (List.take_of_length_le (Nat.le_refl _)).symm))) (by repeat' (first | exact trivial | exact rfl | refine And.intro ?_ ?_ | (refine congrArg vI ?_; first | omega | (dsimp only; omega) | fail) | (refine congrArg some ?_) | omega | exact Nat.le_refl _ | exact congrArg (SV.lst _) (List.take_of_length_le (Nat.le_refl _)).symm)) trivial trivial) ?_
  refine And.intro (reached_ex es [] false 0 n hr (Int.le_refl 0) hr.pos) ?_
  rintro (d : List Bool) ⟨(hd : d.length = 40), (hd2 : ∀ v : Nat, d[v]? = some true ↔ ReachI es [] false 0 v)⟩
  conv => whnf
  repeat' (first | (refine tell (fun htest => ?_) (fun htest => ?_) <;> (try dsimp only at htest) <;> first | (exfalso; omega) | (exact absurd rfl htest) | (exact absurd (by decide) htest) | (conv => whnf)) | (refine allG rfl ?_; conv => whnf) | (refine And.intro (by first | omega | assumption | kernel_rfl | exact And.intro rfl rfl | ((try dsimp only [inR, idx, lowOf]); first | omega | (with_reducible decide) | (simp; omega) | fail) | fail) ?_; conv => whnf) | fail)
  refine ⟨_, m_reached, ((n, es), [], 0, true), [], false, ?_⟩
  conv => whnf
  refine And.intro (vc0 ⟨hr, Int.le_refl 0, hr.pos, Nat.zero_le _⟩ (by (repeat' (first | exact trivial | exact rfl | refine And.intro ?_ ?_ | (refine congrArg vI ?_; first | omega | (dsimp only; omega) | fail) | (refine congrArg some ?_) | omega | exact Nat.le_refl _ | exact congrArg (SV.lst _) (List.take_of_length_le (Nat.le_refl _)).symm))) (by repeat' (first | exact trivial | exact rfl | refine And.intro ?_ ?_ | (refine congrArg vI ?_; first | omega | (dsimp only; omega) | fail) | (refine congrArg some ?_) | omega | exact Nat.le_refl _ | exact congrArg (SV.lst _) (List.take_of_length_le (Nat.le_refl _)).symm)) trivial trivial) ?_
  refine And.intro (reached_ex es [] true 0 n hr (Int.le_refl 0) hr.pos) ?_
  rintro (e : List Bool) ⟨(he : e.length = 40), (he2 : ∀ v : Nat, e[v]? = some true ↔ ReachI es [] true 0 v)⟩
  conv => whnf
  refine And.intro ⟨rfl, hd, rfl⟩ ?_
  conv => whnf
  refine And.intro ⟨rfl, he, rfl⟩ ?_
  conv => whnf
  repeat' (first | (refine tell (fun htest => ?_) (fun htest => ?_) <;> (try dsimp only at htest) <;> first | (exfalso; omega) | (exact absurd rfl htest) | (exact absurd (by decide) htest) | (conv => whnf)) | (refine allG rfl ?_; conv => whnf) | (refine And.intro (by first | omega | assumption | kernel_rfl | exact And.intro rfl rfl | ((try dsimp only [inR, idx, lowOf]); first | omega | (with_reducible decide) | (simp; omega) | fail) | fail) ?_; conv => whnf) | fail)
  refine ⟨Nat, fun i => ⟨[(3, .ptr 1003 0 40 0), (4, .ptr 1004 0 40 0), (14, vI n), (15, vI i)], [(1003, .arr 4 d), (1004, .arr 4 e)]⟩, fun i => (i : Int) ≤ n ∧ ∀ v : Nat, v < i → ReachI es [] false 0 v ∧ ReachI es [] true 0 v, fun i => n.toNat - i, fun _ _ => rfl, ⟨0, [], ⟨(by show ((0 : Nat) : Int) ≤ n; omega), fun v h => absurd h (Nat.not_lt_zero v)⟩, ?_⟩, ?_⟩
  · refine ⟨rfl, ?_, ?_, rfl⟩
    all_goals (repeat' (first | exact trivial | exact rfl | refine And.intro ?_ ?_ | (refine congrArg vI ?_; first | omega | (dsimp only; omega) | fail) | (refine congrArg some ?_) | omega | exact Nat.le_refl _ | exact congrArg (SV.lst _) (List.take_of_length_le (Nat.le_refl _)).symm))
  rintro (i : Nat) ⟨(hi : (i : Int) ≤ n), (hs : ∀ v : Nat, v < i → ReachI es [] false 0 v ∧ ReachI es [] true 0 v)⟩
  by_cases hlt : (i : Int) < n
  · obtain ⟨b, hb⟩ : ∃ b, d[i]? = some b := ⟨_, List.getElem?_eq_getElem (by omega)⟩
    obtain ⟨c, hc2⟩ : ∃ c, e[i]? = some c := ⟨_, List.getElem?_eq_getElem (by omega)⟩
    cases b
    · have hns : ¬ StrongL n es := fun h => by have := (hd2 i).2 (h.2 i hlt).1; rw [hb] at this; cases this
      conv => whnf
      repeat' (first | (refine tell (fun htest => ?_) (fun htest => ?_) <;> (try dsimp only at htest) <;> first | (exfalso; omega) | (exact absurd rfl htest) | (exact absurd (by decide) htest) | (conv => whnf)) | (refine allG (x := false) (by first | exact hb | simpa [List.getElem?_append_right, lowOf] using hb | fail) ?_; conv => whnf) | (refine allLst (x := false) (by first | omega | assumption | fail) (by first | exact hb | simpa using hb | fail) ?_; conv => whnf) | (refine allG rfl ?_; conv => whnf) | (refine And.intro (by first | omega | assumption | kernel_rfl | exact And.intro rfl rfl | ((try dsimp only [inR, idx, lowOf]); first | omega | (with_reducible decide) | (simp; omega) | fail) | fail) ?_; conv => whnf) | fail)
      exact ⟨false, [], fin (by simp [hns]), rfl, trivial, trivial⟩
    cases c
    · have hns : ¬ StrongL n es := fun h => by have := (he2 i).2 (h.2 i hlt).2; rw [hc2] at this; cases this
      conv => whnf
      repeat' (first | (refine tell (fun htest => ?_) (fun htest => ?_) <;> (try dsimp only at htest) <;> first | (exfalso; omega) | (exact absurd rfl htest) | (exact absurd (by decide) htest) | (conv => whnf)) | (refine allG (x := true) (by first | exact hb | simpa [List.getElem?_append_right, lowOf] using hb | fail) ?_; conv => whnf) | (refine allLst (x := true) (by first | omega | assumption | fail) (by first | exact hb | simpa using hb | fail) ?_; conv => whnf) | (refine allG (x := false) (by first | exact hc2 | simpa [List.getElem?_append_right, lowOf] using hc2 | fail) ?_; conv => whnf) | (refine allLst (x := false) (by first | omega | assumption | fail) (by first | exact hc2 | simpa using hc2 | fail) ?_; conv => whnf) | (refine allG rfl ?_; conv => whnf) | (refine And.intro (by first | omega | assumption | kernel_rfl | exact And.intro rfl rfl | ((try dsimp only [inR, idx, lowOf]); first | omega | (with_reducible decide) | (simp; omega) | fail) | fail) ?_; conv => whnf) | fail)
      exact ⟨false, [], fin (by simp [hns]), rfl, trivial, trivial⟩
    · have hs' : ∀ v : Nat, v < i + 1 → ReachI es [] false 0 v ∧ ReachI es [] true 0 v := fun v hv => by
        by_cases h : v = i
        · subst h; exact ⟨(hd2 v).1 hb, (he2 v).1 hc2⟩
        · exact hs v (by omega)
      conv => whnf
      repeat' (first | (refine tell (fun htest => ?_) (fun htest => ?_) <;> (try dsimp only at htest) <;> first | (exfalso; omega) | (exact absurd rfl htest) | (exact absurd (by decide) htest) | (conv => whnf)) | (refine allG (x := true) (by first | exact hb | simpa [List.getElem?_append_right, lowOf] using hb | fail) ?_; conv => whnf) | (refine allLst (x := true) (by first | omega | assumption | fail) (by first | exact hb | simpa using hb | fail) ?_; conv => whnf) | (refine allG (x := true) (by first | exact hc2 | simpa [List.getElem?_append_right, lowOf] using hc2 | fail) ?_; conv => whnf) | (refine allLst (x := true) (by first | omega | assumption | fail) (by first | exact hc2 | simpa using hc2 | fail) ?_; conv => whnf) | (refine allG rfl ?_; conv => whnf) | (refine And.intro (by first | omega | assumption | kernel_rfl | exact And.intro rfl rfl | ((try dsimp only [inR, idx, lowOf]); first | omega | (with_reducible decide) | (simp; omega) | fail) | fail) ?_; conv => whnf) | fail)
      refine ⟨i + 1, [], ⟨(by show ((i + 1 : Nat) : Int) ≤ n; omega), hs'⟩, ?_, rfl, ?_, ?_, rfl⟩
      · dsimp only; first | omega | (simp; done) | (simp; omega)
      all_goals (repeat' (first | exact trivial | exact rfl | refine And.intro ?_ ?_ | (refine congrArg vI ?_; first | omega | (dsimp only; omega) | fail) | (refine congrArg some ?_) | omega | exact Nat.le_refl _ | exact congrArg (SV.lst _) (List.take_of_length_le (Nat.le_refl _)).symm))
  · have hst : StrongL n es := ⟨hr, fun v hv => hs v (by omega)⟩
    conv => whnf
    repeat' (first | (refine tell (fun htest => ?_) (fun htest => ?_) <;> (try dsimp only at htest) <;> first | (exfalso; omega) | (exact absurd rfl htest) | (exact absurd (by decide) htest) | (conv => whnf)) | (refine allG rfl ?_; conv => whnf) | (refine And.intro (by first | omega | assumption | kernel_rfl | exact And.intro rfl rfl | ((try dsimp only [inR, idx, lowOf]); first | omega | (with_reducible decide) | (simp; omega) | fail) | fail) ?_; conv => whnf) | fail)
    exact ⟨true, [], fin (by simp [hst]), rfl, trivial, trivial⟩
end Go.Sx


/-
  Layer 11, part K: Out and Reach again, where the layout may be: the answer is the caller's own.
-/
namespace Go.Sx
open Go Go.Proofs Go.Proofs.Ytmogappoadglgaa
def spOut2 : Spec AF where
  γ := Int × List Edge × Int
  δ := Unit
  args := fun g => [layS g.1 g.2.1, vI g.2.2]
  own := fun _ => []
  pre := fun g => GoodL g.2.1 ∧ RightL g.1 g.2.1
  nnew := 1
  res := fun g _ => .sl 0 1 0 (outL g.2.1 g.2.2 0).length
  own' := fun g _ => [some (.arr 3 (outL g.2.1 g.2.2 0))]
  post := fun _ _ => True
theorem m_out2 : Meets Try.prog regF 42 spOut2 := by
  refine meets Try.func42 27 noWr rfl (by kernel_rfl) (by kernel_rfl) ?_
  rintro ⟨(n : Int), (es : List Edge), (k : Int)⟩ ⟨(hg : GoodL es), (hR : RightL n es)⟩
  conv => whnf
  repeat' (first | (refine tell (fun htest => ?_) (fun htest => ?_) <;> (try dsimp only at htest) <;> first | (exfalso; omega) | (exact absurd rfl htest) | (exact absurd (by decide) htest) | (conv => whnf)) | (refine allG rfl ?_; conv => whnf) | (refine And.intro (by first | omega | assumption | kernel_rfl | exact And.intro rfl rfl | ((try dsimp only [inR, idx, lowOf]); first | omega | (with_reducible decide) | (simp; omega) | fail) | fail) ?_; conv => whnf) | fail)
  refine ⟨_, m_right, (n, es), [], false, ?_⟩
  conv => whnf
  refine And.intro (vc0 hg (by (repeat' (first | exact trivial | exact rfl | refine And.intro ?_ ?_ | (refine congrArg vI ?_; first | omega | (dsimp only; omega) | fail) | (refine congrArg some ?_) | omega | exact Nat.le_refl _ | exact congrArg (SV.lst _) (List.take_of_length_le (Nat.le_refl _)).symm))) (by repeat' (first | exact trivial | exact rfl | refine And.intro ?_ ?_ | (refine congrArg vI ?_; first | omega | (dsimp only; omega) | fail) | (refine congrArg some ?_) | omega | exact Nat.le_refl _ | exact congrArg (SV.lst _) (List.take_of_length_le (Nat.le_refl _)).symm)) trivial trivial) ?_
  refine And.intro (right_ex n es) ?_
  intro (c : Bool) (hc : c = true ↔ RightL n es)
  cases c
  · have := hc.2 hR; cases this
  have hr := hc.1 rfl
  have hl := hr.len
  conv => whnf
  repeat' (first | (refine tell (fun htest => ?_) (fun htest => ?_) <;> (try dsimp only at htest) <;> first | (exfalso; omega) | (exact absurd rfl htest) | (exact absurd (by decide) htest) | (conv => whnf)) | (refine allG rfl ?_; conv => whnf) | (refine And.intro (by first | omega | assumption | kernel_rfl | exact And.intro rfl rfl | ((try dsimp only [inR, idx, lowOf]); first | omega | (with_reducible decide) | (simp; omega) | fail) | fail) ?_; conv => whnf) | fail)
  refine ⟨Nat, fun i => ⟨[(1, vI k), (2, .ptr 1002 0 2 0), (4, .sl 3000 1 0 (outL (es.take i) k 0).length), (11, .lst 54 es), (12, vI es.length), (13, vI i)], [(1002, layC n es), (3000, .arr 3 (outL (es.take i) k 0))]⟩, fun i => i ≤ es.length, fun i => es.length - i, fun _ _ => rfl, ⟨0, [], Nat.zero_le _, ?_⟩, ?_⟩
  · refine ⟨rfl, ?_, ?_, rfl⟩
    all_goals (repeat' (first | exact trivial | exact rfl | refine And.intro ?_ ?_ | (refine congrArg vI ?_; first | omega | (dsimp only; omega) | fail) | (refine congrArg some ?_) | omega | exact Nat.le_refl _ | exact congrArg (SV.lst _) (List.take_of_length_le (Nat.le_refl _)).symm))
  rintro (i : Nat) (hi : i ≤ es.length)
  have hol := outL_len k (es.take i) 0
  rw [List.length_take] at hol
  by_cases hlt : i < es.length
  · obtain ⟨e, he⟩ : ∃ e, es[i]? = some e := ⟨_, List.getElem?_eq_getElem hlt⟩
    have htk := outL_snoc k e (es.take i) 0
    rw [← take_snocI he, List.length_take, Nat.min_eq_left hi, Nat.zero_add] at htk
    by_cases hek : e.1 = k
    · rw [if_pos hek] at htk
      conv => whnf
      repeat' (first | (refine tell (fun htest => ?_) (fun htest => ?_) <;> (try dsimp only at htest) <;> first | (exfalso; omega) | (exact absurd rfl htest) | (exact absurd (by decide) htest) | (conv => whnf)) | (refine allG (x := e) (by first | exact he | simpa [List.getElem?_append_right, lowOf] using he | fail) ?_; conv => whnf) | (refine allLst (x := e) (by first | omega | assumption | fail) (by first | exact he | simpa using he | fail) ?_; conv => whnf) | (refine allG rfl ?_; conv => whnf) | (refine And.intro (by first | omega | assumption | kernel_rfl | exact And.intro rfl rfl | ((try dsimp only [inR, idx, lowOf]); first | omega | (with_reducible decide) | (simp; omega) | fail) | fail) ?_; conv => whnf) | fail)
      refine ⟨i + 1, [(3000, 1025)], hlt, ?_, rfl, ?_, ?_, rfl⟩
      · dsimp only; first | omega | (simp; done) | (simp; omega)
      all_goals (repeat' (first | exact trivial | exact rfl | refine And.intro ?_ ?_ | (refine congrArg vI ?_; first | omega | (dsimp only; omega) | fail) | (refine congrArg some ?_) | omega | exact Nat.le_refl _ | exact congrArg (SV.lst _) (List.take_of_length_le (Nat.le_refl _)).symm))
      · exact congrArg (SV.sl (A := AF) 1025 1 0) (show (outL (es.take i) k 0).length + 1 = (outL (es.take (i + 1)) k 0).length by rw [htk]; simp)
      · exact congrArg (Ct.arr (A := AF) 3) (show ((outL (es.take i) k 0).drop 0).take (outL (es.take i) k 0).length ++ [(i : Int)] = outL (es.take (i + 1)) k 0 by rw [htk]; simp)
    · rw [if_neg hek, List.append_nil] at htk
      conv => whnf
      repeat' (first | (refine tell (fun htest => ?_) (fun htest => ?_) <;> (try dsimp only at htest) <;> first | (exfalso; omega) | (exact absurd rfl htest) | (exact absurd (by decide) htest) | (conv => whnf)) | (refine allG (x := e) (by first | exact he | simpa [List.getElem?_append_right, lowOf] using he | fail) ?_; conv => whnf) | (refine allLst (x := e) (by first | omega | assumption | fail) (by first | exact he | simpa using he | fail) ?_; conv => whnf) | (refine allG rfl ?_; conv => whnf) | (refine And.intro (by first | omega | assumption | kernel_rfl | exact And.intro rfl rfl | ((try dsimp only [inR, idx, lowOf]); first | omega | (with_reducible decide) | (simp; omega) | fail) | fail) ?_; conv => whnf) | fail)
      refine ⟨i + 1, [], hlt, ?_, rfl, ?_, ?_, rfl⟩
      · dsimp only; first | omega | (simp; done) | (simp; omega)
      all_goals (repeat' (first | exact trivial | exact rfl | refine And.intro ?_ ?_ | (refine congrArg vI ?_; first | omega | (dsimp only; omega) | fail) | (refine congrArg some ?_) | omega | exact Nat.le_refl _ | exact congrArg (SV.lst _) (List.take_of_length_le (Nat.le_refl _)).symm))
      · exact congrArg (SV.sl (A := AF) 3000 1 0) (congrArg List.length htk.symm)
      · exact congrArg (Ct.arr (A := AF) 3) htk.symm
  · have hi : i = es.length := by omega
    subst hi
    rw [List.take_of_length_le (Nat.le_refl _)] at hol
    conv => whnf
    repeat' (first | (refine tell (fun htest => ?_) (fun htest => ?_) <;> (try dsimp only at htest) <;> first | (exfalso; omega) | (exact absurd rfl htest) | (exact absurd (by decide) htest) | (conv => whnf)) | (refine allG rfl ?_; conv => whnf) | (refine And.intro (by first | omega | assumption | kernel_rfl | exact And.intro rfl rfl | ((try dsimp only [inR, idx, lowOf]); first | omega | (with_reducible decide) | (simp; omega) | fail) | fail) ?_; conv => whnf) | fail)
    refine ⟨(), [3000], trivial, ?_, ⟨?_, trivial⟩, trivial⟩
    · exact (show SV.sl (A := AF) 3000 1 0 (outL (es.take es.length) k 0).length = SV.sl 3000 1 0 (outL es k 0).length by rw [List.take_of_length_le (Nat.le_refl _)])
    · exact congrArg (Ct.arr (A := AF) 3) (show outL (es.take es.length) k 0 = outL es k 0 by rw [List.take_of_length_le (Nat.le_refl _)])
noncomputable def spReach2 : Spec AF where
  γ := (Int × List Edge) × List Int × Int
  δ := Unit
  args := fun g => [layS g.1.1 g.1.2, .lst 3 g.2.1, vI g.2.2]
  own := fun _ => []
  pre := fun g => GoodL g.1.2 ∧ g.2.1.length ≤ 9223372036854775807 ∧ RightL g.1.1 g.1.2 ∧ 0 ≤ g.2.2 ∧ g.2.2 < g.1.1
  nnew := 1
  res := fun g _ => .sl 0 1 0 (reachN g.1.2 g.2.1 g.2.2 40).length
  own' := fun g _ => [some (.arr 3 (reachN g.1.2 g.2.1 g.2.2 40))]
  post := fun _ _ => True
theorem m_reach2 : Meets Try.prog regF 44 spReach2 := by
  refine meets Try.func44 36 noWr rfl (by kernel_rfl) (by kernel_rfl) ?_
  rintro ⟨⟨(n : Int), (es : List Edge)⟩, (bl : List Int), (s : Int)⟩ ⟨(hg : GoodL es), (hbl : bl.length ≤ 9223372036854775807), (hok : RightL n es ∧ 0 ≤ s ∧ s < n)⟩
  conv => whnf
  repeat' (first | (refine tell (fun htest => ?_) (fun htest => ?_) <;> (try dsimp only at htest) <;> first | (exfalso; omega) | (exact absurd rfl htest) | (exact absurd (by decide) htest) | (conv => whnf)) | (refine allG rfl ?_; conv => whnf) | (refine And.intro (by first | omega | assumption | kernel_rfl | exact And.intro rfl rfl | ((try dsimp only [inR, idx, lowOf]); first | omega | (with_reducible decide) | (simp; omega) | fail) | fail) ?_; conv => whnf) | fail)
  refine ⟨_, m_right, (n, es), [], false, ?_⟩
  conv => whnf
  refine And.intro (vc0 hg (by (repeat' (first | exact trivial | exact rfl | refine And.intro ?_ ?_ | (refine congrArg vI ?_; first | omega | (dsimp only; omega) | fail) | (refine congrArg some ?_) | omega | exact Nat.le_refl _ | exact congrArg (SV.lst _) (List.take_of_length_le (Nat.le_refl _)).symm))) (by repeat' (first | exact trivial | exact rfl | refine And.intro ?_ ?_ | (refine congrArg vI ?_; first | omega | (dsimp only; omega) | fail) | (refine congrArg some ?_) | omega | exact Nat.le_refl _ | exact congrArg (SV.lst _) (List.take_of_length_le (Nat.le_refl _)).symm)) trivial trivial) ?_
  refine And.intro (right_ex n es) ?_
  intro (c : Bool) (hc : c = true ↔ RightL n es)
  obtain ⟨hr, h0, hsn⟩ := hok
  cases c
  · have := hc.2 hr; cases this
  conv => whnf
  repeat' (first | (refine tell (fun htest => ?_) (fun htest => ?_) <;> (try dsimp only at htest) <;> first | (exfalso; omega) | (exact absurd rfl htest) | (exact absurd (by decide) htest) | (conv => whnf)) | (refine allG rfl ?_; conv => whnf) | (refine And.intro (by first | omega | assumption | kernel_rfl | exact And.intro rfl rfl | ((try dsimp only [inR, idx, lowOf]); first | omega | (with_reducible decide) | (simp; omega) | fail) | fail) ?_; conv => whnf) | fail)
  refine ⟨_, m_reached, ((n, es), bl, s, false), [], false, ?_⟩
  conv => whnf
  refine And.intro (vc0 ⟨hr, h0, hsn, hbl⟩ (by (repeat' (first | exact trivial | exact rfl | refine And.intro ?_ ?_ | (refine congrArg vI ?_; first | omega | (dsimp only; omega) | fail) | (refine congrArg some ?_) | omega | exact Nat.le_refl _ | exact congrArg (SV.lst _) (List.take_of_length_le (Nat.le_refl _)).symm))) (by repeat' (first | exact trivial | exact rfl | refine And.intro ?_ ?_ | (refine congrArg vI ?_; first | omega | (dsimp only; omega) | fail) | (refine congrArg some ?_) | omega | exact Nat.le_refl _ | exact congrArg (SV.lst _) (List.take_of_length_le (Nat.le_refl _)).symm)) trivial trivial) ?_
  refine And.intro (reached_ex es bl false s n hr h0 hsn) ?_
  rintro (d : List Bool) ⟨(hd : d.length = 40), (hd2 : ∀ v : Nat, d[v]? = some true ↔ ReachI es bl false s v)⟩
  conv => whnf
  repeat' (first | (refine tell (fun htest => ?_) (fun htest => ?_) <;> (try dsimp only at htest) <;> first | (exfalso; omega) | (exact absurd rfl htest) | (exact absurd (by decide) htest) | (conv => whnf)) | (refine allG rfl ?_; conv => whnf) | (refine And.intro (by first | omega | assumption | kernel_rfl | exact And.intro rfl rfl | ((try dsimp only [inR, idx, lowOf]); first | omega | (with_reducible decide) | (simp; omega) | fail) | fail) ?_; conv => whnf) | fail)
  refine ⟨Nat, fun i => ⟨[(6, .sl 3000 1 0 (reachN es bl s i).length), (25, .aggl 4 d), (26, vI i)], [(3000, .arr 3 (reachN es bl s i))]⟩, fun i => i ≤ 40, fun i => 40 - i, fun _ _ => rfl, ⟨0, [], Nat.zero_le _, ?_⟩, ?_⟩
  · refine ⟨rfl, ?_, ?_, rfl⟩
    all_goals (repeat' (first | exact trivial | exact rfl | refine And.intro ?_ ?_ | (refine congrArg vI ?_; first | omega | (dsimp only; omega) | fail) | (refine congrArg some ?_) | omega | exact Nat.le_refl _ | exact congrArg (SV.lst _) (List.take_of_length_le (Nat.le_refl _)).symm))
  rintro (i : Nat) (hi : i ≤ 40)
  have hln := reachN_len es bl s i
  have hsu := reachN_succ es bl s i
  by_cases hlt : i < 40
  · obtain ⟨b, hb⟩ : ∃ b, d[i]? = some b := ⟨_, List.getElem?_eq_getElem (by omega)⟩
    have hbb : b = inB es bl false s i := by
      cases b
      · cases e : inB es bl false s i with
        | false => rfl
        | true => have := (hd2 i).2 (inB_iff.1 e); rw [hb] at this; cases this
      · exact (inB_iff.2 ((hd2 i).1 hb)).symm
    cases b
    · rw [← hbb, if_neg (by simp), List.append_nil] at hsu
      conv => whnf
      repeat' (first | (refine tell (fun htest => ?_) (fun htest => ?_) <;> (try dsimp only at htest) <;> first | (exfalso; omega) | (exact absurd rfl htest) | (exact absurd (by decide) htest) | (conv => whnf)) | (refine allG (x := false) (by first | exact hb | simpa [List.getElem?_append_right, lowOf] using hb | fail) ?_; conv => whnf) | (refine allLst (x := false) (by first | omega | assumption | fail) (by first | exact hb | simpa using hb | fail) ?_; conv => whnf) | (refine allG rfl ?_; conv => whnf) | (refine And.intro (by first | omega | assumption | kernel_rfl | exact And.intro rfl rfl | ((try dsimp only [inR, idx, lowOf]); first | omega | (with_reducible decide) | (simp; omega) | fail) | fail) ?_; conv => whnf) | fail)
      refine ⟨i + 1, [], hlt, ?_, rfl, ?_, ?_, rfl⟩
      · dsimp only; first | omega | (simp; done) | (simp; omega)
      all_goals (repeat' (first | exact trivial | exact rfl | refine And.intro ?_ ?_ | (refine congrArg vI ?_; first | omega | (dsimp only; omega) | fail) | (refine congrArg some ?_) | omega | exact Nat.le_refl _ | exact congrArg (SV.lst _) (List.take_of_length_le (Nat.le_refl _)).symm))
      · exact congrArg (SV.sl (A := AF) 3000 1 0) (congrArg List.length hsu.symm)
      · exact congrArg (Ct.arr (A := AF) 3) hsu.symm
    · rw [← hbb, if_pos rfl] at hsu
      conv => whnf
      repeat' (first | (refine tell (fun htest => ?_) (fun htest => ?_) <;> (try dsimp only at htest) <;> first | (exfalso; omega) | (exact absurd rfl htest) | (exact absurd (by decide) htest) | (conv => whnf)) | (refine allG (x := true) (by first | exact hb | simpa [List.getElem?_append_right, lowOf] using hb | fail) ?_; conv => whnf) | (refine allLst (x := true) (by first | omega | assumption | fail) (by first | exact hb | simpa using hb | fail) ?_; conv => whnf) | (refine allG rfl ?_; conv => whnf) | (refine And.intro (by first | omega | assumption | kernel_rfl | exact And.intro rfl rfl | ((try dsimp only [inR, idx, lowOf]); first | omega | (with_reducible decide) | (simp; omega) | fail) | fail) ?_; conv => whnf) | fail)
      refine ⟨i + 1, [(3000, 1034)], hlt, ?_, rfl, ?_, ?_, rfl⟩
      · dsimp only; first | omega | (simp; done) | (simp; omega)
      all_goals (repeat' (first | exact trivial | exact rfl | refine And.intro ?_ ?_ | (refine congrArg vI ?_; first | omega | (dsimp only; omega) | fail) | (refine congrArg some ?_) | omega | exact Nat.le_refl _ | exact congrArg (SV.lst _) (List.take_of_length_le (Nat.le_refl _)).symm))
      · exact congrArg (SV.sl (A := AF) 1034 1 0) (show (reachN es bl s i).length + 1 = (reachN es bl s (i + 1)).length by rw [hsu]; simp)
      · exact congrArg (Ct.arr (A := AF) 3) (show ((reachN es bl s i).drop 0).take (reachN es bl s i).length ++ [(i : Int)] = reachN es bl s (i + 1) by rw [hsu]; simp)
  · have hi : i = 40 := by omega
    subst hi
    conv => whnf
    repeat' (first | (refine tell (fun htest => ?_) (fun htest => ?_) <;> (try dsimp only at htest) <;> first | (exfalso; omega) | (exact absurd rfl htest) | (exact absurd (by decide) htest) | (conv => whnf)) | (refine allG rfl ?_; conv => whnf) | (refine And.intro (by first | omega | assumption | kernel_rfl | exact And.intro rfl rfl | ((try dsimp only [inR, idx, lowOf]); first | omega | (with_reducible decide) | (simp; omega) | fail) | fail) ?_; conv => whnf) | fail)
    exact ⟨(), [3000], trivial, rfl, ⟨rfl, trivial⟩, trivial⟩
end Go.Sx


/-
  Layer 11, part L: awake.
-/
namespace Go.Sx
open Go Go.Proofs Go.Proofs.Ytmogappoadglgaa
def E3 : List Edge := [(0, 1, 1), (1, 2, 1), (2, 0, 1)]
def spAwakeL : Spec AF where
  γ := Unit
  δ := Unit
  args := fun _ => []
  own := fun _ => []
  pre := fun _ => True
  nnew := 0
  res := fun _ _ => vB true
  own' := fun _ _ => []
  post := fun _ _ => True
theorem e3Good : GoodL E3 := ⟨by decide, by simp [E3, InI]⟩
theorem e3Right : RightL 3 E3 := ⟨by decide, by decide, by decide, by simp [E3, EdgeOk], by decide⟩
theorem e3Strong : StrongL 3 E3 := ⟨e3Right, fun v hv => by
  have hf0 : ReachI E3 [] false 0 0 := .refl
  have hf1 : ReachI E3 [] false 0 1 := ReachI.step (e := (0, 1, 1)) hf0 (by simp [E3]) (by simp)
  have hf2 : ReachI E3 [] false 0 2 := ReachI.step (e := (1, 2, 1)) hf1 (by simp [E3]) (by simp)
  have hb0 : ReachI E3 [] true 0 0 := .refl
  have hb2 : ReachI E3 [] true 0 2 := ReachI.step (e := (2, 0, 1)) hb0 (by simp [E3]) (by simp)
  have hb1 : ReachI E3 [] true 0 1 := ReachI.step (e := (1, 2, 1)) hb2 (by simp [E3]) (by simp)
  rcases v with _ | _ | _ | v
  · exact ⟨hf0, hb0⟩
  · exact ⟨hf1, hb1⟩
  · exact ⟨hf2, hb2⟩
  · omega⟩
theorem e3R (v : Int) : ReachI E3 [2] false 0 v ↔ v = 0 ∨ v = 1 := by
  have hf0 : ReachI E3 [2] false 0 0 := .refl
  have hf1 : ReachI E3 [2] false 0 1 := ReachI.step (e := (0, 1, 1)) hf0 (by simp [E3]) (by simp [dstE])
  constructor
  · intro h
    cases h with
    | refl => exact .inl rfl
    | step h1 h2 h3 =>
      simp only [E3, List.mem_cons, List.not_mem_nil, or_false] at h2
      rcases h2 with rfl | rfl | rfl
      · exact .inr rfl
      · exact absurd (by simp [dstE]) h3
      · exact .inl rfl
  · rintro (rfl | rfl)
    · exact hf0
    · exact hf1
theorem e3Reach : reachN E3 [2] 0 40 = [0, 1] := by
  have h : inB E3 [2] false 0 = fun v : Nat => decide (v = 0 ∨ v = 1) := funext fun v => by
    rw [Bool.eq_iff_iff, inB_iff, e3R, decide_eq_true_iff]; omega
  unfold reachN
  rw [h]
  decide
theorem e3Out : outL E3 2 0 = [2] := by decide
theorem e3Bet : betF 3 E3 (1, 2) = (1, true) := by
  have h : idxF (1, 2) E3 0 = 1 := by decide
  unfold betF
  rw [h, if_pos ⟨e3Right, by decide⟩]
theorem m_awakeL : Meets Try.prog regF 36 spAwakeL := by
  refine meets Try.func36 40 noWr rfl (by kernel_rfl) (by kernel_rfl) ?_
  rintro ⟨⟩ ⟨⟩
  conv => whnf
  repeat' (first | (refine tell (fun htest => ?_) (fun htest => ?_) <;> (try dsimp only at htest) <;> first | (exfalso; omega) | (exact absurd rfl htest) | (exact absurd (by decide) htest) | (conv => whnf)) | (refine allG rfl ?_; conv => whnf) | (refine And.intro (by first | omega | assumption | kernel_rfl | exact And.intro rfl rfl | ((try dsimp only [inR, idx, lowOf]); first | omega | (with_reducible decide) | (simp; omega) | fail) | fail) ?_; conv => whnf) | fail)
  refine ⟨_, m_between, ((3, E3), 1, 2), [], true, ?_⟩
  conv => whnf
  refine And.intro (vc0 e3Good (by (repeat' (first | exact trivial | exact rfl | refine And.intro ?_ ?_ | (refine congrArg vI ?_; first | omega | (dsimp only; omega) | fail) | (refine congrArg some ?_) | omega | exact Nat.le_refl _ | exact congrArg (SV.lst _) (List.take_of_length_le (Nat.le_refl _)).symm))) (by repeat' (first | exact trivial | exact rfl | refine And.intro ?_ ?_ | (refine congrArg vI ?_; first | omega | (dsimp only; omega) | fail) | (refine congrArg some ?_) | omega | exact Nat.le_refl _ | exact congrArg (SV.lst _) (List.take_of_length_le (Nat.le_refl _)).symm)) trivial (.inr (fun _ => ⟨rfl, fun h ct he => by rcases h with _ | _ | h <;> first | (cases he; done) | (cases he; rfl)⟩))) ?_
  refine And.intro ⟨(), trivial⟩ (fun (_ : Unit) _ => ?_)
  conv => whnf
  rw (config := { transparency := .default }) [e3Bet]
  conv => whnf
  repeat' (first | (refine tell (fun htest => ?_) (fun htest => ?_) <;> (try dsimp only at htest) <;> first | (exfalso; omega) | (exact absurd rfl htest) | (exact absurd (by decide) htest) | (conv => whnf)) | (refine allG rfl ?_; conv => whnf) | (refine And.intro (by first | omega | assumption | kernel_rfl | exact And.intro rfl rfl | ((try dsimp only [inR, idx, lowOf]); first | omega | (with_reducible decide) | (simp; omega) | fail) | fail) ?_; conv => whnf) | fail)
  refine ⟨_, m_right, (3, E3), [], true, ?_⟩
  conv => whnf
  refine And.intro (vc0 e3Good (by (repeat' (first | exact trivial | exact rfl | refine And.intro ?_ ?_ | (refine congrArg vI ?_; first | omega | (dsimp only; omega) | fail) | (refine congrArg some ?_) | omega | exact Nat.le_refl _ | exact congrArg (SV.lst _) (List.take_of_length_le (Nat.le_refl _)).symm))) (by repeat' (first | exact trivial | exact rfl | refine And.intro ?_ ?_ | (refine congrArg vI ?_; first | omega | (dsimp only; omega) | fail) | (refine congrArg some ?_) | omega | exact Nat.le_refl _ | exact congrArg (SV.lst _) (List.take_of_length_le (Nat.le_refl _)).symm)) trivial (.inr (fun _ => ⟨rfl, fun h ct he => by rcases h with _ | _ | h <;> first | (cases he; done) | (cases he; rfl)⟩))) ?_
  refine And.intro (right_ex 3 E3) ?_
  intro (c : Bool) (hc : c = true ↔ RightL 3 E3)
  cases c
  · have := hc.2 e3Right; cases this
  conv => whnf
  repeat' (first | (refine tell (fun htest => ?_) (fun htest => ?_) <;> (try dsimp only at htest) <;> first | (exfalso; omega) | (exact absurd rfl htest) | (exact absurd (by decide) htest) | (conv => whnf)) | (refine allG rfl ?_; conv => whnf) | (refine And.intro (by first | omega | assumption | kernel_rfl | exact And.intro rfl rfl | ((try dsimp only [inR, idx, lowOf]); first | omega | (with_reducible decide) | (simp; omega) | fail) | fail) ?_; conv => whnf) | fail)
  refine ⟨_, m_strong, (3, E3), [], true, ?_⟩
  conv => whnf
  refine And.intro (vc0 e3Good (by (repeat' (first | exact trivial | exact rfl | refine And.intro ?_ ?_ | (refine congrArg vI ?_; first | omega | (dsimp only; omega) | fail) | (refine congrArg some ?_) | omega | exact Nat.le_refl _ | exact congrArg (SV.lst _) (List.take_of_length_le (Nat.le_refl _)).symm))) (by repeat' (first | exact trivial | exact rfl | refine And.intro ?_ ?_ | (refine congrArg vI ?_; first | omega | (dsimp only; omega) | fail) | (refine congrArg some ?_) | omega | exact Nat.le_refl _ | exact congrArg (SV.lst _) (List.take_of_length_le (Nat.le_refl _)).symm)) trivial (.inr (fun _ => ⟨rfl, fun h ct he => by rcases h with _ | _ | h <;> first | (cases he; done) | (cases he; rfl)⟩))) ?_
  refine And.intro ⟨true, ⟨fun _ => e3Strong, fun _ => rfl⟩⟩ ?_
  intro (c : Bool) (hc : c = true ↔ StrongL 3 E3)
  cases c
  · have := hc.2 e3Strong; cases this
  conv => whnf
  repeat' (first | (refine tell (fun htest => ?_) (fun htest => ?_) <;> (try dsimp only at htest) <;> first | (exfalso; omega) | (exact absurd rfl htest) | (exact absurd (by decide) htest) | (conv => whnf)) | (refine allG rfl ?_; conv => whnf) | (refine And.intro (by first | omega | assumption | kernel_rfl | exact And.intro rfl rfl | ((try dsimp only [inR, idx, lowOf]); first | omega | (with_reducible decide) | (simp; omega) | fail) | fail) ?_; conv => whnf) | fail)
  refine ⟨_, m_reach2, ((3, E3), [2], 0), [], true, ?_⟩
  conv => whnf
  refine And.intro (vc0 ⟨e3Good, by decide, e3Right, by decide, by decide⟩ (by (repeat' (first | exact trivial | exact rfl | refine And.intro ?_ ?_ | (refine congrArg vI ?_; first | omega | (dsimp only; omega) | fail) | (refine congrArg some ?_) | omega | exact Nat.le_refl _ | exact congrArg (SV.lst _) (List.take_of_length_le (Nat.le_refl _)).symm))) (by repeat' (first | exact trivial | exact rfl | refine And.intro ?_ ?_ | (refine congrArg vI ?_; first | omega | (dsimp only; omega) | fail) | (refine congrArg some ?_) | omega | exact Nat.le_refl _ | exact congrArg (SV.lst _) (List.take_of_length_le (Nat.le_refl _)).symm)) trivial (.inr (fun _ => ⟨rfl, fun h ct he => by rcases h with _ | _ | h <;> first | (cases he; done) | (cases he; rfl)⟩))) ?_
  refine And.intro ⟨(), trivial⟩ (fun (_ : Unit) _ => ?_)
  conv => whnf
  conv => whnf
  repeat' (first | (refine tell (fun htest => ?_) (fun htest => ?_) <;> (try dsimp only at htest) <;> first | (exfalso; omega) | (exact absurd rfl htest) | (exact absurd (by decide) htest) | (conv => whnf)) | (refine allG rfl ?_; conv => whnf) | (refine And.intro (by first | omega | assumption | kernel_rfl | exact And.intro rfl rfl | ((try dsimp only [inR, idx, lowOf]); first | omega | (with_reducible decide) | (simp; omega) | fail) | fail) ?_; conv => whnf) | fail)
  refine ⟨_, m_ints, (reachN E3 [2] 0 40, [0, 1]), [], true, ?_⟩
  conv => whnf
  refine And.intro (vc0 (Nat.le_trans (reachN_len _ _ _ _) (by decide)) (by (repeat' (first | exact trivial | exact rfl | refine And.intro ?_ ?_ | (refine congrArg vI ?_; first | omega | (dsimp only; omega) | fail) | (refine congrArg some ?_) | omega | exact Nat.le_refl _ | exact congrArg (SV.lst _) (List.take_of_length_le (Nat.le_refl _)).symm))) (by repeat' (first | exact trivial | exact rfl | refine And.intro ?_ ?_ | (refine congrArg vI ?_; first | omega | (dsimp only; omega) | fail) | (refine congrArg some ?_) | omega | exact Nat.le_refl _ | exact congrArg (SV.lst _) (List.take_of_length_le (Nat.le_refl _)).symm)) trivial (.inr (fun _ => ⟨rfl, fun h ct he => by rcases h with _ | _ | h <;> first | (cases he; done) | (cases he; rfl)⟩))) ?_
  refine And.intro ⟨true, ⟨fun _ => e3Reach, fun _ => rfl⟩⟩ ?_
  intro (c : Bool) (hc : c = true ↔ reachN E3 [2] 0 40 = [0, 1])
  cases c
  · have := hc.2 e3Reach; cases this
  conv => whnf
  repeat' (first | (refine tell (fun htest => ?_) (fun htest => ?_) <;> (try dsimp only at htest) <;> first | (exfalso; omega) | (exact absurd rfl htest) | (exact absurd (by decide) htest) | (conv => whnf)) | (refine allG rfl ?_; conv => whnf) | (refine And.intro (by first | omega | assumption | kernel_rfl | exact And.intro rfl rfl | ((try dsimp only [inR, idx, lowOf]); first | omega | (with_reducible decide) | (simp; omega) | fail) | fail) ?_; conv => whnf) | fail)
  refine ⟨_, m_out2, (3, E3, 2), [], true, ?_⟩
  conv => whnf
  refine And.intro (vc0 ⟨e3Good, e3Right⟩ (by (repeat' (first | exact trivial | exact rfl | refine And.intro ?_ ?_ | (refine congrArg vI ?_; first | omega | (dsimp only; omega) | fail) | (refine congrArg some ?_) | omega | exact Nat.le_refl _ | exact congrArg (SV.lst _) (List.take_of_length_le (Nat.le_refl _)).symm))) (by repeat' (first | exact trivial | exact rfl | refine And.intro ?_ ?_ | (refine congrArg vI ?_; first | omega | (dsimp only; omega) | fail) | (refine congrArg some ?_) | omega | exact Nat.le_refl _ | exact congrArg (SV.lst _) (List.take_of_length_le (Nat.le_refl _)).symm)) trivial (.inr (fun _ => ⟨rfl, fun h ct he => by rcases h with _ | _ | h <;> first | (cases he; done) | (cases he; rfl)⟩))) ?_
  refine And.intro ⟨(), trivial⟩ (fun (_ : Unit) _ => ?_)
  conv => whnf
  conv => whnf
  repeat' (first | (refine tell (fun htest => ?_) (fun htest => ?_) <;> (try dsimp only at htest) <;> first | (exfalso; omega) | (exact absurd rfl htest) | (exact absurd (by decide) htest) | (conv => whnf)) | (refine allG rfl ?_; conv => whnf) | (refine And.intro (by first | omega | assumption | kernel_rfl | exact And.intro rfl rfl | ((try dsimp only [inR, idx, lowOf]); first | omega | (with_reducible decide) | (simp; omega) | fail) | fail) ?_; conv => whnf) | fail)
  refine ⟨_, m_ints, (outL E3 2 0, [2]), [], true, ?_⟩
  conv => whnf
  refine And.intro (vc0 (Nat.le_trans (outL_len _ _ _) (by decide)) (by (repeat' (first | exact trivial | exact rfl | refine And.intro ?_ ?_ | (refine congrArg vI ?_; first | omega | (dsimp only; omega) | fail) | (refine congrArg some ?_) | omega | exact Nat.le_refl _ | exact congrArg (SV.lst _) (List.take_of_length_le (Nat.le_refl _)).symm))) (by repeat' (first | exact trivial | exact rfl | refine And.intro ?_ ?_ | (refine congrArg vI ?_; first | omega | (dsimp only; omega) | fail) | (refine congrArg some ?_) | omega | exact Nat.le_refl _ | exact congrArg (SV.lst _) (List.take_of_length_le (Nat.le_refl _)).symm)) trivial (.inr (fun _ => ⟨rfl, fun h ct he => by rcases h with _ | _ | h <;> first | (cases he; done) | (cases he; rfl)⟩))) ?_
  refine And.intro ⟨true, ⟨fun _ => e3Out, fun _ => rfl⟩⟩ ?_
  intro (c : Bool) (hc : c = true ↔ outL E3 2 0 = [2])
  cases c
  · have := hc.2 e3Out; cases this
  conv => whnf
  repeat' (first | (refine tell (fun htest => ?_) (fun htest => ?_) <;> (try dsimp only at htest) <;> first | (exfalso; omega) | (exact absurd rfl htest) | (exact absurd (by decide) htest) | (conv => whnf)) | (refine allG rfl ?_; conv => whnf) | (refine And.intro (by first | omega | assumption | kernel_rfl | exact And.intro rfl rfl | ((try dsimp only [inR, idx, lowOf]); first | omega | (with_reducible decide) | (simp; omega) | fail) | fail) ?_; conv => whnf) | fail)
  exact ⟨(), [], trivial, rfl, trivial, trivial⟩
end Go.Sx


/-
  Layer 11, part M: Fit.
-/
namespace Go.Sx
open Go Go.Proofs Go.Proofs.Ytmogappoadglgaa
def fitE (n : Int) (r : Int × Int × Int) : Edge := (pickF r.1 n, pickF r.2.1 n, 1 + pickF r.2.2 9)
def fitIn (es : List Edge) (e : Edge) : Bool := decide (e.1 ≠ e.2.1) && es.all fun x => decide (x.1 ≠ e.1) || decide (x.2.1 ≠ e.2.1)
def fitGo (n : Int) : List (Int × Int × Int) → List Edge → List Edge
  | [], es => es
  | r :: t, es => if es.length < 24 then fitGo n t (if fitIn es (fitE n r) then es ++ [fitE n r] else es) else es
def fitN (c : Int) : Int := 1 + pickF c 8
def fitL (c : Int) (l : List (Int × Int × Int)) : List Edge := fitGo (fitN c) l []
def spFit : Spec AF where
  γ := Int × List (Int × Int × Int)
  δ := Unit
  args := fun g => [vI g.1, .lst 66 g.2]
  own := fun _ => []
  pre := fun g => InI g.1 ∧ g.2.length ≤ 9223372036854775807 ∧ ∀ r ∈ g.2, InI r.1 ∧ InI r.2.1 ∧ InI r.2.2
  nnew := 0
  res := fun g _ => layS (fitN g.1) (fitL g.1 g.2)
  own' := fun _ _ => []
  post := fun _ _ => True
theorem fit_no {n : Int} {r : Int × Int × Int} {es : List Edge} (h : pickF r.1 n = pickF r.2.1 n) : fitIn es (fitE n r) = false := by
  unfold fitIn fitE; simp [h]
def fitA (es : List Edge) (e : Edge) : Bool := es.all fun x => decide (x.1 ≠ e.1) || decide (x.2.1 ≠ e.2.1)
theorem fit_yes {n : Int} {r : Int × Int × Int} {es : List Edge} (h : ¬ pickF r.1 n = pickF r.2.1 n) : fitIn es (fitE n r) = fitA es (fitE n r) := by
  unfold fitIn fitA
  rw [decide_eq_true (show (fitE n r).1 ≠ (fitE n r).2.1 from h), Bool.true_and]
theorem fitA_snoc {es : List Edge} {x e : Edge} : fitA (es ++ [x]) e = (fitA es e && (decide (x.1 ≠ e.1) || decide (x.2.1 ≠ e.2.1))) := by simp [fitA]
theorem fitGo_step {n : Int} {l : List (Int × Int × Int)} {i : Nat} {r : Int × Int × Int} {es : List Edge} (hx : l[i]? = some r) (h : es.length < 24) :
    fitGo n (l.drop i) es = fitGo n (l.drop (i + 1)) (if fitIn es (fitE n r) then es ++ [fitE n r] else es) := by
  obtain ⟨l1, rfl⟩ := List.getElem?_eq_some_iff.1 hx
  rw [List.drop_eq_getElem_cons l1, fitGo, if_pos h]
theorem fitGo_full {n : Int} {es : List Edge} (h : ¬ es.length < 24) : ∀ l, fitGo n l es = es
  | [] => rfl
  | _ :: _ => by rw [fitGo, if_neg h]
theorem fit_end {st : St AF} {n : Int} {es es' : List Edge} (h : es = es') (hh : st.h 3000 = some (.arr 54 es) := by rfl) : EntL regF st [vI n, .sl 3000 3 0 es.length] [vI n, .lst 54 es'] := by
  subst h
  refine ⟨rfl, ?_, trivial⟩
  show EntA0 regF st (.sl 3000 3 0 es.length) (.lst 54 es)
  unfold EntA0
  dsimp only
  rw [hh]
  exact ⟨by omega, rfl, congrArg (SV.lst 54) (by simp)⟩
theorem m_fit : Meets Try.prog regF 37 spFit := by
  refine meets Try.func37 93 noWr rfl (by kernel_rfl) (by kernel_rfl) ?_
  rintro ⟨(c : Int), (l : List (Int × Int × Int))⟩ ⟨(hc : InI c), (hl : l.length ≤ 9223372036854775807), (hr : ∀ r ∈ l, InI r.1 ∧ InI r.2.1 ∧ InI r.2.2)⟩
  have h8 := pickF_bd (c := c) (n := 8) (by omega)
  have hn0 : 0 < fitN c ∧ fitN c ≤ 8 := by unfold fitN; omega
  conv => whnf
  repeat' (first | (refine tell (fun htest => ?_) (fun htest => ?_) <;> (try dsimp only at htest) <;> first | (exfalso; omega) | (exact absurd rfl htest) | (exact absurd (by decide) htest) | (conv => whnf)) | (refine allG rfl ?_; conv => whnf) | (refine And.intro (by first | omega | assumption | kernel_rfl | exact And.intro rfl rfl | ((try dsimp only [inR, idx, lowOf]); first | omega | (with_reducible decide) | (simp; omega) | fail) | fail) ?_; conv => whnf) | fail)
  refine ⟨_, m_pick11, (c, 8), [], false, ?_⟩
  conv => whnf
  refine And.intro (vc0 ⟨hc, by show (0 : Int) < 8; decide⟩ (by (repeat' (first | exact trivial | exact rfl | refine And.intro ?_ ?_ | (refine congrArg vI ?_; first | omega | (dsimp only; omega) | fail) | (refine congrArg some ?_) | omega | exact Nat.le_refl _ | exact congrArg (SV.lst _) (List.take_of_length_le (Nat.le_refl _)).symm))) (by repeat' (first | exact trivial | exact rfl | refine And.intro ?_ ?_ | (refine congrArg vI ?_; first | omega | (dsimp only; omega) | fail) | (refine congrArg some ?_) | omega | exact Nat.le_refl _ | exact congrArg (SV.lst _) (List.take_of_length_le (Nat.le_refl _)).symm)) trivial trivial) ?_
  refine And.intro ⟨(), trivial⟩ (fun (_ : Unit) _ => ?_)
  conv => whnf
  conv => whnf
  repeat' (first | (refine tell (fun htest => ?_) (fun htest => ?_) <;> (try dsimp only at htest) <;> first | (exfalso; omega) | (exact absurd rfl htest) | (exact absurd (by decide) htest) | (conv => whnf)) | (refine allG rfl ?_; conv => whnf) | (refine And.intro (by first | omega | assumption | kernel_rfl | exact And.intro rfl rfl | ((try dsimp only [inR, idx, lowOf]); first | omega | (with_reducible decide) | (simp; omega) | fail) | fail) ?_; conv => whnf) | fail)
  refine ⟨Nat × List Edge, fun p => ⟨[(0, vI c), (1, .lst 66 l), (4, .ptr 1004 0 2 0), (5, .ptr 1005 0 2 0), (6, vI p.1)], [(1004, .cells [vI 0, .val (.slice none 0 0)]), (1005, .cells [vI (fitN c), .sl 3000 3 0 p.2.length]), (3000, .arr 54 p.2)]⟩, fun p => p.1 ≤ l.length ∧ p.2.length ≤ 24 ∧ fitGo (fitN c) (l.drop p.1) p.2 = fitGo (fitN c) l [], fun p => l.length - p.1, fun _ _ => rfl, ⟨(0, []), [], ⟨Nat.zero_le _, Nat.zero_le _, rfl⟩, ?_⟩, ?_⟩
  · refine ⟨rfl, ?_, ?_, rfl⟩
    all_goals (repeat' (first | exact trivial | exact rfl | refine And.intro ?_ ?_ | (refine congrArg vI ?_; first | omega | (dsimp only; omega) | fail) | (refine congrArg some ?_) | omega | exact Nat.le_refl _ | exact congrArg (SV.lst _) (List.take_of_length_le (Nat.le_refl _)).symm))
  rintro ⟨(i : Nat), (es : List Edge)⟩ ⟨(hi : i ≤ l.length), (he24 : es.length ≤ 24), (hs : fitGo (fitN c) (l.drop i) es = fitGo (fitN c) l [])⟩
  by_cases hlt : i < l.length
  · obtain ⟨x, hx⟩ : ∃ x, l[i]? = some x := ⟨_, List.getElem?_eq_getElem hlt⟩
    obtain ⟨hx1, hx2, hx3⟩ := hr x (List.mem_of_getElem? hx)
    by_cases h24 : es.length < 24
    · rw [fitGo_step hx h24] at hs
      conv => whnf
      repeat' (first | (refine tell (fun htest => ?_) (fun htest => ?_) <;> (try dsimp only at htest) <;> first | (exfalso; omega) | (exact absurd rfl htest) | (exact absurd (by decide) htest) | (conv => whnf)) | (refine allG (x := x) (by first | exact hx | simpa [List.getElem?_append_right, lowOf] using hx | fail) ?_; conv => whnf) | (refine allLst (x := x) (by first | omega | assumption | fail) (by first | exact hx | simpa using hx | fail) ?_; conv => whnf) | (refine allG rfl ?_; conv => whnf) | (refine And.intro (by first | omega | assumption | kernel_rfl | exact And.intro rfl rfl | ((try dsimp only [inR, idx, lowOf]); first | omega | (with_reducible decide) | (simp; omega) | fail) | fail) ?_; conv => whnf) | fail)
      refine ⟨_, m_pick11, (x.1, fitN c), [], false, ?_⟩
      conv => whnf
      refine And.intro (vc0 ⟨hx1, hn0.1⟩ (by (repeat' (first | exact trivial | exact rfl | refine And.intro ?_ ?_ | (refine congrArg vI ?_; first | omega | (dsimp only; omega) | fail) | (refine congrArg some ?_) | omega | exact Nat.le_refl _ | exact congrArg (SV.lst _) (List.take_of_length_le (Nat.le_refl _)).symm))) (by repeat' (first | exact trivial | exact rfl | refine And.intro ?_ ?_ | (refine congrArg vI ?_; first | omega | (dsimp only; omega) | fail) | (refine congrArg some ?_) | omega | exact Nat.le_refl _ | exact congrArg (SV.lst _) (List.take_of_length_le (Nat.le_refl _)).symm)) trivial trivial) ?_
      refine And.intro ⟨(), trivial⟩ (fun (_ : Unit) _ => ?_)
      conv => whnf
      conv => whnf
      repeat' (first | (refine tell (fun htest => ?_) (fun htest => ?_) <;> (try dsimp only at htest) <;> first | (exfalso; omega) | (exact absurd rfl htest) | (exact absurd (by decide) htest) | (conv => whnf)) | (refine allG (x := x) (by first | exact hx | simpa [List.getElem?_append_right, lowOf] using hx | fail) ?_; conv => whnf) | (refine allLst (x := x) (by first | omega | assumption | fail) (by first | exact hx | simpa using hx | fail) ?_; conv => whnf) | (refine allG rfl ?_; conv => whnf) | (refine And.intro (by first | omega | assumption | kernel_rfl | exact And.intro rfl rfl | ((try dsimp only [inR, idx, lowOf]); first | omega | (with_reducible decide) | (simp; omega) | fail) | fail) ?_; conv => whnf) | fail)
      refine ⟨_, m_pick11, (x.2.1, fitN c), [], false, ?_⟩
      conv => whnf
      refine And.intro (vc0 ⟨hx2, hn0.1⟩ (by (repeat' (first | exact trivial | exact rfl | refine And.intro ?_ ?_ | (refine congrArg vI ?_; first | omega | (dsimp only; omega) | fail) | (refine congrArg some ?_) | omega | exact Nat.le_refl _ | exact congrArg (SV.lst _) (List.take_of_length_le (Nat.le_refl _)).symm))) (by repeat' (first | exact trivial | exact rfl | refine And.intro ?_ ?_ | (refine congrArg vI ?_; first | omega | (dsimp only; omega) | fail) | (refine congrArg some ?_) | omega | exact Nat.le_refl _ | exact congrArg (SV.lst _) (List.take_of_length_le (Nat.le_refl _)).symm)) trivial trivial) ?_
      refine And.intro ⟨(), trivial⟩ (fun (_ : Unit) _ => ?_)
      conv => whnf
      conv => whnf
      repeat' (first | (refine tell (fun htest => ?_) (fun htest => ?_) <;> (try dsimp only at htest) <;> first | (exfalso; omega) | (exact absurd rfl htest) | (exact absurd (by decide) htest) | (conv => whnf)) | (refine allG (x := x) (by first | exact hx | simpa [List.getElem?_append_right, lowOf] using hx | fail) ?_; conv => whnf) | (refine allLst (x := x) (by first | omega | assumption | fail) (by first | exact hx | simpa using hx | fail) ?_; conv => whnf) | (refine allG rfl ?_; conv => whnf) | (refine And.intro (by first | omega | assumption | kernel_rfl | exact And.intro rfl rfl | ((try dsimp only [inR, idx, lowOf]); first | omega | (with_reducible decide) | (simp; omega) | fail) | fail) ?_; conv => whnf) | fail)
      refine ⟨_, m_pick11, (x.2.2, 9), [], false, ?_⟩
      conv => whnf
      refine And.intro (vc0 ⟨hx3, by show (0 : Int) < 9; decide⟩ (by (repeat' (first | exact trivial | exact rfl | refine And.intro ?_ ?_ | (refine congrArg vI ?_; first | omega | (dsimp only; omega) | fail) | (refine congrArg some ?_) | omega | exact Nat.le_refl _ | exact congrArg (SV.lst _) (List.take_of_length_le (Nat.le_refl _)).symm))) (by repeat' (first | exact trivial | exact rfl | refine And.intro ?_ ?_ | (refine congrArg vI ?_; first | omega | (dsimp only; omega) | fail) | (refine congrArg some ?_) | omega | exact Nat.le_refl _ | exact congrArg (SV.lst _) (List.take_of_length_le (Nat.le_refl _)).symm)) trivial trivial) ?_
      refine And.intro ⟨(), trivial⟩ (fun (_ : Unit) _ => ?_)
      conv => whnf
      have h9 := pickF_bd (c := x.2.2) (n := 9) (by omega)
      by_cases hne : pickF x.1 (fitN c) = pickF x.2.1 (fitN c)
      · rw [fit_no hne, if_neg (by simp)] at hs
        conv => whnf
        repeat' (first | (refine tell (fun htest => ?_) (fun htest => ?_) <;> (try dsimp only at htest) <;> first | (exfalso; omega) | (exact absurd rfl htest) | (exact absurd (by decide) htest) | (conv => whnf)) | (refine allG rfl ?_; conv => whnf) | (refine And.intro (by first | omega | assumption | kernel_rfl | exact And.intro rfl rfl | ((try dsimp only [inR, idx, lowOf]); first | omega | (with_reducible decide) | (simp; omega) | fail) | fail) ?_; conv => whnf) | fail)
        refine ⟨Nat, fun j => ⟨[(0, vI c), (1, .lst 66 l), (4, .ptr 1004 0 2 0), (5, .ptr 1005 0 2 0), (6, vI i), (7, .ptr 1007 0 3 0), (8, vB false), (9, vI j)], [(1004, .cells [vI 0, .val (.slice none 0 0)]), (1005, .cells [vI (fitN c), .sl 3000 3 0 es.length]), (3000, .arr 54 es), (1007, .cells [vI (pickF x.1 (fitN c)), vI (pickF x.2.1 (fitN c)), vI (1 + pickF x.2.2 9)])]⟩, fun j => j ≤ es.length, fun j => es.length - j, fun _ _ => rfl, ⟨0, [], Nat.zero_le _, ?_⟩, ?_⟩
        · refine ⟨rfl, ?_, ?_, rfl⟩
          all_goals (repeat' (first | exact trivial | exact rfl | refine And.intro ?_ ?_ | (refine congrArg vI ?_; first | omega | (dsimp only; omega) | fail) | (refine congrArg some ?_) | omega | exact Nat.le_refl _ | exact congrArg (SV.lst _) (List.take_of_length_le (Nat.le_refl _)).symm))
        rintro (j : Nat) (hj : j ≤ es.length)
        by_cases hjl : j < es.length
        · obtain ⟨y, hy⟩ : ∃ y, es[j]? = some y := ⟨_, List.getElem?_eq_getElem hjl⟩
          conv => whnf
          repeat' (first | (refine tell (fun htest => ?_) (fun htest => ?_) <;> (try dsimp only at htest) <;> first | (exfalso; omega) | (exact absurd rfl htest) | (exact absurd (by decide) htest) | (conv => whnf)) | (refine allG (x := y) (by first | exact hy | simpa [List.getElem?_append_right, lowOf] using hy | fail) ?_; conv => whnf) | (refine allLst (x := y) (by first | omega | assumption | fail) (by first | exact hy | simpa using hy | fail) ?_; conv => whnf) | (refine allG rfl ?_; conv => whnf) | (refine And.intro (by first | omega | assumption | kernel_rfl | exact And.intro rfl rfl | ((try dsimp only [inR, idx, lowOf]); first | omega | (with_reducible decide) | (simp; omega) | fail) | fail) ?_; conv => whnf) | fail)
          refine ⟨j + 1, [], hjl, ?_, rfl, ?_, ?_, rfl⟩
          · dsimp only; first | omega | (simp; done) | (simp; omega)
          all_goals (repeat' (first | exact trivial | exact rfl | refine And.intro ?_ ?_ | (refine congrArg vI ?_; first | omega | (dsimp only; omega) | fail) | (refine congrArg some ?_) | omega | exact Nat.le_refl _ | exact congrArg (SV.lst _) (List.take_of_length_le (Nat.le_refl _)).symm))
        · have hj : j = es.length := by omega
          subst hj
          conv => whnf
          repeat' (first | (refine tell (fun htest => ?_) (fun htest => ?_) <;> (try dsimp only at htest) <;> first | (exfalso; omega) | (exact absurd rfl htest) | (exact absurd (by decide) htest) | (conv => whnf)) | (refine allG rfl ?_; conv => whnf) | (refine And.intro (by first | omega | assumption | kernel_rfl | exact And.intro rfl rfl | ((try dsimp only [inR, idx, lowOf]); first | omega | (with_reducible decide) | (simp; omega) | fail) | fail) ?_; conv => whnf) | fail)
          refine ⟨(i + 1, es), [], ⟨hlt, he24, hs⟩, ?_, rfl, ?_, ?_, rfl⟩
          · dsimp only; first | omega | (simp; done) | (simp; omega)
          all_goals (repeat' (first | exact trivial | exact rfl | refine And.intro ?_ ?_ | (refine congrArg vI ?_; first | omega | (dsimp only; omega) | fail) | (refine congrArg some ?_) | omega | exact Nat.le_refl _ | exact congrArg (SV.lst _) (List.take_of_length_le (Nat.le_refl _)).symm))
      · rw [fit_yes hne] at hs
        conv => whnf
        repeat' (first | (refine tell (fun htest => ?_) (fun htest => ?_) <;> (try dsimp only at htest) <;> first | (exfalso; omega) | (exact absurd rfl htest) | (exact absurd (by decide) htest) | (conv => whnf)) | (refine allG rfl ?_; conv => whnf) | (refine And.intro (by first | omega | assumption | kernel_rfl | exact And.intro rfl rfl | ((try dsimp only [inR, idx, lowOf]); first | omega | (with_reducible decide) | (simp; omega) | fail) | fail) ?_; conv => whnf) | fail)
        refine ⟨Nat × Bool, fun p => ⟨[(0, vI c), (1, .lst 66 l), (4, .ptr 1004 0 2 0), (5, .ptr 1005 0 2 0), (6, vI i), (7, .ptr 1007 0 3 0), (8, vB p.2), (9, vI p.1)], [(1004, .cells [vI 0, .val (.slice none 0 0)]), (1005, .cells [vI (fitN c), .sl 3000 3 0 es.length]), (3000, .arr 54 es), (1007, .cells [vI (pickF x.1 (fitN c)), vI (pickF x.2.1 (fitN c)), vI (1 + pickF x.2.2 9)])]⟩, fun p => p.1 ≤ es.length ∧ p.2 = fitA (es.take p.1) (fitE (fitN c) x), fun p => es.length - p.1, fun _ _ => rfl, ⟨(0, true), [], ⟨Nat.zero_le _, rfl⟩, ?_⟩, ?_⟩
        · refine ⟨rfl, ?_, ?_, rfl⟩
          all_goals (repeat' (first | exact trivial | exact rfl | refine And.intro ?_ ?_ | (refine congrArg vI ?_; first | omega | (dsimp only; omega) | fail) | (refine congrArg some ?_) | omega | exact Nat.le_refl _ | exact congrArg (SV.lst _) (List.take_of_length_le (Nat.le_refl _)).symm))
        rintro ⟨(j : Nat), (b : Bool)⟩ ⟨(hj : j ≤ es.length), (hb : b = fitA (es.take j) (fitE (fitN c) x))⟩
        by_cases hjl : j < es.length
        · obtain ⟨y, hy⟩ : ∃ y, es[j]? = some y := ⟨_, List.getElem?_eq_getElem hjl⟩
          have hsn : fitA (es.take (j + 1)) (fitE (fitN c) x) = (b && (decide (y.1 ≠ pickF x.1 (fitN c)) || decide (y.2.1 ≠ pickF x.2.1 (fitN c)))) := by rw [take_snocI hy, fitA_snoc, ← hb]; rfl
          cases b
          · conv => whnf
            repeat' (first | (refine tell (fun htest => ?_) (fun htest => ?_) <;> (try dsimp only at htest) <;> first | (exfalso; omega) | (exact absurd rfl htest) | (exact absurd (by decide) htest) | (conv => whnf)) | (refine allG (x := y) (by first | exact hy | simpa [List.getElem?_append_right, lowOf] using hy | fail) ?_; conv => whnf) | (refine allLst (x := y) (by first | omega | assumption | fail) (by first | exact hy | simpa using hy | fail) ?_; conv => whnf) | (refine allG rfl ?_; conv => whnf) | (refine And.intro (by first | omega | assumption | kernel_rfl | exact And.intro rfl rfl | ((try dsimp only [inR, idx, lowOf]); first | omega | (with_reducible decide) | (simp; omega) | fail) | fail) ?_; conv => whnf) | fail)
            refine ⟨(j + 1, false), [], ⟨hjl, by rw [hsn]; rfl⟩, ?_, rfl, ?_, ?_, rfl⟩
            · dsimp only; first | omega | (simp; done) | (simp; omega)
            all_goals (repeat' (first | exact trivial | exact rfl | refine And.intro ?_ ?_ | (refine congrArg vI ?_; first | omega | (dsimp only; omega) | fail) | (refine congrArg some ?_) | omega | exact Nat.le_refl _ | exact congrArg (SV.lst _) (List.take_of_length_le (Nat.le_refl _)).symm))
          · by_cases h1 : y.1 = pickF x.1 (fitN c)
            · by_cases h2 : y.2.1 = pickF x.2.1 (fitN c)
              · conv => whnf
                repeat' (first | (refine tell (fun htest => ?_) (fun htest => ?_) <;> (try dsimp only at htest) <;> first | (exfalso; omega) | (exact absurd rfl htest) | (exact absurd (by decide) htest) | (conv => whnf)) | (refine allG (x := y) (by first | exact hy | simpa [List.getElem?_append_right, lowOf] using hy | fail) ?_; conv => whnf) | (refine allLst (x := y) (by first | omega | assumption | fail) (by first | exact hy | simpa using hy | fail) ?_; conv => whnf) | (refine allG rfl ?_; conv => whnf) | (refine And.intro (by first | omega | assumption | kernel_rfl | exact And.intro rfl rfl | ((try dsimp only [inR, idx, lowOf]); first | omega | (with_reducible decide) | (simp; omega) | fail) | fail) ?_; conv => whnf) | fail)
                refine ⟨(j + 1, false), [], ⟨hjl, by rw [hsn]; simp [h1, h2]⟩, ?_, rfl, ?_, ?_, rfl⟩
                · dsimp only; first | omega | (simp; done) | (simp; omega)
                all_goals (repeat' (first | exact trivial | exact rfl | refine And.intro ?_ ?_ | (refine congrArg vI ?_; first | omega | (dsimp only; omega) | fail) | (refine congrArg some ?_) | omega | exact Nat.le_refl _ | exact congrArg (SV.lst _) (List.take_of_length_le (Nat.le_refl _)).symm))
              · conv => whnf
                repeat' (first | (refine tell (fun htest => ?_) (fun htest => ?_) <;> (try dsimp only at htest) <;> first | (exfalso; omega) | (exact absurd rfl htest) | (exact absurd (by decide) htest) | (conv => whnf)) | (refine allG (x := y) (by first | exact hy | simpa [List.getElem?_append_right, lowOf] using hy | fail) ?_; conv => whnf) | (refine allLst (x := y) (by first | omega | assumption | fail) (by first | exact hy | simpa using hy | fail) ?_; conv => whnf) | (refine allG rfl ?_; conv => whnf) | (refine And.intro (by first | omega | assumption | kernel_rfl | exact And.intro rfl rfl | ((try dsimp only [inR, idx, lowOf]); first | omega | (with_reducible decide) | (simp; omega) | fail) | fail) ?_; conv => whnf) | fail)
                refine ⟨(j + 1, true), [], ⟨hjl, by rw [hsn]; simp [h2]⟩, ?_, rfl, ?_, ?_, rfl⟩
                · dsimp only; first | omega | (simp; done) | (simp; omega)
                all_goals (repeat' (first | exact trivial | exact rfl | refine And.intro ?_ ?_ | (refine congrArg vI ?_; first | omega | (dsimp only; omega) | fail) | (refine congrArg some ?_) | omega | exact Nat.le_refl _ | exact congrArg (SV.lst _) (List.take_of_length_le (Nat.le_refl _)).symm))
            · conv => whnf
              repeat' (first | (refine tell (fun htest => ?_) (fun htest => ?_) <;> (try dsimp only at htest) <;> first | (exfalso; omega) | (exact absurd rfl htest) | (exact absurd (by decide) htest) | (conv => whnf)) | (refine allG (x := y) (by first | exact hy | simpa [List.getElem?_append_right, lowOf] using hy | fail) ?_; conv => whnf) | (refine allLst (x := y) (by first | omega | assumption | fail) (by first | exact hy | simpa using hy | fail) ?_; conv => whnf) | (refine allG rfl ?_; conv => whnf) | (refine And.intro (by first | omega | assumption | kernel_rfl | exact And.intro rfl rfl | ((try dsimp only [inR, idx, lowOf]); first | omega | (with_reducible decide) | (simp; omega) | fail) | fail) ?_; conv => whnf) | fail)
              refine ⟨(j + 1, true), [], ⟨hjl, by rw [hsn]; simp [h1]⟩, ?_, rfl, ?_, ?_, rfl⟩
              · dsimp only; first | omega | (simp; done) | (simp; omega)
              all_goals (repeat' (first | exact trivial | exact rfl | refine And.intro ?_ ?_ | (refine congrArg vI ?_; first | omega | (dsimp only; omega) | fail) | (refine congrArg some ?_) | omega | exact Nat.le_refl _ | exact congrArg (SV.lst _) (List.take_of_length_le (Nat.le_refl _)).symm))
        · have hj : j = es.length := by omega
          subst hj
          rw [List.take_of_length_le (Nat.le_refl _)] at hb
          rw [← hb] at hs
          cases b
          · rw [if_neg (by simp)] at hs
            conv => whnf
            repeat' (first | (refine tell (fun htest => ?_) (fun htest => ?_) <;> (try dsimp only at htest) <;> first | (exfalso; omega) | (exact absurd rfl htest) | (exact absurd (by decide) htest) | (conv => whnf)) | (refine allG rfl ?_; conv => whnf) | (refine And.intro (by first | omega | assumption | kernel_rfl | exact And.intro rfl rfl | ((try dsimp only [inR, idx, lowOf]); first | omega | (with_reducible decide) | (simp; omega) | fail) | fail) ?_; conv => whnf) | fail)
            refine ⟨(i + 1, es), [], ⟨hlt, he24, hs⟩, ?_, rfl, ?_, ?_, rfl⟩
            · dsimp only; first | omega | (simp; done) | (simp; omega)
            all_goals (repeat' (first | exact trivial | exact rfl | refine And.intro ?_ ?_ | (refine congrArg vI ?_; first | omega | (dsimp only; omega) | fail) | (refine congrArg some ?_) | omega | exact Nat.le_refl _ | exact congrArg (SV.lst _) (List.take_of_length_le (Nat.le_refl _)).symm))
          · rw [if_pos rfl] at hs
            conv => whnf
            repeat' (first | (refine tell (fun htest => ?_) (fun htest => ?_) <;> (try dsimp only at htest) <;> first | (exfalso; omega) | (exact absurd rfl htest) | (exact absurd (by decide) htest) | (conv => whnf)) | (refine allG rfl ?_; conv => whnf) | (refine And.intro (by first | omega | assumption | kernel_rfl | exact And.intro rfl rfl | ((try dsimp only [inR, idx, lowOf]); first | omega | (with_reducible decide) | (simp; omega) | fail) | fail) ?_; conv => whnf) | fail)
            refine ⟨(i + 1, es ++ [fitE (fitN c) x]), [(3000, 1090)], ⟨hlt, by simp; omega, hs⟩, ?_, rfl, ?_, ?_, rfl⟩
            · dsimp only; first | omega | (simp; done) | (simp; omega)
            all_goals (repeat' (first | exact trivial | exact rfl | refine And.intro ?_ ?_ | (refine congrArg vI ?_; first | omega | (dsimp only; omega) | fail) | (refine congrArg some ?_) | omega | exact Nat.le_refl _ | exact congrArg (SV.lst _) (List.take_of_length_le (Nat.le_refl _)).symm))
            · exact congrArg (SV.sl (A := AF) 1090 3 0) (show es.length + 1 = (es ++ [fitE (fitN c) x]).length by simp)
            · exact congrArg (Ct.arr (A := AF) 54) (show (es.drop 0).take es.length ++ [fitE (fitN c) x] = es ++ [fitE (fitN c) x] by simp)
    · rw [fitGo_full h24] at hs
      conv => whnf
      repeat' (first | (refine tell (fun htest => ?_) (fun htest => ?_) <;> (try dsimp only at htest) <;> first | (exfalso; omega) | (exact absurd rfl htest) | (exact absurd (by decide) htest) | (conv => whnf)) | (refine allG rfl ?_; conv => whnf) | (refine And.intro (by first | omega | assumption | kernel_rfl | exact And.intro rfl rfl | ((try dsimp only [inR, idx, lowOf]); first | omega | (with_reducible decide) | (simp; omega) | fail) | fail) ?_; conv => whnf) | fail)
      exact ⟨(), [], trivial, fit_end hs, trivial, trivial⟩
  · rw [List.drop_eq_nil_of_le (by omega)] at hs
    conv => whnf
    repeat' (first | (refine tell (fun htest => ?_) (fun htest => ?_) <;> (try dsimp only at htest) <;> first | (exfalso; omega) | (exact absurd rfl htest) | (exact absurd (by decide) htest) | (conv => whnf)) | (refine allG rfl ?_; conv => whnf) | (refine And.intro (by first | omega | assumption | kernel_rfl | exact And.intro rfl rfl | ((try dsimp only [inR, idx, lowOf]); first | omega | (with_reducible decide) | (simp; omega) | fail) | fail) ?_; conv => whnf) | fail)
    exact ⟨(), [], trivial, fit_end hs, trivial, trivial⟩
end Go.Sx


/-
  Layer 11, part N: plain laws: what Fit gives may be; what one comes to.
-/
namespace Go.Sx
open Go Go.Proofs Go.Proofs.Ytmogappoadglgaa
theorem RightL.good {n : Int} {es : List Edge} (h : RightL n es) : GoodL es := by
  have := h.len
  have := h.most
  refine ⟨by omega, fun e he => ?_⟩
  obtain ⟨a, b, c, d, _⟩ := h.each e he
  exact ⟨⟨by omega, by omega⟩, ⟨by omega, by omega⟩⟩
theorem fitE_ok {n : Int} (hn : 0 < n) (r : Int × Int × Int) (hne : (fitE n r).1 ≠ (fitE n r).2.1) : EdgeOk n (fitE n r) := by
  have h1 := pickF_bd (c := r.1) hn
  have h2 := pickF_bd (c := r.2.1) hn
  have h3 := pickF_bd (c := r.2.2) (n := 9) (by omega)
  refine ⟨h1.1, h1.2, h2.1, h2.2, hne, ?_, ?_⟩
  · show 1 ≤ 1 + pickF r.2.2 9; omega
  · show 1 + pickF r.2.2 9 ≤ 1000; omega
theorem fitIn_iff {es : List Edge} {e : Edge} : fitIn es e = true ↔ e.1 ≠ e.2.1 ∧ wayE e ∉ es.map wayE := by
  unfold fitIn
  simp only [Bool.and_eq_true, decide_eq_true_iff, List.all_eq_true, Bool.or_eq_true, List.mem_map, not_exists, not_and]
  refine and_congr Iff.rfl ⟨fun h x hx he => ?_, fun h x hx => ?_⟩
  · have h1 : x.1 = e.1 := (Prod.ext_iff.1 he).1
    have h2 : x.2.1 = e.2.1 := (Prod.ext_iff.1 he).2
    rcases h x hx with h3 | h3
    · exact h3 h1
    · exact h3 h2
  · by_cases h1 : x.1 = e.1
    · right; intro h2; exact h x hx (Prod.ext h1 h2)
    · exact .inl h1
theorem fitGo_right {n : Int} (hn : 0 < n) (hn8 : n ≤ 40) : ∀ (l : List (Int × Int × Int)) (es : List Edge), RightL n es → es.length ≤ 24 → RightL n (fitGo n l es) ∧ (fitGo n l es).length ≤ 24
  | [], es, h, hl => ⟨h, hl⟩
  | r :: t, es, h, hl => by
    unfold fitGo
    by_cases h24 : es.length < 24
    · rw [if_pos h24]
      by_cases hin : fitIn es (fitE n r) = true
      · rw [if_pos hin]
        obtain ⟨h1, h2⟩ := fitIn_iff.1 hin
        refine fitGo_right hn hn8 t _ ⟨hn, hn8, by simp; omega, fun e he => ?_, ?_⟩ (by simp; omega)
        · rcases List.mem_append.1 he with he | he
          · exact h.each e he
          · simp at he; subst he; exact fitE_ok hn r h1
        · rw [List.map_append, List.nodup_append]
          refine ⟨h.apart, by simp, fun a ha b hb => ?_⟩
          simp at hb; subst hb
          rintro rfl
          exact h2 ha
      · rw [if_neg hin]
        exact fitGo_right hn hn8 t es h hl
    · rw [if_neg h24]; exact ⟨h, hl⟩
theorem fitN_bd (c : Int) : 0 < fitN c ∧ fitN c ≤ 8 := by
  have h8 := pickF_bd (c := c) (n := 8) (by omega)
  unfold fitN; omega
theorem fit_right (c : Int) (l : List (Int × Int × Int)) : RightL (fitN c) (fitL c l) ∧ (fitL c l).length ≤ 24 := by
  have h := fitN_bd c
  exact fitGo_right h.1 (by omega) l [] ⟨h.1, by omega, by simp, fun e he => by simp at he, by simp⟩ (by simp)
/-- What one comes to, is a node. -/
theorem reachI_bd {es : List Edge} {bl : List Int} {back : Bool} {s n v : Int} (h : RightL n es) (h0 : 0 ≤ s) (hs : s < n) (hv : ReachI es bl back s v) : 0 ≤ v ∧ v < n := by
  cases hv with
  | refl => exact ⟨h0, hs⟩
  | step h1 h2 h3 =>
    rename_i e
    obtain ⟨a, b, c, d, _⟩ := h.each e h2
    cases back
    · exact ⟨c, d⟩
    · exact ⟨a, b⟩
theorem mem_reachN {es : List Edge} {bl : List Int} {s n v : Int} (h : RightL n es) (h0 : 0 ≤ s) (hs : s < n) : v ∈ reachN es bl s 40 ↔ ReachI es bl false s v := by
  have h40 := h.most
  unfold reachN
  simp only [List.mem_map, List.mem_filter, List.mem_range, inB_iff]
  constructor
  · rintro ⟨w, ⟨_, h1⟩, rfl⟩; exact h1
  · intro hv
    have := reachI_bd h h0 hs hv
    refine ⟨v.toNat, ⟨by omega, ?_⟩, by omega⟩
    rwa [Int.toNat_of_nonneg this.1]
theorem reachN_sorted (es : List Edge) (bl : List Int) (s : Int) (k : Nat) : (reachN es bl s k).Pairwise (· < ·) := by
  unfold reachN
  rw [List.pairwise_map]
  refine (List.Pairwise.filter _ List.pairwise_lt_range).imp fun h => ?_
  omega
theorem sorted_at {l : List Int} (h : l.Pairwise (· < ·)) {i : Nat} {x y : Int} (hx : l[i]? = some x) (hy : l[i + 1]? = some y) : x < y := by
  obtain ⟨h1, rfl⟩ := List.getElem?_eq_some_iff.1 hx
  obtain ⟨h2, rfl⟩ := List.getElem?_eq_some_iff.1 hy
  exact List.pairwise_iff_getElem.1 h i (i + 1) h1 h2 (by omega)
theorem reachI_more {es : List Edge} {bl bl2 : List Int} {back : Bool} {s v : Int} (hb : ∀ x, x ∈ bl → x ∈ bl2) (h : ReachI es bl2 back s v) : ReachI es bl back s v := by
  induction h with
  | refl => exact .refl
  | step _ h2 h3 ih => exact .step ih h2 fun h => h3 (hb _ h)
theorem reachI_same {es : List Edge} {bl : List Int} {back : Bool} {s v k : Int} (hk : ¬ ReachI es bl back s k) (h : ReachI es bl back s v) : ReachI es (bl ++ [k]) back s v := by
  induction h with
  | refl => exact .refl
  | step h1 h2 h3 ih =>
    refine .step ih h2 fun h => ?_
    rcases List.mem_append.1 h with h | h
    · exact h3 h
    · simp at h
      exact hk (h ▸ ReachI.step h1 h2 h3)
theorem reachN_same {es : List Edge} {bl : List Int} {s k : Int} (hk : ¬ ReachI es bl false s k) (j : Nat) : reachN es (bl ++ [k]) s j = reachN es bl s j := by
  have : inB es (bl ++ [k]) false s = inB es bl false s := funext fun v => by
    rw [Bool.eq_iff_iff, inB_iff, inB_iff]
    exact ⟨reachI_more fun x hx => List.mem_append_left _ hx, reachI_same hk⟩
  unfold reachN
  rw [this]
/-- The same way, from its end to its beginning. -/
theorem reachI_front {es : List Edge} {back : Bool} {e : Edge} {v : Int} (he : e ∈ es) (h : ReachI es [] back (dstE back e) v) : ReachI es [] back (srcE back e) v := by
  induction h with
  | refl => exact .step .refl he (by simp)
  | step _ h2 h3 ih => exact .step ih h2 h3
theorem reachI_back {es : List Edge} {back : Bool} {s v : Int} (h : ReachI es [] back s v) : ReachI es [] (!back) v s := by
  induction h with
  | refl => exact .refl
  | step h1 h2 h3 ih =>
    rename_i e
    cases back
    · exact reachI_front (back := true) h2 ih
    · exact reachI_front (back := false) h2 ih
theorem reachI_rev {es : List Edge} {s v : Int} : ReachI es [] true s v ↔ ReachI es [] false v s := ⟨reachI_back, reachI_back⟩
/-- All edges turned about. -/
def turnE (e : Edge) : Edge := (e.2.1, e.1, e.2.2)
theorem reachI_turn1 {es : List Edge} {back : Bool} {s v : Int} (h : ReachI es [] back s v) : ReachI (es.map turnE) [] (!back) s v := by
  induction h with
  | refl => exact .refl
  | step h1 h2 h3 ih =>
    rename_i e
    have hm : turnE e ∈ es.map turnE := List.mem_map.2 ⟨e, h2, rfl⟩
    cases back
    · exact ReachI.step (back := true) (e := turnE e) ih hm (by simp)
    · exact ReachI.step (back := false) (e := turnE e) ih hm (by simp)
theorem turn_turn (es : List Edge) : (es.map turnE).map turnE = es := by
  rw [List.map_map]
  exact (List.map_congr_left fun e _ => rfl).trans (List.map_id es)
theorem reachI_turn {es : List Edge} {back : Bool} {s v : Int} : ReachI (es.map turnE) [] back s v ↔ ReachI es [] (!back) s v := by
  constructor
  · intro h
    have := reachI_turn1 h
    rwa [turn_turn] at this
  · intro h
    have := reachI_turn1 h
    rwa [Bool.not_not] at this
theorem right_turn {n : Int} {es : List Edge} (h : RightL n es) : RightL n (es.map turnE) := by
  refine ⟨h.pos, h.most, by simpa using h.len, fun e he => ?_, ?_⟩
  · obtain ⟨x, hx, rfl⟩ := List.mem_map.1 he
    obtain ⟨a, b, c, d, e, f, g⟩ := h.each x hx
    exact ⟨c, d, a, b, fun h => e h.symm, f, g⟩
  · have : (es.map turnE).map wayE = (es.map wayE).map Prod.swap := by simp only [List.map_map]; rfl
    rw [this]
    refine List.pairwise_map.2 (h.apart.imp fun {a b} hab he => hab ?_)
    have := congrArg Prod.swap he
    simpa using this
theorem strong_turn {n : Int} {es : List Edge} : StrongL n es ↔ StrongL n (es.map turnE) := by
  have key : ∀ {es : List Edge}, StrongL n es → StrongL n (es.map turnE) := fun {es} h =>
    ⟨right_turn h.1, fun v hv => ⟨reachI_turn.2 (h.2 v hv).2, reachI_turn.2 (h.2 v hv).1⟩⟩
  refine ⟨key, fun h => ?_⟩
  have := key h
  rwa [turn_turn] at this
/-- Strong, by what Reach tells. -/
theorem filter_full {p : Nat → Bool} {n k : Nat} (hn : n ≤ k) (hp : ∀ v, p v = true → v < n) : ((List.range k).filter p).length = n ↔ ∀ v, v < n → p v = true := by
  obtain ⟨m, rfl⟩ : ∃ m, k = n + m := ⟨k - n, by omega⟩
  have h1 : (List.range (n + m)).filter p = (List.range n).filter p := by
    rw [List.range_add, List.filter_append]
    have : ((List.range m).map (n + ·)).filter p = [] := List.filter_eq_nil_iff.2 fun v hv h => by
      obtain ⟨w, _, rfl⟩ := List.mem_map.1 hv
      have := hp _ h
      omega
    rw [this, List.append_nil]
  rw [h1]
  have h2 : (List.range n).length = n := List.length_range
  constructor
  · intro h v hv
    have h3 := List.length_filter_eq_length_iff.1 (h.trans h2.symm)
    exact h3 v (List.mem_range.2 hv)
  · intro h
    exact (List.length_filter_eq_length_iff.2 fun v hv => h v (List.mem_range.1 hv)).trans h2
theorem reachN_full {n : Int} {es : List Edge} {bl : List Int} {s : Int} (h : RightL n es) (h0 : 0 ≤ s) (hs : s < n) : ((reachN es bl s 40).length : Int) = n ↔ ∀ v : Nat, (v : Int) < n → ReachI es bl false s v := by
  have hn := h.most
  unfold reachN
  rw [List.length_map]
  have := filter_full (p := inB es bl false s) (n := n.toNat) (k := 40) (by omega) (fun v hv => by
    have := reachI_bd h h0 hs (inB_iff.1 hv); omega)
  constructor
  · intro h1 v hv
    exact inB_iff.1 (this.1 (by omega) v (by omega))
  · intro h1
    have := this.2 fun v hv => inB_iff.2 (h1 v (by omega))
    omega
theorem strong_iff {n : Int} {es : List Edge} (h : RightL n es) : StrongL n es ↔ ((reachN es [] 0 40).length : Int) = n ∧ ∀ v : Nat, (v : Int) < n → (0 : Int) ∈ reachN es [] v 40 := by
  rw [reachN_full h (Int.le_refl 0) h.pos]
  constructor
  · intro hs
    exact ⟨fun v hv => (hs.2 v hv).1, fun v hv => (mem_reachN h (by omega) hv).2 (reachI_rev.1 (hs.2 v hv).2)⟩
  · rintro ⟨h1, h2⟩
    exact ⟨h, fun v hv => ⟨h1 v hv, reachI_rev.2 ((mem_reachN h (by omega) hv).1 (h2 v hv))⟩⟩
/-- The edges out of a node. -/
theorem outL_mem (k : Int) : ∀ (es : List Edge) (i : Nat) (v : Int), v ∈ outL es k i ↔ ∃ (j : Nat) (e : Edge), v = ((i + j : Nat) : Int) ∧ es[j]? = some e ∧ e.1 = k
  | [], i, v => by simp [outL]
  | x :: t, i, v => by
    have ih := outL_mem k t (i + 1) v
    have key : (∃ (j : Nat) (e : Edge), v = ((i + 1 + j : Nat) : Int) ∧ t[j]? = some e ∧ e.1 = k) ↔ ∃ (j : Nat) (e : Edge), v = ((i + (j + 1) : Nat) : Int) ∧ t[j]? = some e ∧ e.1 = k := by
      constructor
      · rintro ⟨j, e, h1, h2⟩; exact ⟨j, e, by rw [h1]; congr 1; omega, h2⟩
      · rintro ⟨j, e, h1, h2⟩; exact ⟨j, e, by rw [h1]; congr 1; omega, h2⟩
    rw [key] at ih
    have split0 : (∃ (j : Nat) (e : Edge), v = ((i + j : Nat) : Int) ∧ (x :: t)[j]? = some e ∧ e.1 = k) ↔ (v = (i : Int) ∧ x.1 = k) ∨ ∃ (j : Nat) (e : Edge), v = ((i + (j + 1) : Nat) : Int) ∧ t[j]? = some e ∧ e.1 = k := by
      constructor
      · rintro ⟨j, e, h1, h2, h3⟩
        cases j with
        | zero => simp at h2; subst h2; exact .inl ⟨h1, h3⟩
        | succ j => exact .inr ⟨j, e, h1, by simpa using h2, h3⟩
      · rintro (⟨h1, h2⟩ | ⟨j, e, h1, h2, h3⟩)
        · exact ⟨0, x, h1, rfl, h2⟩
        · exact ⟨j + 1, e, h1, by simpa using h2, h3⟩
    rw [split0, ← ih, show outL (x :: t) k i = if x.1 = k then (i : Int) :: outL t k (i + 1) else outL t k (i + 1) from rfl]
    by_cases hx : x.1 = k
    · rw [if_pos hx, List.mem_cons]
      constructor
      · rintro (h | h)
        · exact .inl ⟨h, hx⟩
        · exact .inr h
      · rintro (⟨h, _⟩ | h)
        · exact .inl h
        · exact .inr h
    · rw [if_neg hx]
      exact ⟨.inr, fun h => h.elim (fun h => absurd h.2 hx) id⟩
theorem outL_sorted (k : Int) : ∀ (es : List Edge) (i : Nat), (outL es k i).Pairwise (· < ·)
  | [], _ => by simp [outL]
  | x :: t, i => by
    have ih := outL_sorted k t (i + 1)
    unfold outL
    by_cases hx : x.1 = k
    · rw [if_pos hx, List.pairwise_cons]
      refine ⟨fun v hv => ?_, ih⟩
      obtain ⟨j, _, rfl, _⟩ := (outL_mem k t (i + 1) v).1 hv
      omega
    · rw [if_neg hx]; exact ih
/-- How many edges lead out of the nodes below one. -/
def lowN (es : List Edge) (k : Nat) : Nat := (es.filter fun e => decide (e.1 < (k : Int))).length
theorem lowN_succ {n : Int} {es : List Edge} (h : ∀ e ∈ es, EdgeOk n e) (k i : Nat) : lowN es (k + 1) = lowN es k + (outL es k i).length := by
  induction es generalizing i with
  | nil => rfl
  | cons e t ih =>
    have ih := ih (fun x hx => h x (by simp [hx])) (i + 1)
    have he := h e (by simp)
    unfold lowN at ih ⊢
    unfold outL
    simp only [List.filter_cons]
    by_cases h1 : e.1 < (k : Int)
    · rw [if_pos (decide_eq_true (by omega)), if_pos (decide_eq_true h1), if_neg (by omega)]
      simp only [List.length_cons]; omega
    · by_cases h2 : e.1 = (k : Int)
      · rw [if_pos (decide_eq_true (by omega)), if_neg (by simp; omega), if_pos h2]
        simp only [List.length_cons]; omega
      · rw [if_neg (by simp; omega), if_neg (by simp; omega), if_neg h2]
        exact ih
theorem lowN_zero {n : Int} {es : List Edge} (h : ∀ e ∈ es, EdgeOk n e) : lowN es 0 = 0 := by
  unfold lowN
  rw [List.length_eq_zero_iff, List.filter_eq_nil_iff]
  intro e he h1
  have := h e he
  have h2 := of_decide_eq_true h1
  obtain ⟨a, _⟩ := this
  omega
theorem lowN_all {n : Int} {es : List Edge} (hn : 0 < n) (h : ∀ e ∈ es, EdgeOk n e) : lowN es n.toNat = es.length := by
  unfold lowN
  rw [List.filter_eq_self.2]
  intro e he
  obtain ⟨_, a, _⟩ := h e he
  exact decide_eq_true (by omega)
theorem idxF_at (w : Int × Int) : ∀ (es : List Edge) (j i : Nat) (e : Edge), (es.map wayE).Nodup → es[i]? = some e → wayE e = w → idxF w es j = ((j + i : Nat) : Int)
  | [], _, _, _, _, h, _ => by simp at h
  | x :: t, j, 0, e, _, h, hw => by
    simp at h; subst h
    rw [idxF, if_pos hw]; rfl
  | x :: t, j, i + 1, e, hn, h, hw => by
    rw [List.map_cons, List.nodup_cons] at hn
    have h : t[i]? = some e := by simpa using h
    have hx : wayE x ≠ w := fun hx => hn.1 (List.mem_map.2 ⟨e, List.mem_of_getElem? h, hw.trans hx.symm⟩)
    rw [idxF, if_neg hx, idxF_at w t (j + 1) i e hn.2 h hw]
    congr 1; omega
theorem idxF_no (w : Int × Int) : ∀ (es : List Edge) (j : Nat), w ∉ es.map wayE → idxF w es j = -1
  | [], _, _ => rfl
  | x :: t, j, h => by
    rw [List.map_cons, List.mem_cons, not_or] at h
    rw [idxF, if_neg (fun e => h.1 e.symm), idxF_no w t (j + 1) h.2]
theorem betF_at {n : Int} {es : List Edge} {w : Int × Int} {i : Nat} {e : Edge} (h : RightL n es) (he : es[i]? = some e) (hw : wayE e = w) : betF n es w = ((i : Int), true) := by
  have := idxF_at w es 0 i e h.apart he hw
  rw [Nat.zero_add] at this
  unfold betF
  rw [this, if_pos ⟨h, by omega⟩]
theorem betF_no {n : Int} {es : List Edge} {w : Int × Int} (hw : w ∉ es.map wayE) : betF n es w = (0, false) := by
  unfold betF
  rw [idxF_no w es 0 hw, if_neg (fun h => by have := h.2; omega)]
end Go.Sx

