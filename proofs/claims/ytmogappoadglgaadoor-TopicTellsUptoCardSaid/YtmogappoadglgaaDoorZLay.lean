/-
  What the layers' statements share: which of n things a raw number speaks of.
-/
import Derived.Test.YtmogappoadglgaaDoorZSxFour
set_option linter.unusedVariables false
set_option linter.unusedSimpArgs false
namespace Go.Sx
open Go Go.Proofs Go.Proofs.YtmogappoadglgaaDoor
def pickF (c n : Int) : Int := (if c < 0 then 0 - (c + 1) else c).tmod n
theorem pickF_bd {c n : Int} (hn : 0 < n) : 0 ≤ pickF c n ∧ pickF c n < n := by
  have h : 0 ≤ (if c < 0 then 0 - (c + 1) else c) := by split <;> omega
  unfold pickF
  rw [Int.tmod_eq_emod_of_nonneg h]
  exact ⟨Int.emod_nonneg _ (by omega), Int.emod_lt_of_pos _ hn⟩
def spPick : Spec AF where
  γ := Int × Int
  δ := Unit
  args := fun x => [vI x.1, vI x.2]
  own := fun _ => []
  pre := fun x => InI x.1 ∧ 0 < x.2
  nnew := 0
  res := fun x _ => vI (pickF x.1 x.2)
  own' := fun _ _ => []
  post := fun _ _ => True
theorem allLst {α : Type} {xs : List α} {n : Int} {x : α} {K : α → Prop} (h0 : 0 ≤ n) (h : xs[n.toNat]? = some x) (hK : K x) : (∃ y, 0 ≤ n ∧ xs[n.toNat]? = some y) ∧ ∀ y, (0 ≤ n ∧ xs[n.toNat]? = some y) → K y :=
  ⟨⟨x, h0, h⟩, fun y hy => by have hy := hy.2; rw [h] at hy; cases hy; exact hK⟩
theorem allG {α : Type} {L : List α} {j : Nat} {x : α} {K : α → Prop} (h : L[j]? = some x) (hK : K x) : (∃ y, L[j]? = some y) ∧ ∀ y, L[j]? = some y → K y :=
  ⟨⟨x, h⟩, fun y hy => by rw [h] at hy; cases hy; exact hK⟩
end Go.Sx


/-
  Layer 11, part A: Right.
-/
namespace Go.Sx
open Go Go.Proofs Go.Proofs.YtmogappoadglgaaDoor
abbrev Edge := Int × Int × Int
abbrev layS (n : Int) (es : List Edge) : SV AF := .agg [vI n, .lst 49 es]
abbrev layC (n : Int) (es : List Edge) : Ct AF := .cells [vI n, .lst 49 es]
def wayE (e : Edge) : Int × Int := (e.1, e.2.1)
def EdgeOk (n : Int) (e : Edge) : Prop := 0 ≤ e.1 ∧ e.1 < n ∧ 0 ≤ e.2.1 ∧ e.2.1 < n ∧ e.1 ≠ e.2.1 ∧ 1 ≤ e.2.2 ∧ e.2.2 ≤ 1000
/-- A layout that may be. -/
structure RightL (n : Int) (es : List Edge) : Prop where
  pos : 0 < n
  most : n ≤ 40
  len : es.length ≤ 120
  each : ∀ e ∈ es, EdgeOk n e
  apart : (es.map wayE).Nodup
/-- What may be read. -/
def GoodL (es : List Edge) : Prop := es.length ≤ 9223372036854775807 ∧ ∀ e ∈ es, InI e.1 ∧ InI e.2.1
theorem allEqB {α : Type} {z : α} {K : α → Prop} (hK : ∀ y, y = z → K y) : (∃ y, y = z) ∧ ∀ y, y = z → K y := ⟨⟨z, rfl⟩, hK⟩
def spNode : Spec AF where
  γ := Int × Int × List Edge
  δ := Bool
  args := fun g => [vI g.1, .ptr 0 0 2 0]
  own := fun g => [layC g.2.1 g.2.2]
  pre := fun _ => True
  nnew := 0
  res := fun _ c => vB c
  own' := fun g _ => [some (layC g.2.1 g.2.2)]
  post := fun g c => (c = true ↔ 0 ≤ g.1 ∧ g.1 < g.2.1)
theorem m_node : Meets Tryd.prog regF 83 spNode := by
  refine meets Tryd.func83 12 noWr rfl (by kernel_rfl) (by kernel_rfl) ?_
  rintro ⟨(k : Int), (n : Int), (es : List Edge)⟩ _
  conv => whnf
  repeat' (first | (refine tell (fun hQ => ?_) (fun hQ => ?_) <;> (try dsimp only at hQ) <;> first | (exfalso; omega) | (exact absurd rfl hQ) | (exact absurd (by decide) hQ) | (conv => whnf)) | (refine allG rfl ?_; conv => whnf) | (refine And.intro (by first | omega | assumption | kernel_rfl | exact And.intro rfl rfl | ((try dsimp only [inR, idx, lowOf]); first | omega | (with_reducible decide) | (simp; omega) | (simp; done) | fail) | fail) ?_; conv => whnf) | fail)
  · exact ⟨true, [], by simp [spNode]; omega, rfl, ⟨⟨rfl, rfl, trivial⟩, trivial⟩, trivial⟩
  · exact ⟨false, [], by simp [spNode]; omega, rfl, ⟨⟨rfl, rfl, trivial⟩, trivial⟩, trivial⟩
  · exact ⟨false, [], by simp [spNode]; omega, rfl, ⟨⟨rfl, rfl, trivial⟩, trivial⟩, trivial⟩
theorem node_ex (k n : Int) : ∃ c : Bool, c = true ↔ 0 ≤ k ∧ k < n := by
  by_cases h : 0 ≤ k ∧ k < n
  · exact ⟨true, by simp [h]⟩
  · exact ⟨false, by simp [h]⟩
def wsOf (l : List Edge) : List ((Int × Int) × Bool) := l.map fun e => (wayE e, true)
theorem look_ws (l : List Edge) (w : Int × Int) : (look regF 133 4 (wsOf l) w).getD false = decide (w ∈ l.map wayE) := by
  by_cases h : w ∈ l.map wayE
  · have hobt := List.mem_map.1 h
    obtain ⟨e, he, rfl⟩ := hobt
    have h2 : ((wsOf l).find? fun p => regF.beq 133 p.1 (wayE e)).isSome = true := List.find?_isSome.2 ⟨(wayE e, true), List.mem_map.2 ⟨e, he, rfl⟩, (regF.same 133 _ _).2 rfl⟩
    have hobt := Option.isSome_iff_exists.1 h2
    obtain ⟨p, hp⟩ := hobt
    have hm := List.mem_of_find?_eq_some hp
    have hobt := List.mem_map.1 hm
    obtain ⟨e2, _, rfl⟩ := hobt
    rw [decide_eq_true h]
    unfold look
    rw [hp]; rfl
  · have := (look_none (R := regF) (K := 133) (V := 4) (es := wsOf l) (k := w) fun p hp e => h (by
      have hobt := List.mem_map.1 hp
      obtain ⟨e2, h1, rfl⟩ := hobt
      exact List.mem_map.2 ⟨e2, h1, e⟩)).1
    rw [this, decide_eq_false h]; rfl
theorem ins_ws {l : List Edge} {e : Edge} (h : wayE e ∉ l.map wayE) : ins regF 133 4 (wsOf l) (wayE e) true = wsOf (l ++ [e]) := by
  have := (look_none (R := regF) (K := 133) (V := 4) (es := wsOf l) (k := wayE e) fun p hp e1 => h (by
      have hobt := List.mem_map.1 hp
      obtain ⟨e2, h1, rfl⟩ := hobt
      exact List.mem_map.2 ⟨e2, h1, e1⟩)).2
  unfold ins
  rw [this]
  simp [wsOf]
def spRight : Spec AF where
  γ := Int × List Edge
  δ := Bool
  args := fun g => [layS g.1 g.2]
  own := fun _ => []
  pre := fun g => GoodL g.2
  nnew := 0
  res := fun _ c => vB c
  own' := fun _ _ => []
  post := fun g c => (c = true ↔ RightL g.1 g.2)
theorem m_right : Meets Tryd.prog regF 57 spRight := by
  refine meets Tryd.func57 72 noWr rfl (by kernel_rfl) (by kernel_rfl) ?_
  rintro ⟨(n : Int), (es : List Edge)⟩ ⟨(hl : es.length ≤ 9223372036854775807), (hg : ∀ e ∈ es, InI e.1 ∧ InI e.2.1)⟩
  conv => whnf
  repeat' (first | (refine tell (fun hQ => ?_) (fun hQ => ?_) <;> (try dsimp only at hQ) <;> first | (exfalso; omega) | (exact absurd rfl hQ) | (exact absurd (by decide) hQ) | (conv => whnf)) | (refine allG rfl ?_; conv => whnf) | (refine And.intro (by first | omega | assumption | kernel_rfl | exact And.intro rfl rfl | ((try dsimp only [inR, idx, lowOf]); first | omega | (with_reducible decide) | (simp; omega) | (simp; done) | fail) | fail) ?_; conv => whnf) | fail)
  refine ⟨Nat, fun i => ⟨[(1, .ptr 1001 0 2 0), (3, .fn (.func 83) [] [.ptr 1001 0 2 0]), (4, .mp 1009), (11, .lst 49 es), (12, vI es.length), (13, vI i)], [(1001, layC n es), (1009, .map 133 4 (wsOf (es.take i)))]⟩, fun i => i ≤ es.length ∧ (∀ e ∈ es.take i, EdgeOk n e) ∧ ((es.take i).map wayE).Nodup, fun i => es.length - i, fun _ _ => rfl, ⟨0, [], ⟨Nat.zero_le _, fun _ h => by simp at h, by simp⟩, ?_⟩, ?_⟩
  · refine ⟨rfl, ?_, ?_, rfl⟩
    all_goals (repeat' (first | exact trivial | exact rfl | refine And.intro ?_ ?_ | (refine congrArg vI ?_; first | omega | (dsimp only; omega) | fail) | (refine congrArg some ?_) | omega | exact Nat.le_refl _ | exact congrArg (SV.lst _) (List.take_of_length_le (Nat.le_refl _)).symm))
  rintro (i : Nat) ⟨(hi : i ≤ es.length), (hok : ∀ e ∈ es.take i, EdgeOk n e), (hnd : ((es.take i).map wayE).Nodup)⟩
  by_cases hlt : i < es.length
  · have hobt : ∃ e, es[i]? = some e := ⟨_, List.getElem?_eq_getElem hlt⟩
    obtain ⟨e, he⟩ := hobt
    have hmem : e ∈ es := List.mem_of_getElem? he
    have hobt := hg e hmem
    obtain ⟨hg1, hg2⟩ := hobt
    have htk : es.take (i + 1) = es.take i ++ [e] := by rw [List.take_add_one, he]; rfl
    have no : ¬ EdgeOk n e → ¬ RightL n es := fun h1 h2 => h1 (h2.each e hmem)
    conv => whnf
    repeat' (first | (refine tell (fun hQ => ?_) (fun hQ => ?_) <;> (try dsimp only at hQ) <;> first | (exfalso; omega) | (exact absurd rfl hQ) | (exact absurd (by decide) hQ) | (conv => whnf)) | (refine allG (x := e) (by first | exact he | simpa [List.getElem?_append_right, lowOf] using he | fail) ?_; conv => whnf) | (refine allLst (x := e) (by first | omega | assumption | fail) (by first | exact he | simpa using he | fail) ?_; conv => whnf) | (refine allG rfl ?_; conv => whnf) | (refine And.intro (by first | omega | assumption | kernel_rfl | exact And.intro rfl rfl | ((try dsimp only [inR, idx, lowOf]); first | omega | (with_reducible decide) | (simp; omega) | (simp; done) | fail) | fail) ?_; conv => whnf) | fail)
    refine ⟨_, m_node, (e.1, n, es), [1001], false, ?_⟩
    conv => whnf
    refine And.intro (vc0 trivial (by (repeat' (first | exact trivial | exact rfl | refine And.intro ?_ ?_ | (refine congrArg vI ?_; first | omega | (dsimp only; omega) | fail) | (refine congrArg some ?_) | omega | exact Nat.le_refl _ | exact congrArg (SV.lst _) (List.take_of_length_le (Nat.le_refl _)).symm))) (by repeat' (first | exact trivial | exact rfl | refine And.intro ?_ ?_ | (refine congrArg vI ?_; first | omega | (dsimp only; omega) | fail) | (refine congrArg some ?_) | omega | exact Nat.le_refl _ | exact congrArg (SV.lst _) (List.take_of_length_le (Nat.le_refl _)).symm)) trivial trivial) ?_
    refine And.intro (node_ex e.1 n) ?_
    intro (c : Bool) (hc : c = true ↔ 0 ≤ e.1 ∧ e.1 < n)
    cases c
    · have hr : ¬ RightL n es := no fun h => by have := hc.2 ⟨h.1, h.2.1⟩; cases this
      conv => whnf
      repeat' (first | (refine tell (fun hQ => ?_) (fun hQ => ?_) <;> (try dsimp only at hQ) <;> first | (exfalso; omega) | (exact absurd rfl hQ) | (exact absurd (by decide) hQ) | (conv => whnf)) | (refine allG rfl ?_; conv => whnf) | (refine And.intro (by first | omega | assumption | kernel_rfl | exact And.intro rfl rfl | ((try dsimp only [inR, idx, lowOf]); first | omega | (with_reducible decide) | (simp; omega) | (simp; done) | fail) | fail) ?_; conv => whnf) | fail)
      exact ⟨false, [], by simp [spRight, hr], rfl, trivial, trivial⟩
    have hc := hc.1 rfl
    conv => whnf
    repeat' (first | (refine tell (fun hQ => ?_) (fun hQ => ?_) <;> (try dsimp only at hQ) <;> first | (exfalso; omega) | (exact absurd rfl hQ) | (exact absurd (by decide) hQ) | (conv => whnf)) | (refine allG rfl ?_; conv => whnf) | (refine And.intro (by first | omega | assumption | kernel_rfl | exact And.intro rfl rfl | ((try dsimp only [inR, idx, lowOf]); first | omega | (with_reducible decide) | (simp; omega) | (simp; done) | fail) | fail) ?_; conv => whnf) | fail)
    refine ⟨_, m_node, (e.2.1, n, es), [1001], false, ?_⟩
    conv => whnf
    refine And.intro (vc0 trivial (by (repeat' (first | exact trivial | exact rfl | refine And.intro ?_ ?_ | (refine congrArg vI ?_; first | omega | (dsimp only; omega) | fail) | (refine congrArg some ?_) | omega | exact Nat.le_refl _ | exact congrArg (SV.lst _) (List.take_of_length_le (Nat.le_refl _)).symm))) (by repeat' (first | exact trivial | exact rfl | refine And.intro ?_ ?_ | (refine congrArg vI ?_; first | omega | (dsimp only; omega) | fail) | (refine congrArg some ?_) | omega | exact Nat.le_refl _ | exact congrArg (SV.lst _) (List.take_of_length_le (Nat.le_refl _)).symm)) trivial trivial) ?_
    refine And.intro (node_ex e.2.1 n) ?_
    intro (c : Bool) (hc2 : c = true ↔ 0 ≤ e.2.1 ∧ e.2.1 < n)
    cases c
    · have hr : ¬ RightL n es := no fun h => by have := hc2.2 ⟨h.2.2.1, h.2.2.2.1⟩; cases this
      conv => whnf
      repeat' (first | (refine tell (fun hQ => ?_) (fun hQ => ?_) <;> (try dsimp only at hQ) <;> first | (exfalso; omega) | (exact absurd rfl hQ) | (exact absurd (by decide) hQ) | (conv => whnf)) | (refine allG rfl ?_; conv => whnf) | (refine And.intro (by first | omega | assumption | kernel_rfl | exact And.intro rfl rfl | ((try dsimp only [inR, idx, lowOf]); first | omega | (with_reducible decide) | (simp; omega) | (simp; done) | fail) | fail) ?_; conv => whnf) | fail)
      exact ⟨false, [], by simp [spRight, hr], rfl, trivial, trivial⟩
    have hc2 := hc2.1 rfl
    conv => whnf
    repeat' (first | (refine tell (fun hQ => ?_) (fun hQ => ?_) <;> (try dsimp only at hQ) <;> first | (exfalso; omega) | (exact absurd rfl hQ) | (exact absurd (by decide) hQ) | (conv => whnf)) | (refine allG rfl ?_; conv => whnf) | (refine And.intro (by first | omega | assumption | kernel_rfl | exact And.intro rfl rfl | ((try dsimp only [inR, idx, lowOf]); first | omega | (with_reducible decide) | (simp; omega) | (simp; done) | fail) | fail) ?_; conv => whnf) | fail)
    · have hr := no fun h => h.2.2.2.2.1 (by assumption)
      exact ⟨false, [], by simp [spRight, hr], rfl, trivial, trivial⟩
    · have hr := no fun h => by have := h.2.2.2.2.2.1; omega
      exact ⟨false, [], by simp [spRight, hr], rfl, trivial, trivial⟩
    · have hr := no fun h => by have := h.2.2.2.2.2.2; omega
      exact ⟨false, [], by simp [spRight, hr], rfl, trivial, trivial⟩
    · have hedge : EdgeOk n e := ⟨hc.1, hc.2, hc2.1, hc2.2, by assumption, by omega, by omega⟩
      refine And.intro (show (_ ∧ _) ∧ (_ ∧ _) from ⟨hg1, hg2⟩) ?_
      conv => whnf
      refine allEqB ?_
      intro (y : Bool) hy
      have hy : y = decide (wayE e ∈ (es.take i).map wayE) := hy.trans (look_ws _ _)
      cases y
      · have hw : wayE e ∉ (es.take i).map wayE := of_decide_eq_false hy.symm
        conv => whnf
        repeat' (first | (refine tell (fun hQ => ?_) (fun hQ => ?_) <;> (try dsimp only at hQ) <;> first | (exfalso; omega) | (exact absurd rfl hQ) | (exact absurd (by decide) hQ) | (conv => whnf)) | (refine allG rfl ?_; conv => whnf) | (refine And.intro (by first | omega | assumption | kernel_rfl | exact And.intro rfl rfl | ((try dsimp only [inR, idx, lowOf]); first | omega | (with_reducible decide) | (simp; omega) | (simp; done) | fail) | fail) ?_; conv => whnf) | fail)
        refine And.intro (show (_ ∧ _) ∧ (_ ∧ _) from ⟨hg1, hg2⟩) ?_
        conv => whnf
        repeat' (first | (refine tell (fun hQ => ?_) (fun hQ => ?_) <;> (try dsimp only at hQ) <;> first | (exfalso; omega) | (exact absurd rfl hQ) | (exact absurd (by decide) hQ) | (conv => whnf)) | (refine allG rfl ?_; conv => whnf) | (refine And.intro (by first | omega | assumption | kernel_rfl | exact And.intro rfl rfl | ((try dsimp only [inR, idx, lowOf]); first | omega | (with_reducible decide) | (simp; omega) | (simp; done) | fail) | fail) ?_; conv => whnf) | fail)
        have hok' : ∀ x ∈ es.take (i + 1), EdgeOk n x := fun x hx => by
          rw [htk] at hx
          rcases List.mem_append.1 hx with hx | hx
          · exact hok x hx
          · simp at hx; subst hx; exact hedge
        refine ⟨i + 1, [], ⟨hlt, hok', by rw [htk, List.map_append, List.nodup_append]; exact ⟨hnd, by simp, fun x hx z hz => by simp at hz; subst hz; exact fun h => hw (h ▸ hx)⟩⟩, ?_, rfl, ?_, ?_, rfl⟩
        · dsimp only; first | omega | (simp; done) | (simp; omega)
        all_goals (repeat' (first | exact trivial | exact rfl | refine And.intro ?_ ?_ | (refine congrArg vI ?_; first | omega | (dsimp only; omega) | fail) | (refine congrArg some ?_) | omega | exact Nat.le_refl _ | exact congrArg (SV.lst _) (List.take_of_length_le (Nat.le_refl _)).symm))
        · exact congrArg (Ct.map (A := AF) 133 4) ((ins_ws hw).trans (by rw [htk]))
      · have hw : wayE e ∈ (es.take i).map wayE := of_decide_eq_true hy.symm
        have hr : ¬ RightL n es := fun h => by
          have h2 := h.apart
          have h3 : (es.take (i + 1)).map wayE = (es.take i).map wayE ++ [wayE e] := by rw [htk]; simp
          have h4 : ((es.take (i + 1)).map wayE).Nodup := by
            rw [← List.take_append_drop (i + 1) es, List.map_append, List.nodup_append] at h2
            exact h2.1
          rw [h3, List.nodup_append] at h4
          exact h4.2.2 _ hw _ (by simp) rfl
        conv => whnf
        repeat' (first | (refine tell (fun hQ => ?_) (fun hQ => ?_) <;> (try dsimp only at hQ) <;> first | (exfalso; omega) | (exact absurd rfl hQ) | (exact absurd (by decide) hQ) | (conv => whnf)) | (refine allG rfl ?_; conv => whnf) | (refine And.intro (by first | omega | assumption | kernel_rfl | exact And.intro rfl rfl | ((try dsimp only [inR, idx, lowOf]); first | omega | (with_reducible decide) | (simp; omega) | (simp; done) | fail) | fail) ?_; conv => whnf) | fail)
        exact ⟨false, [], by simp [spRight, hr], rfl, trivial, trivial⟩
  · have hi : i = es.length := by omega
    subst hi
    rw [List.take_of_length_le (Nat.le_refl _)] at hok hnd
    conv => whnf
    repeat' (first | (refine tell (fun hQ => ?_) (fun hQ => ?_) <;> (try dsimp only at hQ) <;> first | (exfalso; omega) | (exact absurd rfl hQ) | (exact absurd (by decide) hQ) | (conv => whnf)) | (refine allG rfl ?_; conv => whnf) | (refine And.intro (by first | omega | assumption | kernel_rfl | exact And.intro rfl rfl | ((try dsimp only [inR, idx, lowOf]); first | omega | (with_reducible decide) | (simp; omega) | (simp; done) | fail) | fail) ?_; conv => whnf) | fail)
    refine ⟨_, m_node, (0, n, es), [1001], false, ?_⟩
    conv => whnf
    refine And.intro (vc0 trivial (by (repeat' (first | exact trivial | exact rfl | refine And.intro ?_ ?_ | (refine congrArg vI ?_; first | omega | (dsimp only; omega) | fail) | (refine congrArg some ?_) | omega | exact Nat.le_refl _ | exact congrArg (SV.lst _) (List.take_of_length_le (Nat.le_refl _)).symm))) (by repeat' (first | exact trivial | exact rfl | refine And.intro ?_ ?_ | (refine congrArg vI ?_; first | omega | (dsimp only; omega) | fail) | (refine congrArg some ?_) | omega | exact Nat.le_refl _ | exact congrArg (SV.lst _) (List.take_of_length_le (Nat.le_refl _)).symm)) trivial trivial) ?_
    refine And.intro (node_ex 0 n) ?_
    intro (c : Bool) (hc : c = true ↔ 0 ≤ (0 : Int) ∧ 0 < n)
    cases c
    · have hr : ¬ RightL n es := fun h => by have := hc.2 ⟨Int.le_refl 0, h.pos⟩; cases this
      conv => whnf
      repeat' (first | (refine tell (fun hQ => ?_) (fun hQ => ?_) <;> (try dsimp only at hQ) <;> first | (exfalso; omega) | (exact absurd rfl hQ) | (exact absurd (by decide) hQ) | (conv => whnf)) | (refine allG rfl ?_; conv => whnf) | (refine And.intro (by first | omega | assumption | kernel_rfl | exact And.intro rfl rfl | ((try dsimp only [inR, idx, lowOf]); first | omega | (with_reducible decide) | (simp; omega) | (simp; done) | fail) | fail) ?_; conv => whnf) | fail)
      exact ⟨false, [], by simp [spRight, hr], rfl, trivial, trivial⟩
    have hc := (hc.1 rfl).2
    conv => whnf
    repeat' (first | (refine tell (fun hQ => ?_) (fun hQ => ?_) <;> (try dsimp only at hQ) <;> first | (exfalso; omega) | (exact absurd rfl hQ) | (exact absurd (by decide) hQ) | (conv => whnf)) | (refine allG rfl ?_; conv => whnf) | (refine And.intro (by first | omega | assumption | kernel_rfl | exact And.intro rfl rfl | ((try dsimp only [inR, idx, lowOf]); first | omega | (with_reducible decide) | (simp; omega) | (simp; done) | fail) | fail) ?_; conv => whnf) | fail)
    · have hr : RightL n es := ⟨hc, by assumption, by omega, hok, hnd⟩
      exact ⟨true, [], by simp [spRight, hr], rfl, trivial, trivial⟩
    · have hr : ¬ RightL n es := fun h => by have := h.len; omega
      exact ⟨false, [], by simp [spRight, hr], rfl, trivial, trivial⟩
    · have hr : ¬ RightL n es := fun h => by have := h.most; omega
      exact ⟨false, [], by simp [spRight, hr], rfl, trivial, trivial⟩
end Go.Sx

