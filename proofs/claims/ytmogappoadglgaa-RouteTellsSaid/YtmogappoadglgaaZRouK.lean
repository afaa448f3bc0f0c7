/-
  Layer 12, part K: slices.Grow of nothing (the kit's contract, laid), slices.Concat of two lists.
-/
import Derived.Shelf.Spec.SlicesGrow
import Derived.Test.YtmogappoadglgaaZRou
set_option linter.unusedVariables false
set_option linter.unusedSimpArgs false
namespace Go.Proofs
open Go.Shelf
def RouK.n4_ren : Go.Shelf.Ren := ⟨fun | 4 => 101 | n => n, fun | 22 => 42 | 25 => 3 | n => n, fun | n => n⟩
theorem RouK.n4 : Go.Proofs.Lays8.n4 Try.prog RouK.n4_ren := {
  mixed := by kernel_rfl
  f4 := ⟨Try.f101.name, by decide, Try.func101.trans (congrArg some (by kernel_rfl))⟩
  t0 := Try.underlying0
  a0 := Try.isAgg0
  z0 := Try.sizeOf0
  v0 := Try.zeroValue0
  t3 := Try.underlying3
  a3 := Try.isAgg3
  z3 := Try.sizeOf3
  v3 := Try.zeroValue3
  t4 := Try.underlying4
  a4 := Try.isAgg4
  z4 := Try.sizeOf4
  v4 := Try.zeroValue4
  t9 := Try.underlying9
  a9 := Try.isAgg9
  z9 := Try.sizeOf9
  v9 := Try.zeroValue9
  t20 := Try.underlying20
  a20 := Try.isAgg20
  z20 := Try.sizeOf20
  v20 := Try.zeroValue20
  t22 := Try.underlying42
  a22 := Try.isAgg42
  z22 := Try.sizeOf42
  v22 := Try.zeroValue42 }
end Go.Proofs
namespace Go.Sx
open Go Go.Proofs Go.Proofs.Ytmogappoadglgaa
def spGrow : Spec AF where
  γ := Nat
  δ := Unit
  args := fun k => [.val (.slice none 0 0), vI (k : Int)]
  own := fun _ => []
  pre := fun k => k ≤ 1000000
  nnew := 1
  res := fun _ _ => .sl 0 1 0 0
  own' := fun _ _ => [some (.arr 3 [])]
  post := fun _ _ => True
theorem m_grow : Meets Try.prog regF 101 spGrow := by
  refine ⟨⟨_, Try.func101, by kernel_rfl, by kernel_rfl⟩, ?_⟩
  rintro (k : Nat) (hk : k ≤ 1000000) X ρ w ⟨vs⟩ hX1 hX2 hargs hown
  obtain ⟨hl, hd⟩ := hargs
  match vs, hl with
  | [a, b], _ =>
    have ha := val_inv (hd 0 (.val (.slice none 0 0)) a rfl rfl)
    have hb := val_inv (hd 1 (vI (k : Int)) b rfl rfl)
    subst ha; subst hb
    by_cases h0 : k = 0
    · subst h0
      refine (Any8.slices_Grow_room RouK.n4 none 0 0 0 w (by omega) (by omega) (by omega) (by omega)).mono fun e w' h => ?_
      obtain ⟨rfl, rfl⟩ := h
      refine ⟨(), fun _ => none, _, trivial, rfl, fun h hh => absurd hh (Nat.not_lt_zero _), .slnil 0 1 rfl, ⟨fun h ct hh => ?_, fun h h' ct ct' b base base' h1 h2 h3 => by cases h3⟩, fun b hb => (by obtain ⟨_, _, _, _, h3⟩ := hb; cases h3), rfl, rfl, fun h ct hh => ?_, .refl⟩
      all_goals match h with
        | 0 => (simp [spGrow] at hh; subst hh; rfl)
        | h + 1 => simp [spGrow] at hh
    · obtain ⟨_, i0, _, hi0, _, hs0, hb0, hz0, _⟩ := tiOf_inv ((env_ok 0 noWr).tt 3 ti3 (by kernel_rfl))
      have hs0 : i0.size = 1 := hs0
      have hb0 : i0.bytes = 8 := hb0
      refine (Any8.slices_Grow_grow RouK.n4 i0 (.int .i64 0) hi0 hz0 (by omega) none 0 0 k [] w (by omega) (by omega) (by rw [hb0]; omega) (by omega) (by simp) (fun _ => rfl) (fun a h => by cases h)).mono fun e w' h => ?_
      obtain ⟨rfl, rfl⟩ := h
      have hG := grownCap_ge w (0 + k) 0 3
      obtain ⟨G, hGe⟩ : ∃ G, G = grownCap w (0 + k) 0 (RouK.n4_ren.t 25) := ⟨_, rfl⟩
      obtain ⟨cs, hcs⟩ : ∃ cs, cs = ([] : List Value).toArray ++ Builtin.zeroCells (Value.cells (.int .i64 0)) (0 + k - 0) ++ Builtin.zeroCells (Value.cells (.int .i64 0)) (grownCap w (0 + k) 0 (RouK.n4_ren.t 25) - (0 + k)) := ⟨_, rfl⟩
      have hsz : cs.size = G := by
        rw [hcs, hGe]
        have : RouK.n4_ren.t 25 = 3 := rfl
        rw [this]
        rw [Nat.zero_add] at hG ⊢
        simp [Builtin.zeroCells, Value.cells]
        omega
      rw [← hcs, ← hGe]
      have hheap : (w.drew.alloc (.cells cs (RouK.n4_ren.t 25))).heap[w.heap.size]? = some (.cells cs (RouK.n4_ren.t 25) (0, 0)) := by
        show (w.heap.push _)[w.heap.size]? = _
        simp
      refine ⟨(), fun _ => some (w.heap.size, 0), _, trivial, rfl, fun h hh => absurd hh (Nat.not_lt_zero _), .sl 0 1 0 0 G w.heap.size 0 0 cs _ _ rfl hheap (Nat.zero_le _) (.inr rfl) (by rw [hsz]; omega), ⟨fun h ct hh => ?_, fun h h' ct ct' b base base' h1 h2 h3 h4 => ?_⟩, fun b hb => ?_, rfl, rfl, fun h ct hh => ?_, ?_⟩
      · match h with
        | 0 =>
          simp [spGrow] at hh; subst hh
          exact .inr ⟨rfl, cs, _, _, hheap, .inl (Nat.le_refl _), by simp [Ct.flat], fun j s v h => by simp [Ct.flat] at h⟩
        | h + 1 => simp [spGrow] at hh
      · match h, h' with
        | 0, 0 => rfl
        | 0, h' + 1 => simp [spGrow] at h2
        | h + 1, _ => simp [spGrow] at h1
      · obtain ⟨_, _, _, _, h3⟩ := hb
        cases h3
        exact ⟨.inr (Nat.le_refl _), fun hx => by have := hX1 _ hx; omega⟩
      · match h with
        | 0 => (simp [spGrow] at hh; subst hh; rfl)
        | h + 1 => simp [spGrow] at hh
      · refine ⟨rfl, rfl, rfl, ?_, fun b hb _ => ?_, fun b c E fz h => ⟨c, fz, ?_, rfl⟩⟩
        · show _ ≤ (w.heap.push _).size
          simp
        · show (w.heap.push _)[b]? = _
          rw [Array.getElem?_push_lt hb, Array.getElem?_eq_getElem hb]
        · have hb := lt_of_heap h
          show (w.heap.push _)[b]? = _
          rw [Array.getElem?_push_lt hb, ← Array.getElem?_eq_getElem hb]; exact h
def spConcat : Spec AF where
  γ := List Int × List Int
  δ := Unit
  args := fun _ => [.sl 0 1 0 2]
  own := fun g => [.cells [.lst 3 g.1, .lst 3 g.2]]
  pre := fun g => g.1.length ≤ 100000 ∧ g.2.length ≤ 100000
  nnew := 1
  res := fun g _ => .sl 1 1 0 (g.1 ++ g.2).length
  own' := fun g _ => [some (.cells [.lst 3 g.1, .lst 3 g.2]), some (.arr 3 (g.1 ++ g.2))]
  post := fun _ _ => True
def catSum (a b : List Int) : Nat → Int
  | 0 => 0
  | 1 => a.length
  | _ => a.length + b.length
def catPre (a b : List Int) : Nat → List Int
  | 0 => []
  | 1 => a
  | _ => a ++ b
theorem m_concat : Meets Try.prog regF 90 spConcat := by
  refine meets Try.func90 36 noWr rfl (by kernel_rfl) (by kernel_rfl) ?_
  rintro ⟨(a : List Int), (b : List Int)⟩ ⟨(ha : a.length ≤ 100000), (hb : b.length ≤ 100000)⟩
  conv => whnf
  repeat' (first | (refine tell (fun htest => ?_) (fun htest => ?_) <;> (try dsimp only at htest) <;> first | (exfalso; omega) | (exact absurd rfl htest) | (exact absurd (by decide) htest) | (conv => whnf)) | (refine allG rfl ?_; conv => whnf) | (refine And.intro (by first | omega | assumption | kernel_rfl | exact And.intro rfl rfl | ((try dsimp only [inR, idx, lowOf]); first | omega | (with_reducible decide) | (simp; omega) | fail) | fail) ?_; conv => whnf) | fail)
  refine ⟨Nat, fun i => ⟨[(0, .sl 0 1 0 2), (3, vI (catSum a b i)), (9, .sl 0 1 0 2), (10, vI 2), (11, vI i)], [(0, .cells [.lst 3 a, .lst 3 b])]⟩, fun i => i ≤ 2, fun i => 2 - i, fun _ _ => rfl, ⟨0, [], Nat.zero_le _, ?_⟩, ?_⟩
  · refine ⟨rfl, ?_, ?_, rfl⟩
    all_goals (repeat' (first | exact trivial | exact rfl | refine And.intro ?_ ?_ | (refine congrArg vI ?_; first | omega | (dsimp only; omega) | fail) | (refine congrArg some ?_) | omega | exact Nat.le_refl _ | exact congrArg (SV.lst _) (List.take_of_length_le (Nat.le_refl _)).symm))
  rintro (i : Nat) (hi : i ≤ 2)
  match i, hi with
  | 0, _ =>
    have h0 : catSum a b 0 = 0 := rfl
    have h1 : catSum a b 1 = a.length := rfl
    conv => whnf
    repeat' (first | (refine tell (fun htest => ?_) (fun htest => ?_) <;> (try dsimp only at htest) <;> first | (exfalso; omega) | (exact absurd rfl htest) | (exact absurd (by decide) htest) | (conv => whnf)) | (refine allG rfl ?_; conv => whnf) | (refine And.intro (by first | omega | assumption | kernel_rfl | exact And.intro rfl rfl | ((try dsimp only [inR, idx, lowOf]); first | omega | (with_reducible decide) | (simp; omega) | fail) | fail) ?_; conv => whnf) | fail)
    refine ⟨1, [], (show 1 ≤ 2 by decide), ?_, rfl, ?_, ?_, rfl⟩
    · dsimp only; first | omega | (simp; done) | (simp; omega)
    all_goals (repeat' (first | exact trivial | exact rfl | refine And.intro ?_ ?_ | (refine congrArg vI ?_; first | omega | (dsimp only; omega) | fail) | (refine congrArg some ?_) | omega | exact Nat.le_refl _ | exact congrArg (SV.lst _) (List.take_of_length_le (Nat.le_refl _)).symm))
  | 1, _ =>
    have h0 : catSum a b 1 = a.length := rfl
    have h1 : catSum a b 2 = a.length + b.length := rfl
    conv => whnf
    repeat' (first | (refine tell (fun htest => ?_) (fun htest => ?_) <;> (try dsimp only at htest) <;> first | (exfalso; omega) | (exact absurd rfl htest) | (exact absurd (by decide) htest) | (conv => whnf)) | (refine allG rfl ?_; conv => whnf) | (refine And.intro (by first | omega | assumption | kernel_rfl | exact And.intro rfl rfl | ((try dsimp only [inR, idx, lowOf]); first | omega | (with_reducible decide) | (simp; omega) | fail) | fail) ?_; conv => whnf) | fail)
    refine ⟨2, [], (show 2 ≤ 2 by decide), ?_, rfl, ?_, ?_, rfl⟩
    · dsimp only; first | omega | (simp; done) | (simp; omega)
    all_goals (repeat' (first | exact trivial | exact rfl | refine And.intro ?_ ?_ | (refine congrArg vI ?_; first | omega | (dsimp only; omega) | fail) | (refine congrArg some ?_) | omega | exact Nat.le_refl _ | exact congrArg (SV.lst _) (List.take_of_length_le (Nat.le_refl _)).symm))
  | 2, _ =>
    have h1 : catSum a b 2 = ((a.length + b.length : Nat) : Int) := by show (a.length : Int) + b.length = _; omega
    conv => whnf
    repeat' (first | (refine tell (fun htest => ?_) (fun htest => ?_) <;> (try dsimp only at htest) <;> first | (exfalso; omega) | (exact absurd rfl htest) | (exact absurd (by decide) htest) | (conv => whnf)) | (refine allG rfl ?_; conv => whnf) | (refine And.intro (by first | omega | assumption | kernel_rfl | exact And.intro rfl rfl | ((try dsimp only [inR, idx, lowOf]); first | omega | (with_reducible decide) | (simp; omega) | fail) | fail) ?_; conv => whnf) | fail)
    refine ⟨_, m_grow, a.length + b.length, [], false, ?_⟩
    conv => whnf
    refine And.intro (vc0 (show a.length + b.length ≤ 1000000 by omega) (by (repeat' (first | exact trivial | exact rfl | refine And.intro ?_ ?_ | (refine congrArg vI ?_; first | omega | (dsimp only; omega) | fail) | (refine congrArg some ?_) | omega | exact Nat.le_refl _ | exact congrArg (SV.lst _) (List.take_of_length_le (Nat.le_refl _)).symm))) (by repeat' (first | exact trivial | exact rfl | refine And.intro ?_ ?_ | (refine congrArg vI ?_; first | omega | (dsimp only; omega) | fail) | (refine congrArg some ?_) | omega | exact Nat.le_refl _ | exact congrArg (SV.lst _) (List.take_of_length_le (Nat.le_refl _)).symm)) trivial trivial) ?_
    refine And.intro ⟨(), trivial⟩ (fun (_ : Unit) _ => ?_)
    conv => whnf
    conv => whnf
    repeat' (first | (refine tell (fun htest => ?_) (fun htest => ?_) <;> (try dsimp only at htest) <;> first | (exfalso; omega) | (exact absurd rfl htest) | (exact absurd (by decide) htest) | (conv => whnf)) | (refine allG rfl ?_; conv => whnf) | (refine And.intro (by first | omega | assumption | kernel_rfl | exact And.intro rfl rfl | ((try dsimp only [inR, idx, lowOf]); first | omega | (with_reducible decide) | (simp; omega) | fail) | fail) ?_; conv => whnf) | fail)
    refine ⟨Nat, fun i => ⟨[(25, .sl 0 1 0 2), (26, vI 2), (27, vI i), (6, .sl 3001 1 0 (catPre a b i).length)], [(0, .cells [.lst 3 a, .lst 3 b]), (3001, .arr 3 (catPre a b i))]⟩, fun i => i ≤ 2, fun i => 2 - i, fun _ _ => rfl, ⟨0, [(3001, 1024)], Nat.zero_le _, ?_⟩, ?_⟩
    · refine ⟨rfl, ?_, ?_, rfl⟩
      all_goals (repeat' (first | exact trivial | exact rfl | refine And.intro ?_ ?_ | (refine congrArg vI ?_; first | omega | (dsimp only; omega) | fail) | (refine congrArg some ?_) | omega | exact Nat.le_refl _ | exact congrArg (SV.lst _) (List.take_of_length_le (Nat.le_refl _)).symm))
    rintro (j : Nat) (hj : j ≤ 2)
    match j, hj with
    | 0, _ =>
      have g0 : (catPre a b 0).length = 0 := rfl
      have g1 : (catPre a b 1).length = a.length := rfl
      conv => whnf
      repeat' (first | (refine tell (fun htest => ?_) (fun htest => ?_) <;> (try dsimp only at htest) <;> first | (exfalso; omega) | (exact absurd rfl htest) | (exact absurd (by decide) htest) | (conv => whnf)) | (refine allG rfl ?_; conv => whnf) | (refine And.intro (by first | omega | assumption | kernel_rfl | exact And.intro rfl rfl | ((try dsimp only [inR, idx, lowOf]); first | omega | (with_reducible decide) | (simp; omega) | fail) | fail) ?_; conv => whnf) | fail)
      refine ⟨1, [(3001, 1033)], (show 1 ≤ 2 by decide), ?_, rfl, ?_, ?_, rfl⟩
      · dsimp only; first | omega | (simp; done) | (simp; omega)
      all_goals (repeat' (first | exact trivial | exact rfl | refine And.intro ?_ ?_ | (refine congrArg vI ?_; first | omega | (dsimp only; omega) | fail) | (refine congrArg some ?_) | omega | exact Nat.le_refl _ | exact congrArg (SV.lst _) (List.take_of_length_le (Nat.le_refl _)).symm))
      all_goals first | exact congrArg (SV.sl (A := AF) 1033 1 0) (show (catPre a b 0).length + a.length = (catPre a b 1).length by omega) | exact congrArg (Ct.arr (A := AF) 3) (show ((catPre a b 0).drop 0).take (catPre a b 0).length ++ a = catPre a b 1 by simp [catPre]) | fail
    | 1, _ =>
      have g0 : (catPre a b 1).length = a.length := rfl
      have g1 : (catPre a b 2).length = a.length + b.length := List.length_append
      conv => whnf
      repeat' (first | (refine tell (fun htest => ?_) (fun htest => ?_) <;> (try dsimp only at htest) <;> first | (exfalso; omega) | (exact absurd rfl htest) | (exact absurd (by decide) htest) | (conv => whnf)) | (refine allG rfl ?_; conv => whnf) | (refine And.intro (by first | omega | assumption | kernel_rfl | exact And.intro rfl rfl | ((try dsimp only [inR, idx, lowOf]); first | omega | (with_reducible decide) | (simp; omega) | fail) | fail) ?_; conv => whnf) | fail)
      refine ⟨2, [(3001, 1033)], (show 2 ≤ 2 by decide), ?_, rfl, ?_, ?_, rfl⟩
      · dsimp only; first | omega | (simp; done) | (simp; omega)
      all_goals (repeat' (first | exact trivial | exact rfl | refine And.intro ?_ ?_ | (refine congrArg vI ?_; first | omega | (dsimp only; omega) | fail) | (refine congrArg some ?_) | omega | exact Nat.le_refl _ | exact congrArg (SV.lst _) (List.take_of_length_le (Nat.le_refl _)).symm))
      all_goals first | exact congrArg (SV.sl (A := AF) 1033 1 0) (show (catPre a b 1).length + b.length = (catPre a b 2).length by omega) | exact congrArg (Ct.arr (A := AF) 3) (show ((catPre a b 1).drop 0).take (catPre a b 1).length ++ b = catPre a b 2 by simp [catPre]) | fail
    | 2, _ =>
      conv => whnf
      repeat' (first | (refine tell (fun htest => ?_) (fun htest => ?_) <;> (try dsimp only at htest) <;> first | (exfalso; omega) | (exact absurd rfl htest) | (exact absurd (by decide) htest) | (conv => whnf)) | (refine allG rfl ?_; conv => whnf) | (refine And.intro (by first | omega | assumption | kernel_rfl | exact And.intro rfl rfl | ((try dsimp only [inR, idx, lowOf]); first | omega | (with_reducible decide) | (simp; omega) | fail) | fail) ?_; conv => whnf) | fail)
      exact ⟨(), [3001], trivial, rfl, ⟨⟨rfl, rfl, trivial⟩, rfl, trivial⟩, trivial⟩
theorem den_nil {R : Reg AF} {ρ : Rho} {O : Nat → Prop} {w : World} {v : Value} (T : Nat) (h : Den R ρ O w (.val (.slice none 0 0)) v) : Den R ρ O w (.lst T []) v := by
  cases h; exact .lnil T 0 rfl
/-- A function that meets one of several specifications, case by case, meets this one. -/
theorem meets_told {f : Nat} {S' : Spec AF} (he : Enters Try.prog f) (hp : ∀ g', S'.pre g' → ∃ (S : Spec AF) (_ : Meets Try.prog regF f S) (g : S.γ), S.pre g ∧ S.args g = S'.args g' ∧ S.own g = S'.own g' ∧ S.nnew = S'.nnew ∧
    ∀ d, S.post g d → ∃ d', S'.post g' d' ∧ S'.own' g' d' = S.own' g d ∧ (∀ ρ O w v, Den regF ρ O w (S.res g d) v → Den regF ρ O w (S'.res g' d') v) ∧ (∀ n : Nat → Bool, men n (S.res g d) = true → men n (S'.res g' d') = true)) : Meets Try.prog regF f S' := by
  refine ⟨he, fun g' hg' X ρ w vs h1 h2 h3 h4 => ?_⟩
  obtain ⟨S, hm, g, hg, ea, eo, en, hd⟩ := hp g' hg'
  rw [← ea] at h3
  rw [← eo] at h2 h3 h4
  refine (hm.2 g hg X ρ w vs h1 h2 h3 h4).mono fun e w' hh => ?_
  obtain ⟨d, ρ', v, q1, q2, q3, q4, q5, q6, q7, q8, q9, q10⟩ := hh
  obtain ⟨d', p1, p2, p3, p4⟩ := hd d q1
  refine ⟨d', ρ', v, p1, q2, ?_, ?_, ?_, ?_, ?_, ?_, ?_, ?_⟩
  · rw [← eo]; exact q3
  · rw [p2]; exact p3 _ _ _ _ q4
  · rw [p2]; exact q5
  · rw [p2, ← eo]; exact q6
  · rw [p2, ← eo, ← en]; exact q7
  · rw [← eo, ← en]; exact p4 _ q8
  · rw [p2, ← eo, ← en]; exact q9
  · rw [← eo]; exact q10
/-- Route's answer, whatever is asked. -/
def InR (n : Int) (es : List Edge) (a t : Int) : Prop := RightL n es ∧ (0 ≤ a ∧ a < n) ∧ (0 ≤ t ∧ t < n)
def RouteR (n : Int) (es : List Edge) (bl : List Int) (a t : Int) (p : List Int × Int) : Prop :=
  (¬ InR n es a t ∧ p = ([], 1)) ∨ (InR n es a t ∧ farV es bl t a = -1 ∧ p = ([], 120)) ∨ (InR n es a t ∧ 0 ≤ farV es bl t a ∧ RouteP es bl t a p.1 ∧ p.2 = 0)
section
variable {n : Int} {es : List Edge} {bl : List Int} {a t : Int} {p q : List Int × Int}
theorem routeR_ex (n : Int) (es : List Edge) (bl : List Int) (a t : Int) : ∃ p, RouteR n es bl a t p := by
  by_cases h : InR n es a t
  · rcases farV_ge (bl := bl) (t := t) h.1 a with hf | hf
    · exact ⟨_, .inr (.inl ⟨h, hf, rfl⟩)⟩
    · obtain ⟨r, hr⟩ := route_ex h.1 _ _ hf (Int.le_of_eq (Int.toNat_of_nonneg hf).symm)
      exact ⟨(r, 0), .inr (.inr ⟨h, hf, hr, rfl⟩)⟩
  · exact ⟨_, .inl ⟨h, rfl⟩⟩
theorem routeR_one (h : RouteR n es bl a t p) (g : RouteR n es bl a t q) : p = q := by
  rcases h with ⟨h, rfl⟩ | ⟨h, hf, rfl⟩ | ⟨h, hf, hr, hp⟩ <;> rcases g with ⟨g, rfl⟩ | ⟨g, gf, rfl⟩ | ⟨g, gf, gr, gp⟩ <;> first | rfl | contradiction | (exfalso; omega) | skip
  exact Prod.ext (route_one hr gr) (hp.trans gp.symm)
theorem routeR_len (h : RouteR n es bl a t p) : p.1.length ≤ 40000 := by
  rcases h with ⟨h, rfl⟩ | ⟨h, hf, rfl⟩ | ⟨h, hf, hr, hp⟩
  · exact Nat.zero_le _
  · exact Nat.zero_le _
  · have h1 := route_len h.1 hr
    have h2 := farV_bd h.1 h.2.2.1 h.2.2.2 (bl := bl) a
    omega
theorem routeR_code (h : RouteR n es bl a t p) : p.2 = 1 ∨ p.2 = 120 ∨ p.2 = 0 := by
  rcases h with ⟨h, rfl⟩ | ⟨h, hf, rfl⟩ | ⟨h, hf, hr, hp⟩
  · exact .inl rfl
  · exact .inr (.inl rfl)
  · exact .inr (.inr hp)
end
def spRouteU : Spec AF where
  γ := (Int × List Edge) × List Int × Int × Int
  δ := List Int × Int
  args := fun g => [layS g.1.1 g.1.2, .lst 3 g.2.1, vI g.2.2.1, vI g.2.2.2]
  own := fun _ => []
  pre := fun g => GoodL g.1.2 ∧ g.2.1.length ≤ 9223372036854775807
  nnew := 0
  res := fun _ p => .tup [.lst 3 p.1, vI p.2]
  own' := fun _ _ => []
  post := fun g p => RouteR g.1.1 g.1.2 g.2.1 g.2.2.1 g.2.2.2 p
theorem den_pair {ρ : Rho} {O : Nat → Prop} {w : World} {a b : SV AF} {k : Int} {v : Value} (h : Den regF ρ O w (.tup [a, vI k]) v) (hab : ∀ x, Den regF ρ O w a x → Den regF ρ O w b x) : Den regF ρ O w (.tup [b, vI k]) v := by
  cases h with
  | tup _ vs hl hd =>
    refine .tup _ vs hl fun j s v hs hv => ?_
    match j with
    | 0 => simp at hs; subst hs; exact hab _ (hd 0 _ _ rfl hv)
    | 1 => simp at hs; subst hs; exact hd 1 _ _ rfl hv
    | j + 2 => simp at hs
theorem m_routeU : Meets Try.prog regF 54 spRouteU := by
  refine meets_told m_route.1 fun g hg => ?_
  obtain ⟨⟨(n : Int), (es : List Edge)⟩, (bl : List Int), (a : Int), (t : Int)⟩ := g
  obtain ⟨(hg : GoodL es), (hbl : bl.length ≤ 9223372036854775807)⟩ := hg
  by_cases h : InR n es a t
  · rcases farV_ge (bl := bl) (t := t) h.1 a with hf | hf
    · exact ⟨spRouteE, m_routeE, ((n, es), bl, a, t), ⟨h.1, h.2.1, h.2.2, hg, hbl, hf⟩, rfl, rfl, rfl, fun d hd => ⟨(([], 120) : List Int × Int), .inr (.inl ⟨h, hf, rfl⟩), rfl, fun ρ O w v hv => den_pair hv fun _ => den_nil 3, fun _ _ => rfl⟩⟩
    · exact ⟨spRoute, m_route, ((n, es), bl, a, t), ⟨h.1, h.2.1, h.2.2, hg, hbl, hf⟩, rfl, rfl, rfl, fun (d : List Int) hd => ⟨((d, 0) : List Int × Int), .inr (.inr ⟨h, hf, hd, rfl⟩), rfl, fun ρ O w v hv => hv, fun _ _ => rfl⟩⟩
  · exact ⟨spRouteA, m_routeA, ((n, es), bl, a, t), ⟨h, hg, hbl⟩, rfl, rfl, rfl, fun d hd => ⟨(([], 1) : List Int × Int), .inl ⟨h, rfl⟩, rfl, fun ρ O w v hv => den_pair hv fun _ => den_nil 3, fun _ _ => rfl⟩⟩
def TourR (n : Int) (es : List Edge) (bl : List Int) (a b c : Int) (p : List Int × Int) : Prop :=
  ∃ x, RouteR n es bl a b x ∧ ((x.2 ≠ 0 ∧ p = ([], x.2)) ∨ (x.2 = 0 ∧ ∃ y, RouteR n es bl b c y ∧ ((y.2 ≠ 0 ∧ p = ([], y.2)) ∨ (y.2 = 0 ∧ p = (x.1 ++ y.1, 0)))))
theorem tourR_ex (n : Int) (es : List Edge) (bl : List Int) (a b c : Int) : ∃ p, TourR n es bl a b c p := by
  obtain ⟨x, hx⟩ := routeR_ex n es bl a b
  obtain ⟨y, hy⟩ := routeR_ex n es bl b c
  by_cases h : x.2 = 0
  · by_cases g : y.2 = 0
    · exact ⟨_, x, hx, .inr ⟨h, y, hy, .inr ⟨g, rfl⟩⟩⟩
    · exact ⟨_, x, hx, .inr ⟨h, y, hy, .inl ⟨g, rfl⟩⟩⟩
  · exact ⟨_, x, hx, .inl ⟨h, rfl⟩⟩
theorem tourR_one {n : Int} {es : List Edge} {bl : List Int} {a b c : Int} {p q : List Int × Int} (h : TourR n es bl a b c p) (g : TourR n es bl a b c q) : p = q := by
  obtain ⟨x, hx, h⟩ := h
  obtain ⟨x', hx', g⟩ := g
  obtain rfl := routeR_one hx hx'
  rcases h with ⟨h1, rfl⟩ | ⟨h1, y, hy, h⟩ <;> rcases g with ⟨g1, rfl⟩ | ⟨g1, y', hy', g⟩ <;> first | rfl | contradiction | skip
  obtain rfl := routeR_one hy hy'
  rcases h with ⟨h2, rfl⟩ | ⟨h2, rfl⟩ <;> rcases g with ⟨g2, rfl⟩ | ⟨g2, rfl⟩ <;> first | rfl | contradiction
theorem tourR_len {n : Int} {es : List Edge} {bl : List Int} {a b c : Int} {p : List Int × Int} (h : TourR n es bl a b c p) : p.1.length ≤ 80000 := by
  obtain ⟨x, hx, h⟩ := h
  have h1 := routeR_len hx
  rcases h with ⟨_, rfl⟩ | ⟨_, y, hy, h⟩
  · exact Nat.zero_le _
  · have h2 := routeR_len hy
    rcases h with ⟨_, rfl⟩ | ⟨_, rfl⟩
    · exact Nat.zero_le _
    · simp; omega
def spTour : Spec AF where
  γ := (Int × List Edge) × List Int × Int × Int × Int
  δ := List Int × Int
  args := fun g => [layS g.1.1 g.1.2, .lst 3 g.2.1, vI g.2.2.1, vI g.2.2.2.1, vI g.2.2.2.2]
  own := fun _ => []
  pre := fun g => GoodL g.1.2 ∧ g.2.1.length ≤ 9223372036854775807
  nnew := 0
  res := fun _ p => .tup [.lst 3 p.1, vI p.2]
  own' := fun _ _ => []
  post := fun g p => TourR g.1.1 g.1.2 g.2.1 g.2.2.1 g.2.2.2.1 g.2.2.2.2 p
theorem m_tour : Meets Try.prog regF 59 spTour := by
  refine meets Try.func59 41 noWr rfl (by kernel_rfl) (by kernel_rfl) ?_
  rintro ⟨⟨(n : Int), (es : List Edge)⟩, (bl : List Int), (a : Int), (b : Int), (c : Int)⟩ ⟨(hg : GoodL es), (hbl : bl.length ≤ 9223372036854775807)⟩
  conv => whnf
  repeat' (first | (refine tell (fun htest => ?_) (fun htest => ?_) <;> (try dsimp only at htest) <;> first | (exfalso; omega) | (exact absurd rfl htest) | (exact absurd (by decide) htest) | (conv => whnf)) | (refine allG rfl ?_; conv => whnf) | (refine And.intro (by first | omega | assumption | kernel_rfl | exact And.intro rfl rfl | ((try dsimp only [inR, idx, lowOf]); first | omega | (with_reducible decide) | (simp; omega) | fail) | fail) ?_; conv => whnf) | fail)
  refine ⟨_, m_routeU, ((n, es), bl, a, b), [], false, ?_⟩
  conv => whnf
  refine And.intro (vc0 ⟨hg, hbl⟩ (by (repeat' (first | exact trivial | exact rfl | refine And.intro ?_ ?_ | (refine congrArg vI ?_; first | omega | (dsimp only; omega) | fail) | (refine congrArg some ?_) | omega | exact Nat.le_refl _ | exact congrArg (SV.lst _) (List.take_of_length_le (Nat.le_refl _)).symm))) (by repeat' (first | exact trivial | exact rfl | refine And.intro ?_ ?_ | (refine congrArg vI ?_; first | omega | (dsimp only; omega) | fail) | (refine congrArg some ?_) | omega | exact Nat.le_refl _ | exact congrArg (SV.lst _) (List.take_of_length_le (Nat.le_refl _)).symm)) trivial trivial) ?_
  refine And.intro (routeR_ex _ _ _ _ _) ?_
  rintro ⟨(x : List Int), (e : Int)⟩ (hx : RouteR n es bl a b (x, e))
  have hxl : x.length ≤ 40000 := routeR_len hx
  by_cases he : e = 0
  · conv => whnf
    repeat' (first | (refine tell (fun htest => ?_) (fun htest => ?_) <;> (try dsimp only at htest) <;> first | (exfalso; omega) | (exact absurd rfl htest) | (exact absurd (by decide) htest) | (conv => whnf)) | (refine allG rfl ?_; conv => whnf) | (refine And.intro (by first | omega | assumption | kernel_rfl | exact And.intro rfl rfl | ((try dsimp only [inR, idx, lowOf]); first | omega | (with_reducible decide) | (simp; omega) | fail) | fail) ?_; conv => whnf) | fail)
    refine ⟨_, m_routeU, ((n, es), bl, b, c), [], false, ?_⟩
    conv => whnf
    refine And.intro (vc0 ⟨hg, hbl⟩ (by (repeat' (first | exact trivial | exact rfl | refine And.intro ?_ ?_ | (refine congrArg vI ?_; first | omega | (dsimp only; omega) | fail) | (refine congrArg some ?_) | omega | exact Nat.le_refl _ | exact congrArg (SV.lst _) (List.take_of_length_le (Nat.le_refl _)).symm))) (by repeat' (first | exact trivial | exact rfl | refine And.intro ?_ ?_ | (refine congrArg vI ?_; first | omega | (dsimp only; omega) | fail) | (refine congrArg some ?_) | omega | exact Nat.le_refl _ | exact congrArg (SV.lst _) (List.take_of_length_le (Nat.le_refl _)).symm)) trivial trivial) ?_
    refine And.intro (routeR_ex _ _ _ _ _) ?_
    rintro ⟨(y : List Int), (f : Int)⟩ (hy : RouteR n es bl b c (y, f))
    have hyl : y.length ≤ 40000 := routeR_len hy
    by_cases hf : f = 0
    · conv => whnf
      repeat' (first | (refine tell (fun htest => ?_) (fun htest => ?_) <;> (try dsimp only at htest) <;> first | (exfalso; omega) | (exact absurd rfl htest) | (exact absurd (by decide) htest) | (conv => whnf)) | (refine allG rfl ?_; conv => whnf) | (refine And.intro (by first | omega | assumption | kernel_rfl | exact And.intro rfl rfl | ((try dsimp only [inR, idx, lowOf]); first | omega | (with_reducible decide) | (simp; omega) | fail) | fail) ?_; conv => whnf) | fail)
      refine ⟨_, m_concat, (x, y), [1039], false, ?_⟩
      conv => whnf
      refine And.intro (vc0 ⟨(show x.length ≤ 100000 by omega), (show y.length ≤ 100000 by omega)⟩ (by (repeat' (first | exact trivial | exact rfl | refine And.intro ?_ ?_ | (refine congrArg vI ?_; first | omega | (dsimp only; omega) | fail) | (refine congrArg some ?_) | omega | exact Nat.le_refl _ | exact congrArg (SV.lst _) (List.take_of_length_le (Nat.le_refl _)).symm))) (by repeat' (first | exact trivial | exact rfl | refine And.intro ?_ ?_ | (refine congrArg vI ?_; first | omega | (dsimp only; omega) | fail) | (refine congrArg some ?_) | omega | exact Nat.le_refl _ | exact congrArg (SV.lst _) (List.take_of_length_le (Nat.le_refl _)).symm)) trivial trivial) ?_
      refine And.intro ⟨(), trivial⟩ (fun (_ : Unit) _ => ?_)
      conv => whnf
      conv => whnf
      repeat' (first | (refine tell (fun htest => ?_) (fun htest => ?_) <;> (try dsimp only at htest) <;> first | (exfalso; omega) | (exact absurd rfl htest) | (exact absurd (by decide) htest) | (conv => whnf)) | (refine allG rfl ?_; conv => whnf) | (refine And.intro (by first | omega | assumption | kernel_rfl | exact And.intro rfl rfl | ((try dsimp only [inR, idx, lowOf]); first | omega | (with_reducible decide) | (simp; omega) | fail) | fail) ?_; conv => whnf) | fail)
      refine ⟨(x ++ y, 0), [], ⟨_, hx, .inr ⟨he, _, hy, .inr ⟨hf, rfl⟩⟩⟩, ⟨⟨?_, rfl, ?_⟩, rfl, trivial⟩, trivial, trivial⟩
      · show 0 + (x ++ y).length ≤ (x ++ y).length
        omega
      · exact congrArg (SV.lst (A := AF) 3) (show x ++ y = ((x ++ y).drop 0).take (x ++ y).length by rw [List.drop_zero, List.take_of_length_le (Nat.le_refl _)])
    · conv => whnf
      repeat' (first | (refine tell (fun htest => ?_) (fun htest => ?_) <;> (try dsimp only at htest) <;> first | (exfalso; omega) | (exact absurd rfl htest) | (exact absurd (by decide) htest) | (conv => whnf)) | (refine allG rfl ?_; conv => whnf) | (refine And.intro (by first | omega | assumption | kernel_rfl | exact And.intro rfl rfl | ((try dsimp only [inR, idx, lowOf]); first | omega | (with_reducible decide) | (simp; omega) | fail) | fail) ?_; conv => whnf) | fail)
      exact ⟨([], f), [], ⟨_, hx, .inr ⟨he, _, hy, .inl ⟨hf, rfl⟩⟩⟩, ⟨rfl, rfl, trivial⟩, trivial, trivial⟩
  · conv => whnf
    repeat' (first | (refine tell (fun htest => ?_) (fun htest => ?_) <;> (try dsimp only at htest) <;> first | (exfalso; omega) | (exact absurd rfl htest) | (exact absurd (by decide) htest) | (conv => whnf)) | (refine allG rfl ?_; conv => whnf) | (refine And.intro (by first | omega | assumption | kernel_rfl | exact And.intro rfl rfl | ((try dsimp only [inR, idx, lowOf]); first | omega | (with_reducible decide) | (simp; omega) | fail) | fail) ?_; conv => whnf) | fail)
    exact ⟨([], e), [], ⟨_, hx, .inl ⟨he, rfl⟩⟩, ⟨rfl, rfl, trivial⟩, trivial, trivial⟩
end Go.Sx

