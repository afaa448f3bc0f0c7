/-
  Layer 13 at the door: from, begins.
-/
import Derived.Test.YtmogappoadglgaaDoorZWalN0
import Derived.Test.YtmogappoadglgaaDoorZIteB
set_option linter.unusedVariables false
set_option linter.unusedSimpArgs false
namespace Go.Sx
open Go Go.Proofs Go.Proofs.YtmogappoadglgaaDoor
def baseO (o : OrdT) : List Int := baseN o.2.2.2.2.1 o.2.2.2.2.2 o.2.2.2.2.2.length
def HasN (o : OrdT) (n0 : Int) : Prop := n0 ∈ evN (baseO o) (((baseO o).length + 1) / 2)
/-- An order that begins at n0: at a released node of those ahead of it that have one number. -/
def FromP (ol : List OrdT) (n0 : Int) : Prop := ∃ (k : Nat) (e : OrdT), ol[k]? = some e ∧ (∀ (j : Nat) (x y : OrdT), k ≤ j → ol[j]? = some x → ol[ol.length - 1]? = some y → x.2.2.1 = y.2.2.1) ∧ HasN e n0
theorem from_no {ol : List OrdT} {n0 : Int} {i : Nat} {e l : OrdT} (hall : ∀ (j : Nat) (x : OrdT), ol.length - i ≤ j → ol[j]? = some x → ¬ HasN x n0) (hi : i < ol.length) (he : ol[ol.length - 1 - i]? = some e) (hl : ol[ol.length - 1]? = some l) (hne : e.2.2.1 ≠ l.2.2.1) : ¬ FromP ol n0 := by
  rintro ⟨k, x, hx, hsame, hh⟩
  by_cases hk : ol.length - i ≤ k
  · exact hall k x hk hx hh
  · exact hne (hsame (ol.length - 1 - i) e l (by omega) he hl)
theorem from_none {ol : List OrdT} {n0 : Int} (hall : ∀ (j : Nat) (x : OrdT), ol[j]? = some x → ¬ HasN x n0) : ¬ FromP ol n0 := by
  rintro ⟨k, x, hx, _, hh⟩
  exact hall k x hx hh
theorem base_len41 {o : OrdT} (h : RightO o) : (baseO o).length ≤ 200 := by
  have := baseN_len o.2.2.2.2.1 o.2.2.2.2.2 o.2.2.2.2.2.length
  have h1 := h.1.2.2.2.1
  have h2 := h.1.2.2.2.2
  unfold baseO
  omega
def spBackS : Spec AF where
  γ := List OrdT
  δ := Unit
  args := fun ol => [.lst 34 (ol.map toE)]
  own := fun _ => []
  pre := fun _ => True
  nnew := 1
  res := fun _ _ => .fn (.func 107) [] [.ptr 0 0 1 0]
  own' := fun ol _ => [some (.cells [.lst 34 (ol.map toE)])]
  post := fun _ _ => True
theorem m_backS : Meets Tryd.prog regF 85 spBackS := by
  refine meets Tryd.func85 4 noWr rfl (by kernel_rfl) (by kernel_rfl) ?_
  rintro (ol : List OrdT) _
  conv => whnf
  repeat' (first | (refine tell (fun hQ => ?_) (fun hQ => ?_) <;> (try dsimp only at hQ) <;> first | (exfalso; omega) | (exact absurd rfl hQ) | (exact absurd hQ hne) | (exact absurd hne hQ) | (exact absurd (by decide) hQ) | (conv => whnf)) | (refine allG rfl ?_; conv => whnf) | (refine And.intro (by first | omega | assumption | kernel_rfl | exact And.intro rfl rfl | ((try dsimp only [inR, idx, lowOf]); first | omega | (with_reducible decide) | (simp; omega) | (simp; done) | fail) | fail) ?_; conv => whnf) | fail)
  exact ⟨(), [1001], trivial, rfl, ⟨⟨rfl, trivial⟩, trivial⟩, trivial⟩
def spFrom : Spec AF where
  γ := List OrdT × OrdT
  δ := Bool
  args := fun g => [.lst 34 (g.1.map toE), ordS g.2]
  own := fun _ => []
  pre := fun g => (∀ o ∈ g.1, RightO o) ∧ RightO g.2 ∧ 1 ≤ g.1.length ∧ g.1.length ≤ 1000
  nnew := 0
  res := fun _ c => vB c
  own' := fun _ _ => []
  post := fun g c => (c = true ↔ FromP g.1 (g.2.2.2.2.2.1.getD 0 (0, 0, false)).1)
set_option maxHeartbeats 3200000 in
set_option maxRecDepth 100000 in
theorem m_from : Meets Tryd.prog regF 60 spFrom := by
  refine meets Tryd.func60 30 noWr rfl (by kernel_rfl) (by kernel_rfl) ?_
  rintro ⟨(ol : List OrdT), ⟨(h : Int), (v : List UInt8), (od : Int), (up : Int), (ns : List Stp), (es : List Stp)⟩⟩ ⟨(hall : ∀ o ∈ ol, RightO o), (hr : RightO (h, v, od, up, ns, es)), (hl1 : 1 ≤ ol.length), (hl2 : ol.length ≤ 1000)⟩
  have hL1 : 1 ≤ ns.length := hr.1.2.2.1
  have hobt : ∃ y, ns[0]? = some y := ⟨_, List.getElem?_eq_getElem (by omega)⟩
  obtain ⟨⟨(n0 : Int), (s0 : Int), (r0 : Bool)⟩, hf0⟩ := hobt
  have fin : ∀ c : Bool, (c = true ↔ FromP ol n0) → spFrom.post (ol, (h, v, od, up, ns, es)) c := fun c hc => by
    show c = true ↔ FromP ol (ns.getD 0 (0, 0, false)).1
    rw [List.getD_eq_getElem?_getD, hf0]; exact hc
  have hml : (ol.map toE).length = ol.length := List.length_map ..
  have hobt : ∃ y, ol[ol.length - 1]? = some y := ⟨_, List.getElem?_eq_getElem (by omega)⟩
  obtain ⟨l, hl⟩ := hobt
  have hlm0 : 0 ≤ ((ol.map toE).length : Int) - 1 := by omega
  have hlm : (ol.map toE)[(((ol.map toE).length : Int) - 1).toNat]? = some (toE l) := by
    rw [hml, show ((ol.length : Int) - 1).toNat = ol.length - 1 by omega, List.getElem?_map, hl]; rfl
  conv => whnf
  repeat' (first | (refine tell (fun hQ => ?_) (fun hQ => ?_) <;> (try dsimp only at hQ) <;> first | (exfalso; omega) | (exact absurd rfl hQ) | (exact absurd hQ hne) | (exact absurd hne hQ) | (exact absurd (by decide) hQ) | (conv => whnf)) | (refine allG rfl ?_; conv => whnf) | (refine And.intro (by first | omega | assumption | kernel_rfl | exact And.intro rfl rfl | ((try dsimp only [inR, idx, lowOf]); first | omega | (with_reducible decide) | (simp; omega) | (simp; done) | fail) | fail) ?_; conv => whnf) | fail)
  refine ⟨_, m_backS, ol, [], false, ?_⟩
  conv => whnf
  refine And.intro (vc0 trivial (by (repeat' (first | exact trivial | exact rfl | refine And.intro ?_ ?_ | (refine congrArg vI ?_; first | omega | (dsimp only; omega) | fail) | (refine congrArg some ?_) | omega | exact Nat.le_refl _ | exact congrArg (SV.lst _) (List.take_of_length_le (Nat.le_refl _)).symm))) (by repeat' (first | exact trivial | exact rfl | refine And.intro ?_ ?_ | (refine congrArg vI ?_; first | omega | (dsimp only; omega) | fail) | (refine congrArg some ?_) | omega | exact Nat.le_refl _ | exact congrArg (SV.lst _) (List.take_of_length_le (Nat.le_refl _)).symm)) trivial trivial) ?_
  refine And.intro ⟨(), trivial⟩ (fun (_ : Unit) _ => ?_)
  conv => whnf
  conv => whnf
  repeat' (first | (refine tell (fun hQ => ?_) (fun hQ => ?_) <;> (try dsimp only at hQ) <;> first | (exfalso; omega) | (exact absurd rfl hQ) | (exact absurd hQ hne) | (exact absurd hne hQ) | (exact absurd (by decide) hQ) | (conv => whnf)) | (refine allG rfl ?_; conv => whnf) | (refine And.intro (by first | omega | assumption | kernel_rfl | exact And.intro rfl rfl | ((try dsimp only [inR, idx, lowOf]); first | omega | (with_reducible decide) | (simp; omega) | (simp; done) | fail) | fail) ?_; conv => whnf) | fail)
  refine .inr ⟨[.cells [.lst 34 (ol.map toE)]], [.ptr 0 0 1 0], [1008], outsBack ol, it_back ol (by omega), Unit, [(2, .ptr 10 0 1 0), (3, .ptr 11 0 6 0), (4, .ptr 12 0 1 0)], fun _ => [(10, .cells [.lst 34 (ol.map toE)]), (11, .cells [vI h, vS v, vI od, vI up, .lst 46 ns, .lst 95 es]), (12, .cells [vB false])], fun i _ => i ≤ ol.length ∧ ∀ (j : Nat) (x : OrdT), ol.length - i ≤ j → ol[j]? = some x → ¬ HasN x n0 ∧ x.2.2.1 = l.2.2.1, ⟨rfl, rfl, ⟨rfl, trivial⟩, rfl⟩, fun _ _ _ => rfl, ⟨(), [(10, 1002), (11, 1003), (12, 1004)], ⟨Nat.zero_le _, fun j x hj hx => absurd (List.getElem?_eq_some_iff.1 hx).1 (by omega)⟩, ?_, ?_, rfl⟩, ?_, ?_⟩
  · repeat' (first | exact trivial | exact rfl | refine And.intro ?_ ?_)
  · repeat' (first | exact trivial | exact rfl | refine And.intro ?_ ?_)
  · rintro i _ o ⟨hi, hno⟩ ho
    have hobt := outsBack_get ho
    obtain ⟨hlt, e, he, rfl⟩ := hobt
    refine ⟨⟨rfl, rfl, trivial⟩, ?_⟩
    have hre := hall e (List.mem_of_getElem? he)
    have hbl := base_len41 hre
    by_cases hoe : e.2.2.1 = l.2.2.1
    · have hoe2 : e.2.2.1 = (toE l).2.2.1 := hoe
      conv => whnf
      repeat' (first | (refine tell (fun hQ => ?_) (fun hQ => ?_) <;> (try dsimp only at hQ) <;> first | (exfalso; omega) | (exact absurd rfl hQ) | (exact absurd hQ hne) | (exact absurd hne hQ) | (exact absurd (by decide) hQ) | (conv => whnf)) | (refine allLst (x := _) hlm0 hlm ?_; conv => whnf) | (refine allG rfl ?_; conv => whnf) | (refine And.intro (by first | omega | assumption | kernel_rfl | exact And.intro rfl rfl | ((try dsimp only [inR, idx, lowOf]); first | omega | (with_reducible decide) | (simp; omega) | (simp; done) | fail) | fail) ?_; conv => whnf) | fail)
      refine ⟨_, m_baseW, e, [], false, ?_⟩
      conv => whnf
      refine And.intro (vc0 hre (by (repeat' (first | exact trivial | exact rfl | refine And.intro ?_ ?_ | (refine congrArg vI ?_; first | omega | (dsimp only; omega) | fail) | (refine congrArg some ?_) | omega | exact Nat.le_refl _ | exact congrArg (SV.lst _) (List.take_of_length_le (Nat.le_refl _)).symm))) (by repeat' (first | exact trivial | exact rfl | refine And.intro ?_ ?_ | (refine congrArg vI ?_; first | omega | (dsimp only; omega) | fail) | (refine congrArg some ?_) | omega | exact Nat.le_refl _ | exact congrArg (SV.lst _) (List.take_of_length_le (Nat.le_refl _)).symm)) trivial trivial) ?_
      refine And.intro ⟨(), trivial⟩ (fun (_ : Unit) _ => ?_)
      conv => whnf
      conv => whnf
      repeat' (first | (refine tell (fun hQ => ?_) (fun hQ => ?_) <;> (try dsimp only at hQ) <;> first | (exfalso; omega) | (exact absurd rfl hQ) | (exact absurd hQ hne) | (exact absurd hne hQ) | (exact absurd (by decide) hQ) | (conv => whnf)) | (refine allG rfl ?_; conv => whnf) | (refine And.intro (by first | omega | assumption | kernel_rfl | exact And.intro rfl rfl | ((try dsimp only [inR, idx, lowOf]); first | omega | (with_reducible decide) | (simp; omega) | (simp; done) | fail) | fail) ?_; conv => whnf) | fail)
      refine ⟨_, m_stops, (baseO e), [], false, ?_⟩
      conv => whnf
      refine And.intro (vc0 (by show (baseO e).length ≤ 1000000; omega) (by (repeat' (first | exact trivial | exact rfl | refine And.intro ?_ ?_ | (refine congrArg vI ?_; first | omega | (dsimp only; omega) | fail) | (refine congrArg some ?_) | omega | exact Nat.le_refl _ | exact congrArg (SV.lst _) (List.take_of_length_le (Nat.le_refl _)).symm))) (by repeat' (first | exact trivial | exact rfl | refine And.intro ?_ ?_ | (refine congrArg vI ?_; first | omega | (dsimp only; omega) | fail) | (refine congrArg some ?_) | omega | exact Nat.le_refl _ | exact congrArg (SV.lst _) (List.take_of_length_le (Nat.le_refl _)).symm)) trivial trivial) ?_
      refine And.intro ⟨(), trivial⟩ (fun (_ : Unit) _ => ?_)
      conv => whnf
      conv => whnf
      repeat' (first | (refine tell (fun hQ => ?_) (fun hQ => ?_) <;> (try dsimp only at hQ) <;> first | (exfalso; omega) | (exact absurd rfl hQ) | (exact absurd hQ hne) | (exact absurd hne hQ) | (exact absurd (by decide) hQ) | (conv => whnf)) | (refine allG (x := (n0,s0,r0)) (by first | exact hf0 | simpa [List.getElem?_append_right, lowOf] using hf0 | fail) ?_; conv => whnf) | (refine allLst (x := (n0,s0,r0)) (by first | omega | assumption | fail) (by first | exact hf0 | simpa using hf0 | fail) ?_; conv => whnf) | (refine allG rfl ?_; conv => whnf) | (refine And.intro (by first | omega | assumption | kernel_rfl | exact And.intro rfl rfl | ((try dsimp only [inR, idx, lowOf]); first | omega | (with_reducible decide) | (simp; omega) | (simp; done) | fail) | fail) ?_; conv => whnf) | fail)
      refine ⟨_, m_contains, (evN (baseO e) (((baseO e).length + 1) / 2), n0), [], false, ?_⟩
      conv => whnf
      refine And.intro (vc0 (by show (evN _ _).length ≤ 9223372036854775807; rw [evN_len]; omega) (by (repeat' (first | exact trivial | exact rfl | refine And.intro ?_ ?_ | (refine congrArg vI ?_; first | omega | (dsimp only; omega) | fail) | (refine congrArg some ?_) | omega | exact Nat.le_refl _ | exact congrArg (SV.lst _) (List.take_of_length_le (Nat.le_refl _)).symm))) (by repeat' (first | exact trivial | exact rfl | refine And.intro ?_ ?_ | (refine congrArg vI ?_; first | omega | (dsimp only; omega) | fail) | (refine congrArg some ?_) | omega | exact Nat.le_refl _ | exact congrArg (SV.lst _) (List.take_of_length_le (Nat.le_refl _)).symm)) trivial trivial) ?_
      refine And.intro (has_ex _ _) ?_
      intro (cc : Bool) (hcc : cc = true ↔ n0 ∈ evN (baseO e) (((baseO e).length + 1) / 2))
      cases cc
      · conv => whnf
        repeat' (first | (refine tell (fun hQ => ?_) (fun hQ => ?_) <;> (try dsimp only at hQ) <;> first | (exfalso; omega) | (exact absurd rfl hQ) | (exact absurd hQ hne) | (exact absurd hne hQ) | (exact absurd (by decide) hQ) | (conv => whnf)) | (refine allG rfl ?_; conv => whnf) | (refine And.intro (by first | omega | assumption | kernel_rfl | exact And.intro rfl rfl | ((try dsimp only [inR, idx, lowOf]); first | omega | (with_reducible decide) | (simp; omega) | (simp; done) | fail) | fail) ?_; conv => whnf) | fail)
        refine ⟨(), [], ⟨hlt, fun j x hj hx => ?_⟩, ?_⟩
        · by_cases hji : j = ol.length - 1 - i
          · subst hji
            rw [he] at hx; cases hx
            exact ⟨fun hh => (by have := hcc.2 hh; cases this), hoe⟩
          · exact hno j x (by omega) hx
        · repeat' (first | exact trivial | exact rfl | refine And.intro ?_ ?_)
      · have hyes : HasN e n0 := hcc.1 rfl
        have hF : FromP ol n0 := ⟨_, e, he, fun j x y hj hx hy => (by
          rw [hl] at hy; cases hy
          by_cases hji : j = ol.length - 1 - i
          · subst hji; rw [he] at hx; cases hx; exact hoe
          · exact (hno j x (by omega) hx).2), hyes⟩
        conv => whnf
        repeat' (first | (refine tell (fun hQ => ?_) (fun hQ => ?_) <;> (try dsimp only at hQ) <;> first | (exfalso; omega) | (exact absurd rfl hQ) | (exact absurd hQ hne) | (exact absurd hne hQ) | (exact absurd (by decide) hQ) | (conv => whnf)) | (refine allG rfl ?_; conv => whnf) | (refine And.intro (by first | omega | assumption | kernel_rfl | exact And.intro rfl rfl | ((try dsimp only [inR, idx, lowOf]); first | omega | (with_reducible decide) | (simp; omega) | (simp; done) | fail) | fail) ?_; conv => whnf) | fail)
        refine ⟨[(10, .cells [.lst 34 (ol.map toE)]), (11, .cells [vI h, vS v, vI od, vI up, .lst 46 ns, .lst 95 es]), (12, .cells [vB true])], [], ⟨rfl, ?_⟩, ?_⟩
        · repeat' (first | exact trivial | exact rfl | refine And.intro ?_ ?_)
        · conv => whnf
          repeat' (first | (refine tell (fun hQ => ?_) (fun hQ => ?_) <;> (try dsimp only at hQ) <;> first | (exfalso; omega) | (exact absurd rfl hQ) | (exact absurd hQ hne) | (exact absurd hne hQ) | (exact absurd (by decide) hQ) | (conv => whnf)) | (refine allG rfl ?_; conv => whnf) | (refine And.intro (by first | omega | assumption | kernel_rfl | exact And.intro rfl rfl | ((try dsimp only [inR, idx, lowOf]); first | omega | (with_reducible decide) | (simp; omega) | (simp; done) | fail) | fail) ?_; conv => whnf) | fail)
          exact ⟨true, [], fin _ ⟨fun _ => hF, fun _ => rfl⟩, rfl, trivial, trivial⟩
    · have hnoF := from_no (fun j x hj hx => (hno j x hj hx).1) hlt he hl hoe
      have hoe2 : ¬ e.2.2.1 = (toE l).2.2.1 := hoe
      conv => whnf
      repeat' (first | (refine tell (fun hQ => ?_) (fun hQ => ?_) <;> (try dsimp only at hQ) <;> first | (exfalso; omega) | (exact absurd rfl hQ) | (exact absurd hQ hne) | (exact absurd hne hQ) | (exact absurd (by decide) hQ) | (conv => whnf)) | (refine allLst (x := _) hlm0 hlm ?_; conv => whnf) | (refine allG rfl ?_; conv => whnf) | (refine And.intro (by first | omega | assumption | kernel_rfl | exact And.intro rfl rfl | ((try dsimp only [inR, idx, lowOf]); first | omega | (with_reducible decide) | (simp; omega) | (simp; done) | fail) | fail) ?_; conv => whnf) | fail)
      refine ⟨[(10, .cells [.lst 34 (ol.map toE)]), (11, .cells [vI h, vS v, vI od, vI up, .lst 46 ns, .lst 95 es]), (12, .cells [vB false])], [], ⟨rfl, ?_⟩, ?_⟩
      · repeat' (first | exact trivial | exact rfl | refine And.intro ?_ ?_)
      · conv => whnf
        repeat' (first | (refine tell (fun hQ => ?_) (fun hQ => ?_) <;> (try dsimp only at hQ) <;> first | (exfalso; omega) | (exact absurd rfl hQ) | (exact absurd hQ hne) | (exact absurd hne hQ) | (exact absurd (by decide) hQ) | (conv => whnf)) | (refine allG rfl ?_; conv => whnf) | (refine And.intro (by first | omega | assumption | kernel_rfl | exact And.intro rfl rfl | ((try dsimp only [inR, idx, lowOf]); first | omega | (with_reducible decide) | (simp; omega) | (simp; done) | fail) | fail) ?_; conv => whnf) | fail)
        exact ⟨false, [], fin _ ⟨fun h => (by cases h), fun h => absurd h hnoF⟩, rfl, trivial, trivial⟩
  · rintro _ ⟨hi, hno⟩
    have hnoF : ¬ FromP ol n0 := from_none fun j x hx => (hno j x (by have := outsBack_len ol; omega) hx).1
    conv => whnf
    repeat' (first | (refine tell (fun hQ => ?_) (fun hQ => ?_) <;> (try dsimp only at hQ) <;> first | (exfalso; omega) | (exact absurd rfl hQ) | (exact absurd hQ hne) | (exact absurd hne hQ) | (exact absurd (by decide) hQ) | (conv => whnf)) | (refine allG rfl ?_; conv => whnf) | (refine And.intro (by first | omega | assumption | kernel_rfl | exact And.intro rfl rfl | ((try dsimp only [inR, idx, lowOf]); first | omega | (with_reducible decide) | (simp; omega) | (simp; done) | fail) | fail) ?_; conv => whnf) | fail)
    exact ⟨false, [], fin _ ⟨fun h => (by cases h), fun h => absurd h hnoF⟩, rfl, trivial, trivial⟩
end Go.Sx

