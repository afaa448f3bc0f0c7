/-
  Layer 13 at the door: Fits (a range with early exits).
-/
import Derived.Test.YtmogappoadglgaaDoorZWam
set_option linter.unusedVariables false
set_option linter.unusedSimpArgs false
namespace Go.Sx
open Go Go.Proofs Go.Proofs.YtmogappoadglgaaDoor
def EdgeFits (el : List Edge) (f e t : Stp) : Prop := ∃ d, el[e.1.toNat]? = some d ∧ d.1 = f.1 ∧ d.2.1 = t.1
/-- The first m edges of an order fit a layout. -/
def FitsN (el : List Edge) (ns es : List Stp) (m : Nat) : Prop := ∀ (i : Nat) f e t, i < m → es[i]? = some e → ns[i]? = some f → ns[i + 1]? = some t → EdgeFits el f e t
def FitsP (n : Int) (el : List Edge) (o : OrdT) : Prop := (∀ f, o.2.2.2.2.1[0]? = some f → f.1 < n) ∧ FitsN el o.2.2.2.2.1 o.2.2.2.2.2 o.2.2.2.2.2.length
theorem prop_ex (P : Prop) : ∃ c : Bool, c = true ↔ P := by
  by_cases h : P
  · exact ⟨true, by simp [h]⟩
  · exact ⟨false, by simp [h]⟩
theorem right_ex' (n : Int) (es : List Edge) : ∃ c : Bool, c = true ↔ RightL n es := prop_ex _
def spFits : Spec AF where
  γ := (Int × List Edge) × OrdT
  δ := Bool
  args := fun g => [layS g.1.1 g.1.2, ordS g.2]
  own := fun _ => []
  pre := fun g => RightL g.1.1 g.1.2 ∧ RightO g.2
  nnew := 0
  res := fun _ c => vB c
  own' := fun _ _ => []
  post := fun g c => (c = true ↔ FitsP g.1.1 g.1.2 g.2)
set_option maxHeartbeats 3200000 in
set_option maxRecDepth 100000 in
theorem m_fits : Meets Tryd.prog regF 24 spFits := by
  refine meets Tryd.func24 63 noWr rfl (by kernel_rfl) (by kernel_rfl) ?_
  rintro ⟨⟨(n : Int), (el : List Edge)⟩, ⟨(h : Int), (v : List UInt8), (od : Int), (up : Int), (ns : List Stp), (es : List Stp)⟩⟩ ⟨(hR : RightL n el), (hr : RightO (h, v, od, up, ns, es))⟩
  have hL1 : 1 ≤ ns.length := hr.1.2.2.1
  have hL2 : ns.length ≤ 64 := hr.1.2.2.2.1
  have hL3 : es.length + 1 = ns.length := hr.1.2.2.2.2
  have hll := hR.len
  have hobt : ∃ y, ns[0]? = some y := ⟨_, List.getElem?_eq_getElem (by omega)⟩
  obtain ⟨⟨(n0 : Int), (s0 : Int), (r0 : Bool)⟩, hf0⟩ := hobt
  conv => whnf
  repeat' (first | (refine tell (fun hQ => ?_) (fun hQ => ?_) <;> (try dsimp only at hQ) <;> first | (exfalso; omega) | (exact absurd rfl hQ) | (exact absurd (by decide) hQ) | (conv => whnf)) | (refine allG rfl ?_; conv => whnf) | (refine And.intro (by first | omega | assumption | kernel_rfl | exact And.intro rfl rfl | ((try dsimp only [inR, idx, lowOf]); first | omega | (with_reducible decide) | (simp; omega) | (simp; done) | fail) | fail) ?_; conv => whnf) | fail)
  refine ⟨_, m_rightO, (h, v, od, up, ns, es), [], false, ?_⟩
  conv => whnf
  refine And.intro (vc0 ⟨by show ns.length ≤ 9223372036854775807; omega, by show es.length ≤ 9223372036854775807; omega⟩ (by (repeat' (first | exact trivial | exact rfl | refine And.intro ?_ ?_ | (refine congrArg vI ?_; first | omega | (dsimp only; omega) | fail) | (refine congrArg some ?_) | omega | exact Nat.le_refl _ | exact congrArg (SV.lst _) (List.take_of_length_le (Nat.le_refl _)).symm))) (by repeat' (first | exact trivial | exact rfl | refine And.intro ?_ ?_ | (refine congrArg vI ?_; first | omega | (dsimp only; omega) | fail) | (refine congrArg some ?_) | omega | exact Nat.le_refl _ | exact congrArg (SV.lst _) (List.take_of_length_le (Nat.le_refl _)).symm)) trivial trivial) ?_
  refine And.intro (rightO_ex _) ?_
  intro (c : Bool) (hc : c = true ↔ RightO (h, v, od, up, ns, es))
  have hobt := hc.2 hr
  obtain rfl := hobt
  conv => whnf
  repeat' (first | (refine tell (fun hQ => ?_) (fun hQ => ?_) <;> (try dsimp only at hQ) <;> first | (exfalso; omega) | (exact absurd rfl hQ) | (exact absurd (by decide) hQ) | (conv => whnf)) | (refine allG rfl ?_; conv => whnf) | (refine And.intro (by first | omega | assumption | kernel_rfl | exact And.intro rfl rfl | ((try dsimp only [inR, idx, lowOf]); first | omega | (with_reducible decide) | (simp; omega) | (simp; done) | fail) | fail) ?_; conv => whnf) | fail)
  refine ⟨_, m_right, (n, el), [], false, ?_⟩
  conv => whnf
  refine And.intro (vc0 hR.good (by (repeat' (first | exact trivial | exact rfl | refine And.intro ?_ ?_ | (refine congrArg vI ?_; first | omega | (dsimp only; omega) | fail) | (refine congrArg some ?_) | omega | exact Nat.le_refl _ | exact congrArg (SV.lst _) (List.take_of_length_le (Nat.le_refl _)).symm))) (by repeat' (first | exact trivial | exact rfl | refine And.intro ?_ ?_ | (refine congrArg vI ?_; first | omega | (dsimp only; omega) | fail) | (refine congrArg some ?_) | omega | exact Nat.le_refl _ | exact congrArg (SV.lst _) (List.take_of_length_le (Nat.le_refl _)).symm)) trivial trivial) ?_
  refine And.intro (right_ex' n el) ?_
  intro (c1 : Bool) (hc1 : c1 = true ↔ RightL n el)
  have hobt := hc1.2 hR
  obtain rfl := hobt
  by_cases hn0 : n0 < n
  · conv => whnf
    repeat' (first | (refine tell (fun hQ => ?_) (fun hQ => ?_) <;> (try dsimp only at hQ) <;> first | (exfalso; omega) | (exact absurd rfl hQ) | (exact absurd (by decide) hQ) | (conv => whnf)) | (refine allG (x := (n0,s0,r0)) (by first | exact hf0 | simpa [List.getElem?_append_right, lowOf] using hf0 | fail) ?_; conv => whnf) | (refine allLst (x := (n0,s0,r0)) (by first | omega | assumption | fail) (by first | exact hf0 | simpa using hf0 | fail) ?_; conv => whnf) | (refine allG rfl ?_; conv => whnf) | (refine And.intro (by first | omega | assumption | kernel_rfl | exact And.intro rfl rfl | ((try dsimp only [inR, idx, lowOf]); first | omega | (with_reducible decide) | (simp; omega) | (simp; done) | fail) | fail) ?_; conv => whnf) | fail)
    refine ⟨_, m_legs, (h, v, od, up, ns, es), [], false, ?_⟩
    conv => whnf
    refine And.intro (vc0 trivial (by (repeat' (first | exact trivial | exact rfl | refine And.intro ?_ ?_ | (refine congrArg vI ?_; first | omega | (dsimp only; omega) | fail) | (refine congrArg some ?_) | omega | exact Nat.le_refl _ | exact congrArg (SV.lst _) (List.take_of_length_le (Nat.le_refl _)).symm))) (by repeat' (first | exact trivial | exact rfl | refine And.intro ?_ ?_ | (refine congrArg vI ?_; first | omega | (dsimp only; omega) | fail) | (refine congrArg some ?_) | omega | exact Nat.le_refl _ | exact congrArg (SV.lst _) (List.take_of_length_le (Nat.le_refl _)).symm)) trivial trivial) ?_
    refine And.intro ⟨(), trivial⟩ (fun (_ : Unit) _ => ?_)
    conv => whnf
    conv => whnf
    repeat' (first | (refine tell (fun hQ => ?_) (fun hQ => ?_) <;> (try dsimp only at hQ) <;> first | (exfalso; omega) | (exact absurd rfl hQ) | (exact absurd (by decide) hQ) | (conv => whnf)) | (refine allG rfl ?_; conv => whnf) | (refine And.intro (by first | omega | assumption | kernel_rfl | exact And.intro rfl rfl | ((try dsimp only [inR, idx, lowOf]); first | omega | (with_reducible decide) | (simp; omega) | (simp; done) | fail) | fail) ?_; conv => whnf) | fail)
    refine .inr ⟨[.cells [.lst 95 es]], [.ptr 0 0 1 0], [1027], outsAll es, it_all es (by omega), Unit, [(2, .ptr 10 0 2 0), (3, .ptr 11 0 6 0), (4, .ptr 12 0 1 0)], fun _ => [(10, layC n el), (11, .cells [vI h, vS v, vI od, vI up, .lst 46 ns, .lst 95 es]), (12, .cells [vB false])], fun i _ => i ≤ es.length ∧ FitsN el ns es i, ⟨rfl, rfl, ⟨rfl, trivial⟩, rfl⟩, fun _ _ _ => rfl, ⟨(), [(10, 1002), (11, 1003), (12, 1004)], ⟨Nat.zero_le _, fun i f e t h => absurd h (Nat.not_lt_zero _)⟩, ?_, ?_, rfl⟩, ?_, ?_⟩
    · repeat' (first | exact trivial | exact rfl | refine And.intro ?_ ?_)
    · repeat' (first | exact trivial | exact rfl | refine And.intro ?_ ?_)
    · rintro i _ o ⟨hi, hfit⟩ ho
      have hobt := outsAll_get ho
      obtain ⟨⟨(ed : Int), (se : Int), (re : Bool)⟩, he, rfl⟩ := hobt
      refine ⟨⟨rfl, rfl, trivial⟩, ?_⟩
      have hlt : i < es.length := (List.getElem?_eq_some_iff.1 he).1
      have hobt : ∃ y, ns[i + 1]? = some y := ⟨_, List.getElem?_eq_getElem (by omega)⟩
      obtain ⟨⟨(n1 : Int), (s1 : Int), (r1 : Bool)⟩, hn⟩ := hobt
      have hobt : ∃ y, ns[i]? = some y := ⟨_, List.getElem?_eq_getElem (by omega)⟩
      obtain ⟨⟨(n2 : Int), (s2 : Int), (r2 : Bool)⟩, hf⟩ := hobt
      have hok : OkN ed := (hr.2.2 i _ _ _ he hf hn).1.1
      obtain ⟨hk1, hk2⟩ := hok
      have no : ¬ EdgeFits el (n2, s2, r2) (ed, se, re) (n1, s1, r1) → ¬ FitsP n el (h, v, od, up, ns, es) := fun h1 h2 => h1 (h2.2 i _ _ _ hlt he hf hn)
      by_cases hel : ed < el.length
      · have hobt : ∃ y, el[ed.toNat]? = some y := ⟨_, List.getElem?_eq_getElem (by omega)⟩
        obtain ⟨⟨(d0 : Int), (d1 : Int), (d2 : Int)⟩, hd⟩ := hobt
        by_cases h0 : d0 = n2
        · by_cases h1 : d1 = n1
          · have hy : EdgeFits el (n2, s2, r2) (ed, se, re) (n1, s1, r1) := ⟨_, hd, h0, h1⟩
            have hnext : FitsN el ns es (i + 1) := fun j f e t hj he' hf' ht' => by
              by_cases e : j = i
              · subst e
                rw [he] at he'; rw [hf] at hf'; rw [hn] at ht'
                cases he'; cases hf'; cases ht'; exact hy
              · exact hfit j f _ t (by omega) he' hf' ht'
            conv => whnf
            repeat' (first | (refine tell (fun hQ => ?_) (fun hQ => ?_) <;> (try dsimp only at hQ) <;> first | (exfalso; omega) | (exact absurd rfl hQ) | (exact absurd (by decide) hQ) | (conv => whnf)) | (refine allLst (x := (d0,d1,d2)) hk1 hd ?_; conv => whnf) | (refine allG (x := (n2,s2,r2)) (by first | exact hf | simpa [List.getElem?_append_right, lowOf] using hf | fail) ?_; conv => whnf) | (refine allLst (x := (n2,s2,r2)) (by first | omega | assumption | fail) (by first | exact hf | simpa using hf | fail) ?_; conv => whnf) | (refine allG (x := (n1,s1,r1)) (by first | exact hn | simpa [List.getElem?_append_right, lowOf] using hn | fail) ?_; conv => whnf) | (refine allLst (x := (n1,s1,r1)) (by first | omega | assumption | fail) (by first | exact hn | simpa using hn | fail) ?_; conv => whnf) | (refine allG rfl ?_; conv => whnf) | (refine And.intro (by first | omega | assumption | kernel_rfl | exact And.intro rfl rfl | ((try dsimp only [inR, idx, lowOf]); first | omega | (with_reducible decide) | (simp; omega) | (simp; done) | fail) | fail) ?_; conv => whnf) | fail)
            refine ⟨(), [], ⟨hlt, hnext⟩, ?_⟩
            repeat' (first | exact trivial | exact rfl | refine And.intro ?_ ?_)
          · have hno := no fun hh => by
              obtain ⟨d, e1, e2, e3⟩ := hh
              have e1 : el[ed.toNat]? = some d := e1
              rw [hd] at e1; cases e1; exact h1 e3
            conv => whnf
            repeat' (first | (refine tell (fun hQ => ?_) (fun hQ => ?_) <;> (try dsimp only at hQ) <;> first | (exfalso; omega) | (exact absurd rfl hQ) | (exact absurd (by decide) hQ) | (conv => whnf)) | (refine allLst (x := (d0,d1,d2)) hk1 hd ?_; conv => whnf) | (refine allG (x := (n2,s2,r2)) (by first | exact hf | simpa [List.getElem?_append_right, lowOf] using hf | fail) ?_; conv => whnf) | (refine allLst (x := (n2,s2,r2)) (by first | omega | assumption | fail) (by first | exact hf | simpa using hf | fail) ?_; conv => whnf) | (refine allG (x := (n1,s1,r1)) (by first | exact hn | simpa [List.getElem?_append_right, lowOf] using hn | fail) ?_; conv => whnf) | (refine allLst (x := (n1,s1,r1)) (by first | omega | assumption | fail) (by first | exact hn | simpa using hn | fail) ?_; conv => whnf) | (refine allG rfl ?_; conv => whnf) | (refine And.intro (by first | omega | assumption | kernel_rfl | exact And.intro rfl rfl | ((try dsimp only [inR, idx, lowOf]); first | omega | (with_reducible decide) | (simp; omega) | (simp; done) | fail) | fail) ?_; conv => whnf) | fail)
            refine ⟨[(10, layC n el), (11, .cells [vI h, vS v, vI od, vI up, .lst 46 ns, .lst 95 es]), (12, .cells [vB false])], [], ⟨rfl, ?_⟩, ?_⟩
            · repeat' (first | exact trivial | exact rfl | refine And.intro ?_ ?_)
            · conv => whnf
              exact ⟨false, [], ⟨fun h => (by cases h), fun h => absurd h hno⟩, rfl, trivial, trivial⟩
        · have hno := no fun hh => by
            obtain ⟨d, e1, e2, e3⟩ := hh
            have e1 : el[ed.toNat]? = some d := e1
            rw [hd] at e1; cases e1; exact h0 e2
          conv => whnf
          repeat' (first | (refine tell (fun hQ => ?_) (fun hQ => ?_) <;> (try dsimp only at hQ) <;> first | (exfalso; omega) | (exact absurd rfl hQ) | (exact absurd (by decide) hQ) | (conv => whnf)) | (refine allLst (x := (d0,d1,d2)) hk1 hd ?_; conv => whnf) | (refine allG (x := (n2,s2,r2)) (by first | exact hf | simpa [List.getElem?_append_right, lowOf] using hf | fail) ?_; conv => whnf) | (refine allLst (x := (n2,s2,r2)) (by first | omega | assumption | fail) (by first | exact hf | simpa using hf | fail) ?_; conv => whnf) | (refine allG (x := (n1,s1,r1)) (by first | exact hn | simpa [List.getElem?_append_right, lowOf] using hn | fail) ?_; conv => whnf) | (refine allLst (x := (n1,s1,r1)) (by first | omega | assumption | fail) (by first | exact hn | simpa using hn | fail) ?_; conv => whnf) | (refine allG rfl ?_; conv => whnf) | (refine And.intro (by first | omega | assumption | kernel_rfl | exact And.intro rfl rfl | ((try dsimp only [inR, idx, lowOf]); first | omega | (with_reducible decide) | (simp; omega) | (simp; done) | fail) | fail) ?_; conv => whnf) | fail)
          refine ⟨[(10, layC n el), (11, .cells [vI h, vS v, vI od, vI up, .lst 46 ns, .lst 95 es]), (12, .cells [vB false])], [], ⟨rfl, ?_⟩, ?_⟩
          · repeat' (first | exact trivial | exact rfl | refine And.intro ?_ ?_)
          · conv => whnf
            exact ⟨false, [], ⟨fun h => (by cases h), fun h => absurd h hno⟩, rfl, trivial, trivial⟩
      · have hno := no fun hh => by
          obtain ⟨d, e1, e2, e3⟩ := hh
          have e1 : el[ed.toNat]? = some d := e1
          have := (List.getElem?_eq_some_iff.1 e1).1
          omega
        conv => whnf
        repeat' (first | (refine tell (fun hQ => ?_) (fun hQ => ?_) <;> (try dsimp only at hQ) <;> first | (exfalso; omega) | (exact absurd rfl hQ) | (exact absurd (by decide) hQ) | (conv => whnf)) | (refine allG rfl ?_; conv => whnf) | (refine And.intro (by first | omega | assumption | kernel_rfl | exact And.intro rfl rfl | ((try dsimp only [inR, idx, lowOf]); first | omega | (with_reducible decide) | (simp; omega) | (simp; done) | fail) | fail) ?_; conv => whnf) | fail)
        refine ⟨[(10, layC n el), (11, .cells [vI h, vS v, vI od, vI up, .lst 46 ns, .lst 95 es]), (12, .cells [vB false])], [], ⟨rfl, ?_⟩, ?_⟩
        · repeat' (first | exact trivial | exact rfl | refine And.intro ?_ ?_)
        · conv => whnf
          exact ⟨false, [], ⟨fun h => (by cases h), fun h => absurd h hno⟩, rfl, trivial, trivial⟩
    · rintro _ ⟨hi, hfit⟩
      conv => whnf
      repeat' (first | (refine tell (fun hQ => ?_) (fun hQ => ?_) <;> (try dsimp only at hQ) <;> first | (exfalso; omega) | (exact absurd rfl hQ) | (exact absurd (by decide) hQ) | (conv => whnf)) | (refine allG rfl ?_; conv => whnf) | (refine And.intro (by first | omega | assumption | kernel_rfl | exact And.intro rfl rfl | ((try dsimp only [inR, idx, lowOf]); first | omega | (with_reducible decide) | (simp; omega) | (simp; done) | fail) | fail) ?_; conv => whnf) | fail)
      exact ⟨true, [], ⟨fun _ => ⟨fun f hf => (by have hf : ns[0]? = some f := hf; rw [hf0] at hf; cases hf; exact hn0), (by have e : (outsAll es).length = es.length := (by simp [outsAll]); rw [e] at hfit; exact hfit)⟩, fun _ => rfl⟩, rfl, trivial, trivial⟩
  · have hno : ¬ FitsP n el (h, v, od, up, ns, es) := fun hh => hn0 (hh.1 _ hf0)
    conv => whnf
    repeat' (first | (refine tell (fun hQ => ?_) (fun hQ => ?_) <;> (try dsimp only at hQ) <;> first | (exfalso; omega) | (exact absurd rfl hQ) | (exact absurd (by decide) hQ) | (conv => whnf)) | (refine allG (x := (n0,s0,r0)) (by first | exact hf0 | simpa [List.getElem?_append_right, lowOf] using hf0 | fail) ?_; conv => whnf) | (refine allLst (x := (n0,s0,r0)) (by first | omega | assumption | fail) (by first | exact hf0 | simpa using hf0 | fail) ?_; conv => whnf) | (refine allG rfl ?_; conv => whnf) | (refine And.intro (by first | omega | assumption | kernel_rfl | exact And.intro rfl rfl | ((try dsimp only [inR, idx, lowOf]); first | omega | (with_reducible decide) | (simp; omega) | (simp; done) | fail) | fail) ?_; conv => whnf) | fail)
    exact ⟨false, [], ⟨fun h => (by cases h), fun h => absurd h hno⟩, rfl, trivial, trivial⟩
end Go.Sx

