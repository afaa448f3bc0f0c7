/-
  Layer 13 at the door: legs, walk.Base (a range over slices.All).
-/
import Derived.Test.YtmogappoadglgaaDoorZWal
import Derived.Test.YtmogappoadglgaaDoorZIteA
set_option linter.unusedVariables false
set_option linter.unusedSimpArgs false
namespace Go.Sx
open Go Go.Proofs Go.Proofs.YtmogappoadglgaaDoor
def spAllW : Spec AF where
  γ := List Stp
  δ := Unit
  args := fun es => [.lst 95 es]
  own := fun _ => []
  pre := fun _ => True
  nnew := 1
  res := fun _ _ => .fn (.func 106) [] [.ptr 0 0 1 0]
  own' := fun es _ => [some (.cells [.lst 95 es])]
  post := fun _ _ => True
theorem m_allW : Meets Tryd.prog regF 84 spAllW := by
  refine meets Tryd.func84 4 noWr rfl (by kernel_rfl) (by kernel_rfl) ?_
  rintro (es : List Stp) _
  conv => whnf
  repeat' (first | (refine tell (fun hQ => ?_) (fun hQ => ?_) <;> (try dsimp only at hQ) <;> first | (exfalso; omega) | (exact absurd rfl hQ) | (exact absurd (by decide) hQ) | (conv => whnf)) | (refine allG rfl ?_; conv => whnf) | (refine And.intro (by first | omega | assumption | kernel_rfl | exact And.intro rfl rfl | ((try dsimp only [inR, idx, lowOf]); first | omega | (with_reducible decide) | (simp; omega) | (simp; done) | fail) | fail) ?_; conv => whnf) | fail)
  exact ⟨(), [1001], trivial, rfl, ⟨⟨rfl, trivial⟩, trivial⟩, trivial⟩
def spLegs : Spec AF where
  γ := OrdT
  δ := Unit
  args := fun o => [ordS o]
  own := fun _ => []
  pre := fun _ => True
  nnew := 1
  res := fun _ _ => .fn (.func 106) [] [.ptr 0 0 1 0]
  own' := fun o _ => [some (.cells [.lst 95 o.2.2.2.2.2])]
  post := fun _ _ => True
theorem m_legs : Meets Tryd.prog regF 58 spLegs := by
  refine meets Tryd.func58 6 noWr rfl (by kernel_rfl) (by kernel_rfl) ?_
  rintro ⟨(h : Int), (v : List UInt8), (od : Int), (up : Int), (ns : List Stp), (es : List Stp)⟩ _
  conv => whnf
  repeat' (first | (refine tell (fun hQ => ?_) (fun hQ => ?_) <;> (try dsimp only at hQ) <;> first | (exfalso; omega) | (exact absurd rfl hQ) | (exact absurd (by decide) hQ) | (conv => whnf)) | (refine allG rfl ?_; conv => whnf) | (refine And.intro (by first | omega | assumption | kernel_rfl | exact And.intro rfl rfl | ((try dsimp only [inR, idx, lowOf]); first | omega | (with_reducible decide) | (simp; omega) | (simp; done) | fail) | fail) ?_; conv => whnf) | fail)
  refine ⟨_, m_allW, es, [], false, ?_⟩
  conv => whnf
  refine And.intro (vc0 trivial (by (repeat' (first | exact trivial | exact rfl | refine And.intro ?_ ?_ | (refine congrArg vI ?_; first | omega | (dsimp only; omega) | fail) | (refine congrArg some ?_) | omega | exact Nat.le_refl _ | exact congrArg (SV.lst _) (List.take_of_length_le (Nat.le_refl _)).symm))) (by repeat' (first | exact trivial | exact rfl | refine And.intro ?_ ?_ | (refine congrArg vI ?_; first | omega | (dsimp only; omega) | fail) | (refine congrArg some ?_) | omega | exact Nat.le_refl _ | exact congrArg (SV.lst _) (List.take_of_length_le (Nat.le_refl _)).symm)) trivial trivial) ?_
  refine And.intro ⟨(), trivial⟩ (fun (_ : Unit) _ => ?_)
  conv => whnf
  conv => whnf
  repeat' (first | (refine tell (fun hQ => ?_) (fun hQ => ?_) <;> (try dsimp only at hQ) <;> first | (exfalso; omega) | (exact absurd rfl hQ) | (exact absurd (by decide) hQ) | (conv => whnf)) | (refine allG rfl ?_; conv => whnf) | (refine And.intro (by first | omega | assumption | kernel_rfl | exact And.intro rfl rfl | ((try dsimp only [inR, idx, lowOf]); first | omega | (with_reducible decide) | (simp; omega) | (simp; done) | fail) | fail) ?_; conv => whnf) | fail)
  exact ⟨(), [1005], trivial, rfl, ⟨⟨rfl, trivial⟩, trivial⟩, trivial⟩
/-- The base of the first i edges. -/
def baseN (ns es : List Stp) : Nat → List Int
  | 0 => [(ns.getD 0 (0, 0, false)).1]
  | i + 1 => baseN ns es i ++ (match es[i]? with | some e => if e.2.2 = true then [1000 + e.1, (ns.getD (i + 1) (0, 0, false)).1] else [] | none => [])
theorem baseN_len (ns es : List Stp) (i : Nat) : (baseN ns es i).length ≤ 1 + 2 * i := by
  induction i with
  | zero => simp [baseN]
  | succ i ih =>
    rw [baseN, List.length_append]
    have : (match es[i]? with | some e => if e.2.2 = true then [1000 + e.1, (ns.getD (i + 1) (0, 0, false)).1] else [] | none => [] : List Int).length ≤ 2 := by
      split
      · split <;> simp
      · simp
    omega
def spBaseW : Spec AF where
  γ := OrdT
  δ := Unit
  args := fun o => [ordS o]
  own := fun _ => []
  pre := fun o => RightO o
  nnew := 0
  res := fun o _ => .lst 3 (baseN o.2.2.2.2.1 o.2.2.2.2.2 o.2.2.2.2.2.length)
  own' := fun _ _ => []
  post := fun _ _ => True
set_option maxHeartbeats 3200000 in
set_option maxRecDepth 100000 in
theorem m_baseW : Meets Tryd.prog regF 26 spBaseW := by
  refine meets Tryd.func26 35 noWr rfl (by kernel_rfl) (by kernel_rfl) ?_
  rintro ⟨(h : Int), (v : List UInt8), (od : Int), (up : Int), (ns : List Stp), (es : List Stp)⟩ (hr : RightO (h, v, od, up, ns, es))
  have hL1 : 1 ≤ ns.length := hr.1.2.2.1
  have hL2 : ns.length ≤ 64 := hr.1.2.2.2.1
  have hL3 : es.length + 1 = ns.length := hr.1.2.2.2.2
  conv => whnf
  repeat' (first | (refine tell (fun hQ => ?_) (fun hQ => ?_) <;> (try dsimp only at hQ) <;> first | (exfalso; omega) | (exact absurd rfl hQ) | (exact absurd (by decide) hQ) | (conv => whnf)) | (refine allG rfl ?_; conv => whnf) | (refine And.intro (by first | omega | assumption | kernel_rfl | exact And.intro rfl rfl | ((try dsimp only [inR, idx, lowOf]); first | omega | (with_reducible decide) | (simp; omega) | (simp; done) | fail) | fail) ?_; conv => whnf) | fail)
  refine ⟨_, m_rightO, (h, v, od, up, ns, es), [], false, ?_⟩
  conv => whnf
  refine And.intro (vc0 ⟨by show ns.length ≤ 9223372036854775807; omega, by show es.length ≤ 9223372036854775807; omega⟩ (by (repeat' (first | exact trivial | exact rfl | refine And.intro ?_ ?_ | (refine congrArg vI ?_; first | omega | (dsimp only; omega) | fail) | (refine congrArg some ?_) | omega | exact Nat.le_refl _ | exact congrArg (SV.lst _) (List.take_of_length_le (Nat.le_refl _)).symm))) (by repeat' (first | exact trivial | exact rfl | refine And.intro ?_ ?_ | (refine congrArg vI ?_; first | omega | (dsimp only; omega) | fail) | (refine congrArg some ?_) | omega | exact Nat.le_refl _ | exact congrArg (SV.lst _) (List.take_of_length_le (Nat.le_refl _)).symm)) trivial trivial) ?_
  refine And.intro (rightO_ex _) ?_
  intro (c : Bool) (hc : c = true ↔ RightO (h, v, od, up, ns, es))
  cases c
  · have := hc.2 hr; cases this
  have hobt : ∃ y, ns[0]? = some y := ⟨_, List.getElem?_eq_getElem (by omega)⟩
  obtain ⟨⟨(n0 : Int), (s0 : Int), (r0 : Bool)⟩, hf0⟩ := hobt
  have hb0 : baseN ns es 0 = [n0] := by simp [baseN, List.getD_eq_getElem?_getD, hf0]
  conv => whnf
  repeat' (first | (refine tell (fun hQ => ?_) (fun hQ => ?_) <;> (try dsimp only at hQ) <;> first | (exfalso; omega) | (exact absurd rfl hQ) | (exact absurd (by decide) hQ) | (conv => whnf)) | (refine allG (x := (n0,s0,r0)) (by first | exact hf0 | simpa [List.getElem?_append_right, lowOf] using hf0 | fail) ?_; conv => whnf) | (refine allLst (x := (n0,s0,r0)) (by first | omega | assumption | fail) (by first | exact hf0 | simpa using hf0 | fail) ?_; conv => whnf) | (refine allG rfl ?_; conv => whnf) | (refine And.intro (by first | omega | assumption | kernel_rfl | exact And.intro rfl rfl | ((try dsimp only [inR, idx, lowOf]); first | omega | (with_reducible decide) | (simp; omega) | (simp; done) | fail) | fail) ?_; conv => whnf) | fail)
  refine ⟨_, m_legs, (h, v, od, up, ns, es), [], false, ?_⟩
  conv => whnf
  refine And.intro (vc0 trivial (by (repeat' (first | exact trivial | exact rfl | refine And.intro ?_ ?_ | (refine congrArg vI ?_; first | omega | (dsimp only; omega) | fail) | (refine congrArg some ?_) | omega | exact Nat.le_refl _ | exact congrArg (SV.lst _) (List.take_of_length_le (Nat.le_refl _)).symm))) (by repeat' (first | exact trivial | exact rfl | refine And.intro ?_ ?_ | (refine congrArg vI ?_; first | omega | (dsimp only; omega) | fail) | (refine congrArg some ?_) | omega | exact Nat.le_refl _ | exact congrArg (SV.lst _) (List.take_of_length_le (Nat.le_refl _)).symm)) trivial trivial) ?_
  refine And.intro ⟨(), trivial⟩ (fun (_ : Unit) _ => ?_)
  conv => whnf
  conv => whnf
  repeat' (first | (refine tell (fun hQ => ?_) (fun hQ => ?_) <;> (try dsimp only at hQ) <;> first | (exfalso; omega) | (exact absurd rfl hQ) | (exact absurd (by decide) hQ) | (conv => whnf)) | (refine allG rfl ?_; conv => whnf) | (refine And.intro (by first | omega | assumption | kernel_rfl | exact And.intro rfl rfl | ((try dsimp only [inR, idx, lowOf]); first | omega | (with_reducible decide) | (simp; omega) | (simp; done) | fail) | fail) ?_; conv => whnf) | fail)
  refine .inr ⟨[.cells [.lst 95 es]], [.ptr 0 0 1 0], [1017], outsAll es, it_all es (by omega), List Int, [(1, .ptr 10 0 6 0), (2, .ptr 11 0 1 0)], fun out => [(10, .cells [vI h, vS v, vI od, vI up, .lst 46 ns, .lst 95 es]), (11, .cells [.sl 12 1 0 out.length]), (12, .arr 3 out)], fun i out => i ≤ es.length ∧ out = baseN ns es i, ⟨rfl, rfl, ⟨rfl, trivial⟩, rfl⟩, fun _ _ _ => rfl, ⟨[n0], [(10, 1001), (11, 1002), (12, 1015)], ⟨Nat.zero_le _, hb0.symm⟩, ?_, ?_, rfl⟩, ?_, ?_⟩
  · repeat' (first | exact trivial | exact rfl | refine And.intro ?_ ?_)
  · repeat' (first | exact trivial | exact rfl | refine And.intro ?_ ?_)
  · rintro i out o ⟨hi, rfl⟩ ho
    have hobt := outsAll_get ho
    obtain ⟨⟨(ed : Int), (se : Int), (re : Bool)⟩, he, rfl⟩ := hobt
    refine ⟨⟨rfl, rfl, trivial⟩, ?_⟩
    have hlt : i < es.length := (List.getElem?_eq_some_iff.1 he).1
    have hobt : ∃ y, ns[i + 1]? = some y := ⟨_, List.getElem?_eq_getElem (by omega)⟩
    obtain ⟨⟨(n1 : Int), (s1 : Int), (r1 : Bool)⟩, hn⟩ := hobt
    have hobt : ∃ y, ns[i]? = some y := ⟨_, List.getElem?_eq_getElem (by omega)⟩
    obtain ⟨f, hf⟩ := hobt
    have hok : OkN ed := (hr.2.2 i f _ _ he hf hn).1.1
    obtain ⟨hk1, hk2⟩ := hok
    have hlb := baseN_len ns es i
    cases re
    · conv => whnf
      repeat' (first | (refine tell (fun hQ => ?_) (fun hQ => ?_) <;> (try dsimp only at hQ) <;> first | (exfalso; omega) | (exact absurd rfl hQ) | (exact absurd (by decide) hQ) | (conv => whnf)) | (refine allG rfl ?_; conv => whnf) | (refine And.intro (by first | omega | assumption | kernel_rfl | exact And.intro rfl rfl | ((try dsimp only [inR, idx, lowOf]); first | omega | (with_reducible decide) | (simp; omega) | (simp; done) | fail) | fail) ?_; conv => whnf) | fail)
      refine ⟨baseN ns es i, [], ⟨hlt, by simp [baseN, he]⟩, ?_⟩
      repeat' (first | exact trivial | exact rfl | refine And.intro ?_ ?_)
    · have hbn : baseN ns es (i + 1) = baseN ns es i ++ [1000 + ed, n1] := by simp [baseN, he, hn, List.getD_eq_getElem?_getD]
      conv => whnf
      repeat' (first | (refine tell (fun hQ => ?_) (fun hQ => ?_) <;> (try dsimp only at hQ) <;> first | (exfalso; omega) | (exact absurd rfl hQ) | (exact absurd (by decide) hQ) | (conv => whnf)) | (refine allG (x := (n1,s1,r1)) (by first | exact hn | simpa [List.getElem?_append_right, lowOf] using hn | fail) ?_; conv => whnf) | (refine allLst (x := (n1,s1,r1)) (by first | omega | assumption | fail) (by first | exact hn | simpa using hn | fail) ?_; conv => whnf) | (refine allG rfl ?_; conv => whnf) | (refine And.intro (by first | omega | assumption | kernel_rfl | exact And.intro rfl rfl | ((try dsimp only [inR, idx, lowOf]); first | omega | (with_reducible decide) | (simp; omega) | (simp; done) | fail) | fail) ?_; conv => whnf) | fail)
      refine ⟨baseN ns es (i + 1), [(12, 1034)], ⟨hlt, rfl⟩, ?_⟩
      have hl2 : (baseN ns es (i + 1)).length = (baseN ns es i).length + 2 := by rw [hbn, List.length_append]; rfl
      repeat' (first | exact trivial | exact rfl | refine And.intro ?_ ?_)
      · exact congrArg (SV.sl (A := AF) 1034 1 0) hl2.symm
      · refine congrArg (Ct.arr (A := AF) 3) (Eq.trans ?_ hbn.symm)
        exact congrArg (· ++ [1000 + ed, n1]) (show ((baseN ns es i).drop 0).take (baseN ns es i).length = _ by rw [List.drop_zero, List.take_length])
  · rintro out ⟨hi, rfl⟩
    conv => whnf
    refine ⟨(), [], trivial, ⟨Nat.le_of_eq (Nat.zero_add _), rfl, congrArg (SV.lst (A := AF) 3) ?_⟩, trivial, trivial⟩
    rw [List.drop_zero, List.take_length]
    exact congrArg (baseN ns es) (show es.length = (outsAll es).length by simp [outsAll])
end Go.Sx


/-
  Layer 13 at the door: order.Base, Check of no orders, awake.
-/
namespace Go.Sx
open Go Go.Proofs Go.Proofs.YtmogappoadglgaaDoor
def relN (ns : List Stp) : Nat := (ns.filter fun x => x.2.2).length
def spBaseC : Spec AF where
  γ := OrdT
  δ := Unit
  args := fun o => [ordS o]
  own := fun _ => []
  pre := fun o => o.2.2.2.2.1.length ≤ 1000000
  nnew := 0
  res := fun o _ => vI (relN o.2.2.2.2.1 : Nat)
  own' := fun _ _ => []
  post := fun _ _ => True
theorem relN_le (ns : List Stp) : relN ns ≤ ns.length := List.length_filter_le _ _
theorem relN_succ {ns : List Stp} {i : Nat} {x : Stp} (h : ns[i]? = some x) : relN (ns.take (i + 1)) = relN (ns.take i) + (if x.2.2 = true then 1 else 0) := by
  rw [take_snocI h]; unfold relN
  rw [List.filter_append, List.length_append]
  cases hx : x.2.2 <;> simp [hx]
theorem m_baseC : Meets Tryd.prog regF 59 spBaseC := by
  refine meets Tryd.func59 17 noWr rfl (by kernel_rfl) (by kernel_rfl) ?_
  rintro ⟨(h : Int), (v : List UInt8), (od : Int), (up : Int), (ns : List Stp), (es : List Stp)⟩ (hl : ns.length ≤ 1000000)
  conv => whnf
  repeat' (first | (refine tell (fun hQ => ?_) (fun hQ => ?_) <;> (try dsimp only at hQ) <;> first | (exfalso; omega) | (exact absurd rfl hQ) | (exact absurd (by decide) hQ) | (conv => whnf)) | (refine allG rfl ?_; conv => whnf) | (refine And.intro (by first | omega | assumption | kernel_rfl | exact And.intro rfl rfl | ((try dsimp only [inR, idx, lowOf]); first | omega | (with_reducible decide) | (simp; omega) | (simp; done) | fail) | fail) ?_; conv => whnf) | fail)
  refine ⟨Nat, fun i => ⟨[(2, vI (relN (ns.take i) : Nat)), (6, .lst 46 ns), (7, vI ns.length), (8, vI i)], []⟩, fun i => i ≤ ns.length, fun i => ns.length - i, fun _ _ => rfl, ⟨0, [], Nat.zero_le _, ?_⟩, ?_⟩
  · refine ⟨rfl, ?_, ?_, rfl⟩
    all_goals (repeat' (first | exact trivial | exact rfl | refine And.intro ?_ ?_ | (refine congrArg vI ?_; first | omega | (dsimp only; omega) | fail) | (refine congrArg some ?_) | omega | exact Nat.le_refl _ | exact congrArg (SV.lst _) (List.take_of_length_le (Nat.le_refl _)).symm))
  rintro (i : Nat) (hi : i ≤ ns.length)
  have hle : relN (ns.take i) ≤ i := Nat.le_trans (relN_le _) (by rw [List.length_take]; exact Nat.min_le_left _ _)
  by_cases hlt : i < ns.length
  · have hobt : ∃ y, ns[i]? = some y := ⟨_, List.getElem?_eq_getElem hlt⟩
    obtain ⟨⟨(n1 : Int), (s1 : Int), (r1 : Bool)⟩, hn⟩ := hobt
    have hs := relN_succ hn
    cases r1
    · have hs : relN (ns.take (i + 1)) = relN (ns.take i) := hs
      conv => whnf
      repeat' (first | (refine tell (fun hQ => ?_) (fun hQ => ?_) <;> (try dsimp only at hQ) <;> first | (exfalso; omega) | (exact absurd rfl hQ) | (exact absurd (by decide) hQ) | (conv => whnf)) | (refine allG (x := (n1,s1,false)) (by first | exact hn | simpa [List.getElem?_append_right, lowOf] using hn | fail) ?_; conv => whnf) | (refine allLst (x := (n1,s1,false)) (by first | omega | assumption | fail) (by first | exact hn | simpa using hn | fail) ?_; conv => whnf) | (refine allG rfl ?_; conv => whnf) | (refine And.intro (by first | omega | assumption | kernel_rfl | exact And.intro rfl rfl | ((try dsimp only [inR, idx, lowOf]); first | omega | (with_reducible decide) | (simp; omega) | (simp; done) | fail) | fail) ?_; conv => whnf) | fail)
      refine ⟨i + 1, [], hlt, ?_, rfl, ?_, ?_, rfl⟩
      · dsimp only; first | omega | (simp; done) | (simp; omega)
      all_goals (repeat' (first | exact trivial | exact rfl | refine And.intro ?_ ?_ | (refine congrArg vI ?_; first | omega | (dsimp only; omega) | fail) | (refine congrArg some ?_) | omega | exact Nat.le_refl _ | exact congrArg (SV.lst _) (List.take_of_length_le (Nat.le_refl _)).symm))
    · have hs : relN (ns.take (i + 1)) = relN (ns.take i) + 1 := hs
      conv => whnf
      repeat' (first | (refine tell (fun hQ => ?_) (fun hQ => ?_) <;> (try dsimp only at hQ) <;> first | (exfalso; omega) | (exact absurd rfl hQ) | (exact absurd (by decide) hQ) | (conv => whnf)) | (refine allG (x := (n1,s1,true)) (by first | exact hn | simpa [List.getElem?_append_right, lowOf] using hn | fail) ?_; conv => whnf) | (refine allLst (x := (n1,s1,true)) (by first | omega | assumption | fail) (by first | exact hn | simpa using hn | fail) ?_; conv => whnf) | (refine allG rfl ?_; conv => whnf) | (refine And.intro (by first | omega | assumption | kernel_rfl | exact And.intro rfl rfl | ((try dsimp only [inR, idx, lowOf]); first | omega | (with_reducible decide) | (simp; omega) | (simp; done) | fail) | fail) ?_; conv => whnf) | fail)
      refine ⟨i + 1, [], hlt, ?_, rfl, ?_, ?_, rfl⟩
      · dsimp only; first | omega | (simp; done) | (simp; omega)
      all_goals (repeat' (first | exact trivial | exact rfl | refine And.intro ?_ ?_ | (refine congrArg vI ?_; first | omega | (dsimp only; omega) | fail) | (refine congrArg some ?_) | omega | exact Nat.le_refl _ | exact congrArg (SV.lst _) (List.take_of_length_le (Nat.le_refl _)).symm))
  · have hie : i = ns.length := by omega
    subst hie
    conv => whnf
    repeat' (first | (refine tell (fun hQ => ?_) (fun hQ => ?_) <;> (try dsimp only at hQ) <;> first | (exfalso; omega) | (exact absurd rfl hQ) | (exact absurd (by decide) hQ) | (conv => whnf)) | (refine allG rfl ?_; conv => whnf) | (refine And.intro (by first | omega | assumption | kernel_rfl | exact And.intro rfl rfl | ((try dsimp only [inR, idx, lowOf]); first | omega | (with_reducible decide) | (simp; omega) | (simp; done) | fail) | fail) ?_; conv => whnf) | fail)
    refine ⟨(), [], trivial, ?_, trivial, trivial⟩
    exact congrArg (fun k : Nat => vI (k : Int)) (congrArg relN (List.take_length (l := ns)))
def spCheck0 : Spec AF where
  γ := Int × List Edge
  δ := Unit
  args := fun g => [layS g.1 g.2, .lst 34 []]
  own := fun _ => []
  pre := fun _ => True
  nnew := 0
  res := fun _ _ => vI (-1)
  own' := fun _ _ => []
  post := fun _ _ => True
theorem m_check0 : Meets Tryd.prog regF 29 spCheck0 := by
  refine meets Tryd.func29 57 noWr rfl (by kernel_rfl) (by kernel_rfl) ?_
  rintro ⟨(n : Int), (el : List Edge)⟩ _
  conv => whnf
  repeat' (first | (refine tell (fun hQ => ?_) (fun hQ => ?_) <;> (try dsimp only at hQ) <;> first | (exfalso; omega) | (exact absurd rfl hQ) | (exact absurd (by decide) hQ) | (conv => whnf)) | (refine allG rfl ?_; conv => whnf) | (refine And.intro (by first | omega | assumption | kernel_rfl | exact And.intro rfl rfl | ((try dsimp only [inR, idx, lowOf]); first | omega | (with_reducible decide) | (simp; omega) | (simp; done) | fail) | fail) ?_; conv => whnf) | fail)
  refine ⟨Unit, fun _ => ⟨[(10, vI 0), (11, vI 0)], []⟩, fun _ => True, fun _ => 0, fun _ _ => rfl, ⟨(), [], trivial, ?_⟩, ?_⟩
  · refine ⟨rfl, ?_, ?_, rfl⟩
    all_goals (repeat' (first | exact trivial | exact rfl | refine And.intro ?_ ?_ | (refine congrArg vI ?_; first | omega | (dsimp only; omega) | fail) | (refine congrArg some ?_) | omega | exact Nat.le_refl _ | exact congrArg (SV.lst _) (List.take_of_length_le (Nat.le_refl _)).symm))
  rintro _ _
  conv => whnf
  repeat' (first | (refine tell (fun hQ => ?_) (fun hQ => ?_) <;> (try dsimp only at hQ) <;> first | (exfalso; omega) | (exact absurd rfl hQ) | (exact absurd (by decide) hQ) | (conv => whnf)) | (refine allG rfl ?_; conv => whnf) | (refine And.intro (by first | omega | assumption | kernel_rfl | exact And.intro rfl rfl | ((try dsimp only [inR, idx, lowOf]); first | omega | (with_reducible decide) | (simp; omega) | (simp; done) | fail) | fail) ?_; conv => whnf) | fail)
  refine ⟨(), [], trivial, ?_, ?_, ?_⟩
  all_goals (repeat' (first | exact trivial | exact rfl | refine And.intro ?_ ?_ | (refine congrArg vI ?_; first | omega | (dsimp only; omega) | fail) | (refine congrArg some ?_) | omega | exact Nat.le_refl _ | exact congrArg (SV.lst _) (List.take_of_length_le (Nat.le_refl _)).symm))
def oA : OrdT := (1, [118], 2, 0, [(0, 6, true), (4, 8, false)], [(3, 7, false)])
theorem oA_path : PathOk [0, 1003, 4] := by
  refine ⟨rfl, fun i x h => ?_⟩
  match i with
  | 0 => cases h; decide
  | 1 => cases h; decide
  | 2 => cases h; decide
  | i + 3 => simp at h
theorem pA_in : ∀ x ∈ ([0, 1003, 4] : List Int), InI x := by
  intro x hx
  simp only [List.mem_cons, List.not_mem_nil, or_false] at hx
  rcases hx with rfl | rfl | rfl <;> exact ⟨by decide, by decide⟩
theorem oA_ord : ordOf (1, [118], 2, 0, [], []) [0, 1003, 4] 6 1 = oA := rfl
theorem oA_right : RightO oA := by
  rw [← oA_ord]
  exact ordOf_right oA_path (by intro x hx; simp at hx; omega) (by decide) (by decide) ⟨⟨by decide, by decide⟩, ⟨by decide, by decide⟩, ⟨by decide, by decide⟩⟩ (by decide) (by decide) (by decide) (by decide)
def spAwake13 : Spec AF where
  γ := Unit
  δ := Unit
  args := fun _ => []
  own := fun _ => []
  pre := fun _ => True
  nnew := 0
  res := fun _ _ => vB true
  own' := fun _ _ => []
  post := fun _ _ => True
set_option maxRecDepth 100000 in
theorem m_awake13 : Meets Tryd.prog regF 19 spAwake13 := by
  refine meets Tryd.func19 39 noWr rfl (by kernel_rfl) (by kernel_rfl) ?_
  rintro _ _
  conv => whnf
  repeat' (first | (refine tell (fun hQ => ?_) (fun hQ => ?_) <;> (try dsimp only at hQ) <;> first | (exfalso; omega) | (exact absurd rfl hQ) | (exact absurd (by decide) hQ) | (conv => whnf)) | (refine allG rfl ?_; conv => whnf) | (refine And.intro (by first | omega | assumption | kernel_rfl | exact And.intro rfl rfl | ((try dsimp only [inR, idx, lowOf]); first | omega | (with_reducible decide) | (simp; omega) | (simp; done) | fail) | fail) ?_; conv => whnf) | fail)
  refine ⟨_, m_order, ((1, [118], 2, 0, [], []), [0, 1003, 4], 6, 1), [], false, ?_⟩
  conv => whnf
  refine And.intro (vc0 ⟨(by decide : (3 : Nat) ≤ 127), pA_in, (by decide : (0 : Int) ≤ 6), (by decide : (6 : Int) ≤ 1000000)⟩ (by (repeat' (first | exact trivial | exact rfl | refine And.intro ?_ ?_ | (refine congrArg vI ?_; first | omega | (dsimp only; omega) | fail) | (refine congrArg some ?_) | omega | exact Nat.le_refl _ | exact congrArg (SV.lst _) (List.take_of_length_le (Nat.le_refl _)).symm))) (by repeat' (first | exact trivial | exact rfl | refine And.intro ?_ ?_ | (refine congrArg vI ?_; first | omega | (dsimp only; omega) | fail) | (refine congrArg some ?_) | omega | exact Nat.le_refl _ | exact congrArg (SV.lst _) (List.take_of_length_le (Nat.le_refl _)).symm)) trivial trivial) ?_
  refine And.intro ⟨true, (show (true = true ↔ PathOk [0, 1003, 4] ∧ RightO oA) from ⟨fun _ => ⟨oA_path, oA_right⟩, fun _ => rfl⟩)⟩ ?_
  intro (c : Bool) (hc : c = true ↔ PathOk [0, 1003, 4] ∧ RightO oA)
  have hobt := hc.2 ⟨oA_path, oA_right⟩
  obtain rfl := hobt
  conv => whnf
  repeat' (first | (refine tell (fun hQ => ?_) (fun hQ => ?_) <;> (try dsimp only at hQ) <;> first | (exfalso; omega) | (exact absurd rfl hQ) | (exact absurd (by decide) hQ) | (conv => whnf)) | (refine allG rfl ?_; conv => whnf) | (refine And.intro (by first | omega | assumption | kernel_rfl | exact And.intro rfl rfl | ((try dsimp only [inR, idx, lowOf]); first | omega | (with_reducible decide) | (simp; omega) | (simp; done) | fail) | fail) ?_; conv => whnf) | fail)
  refine ⟨_, m_same, oA, [], true, ?_⟩
  conv => whnf
  refine And.intro (vc0 ⟨by decide, by decide⟩ (by (repeat' (first | exact trivial | exact rfl | refine And.intro ?_ ?_ | (refine congrArg vI ?_; first | omega | (dsimp only; omega) | fail) | (refine congrArg some ?_) | omega | exact Nat.le_refl _ | exact congrArg (SV.lst _) (List.take_of_length_le (Nat.le_refl _)).symm))) (by repeat' (first | exact trivial | exact rfl | refine And.intro ?_ ?_ | (refine congrArg vI ?_; first | omega | (dsimp only; omega) | fail) | (refine congrArg some ?_) | omega | exact Nat.le_refl _ | exact congrArg (SV.lst _) (List.take_of_length_le (Nat.le_refl _)).symm)) trivial (.inr (fun _ => ⟨rfl, fun h ct he => by rcases h with _ | _ | h <;> first | (cases he; done) | (cases he; rfl)⟩))) ?_
  refine And.intro ⟨(), trivial⟩ (fun (_ : Unit) _ => ?_)
  conv => whnf
  conv => whnf
  repeat' (first | (refine tell (fun hQ => ?_) (fun hQ => ?_) <;> (try dsimp only at hQ) <;> first | (exfalso; omega) | (exact absurd rfl hQ) | (exact absurd (by decide) hQ) | (conv => whnf)) | (refine allG rfl ?_; conv => whnf) | (refine And.intro (by first | omega | assumption | kernel_rfl | exact And.intro rfl rfl | ((try dsimp only [inR, idx, lowOf]); first | omega | (with_reducible decide) | (simp; omega) | (simp; done) | fail) | fail) ?_; conv => whnf) | fail)
  refine ⟨_, m_baseW, oA, [], false, ?_⟩
  conv => whnf
  refine And.intro (vc0 oA_right (by (repeat' (first | exact trivial | exact rfl | refine And.intro ?_ ?_ | (refine congrArg vI ?_; first | omega | (dsimp only; omega) | fail) | (refine congrArg some ?_) | omega | exact Nat.le_refl _ | exact congrArg (SV.lst _) (List.take_of_length_le (Nat.le_refl _)).symm))) (by repeat' (first | exact trivial | exact rfl | refine And.intro ?_ ?_ | (refine congrArg vI ?_; first | omega | (dsimp only; omega) | fail) | (refine congrArg some ?_) | omega | exact Nat.le_refl _ | exact congrArg (SV.lst _) (List.take_of_length_le (Nat.le_refl _)).symm)) trivial trivial) ?_
  refine And.intro ⟨(), trivial⟩ (fun (_ : Unit) _ => ?_)
  conv => whnf
  conv => whnf
  repeat' (first | (refine tell (fun hQ => ?_) (fun hQ => ?_) <;> (try dsimp only at hQ) <;> first | (exfalso; omega) | (exact absurd rfl hQ) | (exact absurd (by decide) hQ) | (conv => whnf)) | (refine allG rfl ?_; conv => whnf) | (refine And.intro (by first | omega | assumption | kernel_rfl | exact And.intro rfl rfl | ((try dsimp only [inR, idx, lowOf]); first | omega | (with_reducible decide) | (simp; omega) | (simp; done) | fail) | fail) ?_; conv => whnf) | fail)
  refine ⟨_, m_ints, ([0], [0]), [], false, ?_⟩
  conv => whnf
  refine And.intro (vc0 (by decide : (1 : Nat) ≤ 9223372036854775807) (by (repeat' (first | exact trivial | exact rfl | refine And.intro ?_ ?_ | (refine congrArg vI ?_; first | omega | (dsimp only; omega) | fail) | (refine congrArg some ?_) | omega | exact Nat.le_refl _ | exact congrArg (SV.lst _) (List.take_of_length_le (Nat.le_refl _)).symm))) (by repeat' (first | exact trivial | exact rfl | refine And.intro ?_ ?_ | (refine congrArg vI ?_; first | omega | (dsimp only; omega) | fail) | (refine congrArg some ?_) | omega | exact Nat.le_refl _ | exact congrArg (SV.lst _) (List.take_of_length_le (Nat.le_refl _)).symm)) trivial trivial) ?_
  refine And.intro ⟨true, (show (true = true ↔ ([0] : List Int) = [0]) from ⟨fun _ => rfl, fun _ => rfl⟩)⟩ ?_
  intro (c1 : Bool) (hc1 : c1 = true ↔ ([0] : List Int) = [0])
  have hobt := hc1.2 rfl
  obtain rfl := hobt
  conv => whnf
  repeat' (first | (refine tell (fun hQ => ?_) (fun hQ => ?_) <;> (try dsimp only at hQ) <;> first | (exfalso; omega) | (exact absurd rfl hQ) | (exact absurd (by decide) hQ) | (conv => whnf)) | (refine allG rfl ?_; conv => whnf) | (refine And.intro (by first | omega | assumption | kernel_rfl | exact And.intro rfl rfl | ((try dsimp only [inR, idx, lowOf]); first | omega | (with_reducible decide) | (simp; omega) | (simp; done) | fail) | fail) ?_; conv => whnf) | fail)
  refine ⟨_, m_stops, [0, 1003, 4], [], false, ?_⟩
  conv => whnf
  refine And.intro (vc0 (by decide : (3 : Nat) ≤ 1000000) (by (repeat' (first | exact trivial | exact rfl | refine And.intro ?_ ?_ | (refine congrArg vI ?_; first | omega | (dsimp only; omega) | fail) | (refine congrArg some ?_) | omega | exact Nat.le_refl _ | exact congrArg (SV.lst _) (List.take_of_length_le (Nat.le_refl _)).symm))) (by repeat' (first | exact trivial | exact rfl | refine And.intro ?_ ?_ | (refine congrArg vI ?_; first | omega | (dsimp only; omega) | fail) | (refine congrArg some ?_) | omega | exact Nat.le_refl _ | exact congrArg (SV.lst _) (List.take_of_length_le (Nat.le_refl _)).symm)) trivial trivial) ?_
  refine And.intro ⟨(), trivial⟩ (fun (_ : Unit) _ => ?_)
  conv => whnf
  conv => whnf
  repeat' (first | (refine tell (fun hQ => ?_) (fun hQ => ?_) <;> (try dsimp only at hQ) <;> first | (exfalso; omega) | (exact absurd rfl hQ) | (exact absurd (by decide) hQ) | (conv => whnf)) | (refine allG rfl ?_; conv => whnf) | (refine And.intro (by first | omega | assumption | kernel_rfl | exact And.intro rfl rfl | ((try dsimp only [inR, idx, lowOf]); first | omega | (with_reducible decide) | (simp; omega) | (simp; done) | fail) | fail) ?_; conv => whnf) | fail)
  refine ⟨_, m_ints, ([0, 4], [0, 4]), [], false, ?_⟩
  conv => whnf
  refine And.intro (vc0 (by decide : (2 : Nat) ≤ 9223372036854775807) (by (repeat' (first | exact trivial | exact rfl | refine And.intro ?_ ?_ | (refine congrArg vI ?_; first | omega | (dsimp only; omega) | fail) | (refine congrArg some ?_) | omega | exact Nat.le_refl _ | exact congrArg (SV.lst _) (List.take_of_length_le (Nat.le_refl _)).symm))) (by repeat' (first | exact trivial | exact rfl | refine And.intro ?_ ?_ | (refine congrArg vI ?_; first | omega | (dsimp only; omega) | fail) | (refine congrArg some ?_) | omega | exact Nat.le_refl _ | exact congrArg (SV.lst _) (List.take_of_length_le (Nat.le_refl _)).symm)) trivial trivial) ?_
  refine And.intro ⟨true, (show (true = true ↔ ([0, 4] : List Int) = [0, 4]) from ⟨fun _ => rfl, fun _ => rfl⟩)⟩ ?_
  intro (c2 : Bool) (hc2 : c2 = true ↔ ([0, 4] : List Int) = [0, 4])
  have hobt := hc2.2 rfl
  obtain rfl := hobt
  conv => whnf
  repeat' (first | (refine tell (fun hQ => ?_) (fun hQ => ?_) <;> (try dsimp only at hQ) <;> first | (exfalso; omega) | (exact absurd rfl hQ) | (exact absurd (by decide) hQ) | (conv => whnf)) | (refine allG rfl ?_; conv => whnf) | (refine And.intro (by first | omega | assumption | kernel_rfl | exact And.intro rfl rfl | ((try dsimp only [inR, idx, lowOf]); first | omega | (with_reducible decide) | (simp; omega) | (simp; done) | fail) | fail) ?_; conv => whnf) | fail)
  refine ⟨_, m_check0, (1, []), [], false, ?_⟩
  conv => whnf
  refine And.intro (vc0 trivial (by (repeat' (first | exact trivial | exact rfl | refine And.intro ?_ ?_ | (refine congrArg vI ?_; first | omega | (dsimp only; omega) | fail) | (refine congrArg some ?_) | omega | exact Nat.le_refl _ | exact congrArg (SV.lst _) (List.take_of_length_le (Nat.le_refl _)).symm))) (by repeat' (first | exact trivial | exact rfl | refine And.intro ?_ ?_ | (refine congrArg vI ?_; first | omega | (dsimp only; omega) | fail) | (refine congrArg some ?_) | omega | exact Nat.le_refl _ | exact congrArg (SV.lst _) (List.take_of_length_le (Nat.le_refl _)).symm)) trivial trivial) ?_
  refine And.intro ⟨(), trivial⟩ (fun (_ : Unit) _ => ?_)
  conv => whnf
  conv => whnf
  repeat' (first | (refine tell (fun hQ => ?_) (fun hQ => ?_) <;> (try dsimp only at hQ) <;> first | (exfalso; omega) | (exact absurd rfl hQ) | (exact absurd (by decide) hQ) | (conv => whnf)) | (refine allG rfl ?_; conv => whnf) | (refine And.intro (by first | omega | assumption | kernel_rfl | exact And.intro rfl rfl | ((try dsimp only [inR, idx, lowOf]); first | omega | (with_reducible decide) | (simp; omega) | (simp; done) | fail) | fail) ?_; conv => whnf) | fail)
  refine ⟨(), [], trivial, ?_, ?_, ?_⟩
  all_goals (repeat' (first | exact trivial | exact rfl | refine And.intro ?_ ?_ | (refine congrArg vI ?_; first | omega | (dsimp only; omega) | fail) | (refine congrArg some ?_) | omega | exact Nat.le_refl _ | exact congrArg (SV.lst _) (List.take_of_length_le (Nat.le_refl _)).symm))
end Go.Sx


/-
  Layer 13 at the door: raw paths over a layout.
-/
namespace Go.Sx
open Go Go.Proofs Go.Proofs.YtmogappoadglgaaDoor
/-- A way over edges, and where it ends. -/
inductive Way (n : Int) (es : List Edge) : List Int → Int → Prop where
  | one (a : Int) : 0 ≤ a → a < n → Way n es [a] a
  | step (p : List Int) (a : Int) (k : Nat) (e : Edge) : Way n es p a → es[k]? = some e → e.1 = a → Way n es (p ++ [1000 + (k : Int), e.2.1]) e.2.1
def FromA (es : List Edge) (a : Int) (o : List Int) : Prop := ∀ x ∈ o, ∃ (k : Nat) (e : Edge), x = (k : Int) ∧ es[k]? = some e ∧ e.1 = a
theorem FromA.snoc {es : List Edge} {a : Int} {o : List Int} (h : FromA es a o) {k : Nat} {e : Edge} (he : es[k]? = some e) (ha : e.1 = a) : FromA es a (o ++ [(k : Int)]) := fun x hx => by
  rcases List.mem_append.1 hx with hx | hx
  · exact h x hx
  · rw [List.mem_singleton] at hx; exact ⟨k, e, hx, he, ha⟩
def spPath13 : Spec AF where
  γ := (Int × List Edge) × Int × List Int
  δ := List Int × Int
  args := fun g => [layS g.1.1 g.1.2, vI g.2.1, .lst 3 g.2.2, vI 20]
  own := fun _ => []
  pre := fun g => RightL g.1.1 g.1.2 ∧ InI g.2.1 ∧ (∀ x ∈ g.2.2, InI x) ∧ g.2.2.length ≤ 9223372036854775807
  nnew := 0
  res := fun _ d => .lst 3 d.1
  own' := fun _ _ => []
  post := fun g d => Way g.1.1 g.1.2 d.1 d.2 ∧ d.1.length ≤ 41
set_option maxHeartbeats 1600000 in
set_option maxRecDepth 100000 in
theorem m_path13 : Meets Tryd.prog regF 53 spPath13 := by
  refine meets Tryd.func53 77 noWr rfl (by kernel_rfl) (by kernel_rfl) ?_
  rintro ⟨⟨(n : Int), (es : List Edge)⟩, (c : Int), (ts : List Int)⟩ ⟨(hR : RightL n es), (hc : InI c), (hts : ∀ x ∈ ts, InI x), (htl : ts.length ≤ 9223372036854775807)⟩
  have hn0 := hR.pos
  have hel := hR.len
  conv => whnf
  repeat' (first | (refine tell (fun hQ => ?_) (fun hQ => ?_) <;> (try dsimp only at hQ) <;> first | (exfalso; omega) | (exact absurd rfl hQ) | (exact absurd (by decide) hQ) | (conv => whnf)) | (refine allG rfl ?_; conv => whnf) | (refine And.intro (by first | omega | assumption | kernel_rfl | exact And.intro rfl rfl | ((try dsimp only [inR, idx, lowOf]); first | omega | (with_reducible decide) | (simp; omega) | (simp; done) | fail) | fail) ?_; conv => whnf) | fail)
  refine ⟨_, m_pick13, (c, n), [], false, ?_⟩
  conv => whnf
  refine And.intro (vc0 ⟨hc, hn0⟩ (by (repeat' (first | exact trivial | exact rfl | refine And.intro ?_ ?_ | (refine congrArg vI ?_; first | omega | (dsimp only; omega) | fail) | (refine congrArg some ?_) | omega | exact Nat.le_refl _ | exact congrArg (SV.lst _) (List.take_of_length_le (Nat.le_refl _)).symm))) (by repeat' (first | exact trivial | exact rfl | refine And.intro ?_ ?_ | (refine congrArg vI ?_; first | omega | (dsimp only; omega) | fail) | (refine congrArg some ?_) | omega | exact Nat.le_refl _ | exact congrArg (SV.lst _) (List.take_of_length_le (Nat.le_refl _)).symm)) trivial trivial) ?_
  refine And.intro ⟨(), trivial⟩ (fun (_ : Unit) _ => ?_)
  conv => whnf
  conv => whnf
  repeat' (first | (refine tell (fun hQ => ?_) (fun hQ => ?_) <;> (try dsimp only at hQ) <;> first | (exfalso; omega) | (exact absurd rfl hQ) | (exact absurd (by decide) hQ) | (conv => whnf)) | (refine allG rfl ?_; conv => whnf) | (refine And.intro (by first | omega | assumption | kernel_rfl | exact And.intro rfl rfl | ((try dsimp only [inR, idx, lowOf]); first | omega | (with_reducible decide) | (simp; omega) | (simp; done) | fail) | fail) ?_; conv => whnf) | fail)
  have hp0 := pickF_bd (c := c) hn0
  refine ⟨Nat × List Int × Int, fun q => ⟨[(2, .lst 3 ts), (3, vI 20), (4, .ptr 1004 0 2 0), (9, vI q.2.2), (10, .sl 3001 1 0 (2 * q.1 + 1)), (11, vI q.1)], [(1004, layC n es), (3001, .arr 3 q.2.1)]⟩, fun q => q.1 ≤ 20 ∧ q.1 ≤ ts.length ∧ q.2.1.length = 2 * q.1 + 1 ∧ Way n es q.2.1 q.2.2, fun q => 20 - q.1, fun _ _ => rfl, ⟨(0, [pickF c n], pickF c n), [(3001, 1020)], ⟨Nat.zero_le _, Nat.zero_le _, rfl, Way.one _ hp0.1 hp0.2⟩, ?_⟩, ?_⟩
  · refine ⟨rfl, ?_, ?_, rfl⟩
    all_goals (repeat' (first | exact trivial | exact rfl | refine And.intro ?_ ?_ | (refine congrArg vI ?_; first | omega | (dsimp only; omega) | fail) | (refine congrArg some ?_) | omega | exact Nat.le_refl _ | exact congrArg (SV.lst _) (List.take_of_length_le (Nat.le_refl _)).symm))
  rintro ⟨(i : Nat), (p : List Int), (a : Int)⟩ ⟨(hi : i ≤ 20), (hit : i ≤ ts.length), (hpl : p.length = 2 * i + 1), (hw : Way n es p a)⟩
  have fin : spPath13.post ((n, es), c, ts) (p, a) := ⟨hw, by show p.length ≤ 41; omega⟩
  have hpd : p = (p.drop 0).take (2 * i + 1) := by rw [List.drop_zero, ← hpl, List.take_length]
  have e41 : 0 + (2 * i + 1) ≤ p.length := by omega
  by_cases hlt : i < ts.length
  · have hobt : ∃ y, ts[i]? = some y := ⟨_, List.getElem?_eq_getElem hlt⟩
    obtain ⟨t, ht⟩ := hobt
    have hti := hts t (List.mem_of_getElem? ht)
    by_cases h20 : i < 20
    · conv => whnf
      repeat' (first | (refine tell (fun hQ => ?_) (fun hQ => ?_) <;> (try dsimp only at hQ) <;> first | (exfalso; omega) | (exact absurd rfl hQ) | (exact absurd (by decide) hQ) | (conv => whnf)) | (refine allG rfl ?_; conv => whnf) | (refine And.intro (by first | omega | assumption | kernel_rfl | exact And.intro rfl rfl | ((try dsimp only [inR, idx, lowOf]); first | omega | (with_reducible decide) | (simp; omega) | (simp; done) | fail) | fail) ?_; conv => whnf) | fail)
      refine ⟨Nat × List Int, fun q => ⟨[(2, .lst 3 ts), (3, vI 20), (4, .ptr 1004 0 2 0), (9, vI a), (10, .sl 3001 1 0 (2 * i + 1)), (11, vI i), (12, .sl 3002 1 0 q.2.length), (13, vI q.1)], [(1004, layC n es), (3001, .arr 3 p), (3002, .arr 3 q.2)]⟩, fun q => q.1 ≤ es.length ∧ q.2.length ≤ q.1 ∧ FromA es a q.2, fun q => es.length - q.1, fun _ _ => rfl, ⟨(0, []), [], ⟨Nat.zero_le _, Nat.le_refl _, fun x hx => absurd hx (by simp)⟩, ?_⟩, ?_⟩
      · refine ⟨rfl, ?_, ?_, rfl⟩
        all_goals (repeat' (first | exact trivial | exact rfl | refine And.intro ?_ ?_ | (refine congrArg vI ?_; first | omega | (dsimp only; omega) | fail) | (refine congrArg some ?_) | omega | exact Nat.le_refl _ | exact congrArg (SV.lst _) (List.take_of_length_le (Nat.le_refl _)).symm))
      rintro ⟨(k : Nat), (o : List Int)⟩ ⟨(hk : k ≤ es.length), (hol : o.length ≤ k), (hof : FromA es a o)⟩
      by_cases hkl : k < es.length
      · have hobt : ∃ y, es[k]? = some y := ⟨_, List.getElem?_eq_getElem hkl⟩
        obtain ⟨e, he⟩ := hobt
        by_cases hea : e.1 = a
        · conv => whnf
          repeat' (first | (refine tell (fun hQ => ?_) (fun hQ => ?_) <;> (try dsimp only at hQ) <;> first | (exfalso; omega) | (exact absurd rfl hQ) | (exact absurd (by decide) hQ) | (conv => whnf)) | (refine allG (x := e) (by first | exact he | simpa [List.getElem?_append_right, lowOf] using he | fail) ?_; conv => whnf) | (refine allLst (x := e) (by first | omega | assumption | fail) (by first | exact he | simpa using he | fail) ?_; conv => whnf) | (refine allG rfl ?_; conv => whnf) | (refine And.intro (by first | omega | assumption | kernel_rfl | exact And.intro rfl rfl | ((try dsimp only [inR, idx, lowOf]); first | omega | (with_reducible decide) | (simp; omega) | (simp; done) | fail) | fail) ?_; conv => whnf) | fail)
          refine ⟨(k + 1, o ++ [(k : Int)]), [(3002, 1050)], ⟨hkl, by show (o ++ [(k : Int)]).length ≤ k + 1; simp; omega, hof.snoc he hea⟩, ?_, rfl, ?_, ?_, rfl⟩
          · dsimp only; first | omega | (simp; done) | (simp; omega)
          all_goals (repeat' (first | exact trivial | exact rfl | refine And.intro ?_ ?_ | (refine congrArg vI ?_; first | omega | (dsimp only; omega) | fail) | (refine congrArg some ?_) | omega | exact Nat.le_refl _ | exact congrArg (SV.lst _) (List.take_of_length_le (Nat.le_refl _)).symm))
          all_goals first | exact congrArg (SV.sl (A := AF) 1050 1 0) (show o.length + 1 = (o ++ [(k : Int)]).length by simp) | exact congrArg (Ct.arr (A := AF) 3) (congrArg (· ++ [(k : Int)]) (show (o.drop 0).take o.length = o by rw [List.drop_zero, List.take_length])) | fail
        · conv => whnf
          repeat' (first | (refine tell (fun hQ => ?_) (fun hQ => ?_) <;> (try dsimp only at hQ) <;> first | (exfalso; omega) | (exact absurd rfl hQ) | (exact absurd (by decide) hQ) | (conv => whnf)) | (refine allG (x := e) (by first | exact he | simpa [List.getElem?_append_right, lowOf] using he | fail) ?_; conv => whnf) | (refine allLst (x := e) (by first | omega | assumption | fail) (by first | exact he | simpa using he | fail) ?_; conv => whnf) | (refine allG rfl ?_; conv => whnf) | (refine And.intro (by first | omega | assumption | kernel_rfl | exact And.intro rfl rfl | ((try dsimp only [inR, idx, lowOf]); first | omega | (with_reducible decide) | (simp; omega) | (simp; done) | fail) | fail) ?_; conv => whnf) | fail)
          refine ⟨(k + 1, o), [], ⟨hkl, by show o.length ≤ k + 1; omega, hof⟩, ?_, rfl, ?_, ?_, rfl⟩
          · dsimp only; first | omega | (simp; done) | (simp; omega)
          all_goals (repeat' (first | exact trivial | exact rfl | refine And.intro ?_ ?_ | (refine congrArg vI ?_; first | omega | (dsimp only; omega) | fail) | (refine congrArg some ?_) | omega | exact Nat.le_refl _ | exact congrArg (SV.lst _) (List.take_of_length_le (Nat.le_refl _)).symm))
      · by_cases ho0 : o.length = 0
        · conv => whnf
          repeat' (first | (refine tell (fun hQ => ?_) (fun hQ => ?_) <;> (try dsimp only at hQ) <;> first | (exfalso; omega) | (exact absurd rfl hQ) | (exact absurd (by decide) hQ) | (conv => whnf)) | (refine allG rfl ?_; conv => whnf) | (refine And.intro (by first | omega | assumption | kernel_rfl | exact And.intro rfl rfl | ((try dsimp only [inR, idx, lowOf]); first | omega | (with_reducible decide) | (simp; omega) | (simp; done) | fail) | fail) ?_; conv => whnf) | fail)
          exact ⟨(p, a), [], fin, ⟨e41, rfl, congrArg (SV.lst (A := AF) 3) hpd⟩, trivial, trivial⟩
        · have hpo := pickF_bd (c := t) (n := (o.length : Int)) (by omega)
          conv => whnf
          repeat' (first | (refine tell (fun hQ => ?_) (fun hQ => ?_) <;> (try dsimp only at hQ) <;> first | (exfalso; omega) | (exact absurd rfl hQ) | (exact absurd (by decide) hQ) | (conv => whnf)) | (refine allG (x := t) (by first | exact ht | simpa [List.getElem?_append_right, lowOf] using ht | fail) ?_; conv => whnf) | (refine allLst (x := t) (by first | omega | assumption | fail) (by first | exact ht | simpa using ht | fail) ?_; conv => whnf) | (refine allG rfl ?_; conv => whnf) | (refine And.intro (by first | omega | assumption | kernel_rfl | exact And.intro rfl rfl | ((try dsimp only [inR, idx, lowOf]); first | omega | (with_reducible decide) | (simp; omega) | (simp; done) | fail) | fail) ?_; conv => whnf) | fail)
          refine ⟨_, m_pick13, (t, o.length), [], false, ?_⟩
          conv => whnf
          refine And.intro (vc0 ⟨hti, by show (0 : Int) < (o.length : Int); omega⟩ (by (repeat' (first | exact trivial | exact rfl | refine And.intro ?_ ?_ | (refine congrArg vI ?_; first | omega | (dsimp only; omega) | fail) | (refine congrArg some ?_) | omega | exact Nat.le_refl _ | exact congrArg (SV.lst _) (List.take_of_length_le (Nat.le_refl _)).symm))) (by repeat' (first | exact trivial | exact rfl | refine And.intro ?_ ?_ | (refine congrArg vI ?_; first | omega | (dsimp only; omega) | fail) | (refine congrArg some ?_) | omega | exact Nat.le_refl _ | exact congrArg (SV.lst _) (List.take_of_length_le (Nat.le_refl _)).symm)) trivial trivial) ?_
          refine And.intro ⟨(), trivial⟩ (fun (_ : Unit) _ => ?_)
          conv => whnf
          have hobt : ∃ y, o[(pickF t o.length).toNat]? = some y := ⟨_, List.getElem?_eq_getElem (by omega)⟩
          obtain ⟨x, hx⟩ := hobt
          have hobt := hof x (List.mem_of_getElem? hx)
          obtain ⟨(j : Nat), (e : Edge), (rfl : x = (j : Int)), (hj : es[j]? = some e), (hea : e.1 = a)⟩ := hobt
          have hjl := (List.getElem?_eq_some_iff.1 hj).1
          have hj' : es[((j : Int)).toNat]? = some e := by rw [Int.toNat_natCast]; exact hj
          have hj0 : 0 ≤ (j : Int) := Int.natCast_nonneg j
          generalize hjj : (j : Int) = jj at *
          have hx' : o[0 + (pickF t o.length).toNat]? = some jj := by rw [Nat.zero_add]; exact hx
          conv => whnf
          repeat' (first | (refine tell (fun hQ => ?_) (fun hQ => ?_) <;> (try dsimp only at hQ) <;> first | (exfalso; omega) | (exact absurd rfl hQ) | (exact absurd (by decide) hQ) | (conv => whnf)) | (refine allG (x := jj) (by first | exact hx' | simpa [List.getElem?_append_right, lowOf] using hx' | fail) ?_; conv => whnf) | (refine allLst (x := jj) (by first | omega | assumption | fail) (by first | exact hx' | simpa using hx' | fail) ?_; conv => whnf) | (refine allLst (x := e) hj0 hj' ?_; conv => whnf) | (refine allG rfl ?_; conv => whnf) | (refine And.intro (by first | omega | assumption | kernel_rfl | exact And.intro rfl rfl | ((try dsimp only [inR, idx, lowOf]); first | omega | (with_reducible decide) | (simp; omega) | (simp; done) | fail) | fail) ?_; conv => whnf) | fail)
          have hw2 : Way n es (p ++ [1000 + jj, e.2.1]) e.2.1 := by rw [← hjj]; exact Way.step p a j e hw hj hea
          have hl2 : (p ++ [1000 + jj, e.2.1]).length = 2 * (i + 1) + 1 := by rw [List.length_append]; show p.length + 2 = _; omega
          refine ⟨(i + 1, p ++ [1000 + jj, e.2.1], e.2.1), [(3001, 1075)], ⟨h20, hlt, hl2, hw2⟩, ?_, rfl, ?_, ?_, rfl⟩
          · dsimp only; first | omega | (simp; done) | (simp; omega)
          all_goals (repeat' (first | exact trivial | exact rfl | refine And.intro ?_ ?_ | (refine congrArg vI ?_; first | omega | (dsimp only; omega) | fail) | (refine congrArg some ?_) | omega | exact Nat.le_refl _ | exact congrArg (SV.lst _) (List.take_of_length_le (Nat.le_refl _)).symm))
          all_goals first | exact congrArg (SV.sl (A := AF) 1075 1 0) (show 2 * i + 1 + 2 = 2 * (i + 1) + 1 by omega) | exact congrArg (Ct.arr (A := AF) 3) (congrArg (· ++ [1000 + jj, e.2.1]) hpd.symm) | fail
    · conv => whnf
      repeat' (first | (refine tell (fun hQ => ?_) (fun hQ => ?_) <;> (try dsimp only at hQ) <;> first | (exfalso; omega) | (exact absurd rfl hQ) | (exact absurd (by decide) hQ) | (conv => whnf)) | (refine allG rfl ?_; conv => whnf) | (refine And.intro (by first | omega | assumption | kernel_rfl | exact And.intro rfl rfl | ((try dsimp only [inR, idx, lowOf]); first | omega | (with_reducible decide) | (simp; omega) | (simp; done) | fail) | fail) ?_; conv => whnf) | fail)
      exact ⟨(p, a), [], fin, ⟨e41, rfl, congrArg (SV.lst (A := AF) 3) hpd⟩, trivial, trivial⟩
  · conv => whnf
    repeat' (first | (refine tell (fun hQ => ?_) (fun hQ => ?_) <;> (try dsimp only at hQ) <;> first | (exfalso; omega) | (exact absurd rfl hQ) | (exact absurd (by decide) hQ) | (conv => whnf)) | (refine allG rfl ?_; conv => whnf) | (refine And.intro (by first | omega | assumption | kernel_rfl | exact And.intro rfl rfl | ((try dsimp only [inR, idx, lowOf]); first | omega | (with_reducible decide) | (simp; omega) | (simp; done) | fail) | fail) ?_; conv => whnf) | fail)
    exact ⟨(p, a), [], fin, ⟨e41, rfl, congrArg (SV.lst (A := AF) 3) hpd⟩, trivial, trivial⟩
end Go.Sx


/-
  Layer 13 at the door: what a way is; Make.
-/
namespace Go.Sx
open Go Go.Proofs Go.Proofs.YtmogappoadglgaaDoor
theorem Way.odd {n : Int} {es : List Edge} {p : List Int} {a : Int} (h : Way n es p a) : p.length % 2 = 1 := by
  induction h with
  | one => rfl
  | step p a k e _ _ _ ih => rw [List.length_append]; show (p.length + 2) % 2 = 1; omega
theorem Way.last {n : Int} {es : List Edge} {p : List Int} {a : Int} (h : Way n es p a) : p[p.length - 1]? = some a := by
  cases h with
  | one => rfl
  | step p a k e _ _ _ =>
    rw [List.length_append, List.getElem?_append_right (by show p.length ≤ p.length + 2 - 1; omega)]
    show [1000 + (k : Int), e.2.1][p.length + 2 - 1 - p.length]? = _
    rw [show p.length + 2 - 1 - p.length = 1 by omega]; rfl
/-- The nodes of a way. -/
theorem Way.node {n : Int} {es : List Edge} {p : List Int} {a : Int} (h : Way n es p a) (hR : RightL n es) : ∀ (i : Nat) x, p[i]? = some x → i % 2 = 0 → 0 ≤ x ∧ x < n := by
  induction h with
  | one a h1 h2 =>
    intro i x hx hi
    match i with
    | 0 => cases hx; exact ⟨h1, h2⟩
    | i + 1 => simp at hx
  | step p a k e hw he hea ih =>
    intro i x hx hi
    have hodd := hw.odd
    by_cases hlt : i < p.length
    · rw [List.getElem?_append_left hlt] at hx; exact ih i x hx hi
    · rw [List.getElem?_append_right (by omega)] at hx
      have hb := (List.getElem?_eq_some_iff.1 hx).1
      have hb : i - p.length < 2 := hb
      have h1 : i - p.length = 1 := by omega
      rw [h1] at hx; cases hx
      have hobt := hR.each e (List.mem_of_getElem? he)
      obtain ⟨_, _, o3, o4, _⟩ := hobt
      exact ⟨o3, o4⟩
/-- Its edges. -/
theorem Way.edge {n : Int} {es : List Edge} {p : List Int} {a : Int} (h : Way n es p a) : ∀ (i : Nat) x, p[i]? = some x → i % 2 = 1 → ∃ (k : Nat) (e : Edge), x = 1000 + (k : Int) ∧ es[k]? = some e ∧ p[i - 1]? = some e.1 ∧ p[i + 1]? = some e.2.1 := by
  induction h with
  | one a h1 h2 =>
    intro i x hx hi
    match i with
    | 0 => cases hi
    | i + 1 => simp at hx
  | step p a k e hw he hea ih =>
    intro i x hx hi
    have hodd := hw.odd
    by_cases hlt : i < p.length
    · rw [List.getElem?_append_left hlt] at hx
      have hobt := ih i x hx hi
      obtain ⟨k', e', h1, h2, h3, h4⟩ := hobt
      have := (List.getElem?_eq_some_iff.1 h4).1
      exact ⟨k', e', h1, h2, by rw [List.getElem?_append_left (by omega)]; exact h3, by rw [List.getElem?_append_left (by omega)]; exact h4⟩
    · rw [List.getElem?_append_right (by omega)] at hx
      have hb : i - p.length < 2 := (List.getElem?_eq_some_iff.1 hx).1
      have h0 : i = p.length := by omega
      subst h0
      rw [Nat.sub_self] at hx; cases hx
      refine ⟨k, e, rfl, he, ?_, ?_⟩
      · rw [List.getElem?_append_left (by omega), hw.last, hea]
      · rw [List.getElem?_append_right (by omega), show p.length + 1 - p.length = 1 by omega]; rfl
theorem Way.ok {n : Int} {es : List Edge} {p : List Int} {a : Int} (h : Way n es p a) (hR : RightL n es) : PathOk p := by
  refine ⟨h.odd, fun i x hx => ?_⟩
  have hm := hR.most
  rcases Nat.mod_two_eq_zero_or_one i with hi | hi
  · have := h.node hR i x hx hi
    exact ⟨this.1, by omega⟩
  · have hobt := h.edge i x hx hi
    obtain ⟨k, e, rfl, _⟩ := hobt
    exact ⟨by omega, by omega⟩
theorem Way.small {n : Int} {es : List Edge} {p : List Int} {a : Int} (h : Way n es p a) (hR : RightL n es) : ∀ x ∈ p, 0 ≤ x ∧ x ≤ 1120 := by
  intro x hx
  have hobt := List.mem_iff_getElem?.1 hx
  obtain ⟨i, hi⟩ := hobt
  have hm := hR.most
  have hl := hR.len
  rcases Nat.mod_two_eq_zero_or_one i with h2 | h2
  · have := h.node hR i x hi h2
    exact ⟨this.1, by omega⟩
  · have hobt := h.edge i x hi h2
    obtain ⟨k, e, rfl, hk, _⟩ := hobt
    have := (List.getElem?_eq_some_iff.1 hk).1
    exact ⟨by omega, by omega⟩
abbrev RawT := Int × Int × Int × Int × Int × Int × List Int
abbrev rawS (x : RawT) : SV AF := .agg [vI x.1, vI x.2.1, vI x.2.2.1, vI x.2.2.2.1, vI x.2.2.2.2.1, vI x.2.2.2.2.2.1, .lst 3 x.2.2.2.2.2.2]
def RawIn (x : RawT) : Prop := InI x.1 ∧ InI x.2.1 ∧ InI x.2.2.1 ∧ InI x.2.2.2.1 ∧ InI x.2.2.2.2.1 ∧ InI x.2.2.2.2.2.1 ∧ (∀ t ∈ x.2.2.2.2.2.2, InI t) ∧ x.2.2.2.2.2.2.length ≤ 9223372036854775807
def mkH (x : RawT) : OrdT := (pickF x.1 50, [118], pickF x.2.1 3, pickF x.2.2.1 4, [], [])
def mkS (x : RawT) : Int := 2 * pickF x.2.2.2.1 20
def mkK (x : RawT) (p : List Int) : Int := 1 + pickF x.2.2.2.2.2.1 (((p.length + 1) / 2 : Nat) : Int)
def mkO (x : RawT) (p : List Int) : OrdT := ordOf (mkH x) p (mkS x) (mkK x p)
theorem mkS_bd (x : RawT) : 0 ≤ mkS x ∧ mkS x ≤ 38 ∧ (mkS x).tmod 2 = 0 := by
  have h := pickF_bd (c := x.2.2.2.1) (n := 20) (by omega)
  unfold mkS
  refine ⟨by omega, by omega, ?_⟩
  rw [Int.tmod_eq_emod_of_nonneg (by omega)]; omega
theorem mkK_bd (x : RawT) {p : List Int} (hp : 1 ≤ p.length) : 1 ≤ mkK x p ∧ mkK x p ≤ (((p.length + 1) / 2 : Nat) : Int) := by
  have h := pickF_bd (c := x.2.2.2.2.2.1) (n := (((p.length + 1) / 2 : Nat) : Int)) (by omega)
  unfold mkK
  omega
theorem mkO_right' {n : Int} {es : List Edge} {p : List Int} {a : Int} (h : Way n es p a) (hR : RightL n es) (hl : p.length ≤ 41) (x : RawT) {s k : Int} (hs : s.tmod 2 = 0) (h0 : 0 ≤ s) (h1 : s ≤ 1000) (hk : 1 ≤ k) : RightO (ordOf (mkH x) p s k) := by
  have a1 := pickF_bd (c := x.1) (n := 50) (by omega)
  have a2 := pickF_bd (c := x.2.1) (n := 3) (by omega)
  have a3 := pickF_bd (c := x.2.2.1) (n := 4) (by omega)
  exact ordOf_right (h.ok hR) (fun y hy => by have := (h.small hR y hy).2; omega) (by omega) (show nameF [118] = true by decide) ⟨⟨a1.1, by show pickF x.1 50 ≤ _; omega⟩, ⟨a2.1, by show pickF x.2.1 3 ≤ _; omega⟩, ⟨a3.1, by show pickF x.2.2.1 4 ≤ _; omega⟩⟩ hs h0 (by omega) hk
theorem mkO_right {n : Int} {es : List Edge} {p : List Int} {a : Int} (h : Way n es p a) (hR : RightL n es) (hl : p.length ≤ 41) (x : RawT) : RightO (mkO x p) := by
  have b := mkS_bd x
  have c := mkK_bd x (p := p) (by have := h.odd; omega)
  exact mkO_right' h hR hl x b.2.2 b.1 (by omega) c.1
def spMake13 : Spec AF where
  γ := (Int × List Edge) × RawT
  δ := List Int × Int
  args := fun g => [layS g.1.1 g.1.2, rawS g.2]
  own := fun _ => []
  pre := fun g => RightL g.1.1 g.1.2 ∧ RawIn g.2
  nnew := 0
  res := fun g d => .tup [ordS (mkO g.2 d.1), .lst 3 d.1]
  own' := fun _ _ => []
  post := fun g d => Way g.1.1 g.1.2 d.1 d.2 ∧ d.1.length ≤ 41
theorem way_ex {n : Int} {es : List Edge} (hR : RightL n es) : ∃ d : List Int × Int, Way n es d.1 d.2 ∧ d.1.length ≤ 41 := ⟨([0], 0), Way.one 0 (by omega) hR.pos, by decide⟩
set_option maxHeartbeats 1600000 in
set_option maxRecDepth 100000 in
theorem m_make13 : Meets Tryd.prog regF 21 spMake13 := by
  refine meets Tryd.func21 46 noWr rfl (by kernel_rfl) (by kernel_rfl) ?_
  rintro ⟨⟨(n : Int), (es : List Edge)⟩, (h : Int), (od : Int), (up : Int), (sq : Int), (fr : Int), (re : Int), (ts : List Int)⟩ ⟨(hR : RightL n es), (i1 : InI h), (i2 : InI od), (i3 : InI up), (i4 : InI sq), (i5 : InI fr), (i6 : InI re), (i7 : ∀ t ∈ ts, InI t), (i8 : ts.length ≤ 9223372036854775807)⟩
  conv => whnf
  repeat' (first | (refine tell (fun hQ => ?_) (fun hQ => ?_) <;> (try dsimp only at hQ) <;> first | (exfalso; omega) | (exact absurd rfl hQ) | (exact absurd (by decide) hQ) | (conv => whnf)) | (refine allG rfl ?_; conv => whnf) | (refine And.intro (by first | omega | assumption | kernel_rfl | exact And.intro rfl rfl | ((try dsimp only [inR, idx, lowOf]); first | omega | (with_reducible decide) | (simp; omega) | (simp; done) | fail) | fail) ?_; conv => whnf) | fail)
  refine ⟨_, m_path13, ((n, es), fr, ts), [], false, ?_⟩
  conv => whnf
  refine And.intro (vc0 ⟨hR, i5, i7, i8⟩ (by (repeat' (first | exact trivial | exact rfl | refine And.intro ?_ ?_ | (refine congrArg vI ?_; first | omega | (dsimp only; omega) | fail) | (refine congrArg some ?_) | omega | exact Nat.le_refl _ | exact congrArg (SV.lst _) (List.take_of_length_le (Nat.le_refl _)).symm))) (by repeat' (first | exact trivial | exact rfl | refine And.intro ?_ ?_ | (refine congrArg vI ?_; first | omega | (dsimp only; omega) | fail) | (refine congrArg some ?_) | omega | exact Nat.le_refl _ | exact congrArg (SV.lst _) (List.take_of_length_le (Nat.le_refl _)).symm)) trivial trivial) ?_
  refine And.intro (way_ex hR) ?_
  rintro ⟨(p : List Int), (a : Int)⟩ ⟨(hw : Way n es p a), (hpl : p.length ≤ 41)⟩
  have hodd := hw.odd
  have hq : ((p.length : Int) + 1).tdiv 2 = (((p.length + 1) / 2 : Nat) : Int) := by rw [Int.tdiv_eq_ediv_of_nonneg (by omega)]; omega
  have a1 := pickF_bd (c := h) (n := 50) (by omega)
  have a2 := pickF_bd (c := od) (n := 3) (by omega)
  have a3 := pickF_bd (c := up) (n := 4) (by omega)
  have a4 := pickF_bd (c := sq) (n := 20) (by omega)
  have a5 := pickF_bd (c := re) (n := (((p.length + 1) / 2 : Nat) : Int)) (by omega)
  conv => whnf
  repeat' (first | (refine tell (fun hQ => ?_) (fun hQ => ?_) <;> (try dsimp only at hQ) <;> first | (exfalso; omega) | (exact absurd rfl hQ) | (exact absurd (by decide) hQ) | (conv => whnf)) | (refine allG rfl ?_; conv => whnf) | (refine And.intro (by first | omega | assumption | kernel_rfl | exact And.intro rfl rfl | ((try dsimp only [inR, idx, lowOf]); first | omega | (with_reducible decide) | (simp; omega) | (simp; done) | fail) | fail) ?_; conv => whnf) | fail)
  refine ⟨_, m_pick13, (h, 50), [], false, ?_⟩
  conv => whnf
  refine And.intro (vc0 ⟨i1, (by decide : (0 : Int) < 50)⟩ (by (repeat' (first | exact trivial | exact rfl | refine And.intro ?_ ?_ | (refine congrArg vI ?_; first | omega | (dsimp only; omega) | fail) | (refine congrArg some ?_) | omega | exact Nat.le_refl _ | exact congrArg (SV.lst _) (List.take_of_length_le (Nat.le_refl _)).symm))) (by repeat' (first | exact trivial | exact rfl | refine And.intro ?_ ?_ | (refine congrArg vI ?_; first | omega | (dsimp only; omega) | fail) | (refine congrArg some ?_) | omega | exact Nat.le_refl _ | exact congrArg (SV.lst _) (List.take_of_length_le (Nat.le_refl _)).symm)) trivial trivial) ?_
  refine And.intro ⟨(), trivial⟩ (fun (_ : Unit) _ => ?_)
  conv => whnf
  conv => whnf
  repeat' (first | (refine tell (fun hQ => ?_) (fun hQ => ?_) <;> (try dsimp only at hQ) <;> first | (exfalso; omega) | (exact absurd rfl hQ) | (exact absurd (by decide) hQ) | (conv => whnf)) | (refine allG rfl ?_; conv => whnf) | (refine And.intro (by first | omega | assumption | kernel_rfl | exact And.intro rfl rfl | ((try dsimp only [inR, idx, lowOf]); first | omega | (with_reducible decide) | (simp; omega) | (simp; done) | fail) | fail) ?_; conv => whnf) | fail)
  refine ⟨_, m_pick13, (od, 3), [], false, ?_⟩
  conv => whnf
  refine And.intro (vc0 ⟨i2, (by decide : (0 : Int) < 3)⟩ (by (repeat' (first | exact trivial | exact rfl | refine And.intro ?_ ?_ | (refine congrArg vI ?_; first | omega | (dsimp only; omega) | fail) | (refine congrArg some ?_) | omega | exact Nat.le_refl _ | exact congrArg (SV.lst _) (List.take_of_length_le (Nat.le_refl _)).symm))) (by repeat' (first | exact trivial | exact rfl | refine And.intro ?_ ?_ | (refine congrArg vI ?_; first | omega | (dsimp only; omega) | fail) | (refine congrArg some ?_) | omega | exact Nat.le_refl _ | exact congrArg (SV.lst _) (List.take_of_length_le (Nat.le_refl _)).symm)) trivial trivial) ?_
  refine And.intro ⟨(), trivial⟩ (fun (_ : Unit) _ => ?_)
  conv => whnf
  conv => whnf
  repeat' (first | (refine tell (fun hQ => ?_) (fun hQ => ?_) <;> (try dsimp only at hQ) <;> first | (exfalso; omega) | (exact absurd rfl hQ) | (exact absurd (by decide) hQ) | (conv => whnf)) | (refine allG rfl ?_; conv => whnf) | (refine And.intro (by first | omega | assumption | kernel_rfl | exact And.intro rfl rfl | ((try dsimp only [inR, idx, lowOf]); first | omega | (with_reducible decide) | (simp; omega) | (simp; done) | fail) | fail) ?_; conv => whnf) | fail)
  refine ⟨_, m_pick13, (up, 4), [], false, ?_⟩
  conv => whnf
  refine And.intro (vc0 ⟨i3, (by decide : (0 : Int) < 4)⟩ (by (repeat' (first | exact trivial | exact rfl | refine And.intro ?_ ?_ | (refine congrArg vI ?_; first | omega | (dsimp only; omega) | fail) | (refine congrArg some ?_) | omega | exact Nat.le_refl _ | exact congrArg (SV.lst _) (List.take_of_length_le (Nat.le_refl _)).symm))) (by repeat' (first | exact trivial | exact rfl | refine And.intro ?_ ?_ | (refine congrArg vI ?_; first | omega | (dsimp only; omega) | fail) | (refine congrArg some ?_) | omega | exact Nat.le_refl _ | exact congrArg (SV.lst _) (List.take_of_length_le (Nat.le_refl _)).symm)) trivial trivial) ?_
  refine And.intro ⟨(), trivial⟩ (fun (_ : Unit) _ => ?_)
  conv => whnf
  conv => whnf
  repeat' (first | (refine tell (fun hQ => ?_) (fun hQ => ?_) <;> (try dsimp only at hQ) <;> first | (exfalso; omega) | (exact absurd rfl hQ) | (exact absurd (by decide) hQ) | (conv => whnf)) | (refine allG rfl ?_; conv => whnf) | (refine And.intro (by first | omega | assumption | kernel_rfl | exact And.intro rfl rfl | ((try dsimp only [inR, idx, lowOf]); first | omega | (with_reducible decide) | (simp; omega) | (simp; done) | fail) | fail) ?_; conv => whnf) | fail)
  refine ⟨_, m_pick13, (sq, 20), [], false, ?_⟩
  conv => whnf
  refine And.intro (vc0 ⟨i4, (by decide : (0 : Int) < 20)⟩ (by (repeat' (first | exact trivial | exact rfl | refine And.intro ?_ ?_ | (refine congrArg vI ?_; first | omega | (dsimp only; omega) | fail) | (refine congrArg some ?_) | omega | exact Nat.le_refl _ | exact congrArg (SV.lst _) (List.take_of_length_le (Nat.le_refl _)).symm))) (by repeat' (first | exact trivial | exact rfl | refine And.intro ?_ ?_ | (refine congrArg vI ?_; first | omega | (dsimp only; omega) | fail) | (refine congrArg some ?_) | omega | exact Nat.le_refl _ | exact congrArg (SV.lst _) (List.take_of_length_le (Nat.le_refl _)).symm)) trivial trivial) ?_
  refine And.intro ⟨(), trivial⟩ (fun (_ : Unit) _ => ?_)
  conv => whnf
  conv => whnf
  repeat' (first | (refine tell (fun hQ => ?_) (fun hQ => ?_) <;> (try dsimp only at hQ) <;> first | (exfalso; omega) | (exact absurd rfl hQ) | (exact absurd (by decide) hQ) | (conv => whnf)) | (refine allG rfl ?_; conv => whnf) | (refine And.intro (by first | omega | assumption | kernel_rfl | exact And.intro rfl rfl | ((try dsimp only [inR, idx, lowOf]); first | omega | (with_reducible decide) | (simp; omega) | (simp; done) | fail) | fail) ?_; conv => whnf) | fail)
  refine ⟨_, m_pick13, (re, (((p.length + 1) / 2 : Nat) : Int)), [], false, ?_⟩
  conv => whnf
  refine And.intro (vc0 ⟨i6, by show (0 : Int) < (((p.length + 1) / 2 : Nat) : Int); omega⟩ (by (repeat' (first | exact trivial | exact rfl | refine And.intro ?_ ?_ | (refine congrArg vI ?_; first | omega | (dsimp only; omega) | fail) | (refine congrArg some ?_) | omega | exact Nat.le_refl _ | exact congrArg (SV.lst _) (List.take_of_length_le (Nat.le_refl _)).symm)); all_goals (exact congrArg vI hq)) (by repeat' (first | exact trivial | exact rfl | refine And.intro ?_ ?_ | (refine congrArg vI ?_; first | omega | (dsimp only; omega) | fail) | (refine congrArg some ?_) | omega | exact Nat.le_refl _ | exact congrArg (SV.lst _) (List.take_of_length_le (Nat.le_refl _)).symm)) trivial trivial) ?_
  refine And.intro ⟨(), trivial⟩ (fun (_ : Unit) _ => ?_)
  conv => whnf
  conv => whnf
  repeat' (first | (refine tell (fun hQ => ?_) (fun hQ => ?_) <;> (try dsimp only at hQ) <;> first | (exfalso; omega) | (exact absurd rfl hQ) | (exact absurd (by decide) hQ) | (conv => whnf)) | (refine allG rfl ?_; conv => whnf) | (refine And.intro (by first | omega | assumption | kernel_rfl | exact And.intro rfl rfl | ((try dsimp only [inR, idx, lowOf]); first | omega | (with_reducible decide) | (simp; omega) | (simp; done) | fail) | fail) ?_; conv => whnf) | fail)
  refine ⟨_, m_order13, (mkH (h, od, up, sq, fr, re, ts), p, mkS (h, od, up, sq, fr, re, ts), mkK (h, od, up, sq, fr, re, ts) p), [], false, ?_⟩
  conv => whnf
  refine And.intro (vc0 ⟨by show p.length ≤ 127; omega, fun x hx => (by have := hw.small hR x hx; exact ⟨by omega, by omega⟩), ⟨(mkS_bd _).1, by have := (mkS_bd (h, od, up, sq, fr, re, ts)).2.1; show mkS _ ≤ 1000000; omega⟩, hw.ok hR, mkO_right hw hR hpl _⟩ (by (repeat' (first | exact trivial | exact rfl | refine And.intro ?_ ?_ | (refine congrArg vI ?_; first | omega | (dsimp only; omega) | fail) | (refine congrArg some ?_) | omega | exact Nat.le_refl _ | exact congrArg (SV.lst _) (List.take_of_length_le (Nat.le_refl _)).symm))) (by repeat' (first | exact trivial | exact rfl | refine And.intro ?_ ?_ | (refine congrArg vI ?_; first | omega | (dsimp only; omega) | fail) | (refine congrArg some ?_) | omega | exact Nat.le_refl _ | exact congrArg (SV.lst _) (List.take_of_length_le (Nat.le_refl _)).symm)) trivial trivial) ?_
  refine And.intro ⟨(), trivial⟩ (fun (_ : Unit) _ => ?_)
  conv => whnf
  conv => whnf
  repeat' (first | (refine tell (fun hQ => ?_) (fun hQ => ?_) <;> (try dsimp only at hQ) <;> first | (exfalso; omega) | (exact absurd rfl hQ) | (exact absurd (by decide) hQ) | (conv => whnf)) | (refine allG rfl ?_; conv => whnf) | (refine And.intro (by first | omega | assumption | kernel_rfl | exact And.intro rfl rfl | ((try dsimp only [inR, idx, lowOf]); first | omega | (with_reducible decide) | (simp; omega) | (simp; done) | fail) | fail) ?_; conv => whnf) | fail)
  exact ⟨(p, a), [], ⟨hw, hpl⟩, ⟨⟨rfl, rfl, rfl, rfl, rfl, rfl, trivial⟩, rfl, trivial⟩, trivial, trivial⟩
end Go.Sx

