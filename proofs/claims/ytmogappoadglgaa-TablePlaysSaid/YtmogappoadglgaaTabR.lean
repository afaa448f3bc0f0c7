/-
  Layer 14, part R: what is done, raw, as it came in, read.
-/
import Derived.Test.YtmogappoadglgaaLayR
import Derived.Test.YtmogappoadglgaaTabF
namespace Go.Sx
open Go Go.Proofs Go.Proofs.Ytmogappoadglgaa
open Go.ChangeShapes Go.WideShapes
set_option maxRecDepth 100000 in
theorem rd_op {t : TypeId} {ti : TI} (ht : (envF 0 noWr).tt t = some ti) (hk : ti.k = .struct [(0, 3), (1, 4), (2, 42)]) (hc : Try.prog.cellsOf t = 3) {H : Type} {enc : TypeId × Value → H} {w : World} {sp : Nat → Bool} {n : Nat} {cs : List Value} {x : DataW H × List MemPlace}
    (h : DataW.trod enc Try.prog w 0 sp true n t cs = some x) : ∃ o : OpT, (InI o.1 ∧ InL o.2.2) ∧ SaysL w (eiOp.enc o) cs := by
  obtain ⟨hl, hf⟩ := rd_fields ht hk h
  have h3 : Try.prog.cellsOf 3 = 1 := by kernel_rfl
  have h4 : Try.prog.cellsOf 4 = 1 := by kernel_rfl
  have h42 : Try.prog.cellsOf 42 = 1 := by kernel_rfl
  rw [hc] at hl
  obtain ⟨_, _, g0⟩ := hf 0 0 3 rfl
  obtain ⟨_, _, g1⟩ := hf 1 1 4 rfl
  obtain ⟨_, _, g2⟩ := hf 2 2 42 rfl
  rw [h3] at g0
  rw [h4] at g1
  rw [h42] at g2
  obtain ⟨a, ha, ea⟩ := rd_int_of und3 g0
  obtain ⟨b, eb, _⟩ := DataW.trod_bool und4 g1
  obtain ⟨xs, hxs, hsay, _⟩ := rd_slice und42 (by kernel_rfl) (by decide) (rd_int und3) g2
  clear g0 g1 g2 hf h h3 h4 h42
  refine ⟨((a, b, xs) : OpT), ⟨ha, hxs⟩, ?_⟩
  match cs, hl with
  | [u, v, z], _ =>
    simp at ea eb
    subst ea; subst eb
    have hz := hsay.2 0 _ z rfl rfl
    exact saysL_cons (says_val _) (saysL_cons (says_val _) (saysL_cons hz saysL_nil))
theorem und70 : Try.prog.underlying 70 = some (.slice 77) := by kernel_rfl
theorem rdN_ops : RdA Try.prog 70 (fun xs : List OpT => .lst 77 xs) (fun xs => xs.length ≤ 9223372036854775807 ∧ ∀ o ∈ xs, InI o.1 ∧ InL o.2.2) :=
  rdN_slice und70 (by kernel_rfl) (by decide) (fun h => rd_op (ti := ti77) (by kernel_rfl) rfl (by kernel_rfl) h)
end Go.Sx

