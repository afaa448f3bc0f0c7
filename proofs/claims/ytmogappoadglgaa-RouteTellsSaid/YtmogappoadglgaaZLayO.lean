/-
  Layer 11, part O: a layout that came in, read.
-/
import Derived.Test.YtmogappoadglgaaZSxFour
import Derived.Test.YtmogappoadglgaaZLay
set_option linter.unusedVariables false
set_option linter.unusedSimpArgs false
namespace Go.Sx
open Go Go.Proofs Go.Proofs.Ytmogappoadglgaa
open Go.ChangeShapes Go.WideShapes
theorem okS {P : Program} {w : World} {base : Nat} {t : TypeId} {v : Value} {fs : Array Field} (ht : P.underlying t = some (.struct fs)) (h : Value.okWide P w .any base t v) : ∃ cs, v = .agg cs := by
  obtain ⟨cs, h1, _⟩ := okWide_struct ht h
  exact ⟨cs, h1⟩
theorem rd_edge : Rd Try.prog 54 GoodT := by
  intro H enc w sp n cs x h
  obtain ⟨hl, hf⟩ := rd_fields (ti := ti54) (by kernel_rfl) rfl h
  have h54 : Try.prog.cellsOf 54 = 3 := by kernel_rfl
  have h3 : Try.prog.cellsOf 3 = 1 := by kernel_rfl
  rw [h54] at hl
  obtain ⟨_, _, g0⟩ := hf 0 0 3 rfl
  obtain ⟨_, _, g1⟩ := hf 1 1 3 rfl
  obtain ⟨_, _, g2⟩ := hf 2 2 3 rfl
  rw [h3] at g0 g1 g2
  obtain ⟨a, ha, ea⟩ := rd_int_of und3 g0
  obtain ⟨b, hb, eb⟩ := rd_int_of und3 g1
  obtain ⟨c, hc, ec⟩ := rd_int_of und3 g2
  clear g0 g1 g2 hf h h54 h3
  refine ⟨((a, b, c) : Int × Int × Int), ⟨ha, hb, hc⟩, ?_⟩
  match cs, hl with
  | [u, v, z], _ =>
    simp at ea eb ec
    subst ea; subst eb; subst ec
    exact saysL_cons (says_val _) (saysL_cons (says_val _) (saysL_cons (says_val _) saysL_nil))
theorem und38 : Try.prog.underlying 38 = some (.slice 54) := by kernel_rfl
set_option maxRecDepth 100000 in
theorem rdA_layout_of {t : TypeId} {ti : TI} (ht : (envF 0 noWr).tt t = some ti) (hk : ti.k = .struct [(0, 3), (1, 38)]) (h40 : Try.prog.cellsOf t = 2) : RdA Try.prog t (fun p : Int × List Edge => layS p.1 p.2) (fun p => InI p.1 ∧ p.2.length ≤ 9223372036854775807 ∧ ∀ y ∈ p.2, GoodT y) := by
  intro H enc w sp base v d ps h hv
  obtain ⟨n, hn⟩ := h
  obtain ⟨fields, hu⟩ := struct_of ht hk
  have hv2 : ∃ cs, v = .agg cs := by
    exact okS hu hv
  clear hv
  obtain ⟨cs, rfl⟩ := hv2
  obtain ⟨hl, hf⟩ := rd_fields ht hk hn
  have h3 : Try.prog.cellsOf 3 = 1 := by kernel_rfl
  have h38 : Try.prog.cellsOf 38 = 1 := by kernel_rfl
  rw [h40] at hl
  obtain ⟨_, _, g0⟩ := hf 0 0 3 rfl
  obtain ⟨_, _, g1⟩ := hf 1 1 38 rfl
  rw [h3] at g0
  rw [h38] at g1
  obtain ⟨a, ha, ea⟩ := rd_int_of und3 g0
  obtain ⟨es, hes, hsay, _⟩ := rd_slice und38 (by kernel_rfl) (by decide) rd_edge g1
  clear g0 g1 hf hn hu h3 h38
  refine ⟨((a, es) : Int × List Edge), ⟨ha, hes⟩, ?_⟩
  obtain ⟨cs⟩ := cs
  match cs, hl with
  | [u, z], _ =>
    simp [Value.cells] at ea
    subst ea
    have hz := hsay.2 0 _ z rfl rfl
    intro ρ O hO
    refine Den.agg _ _ rfl fun j s u hs hu => ?_
    match j with
    | 0 => simp at hs hu; subst hs; subst hu; exact .val _
    | 1 => simp at hs hu; subst hs; subst hu; exact hz ρ O hO
    | j + 2 => simp at hs
theorem rdA_layout : RdA Try.prog 40 (fun p : Int × List Edge => layS p.1 p.2) (fun p => InI p.1 ∧ p.2.length ≤ 9223372036854775807 ∧ ∀ y ∈ p.2, GoodT y) :=
  rdA_layout_of (ti := ti40) (by kernel_rfl) rfl (by kernel_rfl)
end Go.Sx

