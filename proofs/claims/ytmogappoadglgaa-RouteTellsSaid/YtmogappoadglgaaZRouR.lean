/-
  Layer 12, part R: an array of three numbers that came in, read.
-/
import Derived.Test.YtmogappoadglgaaZSxFour
set_option linter.unusedVariables false
set_option linter.unusedSimpArgs false
namespace Go.Sx
open Go Go.Proofs Go.Proofs.Ytmogappoadglgaa
open Go.ChangeShapes Go.WideShapes
theorem okA {P : Program} {w : World} {base : Nat} {t e : TypeId} {k : Nat} {v : Value} (ht : P.underlying t = some (.array k e)) (h : Value.okWide P w .any base t v) : ∃ cs, v = .agg cs := by
  simp only [Value.okWide, ht] at h
  obtain ⟨cs, h1, _⟩ := h
  exact ⟨cs, h1⟩
set_option maxRecDepth 100000 in
theorem rdA_three : RdA Try.prog 66 (fun p : Int × Int × Int => .agg [vI p.1, vI p.2.1, vI p.2.2]) GoodT := by
  intro H enc w sp base v d ps h hv
  obtain ⟨n, hn⟩ := h
  have hv2 : ∃ cs, v = .agg cs := by
    exact okA und66 hv
  clear hv
  obtain ⟨cs, rfl⟩ := hv2
  obtain ⟨y, hy, hs⟩ := rd_triple und66 und3 (by kernel_rfl) (by kernel_rfl) hn
  refine ⟨y, hy, fun ρ O hO => Den.agg _ _ ?_ fun j s u hs2 hu => ?_⟩
  · have h3 := hs.1
    rw [regF.len 66 y] at h3
    exact h3.trans (by simp [Value.cells])
  · exact hs.2 j s u hs2 (by simpa [Value.cells] using hu) ρ O hO
end Go.Sx

