/-
  Layer 21, part R: lists of lists that came in, read, with their lengths.
-/
import Derived.Test.YtmogappoadglgaaDoorZBldt
set_option linter.unusedVariables false
set_option linter.unusedSimpArgs false
namespace Go.Sx
open Go Go.Proofs Go.Proofs.YtmogappoadglgaaDoor
open Go.ChangeShapes Go.WideShapes Go.RowKit
/-- A slice that reads as data is a list; each element stands to its reading as 'rel' says. -/
theorem rd_sliceR {P : Program} {H : Type} {enc : TypeId × Value → H} {w : World} {sp : Nat → Bool} {t e : TypeId} {good : AF e → Prop} {rel : AF e → DataW H → Prop} (ht : P.underlying t = some (.slice e)) (hsz : P.cellsOf e = regF.sz e) (hpos : 1 ≤ regF.sz e)
    (hr : ∀ {n : Nat} {cs : List Value} {x : DataW H × List MemPlace}, DataW.trod enc P w 0 sp true n e cs = some x → ∃ y : AF e, (good y ∧ rel y x.1) ∧ SaysL w (regF.enc e y) cs)
    {n : Nat} {cs : List Value} {x : DataW H × List MemPlace} (h : DataW.trod enc P w 0 sp true n t cs = some x) :
      ∃ xs : List (AF e), (xs.length ≤ 9223372036854775807 ∧ ∀ y ∈ xs, good y) ∧ SaysL w [.lst e xs] cs ∧ (xs = [] ∨ ∃ elems spare, x.1 = .slice elems spare ∧ xs.length = elems.length ∧ ∀ (i : Nat) y, xs[i]? = some y → ∃ d, elems[i]? = some d ∧ rel y d) := by
  rcases Deep.open_slice ht h with ⟨rfl, _⟩ | ⟨⟨b, off, spot⟩, len, cap, m, k, D, Pl, rfl, _, hl, hcap, hm, hxe, hx⟩
  · exact ⟨[], ⟨Nat.zero_le _, fun _ h => by simp at h⟩, saysL_cons (fun _ _ _ => .lnil e 0 rfl) saysL_nil, .inl rfl⟩
  have hlm : len ≤ m := by rw [hm]; split <;> omega
  rw [hsz] at hx
  have each : ∀ i, i < len → ∃ y : AF e, (good y ∧ rel y (D i)) ∧ ∃ cs' : List Value, SaysL w (regF.enc e y) cs' ∧ ∀ j, j < regF.sz e → w.cell? ((⟨b, off, spot⟩ : Addr).add (i * regF.sz e + j)) = cs'[j]? := fun i hi => by
    have hobt := hx i (by omega)
    obtain ⟨cs', h1, h2⟩ := hobt
    have hobt := World.cells?_some h1
    obtain ⟨_, hlen, hc⟩ := hobt
    have hobt := hr h2
    obtain ⟨y, g1, g2⟩ := hobt
    exact ⟨y, g1, cs', g2, fun j hj => by rw [← hc j hj, Deep.add_add]⟩
  by_cases h0 : len = 0
  · subst h0
    exact ⟨[], ⟨Nat.zero_le _, fun _ h => by simp at h⟩, saysL_cons (fun _ _ _ => .lempty e _ cap (by simp)) saysL_nil, .inl rfl⟩
  have hobt := each 0 (by omega)
  obtain ⟨y0, _, cs0, hs0, hc0⟩ := hobt
  haveI : Nonempty (AF e) := ⟨y0⟩
  obtain ⟨F, hF⟩ : ∃ F : Nat → AF e, ∀ i, i < len → (good (F i) ∧ rel (F i) (D i)) ∧ ∃ cs' : List Value, SaysL w (regF.enc e (F i)) cs' ∧ ∀ j, j < regF.sz e → w.cell? ((⟨b, off, spot⟩ : Addr).add (i * regF.sz e + j)) = cs'[j]? := by
    classical
    exact ⟨fun i => if hi : i < len then Classical.choose (each i hi) else y0, fun i hi => by simp only [dif_pos hi]; exact Classical.choose_spec (each i hi)⟩
  have hlen0 : cs0.length = regF.sz e := by rw [← hs0.1]; exact regF.len e y0
  have hcell0 : w.cell? ((⟨b, off, spot⟩ : Addr).add 0) = some cs0[0] := by
    have := hc0 0 hpos
    rw [Nat.zero_mul, Nat.zero_add] at this
    rw [this]; exact List.getElem?_eq_getElem (by omega)
  have hspot : spot = none := by simpa [Addr.add] using World.cell?_spot hcell0
  subst hspot
  rw [add_off, Nat.add_zero] at hcell0
  unfold World.cell? at hcell0
  dsimp only at hcell0
  split at hcell0
  · rename_i c T fz hb
    have hcell : ∀ i, i < len → ∀ j, j < regF.sz e → ∀ v, w.cell? ((⟨b, off, none⟩ : Addr).add (i * regF.sz e + j)) = some v → c[off + i * regF.sz e + j]? = some v := fun i hi j hj v hv => by
      rw [add_off, cell_at hb] at hv
      rw [Nat.add_assoc]; exact hv
    have hxs : ∀ (i : Nat) y, ((List.range len).map F)[i]? = some y → i < len ∧ y = F i := fun i y hy => by
      have hlt : i < len := by simpa using (List.getElem?_eq_some_iff.1 hy).1
      simp [hlt] at hy
      exact ⟨hlt, hy.symm⟩
    refine ⟨(List.range len).map F, ⟨by simp only [List.length_map, List.length_range]; simp only [maxLen] at hcap; omega, fun y hy => ?_⟩, saysL_cons (fun ρ O hO => ?_) saysL_nil, .inr ⟨(List.range len).map D, _, by rw [hxe], by simp, fun i y hy => ⟨D i, by have := (hxs i y hy).1; simp [this], by rw [(hxs i y hy).2]; exact (hF i (hxs i y hy).1).1.2⟩⟩⟩
    · have hobt := List.mem_map.1 hy
      obtain ⟨i, hi, rfl⟩ := hobt
      exact (hF i (by simpa using hi)).1.1
    · have key := Den.lst (R := regF) (ρ := ρ) (O := O) (w := w) e ((List.range len).map F) b off cap c T fz (fun i j => c.getD (off + i * regF.sz e + j) undef) (hO b) hb (by simpa using hl)
        (fun i y hy j hj => by
          have hobt := hxs i y hy
          obtain ⟨hi, rfl⟩ := hobt
          have hobt := hF i hi
          obtain ⟨_, cs', g1, g2⟩ := hobt
          have hlen : cs'.length = regF.sz e := by rw [← g1.1]; exact regF.len e (F i)
          have := hcell i hi j hj cs'[j] (by rw [g2 j hj]; exact List.getElem?_eq_getElem (by omega))
          simp [this])
        (fun i y hy j s hs => by
          have hobt := hxs i y hy
          obtain ⟨hi, rfl⟩ := hobt
          have hobt := hF i hi
          obtain ⟨_, cs', g1, g2⟩ := hobt
          have hlen : cs'.length = regF.sz e := by rw [← g1.1]; exact regF.len e (F i)
          have hj : j < regF.sz e := by rw [← regF.len e (F i)]; exact (List.getElem?_eq_some_iff.1 hs).1
          have := hcell i hi j hj cs'[j] (by rw [g2 j hj]; exact List.getElem?_eq_getElem (by omega))
          have e2 : c.getD (off + i * regF.sz e + j) undef = cs'[j] := by simp [this]
          rw [e2]
          exact g1.2 j s _ hs (List.getElem?_eq_getElem (by omega)) ρ O hO)
      simpa using key
  · cases hcell0
theorem und57 : Tryd.prog.underlying 57 = some (.slice 23) := by kernel_rfl
def OfL {H : Type} (y : List Int) (d : DataW H) : Prop := y = [] ∨ ∃ elems spare, d = .slice elems spare ∧ y.length = elems.length
theorem rd_list {H : Type} {enc : TypeId × Value → H} {w : World} {sp : Nat → Bool} {n : Nat} {cs : List Value} {x : DataW H × List MemPlace} (h : DataW.trod enc Tryd.prog w 0 sp true n 23 cs = some x) :
    ∃ y : List Int, (True ∧ OfL y x.1) ∧ SaysL w (regF.enc 23 y) cs := by
  have hobt := rd_slice und23 (by kernel_rfl) (by decide) (rd_int und3) h
  obtain ⟨xs, _, h2, h3⟩ := hobt
  exact ⟨xs, ⟨trivial, h3⟩, h2⟩
theorem rdSR_slice {P : Program} {H : Type} {enc : TypeId × Value → H} {w : World} {sp : Nat → Bool} {t e : TypeId} {good : AF e → Prop} {rel : AF e → DataW H → Prop} (ht : P.underlying t = some (.slice e)) (hsz : P.cellsOf e = regF.sz e) (hpos : 1 ≤ regF.sz e)
    (hr : ∀ {n : Nat} {cs : List Value} {x : DataW H × List MemPlace}, DataW.trod enc P w 0 sp true n e cs = some x → ∃ y : AF e, (good y ∧ rel y x.1) ∧ SaysL w (regF.enc e y) cs)
    {base : Nat} {v : Value} {d : DataW H} {ps : List MemPlace} (h : DataW.Trod enc P w 0 sp true t v d ps) (hv : Value.okWide P w .any base t v) :
      ∃ xs : List (AF e), (xs.length ≤ 9223372036854775807 ∧ ∀ y ∈ xs, good y) ∧ Says w (.lst e xs) v ∧ (xs = [] ∨ ∃ elems spare, d = .slice elems spare ∧ xs.length = elems.length ∧ ∀ (i : Nat) y, xs[i]? = some y → ∃ d, elems[i]? = some d ∧ rel y d) := by
  obtain ⟨n, hn⟩ := h
  have hobt := okWide_slice ht hv
  obtain ⟨a, len, cap, rfl⟩ := hobt
  have hobt := rd_sliceR ht hsz hpos hr hn
  obtain ⟨xs, h1, h2, h3⟩ := hobt
  exact ⟨xs, h1, h2.2 0 _ _ rfl rfl, h3⟩
set_option maxRecDepth 100000 in
theorem rdS_lists {H : Type} {enc : TypeId × Value → H} {w : World} {sp : Nat → Bool} {base : Nat} {v : Value} {d : DataW H} {ps : List MemPlace} (h : DataW.Trod enc Tryd.prog w 0 sp true 57 v d ps) (hv : Value.okWide Tryd.prog w .any base 57 v) :
    ∃ xs : List (List Int), (xs.length ≤ 9223372036854775807 ∧ ∀ y ∈ xs, True) ∧ Says w (.lst 23 xs : SV AF) v ∧ (xs = [] ∨ ∃ elems spare, d = .slice elems spare ∧ xs.length = elems.length ∧ ∀ (i : Nat) y, xs[i]? = some y → ∃ d, elems[i]? = some d ∧ OfL y d) :=
  rdSR_slice (good := fun _ => True) (rel := OfL) und57 (by kernel_rfl) (by decide) (fun h => rd_list h) h hv
theorem weights_all {H : Type} {P : Program} {e : TypeId} : ∀ {l : List (DataW H)} {i : Nat} {d : DataW H}, l[i]? = some d → ∀ n ∈ d.weights P e, n ∈ DataW.weightsAll P e l
  | [], _, _, h, _, _ => by simp at h
  | x :: l, 0, d, h, n, hn => by simp at h; subst h; simp [DataW.weightsAll, hn]
  | x :: l, i + 1, d, h, n, hn => by
    have := weights_all (l := l) (i := i) (by simpa using h) n hn
    simp [DataW.weightsAll, this]
set_option maxRecDepth 100000 in
theorem lists_most {H : Type} {ts : List TypeId} {ds : List (DataW H)} (h : (DataW.weightsEach Tryd.prog ts ds).all (· ≤ reachBytes) = true) {j : Nat} {d : DataW H} (ht : ts[j]? = some 57) (hd : ds[j]? = some d) {xs : List (List Int)}
    (hx : xs = [] ∨ ∃ elems spare, d = .slice elems spare ∧ xs.length = elems.length ∧ ∀ (i : Nat) y, xs[i]? = some y → ∃ d, elems[i]? = some d ∧ OfL y d) : ∀ ys ∈ xs, ys.length ≤ 17592186044416 := by
  intro ys hys
  rcases hx with rfl | ⟨elems, spare, rfl, _, hl⟩
  · cases hys
  have hobt := List.getElem?_of_mem hys
  obtain ⟨i, hi⟩ := hobt
  have hobt := hl i ys hi
  obtain ⟨di, hdi, hol⟩ := hobt
  rcases hol with rfl | ⟨el, sp, rfl, hlen⟩
  · exact Nat.zero_le _
  have h1 : (el.length + sp.length) * Tryd.prog.bytesOf 3 ∈ (DataW.slice el sp).weights Tryd.prog 23 := by simp [DataW.weights, und23]
  have h2 := weights_all hdi _ h1
  have h3 : (el.length + sp.length) * Tryd.prog.bytesOf 3 ∈ (DataW.slice elems spare).weights Tryd.prog 57 := by simp [DataW.weights, und57, h2]
  have h4 := List.all_eq_true.1 h _ (DataW.weights_mem_each ht hd _ h3)
  have h8 : Tryd.prog.bytesOf 3 = 8 := by kernel_rfl
  have hb : reachBytes = 140737488351232 := rfl
  rw [h8, hb] at h4
  have h4 : (el.length + sp.length) * 8 ≤ 140737488351232 := by simpa using h4
  omega
end Go.Sx

