/-
  strings.Builder in this tool's words: WriteString, Grow, String.
-/
import Derived.Test.YtmogappoadglgaaDoorZBld
import Derived.Test.YtmogappoadglgaaDoorZSxFour
import Derived.Test.YtmogappoadglgaaDoorZTrb
set_option linter.unusedVariables false
set_option linter.unusedSimpArgs false
namespace Go.Sx
open Go Go.Proofs Go.Proofs.YtmogappoadglgaaDoor Go.Shelf
theorem denObj_inv {R : Reg AF} {ρ : Rho} {O : Nat → Prop} {w : World} {k : Option Nat} {Q : Array Value → TypeId → Nat × Nat → Prop} {p : Option (Nat × Nat)} (h : DenCt R ρ O w (.obj k Q) p) :
    ∃ b, p = some (b, 0) ∧ (∀ i, k = some i → b = i) ∧ ∃ c E fz, w.heap[b]? = some (.cells c E fz) ∧ Q c E fz := by
  cases p with
  | none => cases h
  | some p =>
    obtain ⟨b, base⟩ := p
    rcases h with (⟨_, _, _, e, _⟩ | ⟨k', Q', e, rfl, hk, c, E, fz, hc, hQ⟩) | ⟨e, _⟩
    · cases e
    · cases e; exact ⟨b, rfl, hk, c, E, fz, hc, hQ⟩
    · cases e
theorem denObj {R : Reg AF} {ρ : Rho} {O : Nat → Prop} {w : World} {k : Option Nat} {Q : Array Value → TypeId → Nat × Nat → Prop} {b : Nat} {c : Array Value} {E : TypeId} {fz : Nat × Nat} (hk : ∀ i, k = some i → b = i) (hc : w.heap[b]? = some (.cells c E fz)) (hQ : Q c E fz) :
    DenCt R ρ O w (.obj k Q) (some (b, 0)) := .inl (.inr ⟨k, Q, rfl, rfl, hk, c, E, fz, hc, hQ⟩)
/-- A builder that nothing was done with; one that holds n bytes in a row of its own; that row. -/
abbrev bld0 : Ct AF := .obj none fun c E fz => c = (Value.agg #[.pointer none, .slice none 0 0]).cells ∧ E = 114 ∧ fz = (0, 0)
def bldH (b gb n cap : Nat) : Ct AF := .obj (some b) fun c E fz => c = #[.pointer (some ⟨b, 0, none⟩), .slice (some ⟨gb, 0, none⟩) n cap] ∧ E = 114 ∧ fz = (0, 0)
def bldR (gb : Nat) (l : List UInt8) (cap : Nat) : Ct AF := .obj (some gb) fun c E fz => E = 5 ∧ fz = (0, 0) ∧ l.length ≤ cap ∧ cap ≤ maxLen ∧ c.size = cap ∧ c.toList.take l.length = Lib.byteCells l
theorem bldR_owns {w : World} {gb cap : Nat} {l : List UInt8} {c : Array Value} {E : TypeId} {fz : Nat × Nat} (hb : w.heap[gb]? = some (.cells c E fz)) (h : E = 5 ∧ fz = (0, 0) ∧ l.length ≤ cap ∧ cap ≤ maxLen ∧ c.size = cap ∧ c.toList.take l.length = Lib.byteCells l) :
    w.ownsRow 0 5 1 (.slice (some ⟨gb, 0, none⟩) l.length cap) (Lib.byteCells l).length (Lib.byteCells l) := by
  obtain ⟨rfl, rfl, h1, h2, h3, h4⟩ := h
  rw [Lib.byteCells_length]
  exact ⟨by rw [Lib.byteCells_length, Nat.mul_one], .inr ⟨gb, cap, c, rfl, Nat.zero_le _, hb, h1, h2, by omega, by rw [Nat.mul_one]; exact h4⟩⟩
theorem owns_bldR {w : World} {v : Value} {n : Nat} {xs : List Value} {l : List UInt8} (h : w.ownsRow 0 5 1 v n xs) (hx : xs = Lib.byteCells l) (h0 : 0 < n ∨ v.ownBlock ≠ none) :
    ∃ gb cap c, v = .slice (some ⟨gb, 0, none⟩) l.length cap ∧ w.heap[gb]? = some (.cells c 5 (0, 0)) ∧ ((5 : TypeId) = 5 ∧ ((0, 0) : Nat × Nat) = (0, 0) ∧ l.length ≤ cap ∧ cap ≤ maxLen ∧ c.size = cap ∧ c.toList.take l.length = Lib.byteCells l) := by
  subst hx
  have hl : n = l.length := by have := h.1; rw [Lib.byteCells_length] at this; omega
  subst hl
  rcases h.2 with ⟨rfl, hn⟩ | ⟨gb, cap, c, rfl, _, hg, h1, h2, h3, h4⟩
  · rcases h0 with h0 | h0
    · omega
    · exact absurd rfl h0
  · exact ⟨gb, cap, c, rfl, hg, rfl, rfl, h1, h2, by omega, by rw [Nat.mul_one] at h4; exact h4⟩
theorem strCells_list (s : ByteArray) : Lib.strCells s = Lib.byteCells s.data.toList := rfl
theorem len_data (s : ByteArray) : s.data.toList.length = s.size := by rw [Array.length_toList]; rfl
theorem args2 {vs : Array Value} {R : Reg AF} {ρ : Rho} {O : Nat → Prop} {w : World} {a b : SV AF} (h : DenL R ρ O w [a, b] vs.toList) : ∃ u v, vs = #[u, v] ∧ Den R ρ O w a u ∧ Den R ρ O w b v := by
  obtain ⟨h1, h2⟩ := h
  obtain ⟨l⟩ := vs
  match l, h1, h2 with
  | [u, v], _, h2 => exact ⟨u, v, rfl, h2 0 a u rfl rfl, h2 1 b v rfl rfl⟩
theorem args1 {vs : Array Value} {R : Reg AF} {ρ : Rho} {O : Nat → Prop} {w : World} {a : SV AF} (h : DenL R ρ O w [a] vs.toList) : ∃ u, vs = #[u] ∧ Den R ρ O w a u := by
  obtain ⟨h1, h2⟩ := h
  obtain ⟨l⟩ := vs
  match l, h1, h2 with
  | [u], _, h2 => exact ⟨u, rfl, h2 0 a u rfl rfl⟩
theorem val_inv' {R : Reg AF} {ρ : Rho} {O : Nat → Prop} {w : World} {u v : Value} (h : Den R ρ O w (.val u) v) : v = u := by cases h; rfl
theorem ptr0_inv {R : Reg AF} {ρ : Rho} {O : Nat → Prop} {w : World} {v : Value} {b : Nat} (hr : ρ 0 = some (b, 0)) (h : Den R ρ O w (.ptr 0 0 2 0) v) : v = .pointer (some ⟨b, 0, none⟩) := by
  cases h with
  | ptr _ _ _ _ b' base h => rw [hr] at h; cases h; rfl
abbrev resW (s : ByteArray) : SV AF := .tup [.val (.int .i64 s.size), .val .nilIface]
theorem den_resW {R : Reg AF} {ρ : Rho} {O : Nat → Prop} {w : World} (s : ByteArray) : Den R ρ O w (resW s) (.tuple #[.int .i64 s.size, .nilIface]) := by
  refine Den.tup _ _ rfl fun j a v ha hv => ?_
  match j, ha, hv with
  | 0, ha, hv => cases ha; cases hv; exact .val _
  | 1, ha, hv => cases ha; cases hv; exact .val _
theorem ptr_ne {b gb : Nat} {w : World} {c c' : Array Value} {fz fz' : Nat × Nat} (h : w.heap[b]? = some (.cells c 114 fz)) (h' : w.heap[gb]? = some (.cells c' 5 fz')) : b ≠ gb := by
  rintro rfl
  rw [h] at h'
  exact absurd (Obj.cells.inj (Option.some.inj h')).2.1 (by decide)

/-- WriteString at a builder that nothing was done with. -/
def spWF : Spec AF where
  γ := ByteArray
  δ := Nat × Nat × Nat
  args := fun s => [.ptr 0 0 2 0, .val (.string s)]
  own := fun _ => [bld0]
  pre := fun s => 0 < s.size ∧ s.size ≤ 140737488355328
  nnew := 1
  res := fun s _ => resW s
  own' := fun s d => [some (bldH d.1 d.2.1 s.data.toList.length d.2.2), some (bldR d.2.1 s.data.toList d.2.2)]
  post := fun _ _ => True
theorem m_wsF : Meets Tryd.prog regF 71 spWF := by
  refine ⟨⟨_, Tryd.func71, by kernel_rfl, by kernel_rfl⟩, ?_⟩
  intro (s : ByteArray) ⟨(h0 : 0 < s.size), (hs : s.size ≤ 140737488355328)⟩ X ρ w vs hX1 hX2 hargs hown
  obtain ⟨b, hr0, _, c, E, fz, hb, hc, hE, hfz⟩ := denObj_inv (hown.den 0 _ rfl)
  subst hc hE hfz
  obtain ⟨u, v, rfl, hu, hv⟩ := args2 hargs
  obtain rfl := ptr0_inv hr0 hu
  obtain rfl := val_inv' hv
  refine (bld_write BldT.ws BldT.wsX b (.pointer none) (.slice none 0 0) [] s w (.inl rfl) hb (World.ownsRow_nil _ _ _ _) (by simpa using hs)).mono ?_
  rintro e w' ⟨rfl, v', hb', hown', hob, hrel⟩
  obtain ⟨gb, cap, cc, rfl, hg, hQ⟩ := owns_bldR (l := s.data.toList) hown' (by simp [strCells_list]) (.inl (by simpa using h0))
  have hne : b ≠ gb := ptr_ne hb' hg
  have hgb : w.heap.size ≤ gb := by
    rcases hob with e | e
    · cases e
    · have : gb = w.heap.size := Option.some.inj e
      omega
  refine ⟨(b, gb, cap), fun h => if h = 1 then some (gb, 0) else ρ h, _, trivial, rfl, fun h hh => if_neg (by have : h < 1 := hh; omega), den_resW s, ⟨fun h ct hct => ?_, fun h h' ct ct' k base base' hct hct' e e' => ?_⟩, fun k hk => ?_, rfl, rfl, fun h ct hct => ?_, ?_⟩
  · match h, hct with
    | 0, hct => cases hct; exact (if_neg (by omega) : (if 0 = 1 then some (gb, 0) else ρ 0) = ρ 0) ▸ hr0 ▸ denObj (fun i e => Option.some.inj e) hb' ⟨rfl, rfl, rfl⟩
    | 1, hct => cases hct; exact denObj (fun i e => Option.some.inj e) hg hQ
  · match h, h', hct, hct' with
    | 0, 0, _, _ => rfl
    | 1, 1, _, _ => rfl
    | 0, 1, _, _ =>
      have e : ρ 0 = some (k, base) := e
      have e' : some (gb, 0) = some (k, base') := e'
      rw [hr0] at e; cases e; cases e'; exact absurd rfl hne
    | 1, 0, _, _ =>
      have e' : ρ 0 = some (k, base') := e'
      have e : some (gb, 0) = some (k, base) := e
      rw [hr0] at e'; cases e'; cases e; exact absurd rfl hne
  · obtain ⟨h, ct, base, hct, hr⟩ := hk
    match h, hct with
    | 0, _ =>
      have hr : ρ 0 = some (k, base) := hr
      exact ⟨.inl ⟨0, bld0, base, rfl, hr⟩, fun hx => hX2 k hx ⟨0, bld0, base, rfl, hr⟩⟩
    | 1, _ =>
      have hr : some (gb, 0) = some (k, base) := hr
      cases hr
      exact ⟨.inr hgb, fun hx => by have := hX1 _ hx; omega⟩
  · match h, hct with
    | 0, hct => cases hct; rfl
    | 1, hct => cases hct; rfl
  · refine ⟨hrel.os, hrel.tape, hrel.output, hrel.size, fun k hk hn => hrel.block k hk ?_, hrel.shape⟩
    rintro (rfl | e)
    · exact hn ⟨0, bld0, 0, rfl, hr0⟩
    · cases e
/-- .. at one that was written to. -/
def spWU : Spec AF where
  γ := (Nat × Nat × Nat) × List UInt8 × ByteArray
  δ := Nat × Nat × Nat
  args := fun g => [.ptr 0 0 2 0, .val (.string g.2.2)]
  own := fun g => [bldH g.1.1 g.1.2.1 g.2.1.length g.1.2.2, bldR g.1.2.1 g.2.1 g.1.2.2]
  pre := fun g => g.2.1.length + g.2.2.size ≤ 140737488355328
  nnew := 1
  res := fun g _ => resW g.2.2
  own' := fun g d => [some (bldH d.1 d.2.1 (g.2.1 ++ g.2.2.data.toList).length d.2.2), none, some (bldR d.2.1 (g.2.1 ++ g.2.2.data.toList) d.2.2)]
  post := fun _ _ => True
theorem m_wsU : Meets Tryd.prog regF 71 spWU := by
  refine ⟨⟨_, Tryd.func71, by kernel_rfl, by kernel_rfl⟩, ?_⟩
  rintro ⟨⟨b, g0, cap0⟩, (l : List UInt8), (s : ByteArray)⟩ (hs : l.length + s.size ≤ 140737488355328) X ρ w vs hX1 hX2 hargs hown
  obtain ⟨b, hr0, hk0, c, E, fz, hb, hc, hE, hfz⟩ := denObj_inv (hown.den 0 _ rfl)
  obtain rfl := hk0 _ rfl
  subst hc hE hfz
  obtain ⟨g1, hr1, hk1, c1, E1, fz1, hg1, hQ1⟩ := denObj_inv (hown.den 1 _ rfl)
  obtain rfl := hk1 _ rfl
  obtain ⟨u, v, rfl, hu, hv⟩ := args2 hargs
  obtain rfl := ptr0_inv hr0 hu
  obtain rfl := val_inv' hv
  refine (bld_write BldT.ws BldT.wsX b _ _ (Lib.byteCells l) s w (.inr rfl) hb (bldR_owns hg1 hQ1) (by rw [Lib.byteCells_length]; exact hs)).mono ?_
  rintro e w' ⟨rfl, v', hb', hown', hob, hrel⟩
  obtain ⟨gb, cap, cc, rfl, hg, hQ⟩ := owns_bldR (l := l ++ s.data.toList) hown' (by rw [strCells_list, Lib.byteCells_append]) (.inr (by rcases hob with e | e <;> (rw [e]; simp [Value.ownBlock])))
  have hne : b ≠ gb := ptr_ne hb' hg
  have hgb : gb = g1 ∨ w.heap.size ≤ gb := by
    rcases hob with e | e
    · exact .inl (Option.some.inj e)
    · have : gb = w.heap.size := Option.some.inj e
      exact .inr (by omega)
  refine ⟨(b, gb, cap), fun h => if h = 2 then some (gb, 0) else ρ h, _, trivial, rfl, fun h hh => if_neg (by have : h < 2 := hh; omega), den_resW s, ⟨fun h ct hct => ?_, fun h h' ct ct' k base base' hct hct' e e' => ?_⟩, fun k hk => ?_, rfl, rfl, fun h ct hct => ?_, ?_⟩
  · match h, hct with
    | 0, hct => cases hct; exact (if_neg (by omega) : (if 0 = 2 then some (gb, 0) else ρ 0) = ρ 0) ▸ hr0 ▸ denObj (fun i e => Option.some.inj e) hb' ⟨rfl, rfl, rfl⟩
    | 1, hct => cases hct
    | 2, hct => cases hct; exact denObj (fun i e => Option.some.inj e) hg hQ
  · have h01 : h ≠ 1 := by rintro rfl; cases hct
    have h01' : h' ≠ 1 := by rintro rfl; cases hct'
    have hl : h < 3 := by
      rcases Nat.lt_or_ge h 3 with e | e
      · exact e
      · rw [List.getElem?_eq_none (by exact e)] at hct; cases hct
    have hl' : h' < 3 := by
      rcases Nat.lt_or_ge h' 3 with e | e
      · exact e
      · rw [List.getElem?_eq_none (by exact e)] at hct'; cases hct'
    have hh : h = 0 ∨ h = 2 := by omega
    have hh' : h' = 0 ∨ h' = 2 := by omega
    rcases hh with rfl | rfl <;> rcases hh' with rfl | rfl
    · rfl
    · have e : ρ 0 = some (k, base) := e
      have e' : some (gb, 0) = some (k, base') := e'
      rw [hr0] at e; cases e; cases e'; exact absurd rfl hne
    · have e' : ρ 0 = some (k, base') := e'
      have e : some (gb, 0) = some (k, base) := e
      rw [hr0] at e'; cases e'; cases e; exact absurd rfl hne
    · rfl
  · obtain ⟨h, ct, base, hct, hr⟩ := hk
    match h, hct with
    | 0, _ =>
      have hr : ρ 0 = some (k, base) := hr
      exact ⟨.inl ⟨0, _, base, rfl, hr⟩, fun hx => hX2 k hx ⟨0, _, base, rfl, hr⟩⟩
    | 1, hct => cases hct
    | 2, _ =>
      have hr : some (gb, 0) = some (k, base) := hr
      cases hr
      rcases hgb with rfl | hgb
      · exact ⟨.inl ⟨1, _, 0, rfl, hr1⟩, fun hx => hX2 _ hx ⟨1, _, 0, rfl, hr1⟩⟩
      · exact ⟨.inr hgb, fun hx => by have := hX1 _ hx; omega⟩
  · match h, hct with
    | 0, hct => cases hct; rfl
    | 1, hct => cases hct
    | 2, hct => cases hct; rfl
  · refine ⟨hrel.os, hrel.tape, hrel.output, hrel.size, fun k hk hn => hrel.block k hk ?_, hrel.shape⟩
    rintro (rfl | e)
    · exact hn ⟨0, _, 0, rfl, hr0⟩
    · have e : some k = some g1 := e
      cases e
      exact hn ⟨1, _, 0, rfl, hr1⟩
/-- Grow at a builder that nothing was done with. -/
def spGrow : Spec AF where
  γ := Int
  δ := Nat × Nat × Nat
  args := fun n => [.ptr 0 0 2 0, vI n]
  own := fun _ => [bld0]
  pre := fun n => 0 < n ∧ n ≤ 281474976710656
  nnew := 1
  res := fun _ _ => .tup []
  own' := fun _ d => [some (bldH d.1 d.2.1 ([] : List UInt8).length d.2.2), some (bldR d.2.1 [] d.2.2)]
  post := fun _ _ => True
theorem m_grow : Meets Tryd.prog regF 91 spGrow := by
  refine ⟨⟨_, Tryd.func91, by kernel_rfl, by kernel_rfl⟩, ?_⟩
  intro (n : Int) ⟨(h0 : 0 < n), (hs : n ≤ 281474976710656)⟩ X ρ w vs hX1 hX2 hargs hown
  obtain ⟨b, hr0, _, c, E, fz, hb, hc, hE, hfz⟩ := denObj_inv (hown.den 0 _ rfl)
  subst hc hE hfz
  obtain ⟨u, v, rfl, hu, hv⟩ := args2 hargs
  obtain rfl := ptr0_inv hr0 hu
  obtain rfl := val_inv' hv
  obtain ⟨m, rfl⟩ := Int.eq_ofNat_of_zero_le (Int.le_of_lt h0)
  refine (bld_grow BldT.gr BldT.grX b m w hb (by omega) (by omega)).mono ?_
  rintro e w' ⟨rfl, cap, hcap, hb', hown', hrel⟩
  obtain ⟨gb, cap', cc, he, hg, hQ⟩ := owns_bldR (l := []) hown' rfl (.inr (by simp [Value.ownBlock]))
  cases he
  have hne : b ≠ w.heap.size := ptr_ne hb' hg
  refine ⟨(b, w.heap.size, cap), fun h => if h = 1 then some (w.heap.size, 0) else ρ h, _, trivial, rfl, fun h hh => if_neg (by have : h < 1 := hh; omega), Den.tup [] #[] rfl (fun j a v ha _ => by cases ha), ⟨fun h ct hct => ?_, fun h h' ct ct' k base base' hct hct' e e' => ?_⟩, fun k hk => ?_, rfl, rfl, fun h ct hct => ?_, ?_⟩
  · match h, hct with
    | 0, hct => cases hct; exact (if_neg (by omega) : (if 0 = 1 then some (w.heap.size, 0) else ρ 0) = ρ 0) ▸ hr0 ▸ denObj (fun i e => Option.some.inj e) hb' ⟨rfl, rfl, rfl⟩
    | 1, hct => cases hct; exact denObj (fun i e => Option.some.inj e) hg hQ
  · match h, h', hct, hct' with
    | 0, 0, _, _ => rfl
    | 1, 1, _, _ => rfl
    | 0, 1, _, _ =>
      have e : ρ 0 = some (k, base) := e
      have e' : some (w.heap.size, 0) = some (k, base') := e'
      rw [hr0] at e; cases e; cases e'; exact absurd rfl hne
    | 1, 0, _, _ =>
      have e' : ρ 0 = some (k, base') := e'
      have e : some (w.heap.size, 0) = some (k, base) := e
      rw [hr0] at e'; cases e'; cases e; exact absurd rfl hne
  · obtain ⟨h, ct, base, hct, hr⟩ := hk
    match h, hct with
    | 0, _ =>
      have hr : ρ 0 = some (k, base) := hr
      exact ⟨.inl ⟨0, bld0, base, rfl, hr⟩, fun hx => hX2 k hx ⟨0, bld0, base, rfl, hr⟩⟩
    | 1, _ =>
      have hr : some (w.heap.size, 0) = some (k, base) := hr
      cases hr
      exact ⟨.inr (Nat.le_refl _), fun hx => absurd (hX1 _ hx) (Nat.lt_irrefl _)⟩
  · match h, hct with
    | 0, hct => cases hct; rfl
    | 1, hct => cases hct; rfl
  · refine ⟨hrel.os, hrel.tape, hrel.output, hrel.size, fun k hk hn => hrel.block k hk ?_, hrel.shape⟩
    rintro rfl
    exact hn ⟨0, bld0, 0, rfl, hr0⟩
/-- String of a builder that holds bytes: the builder is not looked at any more. -/
def spStr : Spec AF where
  γ := (Nat × Nat × Nat) × List UInt8
  δ := Unit
  args := fun _ => [.ptr 0 0 2 0]
  own := fun g => [bldH g.1.1 g.1.2.1 g.2.length g.1.2.2, bldR g.1.2.1 g.2 g.1.2.2]
  pre := fun g => g.2 ≠ []
  nnew := 0
  res := fun g _ => .val (.string ⟨g.2.toArray⟩)
  own' := fun _ _ => [none, none]
  post := fun _ _ => True
theorem m_str : Meets Tryd.prog regF 73 spStr := by
  refine ⟨⟨_, Tryd.func73, by kernel_rfl, by kernel_rfl⟩, ?_⟩
  rintro ⟨⟨b, g0, cap0⟩, (l : List UInt8)⟩ (h0 : l ≠ []) X ρ w vs hX1 hX2 hargs hown
  obtain ⟨b, hr0, hk0, c, E, fz, hb, hc, hE, hfz⟩ := denObj_inv (hown.den 0 _ rfl)
  obtain rfl := hk0 _ rfl
  subst hc hE hfz
  obtain ⟨g1, hr1, hk1, c1, E1, fz1, hg1, hQ1⟩ := denObj_inv (hown.den 1 _ rfl)
  obtain rfl := hk1 _ rfl
  obtain ⟨u, rfl, hu⟩ := args1 hargs
  obtain rfl := ptr0_inv hr0 hu
  refine (bld_string BldT.st BldT.stX b g1 cap0 _ l w hb (by have := bldR_owns hg1 hQ1; rw [Lib.byteCells_length] at this; exact this) h0).mono ?_
  rintro e w' ⟨rfl, hrel⟩
  refine ⟨(), ρ, _, trivial, rfl, fun _ _ => rfl, .val _, ⟨fun h ct hct => ?_, fun h h' ct ct' k base base' hct hct' e e' => ?_⟩, fun k hk => ?_, rfl, rfl, fun h ct hct => ?_, ?_⟩
  · match h, hct with
    | 0, hct => cases hct
    | 1, hct => cases hct
  · match h, hct with
    | 0, hct => cases hct
    | 1, hct => cases hct
  · obtain ⟨h, ct, base, hct, hr⟩ := hk
    match h, hct with
    | 0, hct => cases hct
    | 1, hct => cases hct
  · match h, hct with
    | 0, hct => cases hct
    | 1, hct => cases hct
  · refine ⟨hrel.os, hrel.tape, hrel.output, hrel.size, fun k hk hn => hrel.block k hk ?_, hrel.shape⟩
    rintro rfl
    exact hn ⟨1, _, 0, rfl, hr1⟩
/-- .. of one that nothing was done with. -/
def spStr0 : Spec AF where
  γ := Unit
  δ := Unit
  args := fun _ => [.ptr 0 0 2 0]
  own := fun _ => [bld0]
  pre := fun _ => True
  nnew := 0
  res := fun _ _ => .val (.string ⟨#[]⟩)
  own' := fun _ _ => [none]
  post := fun _ _ => True
theorem m_str0 : Meets Tryd.prog regF 73 spStr0 := by
  refine ⟨⟨_, Tryd.func73, by kernel_rfl, by kernel_rfl⟩, ?_⟩
  intro _ _ X ρ w vs hX1 hX2 hargs hown
  obtain ⟨b, hr0, _, c, E, fz, hb, hc, hE, hfz⟩ := denObj_inv (hown.den 0 _ rfl)
  subst hc hE hfz
  obtain ⟨u, rfl, hu⟩ := args1 hargs
  obtain rfl := ptr0_inv hr0 hu
  refine (bld_string0 BldT.st BldT.stX b _ w hb).mono ?_
  rintro e w' ⟨rfl, hrel⟩
  refine ⟨(), ρ, _, trivial, rfl, fun _ _ => rfl, .val _, ⟨fun h ct hct => ?_, fun h h' ct ct' k base base' hct hct' e e' => ?_⟩, fun k hk => ?_, rfl, rfl, fun h ct hct => ?_, ?_⟩
  · match h, hct with
    | 0, hct => cases hct
  · match h, hct with
    | 0, hct => cases hct
  · obtain ⟨h, ct, base, hct, hr⟩ := hk
    match h, hct with
    | 0, hct => cases hct
  · match h, hct with
    | 0, hct => cases hct
  · exact ⟨hrel.os, hrel.tape, hrel.output, hrel.size, fun k hk hn => hrel.block k hk (fun e => e), hrel.shape⟩
end Go.Sx

/-
  strings.Join, where there are two and more parts.
-/
namespace Go.Sx
open Go Go.Proofs Go.Proofs.YtmogappoadglgaaDoor
/-- Parts, one behind the other, with a text between them. -/
def restL (sep : ByteArray) (l : List ByteArray) : List UInt8 := l.flatMap fun y => sep.data.toList ++ y.data.toList
def joinL (sep : ByteArray) : List ByteArray → List UInt8
  | [] => []
  | x :: l => x.data.toList ++ restL sep l
theorem restL_snoc (sep : ByteArray) (l : List ByteArray) (x : ByteArray) : restL sep (l ++ [x]) = restL sep l ++ sep.data.toList ++ x.data.toList := by
  unfold restL
  rw [List.flatMap_append, List.append_assoc]
  simp
theorem restL_len {sep : ByteArray} (hs : sep.size ≤ 100) : ∀ {l : List ByteArray}, (∀ s ∈ l, s.size ≤ 1000000) → (restL sep l).length ≤ l.length * 1000100
  | [], _ => Nat.zero_le _
  | x :: l, h => by
    have h1 := restL_len hs (l := l) fun s hs => h s (List.mem_cons_of_mem _ hs)
    have h2 := h x (List.mem_cons_self ..)
    unfold restL at h1 ⊢
    rw [List.flatMap_cons, List.length_append, List.length_append, len_data, len_data, List.length_cons]
    omega
def spJoin : Spec AF where
  γ := List ByteArray × ByteArray
  δ := Unit
  args := fun g => [.lst 9 g.1, .val (.string g.2)]
  own := fun _ => []
  pre := fun g => (2 ≤ g.1.length ∧ g.1.length ≤ 1000) ∧ (0 < g.2.size ∧ g.2.size ≤ 100) ∧ ∀ s ∈ g.1, s.size ≤ 1000000
  nnew := 0
  res := fun g _ => .val (.string ⟨(joinL g.2 g.1).toArray⟩)
  own' := fun _ _ => []
  post := fun _ _ => True
theorem m_join : Meets Tryd.prog regF 72 spJoin := by
  refine meets Tryd.func72 75 noWr rfl (by kernel_rfl) (by kernel_rfl) ?_
  rintro ⟨(xs : List ByteArray), (sep : ByteArray)⟩ ⟨⟨(h2 : 2 ≤ xs.length), (hm : xs.length ≤ 1000)⟩, ⟨(hs0 : 0 < sep.size), (hs1 : sep.size ≤ 100)⟩, (hx : ∀ s ∈ xs, s.size ≤ 1000000)⟩
  have hq : 9223372036854775 ≤ Int.tdiv 9223372036854775807 ((xs.length : Int) - 1) := by
    rw [Int.tdiv_eq_ediv_of_nonneg (by decide)]
    exact Int.le_ediv_of_mul_le (by omega) (by omega)
  have hq2 : Int.tdiv 9223372036854775807 ((xs.length : Int) - 1) ≤ 9223372036854775807 := by
    rw [Int.tdiv_eq_ediv_of_nonneg (by decide)]
    exact Int.ediv_le_self _ (by decide)
  have hp0 : 0 < (sep.size : Int) * ((xs.length : Int) - 1) := Int.mul_pos (by omega) (by omega)
  have hp1 : (sep.size : Int) * ((xs.length : Int) - 1) ≤ 100 * 999 := Int.mul_le_mul (by omega) (by omega) (by omega) (by decide)
  conv => whnf
  repeat' (first | (refine tell (fun hQ => ?_) (fun hQ => ?_) <;> (try dsimp only at hQ) <;> first | (exfalso; omega) | (exact absurd rfl hQ) | (exact absurd hQ hne) | (exact absurd hne hQ) | (exact absurd (by decide) hQ) | (conv => whnf)) | (refine allG rfl ?_; conv => whnf) | (refine And.intro (by first | omega | assumption | kernel_rfl | exact And.intro rfl rfl | ((try dsimp only [inR, idx, lowOf]); first | omega | (with_reducible decide) | (simp; omega) | (simp; done) | fail) | fail) ?_; conv => whnf) | fail)
  refine ⟨Nat × Int, fun p => ⟨[(0, .lst 9 xs), (1, .val (.string sep)), (5, vI p.2), (39, .lst 9 xs), (40, vI xs.length), (41, vI p.1)], []⟩, fun p => p.1 ≤ xs.length ∧ 0 < p.2 ∧ p.2 ≤ 99900 + (p.1 : Int) * 1000000, fun p => xs.length - p.1, fun _ _ => rfl, ⟨(0, 0 + (sep.size : Int) * ((xs.length : Int) - 1)), [], ⟨Nat.zero_le _, by dsimp only; omega, by dsimp only; omega⟩, ?_⟩, ?_⟩
  · refine ⟨rfl, ?_, ?_, rfl⟩
    all_goals (repeat' (first | exact trivial | exact rfl | refine And.intro ?_ ?_ | (refine congrArg vI ?_; first | omega | (dsimp only; omega) | fail) | (refine congrArg some ?_) | omega | exact Nat.le_refl _ | exact congrArg (SV.lst _) (List.take_of_length_le (Nat.le_refl _)).symm))
  rintro ⟨(i : Nat), (n : Int)⟩ ⟨(hi : i ≤ xs.length), (hn0 : 0 < n), (hn1 : n ≤ 99900 + (i : Int) * 1000000)⟩
  by_cases hlt : i < xs.length
  · have hobt : ∃ y, xs[i]? = some y := ⟨_, List.getElem?_eq_getElem hlt⟩
    obtain ⟨x, hxi⟩ := hobt
    have hxs := hx x (List.mem_of_getElem? hxi)
    conv => whnf
    repeat' (first | (refine tell (fun hQ => ?_) (fun hQ => ?_) <;> (try dsimp only at hQ) <;> first | (exfalso; omega) | (exact absurd rfl hQ) | (exact absurd hQ hne) | (exact absurd hne hQ) | (exact absurd (by decide) hQ) | (conv => whnf)) | (refine allG (x := x) (by first | exact hxi | simpa [List.getElem?_append_right, lowOf] using hxi | fail) ?_; conv => whnf) | (refine allLst (x := x) (by first | omega | assumption | fail) (by first | exact hxi | simpa using hxi | fail) ?_; conv => whnf) | (refine allG rfl ?_; conv => whnf) | (refine And.intro (by first | omega | assumption | kernel_rfl | exact And.intro rfl rfl | ((try dsimp only [inR, idx, lowOf]); first | omega | (with_reducible decide) | (simp; omega) | (simp; done) | fail) | fail) ?_; conv => whnf) | fail)
    refine ⟨(i + 1, n + (x.size : Int)), [], ⟨hlt, by dsimp only; omega, by dsimp only; omega⟩, ?_, rfl, ?_, ?_, rfl⟩
    · dsimp only; first | omega | (simp; done) | (simp; omega)
    all_goals (repeat' (first | exact trivial | exact rfl | refine And.intro ?_ ?_ | (refine congrArg vI ?_; first | omega | (dsimp only; omega) | fail) | (refine congrArg some ?_) | omega | exact Nat.le_refl _ | exact congrArg (SV.lst _) (List.take_of_length_le (Nat.le_refl _)).symm))
  · have hobt : ∃ y, xs[0]? = some y := ⟨_, List.getElem?_eq_getElem (by omega)⟩
    obtain ⟨x0, hx0⟩ := hobt
    have hx0s := hx x0 (List.mem_of_getElem? hx0)
    conv => whnf
    repeat' (first | (refine tell (fun hQ => ?_) (fun hQ => ?_) <;> (try dsimp only at hQ) <;> first | (exfalso; omega) | (exact absurd rfl hQ) | (exact absurd hQ hne) | (exact absurd hne hQ) | (exact absurd (by decide) hQ) | (conv => whnf)) | (refine allG rfl ?_; conv => whnf) | (refine And.intro (by first | omega | assumption | kernel_rfl | exact And.intro rfl rfl | ((try dsimp only [inR, idx, lowOf]); first | omega | (with_reducible decide) | (simp; omega) | (simp; done) | fail) | fail) ?_; conv => whnf) | fail)
    refine ⟨_, m_grow, n, [1008], false, ?_⟩
    conv => whnf
    refine And.intro (vc0 ⟨hn0, by omega⟩ (by (repeat' (first | exact trivial | exact rfl | refine And.intro ?_ ?_ | (refine congrArg vI ?_; first | omega | (dsimp only; omega) | fail) | (refine congrArg some ?_) | omega | exact Nat.le_refl _ | exact congrArg (SV.lst _) (List.take_of_length_le (Nat.le_refl _)).symm))) (by repeat' (first | exact trivial | exact rfl | refine And.intro ?_ ?_ | (refine congrArg vI ?_; first | omega | (dsimp only; omega) | fail) | (refine congrArg some ?_) | omega | exact Nat.le_refl _ | exact congrArg (SV.lst _) (List.take_of_length_le (Nat.le_refl _)).symm)) trivial trivial) ?_
    refine And.intro ⟨(0, 0, 0), trivial⟩ ?_
    rintro ⟨(b : Nat), (gb : Nat), (cap : Nat)⟩ _
    conv => whnf
    repeat' (first | (refine tell (fun hQ => ?_) (fun hQ => ?_) <;> (try dsimp only at hQ) <;> first | (exfalso; omega) | (exact absurd rfl hQ) | (exact absurd hQ hne) | (exact absurd hne hQ) | (exact absurd (by decide) hQ) | (conv => whnf)) | (refine allG (x := x0) (by first | exact hx0 | simpa [List.getElem?_append_right, lowOf] using hx0 | fail) ?_; conv => whnf) | (refine allLst (x := x0) (by first | omega | assumption | fail) (by first | exact hx0 | simpa using hx0 | fail) ?_; conv => whnf) | (refine allG rfl ?_; conv => whnf) | (refine And.intro (by first | omega | assumption | kernel_rfl | exact And.intro rfl rfl | ((try dsimp only [inR, idx, lowOf]); first | omega | (with_reducible decide) | (simp; omega) | (simp; done) | fail) | fail) ?_; conv => whnf) | fail)
    refine ⟨_, m_wsU, ((b, gb, cap), [], x0), [1008, 1057], false, ?_⟩
    conv => whnf
    refine And.intro (vc0 (show 0 + x0.size ≤ 140737488355328 by omega) (by (repeat' (first | exact trivial | exact rfl | refine And.intro ?_ ?_ | (refine congrArg vI ?_; first | omega | (dsimp only; omega) | fail) | (refine congrArg some ?_) | omega | exact Nat.le_refl _ | exact congrArg (SV.lst _) (List.take_of_length_le (Nat.le_refl _)).symm))) (by repeat' (first | exact trivial | exact rfl | refine And.intro ?_ ?_ | (refine congrArg vI ?_; first | omega | (dsimp only; omega) | fail) | (refine congrArg some ?_) | omega | exact Nat.le_refl _ | exact congrArg (SV.lst _) (List.take_of_length_le (Nat.le_refl _)).symm)) trivial trivial) ?_
    refine And.intro ⟨(0, 0, 0), trivial⟩ ?_
    rintro ⟨(b : Nat), (gb : Nat), (cap : Nat)⟩ _
    have hdl : (xs.drop 1).length = xs.length - 1 := List.length_drop ..
    conv => whnf
    repeat' (first | (refine tell (fun hQ => ?_) (fun hQ => ?_) <;> (try dsimp only at hQ) <;> first | (exfalso; omega) | (exact absurd rfl hQ) | (exact absurd hQ hne) | (exact absurd hne hQ) | (exact absurd (by decide) hQ) | (conv => whnf)) | (refine allG rfl ?_; conv => whnf) | (refine And.intro (by first | omega | assumption | kernel_rfl | exact And.intro rfl rfl | ((try dsimp only [inR, idx, lowOf]); first | omega | (with_reducible decide) | (simp; omega) | (simp; done) | fail) | fail) ?_; conv => whnf) | fail)
    refine ⟨Nat × (Nat × Nat × Nat) × List UInt8, fun p => ⟨[(1, .val (.string sep)), (8, .ptr 1008 0 2 0), (63, .lst 9 (xs.drop 1)), (64, vI (xs.drop 1).length), (65, vI p.1)], [(1008, bldH p.2.1.1 p.2.1.2.1 p.2.2.length p.2.1.2.2), (3000, bldR p.2.1.2.1 p.2.2 p.2.1.2.2)]⟩, fun p => p.1 ≤ (xs.drop 1).length ∧ p.2.2 = x0.data.toList ++ restL sep ((xs.drop 1).take p.1), fun p => (xs.drop 1).length - p.1, fun _ _ => rfl, ⟨(0, (b, gb, cap), x0.data.toList), [(3000, 1061)], ⟨Nat.zero_le _, by simp [restL]⟩, ?_⟩, ?_⟩
    · refine ⟨rfl, ?_, ?_, rfl⟩
      all_goals (repeat' (first | exact trivial | exact rfl | refine And.intro ?_ ?_ | (refine congrArg vI ?_; first | omega | (dsimp only; omega) | fail) | (refine congrArg some ?_) | omega | exact Nat.le_refl _ | exact congrArg (SV.lst _) (List.take_of_length_le (Nat.le_refl _)).symm))
    rintro ⟨(i : Nat), ⟨(b : Nat), (gb : Nat), (cap : Nat)⟩, (l : List UInt8)⟩ ⟨(hi : i ≤ (xs.drop 1).length), (hl : l = x0.data.toList ++ restL sep ((xs.drop 1).take i))⟩
    have hll : l.length ≤ 1000000 + 1000 * 1000100 := by
      have h1 := restL_len (sep := sep) hs1 (l := (xs.drop 1).take i) fun s hs => hx s (List.mem_of_mem_drop (List.mem_of_mem_take hs))
      have h2 : ((xs.drop 1).take i).length ≤ 1000 := by rw [List.length_take]; omega
      have h3 : ((xs.drop 1).take i).length * 1000100 ≤ 1000 * 1000100 := Nat.mul_le_mul_right _ h2
      rw [hl, List.length_append, len_data]
      omega
    by_cases hlt : i < (xs.drop 1).length
    · have hobt : ∃ y, (xs.drop 1)[i]? = some y := ⟨_, List.getElem?_eq_getElem hlt⟩
      obtain ⟨x, hxi⟩ := hobt
      have hxs := hx x (List.mem_of_mem_drop (List.mem_of_getElem? hxi))
      have hs' : (l ++ sep.data.toList).length = l.length + sep.size := by rw [List.length_append, len_data]
      conv => whnf
      repeat' (first | (refine tell (fun hQ => ?_) (fun hQ => ?_) <;> (try dsimp only at hQ) <;> first | (exfalso; omega) | (exact absurd rfl hQ) | (exact absurd hQ hne) | (exact absurd hne hQ) | (exact absurd (by decide) hQ) | (conv => whnf)) | (refine allG (x := x) (by first | exact hxi | simpa [List.getElem?_append_right, lowOf] using hxi | fail) ?_; conv => whnf) | (refine allLst (x := x) (by first | omega | assumption | fail) (by first | exact hxi | simpa using hxi | fail) ?_; conv => whnf) | (refine allG rfl ?_; conv => whnf) | (refine And.intro (by first | omega | assumption | kernel_rfl | exact And.intro rfl rfl | ((try dsimp only [inR, idx, lowOf]); first | omega | (with_reducible decide) | (simp; omega) | (simp; done) | fail) | fail) ?_; conv => whnf) | fail)
      refine ⟨_, m_wsU, ((b, gb, cap), l, sep), [1008, 3000], false, ?_⟩
      conv => whnf
      refine And.intro (vc0 (show l.length + sep.size ≤ 140737488355328 by omega) (by (repeat' (first | exact trivial | exact rfl | refine And.intro ?_ ?_ | (refine congrArg vI ?_; first | omega | (dsimp only; omega) | fail) | (refine congrArg some ?_) | omega | exact Nat.le_refl _ | exact congrArg (SV.lst _) (List.take_of_length_le (Nat.le_refl _)).symm))) (by repeat' (first | exact trivial | exact rfl | refine And.intro ?_ ?_ | (refine congrArg vI ?_; first | omega | (dsimp only; omega) | fail) | (refine congrArg some ?_) | omega | exact Nat.le_refl _ | exact congrArg (SV.lst _) (List.take_of_length_le (Nat.le_refl _)).symm)) trivial trivial) ?_
      refine And.intro ⟨(0, 0, 0), trivial⟩ ?_
      rintro ⟨(b : Nat), (gb : Nat), (cap : Nat)⟩ _
      conv => whnf
      repeat' (first | (refine tell (fun hQ => ?_) (fun hQ => ?_) <;> (try dsimp only at hQ) <;> first | (exfalso; omega) | (exact absurd rfl hQ) | (exact absurd hQ hne) | (exact absurd hne hQ) | (exact absurd (by decide) hQ) | (conv => whnf)) | (refine allG rfl ?_; conv => whnf) | (refine And.intro (by first | omega | assumption | kernel_rfl | exact And.intro rfl rfl | ((try dsimp only [inR, idx, lowOf]); first | omega | (with_reducible decide) | (simp; omega) | (simp; done) | fail) | fail) ?_; conv => whnf) | fail)
      refine ⟨_, m_wsU, ((b, gb, cap), l ++ sep.data.toList, x), [1008, 1070], false, ?_⟩
      conv => whnf
      refine And.intro (vc0 (show (l ++ sep.data.toList).length + x.size ≤ 140737488355328 by omega) (by (repeat' (first | exact trivial | exact rfl | refine And.intro ?_ ?_ | (refine congrArg vI ?_; first | omega | (dsimp only; omega) | fail) | (refine congrArg some ?_) | omega | exact Nat.le_refl _ | exact congrArg (SV.lst _) (List.take_of_length_le (Nat.le_refl _)).symm))) (by repeat' (first | exact trivial | exact rfl | refine And.intro ?_ ?_ | (refine congrArg vI ?_; first | omega | (dsimp only; omega) | fail) | (refine congrArg some ?_) | omega | exact Nat.le_refl _ | exact congrArg (SV.lst _) (List.take_of_length_le (Nat.le_refl _)).symm)) trivial trivial) ?_
      refine And.intro ⟨(0, 0, 0), trivial⟩ ?_
      rintro ⟨(b : Nat), (gb : Nat), (cap : Nat)⟩ _
      have hnl : l ++ sep.data.toList ++ x.data.toList = x0.data.toList ++ restL sep ((xs.drop 1).take (i + 1)) := by
        rw [take_snocI hxi, restL_snoc, hl]; simp
      conv => whnf
      repeat' (first | (refine tell (fun hQ => ?_) (fun hQ => ?_) <;> (try dsimp only at hQ) <;> first | (exfalso; omega) | (exact absurd rfl hQ) | (exact absurd hQ hne) | (exact absurd hne hQ) | (exact absurd (by decide) hQ) | (conv => whnf)) | (refine allG rfl ?_; conv => whnf) | (refine And.intro (by first | omega | assumption | kernel_rfl | exact And.intro rfl rfl | ((try dsimp only [inR, idx, lowOf]); first | omega | (with_reducible decide) | (simp; omega) | (simp; done) | fail) | fail) ?_; conv => whnf) | fail)
      refine ⟨(i + 1, (b, gb, cap), l ++ sep.data.toList ++ x.data.toList), [(3000, 1072)], ⟨hlt, hnl⟩, ?_, rfl, ?_, ?_, rfl⟩
      · dsimp only; first | omega | (simp; done) | (simp; omega)
      all_goals (repeat' (first | exact trivial | exact rfl | refine And.intro ?_ ?_ | (refine congrArg vI ?_; first | omega | (dsimp only; omega) | fail) | (refine congrArg some ?_) | omega | exact Nat.le_refl _ | exact congrArg (SV.lst _) (List.take_of_length_le (Nat.le_refl _)).symm))
    · rw [List.take_of_length_le (by omega)] at hl
      have hne : l ≠ [] := by
        rw [hl]
        have hobt : ∃ y, (xs.drop 1)[0]? = some y := ⟨_, List.getElem?_eq_getElem (by omega)⟩
        obtain ⟨x1, hx1⟩ := hobt
        intro e
        have e2 := congrArg List.length e
        cases hd : xs.drop 1 with
        | nil => rw [hd] at hdl; simp at hdl; omega
        | cons y ys =>
          rw [hd, restL, List.flatMap_cons, List.length_append, List.length_append, List.length_append, len_data, len_data, List.length_nil] at e2
          omega
      conv => whnf
      repeat' (first | (refine tell (fun hQ => ?_) (fun hQ => ?_) <;> (try dsimp only at hQ) <;> first | (exfalso; omega) | (exact absurd rfl hQ) | (exact absurd hQ hne) | (exact absurd hne hQ) | (exact absurd (by decide) hQ) | (conv => whnf)) | (refine allG rfl ?_; conv => whnf) | (refine And.intro (by first | omega | assumption | kernel_rfl | exact And.intro rfl rfl | ((try dsimp only [inR, idx, lowOf]); first | omega | (with_reducible decide) | (simp; omega) | (simp; done) | fail) | fail) ?_; conv => whnf) | fail)
      refine ⟨_, m_str, ((b, gb, cap), l), [1008, 3000], false, ?_⟩
      conv => whnf
      refine And.intro (vc0 hne (by (repeat' (first | exact trivial | exact rfl | refine And.intro ?_ ?_ | (refine congrArg vI ?_; first | omega | (dsimp only; omega) | fail) | (refine congrArg some ?_) | omega | exact Nat.le_refl _ | exact congrArg (SV.lst _) (List.take_of_length_le (Nat.le_refl _)).symm))) (by repeat' (first | exact trivial | exact rfl | refine And.intro ?_ ?_ | (refine congrArg vI ?_; first | omega | (dsimp only; omega) | fail) | (refine congrArg some ?_) | omega | exact Nat.le_refl _ | exact congrArg (SV.lst _) (List.take_of_length_le (Nat.le_refl _)).symm)) trivial trivial) ?_
      refine And.intro ⟨(), trivial⟩ (fun (_ : Unit) _ => ?_)
      conv => whnf
      conv => whnf
      repeat' (first | (refine tell (fun hQ => ?_) (fun hQ => ?_) <;> (try dsimp only at hQ) <;> first | (exfalso; omega) | (exact absurd rfl hQ) | (exact absurd hQ hne) | (exact absurd hne hQ) | (exact absurd (by decide) hQ) | (conv => whnf)) | (refine allG rfl ?_; conv => whnf) | (refine And.intro (by first | omega | assumption | kernel_rfl | exact And.intro rfl rfl | ((try dsimp only [inR, idx, lowOf]); first | omega | (with_reducible decide) | (simp; omega) | (simp; done) | fail) | fail) ?_; conv => whnf) | fail)
      have hres : l = joinL sep xs := by
        cases xs with
        | nil => simp at h2
        | cons y ys => simp at hx0; subst hx0; rw [hl]; simp [joinL]
      exact ⟨(), [], trivial, eS (by rw [hres]), trivial, trivial⟩
end Go.Sx


/-
  Layer 21: Report.
-/
namespace Go.Sx
open Go Go.Proofs Go.Proofs.YtmogappoadglgaaDoor
abbrev Post := ByteArray × Int
abbrev spB : ByteArray := ⟨#[32]⟩
abbrev nlB : ByteArray := ⟨#[10]⟩
/-- A job's line. -/
def nameP (ps : List Post) (v : Int) : List ByteArray := if 0 ≤ v then (match ps[v.toNat]? with | some p => [p.1] | none => []) else []
def wordsP (ps : List Post) (j : Job) : List ByteArray := [itoaF j.1, itoaF j.2.1, wordF j.2.2.1] ++ nameP ps j.2.2.2
def lineL (ps : List Post) (j : Job) : List UInt8 := joinL spB (wordsP ps j) ++ [10]
def repL (ps : List Post) (js : List Job) : List UInt8 := js.flatMap (lineL ps)
theorem repL_snoc (ps : List Post) (js : List Job) (j : Job) : repL ps (js ++ [j]) = repL ps js ++ lineL ps j := by
  unfold repL
  rw [List.flatMap_append]
  simp
theorem nameP_none {ps : List Post} {v : Int} (h : ¬ (0 ≤ v ∧ v < ps.length)) : nameP ps v = [] := by
  unfold nameP
  split
  · rw [List.getElem?_eq_none (by omega)]
  · rfl
theorem nameP_some {ps : List Post} {v : Int} {p : Post} (h : 0 ≤ v) (hp : ps[v.toNat]? = some p) : nameP ps v = [p.1] := by
  unfold nameP
  rw [if_pos h, hp]
theorem ite_size {c : Prop} [Decidable c] {a b : ByteArray} {n : Nat} (ha : a.size ≤ n) (hb : b.size ≤ n) : (if c then a else b).size ≤ n := by
  split
  · exact ha
  · exact hb
theorem itoaF_size (i : Int) : (itoaF i).size ≤ 1000000 := by
  unfold itoaF
  repeat' (refine ite_size ?_ ?_)
  all_goals exact (by decide)
theorem wordF_size (i : Int) : (wordF i).size ≤ 1000000 := by
  unfold wordF
  repeat' (refine ite_size ?_ ?_)
  all_goals exact (by decide)
theorem wordsP_size {ps : List Post} (hp : ∀ p ∈ ps, p.1.size ≤ 1000) (j : Job) : ∀ s ∈ wordsP ps j, s.size ≤ 1000000 := by
  intro s hs
  unfold wordsP at hs
  rcases List.mem_append.1 hs with hs | hs
  · simp at hs
    rcases hs with rfl | rfl | rfl
    · exact itoaF_size _
    · exact itoaF_size _
    · exact wordF_size _
  · unfold nameP at hs
    split at hs
    · split at hs
      · rename_i p hq
        rw [List.mem_singleton.1 hs]
        have := hp p (List.mem_of_getElem? hq)
        omega
      · cases hs
    · cases hs
theorem wordsP_len (ps : List Post) (j : Job) : 3 ≤ (wordsP ps j).length ∧ (wordsP ps j).length ≤ 4 := by
  unfold wordsP nameP
  split
  · split <;> simp
  · simp
theorem joinL_len {sep : ByteArray} (hs : sep.size ≤ 100) {l : List ByteArray} (h : ∀ s ∈ l, s.size ≤ 1000000) : (joinL sep l).length ≤ l.length * 1000100 := by
  cases l with
  | nil => exact Nat.zero_le _
  | cons x l =>
    have h1 := restL_len hs (l := l) fun s hs => h s (List.mem_cons_of_mem _ hs)
    have h2 := h x (List.mem_cons_self ..)
    unfold joinL
    rw [List.length_append, len_data, List.length_cons]
    omega
theorem lineL_len {ps : List Post} (hp : ∀ p ∈ ps, p.1.size ≤ 1000) (j : Job) : (joinL spB (wordsP ps j)).length ≤ 5000000 ∧ (lineL ps j).length ≤ 5000000 := by
  have h1 := joinL_len (sep := spB) (by decide) (wordsP_size hp j)
  have h2 := (wordsP_len ps j).2
  unfold lineL
  rw [List.length_append]
  simp only [List.length_cons, List.length_nil]
  omega
theorem repL_len {ps : List Post} (hp : ∀ p ∈ ps, p.1.size ≤ 1000) : ∀ js : List Job, (repL ps js).length ≤ js.length * 5000000
  | [] => Nat.zero_le _
  | j :: js => by
    have h1 := repL_len hp js
    have h2 := (lineL_len hp j).2
    unfold repL at h1 ⊢
    rw [List.flatMap_cons, List.length_append, List.length_cons]
    omega
theorem line_bytes (ps : List Post) (j : Job) : ((⟨(joinL spB (wordsP ps j)).toArray⟩ : ByteArray) ++ nlB).data.toList = lineL ps j := by
  rw [ByteArray.data_append]
  simp [lineL, nlB]
theorem line_size (ps : List Post) (j : Job) : ((⟨(joinL spB (wordsP ps j)).toArray⟩ : ByteArray) ++ nlB).size = (lineL ps j).length := by
  rw [← len_data, line_bytes]
theorem size_mk (l : List UInt8) : (⟨l.toArray⟩ : ByteArray).size = l.length := by rw [← len_data]
def spReport : Spec AF where
  γ := List Job × List Post
  δ := Unit
  args := fun g => [.lst 107 g.1, .lst 66 g.2]
  own := fun _ => []
  pre := fun g => (g.1.length ≤ 1000 ∧ ∀ j ∈ g.1, (0 ≤ j.1 ∧ j.1 ≤ 12) ∧ (0 ≤ j.2.1 ∧ j.2.1 ≤ 12) ∧ InI j.2.2.2) ∧ g.2.length ≤ 1000 ∧ ∀ p ∈ g.2, p.1.size ≤ 1000
  nnew := 0
  res := fun g _ => .val (.string ⟨(repL g.2 g.1).toArray⟩)
  own' := fun _ _ => []
  post := fun _ _ => True
abbrev repB (o : Option (Nat × Nat × Nat)) (l : List UInt8) : List (Nat × Ct AF) := match o with
  | none => [(1005, bld0)]
  | some d => [(1005, bldH d.1 d.2.1 l.length d.2.2), (3000, bldR d.2.1 l d.2.2)]
set_option maxHeartbeats 3200000 in
set_option maxRecDepth 100000 in
theorem m_report : Meets Tryd.prog regF 38 spReport := by
  refine meets Tryd.func38 50 noWr rfl (by kernel_rfl) (by kernel_rfl) ?_
  rintro ⟨(js : List Job), (ps : List Post)⟩ ⟨⟨(hj : js.length ≤ 1000), (hjs : ∀ j ∈ js, (0 ≤ j.1 ∧ j.1 ≤ 12) ∧ (0 ≤ j.2.1 ∧ j.2.1 ≤ 12) ∧ InI j.2.2.2)⟩, (hp : ps.length ≤ 1000), (hps : ∀ p ∈ ps, p.1.size ≤ 1000)⟩
  conv => whnf
  repeat' (first | (refine tell (fun hQ => ?_) (fun hQ => ?_) <;> (try dsimp only at hQ) <;> first | (exfalso; omega) | (exact absurd rfl hQ) | (exact absurd hQ hne) | (exact absurd hne hQ) | (exact absurd (by decide) hQ) | (conv => whnf)) | (refine allG rfl ?_; conv => whnf) | (refine And.intro (by first | omega | assumption | kernel_rfl | exact And.intro rfl rfl | ((try dsimp only [inR, idx, lowOf]); first | omega | (with_reducible decide) | (simp; omega) | (simp; done) | fail) | fail) ?_; conv => whnf) | fail)
  refine ⟨Nat × Option (Nat × Nat × Nat) × List UInt8, fun p => ⟨[(1, .lst 66 ps), (5, .ptr 1005 0 2 0), (9, .lst 107 js), (10, vI js.length), (11, vI p.1)], repB p.2.1 p.2.2⟩, fun p => p.1 ≤ js.length ∧ p.2.2 = repL ps (js.take p.1) ∧ (p.2.1 = none ↔ p.1 = 0), fun p => js.length - p.1, (fun p _ => by rcases p with ⟨i, o, l⟩; cases o <;> rfl), ⟨(0, none, []), [], ⟨Nat.zero_le _, by simp [repL], by simp⟩, ?_⟩, ?_⟩
  · refine ⟨rfl, ?_, ?_, rfl⟩
    all_goals (repeat' (first | exact trivial | exact rfl | refine And.intro ?_ ?_ | (refine congrArg vI ?_; first | omega | (dsimp only; omega) | fail) | (refine congrArg some ?_) | omega | exact Nat.le_refl _ | exact congrArg (SV.lst _) (List.take_of_length_le (Nat.le_refl _)).symm))
  rintro ⟨(i : Nat), (o : Option (Nat × Nat × Nat)), (l : List UInt8)⟩ ⟨(hi : i ≤ js.length), (hl : l = repL ps (js.take i)), (ho : o = none ↔ i = 0)⟩
  have hll : l.length ≤ 1000 * 5000000 := by
    have h1 := repL_len hps (js.take i)
    have h2 : (js.take i).length ≤ 1000 := by rw [List.length_take]; omega
    have h3 : (js.take i).length * 5000000 ≤ 1000 * 5000000 := Nat.mul_le_mul_right 5000000 h2
    have h4 := congrArg List.length hl
    omega
  by_cases hlt : i < js.length
  · have hobt : ∃ y, js[i]? = some y := ⟨_, List.getElem?_eq_getElem hlt⟩
    obtain ⟨⟨(j1 : Int), (j2 : Int), (j3 : Int), (j4 : Int)⟩, hji⟩ := hobt
    have hjj := hjs _ (List.mem_of_getElem? hji)
    have hj1 : 0 ≤ j1 ∧ j1 ≤ 12 := hjj.1
    have hj2 : 0 ≤ j2 ∧ j2 ≤ 12 := hjj.2.1
    have hj4 : InI j4 := hjj.2.2
    have hj4a := hj4.1
    have hj4b := hj4.2
    have hln := (lineL_len hps (j1, j2, j3, j4)).1
    have hln2 := (lineL_len hps (j1, j2, j3, j4)).2
    have hls := line_size ps (j1, j2, j3, j4)
    have hlb := line_bytes ps (j1, j2, j3, j4)
    have hsm := size_mk (joinL spB (wordsP ps (j1, j2, j3, j4)))
    have hnb : (⟨#[10]⟩ : ByteArray).size = 1 := rfl
    have hpos : 0 < (lineL ps (j1, j2, j3, j4)).length := by unfold lineL; rw [List.length_append]; exact Nat.succ_pos _
    have hw3 := wordsP_len ps (j1, j2, j3, j4)
    have hwz := wordsP_size hps (j1, j2, j3, j4)
    have hnl : repL ps (js.take (i + 1)) = l ++ lineL ps (j1, j2, j3, j4) := by rw [take_snocI hji, repL_snoc, hl]
    have hinr : ∀ v, (0 ≤ v ∧ v < (ps.length : Int)) → ∃ p, ps[v.toNat]? = some p := fun v hv => ⟨_, List.getElem?_eq_getElem (by omega)⟩
    rcases o with _ | ⟨b, gb, cap⟩
    · have hle : l = [] := by rw [hl, ho.1 rfl]; rfl
      by_cases hin : 0 ≤ j4 ∧ j4 < (ps.length : Int)
      · have hin1 := hin.1
        have hin2 := hin.2
        have hobt := hinr j4 hin
        obtain ⟨q, hq⟩ := hobt
        conv => whnf
        repeat' (first | (refine tell (fun hQ => ?_) (fun hQ => ?_) <;> (try dsimp only at hQ) <;> first | (exfalso; omega) | (exact absurd rfl hQ) | (exact absurd hQ hne) | (exact absurd hne hQ) | (exact absurd (by decide) hQ) | (conv => whnf)) | (refine allG (x := _) (by first | exact hji | simpa [List.getElem?_append_right, lowOf] using hji | fail) ?_; conv => whnf) | (refine allLst (x := _) (by first | omega | assumption | fail) (by first | exact hji | simpa using hji | fail) ?_; conv => whnf) | (refine allG rfl ?_; conv => whnf) | (refine And.intro (by first | omega | assumption | kernel_rfl | exact And.intro rfl rfl | ((try dsimp only [inR, idx, lowOf]); first | omega | (with_reducible decide) | (simp; omega) | (simp; done) | fail) | fail) ?_; conv => whnf) | fail)
        refine ⟨_, m_itoa, j1, [], false, ?_⟩
        conv => whnf
        refine And.intro (vc0 hj1 (by (repeat' (first | exact trivial | exact rfl | refine And.intro ?_ ?_ | (refine congrArg vI ?_; first | omega | (dsimp only; omega) | fail) | (refine congrArg some ?_) | omega | exact Nat.le_refl _ | exact congrArg (SV.lst _) (List.take_of_length_le (Nat.le_refl _)).symm))) (by repeat' (first | exact trivial | exact rfl | refine And.intro ?_ ?_ | (refine congrArg vI ?_; first | omega | (dsimp only; omega) | fail) | (refine congrArg some ?_) | omega | exact Nat.le_refl _ | exact congrArg (SV.lst _) (List.take_of_length_le (Nat.le_refl _)).symm)) trivial trivial) ?_
        refine And.intro ⟨(), trivial⟩ (fun (_ : Unit) _ => ?_)
        conv => whnf
        conv => whnf
        repeat' (first | (refine tell (fun hQ => ?_) (fun hQ => ?_) <;> (try dsimp only at hQ) <;> first | (exfalso; omega) | (exact absurd rfl hQ) | (exact absurd hQ hne) | (exact absurd hne hQ) | (exact absurd (by decide) hQ) | (conv => whnf)) | (refine allG (x := _) (by first | exact hji | simpa [List.getElem?_append_right, lowOf] using hji | fail) ?_; conv => whnf) | (refine allLst (x := _) (by first | omega | assumption | fail) (by first | exact hji | simpa using hji | fail) ?_; conv => whnf) | (refine allG rfl ?_; conv => whnf) | (refine And.intro (by first | omega | assumption | kernel_rfl | exact And.intro rfl rfl | ((try dsimp only [inR, idx, lowOf]); first | omega | (with_reducible decide) | (simp; omega) | (simp; done) | fail) | fail) ?_; conv => whnf) | fail)
        refine ⟨_, m_itoa, j2, [], false, ?_⟩
        conv => whnf
        refine And.intro (vc0 hj2 (by (repeat' (first | exact trivial | exact rfl | refine And.intro ?_ ?_ | (refine congrArg vI ?_; first | omega | (dsimp only; omega) | fail) | (refine congrArg some ?_) | omega | exact Nat.le_refl _ | exact congrArg (SV.lst _) (List.take_of_length_le (Nat.le_refl _)).symm))) (by repeat' (first | exact trivial | exact rfl | refine And.intro ?_ ?_ | (refine congrArg vI ?_; first | omega | (dsimp only; omega) | fail) | (refine congrArg some ?_) | omega | exact Nat.le_refl _ | exact congrArg (SV.lst _) (List.take_of_length_le (Nat.le_refl _)).symm)) trivial trivial) ?_
        refine And.intro ⟨(), trivial⟩ (fun (_ : Unit) _ => ?_)
        conv => whnf
        conv => whnf
        repeat' (first | (refine tell (fun hQ => ?_) (fun hQ => ?_) <;> (try dsimp only at hQ) <;> first | (exfalso; omega) | (exact absurd rfl hQ) | (exact absurd hQ hne) | (exact absurd hne hQ) | (exact absurd (by decide) hQ) | (conv => whnf)) | (refine allG (x := _) (by first | exact hji | simpa [List.getElem?_append_right, lowOf] using hji | fail) ?_; conv => whnf) | (refine allLst (x := _) (by first | omega | assumption | fail) (by first | exact hji | simpa using hji | fail) ?_; conv => whnf) | (refine allG rfl ?_; conv => whnf) | (refine And.intro (by first | omega | assumption | kernel_rfl | exact And.intro rfl rfl | ((try dsimp only [inR, idx, lowOf]); first | omega | (with_reducible decide) | (simp; omega) | (simp; done) | fail) | fail) ?_; conv => whnf) | fail)
        refine ⟨_, m_word, j3, [], false, ?_⟩
        conv => whnf
        refine And.intro (vc0 trivial (by (repeat' (first | exact trivial | exact rfl | refine And.intro ?_ ?_ | (refine congrArg vI ?_; first | omega | (dsimp only; omega) | fail) | (refine congrArg some ?_) | omega | exact Nat.le_refl _ | exact congrArg (SV.lst _) (List.take_of_length_le (Nat.le_refl _)).symm))) (by repeat' (first | exact trivial | exact rfl | refine And.intro ?_ ?_ | (refine congrArg vI ?_; first | omega | (dsimp only; omega) | fail) | (refine congrArg some ?_) | omega | exact Nat.le_refl _ | exact congrArg (SV.lst _) (List.take_of_length_le (Nat.le_refl _)).symm)) trivial trivial) ?_
        refine And.intro ⟨(), trivial⟩ (fun (_ : Unit) _ => ?_)
        conv => whnf
        have hwe : wordsP ps (j1, j2, j3, j4) = [itoaF j1, itoaF j2, wordF j3, q.1] := by unfold wordsP; rw [nameP_some hin.1 hq]; rfl
        conv => whnf
        repeat' (first | (refine tell (fun hQ => ?_) (fun hQ => ?_) <;> (try dsimp only at hQ) <;> first | (exfalso; omega) | (exact absurd rfl hQ) | (exact absurd hQ hne) | (exact absurd hne hQ) | (exact absurd (by decide) hQ) | (conv => whnf)) | (refine allG (x := q) (by first | exact hq | simpa [List.getElem?_append_right, lowOf] using hq | fail) ?_; conv => whnf) | (refine allLst (x := q) (by first | omega | assumption | fail) (by first | exact hq | simpa using hq | fail) ?_; conv => whnf) | (refine allG (x := _) (by first | exact hji | simpa [List.getElem?_append_right, lowOf] using hji | fail) ?_; conv => whnf) | (refine allLst (x := _) (by first | omega | assumption | fail) (by first | exact hji | simpa using hji | fail) ?_; conv => whnf) | (refine allG rfl ?_; conv => whnf) | (refine And.intro (by first | omega | assumption | kernel_rfl | exact And.intro rfl rfl | ((try dsimp only [inR, idx, lowOf]); first | omega | (with_reducible decide) | (simp; omega) | (simp; done) | fail) | fail) ?_; conv => whnf) | fail)
        refine ⟨_, m_join, ((wordsP ps (j1, j2, j3, j4)), spB), [], false, ?_⟩
        conv => whnf
        refine And.intro (vc0 ⟨⟨by dsimp only; omega, by dsimp only; omega⟩, ⟨(by decide : 0 < spB.size), (by decide : spB.size ≤ 100)⟩, hwz⟩ (by (repeat' (first | exact trivial | exact rfl | refine And.intro ?_ ?_ | (refine congrArg vI ?_; first | omega | (dsimp only; omega) | fail) | (refine congrArg some ?_) | omega | exact Nat.le_refl _ | exact congrArg (SV.lst _) (List.take_of_length_le (Nat.le_refl _)).symm)); all_goals ((rw [hwe]; exact rfl))) (by repeat' (first | exact trivial | exact rfl | refine And.intro ?_ ?_ | (refine congrArg vI ?_; first | omega | (dsimp only; omega) | fail) | (refine congrArg some ?_) | omega | exact Nat.le_refl _ | exact congrArg (SV.lst _) (List.take_of_length_le (Nat.le_refl _)).symm)) trivial trivial) ?_
        refine And.intro ⟨(), trivial⟩ (fun (_ : Unit) _ => ?_)
        conv => whnf
        conv => whnf
        repeat' (first | (refine tell (fun hQ => ?_) (fun hQ => ?_) <;> (try dsimp only at hQ) <;> first | (exfalso; omega) | (exact absurd rfl hQ) | (exact absurd hQ hne) | (exact absurd hne hQ) | (exact absurd (by decide) hQ) | (conv => whnf)) | (refine allG rfl ?_; conv => whnf) | (refine And.intro (by first | omega | assumption | kernel_rfl | exact And.intro rfl rfl | ((try dsimp only [inR, idx, lowOf]); first | omega | (with_reducible decide) | (simp; omega) | (simp; done) | fail) | fail) ?_; conv => whnf) | fail)
        refine ⟨_, m_wsF, ((⟨(joinL spB (wordsP ps (j1, j2, j3, j4))).toArray⟩ : ByteArray) ++ nlB), [1005], false, ?_⟩
        conv => whnf
        refine And.intro (vc0 ⟨by rw [hls]; exact hpos, by rw [hls]; omega⟩ (by (repeat' (first | exact trivial | exact rfl | refine And.intro ?_ ?_ | (refine congrArg vI ?_; first | omega | (dsimp only; omega) | fail) | (refine congrArg some ?_) | omega | exact Nat.le_refl _ | exact congrArg (SV.lst _) (List.take_of_length_le (Nat.le_refl _)).symm))) (by repeat' (first | exact trivial | exact rfl | refine And.intro ?_ ?_ | (refine congrArg vI ?_; first | omega | (dsimp only; omega) | fail) | (refine congrArg some ?_) | omega | exact Nat.le_refl _ | exact congrArg (SV.lst _) (List.take_of_length_le (Nat.le_refl _)).symm)) trivial trivial) ?_
        refine And.intro ⟨(0, 0, 0), trivial⟩ ?_
        rintro ⟨(b : Nat), (gb : Nat), (cap : Nat)⟩ _
        have hl0 : ((⟨(joinL spB (wordsP ps (j1, j2, j3, j4))).toArray⟩ : ByteArray) ++ nlB).data.toList = repL ps (js.take (i + 1)) := by rw [hlb, hnl, hle]; rfl
        conv => whnf
        repeat' (first | (refine tell (fun hQ => ?_) (fun hQ => ?_) <;> (try dsimp only at hQ) <;> first | (exfalso; omega) | (exact absurd rfl hQ) | (exact absurd hQ hne) | (exact absurd hne hQ) | (exact absurd (by decide) hQ) | (conv => whnf)) | (refine allG rfl ?_; conv => whnf) | (refine And.intro (by first | omega | assumption | kernel_rfl | exact And.intro rfl rfl | ((try dsimp only [inR, idx, lowOf]); first | omega | (with_reducible decide) | (simp; omega) | (simp; done) | fail) | fail) ?_; conv => whnf) | fail)
        refine ⟨(i + 1, some (b, gb, cap), ((⟨(joinL spB (wordsP ps (j1, j2, j3, j4))).toArray⟩ : ByteArray) ++ nlB).data.toList), [(3000, 1047)], ⟨hlt, hl0, by simp⟩, ?_, rfl, ?_, ?_, rfl⟩
        · dsimp only; first | omega | (simp; done) | (simp; omega)
        all_goals (repeat' (first | exact trivial | exact rfl | refine And.intro ?_ ?_ | (refine congrArg vI ?_; first | omega | (dsimp only; omega) | fail) | (refine congrArg some ?_) | omega | exact Nat.le_refl _ | exact congrArg (SV.lst _) (List.take_of_length_le (Nat.le_refl _)).symm))
      · skip
        by_cases hneg : 0 ≤ j4
        · have hge : ¬ j4 < (ps.length : Int) := fun h => hin ⟨hneg, h⟩
          conv => whnf
          repeat' (first | (refine tell (fun hQ => ?_) (fun hQ => ?_) <;> (try dsimp only at hQ) <;> first | (exfalso; omega) | (exact absurd rfl hQ) | (exact absurd hQ hne) | (exact absurd hne hQ) | (exact absurd (by decide) hQ) | (conv => whnf)) | (refine allG (x := _) (by first | exact hji | simpa [List.getElem?_append_right, lowOf] using hji | fail) ?_; conv => whnf) | (refine allLst (x := _) (by first | omega | assumption | fail) (by first | exact hji | simpa using hji | fail) ?_; conv => whnf) | (refine allG rfl ?_; conv => whnf) | (refine And.intro (by first | omega | assumption | kernel_rfl | exact And.intro rfl rfl | ((try dsimp only [inR, idx, lowOf]); first | omega | (with_reducible decide) | (simp; omega) | (simp; done) | fail) | fail) ?_; conv => whnf) | fail)
          refine ⟨_, m_itoa, j1, [], false, ?_⟩
          conv => whnf
          refine And.intro (vc0 hj1 (by (repeat' (first | exact trivial | exact rfl | refine And.intro ?_ ?_ | (refine congrArg vI ?_; first | omega | (dsimp only; omega) | fail) | (refine congrArg some ?_) | omega | exact Nat.le_refl _ | exact congrArg (SV.lst _) (List.take_of_length_le (Nat.le_refl _)).symm))) (by repeat' (first | exact trivial | exact rfl | refine And.intro ?_ ?_ | (refine congrArg vI ?_; first | omega | (dsimp only; omega) | fail) | (refine congrArg some ?_) | omega | exact Nat.le_refl _ | exact congrArg (SV.lst _) (List.take_of_length_le (Nat.le_refl _)).symm)) trivial trivial) ?_
          refine And.intro ⟨(), trivial⟩ (fun (_ : Unit) _ => ?_)
          conv => whnf
          conv => whnf
          repeat' (first | (refine tell (fun hQ => ?_) (fun hQ => ?_) <;> (try dsimp only at hQ) <;> first | (exfalso; omega) | (exact absurd rfl hQ) | (exact absurd hQ hne) | (exact absurd hne hQ) | (exact absurd (by decide) hQ) | (conv => whnf)) | (refine allG (x := _) (by first | exact hji | simpa [List.getElem?_append_right, lowOf] using hji | fail) ?_; conv => whnf) | (refine allLst (x := _) (by first | omega | assumption | fail) (by first | exact hji | simpa using hji | fail) ?_; conv => whnf) | (refine allG rfl ?_; conv => whnf) | (refine And.intro (by first | omega | assumption | kernel_rfl | exact And.intro rfl rfl | ((try dsimp only [inR, idx, lowOf]); first | omega | (with_reducible decide) | (simp; omega) | (simp; done) | fail) | fail) ?_; conv => whnf) | fail)
          refine ⟨_, m_itoa, j2, [], false, ?_⟩
          conv => whnf
          refine And.intro (vc0 hj2 (by (repeat' (first | exact trivial | exact rfl | refine And.intro ?_ ?_ | (refine congrArg vI ?_; first | omega | (dsimp only; omega) | fail) | (refine congrArg some ?_) | omega | exact Nat.le_refl _ | exact congrArg (SV.lst _) (List.take_of_length_le (Nat.le_refl _)).symm))) (by repeat' (first | exact trivial | exact rfl | refine And.intro ?_ ?_ | (refine congrArg vI ?_; first | omega | (dsimp only; omega) | fail) | (refine congrArg some ?_) | omega | exact Nat.le_refl _ | exact congrArg (SV.lst _) (List.take_of_length_le (Nat.le_refl _)).symm)) trivial trivial) ?_
          refine And.intro ⟨(), trivial⟩ (fun (_ : Unit) _ => ?_)
          conv => whnf
          conv => whnf
          repeat' (first | (refine tell (fun hQ => ?_) (fun hQ => ?_) <;> (try dsimp only at hQ) <;> first | (exfalso; omega) | (exact absurd rfl hQ) | (exact absurd hQ hne) | (exact absurd hne hQ) | (exact absurd (by decide) hQ) | (conv => whnf)) | (refine allG (x := _) (by first | exact hji | simpa [List.getElem?_append_right, lowOf] using hji | fail) ?_; conv => whnf) | (refine allLst (x := _) (by first | omega | assumption | fail) (by first | exact hji | simpa using hji | fail) ?_; conv => whnf) | (refine allG rfl ?_; conv => whnf) | (refine And.intro (by first | omega | assumption | kernel_rfl | exact And.intro rfl rfl | ((try dsimp only [inR, idx, lowOf]); first | omega | (with_reducible decide) | (simp; omega) | (simp; done) | fail) | fail) ?_; conv => whnf) | fail)
          refine ⟨_, m_word, j3, [], false, ?_⟩
          conv => whnf
          refine And.intro (vc0 trivial (by (repeat' (first | exact trivial | exact rfl | refine And.intro ?_ ?_ | (refine congrArg vI ?_; first | omega | (dsimp only; omega) | fail) | (refine congrArg some ?_) | omega | exact Nat.le_refl _ | exact congrArg (SV.lst _) (List.take_of_length_le (Nat.le_refl _)).symm))) (by repeat' (first | exact trivial | exact rfl | refine And.intro ?_ ?_ | (refine congrArg vI ?_; first | omega | (dsimp only; omega) | fail) | (refine congrArg some ?_) | omega | exact Nat.le_refl _ | exact congrArg (SV.lst _) (List.take_of_length_le (Nat.le_refl _)).symm)) trivial trivial) ?_
          refine And.intro ⟨(), trivial⟩ (fun (_ : Unit) _ => ?_)
          conv => whnf
          have hwe : wordsP ps (j1, j2, j3, j4) = [itoaF j1, itoaF j2, wordF j3] := by unfold wordsP; rw [nameP_none hin]; rfl
          conv => whnf
          repeat' (first | (refine tell (fun hQ => ?_) (fun hQ => ?_) <;> (try dsimp only at hQ) <;> first | (exfalso; omega) | (exact absurd rfl hQ) | (exact absurd hQ hne) | (exact absurd hne hQ) | (exact absurd (by decide) hQ) | (conv => whnf)) | (refine allG (x := _) (by first | exact hji | simpa [List.getElem?_append_right, lowOf] using hji | fail) ?_; conv => whnf) | (refine allLst (x := _) (by first | omega | assumption | fail) (by first | exact hji | simpa using hji | fail) ?_; conv => whnf) | (refine allG rfl ?_; conv => whnf) | (refine And.intro (by first | omega | assumption | kernel_rfl | exact And.intro rfl rfl | ((try dsimp only [inR, idx, lowOf]); first | omega | (with_reducible decide) | (simp; omega) | (simp; done) | fail) | fail) ?_; conv => whnf) | fail)
          refine ⟨_, m_join, ((wordsP ps (j1, j2, j3, j4)), spB), [], false, ?_⟩
          conv => whnf
          refine And.intro (vc0 ⟨⟨by dsimp only; omega, by dsimp only; omega⟩, ⟨(by decide : 0 < spB.size), (by decide : spB.size ≤ 100)⟩, hwz⟩ (by (repeat' (first | exact trivial | exact rfl | refine And.intro ?_ ?_ | (refine congrArg vI ?_; first | omega | (dsimp only; omega) | fail) | (refine congrArg some ?_) | omega | exact Nat.le_refl _ | exact congrArg (SV.lst _) (List.take_of_length_le (Nat.le_refl _)).symm)); all_goals ((rw [hwe]; exact rfl))) (by repeat' (first | exact trivial | exact rfl | refine And.intro ?_ ?_ | (refine congrArg vI ?_; first | omega | (dsimp only; omega) | fail) | (refine congrArg some ?_) | omega | exact Nat.le_refl _ | exact congrArg (SV.lst _) (List.take_of_length_le (Nat.le_refl _)).symm)) trivial trivial) ?_
          refine And.intro ⟨(), trivial⟩ (fun (_ : Unit) _ => ?_)
          conv => whnf
          conv => whnf
          repeat' (first | (refine tell (fun hQ => ?_) (fun hQ => ?_) <;> (try dsimp only at hQ) <;> first | (exfalso; omega) | (exact absurd rfl hQ) | (exact absurd hQ hne) | (exact absurd hne hQ) | (exact absurd (by decide) hQ) | (conv => whnf)) | (refine allG rfl ?_; conv => whnf) | (refine And.intro (by first | omega | assumption | kernel_rfl | exact And.intro rfl rfl | ((try dsimp only [inR, idx, lowOf]); first | omega | (with_reducible decide) | (simp; omega) | (simp; done) | fail) | fail) ?_; conv => whnf) | fail)
          refine ⟨_, m_wsF, ((⟨(joinL spB (wordsP ps (j1, j2, j3, j4))).toArray⟩ : ByteArray) ++ nlB), [1005], false, ?_⟩
          conv => whnf
          refine And.intro (vc0 ⟨by rw [hls]; exact hpos, by rw [hls]; omega⟩ (by (repeat' (first | exact trivial | exact rfl | refine And.intro ?_ ?_ | (refine congrArg vI ?_; first | omega | (dsimp only; omega) | fail) | (refine congrArg some ?_) | omega | exact Nat.le_refl _ | exact congrArg (SV.lst _) (List.take_of_length_le (Nat.le_refl _)).symm))) (by repeat' (first | exact trivial | exact rfl | refine And.intro ?_ ?_ | (refine congrArg vI ?_; first | omega | (dsimp only; omega) | fail) | (refine congrArg some ?_) | omega | exact Nat.le_refl _ | exact congrArg (SV.lst _) (List.take_of_length_le (Nat.le_refl _)).symm)) trivial trivial) ?_
          refine And.intro ⟨(0, 0, 0), trivial⟩ ?_
          rintro ⟨(b : Nat), (gb : Nat), (cap : Nat)⟩ _
          have hl0 : ((⟨(joinL spB (wordsP ps (j1, j2, j3, j4))).toArray⟩ : ByteArray) ++ nlB).data.toList = repL ps (js.take (i + 1)) := by rw [hlb, hnl, hle]; rfl
          conv => whnf
          repeat' (first | (refine tell (fun hQ => ?_) (fun hQ => ?_) <;> (try dsimp only at hQ) <;> first | (exfalso; omega) | (exact absurd rfl hQ) | (exact absurd hQ hne) | (exact absurd hne hQ) | (exact absurd (by decide) hQ) | (conv => whnf)) | (refine allG rfl ?_; conv => whnf) | (refine And.intro (by first | omega | assumption | kernel_rfl | exact And.intro rfl rfl | ((try dsimp only [inR, idx, lowOf]); first | omega | (with_reducible decide) | (simp; omega) | (simp; done) | fail) | fail) ?_; conv => whnf) | fail)
          refine ⟨(i + 1, some (b, gb, cap), ((⟨(joinL spB (wordsP ps (j1, j2, j3, j4))).toArray⟩ : ByteArray) ++ nlB).data.toList), [(3000, 1047)], ⟨hlt, hl0, by simp⟩, ?_, rfl, ?_, ?_, rfl⟩
          · dsimp only; first | omega | (simp; done) | (simp; omega)
          all_goals (repeat' (first | exact trivial | exact rfl | refine And.intro ?_ ?_ | (refine congrArg vI ?_; first | omega | (dsimp only; omega) | fail) | (refine congrArg some ?_) | omega | exact Nat.le_refl _ | exact congrArg (SV.lst _) (List.take_of_length_le (Nat.le_refl _)).symm))
        · skip
          conv => whnf
          repeat' (first | (refine tell (fun hQ => ?_) (fun hQ => ?_) <;> (try dsimp only at hQ) <;> first | (exfalso; omega) | (exact absurd rfl hQ) | (exact absurd hQ hne) | (exact absurd hne hQ) | (exact absurd (by decide) hQ) | (conv => whnf)) | (refine allG (x := _) (by first | exact hji | simpa [List.getElem?_append_right, lowOf] using hji | fail) ?_; conv => whnf) | (refine allLst (x := _) (by first | omega | assumption | fail) (by first | exact hji | simpa using hji | fail) ?_; conv => whnf) | (refine allG rfl ?_; conv => whnf) | (refine And.intro (by first | omega | assumption | kernel_rfl | exact And.intro rfl rfl | ((try dsimp only [inR, idx, lowOf]); first | omega | (with_reducible decide) | (simp; omega) | (simp; done) | fail) | fail) ?_; conv => whnf) | fail)
          refine ⟨_, m_itoa, j1, [], false, ?_⟩
          conv => whnf
          refine And.intro (vc0 hj1 (by (repeat' (first | exact trivial | exact rfl | refine And.intro ?_ ?_ | (refine congrArg vI ?_; first | omega | (dsimp only; omega) | fail) | (refine congrArg some ?_) | omega | exact Nat.le_refl _ | exact congrArg (SV.lst _) (List.take_of_length_le (Nat.le_refl _)).symm))) (by repeat' (first | exact trivial | exact rfl | refine And.intro ?_ ?_ | (refine congrArg vI ?_; first | omega | (dsimp only; omega) | fail) | (refine congrArg some ?_) | omega | exact Nat.le_refl _ | exact congrArg (SV.lst _) (List.take_of_length_le (Nat.le_refl _)).symm)) trivial trivial) ?_
          refine And.intro ⟨(), trivial⟩ (fun (_ : Unit) _ => ?_)
          conv => whnf
          conv => whnf
          repeat' (first | (refine tell (fun hQ => ?_) (fun hQ => ?_) <;> (try dsimp only at hQ) <;> first | (exfalso; omega) | (exact absurd rfl hQ) | (exact absurd hQ hne) | (exact absurd hne hQ) | (exact absurd (by decide) hQ) | (conv => whnf)) | (refine allG (x := _) (by first | exact hji | simpa [List.getElem?_append_right, lowOf] using hji | fail) ?_; conv => whnf) | (refine allLst (x := _) (by first | omega | assumption | fail) (by first | exact hji | simpa using hji | fail) ?_; conv => whnf) | (refine allG rfl ?_; conv => whnf) | (refine And.intro (by first | omega | assumption | kernel_rfl | exact And.intro rfl rfl | ((try dsimp only [inR, idx, lowOf]); first | omega | (with_reducible decide) | (simp; omega) | (simp; done) | fail) | fail) ?_; conv => whnf) | fail)
          refine ⟨_, m_itoa, j2, [], false, ?_⟩
          conv => whnf
          refine And.intro (vc0 hj2 (by (repeat' (first | exact trivial | exact rfl | refine And.intro ?_ ?_ | (refine congrArg vI ?_; first | omega | (dsimp only; omega) | fail) | (refine congrArg some ?_) | omega | exact Nat.le_refl _ | exact congrArg (SV.lst _) (List.take_of_length_le (Nat.le_refl _)).symm))) (by repeat' (first | exact trivial | exact rfl | refine And.intro ?_ ?_ | (refine congrArg vI ?_; first | omega | (dsimp only; omega) | fail) | (refine congrArg some ?_) | omega | exact Nat.le_refl _ | exact congrArg (SV.lst _) (List.take_of_length_le (Nat.le_refl _)).symm)) trivial trivial) ?_
          refine And.intro ⟨(), trivial⟩ (fun (_ : Unit) _ => ?_)
          conv => whnf
          conv => whnf
          repeat' (first | (refine tell (fun hQ => ?_) (fun hQ => ?_) <;> (try dsimp only at hQ) <;> first | (exfalso; omega) | (exact absurd rfl hQ) | (exact absurd hQ hne) | (exact absurd hne hQ) | (exact absurd (by decide) hQ) | (conv => whnf)) | (refine allG (x := _) (by first | exact hji | simpa [List.getElem?_append_right, lowOf] using hji | fail) ?_; conv => whnf) | (refine allLst (x := _) (by first | omega | assumption | fail) (by first | exact hji | simpa using hji | fail) ?_; conv => whnf) | (refine allG rfl ?_; conv => whnf) | (refine And.intro (by first | omega | assumption | kernel_rfl | exact And.intro rfl rfl | ((try dsimp only [inR, idx, lowOf]); first | omega | (with_reducible decide) | (simp; omega) | (simp; done) | fail) | fail) ?_; conv => whnf) | fail)
          refine ⟨_, m_word, j3, [], false, ?_⟩
          conv => whnf
          refine And.intro (vc0 trivial (by (repeat' (first | exact trivial | exact rfl | refine And.intro ?_ ?_ | (refine congrArg vI ?_; first | omega | (dsimp only; omega) | fail) | (refine congrArg some ?_) | omega | exact Nat.le_refl _ | exact congrArg (SV.lst _) (List.take_of_length_le (Nat.le_refl _)).symm))) (by repeat' (first | exact trivial | exact rfl | refine And.intro ?_ ?_ | (refine congrArg vI ?_; first | omega | (dsimp only; omega) | fail) | (refine congrArg some ?_) | omega | exact Nat.le_refl _ | exact congrArg (SV.lst _) (List.take_of_length_le (Nat.le_refl _)).symm)) trivial trivial) ?_
          refine And.intro ⟨(), trivial⟩ (fun (_ : Unit) _ => ?_)
          conv => whnf
          have hwe : wordsP ps (j1, j2, j3, j4) = [itoaF j1, itoaF j2, wordF j3] := by unfold wordsP; rw [nameP_none hin]; rfl
          conv => whnf
          repeat' (first | (refine tell (fun hQ => ?_) (fun hQ => ?_) <;> (try dsimp only at hQ) <;> first | (exfalso; omega) | (exact absurd rfl hQ) | (exact absurd hQ hne) | (exact absurd hne hQ) | (exact absurd (by decide) hQ) | (conv => whnf)) | (refine allG (x := _) (by first | exact hji | simpa [List.getElem?_append_right, lowOf] using hji | fail) ?_; conv => whnf) | (refine allLst (x := _) (by first | omega | assumption | fail) (by first | exact hji | simpa using hji | fail) ?_; conv => whnf) | (refine allG rfl ?_; conv => whnf) | (refine And.intro (by first | omega | assumption | kernel_rfl | exact And.intro rfl rfl | ((try dsimp only [inR, idx, lowOf]); first | omega | (with_reducible decide) | (simp; omega) | (simp; done) | fail) | fail) ?_; conv => whnf) | fail)
          refine ⟨_, m_join, ((wordsP ps (j1, j2, j3, j4)), spB), [], false, ?_⟩
          conv => whnf
          refine And.intro (vc0 ⟨⟨by dsimp only; omega, by dsimp only; omega⟩, ⟨(by decide : 0 < spB.size), (by decide : spB.size ≤ 100)⟩, hwz⟩ (by (repeat' (first | exact trivial | exact rfl | refine And.intro ?_ ?_ | (refine congrArg vI ?_; first | omega | (dsimp only; omega) | fail) | (refine congrArg some ?_) | omega | exact Nat.le_refl _ | exact congrArg (SV.lst _) (List.take_of_length_le (Nat.le_refl _)).symm)); all_goals ((rw [hwe]; exact rfl))) (by repeat' (first | exact trivial | exact rfl | refine And.intro ?_ ?_ | (refine congrArg vI ?_; first | omega | (dsimp only; omega) | fail) | (refine congrArg some ?_) | omega | exact Nat.le_refl _ | exact congrArg (SV.lst _) (List.take_of_length_le (Nat.le_refl _)).symm)) trivial trivial) ?_
          refine And.intro ⟨(), trivial⟩ (fun (_ : Unit) _ => ?_)
          conv => whnf
          conv => whnf
          repeat' (first | (refine tell (fun hQ => ?_) (fun hQ => ?_) <;> (try dsimp only at hQ) <;> first | (exfalso; omega) | (exact absurd rfl hQ) | (exact absurd hQ hne) | (exact absurd hne hQ) | (exact absurd (by decide) hQ) | (conv => whnf)) | (refine allG rfl ?_; conv => whnf) | (refine And.intro (by first | omega | assumption | kernel_rfl | exact And.intro rfl rfl | ((try dsimp only [inR, idx, lowOf]); first | omega | (with_reducible decide) | (simp; omega) | (simp; done) | fail) | fail) ?_; conv => whnf) | fail)
          refine ⟨_, m_wsF, ((⟨(joinL spB (wordsP ps (j1, j2, j3, j4))).toArray⟩ : ByteArray) ++ nlB), [1005], false, ?_⟩
          conv => whnf
          refine And.intro (vc0 ⟨by rw [hls]; exact hpos, by rw [hls]; omega⟩ (by (repeat' (first | exact trivial | exact rfl | refine And.intro ?_ ?_ | (refine congrArg vI ?_; first | omega | (dsimp only; omega) | fail) | (refine congrArg some ?_) | omega | exact Nat.le_refl _ | exact congrArg (SV.lst _) (List.take_of_length_le (Nat.le_refl _)).symm))) (by repeat' (first | exact trivial | exact rfl | refine And.intro ?_ ?_ | (refine congrArg vI ?_; first | omega | (dsimp only; omega) | fail) | (refine congrArg some ?_) | omega | exact Nat.le_refl _ | exact congrArg (SV.lst _) (List.take_of_length_le (Nat.le_refl _)).symm)) trivial trivial) ?_
          refine And.intro ⟨(0, 0, 0), trivial⟩ ?_
          rintro ⟨(b : Nat), (gb : Nat), (cap : Nat)⟩ _
          have hl0 : ((⟨(joinL spB (wordsP ps (j1, j2, j3, j4))).toArray⟩ : ByteArray) ++ nlB).data.toList = repL ps (js.take (i + 1)) := by rw [hlb, hnl, hle]; rfl
          conv => whnf
          repeat' (first | (refine tell (fun hQ => ?_) (fun hQ => ?_) <;> (try dsimp only at hQ) <;> first | (exfalso; omega) | (exact absurd rfl hQ) | (exact absurd hQ hne) | (exact absurd hne hQ) | (exact absurd (by decide) hQ) | (conv => whnf)) | (refine allG rfl ?_; conv => whnf) | (refine And.intro (by first | omega | assumption | kernel_rfl | exact And.intro rfl rfl | ((try dsimp only [inR, idx, lowOf]); first | omega | (with_reducible decide) | (simp; omega) | (simp; done) | fail) | fail) ?_; conv => whnf) | fail)
          refine ⟨(i + 1, some (b, gb, cap), ((⟨(joinL spB (wordsP ps (j1, j2, j3, j4))).toArray⟩ : ByteArray) ++ nlB).data.toList), [(3000, 1047)], ⟨hlt, hl0, by simp⟩, ?_, rfl, ?_, ?_, rfl⟩
          · dsimp only; first | omega | (simp; done) | (simp; omega)
          all_goals (repeat' (first | exact trivial | exact rfl | refine And.intro ?_ ?_ | (refine congrArg vI ?_; first | omega | (dsimp only; omega) | fail) | (refine congrArg some ?_) | omega | exact Nat.le_refl _ | exact congrArg (SV.lst _) (List.take_of_length_le (Nat.le_refl _)).symm))
    · by_cases hin : 0 ≤ j4 ∧ j4 < (ps.length : Int)
      · have hin1 := hin.1
        have hin2 := hin.2
        have hobt := hinr j4 hin
        obtain ⟨q, hq⟩ := hobt
        conv => whnf
        repeat' (first | (refine tell (fun hQ => ?_) (fun hQ => ?_) <;> (try dsimp only at hQ) <;> first | (exfalso; omega) | (exact absurd rfl hQ) | (exact absurd hQ hne) | (exact absurd hne hQ) | (exact absurd (by decide) hQ) | (conv => whnf)) | (refine allG (x := _) (by first | exact hji | simpa [List.getElem?_append_right, lowOf] using hji | fail) ?_; conv => whnf) | (refine allLst (x := _) (by first | omega | assumption | fail) (by first | exact hji | simpa using hji | fail) ?_; conv => whnf) | (refine allG rfl ?_; conv => whnf) | (refine And.intro (by first | omega | assumption | kernel_rfl | exact And.intro rfl rfl | ((try dsimp only [inR, idx, lowOf]); first | omega | (with_reducible decide) | (simp; omega) | (simp; done) | fail) | fail) ?_; conv => whnf) | fail)
        refine ⟨_, m_itoa, j1, [], false, ?_⟩
        conv => whnf
        refine And.intro (vc0 hj1 (by (repeat' (first | exact trivial | exact rfl | refine And.intro ?_ ?_ | (refine congrArg vI ?_; first | omega | (dsimp only; omega) | fail) | (refine congrArg some ?_) | omega | exact Nat.le_refl _ | exact congrArg (SV.lst _) (List.take_of_length_le (Nat.le_refl _)).symm))) (by repeat' (first | exact trivial | exact rfl | refine And.intro ?_ ?_ | (refine congrArg vI ?_; first | omega | (dsimp only; omega) | fail) | (refine congrArg some ?_) | omega | exact Nat.le_refl _ | exact congrArg (SV.lst _) (List.take_of_length_le (Nat.le_refl _)).symm)) trivial trivial) ?_
        refine And.intro ⟨(), trivial⟩ (fun (_ : Unit) _ => ?_)
        conv => whnf
        conv => whnf
        repeat' (first | (refine tell (fun hQ => ?_) (fun hQ => ?_) <;> (try dsimp only at hQ) <;> first | (exfalso; omega) | (exact absurd rfl hQ) | (exact absurd hQ hne) | (exact absurd hne hQ) | (exact absurd (by decide) hQ) | (conv => whnf)) | (refine allG (x := _) (by first | exact hji | simpa [List.getElem?_append_right, lowOf] using hji | fail) ?_; conv => whnf) | (refine allLst (x := _) (by first | omega | assumption | fail) (by first | exact hji | simpa using hji | fail) ?_; conv => whnf) | (refine allG rfl ?_; conv => whnf) | (refine And.intro (by first | omega | assumption | kernel_rfl | exact And.intro rfl rfl | ((try dsimp only [inR, idx, lowOf]); first | omega | (with_reducible decide) | (simp; omega) | (simp; done) | fail) | fail) ?_; conv => whnf) | fail)
        refine ⟨_, m_itoa, j2, [], false, ?_⟩
        conv => whnf
        refine And.intro (vc0 hj2 (by (repeat' (first | exact trivial | exact rfl | refine And.intro ?_ ?_ | (refine congrArg vI ?_; first | omega | (dsimp only; omega) | fail) | (refine congrArg some ?_) | omega | exact Nat.le_refl _ | exact congrArg (SV.lst _) (List.take_of_length_le (Nat.le_refl _)).symm))) (by repeat' (first | exact trivial | exact rfl | refine And.intro ?_ ?_ | (refine congrArg vI ?_; first | omega | (dsimp only; omega) | fail) | (refine congrArg some ?_) | omega | exact Nat.le_refl _ | exact congrArg (SV.lst _) (List.take_of_length_le (Nat.le_refl _)).symm)) trivial trivial) ?_
        refine And.intro ⟨(), trivial⟩ (fun (_ : Unit) _ => ?_)
        conv => whnf
        conv => whnf
        repeat' (first | (refine tell (fun hQ => ?_) (fun hQ => ?_) <;> (try dsimp only at hQ) <;> first | (exfalso; omega) | (exact absurd rfl hQ) | (exact absurd hQ hne) | (exact absurd hne hQ) | (exact absurd (by decide) hQ) | (conv => whnf)) | (refine allG (x := _) (by first | exact hji | simpa [List.getElem?_append_right, lowOf] using hji | fail) ?_; conv => whnf) | (refine allLst (x := _) (by first | omega | assumption | fail) (by first | exact hji | simpa using hji | fail) ?_; conv => whnf) | (refine allG rfl ?_; conv => whnf) | (refine And.intro (by first | omega | assumption | kernel_rfl | exact And.intro rfl rfl | ((try dsimp only [inR, idx, lowOf]); first | omega | (with_reducible decide) | (simp; omega) | (simp; done) | fail) | fail) ?_; conv => whnf) | fail)
        refine ⟨_, m_word, j3, [], false, ?_⟩
        conv => whnf
        refine And.intro (vc0 trivial (by (repeat' (first | exact trivial | exact rfl | refine And.intro ?_ ?_ | (refine congrArg vI ?_; first | omega | (dsimp only; omega) | fail) | (refine congrArg some ?_) | omega | exact Nat.le_refl _ | exact congrArg (SV.lst _) (List.take_of_length_le (Nat.le_refl _)).symm))) (by repeat' (first | exact trivial | exact rfl | refine And.intro ?_ ?_ | (refine congrArg vI ?_; first | omega | (dsimp only; omega) | fail) | (refine congrArg some ?_) | omega | exact Nat.le_refl _ | exact congrArg (SV.lst _) (List.take_of_length_le (Nat.le_refl _)).symm)) trivial trivial) ?_
        refine And.intro ⟨(), trivial⟩ (fun (_ : Unit) _ => ?_)
        conv => whnf
        have hwe : wordsP ps (j1, j2, j3, j4) = [itoaF j1, itoaF j2, wordF j3, q.1] := by unfold wordsP; rw [nameP_some hin.1 hq]; rfl
        conv => whnf
        repeat' (first | (refine tell (fun hQ => ?_) (fun hQ => ?_) <;> (try dsimp only at hQ) <;> first | (exfalso; omega) | (exact absurd rfl hQ) | (exact absurd hQ hne) | (exact absurd hne hQ) | (exact absurd (by decide) hQ) | (conv => whnf)) | (refine allG (x := q) (by first | exact hq | simpa [List.getElem?_append_right, lowOf] using hq | fail) ?_; conv => whnf) | (refine allLst (x := q) (by first | omega | assumption | fail) (by first | exact hq | simpa using hq | fail) ?_; conv => whnf) | (refine allG (x := _) (by first | exact hji | simpa [List.getElem?_append_right, lowOf] using hji | fail) ?_; conv => whnf) | (refine allLst (x := _) (by first | omega | assumption | fail) (by first | exact hji | simpa using hji | fail) ?_; conv => whnf) | (refine allG rfl ?_; conv => whnf) | (refine And.intro (by first | omega | assumption | kernel_rfl | exact And.intro rfl rfl | ((try dsimp only [inR, idx, lowOf]); first | omega | (with_reducible decide) | (simp; omega) | (simp; done) | fail) | fail) ?_; conv => whnf) | fail)
        refine ⟨_, m_join, ((wordsP ps (j1, j2, j3, j4)), spB), [], false, ?_⟩
        conv => whnf
        refine And.intro (vc0 ⟨⟨by dsimp only; omega, by dsimp only; omega⟩, ⟨(by decide : 0 < spB.size), (by decide : spB.size ≤ 100)⟩, hwz⟩ (by (repeat' (first | exact trivial | exact rfl | refine And.intro ?_ ?_ | (refine congrArg vI ?_; first | omega | (dsimp only; omega) | fail) | (refine congrArg some ?_) | omega | exact Nat.le_refl _ | exact congrArg (SV.lst _) (List.take_of_length_le (Nat.le_refl _)).symm)); all_goals ((rw [hwe]; exact rfl))) (by repeat' (first | exact trivial | exact rfl | refine And.intro ?_ ?_ | (refine congrArg vI ?_; first | omega | (dsimp only; omega) | fail) | (refine congrArg some ?_) | omega | exact Nat.le_refl _ | exact congrArg (SV.lst _) (List.take_of_length_le (Nat.le_refl _)).symm)) trivial trivial) ?_
        refine And.intro ⟨(), trivial⟩ (fun (_ : Unit) _ => ?_)
        conv => whnf
        conv => whnf
        repeat' (first | (refine tell (fun hQ => ?_) (fun hQ => ?_) <;> (try dsimp only at hQ) <;> first | (exfalso; omega) | (exact absurd rfl hQ) | (exact absurd hQ hne) | (exact absurd hne hQ) | (exact absurd (by decide) hQ) | (conv => whnf)) | (refine allG rfl ?_; conv => whnf) | (refine And.intro (by first | omega | assumption | kernel_rfl | exact And.intro rfl rfl | ((try dsimp only [inR, idx, lowOf]); first | omega | (with_reducible decide) | (simp; omega) | (simp; done) | fail) | fail) ?_; conv => whnf) | fail)
        refine ⟨_, m_wsU, ((b, gb, cap), l, ((⟨(joinL spB (wordsP ps (j1, j2, j3, j4))).toArray⟩ : ByteArray) ++ nlB)), [1005, 3000], false, ?_⟩
        conv => whnf
        refine And.intro (vc0 (show l.length + ((⟨(joinL spB (wordsP ps (j1, j2, j3, j4))).toArray⟩ : ByteArray) ++ nlB).size ≤ 140737488355328 by rw [hls]; omega) (by (repeat' (first | exact trivial | exact rfl | refine And.intro ?_ ?_ | (refine congrArg vI ?_; first | omega | (dsimp only; omega) | fail) | (refine congrArg some ?_) | omega | exact Nat.le_refl _ | exact congrArg (SV.lst _) (List.take_of_length_le (Nat.le_refl _)).symm))) (by repeat' (first | exact trivial | exact rfl | refine And.intro ?_ ?_ | (refine congrArg vI ?_; first | omega | (dsimp only; omega) | fail) | (refine congrArg some ?_) | omega | exact Nat.le_refl _ | exact congrArg (SV.lst _) (List.take_of_length_le (Nat.le_refl _)).symm)) trivial trivial) ?_
        refine And.intro ⟨(0, 0, 0), trivial⟩ ?_
        rintro ⟨(b : Nat), (gb : Nat), (cap : Nat)⟩ _
        have hl0 : l ++ ((⟨(joinL spB (wordsP ps (j1, j2, j3, j4))).toArray⟩ : ByteArray) ++ nlB).data.toList = repL ps (js.take (i + 1)) := by rw [hlb, hnl]
        conv => whnf
        repeat' (first | (refine tell (fun hQ => ?_) (fun hQ => ?_) <;> (try dsimp only at hQ) <;> first | (exfalso; omega) | (exact absurd rfl hQ) | (exact absurd hQ hne) | (exact absurd hne hQ) | (exact absurd (by decide) hQ) | (conv => whnf)) | (refine allG rfl ?_; conv => whnf) | (refine And.intro (by first | omega | assumption | kernel_rfl | exact And.intro rfl rfl | ((try dsimp only [inR, idx, lowOf]); first | omega | (with_reducible decide) | (simp; omega) | (simp; done) | fail) | fail) ?_; conv => whnf) | fail)
        refine ⟨(i + 1, some (b, gb, cap), l ++ ((⟨(joinL spB (wordsP ps (j1, j2, j3, j4))).toArray⟩ : ByteArray) ++ nlB).data.toList), [(3000, 1047)], ⟨hlt, hl0, by simp⟩, ?_, rfl, ?_, ?_, rfl⟩
        · dsimp only; first | omega | (simp; done) | (simp; omega)
        all_goals (repeat' (first | exact trivial | exact rfl | refine And.intro ?_ ?_ | (refine congrArg vI ?_; first | omega | (dsimp only; omega) | fail) | (refine congrArg some ?_) | omega | exact Nat.le_refl _ | exact congrArg (SV.lst _) (List.take_of_length_le (Nat.le_refl _)).symm))
      · skip
        by_cases hneg : 0 ≤ j4
        · have hge : ¬ j4 < (ps.length : Int) := fun h => hin ⟨hneg, h⟩
          conv => whnf
          repeat' (first | (refine tell (fun hQ => ?_) (fun hQ => ?_) <;> (try dsimp only at hQ) <;> first | (exfalso; omega) | (exact absurd rfl hQ) | (exact absurd hQ hne) | (exact absurd hne hQ) | (exact absurd (by decide) hQ) | (conv => whnf)) | (refine allG (x := _) (by first | exact hji | simpa [List.getElem?_append_right, lowOf] using hji | fail) ?_; conv => whnf) | (refine allLst (x := _) (by first | omega | assumption | fail) (by first | exact hji | simpa using hji | fail) ?_; conv => whnf) | (refine allG rfl ?_; conv => whnf) | (refine And.intro (by first | omega | assumption | kernel_rfl | exact And.intro rfl rfl | ((try dsimp only [inR, idx, lowOf]); first | omega | (with_reducible decide) | (simp; omega) | (simp; done) | fail) | fail) ?_; conv => whnf) | fail)
          refine ⟨_, m_itoa, j1, [], false, ?_⟩
          conv => whnf
          refine And.intro (vc0 hj1 (by (repeat' (first | exact trivial | exact rfl | refine And.intro ?_ ?_ | (refine congrArg vI ?_; first | omega | (dsimp only; omega) | fail) | (refine congrArg some ?_) | omega | exact Nat.le_refl _ | exact congrArg (SV.lst _) (List.take_of_length_le (Nat.le_refl _)).symm))) (by repeat' (first | exact trivial | exact rfl | refine And.intro ?_ ?_ | (refine congrArg vI ?_; first | omega | (dsimp only; omega) | fail) | (refine congrArg some ?_) | omega | exact Nat.le_refl _ | exact congrArg (SV.lst _) (List.take_of_length_le (Nat.le_refl _)).symm)) trivial trivial) ?_
          refine And.intro ⟨(), trivial⟩ (fun (_ : Unit) _ => ?_)
          conv => whnf
          conv => whnf
          repeat' (first | (refine tell (fun hQ => ?_) (fun hQ => ?_) <;> (try dsimp only at hQ) <;> first | (exfalso; omega) | (exact absurd rfl hQ) | (exact absurd hQ hne) | (exact absurd hne hQ) | (exact absurd (by decide) hQ) | (conv => whnf)) | (refine allG (x := _) (by first | exact hji | simpa [List.getElem?_append_right, lowOf] using hji | fail) ?_; conv => whnf) | (refine allLst (x := _) (by first | omega | assumption | fail) (by first | exact hji | simpa using hji | fail) ?_; conv => whnf) | (refine allG rfl ?_; conv => whnf) | (refine And.intro (by first | omega | assumption | kernel_rfl | exact And.intro rfl rfl | ((try dsimp only [inR, idx, lowOf]); first | omega | (with_reducible decide) | (simp; omega) | (simp; done) | fail) | fail) ?_; conv => whnf) | fail)
          refine ⟨_, m_itoa, j2, [], false, ?_⟩
          conv => whnf
          refine And.intro (vc0 hj2 (by (repeat' (first | exact trivial | exact rfl | refine And.intro ?_ ?_ | (refine congrArg vI ?_; first | omega | (dsimp only; omega) | fail) | (refine congrArg some ?_) | omega | exact Nat.le_refl _ | exact congrArg (SV.lst _) (List.take_of_length_le (Nat.le_refl _)).symm))) (by repeat' (first | exact trivial | exact rfl | refine And.intro ?_ ?_ | (refine congrArg vI ?_; first | omega | (dsimp only; omega) | fail) | (refine congrArg some ?_) | omega | exact Nat.le_refl _ | exact congrArg (SV.lst _) (List.take_of_length_le (Nat.le_refl _)).symm)) trivial trivial) ?_
          refine And.intro ⟨(), trivial⟩ (fun (_ : Unit) _ => ?_)
          conv => whnf
          conv => whnf
          repeat' (first | (refine tell (fun hQ => ?_) (fun hQ => ?_) <;> (try dsimp only at hQ) <;> first | (exfalso; omega) | (exact absurd rfl hQ) | (exact absurd hQ hne) | (exact absurd hne hQ) | (exact absurd (by decide) hQ) | (conv => whnf)) | (refine allG (x := _) (by first | exact hji | simpa [List.getElem?_append_right, lowOf] using hji | fail) ?_; conv => whnf) | (refine allLst (x := _) (by first | omega | assumption | fail) (by first | exact hji | simpa using hji | fail) ?_; conv => whnf) | (refine allG rfl ?_; conv => whnf) | (refine And.intro (by first | omega | assumption | kernel_rfl | exact And.intro rfl rfl | ((try dsimp only [inR, idx, lowOf]); first | omega | (with_reducible decide) | (simp; omega) | (simp; done) | fail) | fail) ?_; conv => whnf) | fail)
          refine ⟨_, m_word, j3, [], false, ?_⟩
          conv => whnf
          refine And.intro (vc0 trivial (by (repeat' (first | exact trivial | exact rfl | refine And.intro ?_ ?_ | (refine congrArg vI ?_; first | omega | (dsimp only; omega) | fail) | (refine congrArg some ?_) | omega | exact Nat.le_refl _ | exact congrArg (SV.lst _) (List.take_of_length_le (Nat.le_refl _)).symm))) (by repeat' (first | exact trivial | exact rfl | refine And.intro ?_ ?_ | (refine congrArg vI ?_; first | omega | (dsimp only; omega) | fail) | (refine congrArg some ?_) | omega | exact Nat.le_refl _ | exact congrArg (SV.lst _) (List.take_of_length_le (Nat.le_refl _)).symm)) trivial trivial) ?_
          refine And.intro ⟨(), trivial⟩ (fun (_ : Unit) _ => ?_)
          conv => whnf
          have hwe : wordsP ps (j1, j2, j3, j4) = [itoaF j1, itoaF j2, wordF j3] := by unfold wordsP; rw [nameP_none hin]; rfl
          conv => whnf
          repeat' (first | (refine tell (fun hQ => ?_) (fun hQ => ?_) <;> (try dsimp only at hQ) <;> first | (exfalso; omega) | (exact absurd rfl hQ) | (exact absurd hQ hne) | (exact absurd hne hQ) | (exact absurd (by decide) hQ) | (conv => whnf)) | (refine allG (x := _) (by first | exact hji | simpa [List.getElem?_append_right, lowOf] using hji | fail) ?_; conv => whnf) | (refine allLst (x := _) (by first | omega | assumption | fail) (by first | exact hji | simpa using hji | fail) ?_; conv => whnf) | (refine allG rfl ?_; conv => whnf) | (refine And.intro (by first | omega | assumption | kernel_rfl | exact And.intro rfl rfl | ((try dsimp only [inR, idx, lowOf]); first | omega | (with_reducible decide) | (simp; omega) | (simp; done) | fail) | fail) ?_; conv => whnf) | fail)
          refine ⟨_, m_join, ((wordsP ps (j1, j2, j3, j4)), spB), [], false, ?_⟩
          conv => whnf
          refine And.intro (vc0 ⟨⟨by dsimp only; omega, by dsimp only; omega⟩, ⟨(by decide : 0 < spB.size), (by decide : spB.size ≤ 100)⟩, hwz⟩ (by (repeat' (first | exact trivial | exact rfl | refine And.intro ?_ ?_ | (refine congrArg vI ?_; first | omega | (dsimp only; omega) | fail) | (refine congrArg some ?_) | omega | exact Nat.le_refl _ | exact congrArg (SV.lst _) (List.take_of_length_le (Nat.le_refl _)).symm)); all_goals ((rw [hwe]; exact rfl))) (by repeat' (first | exact trivial | exact rfl | refine And.intro ?_ ?_ | (refine congrArg vI ?_; first | omega | (dsimp only; omega) | fail) | (refine congrArg some ?_) | omega | exact Nat.le_refl _ | exact congrArg (SV.lst _) (List.take_of_length_le (Nat.le_refl _)).symm)) trivial trivial) ?_
          refine And.intro ⟨(), trivial⟩ (fun (_ : Unit) _ => ?_)
          conv => whnf
          conv => whnf
          repeat' (first | (refine tell (fun hQ => ?_) (fun hQ => ?_) <;> (try dsimp only at hQ) <;> first | (exfalso; omega) | (exact absurd rfl hQ) | (exact absurd hQ hne) | (exact absurd hne hQ) | (exact absurd (by decide) hQ) | (conv => whnf)) | (refine allG rfl ?_; conv => whnf) | (refine And.intro (by first | omega | assumption | kernel_rfl | exact And.intro rfl rfl | ((try dsimp only [inR, idx, lowOf]); first | omega | (with_reducible decide) | (simp; omega) | (simp; done) | fail) | fail) ?_; conv => whnf) | fail)
          refine ⟨_, m_wsU, ((b, gb, cap), l, ((⟨(joinL spB (wordsP ps (j1, j2, j3, j4))).toArray⟩ : ByteArray) ++ nlB)), [1005, 3000], false, ?_⟩
          conv => whnf
          refine And.intro (vc0 (show l.length + ((⟨(joinL spB (wordsP ps (j1, j2, j3, j4))).toArray⟩ : ByteArray) ++ nlB).size ≤ 140737488355328 by rw [hls]; omega) (by (repeat' (first | exact trivial | exact rfl | refine And.intro ?_ ?_ | (refine congrArg vI ?_; first | omega | (dsimp only; omega) | fail) | (refine congrArg some ?_) | omega | exact Nat.le_refl _ | exact congrArg (SV.lst _) (List.take_of_length_le (Nat.le_refl _)).symm))) (by repeat' (first | exact trivial | exact rfl | refine And.intro ?_ ?_ | (refine congrArg vI ?_; first | omega | (dsimp only; omega) | fail) | (refine congrArg some ?_) | omega | exact Nat.le_refl _ | exact congrArg (SV.lst _) (List.take_of_length_le (Nat.le_refl _)).symm)) trivial trivial) ?_
          refine And.intro ⟨(0, 0, 0), trivial⟩ ?_
          rintro ⟨(b : Nat), (gb : Nat), (cap : Nat)⟩ _
          have hl0 : l ++ ((⟨(joinL spB (wordsP ps (j1, j2, j3, j4))).toArray⟩ : ByteArray) ++ nlB).data.toList = repL ps (js.take (i + 1)) := by rw [hlb, hnl]
          conv => whnf
          repeat' (first | (refine tell (fun hQ => ?_) (fun hQ => ?_) <;> (try dsimp only at hQ) <;> first | (exfalso; omega) | (exact absurd rfl hQ) | (exact absurd hQ hne) | (exact absurd hne hQ) | (exact absurd (by decide) hQ) | (conv => whnf)) | (refine allG rfl ?_; conv => whnf) | (refine And.intro (by first | omega | assumption | kernel_rfl | exact And.intro rfl rfl | ((try dsimp only [inR, idx, lowOf]); first | omega | (with_reducible decide) | (simp; omega) | (simp; done) | fail) | fail) ?_; conv => whnf) | fail)
          refine ⟨(i + 1, some (b, gb, cap), l ++ ((⟨(joinL spB (wordsP ps (j1, j2, j3, j4))).toArray⟩ : ByteArray) ++ nlB).data.toList), [(3000, 1047)], ⟨hlt, hl0, by simp⟩, ?_, rfl, ?_, ?_, rfl⟩
          · dsimp only; first | omega | (simp; done) | (simp; omega)
          all_goals (repeat' (first | exact trivial | exact rfl | refine And.intro ?_ ?_ | (refine congrArg vI ?_; first | omega | (dsimp only; omega) | fail) | (refine congrArg some ?_) | omega | exact Nat.le_refl _ | exact congrArg (SV.lst _) (List.take_of_length_le (Nat.le_refl _)).symm))
        · skip
          conv => whnf
          repeat' (first | (refine tell (fun hQ => ?_) (fun hQ => ?_) <;> (try dsimp only at hQ) <;> first | (exfalso; omega) | (exact absurd rfl hQ) | (exact absurd hQ hne) | (exact absurd hne hQ) | (exact absurd (by decide) hQ) | (conv => whnf)) | (refine allG (x := _) (by first | exact hji | simpa [List.getElem?_append_right, lowOf] using hji | fail) ?_; conv => whnf) | (refine allLst (x := _) (by first | omega | assumption | fail) (by first | exact hji | simpa using hji | fail) ?_; conv => whnf) | (refine allG rfl ?_; conv => whnf) | (refine And.intro (by first | omega | assumption | kernel_rfl | exact And.intro rfl rfl | ((try dsimp only [inR, idx, lowOf]); first | omega | (with_reducible decide) | (simp; omega) | (simp; done) | fail) | fail) ?_; conv => whnf) | fail)
          refine ⟨_, m_itoa, j1, [], false, ?_⟩
          conv => whnf
          refine And.intro (vc0 hj1 (by (repeat' (first | exact trivial | exact rfl | refine And.intro ?_ ?_ | (refine congrArg vI ?_; first | omega | (dsimp only; omega) | fail) | (refine congrArg some ?_) | omega | exact Nat.le_refl _ | exact congrArg (SV.lst _) (List.take_of_length_le (Nat.le_refl _)).symm))) (by repeat' (first | exact trivial | exact rfl | refine And.intro ?_ ?_ | (refine congrArg vI ?_; first | omega | (dsimp only; omega) | fail) | (refine congrArg some ?_) | omega | exact Nat.le_refl _ | exact congrArg (SV.lst _) (List.take_of_length_le (Nat.le_refl _)).symm)) trivial trivial) ?_
          refine And.intro ⟨(), trivial⟩ (fun (_ : Unit) _ => ?_)
          conv => whnf
          conv => whnf
          repeat' (first | (refine tell (fun hQ => ?_) (fun hQ => ?_) <;> (try dsimp only at hQ) <;> first | (exfalso; omega) | (exact absurd rfl hQ) | (exact absurd hQ hne) | (exact absurd hne hQ) | (exact absurd (by decide) hQ) | (conv => whnf)) | (refine allG (x := _) (by first | exact hji | simpa [List.getElem?_append_right, lowOf] using hji | fail) ?_; conv => whnf) | (refine allLst (x := _) (by first | omega | assumption | fail) (by first | exact hji | simpa using hji | fail) ?_; conv => whnf) | (refine allG rfl ?_; conv => whnf) | (refine And.intro (by first | omega | assumption | kernel_rfl | exact And.intro rfl rfl | ((try dsimp only [inR, idx, lowOf]); first | omega | (with_reducible decide) | (simp; omega) | (simp; done) | fail) | fail) ?_; conv => whnf) | fail)
          refine ⟨_, m_itoa, j2, [], false, ?_⟩
          conv => whnf
          refine And.intro (vc0 hj2 (by (repeat' (first | exact trivial | exact rfl | refine And.intro ?_ ?_ | (refine congrArg vI ?_; first | omega | (dsimp only; omega) | fail) | (refine congrArg some ?_) | omega | exact Nat.le_refl _ | exact congrArg (SV.lst _) (List.take_of_length_le (Nat.le_refl _)).symm))) (by repeat' (first | exact trivial | exact rfl | refine And.intro ?_ ?_ | (refine congrArg vI ?_; first | omega | (dsimp only; omega) | fail) | (refine congrArg some ?_) | omega | exact Nat.le_refl _ | exact congrArg (SV.lst _) (List.take_of_length_le (Nat.le_refl _)).symm)) trivial trivial) ?_
          refine And.intro ⟨(), trivial⟩ (fun (_ : Unit) _ => ?_)
          conv => whnf
          conv => whnf
          repeat' (first | (refine tell (fun hQ => ?_) (fun hQ => ?_) <;> (try dsimp only at hQ) <;> first | (exfalso; omega) | (exact absurd rfl hQ) | (exact absurd hQ hne) | (exact absurd hne hQ) | (exact absurd (by decide) hQ) | (conv => whnf)) | (refine allG (x := _) (by first | exact hji | simpa [List.getElem?_append_right, lowOf] using hji | fail) ?_; conv => whnf) | (refine allLst (x := _) (by first | omega | assumption | fail) (by first | exact hji | simpa using hji | fail) ?_; conv => whnf) | (refine allG rfl ?_; conv => whnf) | (refine And.intro (by first | omega | assumption | kernel_rfl | exact And.intro rfl rfl | ((try dsimp only [inR, idx, lowOf]); first | omega | (with_reducible decide) | (simp; omega) | (simp; done) | fail) | fail) ?_; conv => whnf) | fail)
          refine ⟨_, m_word, j3, [], false, ?_⟩
          conv => whnf
          refine And.intro (vc0 trivial (by (repeat' (first | exact trivial | exact rfl | refine And.intro ?_ ?_ | (refine congrArg vI ?_; first | omega | (dsimp only; omega) | fail) | (refine congrArg some ?_) | omega | exact Nat.le_refl _ | exact congrArg (SV.lst _) (List.take_of_length_le (Nat.le_refl _)).symm))) (by repeat' (first | exact trivial | exact rfl | refine And.intro ?_ ?_ | (refine congrArg vI ?_; first | omega | (dsimp only; omega) | fail) | (refine congrArg some ?_) | omega | exact Nat.le_refl _ | exact congrArg (SV.lst _) (List.take_of_length_le (Nat.le_refl _)).symm)) trivial trivial) ?_
          refine And.intro ⟨(), trivial⟩ (fun (_ : Unit) _ => ?_)
          conv => whnf
          have hwe : wordsP ps (j1, j2, j3, j4) = [itoaF j1, itoaF j2, wordF j3] := by unfold wordsP; rw [nameP_none hin]; rfl
          conv => whnf
          repeat' (first | (refine tell (fun hQ => ?_) (fun hQ => ?_) <;> (try dsimp only at hQ) <;> first | (exfalso; omega) | (exact absurd rfl hQ) | (exact absurd hQ hne) | (exact absurd hne hQ) | (exact absurd (by decide) hQ) | (conv => whnf)) | (refine allG (x := _) (by first | exact hji | simpa [List.getElem?_append_right, lowOf] using hji | fail) ?_; conv => whnf) | (refine allLst (x := _) (by first | omega | assumption | fail) (by first | exact hji | simpa using hji | fail) ?_; conv => whnf) | (refine allG rfl ?_; conv => whnf) | (refine And.intro (by first | omega | assumption | kernel_rfl | exact And.intro rfl rfl | ((try dsimp only [inR, idx, lowOf]); first | omega | (with_reducible decide) | (simp; omega) | (simp; done) | fail) | fail) ?_; conv => whnf) | fail)
          refine ⟨_, m_join, ((wordsP ps (j1, j2, j3, j4)), spB), [], false, ?_⟩
          conv => whnf
          refine And.intro (vc0 ⟨⟨by dsimp only; omega, by dsimp only; omega⟩, ⟨(by decide : 0 < spB.size), (by decide : spB.size ≤ 100)⟩, hwz⟩ (by (repeat' (first | exact trivial | exact rfl | refine And.intro ?_ ?_ | (refine congrArg vI ?_; first | omega | (dsimp only; omega) | fail) | (refine congrArg some ?_) | omega | exact Nat.le_refl _ | exact congrArg (SV.lst _) (List.take_of_length_le (Nat.le_refl _)).symm)); all_goals ((rw [hwe]; exact rfl))) (by repeat' (first | exact trivial | exact rfl | refine And.intro ?_ ?_ | (refine congrArg vI ?_; first | omega | (dsimp only; omega) | fail) | (refine congrArg some ?_) | omega | exact Nat.le_refl _ | exact congrArg (SV.lst _) (List.take_of_length_le (Nat.le_refl _)).symm)) trivial trivial) ?_
          refine And.intro ⟨(), trivial⟩ (fun (_ : Unit) _ => ?_)
          conv => whnf
          conv => whnf
          repeat' (first | (refine tell (fun hQ => ?_) (fun hQ => ?_) <;> (try dsimp only at hQ) <;> first | (exfalso; omega) | (exact absurd rfl hQ) | (exact absurd hQ hne) | (exact absurd hne hQ) | (exact absurd (by decide) hQ) | (conv => whnf)) | (refine allG rfl ?_; conv => whnf) | (refine And.intro (by first | omega | assumption | kernel_rfl | exact And.intro rfl rfl | ((try dsimp only [inR, idx, lowOf]); first | omega | (with_reducible decide) | (simp; omega) | (simp; done) | fail) | fail) ?_; conv => whnf) | fail)
          refine ⟨_, m_wsU, ((b, gb, cap), l, ((⟨(joinL spB (wordsP ps (j1, j2, j3, j4))).toArray⟩ : ByteArray) ++ nlB)), [1005, 3000], false, ?_⟩
          conv => whnf
          refine And.intro (vc0 (show l.length + ((⟨(joinL spB (wordsP ps (j1, j2, j3, j4))).toArray⟩ : ByteArray) ++ nlB).size ≤ 140737488355328 by rw [hls]; omega) (by (repeat' (first | exact trivial | exact rfl | refine And.intro ?_ ?_ | (refine congrArg vI ?_; first | omega | (dsimp only; omega) | fail) | (refine congrArg some ?_) | omega | exact Nat.le_refl _ | exact congrArg (SV.lst _) (List.take_of_length_le (Nat.le_refl _)).symm))) (by repeat' (first | exact trivial | exact rfl | refine And.intro ?_ ?_ | (refine congrArg vI ?_; first | omega | (dsimp only; omega) | fail) | (refine congrArg some ?_) | omega | exact Nat.le_refl _ | exact congrArg (SV.lst _) (List.take_of_length_le (Nat.le_refl _)).symm)) trivial trivial) ?_
          refine And.intro ⟨(0, 0, 0), trivial⟩ ?_
          rintro ⟨(b : Nat), (gb : Nat), (cap : Nat)⟩ _
          have hl0 : l ++ ((⟨(joinL spB (wordsP ps (j1, j2, j3, j4))).toArray⟩ : ByteArray) ++ nlB).data.toList = repL ps (js.take (i + 1)) := by rw [hlb, hnl]
          conv => whnf
          repeat' (first | (refine tell (fun hQ => ?_) (fun hQ => ?_) <;> (try dsimp only at hQ) <;> first | (exfalso; omega) | (exact absurd rfl hQ) | (exact absurd hQ hne) | (exact absurd hne hQ) | (exact absurd (by decide) hQ) | (conv => whnf)) | (refine allG rfl ?_; conv => whnf) | (refine And.intro (by first | omega | assumption | kernel_rfl | exact And.intro rfl rfl | ((try dsimp only [inR, idx, lowOf]); first | omega | (with_reducible decide) | (simp; omega) | (simp; done) | fail) | fail) ?_; conv => whnf) | fail)
          refine ⟨(i + 1, some (b, gb, cap), l ++ ((⟨(joinL spB (wordsP ps (j1, j2, j3, j4))).toArray⟩ : ByteArray) ++ nlB).data.toList), [(3000, 1047)], ⟨hlt, hl0, by simp⟩, ?_, rfl, ?_, ?_, rfl⟩
          · dsimp only; first | omega | (simp; done) | (simp; omega)
          all_goals (repeat' (first | exact trivial | exact rfl | refine And.intro ?_ ?_ | (refine congrArg vI ?_; first | omega | (dsimp only; omega) | fail) | (refine congrArg some ?_) | omega | exact Nat.le_refl _ | exact congrArg (SV.lst _) (List.take_of_length_le (Nat.le_refl _)).symm))
  · rcases o with _ | ⟨b, gb, cap⟩
    · have hle : l = [] := by rw [hl, ho.1 rfl]; rfl
      have he : repL ps js = [] := by
        have : js = [] := by
          cases js with
          | nil => rfl
          | cons y ys => have := ho.1 rfl; simp at hlt; omega
        rw [this]; rfl
      conv => whnf
      repeat' (first | (refine tell (fun hQ => ?_) (fun hQ => ?_) <;> (try dsimp only at hQ) <;> first | (exfalso; omega) | (exact absurd rfl hQ) | (exact absurd hQ hne) | (exact absurd hne hQ) | (exact absurd (by decide) hQ) | (conv => whnf)) | (refine allG rfl ?_; conv => whnf) | (refine And.intro (by first | omega | assumption | kernel_rfl | exact And.intro rfl rfl | ((try dsimp only [inR, idx, lowOf]); first | omega | (with_reducible decide) | (simp; omega) | (simp; done) | fail) | fail) ?_; conv => whnf) | fail)
      refine ⟨_, m_str0, (), [1005], false, ?_⟩
      conv => whnf
      refine And.intro (vc0 trivial (by (repeat' (first | exact trivial | exact rfl | refine And.intro ?_ ?_ | (refine congrArg vI ?_; first | omega | (dsimp only; omega) | fail) | (refine congrArg some ?_) | omega | exact Nat.le_refl _ | exact congrArg (SV.lst _) (List.take_of_length_le (Nat.le_refl _)).symm))) (by repeat' (first | exact trivial | exact rfl | refine And.intro ?_ ?_ | (refine congrArg vI ?_; first | omega | (dsimp only; omega) | fail) | (refine congrArg some ?_) | omega | exact Nat.le_refl _ | exact congrArg (SV.lst _) (List.take_of_length_le (Nat.le_refl _)).symm)) trivial trivial) ?_
      refine And.intro ⟨(), trivial⟩ (fun (_ : Unit) _ => ?_)
      conv => whnf
      conv => whnf
      repeat' (first | (refine tell (fun hQ => ?_) (fun hQ => ?_) <;> (try dsimp only at hQ) <;> first | (exfalso; omega) | (exact absurd rfl hQ) | (exact absurd hQ hne) | (exact absurd hne hQ) | (exact absurd (by decide) hQ) | (conv => whnf)) | (refine allG rfl ?_; conv => whnf) | (refine And.intro (by first | omega | assumption | kernel_rfl | exact And.intro rfl rfl | ((try dsimp only [inR, idx, lowOf]); first | omega | (with_reducible decide) | (simp; omega) | (simp; done) | fail) | fail) ?_; conv => whnf) | fail)
      exact ⟨(), [], trivial, eS (by rw [he]), trivial, trivial⟩
    · rw [List.take_of_length_le (by omega)] at hl
      have hne : l ≠ [] := by
        intro e
        rw [e] at hl
        have hi0 : i ≠ 0 := fun h => by have := ho.2 h; cases this
        cases js with
        | nil => exact absurd (Nat.le_zero.1 hi) hi0
        | cons y ys => 
          have := congrArg List.length hl
          unfold repL lineL at this
          rw [List.flatMap_cons, List.length_append, List.length_append, List.length_nil, List.length_cons] at this
          omega
      conv => whnf
      repeat' (first | (refine tell (fun hQ => ?_) (fun hQ => ?_) <;> (try dsimp only at hQ) <;> first | (exfalso; omega) | (exact absurd rfl hQ) | (exact absurd hQ hne) | (exact absurd hne hQ) | (exact absurd (by decide) hQ) | (conv => whnf)) | (refine allG rfl ?_; conv => whnf) | (refine And.intro (by first | omega | assumption | kernel_rfl | exact And.intro rfl rfl | ((try dsimp only [inR, idx, lowOf]); first | omega | (with_reducible decide) | (simp; omega) | (simp; done) | fail) | fail) ?_; conv => whnf) | fail)
      refine ⟨_, m_str, ((b, gb, cap), l), [1005, 3000], false, ?_⟩
      conv => whnf
      refine And.intro (vc0 hne (by (repeat' (first | exact trivial | exact rfl | refine And.intro ?_ ?_ | (refine congrArg vI ?_; first | omega | (dsimp only; omega) | fail) | (refine congrArg some ?_) | omega | exact Nat.le_refl _ | exact congrArg (SV.lst _) (List.take_of_length_le (Nat.le_refl _)).symm))) (by repeat' (first | exact trivial | exact rfl | refine And.intro ?_ ?_ | (refine congrArg vI ?_; first | omega | (dsimp only; omega) | fail) | (refine congrArg some ?_) | omega | exact Nat.le_refl _ | exact congrArg (SV.lst _) (List.take_of_length_le (Nat.le_refl _)).symm)) trivial trivial) ?_
      refine And.intro ⟨(), trivial⟩ (fun (_ : Unit) _ => ?_)
      conv => whnf
      conv => whnf
      repeat' (first | (refine tell (fun hQ => ?_) (fun hQ => ?_) <;> (try dsimp only at hQ) <;> first | (exfalso; omega) | (exact absurd rfl hQ) | (exact absurd hQ hne) | (exact absurd hne hQ) | (exact absurd (by decide) hQ) | (conv => whnf)) | (refine allG rfl ?_; conv => whnf) | (refine And.intro (by first | omega | assumption | kernel_rfl | exact And.intro rfl rfl | ((try dsimp only [inR, idx, lowOf]); first | omega | (with_reducible decide) | (simp; omega) | (simp; done) | fail) | fail) ?_; conv => whnf) | fail)
      exact ⟨(), [], trivial, eS (by rw [hl]), trivial, trivial⟩
end Go.Sx


/-
  Layer 21, part J: awake.
-/
namespace Go.Sx
open Go Go.Proofs Go.Proofs.YtmogappoadglgaaDoor
/-- A slice of one's own, told as a list: where its block is nobody's any more. -/
theorem den_lend {R : Reg AF} {ρ : Rho} {O O' : Nat → Prop} {w : World} {h sz off len T : Nat} {ys : List (AF T)} {v : Value} (hv : Den R ρ O w (.sl h sz off len) v) (hc : DenCt R ρ O w (.arr T ys) (ρ h)) (hsz : sz = R.sz T) (hl : off + len ≤ ys.length)
    (hno : ∀ b base, ρ h = some (b, base) → ¬ O' b) (g : Goes O O' w w) : Den R ρ O' w (.lst T ((ys.drop off).take len)) v := by
  subst hsz
  have hlen : ((ys.drop off).take len).length = len := by simp; omega
  cases hv with
  | slnil _ _ hr => simp only [List.take_zero]; exact .lnil _ _ rfl
  | sl _ _ _ _ cap b base o c F fz hr hb' hcap ho hs =>
    rw [hr] at hc
    rcases hc with (⟨_, _, _, e, _⟩ | ⟨_, _, e, _⟩) | ⟨_, c0, F0, fz0, k1, k2, k3, k4⟩
    · cases e
    · cases e
    rw [hb'] at k1; cases k1
    have hno := hno b base hr
    by_cases h0 : len = 0
    · subst h0
      simp only [List.take_zero]
      exact .lempty _ _ _ (by simp)
    · have ho : o = base + off * R.sz T := by omega
      subst ho
      have hfl : (Ct.flat R (.arr T ys)).length = ys.length * R.sz T := flat_len (R.len T) ys
      have hget : ∀ (i : Nat) x, ((ys.drop off).take len)[i]? = some x → ys[off + i]? = some x ∧ i < len := fun i x hx => by
        rw [List.getElem?_take] at hx
        split at hx
        · rename_i hi; rw [List.getElem?_drop] at hx; exact ⟨hx, hi⟩
        · cases hx
      have hin : ∀ i, i < len → ∀ j, j < R.sz T → base + ((off + i) * R.sz T + j) < c.size := fun i hi j hj => by
        have : (off + i + 1) * R.sz T ≤ ys.length * R.sz T := Nat.mul_le_mul_right _ (by omega)
        rw [Nat.add_mul, Nat.one_mul] at this
        omega
      have key := Den.lst (R := R) (ρ := ρ) (O := O') (w := w) T ((ys.drop off).take len) b (base + off * R.sz T) cap c F fz (fun i j => c.getD (base + ((off + i) * R.sz T + j)) undef) hno hb' (by omega)
        (fun i x hx j hj => by
          have hobt := hget i x hx
          obtain ⟨_, hi⟩ := hobt
          have := hin i hi j hj
          have e : base + off * R.sz T + i * R.sz T + j = base + ((off + i) * R.sz T + j) := by rw [Nat.add_mul]; omega
          rw [e]
          simp [this])
        (fun i x hx j s hs => by
          have hobt := hget i x hx
          obtain ⟨hx, hi⟩ := hobt
          have hj : j < R.sz T := by have := (List.getElem?_eq_some_iff.1 hs).1; rwa [R.len] at this
          have hlt := hin i hi j hj
          have := k4 _ s (c.getD (base + ((off + i) * R.sz T + j)) undef) ((flat_get (R.len T) ys (off + i) j x hx hj).trans hs) (by simp [hlt])
          exact (this.mono g).closed (R.closed T x j s hs))
      rw [hlen] at key
      exact key
/-- .. whose elements are slices. -/
theorem den_lendC {R : Reg AF} {ρ : Rho} {O O' : Nat → Prop} {w : World} {h len T : Nat} {xs : List (AF T)} {ss : List (SV AF)} {v : Value} (hv : Den R ρ O w (.sl h 1 0 len) v) (hc : DenCt R ρ O w (.cells ss) (ρ h)) (hsz : R.sz T = 1) (hx : xs.length = len) (hl : len ≤ ss.length)
    (hno : ∀ b base, ρ h = some (b, base) → ¬ O' b) (hel : ∀ (i : Nat) x s u, xs[i]? = some x → ss[i]? = some s → Den R ρ O w s u → ∀ (j : Nat) t, (R.enc T x)[j]? = some t → Den R ρ O' w t u) : Den R ρ O' w (.lst T xs) v := by
  cases hv with
  | slnil _ _ hr =>
    have hobt := List.eq_nil_of_length_eq_zero hx
    obtain rfl := hobt
    exact .lnil _ _ rfl
  | sl _ _ _ _ cap b base o c F fz hr hb' hcap ho hs =>
    rw [hr] at hc
    rcases hc with (⟨_, _, _, e, _⟩ | ⟨_, _, e, _⟩) | ⟨_, c0, F0, fz0, k1, k2, k3, k4⟩
    · cases e
    · cases e
    rw [hb'] at k1; cases k1
    by_cases h0 : len = 0
    · subst h0
      have hobt := List.eq_nil_of_length_eq_zero hx
      obtain rfl := hobt
      exact .lempty _ _ _ (by simp)
    · have ho : o = base := by omega
      subst ho
      have hfl : ss.length ≤ c.size - o := by have : (Ct.flat R (.cells ss)).length = ss.length := rfl; omega
      have hlt : ∀ (i : Nat) x, xs[i]? = some x → i < ss.length ∧ o + i < c.size := fun i x hi => by
        have := (List.getElem?_eq_some_iff.1 hi).1
        omega
      subst hx
      refine Den.lst T xs b o cap c F fz (fun i _ => c.getD (o + i) undef) (hno _ _ hr) hb' (by omega) (fun i x hi j hj => ?_) (fun i x hi j t ht => ?_)
      · have h1 := hlt i x hi
        have h2 : j = 0 := by omega
        subst h2
        rw [hsz, Nat.mul_one, Nat.add_zero]
        simp [h1.2]
      · have h1 := hlt i x hi
        have hs : ss[i]? = some ss[i] := List.getElem?_eq_getElem h1.1
        exact hel i x _ _ hi hs (k4 i ss[i] (c.getD (o + i) undef) hs (by simp [h1.2])) j t ht
abbrev llA : List (List Int) := [[0, 1], [2], [1, 2]]
/-- Shared of three lists that the caller has made. -/
def spSharedA : Spec AF where
  γ := Unit
  δ := Unit
  args := fun _ => [.sl 0 1 0 3]
  own := fun _ => [.cells [.sl 1 1 0 2, .sl 2 1 0 1, .sl 3 1 0 2], .arr 3 ([0, 1] : List Int), .arr 3 ([2] : List Int), .arr 3 ([1, 2] : List Int)]
  pre := fun _ => True
  nnew := 0
  res := fun _ _ => .tup [vI 0, vI 2, vI 1, vB true]
  own' := fun _ _ => [none, none, none, none]
  post := fun _ _ => True
theorem sharedA {p : Int × Int × Int × Bool} (h : SharedR llA p) : p = (0, 2, 1, true) := by
  rcases h with ⟨_, h⟩ | ⟨a, b, x, xs, ys, rfl, hab, ha, hb, hx, hmin, hno⟩
  · have := h 0 2 [0, 1] [1, 2] (by decide) rfl rfl
    exact absurd this (by decide)
  · have hb3 : b < 3 := (List.getElem?_eq_some_iff.1 hb).1
    have key : a = 0 ∧ b = 2 := by
      have h1 : a < 3 := by omega
      have hc : (a = 0 ∧ b = 1) ∨ (a = 0 ∧ b = 2) ∨ (a = 1 ∧ b = 2) := by omega
      rcases hc with ⟨rfl, rfl⟩ | h | ⟨rfl, rfl⟩
      · cases ha; cases hb
        have hx : x ∈ ([] : List Int) := hx
        cases hx
      · exact h
      · have := hno 0 2 [0, 1] [1, 2] (by decide) (.inl (by decide)) rfl rfl
        exact absurd this (by decide)
    obtain ⟨rfl, rfl⟩ := key
    cases ha; cases hb
    have hx1 : x = 1 := by
      have : x ∈ ([1] : List Int) := hx
      simpa using this
    subst hx1
    rfl
theorem den_vals {R : Reg AF} {ρ ρ' : Rho} {O O' : Nat → Prop} {w : World} {us : List Value} {v : Value} (h : Den R ρ O w (.tup (us.map .val)) v) : Den R ρ' O' w (.tup (us.map .val)) v := by
  cases h with
  | tup _ vs hl hd =>
    refine .tup _ vs hl fun j s u hs hu => ?_
    have := hd j s u hs hu
    rw [List.getElem?_map] at hs
    cases hj : us[j]? with
    | none => rw [hj] at hs; cases hs
    | some y => rw [hj] at hs; cases hs; cases this; exact .val _
theorem m_sharedA : Meets Tryd.prog regF 33 spSharedA := by
  refine ⟨m_shared.1, ?_⟩
  intro _ _ X ρ w vs hX1 hX2 hargs hown
  have hobt := args1 hargs
  obtain ⟨u, rfl, hu⟩ := hobt
  have blk : ∀ {h : Nat} {ct : Ct AF} {b base : Nat}, ((spSharedA.own ()).map some)[h]? = some (some ct) → ρ h = some (b, base) → ¬ (X b ∨ Blk (((spShared.own llA)).map some) ρ b) := fun {h ct b base} h1 h2 hx => by
    rcases hx with hx | ⟨n, ct', k, hn, _⟩
    · exact hX2 b hx ⟨h, ct, base, h1, h2⟩
    · simp [spShared] at hn
  have g : Goes (fun b => X b ∨ Blk ((spSharedA.own ()).map some) ρ b) (fun b => X b ∨ Blk ((spShared.own llA).map some) ρ b) w w := by
    refine ⟨fun b _ _ _ hn hb => ⟨fun h => hn ?_, hb⟩, fun _ c _ fz h => ⟨c, fz, h, rfl⟩, fun _ _ h => h⟩
    rcases h with h | ⟨n, ct', k, hn, _⟩
    · exact .inl h
    · simp [spShared] at hn
  have c1 := hown.den 1 _ rfl
  have c2 := hown.den 2 _ rfl
  have c3 := hown.den 3 _ rfl
  have hel : ∀ (i : Nat) (x : List Int) s u, llA[i]? = some x → ([.sl 1 1 0 2, .sl 2 1 0 1, .sl 3 1 0 2] : List (SV AF))[i]? = some s → Den regF ρ (fun b => X b ∨ Blk ((spSharedA.own ()).map some) ρ b) w s u →
      ∀ (j : Nat) t, (regF.enc 23 x)[j]? = some t → Den regF ρ (fun b => X b ∨ Blk ((spShared.own llA).map some) ρ b) w t u := fun i x s u hx hs hd j t ht => by
    match i, hx, hs with
    | 0, hx, hs =>
      cases hx; cases hs
      match j, ht with
      | 0, ht => cases ht; exact den_lend hd c1 rfl (by decide) (fun b base hr => blk (h := 1) rfl hr) g
    | 1, hx, hs =>
      cases hx; cases hs
      match j, ht with
      | 0, ht => cases ht; exact den_lend hd c2 rfl (by decide) (fun b base hr => blk (h := 2) rfl hr) g
    | 2, hx, hs =>
      cases hx; cases hs
      match j, ht with
      | 0, ht => cases ht; exact den_lend hd c3 rfl (by decide) (fun b base hr => blk (h := 3) rfl hr) g
  have hlst : Den regF ρ (fun b => X b ∨ Blk ((spShared.own llA).map some) ρ b) w (.lst 23 llA) u :=
    den_lendC (T := 23) (xs := llA) hu (hown.den 0 _ rfl) rfl rfl (by decide) (fun b base hr => blk (h := 0) rfl hr) hel
  refine (m_shared.2 llA ⟨by decide, fun xs h => by simp at h; rcases h with rfl | rfl | rfl <;> decide⟩ X ρ w #[u] hX1 (fun b hx h => by obtain ⟨n, ct', k, hn, _⟩ := h; simp [spShared] at hn) ⟨rfl, fun j s v hs hv => by
    match j, hs, hv with
    | 0, hs, hv => cases hs; cases hv; exact hlst⟩ ⟨fun n ct h => by simp [spShared] at h, fun n _ _ _ _ _ _ h => by simp [spShared] at h⟩).mono ?_
  rintro e w' ⟨d, ρ', v, hpost, rfl, hρ, hres, _, _, _, _, _, hrel⟩
  have hobt := sharedA hpost
  obtain rfl := hobt
  refine ⟨(), ρ, v, trivial, rfl, fun _ _ => rfl, ?_, ⟨fun h ct hct => ?_, fun h h' ct ct' k base base' hct hct' e e' => ?_⟩, fun k hk => ?_, rfl, rfl, fun h ct hct => ?_, ?_⟩
  · exact den_vals (us := [.int .i64 0, .int .i64 2, .int .i64 1, .bool true]) hres
  · match h, hct with
    | 0, hct | 1, hct | 2, hct | 3, hct => cases hct
  · match h, hct with
    | 0, hct | 1, hct | 2, hct | 3, hct => cases hct
  · obtain ⟨h, ct, base, hct, hr⟩ := hk
    match h, hct with
    | 0, hct | 1, hct | 2, hct | 3, hct => cases hct
  · match h, hct with
    | 0, hct | 1, hct | 2, hct | 3, hct => cases hct
  · refine ⟨hrel.os, hrel.tape, hrel.output, hrel.size, fun k hk hn => hrel.block k hk ?_, hrel.shape⟩
    rintro ⟨n, ct', k, hn, _⟩
    simp [spShared] at hn
theorem kindA : kindF [0, 1000, 1] [1000, 1] = 2 := by
  unfold kindF
  rw [if_neg (by decide), if_pos ⟨by decide, rfl⟩]
theorem reportA : (⟨(repL [((⟨#[120]⟩ : ByteArray), (0 : Int))] [((1, 2, 2, 0) : Job)]).toArray⟩ : ByteArray) = ⟨#[49, 32, 50, 32, 103, 111, 101, 115, 32, 120, 10]⟩ := by decide +kernel
set_option maxRecDepth 100000 in
theorem m_awakeT : Meets Tryd.prog regF 32 spAwake := by
  refine meets Tryd.func32 53 noWr rfl (by kernel_rfl) (by kernel_rfl) ?_
  intro _ _
  conv => whnf
  repeat' (first | (refine tell (fun hQ => ?_) (fun hQ => ?_) <;> (try dsimp only at hQ) <;> first | (exfalso; omega) | (exact absurd rfl hQ) | (exact absurd (by decide) hQ) | (conv => whnf)) | (refine allG rfl ?_; conv => whnf) | (refine And.intro (by first | omega | assumption | kernel_rfl | exact And.intro rfl rfl | ((try dsimp only [inR, idx, lowOf]); first | omega | (with_reducible decide) | (simp; omega) | (simp; done) | fail) | fail) ?_; conv => whnf) | fail)
  refine ⟨_, m_sharedA, (), [1009, 1006, 1007, 1008], false, ?_⟩
  conv => whnf
  refine And.intro (vc0 trivial (by (repeat' (first | exact trivial | exact rfl | refine And.intro ?_ ?_ | (refine congrArg vI ?_; first | omega | (dsimp only; omega) | fail) | (refine congrArg some ?_) | omega | exact Nat.le_refl _ | exact congrArg (SV.lst _) (List.take_of_length_le (Nat.le_refl _)).symm))) (by repeat' (first | exact trivial | exact rfl | refine And.intro ?_ ?_ | (refine congrArg vI ?_; first | omega | (dsimp only; omega) | fail) | (refine congrArg some ?_) | omega | exact Nat.le_refl _ | exact congrArg (SV.lst _) (List.take_of_length_le (Nat.le_refl _)).symm)) trivial trivial) ?_
  refine And.intro ⟨(), trivial⟩ (fun (_ : Unit) _ => ?_)
  conv => whnf
  conv => whnf
  repeat' (first | (refine tell (fun hQ => ?_) (fun hQ => ?_) <;> (try dsimp only at hQ) <;> first | (exfalso; omega) | (exact absurd rfl hQ) | (exact absurd (by decide) hQ) | (conv => whnf)) | (refine allG rfl ?_; conv => whnf) | (refine And.intro (by first | omega | assumption | kernel_rfl | exact And.intro rfl rfl | ((try dsimp only [inR, idx, lowOf]); first | omega | (with_reducible decide) | (simp; omega) | (simp; done) | fail) | fail) ?_; conv => whnf) | fail)
  refine ⟨_, m_kind, ([0, 1000, 1], [1000, 1]), [], false, ?_⟩
  conv => whnf
  refine And.intro (vc0 ⟨by decide, by decide⟩ (by (repeat' (first | exact trivial | exact rfl | refine And.intro ?_ ?_ | (refine congrArg vI ?_; first | omega | (dsimp only; omega) | fail) | (refine congrArg some ?_) | omega | exact Nat.le_refl _ | exact congrArg (SV.lst _) (List.take_of_length_le (Nat.le_refl _)).symm))) (by repeat' (first | exact trivial | exact rfl | refine And.intro ?_ ?_ | (refine congrArg vI ?_; first | omega | (dsimp only; omega) | fail) | (refine congrArg some ?_) | omega | exact Nat.le_refl _ | exact congrArg (SV.lst _) (List.take_of_length_le (Nat.le_refl _)).symm)) trivial trivial) ?_
  refine And.intro ⟨(), trivial⟩ (fun (_ : Unit) _ => ?_)
  conv => whnf
  have hk := kindA
  conv => whnf
  repeat' (first | (refine tell (fun hQ => ?_) (fun hQ => ?_) <;> (try dsimp only at hQ) <;> first | (exfalso; omega) | (exact absurd rfl hQ) | (exact absurd (by decide) hQ) | (conv => whnf)) | (refine allG rfl ?_; conv => whnf) | (refine And.intro (by first | omega | assumption | kernel_rfl | exact And.intro rfl rfl | ((try dsimp only [inR, idx, lowOf]); first | omega | (with_reducible decide) | (simp; omega) | (simp; done) | fail) | fail) ?_; conv => whnf) | fail)
  refine ⟨_, m_allowA, (), [], false, ?_⟩
  conv => whnf
  refine And.intro (vc0 trivial (by (repeat' (first | exact trivial | exact rfl | refine And.intro ?_ ?_ | (refine congrArg vI ?_; first | omega | (dsimp only; omega) | fail) | (refine congrArg some ?_) | omega | exact Nat.le_refl _ | exact congrArg (SV.lst _) (List.take_of_length_le (Nat.le_refl _)).symm))) (by repeat' (first | exact trivial | exact rfl | refine And.intro ?_ ?_ | (refine congrArg vI ?_; first | omega | (dsimp only; omega) | fail) | (refine congrArg some ?_) | omega | exact Nat.le_refl _ | exact congrArg (SV.lst _) (List.take_of_length_le (Nat.le_refl _)).symm)) trivial trivial) ?_
  refine And.intro ⟨(), trivial⟩ (fun (_ : Unit) _ => ?_)
  conv => whnf
  conv => whnf
  repeat' (first | (refine tell (fun hQ => ?_) (fun hQ => ?_) <;> (try dsimp only at hQ) <;> first | (exfalso; omega) | (exact absurd rfl hQ) | (exact absurd (by decide) hQ) | (conv => whnf)) | (refine allG rfl ?_; conv => whnf) | (refine And.intro (by first | omega | assumption | kernel_rfl | exact And.intro rfl rfl | ((try dsimp only [inR, idx, lowOf]); first | omega | (with_reducible decide) | (simp; omega) | (simp; done) | fail) | fail) ?_; conv => whnf) | fail)
  refine ⟨_, m_allowB, (), [], false, ?_⟩
  conv => whnf
  refine And.intro (vc0 trivial (by (repeat' (first | exact trivial | exact rfl | refine And.intro ?_ ?_ | (refine congrArg vI ?_; first | omega | (dsimp only; omega) | fail) | (refine congrArg some ?_) | omega | exact Nat.le_refl _ | exact congrArg (SV.lst _) (List.take_of_length_le (Nat.le_refl _)).symm))) (by repeat' (first | exact trivial | exact rfl | refine And.intro ?_ ?_ | (refine congrArg vI ?_; first | omega | (dsimp only; omega) | fail) | (refine congrArg some ?_) | omega | exact Nat.le_refl _ | exact congrArg (SV.lst _) (List.take_of_length_le (Nat.le_refl _)).symm)) trivial trivial) ?_
  refine And.intro ⟨(), trivial⟩ (fun (_ : Unit) _ => ?_)
  conv => whnf
  conv => whnf
  repeat' (first | (refine tell (fun hQ => ?_) (fun hQ => ?_) <;> (try dsimp only at hQ) <;> first | (exfalso; omega) | (exact absurd rfl hQ) | (exact absurd (by decide) hQ) | (conv => whnf)) | (refine allG rfl ?_; conv => whnf) | (refine And.intro (by first | omega | assumption | kernel_rfl | exact And.intro rfl rfl | ((try dsimp only [inR, idx, lowOf]); first | omega | (with_reducible decide) | (simp; omega) | (simp; done) | fail) | fail) ?_; conv => whnf) | fail)
  refine ⟨_, m_report, ([((1, 2, 2, 0) : Job)], [((⟨#[120]⟩ : ByteArray), (0 : Int))]), [], false, ?_⟩
  conv => whnf
  refine And.intro (vc0 ⟨⟨by decide, fun j hj => by simp at hj; subst hj; exact ⟨by decide, by decide, ⟨by decide, by decide⟩⟩⟩, by decide, fun p hp => by simp at hp; subst hp; exact (by decide)⟩ (by (repeat' (first | exact trivial | exact rfl | refine And.intro ?_ ?_ | (refine congrArg vI ?_; first | omega | (dsimp only; omega) | fail) | (refine congrArg some ?_) | omega | exact Nat.le_refl _ | exact congrArg (SV.lst _) (List.take_of_length_le (Nat.le_refl _)).symm))) (by repeat' (first | exact trivial | exact rfl | refine And.intro ?_ ?_ | (refine congrArg vI ?_; first | omega | (dsimp only; omega) | fail) | (refine congrArg some ?_) | omega | exact Nat.le_refl _ | exact congrArg (SV.lst _) (List.take_of_length_le (Nat.le_refl _)).symm)) trivial trivial) ?_
  refine And.intro ⟨(), trivial⟩ (fun (_ : Unit) _ => ?_)
  conv => whnf
  conv => whnf
  repeat' (first | (refine tell (fun hQ => ?_) (fun hQ => ?_) <;> (try dsimp only at hQ) <;> first | (exfalso; omega) | (exact absurd rfl hQ) | (exact absurd (by decide) hQ) | (conv => whnf)) | (refine allG rfl ?_; conv => whnf) | (refine And.intro (by first | omega | assumption | kernel_rfl | exact And.intro rfl rfl | ((try dsimp only [inR, idx, lowOf]); first | omega | (with_reducible decide) | (simp; omega) | (simp; done) | fail) | fail) ?_; conv => whnf) | fail)
  exact ⟨(), [], trivial, rfl, trivial, trivial⟩
end Go.Sx

