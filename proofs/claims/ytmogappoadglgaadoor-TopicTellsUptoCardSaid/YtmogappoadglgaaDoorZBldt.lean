/-
  strings.Builder in this tool's words: WriteString, Grow, String.
-/
import Derived.Test.YtmogappoadglgaaDoorZBld
import Derived.Test.YtmogappoadglgaaDoorZSxFour
import Derived.Test.YtmogappoadglgaaDoorZTrb
set_option linter.unusedVariables false
set_option linter.unusedSimpArgs false
namespace Go.Sx
open Go Go.Proofs Go.Proofs.YtmogappoadglgaaDoor Go.Shelf
theorem denObj_inv {R : Reg AF} {ρ : Rho} {O : Nat → Prop} {w : World} {k : Option Nat} {Q : Array Value → TypeId → Nat × Nat → Prop} {p : Option (Nat × Nat)} (h : DenCt R ρ O w (.obj k Q) p) :
    ∃ b, p = some (b, 0) ∧ (∀ i, k = some i → b = i) ∧ ∃ c E fz, w.heap[b]? = some (.cells c E fz) ∧ Q c E fz := by
  cases p with
  | none => cases h
  | some p =>
    obtain ⟨b, base⟩ := p
    rcases h with (⟨_, _, _, e, _⟩ | ⟨k', Q', e, rfl, hk, c, E, fz, hc, hQ⟩) | ⟨e, _⟩
    · cases e
    · cases e; exact ⟨b, rfl, hk, c, E, fz, hc, hQ⟩
    · cases e
theorem denObj {R : Reg AF} {ρ : Rho} {O : Nat → Prop} {w : World} {k : Option Nat} {Q : Array Value → TypeId → Nat × Nat → Prop} {b : Nat} {c : Array Value} {E : TypeId} {fz : Nat × Nat} (hk : ∀ i, k = some i → b = i) (hc : w.heap[b]? = some (.cells c E fz)) (hQ : Q c E fz) :
    DenCt R ρ O w (.obj k Q) (some (b, 0)) := .inl (.inr ⟨k, Q, rfl, rfl, hk, c, E, fz, hc, hQ⟩)
/-- A builder that nothing was done with; one that holds n bytes in a row of its own; that row. -/
abbrev bld0 : Ct AF := .obj none fun c E fz => c = (Value.agg #[.pointer none, .slice none 0 0]).cells ∧ E = 114 ∧ fz = (0, 0)
def bldH (b gb n cap : Nat) : Ct AF := .obj (some b) fun c E fz => c = #[.pointer (some ⟨b, 0, none⟩), .slice (some ⟨gb, 0, none⟩) n cap] ∧ E = 114 ∧ fz = (0, 0)
def bldR (gb : Nat) (l : List UInt8) (cap : Nat) : Ct AF := .obj (some gb) fun c E fz => E = 5 ∧ fz = (0, 0) ∧ l.length ≤ cap ∧ cap ≤ maxLen ∧ c.size = cap ∧ c.toList.take l.length = Lib.byteCells l
theorem bldR_owns {w : World} {gb cap : Nat} {l : List UInt8} {c : Array Value} {E : TypeId} {fz : Nat × Nat} (hb : w.heap[gb]? = some (.cells c E fz)) (h : E = 5 ∧ fz = (0, 0) ∧ l.length ≤ cap ∧ cap ≤ maxLen ∧ c.size = cap ∧ c.toList.take l.length = Lib.byteCells l) :
    w.ownsRow 0 5 1 (.slice (some ⟨gb, 0, none⟩) l.length cap) (Lib.byteCells l).length (Lib.byteCells l) := by
  obtain ⟨rfl, rfl, h1, h2, h3, h4⟩ := h
  rw [Lib.byteCells_length]
  exact ⟨by rw [Lib.byteCells_length, Nat.mul_one], .inr ⟨gb, cap, c, rfl, Nat.zero_le _, hb, h1, h2, by omega, by rw [Nat.mul_one]; exact h4⟩⟩
theorem owns_bldR {w : World} {v : Value} {n : Nat} {xs : List Value} {l : List UInt8} (h : w.ownsRow 0 5 1 v n xs) (hx : xs = Lib.byteCells l) (h0 : 0 < n ∨ v.ownBlock ≠ none) :
    ∃ gb cap c, v = .slice (some ⟨gb, 0, none⟩) l.length cap ∧ w.heap[gb]? = some (.cells c 5 (0, 0)) ∧ ((5 : TypeId) = 5 ∧ ((0, 0) : Nat × Nat) = (0, 0) ∧ l.length ≤ cap ∧ cap ≤ maxLen ∧ c.size = cap ∧ c.toList.take l.length = Lib.byteCells l) := by
  subst hx
  have hl : n = l.length := by have := h.1; rw [Lib.byteCells_length] at this; omega
  subst hl
  rcases h.2 with ⟨rfl, hn⟩ | ⟨gb, cap, c, rfl, _, hg, h1, h2, h3, h4⟩
  · rcases h0 with h0 | h0
    · omega
    · exact absurd rfl h0
  · exact ⟨gb, cap, c, rfl, hg, rfl, rfl, h1, h2, by omega, by rw [Nat.mul_one] at h4; exact h4⟩
theorem strCells_list (s : ByteArray) : Lib.strCells s = Lib.byteCells s.data.toList := rfl
theorem len_data (s : ByteArray) : s.data.toList.length = s.size := by rw [Array.length_toList]; rfl
theorem args2 {vs : Array Value} {R : Reg AF} {ρ : Rho} {O : Nat → Prop} {w : World} {a b : SV AF} (h : DenL R ρ O w [a, b] vs.toList) : ∃ u v, vs = #[u, v] ∧ Den R ρ O w a u ∧ Den R ρ O w b v := by
  obtain ⟨h1, h2⟩ := h
  obtain ⟨l⟩ := vs
  match l, h1, h2 with
  | [u, v], _, h2 => exact ⟨u, v, rfl, h2 0 a u rfl rfl, h2 1 b v rfl rfl⟩
theorem args1 {vs : Array Value} {R : Reg AF} {ρ : Rho} {O : Nat → Prop} {w : World} {a : SV AF} (h : DenL R ρ O w [a] vs.toList) : ∃ u, vs = #[u] ∧ Den R ρ O w a u := by
  obtain ⟨h1, h2⟩ := h
  obtain ⟨l⟩ := vs
  match l, h1, h2 with
  | [u], _, h2 => exact ⟨u, rfl, h2 0 a u rfl rfl⟩
theorem val_inv' {R : Reg AF} {ρ : Rho} {O : Nat → Prop} {w : World} {u v : Value} (h : Den R ρ O w (.val u) v) : v = u := by cases h; rfl
theorem ptr0_inv {R : Reg AF} {ρ : Rho} {O : Nat → Prop} {w : World} {v : Value} {b : Nat} (hr : ρ 0 = some (b, 0)) (h : Den R ρ O w (.ptr 0 0 2 0) v) : v = .pointer (some ⟨b, 0, none⟩) := by
  cases h with
  | ptr _ _ _ _ b' base h => rw [hr] at h; cases h; rfl
abbrev resW (s : ByteArray) : SV AF := .tup [.val (.int .i64 s.size), .val .nilIface]
theorem den_resW {R : Reg AF} {ρ : Rho} {O : Nat → Prop} {w : World} (s : ByteArray) : Den R ρ O w (resW s) (.tuple #[.int .i64 s.size, .nilIface]) := by
  refine Den.tup _ _ rfl fun j a v ha hv => ?_
  match j, ha, hv with
  | 0, ha, hv => cases ha; cases hv; exact .val _
  | 1, ha, hv => cases ha; cases hv; exact .val _
theorem ptr_ne {b gb : Nat} {w : World} {c c' : Array Value} {fz fz' : Nat × Nat} (h : w.heap[b]? = some (.cells c 114 fz)) (h' : w.heap[gb]? = some (.cells c' 5 fz')) : b ≠ gb := by
  rintro rfl
  rw [h] at h'
  exact absurd (Obj.cells.inj (Option.some.inj h')).2.1 (by decide)

/-- WriteString at a builder that nothing was done with. -/
def spWF : Spec AF where
  γ := ByteArray
  δ := Nat × Nat × Nat
  args := fun s => [.ptr 0 0 2 0, .val (.string s)]
  own := fun _ => [bld0]
  pre := fun s => 0 < s.size ∧ s.size ≤ 140737488355328
  nnew := 1
  res := fun s _ => resW s
  own' := fun s d => [some (bldH d.1 d.2.1 s.data.toList.length d.2.2), some (bldR d.2.1 s.data.toList d.2.2)]
  post := fun _ _ => True
theorem m_wsF : Meets Tryd.prog regF 71 spWF := by
  refine ⟨⟨_, Tryd.func71, by kernel_rfl, by kernel_rfl⟩, ?_⟩
  intro (s : ByteArray) ⟨(h0 : 0 < s.size), (hs : s.size ≤ 140737488355328)⟩ X ρ w vs hX1 hX2 hargs hown
  obtain ⟨b, hr0, _, c, E, fz, hb, hc, hE, hfz⟩ := denObj_inv (hown.den 0 _ rfl)
  subst hc hE hfz
  obtain ⟨u, v, rfl, hu, hv⟩ := args2 hargs
  obtain rfl := ptr0_inv hr0 hu
  obtain rfl := val_inv' hv
  refine (bld_write BldT.ws BldT.wsX b (.pointer none) (.slice none 0 0) [] s w (.inl rfl) hb (World.ownsRow_nil _ _ _ _) (by simpa using hs)).mono ?_
  rintro e w' ⟨rfl, v', hb', hown', hob, hrel⟩
  obtain ⟨gb, cap, cc, rfl, hg, hQ⟩ := owns_bldR (l := s.data.toList) hown' (by simp [strCells_list]) (.inl (by simpa using h0))
  have hne : b ≠ gb := ptr_ne hb' hg
  have hgb : w.heap.size ≤ gb := by
    rcases hob with e | e
    · cases e
    · have : gb = w.heap.size := Option.some.inj e
      omega
  refine ⟨(b, gb, cap), fun h => if h = 1 then some (gb, 0) else ρ h, _, trivial, rfl, fun h hh => if_neg (by have : h < 1 := hh; omega), den_resW s, ⟨fun h ct hct => ?_, fun h h' ct ct' k base base' hct hct' e e' => ?_⟩, fun k hk => ?_, rfl, rfl, fun h ct hct => ?_, ?_⟩
  · match h, hct with
    | 0, hct => cases hct; exact (if_neg (by omega) : (if 0 = 1 then some (gb, 0) else ρ 0) = ρ 0) ▸ hr0 ▸ denObj (fun i e => Option.some.inj e) hb' ⟨rfl, rfl, rfl⟩
    | 1, hct => cases hct; exact denObj (fun i e => Option.some.inj e) hg hQ
  · match h, h', hct, hct' with
    | 0, 0, _, _ => rfl
    | 1, 1, _, _ => rfl
    | 0, 1, _, _ =>
      have e : ρ 0 = some (k, base) := e
      have e' : some (gb, 0) = some (k, base') := e'
      rw [hr0] at e; cases e; cases e'; exact absurd rfl hne
    | 1, 0, _, _ =>
      have e' : ρ 0 = some (k, base') := e'
      have e : some (gb, 0) = some (k, base) := e
      rw [hr0] at e'; cases e'; cases e; exact absurd rfl hne
  · obtain ⟨h, ct, base, hct, hr⟩ := hk
    match h, hct with
    | 0, _ =>
      have hr : ρ 0 = some (k, base) := hr
      exact ⟨.inl ⟨0, bld0, base, rfl, hr⟩, fun hx => hX2 k hx ⟨0, bld0, base, rfl, hr⟩⟩
    | 1, _ =>
      have hr : some (gb, 0) = some (k, base) := hr
      cases hr
      exact ⟨.inr hgb, fun hx => by have := hX1 _ hx; omega⟩
  · match h, hct with
    | 0, hct => cases hct; rfl
    | 1, hct => cases hct; rfl
  · refine ⟨hrel.os, hrel.tape, hrel.output, hrel.size, fun k hk hn => hrel.block k hk ?_, hrel.shape⟩
    rintro (rfl | e)
    · exact hn ⟨0, bld0, 0, rfl, hr0⟩
    · cases e
/-- .. at one that was written to. -/
def spWU : Spec AF where
  γ := (Nat × Nat × Nat) × List UInt8 × ByteArray
  δ := Nat × Nat × Nat
  args := fun g => [.ptr 0 0 2 0, .val (.string g.2.2)]
  own := fun g => [bldH g.1.1 g.1.2.1 g.2.1.length g.1.2.2, bldR g.1.2.1 g.2.1 g.1.2.2]
  pre := fun g => g.2.1.length + g.2.2.size ≤ 140737488355328
  nnew := 1
  res := fun g _ => resW g.2.2
  own' := fun g d => [some (bldH d.1 d.2.1 (g.2.1 ++ g.2.2.data.toList).length d.2.2), none, some (bldR d.2.1 (g.2.1 ++ g.2.2.data.toList) d.2.2)]
  post := fun _ _ => True
theorem m_wsU : Meets Tryd.prog regF 71 spWU := by
  refine ⟨⟨_, Tryd.func71, by kernel_rfl, by kernel_rfl⟩, ?_⟩
  rintro ⟨⟨b, g0, cap0⟩, (l : List UInt8), (s : ByteArray)⟩ (hs : l.length + s.size ≤ 140737488355328) X ρ w vs hX1 hX2 hargs hown
  obtain ⟨b, hr0, hk0, c, E, fz, hb, hc, hE, hfz⟩ := denObj_inv (hown.den 0 _ rfl)
  obtain rfl := hk0 _ rfl
  subst hc hE hfz
  obtain ⟨g1, hr1, hk1, c1, E1, fz1, hg1, hQ1⟩ := denObj_inv (hown.den 1 _ rfl)
  obtain rfl := hk1 _ rfl
  obtain ⟨u, v, rfl, hu, hv⟩ := args2 hargs
  obtain rfl := ptr0_inv hr0 hu
  obtain rfl := val_inv' hv
  refine (bld_write BldT.ws BldT.wsX b _ _ (Lib.byteCells l) s w (.inr rfl) hb (bldR_owns hg1 hQ1) (by rw [Lib.byteCells_length]; exact hs)).mono ?_
  rintro e w' ⟨rfl, v', hb', hown', hob, hrel⟩
  obtain ⟨gb, cap, cc, rfl, hg, hQ⟩ := owns_bldR (l := l ++ s.data.toList) hown' (by rw [strCells_list, Lib.byteCells_append]) (.inr (by rcases hob with e | e <;> (rw [e]; simp [Value.ownBlock])))
  have hne : b ≠ gb := ptr_ne hb' hg
  have hgb : gb = g1 ∨ w.heap.size ≤ gb := by
    rcases hob with e | e
    · exact .inl (Option.some.inj e)
    · have : gb = w.heap.size := Option.some.inj e
      exact .inr (by omega)
  refine ⟨(b, gb, cap), fun h => if h = 2 then some (gb, 0) else ρ h, _, trivial, rfl, fun h hh => if_neg (by have : h < 2 := hh; omega), den_resW s, ⟨fun h ct hct => ?_, fun h h' ct ct' k base base' hct hct' e e' => ?_⟩, fun k hk => ?_, rfl, rfl, fun h ct hct => ?_, ?_⟩
  · match h, hct with
    | 0, hct => cases hct; exact (if_neg (by omega) : (if 0 = 2 then some (gb, 0) else ρ 0) = ρ 0) ▸ hr0 ▸ denObj (fun i e => Option.some.inj e) hb' ⟨rfl, rfl, rfl⟩
    | 1, hct => cases hct
    | 2, hct => cases hct; exact denObj (fun i e => Option.some.inj e) hg hQ
  · have h01 : h ≠ 1 := by rintro rfl; cases hct
    have h01' : h' ≠ 1 := by rintro rfl; cases hct'
    have hl : h < 3 := by
      rcases Nat.lt_or_ge h 3 with e | e
      · exact e
      · rw [List.getElem?_eq_none (by exact e)] at hct; cases hct
    have hl' : h' < 3 := by
      rcases Nat.lt_or_ge h' 3 with e | e
      · exact e
      · rw [List.getElem?_eq_none (by exact e)] at hct'; cases hct'
    have hh : h = 0 ∨ h = 2 := by omega
    have hh' : h' = 0 ∨ h' = 2 := by omega
    rcases hh with rfl | rfl <;> rcases hh' with rfl | rfl
    · rfl
    · have e : ρ 0 = some (k, base) := e
      have e' : some (gb, 0) = some (k, base') := e'
      rw [hr0] at e; cases e; cases e'; exact absurd rfl hne
    · have e' : ρ 0 = some (k, base') := e'
      have e : some (gb, 0) = some (k, base) := e
      rw [hr0] at e'; cases e'; cases e; exact absurd rfl hne
    · rfl
  · obtain ⟨h, ct, base, hct, hr⟩ := hk
    match h, hct with
    | 0, _ =>
      have hr : ρ 0 = some (k, base) := hr
      exact ⟨.inl ⟨0, _, base, rfl, hr⟩, fun hx => hX2 k hx ⟨0, _, base, rfl, hr⟩⟩
    | 1, hct => cases hct
    | 2, _ =>
      have hr : some (gb, 0) = some (k, base) := hr
      cases hr
      rcases hgb with rfl | hgb
      · exact ⟨.inl ⟨1, _, 0, rfl, hr1⟩, fun hx => hX2 _ hx ⟨1, _, 0, rfl, hr1⟩⟩
      · exact ⟨.inr hgb, fun hx => by have := hX1 _ hx; omega⟩
  · match h, hct with
    | 0, hct => cases hct; rfl
    | 1, hct => cases hct
    | 2, hct => cases hct; rfl
  · refine ⟨hrel.os, hrel.tape, hrel.output, hrel.size, fun k hk hn => hrel.block k hk ?_, hrel.shape⟩
    rintro (rfl | e)
    · exact hn ⟨0, _, 0, rfl, hr0⟩
    · have e : some k = some g1 := e
      cases e
      exact hn ⟨1, _, 0, rfl, hr1⟩
/-- Grow at a builder that nothing was done with. -/
def spGrow : Spec AF where
  γ := Int
  δ := Nat × Nat × Nat
  args := fun n => [.ptr 0 0 2 0, vI n]
  own := fun _ => [bld0]
  pre := fun n => 0 < n ∧ n ≤ 281474976710656
  nnew := 1
  res := fun _ _ => .tup []
  own' := fun _ d => [some (bldH d.1 d.2.1 ([] : List UInt8).length d.2.2), some (bldR d.2.1 [] d.2.2)]
  post := fun _ _ => True
theorem m_grow : Meets Tryd.prog regF 91 spGrow := by
  refine ⟨⟨_, Tryd.func91, by kernel_rfl, by kernel_rfl⟩, ?_⟩
  intro (n : Int) ⟨(h0 : 0 < n), (hs : n ≤ 281474976710656)⟩ X ρ w vs hX1 hX2 hargs hown
  obtain ⟨b, hr0, _, c, E, fz, hb, hc, hE, hfz⟩ := denObj_inv (hown.den 0 _ rfl)
  subst hc hE hfz
  obtain ⟨u, v, rfl, hu, hv⟩ := args2 hargs
  obtain rfl := ptr0_inv hr0 hu
  obtain rfl := val_inv' hv
  obtain ⟨m, rfl⟩ := Int.eq_ofNat_of_zero_le (Int.le_of_lt h0)
  refine (bld_grow BldT.gr BldT.grX b m w hb (by omega) (by omega)).mono ?_
  rintro e w' ⟨rfl, cap, hcap, hb', hown', hrel⟩
  obtain ⟨gb, cap', cc, he, hg, hQ⟩ := owns_bldR (l := []) hown' rfl (.inr (by simp [Value.ownBlock]))
  cases he
  have hne : b ≠ w.heap.size := ptr_ne hb' hg
  refine ⟨(b, w.heap.size, cap), fun h => if h = 1 then some (w.heap.size, 0) else ρ h, _, trivial, rfl, fun h hh => if_neg (by have : h < 1 := hh; omega), Den.tup [] #[] rfl (fun j a v ha _ => by cases ha), ⟨fun h ct hct => ?_, fun h h' ct ct' k base base' hct hct' e e' => ?_⟩, fun k hk => ?_, rfl, rfl, fun h ct hct => ?_, ?_⟩
  · match h, hct with
    | 0, hct => cases hct; exact (if_neg (by omega) : (if 0 = 1 then some (w.heap.size, 0) else ρ 0) = ρ 0) ▸ hr0 ▸ denObj (fun i e => Option.some.inj e) hb' ⟨rfl, rfl, rfl⟩
    | 1, hct => cases hct; exact denObj (fun i e => Option.some.inj e) hg hQ
  · match h, h', hct, hct' with
    | 0, 0, _, _ => rfl
    | 1, 1, _, _ => rfl
    | 0, 1, _, _ =>
      have e : ρ 0 = some (k, base) := e
      have e' : some (w.heap.size, 0) = some (k, base') := e'
      rw [hr0] at e; cases e; cases e'; exact absurd rfl hne
    | 1, 0, _, _ =>
      have e' : ρ 0 = some (k, base') := e'
      have e : some (w.heap.size, 0) = some (k, base) := e
      rw [hr0] at e'; cases e'; cases e; exact absurd rfl hne
  · obtain ⟨h, ct, base, hct, hr⟩ := hk
    match h, hct with
    | 0, _ =>
      have hr : ρ 0 = some (k, base) := hr
      exact ⟨.inl ⟨0, bld0, base, rfl, hr⟩, fun hx => hX2 k hx ⟨0, bld0, base, rfl, hr⟩⟩
    | 1, _ =>
      have hr : some (w.heap.size, 0) = some (k, base) := hr
      cases hr
      exact ⟨.inr (Nat.le_refl _), fun hx => absurd (hX1 _ hx) (Nat.lt_irrefl _)⟩
  · match h, hct with
    | 0, hct => cases hct; rfl
    | 1, hct => cases hct; rfl
  · refine ⟨hrel.os, hrel.tape, hrel.output, hrel.size, fun k hk hn => hrel.block k hk ?_, hrel.shape⟩
    rintro rfl
    exact hn ⟨0, bld0, 0, rfl, hr0⟩
/-- String of a builder that holds bytes: the builder is not looked at any more. -/
def spStr : Spec AF where
  γ := (Nat × Nat × Nat) × List UInt8
  δ := Unit
  args := fun _ => [.ptr 0 0 2 0]
  own := fun g => [bldH g.1.1 g.1.2.1 g.2.length g.1.2.2, bldR g.1.2.1 g.2 g.1.2.2]
  pre := fun g => g.2 ≠ []
  nnew := 0
  res := fun g _ => .val (.string ⟨g.2.toArray⟩)
  own' := fun _ _ => [none, none]
  post := fun _ _ => True
theorem m_str : Meets Tryd.prog regF 73 spStr := by
  refine ⟨⟨_, Tryd.func73, by kernel_rfl, by kernel_rfl⟩, ?_⟩
  rintro ⟨⟨b, g0, cap0⟩, (l : List UInt8)⟩ (h0 : l ≠ []) X ρ w vs hX1 hX2 hargs hown
  obtain ⟨b, hr0, hk0, c, E, fz, hb, hc, hE, hfz⟩ := denObj_inv (hown.den 0 _ rfl)
  obtain rfl := hk0 _ rfl
  subst hc hE hfz
  obtain ⟨g1, hr1, hk1, c1, E1, fz1, hg1, hQ1⟩ := denObj_inv (hown.den 1 _ rfl)
  obtain rfl := hk1 _ rfl
  obtain ⟨u, rfl, hu⟩ := args1 hargs
  obtain rfl := ptr0_inv hr0 hu
  refine (bld_string BldT.st BldT.stX b g1 cap0 _ l w hb (by have := bldR_owns hg1 hQ1; rw [Lib.byteCells_length] at this; exact this) h0).mono ?_
  rintro e w' ⟨rfl, hrel⟩
  refine ⟨(), ρ, _, trivial, rfl, fun _ _ => rfl, .val _, ⟨fun h ct hct => ?_, fun h h' ct ct' k base base' hct hct' e e' => ?_⟩, fun k hk => ?_, rfl, rfl, fun h ct hct => ?_, ?_⟩
  · match h, hct with
    | 0, hct => cases hct
    | 1, hct => cases hct
  · match h, hct with
    | 0, hct => cases hct
    | 1, hct => cases hct
  · obtain ⟨h, ct, base, hct, hr⟩ := hk
    match h, hct with
    | 0, hct => cases hct
    | 1, hct => cases hct
  · match h, hct with
    | 0, hct => cases hct
    | 1, hct => cases hct
  · refine ⟨hrel.os, hrel.tape, hrel.output, hrel.size, fun k hk hn => hrel.block k hk ?_, hrel.shape⟩
    rintro rfl
    exact hn ⟨1, _, 0, rfl, hr1⟩
/-- .. of one that nothing was done with. -/
def spStr0 : Spec AF where
  γ := Unit
  δ := Unit
  args := fun _ => [.ptr 0 0 2 0]
  own := fun _ => [bld0]
  pre := fun _ => True
  nnew := 0
  res := fun _ _ => .val (.string ⟨#[]⟩)
  own' := fun _ _ => [none]
  post := fun _ _ => True
theorem m_str0 : Meets Tryd.prog regF 73 spStr0 := by
  refine ⟨⟨_, Tryd.func73, by kernel_rfl, by kernel_rfl⟩, ?_⟩
  intro _ _ X ρ w vs hX1 hX2 hargs hown
  obtain ⟨b, hr0, _, c, E, fz, hb, hc, hE, hfz⟩ := denObj_inv (hown.den 0 _ rfl)
  subst hc hE hfz
  obtain ⟨u, rfl, hu⟩ := args1 hargs
  obtain rfl := ptr0_inv hr0 hu
  refine (bld_string0 BldT.st BldT.stX b _ w hb).mono ?_
  rintro e w' ⟨rfl, hrel⟩
  refine ⟨(), ρ, _, trivial, rfl, fun _ _ => rfl, .val _, ⟨fun h ct hct => ?_, fun h h' ct ct' k base base' hct hct' e e' => ?_⟩, fun k hk => ?_, rfl, rfl, fun h ct hct => ?_, ?_⟩
  · match h, hct with
    | 0, hct => cases hct
  · match h, hct with
    | 0, hct => cases hct
  · obtain ⟨h, ct, base, hct, hr⟩ := hk
    match h, hct with
    | 0, hct => cases hct
  · match h, hct with
    | 0, hct => cases hct
  · exact ⟨hrel.os, hrel.tape, hrel.output, hrel.size, fun k hk hn => hrel.block k hk (fun e => e), hrel.shape⟩
end Go.Sx

/-
  strings.Join, where there are two and more parts.
-/
namespace Go.Sx
open Go Go.Proofs Go.Proofs.YtmogappoadglgaaDoor
/-- Parts, one behind the other, with a text between them. -/
def restL (sep : ByteArray) (l : List ByteArray) : List UInt8 := l.flatMap fun y => sep.data.toList ++ y.data.toList
def joinL (sep : ByteArray) : List ByteArray → List UInt8
  | [] => []
  | x :: l => x.data.toList ++ restL sep l
theorem restL_snoc (sep : ByteArray) (l : List ByteArray) (x : ByteArray) : restL sep (l ++ [x]) = restL sep l ++ sep.data.toList ++ x.data.toList := by
  unfold restL
  rw [List.flatMap_append, List.append_assoc]
  simp
theorem restL_len {sep : ByteArray} (hs : sep.size ≤ 100) : ∀ {l : List ByteArray}, (∀ s ∈ l, s.size ≤ 1000000) → (restL sep l).length ≤ l.length * 1000100
  | [], _ => Nat.zero_le _
  | x :: l, h => by
    have h1 := restL_len hs (l := l) fun s hs => h s (List.mem_cons_of_mem _ hs)
    have h2 := h x (List.mem_cons_self ..)
    unfold restL at h1 ⊢
    rw [List.flatMap_cons, List.length_append, List.length_append, len_data, len_data, List.length_cons]
    omega
def spJoin : Spec AF where
  γ := List ByteArray × ByteArray
  δ := Unit
  args := fun g => [.lst 9 g.1, .val (.string g.2)]
  own := fun _ => []
  pre := fun g => (2 ≤ g.1.length ∧ g.1.length ≤ 1000) ∧ (0 < g.2.size ∧ g.2.size ≤ 100) ∧ ∀ s ∈ g.1, s.size ≤ 1000000
  nnew := 0
  res := fun g _ => .val (.string ⟨(joinL g.2 g.1).toArray⟩)
  own' := fun _ _ => []
  post := fun _ _ => True
theorem m_join : Meets Tryd.prog regF 72 spJoin := by
  refine meets Tryd.func72 75 noWr rfl (by kernel_rfl) (by kernel_rfl) ?_
  rintro ⟨(xs : List ByteArray), (sep : ByteArray)⟩ ⟨⟨(h2 : 2 ≤ xs.length), (hm : xs.length ≤ 1000)⟩, ⟨(hs0 : 0 < sep.size), (hs1 : sep.size ≤ 100)⟩, (hx : ∀ s ∈ xs, s.size ≤ 1000000)⟩
  have hq : 9223372036854775 ≤ Int.tdiv 9223372036854775807 ((xs.length : Int) - 1) := by
    rw [Int.tdiv_eq_ediv_of_nonneg (by decide)]
    exact Int.le_ediv_of_mul_le (by omega) (by omega)
  have hq2 : Int.tdiv 9223372036854775807 ((xs.length : Int) - 1) ≤ 9223372036854775807 := by
    rw [Int.tdiv_eq_ediv_of_nonneg (by decide)]
    exact Int.ediv_le_self _ (by decide)
  have hp0 : 0 < (sep.size : Int) * ((xs.length : Int) - 1) := Int.mul_pos (by omega) (by omega)
  have hp1 : (sep.size : Int) * ((xs.length : Int) - 1) ≤ 100 * 999 := Int.mul_le_mul (by omega) (by omega) (by omega) (by decide)
  conv => whnf
  repeat' (first | (refine tell (fun hQ => ?_) (fun hQ => ?_) <;> (try dsimp only at hQ) <;> first | (exfalso; omega) | (exact absurd rfl hQ) | (exact absurd hQ hne) | (exact absurd hne hQ) | (exact absurd (by decide) hQ) | (conv => whnf)) | (refine allG rfl ?_; conv => whnf) | (refine And.intro (by first | omega | assumption | kernel_rfl | exact And.intro rfl rfl | ((try dsimp only [inR, idx, lowOf]); first | omega | (with_reducible decide) | (simp; omega) | (simp; done) | fail) | fail) ?_; conv => whnf) | fail)
  refine ⟨Nat × Int, fun p => ⟨[(0, .lst 9 xs), (1, .val (.string sep)), (5, vI p.2), (39, .lst 9 xs), (40, vI xs.length), (41, vI p.1)], []⟩, fun p => p.1 ≤ xs.length ∧ 0 < p.2 ∧ p.2 ≤ 99900 + (p.1 : Int) * 1000000, fun p => xs.length - p.1, fun _ _ => rfl, ⟨(0, 0 + (sep.size : Int) * ((xs.length : Int) - 1)), [], ⟨Nat.zero_le _, by dsimp only; omega, by dsimp only; omega⟩, ?_⟩, ?_⟩
  · refine ⟨rfl, ?_, ?_, rfl⟩
    all_goals (repeat' (first | exact trivial | exact rfl | refine And.intro ?_ ?_ | (refine congrArg vI ?_; first | omega | (dsimp only; omega) | fail) | (refine congrArg some ?_) | omega | exact Nat.le_refl _ | exact congrArg (SV.lst _) (List.take_of_length_le (Nat.le_refl _)).symm))
  rintro ⟨(i : Nat), (n : Int)⟩ ⟨(hi : i ≤ xs.length), (hn0 : 0 < n), (hn1 : n ≤ 99900 + (i : Int) * 1000000)⟩
  by_cases hlt : i < xs.length
  · have hobt : ∃ y, xs[i]? = some y := ⟨_, List.getElem?_eq_getElem hlt⟩
    obtain ⟨x, hxi⟩ := hobt
    have hxs := hx x (List.mem_of_getElem? hxi)
    conv => whnf
    repeat' (first | (refine tell (fun hQ => ?_) (fun hQ => ?_) <;> (try dsimp only at hQ) <;> first | (exfalso; omega) | (exact absurd rfl hQ) | (exact absurd hQ hne) | (exact absurd hne hQ) | (exact absurd (by decide) hQ) | (conv => whnf)) | (refine allG (x := x) (by first | exact hxi | simpa [List.getElem?_append_right, lowOf] using hxi | fail) ?_; conv => whnf) | (refine allLst (x := x) (by first | omega | assumption | fail) (by first | exact hxi | simpa using hxi | fail) ?_; conv => whnf) | (refine allG rfl ?_; conv => whnf) | (refine And.intro (by first | omega | assumption | kernel_rfl | exact And.intro rfl rfl | ((try dsimp only [inR, idx, lowOf]); first | omega | (with_reducible decide) | (simp; omega) | (simp; done) | fail) | fail) ?_; conv => whnf) | fail)
    refine ⟨(i + 1, n + (x.size : Int)), [], ⟨hlt, by dsimp only; omega, by dsimp only; omega⟩, ?_, rfl, ?_, ?_, rfl⟩
    · dsimp only; first | omega | (simp; done) | (simp; omega)
    all_goals (repeat' (first | exact trivial | exact rfl | refine And.intro ?_ ?_ | (refine congrArg vI ?_; first | omega | (dsimp only; omega) | fail) | (refine congrArg some ?_) | omega | exact Nat.le_refl _ | exact congrArg (SV.lst _) (List.take_of_length_le (Nat.le_refl _)).symm))
  · have hobt : ∃ y, xs[0]? = some y := ⟨_, List.getElem?_eq_getElem (by omega)⟩
    obtain ⟨x0, hx0⟩ := hobt
    have hx0s := hx x0 (List.mem_of_getElem? hx0)
    conv => whnf
    repeat' (first | (refine tell (fun hQ => ?_) (fun hQ => ?_) <;> (try dsimp only at hQ) <;> first | (exfalso; omega) | (exact absurd rfl hQ) | (exact absurd hQ hne) | (exact absurd hne hQ) | (exact absurd (by decide) hQ) | (conv => whnf)) | (refine allG rfl ?_; conv => whnf) | (refine And.intro (by first | omega | assumption | kernel_rfl | exact And.intro rfl rfl | ((try dsimp only [inR, idx, lowOf]); first | omega | (with_reducible decide) | (simp; omega) | (simp; done) | fail) | fail) ?_; conv => whnf) | fail)
    refine ⟨_, m_grow, n, [1008], false, ?_⟩
    conv => whnf
    refine And.intro (vc0 ⟨hn0, by omega⟩ (by (repeat' (first | exact trivial | exact rfl | refine And.intro ?_ ?_ | (refine congrArg vI ?_; first | omega | (dsimp only; omega) | fail) | (refine congrArg some ?_) | omega | exact Nat.le_refl _ | exact congrArg (SV.lst _) (List.take_of_length_le (Nat.le_refl _)).symm))) (by repeat' (first | exact trivial | exact rfl | refine And.intro ?_ ?_ | (refine congrArg vI ?_; first | omega | (dsimp only; omega) | fail) | (refine congrArg some ?_) | omega | exact Nat.le_refl _ | exact congrArg (SV.lst _) (List.take_of_length_le (Nat.le_refl _)).symm)) trivial trivial) ?_
    refine And.intro ⟨(0, 0, 0), trivial⟩ ?_
    rintro ⟨(b : Nat), (gb : Nat), (cap : Nat)⟩ _
    conv => whnf
    repeat' (first | (refine tell (fun hQ => ?_) (fun hQ => ?_) <;> (try dsimp only at hQ) <;> first | (exfalso; omega) | (exact absurd rfl hQ) | (exact absurd hQ hne) | (exact absurd hne hQ) | (exact absurd (by decide) hQ) | (conv => whnf)) | (refine allG (x := x0) (by first | exact hx0 | simpa [List.getElem?_append_right, lowOf] using hx0 | fail) ?_; conv => whnf) | (refine allLst (x := x0) (by first | omega | assumption | fail) (by first | exact hx0 | simpa using hx0 | fail) ?_; conv => whnf) | (refine allG rfl ?_; conv => whnf) | (refine And.intro (by first | omega | assumption | kernel_rfl | exact And.intro rfl rfl | ((try dsimp only [inR, idx, lowOf]); first | omega | (with_reducible decide) | (simp; omega) | (simp; done) | fail) | fail) ?_; conv => whnf) | fail)
    refine ⟨_, m_wsU, ((b, gb, cap), [], x0), [1008, 1057], false, ?_⟩
    conv => whnf
    refine And.intro (vc0 (show 0 + x0.size ≤ 140737488355328 by omega) (by (repeat' (first | exact trivial | exact rfl | refine And.intro ?_ ?_ | (refine congrArg vI ?_; first | omega | (dsimp only; omega) | fail) | (refine congrArg some ?_) | omega | exact Nat.le_refl _ | exact congrArg (SV.lst _) (List.take_of_length_le (Nat.le_refl _)).symm))) (by repeat' (first | exact trivial | exact rfl | refine And.intro ?_ ?_ | (refine congrArg vI ?_; first | omega | (dsimp only; omega) | fail) | (refine congrArg some ?_) | omega | exact Nat.le_refl _ | exact congrArg (SV.lst _) (List.take_of_length_le (Nat.le_refl _)).symm)) trivial trivial) ?_
    refine And.intro ⟨(0, 0, 0), trivial⟩ ?_
    rintro ⟨(b : Nat), (gb : Nat), (cap : Nat)⟩ _
    have hdl : (xs.drop 1).length = xs.length - 1 := List.length_drop ..
    conv => whnf
    repeat' (first | (refine tell (fun hQ => ?_) (fun hQ => ?_) <;> (try dsimp only at hQ) <;> first | (exfalso; omega) | (exact absurd rfl hQ) | (exact absurd hQ hne) | (exact absurd hne hQ) | (exact absurd (by decide) hQ) | (conv => whnf)) | (refine allG rfl ?_; conv => whnf) | (refine And.intro (by first | omega | assumption | kernel_rfl | exact And.intro rfl rfl | ((try dsimp only [inR, idx, lowOf]); first | omega | (with_reducible decide) | (simp; omega) | (simp; done) | fail) | fail) ?_; conv => whnf) | fail)
    refine ⟨Nat × (Nat × Nat × Nat) × List UInt8, fun p => ⟨[(1, .val (.string sep)), (8, .ptr 1008 0 2 0), (63, .lst 9 (xs.drop 1)), (64, vI (xs.drop 1).length), (65, vI p.1)], [(1008, bldH p.2.1.1 p.2.1.2.1 p.2.2.length p.2.1.2.2), (3000, bldR p.2.1.2.1 p.2.2 p.2.1.2.2)]⟩, fun p => p.1 ≤ (xs.drop 1).length ∧ p.2.2 = x0.data.toList ++ restL sep ((xs.drop 1).take p.1), fun p => (xs.drop 1).length - p.1, fun _ _ => rfl, ⟨(0, (b, gb, cap), x0.data.toList), [(3000, 1061)], ⟨Nat.zero_le _, by simp [restL]⟩, ?_⟩, ?_⟩
    · refine ⟨rfl, ?_, ?_, rfl⟩
      all_goals (repeat' (first | exact trivial | exact rfl | refine And.intro ?_ ?_ | (refine congrArg vI ?_; first | omega | (dsimp only; omega) | fail) | (refine congrArg some ?_) | omega | exact Nat.le_refl _ | exact congrArg (SV.lst _) (List.take_of_length_le (Nat.le_refl _)).symm))
    rintro ⟨(i : Nat), ⟨(b : Nat), (gb : Nat), (cap : Nat)⟩, (l : List UInt8)⟩ ⟨(hi : i ≤ (xs.drop 1).length), (hl : l = x0.data.toList ++ restL sep ((xs.drop 1).take i))⟩
    have hll : l.length ≤ 1000000 + 1000 * 1000100 := by
      have h1 := restL_len (sep := sep) hs1 (l := (xs.drop 1).take i) fun s hs => hx s (List.mem_of_mem_drop (List.mem_of_mem_take hs))
      have h2 : ((xs.drop 1).take i).length ≤ 1000 := by rw [List.length_take]; omega
      have h3 : ((xs.drop 1).take i).length * 1000100 ≤ 1000 * 1000100 := Nat.mul_le_mul_right _ h2
      rw [hl, List.length_append, len_data]
      omega
    by_cases hlt : i < (xs.drop 1).length
    · have hobt : ∃ y, (xs.drop 1)[i]? = some y := ⟨_, List.getElem?_eq_getElem hlt⟩
      obtain ⟨x, hxi⟩ := hobt
      have hxs := hx x (List.mem_of_mem_drop (List.mem_of_getElem? hxi))
      have hs' : (l ++ sep.data.toList).length = l.length + sep.size := by rw [List.length_append, len_data]
      conv => whnf
      repeat' (first | (refine tell (fun hQ => ?_) (fun hQ => ?_) <;> (try dsimp only at hQ) <;> first | (exfalso; omega) | (exact absurd rfl hQ) | (exact absurd hQ hne) | (exact absurd hne hQ) | (exact absurd (by decide) hQ) | (conv => whnf)) | (refine allG (x := x) (by first | exact hxi | simpa [List.getElem?_append_right, lowOf] using hxi | fail) ?_; conv => whnf) | (refine allLst (x := x) (by first | omega | assumption | fail) (by first | exact hxi | simpa using hxi | fail) ?_; conv => whnf) | (refine allG rfl ?_; conv => whnf) | (refine And.intro (by first | omega | assumption | kernel_rfl | exact And.intro rfl rfl | ((try dsimp only [inR, idx, lowOf]); first | omega | (with_reducible decide) | (simp; omega) | (simp; done) | fail) | fail) ?_; conv => whnf) | fail)
      refine ⟨_, m_wsU, ((b, gb, cap), l, sep), [1008, 3000], false, ?_⟩
      conv => whnf
      refine And.intro (vc0 (show l.length + sep.size ≤ 140737488355328 by omega) (by (repeat' (first | exact trivial | exact rfl | refine And.intro ?_ ?_ | (refine congrArg vI ?_; first | omega | (dsimp only; omega) | fail) | (refine congrArg some ?_) | omega | exact Nat.le_refl _ | exact congrArg (SV.lst _) (List.take_of_length_le (Nat.le_refl _)).symm))) (by repeat' (first | exact trivial | exact rfl | refine And.intro ?_ ?_ | (refine congrArg vI ?_; first | omega | (dsimp only; omega) | fail) | (refine congrArg some ?_) | omega | exact Nat.le_refl _ | exact congrArg (SV.lst _) (List.take_of_length_le (Nat.le_refl _)).symm)) trivial trivial) ?_
      refine And.intro ⟨(0, 0, 0), trivial⟩ ?_
      rintro ⟨(b : Nat), (gb : Nat), (cap : Nat)⟩ _
      conv => whnf
      repeat' (first | (refine tell (fun hQ => ?_) (fun hQ => ?_) <;> (try dsimp only at hQ) <;> first | (exfalso; omega) | (exact absurd rfl hQ) | (exact absurd hQ hne) | (exact absurd hne hQ) | (exact absurd (by decide) hQ) | (conv => whnf)) | (refine allG rfl ?_; conv => whnf) | (refine And.intro (by first | omega | assumption | kernel_rfl | exact And.intro rfl rfl | ((try dsimp only [inR, idx, lowOf]); first | omega | (with_reducible decide) | (simp; omega) | (simp; done) | fail) | fail) ?_; conv => whnf) | fail)
      refine ⟨_, m_wsU, ((b, gb, cap), l ++ sep.data.toList, x), [1008, 1070], false, ?_⟩
      conv => whnf
      refine And.intro (vc0 (show (l ++ sep.data.toList).length + x.size ≤ 140737488355328 by omega) (by (repeat' (first | exact trivial | exact rfl | refine And.intro ?_ ?_ | (refine congrArg vI ?_; first | omega | (dsimp only; omega) | fail) | (refine congrArg some ?_) | omega | exact Nat.le_refl _ | exact congrArg (SV.lst _) (List.take_of_length_le (Nat.le_refl _)).symm))) (by repeat' (first | exact trivial | exact rfl | refine And.intro ?_ ?_ | (refine congrArg vI ?_; first | omega | (dsimp only; omega) | fail) | (refine congrArg some ?_) | omega | exact Nat.le_refl _ | exact congrArg (SV.lst _) (List.take_of_length_le (Nat.le_refl _)).symm)) trivial trivial) ?_
      refine And.intro ⟨(0, 0, 0), trivial⟩ ?_
      rintro ⟨(b : Nat), (gb : Nat), (cap : Nat)⟩ _
      have hnl : l ++ sep.data.toList ++ x.data.toList = x0.data.toList ++ restL sep ((xs.drop 1).take (i + 1)) := by
        rw [take_snocI hxi, restL_snoc, hl]; simp
      conv => whnf
      repeat' (first | (refine tell (fun hQ => ?_) (fun hQ => ?_) <;> (try dsimp only at hQ) <;> first | (exfalso; omega) | (exact absurd rfl hQ) | (exact absurd hQ hne) | (exact absurd hne hQ) | (exact absurd (by decide) hQ) | (conv => whnf)) | (refine allG rfl ?_; conv => whnf) | (refine And.intro (by first | omega | assumption | kernel_rfl | exact And.intro rfl rfl | ((try dsimp only [inR, idx, lowOf]); first | omega | (with_reducible decide) | (simp; omega) | (simp; done) | fail) | fail) ?_; conv => whnf) | fail)
      refine ⟨(i + 1, (b, gb, cap), l ++ sep.data.toList ++ x.data.toList), [(3000, 1072)], ⟨hlt, hnl⟩, ?_, rfl, ?_, ?_, rfl⟩
      · dsimp only; first | omega | (simp; done) | (simp; omega)
      all_goals (repeat' (first | exact trivial | exact rfl | refine And.intro ?_ ?_ | (refine congrArg vI ?_; first | omega | (dsimp only; omega) | fail) | (refine congrArg some ?_) | omega | exact Nat.le_refl _ | exact congrArg (SV.lst _) (List.take_of_length_le (Nat.le_refl _)).symm))
    · rw [List.take_of_length_le (by omega)] at hl
      have hne : l ≠ [] := by
        rw [hl]
        have hobt : ∃ y, (xs.drop 1)[0]? = some y := ⟨_, List.getElem?_eq_getElem (by omega)⟩
        obtain ⟨x1, hx1⟩ := hobt
        intro e
        have e2 := congrArg List.length e
        cases hd : xs.drop 1 with
        | nil => rw [hd] at hdl; simp at hdl; omega
        | cons y ys =>
          rw [hd, restL, List.flatMap_cons, List.length_append, List.length_append, List.length_append, len_data, len_data, List.length_nil] at e2
          omega
      conv => whnf
      repeat' (first | (refine tell (fun hQ => ?_) (fun hQ => ?_) <;> (try dsimp only at hQ) <;> first | (exfalso; omega) | (exact absurd rfl hQ) | (exact absurd hQ hne) | (exact absurd hne hQ) | (exact absurd (by decide) hQ) | (conv => whnf)) | (refine allG rfl ?_; conv => whnf) | (refine And.intro (by first | omega | assumption | kernel_rfl | exact And.intro rfl rfl | ((try dsimp only [inR, idx, lowOf]); first | omega | (with_reducible decide) | (simp; omega) | (simp; done) | fail) | fail) ?_; conv => whnf) | fail)
      refine ⟨_, m_str, ((b, gb, cap), l), [1008, 3000], false, ?_⟩
      conv => whnf
      refine And.intro (vc0 hne (by (repeat' (first | exact trivial | exact rfl | refine And.intro ?_ ?_ | (refine congrArg vI ?_; first | omega | (dsimp only; omega) | fail) | (refine congrArg some ?_) | omega | exact Nat.le_refl _ | exact congrArg (SV.lst _) (List.take_of_length_le (Nat.le_refl _)).symm))) (by repeat' (first | exact trivial | exact rfl | refine And.intro ?_ ?_ | (refine congrArg vI ?_; first | omega | (dsimp only; omega) | fail) | (refine congrArg some ?_) | omega | exact Nat.le_refl _ | exact congrArg (SV.lst _) (List.take_of_length_le (Nat.le_refl _)).symm)) trivial trivial) ?_
      refine And.intro ⟨(), trivial⟩ (fun (_ : Unit) _ => ?_)
      conv => whnf
      conv => whnf
      repeat' (first | (refine tell (fun hQ => ?_) (fun hQ => ?_) <;> (try dsimp only at hQ) <;> first | (exfalso; omega) | (exact absurd rfl hQ) | (exact absurd hQ hne) | (exact absurd hne hQ) | (exact absurd (by decide) hQ) | (conv => whnf)) | (refine allG rfl ?_; conv => whnf) | (refine And.intro (by first | omega | assumption | kernel_rfl | exact And.intro rfl rfl | ((try dsimp only [inR, idx, lowOf]); first | omega | (with_reducible decide) | (simp; omega) | (simp; done) | fail) | fail) ?_; conv => whnf) | fail)
      have hres : l = joinL sep xs := by
        cases xs with
        | nil => simp at h2
        | cons y ys => simp at hx0; subst hx0; rw [hl]; simp [joinL]
      exact ⟨(), [], trivial, eS (by rw [hres]), trivial, trivial⟩
end Go.Sx

