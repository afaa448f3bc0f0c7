/-
  Own tool 'Sx', part I: slicing, append; all operations that call no Go function.
-/
import Derived.Test.YtmogappoadglgaaSxH
namespace Go.Sx
open Go
variable {A : Nat → Type}
section
variable {P : Program} {E : Env A} {n : Nat} {X E0 : Nat → Prop} {ρ0 : Rho} {w0 : World} {st : St A} {ρ : Rho} {a : Act} {w : World} {d : Option Tmp}

/-- A slice expression's bounds against the values that they read as. -/
def BndOk (lo : Option Int) (v : Option Value) : Prop := match lo, v with | none, none => True | some z, some u => ∃ k, u = .int k z | _, _ => False

theorem den_sl_cut {R : Reg A} {O : Nat → Prop} {h sz off len cap l m : Nat} {p : Option Addr} (hd : Den R ρ O w (.sl h sz off len) (.slice p len cap)) (h1 : l ≤ m) (h2 : m ≤ len) :
    Den R ρ O w (.sl h sz (off + l) (m - l)) (.slice (if cap = l then p else p.map (·.add (l * sz))) (m - l) (cap - l)) ∧ len ≤ cap := by
  cases hd with
  | slnil _ _ hr =>
    obtain rfl : l = 0 := by omega
    obtain rfl : m = 0 := by omega
    exact ⟨.slnil h sz hr, Nat.le_refl _⟩
  | sl _ _ _ _ _ b base o c F fz hr hb hl ho hs =>
    refine ⟨?_, hl⟩
    by_cases e : cap = l
    · rw [if_pos e]
      exact .sl h sz (off + l) (m - l) (cap - l) b base o c F fz hr hb (by omega) (.inl (by omega)) (by rw [show off + l + (cap - l) = off + cap by omega]; exact hs)
    · rw [if_neg e]
      simp only [Option.map_some, add_off]
      refine .sl h sz (off + l) (m - l) (cap - l) b base _ c F fz hr hb (by omega) ?_ (by rw [show off + l + (cap - l) = off + cap by omega]; exact hs)
      rcases ho with ho | ho
      · left; omega
      · right; rw [ho, Nat.add_mul]; omega
theorem den_lst_cut {R : Reg A} {O : Nat → Prop} {T : Nat} {xs : List (A T)} {cap l m len : Nat} {p : Option Addr} (hd : Den R ρ O w (.lst T xs) (.slice p len cap)) (h1 : l ≤ m) (h2 : m ≤ xs.length) :
    Den R ρ O w (.lst T ((xs.take m).drop l)) (.slice (if cap = l then p else p.map (·.add (l * R.sz T))) (m - l) (cap - l)) ∧ len ≤ cap ∧ len = xs.length := by
  have emp : ∀ (p : Option Addr) (c : Nat), (p = none → c = 0) → Den R ρ O w (.lst T []) (.slice p 0 c) := fun p c h => by
    cases p with
    | none => rw [h rfl]; exact .lnil T 0 rfl
    | some q => exact .lempty T _ _ (by simp)
  cases hd with
  | lnil _ _ hc =>
    obtain rfl : m = 0 := by simpa using h2
    obtain rfl : l = 0 := by omega
    subst hc
    exact ⟨by simpa using emp none 0 (fun _ => rfl), Nat.le_refl _, rfl⟩
  | lempty _ _ _ hp =>
    obtain rfl : m = 0 := by simpa using h2
    obtain rfl : l = 0 := by omega
    refine ⟨?_, Nat.zero_le _, rfl⟩
    simp only [List.take_nil, List.drop_nil, Nat.sub_self, Nat.sub_zero]
    exact emp _ _ (fun h => by split at h <;> simp_all)
  | lst _ _ b off _ c F fz g ho hb hcap hc hdd =>
    refine ⟨?_, hcap, rfl⟩
    have hlen : ((xs.take m).drop l).length = m - l := by simp; omega
    by_cases e : m - l = 0
    · have : (xs.take m).drop l = [] := by apply List.eq_nil_of_length_eq_zero; omega
      rw [this, e]
      exact emp _ _ (fun h => by split at h <;> simp_all)
    · rw [if_neg (by omega), ← hlen]
      simp only [Option.map_some, add_off]
      have hget : ∀ (i : Nat) x, ((xs.take m).drop l)[i]? = some x → xs[l + i]? = some x := fun i x h => by
        rw [List.getElem?_drop, List.getElem?_take] at h
        split at h
        · exact h
        · cases h
      refine .lst T _ b (off + l * R.sz T) (cap - l) c F fz (fun i j => g (l + i) j) ho hb (by omega) (fun i x hx j hj => ?_) (fun i x hx j s hs => hdd _ x (hget i x hx) j s hs)
      have := hc _ x (hget i x hx) j hj
      rw [← this, Nat.add_mul]
      congr 1; omega

theorem snd_slice (hE : E.Ok P) (hI : SInv E.reg n X E0 ρ0 w0 st ρ a w) (hd : okDst n d = true) {T : TypeId} {x : SV A} {v : Value} {lo hi : Option (SV A)} {vl vh : Option Value}
    (hv : Den E.reg ρ (fun b => X b ∨ OwnB st.h ρ b) w x v) (hm : men st.u x = true) (hlo : ∀ l, bnd lo = some l → BndOk l vl) (hhi : ∀ l, bnd hi = some l → BndOk l vh) :
    Snd P E.reg n X E0 ρ0 w0 st a w d (xslice E T x lo hi) (Instr.sliceAt T v vl vh none) := by
  unfold xslice
  split
  · rename_i ti l0 m0 hti hl hh
    have hl := hlo l0 hl
    have hh := hhi m0 hh
    obtain ⟨dd, i, hdd, hii, hkd, _⟩ := tiOf_inv (hE.tt T ti hti)
    obtain ⟨l, hleq, hl'⟩ : ∃ l : Int, lowOf l0 = l ∧ LowIs l vl := by
      refine ⟨_, rfl, ?_⟩
      cases l0 <;> cases vl <;> first | rfl | exact hl | exact hl.elim
    dsimp only
    rw [hleq]
    split
    · rename_i elem hk
      rw [hk] at hkd
      obtain rfl := kind_slice hkd
      split
      · rename_i te hte
        have hsz := run_sizeOf_sx (hE.tt elem te hte)
        have hrun : ∀ (p : Option Addr) (len cap : Nat) (m : Int), HiIs m len vh → 0 ≤ l → l ≤ m → m ≤ len → len ≤ cap →
            (Instr.sliceAt T (.slice p len cap) vl vh none).run P w = .ok (.slice (if cap = l.toNat then p else p.map (·.add (l.toNat * te.size))) (m.toNat - l.toNat) (cap - l.toNat)) w := fun p len cap m hm h0 h1 h2 h3 => by
          have := run_bounds (P := P) (w := w) (isSlice := true) (len := len) (cap := cap) (lo := vl) (hi := vh) hl' hm h0 h1 (by omega) h3
          simp [Instr.sliceAt, run_underlying hdd, Instr.slice, this, hsz]
        split
        · rename_i h sz off len
          split
          · rename_i he
            obtain rfl := beq_true he
            have hvs : ∃ p cap, v = .slice p len cap := by
              cases hv with
              | slnil => exact ⟨_, _, rfl⟩
              | sl => exact ⟨_, _, rfl⟩
            obtain ⟨p, cap, rfl⟩ := hvs
            split
            · refine .vc fun ⟨h0, h1⟩ => ?_
              cases vh with
              | some => exact hh.elim
              | none =>
                obtain ⟨g1, g2⟩ := den_sl_cut hv (l := l.toNat) (m := len) (by omega) (Nat.le_refl _)
                exact .ret hI hd (by simpa using hrun p len cap len rfl h0 h1 (Int.le_refl _) g2) g1 hm
            · rename_i m _
              refine .vc fun ⟨h0, h1, h2⟩ => ?_
              cases vh with
              | none => exact hh.elim
              | some u =>
                obtain ⟨g1, g2⟩ := den_sl_cut hv (l := l.toNat) (m := m.toNat) (by omega) (by omega)
                exact .ret hI hd (hrun p len cap m hh h0 h1 h2 g2) g1 hm
          · exact .no
        · rename_i U xs
          split
          · rename_i he
            have he := beq_true he
            have hvs : ∃ p cap len, v = .slice p len cap := by
              cases hv with
              | lnil => exact ⟨_, _, _, rfl⟩
              | lempty => exact ⟨_, _, _, rfl⟩
              | lst => exact ⟨_, _, _, rfl⟩
            obtain ⟨p, cap, len, rfl⟩ := hvs
            split
            · refine .vc fun ⟨h0, h1⟩ => ?_
              cases vh with
              | some => exact hh.elim
              | none =>
                obtain ⟨g1, g2, g3⟩ := den_lst_cut hv (l := l.toNat) (m := xs.length) (by omega) (Nat.le_refl _)
                subst g3
                rw [List.take_length, he] at g1
                exact .ret hI hd (by simpa using hrun p xs.length cap xs.length rfl h0 h1 (Int.le_refl _) g2) g1 rfl
            · rename_i m _
              refine .vc fun ⟨h0, h1, h2⟩ => ?_
              cases vh with
              | none => exact hh.elim
              | some u =>
                obtain ⟨g1, g2, g3⟩ := den_lst_cut hv (l := l.toNat) (m := m.toNat) (by omega) (by omega)
                subst g3
                rw [he] at g1
                exact .ret hI hd (hrun p xs.length cap m hh h0 h1 h2 g2) g1 rfl
          · exact .no
        · exact .no
      · exact .no
    · rename_i hk
      rw [hk] at hkd
      obtain rfl := kind_str hkd
      split
      · rename_i s
        obtain rfl := val_inv hv
        have hrun : ∀ (m : Int), HiIs m s.size vh → 0 ≤ l → l ≤ m → m ≤ s.size →
            (Instr.sliceAt T (.string s) vl vh none).run P w = .ok (.string (s.extract l.toNat m.toNat)) w := fun m hm h0 h1 h2 => by
          have := run_bounds (P := P) (w := w) (isSlice := false) (len := s.size) (cap := s.size) (lo := vl) (hi := vh) hl' hm h0 h1 h2 (Nat.le_refl _)
          simp [Instr.sliceAt, run_underlying hdd, Instr.slice, this]
        split
        · refine .vc fun ⟨h0, h1⟩ => ?_
          cases vh with
          | some => exact hh.elim
          | none => exact .ret hI hd (by simpa using hrun s.size rfl h0 h1 (Int.le_refl _)) (.val _) rfl
        · rename_i m _
          refine .vc fun ⟨h0, h1, h2⟩ => ?_
          cases vh with
          | none => exact hh.elim
          | some u => exact .ret hI hd (hrun m hh h0 h1 h2) (.val _) rfl
      · exact .no
    · exact .no
  · exact .no
end
end Go.Sx
