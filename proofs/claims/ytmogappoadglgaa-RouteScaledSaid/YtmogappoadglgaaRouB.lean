/-
  Layer 12, part B: bits.Mul (the kit's contract, laid: the two tables as the kit's own program prints them), slices.Repeat of one number.
-/
import Derived.Shelf.Bits.Mul64
import Derived.Test.YtmogappoadglgaaRouA
namespace Go.Proofs
open Go.Shelf
def RouM.l264_ren : Go.Shelf.Ren := ⟨fun | 264 => 107 | n => n, fun | 53 => 135 | 46 => 126 | n => n, fun | n => n⟩
theorem RouM.l264 : Go.Proofs.Lays.n264 Try.prog RouM.l264_ren := {
  mixed := by kernel_rfl
  f264 := Try.func107.trans (congrArg some (by kernel_rfl))
  t46 := Try.underlying126
  a46 := Try.isAgg126
  z46 := Try.sizeOf126
  v46 := Try.zeroValue126
  t53 := Try.underlying135
  a53 := Try.isAgg135
  z53 := Try.sizeOf135
  v53 := Try.zeroValue135 }
def RouM.l212_ren : Go.Shelf.Ren := ⟨fun | 212 => 98 | 263 => 106 | 264 => 107 | n => n, fun | 46 => 126 | 51 => 132 | 146 => 133 | 53 => 135 | 148 => 136 | n => n, fun | n => n⟩
theorem RouM.l212 : Go.Proofs.Lays.n212 Try.prog RouM.l212_ren := {
  mixed := by kernel_rfl
  f212 := Try.func98.trans (congrArg some (by kernel_rfl))
  f263 := Try.func106.trans (congrArg some (by kernel_rfl))
  f264 := Try.func107.trans (congrArg some (by kernel_rfl))
  t46 := Try.underlying126
  a46 := Try.isAgg126
  z46 := Try.sizeOf126
  v46 := Try.zeroValue126
  t51 := Try.underlying132
  a51 := Try.isAgg132
  z51 := Try.sizeOf132
  v51 := Try.zeroValue132
  t53 := Try.underlying135
  a53 := Try.isAgg135
  z53 := Try.sizeOf135
  v53 := Try.zeroValue135
  t146 := Try.underlying133
  a146 := Try.isAgg133
  z146 := Try.sizeOf133
  v146 := Try.zeroValue133
  t148 := Try.underlying136
  a148 := Try.isAgg136
  z148 := Try.sizeOf136
  v148 := Try.zeroValue136 }
end Go.Proofs
namespace Go.Sx
open Go Go.Proofs Go.Proofs.Ytmogappoadglgaa
abbrev vU (n : Nat) : SV AF := .val (.int .u64 (n : Int))
def spMul : Spec AF where
  γ := Nat × Nat
  δ := Unit
  args := fun g => [vU g.1, vU g.2]
  own := fun _ => []
  pre := fun g => g.1 < 18446744073709551616 ∧ g.2 < 18446744073709551616
  nnew := 0
  res := fun g _ => .tup [vU (g.1 * g.2 / 18446744073709551616), vU (g.1 * g.2 % 18446744073709551616)]
  own' := fun _ _ => []
  post := fun _ _ => True
theorem m_mul : Meets Try.prog regF 98 spMul := by
  refine ⟨⟨_, Try.func98, by kernel_rfl, by kernel_rfl⟩, ?_⟩
  rintro ⟨(x : Nat), (y : Nat)⟩ ⟨(hx : x < 18446744073709551616), (hy : y < 18446744073709551616)⟩ X ρ w ⟨vs⟩ hX1 hX2 hargs hown
  obtain ⟨hl, hd⟩ := hargs
  match vs, hl with
  | [a, b], _ =>
    have ha := val_inv (hd 0 (vU x) a rfl rfl)
    have hb := val_inv (hd 1 (vU y) b rfl rfl)
    subst ha; subst hb
    refine (Any.bits_Mul RouM.l212 x y hx hy w).mono fun e w' h => ?_
    obtain ⟨rfl, rfl⟩ := h
    refine ⟨(), ρ, _, trivial, rfl, fun _ _ => rfl, .tup _ _ rfl fun j s v hs hv => ?_, ⟨fun h ct hh => by simp [spMul] at hh, fun h h' ct ct' b base base' hh => by simp [spMul] at hh⟩, fun b ⟨h, ct, base, hh, _⟩ => by simp [spMul] at hh, rfl, rfl, fun h ct hh => by simp [spMul] at hh, .refl⟩
    match j with
    | 0 => simp at hs hv; subst hs; subst hv; exact .val _
    | 1 => simp at hs hv; subst hs; subst hv; exact .val _
    | j + 2 => simp at hs
def spMul1 : Spec AF where
  γ := Nat
  δ := Unit
  args := fun g => [vU 1, vU g]
  own := fun _ => []
  pre := fun g => g < 18446744073709551616
  nnew := 0
  res := fun g _ => .tup [vU 0, vU g]
  own' := fun _ _ => []
  post := fun _ _ => True
theorem m_mul1 : Meets Try.prog regF 98 spMul1 :=
  ⟨m_mul.1, fun (g : Nat) (hg : g < 18446744073709551616) X ρ w vs h1 h2 h3 h4 => (m_mul.2 (1, g) ⟨by show (1 : Nat) < _; decide, hg⟩ X ρ w vs h1 h2 h3 h4).mono fun _ _ hp => by
    obtain ⟨d, ρ', v, _, he, hρ, hd, rest⟩ := hp
    have e : spMul.res (1, g) d = spMul1.res g () := by
      show SV.tup [vU (1 * g / 18446744073709551616), vU (1 * g % 18446744073709551616)] = SV.tup [vU 0, vU g]
      rw [Nat.one_mul, Nat.div_eq_of_lt hg, Nat.mod_eq_of_lt hg]
    exact ⟨(), ρ', v, trivial, he, hρ, e ▸ hd, rest⟩⟩
def repC (x : Int) (m c : Nat) : List Int := List.replicate m x ++ List.replicate (c - m) 0
theorem rep_step {x : Int} {m c : Nat} (h : m ≤ c) : (repC x m c).take m ++ (((repC x m c).drop 0).take (min m (c - m))) ++ (repC x m c).drop (m + min m (c - m)) = repC x (m + min m (c - m)) c := by
  unfold repC
  rw [List.drop_zero, List.take_append_of_le_length (by simp), List.take_append_of_le_length (by simp; omega)]
  rw [List.take_replicate, List.take_replicate, List.drop_append]
  simp only [List.length_replicate, List.drop_replicate]
  rw [show min m m = m by omega, show m - (m + min m (c - m)) = 0 by omega, show min (min m (c - m)) m = min m (c - m) by omega]
  rw [List.replicate_zero, List.nil_append, List.replicate_append_replicate]
  congr 2
  omega
def spRepeat : Spec AF where
  γ := Int × Nat
  δ := Unit
  args := fun g => [.sl 0 1 0 1, vI (g.2 : Int)]
  own := fun g => [.arr 3 [g.1]]
  pre := fun g => 1 ≤ g.2 ∧ g.2 ≤ 1000
  nnew := 1
  res := fun g _ => .sl 1 1 0 g.2
  own' := fun g _ => [some (.arr 3 [g.1]), some (.arr 3 (List.replicate g.2 g.1))]
  post := fun _ _ => True
theorem m_repeat : Meets Try.prog regF 84 spRepeat := by
  refine meets Try.func84 48 noWr rfl (by kernel_rfl) (by kernel_rfl) ?_
  rintro ⟨(x : Int), (c : Nat)⟩ ⟨(hc1 : 1 ≤ c), (hc2 : c ≤ 1000)⟩
  conv => whnf
  repeat' (first | (refine tell (fun htest => ?_) (fun htest => ?_) <;> (try dsimp only at htest) <;> first | (exfalso; omega) | (exact absurd rfl htest) | (exact absurd (by decide) htest) | (conv => whnf)) | (refine allG rfl ?_; conv => whnf) | (refine And.intro (by first | omega | assumption | kernel_rfl | exact And.intro rfl rfl | ((try dsimp only [inR, idx, lowOf]); first | omega | (with_reducible decide) | (simp; omega) | fail) | fail) ?_; conv => whnf) | fail)
  have w64 : ∀ k : Nat, k < 18446744073709551616 → IntKind.u64.wrap (k : Int) = (k : Int) := fun k hk => by rw [IntKind.wrap_u64]; omega
  have wi64 : ∀ k : Nat, k < 9223372036854775808 → IntKind.i64.wrap (k : Int) = (k : Int) := fun k hk => by rw [IntKind.wrap_i64]; omega
  refine ⟨_, m_mul1, c, [], false, ?_⟩
  conv => whnf
  refine And.intro (vc0 (show c < 18446744073709551616 by omega) (by (repeat' (first | exact trivial | exact rfl | refine And.intro ?_ ?_ | (refine congrArg vI ?_; first | omega | (dsimp only; omega) | fail) | (refine congrArg some ?_) | omega | exact Nat.le_refl _ | exact congrArg (SV.lst _) (List.take_of_length_le (Nat.le_refl _)).symm)); all_goals (exact congrArg (fun z : Int => (SV.val (Value.int .u64 z) : SV AF)) (w64 _ (by omega)))) (by repeat' (first | exact trivial | exact rfl | refine And.intro ?_ ?_ | (refine congrArg vI ?_; first | omega | (dsimp only; omega) | fail) | (refine congrArg some ?_) | omega | exact Nat.le_refl _ | exact congrArg (SV.lst _) (List.take_of_length_le (Nat.le_refl _)).symm)) trivial trivial) ?_
  refine And.intro ⟨(), trivial⟩ (fun (_ : Unit) _ => ?_)
  conv => whnf
  conv => whnf
  repeat' (first | (refine tell (fun htest => ?_) (fun htest => ?_) <;> (try dsimp only at htest) <;> first | (exfalso; omega) | (exact absurd rfl htest) | (exact absurd (by decide) htest) | (conv => whnf)) | (refine allG rfl ?_; conv => whnf) | (refine And.intro (by first | omega | assumption | kernel_rfl | exact And.intro rfl rfl | ((try dsimp only [inR, idx, lowOf]); first | omega | (with_reducible decide) | (simp; omega) | fail) | fail) ?_; conv => whnf) | fail)
  rw [wi64 c (by omega)]
  refine And.intro ⟨rfl, by omega, by omega, by omega⟩ ?_
  rw [Int.toNat_natCast]
  conv => whnf
  repeat' (first | (refine tell (fun htest => ?_) (fun htest => ?_) <;> (try dsimp only at htest) <;> first | (exfalso; omega) | (exact absurd rfl htest) | (exact absurd (by decide) htest) | (conv => whnf)) | (refine allG rfl ?_; conv => whnf) | (refine And.intro (by first | omega | assumption | kernel_rfl | exact And.intro rfl rfl | ((try dsimp only [inR, idx, lowOf]); first | omega | (with_reducible decide) | (simp; omega) | fail) | fail) ?_; conv => whnf) | fail)
  refine ⟨Nat, fun m => ⟨[(7, .sl 3000 1 0 c), (8, vI m)], [(0, .arr 3 [x]), (3000, .arr 3 (repC x m c))]⟩, fun m => 1 ≤ m ∧ m ≤ c, fun m => c - m, fun _ _ => rfl, ⟨1, [(3000, 1030)], ⟨Nat.le_refl 1, hc1⟩, ?_⟩, ?_⟩
  · refine ⟨rfl, ?_, ?_, rfl⟩
    all_goals (repeat' (first | exact trivial | exact rfl | refine And.intro ?_ ?_ | (refine congrArg vI ?_; first | omega | (dsimp only; omega) | fail) | (refine congrArg some ?_) | omega | exact Nat.le_refl _ | exact congrArg (SV.lst _) (List.take_of_length_le (Nat.le_refl _)).symm))
    all_goals (exact congrArg (Ct.arr (A := AF) 3) (show (List.replicate c (0 : Int)).take 0 ++ ([x].drop 0).take (min 1 c) ++ (List.replicate c 0).drop (0 + min 1 c) = repC x 1 c by rw [show min 1 c = 1 by omega]; simp [repC]))
  rintro (m : Nat) ⟨(hm1 : 1 ≤ m), (hmc : m ≤ c)⟩
  by_cases hlt : m < c
  · have hst := rep_step (x := x) (m := m) (c := c) (by omega)
    have hln : (repC x m c).length = c := by simp [repC]; omega
    conv => whnf
    repeat' (first | (refine tell (fun htest => ?_) (fun htest => ?_) <;> (try dsimp only at htest) <;> first | (exfalso; omega) | (exact absurd rfl htest) | (exact absurd (by decide) htest) | (conv => whnf)) | (refine allG rfl ?_; conv => whnf) | (refine And.intro (by first | omega | assumption | kernel_rfl | exact And.intro rfl rfl | ((try dsimp only [inR, idx, lowOf]); first | omega | (with_reducible decide) | (simp; omega) | fail) | fail) ?_; conv => whnf) | fail)
    refine ⟨m + min m (c - m), [], ⟨by omega, by omega⟩, ?_, rfl, ?_, ?_, rfl⟩
    · dsimp only; omega
    · refine And.intro rfl (And.intro ?_ trivial)
      exact congrArg vI (show (m : Int) + ((min (m - 0) (c - m) : Nat) : Int) = ((m + min m (c - m) : Nat) : Int) by omega)
    · refine And.intro rfl (And.intro ?_ trivial)
      exact congrArg (Ct.arr (A := AF) 3) (show (repC x m c).take (0 + m) ++ (((repC x m c).drop 0).take (min (m - 0) (c - m))) ++ (repC x m c).drop (0 + m + min (m - 0) (c - m)) = repC x (m + min m (c - m)) c by rw [Nat.sub_zero, Nat.zero_add]; exact hst)
  · have hme : m = c := by omega
    subst hme
    conv => whnf
    repeat' (first | (refine tell (fun htest => ?_) (fun htest => ?_) <;> (try dsimp only at htest) <;> first | (exfalso; omega) | (exact absurd rfl htest) | (exact absurd (by decide) htest) | (conv => whnf)) | (refine allG rfl ?_; conv => whnf) | (refine And.intro (by first | omega | assumption | kernel_rfl | exact And.intro rfl rfl | ((try dsimp only [inR, idx, lowOf]); first | omega | (with_reducible decide) | (simp; omega) | fail) | fail) ?_; conv => whnf) | fail)
    exact ⟨(), [3000], trivial, rfl, ⟨rfl, congrArg (Ct.arr (A := AF) 3) (show repC x m m = List.replicate m x by simp [repC]), trivial⟩, trivial⟩
end Go.Sx

