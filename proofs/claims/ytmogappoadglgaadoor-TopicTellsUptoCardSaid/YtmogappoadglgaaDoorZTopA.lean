/-
  Layer 7, part A: strings.TrimLeft with a set of signs; Name, the program's and the document's.
-/
import Derived.Lib.Strings
import Derived.Test.YtmogappoadglgaaDoorZTopT
import Derived.Test.YtmogappoadglgaaDoorZTra
set_option linter.unusedVariables false
set_option linter.unusedSimpArgs false
namespace Go.Sx
open Go Go.Proofs Go.Proofs.YtmogappoadglgaaDoor Go.Shelf
abbrev bS (l : List UInt8) : ByteArray := ⟨l.toArray⟩
abbrev vS (l : List UInt8) : SV AF := .val (.string ⟨l.toArray⟩)
theorem toList_bS (l : List UInt8) : ByteArray.toList ⟨l.toArray⟩ = l := Lib.toList_data _
theorem size_bS (l : List UInt8) : (⟨l.toArray⟩ : ByteArray).size = l.length := by show (⟨l.toArray⟩ : ByteArray).data.size = _; simp
theorem bS_inj {a b : List UInt8} : ByteArray.toList ⟨a.toArray⟩ = ByteArray.toList ⟨b.toArray⟩ ↔ a = b := by rw [toList_bS, toList_bS]
theorem bS_cut (l : List UInt8) (i j : Nat) : (⟨l.toArray⟩ : ByteArray).extract i j = ⟨((l.take j).drop i).toArray⟩ := by
  apply ByteArray.ext
  rw [ByteArray.data_extract]
  apply Array.ext'
  simp [List.extract_eq_take_drop, List.drop_take]
theorem bS_drop (l : List UInt8) (i : Nat) : (⟨l.toArray⟩ : ByteArray).extract i (⟨l.toArray⟩ : ByteArray).size = ⟨(l.drop i).toArray⟩ := by rw [bS_cut, size_bS, List.take_length]
theorem bS_append (a b : List UInt8) : (⟨a.toArray⟩ : ByteArray) ++ ⟨b.toArray⟩ = ⟨(a ++ b).toArray⟩ := by
  apply ByteArray.ext
  rw [ByteArray.data_append]
  simp
/-- May a sign stand in a name? -/
def okB (b : UInt8) : Bool := (97 ≤ b.toNat && b.toNat ≤ 122) || (65 ≤ b.toNat && b.toNat ≤ 90) || (48 ≤ b.toNat && b.toNat ≤ 57) || b.toNat == 95 || b.toNat == 46 || b.toNat == 58 || b.toNat == 45
abbrev charsL : List UInt8 := [97, 98, 99, 100, 101, 102, 103, 104, 105, 106, 107, 108, 109, 110, 111, 112, 113, 114, 115, 116, 117, 118, 119, 120, 121, 122, 65, 66, 67, 68, 69, 70, 71, 72, 73, 74, 75, 76, 77, 78, 79, 80, 81, 82, 83, 84, 85, 86, 87, 88, 89, 90, 48, 49, 50, 51, 52, 53, 54, 55, 56, 57, 95, 46, 58, 45]
def setL : List Bool := (List.range 256).map fun n => okB (UInt8.ofNat n)
theorem setL_get (b : UInt8) : setL[((b.toNat : Nat) : Int).toNat]? = some (okB b) := by
  have := UInt8.toNat_lt b
  simp [setL, this]
theorem setL_cells : Lib.setCells charsL = (setL.map Value.bool).toArray := by kernel_rfl
theorem den_flat {R : Reg AF} {ρ : Rho} {O : Nat → Prop} {w : World} {us : List Value} : Den R ρ O w (.agg (us.map .val)) (.agg us.toArray) := by
  refine Den.agg _ _ (by simp) fun j s v hs hv => ?_
  rw [List.getElem?_map] at hs
  cases hj : us[j]? with
  | none => rw [hj] at hs; cases hs
  | some u =>
    rw [hj] at hs; cases hs
    have : us.toArray[j]? = some u := by simp [hj]
    rw [this] at hv; cases hv
    exact .val _
def spSet : Spec AF where
  γ := Unit
  δ := Unit
  args := fun _ => [vS charsL]
  own := fun _ => []
  pre := fun _ => True
  nnew := 0
  res := fun _ _ => .tup [.aggl 4 setL, vB true]
  own' := fun _ _ => []
  post := fun _ _ => True
theorem setL_flat : (setL : List Bool).flatMap (regF.enc 4) = (setL.map Value.bool).map .val := by kernel_rfl
theorem args1' {vs : Array Value} {R : Reg AF} {ρ : Rho} {O : Nat → Prop} {w : World} {a : SV AF} (h : DenL R ρ O w [a] vs.toList) : ∃ u, vs = #[u] ∧ Den R ρ O w a u := by
  obtain ⟨h1, h2⟩ := h
  obtain ⟨l⟩ := vs
  match l, h1, h2 with
  | [u], _, h2 => exact ⟨u, rfl, h2 0 a u rfl rfl⟩
set_option maxRecDepth 100000 in
theorem m_set : Meets Tryd.prog regF 94 spSet := by
  refine ⟨⟨_, Tryd.func94, by kernel_rfl, by kernel_rfl⟩, ?_⟩
  intro _ _ X ρ w vs hX1 hX2 hargs hown
  have hobt := args1' hargs
  obtain ⟨u, rfl, hu⟩ := hobt
  have hu : u = .string ⟨charsL.toArray⟩ := by cases hu; rfl
  subst hu
  refine (Any.strings_makeASCIISet TopT.set (by intro w; exact Tryd.zeroValue146 w) (by kernel_rfl) ⟨charsL.toArray⟩ w (by decide) (by
    intro j b hb
    have : ∀ b ∈ charsL, b.toNat < 128 := by decide
    exact this b (List.mem_of_getElem? hb))).mono ?_
  rintro e w' ⟨rfl, rfl⟩
  have hrel : WRel (fun _ => False) w (w.alloc (.cells (Lib.setCells charsL) (TopT.set_ren.t 116))) := WRel.refl.alloc _
  refine ⟨(), ρ, _, trivial, rfl, fun _ _ => rfl, ?_, ⟨fun h ct hct => by simp [spSet] at hct, fun h h' ct ct' k base base' hct hct' e e' => by simp [spSet] at hct⟩, fun k hk => ?_, rfl, rfl, fun h ct hct => by simp [spSet] at hct, ?_⟩
  · refine Den.tup _ _ rfl fun j a v ha hv => ?_
    match j, ha, hv with
    | 0, ha, hv =>
      cases ha; cases hv
      refine .aggl _ _ _ ?_
      rw [setL_flat]
      show Den _ _ _ _ _ (.agg (Lib.setCells charsL))
      rw [setL_cells]
      exact den_flat
    | 1, ha, hv => cases ha; cases hv; exact .val _
  · obtain ⟨h, ct, base, hct, hr⟩ := hk
    simp [spSet] at hct
  · exact ⟨hrel.os, hrel.tape, hrel.output, hrel.size, fun k hk hn => hrel.block k hk (fun e => e), hrel.shape⟩
def spHasB : Spec AF where
  γ := UInt8
  δ := Unit
  args := fun b => [.ptr 0 0 256 0, .val (.int .u8 ((b.toNat : Nat) : Int))]
  own := fun _ => [.arr 4 setL]
  pre := fun _ => True
  nnew := 0
  res := fun b _ => vB (okB b)
  own' := fun _ _ => [some (.arr 4 setL)]
  post := fun _ _ => True
theorem m_hasB : Meets Tryd.prog regF 112 spHasB := by
  refine meets Tryd.func112 10 noWr rfl (by kernel_rfl) (by kernel_rfl) ?_
  rintro (b : UInt8) _
  have hobt : ∃ x, x = okB b ∧ setL[((b.toNat : Nat) : Int).toNat]? = some x := ⟨_, rfl, setL_get b⟩
  obtain ⟨x, hx, h⟩ := hobt
  have hb := UInt8.toNat_lt b
  conv => whnf
  repeat' (first | (refine tell (fun hQ => ?_) (fun hQ => ?_) <;> (try dsimp only at hQ) <;> first | (exfalso; omega) | (exact absurd rfl hQ) | (exact absurd hQ hne) | (exact absurd hne hQ) | (exact absurd hQ hcne) | (exact absurd hQ t1) | (exact absurd t1 hQ) | (exact absurd (by decide) hQ) | (conv => whnf)) | (refine allG (x := x) (by first | exact h | simpa [List.getElem?_append_right, lowOf] using h | fail) ?_; conv => whnf) | (refine allLst (x := x) (by first | omega | assumption | fail) (by first | exact h | simpa using h | fail) ?_; conv => whnf) | (refine allG rfl ?_; conv => whnf) | (refine And.intro (by first | omega | assumption | kernel_rfl | exact And.intro rfl rfl | ((try dsimp only [inR, idx, lowOf]); first | omega | (with_reducible decide) | (simp; omega) | (simp; done) | fail) | fail) ?_; conv => whnf) | fail)
  exact ⟨(), [], trivial, eB hx, ⟨rfl, trivial⟩, trivial⟩
def spTrimA : Spec AF where
  γ := List UInt8
  δ := Unit
  args := fun l => [vS l, .ptr 0 0 256 0]
  own := fun _ => [.arr 4 setL]
  pre := fun _ => True
  nnew := 0
  res := fun l _ => vS (l.dropWhile okB)
  own' := fun _ _ => [some (.arr 4 setL)]
  post := fun _ _ => True
theorem eVS {R : Reg AF} {st : St AF} {a b : List UInt8} (h : a = b) : EntR R st (vS a) (vS b) := congrArg vS h
set_option maxRecDepth 100000 in
theorem m_trimA : Meets Tryd.prog regF 95 spTrimA := by
  refine meets Tryd.func95 16 noWr rfl (by kernel_rfl) (by kernel_rfl) ?_
  rintro (l0 : List UInt8) _
  conv => whnf
  repeat' (first | (refine tell (fun hQ => ?_) (fun hQ => ?_) <;> (try dsimp only at hQ) <;> first | (exfalso; omega) | (exact absurd rfl hQ) | (exact absurd hQ hne) | (exact absurd hne hQ) | (exact absurd hQ hcne) | (exact absurd hQ t1) | (exact absurd t1 hQ) | (exact absurd (by decide) hQ) | (conv => whnf)) | (refine allG rfl ?_; conv => whnf) | (refine And.intro (by first | omega | assumption | kernel_rfl | exact And.intro rfl rfl | ((try dsimp only [inR, idx, lowOf]); first | omega | (with_reducible decide) | (simp; omega) | (simp; done) | fail) | fail) ?_; conv => whnf) | fail)
  refine ⟨List UInt8, fun l => ⟨[(0, vS l), (1, .ptr 0 0 256 0)], [(0, .arr 4 setL)]⟩, fun l => l.dropWhile okB = l0.dropWhile okB, fun l => l.length, fun _ _ => rfl, ⟨l0, [], rfl, ?_⟩, ?_⟩
  · refine ⟨rfl, ?_, ?_, rfl⟩
    all_goals (repeat' (first | exact trivial | exact rfl | refine And.intro ?_ ?_ | (refine congrArg vI ?_; first | omega | (dsimp only; omega) | fail) | (refine congrArg some ?_) | omega | exact Nat.le_refl _ | exact congrArg (SV.lst _) (List.take_of_length_le (Nat.le_refl _)).symm))
  rintro (l : List UInt8) (hl : l.dropWhile okB = l0.dropWhile okB)
  have hz := size_bS l
  cases l with
  | nil =>
    have hz0 : (⟨#[]⟩ : ByteArray).size = 0 := rfl
    conv => whnf
    repeat' (first | (refine tell (fun hQ => ?_) (fun hQ => ?_) <;> (try dsimp only at hQ) <;> first | (exfalso; omega) | (exact absurd rfl hQ) | (exact absurd hQ hne) | (exact absurd hne hQ) | (exact absurd hQ hcne) | (exact absurd hQ t1) | (exact absurd t1 hQ) | (exact absurd (by decide) hQ) | (conv => whnf)) | (refine allG rfl ?_; conv => whnf) | (refine And.intro (by first | omega | assumption | kernel_rfl | exact And.intro rfl rfl | ((try dsimp only [inR, idx, lowOf]); first | omega | (with_reducible decide) | (simp; omega) | (simp; done) | fail) | fail) ?_; conv => whnf) | fail)
    exact ⟨(), [], trivial, eVS hl, ⟨rfl, trivial⟩, trivial⟩
  | cons x l =>
    have hz2 : (x :: l).length = l.length + 1 := rfl
    conv => whnf
    repeat' (first | (refine tell (fun hQ => ?_) (fun hQ => ?_) <;> (try dsimp only at hQ) <;> first | (exfalso; omega) | (exact absurd rfl hQ) | (exact absurd hQ hne) | (exact absurd hne hQ) | (exact absurd hQ hcne) | (exact absurd hQ t1) | (exact absurd t1 hQ) | (exact absurd (by decide) hQ) | (conv => whnf)) | (refine allG rfl ?_; conv => whnf) | (refine And.intro (by first | omega | assumption | kernel_rfl | exact And.intro rfl rfl | ((try dsimp only [inR, idx, lowOf]); first | omega | (with_reducible decide) | (simp; omega) | (simp; done) | fail) | fail) ?_; conv => whnf) | fail)
    refine ⟨_, m_hasB, x, [0], false, ?_⟩
    conv => whnf
    refine And.intro (vc0 trivial (by (repeat' (first | exact trivial | exact rfl | refine And.intro ?_ ?_ | (refine congrArg vI ?_; first | omega | (dsimp only; omega) | fail) | (refine congrArg some ?_) | omega | exact Nat.le_refl _ | exact congrArg (SV.lst _) (List.take_of_length_le (Nat.le_refl _)).symm))) (by repeat' (first | exact trivial | exact rfl | refine And.intro ?_ ?_ | (refine congrArg vI ?_; first | omega | (dsimp only; omega) | fail) | (refine congrArg some ?_) | omega | exact Nat.le_refl _ | exact congrArg (SV.lst _) (List.take_of_length_le (Nat.le_refl _)).symm)) trivial trivial) ?_
    refine And.intro ⟨(), trivial⟩ (fun (_ : Unit) _ => ?_)
    conv => whnf
    cases hx : okB x
    · rw [List.dropWhile_cons, hx] at hl
      conv => whnf
      repeat' (first | (refine tell (fun hQ => ?_) (fun hQ => ?_) <;> (try dsimp only at hQ) <;> first | (exfalso; omega) | (exact absurd rfl hQ) | (exact absurd hQ hne) | (exact absurd hne hQ) | (exact absurd hQ hcne) | (exact absurd hQ t1) | (exact absurd t1 hQ) | (exact absurd (by decide) hQ) | (conv => whnf)) | (refine allG rfl ?_; conv => whnf) | (refine And.intro (by first | omega | assumption | kernel_rfl | exact And.intro rfl rfl | ((try dsimp only [inR, idx, lowOf]); first | omega | (with_reducible decide) | (simp; omega) | (simp; done) | fail) | fail) ?_; conv => whnf) | fail)
      exact ⟨(), [], trivial, eVS hl, ⟨rfl, trivial⟩, trivial⟩
    · rw [List.dropWhile_cons, hx] at hl
      have hcut := bS_drop (x :: l) 1
      conv => whnf
      repeat' (first | (refine tell (fun hQ => ?_) (fun hQ => ?_) <;> (try dsimp only at hQ) <;> first | (exfalso; omega) | (exact absurd rfl hQ) | (exact absurd hQ hne) | (exact absurd hne hQ) | (exact absurd hQ hcne) | (exact absurd hQ t1) | (exact absurd t1 hQ) | (exact absurd (by decide) hQ) | (conv => whnf)) | (refine allG rfl ?_; conv => whnf) | (refine And.intro (by first | omega | assumption | kernel_rfl | exact And.intro rfl rfl | ((try dsimp only [inR, idx, lowOf]); first | omega | (with_reducible decide) | (simp; omega) | (simp; done) | fail) | fail) ?_; conv => whnf) | fail)
      refine ⟨l, [], hl, ?_, rfl, ?_, ?_, rfl⟩
      · dsimp only; first | omega | (simp; done) | (simp; omega)
      all_goals (repeat' (first | exact trivial | exact rfl | refine And.intro ?_ ?_ | (refine congrArg vI ?_; first | omega | (dsimp only; omega) | fail) | (refine congrArg some ?_) | omega | exact Nat.le_refl _ | exact congrArg (SV.lst _) (List.take_of_length_le (Nat.le_refl _)).symm))
      all_goals exact congrArg (fun y => SV.val (A := AF) (.string y)) hcut
/-- TrimLeft with the signs of names. -/
def spTrim : Spec AF where
  γ := List UInt8
  δ := Unit
  args := fun l => [vS l, vS charsL]
  own := fun _ => []
  pre := fun _ => True
  nnew := 0
  res := fun l _ => vS (l.dropWhile okB)
  own' := fun _ _ => []
  post := fun _ _ => True
set_option maxRecDepth 100000 in
theorem m_trim : Meets Tryd.prog regF 75 spTrim := by
  refine meets Tryd.func75 37 noWr rfl (by kernel_rfl) (by kernel_rfl) ?_
  rintro (l : List UInt8) _
  have hcs : (⟨charsL.toArray⟩ : ByteArray).size = 66 := by decide
  have hcne : ¬ (ByteArray.toList ⟨charsL.toArray⟩ = ByteArray.toList ⟨#[]⟩) := fun e => absurd ((bS_inj (b := [])).1 e) (by decide)
  cases l with
  | nil =>
    conv => whnf
    repeat' (first | (refine tell (fun hQ => ?_) (fun hQ => ?_) <;> (try dsimp only at hQ) <;> first | (exfalso; omega) | (exact absurd rfl hQ) | (exact absurd hQ hne) | (exact absurd hne hQ) | (exact absurd hQ hcne) | (exact absurd hQ t1) | (exact absurd t1 hQ) | (exact absurd (by decide) hQ) | (conv => whnf)) | (refine allG rfl ?_; conv => whnf) | (refine And.intro (by first | omega | assumption | kernel_rfl | exact And.intro rfl rfl | ((try dsimp only [inR, idx, lowOf]); first | omega | (with_reducible decide) | (simp; omega) | (simp; done) | fail) | fail) ?_; conv => whnf) | fail)
    exact ⟨(), [], trivial, rfl, trivial, trivial⟩
  | cons x l =>
    have hne : ¬ (ByteArray.toList ⟨(x :: l).toArray⟩ = ByteArray.toList ⟨#[]⟩) := fun e => absurd ((bS_inj (b := [])).1 e) (by simp)
    conv => whnf
    repeat' (first | (refine tell (fun hQ => ?_) (fun hQ => ?_) <;> (try dsimp only at hQ) <;> first | (exfalso; omega) | (exact absurd rfl hQ) | (exact absurd hQ hne) | (exact absurd hne hQ) | (exact absurd hQ hcne) | (exact absurd hQ t1) | (exact absurd t1 hQ) | (exact absurd (by decide) hQ) | (conv => whnf)) | (refine allG rfl ?_; conv => whnf) | (refine And.intro (by first | omega | assumption | kernel_rfl | exact And.intro rfl rfl | ((try dsimp only [inR, idx, lowOf]); first | omega | (with_reducible decide) | (simp; omega) | (simp; done) | fail) | fail) ?_; conv => whnf) | fail)
    refine ⟨_, m_set, (), [], false, ?_⟩
    conv => whnf
    refine And.intro (vc0 trivial (by (repeat' (first | exact trivial | exact rfl | refine And.intro ?_ ?_ | (refine congrArg vI ?_; first | omega | (dsimp only; omega) | fail) | (refine congrArg some ?_) | omega | exact Nat.le_refl _ | exact congrArg (SV.lst _) (List.take_of_length_le (Nat.le_refl _)).symm))) (by repeat' (first | exact trivial | exact rfl | refine And.intro ?_ ?_ | (refine congrArg vI ?_; first | omega | (dsimp only; omega) | fail) | (refine congrArg some ?_) | omega | exact Nat.le_refl _ | exact congrArg (SV.lst _) (List.take_of_length_le (Nat.le_refl _)).symm)) trivial trivial) ?_
    refine And.intro ⟨(), trivial⟩ (fun (_ : Unit) _ => ?_)
    conv => whnf
    conv => whnf
    repeat' (first | (refine tell (fun hQ => ?_) (fun hQ => ?_) <;> (try dsimp only at hQ) <;> first | (exfalso; omega) | (exact absurd rfl hQ) | (exact absurd hQ hne) | (exact absurd hne hQ) | (exact absurd hQ hcne) | (exact absurd hQ t1) | (exact absurd t1 hQ) | (exact absurd (by decide) hQ) | (conv => whnf)) | (refine allG rfl ?_; conv => whnf) | (refine And.intro (by first | omega | assumption | kernel_rfl | exact And.intro rfl rfl | ((try dsimp only [inR, idx, lowOf]); first | omega | (with_reducible decide) | (simp; omega) | (simp; done) | fail) | fail) ?_; conv => whnf) | fail)
    refine ⟨_, m_trimA, x :: l, [1005], false, ?_⟩
    conv => whnf
    refine And.intro (vc0 trivial (by (repeat' (first | exact trivial | exact rfl | refine And.intro ?_ ?_ | (refine congrArg vI ?_; first | omega | (dsimp only; omega) | fail) | (refine congrArg some ?_) | omega | exact Nat.le_refl _ | exact congrArg (SV.lst _) (List.take_of_length_le (Nat.le_refl _)).symm))) (by repeat' (first | exact trivial | exact rfl | refine And.intro ?_ ?_ | (refine congrArg vI ?_; first | omega | (dsimp only; omega) | fail) | (refine congrArg some ?_) | omega | exact Nat.le_refl _ | exact congrArg (SV.lst _) (List.take_of_length_le (Nat.le_refl _)).symm)) trivial trivial) ?_
    refine And.intro ⟨(), trivial⟩ (fun (_ : Unit) _ => ?_)
    conv => whnf
    conv => whnf
    repeat' (first | (refine tell (fun hQ => ?_) (fun hQ => ?_) <;> (try dsimp only at hQ) <;> first | (exfalso; omega) | (exact absurd rfl hQ) | (exact absurd hQ hne) | (exact absurd hne hQ) | (exact absurd hQ hcne) | (exact absurd hQ t1) | (exact absurd t1 hQ) | (exact absurd (by decide) hQ) | (conv => whnf)) | (refine allG rfl ?_; conv => whnf) | (refine And.intro (by first | omega | assumption | kernel_rfl | exact And.intro rfl rfl | ((try dsimp only [inR, idx, lowOf]); first | omega | (with_reducible decide) | (simp; omega) | (simp; done) | fail) | fail) ?_; conv => whnf) | fail)
    exact ⟨(), [], trivial, rfl, trivial, trivial⟩
def nameF (l : List UInt8) : Bool := l.all okB && (!l.isEmpty && decide (l.length ≤ 16))
def spName : Spec AF where
  γ := List UInt8
  δ := Unit
  args := fun l => [vS l]
  own := fun _ => []
  pre := fun _ => True
  nnew := 0
  res := fun l _ => vB (nameF l)
  own' := fun _ _ => []
  post := fun _ _ => True
theorem dropW_all {p : UInt8 → Bool} : ∀ {l : List UInt8}, l.dropWhile p = [] ↔ l.all p = true
  | [] => by simp
  | x :: l => by
    rw [List.dropWhile_cons, List.all_cons]
    cases h : p x
    · simp
    · simp only [Bool.true_and, if_true]; exact dropW_all
set_option maxRecDepth 100000 in
theorem m_name : Meets Tryd.prog regF 45 spName := by
  refine meets Tryd.func45 17 noWr rfl (by kernel_rfl) (by kernel_rfl) ?_
  rintro (l : List UInt8) _
  have hz := size_bS l
  conv => whnf
  repeat' (first | (refine tell (fun hQ => ?_) (fun hQ => ?_) <;> (try dsimp only at hQ) <;> first | (exfalso; omega) | (exact absurd rfl hQ) | (exact absurd hQ hne) | (exact absurd hne hQ) | (exact absurd hQ hcne) | (exact absurd hQ t1) | (exact absurd t1 hQ) | (exact absurd (by decide) hQ) | (conv => whnf)) | (refine allG rfl ?_; conv => whnf) | (refine And.intro (by first | omega | assumption | kernel_rfl | exact And.intro rfl rfl | ((try dsimp only [inR, idx, lowOf]); first | omega | (with_reducible decide) | (simp; omega) | (simp; done) | fail) | fail) ?_; conv => whnf) | fail)
  refine ⟨_, m_trim, l, [], false, ?_⟩
  conv => whnf
  refine And.intro (vc0 trivial (by (repeat' (first | exact trivial | exact rfl | refine And.intro ?_ ?_ | (refine congrArg vI ?_; first | omega | (dsimp only; omega) | fail) | (refine congrArg some ?_) | omega | exact Nat.le_refl _ | exact congrArg (SV.lst _) (List.take_of_length_le (Nat.le_refl _)).symm))) (by repeat' (first | exact trivial | exact rfl | refine And.intro ?_ ?_ | (refine congrArg vI ?_; first | omega | (dsimp only; omega) | fail) | (refine congrArg some ?_) | omega | exact Nat.le_refl _ | exact congrArg (SV.lst _) (List.take_of_length_le (Nat.le_refl _)).symm)) trivial trivial) ?_
  refine And.intro ⟨(), trivial⟩ (fun (_ : Unit) _ => ?_)
  conv => whnf
  by_cases h1 : l.all okB = true
  · have e1 : l.dropWhile okB = [] := dropW_all.2 h1
    have t1 : ByteArray.toList ⟨(l.dropWhile okB).toArray⟩ = ByteArray.toList ⟨#[]⟩ := (bS_inj (b := [])).2 e1
    cases l with
    | nil =>
      conv => whnf
      repeat' (first | (refine tell (fun hQ => ?_) (fun hQ => ?_) <;> (try dsimp only at hQ) <;> first | (exfalso; omega) | (exact absurd rfl hQ) | (exact absurd hQ hne) | (exact absurd hne hQ) | (exact absurd hQ hcne) | (exact absurd hQ t1) | (exact absurd t1 hQ) | (exact absurd (by decide) hQ) | (conv => whnf)) | (refine allG rfl ?_; conv => whnf) | (refine And.intro (by first | omega | assumption | kernel_rfl | exact And.intro rfl rfl | ((try dsimp only [inR, idx, lowOf]); first | omega | (with_reducible decide) | (simp; omega) | (simp; done) | fail) | fail) ?_; conv => whnf) | fail)
      exact ⟨(), [], trivial, rfl, trivial, trivial⟩
    | cons x l =>
      have hne : ¬ (ByteArray.toList ⟨(x :: l).toArray⟩ = ByteArray.toList ⟨#[]⟩) := fun e => absurd ((bS_inj (b := [])).1 e) (by simp)
      by_cases h2 : (x :: l).length ≤ 16
      · conv => whnf
        repeat' (first | (refine tell (fun hQ => ?_) (fun hQ => ?_) <;> (try dsimp only at hQ) <;> first | (exfalso; omega) | (exact absurd rfl hQ) | (exact absurd hQ hne) | (exact absurd hne hQ) | (exact absurd hQ hcne) | (exact absurd hQ t1) | (exact absurd t1 hQ) | (exact absurd (by decide) hQ) | (conv => whnf)) | (refine allG rfl ?_; conv => whnf) | (refine And.intro (by first | omega | assumption | kernel_rfl | exact And.intro rfl rfl | ((try dsimp only [inR, idx, lowOf]); first | omega | (with_reducible decide) | (simp; omega) | (simp; done) | fail) | fail) ?_; conv => whnf) | fail)
        exact ⟨(), [], trivial, eB (by unfold nameF; rw [h1, decide_eq_true h2]; rfl), trivial, trivial⟩
      · conv => whnf
        repeat' (first | (refine tell (fun hQ => ?_) (fun hQ => ?_) <;> (try dsimp only at hQ) <;> first | (exfalso; omega) | (exact absurd rfl hQ) | (exact absurd hQ hne) | (exact absurd hne hQ) | (exact absurd hQ hcne) | (exact absurd hQ t1) | (exact absurd t1 hQ) | (exact absurd (by decide) hQ) | (conv => whnf)) | (refine allG rfl ?_; conv => whnf) | (refine And.intro (by first | omega | assumption | kernel_rfl | exact And.intro rfl rfl | ((try dsimp only [inR, idx, lowOf]); first | omega | (with_reducible decide) | (simp; omega) | (simp; done) | fail) | fail) ?_; conv => whnf) | fail)
        exact ⟨(), [], trivial, eB (by unfold nameF; rw [decide_eq_false h2]; simp), trivial, trivial⟩
  · have t1 : ¬ (ByteArray.toList ⟨(l.dropWhile okB).toArray⟩ = ByteArray.toList ⟨#[]⟩) := fun e => h1 (dropW_all.1 ((bS_inj (b := [])).1 e))
    conv => whnf
    repeat' (first | (refine tell (fun hQ => ?_) (fun hQ => ?_) <;> (try dsimp only at hQ) <;> first | (exfalso; omega) | (exact absurd rfl hQ) | (exact absurd hQ hne) | (exact absurd hne hQ) | (exact absurd hQ hcne) | (exact absurd hQ t1) | (exact absurd t1 hQ) | (exact absurd (by decide) hQ) | (conv => whnf)) | (refine allG rfl ?_; conv => whnf) | (refine And.intro (by first | omega | assumption | kernel_rfl | exact And.intro rfl rfl | ((try dsimp only [inR, idx, lowOf]); first | omega | (with_reducible decide) | (simp; omega) | (simp; done) | fail) | fail) ?_; conv => whnf) | fail)
    exact ⟨(), [], trivial, eB (by unfold nameF; rw [Bool.eq_false_iff.2 h1]; rfl), trivial, trivial⟩
theorem okB_iff {b : UInt8} : okB b = true ↔ (97 ≤ b.toNat ∧ b.toNat ≤ 122) ∨ (65 ≤ b.toNat ∧ b.toNat ≤ 90) ∨ (48 ≤ b.toNat ∧ b.toNat ≤ 57) ∨ b.toNat = 95 ∨ b.toNat = 46 ∨ b.toNat = 58 ∨ b.toNat = 45 := by
  unfold okB
  simp [or_assoc]
theorem m_name07 : Meets Tryd.prog regF 46 { spName with pre := fun l => l.length ≤ 9223372036854775807 } := by
  refine meets Tryd.func46 61 noWr rfl (by kernel_rfl) (by kernel_rfl) ?_
  rintro (l : List UInt8) (hlen : l.length ≤ 9223372036854775807)
  have hz := size_bS l
  conv => whnf
  repeat' (first | (refine tell (fun hQ => ?_) (fun hQ => ?_) <;> (try dsimp only at hQ) <;> first | (exfalso; omega) | (exact absurd rfl hQ) | (exact absurd hQ hne) | (exact absurd hne hQ) | (exact absurd hQ hcne) | (exact absurd hQ t1) | (exact absurd t1 hQ) | (exact absurd (by decide) hQ) | (conv => whnf)) | (refine allG rfl ?_; conv => whnf) | (refine And.intro (by first | omega | assumption | kernel_rfl | exact And.intro rfl rfl | ((try dsimp only [inR, idx, lowOf]); first | omega | (with_reducible decide) | (simp; omega) | (simp; done) | fail) | fail) ?_; conv => whnf) | fail)
  refine ⟨Nat, fun i => ⟨[(0, vS l), (3, vI i)], []⟩, fun i => i ≤ l.length ∧ (l.take i).all okB = true, fun i => l.length - i, fun _ _ => rfl, ⟨0, [], ⟨Nat.zero_le _, rfl⟩, ?_⟩, ?_⟩
  · refine ⟨rfl, ?_, ?_, rfl⟩
    all_goals (repeat' (first | exact trivial | exact rfl | refine And.intro ?_ ?_ | (refine congrArg vI ?_; first | omega | (dsimp only; omega) | fail) | (refine congrArg some ?_) | omega | exact Nat.le_refl _ | exact congrArg (SV.lst _) (List.take_of_length_le (Nat.le_refl _)).symm))
  rintro (i : Nat) ⟨(hi : i ≤ l.length), (hok : (l.take i).all okB = true)⟩
  by_cases hlt : i < l.length
  · have hobt : ∃ y, l[i]? = some y := ⟨_, List.getElem?_eq_getElem hlt⟩
    obtain ⟨x, hx⟩ := hobt
    have hv : ((((l.getD (i : Int).toNat 0).toNat : Nat) : Int)) = (x.toNat : Int) := by
      rw [List.getD_eq_getElem?_getD]
      simp [hx]
    have hb := UInt8.toNat_lt x
    by_cases hk : okB x = true
    · have hn : (l.take (i + 1)).all okB = true := by rw [take_snocI hx, List.all_append, hok]; simp [hk]
      have hk := okB_iff.1 hk
      conv => whnf
      repeat' (first | (refine tell (fun hQ => ?_) (fun hQ => ?_) <;> (try dsimp only at hQ) <;> first | (exfalso; omega) | (exact absurd rfl hQ) | (exact absurd hQ hne) | (exact absurd hne hQ) | (exact absurd hQ hcne) | (exact absurd hQ t1) | (exact absurd t1 hQ) | (exact absurd (by decide) hQ) | (conv => whnf)) | (refine allG rfl ?_; conv => whnf) | (refine And.intro (by first | omega | assumption | kernel_rfl | exact And.intro rfl rfl | ((try dsimp only [inR, idx, lowOf]); first | omega | (with_reducible decide) | (simp; omega) | (simp; done) | fail) | fail) ?_; conv => whnf) | fail)
      all_goals
        refine ⟨i + 1, [], ⟨hlt, hn⟩, ?_, rfl, ?_, ?_, rfl⟩
        · dsimp only; first | omega | (simp; done) | (simp; omega)
        all_goals (repeat' (first | exact trivial | exact rfl | refine And.intro ?_ ?_ | (refine congrArg vI ?_; first | omega | (dsimp only; omega) | fail) | (refine congrArg some ?_) | omega | exact Nat.le_refl _ | exact congrArg (SV.lst _) (List.take_of_length_le (Nat.le_refl _)).symm))
    · have hn : nameF l = false := by
        unfold nameF
        have : l.all okB = false := by
          rw [Bool.eq_false_iff]
          exact fun h => hk (List.all_eq_true.1 h x (List.mem_of_getElem? hx))
        rw [this]; rfl
      have hk := (not_congr okB_iff).1 hk
      conv => whnf
      repeat' (first | (refine tell (fun hQ => ?_) (fun hQ => ?_) <;> (try dsimp only at hQ) <;> first | (exfalso; omega) | (exact absurd rfl hQ) | (exact absurd hQ hne) | (exact absurd hne hQ) | (exact absurd hQ hcne) | (exact absurd hQ t1) | (exact absurd t1 hQ) | (exact absurd (by decide) hQ) | (conv => whnf)) | (refine allG rfl ?_; conv => whnf) | (refine And.intro (by first | omega | assumption | kernel_rfl | exact And.intro rfl rfl | ((try dsimp only [inR, idx, lowOf]); first | omega | (with_reducible decide) | (simp; omega) | (simp; done) | fail) | fail) ?_; conv => whnf) | fail)
      all_goals exact ⟨(), [], trivial, eB hn.symm, trivial, trivial⟩
  · rw [List.take_of_length_le (by omega)] at hok
    have hn : nameF l = (decide (1 ≤ l.length) && decide (l.length ≤ 16)) := by
      unfold nameF
      rw [hok]
      cases l with
      | nil => rfl
      | cons x l => simp
    by_cases h1 : 1 ≤ l.length
    · by_cases h2 : l.length ≤ 16
      · conv => whnf
        repeat' (first | (refine tell (fun hQ => ?_) (fun hQ => ?_) <;> (try dsimp only at hQ) <;> first | (exfalso; omega) | (exact absurd rfl hQ) | (exact absurd hQ hne) | (exact absurd hne hQ) | (exact absurd hQ hcne) | (exact absurd hQ t1) | (exact absurd t1 hQ) | (exact absurd (by decide) hQ) | (conv => whnf)) | (refine allG rfl ?_; conv => whnf) | (refine And.intro (by first | omega | assumption | kernel_rfl | exact And.intro rfl rfl | ((try dsimp only [inR, idx, lowOf]); first | omega | (with_reducible decide) | (simp; omega) | (simp; done) | fail) | fail) ?_; conv => whnf) | fail)
        exact ⟨(), [], trivial, eB (by rw [hn, decide_eq_true h1, decide_eq_true h2]; rfl), trivial, trivial⟩
      · conv => whnf
        repeat' (first | (refine tell (fun hQ => ?_) (fun hQ => ?_) <;> (try dsimp only at hQ) <;> first | (exfalso; omega) | (exact absurd rfl hQ) | (exact absurd hQ hne) | (exact absurd hne hQ) | (exact absurd hQ hcne) | (exact absurd hQ t1) | (exact absurd t1 hQ) | (exact absurd (by decide) hQ) | (conv => whnf)) | (refine allG rfl ?_; conv => whnf) | (refine And.intro (by first | omega | assumption | kernel_rfl | exact And.intro rfl rfl | ((try dsimp only [inR, idx, lowOf]); first | omega | (with_reducible decide) | (simp; omega) | (simp; done) | fail) | fail) ?_; conv => whnf) | fail)
        exact ⟨(), [], trivial, eB (by rw [hn, decide_eq_true h1, decide_eq_false h2]; rfl), trivial, trivial⟩
    · conv => whnf
      repeat' (first | (refine tell (fun hQ => ?_) (fun hQ => ?_) <;> (try dsimp only at hQ) <;> first | (exfalso; omega) | (exact absurd rfl hQ) | (exact absurd hQ hne) | (exact absurd hne hQ) | (exact absurd hQ hcne) | (exact absurd hQ t1) | (exact absurd t1 hQ) | (exact absurd (by decide) hQ) | (conv => whnf)) | (refine allG rfl ?_; conv => whnf) | (refine And.intro (by first | omega | assumption | kernel_rfl | exact And.intro rfl rfl | ((try dsimp only [inR, idx, lowOf]); first | omega | (with_reducible decide) | (simp; omega) | (simp; done) | fail) | fail) ?_; conv => whnf) | fail)
      exact ⟨(), [], trivial, eB (by rw [hn, decide_eq_false h1]; rfl), trivial, trivial⟩
end Go.Sx

