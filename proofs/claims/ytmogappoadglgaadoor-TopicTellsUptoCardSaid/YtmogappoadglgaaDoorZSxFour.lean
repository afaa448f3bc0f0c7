/-
  Own tool 'Sx', part V: the tables of this seat: types, and how elements of slices lie in cells.
-/
import Derived.Test.YtmogappoadglgaaDoorRows
import Derived.DeepKeys3
import Derived.ProofKit
import Derived.Below
import Derived.ChangeSame
import Derived.ChangeOld
import Derived.OpenShut
import Derived.SizedLaws
import Derived.Deep.Slices
import Derived.KernelRfl
import Derived.Test.YtmogappoadglgaaDoorZSxThree
set_option linter.unusedVariables false
set_option linter.unusedSimpArgs false
namespace Go.Sx
open Go Go.Proofs Go.Proofs.YtmogappoadglgaaDoor
noncomputable section
variable {A : Nat → Type}

/-! ### Encodings -/
inductive EK where
  | none
  | ki
  | kb
  | ku
  | ks
  | kiii
  | kii
  | kiib
  | kisiil46l95
  | kiiiiiil3
  | kiiii
  | ksi
  | kl3
  | kil49
@[reducible] def EK.ty : EK → Type
  | .none => Empty
  | .ki => Int
  | .kb => Bool
  | .ku => Int
  | .ks => ByteArray
  | .kiii => Int × Int × Int
  | .kii => Int × Int
  | .kiib => Int × Int × Bool
  | .kisiil46l95 => Int × ByteArray × Int × Int × List (Int × Int × Bool) × List (Int × Int × Bool)
  | .kiiiiiil3 => Int × Int × Int × Int × Int × Int × List (Int)
  | .kiiii => Int × Int × Int × Int
  | .ksi => ByteArray × Int
  | .kl3 => List (Int)
  | .kil49 => Int × List (Int × Int × Int)
@[reducible] def ekOf : List (Nat × EK) → Nat → EK
  | [], _ => .none
  | (k, e) :: l, n => match Nat.beq n k with
    | true => e
    | false => ekOf l n
@[reducible] def kinds (n : Nat) : EK := ekOf [(3, .ki), (4, .kb), (5, .ku), (9, .ks), (96, .kiii), (49, .kiii), (133, .kii), (46, .kiib), (95, .kiib), (34, .kisiil46l95), (25, .kiiiiiil3), (107, .kiiii), (66, .ksi), (23, .kl3), (29, .kil49)] n
@[reducible] def AF (n : Nat) : Type := (kinds n).ty
def castL {t u : Nat} (h : t = u) (xs : List (AF t)) : List (AF u) := h ▸ xs
def eiki : EI AF (Int) where
  sz := 1
  has := true
  enc p := [.val (.int .i64 p)]
  dec cs := match cs with | [.val (.int .i64 x0)] => (some (x0)) | _ => none
  beq a b := decide (a = b)
  kg := fun p => (-9223372036854775808 ≤ p ∧ p ≤ 9223372036854775807)
  len _ := rfl
  same a b := by simp
  inj a b h := by
    simpa using h
  ok cs x h := by
    split at h
    · cases h; rfl
    · cases h
  closed x i s h := by
    match i with
    | 0 => simp at h; subst h; exact .val _ rfl
    | i + 1 => simp at h
def eikb : EI AF (Bool) where
  sz := 1
  has := true
  enc p := [.val (.bool p)]
  dec cs := match cs with | [.val (.bool x0)] => (some (x0)) | _ => none
  beq a b := decide (a = b)
  kg := fun _ => True
  len _ := rfl
  same a b := by simp
  inj a b h := by
    simpa using h
  ok cs x h := by
    split at h
    · cases h; rfl
    · cases h
  closed x i s h := by
    match i with
    | 0 => simp at h; subst h; exact .val _ rfl
    | i + 1 => simp at h
def eiku : EI AF (Int) where
  sz := 1
  has := true
  enc p := [.val (.int .u8 p)]
  dec cs := match cs with | [.val (.int .u8 x0)] => (some (x0)) | _ => none
  beq a b := decide (a = b)
  kg := fun _ => True
  len _ := rfl
  same a b := by simp
  inj a b h := by
    simpa using h
  ok cs x h := by
    split at h
    · cases h; rfl
    · cases h
  closed x i s h := by
    match i with
    | 0 => simp at h; subst h; exact .val _ rfl
    | i + 1 => simp at h
  byte := some fun b => (b.toNat : Int)
  byteOk f h := by cases h; exact ⟨rfl, fun _ => rfl⟩
def eiks : EI AF (ByteArray) where
  sz := 1
  has := true
  enc p := [.val (.string p)]
  dec cs := match cs with | [.val (.string x0)] => (some (x0)) | _ => none
  beq a b := decide (a = b)
  kg := fun _ => True
  len _ := rfl
  same a b := by simp
  inj a b h := by
    simpa using h
  ok cs x h := by
    split at h
    · cases h; rfl
    · cases h
  closed x i s h := by
    match i with
    | 0 => simp at h; subst h; exact .val _ rfl
    | i + 1 => simp at h
def eikiii : EI AF (Int × Int × Int) where
  sz := 3
  has := true
  enc p := [.val (.int .i64 p.1), .val (.int .i64 p.2.1), .val (.int .i64 p.2.2)]
  dec cs := match cs with | [.val (.int .i64 x0), .val (.int .i64 x1), .val (.int .i64 x2)] => (some (x0, x1, x2)) | _ => none
  beq a b := decide (a = b)
  kg := fun p => (-9223372036854775808 ≤ p.1 ∧ p.1 ≤ 9223372036854775807) ∧ (-9223372036854775808 ≤ p.2.1 ∧ p.2.1 ≤ 9223372036854775807) ∧ (-9223372036854775808 ≤ p.2.2 ∧ p.2.2 ≤ 9223372036854775807)
  len _ := rfl
  same a b := by simp
  inj a b h := by
    simp only [List.cons.injEq, SV.val.injEq, Value.int.injEq, Value.bool.injEq, Value.string.injEq, SV.lst.injEq, true_and, and_true, heq_eq_eq] at h
    obtain ⟨h0, h1, h2⟩ := h
    exact Prod.ext h0 (Prod.ext h1 (h2))
  ok cs x h := by
    split at h
    · cases h; rfl
    · cases h
  closed x i s h := by
    match i with
    | 0 => simp at h; subst h; exact .val _ rfl
    | 1 => simp at h; subst h; exact .val _ rfl
    | 2 => simp at h; subst h; exact .val _ rfl
    | i + 3 => simp at h
def eikii : EI AF (Int × Int) where
  sz := 2
  has := true
  enc p := [.val (.int .i64 p.1), .val (.int .i64 p.2)]
  dec cs := match cs with | [.val (.int .i64 x0), .val (.int .i64 x1)] => (some (x0, x1)) | _ => none
  beq a b := decide (a = b)
  kg := fun p => (-9223372036854775808 ≤ p.1 ∧ p.1 ≤ 9223372036854775807) ∧ (-9223372036854775808 ≤ p.2 ∧ p.2 ≤ 9223372036854775807)
  len _ := rfl
  same a b := by simp
  inj a b h := by
    simp only [List.cons.injEq, SV.val.injEq, Value.int.injEq, Value.bool.injEq, Value.string.injEq, SV.lst.injEq, true_and, and_true, heq_eq_eq] at h
    obtain ⟨h0, h1⟩ := h
    exact Prod.ext h0 (h1)
  ok cs x h := by
    split at h
    · cases h; rfl
    · cases h
  closed x i s h := by
    match i with
    | 0 => simp at h; subst h; exact .val _ rfl
    | 1 => simp at h; subst h; exact .val _ rfl
    | i + 2 => simp at h
def eikiib : EI AF (Int × Int × Bool) where
  sz := 3
  has := true
  enc p := [.val (.int .i64 p.1), .val (.int .i64 p.2.1), .val (.bool p.2.2)]
  dec cs := match cs with | [.val (.int .i64 x0), .val (.int .i64 x1), .val (.bool x2)] => (some (x0, x1, x2)) | _ => none
  beq a b := decide (a = b)
  kg := fun p => (-9223372036854775808 ≤ p.1 ∧ p.1 ≤ 9223372036854775807) ∧ (-9223372036854775808 ≤ p.2.1 ∧ p.2.1 ≤ 9223372036854775807) ∧ True
  len _ := rfl
  same a b := by simp
  inj a b h := by
    simp only [List.cons.injEq, SV.val.injEq, Value.int.injEq, Value.bool.injEq, Value.string.injEq, SV.lst.injEq, true_and, and_true, heq_eq_eq] at h
    obtain ⟨h0, h1, h2⟩ := h
    exact Prod.ext h0 (Prod.ext h1 (h2))
  ok cs x h := by
    split at h
    · cases h; rfl
    · cases h
  closed x i s h := by
    match i with
    | 0 => simp at h; subst h; exact .val _ rfl
    | 1 => simp at h; subst h; exact .val _ rfl
    | 2 => simp at h; subst h; exact .val _ rfl
    | i + 3 => simp at h
def eikisiil46l95 : EI AF (Int × ByteArray × Int × Int × List (Int × Int × Bool) × List (Int × Int × Bool)) where
  sz := 6
  has := true
  enc p := [.val (.int .i64 p.1), .val (.string p.2.1), .val (.int .i64 p.2.2.1), .val (.int .i64 p.2.2.2.1), .lst 46 p.2.2.2.2.1, .lst 95 p.2.2.2.2.2]
  dec cs := match cs with | [.val (.int .i64 x0), .val (.string x1), .val (.int .i64 x2), .val (.int .i64 x3), .lst t4 x4, .lst t5 x5] => (match Nat.decEq t5 95 with | .isTrue h5 => (match Nat.decEq t4 46 with | .isTrue h4 => (some (x0, x1, x2, x3, castL h4 x4, castL h5 x5)) | .isFalse _ => none) | .isFalse _ => none) | _ => none
  beq a b := @decide (a = b) (Classical.propDecidable _)
  kg := fun p => (-9223372036854775808 ≤ p.1 ∧ p.1 ≤ 9223372036854775807) ∧ True ∧ (-9223372036854775808 ≤ p.2.2.1 ∧ p.2.2.1 ≤ 9223372036854775807) ∧ (-9223372036854775808 ≤ p.2.2.2.1 ∧ p.2.2.2.1 ≤ 9223372036854775807) ∧ True ∧ True
  len _ := rfl
  same a b := by simp
  inj a b h := by
    simp only [List.cons.injEq, SV.val.injEq, Value.int.injEq, Value.bool.injEq, Value.string.injEq, SV.lst.injEq, true_and, and_true, heq_eq_eq] at h
    obtain ⟨h0, h1, h2, h3, h4, h5⟩ := h
    exact Prod.ext h0 (Prod.ext h1 (Prod.ext h2 (Prod.ext h3 (Prod.ext h4 (h5)))))
  ok cs x h := by
    split at h
    · split at h
      · split at h
        · subst_vars
          cases h; rfl
        · cases h
      · cases h
    · cases h
  closed x i s h := by
    match i with
    | 0 => simp at h; subst h; exact .val _ rfl
    | 1 => simp at h; subst h; exact .val _ rfl
    | 2 => simp at h; subst h; exact .val _ rfl
    | 3 => simp at h; subst h; exact .val _ rfl
    | 4 => simp at h; subst h; exact .lst _ _
    | 5 => simp at h; subst h; exact .lst _ _
    | i + 6 => simp at h
def eikiiiiiil3 : EI AF (Int × Int × Int × Int × Int × Int × List (Int)) where
  sz := 7
  has := true
  enc p := [.val (.int .i64 p.1), .val (.int .i64 p.2.1), .val (.int .i64 p.2.2.1), .val (.int .i64 p.2.2.2.1), .val (.int .i64 p.2.2.2.2.1), .val (.int .i64 p.2.2.2.2.2.1), .lst 3 p.2.2.2.2.2.2]
  dec cs := match cs with | [.val (.int .i64 x0), .val (.int .i64 x1), .val (.int .i64 x2), .val (.int .i64 x3), .val (.int .i64 x4), .val (.int .i64 x5), .lst t6 x6] => (match Nat.decEq t6 3 with | .isTrue h6 => (some (x0, x1, x2, x3, x4, x5, castL h6 x6)) | .isFalse _ => none) | _ => none
  beq a b := @decide (a = b) (Classical.propDecidable _)
  kg := fun p => (-9223372036854775808 ≤ p.1 ∧ p.1 ≤ 9223372036854775807) ∧ (-9223372036854775808 ≤ p.2.1 ∧ p.2.1 ≤ 9223372036854775807) ∧ (-9223372036854775808 ≤ p.2.2.1 ∧ p.2.2.1 ≤ 9223372036854775807) ∧ (-9223372036854775808 ≤ p.2.2.2.1 ∧ p.2.2.2.1 ≤ 9223372036854775807) ∧ (-9223372036854775808 ≤ p.2.2.2.2.1 ∧ p.2.2.2.2.1 ≤ 9223372036854775807) ∧ (-9223372036854775808 ≤ p.2.2.2.2.2.1 ∧ p.2.2.2.2.2.1 ≤ 9223372036854775807) ∧ True
  len _ := rfl
  same a b := by simp
  inj a b h := by
    simp only [List.cons.injEq, SV.val.injEq, Value.int.injEq, Value.bool.injEq, Value.string.injEq, SV.lst.injEq, true_and, and_true, heq_eq_eq] at h
    obtain ⟨h0, h1, h2, h3, h4, h5, h6⟩ := h
    exact Prod.ext h0 (Prod.ext h1 (Prod.ext h2 (Prod.ext h3 (Prod.ext h4 (Prod.ext h5 (h6))))))
  ok cs x h := by
    split at h
    · split at h
      · subst_vars
        cases h; rfl
      · cases h
    · cases h
  closed x i s h := by
    match i with
    | 0 => simp at h; subst h; exact .val _ rfl
    | 1 => simp at h; subst h; exact .val _ rfl
    | 2 => simp at h; subst h; exact .val _ rfl
    | 3 => simp at h; subst h; exact .val _ rfl
    | 4 => simp at h; subst h; exact .val _ rfl
    | 5 => simp at h; subst h; exact .val _ rfl
    | 6 => simp at h; subst h; exact .lst _ _
    | i + 7 => simp at h
def eikiiii : EI AF (Int × Int × Int × Int) where
  sz := 4
  has := true
  enc p := [.val (.int .i64 p.1), .val (.int .i64 p.2.1), .val (.int .i64 p.2.2.1), .val (.int .i64 p.2.2.2)]
  dec cs := match cs with | [.val (.int .i64 x0), .val (.int .i64 x1), .val (.int .i64 x2), .val (.int .i64 x3)] => (some (x0, x1, x2, x3)) | _ => none
  beq a b := decide (a = b)
  kg := fun p => (-9223372036854775808 ≤ p.1 ∧ p.1 ≤ 9223372036854775807) ∧ (-9223372036854775808 ≤ p.2.1 ∧ p.2.1 ≤ 9223372036854775807) ∧ (-9223372036854775808 ≤ p.2.2.1 ∧ p.2.2.1 ≤ 9223372036854775807) ∧ (-9223372036854775808 ≤ p.2.2.2 ∧ p.2.2.2 ≤ 9223372036854775807)
  len _ := rfl
  same a b := by simp
  inj a b h := by
    simp only [List.cons.injEq, SV.val.injEq, Value.int.injEq, Value.bool.injEq, Value.string.injEq, SV.lst.injEq, true_and, and_true, heq_eq_eq] at h
    obtain ⟨h0, h1, h2, h3⟩ := h
    exact Prod.ext h0 (Prod.ext h1 (Prod.ext h2 (h3)))
  ok cs x h := by
    split at h
    · cases h; rfl
    · cases h
  closed x i s h := by
    match i with
    | 0 => simp at h; subst h; exact .val _ rfl
    | 1 => simp at h; subst h; exact .val _ rfl
    | 2 => simp at h; subst h; exact .val _ rfl
    | 3 => simp at h; subst h; exact .val _ rfl
    | i + 4 => simp at h
def eiksi : EI AF (ByteArray × Int) where
  sz := 2
  has := true
  enc p := [.val (.string p.1), .val (.int .i64 p.2)]
  dec cs := match cs with | [.val (.string x0), .val (.int .i64 x1)] => (some (x0, x1)) | _ => none
  beq a b := decide (a = b)
  kg := fun p => True ∧ (-9223372036854775808 ≤ p.2 ∧ p.2 ≤ 9223372036854775807)
  len _ := rfl
  same a b := by simp
  inj a b h := by
    simp only [List.cons.injEq, SV.val.injEq, Value.int.injEq, Value.bool.injEq, Value.string.injEq, SV.lst.injEq, true_and, and_true, heq_eq_eq] at h
    obtain ⟨h0, h1⟩ := h
    exact Prod.ext h0 (h1)
  ok cs x h := by
    split at h
    · cases h; rfl
    · cases h
  closed x i s h := by
    match i with
    | 0 => simp at h; subst h; exact .val _ rfl
    | 1 => simp at h; subst h; exact .val _ rfl
    | i + 2 => simp at h
def eikl3 : EI AF (List (Int)) where
  sz := 1
  has := true
  enc p := [.lst 3 p]
  dec cs := match cs with | [.lst t0 x0] => (match Nat.decEq t0 3 with | .isTrue h0 => (some (castL h0 x0)) | .isFalse _ => none) | _ => none
  beq a b := @decide (a = b) (Classical.propDecidable _)
  kg := fun _ => True
  len _ := rfl
  same a b := by simp
  inj a b h := by
    simpa using h
  ok cs x h := by
    split at h
    · split at h
      · subst_vars
        cases h; rfl
      · cases h
    · cases h
  closed x i s h := by
    match i with
    | 0 => simp at h; subst h; exact .lst _ _
    | i + 1 => simp at h
def eikil49 : EI AF (Int × List (Int × Int × Int)) where
  sz := 2
  has := true
  enc p := [.val (.int .i64 p.1), .lst 49 p.2]
  dec cs := match cs with | [.val (.int .i64 x0), .lst t1 x1] => (match Nat.decEq t1 49 with | .isTrue h1 => (some (x0, castL h1 x1)) | .isFalse _ => none) | _ => none
  beq a b := @decide (a = b) (Classical.propDecidable _)
  kg := fun p => (-9223372036854775808 ≤ p.1 ∧ p.1 ≤ 9223372036854775807) ∧ True
  len _ := rfl
  same a b := by simp
  inj a b h := by
    simp only [List.cons.injEq, SV.val.injEq, Value.int.injEq, Value.bool.injEq, Value.string.injEq, SV.lst.injEq, true_and, and_true, heq_eq_eq] at h
    obtain ⟨h0, h1⟩ := h
    exact Prod.ext h0 (h1)
  ok cs x h := by
    split at h
    · split at h
      · subst_vars
        cases h; rfl
      · cases h
    · cases h
  closed x i s h := by
    match i with
    | 0 => simp at h; subst h; exact .val _ rfl
    | 1 => simp at h; subst h; exact .lst _ _
    | i + 2 => simp at h
def EK.ei : ∀ k : EK, EI AF k.ty
  | .none => EI.none
  | .ki => eiki
  | .kb => eikb
  | .ku => eiku
  | .ks => eiks
  | .kiii => eikiii
  | .kii => eikii
  | .kiib => eikiib
  | .kisiil46l95 => eikisiil46l95
  | .kiiiiiil3 => eikiiiiiil3
  | .kiiii => eikiiii
  | .ksi => eiksi
  | .kl3 => eikl3
  | .kil49 => eikil49
def regF : Reg AF := regOf fun n => (kinds n).ei

/-! ### Types -/
def ti0 : TI := ⟨.other, 1, 0, .tuple #[], false⟩
def ti1 : TI := ⟨.func, 1, 8, .nilFunc, false⟩
def ti2 : TI := ⟨.int .i64, 1, 8, .int .i64 0, false⟩
def ti3 : TI := ⟨.int .i64, 1, 8, .int .i64 0, false⟩
def ti4 : TI := ⟨.bool, 1, 1, .bool false, false⟩
def ti5 : TI := ⟨.int .u8, 1, 1, .int .u8 0, false⟩
def ti6 : TI := ⟨.int .u8, 1, 1, .int .u8 0, false⟩
def ti7 : TI := ⟨.struct [(0, 2), (1, 3), (2, 4), (3, 6)], 4, 24, .agg #[.int .i64 0, .int .i64 0, .bool false, .int .u8 0], true⟩
def ti8 : TI := ⟨.struct [(0, 2), (1, 3), (2, 4), (3, 6)], 4, 24, .agg #[.int .i64 0, .int .i64 0, .bool false, .int .u8 0], true⟩
def ti9 : TI := ⟨.str, 1, 16, .string ⟨#[]⟩, false⟩
def ti10 : TI := ⟨.str, 1, 16, .string ⟨#[]⟩, false⟩
def ti11 : TI := ⟨.str, 1, 16, .string ⟨#[]⟩, false⟩
def ti12 : TI := ⟨.int .u64, 1, 8, .int .u64 0, false⟩
def ti13 : TI := ⟨.struct [(0, 9), (1, 12)], 2, 24, .agg #[.string ⟨#[]⟩, .int .u64 0], false⟩
def ti14 : TI := ⟨.struct [(0, 9), (1, 12)], 2, 24, .agg #[.string ⟨#[]⟩, .int .u64 0], false⟩
def ti15 : TI := ⟨.ptr 193, 1, 8, .pointer none, false⟩
def ti16 : TI := ⟨.ptr 196, 1, 8, .pointer none, false⟩
def ti17 : TI := ⟨.ptr 204, 1, 8, .pointer none, false⟩
def ti18 : TI := ⟨.struct [(0, 17)], 1, 8, .agg #[.pointer none], false⟩
def ti19 : TI := ⟨.struct [(0, 17)], 1, 8, .agg #[.pointer none], false⟩
def ti20 : TI := ⟨.other, 1, 16, .nilIface, false⟩
def ti21 : TI := ⟨.int .i32, 1, 4, .int .i32 0, false⟩
def ti22 : TI := ⟨.slice 96, 1, 24, .slice none 0 0, false⟩
def ti23 : TI := ⟨.slice 3, 1, 24, .slice none 0 0, false⟩
def ti24 : TI := ⟨.struct [(0, 3), (1, 3), (2, 3), (3, 3), (4, 3), (5, 3), (6, 23)], 7, 72, .agg #[.int .i64 0, .int .i64 0, .int .i64 0, .int .i64 0, .int .i64 0, .int .i64 0, .slice none 0 0], true⟩
def ti25 : TI := ⟨.struct [(0, 3), (1, 3), (2, 3), (3, 3), (4, 3), (5, 3), (6, 23)], 7, 72, .agg #[.int .i64 0, .int .i64 0, .int .i64 0, .int .i64 0, .int .i64 0, .int .i64 0, .slice none 0 0], true⟩
def ti26 : TI := ⟨.func, 1, 8, .nilFunc, false⟩
def ti27 : TI := ⟨.slice 49, 1, 24, .slice none 0 0, false⟩
def ti28 : TI := ⟨.struct [(0, 3), (1, 27)], 2, 32, .agg #[.int .i64 0, .slice none 0 0], true⟩
def ti29 : TI := ⟨.struct [(0, 3), (1, 27)], 2, 32, .agg #[.int .i64 0, .slice none 0 0], true⟩
def ti30 : TI := ⟨.func, 1, 8, .nilFunc, false⟩
def ti31 : TI := ⟨.slice 46, 1, 24, .slice none 0 0, false⟩
def ti32 : TI := ⟨.slice 95, 1, 24, .slice none 0 0, false⟩
def ti33 : TI := ⟨.struct [(0, 3), (1, 9), (2, 3), (3, 3), (4, 31), (5, 32)], 6, 88, .agg #[.int .i64 0, .string ⟨#[]⟩, .int .i64 0, .int .i64 0, .slice none 0 0, .slice none 0 0], true⟩
def ti34 : TI := ⟨.struct [(0, 3), (1, 9), (2, 3), (3, 3), (4, 31), (5, 32)], 6, 88, .agg #[.int .i64 0, .string ⟨#[]⟩, .int .i64 0, .int .i64 0, .slice none 0 0, .slice none 0 0], true⟩
def ti35 : TI := ⟨.other, 1, 0, .tuple #[.agg #[.int .i64 0, .string ⟨#[]⟩, .int .i64 0, .int .i64 0, .slice none 0 0, .slice none 0 0], .slice none 0 0], false⟩
def ti36 : TI := ⟨.func, 1, 8, .nilFunc, false⟩
def ti37 : TI := ⟨.func, 1, 8, .nilFunc, false⟩
def ti38 : TI := ⟨.other, 1, 0, .tuple #[.agg #[.int .i64 0, .string ⟨#[]⟩, .int .i64 0, .int .i64 0, .slice none 0 0, .slice none 0 0], .bool false], false⟩
def ti39 : TI := ⟨.func, 1, 8, .nilFunc, false⟩
def ti40 : TI := ⟨.func, 1, 8, .nilFunc, false⟩
def ti41 : TI := ⟨.func, 1, 8, .nilFunc, false⟩
def ti42 : TI := ⟨.func, 1, 8, .nilFunc, false⟩
def ti43 : TI := ⟨.func, 1, 8, .nilFunc, false⟩
def ti44 : TI := ⟨.func, 1, 8, .nilFunc, false⟩
def ti45 : TI := ⟨.struct [(0, 3), (1, 3), (2, 4)], 3, 24, .agg #[.int .i64 0, .int .i64 0, .bool false], true⟩
def ti46 : TI := ⟨.struct [(0, 3), (1, 3), (2, 4)], 3, 24, .agg #[.int .i64 0, .int .i64 0, .bool false], true⟩
def ti47 : TI := ⟨.func, 1, 8, .nilFunc, false⟩
def ti48 : TI := ⟨.struct [(0, 3), (1, 3), (2, 3)], 3, 24, .agg #[.int .i64 0, .int .i64 0, .int .i64 0], true⟩
def ti49 : TI := ⟨.struct [(0, 3), (1, 3), (2, 3)], 3, 24, .agg #[.int .i64 0, .int .i64 0, .int .i64 0], true⟩
def ti50 : TI := ⟨.func, 1, 8, .nilFunc, false⟩
def ti51 : TI := ⟨.slice 25, 1, 24, .slice none 0 0, false⟩
def ti52 : TI := ⟨.slice 34, 1, 24, .slice none 0 0, false⟩
def ti53 : TI := ⟨.func, 1, 8, .nilFunc, false⟩
def ti54 : TI := ⟨.func, 1, 8, .nilFunc, false⟩
def ti55 : TI := ⟨.func, 1, 8, .nilFunc, false⟩
def ti56 : TI := ⟨.func, 1, 8, .nilFunc, false⟩
def ti57 : TI := ⟨.slice 23, 1, 24, .slice none 0 0, false⟩
def ti58 : TI := ⟨.other, 1, 0, .tuple #[.int .i64 0, .int .i64 0, .int .i64 0, .bool false], false⟩
def ti59 : TI := ⟨.func, 1, 8, .nilFunc, false⟩
def ti60 : TI := ⟨.func, 1, 8, .nilFunc, false⟩
def ti61 : TI := ⟨.func, 1, 8, .nilFunc, false⟩
def ti62 : TI := ⟨.func, 1, 8, .nilFunc, false⟩
def ti63 : TI := ⟨.func, 1, 8, .nilFunc, false⟩
def ti64 : TI := ⟨.slice 107, 1, 24, .slice none 0 0, false⟩
def ti65 : TI := ⟨.struct [(0, 9), (1, 3)], 2, 24, .agg #[.string ⟨#[]⟩, .int .i64 0], true⟩
def ti66 : TI := ⟨.struct [(0, 9), (1, 3)], 2, 24, .agg #[.string ⟨#[]⟩, .int .i64 0], true⟩
def ti67 : TI := ⟨.slice 66, 1, 24, .slice none 0 0, false⟩
def ti68 : TI := ⟨.func, 1, 8, .nilFunc, false⟩
def ti69 : TI := ⟨.func, 1, 8, .nilFunc, false⟩
def ti70 : TI := ⟨.func, 1, 8, .nilFunc, false⟩
def ti71 : TI := ⟨.arr 5 3, 5, 40, .agg #[.int .i64 0, .int .i64 0, .int .i64 0, .int .i64 0, .int .i64 0], true⟩
def ti72 : TI := ⟨.func, 1, 8, .nilFunc, false⟩
def ti73 : TI := ⟨.struct [(0, 9), (1, 9), (2, 9)], 3, 48, .agg #[.string ⟨#[]⟩, .string ⟨#[]⟩, .string ⟨#[]⟩], true⟩
def ti74 : TI := ⟨.struct [(0, 9), (1, 9), (2, 9)], 3, 48, .agg #[.string ⟨#[]⟩, .string ⟨#[]⟩, .string ⟨#[]⟩], true⟩
def ti75 : TI := ⟨.func, 1, 8, .nilFunc, false⟩
def ti76 : TI := ⟨.int .i64, 1, 8, .int .i64 0, false⟩
def ti77 : TI := ⟨.other, 1, 0, .tuple #[.string ⟨#[]⟩, .int .i64 0], false⟩
def ti78 : TI := ⟨.func, 1, 8, .nilFunc, false⟩
def ti79 : TI := ⟨.func, 1, 8, .nilFunc, false⟩
def ti80 : TI := ⟨.slice 9, 1, 24, .slice none 0 0, false⟩
def ti81 : TI := ⟨.other, 1, 0, .tuple #[.agg #[.string ⟨#[]⟩, .string ⟨#[]⟩, .string ⟨#[]⟩], .int .i64 0], false⟩
def ti82 : TI := ⟨.func, 1, 8, .nilFunc, false⟩
def ti83 : TI := ⟨.func, 1, 8, .nilFunc, false⟩
def ti84 : TI := ⟨.func, 1, 8, .nilFunc, false⟩
def ti85 : TI := ⟨.func, 1, 8, .nilFunc, false⟩
def ti86 : TI := ⟨.func, 1, 8, .nilFunc, false⟩
def ti87 : TI := ⟨.arr 2 9, 2, 32, .agg #[.string ⟨#[]⟩, .string ⟨#[]⟩], true⟩
def ti88 : TI := ⟨.func, 1, 8, .nilFunc, false⟩
def ti89 : TI := ⟨.func, 1, 8, .nilFunc, false⟩
def ti90 : TI := ⟨.slice 5, 1, 24, .slice none 0 0, false⟩
def ti91 : TI := ⟨.func, 1, 8, .nilFunc, false⟩
def ti92 : TI := ⟨.func, 1, 8, .nilFunc, false⟩
def ti93 : TI := ⟨.func, 1, 8, .nilFunc, false⟩
def ti94 : TI := ⟨.struct [(0, 3), (1, 3), (2, 4)], 3, 24, .agg #[.int .i64 0, .int .i64 0, .bool false], true⟩
def ti95 : TI := ⟨.struct [(0, 3), (1, 3), (2, 4)], 3, 24, .agg #[.int .i64 0, .int .i64 0, .bool false], true⟩
def ti96 : TI := ⟨.arr 3 3, 3, 24, .agg #[.int .i64 0, .int .i64 0, .int .i64 0], true⟩
def ti97 : TI := ⟨.func, 1, 8, .nilFunc, false⟩
def ti98 : TI := ⟨.func, 1, 8, .nilFunc, false⟩
def ti99 : TI := ⟨.func, 1, 8, .nilFunc, false⟩
def ti100 : TI := ⟨.func, 1, 8, .nilFunc, false⟩
def ti101 : TI := ⟨.func, 1, 8, .nilFunc, false⟩
def ti102 : TI := ⟨.func, 1, 8, .nilFunc, false⟩
def ti103 : TI := ⟨.func, 1, 8, .nilFunc, false⟩
def ti104 : TI := ⟨.func, 1, 8, .nilFunc, false⟩
def ti105 : TI := ⟨.func, 1, 8, .nilFunc, false⟩
def ti106 : TI := ⟨.struct [(0, 3), (1, 3), (2, 3), (3, 3)], 4, 32, .agg #[.int .i64 0, .int .i64 0, .int .i64 0, .int .i64 0], true⟩
def ti107 : TI := ⟨.struct [(0, 3), (1, 3), (2, 3), (3, 3)], 4, 32, .agg #[.int .i64 0, .int .i64 0, .int .i64 0, .int .i64 0], true⟩
def ti108 : TI := ⟨.func, 1, 8, .nilFunc, false⟩
def ti109 : TI := ⟨.func, 1, 8, .nilFunc, false⟩
def ti110 : TI := ⟨.func, 1, 8, .nilFunc, false⟩
def ti111 : TI := ⟨.arr 3 4, 3, 3, .agg #[.bool false, .bool false, .bool false], true⟩
def ti112 : TI := ⟨.ptr 114, 1, 8, .pointer none, false⟩
def ti113 : TI := ⟨.struct [(0, 112), (1, 90)], 2, 32, .agg #[.pointer none, .slice none 0 0], true⟩
def ti114 : TI := ⟨.struct [(0, 112), (1, 90)], 2, 32, .agg #[.pointer none, .slice none 0 0], true⟩
def ti115 : TI := ⟨.func, 1, 8, .nilFunc, false⟩
def ti116 : TI := ⟨.other, 1, 16, .nilIface, false⟩
def ti117 : TI := ⟨.other, 1, 16, .nilIface, false⟩
def ti118 : TI := ⟨.other, 1, 0, .tuple #[.int .i64 0, .nilIface], false⟩
def ti119 : TI := ⟨.func, 1, 8, .nilFunc, false⟩
def ti120 : TI := ⟨.func, 1, 8, .nilFunc, false⟩
def ti121 : TI := ⟨.func, 1, 8, .nilFunc, false⟩
def ti122 : TI := ⟨.func, 1, 8, .nilFunc, false⟩
def ti123 : TI := ⟨.other, 1, 0, .tuple #[.string ⟨#[]⟩, .bool false], false⟩
def ti124 : TI := ⟨.func, 1, 8, .nilFunc, false⟩
def ti125 : TI := ⟨.func, 1, 8, .nilFunc, false⟩
def ti126 : TI := ⟨.func, 1, 8, .nilFunc, false⟩
def ti127 : TI := ⟨.func, 1, 8, .nilFunc, false⟩
def ti128 : TI := ⟨.func, 1, 8, .nilFunc, false⟩
def ti129 : TI := ⟨.func, 1, 8, .nilFunc, false⟩
def ti130 : TI := ⟨.func, 1, 8, .nilFunc, false⟩
def ti131 : TI := ⟨.func, 1, 8, .nilFunc, false⟩
def ti132 : TI := ⟨.map 133 4, 1, 8, .map none, false⟩
def ti133 : TI := ⟨.arr 2 3, 2, 16, .agg #[.int .i64 0, .int .i64 0], true⟩
def ti134 : TI := ⟨.func, 1, 8, .nilFunc, false⟩
def ti135 : TI := ⟨.func, 1, 8, .nilFunc, false⟩
def ti136 : TI := ⟨.func, 1, 8, .nilFunc, false⟩
def ti137 : TI := ⟨.func, 1, 8, .nilFunc, false⟩
def ti138 : TI := ⟨.map 3 4, 1, 8, .map none, false⟩
def ti139 : TI := ⟨.func, 1, 8, .nilFunc, false⟩
def ti140 : TI := ⟨.func, 1, 8, .nilFunc, false⟩
def ti141 : TI := ⟨.func, 1, 8, .nilFunc, false⟩
def ti142 : TI := ⟨.ptr 5, 1, 8, .pointer none, false⟩
def ti143 : TI := ⟨.func, 1, 8, .nilFunc, false⟩
def ti144 : TI := ⟨.func, 1, 8, .nilFunc, false⟩
def ti145 : TI := ⟨.arr 256 4, 256, 256, .agg #[.bool false, .bool false, .bool false, .bool false, .bool false, .bool false, .bool false, .bool false, .bool false, .bool false, .bool false, .bool false, .bool false, .bool false, .bool false, .bool false, .bool false, .bool false, .bool false, .bool false, .bool false, .bool false, .bool false, .bool false, .bool false, .bool false, .bool false, .bool false, .bool false, .bool false, .bool false, .bool false, .bool false, .bool false, .bool false, .bool false, .bool false, .bool false, .bool false, .bool false, .bool false, .bool false, .bool false, .bool false, .bool false, .bool false, .bool false, .bool false, .bool false, .bool false, .bool false, .bool false, .bool false, .bool false, .bool false, .bool false, .bool false, .bool false, .bool false, .bool false, .bool false, .bool false, .bool false, .bool false, .bool false, .bool false, .bool false, .bool false, .bool false, .bool false, .bool false, .bool false, .bool false, .bool false, .bool false, .bool false, .bool false, .bool false, .bool false, .bool false, .bool false, .bool false, .bool false, .bool false, .bool false, .bool false, .bool false, .bool false, .bool false, .bool false, .bool false, .bool false, .bool false, .bool false, .bool false, .bool false, .bool false, .bool false, .bool false, .bool false, .bool false, .bool false, .bool false, .bool false, .bool false, .bool false, .bool false, .bool false, .bool false, .bool false, .bool false, .bool false, .bool false, .bool false, .bool false, .bool false, .bool false, .bool false, .bool false, .bool false, .bool false, .bool false, .bool false, .bool false, .bool false, .bool false, .bool false, .bool false, .bool false, .bool false, .bool false, .bool false, .bool false, .bool false, .bool false, .bool false, .bool false, .bool false, .bool false, .bool false, .bool false, .bool false, .bool false, .bool false, .bool false, .bool false, .bool false, .bool false, .bool false, .bool false, .bool false, .bool false, .bool false, .bool false, .bool false, .bool false, .bool false, .bool false, .bool false, .bool false, .bool false, .bool false, .bool false, .bool false, .bool false, .bool false, .bool false, .bool false, .bool false, .bool false, .bool false, .bool false, .bool false, .bool false, .bool false, .bool false, .bool false, .bool false, .bool false, .bool false, .bool false, .bool false, .bool false, .bool false, .bool false, .bool false, .bool false, .bool false, .bool false, .bool false, .bool false, .bool false, .bool false, .bool false, .bool false, .bool false, .bool false, .bool false, .bool false, .bool false, .bool false, .bool false, .bool false, .bool false, .bool false, .bool false, .bool false, .bool false, .bool false, .bool false, .bool false, .bool false, .bool false, .bool false, .bool false, .bool false, .bool false, .bool false, .bool false, .bool false, .bool false, .bool false, .bool false, .bool false, .bool false, .bool false, .bool false, .bool false, .bool false, .bool false, .bool false, .bool false, .bool false, .bool false, .bool false, .bool false, .bool false, .bool false, .bool false, .bool false, .bool false, .bool false, .bool false, .bool false, .bool false, .bool false, .bool false, .bool false, .bool false, .bool false, .bool false, .bool false, .bool false, .bool false, .bool false, .bool false], true⟩
def ti146 : TI := ⟨.arr 256 4, 256, 256, .agg #[.bool false, .bool false, .bool false, .bool false, .bool false, .bool false, .bool false, .bool false, .bool false, .bool false, .bool false, .bool false, .bool false, .bool false, .bool false, .bool false, .bool false, .bool false, .bool false, .bool false, .bool false, .bool false, .bool false, .bool false, .bool false, .bool false, .bool false, .bool false, .bool false, .bool false, .bool false, .bool false, .bool false, .bool false, .bool false, .bool false, .bool false, .bool false, .bool false, .bool false, .bool false, .bool false, .bool false, .bool false, .bool false, .bool false, .bool false, .bool false, .bool false, .bool false, .bool false, .bool false, .bool false, .bool false, .bool false, .bool false, .bool false, .bool false, .bool false, .bool false, .bool false, .bool false, .bool false, .bool false, .bool false, .bool false, .bool false, .bool false, .bool false, .bool false, .bool false, .bool false, .bool false, .bool false, .bool false, .bool false, .bool false, .bool false, .bool false, .bool false, .bool false, .bool false, .bool false, .bool false, .bool false, .bool false, .bool false, .bool false, .bool false, .bool false, .bool false, .bool false, .bool false, .bool false, .bool false, .bool false, .bool false, .bool false, .bool false, .bool false, .bool false, .bool false, .bool false, .bool false, .bool false, .bool false, .bool false, .bool false, .bool false, .bool false, .bool false, .bool false, .bool false, .bool false, .bool false, .bool false, .bool false, .bool false, .bool false, .bool false, .bool false, .bool false, .bool false, .bool false, .bool false, .bool false, .bool false, .bool false, .bool false, .bool false, .bool false, .bool false, .bool false, .bool false, .bool false, .bool false, .bool false, .bool false, .bool false, .bool false, .bool false, .bool false, .bool false, .bool false, .bool false, .bool false, .bool false, .bool false, .bool false, .bool false, .bool false, .bool false, .bool false, .bool false, .bool false, .bool false, .bool false, .bool false, .bool false, .bool false, .bool false, .bool false, .bool false, .bool false, .bool false, .bool false, .bool false, .bool false, .bool false, .bool false, .bool false, .bool false, .bool false, .bool false, .bool false, .bool false, .bool false, .bool false, .bool false, .bool false, .bool false, .bool false, .bool false, .bool false, .bool false, .bool false, .bool false, .bool false, .bool false, .bool false, .bool false, .bool false, .bool false, .bool false, .bool false, .bool false, .bool false, .bool false, .bool false, .bool false, .bool false, .bool false, .bool false, .bool false, .bool false, .bool false, .bool false, .bool false, .bool false, .bool false, .bool false, .bool false, .bool false, .bool false, .bool false, .bool false, .bool false, .bool false, .bool false, .bool false, .bool false, .bool false, .bool false, .bool false, .bool false, .bool false, .bool false, .bool false, .bool false, .bool false, .bool false, .bool false, .bool false, .bool false, .bool false, .bool false, .bool false, .bool false, .bool false, .bool false, .bool false, .bool false, .bool false, .bool false, .bool false, .bool false, .bool false, .bool false, .bool false, .bool false, .bool false, .bool false, .bool false, .bool false, .bool false, .bool false], true⟩
def ti147 : TI := ⟨.other, 1, 0, .tuple #[.agg #[.bool false, .bool false, .bool false, .bool false, .bool false, .bool false, .bool false, .bool false, .bool false, .bool false, .bool false, .bool false, .bool false, .bool false, .bool false, .bool false, .bool false, .bool false, .bool false, .bool false, .bool false, .bool false, .bool false, .bool false, .bool false, .bool false, .bool false, .bool false, .bool false, .bool false, .bool false, .bool false, .bool false, .bool false, .bool false, .bool false, .bool false, .bool false, .bool false, .bool false, .bool false, .bool false, .bool false, .bool false, .bool false, .bool false, .bool false, .bool false, .bool false, .bool false, .bool false, .bool false, .bool false, .bool false, .bool false, .bool false, .bool false, .bool false, .bool false, .bool false, .bool false, .bool false, .bool false, .bool false, .bool false, .bool false, .bool false, .bool false, .bool false, .bool false, .bool false, .bool false, .bool false, .bool false, .bool false, .bool false, .bool false, .bool false, .bool false, .bool false, .bool false, .bool false, .bool false, .bool false, .bool false, .bool false, .bool false, .bool false, .bool false, .bool false, .bool false, .bool false, .bool false, .bool false, .bool false, .bool false, .bool false, .bool false, .bool false, .bool false, .bool false, .bool false, .bool false, .bool false, .bool false, .bool false, .bool false, .bool false, .bool false, .bool false, .bool false, .bool false, .bool false, .bool false, .bool false, .bool false, .bool false, .bool false, .bool false, .bool false, .bool false, .bool false, .bool false, .bool false, .bool false, .bool false, .bool false, .bool false, .bool false, .bool false, .bool false, .bool false, .bool false, .bool false, .bool false, .bool false, .bool false, .bool false, .bool false, .bool false, .bool false, .bool false, .bool false, .bool false, .bool false, .bool false, .bool false, .bool false, .bool false, .bool false, .bool false, .bool false, .bool false, .bool false, .bool false, .bool false, .bool false, .bool false, .bool false, .bool false, .bool false, .bool false, .bool false, .bool false, .bool false, .bool false, .bool false, .bool false, .bool false, .bool false, .bool false, .bool false, .bool false, .bool false, .bool false, .bool false, .bool false, .bool false, .bool false, .bool false, .bool false, .bool false, .bool false, .bool false, .bool false, .bool false, .bool false, .bool false, .bool false, .bool false, .bool false, .bool false, .bool false, .bool false, .bool false, .bool false, .bool false, .bool false, .bool false, .bool false, .bool false, .bool false, .bool false, .bool false, .bool false, .bool false, .bool false, .bool false, .bool false, .bool false, .bool false, .bool false, .bool false, .bool false, .bool false, .bool false, .bool false, .bool false, .bool false, .bool false, .bool false, .bool false, .bool false, .bool false, .bool false, .bool false, .bool false, .bool false, .bool false, .bool false, .bool false, .bool false, .bool false, .bool false, .bool false, .bool false, .bool false, .bool false, .bool false, .bool false, .bool false, .bool false, .bool false, .bool false, .bool false, .bool false, .bool false, .bool false, .bool false, .bool false, .bool false, .bool false, .bool false, .bool false, .bool false, .bool false], .bool false], false⟩
def ti148 : TI := ⟨.func, 1, 8, .nilFunc, false⟩
def ti149 : TI := ⟨.func, 1, 8, .nilFunc, false⟩
def ti150 : TI := ⟨.ptr 146, 1, 8, .pointer none, false⟩
def ti151 : TI := ⟨.func, 1, 8, .nilFunc, false⟩
def ti152 : TI := ⟨.func, 1, 8, .nilFunc, false⟩
def ti153 : TI := ⟨.func, 1, 8, .nilFunc, false⟩
def ti154 : TI := ⟨.func, 1, 8, .nilFunc, false⟩
def ti155 : TI := ⟨.func, 1, 8, .nilFunc, false⟩
def ti156 : TI := ⟨.func, 1, 8, .nilFunc, false⟩
def ti157 : TI := ⟨.func, 1, 8, .nilFunc, false⟩
def ti158 : TI := ⟨.func, 1, 8, .nilFunc, false⟩
def ti159 : TI := ⟨.other, 1, 8, .pointer none, false⟩
def ti160 : TI := ⟨.func, 1, 8, .nilFunc, false⟩
def ti161 : TI := ⟨.func, 1, 8, .nilFunc, false⟩
def ti162 : TI := ⟨.func, 1, 8, .nilFunc, false⟩
def ti163 : TI := ⟨.other, 1, 0, .tuple #[.int .i32 0, .int .i64 0], false⟩
def ti164 : TI := ⟨.func, 1, 8, .nilFunc, false⟩
def ti165 : TI := ⟨.func, 1, 8, .nilFunc, false⟩
def ti166 : TI := ⟨.func, 1, 8, .nilFunc, false⟩
def ti167 : TI := ⟨.arr 24 5, 24, 24, .agg #[.int .u8 0, .int .u8 0, .int .u8 0, .int .u8 0, .int .u8 0, .int .u8 0, .int .u8 0, .int .u8 0, .int .u8 0, .int .u8 0, .int .u8 0, .int .u8 0, .int .u8 0, .int .u8 0, .int .u8 0, .int .u8 0, .int .u8 0, .int .u8 0, .int .u8 0, .int .u8 0, .int .u8 0, .int .u8 0, .int .u8 0, .int .u8 0], true⟩
def ti168 : TI := ⟨.int .u64, 1, 8, .int .u64 0, false⟩
def ti169 : TI := ⟨.func, 1, 8, .nilFunc, false⟩
def ti170 : TI := ⟨.func, 1, 8, .nilFunc, false⟩
def ti171 : TI := ⟨.other, 1, 0, .tuple #[.slice none 0 0, .string ⟨#[]⟩], false⟩
def ti172 : TI := ⟨.func, 1, 8, .nilFunc, false⟩
def ti173 : TI := ⟨.func, 1, 8, .nilFunc, false⟩
def ti174 : TI := ⟨.func, 1, 8, .nilFunc, false⟩
def ti175 : TI := ⟨.func, 1, 8, .nilFunc, false⟩
def ti176 : TI := ⟨.int .u64, 1, 8, .int .u64 0, false⟩
def ti177 : TI := ⟨.func, 1, 8, .nilFunc, false⟩
def ti178 : TI := ⟨.arr 20 168, 20, 160, .agg #[.int .u64 0, .int .u64 0, .int .u64 0, .int .u64 0, .int .u64 0, .int .u64 0, .int .u64 0, .int .u64 0, .int .u64 0, .int .u64 0, .int .u64 0, .int .u64 0, .int .u64 0, .int .u64 0, .int .u64 0, .int .u64 0, .int .u64 0, .int .u64 0, .int .u64 0, .int .u64 0], true⟩
def ti179 : TI := ⟨.int .u32, 1, 4, .int .u32 0, false⟩
def ti180 : TI := ⟨.arr 65 5, 65, 65, .agg #[.int .u8 0, .int .u8 0, .int .u8 0, .int .u8 0, .int .u8 0, .int .u8 0, .int .u8 0, .int .u8 0, .int .u8 0, .int .u8 0, .int .u8 0, .int .u8 0, .int .u8 0, .int .u8 0, .int .u8 0, .int .u8 0, .int .u8 0, .int .u8 0, .int .u8 0, .int .u8 0, .int .u8 0, .int .u8 0, .int .u8 0, .int .u8 0, .int .u8 0, .int .u8 0, .int .u8 0, .int .u8 0, .int .u8 0, .int .u8 0, .int .u8 0, .int .u8 0, .int .u8 0, .int .u8 0, .int .u8 0, .int .u8 0, .int .u8 0, .int .u8 0, .int .u8 0, .int .u8 0, .int .u8 0, .int .u8 0, .int .u8 0, .int .u8 0, .int .u8 0, .int .u8 0, .int .u8 0, .int .u8 0, .int .u8 0, .int .u8 0, .int .u8 0, .int .u8 0, .int .u8 0, .int .u8 0, .int .u8 0, .int .u8 0, .int .u8 0, .int .u8 0, .int .u8 0, .int .u8 0, .int .u8 0, .int .u8 0, .int .u8 0, .int .u8 0, .int .u8 0], true⟩
def ti181 : TI := ⟨.func, 1, 8, .nilFunc, false⟩
def ti182 : TI := ⟨.arr 256 5, 256, 256, .agg #[.int .u8 0, .int .u8 0, .int .u8 0, .int .u8 0, .int .u8 0, .int .u8 0, .int .u8 0, .int .u8 0, .int .u8 0, .int .u8 0, .int .u8 0, .int .u8 0, .int .u8 0, .int .u8 0, .int .u8 0, .int .u8 0, .int .u8 0, .int .u8 0, .int .u8 0, .int .u8 0, .int .u8 0, .int .u8 0, .int .u8 0, .int .u8 0, .int .u8 0, .int .u8 0, .int .u8 0, .int .u8 0, .int .u8 0, .int .u8 0, .int .u8 0, .int .u8 0, .int .u8 0, .int .u8 0, .int .u8 0, .int .u8 0, .int .u8 0, .int .u8 0, .int .u8 0, .int .u8 0, .int .u8 0, .int .u8 0, .int .u8 0, .int .u8 0, .int .u8 0, .int .u8 0, .int .u8 0, .int .u8 0, .int .u8 0, .int .u8 0, .int .u8 0, .int .u8 0, .int .u8 0, .int .u8 0, .int .u8 0, .int .u8 0, .int .u8 0, .int .u8 0, .int .u8 0, .int .u8 0, .int .u8 0, .int .u8 0, .int .u8 0, .int .u8 0, .int .u8 0, .int .u8 0, .int .u8 0, .int .u8 0, .int .u8 0, .int .u8 0, .int .u8 0, .int .u8 0, .int .u8 0, .int .u8 0, .int .u8 0, .int .u8 0, .int .u8 0, .int .u8 0, .int .u8 0, .int .u8 0, .int .u8 0, .int .u8 0, .int .u8 0, .int .u8 0, .int .u8 0, .int .u8 0, .int .u8 0, .int .u8 0, .int .u8 0, .int .u8 0, .int .u8 0, .int .u8 0, .int .u8 0, .int .u8 0, .int .u8 0, .int .u8 0, .int .u8 0, .int .u8 0, .int .u8 0, .int .u8 0, .int .u8 0, .int .u8 0, .int .u8 0, .int .u8 0, .int .u8 0, .int .u8 0, .int .u8 0, .int .u8 0, .int .u8 0, .int .u8 0, .int .u8 0, .int .u8 0, .int .u8 0, .int .u8 0, .int .u8 0, .int .u8 0, .int .u8 0, .int .u8 0, .int .u8 0, .int .u8 0, .int .u8 0, .int .u8 0, .int .u8 0, .int .u8 0, .int .u8 0, .int .u8 0, .int .u8 0, .int .u8 0, .int .u8 0, .int .u8 0, .int .u8 0, .int .u8 0, .int .u8 0, .int .u8 0, .int .u8 0, .int .u8 0, .int .u8 0, .int .u8 0, .int .u8 0, .int .u8 0, .int .u8 0, .int .u8 0, .int .u8 0, .int .u8 0, .int .u8 0, .int .u8 0, .int .u8 0, .int .u8 0, .int .u8 0, .int .u8 0, .int .u8 0, .int .u8 0, .int .u8 0, .int .u8 0, .int .u8 0, .int .u8 0, .int .u8 0, .int .u8 0, .int .u8 0, .int .u8 0, .int .u8 0, .int .u8 0, .int .u8 0, .int .u8 0, .int .u8 0, .int .u8 0, .int .u8 0, .int .u8 0, .int .u8 0, .int .u8 0, .int .u8 0, .int .u8 0, .int .u8 0, .int .u8 0, .int .u8 0, .int .u8 0, .int .u8 0, .int .u8 0, .int .u8 0, .int .u8 0, .int .u8 0, .int .u8 0, .int .u8 0, .int .u8 0, .int .u8 0, .int .u8 0, .int .u8 0, .int .u8 0, .int .u8 0, .int .u8 0, .int .u8 0, .int .u8 0, .int .u8 0, .int .u8 0, .int .u8 0, .int .u8 0, .int .u8 0, .int .u8 0, .int .u8 0, .int .u8 0, .int .u8 0, .int .u8 0, .int .u8 0, .int .u8 0, .int .u8 0, .int .u8 0, .int .u8 0, .int .u8 0, .int .u8 0, .int .u8 0, .int .u8 0, .int .u8 0, .int .u8 0, .int .u8 0, .int .u8 0, .int .u8 0, .int .u8 0, .int .u8 0, .int .u8 0, .int .u8 0, .int .u8 0, .int .u8 0, .int .u8 0, .int .u8 0, .int .u8 0, .int .u8 0, .int .u8 0, .int .u8 0, .int .u8 0, .int .u8 0, .int .u8 0, .int .u8 0, .int .u8 0, .int .u8 0, .int .u8 0, .int .u8 0, .int .u8 0, .int .u8 0, .int .u8 0, .int .u8 0, .int .u8 0, .int .u8 0, .int .u8 0, .int .u8 0, .int .u8 0, .int .u8 0, .int .u8 0, .int .u8 0, .int .u8 0, .int .u8 0, .int .u8 0, .int .u8 0, .int .u8 0, .int .u8 0, .int .u8 0, .int .u8 0], true⟩
def ti183 : TI := ⟨.struct [(0, 5), (1, 5)], 2, 2, .agg #[.int .u8 0, .int .u8 0], true⟩
def ti184 : TI := ⟨.struct [(0, 5), (1, 5)], 2, 2, .agg #[.int .u8 0, .int .u8 0], true⟩
def ti185 : TI := ⟨.arr 16 184, 32, 32, .agg #[.int .u8 0, .int .u8 0, .int .u8 0, .int .u8 0, .int .u8 0, .int .u8 0, .int .u8 0, .int .u8 0, .int .u8 0, .int .u8 0, .int .u8 0, .int .u8 0, .int .u8 0, .int .u8 0, .int .u8 0, .int .u8 0, .int .u8 0, .int .u8 0, .int .u8 0, .int .u8 0, .int .u8 0, .int .u8 0, .int .u8 0, .int .u8 0, .int .u8 0, .int .u8 0, .int .u8 0, .int .u8 0, .int .u8 0, .int .u8 0, .int .u8 0, .int .u8 0], true⟩
def ti186 : TI := ⟨.func, 1, 8, .nilFunc, false⟩
def ti187 : TI := ⟨.other, 1, 0, .tuple #[.int .u32 0, .int .u32 0], false⟩
def ti188 : TI := ⟨.func, 1, 8, .nilFunc, false⟩
def ti189 : TI := ⟨.func, 1, 8, .nilFunc, false⟩
def ti190 : TI := ⟨.arr 32 5, 32, 32, .agg #[.int .u8 0, .int .u8 0, .int .u8 0, .int .u8 0, .int .u8 0, .int .u8 0, .int .u8 0, .int .u8 0, .int .u8 0, .int .u8 0, .int .u8 0, .int .u8 0, .int .u8 0, .int .u8 0, .int .u8 0, .int .u8 0, .int .u8 0, .int .u8 0, .int .u8 0, .int .u8 0, .int .u8 0, .int .u8 0, .int .u8 0, .int .u8 0, .int .u8 0, .int .u8 0, .int .u8 0, .int .u8 0, .int .u8 0, .int .u8 0, .int .u8 0, .int .u8 0], true⟩
def ti191 : TI := ⟨.arr 64 5, 64, 64, .agg #[.int .u8 0, .int .u8 0, .int .u8 0, .int .u8 0, .int .u8 0, .int .u8 0, .int .u8 0, .int .u8 0, .int .u8 0, .int .u8 0, .int .u8 0, .int .u8 0, .int .u8 0, .int .u8 0, .int .u8 0, .int .u8 0, .int .u8 0, .int .u8 0, .int .u8 0, .int .u8 0, .int .u8 0, .int .u8 0, .int .u8 0, .int .u8 0, .int .u8 0, .int .u8 0, .int .u8 0, .int .u8 0, .int .u8 0, .int .u8 0, .int .u8 0, .int .u8 0, .int .u8 0, .int .u8 0, .int .u8 0, .int .u8 0, .int .u8 0, .int .u8 0, .int .u8 0, .int .u8 0, .int .u8 0, .int .u8 0, .int .u8 0, .int .u8 0, .int .u8 0, .int .u8 0, .int .u8 0, .int .u8 0, .int .u8 0, .int .u8 0, .int .u8 0, .int .u8 0, .int .u8 0, .int .u8 0, .int .u8 0, .int .u8 0, .int .u8 0, .int .u8 0, .int .u8 0, .int .u8 0, .int .u8 0, .int .u8 0, .int .u8 0, .int .u8 0], true⟩
def ti192 : TI := ⟨.struct [(0, 17), (1, 17), (2, 17), (3, 9)], 4, 40, .agg #[.pointer none, .pointer none, .pointer none, .string ⟨#[]⟩], false⟩
def ti193 : TI := ⟨.struct [(0, 17), (1, 17), (2, 17), (3, 9)], 4, 40, .agg #[.pointer none, .pointer none, .pointer none, .string ⟨#[]⟩], false⟩
def ti194 : TI := ⟨.arr 0 16, 0, 0, .agg #[], true⟩
def ti197 : TI := ⟨.func, 1, 8, .nilFunc, false⟩
def ti198 : TI := ⟨.int .u8, 1, 1, .int .u8 0, false⟩
def ti199 : TI := ⟨.int .u8, 1, 1, .int .u8 0, false⟩
def ti200 : TI := ⟨.func, 1, 8, .nilFunc, false⟩
def ti201 : TI := ⟨.int .i32, 1, 4, .int .i32 0, false⟩
def ti202 : TI := ⟨.int .i32, 1, 4, .int .i32 0, false⟩
def ti203 : TI := ⟨.struct [(0, 12), (1, 12), (2, 179), (3, 198), (4, 5), (5, 5), (6, 199), (7, 200), (8, 142), (9, 201), (10, 202)], 11, 48, .agg #[.int .u64 0, .int .u64 0, .int .u32 0, .int .u8 0, .int .u8 0, .int .u8 0, .int .u8 0, .nilFunc, .pointer none, .int .i32 0, .int .i32 0], false⟩
def ti204 : TI := ⟨.struct [(0, 12), (1, 12), (2, 179), (3, 198), (4, 5), (5, 5), (6, 199), (7, 200), (8, 142), (9, 201), (10, 202)], 11, 48, .agg #[.int .u64 0, .int .u64 0, .int .u32 0, .int .u8 0, .int .u8 0, .int .u8 0, .int .u8 0, .nilFunc, .pointer none, .int .i32 0, .int .i32 0], false⟩
def tyTree : TT := (.node (.node (.node (.node (.node (.node (.node (.node .leaf 0 ti0 .leaf) 1 ti1 (.node .leaf 2 ti2 .leaf)) 3 ti3 (.node (.node .leaf 4 ti4 .leaf) 5 ti5 .leaf)) 6 ti6 (.node (.node (.node .leaf 7 ti7 .leaf) 8 ti8 .leaf) 9 ti9 (.node (.node .leaf 10 ti10 .leaf) 11 ti11 .leaf))) 12 ti12 (.node (.node (.node (.node .leaf 13 ti13 .leaf) 14 ti14 (.node .leaf 15 ti15 .leaf)) 16 ti16 (.node (.node .leaf 17 ti17 .leaf) 18 ti18 .leaf)) 19 ti19 (.node (.node (.node .leaf 20 ti20 .leaf) 21 ti21 .leaf) 22 ti22 (.node (.node .leaf 23 ti23 .leaf) 24 ti24 .leaf)))) 25 ti25 (.node (.node (.node (.node (.node .leaf 26 ti26 .leaf) 27 ti27 (.node .leaf 28 ti28 .leaf)) 29 ti29 (.node (.node .leaf 30 ti30 .leaf) 31 ti31 .leaf)) 32 ti32 (.node (.node (.node .leaf 33 ti33 .leaf) 34 ti34 .leaf) 35 ti35 (.node (.node .leaf 36 ti36 .leaf) 37 ti37 .leaf))) 38 ti38 (.node (.node (.node (.node .leaf 39 ti39 .leaf) 40 ti40 .leaf) 41 ti41 (.node (.node .leaf 42 ti42 .leaf) 43 ti43 .leaf)) 44 ti44 (.node (.node (.node .leaf 45 ti45 .leaf) 46 ti46 .leaf) 47 ti47 (.node (.node .leaf 48 ti48 .leaf) 49 ti49 .leaf))))) 50 ti50 (.node (.node (.node (.node (.node (.node .leaf 51 ti51 .leaf) 52 ti52 (.node .leaf 53 ti53 .leaf)) 54 ti54 (.node (.node .leaf 55 ti55 .leaf) 56 ti56 .leaf)) 57 ti57 (.node (.node (.node .leaf 58 ti58 .leaf) 59 ti59 .leaf) 60 ti60 (.node (.node .leaf 61 ti61 .leaf) 62 ti62 .leaf))) 63 ti63 (.node (.node (.node (.node .leaf 64 ti64 .leaf) 65 ti65 (.node .leaf 66 ti66 .leaf)) 67 ti67 (.node (.node .leaf 68 ti68 .leaf) 69 ti69 .leaf)) 70 ti70 (.node (.node (.node .leaf 71 ti71 .leaf) 72 ti72 .leaf) 73 ti73 (.node (.node .leaf 74 ti74 .leaf) 75 ti75 .leaf)))) 76 ti76 (.node (.node (.node (.node (.node .leaf 77 ti77 .leaf) 78 ti78 (.node .leaf 79 ti79 .leaf)) 80 ti80 (.node (.node .leaf 81 ti81 .leaf) 82 ti82 .leaf)) 83 ti83 (.node (.node (.node .leaf 84 ti84 .leaf) 85 ti85 .leaf) 86 ti86 (.node (.node .leaf 87 ti87 .leaf) 88 ti88 .leaf))) 89 ti89 (.node (.node (.node (.node .leaf 90 ti90 .leaf) 91 ti91 .leaf) 92 ti92 (.node (.node .leaf 93 ti93 .leaf) 94 ti94 .leaf)) 95 ti95 (.node (.node (.node .leaf 96 ti96 .leaf) 97 ti97 .leaf) 98 ti98 (.node (.node .leaf 99 ti99 .leaf) 100 ti100 .leaf)))))) 101 ti101 (.node (.node (.node (.node (.node (.node (.node .leaf 102 ti102 .leaf) 103 ti103 (.node .leaf 104 ti104 .leaf)) 105 ti105 (.node (.node .leaf 106 ti106 .leaf) 107 ti107 .leaf)) 108 ti108 (.node (.node (.node .leaf 109 ti109 .leaf) 110 ti110 .leaf) 111 ti111 (.node (.node .leaf 112 ti112 .leaf) 113 ti113 .leaf))) 114 ti114 (.node (.node (.node (.node .leaf 115 ti115 .leaf) 116 ti116 (.node .leaf 117 ti117 .leaf)) 118 ti118 (.node (.node .leaf 119 ti119 .leaf) 120 ti120 .leaf)) 121 ti121 (.node (.node (.node .leaf 122 ti122 .leaf) 123 ti123 .leaf) 124 ti124 (.node (.node .leaf 125 ti125 .leaf) 126 ti126 .leaf)))) 127 ti127 (.node (.node (.node (.node (.node .leaf 128 ti128 .leaf) 129 ti129 (.node .leaf 130 ti130 .leaf)) 131 ti131 (.node (.node .leaf 132 ti132 .leaf) 133 ti133 .leaf)) 134 ti134 (.node (.node (.node .leaf 135 ti135 .leaf) 136 ti136 .leaf) 137 ti137 (.node (.node .leaf 138 ti138 .leaf) 139 ti139 .leaf))) 140 ti140 (.node (.node (.node (.node .leaf 141 ti141 .leaf) 142 ti142 .leaf) 143 ti143 (.node (.node .leaf 144 ti144 .leaf) 145 ti145 .leaf)) 146 ti146 (.node (.node (.node .leaf 147 ti147 .leaf) 148 ti148 .leaf) 149 ti149 (.node (.node .leaf 150 ti150 .leaf) 151 ti151 .leaf))))) 152 ti152 (.node (.node (.node (.node (.node (.node .leaf 153 ti153 .leaf) 154 ti154 (.node .leaf 155 ti155 .leaf)) 156 ti156 (.node (.node .leaf 157 ti157 .leaf) 158 ti158 .leaf)) 159 ti159 (.node (.node (.node .leaf 160 ti160 .leaf) 161 ti161 .leaf) 162 ti162 (.node (.node .leaf 163 ti163 .leaf) 164 ti164 .leaf))) 165 ti165 (.node (.node (.node (.node .leaf 166 ti166 .leaf) 167 ti167 (.node .leaf 168 ti168 .leaf)) 169 ti169 (.node (.node .leaf 170 ti170 .leaf) 171 ti171 .leaf)) 172 ti172 (.node (.node (.node .leaf 173 ti173 .leaf) 174 ti174 .leaf) 175 ti175 (.node (.node .leaf 176 ti176 .leaf) 177 ti177 .leaf)))) 178 ti178 (.node (.node (.node (.node (.node .leaf 179 ti179 .leaf) 180 ti180 (.node .leaf 181 ti181 .leaf)) 182 ti182 (.node (.node .leaf 183 ti183 .leaf) 184 ti184 .leaf)) 185 ti185 (.node (.node (.node .leaf 186 ti186 .leaf) 187 ti187 .leaf) 188 ti188 (.node (.node .leaf 189 ti189 .leaf) 190 ti190 .leaf))) 191 ti191 (.node (.node (.node (.node .leaf 192 ti192 .leaf) 193 ti193 .leaf) 194 ti194 (.node (.node .leaf 197 ti197 .leaf) 198 ti198 .leaf)) 199 ti199 (.node (.node (.node .leaf 200 ti200 .leaf) 201 ti201 .leaf) 202 ti202 (.node (.node .leaf 203 ti203 .leaf) 204 ti204 .leaf)))))))
def tyList : List (Nat × TI) := [(0, ti0), (1, ti1), (2, ti2), (3, ti3), (4, ti4), (5, ti5), (6, ti6), (7, ti7), (8, ti8), (9, ti9), (10, ti10), (11, ti11), (12, ti12), (13, ti13), (14, ti14), (15, ti15), (16, ti16), (17, ti17), (18, ti18), (19, ti19), (20, ti20), (21, ti21), (22, ti22), (23, ti23), (24, ti24), (25, ti25), (26, ti26), (27, ti27), (28, ti28), (29, ti29), (30, ti30), (31, ti31), (32, ti32), (33, ti33), (34, ti34), (35, ti35), (36, ti36), (37, ti37), (38, ti38), (39, ti39), (40, ti40), (41, ti41), (42, ti42), (43, ti43), (44, ti44), (45, ti45), (46, ti46), (47, ti47), (48, ti48), (49, ti49), (50, ti50), (51, ti51), (52, ti52), (53, ti53), (54, ti54), (55, ti55), (56, ti56), (57, ti57), (58, ti58), (59, ti59), (60, ti60), (61, ti61), (62, ti62), (63, ti63), (64, ti64), (65, ti65), (66, ti66), (67, ti67), (68, ti68), (69, ti69), (70, ti70), (71, ti71), (72, ti72), (73, ti73), (74, ti74), (75, ti75), (76, ti76), (77, ti77), (78, ti78), (79, ti79), (80, ti80), (81, ti81), (82, ti82), (83, ti83), (84, ti84), (85, ti85), (86, ti86), (87, ti87), (88, ti88), (89, ti89), (90, ti90), (91, ti91), (92, ti92), (93, ti93), (94, ti94), (95, ti95), (96, ti96), (97, ti97), (98, ti98), (99, ti99), (100, ti100), (101, ti101), (102, ti102), (103, ti103), (104, ti104), (105, ti105), (106, ti106), (107, ti107), (108, ti108), (109, ti109), (110, ti110), (111, ti111), (112, ti112), (113, ti113), (114, ti114), (115, ti115), (116, ti116), (117, ti117), (118, ti118), (119, ti119), (120, ti120), (121, ti121), (122, ti122), (123, ti123), (124, ti124), (125, ti125), (126, ti126), (127, ti127), (128, ti128), (129, ti129), (130, ti130), (131, ti131), (132, ti132), (133, ti133), (134, ti134), (135, ti135), (136, ti136), (137, ti137), (138, ti138), (139, ti139), (140, ti140), (141, ti141), (142, ti142), (143, ti143), (144, ti144), (145, ti145), (146, ti146), (147, ti147), (148, ti148), (149, ti149), (150, ti150), (151, ti151), (152, ti152), (153, ti153), (154, ti154), (155, ti155), (156, ti156), (157, ti157), (158, ti158), (159, ti159), (160, ti160), (161, ti161), (162, ti162), (163, ti163), (164, ti164), (165, ti165), (166, ti166), (167, ti167), (168, ti168), (169, ti169), (170, ti170), (171, ti171), (172, ti172), (173, ti173), (174, ti174), (175, ti175), (176, ti176), (177, ti177), (178, ti178), (179, ti179), (180, ti180), (181, ti181), (182, ti182), (183, ti183), (184, ti184), (185, ti185), (186, ti186), (187, ti187), (188, ti188), (189, ti189), (190, ti190), (191, ti191), (192, ti192), (193, ti193), (194, ti194), (197, ti197), (198, ti198), (199, ti199), (200, ti200), (201, ti201), (202, ti202), (203, ti203), (204, ti204)]

def tyAll : List (Nat × TI) → TT → Bool
  | _, .leaf => true
  | l, .node a i _ b => tyAll l a && (l.any fun p => Nat.beq p.1 i) && tyAll l b
theorem tt_mem : ∀ {t : TT} {n : Nat} {ti : TI}, t.get n = some ti → (n, ti) ∈ t.list
  | .leaf, _, _, h => by cases h
  | .node a i u b, n, ti, h => by
    simp only [TT.get] at h
    simp only [TT.list, List.mem_append, List.mem_cons]
    split at h
    · rename_i hb; cases h; rw [beq_true hb]; exact .inr (.inl rfl)
    · split at h
      · exact .inl (tt_mem h)
      · exact .inr (.inr (tt_mem h))
theorem tiOf_all {P : Program} : ∀ {l : List (Nat × TI)}, l.map (fun p => tiOf P p.1) = l.map (fun p => some p.2) → ∀ p ∈ l, tiOf P p.1 = some p.2
  | [], _, p, hp => by cases hp
  | q :: l, h, p, hp => by
    simp only [List.map_cons, List.cons.injEq] at h
    rcases List.mem_cons.1 hp with rfl | hp
    · exact h.1
    · exact tiOf_all h.2 p hp
def keyB (n : Nat) : Bool := Nat.beq n 3 || Nat.beq n 133
def bldB (n : Nat) : Bool := Nat.beq n 114
@[reducible] def envF (n : Nat) (wr : Nat → Bool) : Env AF := ⟨tyTree.get, regF, wr, n, keyB, 0, fun _ _ => True, true, false, bldB⟩
theorem tyTree_list : tyTree.list = tyList := by kernel_rfl
theorem tyList_ok : tyList.map (fun p => tiOf Tryd.prog p.1) = tyList.map (fun p => some p.2) := by kernel_rfl
theorem keyed3 : Maps.Keyed Tryd.prog 3 := Maps.int_keyed (q := .i64) (by kernel_rfl)
theorem keyed32 : Maps.Keyed Tryd.prog 133 := Maps.Keyed.of_law (deep_law (m := 2) (by decide) (by kernel_rfl) (by kernel_rfl) (by kernel_rfl))
theorem keyB_spec {K : Nat} (h : keyB K = true) : K = 3 ∨ K = 133 := by
  unfold keyB at h
  rw [Bool.or_eq_true] at h
  rcases h with h | h
  · exact .inl (beq_true h)
  · exact .inr (beq_true h)
theorem keys_of3 (x : Int) (h : -9223372036854775808 ≤ x ∧ x ≤ 9223372036854775807) : ∃ l, keyOf Tryd.prog 3 (.int .i64 x) = some l := key_of_int (by kernel_rfl) h
theorem keys_of32 (a b : Int) (h : (-9223372036854775808 ≤ a ∧ a ≤ 9223372036854775807) ∧ (-9223372036854775808 ≤ b ∧ b ≤ 9223372036854775807)) : ∃ l, keyOf Tryd.prog 133 (.agg #[.int .i64 a, .int .i64 b]) = some l :=
  key_of_pair (e := 3) (by kernel_rfl) (by kernel_rfl) (by kernel_rfl) (by kernel_rfl) (by kernel_rfl) (of_decide_eq_true (by kernel_rfl)) h.1 h.2
theorem env_ok (n : Nat) (wr : Nat → Bool) : (envF n wr).Ok Tryd.prog := ⟨fun T ti h => tiOf_all tyList_ok (T, ti) (tyTree_list ▸ tt_mem h), fun K h => by
    rcases keyB_spec h with rfl | rfl
    · exact keyed3
    · exact keyed32,
  fun K h x hx => by
    rcases keyB_spec h with rfl | rfl
    · obtain ⟨l, hl⟩ := keys_of3 x hx
      exact ⟨_, l, rfl, hl⟩
    · obtain ⟨l, hl⟩ := keys_of32 x.1 x.2 hx
      exact ⟨_, l, rfl, hl⟩⟩
/-- Elements of these types name no frozen memory. -/
def EK.fl : EK → Bool
  | .none => false
  | .ki => true
  | .kb => true
  | .ku => true
  | .ks => true
  | .kiii => true
  | .kii => true
  | .kiib => true
  | .kisiil46l95 => false
  | .kiiiiiil3 => false
  | .kiiii => true
  | .ksi => true
  | .kl3 => false
  | .kil49 => false
def flF (n : Nat) : Bool := (kinds n).fl
theorem ek_fl {fl : Nat → Bool} : ∀ (k : EK), k.fl = true → ∀ (x : k.ty) (i : Nat) (s : SV AF), (k.ei.enc x)[i]? = some s → flatS fl s = true
  | .none, h, _, _, _, _ => by cases h
  | .ki, _, x, i, s, h => by
    match i with
    | 0 => simp [EK.ei, eiki] at h; subst h; rfl
    | i + 1 => simp [EK.ei, eiki] at h
  | .kb, _, x, i, s, h => by
    match i with
    | 0 => simp [EK.ei, eikb] at h; subst h; rfl
    | i + 1 => simp [EK.ei, eikb] at h
  | .ku, _, x, i, s, h => by
    match i with
    | 0 => simp [EK.ei, eiku] at h; subst h; rfl
    | i + 1 => simp [EK.ei, eiku] at h
  | .ks, _, x, i, s, h => by
    match i with
    | 0 => simp [EK.ei, eiks] at h; subst h; rfl
    | i + 1 => simp [EK.ei, eiks] at h
  | .kiii, _, x, i, s, h => by
    match i with
    | 0 => simp [EK.ei, eikiii] at h; subst h; rfl
    | 1 => simp [EK.ei, eikiii] at h; subst h; rfl
    | 2 => simp [EK.ei, eikiii] at h; subst h; rfl
    | i + 3 => simp [EK.ei, eikiii] at h
  | .kii, _, x, i, s, h => by
    match i with
    | 0 => simp [EK.ei, eikii] at h; subst h; rfl
    | 1 => simp [EK.ei, eikii] at h; subst h; rfl
    | i + 2 => simp [EK.ei, eikii] at h
  | .kiib, _, x, i, s, h => by
    match i with
    | 0 => simp [EK.ei, eikiib] at h; subst h; rfl
    | 1 => simp [EK.ei, eikiib] at h; subst h; rfl
    | 2 => simp [EK.ei, eikiib] at h; subst h; rfl
    | i + 3 => simp [EK.ei, eikiib] at h
  | .kisiil46l95, h, _, _, _, _ => by cases h
  | .kiiiiiil3, h, _, _, _, _ => by cases h
  | .kiiii, _, x, i, s, h => by
    match i with
    | 0 => simp [EK.ei, eikiiii] at h; subst h; rfl
    | 1 => simp [EK.ei, eikiiii] at h; subst h; rfl
    | 2 => simp [EK.ei, eikiiii] at h; subst h; rfl
    | 3 => simp [EK.ei, eikiiii] at h; subst h; rfl
    | i + 4 => simp [EK.ei, eikiiii] at h
  | .ksi, _, x, i, s, h => by
    match i with
    | 0 => simp [EK.ei, eiksi] at h; subst h; rfl
    | 1 => simp [EK.ei, eiksi] at h; subst h; rfl
    | i + 2 => simp [EK.ei, eiksi] at h
  | .kl3, h, _, _, _, _ => by cases h
  | .kil49, h, _, _, _, _ => by cases h
theorem flF_ok : FlOk regF flF := fun T hT x i s h => ek_fl (kinds T) hT x i s h
theorem mixed : Tryd.prog.follows .mixedOrders = true := by kernel_rfl
end
end Go.Sx

/-
  Own tool 'Sx', part W: the door for a function of this seat; a tactic's terms.
-/
namespace Go.Sx
open Go Go.Proofs Go.Proofs.YtmogappoadglgaaDoor
theorem meets {f : FuncId} {fn : Func} (hf : Tryd.prog.funcs[f]? = some fn) {s : Spec AF} (n : Nat) (wr : Nat → Bool) (hn : n = fn.ntmps) (hname : (fn.name == "runtime.NumGoroutine") = false) (hb : fn.body = some (fn.body.getD .skip))
    (h : XFun Tryd.prog (envF n wr) flF fn (fn.body.getD .skip) s) : Meets Tryd.prog regF f s :=
  meets_of_XFun (E := envF n wr) mixed (env_ok n wr) flF_ok hf hname hb hn (Nat.zero_le _) (fun _ _ => trivial) h
/-- .. where states may be told anew between two pieces of code. -/
@[reducible] noncomputable def envC (n : Nat) (wr : Nat → Bool) : Env AF := ⟨tyTree.get, regF, wr, n, keyB, 0, fun _ _ => True, true, true, bldB⟩
theorem meetsC {f : FuncId} {fn : Func} (hf : Tryd.prog.funcs[f]? = some fn) {s : Spec AF} (n : Nat) (wr : Nat → Bool) (hn : n = fn.ntmps) (hname : (fn.name == "runtime.NumGoroutine") = false) (hb : fn.body = some (fn.body.getD .skip))
    (h : XFun Tryd.prog (envC n wr) flF fn (fn.body.getD .skip) s) : Meets Tryd.prog regF f s :=
  meets_of_XFun (E := envC n wr) mixed ⟨(env_ok n wr).tt, (env_ok n wr).keyed, (env_ok n wr).keys⟩ flF_ok hf hname hb hn (Nat.zero_le _) (fun _ _ => trivial) h
/-- The environment of an iterator. -/
@[reducible] noncomputable def envY (n : Nat) (wr : Nat → Bool) (k : Nat) (Y : World → Rho → Prop) : Env AF := ⟨tyTree.get, regF, wr, n, keyB, k, Y, true, false, bldB⟩
theorem meetsIt {f : FuncId} {fn : Func} (hf : Tryd.prog.funcs[f]? = some fn) {k : Nat} {sy : Spec AF} {sp : Nat → Spec AF} (n : Nat) (wr : Nat → Bool) (hn : n = fn.ntmps) (hname : (fn.name == "runtime.NumGoroutine") = false) (hb : fn.body = some (fn.body.getD .skip)) (hk : k ≤ 1000)
    (h : ∀ (l : Nat) (Y : World → Rho → Prop), MeetsY Tryd.prog regF Y l sy → XFun Tryd.prog (envY n wr k Y) flF fn (fn.body.getD .skip) (sp l)) : MeetsIt Tryd.prog regF k sy f sp :=
  meetsIt_of_XFun (E := envF n wr) mixed (env_ok n wr) flF_ok hf hname hb hn hk h
abbrev noWr : Nat → Bool := fun _ => false
abbrev vI (n : Int) : SV AF := .val (.int .i64 n)
abbrev vB (b : Bool) : SV AF := .val (.bool b)
theorem tell {p : Prop} [Decidable p] {K : Bool → Prop} (h1 : p → K true) (h2 : ¬ p → K false) : (∃ c, c = decide p) ∧ ∀ c, c = decide p → K c :=
  ⟨⟨_, rfl⟩, fun c hc => by
    subst hc
    by_cases h : p
    · rw [decide_eq_true h]; exact h1 h
    · rw [decide_eq_false h]; exact h2 h⟩
theorem tell0 {p : Prop} [Decidable p] {K : Bool → Prop} (h : K (decide p)) : (∃ c, c = decide p) ∧ ∀ c, c = decide p → K c := ⟨⟨_, rfl⟩, fun c hc => by subst hc; exact h⟩
theorem inI {z : Int} (h : -9223372036854775808 ≤ z ∧ z ≤ 9223372036854775807) : inR .i64 z := h
theorem eI {R : Reg AF} {st : St AF} {a b : Int} (h : a = b) : EntR R st (vI a) (vI b) := congrArg vI h
theorem eB {R : Reg AF} {st : St AF} {a b : Bool} (h : a = b) : EntR R st (vB a) (vB b) := congrArg vB h
/-- A call whose arguments are as the specification has them, and that writes nothing. -/
theorem vc0 {p q r s t : Prop} (hp : p) (hq : q) (hr : r) (hs : s) (ht : t) : p ∧ q ∧ r ∧ s ∧ t := ⟨hp, hq, hr, hs, ht⟩
theorem cstL {T : Nat} (e : T = T) (x : List (AF T)) : (e ▸ x : List (AF T)) = x := rfl
/-- The bounds of 'int'. -/
def InI (n : Int) : Prop := -9223372036854775808 ≤ n ∧ n ≤ 9223372036854775807
end Go.Sx

/-
  Own tool 'Sx', part X: from what a function meets to a given statement: what came in, read.
-/
namespace Go.Sx
open Go Go.Proofs Go.Proofs.YtmogappoadglgaaDoor
open Go.ChangeShapes Go.WideShapes Go.RowKit
section
variable {H : Type} {enc : TypeId × Value → H} {P : Program}
theorem trodAll_stays (hl : laidOutB P = true) {W W' : World} {sp : Nat → Bool} : ∀ {ts : List TypeId} {vs : List Value} {ds : List (DataW H)} {ps : List MemPlace},
    (ts.all fun t => P.readableRec t && decide (t < P.types.size)) = true → DataW.TrodAll enc P W 0 (fun _ => true) true ts vs ds ps →
    (∀ p ∈ ps, W.sameAt W' p) → (∀ p ∈ ps, sp p.block = true) → DataW.TrodAll enc P W' 0 sp true ts vs ds ps
  | [], [], [], _, _, h, _, _ => h
  | t :: ts, v :: vs, d :: ds, ps, hr, h, hs, hp => by
    obtain ⟨p, q, h1, h2, rfl⟩ := h
    simp only [List.all_cons, Bool.and_eq_true, decide_eq_true_eq] at hr
    exact ⟨p, q, WideElems.Trod_stays hl hr.1.1 hr.1.2 h1 (fun x hx => hs x (List.mem_append_left _ hx)) (fun x hx => hp x (List.mem_append_left _ hx)),
      trodAll_stays hl (by simpa using hr.2) h2 (fun x hx => hs x (List.mem_append_right _ hx)) (fun x hx => hp x (List.mem_append_right _ hx)), rfl⟩
  | [], _ :: _, _, _, _, h, _, _ => h.elim
  | [], [], _ :: _, _, _, h, _, _ => h.elim
  | _ :: _, [], _, _, _, h, _, _ => h.elim
  | _ :: _, _ :: _, [], _, _, h, _, _ => h.elim
/-- What is read at a value's cells is this; whatever names stand for, and whatever is somebody's. -/
def Says (w : World) (s : SV AF) (v : Value) : Prop := ∀ (ρ : Rho) (O : Nat → Prop), (∀ b, ¬ O b) → Den regF ρ O w s v
def SaysL (w : World) (ss : List (SV AF)) (cs : List Value) : Prop := ss.length = cs.length ∧ ∀ (j : Nat) s v, ss[j]? = some s → cs[j]? = some v → Says w s v
/-- Elements of a type that read as data. -/
def Rd (P : Program) (e : TypeId) (good : AF e → Prop) : Prop := ∀ {H : Type} {enc : TypeId × Value → H} {w : World} {sp : Nat → Bool} {n : Nat} {cs : List Value} {x : DataW H × List MemPlace},
  DataW.trod enc P w 0 sp true n e cs = some x → ∃ y : AF e, good y ∧ SaysL w (regF.enc e y) cs
/-- A parameter that reads as data. -/
def RdA (P : Program) {α : Type} (t : TypeId) (f : α → SV AF) (good : α → Prop) : Prop := ∀ {H : Type} {enc : TypeId × Value → H} {w : World} {sp : Nat → Bool} {base : Nat} {v : Value} {d : DataW H} {ps : List MemPlace},
  DataW.Trod enc P w 0 sp true t v d ps → Value.okWide P w .any base t v → ∃ y : α, good y ∧ Says w (f y) v
theorem saysL_nil {w : World} : SaysL w [] [] := ⟨rfl, fun j s v h => by simp at h⟩
theorem saysL_cons {w : World} {s : SV AF} {v : Value} {ss : List (SV AF)} {cs : List Value} (h : Says w s v) (h2 : SaysL w ss cs) : SaysL w (s :: ss) (v :: cs) :=
  ⟨by simp [h2.1], fun j t u ht hu => by
    cases j with
    | zero => simp at ht hu; subst ht; subst hu; exact h
    | succ j => exact h2.2 j t u (by simpa using ht) (by simpa using hu)⟩
theorem saysL_append {w : World} {ss ts : List (SV AF)} {cs ds : List Value} (h : SaysL w ss cs) (h2 : SaysL w ts ds) : SaysL w (ss ++ ts) (cs ++ ds) :=
  ⟨by simp [h.1, h2.1], fun j t u ht hu => by
    by_cases hj : j < ss.length
    · rw [List.getElem?_append_left hj] at ht
      rw [List.getElem?_append_left (by rw [← h.1]; exact hj)] at hu
      exact h.2 j t u ht hu
    · rw [List.getElem?_append_right (by omega)] at ht
      rw [List.getElem?_append_right (by rw [← h.1]; omega), ← h.1] at hu
      exact h2.2 _ t u ht hu⟩
theorem says_val {w : World} (v : Value) : Says w (.val v) v := fun _ _ _ => .val v
theorem wf_i64 {n : Int} (h : (Lit.int .i64 n).wf = true) : InI n := by
  simp [Lit.wf, IntKind.min, IntKind.max, IntKind.bits, IntKind.signed] at h
  exact ⟨by omega, by omega⟩
/-- A slice that came in: its length is what the reading has. -/
def RdS (P : Program) {α : Type} (t : TypeId) (f : List α → SV AF) (good : List α → Prop) : Prop := ∀ {H : Type} {enc : TypeId × Value → H} {w : World} {sp : Nat → Bool} {base : Nat} {v : Value} {d : DataW H} {ps : List MemPlace},
  DataW.Trod enc P w 0 sp true t v d ps → Value.okWide P w .any base t v → ∃ y : List α, good y ∧ Says w (f y) v ∧ (y = [] ∨ ∃ elems spare, d = .slice elems spare ∧ y.length = elems.length)
/-- A slice that reads as data is a list in memory that nobody writes. -/
theorem rd_slice {t e : TypeId} {good : AF e → Prop} (ht : P.underlying t = some (.slice e)) (hsz : P.cellsOf e = regF.sz e) (hpos : 1 ≤ regF.sz e) (hr : Rd P e good) :
    ∀ {H : Type} {enc : TypeId × Value → H} {w : World} {sp : Nat → Bool} {n : Nat} {cs : List Value} {x : DataW H × List MemPlace}, DataW.trod enc P w 0 sp true n t cs = some x →
      ∃ xs : List (AF e), (xs.length ≤ 9223372036854775807 ∧ ∀ y ∈ xs, good y) ∧ SaysL w [.lst e xs] cs ∧ (xs = [] ∨ ∃ elems spare, x.1 = .slice elems spare ∧ xs.length = elems.length) := by
  intro H enc w sp n cs x h
  rcases Deep.open_slice ht h with ⟨rfl, _⟩ | ⟨⟨b, off, spot⟩, len, cap, m, k, D, Pl, rfl, _, hl, hcap, hm, hxe, hx⟩
  · exact ⟨[], ⟨Nat.zero_le _, fun _ h => by simp at h⟩, saysL_cons (fun _ _ _ => .lnil e 0 rfl) saysL_nil, .inl rfl⟩
  have hlm : len ≤ m := by rw [hm]; split <;> omega
  rw [hsz] at hx
  have each : ∀ i, i < len → ∃ y : AF e, good y ∧ ∃ cs' : List Value, SaysL w (regF.enc e y) cs' ∧ ∀ j, j < regF.sz e → w.cell? ((⟨b, off, spot⟩ : Addr).add (i * regF.sz e + j)) = cs'[j]? := fun i hi => by
    have hobt := hx i (by omega)
    obtain ⟨cs', h1, h2⟩ := hobt
    have hobt := World.cells?_some h1
    obtain ⟨_, hlen, hc⟩ := hobt
    have hobt := hr h2
    obtain ⟨y, g1, g2⟩ := hobt
    exact ⟨y, g1, cs', g2, fun j hj => by rw [← hc j hj, Deep.add_add]⟩
  by_cases h0 : len = 0
  · subst h0
    exact ⟨[], ⟨Nat.zero_le _, fun _ h => by simp at h⟩, saysL_cons (fun _ _ _ => .lempty e _ cap (by simp)) saysL_nil, .inl rfl⟩
  have hobt := each 0 (by omega)
  obtain ⟨y0, _, cs0, hs0, hc0⟩ := hobt
  haveI : Nonempty (AF e) := ⟨y0⟩
  obtain ⟨F, hF⟩ : ∃ F : Nat → AF e, ∀ i, i < len → good (F i) ∧ ∃ cs' : List Value, SaysL w (regF.enc e (F i)) cs' ∧ ∀ j, j < regF.sz e → w.cell? ((⟨b, off, spot⟩ : Addr).add (i * regF.sz e + j)) = cs'[j]? := by
    classical
    exact ⟨fun i => if hi : i < len then Classical.choose (each i hi) else y0, fun i hi => by simp only [dif_pos hi]; exact Classical.choose_spec (each i hi)⟩
  have hlen0 : cs0.length = regF.sz e := by rw [← hs0.1]; exact regF.len e y0
  have hcell0 : w.cell? ((⟨b, off, spot⟩ : Addr).add 0) = some cs0[0] := by
    have := hc0 0 hpos
    rw [Nat.zero_mul, Nat.zero_add] at this
    rw [this]; exact List.getElem?_eq_getElem (by omega)
  have hspot : spot = none := by simpa [Addr.add] using World.cell?_spot hcell0
  subst hspot
  rw [add_off, Nat.add_zero] at hcell0
  unfold World.cell? at hcell0
  dsimp only at hcell0
  split at hcell0
  · rename_i c T fz hb
    have hcell : ∀ i, i < len → ∀ j, j < regF.sz e → ∀ v, w.cell? ((⟨b, off, none⟩ : Addr).add (i * regF.sz e + j)) = some v → c[off + i * regF.sz e + j]? = some v := fun i hi j hj v hv => by
      rw [add_off, cell_at hb] at hv
      rw [Nat.add_assoc]; exact hv
    have hxs : ∀ (i : Nat) y, ((List.range len).map F)[i]? = some y → i < len ∧ y = F i := fun i y hy => by
      have hlt : i < len := by simpa using (List.getElem?_eq_some_iff.1 hy).1
      simp [hlt] at hy
      exact ⟨hlt, hy.symm⟩
    refine ⟨(List.range len).map F, ⟨by simp only [List.length_map, List.length_range]; simp only [maxLen] at hcap; omega, fun y hy => ?_⟩, saysL_cons (fun ρ O hO => ?_) saysL_nil, .inr ⟨(List.range len).map D, _, by rw [hxe], by simp⟩⟩
    · have hobt := List.mem_map.1 hy
      obtain ⟨i, hi, rfl⟩ := hobt
      exact (hF i (by simpa using hi)).1
    · have key := Den.lst (R := regF) (ρ := ρ) (O := O) (w := w) e ((List.range len).map F) b off cap c T fz (fun i j => c.getD (off + i * regF.sz e + j) undef) (hO b) hb (by simpa using hl)
        (fun i y hy j hj => by
          have hobt := hxs i y hy
          obtain ⟨hi, rfl⟩ := hobt
          have hobt := hF i hi
          obtain ⟨_, cs', g1, g2⟩ := hobt
          have hlen : cs'.length = regF.sz e := by rw [← g1.1]; exact regF.len e (F i)
          have := hcell i hi j hj cs'[j] (by rw [g2 j hj]; exact List.getElem?_eq_getElem (by omega))
          simp [this])
        (fun i y hy j s hs => by
          have hobt := hxs i y hy
          obtain ⟨hi, rfl⟩ := hobt
          have hobt := hF i hi
          obtain ⟨_, cs', g1, g2⟩ := hobt
          have hlen : cs'.length = regF.sz e := by rw [← g1.1]; exact regF.len e (F i)
          have hj : j < regF.sz e := by rw [← regF.len e (F i)]; exact (List.getElem?_eq_some_iff.1 hs).1
          have := hcell i hi j hj cs'[j] (by rw [g2 j hj]; exact List.getElem?_eq_getElem (by omega))
          have e2 : c.getD (off + i * regF.sz e + j) undef = cs'[j] := by simp [this]
          rw [e2]
          exact g1.2 j s _ hs (List.getElem?_eq_getElem (by omega)) ρ O hO)
      simpa using key
  · cases hcell0
theorem rdN_slice {t e : TypeId} {good : AF e → Prop} (ht : P.underlying t = some (.slice e)) (hsz : P.cellsOf e = regF.sz e) (hpos : 1 ≤ regF.sz e) (hr : Rd P e good) : RdA P t (fun xs : List (AF e) => .lst e xs) (fun xs => xs.length ≤ 9223372036854775807 ∧ ∀ y ∈ xs, good y) := by
  intro H enc w sp base v d ps h hv
  obtain ⟨n, hn⟩ := h
  have hobt := okWide_slice ht hv
  obtain ⟨a, len, cap, rfl⟩ := hobt
  have hobt := rd_slice ht hsz hpos hr hn
  obtain ⟨xs, h1, h2, _⟩ := hobt
  exact ⟨xs, h1, h2.2 0 _ _ rfl rfl⟩
theorem rdS_slice {t e : TypeId} {good : AF e → Prop} (ht : P.underlying t = some (.slice e)) (hsz : P.cellsOf e = regF.sz e) (hpos : 1 ≤ regF.sz e) (hr : Rd P e good) : RdS P t (fun xs : List (AF e) => .lst e xs) (fun xs => xs.length ≤ 9223372036854775807 ∧ ∀ y ∈ xs, good y) := by
  intro H enc w sp base v d ps h hv
  obtain ⟨n, hn⟩ := h
  have hobt := okWide_slice ht hv
  obtain ⟨a, len, cap, rfl⟩ := hobt
  have hobt := rd_slice ht hsz hpos hr hn
  obtain ⟨xs, h1, h2, h3⟩ := hobt
  exact ⟨xs, h1, h2.2 0 _ _ rfl rfl, h3⟩
theorem rdA_slice {t e : TypeId} {good : AF e → Prop} (ht : P.underlying t = some (.slice e)) (hsz : P.cellsOf e = regF.sz e) (hpos : 1 ≤ regF.sz e) (hr : Rd P e good) : RdA P t (fun xs : List (AF e) => .lst e xs) (fun xs => ∀ y ∈ xs, good y) := by
  intro H enc w sp base v d ps h hv
  obtain ⟨n, hn⟩ := h
  have hobt := okWide_slice ht hv
  obtain ⟨a, len, cap, rfl⟩ := hobt
  have hobt := rd_slice ht hsz hpos hr hn
  obtain ⟨xs, h1, h2, _⟩ := hobt
  exact ⟨xs, h1.2, h2.2 0 _ _ rfl rfl⟩
theorem rd_int_of {e : TypeId} (he : P.underlying e = some (.int .i64)) {H : Type} {enc : TypeId × Value → H} {w : World} {sp : Nat → Bool} {n : Nat} {cs : List Value} {x : DataW H × List MemPlace}
    (h : DataW.trod enc P w 0 sp true n e cs = some x) : ∃ z : Int, InI z ∧ cs = [.int .i64 z] := by
  have hobt := DataW.trod_int he h
  obtain ⟨z, h1, _, h3⟩ := hobt
  exact ⟨z, wf_i64 h3, h1⟩
/-- A row of integers. -/
theorem rd_ints_of {t e : TypeId} {k : Nat} (ht : P.underlying t = some (.array k e)) (he : P.underlying e = some (.int .i64)) (hc : P.cellsOf t = k) (hce : P.cellsOf e = 1) {H : Type} {enc : TypeId × Value → H} {w : World} {sp : Nat → Bool} {n : Nat} {cs : List Value} {x : DataW H × List MemPlace}
    (h : DataW.trod enc P w 0 sp true n t cs = some x) : cs.length = k ∧ ∀ i, i < k → ∃ z : Int, InI z ∧ cs[i]? = some (.int .i64 z) := by
  have hobt := DataW.trod_array ht h
  obtain ⟨xs, m, rfl, rfl, hl, hxl, hx⟩ := hobt
  refine ⟨by omega, fun i hi => ?_⟩
  have h2 := hx i hi
  rw [hce, Nat.mul_one, List.getElem?_eq_getElem (by omega : i < xs.length)] at h2
  have hobt := rd_int_of he h2
  obtain ⟨z, h3, h4⟩ := hobt
  refine ⟨z, h3, ?_⟩
  have h5 : ((cs.drop i).take 1)[0]? = some (.int .i64 z) := by rw [h4]; rfl
  rw [List.getElem?_take, if_pos (by omega), List.getElem?_drop] at h5
  exact h5
/-- A law, as a function that meets this. -/
def spLaw {γ : Type} (args : γ → List (SV AF)) (pre : γ → Prop) : Spec AF where
  γ := γ
  δ := Unit
  args := args
  own := fun _ => []
  pre := pre
  nnew := 0
  res := fun _ _ => vB true
  own' := fun _ _ => []
  post := fun _ _ => True
theorem post_of_below {f : Func} {s : ChangeSpec} {apart fresh handsOn again : Bool} {W W' : World} {args : Array Value} {v : Value} {ds gs : List (DataW H)} {before pa pv : List MemPlace}
    (hW : DataW.Whole enc P f.params.toList s.vars apart W args.toList ds gs before)
    (hres : ∀ (b : Nat) (sp : Nat → Bool) (hd : Bool), DataW.TrodAll enc P W' b sp hd f.resultTypes.toList (v.resultList f.resultTypes.size) (s.fn H (ds ++ gs)).results [])
    (hargs : ∀ sp : Nat → Bool, (∀ p ∈ before, sp p.block = true) → DataW.TrodAll enc P W' 0 sp true f.params.toList args.toList (s.fn H (ds ++ gs)).args pa)
    (hvars : ∀ sp : Nat → Bool, (∀ p ∈ before, sp p.block = true) → DataW.TrodVars enc P W' sp s.vars (s.fn H (ds ++ gs)).vars pv)
    (hps : before = pa ++ pv) (hb : Below W.heap.size W W')
    (hok : ∀ (j : Nat) (t : TypeId) (r : Value), f.resultTypes[j]? = some t → (v.resultList f.resultTypes.size)[j]? = some r → Value.okWide P W' .any 0 t r) :
    s.post enc P f apart fresh handsOn again W args v W' := by
  have hlt : ∀ p ∈ before, p.block < W.heap.size := fun p hp => hW.lt p hp
  have hold : ∀ p ∈ before, (fun b => decide (b < W.heap.size)) p.block = true := fun p hp => by simpa using hlt p hp
  refine ⟨ds, gs, before, [], pa, pv, hW, hres _ _ _, hargs _ hold, hvars _ hold, World.keptBut_mono (fun p hp => ⟨hp, ?_⟩) (hb.frame (· ∈ before)), fun _ => ?_⟩
  · rw [hps, List.mem_append] at hp
    exact Or.inr hp
  · obtain ⟨_, _, _, _, _, hz, hn⟩ := hW
    refine ⟨hok, _, _, ([] ++ pa) ++ pv, ⟨[] ++ pa, pv, trodAll_append (hargs _ (fun _ _ => rfl)) (hres _ _ _), hvars _ (fun _ _ => rfl), rfl, ?_, ?_⟩, ?_⟩
    · intro b off hp
      have hin : MemPlace.cell b off ∈ before := by rw [hps]; simpa using hp
      rw [hb.frozen (hlt _ hin)]
      exact hz b off hin
    · intro ha
      have := hn ha
      rw [hps] at this
      simpa using this
    · intro p hp _
      rw [hps]
      simpa using hp
/-- A law that meets 'spLaw' does what its row asks of a call, where what came in is read. -/
theorem law_contract_at (hl : laidOutB P = true) {f : FuncId} {fn : Func} {γ : Type} {args : γ → List (SV AF)} {pre : γ → Prop} (hm : Meets P regF f (spLaw args pre)) {s : ChangeSpec} (hv : s.vars = [])
    (hs : ∀ (H : Type) (ds : List (DataW H)), ds.length = fn.params.toList.length → s.fn H ds = { results := [.lit (.bool true)], args := ds }) {T : TypeId} (hrt : fn.resultTypes = #[T]) (hT : P.underlying T = some .bool)
    (hr : (fn.params.toList.all fun t => P.readableRec t && decide (t < P.types.size)) = true)
    {apart fresh handsOn again : Bool} (W : World) (xs : Array Value) (ds gs : List (DataW H)) (before : List MemPlace) (hg0 : ∃ g, pre g ∧ SaysL W (args g) xs.toList)
    (hW : DataW.Whole enc P fn.params.toList s.vars apart W xs.toList ds gs before) :
    Calls P f xs W fun e W' => ∃ v, e = .returned v ∧ s.post enc P fn apart fresh handsOn again W xs v W' := by
  have hW0 := hW
  obtain ⟨p, q, hA, hV, rfl, _, _⟩ := hW
  obtain ⟨g, hg, h1, h2⟩ := hg0
  rw [hv] at hV
  have hgs : gs = [] ∧ q = [] := by
    cases gs with
    | nil => exact ⟨rfl, hV⟩
    | cons d gs => exact hV.elim
  obtain ⟨rfl, rfl⟩ := hgs
  have hnb : ∀ (ρ : Rho) b, ¬ (False ∨ Blk (((spLaw args pre).own g).map some) ρ b) := fun ρ b h => by
    rcases h with h | ⟨n, ct, k, h, _⟩
    · exact h
    · simp [spLaw] at h
  have hc := hm.2 g hg (fun _ => False) (fun _ => none) W xs (fun _ h => h.elim) (fun _ h => h.elim) ⟨h1, fun j s v hs hv => h2 j s v hs hv _ _ (hnb _)⟩ ⟨fun n ct h => by simp [spLaw] at h, fun n _ _ _ _ _ _ h => by simp [spLaw] at h⟩
  have hlen : ∀ {ts : List TypeId} {vs : List Value} {ds : List (DataW H)} {ps : List MemPlace}, DataW.TrodAll enc P W 0 (fun _ => true) true ts vs ds ps → ds.length = ts.length := by
    intro ts
    induction ts with
    | nil => intro vs ds ps h; cases vs <;> cases ds <;> first | rfl | exact h.elim
    | cons t ts ih =>
      intro vs ds ps h
      cases vs with
      | nil => cases ds <;> exact h.elim
      | cons v vs =>
        cases ds with
        | nil => exact h.elim
        | cons d ds => obtain ⟨_, _, _, h, _⟩ := h; simp [ih h]
  have hfn := hs H (ds ++ []) (by rw [List.append_nil]; exact hlen hA)
  refine hc.mono fun e W' hp => ?_
  obtain ⟨_, ρ', v, _, rfl, _, hres, _, _, _, _, _, hrel⟩ := hp
  have hv2 : v = .bool true := by
    have hres : Den regF ρ' _ W' (.val (.bool true)) v := hres
    cases hres; rfl
  subst hv2
  have hb : Below W.heap.size W W' := ⟨hrel.os, hrel.tape, hrel.output, hrel.size, fun k hk => hrel.block k hk fun h => by
    obtain ⟨n, ct, j, h, _⟩ := h
    simp [spLaw] at h⟩
  have hlt : ∀ x ∈ p ++ [], x.block < W.heap.size := fun x hx => hW0.lt x hx
  refine ⟨_, rfl, post_of_below (pa := p) (pv := []) hW0 (fun b sp hd => ?_) (fun sp hsp => ?_) (fun sp hsp => ?_) rfl hb ?_⟩
  · rw [hfn, hrt]
    exact trodAll_mk1 (RowKit.shut_bool hT true)
  · rw [hfn, List.append_nil]
    exact trodAll_stays hl hr hA (fun x hx => hb.same (hlt x (by simpa using hx))) (fun x hx => hsp x (by simpa using hx))
  · rw [hfn, hv]; rfl
  · exact RowKit.ok_one hrt rfl (RowKit.okWide_bool_mk hT true)
/-- A law that meets 'spLaw' does what its row asks of a call. -/
theorem law_contract (hl : laidOutB P = true) {f : FuncId} {fn : Func} {γ : Type} {args : γ → List (SV AF)} {pre : γ → Prop} (hm : Meets P regF f (spLaw args pre)) {s : ChangeSpec} (hv : s.vars = [])
    (hs : ∀ (H : Type) (ds : List (DataW H)), ds.length = fn.params.toList.length → s.fn H ds = { results := [.lit (.bool true)], args := ds }) {T : TypeId} (hrt : fn.resultTypes = #[T]) (hT : P.underlying T = some .bool)
    (hr : (fn.params.toList.all fun t => P.readableRec t && decide (t < P.types.size)) = true)
    (rd : ∀ {H : Type} {enc : TypeId × Value → H} {w : World} {vs : List Value} {ds : List (DataW H)} {ps : List MemPlace} {base : Nat}, DataW.TrodAll enc P w 0 (fun _ => true) true fn.params.toList vs ds ps →
      (∀ (j : Nat) t v, fn.params[j]? = some t → vs[j]? = some v → Value.okWide P w .any base t v) → ∃ g, pre g ∧ SaysL w (args g) vs)
    {apart fresh handsOn again : Bool} (W : World) (base : Nat) (xs : Array Value) (ds gs : List (DataW H)) (before : List MemPlace)
    (hval : ∀ (j : Nat) t v, fn.params[j]? = some t → xs[j]? = some v → Value.okWide P W .any base t v) (hW : DataW.Whole enc P fn.params.toList s.vars apart W xs.toList ds gs before) :
    Calls P f xs W fun e W' => ∃ v, e = .returned v ∧ s.post enc P fn apart fresh handsOn again W xs v W' := by
  have hW0 := hW
  obtain ⟨p, q, hA, hV, rfl, _, _⟩ := hW
  exact law_contract_at hl hm hv hs hrt hT hr W xs ds gs _ (rd hA (fun j t v ht hv => hval j t v ht (by simpa using hv))) hW0
/-- Where the bytes of what came in are bounded, too. -/
theorem law_contract_sized (hl : laidOutB P = true) {f : FuncId} {fn : Func} {γ : Type} {args : γ → List (SV AF)} {pre : γ → Prop} (hm : Meets P regF f (spLaw args pre)) {s : ChangeSpec} (hv : s.vars = [])
    (hs : ∀ (H : Type) (ds : List (DataW H)), ds.length = fn.params.toList.length → s.fn H ds = { results := [.lit (.bool true)], args := ds }) {T : TypeId} (hrt : fn.resultTypes = #[T]) (hT : P.underlying T = some .bool)
    (hr : (fn.params.toList.all fun t => P.readableRec t && decide (t < P.types.size)) = true)
    (rd : ∀ {H : Type} {enc : TypeId × Value → H} {w : World} {vs : List Value} {ds : List (DataW H)} {ps : List MemPlace} {base : Nat}, DataW.TrodAll enc P w 0 (fun _ => true) true fn.params.toList vs ds ps →
      (∀ (j : Nat) t v, fn.params[j]? = some t → vs[j]? = some v → Value.okWide P w .any base t v) →
      (DataW.weightsEach P fn.params.toList ds).all (· ≤ reachBytes) = true → ∃ g, pre g ∧ SaysL w (args g) vs)
    {apart fresh handsOn again : Bool} (W : World) (base : Nat) (xs : Array Value) (ds gs : List (DataW H)) (before : List MemPlace)
    (hval : ∀ (j : Nat) t v, fn.params[j]? = some t → xs[j]? = some v → Value.okWide P W .any base t v) (hwt : (DataW.weightsEach P (fn.params.toList ++ s.plain.varTypes P) (ds ++ gs)).all (· ≤ reachBytes) = true) (hW : DataW.Whole enc P fn.params.toList s.vars apart W xs.toList ds gs before) :
    Calls P f xs W fun e W' => ∃ v, e = .returned v ∧ s.post enc P fn apart fresh handsOn again W xs v W' := by
  have hW0 := hW
  obtain ⟨p, q, hA, hV, rfl, _, _⟩ := hW
  refine law_contract_at hl hm hv hs hrt hT hr W xs ds gs _ (rd hA (fun j t v ht hv => hval j t v ht (by simpa using hv)) ?_) hW0
  rw [hv] at hV
  have hgs : gs = [] := by
    cases gs with
    | nil => rfl
    | cons d gs => exact hV.elim
  have hvt : s.plain.varTypes P = [] := by simp [ChangeSpec.plain, DataSpec.varTypes, hv]
  rw [hgs, hvt, List.append_nil, List.append_nil] at hwt
  exact hwt
end
theorem own_knob : ownKnob Tryd.prog.godebug = none := by kernel_rfl
theorem laid_out : laidOutB Tryd.prog = true := by kernel_rfl
end Go.Sx


/-
  Own tool 'Sx', part Y: the signs of this program's head, and the closed facts that read them.
-/
namespace Go.Sx
open Go Go.Proofs Go.Proofs.YtmogappoadglgaaDoor
def ioA : List Char := [104, 97, 114, 110, 101, 115, 115].map Char.ofNat
def ioB : List Char := [54, 48, 101, 56, 101, 48, 100, 102, 56, 97, 100, 56, 50, 101, 100, 49, 52, 49, 54, 97, 53, 49, 52, 101, 97, 98, 102, 56, 49, 57, 56, 97, 101, 48, 57, 97, 55, 51, 98, 100, 52, 56, 99, 49, 99, 52, 57, 49, 48, 56, 55, 102, 99, 49, 98, 51, 48, 56, 50, 55, 53, 54, 57, 51].map Char.ofNat
def ioC : List Char := [99, 117, 116].map Char.ofNat
def ioR : List Char := [97, 116, 32, 104, 117, 109, 112, 121, 97, 114, 100, 47, 104, 117, 109, 112, 121, 97, 114, 100, 108, 97, 119, 49, 51, 46, 87, 97, 108, 107, 66, 97, 115, 101, 32, 104, 117, 109, 112, 121,
  97, 114, 100, 47, 104, 117, 109, 112, 121, 97, 114, 100, 108, 97, 119, 49, 51, 46, 87, 97, 108, 107, 74, 111, 105, 110, 115, 32, 104, 117, 109, 112, 121, 97, 114, 100, 47, 104, 117, 109,
  112, 121, 97, 114, 100, 108, 97, 119, 49, 51, 46, 87, 97, 108, 107, 67, 104, 101, 99, 107, 115, 32, 104, 117, 109, 112, 121, 97, 114, 100, 47, 104, 117, 109, 112, 121, 97, 114, 100, 108,
  97, 119, 49, 51, 46, 87, 97, 108, 107, 87, 114, 111, 110, 103, 32, 104, 117, 109, 112, 121, 97, 114, 100, 47, 104, 117, 109, 112, 121, 97, 114, 100, 108, 97, 119, 49, 51, 46, 87, 97,
  108, 107, 83, 116, 111, 112, 115, 32, 104, 117, 109, 112, 121, 97, 114, 100, 47, 104, 117, 109, 112, 121, 97, 114, 100, 108, 97, 119, 50, 49, 46, 84, 114, 97, 99, 101, 83, 104, 97, 114,
  101, 115, 32, 104, 117, 109, 112, 121, 97, 114, 100, 47, 104, 117, 109, 112, 121, 97, 114, 100, 108, 97, 119, 50, 49, 46, 84, 114, 97, 99, 101, 75, 105, 110, 100, 115, 32, 104, 117, 109,
  112, 121, 97, 114, 100, 47, 104, 117, 109, 112, 121, 97, 114, 100, 108, 97, 119, 50, 49, 46, 84, 114, 97, 99, 101, 82, 101, 112, 111, 114, 116, 115, 32, 104, 117, 109, 112, 121, 97, 114,
  100, 47, 104, 117, 109, 112, 121, 97, 114, 100, 108, 97, 119, 50, 49, 46, 84, 114, 97, 99, 101, 67, 111, 117, 110, 116, 115, 32, 104, 117, 109, 112, 121, 97, 114, 100, 47, 104, 117, 109,
  112, 121, 97, 114, 100, 108, 97, 119, 48, 55, 46, 84, 111, 112, 105, 99, 84, 101, 108, 108, 115, 32, 104, 117, 109, 112, 121, 97, 114, 100, 47, 104, 117, 109, 112, 121, 97, 114, 100, 108,
  97, 119, 48, 55, 46, 84, 111, 112, 105, 99, 66, 97, 99, 107, 32, 104, 117, 109, 112, 121, 97, 114, 100, 47, 104, 117, 109, 112, 121, 97, 114, 100, 108, 97, 119, 48, 55, 46, 84, 111,
  112, 105, 99, 70, 111, 114, 116, 104, 32, 104, 117, 109, 112, 121, 97, 114, 100, 47, 104, 117, 109, 112, 121, 97, 114, 100, 108, 97, 119, 48, 55, 46, 84, 111, 112, 105, 99, 70, 105, 108,
  116, 101, 114, 115, 32, 104, 117, 109, 112, 121, 97, 114, 100, 47, 104, 117, 109, 112, 121, 97, 114, 100, 108, 97, 119, 48, 55, 46, 84, 111, 112, 105, 99, 78, 97, 109, 101, 115, 32, 104,
  117, 109, 112, 121, 97, 114, 100, 47, 104, 117, 109, 112, 121, 97, 114, 100, 108, 97, 119, 48, 55, 46, 84, 111, 112, 105, 99, 65, 112, 97, 114, 116, 32, 104, 117, 109, 112, 121, 97, 114,
  100, 47, 104, 117, 109, 112, 121, 97, 114, 100, 108, 97, 119, 48, 55, 46, 84, 111, 112, 105, 99, 80, 97, 114, 116, 115].map Char.ofNat
def ioS : Char := Char.ofNat 32
theorem io_eq : Tryd.prog.initOrder.toList = ioA ++ ioS :: (ioB ++ ioS :: (ioC ++ ioS :: ioR)) := by
  have h : Tryd.prog.initOrder = String.ofList (ioA ++ ioS :: (ioB ++ ioS :: (ioC ++ ioS :: ioR))) := by kernel_rfl
  rw [h, String.toList_ofList]
theorem words_word : ∀ {w : List Char}, (w.all fun c => c != ioS) = true → ∀ r, wordsSigns (w ++ ioS :: r) = w :: wordsSigns r
  | [], _, r => rfl
  | c :: w, h, r => by
    simp only [List.all_cons, Bool.and_eq_true, bne_iff_ne] at h
    have ih := words_word h.2 r
    have hc : c ≠ Char.ofNat 32 := h.1
    show wordsSigns (c :: (w ++ ioS :: r)) = _
    rw [wordsSigns, ih]
    exact hc
theorem head_eq : behindMainWord (wordsSigns Tryd.prog.initOrder.toList) = ioC :: wordsSigns ioR := by
  rw [io_eq, words_word (by kernel_rfl), words_word (by kernel_rfl), words_word (by kernel_rfl)]
  have key : ∀ X, behindMainWord (ioA :: ioB :: X) = X := fun X => by
    have h : ((ioA == "harness".toList || ioA == "ownmain".toList) && isSumSigns ioB) = true := by kernel_rfl
    simp only [behindMainWord, h, if_true]
  exact key _
theorem strip_c : ∀ X, stripLifts liftWords (ioC :: X) = ([], ioC :: X) := fun X => by
  have h : ∀ os : List String, (os.all fun o => !(ioC == o.toList)) = true → stripLifts os (ioC :: X) = ([], ioC :: X) := fun os => by
    induction os with
    | nil => intro _; rfl
    | cons o os ih =>
      intro h
      simp only [List.all_cons, Bool.and_eq_true, Bool.not_eq_true'] at h
      rw [stripLifts, if_neg (by rw [h.1]; simp), ih h.2]
  exact h _ (by kernel_rfl)
theorem ioC_facts : (ioC == "gc".toList) = false ∧ (ioC == "spec".toList) = false ∧ (ioC == "carried".toList) = false ∧ (ioC == "cut".toList) = true ∧ ioC = "cut".toList := ⟨by kernel_rfl, by kernel_rfl, by kernel_rfl, by kernel_rfl, by kernel_rfl⟩
theorem lays_not : Tryd.prog.laysLater = false := by kernel_rfl
theorem bears_not : Tryd.prog.bearsReflect = false := by kernel_rfl
theorem door_ok : Tryd.prog.doorFits [] = true := by kernel_rfl
theorem may_enter_of {P : Program} {c : List Char} {X : List (List Char)} (h : behindMainWord (wordsSigns P.initOrder.toList) = c :: X) (hs : stripLifts liftWords (c :: X) = ([], c :: X)) (hc : (c == "cut".toList) = true)
    (hl : P.laysLater = false) (hb : P.bearsReflect = false) (hd : P.doorFits [] = true) : P.mayEnter = true := by
  unfold Program.mayEnter
  rw [h, hl, hb]
  dsimp only
  rw [hs]
  have e1 : ((c :: X).head? == some "cut".toList) = true := hc
  dsimp only
  rw [e1, hd, Bool.or_eq_true]
  exact .inr (by simp only [List.contains_nil, Bool.not_false, Bool.and_true, Bool.or_true])
theorem lifts_final_of {P : Program} {c : List Char} {X : List (List Char)} (h : behindMainWord (wordsSigns P.initOrder.toList) = c :: X) (hs : stripLifts liftWords (c :: X) = ([], c :: X)) (hc : (c == "carried".toList) = false) : P.liftsFinal = false := by
  unfold Program.liftsFinal Program.headLifts
  rw [h, hs]
  have e1 : ((c :: X).head? == some "carried".toList) = false := hc
  dsimp only
  rw [e1]
  split <;> rfl
theorem made_cut_of {P : Program} {c : List Char} {X : List (List Char)} (h : behindMainWord (wordsSigns P.initOrder.toList) = c :: X) (h1 : (c == "gc".toList) = false) (h2 : (c == "spec".toList) = false) (hc : (c == "cut".toList) = true) : P.make = some .cut := by
  unfold Program.make
  rw [h]
  dsimp only
  rw [if_neg (by rw [h1, h2]; exact Bool.false_ne_true), if_pos (by rw [hc]; rfl)]
theorem may_enter : Tryd.prog.mayEnter = true := may_enter_of head_eq (strip_c _) ioC_facts.2.2.2.1 lays_not bears_not door_ok
theorem lifts_final : Tryd.prog.liftsFinal = false := lifts_final_of head_eq (strip_c _) ioC_facts.2.2.1
theorem made_cut : Tryd.prog.make = some .cut := made_cut_of head_eq ioC_facts.1 ioC_facts.2.1 ioC_facts.2.2.2.1
theorem and_t {a b : Bool} (h1 : a = true) (h2 : b = true) : (a && b) = true := by rw [h1, h2]; rfl
end Go.Sx
