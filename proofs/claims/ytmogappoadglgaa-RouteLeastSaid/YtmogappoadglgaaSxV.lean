/-
  Own tool 'Sx', part V: the tables of this seat: types, and how elements of slices lie in cells.
-/
import Derived.Test.YtmogappoadglgaaSxU
import Derived.Test.YtmogappoadglgaaRows
import Derived.DeepKeys3
namespace Go.Sx
open Go Go.Proofs Go.Proofs.Ytmogappoadglgaa
noncomputable section
variable {A : Nat → Type}

/-! ### Encodings -/
def eiInt : EI A Int where
  sz := 1
  has := true
  enc n := [.val (.int .i64 n)]
  dec cs := match cs with | [.val (.int .i64 n)] => some n | _ => none
  beq a b := decide (a = b)
  kg := fun n => -9223372036854775808 ≤ n ∧ n ≤ 9223372036854775807
  len _ := rfl
  same a b := by simp
  inj a b h := by
    simpa using h
  ok cs x h := by split at h <;> simp_all
  closed x i s h := by
    match i with
    | 0 => simp at h; subst h; exact .val _ rfl
    | i + 1 => simp at h
def eiBool : EI A Bool where
  sz := 1
  has := true
  enc n := [.val (.bool n)]
  dec cs := match cs with | [.val (.bool n)] => some n | _ => none
  beq a b := decide (a = b)
  kg := fun _ => True
  len _ := rfl
  same a b := by simp
  inj a b h := by
    simpa using h
  ok cs x h := by split at h <;> simp_all
  closed x i s h := by
    match i with
    | 0 => simp at h; subst h; exact .val _ rfl
    | i + 1 => simp at h
def eiPair : EI A (Int × Int) where
  sz := 2
  has := true
  enc p := [.val (.int .i64 p.1), .val (.int .i64 p.2)]
  dec cs := match cs with | [.val (.int .i64 n), .val (.int .i64 m)] => some (n, m) | _ => none
  beq a b := decide (a = b)
  kg := fun p => (-9223372036854775808 ≤ p.1 ∧ p.1 ≤ 9223372036854775807) ∧ (-9223372036854775808 ≤ p.2 ∧ p.2 ≤ 9223372036854775807)
  len _ := rfl
  same a b := by simp
  inj a b h := by
    simp at h; exact Prod.ext h.1 h.2
  ok cs x h := by
    split at h
    · cases h; rfl
    · cases h
  closed x i s h := by
    match i with
    | 0 => simp at h; subst h; exact .val _ rfl
    | 1 => simp at h; subst h; exact .val _ rfl
    | i + 2 => simp at h
def eiTriple : EI A (Int × Int × Int) where
  sz := 3
  has := true
  enc p := [.val (.int .i64 p.1), .val (.int .i64 p.2.1), .val (.int .i64 p.2.2)]
  dec cs := match cs with | [.val (.int .i64 n), .val (.int .i64 m), .val (.int .i64 k)] => some (n, m, k) | _ => none
  beq a b := decide (a = b)
  kg := fun p => (-9223372036854775808 ≤ p.1 ∧ p.1 ≤ 9223372036854775807) ∧ (-9223372036854775808 ≤ p.2.1 ∧ p.2.1 ≤ 9223372036854775807) ∧ (-9223372036854775808 ≤ p.2.2 ∧ p.2.2 ≤ 9223372036854775807)
  len _ := rfl
  same a b := by simp
  inj a b h := by
    simp at h; exact Prod.ext h.1 (Prod.ext h.2.1 h.2.2)
  ok cs x h := by
    split at h
    · cases h; rfl
    · cases h
  closed x i s h := by
    match i with
    | 0 => simp at h; subst h; exact .val _ rfl
    | 1 => simp at h; subst h; exact .val _ rfl
    | 2 => simp at h; subst h; exact .val _ rfl
    | i + 3 => simp at h
inductive EK where
  | none | int | bool | pair | triple | op
@[reducible] def EK.ty : EK → Type
  | .none => Empty
  | .int => Int
  | .bool => Bool
  | .pair => Int × Int
  | .triple => Int × Int × Int
  | .op => Int × Bool × List Int
@[reducible] def ekOf : List (Nat × EK) → Nat → EK
  | [], _ => .none
  | (k, e) :: l, n => match Nat.beq n k with
    | true => e
    | false => ekOf l n
@[reducible] def kinds (n : Nat) : EK := ekOf [(3, .int), (4, .bool), (32, .pair), (97, .pair), (54, .triple), (66, .triple), (77, .op)] n
@[reducible] def AF (n : Nat) : Type := (kinds n).ty
/-- Who, whether it frees, elements. -/
def eiOp : EI AF (Int × Bool × List Int) where
  sz := 3
  has := true
  enc p := [.val (.int .i64 p.1), .val (.bool p.2.1), .lst 3 p.2.2]
  dec _ := none
  beq a b := decide (a = b)
  kg := fun _ => True
  len _ := rfl
  same a b := by simp
  inj a b h := by
    simp at h; exact Prod.ext h.1 (Prod.ext h.2.1 h.2.2)
  ok cs x h := by cases h
  closed x i s h := by
    match i with
    | 0 => simp at h; subst h; exact .val _ rfl
    | 1 => simp at h; subst h; exact .val _ rfl
    | 2 => simp at h; subst h; exact .lst _ _
    | i + 3 => simp at h
def EK.ei : ∀ k : EK, EI AF k.ty
  | .none => EI.none
  | .int => eiInt
  | .bool => eiBool
  | .pair => eiPair
  | .triple => eiTriple
  | .op => eiOp
def regF : Reg AF := regOf fun n => (kinds n).ei

/-! ### Types -/
def ti0 : TI := ⟨.other, 1, 0, .tuple #[], false⟩
def ti1 : TI := ⟨.func, 1, 8, .nilFunc, false⟩
def ti2 : TI := ⟨.int .i64, 1, 8, .int .i64 0, false⟩
def ti3 : TI := ⟨.int .i64, 1, 8, .int .i64 0, false⟩
def ti4 : TI := ⟨.bool, 1, 1, .bool false, false⟩
def ti5 : TI := ⟨.int .u8, 1, 1, .int .u8 0, false⟩
def ti6 : TI := ⟨.int .u8, 1, 1, .int .u8 0, false⟩
def ti7 : TI := ⟨.struct [(0, 2), (1, 3), (2, 4), (3, 6)], 4, 24, .agg #[.int .i64 0, .int .i64 0, .bool false, .int .u8 0], true⟩
def ti8 : TI := ⟨.struct [(0, 2), (1, 3), (2, 4), (3, 6)], 4, 24, .agg #[.int .i64 0, .int .i64 0, .bool false, .int .u8 0], true⟩
def ti9 : TI := ⟨.str, 1, 16, .string ⟨#[]⟩, false⟩
def ti10 : TI := ⟨.str, 1, 16, .string ⟨#[]⟩, false⟩
def ti11 : TI := ⟨.str, 1, 16, .string ⟨#[]⟩, false⟩
def ti12 : TI := ⟨.int .u64, 1, 8, .int .u64 0, false⟩
def ti13 : TI := ⟨.struct [(0, 9), (1, 12)], 2, 24, .agg #[.string ⟨#[]⟩, .int .u64 0], false⟩
def ti14 : TI := ⟨.struct [(0, 9), (1, 12)], 2, 24, .agg #[.string ⟨#[]⟩, .int .u64 0], false⟩
def ti15 : TI := ⟨.ptr 161, 1, 8, .pointer none, false⟩
def ti16 : TI := ⟨.ptr 164, 1, 8, .pointer none, false⟩
def ti17 : TI := ⟨.ptr 172, 1, 8, .pointer none, false⟩
def ti18 : TI := ⟨.struct [(0, 17)], 1, 8, .agg #[.pointer none], false⟩
def ti19 : TI := ⟨.struct [(0, 17)], 1, 8, .agg #[.pointer none], false⟩
def ti20 : TI := ⟨.other, 1, 16, .nilIface, false⟩
def ti21 : TI := ⟨.int .i32, 1, 4, .int .i32 0, false⟩
def ti22 : TI := ⟨.slice 32, 1, 24, .slice none 0 0, false⟩
def ti23 : TI := ⟨.slice 4, 1, 24, .slice none 0 0, false⟩
def ti24 : TI := ⟨.func, 1, 8, .nilFunc, false⟩
def ti25 : TI := ⟨.ptr 93, 1, 8, .pointer none, false⟩
def ti26 : TI := ⟨.func, 1, 8, .nilFunc, false⟩
def ti27 : TI := ⟨.ptr 95, 1, 8, .pointer none, false⟩
def ti28 : TI := ⟨.func, 1, 8, .nilFunc, false⟩
def ti29 : TI := ⟨.other, 1, 0, .tuple #[.int .i64 0, .int .i64 0, .bool false], false⟩
def ti30 : TI := ⟨.func, 1, 8, .nilFunc, false⟩
def ti31 : TI := ⟨.func, 1, 8, .nilFunc, false⟩
def ti32 : TI := ⟨.arr 2 3, 2, 16, .agg #[.int .i64 0, .int .i64 0], true⟩
def ti33 : TI := ⟨.func, 1, 8, .nilFunc, false⟩
def ti34 : TI := ⟨.func, 1, 8, .nilFunc, false⟩
def ti35 : TI := ⟨.func, 1, 8, .nilFunc, false⟩
def ti36 : TI := ⟨.func, 1, 8, .nilFunc, false⟩
def ti37 : TI := ⟨.func, 1, 8, .nilFunc, false⟩
def ti38 : TI := ⟨.slice 54, 1, 24, .slice none 0 0, false⟩
def ti39 : TI := ⟨.struct [(0, 3), (1, 38)], 2, 32, .agg #[.int .i64 0, .slice none 0 0], true⟩
def ti40 : TI := ⟨.struct [(0, 3), (1, 38)], 2, 32, .agg #[.int .i64 0, .slice none 0 0], true⟩
def ti41 : TI := ⟨.slice 66, 1, 24, .slice none 0 0, false⟩
def ti42 : TI := ⟨.slice 3, 1, 24, .slice none 0 0, false⟩
def ti43 : TI := ⟨.func, 1, 8, .nilFunc, false⟩
def ti44 : TI := ⟨.slice 40, 1, 24, .slice none 0 0, false⟩
def ti45 : TI := ⟨.other, 1, 0, .tuple #[.int .i64 0, .bool false], false⟩
def ti46 : TI := ⟨.func, 1, 8, .nilFunc, false⟩
def ti47 : TI := ⟨.func, 1, 8, .nilFunc, false⟩
def ti48 : TI := ⟨.func, 1, 8, .nilFunc, false⟩
def ti49 : TI := ⟨.func, 1, 8, .nilFunc, false⟩
def ti50 : TI := ⟨.func, 1, 8, .nilFunc, false⟩
def ti51 : TI := ⟨.func, 1, 8, .nilFunc, false⟩
def ti52 : TI := ⟨.func, 1, 8, .nilFunc, false⟩
def ti53 : TI := ⟨.struct [(0, 3), (1, 3), (2, 3)], 3, 24, .agg #[.int .i64 0, .int .i64 0, .int .i64 0], true⟩
def ti54 : TI := ⟨.struct [(0, 3), (1, 3), (2, 3)], 3, 24, .agg #[.int .i64 0, .int .i64 0, .int .i64 0], true⟩
def ti55 : TI := ⟨.func, 1, 8, .nilFunc, false⟩
def ti56 : TI := ⟨.func, 1, 8, .nilFunc, false⟩
def ti57 : TI := ⟨.func, 1, 8, .nilFunc, false⟩
def ti58 : TI := ⟨.func, 1, 8, .nilFunc, false⟩
def ti59 : TI := ⟨.func, 1, 8, .nilFunc, false⟩
def ti60 : TI := ⟨.int .i64, 1, 8, .int .i64 0, false⟩
def ti61 : TI := ⟨.other, 1, 0, .tuple #[.slice none 0 0, .int .i64 0], false⟩
def ti62 : TI := ⟨.func, 1, 8, .nilFunc, false⟩
def ti63 : TI := ⟨.func, 1, 8, .nilFunc, false⟩
def ti64 : TI := ⟨.func, 1, 8, .nilFunc, false⟩
def ti65 : TI := ⟨.func, 1, 8, .nilFunc, false⟩
def ti66 : TI := ⟨.arr 3 3, 3, 24, .agg #[.int .i64 0, .int .i64 0, .int .i64 0], true⟩
def ti67 : TI := ⟨.func, 1, 8, .nilFunc, false⟩
def ti68 : TI := ⟨.func, 1, 8, .nilFunc, false⟩
def ti69 : TI := ⟨.func, 1, 8, .nilFunc, false⟩
def ti70 : TI := ⟨.slice 77, 1, 24, .slice none 0 0, false⟩
def ti71 : TI := ⟨.ptr 116, 1, 8, .pointer none, false⟩
def ti72 : TI := ⟨.func, 1, 8, .nilFunc, false⟩
def ti73 : TI := ⟨.ptr 118, 1, 8, .pointer none, false⟩
def ti74 : TI := ⟨.func, 1, 8, .nilFunc, false⟩
def ti75 : TI := ⟨.func, 1, 8, .nilFunc, false⟩
def ti76 : TI := ⟨.struct [(0, 3), (1, 4), (2, 42)], 3, 40, .agg #[.int .i64 0, .bool false, .slice none 0 0], true⟩
def ti77 : TI := ⟨.struct [(0, 3), (1, 4), (2, 42)], 3, 40, .agg #[.int .i64 0, .bool false, .slice none 0 0], true⟩
def ti78 : TI := ⟨.func, 1, 8, .nilFunc, false⟩
def ti79 : TI := ⟨.func, 1, 8, .nilFunc, false⟩
def ti80 : TI := ⟨.func, 1, 8, .nilFunc, false⟩
def ti81 : TI := ⟨.func, 1, 8, .nilFunc, false⟩
def ti82 : TI := ⟨.func, 1, 8, .nilFunc, false⟩
def ti83 : TI := ⟨.map 3 4, 1, 8, .map none, false⟩
def ti84 : TI := ⟨.func, 1, 8, .nilFunc, false⟩
def ti85 : TI := ⟨.slice 42, 1, 24, .slice none 0 0, false⟩
def ti86 : TI := ⟨.func, 1, 8, .nilFunc, false⟩
def ti87 : TI := ⟨.func, 1, 8, .nilFunc, false⟩
def ti88 : TI := ⟨.func, 1, 8, .nilFunc, false⟩
def ti89 : TI := ⟨.slice 97, 1, 24, .slice none 0 0, false⟩
def ti90 : TI := ⟨.struct [(0, 89), (1, 88)], 2, 32, .agg #[.slice none 0 0, .nilFunc], true⟩
def ti91 : TI := ⟨.struct [(0, 89), (1, 88)], 2, 32, .agg #[.slice none 0 0, .nilFunc], true⟩
def ti92 : TI := ⟨.struct [(0, 91)], 2, 32, .agg #[.slice none 0 0, .nilFunc], true⟩
def ti93 : TI := ⟨.struct [(0, 91)], 2, 32, .agg #[.slice none 0 0, .nilFunc], true⟩
def ti94 : TI := ⟨.struct [(0, 22)], 1, 24, .agg #[.slice none 0 0], true⟩
def ti95 : TI := ⟨.struct [(0, 22)], 1, 24, .agg #[.slice none 0 0], true⟩
def ti96 : TI := ⟨.struct [(0, 3), (1, 3)], 2, 16, .agg #[.int .i64 0, .int .i64 0], true⟩
def ti97 : TI := ⟨.struct [(0, 3), (1, 3)], 2, 16, .agg #[.int .i64 0, .int .i64 0], true⟩
def ti98 : TI := ⟨.other, 1, 0, .tuple #[.agg #[.int .i64 0, .int .i64 0], .bool false], false⟩
def ti99 : TI := ⟨.func, 1, 8, .nilFunc, false⟩
def ti100 : TI := ⟨.func, 1, 8, .nilFunc, false⟩
def ti101 : TI := ⟨.func, 1, 8, .nilFunc, false⟩
def ti102 : TI := ⟨.func, 1, 8, .nilFunc, false⟩
def ti103 : TI := ⟨.arr 40 4, 40, 40, .agg #[.bool false, .bool false, .bool false, .bool false, .bool false, .bool false, .bool false, .bool false, .bool false, .bool false, .bool false, .bool false, .bool false, .bool false, .bool false, .bool false, .bool false, .bool false, .bool false, .bool false, .bool false, .bool false, .bool false, .bool false, .bool false, .bool false, .bool false, .bool false, .bool false, .bool false, .bool false, .bool false, .bool false, .bool false, .bool false, .bool false, .bool false, .bool false, .bool false, .bool false], true⟩
def ti104 : TI := ⟨.func, 1, 8, .nilFunc, false⟩
def ti105 : TI := ⟨.func, 1, 8, .nilFunc, false⟩
def ti106 : TI := ⟨.map 32 4, 1, 8, .map none, false⟩
def ti107 : TI := ⟨.func, 1, 8, .nilFunc, false⟩
def ti108 : TI := ⟨.func, 1, 8, .nilFunc, false⟩
def ti109 : TI := ⟨.func, 1, 8, .nilFunc, false⟩
def ti110 : TI := ⟨.func, 1, 8, .nilFunc, false⟩
def ti111 : TI := ⟨.func, 1, 8, .nilFunc, false⟩
def ti112 : TI := ⟨.func, 1, 8, .nilFunc, false⟩
def ti113 : TI := ⟨.func, 1, 8, .nilFunc, false⟩
def ti114 : TI := ⟨.map 3 3, 1, 8, .map none, false⟩
def ti115 : TI := ⟨.struct [(0, 114)], 1, 8, .agg #[.map none], true⟩
def ti116 : TI := ⟨.struct [(0, 114)], 1, 8, .agg #[.map none], true⟩
def ti117 : TI := ⟨.struct [(0, 42), (1, 42)], 2, 48, .agg #[.slice none 0 0, .slice none 0 0], true⟩
def ti118 : TI := ⟨.struct [(0, 42), (1, 42)], 2, 48, .agg #[.slice none 0 0, .slice none 0 0], true⟩
def ti119 : TI := ⟨.func, 1, 8, .nilFunc, false⟩
def ti120 : TI := ⟨.func, 1, 8, .nilFunc, false⟩
def ti121 : TI := ⟨.func, 1, 8, .nilFunc, false⟩
def ti122 : TI := ⟨.func, 1, 8, .nilFunc, false⟩
def ti123 : TI := ⟨.func, 1, 8, .nilFunc, false⟩
def ti124 : TI := ⟨.ptr 91, 1, 8, .pointer none, false⟩
def ti125 : TI := ⟨.func, 1, 8, .nilFunc, false⟩
def ti126 : TI := ⟨.int .u64, 1, 8, .int .u64 0, false⟩
def ti127 : TI := ⟨.other, 1, 0, .tuple #[.int .u64 0, .int .u64 0], false⟩
def ti128 : TI := ⟨.func, 1, 8, .nilFunc, false⟩
def ti129 : TI := ⟨.func, 1, 8, .nilFunc, false⟩
def ti130 : TI := ⟨.func, 1, 8, .nilFunc, false⟩
def ti131 : TI := ⟨.func, 1, 8, .nilFunc, false⟩
def ti132 : TI := ⟨.int .u32, 1, 4, .int .u32 0, false⟩
def ti133 : TI := ⟨.other, 1, 0, .tuple #[.int .u32 0, .int .u32 0], false⟩
def ti134 : TI := ⟨.func, 1, 8, .nilFunc, false⟩
def ti135 : TI := ⟨.int .u64, 1, 8, .int .u64 0, false⟩
def ti136 : TI := ⟨.other, 1, 0, .tuple #[.int .u64 0, .int .u64 0], false⟩
def ti137 : TI := ⟨.func, 1, 8, .nilFunc, false⟩
def ti138 : TI := ⟨.func, 1, 8, .nilFunc, false⟩
def ti139 : TI := ⟨.func, 1, 8, .nilFunc, false⟩
def ti140 : TI := ⟨.func, 1, 8, .nilFunc, false⟩
def ti141 : TI := ⟨.func, 1, 8, .nilFunc, false⟩
def ti142 : TI := ⟨.int .i64, 1, 8, .int .i64 0, false⟩
def ti143 : TI := ⟨.other, 1, 0, .tuple #[.int .i64 0, .int .i64 0], false⟩
def ti144 : TI := ⟨.func, 1, 8, .nilFunc, false⟩
def ti145 : TI := ⟨.func, 1, 8, .nilFunc, false⟩
def ti146 : TI := ⟨.func, 1, 8, .nilFunc, false⟩
def ti147 : TI := ⟨.func, 1, 8, .nilFunc, false⟩
def ti148 : TI := ⟨.func, 1, 8, .nilFunc, false⟩
def ti149 : TI := ⟨.func, 1, 8, .nilFunc, false⟩
def ti150 : TI := ⟨.int .u64, 1, 8, .int .u64 0, false⟩
def ti151 : TI := ⟨.func, 1, 8, .nilFunc, false⟩
def ti152 : TI := ⟨.func, 1, 8, .nilFunc, false⟩
def ti153 : TI := ⟨.func, 1, 8, .nilFunc, false⟩
def ti154 : TI := ⟨.ptr 3, 1, 8, .pointer none, false⟩
def ti155 : TI := ⟨.func, 1, 8, .nilFunc, false⟩
def ti156 : TI := ⟨.ptr 150, 1, 8, .pointer none, false⟩
def ti157 : TI := ⟨.other, 1, 0, .tuple #[.int .i64 0, .int .i64 0], false⟩
def ti158 : TI := ⟨.func, 1, 8, .nilFunc, false⟩
def ti159 : TI := ⟨.func, 1, 8, .nilFunc, false⟩
def ti160 : TI := ⟨.struct [(0, 17), (1, 17), (2, 17), (3, 9)], 4, 40, .agg #[.pointer none, .pointer none, .pointer none, .string ⟨#[]⟩], false⟩
def ti161 : TI := ⟨.struct [(0, 17), (1, 17), (2, 17), (3, 9)], 4, 40, .agg #[.pointer none, .pointer none, .pointer none, .string ⟨#[]⟩], false⟩
def ti162 : TI := ⟨.arr 0 16, 0, 0, .agg #[], true⟩
def ti165 : TI := ⟨.int .u8, 1, 1, .int .u8 0, false⟩
def ti166 : TI := ⟨.int .u8, 1, 1, .int .u8 0, false⟩
def ti167 : TI := ⟨.func, 1, 8, .nilFunc, false⟩
def ti168 : TI := ⟨.ptr 5, 1, 8, .pointer none, false⟩
def ti169 : TI := ⟨.int .i32, 1, 4, .int .i32 0, false⟩
def ti170 : TI := ⟨.int .i32, 1, 4, .int .i32 0, false⟩
def ti171 : TI := ⟨.struct [(0, 12), (1, 12), (2, 132), (3, 165), (4, 5), (5, 5), (6, 166), (7, 167), (8, 168), (9, 169), (10, 170)], 11, 48, .agg #[.int .u64 0, .int .u64 0, .int .u32 0, .int .u8 0, .int .u8 0, .int .u8 0, .int .u8 0, .nilFunc, .pointer none, .int .i32 0, .int .i32 0], false⟩
def ti172 : TI := ⟨.struct [(0, 12), (1, 12), (2, 132), (3, 165), (4, 5), (5, 5), (6, 166), (7, 167), (8, 168), (9, 169), (10, 170)], 11, 48, .agg #[.int .u64 0, .int .u64 0, .int .u32 0, .int .u8 0, .int .u8 0, .int .u8 0, .int .u8 0, .nilFunc, .pointer none, .int .i32 0, .int .i32 0], false⟩
def ti173 : TI := ⟨.other, 1, 8, .pointer none, false⟩
def tyTree : TT := (.node (.node (.node (.node (.node (.node (.node (.node .leaf 0 ti0 .leaf) 1 ti1 .leaf) 2 ti2 (.node (.node .leaf 3 ti3 .leaf) 4 ti4 .leaf)) 5 ti5 (.node (.node (.node .leaf 6 ti6 .leaf) 7 ti7 .leaf) 8 ti8 (.node .leaf 9 ti9 .leaf))) 10 ti10 (.node (.node (.node (.node .leaf 11 ti11 .leaf) 12 ti12 .leaf) 13 ti13 (.node (.node .leaf 14 ti14 .leaf) 15 ti15 .leaf)) 16 ti16 (.node (.node (.node .leaf 17 ti17 .leaf) 18 ti18 .leaf) 19 ti19 (.node .leaf 20 ti20 .leaf)))) 21 ti21 (.node (.node (.node (.node (.node .leaf 22 ti22 .leaf) 23 ti23 .leaf) 24 ti24 (.node (.node .leaf 25 ti25 .leaf) 26 ti26 .leaf)) 27 ti27 (.node (.node (.node .leaf 28 ti28 .leaf) 29 ti29 .leaf) 30 ti30 (.node .leaf 31 ti31 .leaf))) 32 ti32 (.node (.node (.node (.node .leaf 33 ti33 .leaf) 34 ti34 .leaf) 35 ti35 (.node (.node .leaf 36 ti36 .leaf) 37 ti37 .leaf)) 38 ti38 (.node (.node (.node .leaf 39 ti39 .leaf) 40 ti40 .leaf) 41 ti41 (.node .leaf 42 ti42 .leaf))))) 43 ti43 (.node (.node (.node (.node (.node (.node .leaf 44 ti44 .leaf) 45 ti45 .leaf) 46 ti46 (.node (.node .leaf 47 ti47 .leaf) 48 ti48 .leaf)) 49 ti49 (.node (.node (.node .leaf 50 ti50 .leaf) 51 ti51 .leaf) 52 ti52 (.node .leaf 53 ti53 .leaf))) 54 ti54 (.node (.node (.node (.node .leaf 55 ti55 .leaf) 56 ti56 .leaf) 57 ti57 (.node (.node .leaf 58 ti58 .leaf) 59 ti59 .leaf)) 60 ti60 (.node (.node (.node .leaf 61 ti61 .leaf) 62 ti62 .leaf) 63 ti63 (.node .leaf 64 ti64 .leaf)))) 65 ti65 (.node (.node (.node (.node (.node .leaf 66 ti66 .leaf) 67 ti67 .leaf) 68 ti68 (.node (.node .leaf 69 ti69 .leaf) 70 ti70 .leaf)) 71 ti71 (.node (.node (.node .leaf 72 ti72 .leaf) 73 ti73 .leaf) 74 ti74 (.node .leaf 75 ti75 .leaf))) 76 ti76 (.node (.node (.node (.node .leaf 77 ti77 .leaf) 78 ti78 .leaf) 79 ti79 (.node .leaf 80 ti80 .leaf)) 81 ti81 (.node (.node (.node .leaf 82 ti82 .leaf) 83 ti83 .leaf) 84 ti84 (.node .leaf 85 ti85 .leaf)))))) 86 ti86 (.node (.node (.node (.node (.node (.node (.node .leaf 87 ti87 .leaf) 88 ti88 .leaf) 89 ti89 (.node (.node .leaf 90 ti90 .leaf) 91 ti91 .leaf)) 92 ti92 (.node (.node (.node .leaf 93 ti93 .leaf) 94 ti94 .leaf) 95 ti95 (.node .leaf 96 ti96 .leaf))) 97 ti97 (.node (.node (.node (.node .leaf 98 ti98 .leaf) 99 ti99 .leaf) 100 ti100 (.node (.node .leaf 101 ti101 .leaf) 102 ti102 .leaf)) 103 ti103 (.node (.node (.node .leaf 104 ti104 .leaf) 105 ti105 .leaf) 106 ti106 (.node .leaf 107 ti107 .leaf)))) 108 ti108 (.node (.node (.node (.node (.node .leaf 109 ti109 .leaf) 110 ti110 .leaf) 111 ti111 (.node (.node .leaf 112 ti112 .leaf) 113 ti113 .leaf)) 114 ti114 (.node (.node (.node .leaf 115 ti115 .leaf) 116 ti116 .leaf) 117 ti117 (.node .leaf 118 ti118 .leaf))) 119 ti119 (.node (.node (.node (.node .leaf 120 ti120 .leaf) 121 ti121 .leaf) 122 ti122 (.node .leaf 123 ti123 .leaf)) 124 ti124 (.node (.node (.node .leaf 125 ti125 .leaf) 126 ti126 .leaf) 127 ti127 (.node .leaf 128 ti128 .leaf))))) 129 ti129 (.node (.node (.node (.node (.node (.node .leaf 130 ti130 .leaf) 131 ti131 .leaf) 132 ti132 (.node (.node .leaf 133 ti133 .leaf) 134 ti134 .leaf)) 135 ti135 (.node (.node (.node .leaf 136 ti136 .leaf) 137 ti137 .leaf) 138 ti138 (.node .leaf 139 ti139 .leaf))) 140 ti140 (.node (.node (.node (.node .leaf 141 ti141 .leaf) 142 ti142 .leaf) 143 ti143 (.node (.node .leaf 144 ti144 .leaf) 145 ti145 .leaf)) 146 ti146 (.node (.node (.node .leaf 147 ti147 .leaf) 148 ti148 .leaf) 149 ti149 (.node .leaf 150 ti150 .leaf)))) 151 ti151 (.node (.node (.node (.node (.node .leaf 152 ti152 .leaf) 153 ti153 .leaf) 154 ti154 (.node (.node .leaf 155 ti155 .leaf) 156 ti156 .leaf)) 157 ti157 (.node (.node (.node .leaf 158 ti158 .leaf) 159 ti159 .leaf) 160 ti160 (.node .leaf 161 ti161 .leaf))) 162 ti162 (.node (.node (.node (.node .leaf 165 ti165 .leaf) 166 ti166 .leaf) 167 ti167 (.node .leaf 168 ti168 .leaf)) 169 ti169 (.node (.node (.node .leaf 170 ti170 .leaf) 171 ti171 .leaf) 172 ti172 (.node .leaf 173 ti173 .leaf)))))))
def tyList : List (Nat × TI) := [(0, ti0), (1, ti1), (2, ti2), (3, ti3), (4, ti4), (5, ti5), (6, ti6), (7, ti7), (8, ti8), (9, ti9), (10, ti10), (11, ti11), (12, ti12), (13, ti13), (14, ti14), (15, ti15), (16, ti16), (17, ti17), (18, ti18), (19, ti19), (20, ti20), (21, ti21), (22, ti22), (23, ti23), (24, ti24), (25, ti25), (26, ti26), (27, ti27), (28, ti28), (29, ti29), (30, ti30), (31, ti31), (32, ti32), (33, ti33), (34, ti34), (35, ti35), (36, ti36), (37, ti37), (38, ti38), (39, ti39), (40, ti40), (41, ti41), (42, ti42), (43, ti43), (44, ti44), (45, ti45), (46, ti46), (47, ti47), (48, ti48), (49, ti49), (50, ti50), (51, ti51), (52, ti52), (53, ti53), (54, ti54), (55, ti55), (56, ti56), (57, ti57), (58, ti58), (59, ti59), (60, ti60), (61, ti61), (62, ti62), (63, ti63), (64, ti64), (65, ti65), (66, ti66), (67, ti67), (68, ti68), (69, ti69), (70, ti70), (71, ti71), (72, ti72), (73, ti73), (74, ti74), (75, ti75), (76, ti76), (77, ti77), (78, ti78), (79, ti79), (80, ti80), (81, ti81), (82, ti82), (83, ti83), (84, ti84), (85, ti85), (86, ti86), (87, ti87), (88, ti88), (89, ti89), (90, ti90), (91, ti91), (92, ti92), (93, ti93), (94, ti94), (95, ti95), (96, ti96), (97, ti97), (98, ti98), (99, ti99), (100, ti100), (101, ti101), (102, ti102), (103, ti103), (104, ti104), (105, ti105), (106, ti106), (107, ti107), (108, ti108), (109, ti109), (110, ti110), (111, ti111), (112, ti112), (113, ti113), (114, ti114), (115, ti115), (116, ti116), (117, ti117), (118, ti118), (119, ti119), (120, ti120), (121, ti121), (122, ti122), (123, ti123), (124, ti124), (125, ti125), (126, ti126), (127, ti127), (128, ti128), (129, ti129), (130, ti130), (131, ti131), (132, ti132), (133, ti133), (134, ti134), (135, ti135), (136, ti136), (137, ti137), (138, ti138), (139, ti139), (140, ti140), (141, ti141), (142, ti142), (143, ti143), (144, ti144), (145, ti145), (146, ti146), (147, ti147), (148, ti148), (149, ti149), (150, ti150), (151, ti151), (152, ti152), (153, ti153), (154, ti154), (155, ti155), (156, ti156), (157, ti157), (158, ti158), (159, ti159), (160, ti160), (161, ti161), (162, ti162), (165, ti165), (166, ti166), (167, ti167), (168, ti168), (169, ti169), (170, ti170), (171, ti171), (172, ti172), (173, ti173)]

def tyAll : List (Nat × TI) → TT → Bool
  | _, .leaf => true
  | l, .node a i _ b => tyAll l a && (l.any fun p => Nat.beq p.1 i) && tyAll l b
theorem tt_mem : ∀ {t : TT} {n : Nat} {ti : TI}, t.get n = some ti → (n, ti) ∈ t.list
  | .leaf, _, _, h => by cases h
  | .node a i u b, n, ti, h => by
    simp only [TT.get] at h
    simp only [TT.list, List.mem_append, List.mem_cons]
    split at h
    · rename_i hb; cases h; rw [beq_true hb]; exact .inr (.inl rfl)
    · split at h
      · exact .inl (tt_mem h)
      · exact .inr (.inr (tt_mem h))
theorem tiOf_all {P : Program} : ∀ {l : List (Nat × TI)}, l.map (fun p => tiOf P p.1) = l.map (fun p => some p.2) → ∀ p ∈ l, tiOf P p.1 = some p.2
  | [], _, p, hp => by cases hp
  | q :: l, h, p, hp => by
    simp only [List.map_cons, List.cons.injEq] at h
    rcases List.mem_cons.1 hp with rfl | hp
    · exact h.1
    · exact tiOf_all h.2 p hp
def keyB (n : Nat) : Bool := Nat.beq n 3 || Nat.beq n 32
@[reducible] def envF (n : Nat) (wr : Nat → Bool) : Env AF := ⟨tyTree.get, regF, wr, n, keyB, 0, fun _ _ => True, true⟩
theorem tyTree_list : tyTree.list = tyList := by kernel_rfl
theorem tyList_ok : tyList.map (fun p => tiOf Try.prog p.1) = tyList.map (fun p => some p.2) := by kernel_rfl
theorem keyed3 : Maps.Keyed Try.prog 3 := Maps.int_keyed (q := .i64) (by kernel_rfl)
theorem keyed32 : Maps.Keyed Try.prog 32 := Maps.Keyed.of_law (deep_law (m := 2) (by decide) (by kernel_rfl) (by kernel_rfl) (by kernel_rfl))
theorem keyB_spec {K : Nat} (h : keyB K = true) : K = 3 ∨ K = 32 := by
  unfold keyB at h
  rw [Bool.or_eq_true] at h
  rcases h with h | h
  · exact .inl (beq_true h)
  · exact .inr (beq_true h)
theorem keys_of3 (x : Int) (h : -9223372036854775808 ≤ x ∧ x ≤ 9223372036854775807) : ∃ l, keyOf Try.prog 3 (.int .i64 x) = some l := key_of_int (by kernel_rfl) h
theorem keys_of32 (a b : Int) (h : (-9223372036854775808 ≤ a ∧ a ≤ 9223372036854775807) ∧ (-9223372036854775808 ≤ b ∧ b ≤ 9223372036854775807)) : ∃ l, keyOf Try.prog 32 (.agg #[.int .i64 a, .int .i64 b]) = some l :=
  key_of_pair (e := 3) (by kernel_rfl) (by kernel_rfl) (by kernel_rfl) (by kernel_rfl) (by kernel_rfl) (of_decide_eq_true (by kernel_rfl)) h.1 h.2
theorem env_ok (n : Nat) (wr : Nat → Bool) : (envF n wr).Ok Try.prog := ⟨fun T ti h => tiOf_all tyList_ok (T, ti) (tyTree_list ▸ tt_mem h), fun K h => by
    rcases keyB_spec h with rfl | rfl
    · exact keyed3
    · exact keyed32,
  fun K h x hx => by
    rcases keyB_spec h with rfl | rfl
    · obtain ⟨l, hl⟩ := keys_of3 x hx
      exact ⟨_, l, rfl, hl⟩
    · obtain ⟨l, hl⟩ := keys_of32 x.1 x.2 hx
      exact ⟨_, l, rfl, hl⟩⟩
/-- Elements of these types name no frozen memory. -/
def EK.fl : EK → Bool
  | .none => false
  | .op => false
  | _ => true
def flF (n : Nat) : Bool := (kinds n).fl
theorem ek_fl {fl : Nat → Bool} : ∀ (k : EK), k.fl = true → ∀ (x : k.ty) (i : Nat) (s : SV AF), (k.ei.enc x)[i]? = some s → flatS fl s = true
  | .none, h, _, _, _, _ => by cases h
  | .op, h, _, _, _, _ => by cases h
  | .int, _, x, i, s, h => by
    match i with
    | 0 => simp [EK.ei, eiInt] at h; subst h; rfl
    | i + 1 => simp [EK.ei, eiInt] at h
  | .bool, _, x, i, s, h => by
    match i with
    | 0 => simp [EK.ei, eiBool] at h; subst h; rfl
    | i + 1 => simp [EK.ei, eiBool] at h
  | .pair, _, x, i, s, h => by
    match i with
    | 0 => simp [EK.ei, eiPair] at h; subst h; rfl
    | 1 => simp [EK.ei, eiPair] at h; subst h; rfl
    | i + 2 => simp [EK.ei, eiPair] at h
  | .triple, _, x, i, s, h => by
    match i with
    | 0 => simp [EK.ei, eiTriple] at h; subst h; rfl
    | 1 => simp [EK.ei, eiTriple] at h; subst h; rfl
    | 2 => simp [EK.ei, eiTriple] at h; subst h; rfl
    | i + 3 => simp [EK.ei, eiTriple] at h
theorem flF_ok : FlOk regF flF := fun T hT x i s h => ek_fl (kinds T) hT x i s h
theorem mixed : Try.prog.follows .mixedOrders = true := by kernel_rfl
end
end Go.Sx
