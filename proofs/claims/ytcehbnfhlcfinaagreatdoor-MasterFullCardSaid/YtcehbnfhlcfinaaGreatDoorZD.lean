/- Own texts of the proof, merged: SxV. -/
import Derived.Test.YtcehbnfhlcfinaaGreatDoorRows
import Derived.DeepKeys3
import Derived.StringKeys
import Derived.Test.YtcehbnfhlcfinaaGreatDoorZC
set_option linter.unusedVariables false
set_option linter.unusedSimpArgs false
set_option maxHeartbeats 8000000
namespace Go.Sx
open Go Go.Proofs Go.Proofs.YtcehbnfhlcfinaaGreatDoor
noncomputable section
variable {A : Nat → Type}
inductive Js where
 | mk (x0 : Int) (x1 : Int) (x2 : Int) (x3 : ByteArray) (x4 : List (ByteArray)) (x5 : List Js)
def Js.p0 : Js → Int
 | .mk x _ _ _ _ _=>x
def Js.p1 : Js → Int
 | .mk _ x _ _ _ _=>x
def Js.p2 : Js → Int
 | .mk _ _ x _ _ _=>x
def Js.p3 : Js → ByteArray
 | .mk _ _ _ x _ _=>x
def Js.p4 : Js → List (ByteArray)
 | .mk _ _ _ _ x _=>x
def Js.p5 : Js → List Js
 | .mk _ _ _ _ _ x=>x
inductive EK where
 | none
 | ki
 | kb
 | ku
 | ks
 | kiii
 | kii
 | kiib
 | kiiii
 | ksi
 | kl3
 | kssb
 | kp
 | ksiiiiil3ibibisiil122l125
 | ksiiiiil3ibibisiil122l125sii
 | kiiisl9l160
@[reducible] def EK.ty : EK → Type
 | .none=>Empty
 | .ki=>Int
 | .kb=>Bool
 | .ku=>Int
 | .ks=>ByteArray
 | .kiii=>Int × Int × Int
 | .kii=>Int × Int
 | .kiib=>Int × Int × Bool
 | .kiiii=>Int × Int × Int × Int
 | .ksi=>ByteArray × Int
 | .kl3=>List (Int)
 | .kssb=>ByteArray × ByteArray × Bool
 | .kp=>(Nat × Nat)
 | .ksiiiiil3ibibisiil122l125=>ByteArray × Int × Int × Int × Int × Int × List (Int) × Int × Bool × Int × Bool × Int × ByteArray × Int × Int × List (Int × Int × Bool) × List (Int × Int × Bool)
 | .ksiiiiil3ibibisiil122l125sii=>ByteArray × Int × Int × Int × Int × Int × List (Int) × Int × Bool × Int × Bool × Int × ByteArray × Int × Int × List (Int × Int × Bool) × List (Int × Int × Bool) × ByteArray × Int × Int
 | .kiiisl9l160=>Js
@[reducible] def ekOf : List (Nat × EK) → Nat → EK
 | [],_=>.none
 | (k,e) :: l,n=>match Nat.beq n k with
  | true=>e
  | false=>ekOf l n
@[reducible] def kinds (n : Nat) : EK:=ekOf [(3,.ki),(4,.kb),(5,.ku),(9,.ks),(126,.kiii),(44,.kiii),(150,.kii),(122,.kiib),(125,.kiib),(63,.kiiii),(48,.ksi),(51,.kl3),(61,.kssb),(70,.kp),(386,.kii),(57,.ksiiiiil3ibibisiil122l125),(111,.ksiiiiil3ibibisiil122l125sii),(160,.kiiisl9l160)] n
@[reducible] def AF (n : Nat) : Type:=(kinds n).ty
def castL {t u : Nat} (h : t = u) (xs : List (AF t)) : List (AF u):=h ▸ xs
def eiki : EI AF (Int) where
 sz:=1
 has:=true
 enc p:=[.val (.int .i64 p)]
 dec cs:=match cs with | [.val (.int .i64 x0)]=>(some (x0)) | _=>none
 beq a b:=decide (a = b)
 kg:=fun p=>(-9223372036854775808 ≤ p ∧ p ≤ 9223372036854775807)
 len _:=rfl
 same a b:=by simp
 inj a b h:=by
  simpa using h
 ok cs x h:=by
  split at h
  ·cases h; rfl
  ·cases h
 closed x i s h:=by
  match i with
  | 0=>simp at h; subst h; exact .val _ rfl
  | i + 1=>simp at h
def eikb : EI AF (Bool) where
 sz:=1
 has:=true
 enc p:=[.val (.bool p)]
 dec cs:=match cs with | [.val (.bool x0)]=>(some (x0)) | _=>none
 beq a b:=decide (a = b)
 kg:=fun _=>True
 len _:=rfl
 same a b:=by simp
 inj a b h:=by
  simpa using h
 ok cs x h:=by
  split at h
  ·cases h; rfl
  ·cases h
 closed x i s h:=by
  match i with
  | 0=>simp at h; subst h; exact .val _ rfl
  | i + 1=>simp at h
def eiku : EI AF (Int) where
 sz:=1
 has:=true
 enc p:=[.val (.int .u8 p)]
 dec cs:=match cs with | [.val (.int .u8 x0)]=>(some (x0)) | _=>none
 beq a b:=decide (a = b)
 kg:=fun _=>True
 len _:=rfl
 same a b:=by simp
 inj a b h:=by
  simpa using h
 ok cs x h:=by
  split at h
  ·cases h; rfl
  ·cases h
 closed x i s h:=by
  match i with
  | 0=>simp at h; subst h; exact .val _ rfl
  | i + 1=>simp at h
 byte:=some fun b=>(b.toNat : Int)
 byteOk f h:=by cases h; exact ⟨rfl,fun _=>rfl⟩
def eiks : EI AF (ByteArray) where
 sz:=1
 has:=true
 enc p:=[.val (.string p)]
 dec cs:=match cs with | [.val (.string x0)]=>(some (x0)) | _=>none
 beq a b:=decide (a = b)
 kg:=fun p=>p.size ≤ maxLen
 len _:=rfl
 same a b:=by simp
 inj a b h:=by
  simpa using h
 ok cs x h:=by
  split at h
  ·cases h; rfl
  ·cases h
 closed x i s h:=by
  match i with
  | 0=>simp at h; subst h; exact .val _ rfl
  | i + 1=>simp at h
def eikiii : EI AF (Int × Int × Int) where
 sz:=3
 has:=true
 enc p:=[.val (.int .i64 p.1),.val (.int .i64 p.2.1),.val (.int .i64 p.2.2)]
 dec cs:=match cs with | [.val (.int .i64 x0),.val (.int .i64 x1),.val (.int .i64 x2)]=>(some (x0,x1,x2)) | _=>none
 beq a b:=decide (a = b)
 kg:=fun p=>(-9223372036854775808 ≤ p.1 ∧ p.1 ≤ 9223372036854775807) ∧ (-9223372036854775808 ≤ p.2.1 ∧ p.2.1 ≤ 9223372036854775807) ∧ (-9223372036854775808 ≤ p.2.2 ∧ p.2.2 ≤ 9223372036854775807)
 len _:=rfl
 same a b:=by simp
 inj a b h:=by
  simp only [List.cons.injEq,SV.val.injEq,Value.int.injEq,Value.bool.injEq,Value.string.injEq,SV.lst.injEq,true_and,and_true,heq_eq_eq] at h
  obtain ⟨h0,h1,h2⟩:=h
  exact Prod.ext h0 (Prod.ext h1 (h2))
 ok cs x h:=by
  split at h
  ·cases h; rfl
  ·cases h
 closed x i s h:=by
  match i with
  | 0=>simp at h; subst h; exact .val _ rfl
  | 1=>simp at h; subst h; exact .val _ rfl
  | 2=>simp at h; subst h; exact .val _ rfl
  | i + 3=>simp at h
def eikii : EI AF (Int × Int) where
 sz:=2
 has:=true
 enc p:=[.val (.int .i64 p.1),.val (.int .i64 p.2)]
 dec cs:=match cs with | [.val (.int .i64 x0),.val (.int .i64 x1)]=>(some (x0,x1)) | _=>none
 beq a b:=decide (a = b)
 kg:=fun p=>(-9223372036854775808 ≤ p.1 ∧ p.1 ≤ 9223372036854775807) ∧ (-9223372036854775808 ≤ p.2 ∧ p.2 ≤ 9223372036854775807)
 len _:=rfl
 same a b:=by simp
 inj a b h:=by
  simp only [List.cons.injEq,SV.val.injEq,Value.int.injEq,Value.bool.injEq,Value.string.injEq,SV.lst.injEq,true_and,and_true,heq_eq_eq] at h
  obtain ⟨h0,h1⟩:=h
  exact Prod.ext h0 (h1)
 ok cs x h:=by
  split at h
  ·cases h; rfl
  ·cases h
 closed x i s h:=by
  match i with
  | 0=>simp at h; subst h; exact .val _ rfl
  | 1=>simp at h; subst h; exact .val _ rfl
  | i + 2=>simp at h
def eikiib : EI AF (Int × Int × Bool) where
 sz:=3
 has:=true
 enc p:=[.val (.int .i64 p.1),.val (.int .i64 p.2.1),.val (.bool p.2.2)]
 dec cs:=match cs with | [.val (.int .i64 x0),.val (.int .i64 x1),.val (.bool x2)]=>(some (x0,x1,x2)) | _=>none
 beq a b:=decide (a = b)
 kg:=fun p=>(-9223372036854775808 ≤ p.1 ∧ p.1 ≤ 9223372036854775807) ∧ (-9223372036854775808 ≤ p.2.1 ∧ p.2.1 ≤ 9223372036854775807) ∧ True
 len _:=rfl
 same a b:=by simp
 inj a b h:=by
  simp only [List.cons.injEq,SV.val.injEq,Value.int.injEq,Value.bool.injEq,Value.string.injEq,SV.lst.injEq,true_and,and_true,heq_eq_eq] at h
  obtain ⟨h0,h1,h2⟩:=h
  exact Prod.ext h0 (Prod.ext h1 (h2))
 ok cs x h:=by
  split at h
  ·cases h; rfl
  ·cases h
 closed x i s h:=by
  match i with
  | 0=>simp at h; subst h; exact .val _ rfl
  | 1=>simp at h; subst h; exact .val _ rfl
  | 2=>simp at h; subst h; exact .val _ rfl
  | i + 3=>simp at h
def eikiiii : EI AF (Int × Int × Int × Int) where
 sz:=4
 has:=true
 enc p:=[.val (.int .i64 p.1),.val (.int .i64 p.2.1),.val (.int .i64 p.2.2.1),.val (.int .i64 p.2.2.2)]
 dec cs:=match cs with | [.val (.int .i64 x0),.val (.int .i64 x1),.val (.int .i64 x2),.val (.int .i64 x3)]=>(some (x0,x1,x2,x3)) | _=>none
 beq a b:=decide (a = b)
 kg:=fun p=>(-9223372036854775808 ≤ p.1 ∧ p.1 ≤ 9223372036854775807) ∧ (-9223372036854775808 ≤ p.2.1 ∧ p.2.1 ≤ 9223372036854775807) ∧ (-9223372036854775808 ≤ p.2.2.1 ∧ p.2.2.1 ≤ 9223372036854775807) ∧ (-9223372036854775808 ≤ p.2.2.2 ∧ p.2.2.2 ≤ 9223372036854775807)
 len _:=rfl
 same a b:=by simp
 inj a b h:=by
  simp only [List.cons.injEq,SV.val.injEq,Value.int.injEq,Value.bool.injEq,Value.string.injEq,SV.lst.injEq,true_and,and_true,heq_eq_eq] at h
  obtain ⟨h0,h1,h2,h3⟩:=h
  exact Prod.ext h0 (Prod.ext h1 (Prod.ext h2 (h3)))
 ok cs x h:=by
  split at h
  ·cases h; rfl
  ·cases h
 closed x i s h:=by
  match i with
  | 0=>simp at h; subst h; exact .val _ rfl
  | 1=>simp at h; subst h; exact .val _ rfl
  | 2=>simp at h; subst h; exact .val _ rfl
  | 3=>simp at h; subst h; exact .val _ rfl
  | i + 4=>simp at h
def eiksi : EI AF (ByteArray × Int) where
 sz:=2
 has:=true
 enc p:=[.val (.string p.1),.val (.int .i64 p.2)]
 dec cs:=match cs with | [.val (.string x0),.val (.int .i64 x1)]=>(some (x0,x1)) | _=>none
 beq a b:=decide (a = b)
 kg:=fun p=>True ∧ (-9223372036854775808 ≤ p.2 ∧ p.2 ≤ 9223372036854775807)
 len _:=rfl
 same a b:=by simp
 inj a b h:=by
  simp only [List.cons.injEq,SV.val.injEq,Value.int.injEq,Value.bool.injEq,Value.string.injEq,SV.lst.injEq,true_and,and_true,heq_eq_eq] at h
  obtain ⟨h0,h1⟩:=h
  exact Prod.ext h0 (h1)
 ok cs x h:=by
  split at h
  ·cases h; rfl
  ·cases h
 closed x i s h:=by
  match i with
  | 0=>simp at h; subst h; exact .val _ rfl
  | 1=>simp at h; subst h; exact .val _ rfl
  | i + 2=>simp at h
def eikl3 : EI AF (List (Int)) where
 sz:=1
 has:=true
 enc p:=[.lst 3 p]
 dec cs:=match cs with | [.lst t0 x0]=>(match Nat.decEq t0 3 with | .isTrue h0=>(some (castL h0 x0)) | .isFalse _=>none) | _=>none
 beq a b:=@decide (a = b) (Classical.propDecidable _)
 kg:=fun _=>True
 len _:=rfl
 same a b:=by simp
 inj a b h:=by
  simpa using h
 ok cs x h:=by
  split at h
  ·split at h
   ·subst_vars
    cases h; rfl
   ·cases h
  ·cases h
 closed x i s h:=by
  match i with
  | 0=>simp at h; subst h; exact .lst _ _
  | i + 1=>simp at h
def eikssb : EI AF (ByteArray × ByteArray × Bool) where
 sz:=3
 has:=true
 enc p:=[.val (.string p.1),.val (.string p.2.1),.val (.bool p.2.2)]
 dec cs:=match cs with | [.val (.string x0),.val (.string x1),.val (.bool x2)]=>(some (x0,x1,x2)) | _=>none
 beq a b:=decide (a = b)
 kg:=fun _=>True ∧ True ∧ True
 len _:=rfl
 same a b:=by simp
 inj a b h:=by
  simp only [List.cons.injEq,SV.val.injEq,Value.int.injEq,Value.bool.injEq,Value.string.injEq,SV.lst.injEq,true_and,and_true,heq_eq_eq] at h
  obtain ⟨h0,h1,h2⟩:=h
  exact Prod.ext h0 (Prod.ext h1 (h2))
 ok cs x h:=by
  split at h
  ·cases h; rfl
  ·cases h
 closed x i s h:=by
  match i with
  | 0=>simp at h; subst h; exact .val _ rfl
  | 1=>simp at h; subst h; exact .val _ rfl
  | 2=>simp at h; subst h; exact .val _ rfl
  | i + 3=>simp at h
def eikp : EI AF ((Nat × Nat)) where
 sz:=1
 has:=true
 enc p:=[.val (.pointer (some ⟨p.1,p.2,none⟩))]
 dec cs:=match cs with | [.val (.pointer (some ⟨x0,x0o,none⟩))]=>(some ((x0,x0o))) | _=>none
 beq a b:=decide (a = b)
 kg:=fun _=>True
 len _:=rfl
 same a b:=by simp
 inj a b h:=by
  simp at h
  exact Prod.ext h.1 h.2
 ok cs x h:=by
  split at h
  ·cases h; rfl
  ·cases h
 closed x i s h:=by
  match i with
  | 0=>simp at h; subst h; exact .val _ rfl
  | i + 1=>simp at h
def eiksiiiiil3ibibisiil122l125 : EI AF (ByteArray × Int × Int × Int × Int × Int × List (Int) × Int × Bool × Int × Bool × Int × ByteArray × Int × Int × List (Int × Int × Bool) × List (Int × Int × Bool)) where
 sz:=17
 has:=true
 enc p:=[.val (.string p.1),.val (.int .i64 p.2.1),.val (.int .i64 p.2.2.1),.val (.int .i64 p.2.2.2.1),.val (.int .i64 p.2.2.2.2.1),.val (.int .i64 p.2.2.2.2.2.1),.lst 3 p.2.2.2.2.2.2.1,.val (.int .i64 p.2.2.2.2.2.2.2.1),.val (.bool p.2.2.2.2.2.2.2.2.1),.val (.int .i64 p.2.2.2.2.2.2.2.2.2.1),.val (.bool p.2.2.2.2.2.2.2.2.2.2.1),.val (.int .i64 p.2.2.2.2.2.2.2.2.2.2.2.1),.val (.string p.2.2.2.2.2.2.2.2.2.2.2.2.1),.val (.int .i64 p.2.2.2.2.2.2.2.2.2.2.2.2.2.1),.val (.int .i64 p.2.2.2.2.2.2.2.2.2.2.2.2.2.2.1),.lst 122 p.2.2.2.2.2.2.2.2.2.2.2.2.2.2.2.1,.lst 125 p.2.2.2.2.2.2.2.2.2.2.2.2.2.2.2.2]
 dec cs:=match cs with | [.val (.string x0),.val (.int .i64 x1),.val (.int .i64 x2),.val (.int .i64 x3),.val (.int .i64 x4),.val (.int .i64 x5),.lst t6 x6,.val (.int .i64 x7),.val (.bool x8),.val (.int .i64 x9),.val (.bool x10),.val (.int .i64 x11),.val (.string x12),.val (.int .i64 x13),.val (.int .i64 x14),.lst t15 x15,.lst t16 x16]=>(match Nat.decEq t16 125 with | .isTrue h16=>(match Nat.decEq t15 122 with | .isTrue h15=>(match Nat.decEq t6 3 with | .isTrue h6=>(some (x0,x1,x2,x3,x4,x5,castL h6 x6,x7,x8,x9,x10,x11,x12,x13,x14,castL h15 x15,castL h16 x16)) | .isFalse _=>none) | .isFalse _=>none) | .isFalse _=>none) | _=>none
 beq a b:=@decide (a = b) (Classical.propDecidable _)
 kg:=fun p=>True ∧ (-9223372036854775808 ≤ p.2.1 ∧ p.2.1 ≤ 9223372036854775807) ∧ (-9223372036854775808 ≤ p.2.2.1 ∧ p.2.2.1 ≤ 9223372036854775807) ∧ (-9223372036854775808 ≤ p.2.2.2.1 ∧ p.2.2.2.1 ≤ 9223372036854775807) ∧ (-9223372036854775808 ≤ p.2.2.2.2.1 ∧ p.2.2.2.2.1 ≤ 9223372036854775807) ∧ (-9223372036854775808 ≤ p.2.2.2.2.2.1 ∧ p.2.2.2.2.2.1 ≤ 9223372036854775807) ∧ True ∧ (-9223372036854775808 ≤ p.2.2.2.2.2.2.2.1 ∧ p.2.2.2.2.2.2.2.1 ≤ 9223372036854775807) ∧ True ∧ (-9223372036854775808 ≤ p.2.2.2.2.2.2.2.2.2.1 ∧ p.2.2.2.2.2.2.2.2.2.1 ≤ 9223372036854775807) ∧ True ∧ (-9223372036854775808 ≤ p.2.2.2.2.2.2.2.2.2.2.2.1 ∧ p.2.2.2.2.2.2.2.2.2.2.2.1 ≤ 9223372036854775807) ∧ True ∧ (-9223372036854775808 ≤ p.2.2.2.2.2.2.2.2.2.2.2.2.2.1 ∧ p.2.2.2.2.2.2.2.2.2.2.2.2.2.1 ≤ 9223372036854775807) ∧ (-9223372036854775808 ≤ p.2.2.2.2.2.2.2.2.2.2.2.2.2.2.1 ∧ p.2.2.2.2.2.2.2.2.2.2.2.2.2.2.1 ≤ 9223372036854775807) ∧ True ∧ True
 len _:=rfl
 same a b:=by simp
 inj a b h:=by
  simp only [List.cons.injEq,SV.val.injEq,Value.int.injEq,Value.bool.injEq,Value.string.injEq,SV.lst.injEq,true_and,and_true,heq_eq_eq] at h
  obtain ⟨h0,h1,h2,h3,h4,h5,h6,h7,h8,h9,h10,h11,h12,h13,h14,h15,h16⟩:=h
  exact Prod.ext h0 (Prod.ext h1 (Prod.ext h2 (Prod.ext h3 (Prod.ext h4 (Prod.ext h5 (Prod.ext h6 (Prod.ext h7 (Prod.ext h8 (Prod.ext h9 (Prod.ext h10 (Prod.ext h11 (Prod.ext h12 (Prod.ext h13 (Prod.ext h14 (Prod.ext h15 (h16))))))))))))))))
 ok cs x h:=by
  split at h
  ·split at h
   ·split at h
    ·split at h
     ·subst_vars
      cases h; rfl
     ·cases h
    ·cases h
   ·cases h
  ·cases h
 closed x i s h:=by
  match i with
  | 0=>simp at h; subst h; exact .val _ rfl
  | 1=>simp at h; subst h; exact .val _ rfl
  | 2=>simp at h; subst h; exact .val _ rfl
  | 3=>simp at h; subst h; exact .val _ rfl
  | 4=>simp at h; subst h; exact .val _ rfl
  | 5=>simp at h; subst h; exact .val _ rfl
  | 6=>simp at h; subst h; exact .lst _ _
  | 7=>simp at h; subst h; exact .val _ rfl
  | 8=>simp at h; subst h; exact .val _ rfl
  | 9=>simp at h; subst h; exact .val _ rfl
  | 10=>simp at h; subst h; exact .val _ rfl
  | 11=>simp at h; subst h; exact .val _ rfl
  | 12=>simp at h; subst h; exact .val _ rfl
  | 13=>simp at h; subst h; exact .val _ rfl
  | 14=>simp at h; subst h; exact .val _ rfl
  | 15=>simp at h; subst h; exact .lst _ _
  | 16=>simp at h; subst h; exact .lst _ _
  | i + 17=>simp at h
def eiksiiiiil3ibibisiil122l125sii : EI AF (ByteArray × Int × Int × Int × Int × Int × List (Int) × Int × Bool × Int × Bool × Int × ByteArray × Int × Int × List (Int × Int × Bool) × List (Int × Int × Bool) × ByteArray × Int × Int) where
 sz:=20
 has:=true
 enc p:=[.val (.string p.1),.val (.int .i64 p.2.1),.val (.int .i64 p.2.2.1),.val (.int .i64 p.2.2.2.1),.val (.int .i64 p.2.2.2.2.1),.val (.int .i64 p.2.2.2.2.2.1),.lst 3 p.2.2.2.2.2.2.1,.val (.int .i64 p.2.2.2.2.2.2.2.1),.val (.bool p.2.2.2.2.2.2.2.2.1),.val (.int .i64 p.2.2.2.2.2.2.2.2.2.1),.val (.bool p.2.2.2.2.2.2.2.2.2.2.1),.val (.int .i64 p.2.2.2.2.2.2.2.2.2.2.2.1),.val (.string p.2.2.2.2.2.2.2.2.2.2.2.2.1),.val (.int .i64 p.2.2.2.2.2.2.2.2.2.2.2.2.2.1),.val (.int .i64 p.2.2.2.2.2.2.2.2.2.2.2.2.2.2.1),.lst 122 p.2.2.2.2.2.2.2.2.2.2.2.2.2.2.2.1,.lst 125 p.2.2.2.2.2.2.2.2.2.2.2.2.2.2.2.2.1,.val (.string p.2.2.2.2.2.2.2.2.2.2.2.2.2.2.2.2.2.1),.val (.int .i64 p.2.2.2.2.2.2.2.2.2.2.2.2.2.2.2.2.2.2.1),.val (.int .i64 p.2.2.2.2.2.2.2.2.2.2.2.2.2.2.2.2.2.2.2)]
 dec cs:=match cs with | [.val (.string x0),.val (.int .i64 x1),.val (.int .i64 x2),.val (.int .i64 x3),.val (.int .i64 x4),.val (.int .i64 x5),.lst t6 x6,.val (.int .i64 x7),.val (.bool x8),.val (.int .i64 x9),.val (.bool x10),.val (.int .i64 x11),.val (.string x12),.val (.int .i64 x13),.val (.int .i64 x14),.lst t15 x15,.lst t16 x16,.val (.string x17),.val (.int .i64 x18),.val (.int .i64 x19)]=>(match Nat.decEq t16 125 with | .isTrue h16=>(match Nat.decEq t15 122 with | .isTrue h15=>(match Nat.decEq t6 3 with | .isTrue h6=>(some (x0,x1,x2,x3,x4,x5,castL h6 x6,x7,x8,x9,x10,x11,x12,x13,x14,castL h15 x15,castL h16 x16,x17,x18,x19)) | .isFalse _=>none) | .isFalse _=>none) | .isFalse _=>none) | _=>none
 beq a b:=@decide (a = b) (Classical.propDecidable _)
 kg:=fun p=>True ∧ (-9223372036854775808 ≤ p.2.1 ∧ p.2.1 ≤ 9223372036854775807) ∧ (-9223372036854775808 ≤ p.2.2.1 ∧ p.2.2.1 ≤ 9223372036854775807) ∧ (-9223372036854775808 ≤ p.2.2.2.1 ∧ p.2.2.2.1 ≤ 9223372036854775807) ∧ (-9223372036854775808 ≤ p.2.2.2.2.1 ∧ p.2.2.2.2.1 ≤ 9223372036854775807) ∧ (-9223372036854775808 ≤ p.2.2.2.2.2.1 ∧ p.2.2.2.2.2.1 ≤ 9223372036854775807) ∧ True ∧ (-9223372036854775808 ≤ p.2.2.2.2.2.2.2.1 ∧ p.2.2.2.2.2.2.2.1 ≤ 9223372036854775807) ∧ True ∧ (-9223372036854775808 ≤ p.2.2.2.2.2.2.2.2.2.1 ∧ p.2.2.2.2.2.2.2.2.2.1 ≤ 9223372036854775807) ∧ True ∧ (-9223372036854775808 ≤ p.2.2.2.2.2.2.2.2.2.2.2.1 ∧ p.2.2.2.2.2.2.2.2.2.2.2.1 ≤ 9223372036854775807) ∧ True ∧ (-9223372036854775808 ≤ p.2.2.2.2.2.2.2.2.2.2.2.2.2.1 ∧ p.2.2.2.2.2.2.2.2.2.2.2.2.2.1 ≤ 9223372036854775807) ∧ (-9223372036854775808 ≤ p.2.2.2.2.2.2.2.2.2.2.2.2.2.2.1 ∧ p.2.2.2.2.2.2.2.2.2.2.2.2.2.2.1 ≤ 9223372036854775807) ∧ True ∧ True ∧ True ∧ (-9223372036854775808 ≤ p.2.2.2.2.2.2.2.2.2.2.2.2.2.2.2.2.2.2.1 ∧ p.2.2.2.2.2.2.2.2.2.2.2.2.2.2.2.2.2.2.1 ≤ 9223372036854775807) ∧ (-9223372036854775808 ≤ p.2.2.2.2.2.2.2.2.2.2.2.2.2.2.2.2.2.2.2 ∧ p.2.2.2.2.2.2.2.2.2.2.2.2.2.2.2.2.2.2.2 ≤ 9223372036854775807)
 len _:=rfl
 same a b:=by simp
 inj a b h:=by
  simp only [List.cons.injEq,SV.val.injEq,Value.int.injEq,Value.bool.injEq,Value.string.injEq,SV.lst.injEq,true_and,and_true,heq_eq_eq] at h
  obtain ⟨h0,h1,h2,h3,h4,h5,h6,h7,h8,h9,h10,h11,h12,h13,h14,h15,h16,h17,h18,h19⟩:=h
  exact Prod.ext h0 (Prod.ext h1 (Prod.ext h2 (Prod.ext h3 (Prod.ext h4 (Prod.ext h5 (Prod.ext h6 (Prod.ext h7 (Prod.ext h8 (Prod.ext h9 (Prod.ext h10 (Prod.ext h11 (Prod.ext h12 (Prod.ext h13 (Prod.ext h14 (Prod.ext h15 (Prod.ext h16 (Prod.ext h17 (Prod.ext h18 (h19)))))))))))))))))))
 ok cs x h:=by
  split at h
  ·split at h
   ·split at h
    ·split at h
     ·subst_vars
      cases h; rfl
     ·cases h
    ·cases h
   ·cases h
  ·cases h
 closed x i s h:=by
  match i with
  | 0=>simp at h; subst h; exact .val _ rfl
  | 1=>simp at h; subst h; exact .val _ rfl
  | 2=>simp at h; subst h; exact .val _ rfl
  | 3=>simp at h; subst h; exact .val _ rfl
  | 4=>simp at h; subst h; exact .val _ rfl
  | 5=>simp at h; subst h; exact .val _ rfl
  | 6=>simp at h; subst h; exact .lst _ _
  | 7=>simp at h; subst h; exact .val _ rfl
  | 8=>simp at h; subst h; exact .val _ rfl
  | 9=>simp at h; subst h; exact .val _ rfl
  | 10=>simp at h; subst h; exact .val _ rfl
  | 11=>simp at h; subst h; exact .val _ rfl
  | 12=>simp at h; subst h; exact .val _ rfl
  | 13=>simp at h; subst h; exact .val _ rfl
  | 14=>simp at h; subst h; exact .val _ rfl
  | 15=>simp at h; subst h; exact .lst _ _
  | 16=>simp at h; subst h; exact .lst _ _
  | 17=>simp at h; subst h; exact .val _ rfl
  | 18=>simp at h; subst h; exact .val _ rfl
  | 19=>simp at h; subst h; exact .val _ rfl
  | i + 20=>simp at h
def eikiiisl9l160 : EI AF (Js) where
 sz:=6
 has:=true
 enc p:=[.val (.int .i64 p.p0),.val (.int .i64 p.p1),.val (.int .i64 p.p2),.val (.string p.p3),.lst 9 p.p4,.lst 160 p.p5]
 dec cs:=match cs with | [.val (.int .i64 x0),.val (.int .i64 x1),.val (.int .i64 x2),.val (.string x3),.lst t4 x4,.lst t5 x5]=>(match Nat.decEq t5 160 with | .isTrue h5=>(match Nat.decEq t4 9 with | .isTrue h4=>(some (.mk x0 x1 x2 x3 (castL h4 x4) (castL h5 x5))) | .isFalse _=>none) | .isFalse _=>none) | _=>none
 beq a b:=@decide (a = b) (Classical.propDecidable _)
 kg:=fun p=>(-9223372036854775808 ≤ p.p0 ∧ p.p0 ≤ 9223372036854775807) ∧ (-9223372036854775808 ≤ p.p1 ∧ p.p1 ≤ 9223372036854775807) ∧ (-9223372036854775808 ≤ p.p2 ∧ p.p2 ≤ 9223372036854775807) ∧ True ∧ True ∧ True
 len _:=rfl
 same a b:=by simp
 inj a b h:=by
  cases a; cases b
  simp only [Js.p0,Js.p1,Js.p2,Js.p3,Js.p4,Js.p5,List.cons.injEq,SV.val.injEq,Value.int.injEq,Value.bool.injEq,Value.string.injEq,SV.lst.injEq,true_and,and_true,heq_eq_eq] at h
  simp only [Js.mk.injEq]; exact h
 ok cs x h:=by
  split at h
  ·split at h
   ·split at h
    ·subst_vars
     cases h; rfl
    ·cases h
   ·cases h
  ·cases h
 closed x i s h:=by
  match i with
  | 0=>simp at h; subst h; exact .val _ rfl
  | 1=>simp at h; subst h; exact .val _ rfl
  | 2=>simp at h; subst h; exact .val _ rfl
  | 3=>simp at h; subst h; exact .val _ rfl
  | 4=>simp at h; subst h; exact .lst _ _
  | 5=>simp at h; subst h; exact .lst _ _
  | i + 6=>simp at h
def EK.ei : ∀ k : EK,EI AF k.ty
 | .none=>EI.none
 | .ki=>eiki
 | .kb=>eikb
 | .ku=>eiku
 | .ks=>eiks
 | .kiii=>eikiii
 | .kii=>eikii
 | .kiib=>eikiib
 | .kiiii=>eikiiii
 | .ksi=>eiksi
 | .kl3=>eikl3
 | .kssb=>eikssb
 | .kp=>eikp
 | .ksiiiiil3ibibisiil122l125=>eiksiiiiil3ibibisiil122l125
 | .ksiiiiil3ibibisiil122l125sii=>eiksiiiiil3ibibisiil122l125sii
 | .kiiisl9l160=>eikiiisl9l160
def regF : Reg AF:=regOf fun n=>(kinds n).ei
def ti0 : TI:=⟨.other,1,0,.tuple #[],false⟩
def ti1 : TI:=⟨.func,1,8,.nilFunc,false⟩
def ti2 : TI:=⟨.int .i64,1,8,.int .i64 0,false⟩
def ti3 : TI:=⟨.int .i64,1,8,.int .i64 0,false⟩
def ti4 : TI:=⟨.bool,1,1,.bool false,false⟩
def ti5 : TI:=⟨.int .u8,1,1,.int .u8 0,false⟩
def ti6 : TI:=⟨.int .u8,1,1,.int .u8 0,false⟩
def ti7 : TI:=⟨.struct [(0,2),(1,3),(2,4),(3,6)],4,24,.agg #[.int .i64 0,.int .i64 0,.bool false,.int .u8 0],true⟩
def ti8 : TI:=⟨.struct [(0,2),(1,3),(2,4),(3,6)],4,24,.agg #[.int .i64 0,.int .i64 0,.bool false,.int .u8 0],true⟩
def ti9 : TI:=⟨.str,1,16,.string ⟨#[]⟩,false⟩
def ti10 : TI:=⟨.str,1,16,.string ⟨#[]⟩,false⟩
def ti11 : TI:=⟨.str,1,16,.string ⟨#[]⟩,false⟩
def ti12 : TI:=⟨.int .u64,1,8,.int .u64 0,false⟩
def ti13 : TI:=⟨.struct [(0,9),(1,12)],2,24,.agg #[.string ⟨#[]⟩,.int .u64 0],false⟩
def ti14 : TI:=⟨.struct [(0,9),(1,12)],2,24,.agg #[.string ⟨#[]⟩,.int .u64 0],false⟩
def ti15 : TI:=⟨.ptr 441,1,8,.pointer none,false⟩
def ti16 : TI:=⟨.ptr 444,1,8,.pointer none,false⟩
def ti17 : TI:=⟨.ptr 451,1,8,.pointer none,false⟩
def ti18 : TI:=⟨.struct [(0,17)],1,8,.agg #[.pointer none],false⟩
def ti19 : TI:=⟨.struct [(0,17)],1,8,.agg #[.pointer none],false⟩
def ti20 : TI:=⟨.other,1,16,.nilIface,false⟩
def ti21 : TI:=⟨.int .i32,1,4,.int .i32 0,false⟩
def ti22 : TI:=⟨.slice 126,1,24,.slice none 0 0,false⟩
def ti23 : TI:=⟨.func,1,8,.nilFunc,false⟩
def ti24 : TI:=⟨.ptr 35,1,8,.pointer none,false⟩
def ti25 : TI:=⟨.func,1,8,.nilFunc,false⟩
def ti26 : TI:=⟨.ptr 76,1,8,.pointer none,false⟩
def ti27 : TI:=⟨.ptr 132,1,8,.pointer none,false⟩
def ti28 : TI:=⟨.slice 70,1,24,.slice none 0 0,false⟩
def ti29 : TI:=⟨.slice 44,1,24,.slice none 0 0,false⟩
def ti30 : TI:=⟨.struct [(0,3),(1,29)],2,32,.agg #[.int .i64 0,.slice none 0 0],true⟩
def ti31 : TI:=⟨.struct [(0,3),(1,29)],2,32,.agg #[.int .i64 0,.slice none 0 0],true⟩
def ti32 : TI:=⟨.slice 61,1,24,.slice none 0 0,false⟩
def ti33 : TI:=⟨.slice 9,1,24,.slice none 0 0,false⟩
def ti34 : TI:=⟨.struct [(0,26),(1,27),(2,28),(3,31),(5,32),(6,33),(7,4),(8,3),(9,4)],10,144,.agg #[.pointer none,.pointer none,.slice none 0 0,.int .i64 0,.slice none 0 0,.slice none 0 0,.slice none 0 0,.bool false,.int .i64 0,.bool false],true⟩
def ti35 : TI:=⟨.struct [(0,26),(1,27),(2,28),(3,31),(5,32),(6,33),(7,4),(8,3),(9,4)],10,144,.agg #[.pointer none,.pointer none,.slice none 0 0,.int .i64 0,.slice none 0 0,.slice none 0 0,.slice none 0 0,.bool false,.int .i64 0,.bool false],true⟩
def ti36 : TI:=⟨.int .i64,1,8,.int .i64 0,false⟩
def ti37 : TI:=⟨.other,1,0,.tuple #[.int .i64 0,.int .i64 0],false⟩
def ti38 : TI:=⟨.func,1,8,.nilFunc,false⟩
def ti40 : TI:=⟨.slice 63,1,24,.slice none 0 0,false⟩
def ti41 : TI:=⟨.func,1,8,.nilFunc,false⟩
def ti42 : TI:=⟨.func,1,8,.nilFunc,false⟩
def ti43 : TI:=⟨.struct [(0,3),(1,3),(2,3)],3,24,.agg #[.int .i64 0,.int .i64 0,.int .i64 0],true⟩
def ti44 : TI:=⟨.struct [(0,3),(1,3),(2,3)],3,24,.agg #[.int .i64 0,.int .i64 0,.int .i64 0],true⟩
def ti45 : TI:=⟨.other,1,0,.tuple #[.pointer none,.int .i64 0],false⟩
def ti46 : TI:=⟨.func,1,8,.nilFunc,false⟩
def ti47 : TI:=⟨.struct [(0,9),(1,3)],2,24,.agg #[.string ⟨#[]⟩,.int .i64 0],true⟩
def ti48 : TI:=⟨.struct [(0,9),(1,3)],2,24,.agg #[.string ⟨#[]⟩,.int .i64 0],true⟩
def ti49 : TI:=⟨.slice 48,1,24,.slice none 0 0,false⟩
def ti50 : TI:=⟨.func,1,8,.nilFunc,false⟩
def ti51 : TI:=⟨.slice 3,1,24,.slice none 0 0,false⟩
def ti52 : TI:=⟨.slice 122,1,24,.slice none 0 0,false⟩
def ti53 : TI:=⟨.slice 125,1,24,.slice none 0 0,false⟩
def ti54 : TI:=⟨.struct [(0,3),(1,9),(2,3),(3,3),(4,52),(5,53)],6,88,.agg #[.int .i64 0,.string ⟨#[]⟩,.int .i64 0,.int .i64 0,.slice none 0 0,.slice none 0 0],true⟩
def ti55 : TI:=⟨.struct [(0,3),(1,9),(2,3),(3,3),(4,52),(5,53)],6,88,.agg #[.int .i64 0,.string ⟨#[]⟩,.int .i64 0,.int .i64 0,.slice none 0 0,.slice none 0 0],true⟩
def ti56 : TI:=⟨.struct [(0,9),(1,3),(2,3),(3,3),(4,3),(5,3),(6,51),(7,3),(8,4),(9,3),(10,4),(11,55)],17,200,.agg #[.string ⟨#[]⟩,.int .i64 0,.int .i64 0,.int .i64 0,.int .i64 0,.int .i64 0,.slice none 0 0,.int .i64 0,.bool false,.int .i64 0,.bool false,.int .i64 0,.string ⟨#[]⟩,.int .i64 0,.int .i64 0,.slice none 0 0,.slice none 0 0],true⟩
def ti57 : TI:=⟨.struct [(0,9),(1,3),(2,3),(3,3),(4,3),(5,3),(6,51),(7,3),(8,4),(9,3),(10,4),(11,55)],17,200,.agg #[.string ⟨#[]⟩,.int .i64 0,.int .i64 0,.int .i64 0,.int .i64 0,.int .i64 0,.slice none 0 0,.int .i64 0,.bool false,.int .i64 0,.bool false,.int .i64 0,.string ⟨#[]⟩,.int .i64 0,.int .i64 0,.slice none 0 0,.slice none 0 0],true⟩
def ti58 : TI:=⟨.other,1,0,.tuple #[.agg #[.string ⟨#[]⟩,.int .i64 0,.int .i64 0,.int .i64 0,.int .i64 0,.int .i64 0,.slice none 0 0,.int .i64 0,.bool false,.int .i64 0,.bool false,.int .i64 0,.string ⟨#[]⟩,.int .i64 0,.int .i64 0,.slice none 0 0,.slice none 0 0],.bool false],false⟩
def ti59 : TI:=⟨.func,1,8,.nilFunc,false⟩
def ti61 : TI:=⟨.struct [(0,9),(1,9),(2,4)],3,40,.agg #[.string ⟨#[]⟩,.string ⟨#[]⟩,.bool false],true⟩
def ti63 : TI:=⟨.struct [(0,3),(1,3),(2,3),(3,3)],4,32,.agg #[.int .i64 0,.int .i64 0,.int .i64 0,.int .i64 0],true⟩
def ti64 : TI:=⟨.func,1,8,.nilFunc,false⟩
def ti65 : TI:=⟨.func,1,8,.nilFunc,false⟩
def ti66 : TI:=⟨.other,1,0,.tuple #[.agg #[.int .i64 0,.slice none 0 0],.slice none 0 0],false⟩
def ti67 : TI:=⟨.func,1,8,.nilFunc,false⟩
def ti68 : TI:=⟨.other,1,0,.tuple #[.pointer none,.int .i64 0],false⟩
def ti69 : TI:=⟨.func,1,8,.nilFunc,false⟩
def ti70 : TI:=⟨.ptr 137,1,8,.pointer none,false⟩
def ti71 : TI:=⟨.other,1,0,.tuple #[.pointer none,.int .i64 0],false⟩
def ti72 : TI:=⟨.func,1,8,.nilFunc,false⟩
def ti73 : TI:=⟨.ptr 108,1,8,.pointer none,false⟩
def ti74 : TI:=⟨.ptr 86,1,8,.pointer none,false⟩
def ti75 : TI:=⟨.struct [(0,73),(1,74)],2,16,.agg #[.pointer none,.pointer none],true⟩
def ti76 : TI:=⟨.struct [(0,73),(1,74)],2,16,.agg #[.pointer none,.pointer none],true⟩
def ti77 : TI:=⟨.func,1,8,.nilFunc,false⟩
def ti78 : TI:=⟨.func,1,8,.nilFunc,false⟩
def ti79 : TI:=⟨.slice 111,1,24,.slice none 0 0,false⟩
def ti80 : TI:=⟨.ptr 178,1,8,.pointer none,false⟩
def ti81 : TI:=⟨.ptr 84,1,8,.pointer none,false⟩
def ti82 : TI:=⟨.slice 5,1,24,.slice none 0 0,false⟩
def ti83 : TI:=⟨.struct [(0,81),(1,82)],2,32,.agg #[.pointer none,.slice none 0 0],true⟩
def ti84 : TI:=⟨.struct [(0,81),(1,82)],2,32,.agg #[.pointer none,.slice none 0 0],true⟩
def ti85 : TI:=⟨.struct [(0,79),(1,40),(2,80),(3,84)],5,88,.agg #[.slice none 0 0,.slice none 0 0,.pointer none,.pointer none,.slice none 0 0],true⟩
def ti86 : TI:=⟨.struct [(0,79),(1,40),(2,80),(3,84)],5,88,.agg #[.slice none 0 0,.slice none 0 0,.pointer none,.pointer none,.slice none 0 0],true⟩
def ti87 : TI:=⟨.func,1,8,.nilFunc,false⟩
def ti88 : TI:=⟨.map 9 4,1,8,.map none,false⟩
def ti89 : TI:=⟨.map 3 4,1,8,.map none,false⟩
def ti90 : TI:=⟨.func,1,8,.nilFunc,false⟩
def ti91 : TI:=⟨.func,1,8,.nilFunc,false⟩
def ti92 : TI:=⟨.func,1,8,.nilFunc,false⟩
def ti93 : TI:=⟨.func,1,8,.nilFunc,false⟩
def ti95 : TI:=⟨.struct [],0,0,.agg #[],true⟩
def ti96 : TI:=⟨.struct [],0,0,.agg #[],true⟩
def ti97 : TI:=⟨.int .u32,1,4,.int .u32 0,false⟩
def ti98 : TI:=⟨.struct [(0,96),(0,97)],1,4,.agg #[.int .u32 0],false⟩
def ti99 : TI:=⟨.struct [(0,96),(0,97)],1,4,.agg #[.int .u32 0],false⟩
def ti100 : TI:=⟨.struct [(0,21),(1,97)],2,8,.agg #[.int .i32 0,.int .u32 0],true⟩
def ti101 : TI:=⟨.struct [(0,21),(1,97)],2,8,.agg #[.int .i32 0,.int .u32 0],true⟩
def ti102 : TI:=⟨.struct [(0,95),(0,101)],2,8,.agg #[.int .i32 0,.int .u32 0],false⟩
def ti103 : TI:=⟨.struct [(0,95),(0,101)],2,8,.agg #[.int .i32 0,.int .u32 0],false⟩
def ti104 : TI:=⟨.struct [(0,95),(0,99),(1,103)],3,12,.agg #[.int .u32 0,.int .i32 0,.int .u32 0],false⟩
def ti105 : TI:=⟨.struct [(0,95),(0,99),(1,103)],3,12,.agg #[.int .u32 0,.int .i32 0,.int .u32 0],false⟩
def ti106 : TI:=⟨.slice 51,1,24,.slice none 0 0,false⟩
def ti107 : TI:=⟨.struct [(0,31),(2,49),(3,3),(4,105),(7,106)],8,104,.agg #[.int .i64 0,.slice none 0 0,.slice none 0 0,.int .i64 0,.int .u32 0,.int .i32 0,.int .u32 0,.slice none 0 0],true⟩
def ti108 : TI:=⟨.struct [(0,31),(2,49),(3,3),(4,105),(7,106)],8,104,.agg #[.int .i64 0,.slice none 0 0,.slice none 0 0,.int .i64 0,.int .u32 0,.int .i32 0,.int .u32 0,.slice none 0 0],true⟩
def ti109 : TI:=⟨.func,1,8,.nilFunc,false⟩
def ti110 : TI:=⟨.struct [(0,57),(17,9),(18,3),(19,3)],20,232,.agg #[.string ⟨#[]⟩,.int .i64 0,.int .i64 0,.int .i64 0,.int .i64 0,.int .i64 0,.slice none 0 0,.int .i64 0,.bool false,.int .i64 0,.bool false,.int .i64 0,.string ⟨#[]⟩,.int .i64 0,.int .i64 0,.slice none 0 0,.slice none 0 0,.string ⟨#[]⟩,.int .i64 0,.int .i64 0],true⟩
def ti111 : TI:=⟨.struct [(0,57),(17,9),(18,3),(19,3)],20,232,.agg #[.string ⟨#[]⟩,.int .i64 0,.int .i64 0,.int .i64 0,.int .i64 0,.int .i64 0,.slice none 0 0,.int .i64 0,.bool false,.int .i64 0,.bool false,.int .i64 0,.string ⟨#[]⟩,.int .i64 0,.int .i64 0,.slice none 0 0,.slice none 0 0,.string ⟨#[]⟩,.int .i64 0,.int .i64 0],true⟩
def ti112 : TI:=⟨.other,1,0,.tuple #[.string ⟨#[]⟩,.int .i64 0],false⟩
def ti113 : TI:=⟨.func,1,8,.nilFunc,false⟩
def ti114 : TI:=⟨.func,1,8,.nilFunc,false⟩
def ti115 : TI:=⟨.struct [(0,9),(1,9),(2,9)],3,48,.agg #[.string ⟨#[]⟩,.string ⟨#[]⟩,.string ⟨#[]⟩],true⟩
def ti116 : TI:=⟨.struct [(0,9),(1,9),(2,9)],3,48,.agg #[.string ⟨#[]⟩,.string ⟨#[]⟩,.string ⟨#[]⟩],true⟩
def ti117 : TI:=⟨.ptr 111,1,8,.pointer none,false⟩
def ti118 : TI:=⟨.func,1,8,.nilFunc,false⟩
def ti119 : TI:=⟨.func,1,8,.nilFunc,false⟩
def ti120 : TI:=⟨.func,1,8,.nilFunc,false⟩
def ti121 : TI:=⟨.struct [(0,3),(1,3),(2,4)],3,24,.agg #[.int .i64 0,.int .i64 0,.bool false],true⟩
def ti122 : TI:=⟨.struct [(0,3),(1,3),(2,4)],3,24,.agg #[.int .i64 0,.int .i64 0,.bool false],true⟩
def ti123 : TI:=⟨.func,1,8,.nilFunc,false⟩
def ti125 : TI:=⟨.struct [(0,3),(1,3),(2,4)],3,24,.agg #[.int .i64 0,.int .i64 0,.bool false],true⟩
def ti126 : TI:=⟨.arr 3 3,3,24,.agg #[.int .i64 0,.int .i64 0,.int .i64 0],true⟩
def ti127 : TI:=⟨.other,1,0,.tuple #[.int .i64 0,.bool false],false⟩
def ti128 : TI:=⟨.func,1,8,.nilFunc,false⟩
def ti129 : TI:=⟨.slice 57,1,24,.slice none 0 0,false⟩
def ti130 : TI:=⟨.ptr 213,1,8,.pointer none,false⟩
def ti132 : TI:=⟨.struct [(0,31),(2,49),(3,3),(4,129),(5,33),(6,40),(7,51),(8,51),(9,130),(10,9)],11,208,.agg #[.int .i64 0,.slice none 0 0,.slice none 0 0,.int .i64 0,.slice none 0 0,.slice none 0 0,.slice none 0 0,.slice none 0 0,.slice none 0 0,.pointer none,.string ⟨#[]⟩],true⟩
def ti133 : TI:=⟨.struct [(0,3),(1,3),(2,9),(3,3),(4,3),(5,4),(6,3),(7,3),(8,4),(9,3)],10,88,.agg #[.int .i64 0,.int .i64 0,.string ⟨#[]⟩,.int .i64 0,.int .i64 0,.bool false,.int .i64 0,.int .i64 0,.bool false,.int .i64 0],true⟩
def ti134 : TI:=⟨.struct [(0,3),(1,3),(2,9),(3,3),(4,3),(5,4),(6,3),(7,3),(8,4),(9,3)],10,88,.agg #[.int .i64 0,.int .i64 0,.string ⟨#[]⟩,.int .i64 0,.int .i64 0,.bool false,.int .i64 0,.int .i64 0,.bool false,.int .i64 0],true⟩
def ti135 : TI:=⟨.slice 55,1,24,.slice none 0 0,false⟩
def ti137 : TI:=⟨.struct [(0,31),(2,134),(12,51),(13,135)],14,168,.agg #[.int .i64 0,.slice none 0 0,.int .i64 0,.int .i64 0,.string ⟨#[]⟩,.int .i64 0,.int .i64 0,.bool false,.int .i64 0,.int .i64 0,.bool false,.int .i64 0,.slice none 0 0,.slice none 0 0],true⟩
def ti139 : TI:=⟨.func,1,8,.nilFunc,false⟩
def ti141 : TI:=⟨.struct [(0,3),(1,51),(2,9)],3,48,.agg #[.int .i64 0,.slice none 0 0,.string ⟨#[]⟩],true⟩
def ti145 : TI:=⟨.other,1,16,.nilIface,false⟩
def ti148 : TI:=⟨.func,1,8,.nilFunc,false⟩
def ti149 : TI:=⟨.map 150 4,1,8,.map none,false⟩
def ti150 : TI:=⟨.arr 2 3,2,16,.agg #[.int .i64 0,.int .i64 0],true⟩
def ti157 : TI:=⟨.struct [(0,3),(1,3)],2,16,.agg #[.int .i64 0,.int .i64 0],true⟩
def ti158 : TI:=⟨.slice 160,1,24,.slice none 0 0,false⟩
def ti160 : TI:=⟨.struct [(0,3),(1,157),(3,9),(4,33),(5,158)],6,88,.agg #[.int .i64 0,.int .i64 0,.int .i64 0,.string ⟨#[]⟩,.slice none 0 0,.slice none 0 0],true⟩
def ti166 : TI:=⟨.func,1,8,.nilFunc,false⟩
def ti167 : TI:=⟨.func,1,8,.nilFunc,false⟩
def ti168 : TI:=⟨.func,1,8,.nilFunc,false⟩
def ti169 : TI:=⟨.func,1,8,.nilFunc,false⟩
def ti174 : TI:=⟨.func,1,8,.nilFunc,false⟩
def ti176 : TI:=⟨.map 3 3,1,8,.map none,false⟩
def ti178 : TI:=⟨.struct [(0,176)],1,8,.agg #[.map none],true⟩
def ti180 : TI:=⟨.func,1,8,.nilFunc,false⟩
def ti186 : TI:=⟨.func,1,8,.nilFunc,false⟩
def ti189 : TI:=⟨.arr 256 4,256,256,.agg #[.bool false,.bool false,.bool false,.bool false,.bool false,.bool false,.bool false,.bool false,.bool false,.bool false,.bool false,.bool false,.bool false,.bool false,.bool false,.bool false,.bool false,.bool false,.bool false,.bool false,.bool false,.bool false,.bool false,.bool false,.bool false,.bool false,.bool false,.bool false,.bool false,.bool false,.bool false,.bool false,.bool false,.bool false,.bool false,.bool false,.bool false,.bool false,.bool false,.bool false,.bool false,.bool false,.bool false,.bool false,.bool false,.bool false,.bool false,.bool false,.bool false,.bool false,.bool false,.bool false,.bool false,.bool false,.bool false,.bool false,.bool false,.bool false,.bool false,.bool false,.bool false,.bool false,.bool false,.bool false,.bool false,.bool false,.bool false,.bool false,.bool false,.bool false,.bool false,.bool false,.bool false,.bool false,.bool false,.bool false,.bool false,.bool false,.bool false,.bool false,.bool false,.bool false,.bool false,.bool false,.bool false,.bool false,.bool false,.bool false,.bool false,.bool false,.bool false,.bool false,.bool false,.bool false,.bool false,.bool false,.bool false,.bool false,.bool false,.bool false,.bool false,.bool false,.bool false,.bool false,.bool false,.bool false,.bool false,.bool false,.bool false,.bool false,.bool false,.bool false,.bool false,.bool false,.bool false,.bool false,.bool false,.bool false,.bool false,.bool false,.bool false,.bool false,.bool false,.bool false,.bool false,.bool false,.bool false,.bool false,.bool false,.bool false,.bool false,.bool false,.bool false,.bool false,.bool false,.bool false,.bool false,.bool false,.bool false,.bool false,.bool false,.bool false,.bool false,.bool false,.bool false,.bool false,.bool false,.bool false,.bool false,.bool false,.bool false,.bool false,.bool false,.bool false,.bool false,.bool false,.bool false,.bool false,.bool false,.bool false,.bool false,.bool false,.bool false,.bool false,.bool false,.bool false,.bool false,.bool false,.bool false,.bool false,.bool false,.bool false,.bool false,.bool false,.bool false,.bool false,.bool false,.bool false,.bool false,.bool false,.bool false,.bool false,.bool false,.bool false,.bool false,.bool false,.bool false,.bool false,.bool false,.bool false,.bool false,.bool false,.bool false,.bool false,.bool false,.bool false,.bool false,.bool false,.bool false,.bool false,.bool false,.bool false,.bool false,.bool false,.bool false,.bool false,.bool false,.bool false,.bool false,.bool false,.bool false,.bool false,.bool false,.bool false,.bool false,.bool false,.bool false,.bool false,.bool false,.bool false,.bool false,.bool false,.bool false,.bool false,.bool false,.bool false,.bool false,.bool false,.bool false,.bool false,.bool false,.bool false,.bool false,.bool false,.bool false,.bool false,.bool false,.bool false,.bool false,.bool false,.bool false,.bool false,.bool false,.bool false,.bool false,.bool false,.bool false,.bool false,.bool false,.bool false,.bool false,.bool false,.bool false,.bool false,.bool false,.bool false],true⟩
def ti190 : TI:=⟨.arr 256 4,256,256,.agg #[.bool false,.bool false,.bool false,.bool false,.bool false,.bool false,.bool false,.bool false,.bool false,.bool false,.bool false,.bool false,.bool false,.bool false,.bool false,.bool false,.bool false,.bool false,.bool false,.bool false,.bool false,.bool false,.bool false,.bool false,.bool false,.bool false,.bool false,.bool false,.bool false,.bool false,.bool false,.bool false,.bool false,.bool false,.bool false,.bool false,.bool false,.bool false,.bool false,.bool false,.bool false,.bool false,.bool false,.bool false,.bool false,.bool false,.bool false,.bool false,.bool false,.bool false,.bool false,.bool false,.bool false,.bool false,.bool false,.bool false,.bool false,.bool false,.bool false,.bool false,.bool false,.bool false,.bool false,.bool false,.bool false,.bool false,.bool false,.bool false,.bool false,.bool false,.bool false,.bool false,.bool false,.bool false,.bool false,.bool false,.bool false,.bool false,.bool false,.bool false,.bool false,.bool false,.bool false,.bool false,.bool false,.bool false,.bool false,.bool false,.bool false,.bool false,.bool false,.bool false,.bool false,.bool false,.bool false,.bool false,.bool false,.bool false,.bool false,.bool false,.bool false,.bool false,.bool false,.bool false,.bool false,.bool false,.bool false,.bool false,.bool false,.bool false,.bool false,.bool false,.bool false,.bool false,.bool false,.bool false,.bool false,.bool false,.bool false,.bool false,.bool false,.bool false,.bool false,.bool false,.bool false,.bool false,.bool false,.bool false,.bool false,.bool false,.bool false,.bool false,.bool false,.bool false,.bool false,.bool false,.bool false,.bool false,.bool false,.bool false,.bool false,.bool false,.bool false,.bool false,.bool false,.bool false,.bool false,.bool false,.bool false,.bool false,.bool false,.bool false,.bool false,.bool false,.bool false,.bool false,.bool false,.bool false,.bool false,.bool false,.bool false,.bool false,.bool false,.bool false,.bool false,.bool false,.bool false,.bool false,.bool false,.bool false,.bool false,.bool false,.bool false,.bool false,.bool false,.bool false,.bool false,.bool false,.bool false,.bool false,.bool false,.bool false,.bool false,.bool false,.bool false,.bool false,.bool false,.bool false,.bool false,.bool false,.bool false,.bool false,.bool false,.bool false,.bool false,.bool false,.bool false,.bool false,.bool false,.bool false,.bool false,.bool false,.bool false,.bool false,.bool false,.bool false,.bool false,.bool false,.bool false,.bool false,.bool false,.bool false,.bool false,.bool false,.bool false,.bool false,.bool false,.bool false,.bool false,.bool false,.bool false,.bool false,.bool false,.bool false,.bool false,.bool false,.bool false,.bool false,.bool false,.bool false,.bool false,.bool false,.bool false,.bool false,.bool false,.bool false,.bool false,.bool false,.bool false,.bool false,.bool false,.bool false,.bool false,.bool false,.bool false,.bool false,.bool false,.bool false,.bool false,.bool false,.bool false,.bool false,.bool false,.bool false,.bool false,.bool false],true⟩
def ti191 : TI:=⟨.other,1,0,.tuple #[.agg #[.bool false,.bool false,.bool false,.bool false,.bool false,.bool false,.bool false,.bool false,.bool false,.bool false,.bool false,.bool false,.bool false,.bool false,.bool false,.bool false,.bool false,.bool false,.bool false,.bool false,.bool false,.bool false,.bool false,.bool false,.bool false,.bool false,.bool false,.bool false,.bool false,.bool false,.bool false,.bool false,.bool false,.bool false,.bool false,.bool false,.bool false,.bool false,.bool false,.bool false,.bool false,.bool false,.bool false,.bool false,.bool false,.bool false,.bool false,.bool false,.bool false,.bool false,.bool false,.bool false,.bool false,.bool false,.bool false,.bool false,.bool false,.bool false,.bool false,.bool false,.bool false,.bool false,.bool false,.bool false,.bool false,.bool false,.bool false,.bool false,.bool false,.bool false,.bool false,.bool false,.bool false,.bool false,.bool false,.bool false,.bool false,.bool false,.bool false,.bool false,.bool false,.bool false,.bool false,.bool false,.bool false,.bool false,.bool false,.bool false,.bool false,.bool false,.bool false,.bool false,.bool false,.bool false,.bool false,.bool false,.bool false,.bool false,.bool false,.bool false,.bool false,.bool false,.bool false,.bool false,.bool false,.bool false,.bool false,.bool false,.bool false,.bool false,.bool false,.bool false,.bool false,.bool false,.bool false,.bool false,.bool false,.bool false,.bool false,.bool false,.bool false,.bool false,.bool false,.bool false,.bool false,.bool false,.bool false,.bool false,.bool false,.bool false,.bool false,.bool false,.bool false,.bool false,.bool false,.bool false,.bool false,.bool false,.bool false,.bool false,.bool false,.bool false,.bool false,.bool false,.bool false,.bool false,.bool false,.bool false,.bool false,.bool false,.bool false,.bool false,.bool false,.bool false,.bool false,.bool false,.bool false,.bool false,.bool false,.bool false,.bool false,.bool false,.bool false,.bool false,.bool false,.bool false,.bool false,.bool false,.bool false,.bool false,.bool false,.bool false,.bool false,.bool false,.bool false,.bool false,.bool false,.bool false,.bool false,.bool false,.bool false,.bool false,.bool false,.bool false,.bool false,.bool false,.bool false,.bool false,.bool false,.bool false,.bool false,.bool false,.bool false,.bool false,.bool false,.bool false,.bool false,.bool false,.bool false,.bool false,.bool false,.bool false,.bool false,.bool false,.bool false,.bool false,.bool false,.bool false,.bool false,.bool false,.bool false,.bool false,.bool false,.bool false,.bool false,.bool false,.bool false,.bool false,.bool false,.bool false,.bool false,.bool false,.bool false,.bool false,.bool false,.bool false,.bool false,.bool false,.bool false,.bool false,.bool false,.bool false,.bool false,.bool false,.bool false,.bool false,.bool false,.bool false,.bool false,.bool false,.bool false,.bool false,.bool false,.bool false,.bool false,.bool false,.bool false,.bool false,.bool false,.bool false,.bool false,.bool false,.bool false,.bool false,.bool false,.bool false],.bool false],false⟩
def ti192 : TI:=⟨.func,1,8,.nilFunc,false⟩
def ti194 : TI:=⟨.ptr 190,1,8,.pointer none,false⟩
def ti205 : TI:=⟨.arr 8 5,8,8,.agg #[.int .u8 0,.int .u8 0,.int .u8 0,.int .u8 0,.int .u8 0,.int .u8 0,.int .u8 0,.int .u8 0],true⟩
def ti206 : TI:=⟨.int .u64,1,8,.int .u64 0,false⟩
def ti207 : TI:=⟨.func,1,8,.nilFunc,false⟩
def ti209 : TI:=⟨.func,1,8,.nilFunc,false⟩
def ti213 : TI:=⟨.struct [(0,51),(1,51)],2,48,.agg #[.slice none 0 0,.slice none 0 0],true⟩
def ti220 : TI:=⟨.ptr 63,1,8,.pointer none,false⟩
def ti224 : TI:=⟨.func,1,8,.nilFunc,false⟩
def ti225 : TI:=⟨.other,1,8,.pointer none,false⟩
def ti239 : TI:=⟨.func,1,8,.nilFunc,false⟩
def ti240 : TI:=⟨.other,1,0,.tuple #[.string ⟨#[]⟩,.bool false],false⟩
def ti245 : TI:=⟨.ptr 5,1,8,.pointer none,false⟩
def ti254 : TI:=⟨.func,1,8,.nilFunc,false⟩
def ti255 : TI:=⟨.struct [(0,9),(1,254),(2,207)],3,32,.agg #[.string ⟨#[]⟩,.nilFunc,.nilFunc],true⟩
def ti256 : TI:=⟨.struct [(0,9),(1,254),(2,207)],3,32,.agg #[.string ⟨#[]⟩,.nilFunc,.nilFunc],true⟩
def ti261 : TI:=⟨.ptr 265,1,8,.pointer none,false⟩
def ti265 : TI:=⟨.struct [(0,57)],17,200,.agg #[.string ⟨#[]⟩,.int .i64 0,.int .i64 0,.int .i64 0,.int .i64 0,.int .i64 0,.slice none 0 0,.int .i64 0,.bool false,.int .i64 0,.bool false,.int .i64 0,.string ⟨#[]⟩,.int .i64 0,.int .i64 0,.slice none 0 0,.slice none 0 0],true⟩
def ti286 : TI:=⟨.int .i64,1,8,.int .i64 0,false⟩
def ti287 : TI:=⟨.other,1,0,.tuple #[.int .i64 0,.int .i64 0],false⟩
def ti294 : TI:=⟨.int .u64,1,8,.int .u64 0,false⟩
def ti307 : TI:=⟨.ptr 3,1,8,.pointer none,false⟩
def ti315 : TI:=⟨.arr 256 5,256,256,.agg #[.int .u8 0,.int .u8 0,.int .u8 0,.int .u8 0,.int .u8 0,.int .u8 0,.int .u8 0,.int .u8 0,.int .u8 0,.int .u8 0,.int .u8 0,.int .u8 0,.int .u8 0,.int .u8 0,.int .u8 0,.int .u8 0,.int .u8 0,.int .u8 0,.int .u8 0,.int .u8 0,.int .u8 0,.int .u8 0,.int .u8 0,.int .u8 0,.int .u8 0,.int .u8 0,.int .u8 0,.int .u8 0,.int .u8 0,.int .u8 0,.int .u8 0,.int .u8 0,.int .u8 0,.int .u8 0,.int .u8 0,.int .u8 0,.int .u8 0,.int .u8 0,.int .u8 0,.int .u8 0,.int .u8 0,.int .u8 0,.int .u8 0,.int .u8 0,.int .u8 0,.int .u8 0,.int .u8 0,.int .u8 0,.int .u8 0,.int .u8 0,.int .u8 0,.int .u8 0,.int .u8 0,.int .u8 0,.int .u8 0,.int .u8 0,.int .u8 0,.int .u8 0,.int .u8 0,.int .u8 0,.int .u8 0,.int .u8 0,.int .u8 0,.int .u8 0,.int .u8 0,.int .u8 0,.int .u8 0,.int .u8 0,.int .u8 0,.int .u8 0,.int .u8 0,.int .u8 0,.int .u8 0,.int .u8 0,.int .u8 0,.int .u8 0,.int .u8 0,.int .u8 0,.int .u8 0,.int .u8 0,.int .u8 0,.int .u8 0,.int .u8 0,.int .u8 0,.int .u8 0,.int .u8 0,.int .u8 0,.int .u8 0,.int .u8 0,.int .u8 0,.int .u8 0,.int .u8 0,.int .u8 0,.int .u8 0,.int .u8 0,.int .u8 0,.int .u8 0,.int .u8 0,.int .u8 0,.int .u8 0,.int .u8 0,.int .u8 0,.int .u8 0,.int .u8 0,.int .u8 0,.int .u8 0,.int .u8 0,.int .u8 0,.int .u8 0,.int .u8 0,.int .u8 0,.int .u8 0,.int .u8 0,.int .u8 0,.int .u8 0,.int .u8 0,.int .u8 0,.int .u8 0,.int .u8 0,.int .u8 0,.int .u8 0,.int .u8 0,.int .u8 0,.int .u8 0,.int .u8 0,.int .u8 0,.int .u8 0,.int .u8 0,.int .u8 0,.int .u8 0,.int .u8 0,.int .u8 0,.int .u8 0,.int .u8 0,.int .u8 0,.int .u8 0,.int .u8 0,.int .u8 0,.int .u8 0,.int .u8 0,.int .u8 0,.int .u8 0,.int .u8 0,.int .u8 0,.int .u8 0,.int .u8 0,.int .u8 0,.int .u8 0,.int .u8 0,.int .u8 0,.int .u8 0,.int .u8 0,.int .u8 0,.int .u8 0,.int .u8 0,.int .u8 0,.int .u8 0,.int .u8 0,.int .u8 0,.int .u8 0,.int .u8 0,.int .u8 0,.int .u8 0,.int .u8 0,.int .u8 0,.int .u8 0,.int .u8 0,.int .u8 0,.int .u8 0,.int .u8 0,.int .u8 0,.int .u8 0,.int .u8 0,.int .u8 0,.int .u8 0,.int .u8 0,.int .u8 0,.int .u8 0,.int .u8 0,.int .u8 0,.int .u8 0,.int .u8 0,.int .u8 0,.int .u8 0,.int .u8 0,.int .u8 0,.int .u8 0,.int .u8 0,.int .u8 0,.int .u8 0,.int .u8 0,.int .u8 0,.int .u8 0,.int .u8 0,.int .u8 0,.int .u8 0,.int .u8 0,.int .u8 0,.int .u8 0,.int .u8 0,.int .u8 0,.int .u8 0,.int .u8 0,.int .u8 0,.int .u8 0,.int .u8 0,.int .u8 0,.int .u8 0,.int .u8 0,.int .u8 0,.int .u8 0,.int .u8 0,.int .u8 0,.int .u8 0,.int .u8 0,.int .u8 0,.int .u8 0,.int .u8 0,.int .u8 0,.int .u8 0,.int .u8 0,.int .u8 0,.int .u8 0,.int .u8 0,.int .u8 0,.int .u8 0,.int .u8 0,.int .u8 0,.int .u8 0,.int .u8 0,.int .u8 0,.int .u8 0,.int .u8 0,.int .u8 0,.int .u8 0,.int .u8 0,.int .u8 0,.int .u8 0,.int .u8 0,.int .u8 0,.int .u8 0,.int .u8 0,.int .u8 0,.int .u8 0,.int .u8 0,.int .u8 0,.int .u8 0,.int .u8 0,.int .u8 0,.int .u8 0,.int .u8 0,.int .u8 0,.int .u8 0,.int .u8 0,.int .u8 0,.int .u8 0],true⟩
def ti317 : TI:=⟨.struct [(0,5),(1,5)],2,2,.agg #[.int .u8 0,.int .u8 0],true⟩
def ti318 : TI:=⟨.arr 16 317,32,32,.agg #[.int .u8 0,.int .u8 0,.int .u8 0,.int .u8 0,.int .u8 0,.int .u8 0,.int .u8 0,.int .u8 0,.int .u8 0,.int .u8 0,.int .u8 0,.int .u8 0,.int .u8 0,.int .u8 0,.int .u8 0,.int .u8 0,.int .u8 0,.int .u8 0,.int .u8 0,.int .u8 0,.int .u8 0,.int .u8 0,.int .u8 0,.int .u8 0,.int .u8 0,.int .u8 0,.int .u8 0,.int .u8 0,.int .u8 0,.int .u8 0,.int .u8 0,.int .u8 0],true⟩
def ti323 : TI:=⟨.func,1,8,.nilFunc,false⟩
def ti326 : TI:=⟨.ptr 105,1,8,.pointer none,false⟩
def ti333 : TI:=⟨.int .u64,1,8,.int .u64 0,false⟩
def ti347 : TI:=⟨.arr 40 4,40,40,.agg #[.bool false,.bool false,.bool false,.bool false,.bool false,.bool false,.bool false,.bool false,.bool false,.bool false,.bool false,.bool false,.bool false,.bool false,.bool false,.bool false,.bool false,.bool false,.bool false,.bool false,.bool false,.bool false,.bool false,.bool false,.bool false,.bool false,.bool false,.bool false,.bool false,.bool false,.bool false,.bool false,.bool false,.bool false,.bool false,.bool false,.bool false,.bool false,.bool false,.bool false],true⟩
def ti348 : TI:=⟨.ptr 383,1,8,.pointer none,false⟩
def ti353 : TI:=⟨.ptr 99,1,8,.pointer none,false⟩
def ti355 : TI:=⟨.ptr 97,1,8,.pointer none,false⟩
def ti359 : TI:=⟨.other,1,0,.tuple #[.int .u32 0,.int .u32 0],false⟩
def ti361 : TI:=⟨.other,1,0,.tuple #[.int .u64 0,.int .u64 0],false⟩
def ti363 : TI:=⟨.ptr 333,1,8,.pointer none,false⟩
def ti364 : TI:=⟨.other,1,0,.tuple #[.int .i64 0,.int .i64 0],false⟩
def ti378 : TI:=⟨.func,1,8,.nilFunc,false⟩
def ti379 : TI:=⟨.slice 386,1,24,.slice none 0 0,false⟩
def ti381 : TI:=⟨.struct [(0,379),(1,378)],2,32,.agg #[.slice none 0 0,.nilFunc],true⟩
def ti383 : TI:=⟨.struct [(0,381)],2,32,.agg #[.slice none 0 0,.nilFunc],true⟩
def ti386 : TI:=⟨.struct [(0,3),(1,3)],2,16,.agg #[.int .i64 0,.int .i64 0],true⟩
def ti389 : TI:=⟨.ptr 103,1,8,.pointer none,false⟩
def ti392 : TI:=⟨.arr 24 5,24,24,.agg #[.int .u8 0,.int .u8 0,.int .u8 0,.int .u8 0,.int .u8 0,.int .u8 0,.int .u8 0,.int .u8 0,.int .u8 0,.int .u8 0,.int .u8 0,.int .u8 0,.int .u8 0,.int .u8 0,.int .u8 0,.int .u8 0,.int .u8 0,.int .u8 0,.int .u8 0,.int .u8 0,.int .u8 0,.int .u8 0,.int .u8 0,.int .u8 0],true⟩
def ti394 : TI:=⟨.other,1,0,.tuple #[.slice none 0 0,.string ⟨#[]⟩],false⟩
def ti408 : TI:=⟨.ptr 381,1,8,.pointer none,false⟩
def ti409 : TI:=⟨.ptr 101,1,8,.pointer none,false⟩
def ti411 : TI:=⟨.ptr 21,1,8,.pointer none,false⟩
def ti416 : TI:=⟨.arr 20 294,20,160,.agg #[.int .u64 0,.int .u64 0,.int .u64 0,.int .u64 0,.int .u64 0,.int .u64 0,.int .u64 0,.int .u64 0,.int .u64 0,.int .u64 0,.int .u64 0,.int .u64 0,.int .u64 0,.int .u64 0,.int .u64 0,.int .u64 0,.int .u64 0,.int .u64 0,.int .u64 0,.int .u64 0],true⟩
def ti417 : TI:=⟨.arr 65 5,65,65,.agg #[.int .u8 0,.int .u8 0,.int .u8 0,.int .u8 0,.int .u8 0,.int .u8 0,.int .u8 0,.int .u8 0,.int .u8 0,.int .u8 0,.int .u8 0,.int .u8 0,.int .u8 0,.int .u8 0,.int .u8 0,.int .u8 0,.int .u8 0,.int .u8 0,.int .u8 0,.int .u8 0,.int .u8 0,.int .u8 0,.int .u8 0,.int .u8 0,.int .u8 0,.int .u8 0,.int .u8 0,.int .u8 0,.int .u8 0,.int .u8 0,.int .u8 0,.int .u8 0,.int .u8 0,.int .u8 0,.int .u8 0,.int .u8 0,.int .u8 0,.int .u8 0,.int .u8 0,.int .u8 0,.int .u8 0,.int .u8 0,.int .u8 0,.int .u8 0,.int .u8 0,.int .u8 0,.int .u8 0,.int .u8 0,.int .u8 0,.int .u8 0,.int .u8 0,.int .u8 0,.int .u8 0,.int .u8 0,.int .u8 0,.int .u8 0,.int .u8 0,.int .u8 0,.int .u8 0,.int .u8 0,.int .u8 0,.int .u8 0,.int .u8 0,.int .u8 0,.int .u8 0],true⟩
def ti429 : TI:=⟨.arr 32 5,32,32,.agg #[.int .u8 0,.int .u8 0,.int .u8 0,.int .u8 0,.int .u8 0,.int .u8 0,.int .u8 0,.int .u8 0,.int .u8 0,.int .u8 0,.int .u8 0,.int .u8 0,.int .u8 0,.int .u8 0,.int .u8 0,.int .u8 0,.int .u8 0,.int .u8 0,.int .u8 0,.int .u8 0,.int .u8 0,.int .u8 0,.int .u8 0,.int .u8 0,.int .u8 0,.int .u8 0,.int .u8 0,.int .u8 0,.int .u8 0,.int .u8 0,.int .u8 0,.int .u8 0],true⟩
def ti430 : TI:=⟨.arr 64 5,64,64,.agg #[.int .u8 0,.int .u8 0,.int .u8 0,.int .u8 0,.int .u8 0,.int .u8 0,.int .u8 0,.int .u8 0,.int .u8 0,.int .u8 0,.int .u8 0,.int .u8 0,.int .u8 0,.int .u8 0,.int .u8 0,.int .u8 0,.int .u8 0,.int .u8 0,.int .u8 0,.int .u8 0,.int .u8 0,.int .u8 0,.int .u8 0,.int .u8 0,.int .u8 0,.int .u8 0,.int .u8 0,.int .u8 0,.int .u8 0,.int .u8 0,.int .u8 0,.int .u8 0,.int .u8 0,.int .u8 0,.int .u8 0,.int .u8 0,.int .u8 0,.int .u8 0,.int .u8 0,.int .u8 0,.int .u8 0,.int .u8 0,.int .u8 0,.int .u8 0,.int .u8 0,.int .u8 0,.int .u8 0,.int .u8 0,.int .u8 0,.int .u8 0,.int .u8 0,.int .u8 0,.int .u8 0,.int .u8 0,.int .u8 0,.int .u8 0,.int .u8 0,.int .u8 0,.int .u8 0,.int .u8 0,.int .u8 0,.int .u8 0,.int .u8 0,.int .u8 0],true⟩
def ti441 : TI:=⟨.struct [(0,17),(1,17),(2,17),(3,9)],4,40,.agg #[.pointer none,.pointer none,.pointer none,.string ⟨#[]⟩],false⟩
def ti442 : TI:=⟨.arr 0 16,0,0,.agg #[],true⟩
def ti444 : TI:=⟨.struct [(0,442)],0,0,.agg #[],false⟩
def ti445 : TI:=⟨.int .u8,1,1,.int .u8 0,false⟩
def ti446 : TI:=⟨.int .u8,1,1,.int .u8 0,false⟩
def ti447 : TI:=⟨.func,1,8,.nilFunc,false⟩
def ti448 : TI:=⟨.int .i32,1,4,.int .i32 0,false⟩
def ti449 : TI:=⟨.int .i32,1,4,.int .i32 0,false⟩
def ti451 : TI:=⟨.struct [(0,12),(1,12),(2,97),(3,445),(4,5),(5,5),(6,446),(7,447),(8,245),(9,448),(10,449)],11,48,.agg #[.int .u64 0,.int .u64 0,.int .u32 0,.int .u8 0,.int .u8 0,.int .u8 0,.int .u8 0,.nilFunc,.pointer none,.int .i32 0,.int .i32 0],false⟩
def tyTree : TT:=(.node (.node (.node (.node (.node (.node (.node (.node .leaf 0 ti0 .leaf) 1 ti1 (.node .leaf 2 ti2 .leaf)) 3 ti3 (.node (.node .leaf 4 ti4 .leaf) 5 ti5 .leaf)) 6 ti6 (.node (.node (.node .leaf 7 ti7 .leaf) 8 ti8 (.node .leaf 9 ti9 .leaf)) 10 ti10 (.node (.node .leaf 11 ti11 .leaf) 12 ti12 .leaf))) 13 ti13 (.node (.node (.node (.node .leaf 14 ti14 .leaf) 15 ti15 (.node .leaf 16 ti16 .leaf)) 17 ti17 (.node (.node .leaf 18 ti18 .leaf) 19 ti19 .leaf)) 20 ti20 (.node (.node (.node .leaf 21 ti21 .leaf) 22 ti22 .leaf) 23 ti23 (.node (.node .leaf 24 ti24 .leaf) 25 ti25 .leaf)))) 26 ti26 (.node (.node (.node (.node (.node .leaf 27 ti27 .leaf) 28 ti28 (.node .leaf 29 ti29 .leaf)) 30 ti30 (.node (.node .leaf 31 ti31 .leaf) 32 ti32 .leaf)) 33 ti33 (.node (.node (.node .leaf 34 ti34 .leaf) 35 ti35 (.node .leaf 36 ti36 .leaf)) 37 ti37 (.node (.node .leaf 38 ti38 .leaf) 40 ti40 .leaf))) 41 ti41 (.node (.node (.node (.node .leaf 42 ti42 .leaf) 43 ti43 (.node .leaf 44 ti44 .leaf)) 45 ti45 (.node (.node .leaf 46 ti46 .leaf) 47 ti47 .leaf)) 48 ti48 (.node (.node (.node .leaf 49 ti49 .leaf) 50 ti50 .leaf) 51 ti51 (.node (.node .leaf 52 ti52 .leaf) 53 ti53 .leaf))))) 54 ti54 (.node (.node (.node (.node (.node (.node .leaf 55 ti55 .leaf) 56 ti56 (.node .leaf 57 ti57 .leaf)) 58 ti58 (.node (.node .leaf 59 ti59 .leaf) 61 ti61 .leaf)) 63 ti63 (.node (.node (.node .leaf 64 ti64 .leaf) 65 ti65 (.node .leaf 66 ti66 .leaf)) 67 ti67 (.node (.node .leaf 68 ti68 .leaf) 69 ti69 .leaf))) 70 ti70 (.node (.node (.node (.node .leaf 71 ti71 .leaf) 72 ti72 (.node .leaf 73 ti73 .leaf)) 74 ti74 (.node (.node .leaf 75 ti75 .leaf) 76 ti76 .leaf)) 77 ti77 (.node (.node (.node .leaf 78 ti78 .leaf) 79 ti79 .leaf) 80 ti80 (.node (.node .leaf 81 ti81 .leaf) 82 ti82 .leaf)))) 83 ti83 (.node (.node (.node (.node (.node .leaf 84 ti84 .leaf) 85 ti85 (.node .leaf 86 ti86 .leaf)) 87 ti87 (.node (.node .leaf 88 ti88 .leaf) 89 ti89 .leaf)) 90 ti90 (.node (.node (.node .leaf 91 ti91 .leaf) 92 ti92 .leaf) 93 ti93 (.node (.node .leaf 95 ti95 .leaf) 96 ti96 .leaf))) 97 ti97 (.node (.node (.node (.node .leaf 98 ti98 .leaf) 99 ti99 (.node .leaf 100 ti100 .leaf)) 101 ti101 (.node (.node .leaf 102 ti102 .leaf) 103 ti103 .leaf)) 104 ti104 (.node (.node (.node .leaf 105 ti105 .leaf) 106 ti106 .leaf) 107 ti107 (.node (.node .leaf 108 ti108 .leaf) 109 ti109 .leaf)))))) 110 ti110 (.node (.node (.node (.node (.node (.node (.node .leaf 111 ti111 .leaf) 112 ti112 (.node .leaf 113 ti113 .leaf)) 114 ti114 (.node (.node .leaf 115 ti115 .leaf) 116 ti116 .leaf)) 117 ti117 (.node (.node (.node .leaf 118 ti118 .leaf) 119 ti119 (.node .leaf 120 ti120 .leaf)) 121 ti121 (.node (.node .leaf 122 ti122 .leaf) 123 ti123 .leaf))) 125 ti125 (.node (.node (.node (.node .leaf 126 ti126 .leaf) 127 ti127 (.node .leaf 128 ti128 .leaf)) 129 ti129 (.node (.node .leaf 130 ti130 .leaf) 132 ti132 .leaf)) 133 ti133 (.node (.node (.node .leaf 134 ti134 .leaf) 135 ti135 .leaf) 137 ti137 (.node (.node .leaf 139 ti139 .leaf) 141 ti141 .leaf)))) 145 ti145 (.node (.node (.node (.node (.node .leaf 148 ti148 .leaf) 149 ti149 (.node .leaf 150 ti150 .leaf)) 157 ti157 (.node (.node .leaf 158 ti158 .leaf) 160 ti160 .leaf)) 166 ti166 (.node (.node (.node .leaf 167 ti167 .leaf) 168 ti168 .leaf) 169 ti169 (.node (.node .leaf 174 ti174 .leaf) 176 ti176 .leaf))) 178 ti178 (.node (.node (.node (.node .leaf 180 ti180 .leaf) 186 ti186 (.node .leaf 189 ti189 .leaf)) 190 ti190 (.node (.node .leaf 191 ti191 .leaf) 192 ti192 .leaf)) 194 ti194 (.node (.node (.node .leaf 205 ti205 .leaf) 206 ti206 .leaf) 207 ti207 (.node (.node .leaf 209 ti209 .leaf) 213 ti213 .leaf))))) 220 ti220 (.node (.node (.node (.node (.node (.node .leaf 224 ti224 .leaf) 225 ti225 (.node .leaf 239 ti239 .leaf)) 240 ti240 (.node (.node .leaf 245 ti245 .leaf) 254 ti254 .leaf)) 255 ti255 (.node (.node (.node .leaf 256 ti256 .leaf) 261 ti261 (.node .leaf 265 ti265 .leaf)) 286 ti286 (.node (.node .leaf 287 ti287 .leaf) 294 ti294 .leaf))) 307 ti307 (.node (.node (.node (.node .leaf 315 ti315 .leaf) 317 ti317 (.node .leaf 318 ti318 .leaf)) 323 ti323 (.node (.node .leaf 326 ti326 .leaf) 333 ti333 .leaf)) 347 ti347 (.node (.node (.node .leaf 348 ti348 .leaf) 353 ti353 .leaf) 355 ti355 (.node (.node .leaf 359 ti359 .leaf) 361 ti361 .leaf)))) 363 ti363 (.node (.node (.node (.node (.node .leaf 364 ti364 .leaf) 378 ti378 (.node .leaf 379 ti379 .leaf)) 381 ti381 (.node (.node .leaf 383 ti383 .leaf) 386 ti386 .leaf)) 389 ti389 (.node (.node (.node .leaf 392 ti392 .leaf) 394 ti394 .leaf) 408 ti408 (.node (.node .leaf 409 ti409 .leaf) 411 ti411 .leaf))) 416 ti416 (.node (.node (.node (.node .leaf 417 ti417 .leaf) 429 ti429 (.node .leaf 430 ti430 .leaf)) 441 ti441 (.node (.node .leaf 442 ti442 .leaf) 444 ti444 .leaf)) 445 ti445 (.node (.node (.node .leaf 446 ti446 .leaf) 447 ti447 .leaf) 448 ti448 (.node (.node .leaf 449 ti449 .leaf) 451 ti451 .leaf)))))))
def tyList : List (Nat × TI):=[(0,ti0),(1,ti1),(2,ti2),(3,ti3),(4,ti4),(5,ti5),(6,ti6),(7,ti7),(8,ti8),(9,ti9),(10,ti10),(11,ti11),(12,ti12),(13,ti13),(14,ti14),(15,ti15),(16,ti16),(17,ti17),(18,ti18),(19,ti19),(20,ti20),(21,ti21),(22,ti22),(23,ti23),(24,ti24),(25,ti25),(26,ti26),(27,ti27),(28,ti28),(29,ti29),(30,ti30),(31,ti31),(32,ti32),(33,ti33),(34,ti34),(35,ti35),(36,ti36),(37,ti37),(38,ti38),(40,ti40),(41,ti41),(42,ti42),(43,ti43),(44,ti44),(45,ti45),(46,ti46),(47,ti47),(48,ti48),(49,ti49),(50,ti50),(51,ti51),(52,ti52),(53,ti53),(54,ti54),(55,ti55),(56,ti56),(57,ti57),(58,ti58),(59,ti59),(61,ti61),(63,ti63),(64,ti64),(65,ti65),(66,ti66),(67,ti67),(68,ti68),(69,ti69),(70,ti70),(71,ti71),(72,ti72),(73,ti73),(74,ti74),(75,ti75),(76,ti76),(77,ti77),(78,ti78),(79,ti79),(80,ti80),(81,ti81),(82,ti82),(83,ti83),(84,ti84),(85,ti85),(86,ti86),(87,ti87),(88,ti88),(89,ti89),(90,ti90),(91,ti91),(92,ti92),(93,ti93),(95,ti95),(96,ti96),(97,ti97),(98,ti98),(99,ti99),(100,ti100),(101,ti101),(102,ti102),(103,ti103),(104,ti104),(105,ti105),(106,ti106),(107,ti107),(108,ti108),(109,ti109),(110,ti110),(111,ti111),(112,ti112),(113,ti113),(114,ti114),(115,ti115),(116,ti116),(117,ti117),(118,ti118),(119,ti119),(120,ti120),(121,ti121),(122,ti122),(123,ti123),(125,ti125),(126,ti126),(127,ti127),(128,ti128),(129,ti129),(130,ti130),(132,ti132),(133,ti133),(134,ti134),(135,ti135),(137,ti137),(139,ti139),(141,ti141),(145,ti145),(148,ti148),(149,ti149),(150,ti150),(157,ti157),(158,ti158),(160,ti160),(166,ti166),(167,ti167),(168,ti168),(169,ti169),(174,ti174),(176,ti176),(178,ti178),(180,ti180),(186,ti186),(189,ti189),(190,ti190),(191,ti191),(192,ti192),(194,ti194),(205,ti205),(206,ti206),(207,ti207),(209,ti209),(213,ti213),(220,ti220),(224,ti224),(225,ti225),(239,ti239),(240,ti240),(245,ti245),(254,ti254),(255,ti255),(256,ti256),(261,ti261),(265,ti265),(286,ti286),(287,ti287),(294,ti294),(307,ti307),(315,ti315),(317,ti317),(318,ti318),(323,ti323),(326,ti326),(333,ti333),(347,ti347),(348,ti348),(353,ti353),(355,ti355),(359,ti359),(361,ti361),(363,ti363),(364,ti364),(378,ti378),(379,ti379),(381,ti381),(383,ti383),(386,ti386),(389,ti389),(392,ti392),(394,ti394),(408,ti408),(409,ti409),(411,ti411),(416,ti416),(417,ti417),(429,ti429),(430,ti430),(441,ti441),(442,ti442),(444,ti444),(445,ti445),(446,ti446),(447,ti447),(448,ti448),(449,ti449),(451,ti451)]
theorem tt_mem : ∀ {t : TT} {n : Nat} {ti : TI},t.get n = some ti → (n,ti) ∈ t.list
 | .leaf,_,_,h=>by cases h
 | .node a i u b,n,ti,h=>by
  simp only [TT.get] at h
  simp only [TT.list,List.mem_append,List.mem_cons]
  split at h
  ·rename_i hb; cases h; rw [beq_true hb]; exact .inr (.inl rfl)
  ·split at h
   ·exact .inl (tt_mem h)
   ·exact .inr (.inr (tt_mem h))
theorem tiOf_all {P : Program} : ∀ {l : List (Nat × TI)},l.map (fun p=>tiOf P p.1) = l.map (fun p=>some p.2) → ∀ p ∈ l,tiOf P p.1 = some p.2
 | [],_,p,hp=>by cases hp
 | q :: l,h,p,hp=>by
  simp only [List.map_cons,List.cons.injEq] at h
  rcases List.mem_cons.1 hp with rfl | hp
  ·exact h.1
  ·exact tiOf_all h.2 p hp
def keyB (n : Nat) : Bool:=Nat.beq n 3 || Nat.beq n 150 || Nat.beq n 9
def bldB (n : Nat) : Bool:=Nat.beq n 84
def rowB (n : Nat) : Bool:=Nat.beq n 86 || Nat.beq n 84
@[reducible] def envF (n : Nat) (wr : Nat → Bool) : Env AF:=⟨tyTree.get,regF,wr,n,keyB,0,fun _ _=>True,true,false,bldB,rowB,false⟩
theorem tyTree_list : tyTree.list = tyList:=by kernel_rfl
theorem tyList_ok : tyList.map (fun p=>tiOf Tryz.prog p.1) = tyList.map (fun p=>some p.2):=by kernel_rfl
theorem keyed3 : Maps.Keyed Tryz.prog 3:=Maps.int_keyed (q:=.i64) (by kernel_rfl)
theorem keyed32 : Maps.Keyed Tryz.prog 150:=Maps.Keyed.of_law (deep_law (m:=2) (by decide) (by kernel_rfl) (by kernel_rfl) (by kernel_rfl))
theorem keyedS : Maps.Keyed Tryz.prog 9:=Maps.string_keyed (by kernel_rfl)
theorem keyB_spec {K : Nat} (h : keyB K = true) : K = 3 ∨ K = 150 ∨ K = 9:=by
 unfold keyB at h
 rw [Bool.or_eq_true,Bool.or_eq_true] at h
 rcases h with (h | h) | h
 ·exact .inl (beq_true h)
 ·exact .inr (.inl (beq_true h))
 ·exact .inr (.inr (beq_true h))
theorem keys_of3 (x : Int) (h : -9223372036854775808 ≤ x ∧ x ≤ 9223372036854775807) : ∃ l,keyOf Tryz.prog 3 (.int .i64 x) = some l:=key_of_int (by kernel_rfl) h
theorem keys_of32 (a b : Int) (h : (-9223372036854775808 ≤ a ∧ a ≤ 9223372036854775807) ∧ (-9223372036854775808 ≤ b ∧ b ≤ 9223372036854775807)) : ∃ l,keyOf Tryz.prog 150 (.agg #[.int .i64 a,.int .i64 b]) = some l:=
 key_of_pair (e:=3) (by kernel_rfl) (by kernel_rfl) (by kernel_rfl) (by kernel_rfl) (by kernel_rfl) (of_decide_eq_true (by kernel_rfl)) h.1 h.2
theorem keys_ofS (s : ByteArray) (h : s.size ≤ maxLen) : ∃ l,keyOf Tryz.prog 9 (.string s) = some l:=⟨_,WideMaps.keyOf_string_mk (by kernel_rfl) h⟩
theorem env_ok (n : Nat) (wr : Nat → Bool) : (envF n wr).Ok Tryz.prog:=⟨fun T ti h=>tiOf_all tyList_ok (T,ti) (tyTree_list ▸ tt_mem h),fun K h=>by
  rcases keyB_spec h with rfl | rfl | rfl
  ·exact keyed3
  ·exact keyed32
  ·exact keyedS,
 fun K h x hx=>by
  rcases keyB_spec h with rfl | rfl | rfl
  ·obtain ⟨l,hl⟩:=keys_of3 x hx
   exact ⟨_,l,rfl,hl⟩
  ·obtain ⟨l,hl⟩:=keys_of32 x.1 x.2 hx
   exact ⟨_,l,rfl,hl⟩
  ·obtain ⟨l,hl⟩:=keys_ofS x hx
   exact ⟨_,l,rfl,hl⟩⟩
def EK.fl : EK → Bool
 | .none=>false
 | .ki=>true
 | .kb=>true
 | .ku=>true
 | .ks=>true
 | .kiii=>true
 | .kii=>true
 | .kiib=>true
 | .kiiii=>true
 | .ksi=>true
 | .kl3=>false
 | .kssb=>true
 | .kp=>true
 | .ksiiiiil3ibibisiil122l125=>false
 | .ksiiiiil3ibibisiil122l125sii=>false
 | .kiiisl9l160=>false
def flF (n : Nat) : Bool:=(kinds n).fl
theorem ek_fl {fl : Nat → Bool} : ∀ (k : EK),k.fl = true → ∀ (x : k.ty) (i : Nat) (s : SV AF),(k.ei.enc x)[i]? = some s → flatS fl s = true
 | .none,h,_,_,_,_=>by cases h
 | .ki,_,x,i,s,h=>by
  match i with
  | 0=>simp [EK.ei,eiki] at h; subst h; rfl
  | i + 1=>simp [EK.ei,eiki] at h
 | .kb,_,x,i,s,h=>by
  match i with
  | 0=>simp [EK.ei,eikb] at h; subst h; rfl
  | i + 1=>simp [EK.ei,eikb] at h
 | .ku,_,x,i,s,h=>by
  match i with
  | 0=>simp [EK.ei,eiku] at h; subst h; rfl
  | i + 1=>simp [EK.ei,eiku] at h
 | .ks,_,x,i,s,h=>by
  match i with
  | 0=>simp [EK.ei,eiks] at h; subst h; rfl
  | i + 1=>simp [EK.ei,eiks] at h
 | .kiii,_,x,i,s,h=>by
  match i with
  | 0=>simp [EK.ei,eikiii] at h; subst h; rfl
  | 1=>simp [EK.ei,eikiii] at h; subst h; rfl
  | 2=>simp [EK.ei,eikiii] at h; subst h; rfl
  | i + 3=>simp [EK.ei,eikiii] at h
 | .kii,_,x,i,s,h=>by
  match i with
  | 0=>simp [EK.ei,eikii] at h; subst h; rfl
  | 1=>simp [EK.ei,eikii] at h; subst h; rfl
  | i + 2=>simp [EK.ei,eikii] at h
 | .kiib,_,x,i,s,h=>by
  match i with
  | 0=>simp [EK.ei,eikiib] at h; subst h; rfl
  | 1=>simp [EK.ei,eikiib] at h; subst h; rfl
  | 2=>simp [EK.ei,eikiib] at h; subst h; rfl
  | i + 3=>simp [EK.ei,eikiib] at h
 | .kiiii,_,x,i,s,h=>by
  match i with
  | 0=>simp [EK.ei,eikiiii] at h; subst h; rfl
  | 1=>simp [EK.ei,eikiiii] at h; subst h; rfl
  | 2=>simp [EK.ei,eikiiii] at h; subst h; rfl
  | 3=>simp [EK.ei,eikiiii] at h; subst h; rfl
  | i + 4=>simp [EK.ei,eikiiii] at h
 | .ksi,_,x,i,s,h=>by
  match i with
  | 0=>simp [EK.ei,eiksi] at h; subst h; rfl
  | 1=>simp [EK.ei,eiksi] at h; subst h; rfl
  | i + 2=>simp [EK.ei,eiksi] at h
 | .kl3,h,_,_,_,_=>by cases h
 | .kssb,_,x,i,s,h=>by
  match i with
  | 0=>simp [EK.ei,eikssb] at h; subst h; rfl
  | 1=>simp [EK.ei,eikssb] at h; subst h; rfl
  | 2=>simp [EK.ei,eikssb] at h; subst h; rfl
  | i + 3=>simp [EK.ei,eikssb] at h
 | .kp,_,x,i,s,h=>by
  match i with
  | 0=>simp [EK.ei,eikp] at h; subst h; rfl
  | i + 1=>simp [EK.ei,eikp] at h
 | .ksiiiiil3ibibisiil122l125,h,_,_,_,_=>by cases h
 | .ksiiiiil3ibibisiil122l125sii,h,_,_,_,_=>by cases h
 | .kiiisl9l160,h,_,_,_,_=>by cases h
theorem flF_ok : FlOk regF flF:=fun T hT x i s h=>ek_fl (kinds T) hT x i s h
theorem mixed : Tryz.prog.follows .mixedOrders = true:=by kernel_rfl
end
end Go.Sx
