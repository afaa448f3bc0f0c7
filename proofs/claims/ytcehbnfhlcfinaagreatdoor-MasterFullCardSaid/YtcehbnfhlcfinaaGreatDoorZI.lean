/- Own texts of the proof, merged: SxY. -/
import Derived.KernelRfl
import Derived.Test.YtcehbnfhlcfinaaGreatDoorZE
set_option linter.unusedVariables false
set_option linter.unusedSimpArgs false
set_option maxHeartbeats 8000000
namespace Go.Sx
open Go Go.Proofs Go.Proofs.YtcehbnfhlcfinaaGreatDoor
def ioA : List Char:=[104,97,114,110,101,115,115].map Char.ofNat
def ioB : List Char:=[52,52,98,51,102,48,54,56,54,53,57,52,100,48,51,52,57,97,56,50,55,56,102,51,52,100,55,50,99,54,49,97,53,50,50,98,97,102,98,57,57,51,50,49,55,49,49,56,49,50,55,102,51,97,99,102,52,49,51,50,98,56,100,99].map Char.ofNat
def ioC : List Char:=[99,117,116].map Char.ofNat
def ioR : List Char:=[97,116,32,104,117,109,112,121,97,114,100,47,104,117,109,112,121,97,114,100,108,97,119,49,57,46,77,97,115,116,101,114,70,117,108,108].map Char.ofNat
def ioS : Char:=Char.ofNat 32
theorem io_eq : Tryz.prog.initOrder.toList = ioA ++ ioS :: (ioB ++ ioS :: (ioC ++ ioS :: ioR)):=by
 have h : Tryz.prog.initOrder = String.ofList (ioA ++ ioS :: (ioB ++ ioS :: (ioC ++ ioS :: ioR))):=by kernel_rfl
 rw [h,String.toList_ofList]
theorem words_word : ∀ {w : List Char},(w.all fun c=>c != ioS) = true → ∀ r,wordsSigns (w ++ ioS :: r) = w :: wordsSigns r
 | [],_,r=>rfl
 | c :: w,h,r=>by
  simp only [List.all_cons,Bool.and_eq_true,bne_iff_ne] at h
  have ih:=words_word h.2 r
  have hc : c ≠ Char.ofNat 32:=h.1
  show wordsSigns (c :: (w ++ ioS :: r)) = _
  rw [wordsSigns,ih]
  exact hc
theorem head_eq : behindMainWord (wordsSigns Tryz.prog.initOrder.toList) = ioC :: wordsSigns ioR:=by
 rw [io_eq,words_word (by kernel_rfl),words_word (by kernel_rfl),words_word (by kernel_rfl)]
 have key : ∀ X,behindMainWord (ioA :: ioB :: X) = X:=fun X=>by
  have h : ((ioA == "harness".toList || ioA == "ownmain".toList) && isSumSigns ioB) = true:=by kernel_rfl
  simp only [behindMainWord,h,if_true]
 exact key _
theorem strip_c : ∀ X,stripLifts liftWords (ioC :: X) = ([],ioC :: X):=fun X=>by
 have h : ∀ os : List String,(os.all fun o=>!(ioC == o.toList)) = true → stripLifts os (ioC :: X) = ([],ioC :: X):=fun os=>by
  induction os with
  | nil=>intro _; rfl
  | cons o os ih=>
   intro h
   simp only [List.all_cons,Bool.and_eq_true,Bool.not_eq_true'] at h
   rw [stripLifts,if_neg (by rw [h.1]; simp),ih h.2]
 exact h _ (by kernel_rfl)
theorem ioC_facts : (ioC == "gc".toList) = false ∧ (ioC == "spec".toList) = false ∧ (ioC == "carried".toList) = false ∧ (ioC == "cut".toList) = true ∧ ioC = "cut".toList:=⟨by kernel_rfl,by kernel_rfl,by kernel_rfl,by kernel_rfl,by kernel_rfl⟩
theorem lays_not : Tryz.prog.laysLater = false:=by kernel_rfl
theorem bears_not : Tryz.prog.bearsReflect = false:=by kernel_rfl
theorem door_ok : Tryz.prog.doorFits [] = true:=by kernel_rfl
theorem may_enter_of {P : Program} {c : List Char} {X : List (List Char)} (h : behindMainWord (wordsSigns P.initOrder.toList) = c :: X) (hs : stripLifts liftWords (c :: X) = ([],c :: X)) (hc : (c == "cut".toList) = true)
  (hl : P.laysLater = false) (hb : P.bearsReflect = false) (hd : P.doorFits [] = true) : P.mayEnter = true:=by
 unfold Program.mayEnter
 rw [h,hl,hb]
 dsimp only
 rw [hs]
 have e1 : ((c :: X).head? == some "cut".toList) = true:=hc
 dsimp only
 rw [e1,hd,Bool.or_eq_true]
 exact .inr (by simp only [List.contains_nil,Bool.not_false,Bool.and_true,Bool.or_true])
theorem lifts_final_of {P : Program} {c : List Char} {X : List (List Char)} (h : behindMainWord (wordsSigns P.initOrder.toList) = c :: X) (hs : stripLifts liftWords (c :: X) = ([],c :: X)) (hc : (c == "carried".toList) = false) : P.liftsFinal = false:=by
 unfold Program.liftsFinal Program.headLifts
 rw [h,hs]
 have e1 : ((c :: X).head? == some "carried".toList) = false:=hc
 dsimp only
 rw [e1]
 split <;> rfl
theorem made_cut_of {P : Program} {c : List Char} {X : List (List Char)} (h : behindMainWord (wordsSigns P.initOrder.toList) = c :: X) (h1 : (c == "gc".toList) = false) (h2 : (c == "spec".toList) = false) (hc : (c == "cut".toList) = true) : P.make = some .cut:=by
 unfold Program.make
 rw [h]
 dsimp only
 rw [if_neg (by rw [h1,h2]; exact Bool.false_ne_true),if_pos (by rw [hc]; rfl)]
theorem may_enter : Tryz.prog.mayEnter = true:=may_enter_of head_eq (strip_c _) ioC_facts.2.2.2.1 lays_not bears_not door_ok
theorem lifts_final : Tryz.prog.liftsFinal = false:=lifts_final_of head_eq (strip_c _) ioC_facts.2.2.1
theorem made_cut : Tryz.prog.make = some .cut:=made_cut_of head_eq ioC_facts.1 ioC_facts.2.1 ioC_facts.2.2.2.1
theorem and_t {a b : Bool} (h1 : a = true) (h2 : b = true) : (a && b) = true:=by rw [h1,h2]; rfl
end Go.Sx
