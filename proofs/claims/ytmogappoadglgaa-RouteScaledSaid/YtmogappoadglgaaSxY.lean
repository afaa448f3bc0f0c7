/-
  Own tool 'Sx', part Y: the signs of this program's head, and the closed facts that read them.
-/
import Derived.Test.YtmogappoadglgaaSxX
import Derived.KernelRfl
namespace Go.Sx
open Go Go.Proofs Go.Proofs.Ytmogappoadglgaa
def ioA : List Char := [104, 97, 114, 110, 101, 115, 115].map Char.ofNat
def ioB : List Char := [51, 52, 56, 54, 97, 100, 53, 57, 97, 97, 102, 100, 54, 101, 52, 100, 49, 102, 52, 53, 98, 57, 102, 98, 99, 55, 54, 51, 102, 54, 49, 49, 50, 55, 53, 54, 101, 97, 98, 52, 98, 100, 54, 97, 56, 102, 101, 49, 48, 51, 53, 50, 99, 102, 50, 56, 102, 51, 48, 97, 56, 51, 99, 101].map Char.ofNat
def ioC : List Char := [99, 117, 116].map Char.ofNat
def ioR : List Char := [97, 116, 32, 104, 117, 109, 112, 121, 97, 114, 100, 47, 104, 117, 109, 112, 121, 97, 114, 100, 108, 97, 119, 49, 48, 46, 72, 101, 97, 112, 80, 108, 97, 121, 115, 32, 104, 117, 109, 112,
  121, 97, 114, 100, 47, 104, 117, 109, 112, 121, 97, 114, 100, 108, 97, 119, 49, 48, 46, 72, 101, 97, 112, 83, 111, 114, 116, 115, 32, 104, 117, 109, 112, 121, 97, 114, 100, 47, 104, 117,
  109, 112, 121, 97, 114, 100, 108, 97, 119, 49, 48, 46, 72, 101, 97, 112, 76, 101, 97, 115, 116, 32, 104, 117, 109, 112, 121, 97, 114, 100, 47, 104, 117, 109, 112, 121, 97, 114, 100, 108,
  97, 119, 49, 48, 46, 72, 101, 97, 112, 65, 112, 97, 114, 116, 32, 104, 117, 109, 112, 121, 97, 114, 100, 47, 104, 117, 109, 112, 121, 97, 114, 100, 108, 97, 119, 49, 48, 46, 72, 101,
  97, 112, 66, 97, 99, 107, 32, 104, 117, 109, 112, 121, 97, 114, 100, 47, 104, 117, 109, 112, 121, 97, 114, 100, 108, 97, 119, 49, 49, 46, 76, 97, 121, 111, 117, 116, 84, 101, 108, 108,
  115, 32, 104, 117, 109, 112, 121, 97, 114, 100, 47, 104, 117, 109, 112, 121, 97, 114, 100, 108, 97, 119, 49, 49, 46, 76, 97, 121, 111, 117, 116, 67, 108, 111, 115, 101, 100, 32, 104, 117,
  109, 112, 121, 97, 114, 100, 47, 104, 117, 109, 112, 121, 97, 114, 100, 108, 97, 119, 49, 49, 46, 76, 97, 121, 111, 117, 116, 77, 111, 114, 101, 32, 104, 117, 109, 112, 121, 97, 114, 100,
  47, 104, 117, 109, 112, 121, 97, 114, 100, 108, 97, 119, 49, 49, 46, 76, 97, 121, 111, 117, 116, 83, 116, 114, 111, 110, 103, 32, 104, 117, 109, 112, 121, 97, 114, 100, 47, 104, 117, 109,
  112, 121, 97, 114, 100, 108, 97, 119, 49, 49, 46, 76, 97, 121, 111, 117, 116, 69, 100, 103, 101, 115, 32, 104, 117, 109, 112, 121, 97, 114, 100, 47, 104, 117, 109, 112, 121, 97, 114, 100,
  108, 97, 119, 49, 49, 46, 76, 97, 121, 111, 117, 116, 87, 114, 111, 110, 103, 32, 104, 117, 109, 112, 121, 97, 114, 100, 47, 104, 117, 109, 112, 121, 97, 114, 100, 108, 97, 119, 49, 49,
  46, 76, 97, 121, 111, 117, 116, 84, 117, 114, 110, 101, 100, 32, 104, 117, 109, 112, 121, 97, 114, 100, 47, 104, 117, 109, 112, 121, 97, 114, 100, 108, 97, 119, 49, 50, 46, 82, 111, 117,
  116, 101, 70, 105, 114, 115, 116, 32, 104, 117, 109, 112, 121, 97, 114, 100, 47, 104, 117, 109, 112, 121, 97, 114, 100, 108, 97, 119, 49, 50, 46, 82, 111, 117, 116, 101, 77, 111, 114, 101,
  32, 104, 117, 109, 112, 121, 97, 114, 100, 47, 104, 117, 109, 112, 121, 97, 114, 100, 108, 97, 119, 49, 50, 46, 82, 111, 117, 116, 101, 83, 99, 97, 108, 101, 100, 32, 104, 117, 109, 112,
  121, 97, 114, 100, 47, 104, 117, 109, 112, 121, 97, 114, 100, 108, 97, 119, 49, 50, 46, 82, 111, 117, 116, 101, 76, 101, 97, 115, 116, 32, 104, 117, 109, 112, 121, 97, 114, 100, 47, 104,
  117, 109, 112, 121, 97, 114, 100, 108, 97, 119, 49, 50, 46, 82, 111, 117, 116, 101, 84, 101, 108, 108, 115, 32, 104, 117, 109, 112, 121, 97, 114, 100, 47, 104, 117, 109, 112, 121, 97, 114,
  100, 108, 97, 119, 49, 50, 46, 82, 111, 117, 116, 101, 84, 111, 117, 114, 115, 32, 104, 117, 109, 112, 121, 97, 114, 100, 47, 104, 117, 109, 112, 121, 97, 114, 100, 108, 97, 119, 49, 52,
  46, 84, 97, 98, 108, 101, 80, 108, 97, 121, 115, 32, 104, 117, 109, 112, 121, 97, 114, 100, 47, 104, 117, 109, 112, 121, 97, 114, 100, 108, 97, 119, 49, 52, 46, 84, 97, 98, 108, 101,
  65, 112, 97, 114, 116, 32, 104, 117, 109, 112, 121, 97, 114, 100, 47, 104, 117, 109, 112, 121, 97, 114, 100, 108, 97, 119, 49, 52, 46, 84, 97, 98, 108, 101, 70, 97, 105, 108, 115, 32,
  104, 117, 109, 112, 121, 97, 114, 100, 47, 104, 117, 109, 112, 121, 97, 114, 100, 108, 97, 119, 49, 52, 46, 84, 97, 98, 108, 101, 66, 97, 99, 107, 32, 104, 117, 109, 112, 121, 97, 114,
  100, 47, 104, 117, 109, 112, 121, 97, 114, 100, 108, 97, 119, 49, 52, 46, 84, 97, 98, 108, 101, 65, 103, 97, 105, 110].map Char.ofNat
def ioS : Char := Char.ofNat 32
theorem io_eq : Try.prog.initOrder.toList = ioA ++ ioS :: (ioB ++ ioS :: (ioC ++ ioS :: ioR)) := by
  have h : Try.prog.initOrder = String.ofList (ioA ++ ioS :: (ioB ++ ioS :: (ioC ++ ioS :: ioR))) := by kernel_rfl
  rw [h, String.toList_ofList]
theorem words_word : ∀ {w : List Char}, (w.all fun c => c != ioS) = true → ∀ r, wordsSigns (w ++ ioS :: r) = w :: wordsSigns r
  | [], _, r => rfl
  | c :: w, h, r => by
    simp only [List.all_cons, Bool.and_eq_true, bne_iff_ne] at h
    have ih := words_word h.2 r
    have hc : c ≠ Char.ofNat 32 := h.1
    show wordsSigns (c :: (w ++ ioS :: r)) = _
    rw [wordsSigns, ih]
    exact hc
theorem head_eq : behindMainWord (wordsSigns Try.prog.initOrder.toList) = ioC :: wordsSigns ioR := by
  rw [io_eq, words_word (by kernel_rfl), words_word (by kernel_rfl), words_word (by kernel_rfl)]
  have key : ∀ X, behindMainWord (ioA :: ioB :: X) = X := fun X => by
    have h : ((ioA == "harness".toList || ioA == "ownmain".toList) && isSumSigns ioB) = true := by kernel_rfl
    simp only [behindMainWord, h, if_true]
  exact key _
theorem strip_c : ∀ X, stripLifts liftWords (ioC :: X) = ([], ioC :: X) := fun X => by
  have h : ∀ os : List String, (os.all fun o => !(ioC == o.toList)) = true → stripLifts os (ioC :: X) = ([], ioC :: X) := fun os => by
    induction os with
    | nil => intro _; rfl
    | cons o os ih =>
      intro h
      simp only [List.all_cons, Bool.and_eq_true, Bool.not_eq_true'] at h
      rw [stripLifts, if_neg (by rw [h.1]; simp), ih h.2]
  exact h _ (by kernel_rfl)
theorem ioC_facts : (ioC == "gc".toList) = false ∧ (ioC == "spec".toList) = false ∧ (ioC == "carried".toList) = false ∧ (ioC == "cut".toList) = true ∧ ioC = "cut".toList := ⟨by kernel_rfl, by kernel_rfl, by kernel_rfl, by kernel_rfl, by kernel_rfl⟩
theorem lays_not : Try.prog.laysLater = false := by kernel_rfl
theorem bears_not : Try.prog.bearsReflect = false := by kernel_rfl
theorem door_rows : Try.prog.doorRows = [] := by kernel_rfl
theorem door_ok : Try.prog.doorFits [] = true := by
  unfold Program.doorFits
  rw [door_rows]
  kernel_rfl
theorem may_enter_of {P : Program} {c : List Char} {X : List (List Char)} (h : behindMainWord (wordsSigns P.initOrder.toList) = c :: X) (hs : stripLifts liftWords (c :: X) = ([], c :: X)) (hc : (c == "cut".toList) = true)
    (hl : P.laysLater = false) (hb : P.bearsReflect = false) (hd : P.doorFits [] = true) : P.mayEnter = true := by
  unfold Program.mayEnter
  rw [h, hl, hb]
  dsimp only
  rw [hs]
  have e1 : ((c :: X).head? == some "cut".toList) = true := hc
  dsimp only
  rw [e1, hd, Bool.or_eq_true]
  exact .inr (by simp only [List.contains_nil, Bool.not_false, Bool.and_true, Bool.or_true])
theorem lifts_final_of {P : Program} {c : List Char} {X : List (List Char)} (h : behindMainWord (wordsSigns P.initOrder.toList) = c :: X) (hs : stripLifts liftWords (c :: X) = ([], c :: X)) (hc : (c == "carried".toList) = false) : P.liftsFinal = false := by
  unfold Program.liftsFinal Program.headLifts
  rw [h, hs]
  have e1 : ((c :: X).head? == some "carried".toList) = false := hc
  dsimp only
  rw [e1]
  split <;> rfl
theorem made_cut_of {P : Program} {c : List Char} {X : List (List Char)} (h : behindMainWord (wordsSigns P.initOrder.toList) = c :: X) (h1 : (c == "gc".toList) = false) (h2 : (c == "spec".toList) = false) (hc : (c == "cut".toList) = true) : P.make = some .cut := by
  unfold Program.make
  rw [h]
  dsimp only
  rw [if_neg (by rw [h1, h2]; exact Bool.false_ne_true), if_pos (by rw [hc]; rfl)]
theorem may_enter : Try.prog.mayEnter = true := may_enter_of head_eq (strip_c _) ioC_facts.2.2.2.1 lays_not bears_not door_ok
theorem lifts_final : Try.prog.liftsFinal = false := lifts_final_of head_eq (strip_c _) ioC_facts.2.2.1
theorem made_cut : Try.prog.make = some .cut := made_cut_of head_eq ioC_facts.1 ioC_facts.2.1 ioC_facts.2.2.2.1
theorem and_t {a b : Bool} (h1 : a = true) (h2 : b = true) : (a && b) = true := by rw [h1, h2]; rfl
end Go.Sx
