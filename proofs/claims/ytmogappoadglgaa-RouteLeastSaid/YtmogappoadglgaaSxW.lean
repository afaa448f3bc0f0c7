/-
  Own tool 'Sx', part W: the door for a function of this seat; a tactic's terms.
-/
import Derived.Test.YtmogappoadglgaaSxV
namespace Go.Sx
open Go Go.Proofs Go.Proofs.Ytmogappoadglgaa
theorem meets {f : FuncId} {fn : Func} (hf : Try.prog.funcs[f]? = some fn) {s : Spec AF} (n : Nat) (wr : Nat → Bool) (hn : n = fn.ntmps) (hname : (fn.name == "runtime.NumGoroutine") = false) (hb : fn.body = some (fn.body.getD .skip))
    (h : XFun Try.prog (envF n wr) flF fn (fn.body.getD .skip) s) : Meets Try.prog regF f s :=
  meets_of_XFun (E := envF n wr) mixed (env_ok n wr) flF_ok hf hname hb hn (Nat.zero_le _) (fun _ _ => trivial) h
/-- The environment of an iterator. -/
@[reducible] def envY (n : Nat) (wr : Nat → Bool) (k : Nat) (Y : World → Rho → Prop) : Env AF := ⟨tyTree.get, regF, wr, n, keyB, k, Y, true⟩
theorem meetsIt {f : FuncId} {fn : Func} (hf : Try.prog.funcs[f]? = some fn) {k : Nat} {sy : Spec AF} {sp : Nat → Spec AF} (n : Nat) (wr : Nat → Bool) (hn : n = fn.ntmps) (hname : (fn.name == "runtime.NumGoroutine") = false) (hb : fn.body = some (fn.body.getD .skip)) (hk : k ≤ 1000)
    (h : ∀ (l : Nat) (Y : World → Rho → Prop), MeetsY Try.prog regF Y l sy → XFun Try.prog (envY n wr k Y) flF fn (fn.body.getD .skip) (sp l)) : MeetsIt Try.prog regF k sy f sp :=
  meetsIt_of_XFun (E := envF n wr) mixed (env_ok n wr) flF_ok hf hname hb hn hk h
/-- One piece of code with what follows it under a name: SO THE KERNEL NEVER COMPARES THE REST OF THE CODE. -/
theorem xseq {P : Program} {E : Env AF} {fl : Nat → Bool} {a b : Code} {st : St AF} {Q : XE → St AF → Prop}
    (h : ∀ K : St AF → Prop, (∀ st', XC P E fl b st' Q → K st') → XC P E fl a st (fun e st' => match e with | .norm => K st' | .ret => Q .ret st' | .exit i => Q (.exit i) st')) : XC P E fl (.seq a b) st Q := h _ (fun _ h => h)
abbrev noWr : Nat → Bool := fun _ => false
abbrev vI (n : Int) : SV AF := .val (.int .i64 n)
abbrev vB (b : Bool) : SV AF := .val (.bool b)
theorem tell {p : Prop} [Decidable p] {K : Bool → Prop} (h1 : p → K true) (h2 : ¬ p → K false) : (∃ c, c = decide p) ∧ ∀ c, c = decide p → K c :=
  ⟨⟨_, rfl⟩, fun c hc => by
    subst hc
    by_cases h : p
    · rw [decide_eq_true h]; exact h1 h
    · rw [decide_eq_false h]; exact h2 h⟩
theorem tell0 {p : Prop} [Decidable p] {K : Bool → Prop} (h : K (decide p)) : (∃ c, c = decide p) ∧ ∀ c, c = decide p → K c := ⟨⟨_, rfl⟩, fun c hc => by subst hc; exact h⟩
theorem inI {z : Int} (h : -9223372036854775808 ≤ z ∧ z ≤ 9223372036854775807) : inR .i64 z := h
theorem eI {R : Reg AF} {st : St AF} {a b : Int} (h : a = b) : EntR R st (vI a) (vI b) := congrArg vI h
theorem eB {R : Reg AF} {st : St AF} {a b : Bool} (h : a = b) : EntR R st (vB a) (vB b) := congrArg vB h
/-- A call whose arguments are as the specification has them, and that writes nothing. -/
theorem vc0 {p q r s t : Prop} (hp : p) (hq : q) (hr : r) (hs : s) (ht : t) : p ∧ q ∧ r ∧ s ∧ t := ⟨hp, hq, hr, hs, ht⟩
theorem cstL {T : Nat} (e : T = T) (x : List (AF T)) : (e ▸ x : List (AF T)) = x := rfl
/-- The bounds of 'int'. -/
def InI (n : Int) : Prop := -9223372036854775808 ≤ n ∧ n ≤ 9223372036854775807
end Go.Sx
