/-
  Own tool 'Sx', part B: what a symbolic value says of a value in a world; specifications of functions; the conditions of regions and of code.
-/
import Derived.Test.YtmogappoadglgaaSxA
namespace Go.Sx
open Go
variable {A : Nat → Type}

/-! ### What a symbolic value says. 'ρ': where a named block lies, and from which cell on it counts. 'O': blocks that somebody may write. -/
abbrev Rho := Nat → Option (Nat × Nat)

inductive Den (R : Reg A) (ρ : Rho) (O : Nat → Prop) (w : World) : SV A → Value → Prop where
  | val (v : Value) : Den R ρ O w (.val v) v
  | lnil (T : Nat) (cap : Nat) : cap = 0 → Den R ρ O w (.lst T []) (.slice none 0 cap)
  | lempty (T : Nat) (a : Option Addr) (cap : Nat) : a ≠ none → Den R ρ O w (.lst T []) (.slice a 0 cap)
  | lst (T : Nat) (xs : List (A T)) (b off cap : Nat) (c : Array Value) (E : TypeId) (fz : Nat × Nat) (g : Nat → Nat → Value)
      (ho : ¬ O b) (hb : w.heap[b]? = some (.cells c E fz)) (hcap : xs.length ≤ cap)
      (hc : ∀ (i : Nat) x, xs[i]? = some x → ∀ j, j < R.sz T → c[off + i * R.sz T + j]? = some (g i j))
      (hd : ∀ (i : Nat) x, xs[i]? = some x → ∀ (j : Nat) s, (R.enc T x)[j]? = some s → Den R ρ O w s (g i j)) :
      Den R ρ O w (.lst T xs) (.slice (some ⟨b, off, none⟩) xs.length cap)
  | prow (cs : List (SV A)) (k b off : Nat) (c : Array Value) (E : TypeId) (fz : Nat × Nat) (g : Nat → Value)
      (ho : ¬ O b) (hb : w.heap[b]? = some (.cells c E fz))
      (hc : ∀ (j : Nat), j < cs.length → c[off + j]? = some (g j))
      (hd : ∀ (j : Nat) s, cs[j]? = some s → Den R ρ O w s (g j)) :
      Den R ρ O w (.prow cs k) (.pointer (some ⟨b, off + k, none⟩))
  | ptr (h i sz k b base : Nat) : ρ h = some (b, base) → Den R ρ O w (.ptr h i sz k) (.pointer (some ⟨b, base + (i * sz + k), none⟩))
  | slnil (h sz : Nat) : ρ h = none → Den R ρ O w (.sl h sz 0 0) (.slice none 0 0)
  | sl (h sz off len cap b base o : Nat) (c : Array Value) (E : TypeId) (fz : Nat × Nat) : ρ h = some (b, base) → w.heap[b]? = some (.cells c E fz) →
      len ≤ cap → (cap = 0 ∨ o = base + off * sz) → base + (off + cap) * sz ≤ c.size → Den R ρ O w (.sl h sz off len) (.slice (some ⟨b, o, none⟩) len cap)
  | mp (h b base : Nat) : ρ h = some (b, base) → Den R ρ O w (.mp h) (.map (some b))
  | agg (cs : List (SV A)) (vs : Array Value) (hl : cs.length = vs.size) (hd : ∀ (j : Nat) s v, cs[j]? = some s → vs[j]? = some v → Den R ρ O w s v) : Den R ρ O w (.agg cs) (.agg vs)
  | aggl (T : Nat) (xs : List (A T)) (vs : Array Value) (hd : Den R ρ O w (.agg (xs.flatMap (R.enc T))) (.agg vs)) : Den R ρ O w (.aggl T xs) (.agg vs)
  | tup (cs : List (SV A)) (vs : Array Value) (hl : cs.length = vs.size) (hd : ∀ (j : Nat) s v, cs[j]? = some s → vs[j]? = some v → Den R ρ O w s v) : Den R ρ O w (.tup cs) (.tuple vs)
  | fn (f : Fn) (first cap : List (SV A)) (vs us : Array Value) (hl1 : first.length = vs.size) (hd1 : ∀ (j : Nat) s v, first[j]? = some s → vs[j]? = some v → Den R ρ O w s v)
      (hl2 : cap.length = us.size) (hd2 : ∀ (j : Nat) s v, cap[j]? = some s → us[j]? = some v → Den R ρ O w s v) : Den R ρ O w (.fn f first cap) (.func f vs us)

/-- A content's cells. -/
def Ct.flat (R : Reg A) : Ct A → List (SV A)
  | .cells cs => cs
  | .arr T xs => xs.flatMap (R.enc T)
  | .map .. => []

/-- A map's entries. -/
structure MapRep (R : Reg A) (K V : Nat) (es : List (A K × A V)) (mes : Array MapEntry) (clock : Nat) : Prop where
  ents : mes.toList.map (fun e => (some e.key, some e.val)) = es.map fun p => (keyVal R K p.1, keyVal R V p.2)
  born : ∀ e ∈ mes.toList, e.born < clock
  rise : mes.toList.Pairwise fun a b => a.born < b.born
  nodup : (es.map (·.1)).Nodup
  good : ∀ p ∈ es, R.kg K p.1

/-- A block holds this, from a cell on; no cell of it is marked as a string's. -/
def DenCt (R : Reg A) (ρ : Rho) (O : Nat → Prop) (w : World) (ct : Ct A) : Option (Nat × Nat) → Prop
  | none => ct.flat R = []
  | some (b, base) => (∃ K V es, ct = .map K V es ∧ ∃ mes clock, w.heap[b]? = some (.map mes clock) ∧ MapRep R K V es mes clock) ∨ ct.isMap = false ∧ ∃ c E fz, w.heap[b]? = some (.cells c E fz) ∧ (fz.2 ≤ fz.1 ∨ c.size ≤ fz.1) ∧ base + (ct.flat R).length ≤ c.size ∧
      ∀ (j : Nat) s v, (ct.flat R)[j]? = some s → c[base + j]? = some v → Den R ρ O w s v

/-- Behind a call or a piece of code: whatever lay there is as it was, but for the blocks of a class. -/
structure WRel (W : Nat → Prop) (w w' : World) : Prop where
  os : w'.os = w.os
  tape : w'.tape = w.tape
  output : w'.output = w.output
  size : w.heap.size ≤ w'.heap.size
  block : ∀ b, b < w.heap.size → ¬ W b → w'.heap[b]? = w.heap[b]?
  shape : ∀ (b : Nat) (c : Array Value) (E : TypeId) (fz : Nat × Nat), w.heap[b]? = some (Obj.cells c E fz) → ∃ (c' : Array Value) (fz' : Nat × Nat), w'.heap[b]? = some (Obj.cells c' E fz') ∧ c'.size = c.size

/-! ### Names -/
mutual
def ren (f : Nat → Nat) : SV A → SV A
  | .ptr h i sz k => .ptr (f h) i sz k
  | .sl h sz off len => .sl (f h) sz off len
  | .mp h => .mp (f h)
  | .agg cs => .agg (renL f cs)
  | .tup cs => .tup (renL f cs)
  | .fn g a b => .fn g (renL f a) (renL f b)
  | .val v => .val v
  | .lst T xs => .lst T xs
  | .prow cs k => .prow (renL f cs) k
  | .aggl T xs => .aggl T xs
def renL (f : Nat → Nat) : List (SV A) → List (SV A)
  | [] => []
  | c :: cs => ren f c :: renL f cs
end
def renCt (f : Nat → Nat) : Ct A → Ct A
  | .cells cs => .cells (renL f cs)
  | .arr T xs => .arr T xs
  | .map K V es => .map K V es
-- all names in it are of a class
mutual
def men (f : Nat → Bool) : SV A → Bool
  | .ptr h _ _ _ => f h
  | .sl h _ _ _ => f h
  | .mp h => f h
  | .agg cs => menL f cs
  | .tup cs => menL f cs
  | .fn _ a b => menL f a && menL f b
  | .val _ => true
  | .lst _ _ => true
  | .prow cs _ => menL f cs
  | .aggl _ _ => true
def menL (f : Nat → Bool) : List (SV A) → Bool
  | [] => true
  | c :: cs => men f c && menL f cs
end
def menCt (f : Nat → Bool) : Ct A → Bool
  | .cells cs => menL f cs
  | .arr _ _ => true
  | .map .. => true
-- it names no memory that is frozen
mutual
def flatS (fl : Nat → Bool) : SV A → Bool
  | .agg cs => flatL fl cs
  | .tup cs => flatL fl cs
  | .fn _ a b => flatL fl a && flatL fl b
  | .val _ => true
  | .lst _ _ => false
  | .prow _ _ => false
  | .aggl T _ => fl T
  | .ptr .. => true
  | .sl .. => true
  | .mp _ => true
def flatL (fl : Nat → Bool) : List (SV A) → Bool
  | [] => true
  | c :: cs => flatS fl c && flatL fl cs
end
def thr (l : List Nat) (h : Nat) : Nat := (nth l h).getD (h + 1000000)

/-! ### Specifications -/
structure Spec (A : Nat → Type) : Type 1 where
  γ : Type
  δ : Type
  args : γ → List (SV A)
  own : γ → List (Ct A)                       -- the blocks that the call may write: names 0, 1, ..
  pre : γ → Prop
  nnew : Nat
  res : γ → δ → SV A
  own' : γ → δ → List (Option (Ct A))         -- what those hold behind the call; then the new ones
  post : γ → δ → Prop

def DenL (R : Reg A) (ρ : Rho) (O : Nat → Prop) (w : World) (ss : List (SV A)) (vs : List Value) : Prop :=
  ss.length = vs.length ∧ ∀ (j : Nat) s v, ss[j]? = some s → vs[j]? = some v → Den R ρ O w s v

/-- The blocks of names whose content is told. -/
def Blk (hs : List (Option (Ct A))) (ρ : Rho) (b : Nat) : Prop := ∃ (h : Nat) (ct : Ct A) (base : Nat), hs[h]? = some (some ct) ∧ ρ h = some (b, base)

structure DenHs (R : Reg A) (ρ : Rho) (O : Nat → Prop) (w : World) (hs : List (Option (Ct A))) : Prop where
  den : ∀ (h : Nat) ct, hs[h]? = some (some ct) → DenCt R ρ O w ct (ρ h)
  inj : ∀ (h h' : Nat) ct ct' b base base', hs[h]? = some (some ct) → hs[h']? = some (some ct') → ρ h = some (b, base) → ρ h' = some (b, base') → h = h'

/-- 'Function f does what s says', whatever else lies in memory; X: blocks that are others', and that frozen memory does not reach. -/
structure Enters (P : Program) (f : FuncId) : Prop where
  fn : ∃ fn, P.funcs[f]? = some fn ∧ (fn.name == "runtime.NumGoroutine") = false ∧ fn.body.isNone = false
def MPost (R : Reg A) (s : Spec A) (g : s.γ) (X : Nat → Prop) (ρ : Rho) (w : World) : Ending → World → Prop := fun e w' =>
    ∃ (d : s.δ) (ρ' : Rho) (v : Value), s.post g d ∧ e = .returned v ∧
      (∀ (h : Nat), h < (s.own g).length → ρ' h = ρ h) ∧
      Den R ρ' (fun b => X b ∨ Blk (s.own' g d) ρ' b) w' (s.res g d) v ∧
      DenHs R ρ' (fun b => X b ∨ Blk (s.own' g d) ρ' b) w' (s.own' g d) ∧
      (∀ b, Blk (s.own' g d) ρ' b → (Blk ((s.own g).map some) ρ b ∨ w.heap.size ≤ b) ∧ ¬ X b) ∧
      (s.own' g d).length = (s.own g).length + s.nnew ∧
      men (fun h => Nat.blt h ((s.own g).length + s.nnew)) (s.res g d) = true ∧
      (∀ (h : Nat) ct, (s.own' g d)[h]? = some (some ct) → menCt (fun h => Nat.blt h ((s.own g).length + s.nnew)) ct = true) ∧
      WRel (Blk ((s.own g).map some) ρ) w w'
def Meets (P : Program) (R : Reg A) (f : FuncId) (s : Spec A) : Prop :=
  Enters P f ∧ ∀ (g : s.γ), s.pre g → ∀ (X : Nat → Prop) (ρ : Rho) (w : World) (vs : Array Value),
    (∀ b, X b → b < w.heap.size) → (∀ b, X b → ¬ Blk ((s.own g).map some) ρ b) →
    DenL R ρ (fun b => X b ∨ Blk ((s.own g).map some) ρ b) w (s.args g) vs.toList →
    DenHs R ρ (fun b => X b ∨ Blk ((s.own g).map some) ρ b) w ((s.own g).map some) →
    Calls P f vs w (MPost R s g X ρ w)

/-- 'yield l does what s says' wherever 'Y' holds. -/
def MeetsY (P : Program) (R : Reg A) (Y : World → Rho → Prop) (l : Nat) (s : Spec A) : Prop :=
  ∀ (g : s.γ), s.pre g → ∀ (X : Nat → Prop) (ρ : Rho) (w : World) (vs : Array Value), Y w ρ →
    (∀ b, X b → b < w.heap.size) → (∀ b, X b → ¬ Blk ((s.own g).map some) ρ b) →
    DenL R ρ (fun b => X b ∨ Blk ((s.own g).map some) ρ b) w (s.args g) vs.toList →
    DenHs R ρ (fun b => X b ∨ Blk ((s.own g).map some) ρ b) w ((s.own g).map some) →
    ∀ m, YieldAt Fence.wide m P l vs w (MPost R s g X ρ w)
/-- Where an iterator's 'yield' is called: behind its call's beginning nothing has changed but its own blocks, and the caller's blocks are the ones they were. -/
def YFrom (own : List (Ct A)) (k : Nat) (ρ0 : Rho) (w0 : World) : World → Rho → Prop := fun w ρ => WRel (Blk (own.map some) ρ0) w0 w ∧ ∀ h, h < k → ρ h = ρ0 h
/-- 'Function f, an iterator, does what sp says, if yield does what sy says' (the first k of its blocks are yield's). -/
def MeetsIt (P : Program) (R : Reg A) (k : Nat) (sy : Spec A) (f : FuncId) (sp : Nat → Spec A) : Prop :=
  Enters P f ∧ ∀ (l : Nat) (g : (sp l).γ), (sp l).pre g → ∀ (X : Nat → Prop) (ρ : Rho) (w : World) (vs : Array Value),
    MeetsY P R (YFrom ((sp l).own g) k ρ w) l sy →
    (∀ b, X b → b < w.heap.size) → (∀ b, X b → ¬ Blk (((sp l).own g).map some) ρ b) →
    DenL R ρ (fun b => X b ∨ Blk (((sp l).own g).map some) ρ b) w ((sp l).args g) vs.toList →
    DenHs R ρ (fun b => X b ∨ Blk (((sp l).own g).map some) ρ b) w (((sp l).own g).map some) →
    Calls P f vs w (MPost R (sp l) g X ρ w)

/-! ### States -/
def St.ev (st : St A) : Operand → Option (SV A)
  | .tmp t => st.t t
  | .const v => some (.val v)
  | .global g => some (.val (.pointer (some ⟨g, 0, none⟩)))
  | .func f => some (.val (.func (.func f) #[] #[]))
def updT (t : Nat → Option (SV A)) : Option Tmp → SV A → Nat → Option (SV A)
  | some d, v => fun i => match Nat.beq i d with | true => some v | false => t i
  | none, _ => t
def updH (f : Nat → Option (Ct A)) : List (Nat × Option (Ct A)) → Nat → Option (Ct A)
  | [], i => f i
  | (h, c) :: l, i => match Nat.beq i h with | true => c | false => updH f l i
def updU (u : Nat → Bool) : List Nat → Nat → Bool
  | [], i => u i
  | n :: l, i => match Nat.beq i n with | true => true | false => updU u l i
def St.upd (st : St A) (dst : Option Tmp) (v : SV A) (hs : List (Nat × Option (Ct A))) (new : List Nat) : St A :=
  ⟨updT st.t dst v, updH st.h hs, updU st.u new⟩

/-! ### Calls -/
/-- What is handed in, against what the specification has there: a block of one's own may serve as frozen memory while the call lasts. -/
def EntA0 (R : Reg A) (st : St A) (c p : SV A) : Prop :=
  match c, p with
  | .sl h sz off len, .lst T xs => match st.h h with
    | some (.arr U ys) => off + len ≤ ys.length ∧ sz = R.sz U ∧ SV.lst T xs = SV.lst U ((ys.drop off).take len)
    | _ => False
  | .val (.slice none 0 0), .lst _ xs => xs = []
  | c, p => c = p
def EntL (R : Reg A) (st : St A) : List (SV A) → List (SV A) → Prop
  | [], [] => True
  | c :: cs, p :: ps => EntA0 R st c p ∧ EntL R st cs ps
  | _, _ => False
def EntA (R : Reg A) (st : St A) (c p : SV A) : Prop :=
  match c, p with
  | .agg cs, .agg ps => EntL R st cs ps
  | c, p => EntA0 R st c p
def EntAL (R : Reg A) (st : St A) : List (SV A) → List (SV A) → Prop
  | [], [] => True
  | c :: cs, p :: ps => EntA R st c p ∧ EntAL R st cs ps
  | _, _ => False
def bor0 : SV A → SV A → List Nat
  | .sl h _ _ _, .lst _ _ => [h]
  | _, _ => []
def borL : List (SV A) → List (SV A) → List Nat
  | c :: cs, p :: ps => bor0 c p ++ borL cs ps
  | _, _ => []
def bor : SV A → SV A → List Nat
  | .agg cs, .agg ps => borL cs ps
  | c, p => bor0 c p
def borAL : List (SV A) → List (SV A) → List Nat
  | c :: cs, p :: ps => bor c p ++ borAL cs ps
  | _, _ => []
def mem (n : Nat) : List Nat → Bool
  | [] => false
  | m :: l => match Nat.beq n m with | true => true | false => mem n l
def disj : List Nat → List Nat → Bool
  | [], _ => true
  | n :: l, m => match mem n m with | true => false | false => disj l m
def nodup : List Nat → Bool
  | [] => true
  | n :: l => match mem n l with | true => false | false => nodup l
def ownAt (st : St A) (f : Nat → Nat) : List Nat → List (Ct A) → Prop
  | [], [] => True
  | h :: hs, c :: cs => st.h h = some (renCt f c) ∧ ownAt st f hs cs
  | _, _ => False
def newNames (d : Nat) : Nat → List Nat
  | 0 => []
  | n + 1 => (d + 1000) :: newNames (d + 1000) n
def updsOf (f : Nat → Nat) : List Nat → List (Option (Ct A)) → List (Nat × Option (Ct A))
  | h :: hs, c :: cs => (h, match c with | some c => some (renCt f c) | none => none) :: updsOf f hs cs
  | _, _ => []
def gone : List Nat → List (Nat × Option (Ct A))
  | [] => []
  | h :: hs => (h, none) :: gone hs
/-- Are results and contents of a specification without frozen memory? Then what was lent is one's own again. -/
def flatRes (fl : Nat → Bool) (s : Spec A) (g : s.γ) : Prop :=
  ∀ d, flatS fl (s.res g d) = true ∧ ∀ (h : Nat) ct, (s.own' g d)[h]? = some (some ct) → (match ct with | .cells cs => flatL fl cs | .arr T _ => fl T | .map .. => true) = true

def tailOf (kp : Bool) (bs : List Nat) : List (Nat × Option (Ct A)) := match kp with | true => [] | false => gone bs
def disOk (bs θ : List Nat) : Prop := match disj bs θ, nodup θ with | true, true => True | _, _ => False
def keepOk (kp : Bool) (p : Prop) : Prop := match kp with | true => p | false => True
/-- A call's effect under a specification: 'g' its case, 'θ' the blocks that it is given; 'kp': what is lent stays one's own. -/
def callEff (R : Reg A) (fl : Nat → Bool) (st : St A) (nm : Nat) (vs : List (SV A)) (s : Spec A) (g : s.γ) (θ : List Nat) (kp : Bool) : Eff A :=
  forceL (newNames nm s.nnew) fun news => forceL (θ ++ news) fun θn => forceL (borAL vs (s.args g)) fun bs =>
  let f := thr θn
  ⟨bs, (match kp with | true => [] | false => bs) ++ θn, news,
    .vc (s.pre g ∧ EntAL R st vs (renL f (s.args g)) ∧ ownAt st f θ (s.own g) ∧ disOk bs θ ∧ keepOk kp (bs = [] ∨ flatRes fl s g))
      (.all s.δ (s.post g) fun d => .ret (ren f (s.res g d)) (updsOf f θn (s.own' g d) ++ tailOf kp bs))⟩

def target : SV A → Option (FuncId × List (SV A) × List (SV A))
  | .val (.func (.func f) ⟨[]⟩ ⟨[]⟩) => some (f, [], [])
  | .fn (.func f) a b => some (f, a, b)
  | _ => none

def ids : Nat → List Nat
  | 0 => []
  | n + 1 => ids n ++ [n]
/-- Is it an iterator's yield? -/
def yieldOf : SV A → Option Nat
  | .val (.func (.yield l) ⟨[]⟩ ⟨[]⟩) => some l
  | _ => none
def dOf : Option Nat → Nat
  | some d => d
  | none => 0
/-- One operation in a state: its effect. -/
def XOp (P : Program) (E : Env A) (fl : Nat → Bool) (dst : Option Nat) (op : Op) (st : St A) (K : Eff A → Prop) : Prop :=
  match op with
  | .call ⟨.value fo, ⟨args⟩, _⟩ =>
    match st.ev fo, evs st.ev args with
    | some fv, some vs => match target fv with
      | some (f, a, b) => forceL (a ++ vs ++ b) fun vs =>
          ∃ (s : Spec A) (_ : Meets P E.reg f s) (g : s.γ) (θ : List Nat) (kp : Bool), K (callEff E.reg fl st (dOf dst) vs s g θ kp)
      | none => match yieldOf fv with
        | some l => ∃ (s : Spec A) (_ : MeetsY P E.reg E.Y l s) (g : s.γ) (_ : (s.own g).length = E.yn), K (callEff E.reg fl st (dOf dst) vs s g (ids E.yn) false)
        | none => False
    | _, _ => False
  | op => K ((xop E (dOf dst + 1000) dst op st.ev).go st.h [])

/-! ### Regions -/
def fresh (u : Nat → Bool) : List Nat → Bool
  | [] => true
  | n :: l => match u n with | true => false | false => fresh u l
structure Seen where
  i : Nat
  R : List Nat
  W : List Nat
  c : Bool
def isCall : Op → Bool
  | .call ⟨.value _, _, _⟩ => true
  | _ => false
def maskOf (ms : List Nat) : List Edge → Nat
  | [] => 0
  | e :: l => match Region.binds .any e with
    | true => Nat.lor (Nat.lor (Nat.pow 2 e.on) ((nth ms e.on).getD 0)) (maskOf ms l)
    | false => maskOf ms l
def masks : List Oper → List Nat → List Nat
  | [], ms => ms
  | o :: l, ms => masks l (ms ++ [maskOf ms o.after.toList])
def apartB (mask : Nat) (R W : List Nat) (c : Bool) : List Seen → Bool
  | [] => true
  | s :: l => (Nat.testBit mask s.i || (disj s.W R && disj s.W W && disj s.R W && !(c && s.c))) && apartB mask R W c l
/-- Are operations that may come in either order apart? ('seen': the last one first.) -/
def fpOk (ms : List Nat) : List Seen → Bool
  | [] => true
  | s :: l => apartB ((nth ms s.i).getD 0) s.R s.W s.c l && fpOk ms l
def yieldS (all : List Oper) (st : St A) (g : Nat) : Option Bool :=
  match nth all g with
  | some o => match o.dst with
    | some d => match st.t d with
      | some (.val (.bool b)) => some b
      | _ => none
    | none => none
  | none => none
/-- An operation that is passed over yields nothing: is that known? -/
def skipS (all : List Oper) (st : St A) (g : Nat) : Bool :=
  match nth all g with
  | some o => match o.dst with
    | some d => match st.t d with
      | some (.val (.tuple _)) => true
      | _ => false
    | none => false
  | none => false
def okDst (n : Nat) : Option Tmp → Bool
  | some d => Nat.blt d n
  | none => true

def skipEff : Eff A := ⟨[], [], [], .ret undefS []⟩
def eqB : Bool → Bool → Bool
  | true, b => b
  | false, true => false
  | false, false => true
/-- An operation under its guard. -/
def XG (P : Program) (E : Env A) (fl : Nat → Bool) (all : List Oper) (dst : Option Nat) (op : Op) (guard : Option (Nat × Bool)) (st : St A) (K : Eff A → Prop) : Prop :=
  match guard with
  | none => XOp P E fl dst op st K
  | some (g, want) =>
    match skipS all st g with
    | true => K skipEff
    | false => match yieldS all st g with
      | some b => match eqB b want with
        | true => XOp P E fl dst op st K
        | false => K skipEff
      | none => False
def XR (P : Program) (E : Env A) (fl : Nat → Bool) (all : List Oper) : List Oper → Nat → List Seen → St A → (St A → List Seen → Prop) → Prop
  | [], _, seen, st, K => K st seen
  | ⟨dst, op, _, _, _, guard⟩ :: rest, j, seen, st, K =>
    match okDst E.n dst with
    | false => False
    | true => XG P E fl all dst op guard st fun e => match e with
      | ⟨R, W, new, b⟩ => match fresh st.u new with
        | true => b.run fun v hs => XR P E fl all rest (j + 1) (⟨j, R, W, isCall op⟩ :: seen) (st.upd dst v hs new) K
        | false => False

/-! ### Code -/
inductive XE where
  | norm | ret | exit (id : Nat)

/-- A state that a loop's head has, whatever the round: some slots, some blocks. -/
structure Pat (A : Nat → Type) : Type where
  t : List (Nat × SV A)
  h : List (Nat × Ct A)
def assoc {α : Type} : List (Nat × α) → Nat → Option α
  | [], _ => none
  | (k, v) :: l, i => match Nat.beq i k with | true => some v | false => assoc l i
def someB {α : Type} : Option α → Bool
  | some _ => true
  | none => false
/-- Names below 1000 are those of the function's entry. -/
def usedIn {α : Type} (l : List (Nat × α)) (i : Nat) : Bool := match Nat.blt i 1000 with | true => true | false => someB (assoc l i)
def Pat.st (p : Pat A) : St A := ⟨assoc p.t, assoc p.h, usedIn p.h⟩
def lowIds : List (Nat × Nat) → Bool
  | [] => true
  | (k, _) :: l => match Nat.blt k 1000 with | true => false | false => lowIds l
def thA (θ : List (Nat × Nat)) (h : Nat) : Nat := (assoc θ h).getD h
/-- A value against what it shall be told as; a nil slice may be told as a slice of a block that is not there. -/
def cellEq (st : St A) (f : Nat → Nat) (c p : SV A) : Prop :=
  match c, p with
  | .val (.slice none 0 0), .sl h _ off len => st.h (f h) = none ∧ st.u (f h) = false ∧ off = 0 ∧ len = 0
  | c, p => c = ren f p
def cellsEq (st : St A) (f : Nat → Nat) : List (SV A) → List (SV A) → Prop
  | [], [] => True
  | c :: cs, p :: ps => cellEq st f c p ∧ cellsEq st f cs ps
  | _, _ => False
def ctEq (R : Reg A) (st : St A) (f : Nat → Nat) (h : Nat) (ct : Ct A) : Prop :=
  match st.h h with
  | some (.cells cs) => match ct with
    | .cells ps => cellsEq st f cs ps
    | _ => False
  | some (.arr T xs) => Ct.arr T xs = renCt f ct
  | some (.map K V es) => Ct.map K V es = renCt f ct
  | none => st.u h = false ∧ ct.flat R = []
def patT (st : St A) (f : Nat → Nat) : List (Nat × SV A) → Prop
  | [] => True
  | (i, p) :: l => (match st.t i with
      | some c => cellEq st f c p
      | none => False) ∧ patT st f l
def patH (R : Reg A) (st : St A) (f : Nat → Nat) : List (Nat × Ct A) → Prop
  | [] => True
  | (h, ct) :: l => ctEq R st f (f h) ct ∧ patH R st f l
def patOk (p : Pat A) : Bool :=
  p.t.all (fun x => men (fun i => someB (assoc p.h i)) x.2) && p.h.all (fun x => menCt (fun i => someB (assoc p.h i)) x.2) && nodup (p.h.map (·.1))
def Ent (R : Reg A) (st : St A) (p : Pat A) (θ : List (Nat × Nat)) : Prop :=
  lowIds θ = true ∧ patT st (thA θ) p.t ∧ patH R st (thA θ) p.h ∧ nodup (p.h.map fun x => thA θ x.1) = true

/-- A round's names: the blocks that yield is given are 0, 1, ..; the others' names are put aside. -/
def phiN : List Nat → Nat → Nat → Nat
  | [], _, h => h + 100000
  | n :: l, j, h => match Nat.beq h n with | true => j | false => phiN l (j + 1) h
def roundT (ps : List Nat) (vs : List (SV A)) (t : Nat → Option (SV A)) : Nat → Option (SV A) :=
  match ps, vs with
  | p :: ps, v :: vs => roundT ps vs (updT t (some p) v)
  | _, _ => t
/-- A round's state: yield's parameters in their slots; of the blocks only those that yield is given. -/
def roundSt (ps : List Nat) (θ : List Nat) (own : List (Ct A)) (args : List (SV A)) (st : St A) : St A :=
  ⟨roundT ps args (fun i => match st.t i with | some s => some (ren (phiN θ 0) s) | none => none), nth own,
    fun m => match Nat.blt m 1000 with | true => true | false => match Nat.blt m 100000 with | true => false | false => st.u (Nat.sub m 100000)⟩
def keptAt (R : Reg A) (st : St A) (f : Nat → Nat) : List Nat → List (Option (Ct A)) → Prop
  | [], [] => True
  | h :: hs, c :: cs => (match c with | some c => ctEq R st f h c | none => True) ∧ keptAt R st f hs cs
  | _, _ => False
def menO (f : Nat → Bool) : List (Option (Ct A)) → Bool
  | [] => true
  | some c :: l => match menCt f c with | true => menO f l | false => false
  | none :: l => menO f l
def flatO (fl : Nat → Bool) : List (Option (Ct A)) → Bool
  | [] => true
  | some (.cells cs) :: l => match flatL fl cs with | true => flatO fl l | false => false
  | some (.arr T _) :: l => match fl T with | true => flatO fl l | false => false
  | some (.map ..) :: l => flatO fl l
  | none :: l => flatO fl l
def all2 : Bool → Bool → Prop
  | true, true => True
  | _, _ => False
/-- A round's end. -/
def RoundEnd (R : Reg A) (fl : Nat → Bool) (sy : Spec A) (g : sy.γ) (k : Nat) (st : St A) : Prop :=
  ∃ d, sy.post g d ∧ sy.res g d = .val (.bool true) ∧ keptAt R st (thr (ids k)) (ids k) (sy.own' g d) ∧
    all2 (menO (fun h => Nat.blt h k) (sy.own' g d)) (flatO fl (sy.own' g d))
def okPs (n : Nat) : List Nat → List (SV A) → Prop
  | [], [] => True
  | p :: ps, _ :: vs => Nat.blt p n = true ∧ okPs n ps vs
  | _, _ => False

def XC (P : Program) (E : Env A) (fl : Nat → Bool) : Code → St A → (XE → St A → Prop) → Prop
  | .skip, st, Q => Q .norm st
  | .label _, st, Q => Q .norm st
  | .ret, st, Q => Q .ret st
  | .exit id, st, Q => Q (.exit id) st
  | .seq a b, st, Q => XC P E fl a st fun e st' => match e with
    | .norm => XC P E fl b st' Q
    | .ret => Q .ret st'
    | .exit i => Q (.exit i) st'
  | .cond c x y, st, Q => match st.ev c with
    | some (.val (.bool b)) => match b with
      | true => XC P E fl x st Q
      | false => XC P E fl y st Q
    | _ => False
  | .block id c, st, Q => XC P E fl c st fun e st' => match e with
    | .exit i => match Nat.beq i id with | true => Q .norm st' | false => Q (.exit i) st'
    | .norm => Q .norm st'
    | .ret => Q .ret st'
  | .region _ ⟨ops⟩ draw, st, Q => match draw with
    | false => XR P E fl ops ops 0 [] st fun st' _ => Q .norm st'
    | true => XR P E fl ops ops 0 [] st fun st' seen => (Region.lexB .any ⟨ops⟩ && fpOk (masks ops []) seen) = true ∧ Q .norm st'
  | .loop b, st, Q => ∃ (α : Type) (I : α → Pat A) (Pr : α → Prop) (μ : α → Nat),
      (∀ a, Pr a → patOk (I a) = true) ∧ (∃ a θ, Pr a ∧ Ent E.reg st (I a) θ) ∧
      ∀ a, Pr a → XC P E fl b (I a).st fun e st' => match e with
        | .norm => ∃ a' θ, Pr a' ∧ μ a' < μ a ∧ Ent E.reg st' (I a') θ
        | .ret => Q .ret st'
        | .exit i => Q (.exit i) st'
  | .scope c, st, Q => XC P E fl c st Q
  | .rangeFunc g ⟨ps⟩ assign body, st, Q => match E.rf, st.ev g with
    | true, some (.fn (.func f) [] cap) =>
      ∃ (sy : Spec A) (sp : Nat → Spec A) (k : Nat) (_ : MeetsIt P E.reg k sy f sp) (θ θ' : List Nat) (gs : (l : Nat) → (sp l).γ),
        (Nat.beq θ.length k = true ∧ Nat.ble k 1000 = true ∧ Nat.beq E.yn 0 = true) ∧
        (∀ gy, sy.pre gy → ((sy.own gy).length = k ∧ okPs E.n ps (sy.args gy) ∧ sy.nnew = 0 ∧ all2 ((sy.args gy).all (men fun h => Nat.blt h k)) ((sy.own gy).all (menCt fun h => Nat.blt h k))) ∧
          XC P { E with rf := false } fl assign (roundSt ps θ (sy.own gy) (sy.args gy) st) fun e st1 => match e with
            | .norm => XC P { E with rf := false } fl body st1 fun e st2 => match e with
              | .norm => RoundEnd E.reg fl sy gy k st2
              | _ => False
            | _ => False) ∧
        ∀ l, fresh st.u (callEff E.reg fl st 0 (.val (.func (.yield l) #[] #[]) :: cap) (sp l) (gs l) (θ ++ θ') false).new = true ∧
          (callEff E.reg fl st 0 (.val (.func (.yield l) #[] #[]) :: cap) (sp l) (gs l) (θ ++ θ') false).b.run fun v hs => Q .norm (st.upd none v hs (callEff E.reg fl st 0 (.val (.func (.yield l) #[] #[]) :: cap) (sp l) (gs l) (θ ++ θ') false).new)
    | _, _ => False
  | _, _, _ => False

/-! ### Functions -/
def argT : Nat → List (SV A) → List (Nat × SV A)
  | _, [] => []
  | i, v :: l => (i, v) :: argT (i + 1) l
/-- The results, read. -/
def resV (E : Env A) (st : St A) : ResultVar → Option (SV A)
  | .tmp t => st.t t
  | .cell a T => match st.t a with
    | some (.ptr h i sz k) => match st.h h, E.tt T with
      | some (.cells cs), some ti => rowVal ti.k.isAgg ti.size cs (i * sz + k)
      | _, _ => none
    | _ => none
/-- An array that is the one result, as a list of elements. -/
def resA (E : Env A) (st : St A) : ResultVar → Option (Prop × SV A)
  | .cell a T => match st.t a with
    | some (.ptr h 0 _ 0) => match st.h h, E.tt T with
      | some (.arr U xs), some ti => match ti.k with
        | .arr n _ => some (xs.length = n ∧ ti.size = n * E.reg.sz U, .aggl U xs)
        | _ => none
      | _, _ => none
    | _ => none
  | .tmp _ => none
def resS (E : Env A) (st : St A) (rs : List ResultVar) (K : List (SV A) → Prop) : Prop :=
  match rs with
  | [] => K []
  | [r] => match resA E st r with
    | some (p, v) => p ∧ K [v]
    | none => match resV E st r with
      | some v => K [v]
      | none => False
  | [r, q] => match resV E st r, resV E st q with
    | some v, some x => K [v, x]
    | _, _ => False
  | [r, q, p] => match resV E st r, resV E st q, resV E st p with
    | some v, some x, some y => K [v, x, y]
    | _, _, _ => False
  | _ => False
def oneOf : List (SV A) → SV A
  | [v] => v
  | vs => .tup vs
def EntR (R : Reg A) (st : St A) (c p : SV A) : Prop :=
  match c, p with
  | .tup cs, .tup ps => EntAL R st cs ps
  | c, p => EntA R st c p
def borR : SV A → SV A → List Nat
  | .tup cs, .tup ps => borAL cs ps
  | c, p => bor c p
def someOf : List Nat → List (Option (Ct A)) → List Nat
  | h :: hs, some _ :: cs => h :: someOf hs cs
  | _ :: hs, none :: cs => someOf hs cs
  | _, _ => []
def endOk : Bool → Bool → Bool → Bool → Bool → Bool → Prop
  | true, true, true, true, true, true => True
  | _, _, _, _, _, _ => False
/-- The end of a function: a state's results and blocks are what the specification has. -/
def XEnd (E : Env A) (s : Spec A) (g : s.γ) (results : List ResultVar) (e : XE) (st : St A) : Prop :=
  match e with
  | .exit _ => False
  | _ => resS E st results fun vs => ∃ (d : s.δ) (θ : List Nat), s.post g d ∧
      let f := thr (ids (s.own g).length ++ θ)
      EntR E.reg st (oneOf vs) (ren f (s.res g d)) ∧ keptAt E.reg st f (ids (s.own g).length ++ θ) (s.own' g d) ∧
      endOk (Nat.beq θ.length s.nnew) (nodup (ids (s.own g).length ++ θ)) (disj (borR (oneOf vs) (s.res g d)) (someOf (ids (s.own g).length ++ θ) (s.own' g d)))
        (men (fun h => Nat.blt h ((s.own g).length + s.nnew)) (s.res g d)) (menO (fun h => Nat.blt h ((s.own g).length + s.nnew)) (s.own' g d)) (men (fun k => st.u (f k)) (s.res g d))
/-- All that a function's text owes for a specification. -/
def XFun (P : Program) (E : Env A) (fl : Nat → Bool) (fn : Func) (body : Code) (s : Spec A) : Prop :=
  ∀ g, s.pre g →
    (match (s.args g).all (men fun h => Nat.blt h (s.own g).length), (s.own g).all (menCt fun h => Nat.blt h (s.own g).length), Nat.ble (s.args g).length E.n, Nat.ble (s.own g).length 1000 with
      | true, true, true, true => forceL (argT 0 (s.args g)) fun t => forceL (s.own g) fun hs =>
          XC P E fl body ⟨assoc t, nth hs, fun i => Nat.blt i 1000⟩ (XEnd E s g fn.results.toList)
      | _, _, _, _ => False)

end Go.Sx
