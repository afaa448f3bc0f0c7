/-
  Own tool 'Sx', part A: symbolic states over logical block names, the effect of one operation, the conditions that a region leaves. Definitions only.
-/
import Derived.Calls
import Derived.Orders
import Derived.Still
import Derived.Laws.CopyRow
import Derived.Laws.Append
import Derived.Laws.Tables
import Derived.Maps.Keyed
import Derived.RangeFuncOwn
import Derived.OrdersIn
namespace Go.Sx
open Go

/-! ### Symbolic values. 'A T': the Lean type of elements of Go type number T -/
universe u
variable {A : Nat → Type}
inductive SV (A : Nat → Type) : Type where
  | val (v : Value)                           -- this very value
  | lst (T : Nat) (xs : List (A T))           -- a slice over memory that nobody writes any more
  | prow (cells : List (SV A)) (k : Nat)      -- a pointer to cell k of a row of such memory
  | ptr (h i sz k : Nat)                      -- a pointer into block h: cell k of element i of size sz
  | sl (h sz off len : Nat)                   -- a slice of block h
  | mp (h : Nat)                              -- a map that lies in block h
  | agg (cs : List (SV A))
  | aggl (T : Nat) (xs : List (A T))          -- an array value
  | tup (vs : List (SV A))
  | fn (f : Fn) (first cap : List (SV A))

/-- No block is named in it. -/
inductive SV.Closed : SV A → Prop where
  | val (v : Value) (h : v.oneCell' = true) : Closed (.val v)
  | lst (T : Nat) (xs : List (A T)) : Closed (.lst T xs)
  | fn (f : Fn) (first cap : List (SV A)) (h1 : ∀ (i : Nat) s, first[i]? = some s → Closed s) (h2 : ∀ (i : Nat) s, cap[i]? = some s → Closed s) : Closed (.fn f first cap)

/-- How elements lie in cells. -/
structure Reg (A : Nat → Type) : Type where
  sz : Nat → Nat
  has : Nat → Bool
  enc : ∀ T, A T → List (SV A)
  dec : ∀ T, List (SV A) → Option (A T)
  beq : ∀ T, A T → A T → Bool
  kg : ∀ T, A T → Prop
  len : ∀ T x, (enc T x).length = sz T
  same : ∀ T x y, beq T x y = true ↔ x = y
  inj : ∀ T x y, enc T x = enc T y → x = y
  ok : ∀ T cs x, dec T cs = some x → enc T x = cs
  closed : ∀ T x (i : Nat) s, (enc T x)[i]? = some s → s.Closed

/-- One element type's encoding. -/
structure EI (A : Nat → Type) (α : Type) : Type where
  sz : Nat
  has : Bool
  enc : α → List (SV A)
  dec : List (SV A) → Option α
  beq : α → α → Bool
  kg : α → Prop
  len : ∀ x, (enc x).length = sz
  same : ∀ x y, beq x y = true ↔ x = y
  inj : ∀ x y, enc x = enc y → x = y
  ok : ∀ cs x, dec cs = some x → enc x = cs
  closed : ∀ x (i : Nat) s, (enc x)[i]? = some s → s.Closed
def EI.none {A : Nat → Type} : EI A Empty := ⟨0, false, nofun, fun _ => Option.none, nofun, nofun, nofun, nofun, nofun, nofun, nofun⟩
def regOf {A : Nat → Type} (e : ∀ T, EI A (A T)) : Reg A := ⟨fun T => (e T).sz, fun T => (e T).has, fun T => (e T).enc, fun T => (e T).dec, fun T => (e T).beq, fun T => (e T).kg, fun T => (e T).len, fun T => (e T).same, fun T => (e T).inj, fun T => (e T).ok, fun T => (e T).closed⟩

/-- Values without names. -/
def valsOf : List (SV A) → Option (List Value)
  | [] => some []
  | .val v :: l => match valsOf l with | some vs => some (v :: vs) | none => none
  | _ :: _ => none
/-- An element as a map's key, or as what it holds there. -/
def keyVal (R : Reg A) (T : Nat) (x : A T) : Option Value :=
  match valsOf (R.enc T x) with
  | some [v] => some v
  | some vs => some (.agg vs.toArray)
  | none => none
/-- What a map holds at a key; with something at a key; without a key. -/
def look (R : Reg A) (K V : Nat) (es : List (A K × A V)) (k : A K) : Option (A V) := match es.find? (fun p => R.beq K p.1 k) with | some p => some p.2 | none => none
def ins (R : Reg A) (K V : Nat) (es : List (A K × A V)) (k : A K) (v : A V) : List (A K × A V) :=
  match es.any (fun p => R.beq K p.1 k) with
  | true => es.map fun p => match R.beq K p.1 k with | true => (k, v) | false => p
  | false => es ++ [(k, v)]
def del (R : Reg A) (K V : Nat) (es : List (A K × A V)) (k : A K) : List (A K × A V) := es.filter fun p => !(R.beq K p.1 k)

/-- What a block holds. -/
inductive Ct (A : Nat → Type) : Type where
  | cells (cs : List (SV A))
  | arr (T : Nat) (xs : List (A T))
  | map (K V : Nat) (es : List (A K × A V))     -- a map's entries, in the order in which they came
def Ct.isMap {A : Nat → Type} : Ct A → Bool
  | .map .. => true
  | _ => false

structure St (A : Nat → Type) : Type where
  t : Nat → Option (SV A)
  h : Nat → Option (Ct A)
  u : Nat → Bool

/-! ### Types -/
inductive TK where
  | int (k : IntKind) | bool | str | slice (e : TypeId) | arr (n : Nat) (e : TypeId) | struct (fs : List (Nat × TypeId)) | ptr (e : TypeId) | map (k v : TypeId) | func | other
structure TI where
  k : TK
  size : Nat
  bytes : Nat
  zero : Value
  eq : Bool          -- '==' on it is by its parts
def kindOf : TypeDesc → TK
  | .int k => .int k
  | .bool => .bool
  | .string => .str
  | .slice e => .slice e
  | .array n e => .arr n e
  | .struct fs => .struct (fs.toList.map fun f => (f.offset, f.type))
  | .pointer e => .ptr e
  | .map k v => .map k v
  | .func .. => .func
  | _ => .other
def TK.isAgg : TK → Bool
  | .struct _ | .arr .. => true
  | _ => false

def noBlank : TypeDesc → Bool
  | .struct fs => fs.toList.all fun f => f.name != "_"
  | _ => true
def tiOf (P : Program) (T : TypeId) : Option TI :=
  match P.underlying T, P.info? T with
  | some d, some i => match noBlank d with
    | true => i.zero.map fun z => ⟨kindOf d, i.size, i.bytes, z, (kindOf d).isAgg && !P.stoodInHeld T && !P.eqGuardType P.depth T⟩
    | false => none
  | _, _ => none
inductive TT where
  | leaf
  | node (l : TT) (i : Nat) (t : TI) (r : TT)
def TT.get : TT → Nat → Option TI
  | .leaf, _ => none
  | .node l i t r, n => match Nat.beq n i with
    | true => some t
    | false => match Nat.blt n i with
      | true => l.get n
      | false => r.get n
def TT.list : TT → List (Nat × TI)
  | .leaf => []
  | .node l i t r => l.list ++ (i, t) :: r.list
/-- The tables that the executor asks. -/
structure Env (A : Nat → Type) : Type where
  tt : TypeId → Option TI
  reg : Reg A
  wr : Nat → Bool          -- slots of sums that may wrap
  n : Nat                  -- how many slots
  key : Nat → Bool         -- types of keys
  yn : Nat := 0            -- of an iterator: how many of its blocks are its caller's
  Y : World → (Nat → Option (Nat × Nat)) → Prop := fun _ _ => True     -- where its 'yield' does what it shall
  rf : Bool := true        -- may a range over a function be entered?
structure Env.Ok (P : Program) (E : Env A) : Prop where
  tt : ∀ T ti, E.tt T = some ti → tiOf P T = some ti
  keyed : ∀ K, E.key K = true → Maps.Keyed P K
  keys : ∀ K, E.key K = true → ∀ x, E.reg.kg K x → ∃ v l, keyVal E.reg K x = some v ∧ keyOf P K v = some l

/-! ### The effect of one operation -/
inductive EB (A : Nat → Type) : Type 1 where
  | ret (v : SV A) (hs : List (Nat × Option (Ct A)))
  | vc (p : Prop) (b : EB A)
  | all (α : Type) (c : α → Prop) (b : α → EB A)
  | fail
abbrev EB.run : EB A → (SV A → List (Nat × Option (Ct A)) → Prop) → Prop
  | .ret v hs, K => K v hs
  | .vc p b, K => p ∧ b.run K
  | .all _ c b, K => (∃ x, c x) ∧ ∀ x, c x → (b x).run K
  | .fail, _ => False

/-- A tree that asks what blocks hold; at its end: the blocks that it writes, the names that it makes, what comes about. -/
inductive QT (A : Nat → Type) : Type 1 where
  | ask (h : Nat) (k : Option (Ct A) → QT A)
  | fin (W new : List Nat) (b : EB A)
structure Eff (A : Nat → Type) : Type 1 where
  R : List Nat
  W : List Nat
  new : List Nat
  b : EB A
def QT.go (look : Nat → Option (Ct A)) : QT A → List Nat → Eff A
  | .ask h k, R => (k (look h)).go look (h :: R)
  | .fin W new b, R => ⟨R, W, new, b⟩
abbrev QT.pure (v : SV A) : QT A := .fin [] [] (.ret v [])
abbrev QT.no : QT A := .fin [] [] .fail

/-- Evaluates a list's spine ahead of going on. -/
def forceL {α : Type} {β : Sort u} : List α → (List α → β) → β
  | [], k => k []
  | a :: l, k => forceL l fun l' => k (a :: l')
def undefS : SV A := .val (.tuple #[])
def nth {α : Type} : List α → Nat → Option α
  | [], _ => none
  | a :: _, 0 => some a
  | _ :: l, n + 1 => nth l n
def cut {α : Type} (l : List α) (off n : Nat) : Option (List α) :=
  match Nat.ble (off + n) l.length with
  | true => some ((l.drop off).take n)
  | false => none
def put {α : Type} : List α → Nat → List α → List α       -- laid over from a place on
  | l, _, [] => l
  | [], _, _ :: _ => []
  | _ :: l, 0, v :: vs => v :: put l 0 vs
  | a :: l, n + 1, v :: vs => a :: put l n (v :: vs)
/-- A value's cells. -/
def cellsOf (R : Reg A) : SV A → List (SV A)
  | .agg cs => cs
  | .aggl T xs => xs.flatMap (R.enc T)
  | .val (.agg cs) => cs.toList.map .val
  | v => [v]
def aggS : SV A → Bool
  | .agg _ | .aggl .. | .val (.agg _) => true
  | _ => false
def inR (k : IntKind) (z : Int) : Prop :=
  match k with
  | .i64 => -9223372036854775808 ≤ z ∧ z ≤ 9223372036854775807
  | .i32 => -2147483648 ≤ z ∧ z ≤ 2147483647
  | .u8 => 0 ≤ z ∧ z ≤ 255
  | .u32 => 0 ≤ z ∧ z ≤ 4294967295
  | k => k.wrap z = z
/-- A sum: it does not wrap, or it is told with its wrap. -/
def arith (wr : Bool) (k : IntKind) (z : Int) : QT A :=
  match wr with
  | true => .pure (.val (.int k (k.wrap z)))
  | false => .fin [] [] (.vc (inR k z) (.ret (.val (.int k z)) []))
/-- Of a row of cells a variable's value. -/
def rowVal (agg : Bool) (size : Nat) (cs : List (SV A)) (off : Nat) : Option (SV A) :=
  match agg with
  | true => match cut cs off size with
    | some l => forceL l fun l => some (.agg l)
    | none => none
  | false => nth cs off
def optRet (o : Option (SV A)) : EB A :=
  match o with
  | some v => .ret v []
  | none => .fail

/-- May it lie in one cell? -/
def cellOk : SV A → Bool
  | .val v => v.oneCell'
  | .agg _ | .aggl .. | .tup _ => false
  | _ => true
def cellsOk : List (SV A) → Bool
  | [] => true
  | c :: cs => match cellOk c with | true => cellsOk cs | false => false

def xload (E : Env A) (T : TypeId) (a : SV A) : QT A :=
  match E.tt T with
  | none => .no
  | some ti =>
    match a with
    | .prow cs k => .fin [] [] (optRet (rowVal ti.k.isAgg ti.size cs k))
    | .ptr h i sz k => .ask h fun
      | some (.cells cs) => .fin [] [] (optRet (rowVal ti.k.isAgg ti.size cs (i * sz + k)))
      | some (.arr U xs) =>
        match Nat.beq sz (E.reg.sz U) with
        | true => .fin [] [] (.all (A U) (fun x => xs[i]? = some x) fun x => optRet (rowVal ti.k.isAgg ti.size (E.reg.enc U x) k))
        | false =>
          match ti.k, i, k with
          | .arr n _, 0, 0 => .fin [] [] (.vc (xs.length = n ∧ ti.size = n * E.reg.sz U) (.ret (.aggl U xs) []))
          | _, _, _ => match Nat.ble 1 (E.reg.sz U) with
            | true => .fin [] [] (.all (A U) (fun x => xs[(i * sz + k) / E.reg.sz U]? = some x) fun x => optRet (rowVal ti.k.isAgg ti.size (E.reg.enc U x) ((i * sz + k) % E.reg.sz U)))
            | false => .no
      | _ => .no
    | _ => .no

/-- Cells as rows of elements. -/
def decRows (R : Reg A) (T : Nat) : Nat → List (SV A) → Option (List (A T))
  | 0, [] => some []
  | 0, _ :: _ => none
  | n + 1, cs =>
    match R.dec T (cs.take (R.sz T)), decRows R T n (cs.drop (R.sz T)) with
    | some x, some xs => some (x :: xs)
    | _, _ => none
def xstore (E : Env A) (T : TypeId) (a v : SV A) : QT A :=
  match E.tt T with
  | none => .no
  | some ti =>
    match a with
    | .ptr h i sz k => .ask h fun
      | some (.cells cs) =>
        let vs := cellsOf E.reg v
        match Nat.beq vs.length ti.size, Nat.ble (i * sz + k + vs.length) cs.length, cellsOk vs with
        | true, true, true => forceL (put cs (i * sz + k) vs) fun cs => .fin [h] [] (.ret undefS [(h, some (.cells cs))])
        | _, _, _ => .no
      | some (.arr U xs) =>
        match Nat.beq sz (E.reg.sz U) with
        | true =>
          let vs := cellsOf E.reg v
          match Nat.beq vs.length ti.size, Nat.ble (k + vs.length) sz, cellsOk vs with
          | true, true, true => .fin [h] [] (.all (A U) (fun x => xs[i]? = some x) fun x =>
              match E.reg.dec U (put (E.reg.enc U x) k vs) with
              | some y => .ret undefS [(h, some (.arr U (xs.set i y)))]
              | none => .fail)
          | _, _, _ => .no
        | false =>
          match ti.k, i, k with
          | .arr n _, 0, 0 => match v with
            | .aggl V ys => match (Nat.decEq V U : Decidable (V = U)) with
              | .isTrue e => .fin [h] [] (.vc (xs.length = n ∧ ys.length = n ∧ ti.size = n * E.reg.sz U) (.ret undefS [(h, some (.arr U (e ▸ ys)))]))
              | _ => .no
            | v => match decRows E.reg U n (cellsOf E.reg v), Nat.beq (cellsOf E.reg v).length ti.size, cellsOk (cellsOf E.reg v) with
              | some ys, true, true => forceL ys fun ys => .fin [h] [] (.vc (xs.length = n) (.ret undefS [(h, some (.arr U ys))]))
              | _, _, _ => .no
          | _, _, _ => .no
      | _ => .no
    | _ => .no

/-- A composite literal's parts, laid into zeros. -/
def fillS (R : Reg A) (place : Nat → Option (Nat × Nat)) : List (SV A) → List (Nat × SV A) → Option (List (SV A))
  | cs, [] => some cs
  | cs, (i, v) :: rest =>
    match place i with
    | none => none
    | some (off, size) =>
      let vs := cellsOf R v
      match Nat.beq vs.length size, Nat.ble (off + vs.length) cs.length with
      | true, true => fillS R place (put cs off vs) rest
      | _, _ => none
def zeroCellsS (z : Value) : List (SV A) := z.cells.toList.map .val
def structPlace (E : Env A) (fs : List (Nat × TypeId)) (i : Nat) : Option (Nat × Nat) :=
  match nth fs i with
  | some (off, T) => match E.tt T with | some ti => some (off, ti.size) | none => none
  | none => none
def rowsS : Nat → List (SV A) → List (SV A)
  | 0, _ => []
  | n + 1, z => z ++ rowsS n z
/-- A new block's content: as a list of elements where the element type has an encoding. -/
def rowCt (R : Reg A) (elem : TypeId) (n : Nat) (cs : List (SV A)) : Ct A :=
  match R.has elem with
  | true => match decRows R elem n cs with
    | some xs => forceL xs fun xs => .arr elem xs
    | none => forceL cs .cells
  | false => forceL cs .cells
/-- A new variable's content: an array as a list of elements. -/
def varCt (E : Env A) (k : TK) (v : SV A) : Ct A :=
  match k with
  | .arr n elem => match v with
    | .aggl U xs => .arr U xs
    | v => rowCt E.reg elem n (cellsOf E.reg v)
  | _ => forceL (cellsOf E.reg v) .cells

def evs (ev : Operand → Option (SV A)) : List Operand → Option (List (SV A))
  | [] => some []
  | x :: l => match ev x, evs ev l with
    | some v, some vs => some (v :: vs)
    | _, _ => none
def evParts (ev : Operand → Option (SV A)) : List (Nat × Operand) → Option (List (Nat × SV A))
  | [] => some []
  | (i, x) :: l => match ev x, evParts ev l with
    | some v, some vs => some ((i, v) :: vs)
    | _, _ => none

def xalloc (E : Env A) (nm : Nat) (T : TypeId) : QT A :=
  match E.tt T with
  | some ti => match varCt E ti.k (.val ti.zero) with
    | .cells cs => .fin [nm] [nm] (.ret (.ptr nm 0 ti.size 0) [(nm, some (.cells cs))])
    | .arr U xs => .fin [nm] [nm] (.ret (.ptr nm 0 ti.size 0) [(nm, some (.arr U xs))])
    | _ => .no
  | none => .no
def xbox (E : Env A) (nm : Nat) (T : TypeId) (v : SV A) : QT A :=
  match E.tt T with
  | some ti => match varCt E ti.k v with
    | .cells cs => .fin [nm] [nm] (.ret (.ptr nm 0 ti.size 0) [(nm, some (.cells cs))])
    | .arr U xs => .fin [nm] [nm] (.ret (.ptr nm 0 ti.size 0) [(nm, some (.arr U xs))])
    | _ => .no
  | none => .no
def allTT (E : Env A) : List (Nat × TypeId) → Bool
  | [] => true
  | (_, T) :: l => match E.tt T with | some _ => allTT E l | none => false
def xbuild (E : Env A) (T : TypeId) (ps : List (Nat × SV A)) : QT A :=
  match E.tt T with
  | some ti =>
    match ti.k with
    | .struct fs => match allTT E fs, fillS E.reg (structPlace E fs) (zeroCellsS ti.zero) ps with
      | true, some cs => forceL cs fun cs => .pure (.agg cs)
      | _, _ => .no
    | .arr _ elem => match E.tt elem with
      | some te => match fillS E.reg (fun i => some (i * te.size, te.size)) (zeroCellsS ti.zero) ps with
        | some cs => forceL cs fun cs => .pure (.agg cs)
        | none => .no
      | none => .no
    | _ => .no
  | none => .no
def xbuildSlice (E : Env A) (nm : Nat) (T : TypeId) (len : Nat) (ps : List (Nat × SV A)) : QT A :=
  match E.tt T with
  | some ti =>
    match ti.k with
    | .slice elem => match E.tt elem with
      | some te =>
        match Nat.ble (len * te.size) 16777216, Nat.beq te.zero.cells.size te.size, fillS E.reg (fun i => some (i * te.size, te.size)) (rowsS len (zeroCellsS te.zero)) ps with
        | true, true, some cs => match rowCt E.reg elem len cs with
          | .cells cs => .fin [nm] [nm] (.ret (.sl nm te.size 0 len) [(nm, some (.cells cs))])
          | .arr U xs => .fin [nm] [nm] (.ret (.sl nm te.size 0 len) [(nm, some (.arr U xs))])
          | _ => .no
        | _, _, _ => .no
      | none => .no
    | _ => .no
  | none => .no

/-- An index's bounds. -/
def idx (n : Int) (len : Nat) : Prop := 0 ≤ n ∧ n < len

def xindexAddr (E : Env A) (T : TypeId) (x i : SV A) : QT A :=
  match E.tt T, i with
  | some ti, .val (.int _ n) =>
    match ti.k with
    | .slice elem =>
      match E.tt elem with
      | some te =>
        match x with
        | .sl h sz off len => match Nat.beq sz te.size with
          | true => .fin [] [] (.vc (idx n len) (.ret (.ptr h (off + n.toNat) sz 0) []))
          | false => .no
        | .lst U xs => match Nat.beq (E.reg.sz U) te.size with
          | true => .fin [] [] (.all (A U) (fun y => 0 ≤ n ∧ xs[n.toNat]? = some y) fun y => .ret (.prow (E.reg.enc U y) 0) [])
          | false => .no
        | _ => .no
      | none => .no
    | .arr len elem =>
      match E.tt elem with
      | some te =>
        match x with
        | .ptr h 0 _ 0 => match Nat.ble 2 len with
          | true => .fin [] [] (.vc (idx n len) (.ret (.ptr h n.toNat te.size 0) []))
          | false => .no
        | _ => .no
      | none => .no
    | _ => .no
  | _, _ => .no

def isConst : Operand → Bool
  | .const _ => true
  | _ => false
/-- An array's element at a place that is written down: of a part of an element, too. -/
def xindexAddrC (E : Env A) (T : TypeId) (x i : SV A) : QT A :=
  match E.tt T, i with
  | some ti, .val (.int _ (.ofNat j)) =>
    match ti.k with
    | .arr len elem =>
      match E.tt elem with
      | some te => match Nat.ble (j + 1) len with
        | true => match x with
          | .ptr h e sz k => .pure (.ptr h e sz (k + j * te.size))
          | .prow cs k => .pure (.prow cs (k + j * te.size))
          | _ => .no
        | false => .no
      | none => .no
    | _ => xindexAddr E T x i
  | _, _ => .no

def xindex (E : Env A) (T : TypeId) (x i : SV A) : QT A :=
  match E.tt T, i with
  | some ti, .val (.int _ n) =>
    match ti.k with
    | .arr len elem =>
      match E.tt elem with
      | some te =>
        match x with
        | .aggl U xs => match Nat.beq (E.reg.sz U) te.size with
          | true => .fin [] [] (.vc (xs.length = len) (.all (A U) (fun y => 0 ≤ n ∧ xs[n.toNat]? = some y) fun y => optRet (rowVal te.k.isAgg te.size (E.reg.enc U y) 0)))
          | false => .no
        | x => match aggS x, n with
          | true, .ofNat j => match Nat.ble (j + 1) len with
            | true => .fin [] [] (optRet (rowVal te.k.isAgg te.size (cellsOf E.reg x) (j * te.size)))
            | false => .no
          | _, _ => .no
      | none => .no
    | .str => match x with
      | .val (.string s) => .fin [] [] (.vc (idx n s.size) (.ret (.val (.int .u8 (s.data.toList.getD n.toNat 0).toNat)) []))
      | _ => .no
    | _ => .no
  | _, _ => .no

def xfieldAddr (E : Env A) (T : TypeId) (x : SV A) (f : Nat) : QT A :=
  match E.tt T with
  | some ti =>
    match ti.k with
    | .struct fs => match nth fs f with
      | some (off, ft) => match E.tt ft with
        | some tf => match Nat.ble 1 tf.size with
          | true => match x with
            | .ptr h i sz k => .pure (.ptr h i sz (k + off))
            | .prow cs k => .pure (.prow cs (k + off))
            | _ => .no
          | false => .no
        | none => .no
      | none => .no
    | _ => .no
  | none => .no
def xfield (E : Env A) (T : TypeId) (x : SV A) (f : Nat) : QT A :=
  match E.tt T with
  | some ti =>
    match ti.k with
    | .struct fs => match nth fs f with
      | some (off, ft) => match E.tt ft, aggS x with
        | some tf, true => match rowVal tf.k.isAgg tf.size (cellsOf E.reg x) off with
          | some v => .pure v
          | none => .no
        | _, _ => .no
      | none => .no
    | _ => .no
  | none => .no

def kEq : IntKind → IntKind → Bool
  | .i8, .i8 | .i16, .i16 | .i32, .i32 | .i64, .i64 | .u8, .u8 | .u16, .u16 | .u32, .u32 | .u64, .u64 => true
  | _, _ => false
/-- A nil test of what is known not to be nil. -/
def notNil : SV A → Bool
  | .ptr .. | .prow .. => true
  | _ => false
def eq1 : TK → SV A → SV A → Option Bool
  | .int _, .val (.int k a), .val (.int j b) => match kEq k j with | true => some (a == b) | false => none
  | .bool, .val (.bool a), .val (.bool b) => some (a == b)
  | .str, .val (.string a), .val (.string b) => some (a.toList == b.toList)
  | _, _, _ => none
/-- '==' of cells, one by one: the types of the parts, each of one cell, at whose places. -/
def eqParts (tt : TypeId → Option TI) (cs ds : List (SV A)) : List (Nat × TypeId) → Option Bool
  | [] => some true
  | (off, T) :: l => match tt T, nth cs off, nth ds off with
    | some ti, some c, some e => match eq1 ti.k c e, eqParts tt cs ds l with
      | some b, some r => some (b && r)
      | _, _ => none
    | _, _, _ => none
def rng (T : TypeId) : Nat → Nat → List (Nat × TypeId)
  | _, 0 => []
  | i, n + 1 => (i, T) :: rng T (i + 1) n
def eqAgg (E : Env A) (T : TypeId) (x y : SV A) : Option Bool :=
  match E.tt T, aggS x, aggS y with
  | some ti, true, true => match ti.eq, ti.k with
    | true, .struct fs => eqParts E.tt (cellsOf E.reg x) (cellsOf E.reg y) fs
    | true, .arr n e => match E.tt e with
      | some te => match Nat.beq te.size 1 with
        | true => eqParts E.tt (cellsOf E.reg x) (cellsOf E.reg y) (rng e 0 n)
        | false => none
      | none => none
    | _, _ => none
  | _, _, _ => none
/-- A test's answer, under a name of its own. -/
def told (p : Prop) [Decidable p] : QT A := .fin [] [] (.all Bool (fun c => c = decide p) fun c => .ret (.val (.bool c)) [])
/-- A slice against nil. -/
def xnilS (E : Env A) (neg : Bool) (T : TypeId) (x : SV A) : QT A :=
  match E.tt T with
  | some ti => match ti.k with
    | .slice _ => match x with
      | .val (.slice none 0 0) => .pure (.val (.bool (!neg)))
      | .sl _ _ _ len => .fin [] [] (.vc (0 < len) (.ret (.val (.bool neg)) []))
      | .lst _ xs => .fin [] [] (.vc (0 < xs.length) (.ret (.val (.bool neg)) []))
      | _ => .no
    | _ => .no
  | none => .no
def xeq (E : Env A) (neg : Bool) (T : TypeId) (x y : SV A) : QT A :=
  match y with
  | .val (.slice none 0 0) => xnilS E neg T x
  | .val (.pointer none) => match E.tt T with
    | some ti => match ti.k, notNil x with
      | .ptr _, true => .pure (.val (.bool neg))
      | _, _ => .no
    | none => .no
  | y => match eqAgg E T x y with
    | some b => match neg with
      | true => told (b = false)
      | false => told (b = true)
    | none => .no
def xbin (E : Env A) (wr : Bool) (op : BinOp) (T : TypeId) (x y : SV A) : QT A :=
  match x, y with
  | .val (.int k a), .val (.int j b) =>
    match kEq k j with
    | false => .no
    | true =>
    match op with
    | .add => arith wr k (a + b)
    | .sub => arith wr k (a - b)
    | .mul => arith wr k (a * b)
    | .quo => .fin [] [] (.vc (b ≠ 0) (.vc (inR k (a.tdiv b)) (.ret (.val (.int k (a.tdiv b))) [])))
    | .rem => .fin [] [] (.vc (b ≠ 0) (.ret (.val (.int k (a.tmod b))) []))
    | .eql => told (a = b)
    | .neq => told (¬ a = b)
    | .lss => told (a < b)
    | .leq => told (a ≤ b)
    | .gtr => told (b < a)
    | .geq => told (b ≤ a)
    | _ => .no
  | .val (.bool a), .val (.bool b) =>
    match E.tt T with
    | some ti => match ti.k, op with
      | .bool, .eql => told (a = b)
      | .bool, .neq => told (¬ a = b)
      | _, _ => .no
    | none => .no
  | .val (.string a), .val (.string b) =>
    match op with
    | .eql => told (a.toList = b.toList)
    | .neq => told (¬ a.toList = b.toList)
    | .add => .fin [] [] (.vc (a.size + b.size ≤ 9223372036854775807) (.ret (.val (.string (a ++ b))) []))
    | _ => .no
  | x, y =>
    match op with
    | .eql => xeq E false T x y
    | .neq => xeq E true T x y
    | _ => .no

def xun (wr : Bool) (op : UnOp) (x : SV A) : QT A :=
  match op, x with
  | .not, .val (.bool b) => .pure (.val (.bool (!b)))
  | .neg, .val (.int k n) => arith wr k (0 - n)
  | _, _ => .no

def xlen (E : Env A) (T : TypeId) (x : SV A) : QT A :=
  match E.tt T with
  | some ti =>
    match ti.k with
    | .slice _ => match x with
      | .sl _ _ _ len => .pure (.val (.int .i64 len))
      | .lst _ xs => .pure (.val (.int .i64 xs.length))
      | .val (.slice _ n _) => .pure (.val (.int .i64 n))
      | _ => .no
    | .str => match x with
      | .val (.string s) => .pure (.val (.int .i64 s.size))
      | _ => .no
    | _ => .no
  | none => .no

def bnd : Option (SV A) → Option (Option Int)
  | none => some none
  | some (.val (.int _ n)) => some (some n)
  | _ => none
def lowOf : Option Int → Int
  | none => 0
  | some n => n
def xslice (E : Env A) (T : TypeId) (x : SV A) (lo hi : Option (SV A)) : QT A :=
  match E.tt T, bnd lo, bnd hi with
  | some ti, some lo, some hi =>
    let l : Int := lowOf lo
    match ti.k with
    | .slice elem => match E.tt elem with
      | some te =>
        match x with
        | .sl h sz off len => match Nat.beq sz te.size with
          | true => match hi with
            | none => .fin [] [] (.vc (0 ≤ l ∧ l ≤ len) (.ret (.sl h sz (off + l.toNat) (len - l.toNat)) []))
            | some m => .fin [] [] (.vc (0 ≤ l ∧ l ≤ m ∧ m ≤ len) (.ret (.sl h sz (off + l.toNat) (m.toNat - l.toNat)) []))
          | false => .no
        | .lst U xs => match Nat.beq (E.reg.sz U) te.size with
          | true => match hi with
            | none => .fin [] [] (.vc (0 ≤ l ∧ l ≤ xs.length) (.ret (.lst U (xs.drop l.toNat)) []))
            | some m => .fin [] [] (.vc (0 ≤ l ∧ l ≤ m ∧ m ≤ xs.length) (.ret (.lst U ((xs.take m.toNat).drop l.toNat)) []))
          | false => .no
        | _ => .no
      | none => .no
    | .str =>
      match x with
      | .val (.string s) =>
        match hi with
        | none => .fin [] [] (.vc (0 ≤ l ∧ l ≤ s.size) (.ret (.val (.string (s.extract l.toNat s.size))) []))
        | some m => .fin [] [] (.vc (0 ≤ l ∧ l ≤ m ∧ m ≤ s.size) (.ret (.val (.string (s.extract l.toNat m.toNat))) []))
      | _ => .no
    | _ => .no
  | _, _, _ => .no

/-- 'append(s, x...)': what is appended as a list of elements, then the new slice: the old name goes. -/
def appTo (E : Env A) (nm : Nat) (U : Nat) (bytes : Nat) (p : Prop) (n : Nat) (s : SV A) (ys : List (A U)) : QT A :=
  match s with
  | .val (.slice none 0 0) =>
    .fin [nm] [nm] (.vc (p ∧ n * bytes ≤ 140737488355328) (.ret (.sl nm (E.reg.sz U) 0 n) [(nm, some (.arr U ys))]))
  | .sl h sz off len => .ask h fun
    | some (.arr V xs) =>
      match Nat.beq sz (E.reg.sz U), (Nat.decEq V U : Decidable (V = U)) with
      | true, .isTrue e =>
        .fin [h, nm] [nm] (.vc (p ∧ off + len ≤ xs.length ∧ (len + n) * bytes ≤ 140737488355328)
          (.ret (.sl nm sz 0 (len + n)) [(h, none), (nm, some (.arr U (e ▸ ((xs.drop off).take len) ++ ys)))]))
      | _, _ => .no
    | _ => .no
  | _ => .no
def withBytes {β : Type 1} (te : TI) (k : Nat → β) : β := match te with | ⟨_, _, b, _, _⟩ => k b
def xappend (E : Env A) (nm : Nat) (T T2 : TypeId) (s x : SV A) : QT A :=
  match E.tt T, E.tt T2 with
  | some ti, some t2 =>
    match ti.k, t2.k with
    | .slice U, .slice _ => match E.tt U with
      | some te =>
        withBytes te fun bytes => match E.reg.has U, Nat.beq te.size (E.reg.sz U), Nat.ble 1 te.bytes, Nat.beq te.zero.cells.size te.size with
        | true, true, true, true =>
          match x with
          | .sl h sz off len => match Nat.beq sz te.size with
            | true => .ask h fun
              | some (.arr V xs) =>
                match (Nat.decEq V U : Decidable (V = U)) with
                | .isTrue e =>
                  match s with
                  | .sl h2 sz2 off2 len2 => match Nat.beq h h2 with
                    | true => .no
                    | false => appTo E nm U bytes (off + len ≤ xs.length) len (.sl h2 sz2 off2 len2) (e ▸ (xs.drop off).take len)
                  | s => appTo E nm U bytes (off + len ≤ xs.length) len s (e ▸ (xs.drop off).take len)
                | _ => .no
              | _ => .no
            | false => .no
          | .lst V xs =>
            match (Nat.decEq V U : Decidable (V = U)) with
            | .isTrue e => appTo E nm U bytes True xs.length s (e ▸ xs)
            | _ => .no
          | .val (.slice none 0 0) => appTo E nm U bytes True 0 s []
          | _ => .no
        | _, _, _, _ => .no
      | none => .no
    | _, _ => .no
  | _, _ => .no

def xmakeSlice (E : Env A) (nm : Nat) (T : TypeId) (x y : SV A) : QT A :=
  match E.tt T, x, y with
  | some ti, .val (.int .i64 l), .val (.int .i64 c) =>
    match ti.k with
    | .slice elem => match E.tt elem with
      | some te =>
        withBytes te fun bytes => match E.reg.has elem, E.reg.dec elem (zeroCellsS te.zero), Nat.beq te.zero.cells.size te.size, Nat.beq (E.reg.sz elem) te.size with
        | true, some z, true, true => .fin [nm] [nm] (.vc (l = c ∧ 0 ≤ c ∧ (bytes : Int) * c ≤ 281474976710656 ∧ c ≤ 9223372036854775807) (.ret (.sl nm te.size 0 c.toNat) [(nm, some (.arr elem (List.replicate c.toNat z)))]))
        | _, _, _, _ => .no
      | none => .no
    | _ => .no
  | _, _, _ => .no
def xmakeMap (E : Env A) (nm : Nat) (T : TypeId) : QT A :=
  match E.tt T with
  | some ti => match ti.k with
    | .map K V => .fin [nm] [nm] (.ret (.mp nm) [(nm, some (.map K V []))])
    | _ => .no
  | none => .no
def eqBB : Bool → Bool → Bool
  | true, b => b
  | false, true => false
  | false, false => true
/-- A key, read. -/
def keyOfS (E : Env A) (K : Nat) (i : SV A) : Option (A K) :=
  match E.tt K, E.key K with
  | some tk, true => match eqBB tk.k.isAgg (aggS i), eqBB tk.k.isAgg (Nat.ble 2 (E.reg.sz K)), valsOf (cellsOf E.reg i) with
    | true, true, some _ => E.reg.dec K (cellsOf E.reg i)
    | _, _, _ => none
  | _, _ => none
def xlookup (E : Env A) (T : TypeId) (x i : SV A) (ok : Bool) : QT A :=
  match E.tt T, x with
  | some ti, .mp h => match ti.k with
    | .map K0 V0 => .ask h fun
      | some (.map K V es) => match Nat.beq K K0, Nat.beq V V0, E.tt V, keyOfS E K i with
        | true, true, some tv, some k => match tv.k.isAgg, E.reg.dec V [.val tv.zero] with
          | false, some z => match ok with
            | false => .fin [] [] (.vc (E.reg.kg K k) (.all (A V) (fun y => y = (look E.reg K V es k).getD z) fun y => optRet (nth (E.reg.enc V y) 0)))
            | true => .fin [] [] (.vc (E.reg.kg K k) (.all (Option (A V)) (fun o => o = look E.reg K V es k) fun o => match o with
              | some y => match nth (E.reg.enc V y) 0 with | some s => .ret (.tup [s, .val (.bool true)]) [] | none => .fail
              | none => .ret (.tup [.val tv.zero, .val (.bool false)]) []))
          | _, _ => .no
        | _, _, _, _ => .no
      | _ => .no
    | _ => .no
  | _, _ => .no
def xmapUpdate (E : Env A) (T : TypeId) (x i v : SV A) : QT A :=
  match E.tt T, x with
  | some ti, .mp h => match ti.k with
    | .map K0 V0 => .ask h fun
      | some (.map K V es) => match Nat.beq K K0, Nat.beq V V0, v, keyOfS E K i with
        | true, true, .val u, some k => match aggS (SV.val u : SV A), E.reg.dec V [.val u] with
          | false, some y => .fin [h] [] (.vc (E.reg.kg K k) (.ret undefS [(h, some (.map K V (ins E.reg K V es k y)))]))
          | _, _ => .no
        | _, _, _, _ => .no
      | _ => .no
    | _ => .no
  | _, _ => .no
def xdelete (E : Env A) (T : TypeId) (x i : SV A) : QT A :=
  match E.tt T, x with
  | some ti, .mp h => match ti.k with
    | .map K0 _ => .ask h fun
      | some (.map K V es) => match Nat.beq K K0, keyOfS E K i with
        | true, some k => .fin [h] [] (.vc (E.reg.kg K k) (.ret undefS [(h, some (.map K V (del E.reg K V es k)))]))
        | _, _ => .no
      | _ => .no
    | _ => .no
  | _, _ => .no

/-- An integer's conversion to another integer type. -/
def xconvert (E : Env A) (src dst : TypeId) (x : SV A) : QT A :=
  match E.tt src, E.tt dst, x with
  | some _, some ti, .val (.int _ n) => match ti.k with
    | .int k => .pure (.val (.int k (k.wrap n)))
    | _ => .no
  | _, _, _ => .no
/-- 'copy' into a slice of one's own. -/
def xcopy (E : Env A) (T : TypeId) (d s : SV A) : QT A :=
  match E.tt T with
  | some ti => match ti.k with
    | .slice U => match E.tt U with
      | some te => match Nat.beq te.size (E.reg.sz U) with
        | true => match d with
          | .sl h sz off len => match Nat.beq sz te.size with
            | true => .ask h fun
              | some (.arr V xs) => match (Nat.decEq V U : Decidable (V = U)) with
                | .isTrue e => match s with
                  | .sl h2 sz2 off2 len2 => match Nat.beq sz2 te.size with
                    | true => .ask h2 fun
                      | some (.arr V2 ys) => match (Nat.decEq V2 U : Decidable (V2 = U)) with
                        | .isTrue e2 => .fin [h] [] (.vc ((0 < len ∧ 0 < len2) ∧ off + len ≤ xs.length ∧ off2 + len2 ≤ ys.length) (.ret (.val (.int .i64 ((min len2 len : Nat) : Int))) [(h, some (.arr U ((e ▸ xs).take off ++ ((e2 ▸ ys).drop off2).take (min len2 len) ++ (e ▸ xs).drop (off + min len2 len))))]))
                        | _ => .no
                      | _ => .no
                    | false => .no
                  | _ => .no
                | _ => .no
              | _ => .no
            | false => .no
          | _ => .no
        | false => .no
      | none => .no
    | _ => .no
  | none => .no

def xminmax (mx : Bool) (vs : List (SV A)) : QT A :=
  match vs with
  | [.val (.int k a), .val (.int j b)] =>
    match kEq k j with
    | true => match mx with
      | true => .pure (.val (.int k (max a b)))
      | false => .pure (.val (.int k (min a b)))
    | false => .no
  | _ => .no

def xbuiltin (E : Env A) (nm : Nat) (b : Builtin) (ats : List TypeId) (vs : Option (List (SV A))) : QT A :=
  match vs with
  | none => .no
  | some vs =>
    match b with
    | .len => match ats, vs with
      | T :: _, [x] => xlen E T x
      | _, _ => .no
    | .append => match ats, vs with
      | [T, T2], [s, x] => xappend E nm T T2 s x
      | _, _ => .no
    | .delete => match ats, vs with
      | T :: _, [x, i] => xdelete E T x i
      | _, _ => .no
    | .copy => match ats, vs with
      | T :: _, [d, s] => xcopy E T d s
      | _, _ => .no
    | .max => xminmax true vs
    | .min => xminmax false vs
    | _ => .no

def sel (b p q : Bool) : Bool := match b with | true => p | false => q
/-- 'pick': of two parts the one that was carried out. -/
def xpick (c x y : SV A) : QT A :=
  match c with
  | .val (.bool b) => match b with
    | true => .pure x
    | false => .pure y
  | _ => .no

/-- The operations that call no Go function. -/
def xop (E : Env A) (nm : Nat) (dst : Option Nat) (op : Op) (ev : Operand → Option (SV A)) : QT A :=
  let wr := match dst with | some d => E.wr d | none => false
  match op with
  | .move x | .assign x => match ev x with | some v => .pure v | none => .no
  | .pick c x y => match ev c, ev x, ev y with | some c, some x, some y => xpick c x y | _, _, _ => .no
  | .alloc T => xalloc E nm T
  | .box T x => match ev x with | some v => xbox E nm T v | none => .no
  | .build T ps => match evParts ev ps.toList with | some ps => xbuild E T ps | none => .no
  | .buildSlice T n ps => match evParts ev ps.toList with | some ps => xbuildSlice E nm T n ps | none => .no
  | .load T a => match ev a with | some a => xload E T a | none => .no
  | .store T a x => match ev a, ev x with | some a, some v => xstore E T a v | _, _ => .no
  | .nilCheck x => match ev x with
    | some v => match notNil v with | true => .pure v | false => .no
    | none => .no
  | .binOp op T x y _ => match ev x, ev y with | some a, some b => xbin E wr op T a b | _, _ => .no
  | .unOp op _ x => match ev x with | some a => xun wr op a | none => .no
  | .slice T x lo hi none => match ev x, lo, hi with
    | some v, none, none => xslice E T v none none
    | some v, some l, none => match ev l with | some l => xslice E T v (some l) none | none => .no
    | some v, none, some h => match ev h with | some h => xslice E T v none (some h) | none => .no
    | some v, some l, some h => match ev l, ev h with | some l, some h => xslice E T v (some l) (some h) | _, _ => .no
    | none, _, _ => .no
  | .fieldAddr T x f => match ev x with | some v => xfieldAddr E T v f | none => .no
  | .field T x f => match ev x with | some v => xfield E T v f | none => .no
  | .indexAddr T x i => match ev x, ev i with
    | some v, some j => match isConst i with | true => xindexAddrC E T v j | false => xindexAddr E T v j
    | _, _ => .no
  | .makeMap T none => xmakeMap E nm T
  | .makeSlice T l c => match ev l, ev c with | some v, some u => xmakeSlice E nm T v u | _, _ => .no
  | .lookup T x i ok => match ev x, ev i with | some v, some j => xlookup E T v j ok | _, _ => .no
  | .mapUpdate T x i v => match ev x, ev i, ev v with | some x, some j, some v => xmapUpdate E T x j v | _, _, _ => .no
  | .makeFunc f a b => match evs ev a.toList, evs ev b.toList with
    | some vs, some us => forceL vs fun vs => forceL us fun us => .pure (.fn f vs us)
    | _, _ => .no
  | .convert S T x => match ev x with | some v => xconvert E S T v | none => .no
  | .index T x i => match ev x, ev i with | some v, some i => xindex E T v i | _, _ => .no
  | .extract x i => match ev x with
    | some (.tup vs) => match nth vs i with | some v => .pure v | none => .no
    | _ => .no
  | .call c => match c.callee with
    | .builtin b => xbuiltin E nm b c.argTypes.toList (evs ev c.args.toList)
    | _ => .no
  | _ => .no

end Go.Sx
