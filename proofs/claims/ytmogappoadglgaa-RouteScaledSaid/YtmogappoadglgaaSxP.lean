/-
  Own tool 'Sx', part P: an operation's outcomes; what its effect looks at.
-/
import Derived.Test.YtmogappoadglgaaSxN
namespace Go.Sx
open Go
variable {A : Nat → Type}
section
variable {P : Program} {E : Env A} {st : St A} {fl : Nat → Bool}

def EB.Out : EB A → SV A → List (Nat × Option (Ct A)) → Prop
  | .ret v hs, v', hs' => v' = v ∧ hs' = hs
  | .vc _ b, v', hs' => b.Out v' hs'
  | .all _ c b, v', hs' => ∃ x, c x ∧ (b x).Out v' hs'
  | .fail, _, _ => False
theorem EB.run_out {K : SV A → List (Nat × Option (Ct A)) → Prop} : ∀ {e : EB A}, e.run K → ∀ v hs, e.Out v hs → K v hs
  | .ret _ _, hr, _, _, ho => by obtain ⟨rfl, rfl⟩ := ho; exact hr
  | .vc _ _, hr, v, hs, ho => run_out hr.2 v hs ho
  | .all _ _ _, hr, v, hs, ⟨x, hx, ho⟩ => run_out (hr.2 x hx) v hs ho
  | .fail, hr, _, _, _ => hr.elim
theorem EB.run_ex {K : SV A → List (Nat × Option (Ct A)) → Prop} : ∀ {e : EB A}, e.run K → ∃ v hs, e.Out v hs ∧ K v hs
  | .ret v hs, hr => ⟨v, hs, ⟨rfl, rfl⟩, hr⟩
  | .vc _ b, hr => run_ex (e := b) hr.2
  | .all _ _ _, hr => by
    obtain ⟨x, hx⟩ := hr.1
    obtain ⟨v, hs, h1, h2⟩ := run_ex (hr.2 x hx)
    exact ⟨v, hs, ⟨x, hx, h1⟩, h2⟩
  | .fail, hr => hr.elim
theorem EB.run_of {K K' : SV A → List (Nat × Option (Ct A)) → Prop} : ∀ {e : EB A}, e.run K' → (∀ v hs, e.Out v hs → K v hs) → e.run K
  | .ret v hs, _, h => h v hs ⟨rfl, rfl⟩
  | .vc _ _, hr, h => ⟨hr.1, run_of hr.2 h⟩
  | .all _ _ _, hr, h => ⟨hr.1, fun x hx => run_of (hr.2 x hx) fun v hs ho => h v hs ⟨x, hx, ho⟩⟩
  | .fail, hr, _ => hr

def Det (e : EB A) : Prop := ∀ v hs v' hs', e.Out v hs → e.Out v' hs' → v = v' ∧ hs = hs'
def Ins (W : List Nat) (e : EB A) : Prop := ∀ v hs, e.Out v hs → ∀ p ∈ hs, p.1 ∈ W
def QT.Ok : QT A → Prop
  | .ask _ k => ∀ c, (k c).Ok
  | .fin W _ b => Det b ∧ Ins W b
theorem QT.Ok.go {look : Nat → Option (Ct A)} : ∀ {q : QT A} {R : List Nat}, q.Ok → Det (q.go look R).b ∧ Ins (q.go look R).W (q.go look R).b
  | .ask h k, _, hq => QT.Ok.go (q := k (look h)) (hq (look h))
  | .fin _ _ _, _, hq => hq
theorem okRet {W new : List Nat} {v : SV A} {hs : List (Nat × Option (Ct A))} (h : ∀ p ∈ hs, p.1 ∈ W) : (QT.fin W new (.ret v hs)).Ok :=
  ⟨fun _ _ _ _ h1 h2 => ⟨h1.1.trans h2.1.symm, h1.2.trans h2.2.symm⟩, fun _ _ h1 p hp => h p (h1.2 ▸ hp)⟩
theorem okPure {v : SV A} : (QT.pure v).Ok := okRet fun _ h => by cases h
theorem okFail {W new : List Nat} : (QT.fin W new (.fail : EB A)).Ok := ⟨fun _ _ _ _ h => h.elim, fun _ _ h => h.elim⟩
theorem okNo : (QT.no : QT A).Ok := okFail
theorem okVc {W new : List Nat} {p : Prop} {b : EB A} (h : (QT.fin W new b).Ok) : (QT.fin W new (.vc p b)).Ok := h
theorem okAll {W new : List Nat} {α : Type} {c : α → Prop} {b : α → EB A} (hu : ∀ x y, c x → c y → x = y) (h : ∀ x, (QT.fin W new (b x)).Ok) : (QT.fin W new (.all α c b)).Ok :=
  ⟨fun v hs v' hs' ⟨x, hx, ho⟩ ⟨y, hy, ho'⟩ => by
    have := hu x y hx hy
    subst this
    exact (h x).1 v hs v' hs' ho ho', fun v hs ⟨x, _, ho⟩ => (h x).2 v hs ho⟩
theorem okOpt {W new : List Nat} {o : Option (SV A)} : (QT.fin W new (optRet o)).Ok := by
  cases o
  · exact okFail
  · exact okRet fun _ h => by cases h
theorem okAsk {h : Nat} {k : Option (Ct A) → QT A} (hk : ∀ c, (k c).Ok) : (QT.ask h k).Ok := hk
theorem uniq1 {α : Type} {xs : List α} {i : Nat} : ∀ x y, xs[i]? = some x → xs[i]? = some y → x = y := fun x y h1 h2 => by rw [h1] at h2; cases h2; rfl
theorem uniq2 {α : Type} {xs : List α} {i : Nat} {p : Prop} : ∀ x y, (p ∧ xs[i]? = some x) → (p ∧ xs[i]? = some y) → x = y := fun x y h1 h2 => uniq1 x y h1.2 h2.2

theorem xload_ok {T : TypeId} {a : SV A} : (xload E T a).Ok := by
  unfold xload
  repeat' first
    | exact okNo
    | exact okOpt
    | exact okPure
    | exact okFail
    | exact okRet (by simp)
    | exact okAll uniq1 fun _ => okOpt
    | exact okVc (okRet (by simp))
    | refine okAsk fun _ => ?_
    | split
theorem xstore_ok {T : TypeId} {a v : SV A} : (xstore E T a v).Ok := by
  unfold xstore
  simp only [forceL_eq]
  repeat' first
    | exact okNo
    | exact okFail
    | exact okRet (by simp)
    | exact okVc (okRet (by simp))
    | refine okAll uniq1 fun _ => ?_
    | refine okAsk fun _ => ?_
    | split
theorem told_ok {p : Prop} [Decidable p] : (told p : QT A).Ok := okAll (fun _ _ h1 h2 => h1.trans h2.symm) fun _ => okRet (by simp)
theorem xbin_ok {wr : Bool} {op : BinOp} {T : TypeId} {x y : SV A} : (xbin E wr op T x y).Ok := by
  unfold xbin arith xeq xnilS
  repeat' first
    | exact told_ok
    | exact okNo
    | exact okPure
    | exact okVc (okRet (by simp))
    | exact okVc (okVc (okRet (by simp)))
    | split
theorem xslice_ok {T : TypeId} {x : SV A} {lo hi : Option (SV A)} : (xslice E T x lo hi).Ok := by
  unfold xslice
  repeat' first
    | exact okNo
    | exact okPure
    | exact okVc (okRet (by simp))
    | split
theorem xaddr_ok {T : TypeId} {x i : SV A} : (xindexAddr E T x i).Ok := by
  unfold xindexAddr
  repeat' first
    | exact okNo
    | exact okVc (okRet (by simp))
    | exact okAll uniq2 fun _ => okRet (by simp)
    | split
theorem xaddrC_ok {T : TypeId} {x i : SV A} : (xindexAddrC E T x i).Ok := by
  unfold xindexAddrC
  repeat' first
    | exact okNo
    | exact okPure
    | exact xaddr_ok
    | split
theorem uniq3 {α : Type} {z : α} : ∀ x y : α, x = z → y = z → x = y := fun _ _ h1 h2 => h1.trans h2.symm
theorem xlookup_ok {T : TypeId} {x i : SV A} {ok : Bool} : (xlookup E T x i ok).Ok := by
  unfold xlookup
  repeat' first
    | exact okNo
    | exact okFail
    | exact okRet (by simp)
    | exact okVc (okAll uniq3 fun _ => okOpt)
    | refine okVc (okAll uniq3 fun _ => ?_)
    | refine okAsk fun _ => ?_
    | split
theorem xmapUpdate_ok {T : TypeId} {x i v : SV A} : (xmapUpdate E T x i v).Ok := by
  unfold xmapUpdate
  repeat' first
    | exact okNo
    | exact okVc (okRet (by simp))
    | refine okAsk fun _ => ?_
    | split
theorem xconvert_ok {S T : TypeId} {x : SV A} : (xconvert E S T x).Ok := by
  unfold xconvert
  repeat' first
    | exact okNo
    | exact okPure
    | split
theorem xcopy_ok {T : TypeId} {x y : SV A} : (xcopy E T x y).Ok := by
  unfold xcopy
  repeat' first
    | exact okNo
    | exact okVc (okRet (by simp))
    | refine okAsk fun _ => ?_
    | split
theorem xdelete_ok {T : TypeId} {x i : SV A} : (xdelete E T x i).Ok := by
  unfold xdelete
  repeat' first
    | exact okNo
    | exact okVc (okRet (by simp))
    | refine okAsk fun _ => ?_
    | split
theorem xmakeMap_ok {nm : Nat} {T : TypeId} : (xmakeMap E nm T).Ok := by
  unfold xmakeMap
  repeat' first
    | exact okNo
    | exact okRet (by simp)
    | split
theorem xmakeSlice_ok {nm : Nat} {T : TypeId} {x y : SV A} : (xmakeSlice E nm T x y).Ok := by
  unfold xmakeSlice
  simp only [withBytes_eq]
  repeat' first
    | exact okNo
    | exact okVc (okRet (by simp))
    | split
theorem xindex_ok {T : TypeId} {x i : SV A} : (xindex E T x i).Ok := by
  unfold xindex
  repeat' first
    | exact okNo
    | exact okOpt
    | exact okVc (okRet (by simp))
    | exact okVc (okAll uniq2 fun _ => okOpt)
    | split
theorem appTo_ok {nm U bytes nn : Nat} {p : Prop} {s : SV A} {ys : List (A U)} : (appTo E nm U bytes p nn s ys).Ok := by
  unfold appTo
  repeat' first
    | exact okNo
    | exact okVc (okRet (by simp))
    | refine okAsk fun _ => ?_
    | split
theorem xappend_ok {nm : Nat} {T T2 : TypeId} {s x : SV A} : (xappend E nm T T2 s x).Ok := by
  unfold xappend
  simp only [withBytes_eq]
  repeat' first
    | exact okNo
    | exact appTo_ok
    | refine okAsk fun _ => ?_
    | split
theorem xnew_ok {nm : Nat} {ct : Ct A} {v : SV A} : (QT.fin [nm] [nm] (.ret v [(nm, some ct)])).Ok := okRet (by simp)
theorem xop_ok {nm : Nat} {dst : Option Nat} {op : Op} {ev : Operand → Option (SV A)} : (xop E nm dst op ev).Ok := by
  unfold xop xpick xalloc xbox xbuild xbuildSlice xfieldAddr xfield xun xbuiltin xlen xminmax arith
  simp only [forceL_eq]
  repeat' first
    | exact okNo
    | exact okPure
    | exact okFail
    | exact okVc (okRet (by simp))
    | exact okRet (by simp)
    | exact xnew_ok
    | exact xload_ok
    | exact xstore_ok
    | exact xbin_ok
    | exact xslice_ok
    | exact xaddr_ok
    | exact xaddrC_ok
    | exact xlookup_ok
    | exact xmapUpdate_ok
    | exact xmakeMap_ok
    | exact xdelete_ok
    | exact xconvert_ok
    | exact xcopy_ok
    | exact xmakeSlice_ok
    | exact xindex_ok
    | exact xappend_ok
    | split

/-! ### What an effect looks at -/
theorem go_R {look : Nat → Option (Ct A)} : ∀ {q : QT A} {R : List Nat}, ∀ h ∈ R, h ∈ (q.go look R).R
  | .ask _ k, _, h, hm => go_R (q := k _) h (List.mem_cons_of_mem _ hm)
  | .fin _ _ _, _, _, hm => hm
theorem go_local {look look' : Nat → Option (Ct A)} : ∀ {q : QT A} {R : List Nat}, (∀ h ∈ (q.go look R).R, look h = look' h) → q.go look' R = q.go look R
  | .ask h k, R, hl => by
    have h0 : look h = look' h := hl h (go_R (q := k (look h)) h (by simp))
    show (k (look' h)).go look' (h :: R) = (k (look h)).go look (h :: R)
    rw [← h0]
    exact go_local hl
  | .fin _ _ _, _, _ => rfl
theorem evs_congr {f g : Operand → Option (SV A)} : ∀ {l : List Operand}, (∀ x ∈ l, f x = g x) → evs f l = evs g l
  | [], _ => rfl
  | x :: l, h => by simp only [evs, h x (by simp), evs_congr fun y hy => h y (List.mem_cons_of_mem _ hy)]
theorem evParts_congr {f g : Operand → Option (SV A)} : ∀ {l : List (Nat × Operand)}, (∀ x ∈ l.map (·.2), f x = g x) → evParts f l = evParts g l
  | [], _ => rfl
  | (i, x) :: l, h => by simp only [evParts, h x (by simp), evParts_congr fun y hy => h y (List.mem_cons_of_mem _ hy)]
theorem xop_congr {nm : Nat} {dst : Option Nat} {op : Op} {f g : Operand → Option (SV A)} (h : ∀ x ∈ op.operands, f x = g x) : xop E nm dst op f = xop E nm dst op g := by
  cases op <;> simp only [Op.operands] at h <;> simp only [xop]
  case build t ps => rw [evParts_congr fun x hx => h x (by simpa using hx)]
  case buildSlice t n ps => rw [evParts_congr fun x hx => h x (by simpa using hx)]
  case slice t x lo hi mx =>
    have hx := h x (by simp)
    have hl : ∀ y, lo = some y → f y = g y := fun y e => h y (by subst e; simp)
    have hh : ∀ y, hi = some y → f y = g y := fun y e => h y (by subst e; simp)
    cases mx with
    | some _ => rfl
    | none =>
      cases lo <;> cases hi <;> dsimp only <;> rw [hx] <;> cases g x <;> simp_all
  case call c =>
    split
    · rename_i b hb
      rw [evs_congr fun x hx => h x (by simp [Call.operands, hb]; simpa using hx)]
    · rfl
  case makeMap t r => cases r <;> rfl
  case makeFunc fn va vb =>
    rw [evs_congr (l := va.toList) fun x hx => h x (by simp; simp at hx; exact .inl hx), evs_congr (l := vb.toList) fun x hx => h x (by simp; simp at hx; exact .inr hx)]
  all_goals (first | rfl | (simp_all; done))
end
end Go.Sx
