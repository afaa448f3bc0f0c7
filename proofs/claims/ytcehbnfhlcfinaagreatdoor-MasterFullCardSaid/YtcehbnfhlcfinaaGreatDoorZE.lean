/- Own texts of the proof, merged: SxW SxX PickA MOk MOk2 Wd MLay MNam MBld MBy MOnc MClo MUtf MQuo MNum MTop. -/
import Derived.ProofKit
import Derived.Below
import Derived.ChangeSame
import Derived.ChangeOld
import Derived.OpenShut
import Derived.SizedLaws
import Derived.Deep.Slices
import Derived.Tactics
import Derived.Tactics2
import Derived.Defers
import Derived.Laws.Pointers
import Derived.Laws.LoneSync
import Derived.RegionTactic
import Derived.RegionCalls
import Derived.Shelf.Strings.AsciiSet
import Derived.Lib.Bytealg
import Derived.Lib.Strings
import Derived.Shelf.Strings.Builder2
import Derived.Shelf.Strings.BuilderRune
import Derived.Shelf.Strings.BuilderK
import Derived.WalkKit
import Derived.BigCall
import Derived.Shelf.Strconv.Itoa3
import Derived.Test.YtcehbnfhlcfinaaGreatDoorZD
set_option linter.unusedVariables false
set_option linter.unusedSimpArgs false
set_option maxHeartbeats 8000000
namespace Go.Sx
open Go Go.Proofs Go.Proofs.YtcehbnfhlcfinaaGreatDoor
theorem meets {f : FuncId} {fn : Func} (hf : Tryz.prog.funcs[f]? = some fn) {s : Spec AF} (n : Nat) (wr : Nat → Bool)
  (h : XFun Tryz.prog (envF n wr) flF fn (fn.body.getD .skip) s) (hn : n = fn.ntmps := by rfl) (hname : (fn.name == "runtime.NumGoroutine") = false := by kernel_rfl) (hb : fn.body = some (fn.body.getD .skip) := by kernel_rfl) : Meets Tryz.prog regF f s:=
 meets_of_XFun (E:=envF n wr) mixed (env_ok n wr) flF_ok hf hname hb hn (Nat.zero_le _) (fun _ _=>trivial) h
@[reducible] noncomputable def envC (n : Nat) (wr : Nat → Bool) : Env AF:=⟨tyTree.get,regF,wr,n,keyB,0,fun _ _=>True,true,true,bldB,rowB,false⟩
theorem meetsC {f : FuncId} {fn : Func} (hf : Tryz.prog.funcs[f]? = some fn) {s : Spec AF} (n : Nat) (wr : Nat → Bool)
  (h : XFun Tryz.prog (envC n wr) flF fn (fn.body.getD .skip) s) (hn : n = fn.ntmps := by rfl) (hname : (fn.name == "runtime.NumGoroutine") = false := by kernel_rfl) (hb : fn.body = some (fn.body.getD .skip) := by kernel_rfl) : Meets Tryz.prog regF f s:=
 meets_of_XFun (E:=envC n wr) mixed ⟨(env_ok n wr).tt,(env_ok n wr).keyed,(env_ok n wr).keys⟩ flF_ok hf hname hb hn (Nat.zero_le _) (fun _ _=>trivial) h
@[reducible] noncomputable def envB (n : Nat) (wr : Nat → Bool) : Env AF:=⟨tyTree.get,regF,wr,n,keyB,0,fun _ _=>True,true,false,fun _=>false,rowB,false⟩
theorem meetsB {f : FuncId} {fn : Func} (hf : Tryz.prog.funcs[f]? = some fn) {s : Spec AF} (n : Nat) (wr : Nat → Bool)
  (h : XFun Tryz.prog (envB n wr) flF fn (fn.body.getD .skip) s) (hn : n = fn.ntmps := by rfl) (hname : (fn.name == "runtime.NumGoroutine") = false := by kernel_rfl) (hb : fn.body = some (fn.body.getD .skip) := by kernel_rfl) : Meets Tryz.prog regF f s:=
 meets_of_XFun (E:=envB n wr) mixed ⟨(env_ok n wr).tt,(env_ok n wr).keyed,(env_ok n wr).keys⟩ flF_ok hf hname hb hn (Nat.zero_le _) (fun _ _=>trivial) h
@[reducible] noncomputable def envT (n : Nat) (wr : Nat → Bool) : Env AF:=⟨tyTree.get,regF,wr,n,keyB,0,fun _ _=>True,true,false,bldB,rowB,true⟩
theorem meetsT {f : FuncId} {fn : Func} (hf : Tryz.prog.funcs[f]? = some fn) {s : Spec AF} (n : Nat) (wr : Nat → Bool)
  (h : XFun Tryz.prog (envT n wr) flF fn (fn.body.getD .skip) s) (hn : n = fn.ntmps := by rfl) (hname : (fn.name == "runtime.NumGoroutine") = false := by kernel_rfl) (hb : fn.body = some (fn.body.getD .skip) := by kernel_rfl) : Meets Tryz.prog regF f s:=
 meets_of_XFun (E:=envT n wr) mixed ⟨(env_ok n wr).tt,(env_ok n wr).keyed,(env_ok n wr).keys⟩ flF_ok hf hname hb hn (Nat.zero_le _) (fun _ _=>trivial) h
@[reducible] noncomputable def envY (n : Nat) (wr : Nat → Bool) (k : Nat) (Y : World → Rho → Prop) : Env AF:=⟨tyTree.get,regF,wr,n,keyB,k,Y,true,false,bldB,rowB,false⟩
theorem meetsIt {f : FuncId} {fn : Func} (hf : Tryz.prog.funcs[f]? = some fn) {k : Nat} {sy : Spec AF} {sp : Nat → Spec AF} (n : Nat) (wr : Nat → Bool) (hn : n = fn.ntmps) (hname : (fn.name == "runtime.NumGoroutine") = false) (hb : fn.body = some (fn.body.getD .skip)) (hk : k ≤ 1000)
  (h : ∀ (l : Nat) (Y : World → Rho → Prop),MeetsY Tryz.prog regF Y l sy → XFun Tryz.prog (envY n wr k Y) flF fn (fn.body.getD .skip) (sp l)) : MeetsIt Tryz.prog regF k sy f sp:=
 meetsIt_of_XFun (E:=envF n wr) mixed (env_ok n wr) flF_ok hf hname hb hn hk h
abbrev noWr : Nat → Bool:=fun _=>false
abbrev vI (n : Int) : SV AF:=.val (.int .i64 n)
abbrev vB (b : Bool) : SV AF:=.val (.bool b)
theorem tell {p : Prop} [Decidable p] {K : Bool → Prop} (h1 : p → K true) (h2 : ¬ p → K false) : (∃ c,c = decide p) ∧ ∀ c,c = decide p → K c:=
 ⟨⟨_,rfl⟩,fun c hc=>by
  subst hc
  by_cases h : p
  ·rw [decide_eq_true h]; exact h1 h
  ·rw [decide_eq_false h]; exact h2 h⟩
theorem tell0 {p : Prop} [Decidable p] {K : Bool → Prop} (h : K (decide p)) : (∃ c,c = decide p) ∧ ∀ c,c = decide p → K c:=⟨⟨_,rfl⟩,fun c hc=>by subst hc; exact h⟩
theorem inI {z : Int} (h : -9223372036854775808 ≤ z ∧ z ≤ 9223372036854775807) : inR .i64 z:=h
theorem eI {R : Reg AF} {st : St AF} {a b : Int} (h : a = b) : EntR R st (vI a) (vI b):=congrArg vI h
theorem eB {R : Reg AF} {st : St AF} {a b : Bool} (h : a = b) : EntR R st (vB a) (vB b):=congrArg vB h
theorem vc0 {p q r s t : Prop} (hp : p) (hq : q) (hr : r) (hs : s) (ht : t) : p ∧ q ∧ r ∧ s ∧ t:=⟨hp,hq,hr,hs,ht⟩
def InI (n : Int) : Prop:=-9223372036854775808 ≤ n ∧ n ≤ 9223372036854775807
end Go.Sx
namespace Go.Sx
open Go Go.Proofs Go.Proofs.YtcehbnfhlcfinaaGreatDoor
open Go.ChangeShapes Go.WideShapes Go.RowKit
section
variable {H : Type} {enc : TypeId × Value → H} {P : Program}
theorem trodAll_stays (hl : laidOutB P = true) {W W' : World} {sp : Nat → Bool} : ∀ {ts : List TypeId} {vs : List Value} {ds : List (DataW H)} {ps : List MemPlace},
  (ts.all fun t=>P.readableRec t && decide (t < P.types.size)) = true → DataW.TrodAll enc P W 0 (fun _=>true) true ts vs ds ps →
  (∀ p ∈ ps,W.sameAt W' p) → (∀ p ∈ ps,sp p.block = true) → DataW.TrodAll enc P W' 0 sp true ts vs ds ps
 | [],[],[],_,_,h,_,_=>h
 | t :: ts,v :: vs,d :: ds,ps,hr,h,hs,hp=>by
  obtain ⟨p,q,h1,h2,rfl⟩:=h
  simp only [List.all_cons,Bool.and_eq_true,decide_eq_true_eq] at hr
  exact ⟨p,q,WideElems.Trod_stays hl hr.1.1 hr.1.2 h1 (fun x hx=>hs x (List.mem_append_left _ hx)) (fun x hx=>hp x (List.mem_append_left _ hx)),
   trodAll_stays hl (by simpa using hr.2) h2 (fun x hx=>hs x (List.mem_append_right _ hx)) (fun x hx=>hp x (List.mem_append_right _ hx)),rfl⟩
 | [],_ :: _,_,_,_,h,_,_=>h.elim
 | [],[],_ :: _,_,_,h,_,_=>h.elim
 | _ :: _,[],_,_,_,h,_,_=>h.elim
 | _ :: _,_ :: _,[],_,_,h,_,_=>h.elim
def Says (w : World) (s : SV AF) (v : Value) : Prop:=∀ (ρ : Rho) (O : Nat → Prop),(∀ b,¬ O b) → Den regF ρ O w s v
def SaysL (w : World) (ss : List (SV AF)) (cs : List Value) : Prop:=ss.length = cs.length ∧ ∀ (j : Nat) s v,ss[j]? = some s → cs[j]? = some v → Says w s v
def Rd (P : Program) (e : TypeId) (good : AF e → Prop) : Prop:=∀ {H : Type} {enc : TypeId × Value → H} {w : World} {sp : Nat → Bool} {n : Nat} {cs : List Value} {x : DataW H × List MemPlace},
 DataW.trod enc P w 0 sp true n e cs = some x → ∃ y : AF e,good y ∧ SaysL w (regF.enc e y) cs
def RdA (P : Program) {α : Type} (t : TypeId) (f : α → SV AF) (good : α → Prop) : Prop:=∀ {H : Type} {enc : TypeId × Value → H} {w : World} {sp : Nat → Bool} {base : Nat} {v : Value} {d : DataW H} {ps : List MemPlace},
 DataW.Trod enc P w 0 sp true t v d ps → Value.okWide P w .any base t v → ∃ y : α,good y ∧ Says w (f y) v
theorem saysL_nil {w : World} : SaysL w [] []:=⟨rfl,fun j s v h=>by simp at h⟩
theorem saysL_cons {w : World} {s : SV AF} {v : Value} {ss : List (SV AF)} {cs : List Value} (h : Says w s v) (h2 : SaysL w ss cs) : SaysL w (s :: ss) (v :: cs):=
 ⟨by simp [h2.1],fun j t u ht hu=>by
  cases j with
  | zero=>simp at ht hu; subst ht; subst hu; exact h
  | succ j=>exact h2.2 j t u (by simpa using ht) (by simpa using hu)⟩
theorem says_val {w : World} (v : Value) : Says w (.val v) v:=fun _ _ _=>.val v
theorem wf_i64 {n : Int} (h : (Lit.int .i64 n).wf = true) : InI n:=by
 simp [Lit.wf,IntKind.min,IntKind.max,IntKind.bits,IntKind.signed] at h
 exact ⟨by omega,by omega⟩
theorem rd_slice {t e : TypeId} {good : AF e → Prop} (ht : P.underlying t = some (.slice e)) (hsz : P.cellsOf e = regF.sz e) (hpos : 1 ≤ regF.sz e) (hr : Rd P e good) :
  ∀ {H : Type} {enc : TypeId × Value → H} {w : World} {sp : Nat → Bool} {n : Nat} {cs : List Value} {x : DataW H × List MemPlace},DataW.trod enc P w 0 sp true n t cs = some x →
   ∃ xs : List (AF e),(xs.length ≤ 9223372036854775807 ∧ ∀ y ∈ xs,good y) ∧ SaysL w [.lst e xs] cs ∧ (xs = [] ∨ ∃ elems spare,x.1 = .slice elems spare ∧ xs.length = elems.length):=by
 intro H enc w sp n cs x h
 rcases Deep.open_slice ht h with ⟨rfl,_⟩ | ⟨⟨b,off,spot⟩,len,cap,m,k,D,Pl,rfl,_,hl,hcap,hm,hxe,hx⟩
 ·exact ⟨[],⟨Nat.zero_le _,fun _ h=>by simp at h⟩,saysL_cons (fun _ _ _=>.lnil e 0 rfl) saysL_nil,.inl rfl⟩
 have hlm : len ≤ m:=by rw [hm]; split <;> omega
 rw [hsz] at hx
 have each : ∀ i,i < len → ∃ y : AF e,good y ∧ ∃ cs' : List Value,SaysL w (regF.enc e y) cs' ∧ ∀ j,j < regF.sz e → w.cell? ((⟨b,off,spot⟩ : Addr).add (i * regF.sz e + j)) = cs'[j]?:=fun i hi=>by
  have hobt:=hx i (by omega)
  obtain ⟨cs',h1,h2⟩:=hobt
  have hobt:=World.cells?_some h1
  obtain ⟨_,hlen,hc⟩:=hobt
  have hobt:=hr h2
  obtain ⟨y,g1,g2⟩:=hobt
  exact ⟨y,g1,cs',g2,fun j hj=>by rw [← hc j hj,Deep.add_add]⟩
 by_cases h0 : len = 0
 ·subst h0
  exact ⟨[],⟨Nat.zero_le _,fun _ h=>by simp at h⟩,saysL_cons (fun _ _ _=>.lempty e _ cap (by simp)) saysL_nil,.inl rfl⟩
 have hobt:=each 0 (by omega)
 obtain ⟨y0,_,cs0,hs0,hc0⟩:=hobt
 haveI : Nonempty (AF e):=⟨y0⟩
 obtain ⟨F,hF⟩ : ∃ F : Nat → AF e,∀ i,i < len → good (F i) ∧ ∃ cs' : List Value,SaysL w (regF.enc e (F i)) cs' ∧ ∀ j,j < regF.sz e → w.cell? ((⟨b,off,spot⟩ : Addr).add (i * regF.sz e + j)) = cs'[j]?:=by
  classical
  exact ⟨fun i=>if hi : i < len then Classical.choose (each i hi) else y0,fun i hi=>by simp only [dif_pos hi]; exact Classical.choose_spec (each i hi)⟩
 have hlen0 : cs0.length = regF.sz e:=by rw [← hs0.1]; exact regF.len e y0
 have hcell0 : w.cell? ((⟨b,off,spot⟩ : Addr).add 0) = some cs0[0]:=by
  have:=hc0 0 hpos
  rw [Nat.zero_mul,Nat.zero_add] at this
  rw [this]; exact List.getElem?_eq_getElem (by omega)
 have hspot : spot = none:=by simpa [Addr.add] using World.cell?_spot hcell0
 subst hspot
 rw [add_off,Nat.add_zero] at hcell0
 unfold World.cell? at hcell0
 dsimp only at hcell0
 split at hcell0
 ·rename_i c T fz hb
  have hcell : ∀ i,i < len → ∀ j,j < regF.sz e → ∀ v,w.cell? ((⟨b,off,none⟩ : Addr).add (i * regF.sz e + j)) = some v → c[off + i * regF.sz e + j]? = some v:=fun i hi j hj v hv=>by
   rw [add_off,cell_at hb] at hv
   rw [Nat.add_assoc]; exact hv
  have hxs : ∀ (i : Nat) y,((List.range len).map F)[i]? = some y → i < len ∧ y = F i:=fun i y hy=>by
   have hlt : i < len:=by simpa using (List.getElem?_eq_some_iff.1 hy).1
   simp [hlt] at hy
   exact ⟨hlt,hy.symm⟩
  refine ⟨(List.range len).map F,⟨by simp only [List.length_map,List.length_range]; simp only [maxLen] at hcap; omega,fun y hy=>?_⟩,saysL_cons (fun ρ O hO=>?_) saysL_nil,.inr ⟨(List.range len).map D,_,by rw [hxe],by simp⟩⟩
  ·have hobt:=List.mem_map.1 hy
   obtain ⟨i,hi,rfl⟩:=hobt
   exact (hF i (by simpa using hi)).1
  ·have key:=Den.lst (R:=regF) (ρ:=ρ) (O:=O) (w:=w) e ((List.range len).map F) b off cap c T fz (fun i j=>c.getD (off + i * regF.sz e + j) undef) (hO b) hb (by simpa using hl)
    (fun i y hy j hj=>by
     have hobt:=hxs i y hy
     obtain ⟨hi,rfl⟩:=hobt
     have hobt:=hF i hi
     obtain ⟨_,cs',g1,g2⟩:=hobt
     have hlen : cs'.length = regF.sz e:=by rw [← g1.1]; exact regF.len e (F i)
     have:=hcell i hi j hj cs'[j] (by rw [g2 j hj]; exact List.getElem?_eq_getElem (by omega))
     simp [this])
    (fun i y hy j s hs=>by
     have hobt:=hxs i y hy
     obtain ⟨hi,rfl⟩:=hobt
     have hobt:=hF i hi
     obtain ⟨_,cs',g1,g2⟩:=hobt
     have hlen : cs'.length = regF.sz e:=by rw [← g1.1]; exact regF.len e (F i)
     have hj : j < regF.sz e:=by rw [← regF.len e (F i)]; exact (List.getElem?_eq_some_iff.1 hs).1
     have:=hcell i hi j hj cs'[j] (by rw [g2 j hj]; exact List.getElem?_eq_getElem (by omega))
     have e2 : c.getD (off + i * regF.sz e + j) undef = cs'[j]:=by simp [this]
     rw [e2]
     exact g1.2 j s _ hs (List.getElem?_eq_getElem (by omega)) ρ O hO)
   simpa using key
 ·cases hcell0
theorem rdN_slice {t e : TypeId} {good : AF e → Prop} (ht : P.underlying t = some (.slice e)) (hsz : P.cellsOf e = regF.sz e) (hpos : 1 ≤ regF.sz e) (hr : Rd P e good) : RdA P t (fun xs : List (AF e)=>.lst e xs) (fun xs=>xs.length ≤ 9223372036854775807 ∧ ∀ y ∈ xs,good y):=by
 intro H enc w sp base v d ps h hv
 obtain ⟨n,hn⟩:=h
 have hobt:=okWide_slice ht hv
 obtain ⟨a,len,cap,rfl⟩:=hobt
 have hobt:=rd_slice ht hsz hpos hr hn
 obtain ⟨xs,h1,h2,_⟩:=hobt
 exact ⟨xs,h1,h2.2 0 _ _ rfl rfl⟩
theorem rd_int_of {e : TypeId} (he : P.underlying e = some (.int .i64)) {H : Type} {enc : TypeId × Value → H} {w : World} {sp : Nat → Bool} {n : Nat} {cs : List Value} {x : DataW H × List MemPlace}
  (h : DataW.trod enc P w 0 sp true n e cs = some x) : ∃ z : Int,InI z ∧ cs = [.int .i64 z]:=by
 have hobt:=DataW.trod_int he h
 obtain ⟨z,h1,_,h3⟩:=hobt
 exact ⟨z,wf_i64 h3,h1⟩
theorem rd_ints_of {t e : TypeId} {k : Nat} (ht : P.underlying t = some (.array k e)) (he : P.underlying e = some (.int .i64)) (hc : P.cellsOf t = k) (hce : P.cellsOf e = 1) {H : Type} {enc : TypeId × Value → H} {w : World} {sp : Nat → Bool} {n : Nat} {cs : List Value} {x : DataW H × List MemPlace}
  (h : DataW.trod enc P w 0 sp true n t cs = some x) : cs.length = k ∧ ∀ i,i < k → ∃ z : Int,InI z ∧ cs[i]? = some (.int .i64 z):=by
 have hobt:=DataW.trod_array ht h
 obtain ⟨xs,m,rfl,rfl,hl,hxl,hx⟩:=hobt
 refine ⟨by omega,fun i hi=>?_⟩
 have h2:=hx i hi
 rw [hce,Nat.mul_one,List.getElem?_eq_getElem (by omega : i < xs.length)] at h2
 have hobt:=rd_int_of he h2
 obtain ⟨z,h3,h4⟩:=hobt
 refine ⟨z,h3,?_⟩
 have h5 : ((cs.drop i).take 1)[0]? = some (.int .i64 z):=by rw [h4]; rfl
 rw [List.getElem?_take,if_pos (by omega),List.getElem?_drop] at h5
 exact h5
def spLaw {γ : Type} (args : γ → List (SV AF)) (pre : γ → Prop) : Spec AF where
 γ:=γ
 args:=args
 pre:=pre
 res:=fun _ _=>vB true
theorem post_of_below {f : Func} {s : ChangeSpec} {apart fresh handsOn again : Bool} {W W' : World} {args : Array Value} {v : Value} {ds gs : List (DataW H)} {before pa pv : List MemPlace}
  (hW : DataW.Whole enc P f.params.toList s.vars apart W args.toList ds gs before)
  (hres : ∀ (b : Nat) (sp : Nat → Bool) (hd : Bool),DataW.TrodAll enc P W' b sp hd f.resultTypes.toList (v.resultList f.resultTypes.size) (s.fn H (ds ++ gs)).results [])
  (hargs : ∀ sp : Nat → Bool,(∀ p ∈ before,sp p.block = true) → DataW.TrodAll enc P W' 0 sp true f.params.toList args.toList (s.fn H (ds ++ gs)).args pa)
  (hvars : ∀ sp : Nat → Bool,(∀ p ∈ before,sp p.block = true) → DataW.TrodVars enc P W' sp s.vars (s.fn H (ds ++ gs)).vars pv)
  (hps : before = pa ++ pv) (hb : Below W.heap.size W W')
  (hok : ∀ (j : Nat) (t : TypeId) (r : Value),f.resultTypes[j]? = some t → (v.resultList f.resultTypes.size)[j]? = some r → Value.okWide P W' .any 0 t r) :
  s.post enc P f apart fresh handsOn again W args v W':=by
 have hlt : ∀ p ∈ before,p.block < W.heap.size:=fun p hp=>hW.lt p hp
 have hold : ∀ p ∈ before,(fun b=>decide (b < W.heap.size)) p.block = true:=fun p hp=>by simpa using hlt p hp
 refine ⟨ds,gs,before,[],pa,pv,hW,hres _ _ _,hargs _ hold,hvars _ hold,World.keptBut_mono (fun p hp=>⟨hp,?_⟩) (hb.frame (· ∈ before)),fun _=>?_⟩
 ·rw [hps,List.mem_append] at hp
  exact Or.inr hp
 ·obtain ⟨_,_,_,_,_,hz,hn⟩:=hW
  refine ⟨hok,_,_,([] ++ pa) ++ pv,⟨[] ++ pa,pv,trodAll_append (hargs _ (fun _ _=>rfl)) (hres _ _ _),hvars _ (fun _ _=>rfl),rfl,?_,?_⟩,?_⟩
  ·intro b off hp
   have hin : MemPlace.cell b off ∈ before:=by rw [hps]; simpa using hp
   rw [hb.frozen (hlt _ hin)]
   exact hz b off hin
  ·intro ha
   have:=hn ha
   rw [hps] at this
   simpa using this
  ·intro p hp _
   rw [hps]
   simpa using hp
theorem law_contract_at (hl : laidOutB P = true) {f : FuncId} {fn : Func} {γ : Type} {args : γ → List (SV AF)} {pre : γ → Prop} (hm : Meets P regF f (spLaw args pre)) {s : ChangeSpec} (hv : s.vars = [])
  (hs : ∀ (H : Type) (ds : List (DataW H)),ds.length = fn.params.toList.length → s.fn H ds = { results:=[.lit (.bool true)],args:=ds }) {T : TypeId} (hrt : fn.resultTypes = #[T]) (hT : P.underlying T = some .bool)
  (hr : (fn.params.toList.all fun t=>P.readableRec t && decide (t < P.types.size)) = true)
  {apart fresh handsOn again : Bool} (W : World) (xs : Array Value) (ds gs : List (DataW H)) (before : List MemPlace) (hg0 : ∃ g,pre g ∧ SaysL W (args g) xs.toList)
  (hW : DataW.Whole enc P fn.params.toList s.vars apart W xs.toList ds gs before) :
  Calls P f xs W fun e W'=>∃ v,e = .returned v ∧ s.post enc P fn apart fresh handsOn again W xs v W':=by
 have hW0:=hW
 obtain ⟨p,q,hA,hV,rfl,_,_⟩:=hW
 obtain ⟨g,hg,h1,h2⟩:=hg0
 rw [hv] at hV
 have hgs : gs = [] ∧ q = []:=by
  cases gs with
  | nil=>exact ⟨rfl,hV⟩
  | cons d gs=>exact hV.elim
 obtain ⟨rfl,rfl⟩:=hgs
 have hnb : ∀ (ρ : Rho) b,¬ (False ∨ Blk (((spLaw args pre).own g).map some) ρ b):=fun ρ b h=>by
  rcases h with h | ⟨n,ct,k,h,_⟩
  ·exact h
  ·simp [spLaw] at h
 have hc:=hm.2 g hg (fun _=>False) (fun _=>none) W xs (fun _ h=>h.elim) (fun _ h=>h.elim) ⟨h1,fun j s v hs hv=>h2 j s v hs hv _ _ (hnb _)⟩ ⟨fun n ct h=>by simp [spLaw] at h,fun n _ _ _ _ _ _ h=>by simp [spLaw] at h⟩
 have hlen : ∀ {ts : List TypeId} {vs : List Value} {ds : List (DataW H)} {ps : List MemPlace},DataW.TrodAll enc P W 0 (fun _=>true) true ts vs ds ps → ds.length = ts.length:=by
  intro ts
  induction ts with
  | nil=>intro vs ds ps h; cases vs <;> cases ds <;> first | rfl | exact h.elim
  | cons t ts ih=>
   intro vs ds ps h
   cases vs with
   | nil=>cases ds <;> exact h.elim
   | cons v vs=>
    cases ds with
    | nil=>exact h.elim
    | cons d ds=>obtain ⟨_,_,_,h,_⟩:=h; simp [ih h]
 have hfn:=hs H (ds ++ []) (by rw [List.append_nil]; exact hlen hA)
 refine hc.mono fun e W' hp=>?_
 obtain ⟨_,ρ',v,_,rfl,_,hres,_,_,_,_,_,hrel⟩:=hp
 have hv2 : v = .bool true:=by
  have hres : Den regF ρ' _ W' (.val (.bool true)) v:=hres
  cases hres; rfl
 subst hv2
 have hb : Below W.heap.size W W':=⟨hrel.os,hrel.tape,hrel.output,hrel.size,fun k hk=>hrel.block k hk fun h=>by
  obtain ⟨n,ct,j,h,_⟩:=h
  simp [spLaw] at h⟩
 have hlt : ∀ x ∈ p ++ [],x.block < W.heap.size:=fun x hx=>hW0.lt x hx
 refine ⟨_,rfl,post_of_below (pa:=p) (pv:=[]) hW0 (fun b sp hd=>?_) (fun sp hsp=>?_) (fun sp hsp=>?_) rfl hb ?_⟩
 ·rw [hfn,hrt]
  exact trodAll_mk1 (RowKit.shut_bool hT true)
 ·rw [hfn,List.append_nil]
  exact trodAll_stays hl hr hA (fun x hx=>hb.same (hlt x (by simpa using hx))) (fun x hx=>hsp x (by simpa using hx))
 ·rw [hfn,hv]; rfl
 ·exact RowKit.ok_one hrt rfl (RowKit.okWide_bool_mk hT true)
theorem law_contract (hl : laidOutB P = true) {f : FuncId} {fn : Func} {γ : Type} {args : γ → List (SV AF)} {pre : γ → Prop} (hm : Meets P regF f (spLaw args pre)) {s : ChangeSpec} (hv : s.vars = [])
  (hs : ∀ (H : Type) (ds : List (DataW H)),ds.length = fn.params.toList.length → s.fn H ds = { results:=[.lit (.bool true)],args:=ds }) {T : TypeId} (hrt : fn.resultTypes = #[T]) (hT : P.underlying T = some .bool)
  (hr : (fn.params.toList.all fun t=>P.readableRec t && decide (t < P.types.size)) = true)
  (rd : ∀ {H : Type} {enc : TypeId × Value → H} {w : World} {vs : List Value} {ds : List (DataW H)} {ps : List MemPlace} {base : Nat},DataW.TrodAll enc P w 0 (fun _=>true) true fn.params.toList vs ds ps →
   (∀ (j : Nat) t v,fn.params[j]? = some t → vs[j]? = some v → Value.okWide P w .any base t v) → ∃ g,pre g ∧ SaysL w (args g) vs)
  {apart fresh handsOn again : Bool} (W : World) (base : Nat) (xs : Array Value) (ds gs : List (DataW H)) (before : List MemPlace)
  (hval : ∀ (j : Nat) t v,fn.params[j]? = some t → xs[j]? = some v → Value.okWide P W .any base t v) (hW : DataW.Whole enc P fn.params.toList s.vars apart W xs.toList ds gs before) :
  Calls P f xs W fun e W'=>∃ v,e = .returned v ∧ s.post enc P fn apart fresh handsOn again W xs v W':=by
 have hW0:=hW
 obtain ⟨p,q,hA,hV,rfl,_,_⟩:=hW
 exact law_contract_at hl hm hv hs hrt hT hr W xs ds gs _ (rd hA (fun j t v ht hv=>hval j t v ht (by simpa using hv))) hW0
end
theorem own_knob : ownKnob Tryz.prog.godebug = none:=by kernel_rfl
theorem laid_out : laidOutB Tryz.prog = true:=by kernel_rfl
end Go.Sx
namespace Go.Sx
open Go Go.Proofs Go.Proofs.YtcehbnfhlcfinaaGreatDoor
def pickF (c n : Int) : Int:=(if c < 0 then 0 - (c + 1) else c).tmod n
theorem pickF_bd {c n : Int} (hn : 0 < n) : 0 ≤ pickF c n ∧ pickF c n < n:=by
 have h : 0 ≤ (if c < 0 then 0 - (c + 1) else c):=by split <;> omega
 unfold pickF
 rw [Int.tmod_eq_emod_of_nonneg h]
 exact ⟨Int.emod_nonneg _ (by omega),Int.emod_lt_of_pos _ hn⟩
def spPick : Spec AF where
 γ:=Int × Int
 args:=fun x=>[vI x.1,vI x.2]
 pre:=fun x=>InI x.1 ∧ 0 < x.2
 res:=fun x _=>vI (pickF x.1 x.2)
theorem allLst {α : Type} {xs : List α} {n : Int} {x : α} {K : α → Prop} (h0 : 0 ≤ n) (h : xs[n.toNat]? = some x) (hK : K x) : (∃ y,0 ≤ n ∧ xs[n.toNat]? = some y) ∧ ∀ y,(0 ≤ n ∧ xs[n.toNat]? = some y) → K y:=
 ⟨⟨x,h0,h⟩,fun y hy=>by have hy:=hy.2; rw [h] at hy; cases hy; exact hK⟩
theorem allG {α : Type} {L : List α} {j : Nat} {x : α} {K : α → Prop} (h : L[j]? = some x) (hK : K x) : (∃ y,L[j]? = some y) ∧ ∀ y,L[j]? = some y → K y:=
 ⟨⟨x,h⟩,fun y hy=>by rw [h] at hy; cases hy; exact hK⟩
end Go.Sx
namespace Go.Proofs.On
open Go Go.Proofs Go.Proofs.YtcehbnfhlcfinaaGreatDoor
theorem disable (w : World) : (callFunc 277 #[]).run Tryz.prog w = .ok (.value (.tuple #[])) w:=run_call_mark0 Tryz.func277 (by kernel_rfl) (by kernel_rfl) (by kernel_rfl) .disable (by kernel_rfl) w
theorem enable (w : World) : (callFunc 279 #[]).run Tryz.prog w = .ok (.value (.tuple #[])) w:=run_call_mark0 Tryz.func279 (by kernel_rfl) (by kernel_rfl) (by kernel_rfl) .enable (by kernel_rfl) w
theorem acquire (a : Addr) (w : World) : (callFunc 280 #[.pointer (some a)]).run Tryz.prog w = .ok (.value (.tuple #[])) w:=run_call_marked Tryz.func280 (by kernel_rfl) (by kernel_rfl) (by kernel_rfl) .acquire (by kernel_rfl) a w
theorem releaseMerge (a : Addr) (w : World) : (callFunc 282 #[.pointer (some a)]).run Tryz.prog w = .ok (.value (.tuple #[])) w:=run_call_marked Tryz.func282 (by kernel_rfl) (by kernel_rfl) (by kernel_rfl) .releaseMerge (by kernel_rfl) a w
set_option maxRecDepth 100000 in
theorem lock_in (a : Addr) (w : World) (hc : w.cell? a = some (.int .i32 0)) (hz : w.frozen? a = false) :
  Calls Tryz.prog 256 #[.pointer (some a)] w fun e w'=>e = .returned (.tuple #[]) ∧ w' = w.setCell a (.int .i32 1):=by
 have hd:=disable
 have he:=enable
 have ha:=acquire
 have hcas:=run_call_cas_hit (P:=Tryz.prog) Tryz.func278 (by kernel_rfl) (by kernel_rfl) (by kernel_rfl) .i32 (by kernel_rfl) (y:=1) hc hz
 have hc' : (w.setCell a (.int .i32 1)).cell? a = some (.int .i32 1):=World.cell?_setCell_same w a _ hc
 have hcv:=run_convert_to_unsafe (P:=Tryz.prog) (src:=409) (dst:=225) Tryz.underlying409 Tryz.underlying225 (by kernel_rfl) hc'
 go_enter Tryz.func256,Tryz.ntmps256
 go_wp2
 first | go_end0 | (simp only [Exit.inBlock,Exit.then]; refine bodyPost_ret (results_none rfl _ _ _) rfl ?_) | refine bodyPost_ret (results_none rfl _ _ _) rfl ?_
 go_wp2
 all_goals (first | (go_end0; exact ⟨rfl,rfl⟩) | exact ⟨rfl,rfl⟩)
set_option maxRecDepth 100000 in
theorem lock_free (a : Addr) (w : World) (hc : w.cell? a = some (.int .i32 0)) (hz : w.frozen? a = false) :
  Calls Tryz.prog 229 #[.pointer (some a)] w fun e w'=>e = .returned (.tuple #[]) ∧ w' = w.setCell a (.int .i32 1):=by
 go_enter Tryz.func229,Tryz.ntmps229
 go_wp2_with (go_at_call 256; refine (lock_in a _ (by go_simp) (by go_simp)).mono ?_; rintro e w' ⟨rfl,rfl⟩)
 go_end0
 exact ⟨rfl,rfl⟩
set_option maxRecDepth 100000 in
theorem store_deferred (a : Addr) (x : Value) (u : FrameMode) (w : World) (hc : w.cell? a = some x) (hz : w.frozen? a = false) :
  CallsD Tryz.prog 231 #[.pointer (some a),.bool true] u w fun e u' w'=>u' = u ∧ (e = .returned (.tuple #[]) ∧ w' = w.drew.setCell a (.int .u32 1)):=by
 have hc' : w.drew.cell? a = some x:=by go_simp
 have hz' : w.drew.frozen? a = false:=by go_simp
 have hst:=run_call_store (P:=Tryz.prog) Tryz.func258 (by kernel_rfl) (by kernel_rfl) (by kernel_rfl) (by kernel_rfl) (k:=.u32) (y:=1) hc' hz'
 go_enter_d Tryz.func231,Tryz.ntmps231
 go_wp2
 go_region_calls
 all_goals (go_end0; exact ⟨rfl,rfl⟩)
set_option maxRecDepth 100000 in
theorem unlock_in (a : Addr) (w : World) (hc : w.cell? a = some (.int .i32 1)) (hz : w.frozen? a = false) :
  Calls Tryz.prog 257 #[.pointer (some a)] w fun e w'=>e = .returned (.tuple #[]) ∧ w' = w.setCell a (.int .i32 0):=by
 have hd:=disable
 have he:=enable
 have hr:=releaseMerge
 have hadd:=run_call_add (P:=Tryz.prog) Tryz.func283 (by kernel_rfl) (by kernel_rfl) (by kernel_rfl) .i32 (by kernel_rfl) (y:=-1) (s:=0) hc hz (by simp [go_sem]; rfl)
 have hcv:=run_convert_to_unsafe (P:=Tryz.prog) (src:=409) (dst:=225) Tryz.underlying409 Tryz.underlying225 (by kernel_rfl) hc
 go_enter Tryz.func257,Tryz.ntmps257
 go_wp2
 all_goals (try go_end0)
 all_goals (try go_wp2)
 all_goals (try go_end0)
 all_goals (try exact ⟨rfl,rfl⟩)
set_option maxRecDepth 100000 in
theorem unlock_deferred (a : Addr) (u : FrameMode) (w : World) (hc : w.cell? a = some (.int .i32 1)) (hz : w.frozen? a = false) :
  CallsD Tryz.prog 230 #[.pointer (some a)] u w fun e u' w'=>u' = u ∧ (e = .returned (.tuple #[]) ∧ w' = w.setCell a (.int .i32 0)):=by
 go_enter_d Tryz.func230,Tryz.ntmps230
 go_wp2_with (go_at_call 257; refine (unlock_in a _ (by go_simp) (by go_simp)).mono ?_; rintro e w' ⟨rfl,rfl⟩)
 go_end0
 exact ⟨rfl,rfl⟩
end Go.Proofs.On
namespace Go.Proofs.On
open Go Go.Proofs Go.Proofs.YtcehbnfhlcfinaaGreatDoor
set_option maxRecDepth 100000 in
theorem load_at (a : Addr) (d : Int) (w : World) (h0 : w.cell? a = some (.int .u32 d)) :
  Calls Tryz.prog 192 #[.pointer (some a)] w fun e w'=>e = .returned (.bool (d != 0)) ∧ w' = w:=by
 have hl:=run_call_load (P:=Tryz.prog) Tryz.func228 (by kernel_rfl) (by kernel_rfl) (by kernel_rfl) .u32 (by kernel_rfl) h0
 go_enter Tryz.func192,Tryz.ntmps192
 go_wp2
 go_ret
 exact ⟨rfl,rfl⟩
set_option maxRecDepth 100000 in
theorem slow_any (b off : Nat) (pl : Addr) (w : World) (R : World → Prop) (h0 : w.cell? ⟨b,off,none⟩ = some (.int .u32 0)) (h1 : w.cell? ⟨b,off + 1,none⟩ = some (.int .i32 0)) (f1 : w.frozen? ⟨b,off + 1,none⟩ = false)
  (hR : Calls Tryz.prog 148 #[.pointer (some pl)] (w.setCell ⟨b,off + 1,none⟩ (.int .i32 1)) fun e w1=>e = .returned (.tuple #[]) ∧ R w1)
  (hc : ∀ w1,R w1 → w1.cell? ⟨b,off,none⟩ = some (.int .u32 0) ∧ w1.cell? ⟨b,off + 1,none⟩ = some (.int .i32 1) ∧ w1.frozen? ⟨b,off,none⟩ = false ∧ w1.frozen? ⟨b,off + 1,none⟩ = false) :
  Calls Tryz.prog 193 #[.pointer (some ⟨b,off,none⟩),.func (.func 148) #[] #[.pointer (some pl)]] w fun e w'=>e = .returned (.tuple #[]) ∧
   ∃ w1,R w1 ∧ w' = (w1.drew.setCell ⟨b,off,none⟩ (.int .u32 1)).setCell ⟨b,off + 1,none⟩ (.int .i32 0):=by
 have h01 : (w.setCell ⟨b,off + 1,none⟩ (.int .i32 1)).cell? ⟨b,off,none⟩ = some (.int .u32 0):=(World.cell?_setCell_other _ ⟨b,off + 1,none⟩ ⟨b,off,none⟩ _ (by simp)).trans h0
 have hnot : ∀ (x : Bool) (w : World),(Op.unary .not (.bool x)).run Tryz.prog w = .ok (.bool (!x)) w:=fun _ _=>rfl
 go_enter_defers Tryz.func193,Tryz.ntmps193
 go_wp2_with (first | (go_at_call 229; refine (lock_free ⟨b,off + 1,none⟩ _ (by go_simp) (by go_simp)).mono ?_; rintro e w' ⟨rfl,rfl⟩) | (go_at_call 192; refine (load_at ⟨b,off,none⟩ 0 _ h01).mono ?_; rintro e w' ⟨rfl,rfl⟩) | (go_at_call 148; refine hR.mono ?_; rintro e w1 ⟨rfl,hw1⟩))
 obtain ⟨c0,c1,g0,g1⟩:=hc w1 hw1
 refine leaves_cons (f:=231) (args:=#[.pointer (some ⟨b,off,none⟩),.bool true]) (by simp) (by simp [go_sem]) ?_
 refine (store_deferred ⟨b,off,none⟩ (.int .u32 0) .returning _ c0 g0).mono ?_
 rintro e u' w'' ⟨rfl,rfl,rfl⟩
 refine leaves_cons (f:=230) (args:=#[.pointer (some ⟨b,off + 1,none⟩)]) (by simp [settle]) (by simp [go_sem]) ?_
 refine (unlock_deferred ⟨b,off + 1,none⟩ _ _ ?_ ?_).mono ?_
 ·refine (World.cell?_setCell_other _ ⟨b,off,none⟩ ⟨b,off + 1,none⟩ _ (by simp)).trans ?_
  rw [World.cell?_drew]
  exact c1
 ·go_simp
 rintro e u' w'' ⟨rfl,rfl,rfl⟩
 have hfin : ∃ w2,R w2 ∧ (w1.drew.setCell ⟨b,off,none⟩ (.int .u32 1)).setCell ⟨b,off + 1,none⟩ (.int .i32 0) = (w2.drew.setCell ⟨b,off,none⟩ (.int .u32 1)).setCell ⟨b,off + 1,none⟩ (.int .i32 0):=⟨w1,hw1,rfl⟩
 simp [Leaves,settle,results,Tryz.results193]
 try exact hfin
set_option maxRecDepth 100000 in
theorem do_first (b off : Nat) (pl : Addr) (w : World) (R : World → Prop) (h0 : w.cell? ⟨b,off,none⟩ = some (.int .u32 0)) (h1 : w.cell? ⟨b,off + 1,none⟩ = some (.int .i32 0)) (f1 : w.frozen? ⟨b,off + 1,none⟩ = false)
  (hR : Calls Tryz.prog 148 #[.pointer (some pl)] (w.setCell ⟨b,off + 1,none⟩ (.int .i32 1)) fun e w1=>e = .returned (.tuple #[]) ∧ R w1)
  (hc : ∀ w1,R w1 → w1.cell? ⟨b,off,none⟩ = some (.int .u32 0) ∧ w1.cell? ⟨b,off + 1,none⟩ = some (.int .i32 1) ∧ w1.frozen? ⟨b,off,none⟩ = false ∧ w1.frozen? ⟨b,off + 1,none⟩ = false) :
  Calls Tryz.prog 147 #[.pointer (some ⟨b,off,none⟩),.func (.func 148) #[] #[.pointer (some pl)]] w fun e w'=>e = .returned (.tuple #[]) ∧
   ∃ w1,R w1 ∧ w' = (w1.drew.setCell ⟨b,off,none⟩ (.int .u32 1)).setCell ⟨b,off + 1,none⟩ (.int .i32 0):=by
 have hnot : ∀ (x : Bool) (w : World),(Op.unary .not (.bool x)).run Tryz.prog w = .ok (.bool (!x)) w:=fun _ _=>rfl
 go_enter Tryz.func147,Tryz.ntmps147
 go_wp2_with (first | (go_at_call 192; refine (load_at ⟨b,off,none⟩ 0 _ h0).mono ?_; rintro e w' ⟨rfl,rfl⟩) | (go_at_call 193; refine (slow_any b off pl _ R h0 h1 f1 hR hc).mono ?_; rintro e w' ⟨rfl,hw'⟩))
 go_end0
 exact ⟨rfl,hw'⟩
theorem do_done (a : Addr) (d : Int) (hd : ¬ d = 0) (fv : Value) (w : World) (h0 : w.cell? a = some (.int .u32 d)) :
  Calls Tryz.prog 147 #[.pointer (some a),fv] w fun e w'=>e = .returned (.tuple #[]) ∧ w' = w:=by
 have hnot : ∀ (x : Bool) (w : World),(Op.unary .not (.bool x)).run Tryz.prog w = .ok (.bool (!x)) w:=fun _ _=>rfl
 have hd' : (d != 0) = true:=by simp [hd]
 go_enter Tryz.func147,Tryz.ntmps147
 go_wp2_with (go_at_call 192; refine (load_at a d _ h0).mono ?_; rintro e w' ⟨rfl,rfl⟩; rw [hd'])
 go_end0
 exact ⟨rfl,rfl⟩
end Go.Proofs.On
namespace Go.Sx
open Go Go.Proofs Go.Proofs.YtcehbnfhlcfinaaGreatDoor
abbrev TG (b : Bool) (q : Prop) : Prop:=(∃ c,c = b) ∧ q
theorem tY {p : Prop} [Decidable p] {K : Bool → Prop} (h : K true) (hp : p:=by first | omega | (with_reducible assumption) | (with_reducible exact rfl) | (with_reducible refine Ne.symm ?_; with_reducible assumption) | (with_reducible refine Eq.symm ?_; with_reducible assumption) | exact (fun h=>Bool.noConfusion h) | (dsimp only; omega) | (with_reducible decide) | fail) : (∃ c,c = decide p) ∧ ∀ c,c = decide p → K c:=
 ⟨⟨_,rfl⟩,fun c hc=>by subst hc; rw [decide_eq_true hp]; exact h⟩
theorem tN {p : Prop} [Decidable p] {K : Bool → Prop} (h : K false) (hp : ¬ p:=by first | omega | (with_reducible assumption) | exact (fun h=>Bool.noConfusion h) | (with_reducible exact not_not_intro rfl) | (with_reducible refine not_not_intro ?_; with_reducible assumption) | (dsimp only; omega) | (with_reducible decide) | fail) : (∃ c,c = decide p) ∧ ∀ c,c = decide p → K c:=
 ⟨⟨_,rfl⟩,fun c hc=>by subst hc; rw [decide_eq_false hp]; exact h⟩
theorem dY {p : Prop} [Decidable p] {K : Bool → Prop} (h : K true) (hp : p:=by first | exact rfl | assumption | (refine Ne.symm ?_; assumption) | (refine Eq.symm ?_; assumption) | decide | fail) : (∃ c,c = decide p) ∧ ∀ c,c = decide p → K c:=tY h hp
theorem dN {p : Prop} [Decidable p] {K : Bool → Prop} (h : K false) (hp : ¬ p:=by first | assumption | exact not_not_intro rfl | (refine not_not_intro ?_; assumption) | decide | fail) : (∃ c,c = decide p) ∧ ∀ c,c = decide p → K c:=tN h hp
theorem aV {α : Type} {c K : α → Prop} (w : α) (hw : c w) (k : ∀ x,c x → K x) : (∃ x,c x) ∧ ∀ x,c x → K x:=⟨⟨w,hw⟩,k⟩
theorem ai {p q : Prop} (k : q) (h : p:=by (fail_if_success (refine Exists.intro ?_ ?_)); first | omega | assumption | kernel_rfl | exact And.intro rfl rfl | ((try dsimp only [inR,idx,lowOf]); first | omega | (with_reducible decide) | (simp; omega) | (simp; done) | fail) | fail) : p ∧ q:=⟨h,k⟩
theorem aS {α : Type} {L : List α} {j : Nat} {x : α} {K : α → Prop} (hK : K x) (h : L[j]? = some x:=by first | exact rfl | fail) : (∃ y,L[j]? = some y) ∧ ∀ y,L[j]? = some y → K y:=allG h hK
theorem aX {α : Type} {L L' : List α} {j j' : Nat} {x : α} {K : α → Prop} (hx : L'[j']? = some x) (hK : K x) (e : L[j]? = L'[j']?:=by first | exact rfl | (simp [List.getElem?_append_right,lowOf]; done) | fail) : (∃ y,L[j]? = some y) ∧ ∀ y,L[j]? = some y → K y:=allG (e.trans hx) hK
theorem aL {α : Type} {L L' : List α} {n : Int} {j' : Nat} {x : α} {K : α → Prop} (hx : L'[j']? = some x) (hK : K x) (h0 : 0 ≤ n:=by first | omega | assumption | fail) (e : L[n.toNat]? = L'[j']?:=by first | exact rfl | (simp; done) | (refine congrArg (fun i : Nat=>_[i]?) ?_; omega) | fail) : (∃ y,0 ≤ n ∧ L[n.toNat]? = some y) ∧ ∀ y,(0 ≤ n ∧ L[n.toNat]? = some y) → K y:=allLst h0 (e.trans hx) hK
theorem vcA {p q r s t K : Prop} (hp : p) (k : K)
  (hq : q:=by repeat' (first | exact trivial | exact rfl | assumption | refine And.intro ?_ ?_ | (refine congrArg vI ?_; first | omega | (dsimp only; omega) | fail) | (refine congrArg some ?_) | omega | exact Nat.le_refl _ | exact congrArg (SV.lst _) (List.take_of_length_le (Nat.le_refl _)).symm | fail))
  (hr : r:=by repeat' (first | exact trivial | exact rfl | assumption | refine And.intro ?_ ?_ | (refine congrArg some ?_) | (refine congrArg (Ct.arr _) ?_) | omega | fail))
  (hs : s:=by trivial) (ht : t:=by trivial) : (p ∧ q ∧ r ∧ s ∧ t) ∧ K:=⟨⟨hp,hq,hr,hs,ht⟩,k⟩
theorem uU {post K : Unit → Prop} (k : K ()) (h : post ():=by trivial) : (∃ x,post x) ∧ ∀ x,post x → K x:=⟨⟨(),h⟩,fun _ _=>k⟩
theorem en {b c : Bool} {P Q : Prop}
  (h2 : P:=by repeat' (first | exact trivial | exact rfl | assumption | refine And.intro ?_ ?_ | (refine congrArg vI ?_; first | omega | (dsimp only; omega) | fail) | (refine congrArg some ?_) | omega | (refine congrArg (SV.lst _) ?_; first | assumption | (simp; done) | fail) | (refine congrArg (SV.sl _ _ _) ?_; first | omega | assumption | (simp; done) | (simp; omega) | fail) | exact Nat.le_refl _ | fail))
  (h3 : Q:=by repeat' (first | exact trivial | exact rfl | assumption | refine And.intro ?_ ?_ | (refine congrArg vI ?_; first | omega | (dsimp only; omega) | fail) | (refine congrArg (Ct.arr _) ?_; first | assumption | (symm; assumption) | (simp; done) | fail) | (refine congrArg (Ct.map _ _) ?_; first | assumption | (symm; assumption) | fail) | omega | (refine congrArg (SV.lst _) ?_; first | assumption | (simp; done) | fail) | (refine congrArg (SV.sl _ _ _) ?_; first | omega | assumption | (simp; done) | (simp; omega) | fail) | fail))
  (h1 : b = true:=by rfl) (h4 : c = true:=by rfl) : b = true ∧ P ∧ Q ∧ c = true:=⟨h1,h2,h3,h4⟩
theorem rn {m : Prop} {b c : Bool} {P Q : Prop} (h : b = true ∧ P ∧ Q ∧ c = true) (hm : m:=by dsimp only; first | omega | (simp; done) | (simp; omega) | fail) : m ∧ b = true ∧ P ∧ Q ∧ c = true:=⟨hm,h⟩
theorem a3 {a b c : Prop}
  (h1 : a:=by repeat' (first | exact trivial | exact rfl | assumption | refine And.intro ?_ ?_ | (refine congrArg vI ?_; first | omega | (dsimp only; omega) | fail) | (refine congrArg vB ?_; first | assumption | (simp; done) | fail) | (refine congrArg some ?_) | omega | (refine congrArg (SV.lst _) ?_; first | assumption | (symm; assumption) | (simp; done) | fail) | fail))
  (h2 : b:=by repeat' (first | exact trivial | exact rfl | assumption | refine And.intro ?_ ?_ | (refine congrArg vI ?_; first | omega | (dsimp only; omega) | fail) | (refine congrArg (Ct.arr _) ?_; first | assumption | (symm; assumption) | (simp; done) | fail) | (refine congrArg (Ct.map _ _) ?_; first | assumption | (symm; assumption) | fail) | (refine congrArg (SV.sl _ _ _) ?_; first | omega | assumption | (simp; done) | (simp; omega) | fail) | fail))
  (h3 : c:=by first | trivial | rfl) : a ∧ b ∧ c:=⟨h1,h2,h3⟩
end Go.Sx
namespace Go.Sx
open Go Go.Proofs Go.Proofs.YtcehbnfhlcfinaaGreatDoor
abbrev Edge:=Int × Int × Int
abbrev layS (n : Int) (es : List Edge) : SV AF:=.agg [vI n,.lst 44 es]
abbrev layC (n : Int) (es : List Edge) : Ct AF:=.cells [vI n,.lst 44 es]
def wayE (e : Edge) : Int × Int:=(e.1,e.2.1)
def EdgeOk (n : Int) (e : Edge) : Prop:=0 ≤ e.1 ∧ e.1 < n ∧ 0 ≤ e.2.1 ∧ e.2.1 < n ∧ e.1 ≠ e.2.1 ∧ 1 ≤ e.2.2 ∧ e.2.2 ≤ 1000
structure RightL (n : Int) (es : List Edge) : Prop where
 pos : 0 < n
 most : n ≤ 40
 len : es.length ≤ 120
 each : ∀ e ∈ es,EdgeOk n e
 apart : (es.map wayE).Nodup
def GoodL (es : List Edge) : Prop:=es.length ≤ 9223372036854775807 ∧ ∀ e ∈ es,InI e.1 ∧ InI e.2.1
theorem allEqB {α : Type} {z : α} {K : α → Prop} (hK : ∀ y,y = z → K y) : (∃ y,y = z) ∧ ∀ y,y = z → K y:=⟨⟨z,rfl⟩,hK⟩
def spNode : Spec AF where
 γ:=Int × Int × List Edge
 δ:=Bool
 args:=fun g=>[vI g.1,.ptr 0 0 2 0]
 own:=fun g=>[layC g.2.1 g.2.2]
 res:=fun _ c=>vB c
 own':=fun g _=>[some (layC g.2.1 g.2.2)]
 post:=fun g c=>(c = true ↔ 0 ≤ g.1 ∧ g.1 < g.2.1)
theorem m_node : Meets Tryz.prog regF 43 spNode:=by
 refine meets Tryz.func43 12 noWr ?_
 rintro ⟨(k : Int),(n : Int),(es : List Edge)⟩ _
 conv=>whnf
 repeat' ((first | (refine (?_ : TG _ _); first | refine tY ?_ | refine tN ?_ | refine dY ?_ | refine dN ?_ | (refine tell ?_ ?_ <;> intro hQ <;> try dsimp only at hQ)) | refine aS ?_ | refine ai ?_ | fail) <;> conv=>whnf)
 ·exact ⟨true,[],by simp [spNode]; omega,rfl,⟨⟨rfl,rfl,trivial⟩,trivial⟩,trivial⟩
 ·exact ⟨false,[],by simp [spNode]; omega,rfl,⟨⟨rfl,rfl,trivial⟩,trivial⟩,trivial⟩
 ·exact ⟨false,[],by simp [spNode]; omega,rfl,⟨⟨rfl,rfl,trivial⟩,trivial⟩,trivial⟩
theorem node_ex (k n : Int) : ∃ c : Bool,c = true ↔ 0 ≤ k ∧ k < n:=by
 by_cases h : 0 ≤ k ∧ k < n
 ·exact ⟨true,by simp [h]⟩
 ·exact ⟨false,by simp [h]⟩
def wsOf (l : List Edge) : List ((Int × Int) × Bool):=l.map fun e=>(wayE e,true)
theorem look_ws (l : List Edge) (w : Int × Int) : (look regF 150 4 (wsOf l) w).getD false = decide (w ∈ l.map wayE):=by
 by_cases h : w ∈ l.map wayE
 ·have hobt:=List.mem_map.1 h
  obtain ⟨e,he,rfl⟩:=hobt
  have h2 : ((wsOf l).find? fun p=>regF.beq 150 p.1 (wayE e)).isSome = true:=List.find?_isSome.2 ⟨(wayE e,true),List.mem_map.2 ⟨e,he,rfl⟩,(regF.same 150 _ _).2 rfl⟩
  have hobt:=Option.isSome_iff_exists.1 h2
  obtain ⟨p,hp⟩:=hobt
  have hm:=List.mem_of_find?_eq_some hp
  have hobt:=List.mem_map.1 hm
  obtain ⟨e2,_,rfl⟩:=hobt
  rw [decide_eq_true h]
  unfold look
  rw [hp]; rfl
 ·have:=(look_none (R:=regF) (K:=150) (V:=4) (es:=wsOf l) (k:=w) fun p hp e=>h (by
   have hobt:=List.mem_map.1 hp
   obtain ⟨e2,h1,rfl⟩:=hobt
   exact List.mem_map.2 ⟨e2,h1,e⟩)).1
  rw [this,decide_eq_false h]; rfl
theorem ins_ws {l : List Edge} {e : Edge} (h : wayE e ∉ l.map wayE) : ins regF 150 4 (wsOf l) (wayE e) true = wsOf (l ++ [e]):=by
 have:=(look_none (R:=regF) (K:=150) (V:=4) (es:=wsOf l) (k:=wayE e) fun p hp e1=>h (by
   have hobt:=List.mem_map.1 hp
   obtain ⟨e2,h1,rfl⟩:=hobt
   exact List.mem_map.2 ⟨e2,h1,e1⟩)).2
 unfold ins
 rw [this]
 simp [wsOf]
def spRight : Spec AF where
 γ:=Int × List Edge
 δ:=Bool
 args:=fun g=>[layS g.1 g.2]
 pre:=fun g=>GoodL g.2
 res:=fun _ c=>vB c
 post:=fun g c=>(c = true ↔ RightL g.1 g.2)
theorem m_right : Meets Tryz.prog regF 21 spRight:=by
 refine meets Tryz.func21 72 noWr ?_
 rintro ⟨(n : Int),(es : List Edge)⟩ ⟨(hl : es.length ≤ 9223372036854775807),(hg : ∀ e ∈ es,InI e.1 ∧ InI e.2.1)⟩
 conv=>whnf
 repeat' ((first | (refine (?_ : TG _ _); first | refine tY ?_ | refine tN ?_ | refine dY ?_ | refine dN ?_ | (refine tell ?_ ?_ <;> intro hQ <;> try dsimp only at hQ)) | refine aS ?_ | refine ai ?_ | fail) <;> conv=>whnf)
 refine ⟨Nat,fun i=>⟨[(1,.ptr 1001 0 2 0),(3,.fn (.func 43) [] [.ptr 1001 0 2 0]),(4,.mp 1009),(11,.lst 44 es),(12,vI es.length),(13,vI i)],[(1001,layC n es),(1009,.map 150 4 (wsOf (es.take i)))]⟩,fun i=>i ≤ es.length ∧ (∀ e ∈ es.take i,EdgeOk n e) ∧ ((es.take i).map wayE).Nodup,fun i=>es.length - i,fun _ _=>rfl,⟨0,[],⟨Nat.zero_le _,fun _ h=>by simp at h,by simp⟩,en⟩,?_⟩
 rintro (i : Nat) ⟨(hi : i ≤ es.length),(hok : ∀ e ∈ es.take i,EdgeOk n e),(hnd : ((es.take i).map wayE).Nodup)⟩
 by_cases hlt : i < es.length
 ·have hobt : ∃ e,es[i]? = some e:=⟨_,List.getElem?_eq_getElem hlt⟩
  obtain ⟨e,he⟩:=hobt
  have hmem : e ∈ es:=List.mem_of_getElem? he
  have hobt:=hg e hmem
  obtain ⟨hg1,hg2⟩:=hobt
  have htk : es.take (i + 1) = es.take i ++ [e]:=by rw [List.take_add_one,he]; rfl
  have no : ¬ EdgeOk n e → ¬ RightL n es:=fun h1 h2=>h1 (h2.each e hmem)
  conv=>whnf
  repeat' ((first | (refine (?_ : TG _ _); first | refine tY ?_ | refine tN ?_ | refine dY ?_ | refine dN ?_ | (refine tell ?_ ?_ <;> intro hQ <;> try dsimp only at hQ)) | refine aS ?_ | refine aX he ?_ | refine aL he ?_ | refine ai ?_ | fail) <;> conv=>whnf)
  refine ⟨_,m_node,(e.1,n,es),[1001],false,?_⟩
  conv=>whnf
  refine vcA trivial ?_
  refine And.intro (node_ex e.1 n) ?_
  intro (c : Bool) (hc : c = true ↔ 0 ≤ e.1 ∧ e.1 < n)
  cases c
  ·have hr : ¬ RightL n es:=no fun h=>by have:=hc.2 ⟨h.1,h.2.1⟩; cases this
   conv=>whnf
   repeat' ((first | (refine (?_ : TG _ _); first | refine tY ?_ | refine tN ?_ | refine dY ?_ | refine dN ?_ | (refine tell ?_ ?_ <;> intro hQ <;> try dsimp only at hQ)) | refine aS ?_ | refine ai ?_ | fail) <;> conv=>whnf)
   exact ⟨false,[],by simp [spRight,hr],rfl,trivial,trivial⟩
  have hc:=hc.1 rfl
  conv=>whnf
  repeat' ((first | (refine (?_ : TG _ _); first | refine tY ?_ | refine tN ?_ | refine dY ?_ | refine dN ?_ | (refine tell ?_ ?_ <;> intro hQ <;> try dsimp only at hQ)) | refine aS ?_ | refine ai ?_ | fail) <;> conv=>whnf)
  refine ⟨_,m_node,(e.2.1,n,es),[1001],false,?_⟩
  conv=>whnf
  refine vcA trivial ?_
  refine And.intro (node_ex e.2.1 n) ?_
  intro (c : Bool) (hc2 : c = true ↔ 0 ≤ e.2.1 ∧ e.2.1 < n)
  cases c
  ·have hr : ¬ RightL n es:=no fun h=>by have:=hc2.2 ⟨h.2.2.1,h.2.2.2.1⟩; cases this
   conv=>whnf
   repeat' ((first | (refine (?_ : TG _ _); first | refine tY ?_ | refine tN ?_ | refine dY ?_ | refine dN ?_ | (refine tell ?_ ?_ <;> intro hQ <;> try dsimp only at hQ)) | refine aS ?_ | refine ai ?_ | fail) <;> conv=>whnf)
   exact ⟨false,[],by simp [spRight,hr],rfl,trivial,trivial⟩
  have hc2:=hc2.1 rfl
  conv=>whnf
  repeat' ((first | (refine (?_ : TG _ _); first | refine tY ?_ | refine tN ?_ | refine dY ?_ | refine dN ?_ | (refine tell ?_ ?_ <;> intro hQ <;> try dsimp only at hQ)) | refine aS ?_ | refine ai ?_ | fail) <;> conv=>whnf)
  ·have hr:=no fun h=>h.2.2.2.2.1 (by assumption)
   exact ⟨false,[],by simp [spRight,hr],rfl,trivial,trivial⟩
  ·have hr:=no fun h=>by have:=h.2.2.2.2.2.1; omega
   exact ⟨false,[],by simp [spRight,hr],rfl,trivial,trivial⟩
  ·have hr:=no fun h=>by have:=h.2.2.2.2.2.2; omega
   exact ⟨false,[],by simp [spRight,hr],rfl,trivial,trivial⟩
  ·have hedge : EdgeOk n e:=⟨hc.1,hc.2,hc2.1,hc2.2,by assumption,by omega,by omega⟩
   refine And.intro (show (_ ∧ _) ∧ (_ ∧ _) from ⟨hg1,hg2⟩) ?_
   conv=>whnf
   refine allEqB ?_
   intro (y : Bool) hy
   have hy : y = decide (wayE e ∈ (es.take i).map wayE):=hy.trans (look_ws _ _)
   cases y
   ·have hw : wayE e ∉ (es.take i).map wayE:=of_decide_eq_false hy.symm
    conv=>whnf
    repeat' ((first | (refine (?_ : TG _ _); first | refine tY ?_ | refine tN ?_ | refine dY ?_ | refine dN ?_ | (refine tell ?_ ?_ <;> intro hQ <;> try dsimp only at hQ)) | refine aS ?_ | refine ai ?_ | fail) <;> conv=>whnf)
    refine And.intro (show (_ ∧ _) ∧ (_ ∧ _) from ⟨hg1,hg2⟩) ?_
    conv=>whnf
    repeat' ((first | (refine (?_ : TG _ _); first | refine tY ?_ | refine tN ?_ | refine dY ?_ | refine dN ?_ | (refine tell ?_ ?_ <;> intro hQ <;> try dsimp only at hQ)) | refine aS ?_ | refine ai ?_ | fail) <;> conv=>whnf)
    have hok' : ∀ x ∈ es.take (i + 1),EdgeOk n x:=fun x hx=>by
     rw [htk] at hx
     rcases List.mem_append.1 hx with hx | hx
     ·exact hok x hx
     ·simp at hx; subst hx; exact hedge
    refine ⟨i + 1,[],⟨hlt,hok',by rw [htk,List.map_append,List.nodup_append]; exact ⟨hnd,by simp,fun x hx z hz=>by simp at hz; subst hz; exact fun h=>hw (h ▸ hx)⟩⟩,?_,rfl,?_,?_,rfl⟩
    ·dsimp only; first | omega | (simp; done) | (simp; omega)
    all_goals (repeat' (first | exact trivial | exact rfl | refine And.intro ?_ ?_ | (refine congrArg vI ?_; first | omega | (dsimp only; omega) | fail) | (refine congrArg some ?_) | omega | exact Nat.le_refl _ | exact congrArg (SV.lst _) (List.take_of_length_le (Nat.le_refl _)).symm))
    ·exact congrArg (Ct.map (A:=AF) 150 4) ((ins_ws hw).trans (by rw [htk]))
   ·have hw : wayE e ∈ (es.take i).map wayE:=of_decide_eq_true hy.symm
    have hr : ¬ RightL n es:=fun h=>by
     have h2:=h.apart
     have h3 : (es.take (i + 1)).map wayE = (es.take i).map wayE ++ [wayE e]:=by rw [htk]; simp
     have h4 : ((es.take (i + 1)).map wayE).Nodup:=by
      rw [← List.take_append_drop (i + 1) es,List.map_append,List.nodup_append] at h2
      exact h2.1
     rw [h3,List.nodup_append] at h4
     exact h4.2.2 _ hw _ (by simp) rfl
    conv=>whnf
    repeat' ((first | (refine (?_ : TG _ _); first | refine tY ?_ | refine tN ?_ | refine dY ?_ | refine dN ?_ | (refine tell ?_ ?_ <;> intro hQ <;> try dsimp only at hQ)) | refine aS ?_ | refine ai ?_ | fail) <;> conv=>whnf)
    exact ⟨false,[],by simp [spRight,hr],rfl,trivial,trivial⟩
 ·have hi : i = es.length:=by omega
  subst hi
  rw [List.take_of_length_le (Nat.le_refl _)] at hok hnd
  conv=>whnf
  repeat' ((first | (refine (?_ : TG _ _); first | refine tY ?_ | refine tN ?_ | refine dY ?_ | refine dN ?_ | (refine tell ?_ ?_ <;> intro hQ <;> try dsimp only at hQ)) | refine aS ?_ | refine ai ?_ | fail) <;> conv=>whnf)
  refine ⟨_,m_node,(0,n,es),[1001],false,?_⟩
  conv=>whnf
  refine vcA trivial ?_
  refine And.intro (node_ex 0 n) ?_
  intro (c : Bool) (hc : c = true ↔ 0 ≤ (0 : Int) ∧ 0 < n)
  cases c
  ·have hr : ¬ RightL n es:=fun h=>by have:=hc.2 ⟨Int.le_refl 0,h.pos⟩; cases this
   conv=>whnf
   repeat' ((first | (refine (?_ : TG _ _); first | refine tY ?_ | refine tN ?_ | refine dY ?_ | refine dN ?_ | (refine tell ?_ ?_ <;> intro hQ <;> try dsimp only at hQ)) | refine aS ?_ | refine ai ?_ | fail) <;> conv=>whnf)
   exact ⟨false,[],by simp [spRight,hr],rfl,trivial,trivial⟩
  have hc:=(hc.1 rfl).2
  conv=>whnf
  repeat' ((first | (refine (?_ : TG _ _); first | refine tY ?_ | refine tN ?_ | refine dY ?_ | refine dN ?_ | (refine tell ?_ ?_ <;> intro hQ <;> try dsimp only at hQ)) | refine aS ?_ | refine ai ?_ | fail) <;> conv=>whnf)
  ·have hr : RightL n es:=⟨hc,by assumption,by omega,hok,hnd⟩
   exact ⟨true,[],by simp [spRight,hr],rfl,trivial,trivial⟩
  ·have hr : ¬ RightL n es:=fun h=>by have:=h.len; omega
   exact ⟨false,[],by simp [spRight,hr],rfl,trivial,trivial⟩
  ·have hr : ¬ RightL n es:=fun h=>by have:=h.most; omega
   exact ⟨false,[],by simp [spRight,hr],rfl,trivial,trivial⟩
theorem nodup_get {α : Type} {l : List α} (hn : l.Nodup) {j m : Nat} {a : α} (h1 : l[j]? = some a) (h2 : l[m]? = some a) : j = m:=by
 have hobt:=List.getElem?_eq_some_iff.1 h1
 obtain ⟨l1,g1⟩:=hobt
 have hobt:=List.getElem?_eq_some_iff.1 h2
 obtain ⟨l2,g2⟩:=hobt
 exact (List.getElem_inj hn).1 (g1.trans g2.symm)
def spRRight : Spec AF:={ spRight with pre:=fun g=>g.2.length ≤ 9223372036854775807 }
theorem m_rright : Meets Tryz.prog regF 34 spRRight:=by
 refine meets Tryz.func34 96 noWr ?_
 rintro ⟨(n : Int),(es : List Edge)⟩ (hl : es.length ≤ 9223372036854775807)
 have fin : ∀ {c : Bool},(c = true ↔ RightL n es) → spRRight.post (n,es) c:=fun h=>h
 conv=>whnf
 repeat' ((first | (refine (?_ : TG _ _); first | refine tY ?_ | refine tN ?_ | refine dY ?_ | refine dN ?_ | (refine tell ?_ ?_ <;> intro hQ <;> try dsimp only at hQ)) | refine aS ?_ | refine ai ?_ | fail) <;> conv=>whnf)
 ·exact ⟨false,[],fin (by simp; exact fun h=>by have:=h.pos; omega),rfl,trivial,trivial⟩
 ·exact ⟨false,[],fin (by simp; exact fun h=>by have:=h.most; omega),rfl,trivial,trivial⟩
 ·exact ⟨false,[],fin (by simp; exact fun h=>by have:=h.len; omega),rfl,trivial,trivial⟩
 have hn1 : 0 < n:=by omega
 have hn2 : n ≤ 40:=by omega
 have hl2 : es.length ≤ 120:=by omega
 refine ⟨Nat,fun i=>⟨[(1,.ptr 1001 0 2 0),(3,vI i)],[(1001,layC n es)]⟩,fun i=>i ≤ es.length ∧ (∀ e ∈ es.take i,EdgeOk n e) ∧ ((es.take i).map wayE).Nodup,fun i=>es.length - i,fun _ _=>rfl,⟨0,[],⟨Nat.zero_le _,fun _ h=>by simp at h,by simp⟩,en⟩,?_⟩
 rintro (i : Nat) ⟨(hi : i ≤ es.length),(hok : ∀ e ∈ es.take i,EdgeOk n e),(hnd : ((es.take i).map wayE).Nodup)⟩
 by_cases hlt : i < es.length
 ·have hobt : ∃ e,es[i]? = some e:=⟨_,List.getElem?_eq_getElem hlt⟩
  obtain ⟨e,he⟩:=hobt
  have hmem : e ∈ es:=List.mem_of_getElem? he
  have htk : es.take (i + 1) = es.take i ++ [e]:=by rw [List.take_add_one,he]; rfl
  have no : ¬ EdgeOk n e → ¬ RightL n es:=fun h1 h2=>h1 (h2.each e hmem)
  conv=>whnf
  repeat' ((first | (refine (?_ : TG _ _); first | refine tY ?_ | refine tN ?_ | refine dY ?_ | refine dN ?_ | (refine tell ?_ ?_ <;> intro hQ <;> try dsimp only at hQ)) | refine aS ?_ | refine aX he ?_ | refine aL he ?_ | refine ai ?_ | fail) <;> conv=>whnf)
  all_goals try (exact ⟨false,[],fin (by simp; exact no fun h=>by obtain ⟨h1,h2,h3,h4,h5,h6,h7⟩:=h; omega),rfl,trivial,trivial⟩)
  have hedge : EdgeOk n e:=⟨by omega,by omega,by omega,by omega,by omega,by omega,by omega⟩
  refine ⟨Nat,fun k=>⟨[(1,.ptr 1001 0 2 0),(3,vI i),(4,.ptr 1004 0 3 0),(5,vI k)],[(1001,layC n es),(1004,.cells [vI e.1,vI e.2.1,vI e.2.2])]⟩,fun k=>k ≤ i ∧ ∀ x ∈ es.take k,wayE x ≠ wayE e,fun k=>i - k,fun _ _=>rfl,⟨0,[],⟨Nat.zero_le _,fun _ h=>by simp at h⟩,en⟩,?_⟩
  rintro (k : Nat) ⟨(hk : k ≤ i),(hkk : ∀ x ∈ es.take k,wayE x ≠ wayE e)⟩
  by_cases hklt : k < i
  ·have hobt : ∃ x,es[k]? = some x:=⟨_,List.getElem?_eq_getElem (by omega)⟩
   obtain ⟨x,hx⟩:=hobt
   have hkt : es.take (k + 1) = es.take k ++ [x]:=by rw [List.take_add_one,hx]; rfl
   have hstep : wayE x ≠ wayE e → ∀ y ∈ es.take (k + 1),wayE y ≠ wayE e:=fun h y hy=>by
    rw [hkt] at hy
    rcases List.mem_append.1 hy with hy | hy
    ·exact hkk y hy
    ·simp at hy; subst hy; exact h
   have hsame : wayE x = wayE e → ¬ RightL n es:=fun h h2=>by
    have:=nodup_get h2.apart (j:=k) (m:=i) (a:=wayE e) (by rw [List.getElem?_map,hx]; exact congrArg some h) (by rw [List.getElem?_map,he]; rfl)
    omega
   conv=>whnf
   repeat' ((first | (refine (?_ : TG _ _); first | refine tY ?_ | refine tN ?_ | refine dY ?_ | refine dN ?_ | (refine tell ?_ ?_ <;> intro hQ <;> try dsimp only at hQ)) | refine aS ?_ | refine aX hx ?_ | refine aL hx ?_ | refine ai ?_ | fail) <;> conv=>whnf)
   ·have hr:=hsame (Prod.ext (by assumption) (by assumption))
    exact ⟨false,[],fin (by simp; exact hr),rfl,trivial,trivial⟩
   ·exact ⟨k + 1,[],⟨hklt,hstep fun h=>absurd (congrArg Prod.snd h) (by assumption)⟩,rn en⟩
   ·exact ⟨k + 1,[],⟨hklt,hstep fun h=>absurd (congrArg Prod.fst h) (by assumption)⟩,rn en⟩
  ·have hk : k = i:=by omega
   subst hk
   have hw : wayE e ∉ (es.take k).map wayE:=fun h=>by
    have hobt:=List.mem_map.1 h
    obtain ⟨x,h1,h2⟩:=hobt
    exact hkk x h1 h2
   have hok' : ∀ x ∈ es.take (k + 1),EdgeOk n x:=fun x hx=>by
    rw [htk] at hx
    rcases List.mem_append.1 hx with hx | hx
    ·exact hok x hx
    ·simp at hx; subst hx; exact hedge
   conv=>whnf
   repeat' ((first | (refine (?_ : TG _ _); first | refine tY ?_ | refine tN ?_ | refine dY ?_ | refine dN ?_ | (refine tell ?_ ?_ <;> intro hQ <;> try dsimp only at hQ)) | refine aS ?_ | refine ai ?_ | fail) <;> conv=>whnf)
   exact ⟨k + 1,[],⟨hlt,hok',by rw [htk,List.map_append,List.nodup_append]; exact ⟨hnd,by simp,fun x hx z hz=>by simp at hz; subst hz; exact fun h=>hw (h ▸ hx)⟩⟩,rn en⟩
 ·have hi : i = es.length:=by omega
  subst hi
  rw [List.take_of_length_le (Nat.le_refl _)] at hok hnd
  conv=>whnf
  repeat' ((first | (refine (?_ : TG _ _); first | refine tY ?_ | refine tN ?_ | refine dY ?_ | refine dN ?_ | (refine tell ?_ ?_ <;> intro hQ <;> try dsimp only at hQ)) | refine aS ?_ | refine ai ?_ | fail) <;> conv=>whnf)
  exact ⟨true,[],fin ⟨fun _=>⟨hn1,hn2,hl2,hok,hnd⟩,fun _=>rfl⟩,rfl,trivial,trivial⟩
def spInts : Spec AF where
 γ:=List Int × List Int
 δ:=Bool
 args:=fun g=>[.lst 3 g.1,.lst 3 g.2]
 pre:=fun g=>g.1.length ≤ 9223372036854775807
 res:=fun _ c=>vB c
 post:=fun g c=>(c = true ↔ g.1 = g.2)
theorem take_snocI {α : Type} {l : List α} {i : Nat} {y : α} (h : l[i]? = some y) : l.take (i + 1) = l.take i ++ [y]:=by rw [List.take_add_one,h]; rfl
theorem m_ints : Meets Tryz.prog regF 12 spInts:=by
 refine meets Tryz.func12 26 noWr ?_
 rintro ⟨(a : List Int),(b : List Int)⟩ (hl : a.length ≤ 9223372036854775807)
 by_cases hlen : a.length = b.length
 ·conv=>whnf
  repeat' ((first | (refine (?_ : TG _ _); first | refine tY ?_ | refine tN ?_ | refine dY ?_ | refine dN ?_ | (refine tell ?_ ?_ <;> intro hQ <;> try dsimp only at hQ)) | refine aS ?_ | refine ai ?_ | fail) <;> conv=>whnf)
  refine ⟨Nat,fun i=>⟨[(0,.lst 3 a),(1,.lst 3 b),(5,vI i)],[]⟩,fun i=>i ≤ a.length ∧ a.take i = b.take i,fun i=>a.length - i,fun _ _=>rfl,⟨0,[],⟨Nat.zero_le _,by simp⟩,en⟩,?_⟩
  rintro (i : Nat) ⟨(hi : i ≤ a.length),(hs : a.take i = b.take i)⟩
  by_cases hlt : i < a.length
  ·have hobt : ∃ x,a[i]? = some x:=⟨_,List.getElem?_eq_getElem hlt⟩
   obtain ⟨x,hx⟩:=hobt
   have hobt : ∃ y,b[i]? = some y:=⟨_,List.getElem?_eq_getElem (by omega)⟩
   obtain ⟨y,hy⟩:=hobt
   by_cases hxy : x = y
   ·conv=>whnf
    repeat' ((first | (refine (?_ : TG _ _); first | refine tY ?_ | refine tN ?_ | refine dY ?_ | refine dN ?_ | (refine tell ?_ ?_ <;> intro hQ <;> try dsimp only at hQ)) | refine aS ?_ | refine aX hx ?_ | refine aL hx ?_ | refine aX hy ?_ | refine aL hy ?_ | refine ai ?_ | fail) <;> conv=>whnf)
    exact ⟨i + 1,[],⟨hlt,by rw [take_snocI hx,take_snocI hy,hs,hxy]⟩,rn en⟩
   ·have hne : ¬ a = b:=fun h=>by subst h; rw [hx] at hy; cases hy; exact hxy rfl
    conv=>whnf
    repeat' ((first | (refine (?_ : TG _ _); first | refine tY ?_ | refine tN ?_ | refine dY ?_ | refine dN ?_ | (refine tell ?_ ?_ <;> intro hQ <;> try dsimp only at hQ)) | refine aS ?_ | refine aX hx ?_ | refine aL hx ?_ | refine aX hy ?_ | refine aL hy ?_ | refine ai ?_ | fail) <;> conv=>whnf)
    exact ⟨false,[],by simp [spInts,hne],rfl,trivial,trivial⟩
  ·have hab : a = b:=by
    rw [List.take_of_length_le (by omega),List.take_of_length_le (by omega)] at hs; exact hs
   conv=>whnf
   repeat' ((first | (refine (?_ : TG _ _); first | refine tY ?_ | refine tN ?_ | refine dY ?_ | refine dN ?_ | (refine tell ?_ ?_ <;> intro hQ <;> try dsimp only at hQ)) | refine aS ?_ | refine ai ?_ | fail) <;> conv=>whnf)
   exact ⟨true,[],by simp [spInts,hab],rfl,trivial,trivial⟩
 ·have hne : ¬ a = b:=fun h=>hlen (by rw [h])
  conv=>whnf
  repeat' ((first | (refine (?_ : TG _ _); first | refine tY ?_ | refine tN ?_ | refine dY ?_ | refine dN ?_ | (refine tell ?_ ?_ <;> intro hQ <;> try dsimp only at hQ)) | refine aS ?_ | refine ai ?_ | fail) <;> conv=>whnf)
  exact ⟨false,[],by simp [spInts,hne],rfl,trivial,trivial⟩
def spHas : Spec AF where
 γ:=List Int × Int
 δ:=Bool
 args:=fun g=>[.lst 3 g.1,vI g.2]
 pre:=fun g=>g.1.length ≤ 9223372036854775807
 res:=fun _ c=>vB c
 post:=fun g c=>(c = true ↔ g.2 ∈ g.1)
def spIndex : Spec AF where
 γ:=List Int × Int
 δ:=Int
 args:=fun g=>[.lst 3 g.1,vI g.2]
 pre:=fun g=>g.1.length ≤ 9223372036854775807
 res:=fun _ r=>vI r
 post:=fun g r=>(0 ≤ r ↔ g.2 ∈ g.1)
theorem m_index : Meets Tryz.prog regF 191 spIndex:=by
 refine meets Tryz.func191 19 noWr ?_
 rintro ⟨(a : List Int),(k : Int)⟩ (hl : a.length ≤ 9223372036854775807)
 conv=>whnf
 repeat' ((first | (refine (?_ : TG _ _); first | refine tY ?_ | refine tN ?_ | refine dY ?_ | refine dN ?_ | (refine tell ?_ ?_ <;> intro hQ <;> try dsimp only at hQ)) | refine aS ?_ | refine ai ?_ | fail) <;> conv=>whnf)
 refine ⟨Nat,fun i=>⟨[(0,.lst 3 a),(1,vI k),(7,vI a.length),(8,vI i)],[]⟩,fun i=>i ≤ a.length ∧ k ∉ a.take i,fun i=>a.length - i,fun _ _=>rfl,⟨0,[],⟨Nat.zero_le _,by simp⟩,en⟩,?_⟩
 rintro (i : Nat) ⟨(hi : i ≤ a.length),(hs : k ∉ a.take i)⟩
 by_cases hlt : i < a.length
 ·have hobt : ∃ x,a[i]? = some x:=⟨_,List.getElem?_eq_getElem hlt⟩
  obtain ⟨x,hx⟩:=hobt
  have hm:=List.mem_of_getElem? hx
  by_cases hxk : x = k
  ·conv=>whnf
   repeat' ((first | (refine (?_ : TG _ _); first | refine tY ?_ | refine tN ?_ | refine dY ?_ | refine dN ?_ | (refine tell ?_ ?_ <;> intro hQ <;> try dsimp only at hQ)) | refine aS ?_ | refine aX hx ?_ | refine aL hx ?_ | refine ai ?_ | fail) <;> conv=>whnf)
   exact ⟨(i : Int),[],⟨fun _=>hxk ▸ hm,fun _=>Int.natCast_nonneg i⟩,rfl,trivial,trivial⟩
  ·conv=>whnf
   repeat' ((first | (refine (?_ : TG _ _); first | refine tY ?_ | refine tN ?_ | refine dY ?_ | refine dN ?_ | (refine tell ?_ ?_ <;> intro hQ <;> try dsimp only at hQ)) | refine aS ?_ | refine aX hx ?_ | refine aL hx ?_ | refine ai ?_ | fail) <;> conv=>whnf)
   exact ⟨i + 1,[],⟨hlt,by rw [take_snocI hx]; simp; exact ⟨hs,fun h=>hxk h.symm⟩⟩,rn en⟩
 ·rw [List.take_of_length_le (by omega)] at hs
  conv=>whnf
  repeat' ((first | (refine (?_ : TG _ _); first | refine tY ?_ | refine tN ?_ | refine dY ?_ | refine dN ?_ | (refine tell ?_ ?_ <;> intro hQ <;> try dsimp only at hQ)) | refine aS ?_ | refine ai ?_ | fail) <;> conv=>whnf)
  exact ⟨(-1 : Int),[],⟨fun h=>absurd h (by decide),fun h=>absurd h hs⟩,rfl,trivial,trivial⟩
theorem index_ex (a : List Int) (k : Int) : ∃ r : Int,0 ≤ r ↔ k ∈ a:=by
 by_cases h : k ∈ a
 ·exact ⟨0,by simp [h]⟩
 ·exact ⟨-1,by simp [h]⟩
theorem m_contains : Meets Tryz.prog regF 146 spHas:=by
 refine meets Tryz.func146 9 noWr ?_
 rintro ⟨(a : List Int),(k : Int)⟩ (hl : a.length ≤ 9223372036854775807)
 conv=>whnf
 repeat' ((first | (refine (?_ : TG _ _); first | refine tY ?_ | refine tN ?_ | refine dY ?_ | refine dN ?_ | (refine tell ?_ ?_ <;> intro hQ <;> try dsimp only at hQ)) | refine aS ?_ | refine ai ?_ | fail) <;> conv=>whnf)
 refine ⟨_,m_index,(a,k),[],false,?_⟩
 conv=>whnf
 refine vcA hl ?_
 refine And.intro (index_ex a k) ?_
 intro (r : Int) (hr : 0 ≤ r ↔ k ∈ a)
 conv=>whnf
 repeat' ((first | (refine (?_ : TG _ _); first | refine tY ?_ | refine tN ?_ | refine dY ?_ | refine dN ?_ | (refine tell ?_ ?_ <;> intro hQ <;> try dsimp only at hQ)) | refine aS ?_ | refine ai ?_ | fail) <;> conv=>whnf)
 ·exact ⟨true,[],⟨fun _=>hr.1 (by assumption),fun _=>rfl⟩,rfl,trivial,trivial⟩
 ·exact ⟨false,[],⟨fun h=>(by cases h),fun h=>absurd (hr.2 h) (by omega)⟩,rfl,trivial,trivial⟩
theorem right_ex (n : Int) (es : List Edge) : ∃ c : Bool,c = true ↔ RightL n es:=by
 by_cases h : RightL n es
 ·exact ⟨true,by simp [h]⟩
 ·exact ⟨false,by simp [h]⟩
def spEdgeIs : Spec AF where
 γ:=Edge × Int × Int
 δ:=Bool
 args:=fun g=>[.agg [vI g.1.1,vI g.1.2.1,vI g.1.2.2],.ptr 0 0 1 0,.ptr 1 0 1 0]
 own:=fun g=>[.cells [vI g.2.1],.cells [vI g.2.2]]
 res:=fun _ c=>vB c
 own':=fun g _=>[some (.cells [vI g.2.1]),some (.cells [vI g.2.2])]
 post:=fun g c=>(c = true ↔ wayE g.1 = g.2)
theorem m_edgeIs : Meets Tryz.prog regF 64 spEdgeIs:=by
 refine meets Tryz.func64 15 noWr ?_
 rintro ⟨(e : Edge),(a : Int),(b : Int)⟩ _
 have fin : ∀ {c : Bool},(c = true ↔ e.1 = a ∧ e.2.1 = b) → spEdgeIs.post (e,a,b) c:=fun h=>h.trans ⟨fun h=>Prod.ext h.1 h.2,fun h=>⟨congrArg Prod.fst h,congrArg Prod.snd h⟩⟩
 conv=>whnf
 repeat' ((first | (refine (?_ : TG _ _); first | refine tY ?_ | refine tN ?_ | refine dY ?_ | refine dN ?_ | (refine tell ?_ ?_ <;> intro hQ <;> try dsimp only at hQ)) | refine aS ?_ | refine ai ?_ | fail) <;> conv=>whnf)
 ·exact ⟨true,[],fin (by simp; omega),rfl,⟨⟨rfl,trivial⟩,⟨rfl,trivial⟩,trivial⟩,trivial⟩
 ·exact ⟨false,[],fin (by simp; omega),rfl,⟨⟨rfl,trivial⟩,⟨rfl,trivial⟩,trivial⟩,trivial⟩
 ·exact ⟨false,[],fin (by simp; omega),rfl,⟨⟨rfl,trivial⟩,⟨rfl,trivial⟩,trivial⟩,trivial⟩
def idxF (w : Int × Int) : List Edge → Nat → Int
 | [],_=>-1
 | e :: t,i=>if wayE e = w then (i : Int) else idxF w t (i + 1)
theorem idxF_skip (w : Int × Int) : ∀ (i : Nat) (es : List Edge) (j : Nat),i ≤ es.length → (∀ x ∈ es.take i,wayE x ≠ w) → idxF w es j = idxF w (es.drop i) (j + i)
 | 0,_,_,_,_=>rfl
 | i + 1,[],_,h,_=>by simp at h
 | i + 1,e :: t,j,h,hn=>by
  rw [idxF,if_neg (hn e (by simp)),List.drop_succ_cons,idxF_skip w i t (j + 1) (by simpa using h) (fun x hx=>hn x (by simp [hx])),show j + 1 + i = j + (i + 1) by omega]
def spIdxE : Spec AF where
 γ:=List Edge × Int × Int
 args:=fun g=>[.lst 44 g.1,.fn (.func 64) [] [.ptr 0 0 1 0,.ptr 1 0 1 0]]
 own:=fun g=>[.cells [vI g.2.1],.cells [vI g.2.2]]
 pre:=fun g=>g.1.length ≤ 9223372036854775807
 res:=fun g _=>vI (idxF g.2 g.1 0)
 own':=fun g _=>[some (.cells [vI g.2.1]),some (.cells [vI g.2.2])]
theorem edgeIs_ex (e : Edge) (w : Int × Int) : ∃ c : Bool,c = true ↔ wayE e = w:=by
 by_cases h : wayE e = w
 ·exact ⟨true,by simp [h]⟩
 ·exact ⟨false,by simp [h]⟩
theorem m_idxE : Meets Tryz.prog regF 63 spIdxE:=by
 refine meets Tryz.func63 19 noWr ?_
 rintro ⟨(es : List Edge),(a : Int),(b : Int)⟩ (hl : es.length ≤ 9223372036854775807)
 conv=>whnf
 repeat' ((first | (refine (?_ : TG _ _); first | refine tY ?_ | refine tN ?_ | refine dY ?_ | refine dN ?_ | (refine tell ?_ ?_ <;> intro hQ <;> try dsimp only at hQ)) | refine aS ?_ | refine ai ?_ | fail) <;> conv=>whnf)
 refine ⟨Nat,fun i=>⟨[(0,.lst 44 es),(1,.fn (.func 64) [] [.ptr 0 0 1 0,.ptr 1 0 1 0]),(7,vI es.length),(8,vI i)],[(0,.cells [vI a]),(1,.cells [vI b])]⟩,fun i=>i ≤ es.length ∧ ∀ x ∈ es.take i,wayE x ≠ (a,b),fun i=>es.length - i,fun _ _=>rfl,⟨0,[],⟨Nat.zero_le _,by simp⟩,en⟩,?_⟩
 rintro (i : Nat) ⟨(hi : i ≤ es.length),(hs : ∀ x ∈ es.take i,wayE x ≠ (a,b))⟩
 have hk:=idxF_skip (a,b) i es 0 hi hs
 by_cases hlt : i < es.length
 ·have hobt : ∃ e,es[i]? = some e:=⟨_,List.getElem?_eq_getElem hlt⟩
  obtain ⟨e,he⟩:=hobt
  have hdr : es.drop i = e :: es.drop (i + 1):=by
   have hobt:=List.getElem?_eq_some_iff.1 he
   obtain ⟨h1,rfl⟩:=hobt
   exact List.drop_eq_getElem_cons h1
  conv=>whnf
  repeat' ((first | (refine (?_ : TG _ _); first | refine tY ?_ | refine tN ?_ | refine dY ?_ | refine dN ?_ | (refine tell ?_ ?_ <;> intro hQ <;> try dsimp only at hQ)) | refine aS ?_ | refine aX he ?_ | refine aL he ?_ | refine ai ?_ | fail) <;> conv=>whnf)
  refine ⟨_,m_edgeIs,(e,a,b),[0,1],false,?_⟩
  conv=>whnf
  refine vcA trivial ?_
  refine And.intro (edgeIs_ex e (a,b)) ?_
  intro (c : Bool) (hc : c = true ↔ wayE e = (a,b))
  cases c
  ·have hne : wayE e ≠ (a,b):=fun h=>by have:=hc.2 h; cases this
   have hs' : ∀ x ∈ es.take (i + 1),wayE x ≠ (a,b):=fun x hx=>by
    rw [take_snocI he] at hx
    rcases List.mem_append.1 hx with hx | hx
    ·exact hs x hx
    ·simp at hx; subst hx; exact hne
   conv=>whnf
   repeat' ((first | (refine (?_ : TG _ _); first | refine tY ?_ | refine tN ?_ | refine dY ?_ | refine dN ?_ | (refine tell ?_ ?_ <;> intro hQ <;> try dsimp only at hQ)) | refine aS ?_ | refine ai ?_ | fail) <;> conv=>whnf)
   exact ⟨i + 1,[],⟨hlt,hs'⟩,rn en⟩
  ·have heq:=hc.1 rfl
   conv=>whnf
   repeat' ((first | (refine (?_ : TG _ _); first | refine tY ?_ | refine tN ?_ | refine dY ?_ | refine dN ?_ | (refine tell ?_ ?_ <;> intro hQ <;> try dsimp only at hQ)) | refine aS ?_ | refine ai ?_ | fail) <;> conv=>whnf)
   exact ⟨(),[],trivial,eI (by rw [hk,hdr,idxF,if_pos heq,Nat.zero_add]),⟨⟨rfl,trivial⟩,⟨rfl,trivial⟩,trivial⟩,trivial⟩
 ·rw [List.drop_eq_nil_of_le (by omega)] at hk
  conv=>whnf
  repeat' ((first | (refine (?_ : TG _ _); first | refine tY ?_ | refine tN ?_ | refine dY ?_ | refine dN ?_ | (refine tell ?_ ?_ <;> intro hQ <;> try dsimp only at hQ)) | refine aS ?_ | refine ai ?_ | fail) <;> conv=>whnf)
  exact ⟨(),[],trivial,eI (by rw [hk]; rfl),⟨⟨rfl,trivial⟩,⟨rfl,trivial⟩,trivial⟩,trivial⟩
open Classical in
noncomputable def betF (n : Int) (es : List Edge) (w : Int × Int) : Int × Bool:=if RightL n es ∧ 0 ≤ idxF w es 0 then (idxF w es 0,true) else (0,false)
noncomputable def spBetween : Spec AF where
 γ:=(Int × List Edge) × Int × Int
 args:=fun g=>[layS g.1.1 g.1.2,vI g.2.1,vI g.2.2]
 pre:=fun g=>GoodL g.1.2
 res:=fun g _=>.tup [vI (betF g.1.1 g.1.2 g.2).1,vB (betF g.1.1 g.1.2 g.2).2]
theorem m_between : Meets Tryz.prog regF 33 spBetween:=by
 refine meets Tryz.func33 21 noWr ?_
 rintro ⟨⟨(n : Int),(es : List Edge)⟩,(a : Int),(b : Int)⟩ (hg : GoodL es)
 conv=>whnf
 repeat' ((first | (refine (?_ : TG _ _); first | refine tY ?_ | refine tN ?_ | refine dY ?_ | refine dN ?_ | (refine tell ?_ ?_ <;> intro hQ <;> try dsimp only at hQ)) | refine aS ?_ | refine ai ?_ | fail) <;> conv=>whnf)
 refine ⟨_,m_idxE,(es,a,b),[1004,1005],false,?_⟩
 conv=>whnf
 refine vcA hg.1 ?_
 refine uU ?_
 conv=>whnf
 by_cases hlt : idxF (a,b) es 0 < 0
 ·have hb : betF n es (a,b) = (0,false):=if_neg fun h=>by omega
  conv=>whnf
  repeat' ((first | (refine (?_ : TG _ _); first | refine tY ?_ | refine tN ?_ | refine dY ?_ | refine dN ?_ | (refine tell ?_ ?_ <;> intro hQ <;> try dsimp only at hQ)) | refine aS ?_ | refine ai ?_ | fail) <;> conv=>whnf)
  exact ⟨(),[],trivial,⟨congrArg vI (congrArg Prod.fst hb).symm,congrArg vB (congrArg Prod.snd hb).symm,trivial⟩,trivial,trivial⟩
 conv=>whnf
 repeat' ((first | (refine (?_ : TG _ _); first | refine tY ?_ | refine tN ?_ | refine dY ?_ | refine dN ?_ | (refine tell ?_ ?_ <;> intro hQ <;> try dsimp only at hQ)) | refine aS ?_ | refine ai ?_ | fail) <;> conv=>whnf)
 refine ⟨_,m_right,(n,es),[],false,?_⟩
 conv=>whnf
 refine vcA hg ?_
 refine And.intro (right_ex n es) ?_
 intro (c : Bool) (hc : c = true ↔ RightL n es)
 cases c
 ·have hb : betF n es (a,b) = (0,false):=if_neg fun h=>by have:=hc.2 h.1; cases this
  conv=>whnf
  repeat' ((first | (refine (?_ : TG _ _); first | refine tY ?_ | refine tN ?_ | refine dY ?_ | refine dN ?_ | (refine tell ?_ ?_ <;> intro hQ <;> try dsimp only at hQ)) | refine aS ?_ | refine ai ?_ | fail) <;> conv=>whnf)
  exact ⟨(),[],trivial,⟨congrArg vI (congrArg Prod.fst hb).symm,congrArg vB (congrArg Prod.snd hb).symm,trivial⟩,trivial,trivial⟩
 ·have hb : betF n es (a,b) = (idxF (a,b) es 0,true):=if_pos ⟨hc.1 rfl,by omega⟩
  conv=>whnf
  repeat' ((first | (refine (?_ : TG _ _); first | refine tY ?_ | refine tN ?_ | refine dY ?_ | refine dN ?_ | (refine tell ?_ ?_ <;> intro hQ <;> try dsimp only at hQ)) | refine aS ?_ | refine ai ?_ | fail) <;> conv=>whnf)
  exact ⟨(),[],trivial,⟨congrArg vI (congrArg Prod.fst hb).symm,congrArg vB (congrArg Prod.snd hb).symm,trivial⟩,trivial,trivial⟩
end Go.Sx
namespace Go.Sx
noncomputable section
open Go Go.Proofs Go.Proofs.YtcehbnfhlcfinaaGreatDoor
end
end Go.Sx
namespace Go.Proofs
open Go.Shelf
def TopT.set_ren : Go.Shelf.Ren:=⟨fun | 227=>78 | n=>n,fun | 9=>9 | 116=>190 | 4=>4 | 0=>0 | 3=>3 | 5=>5 | n=>n,fun | n=>n⟩
theorem TopT.set : Go.Proofs.Lays.n227 Tryz.prog TopT.set_ren:={
 mixed:=by kernel_rfl
 f227:=Tryz.func78.trans (congrArg some (by kernel_rfl))
 t0:=Tryz.underlying0
 a0:=Tryz.isAgg0
 z0:=Tryz.sizeOf0
 v0:=Tryz.zeroValue0
 t3:=Tryz.underlying3
 a3:=Tryz.isAgg3
 z3:=Tryz.sizeOf3
 v3:=Tryz.zeroValue3
 t4:=Tryz.underlying4
 a4:=Tryz.isAgg4
 z4:=Tryz.sizeOf4
 v4:=Tryz.zeroValue4
 t5:=Tryz.underlying5
 a5:=Tryz.isAgg5
 z5:=Tryz.sizeOf5
 v5:=Tryz.zeroValue5
 t9:=Tryz.underlying9
 a9:=Tryz.isAgg9
 z9:=Tryz.sizeOf9
 v9:=Tryz.zeroValue9
 t116:=Tryz.underlying190
 a116:=Tryz.isAgg190
 z116:=Tryz.sizeOf190 }
end Go.Proofs
namespace Go.Sx
noncomputable section
open Go Go.Proofs Go.Proofs.YtcehbnfhlcfinaaGreatDoor Go.Shelf
abbrev vS (l : List UInt8) : SV AF:=.val (.string ⟨l.toArray⟩)
theorem toList_bS (l : List UInt8) : ByteArray.toList ⟨l.toArray⟩ = l:=Lib.toList_data _
theorem size_bS (l : List UInt8) : (⟨l.toArray⟩ : ByteArray).size = l.length:=by show (⟨l.toArray⟩ : ByteArray).data.size = _; simp
theorem bS_inj {a b : List UInt8} : ByteArray.toList ⟨a.toArray⟩ = ByteArray.toList ⟨b.toArray⟩ ↔ a = b:=by rw [toList_bS,toList_bS]
theorem bS_cut (l : List UInt8) (i j : Nat) : (⟨l.toArray⟩ : ByteArray).extract i j = ⟨((l.take j).drop i).toArray⟩:=by
 apply ByteArray.ext
 rw [ByteArray.data_extract]
 apply Array.ext'
 simp [List.extract_eq_take_drop,List.drop_take]
theorem bS_drop (l : List UInt8) (i : Nat) : (⟨l.toArray⟩ : ByteArray).extract i (⟨l.toArray⟩ : ByteArray).size = ⟨(l.drop i).toArray⟩:=by rw [bS_cut,size_bS,List.take_length]
def okB (b : UInt8) : Bool:=(97 ≤ b.toNat && b.toNat ≤ 122) || (65 ≤ b.toNat && b.toNat ≤ 90) || (48 ≤ b.toNat && b.toNat ≤ 57) || b.toNat == 95 || b.toNat == 46 || b.toNat == 58 || b.toNat == 45
abbrev charsL : List UInt8:=[97,98,99,100,101,102,103,104,105,106,107,108,109,110,111,112,113,114,115,116,117,118,119,120,121,122,65,66,67,68,69,70,71,72,73,74,75,76,77,78,79,80,81,82,83,84,85,86,87,88,89,90,48,49,50,51,52,53,54,55,56,57,95,46,58,45]
def setL : List Bool:=(List.range 256).map fun n=>okB (UInt8.ofNat n)
theorem setL_get (b : UInt8) : setL[((b.toNat : Nat) : Int).toNat]? = some (okB b):=by
 have:=UInt8.toNat_lt b
 simp [setL,this]
theorem setL_cells : Lib.setCells charsL = (setL.map Value.bool).toArray:=by kernel_rfl
theorem den_flat {R : Reg AF} {ρ : Rho} {O : Nat → Prop} {w : World} {us : List Value} : Den R ρ O w (.agg (us.map .val)) (.agg us.toArray):=by
 refine Den.agg _ _ (by simp) fun j s v hs hv=>?_
 rw [List.getElem?_map] at hs
 cases hj : us[j]? with
 | none=>rw [hj] at hs; cases hs
 | some u=>
  rw [hj] at hs; cases hs
  have : us.toArray[j]? = some u:=by simp [hj]
  rw [this] at hv; cases hv
  exact .val _
def spSet : Spec AF where
 γ:=Unit
 args:=fun _=>[vS charsL]
 res:=fun _ _=>.tup [.aggl 4 setL,vB true]
theorem setL_flat : (setL : List Bool).flatMap (regF.enc 4) = (setL.map Value.bool).map .val:=by kernel_rfl
theorem args1' {vs : Array Value} {R : Reg AF} {ρ : Rho} {O : Nat → Prop} {w : World} {a : SV AF} (h : DenL R ρ O w [a] vs.toList) : ∃ u,vs = #[u] ∧ Den R ρ O w a u:=by
 obtain ⟨h1,h2⟩:=h
 obtain ⟨l⟩:=vs
 match l,h1,h2 with
 | [u],_,h2=>exact ⟨u,rfl,h2 0 a u rfl rfl⟩
set_option maxRecDepth 100000 in
theorem m_set : Meets Tryz.prog regF 78 spSet:=by
 refine ⟨⟨_,Tryz.func78,by kernel_rfl,by kernel_rfl⟩,?_⟩
 intro _ _ X ρ w vs hX1 hX2 hargs hown
 have hobt:=args1' hargs
 obtain ⟨u,rfl,hu⟩:=hobt
 have hu : u = .string ⟨charsL.toArray⟩:=by cases hu; rfl
 subst hu
 refine (Any.strings_makeASCIISet TopT.set (by intro w; exact Tryz.zeroValue190 w) (by kernel_rfl) ⟨charsL.toArray⟩ w (by decide) (by
  intro j b hb
  have : ∀ b ∈ charsL,b.toNat < 128:=by decide
  exact this b (List.mem_of_getElem? hb))).mono ?_
 rintro e w' ⟨rfl,rfl⟩
 have hrel : WRel (fun _=>False) w (w.alloc (.cells (Lib.setCells charsL) (TopT.set_ren.t 116))):=WRel.refl.alloc _
 refine ⟨(),ρ,_,trivial,rfl,fun _ _=>rfl,?_,⟨fun h ct hct=>by simp [spSet] at hct,fun h h' ct ct' k base base' hct hct' e e'=>by simp [spSet] at hct⟩,fun k hk=>?_,rfl,rfl,fun h ct hct=>by simp [spSet] at hct,?_⟩
 ·refine Den.tup _ _ rfl fun j a v ha hv=>?_
  match j,ha,hv with
  | 0,ha,hv=>
   cases ha; cases hv
   refine .aggl _ _ _ ?_
   rw [setL_flat]
   show Den _ _ _ _ _ (.agg (Lib.setCells charsL))
   rw [setL_cells]
   exact den_flat
  | 1,ha,hv=>cases ha; cases hv; exact .val _
 ·obtain ⟨h,ct,base,hct,hr⟩:=hk
  simp [spSet] at hct
 ·exact ⟨hrel.os,hrel.tape,hrel.output,hrel.size,fun k hk hn=>hrel.block k hk (fun e=>e),hrel.shape⟩
def spHasB : Spec AF where
 γ:=UInt8
 args:=fun b=>[.ptr 0 0 256 0,.val (.int .u8 ((b.toNat : Nat) : Int))]
 own:=fun _=>[.arr 4 setL]
 res:=fun b _=>vB (okB b)
 own':=fun _ _=>[some (.arr 4 setL)]
theorem m_hasB : Meets Tryz.prog regF 104 spHasB:=by
 refine meets Tryz.func104 10 noWr ?_
 rintro (b : UInt8) _
 have hobt : ∃ x,x = okB b ∧ setL[((b.toNat : Nat) : Int).toNat]? = some x:=⟨_,rfl,setL_get b⟩
 obtain ⟨x,hx,h⟩:=hobt
 have hb:=UInt8.toNat_lt b
 conv=>whnf
 repeat' ((first | (refine (?_ : TG _ _); first | refine tY ?_ | refine tN ?_ | refine dY ?_ | refine dN ?_ | (refine tell ?_ ?_ <;> intro hQ <;> try dsimp only at hQ)) | refine aS ?_ | refine aX h ?_ | refine aL h ?_ | refine ai ?_ | fail) <;> conv=>whnf)
 exact ⟨(),[],trivial,eB hx,⟨rfl,trivial⟩,trivial⟩
def spTrimA : Spec AF where
 γ:=List UInt8
 args:=fun l=>[vS l,.ptr 0 0 256 0]
 own:=fun _=>[.arr 4 setL]
 res:=fun l _=>vS (l.dropWhile okB)
 own':=fun _ _=>[some (.arr 4 setL)]
theorem eVS {R : Reg AF} {st : St AF} {a b : List UInt8} (h : a = b) : EntR R st (vS a) (vS b):=congrArg vS h
set_option maxRecDepth 100000 in
theorem m_trimA : Meets Tryz.prog regF 79 spTrimA:=by
 refine meets Tryz.func79 16 noWr ?_
 rintro (l0 : List UInt8) _
 conv=>whnf
 repeat' ((first | (refine (?_ : TG _ _); first | refine tY ?_ | refine tN ?_ | refine dY ?_ | refine dN ?_ | (refine tell ?_ ?_ <;> intro hQ <;> try dsimp only at hQ)) | refine aS ?_ | refine ai ?_ | fail) <;> conv=>whnf)
 refine ⟨List UInt8,fun l=>⟨[(0,vS l),(1,.ptr 0 0 256 0)],[(0,.arr 4 setL)]⟩,fun l=>l.dropWhile okB = l0.dropWhile okB,fun l=>l.length,fun _ _=>rfl,⟨l0,[],rfl,en⟩,?_⟩
 rintro (l : List UInt8) (hl : l.dropWhile okB = l0.dropWhile okB)
 have hz:=size_bS l
 cases l with
 | nil=>
  have hz0 : (⟨#[]⟩ : ByteArray).size = 0:=rfl
  conv=>whnf
  repeat' ((first | (refine (?_ : TG _ _); first | refine tY ?_ | refine tN ?_ | refine dY ?_ | refine dN ?_ | (refine tell ?_ ?_ <;> intro hQ <;> try dsimp only at hQ)) | refine aS ?_ | refine ai ?_ | fail) <;> conv=>whnf)
  exact ⟨(),[],trivial,eVS hl,⟨rfl,trivial⟩,trivial⟩
 | cons x l=>
  have hz2 : (x :: l).length = l.length + 1:=rfl
  conv=>whnf
  repeat' ((first | (refine (?_ : TG _ _); first | refine tY ?_ | refine tN ?_ | refine dY ?_ | refine dN ?_ | (refine tell ?_ ?_ <;> intro hQ <;> try dsimp only at hQ)) | refine aS ?_ | refine ai ?_ | fail) <;> conv=>whnf)
  refine ⟨_,m_hasB,x,[0],false,?_⟩
  conv=>whnf
  refine vcA trivial ?_
  refine uU ?_
  conv=>whnf
  cases hx : okB x
  ·rw [List.dropWhile_cons,hx] at hl
   conv=>whnf
   repeat' ((first | (refine (?_ : TG _ _); first | refine tY ?_ | refine tN ?_ | refine dY ?_ | refine dN ?_ | (refine tell ?_ ?_ <;> intro hQ <;> try dsimp only at hQ)) | refine aS ?_ | refine ai ?_ | fail) <;> conv=>whnf)
   exact ⟨(),[],trivial,eVS hl,⟨rfl,trivial⟩,trivial⟩
  ·rw [List.dropWhile_cons,hx] at hl
   have hcut:=bS_drop (x :: l) 1
   conv=>whnf
   repeat' ((first | (refine (?_ : TG _ _); first | refine tY ?_ | refine tN ?_ | refine dY ?_ | refine dN ?_ | (refine tell ?_ ?_ <;> intro hQ <;> try dsimp only at hQ)) | refine aS ?_ | refine ai ?_ | fail) <;> conv=>whnf)
   refine ⟨l,[],hl,?_,rfl,?_,?_,rfl⟩
   ·dsimp only; first | omega | (simp; done) | (simp; omega)
   all_goals (repeat' (first | exact trivial | exact rfl | refine And.intro ?_ ?_ | (refine congrArg vI ?_; first | omega | (dsimp only; omega) | fail) | (refine congrArg some ?_) | omega | exact Nat.le_refl _ | exact congrArg (SV.lst _) (List.take_of_length_le (Nat.le_refl _)).symm))
   all_goals exact congrArg (fun y=>SV.val (A:=AF) (.string y)) hcut
def spTrim : Spec AF where
 γ:=List UInt8
 args:=fun l=>[vS l,vS charsL]
 res:=fun l _=>vS (l.dropWhile okB)
set_option maxRecDepth 100000 in
theorem m_trim : Meets Tryz.prog regF 42 spTrim:=by
 refine meets Tryz.func42 37 noWr ?_
 rintro (l : List UInt8) _
 have hcs : (⟨charsL.toArray⟩ : ByteArray).size = 66:=by decide
 have hcne : ¬ (ByteArray.toList ⟨charsL.toArray⟩ = ByteArray.toList ⟨#[]⟩):=fun e=>absurd ((bS_inj (b:=[])).1 e) (by decide)
 cases l with
 | nil=>
  conv=>whnf
  repeat' ((first | (refine (?_ : TG _ _); first | refine tY ?_ | refine tN ?_ | refine dY ?_ | refine dN ?_ | (refine tell ?_ ?_ <;> intro hQ <;> try dsimp only at hQ)) | refine aS ?_ | refine ai ?_ | fail) <;> conv=>whnf)
  exact ⟨(),[],trivial,rfl,trivial,trivial⟩
 | cons x l=>
  have hne : ¬ (ByteArray.toList ⟨(x :: l).toArray⟩ = ByteArray.toList ⟨#[]⟩):=fun e=>absurd ((bS_inj (b:=[])).1 e) (by simp)
  conv=>whnf
  repeat' ((first | (refine (?_ : TG _ _); first | refine tY ?_ | refine tN ?_ | refine dY ?_ | refine dN ?_ | (refine tell ?_ ?_ <;> intro hQ <;> try dsimp only at hQ)) | refine aS ?_ | refine ai ?_ | fail) <;> conv=>whnf)
  refine ⟨_,m_set,(),[],false,?_⟩
  conv=>whnf
  refine vcA trivial ?_
  refine uU ?_
  conv=>whnf
  conv=>whnf
  repeat' ((first | (refine (?_ : TG _ _); first | refine tY ?_ | refine tN ?_ | refine dY ?_ | refine dN ?_ | (refine tell ?_ ?_ <;> intro hQ <;> try dsimp only at hQ)) | refine aS ?_ | refine ai ?_ | fail) <;> conv=>whnf)
  refine ⟨_,m_trimA,x :: l,[1005],false,?_⟩
  conv=>whnf
  refine vcA trivial ?_
  refine uU ?_
  conv=>whnf
  conv=>whnf
  repeat' ((first | (refine (?_ : TG _ _); first | refine tY ?_ | refine tN ?_ | refine dY ?_ | refine dN ?_ | (refine tell ?_ ?_ <;> intro hQ <;> try dsimp only at hQ)) | refine aS ?_ | refine ai ?_ | fail) <;> conv=>whnf)
  exact ⟨(),[],trivial,rfl,trivial,trivial⟩
def nameF (l : List UInt8) : Bool:=l.all okB && (!l.isEmpty && decide (l.length ≤ 16))
def spName : Spec AF where
 γ:=List UInt8
 args:=fun l=>[vS l]
 res:=fun l _=>vB (nameF l)
theorem dropW_all {p : UInt8 → Bool} : ∀ {l : List UInt8},l.dropWhile p = [] ↔ l.all p = true
 | []=>by simp
 | x :: l=>by
  rw [List.dropWhile_cons,List.all_cons]
  cases h : p x
  ·simp
  ·simp only [Bool.true_and,if_true]; exact dropW_all
set_option maxRecDepth 100000 in
theorem m_name : Meets Tryz.prog regF 20 spName:=by
 refine meets Tryz.func20 17 noWr ?_
 rintro (l : List UInt8) _
 have hz:=size_bS l
 conv=>whnf
 repeat' ((first | (refine (?_ : TG _ _); first | refine tY ?_ | refine tN ?_ | refine dY ?_ | refine dN ?_ | (refine tell ?_ ?_ <;> intro hQ <;> try dsimp only at hQ)) | refine aS ?_ | refine ai ?_ | fail) <;> conv=>whnf)
 refine ⟨_,m_trim,l,[],false,?_⟩
 conv=>whnf
 refine vcA trivial ?_
 refine uU ?_
 conv=>whnf
 by_cases h1 : l.all okB = true
 ·have e1 : l.dropWhile okB = []:=dropW_all.2 h1
  have t1 : ByteArray.toList ⟨(l.dropWhile okB).toArray⟩ = ByteArray.toList ⟨#[]⟩:=(bS_inj (b:=[])).2 e1
  cases l with
  | nil=>
   conv=>whnf
   repeat' ((first | (refine (?_ : TG _ _); first | refine tY ?_ | refine tN ?_ | refine dY ?_ | refine dN ?_ | (refine tell ?_ ?_ <;> intro hQ <;> try dsimp only at hQ)) | refine aS ?_ | refine ai ?_ | fail) <;> conv=>whnf)
   exact ⟨(),[],trivial,rfl,trivial,trivial⟩
  | cons x l=>
   have hne : ¬ (ByteArray.toList ⟨(x :: l).toArray⟩ = ByteArray.toList ⟨#[]⟩):=fun e=>absurd ((bS_inj (b:=[])).1 e) (by simp)
   by_cases h2 : (x :: l).length ≤ 16
   ·conv=>whnf
    repeat' ((first | (refine (?_ : TG _ _); first | refine tY ?_ | refine tN ?_ | refine dY ?_ | refine dN ?_ | (refine tell ?_ ?_ <;> intro hQ <;> try dsimp only at hQ)) | refine aS ?_ | refine ai ?_ | fail) <;> conv=>whnf)
    exact ⟨(),[],trivial,eB (by unfold nameF; rw [h1,decide_eq_true h2]; rfl),trivial,trivial⟩
   ·conv=>whnf
    repeat' ((first | (refine (?_ : TG _ _); first | refine tY ?_ | refine tN ?_ | refine dY ?_ | refine dN ?_ | (refine tell ?_ ?_ <;> intro hQ <;> try dsimp only at hQ)) | refine aS ?_ | refine ai ?_ | fail) <;> conv=>whnf)
    exact ⟨(),[],trivial,eB (by unfold nameF; rw [decide_eq_false h2]; simp),trivial,trivial⟩
 ·have t1 : ¬ (ByteArray.toList ⟨(l.dropWhile okB).toArray⟩ = ByteArray.toList ⟨#[]⟩):=fun e=>h1 (dropW_all.1 ((bS_inj (b:=[])).1 e))
  conv=>whnf
  repeat' ((first | (refine (?_ : TG _ _); first | refine tY ?_ | refine tN ?_ | refine dY ?_ | refine dN ?_ | (refine tell ?_ ?_ <;> intro hQ <;> try dsimp only at hQ)) | refine aS ?_ | refine ai ?_ | fail) <;> conv=>whnf)
  exact ⟨(),[],trivial,eB (by unfold nameF; rw [Bool.eq_false_iff.2 h1]; rfl),trivial,trivial⟩
theorem okB_iff {b : UInt8} : okB b = true ↔ (97 ≤ b.toNat ∧ b.toNat ≤ 122) ∨ (65 ≤ b.toNat ∧ b.toNat ≤ 90) ∨ (48 ≤ b.toNat ∧ b.toNat ≤ 57) ∨ b.toNat = 95 ∨ b.toNat = 46 ∨ b.toNat = 58 ∨ b.toNat = 45:=by
 unfold okB
 simp [or_assoc]
theorem m_name07 : Meets Tryz.prog regF 35 { spName with pre:=fun l=>l.length ≤ 9223372036854775807 }:=by
 refine meets Tryz.func35 61 noWr ?_
 rintro (l : List UInt8) (hlen : l.length ≤ 9223372036854775807)
 have hz:=size_bS l
 conv=>whnf
 repeat' ((first | (refine (?_ : TG _ _); first | refine tY ?_ | refine tN ?_ | refine dY ?_ | refine dN ?_ | (refine tell ?_ ?_ <;> intro hQ <;> try dsimp only at hQ)) | refine aS ?_ | refine ai ?_ | fail) <;> conv=>whnf)
 refine ⟨Nat,fun i=>⟨[(0,vS l),(3,vI i)],[]⟩,fun i=>i ≤ l.length ∧ (l.take i).all okB = true,fun i=>l.length - i,fun _ _=>rfl,⟨0,[],⟨Nat.zero_le _,rfl⟩,en⟩,?_⟩
 rintro (i : Nat) ⟨(hi : i ≤ l.length),(hok : (l.take i).all okB = true)⟩
 by_cases hlt : i < l.length
 ·have hobt : ∃ y,l[i]? = some y:=⟨_,List.getElem?_eq_getElem hlt⟩
  obtain ⟨x,hx⟩:=hobt
  have hv : ((((l.getD (i : Int).toNat 0).toNat : Nat) : Int)) = (x.toNat : Int):=by
   rw [List.getD_eq_getElem?_getD]
   simp [hx]
  have hb:=UInt8.toNat_lt x
  by_cases hk : okB x = true
  ·have hn : (l.take (i + 1)).all okB = true:=by rw [take_snocI hx,List.all_append,hok]; simp [hk]
   have hk:=okB_iff.1 hk
   conv=>whnf
   repeat' ((first | (refine (?_ : TG _ _); first | refine tY ?_ | refine tN ?_ | refine dY ?_ | refine dN ?_ | (refine tell ?_ ?_ <;> intro hQ <;> try dsimp only at hQ)) | refine aS ?_ | refine ai ?_ | fail) <;> conv=>whnf)
   all_goals exact ⟨i + 1,[],⟨hlt,hn⟩,rn en⟩
  ·have hn : nameF l = false:=by
    unfold nameF
    have : l.all okB = false:=by
     rw [Bool.eq_false_iff]
     exact fun h=>hk (List.all_eq_true.1 h x (List.mem_of_getElem? hx))
    rw [this]; rfl
   have hk:=(not_congr okB_iff).1 hk
   conv=>whnf
   repeat' ((first | (refine (?_ : TG _ _); first | refine tY ?_ | refine tN ?_ | refine dY ?_ | refine dN ?_ | (refine tell ?_ ?_ <;> intro hQ <;> try dsimp only at hQ)) | refine aS ?_ | refine ai ?_ | fail) <;> conv=>whnf)
   all_goals exact ⟨(),[],trivial,eB hn.symm,trivial,trivial⟩
 ·rw [List.take_of_length_le (by omega)] at hok
  have hn : nameF l = (decide (1 ≤ l.length) && decide (l.length ≤ 16)):=by
   unfold nameF
   rw [hok]
   cases l with
   | nil=>rfl
   | cons x l=>simp
  by_cases h1 : 1 ≤ l.length
  ·by_cases h2 : l.length ≤ 16
   ·conv=>whnf
    repeat' ((first | (refine (?_ : TG _ _); first | refine tY ?_ | refine tN ?_ | refine dY ?_ | refine dN ?_ | (refine tell ?_ ?_ <;> intro hQ <;> try dsimp only at hQ)) | refine aS ?_ | refine ai ?_ | fail) <;> conv=>whnf)
    exact ⟨(),[],trivial,eB (by rw [hn,decide_eq_true h1,decide_eq_true h2]; rfl),trivial,trivial⟩
   ·conv=>whnf
    repeat' ((first | (refine (?_ : TG _ _); first | refine tY ?_ | refine tN ?_ | refine dY ?_ | refine dN ?_ | (refine tell ?_ ?_ <;> intro hQ <;> try dsimp only at hQ)) | refine aS ?_ | refine ai ?_ | fail) <;> conv=>whnf)
    exact ⟨(),[],trivial,eB (by rw [hn,decide_eq_true h1,decide_eq_false h2]; rfl),trivial,trivial⟩
  ·conv=>whnf
   repeat' ((first | (refine (?_ : TG _ _); first | refine tY ?_ | refine tN ?_ | refine dY ?_ | refine dN ?_ | (refine tell ?_ ?_ <;> intro hQ <;> try dsimp only at hQ)) | refine aS ?_ | refine ai ?_ | fail) <;> conv=>whnf)
   exact ⟨(),[],trivial,eB (by rw [hn,decide_eq_false h1]; rfl),trivial,trivial⟩
end
end Go.Sx
namespace Go.Sx
noncomputable section
open Go Go.Proofs Go.Proofs.YtcehbnfhlcfinaaGreatDoor
theorem eS {R : Reg AF} {st : St AF} {a b : ByteArray} (h : a = b) : EntR R st (.val (.string a)) (.val (.string b)):=congrArg (fun x=>SV.val (.string x)) h
open Go.Shelf Go.RowKit
theorem WRel.mod {E0 : Nat → Prop} {w0 w w' : World} (h : WRel E0 w0 w) {b : Nat} {c c' : Array Value} {T : TypeId} {fz fz' : Nat × Nat} (hb : w.heap[b]? = some (.cells c T fz)) (hb' : w'.heap[b]? = some (.cells c' T fz')) (hs : c'.size = c.size)
  (ho : ∀ k,k ≠ b → w'.heap[k]? = w.heap[k]?) (hz : w'.heap.size = w.heap.size) (hos : w'.os = w.os) (htp : w'.tape = w.tape) (hou : w'.output = w.output) (hE : E0 b ∨ w0.heap.size ≤ b) : WRel E0 w0 w':=by
 refine ⟨hos.trans h.os,htp.trans h.tape,hou.trans h.output,by rw [hz]; exact h.size,fun k hk hn=>?_,fun k c1 E f hk=>?_⟩
 ·rw [ho k (by rintro rfl; rcases hE with e | e; exact hn e; omega)]; exact h.block k hk hn
 ·have hobt:=h.shape k c1 E f hk
  obtain ⟨c2,f2,h1,h2⟩:=hobt
  by_cases e : k = b
  ·subst e; rw [hb] at h1; cases h1; exact ⟨c',_,hb',hs.trans h2⟩
  ·exact ⟨c2,f2,by rw [ho k e]; exact h1,h2⟩
theorem heap_setCell_same {w : World} {b j : Nat} {c : Array Value} {T : TypeId} {fz : Nat × Nat} {v : Value} (hb : w.heap[b]? = some (.cells c T fz)) : (w.setCell ⟨b,j,none⟩ v).heap[b]? = some (.cells (c.setIfInBounds j v) T fz):=by
 simp [World.setCell,Array.getElem?_modify,hb]
theorem heap_setCell_other {w : World} {b j k : Nat} {v : Value} (h : k ≠ b) : (w.setCell ⟨b,j,none⟩ v).heap[k]? = w.heap[k]?:=by
 simp only [World.setCell,Array.getElem?_modify]
 rw [if_neg (by omega)]
theorem WRel.setCell {E0 : Nat → Prop} {w0 w : World} (h : WRel E0 w0 w) {b j : Nat} {c : Array Value} {T : TypeId} {fz : Nat × Nat} {v : Value} (hb : w.heap[b]? = some (.cells c T fz)) (hE : E0 b ∨ w0.heap.size ≤ b) : WRel E0 w0 (w.setCell ⟨b,j,none⟩ v):=
 h.mod hb (heap_setCell_same hb) (by simp) (fun k hk=>heap_setCell_other hk) (by simp [World.setCell]) rfl rfl rfl hE
theorem WRel.drew {E0 : Nat → Prop} {w0 w : World} (h : WRel E0 w0 w) : WRel E0 w0 w.drew:=⟨h.os,h.tape,h.output,h.size,h.block,h.shape⟩
theorem heap_freeze_same {w : World} {b n : Nat} {c : Array Value} {T : TypeId} {fz : Nat × Nat} (hb : w.heap[b]? = some (.cells c T fz)) : ∃ fz',(w.freeze ⟨b,0,none⟩ n).heap[b]? = some (.cells c T fz'):=by
 unfold World.freeze
 split
 ·exact ⟨fz,hb⟩
 ·obtain ⟨lo,hi⟩:=fz
  simp [Array.getElem?_modify,hb]
theorem WRel.freeze {E0 : Nat → Prop} {w0 w : World} (h : WRel E0 w0 w) {b n : Nat} {c : Array Value} {T : TypeId} {fz : Nat × Nat} (hb : w.heap[b]? = some (.cells c T fz)) (hE : E0 b ∨ w0.heap.size ≤ b) : WRel E0 w0 (w.freeze ⟨b,0,none⟩ n):=by
 have hobt:=heap_freeze_same (n:=n) hb
 obtain ⟨fz',h'⟩:=hobt
 refine h.mod hb h' rfl (fun k hk=>?_) ?_ ?_ ?_ ?_ hE
 all_goals unfold World.freeze; split
 all_goals first | rfl | (simp only [Array.getElem?_modify]; rw [if_neg (by omega)]) | simp
section
variable {P : Program} {ρ : Ren}
theorem append_rel (w : World) (t u ty e : TypeId) (i : TypeInfo) (ht : P.underlying t = some (.slice e)) (hu : P.underlying u = some .string) (hi : P.info? e = some i) (hz : i.zero = some (.int .u8 0))
  (hsize : i.size = 1) (hby : i.bytes = 1) (v : Value) (n : Nat) (xs : List Value) (hown : w.ownsRow 0 e 1 v n xs) (s : ByteArray)
  (h63 : n + s.size ≤ maxLen) (hbytes : n + s.size ≤ 140737488355328) :
  ∃ v' w',(Builtin.append_ #[t,u] ty #[v,.string s]).run P w = .ok v' w' ∧ w'.ownsRow 0 e 1 v' (n + s.size) (xs ++ Lib.strCells s) ∧ WRel (fun k=>some k = v.ownBlock) w w' ∧
   (v'.ownBlock = v.ownBlock ∨ v'.ownBlock = some w.heap.size):=by
 have hsmall : n + s.size ≤ 9223372036854775807:=by simp only [maxLen] at h63; omega
 have hxl : xs.length = n:=by simpa using hown.1
 have hlen : (xs ++ Lib.strCells s).length = (n + s.size) * 1:=by rw [List.length_append,hxl,Lib.strCells_length,Nat.mul_one]
 have grown : ∀ (old : Nat),old < n + s.size → ∀ (E0 : Nat → Prop),
   (w.drew.alloc (.cells (xs.toArray ++ (Lib.strCells s).toArray ++ Builtin.zeroCells (Value.int .u8 0).cells (grownCap w (n + s.size) old e - (n + s.size))) e)).ownsRow 0 e 1
    (.slice (some ⟨w.heap.size,0,none⟩) (n + s.size) (grownCap w (n + s.size) old e)) (n + s.size) (xs ++ Lib.strCells s) ∧
   WRel E0 w (w.drew.alloc (.cells (xs.toArray ++ (Lib.strCells s).toArray ++ Builtin.zeroCells (Value.int .u8 0).cells (grownCap w (n + s.size) old e - (n + s.size))) e)):=by
  intro old ho E0
  have hge:=grownCap_ge w (n + s.size) old e
  have hcm : grownCap w (n + s.size) old e ≤ maxLen:=grownCap_le_maxLen w (n + s.size) old e h63
  refine ⟨⟨hlen,.inr ⟨w.heap.size,_,_,rfl,Nat.zero_le _,Go.heap_alloc_new w.drew _,hge,hcm,?_,?_⟩⟩,(WRel.refl.drew).alloc _⟩
  ·have hz1 : (Value.int IntKind.u8 0).cells.size = 1:=rfl
   simp only [Array.size_append,List.size_toArray,size_zeroCells,hz1,hxl,Lib.strCells_length]
   omega
  ·simp only [Array.toList_append,List.append_assoc]
   rw [← List.append_assoc,← hlen]
   exact List.take_left
 rcases hown.2 with ⟨rfl,rfl⟩ | ⟨g,cap,cur,rfl,hbg,hg,hnc,hcm,hcs,htake⟩
 ·have hx : xs = []:=List.eq_nil_of_length_eq_zero hxl
  subst hx
  by_cases hm : s.size = 0
  ·have hn : Lib.strCells s = []:=List.eq_nil_of_length_eq_zero (by rw [Lib.strCells_length]; exact hm)
   refine ⟨.slice none 0 0,w,?_,by rw [hm,hn]; exact World.ownsRow_nil w 0 e 1,WRel.refl,.inl rfl⟩
   have hf:=Lib.run_firstCells_string (P:=P) w 1 s
   rw [hm] at hf
   simp [Builtin.append_,run_underlying ht,run_underlying hu,sizeOf,typeInfo,hi,hsize,Builtin.lenOf,hm,hf]
  ·have hr:=run_append_nil_string (P:=P) w t u ty e i (.int .u8 0) ht hu hi hz s (by omega) (by omega) (by rw [hby]; omega)
   have hgr:=grown 0 (by omega) (fun k=>some k = Value.ownBlock (.slice none 0 0))
   simp only [Nat.zero_add,List.nil_append,Array.empty_append] at hgr ⊢
   have e1 : (s.data.map fun b=>Value.int .u8 b.toNat) = (Lib.strCells s).toArray:=by
    apply Array.ext'
    simp [Lib.strCells]
   rw [e1] at hr
   exact ⟨_,_,hr,hgr.1,hgr.2,.inr rfl⟩
 ·by_cases hroom : n + s.size ≤ cap
  ·have hcs' : cur.size = cap:=by simpa using hcs
   have hr:=Lib.run_append_room_string (P:=P) w t u ty e i ht hu hi hsize g n cap cur hg s hroom (by omega)
   have hsz : (cur.toList.take n ++ Lib.strCells s ++ cur.toList.drop (n + s.size)).toArray.size = cur.size:=by
    simp only [List.size_toArray,List.length_append,List.length_take,List.length_drop,Array.length_toList,Lib.strCells_length]
    omega
   refine ⟨_,_,hr,⟨hlen,.inr ⟨g,cap,_,rfl,hbg,setRow_heap w g cur _ e _ hg,hroom,hcm,?_,?_⟩⟩,WRel.refl.setRow hg _ hsz (.inl rfl),.inl rfl⟩
   ·rw [hsz]; exact hcs
   ·have ht' : cur.toList.take n = xs:=by simpa using htake
    rw [ht',← hlen]
    exact List.take_left
  ·have holds : ∀ j u,xs[j]? = some u → w.cell? ((⟨g,0,none⟩ : Addr).add j) = some u:=hown.cells (g:=g) rfl
   have hr:=Lib.run_append_grow_string (P:=P) w t u ty e i (.int .u8 0) ht hu hi hz ⟨g,0,none⟩ n cap xs (by rw [hsize]; simpa using hxl) holds s (by omega) (by omega) (by rw [hby]; exact growslice_fits (by omega) (by omega))
   have hgr:=grown cap (by omega) (fun k=>some k = Value.ownBlock (.slice (some ⟨g,0,none⟩) n cap))
   exact ⟨_,_,hr,hgr.1,hgr.2,.inr rfl⟩
theorem wpList_append_rel (w : World) {ops : Array Oper} {rest : List Oper} {o : Oper} {a : Act} {Q : Exit → Act → World → Prop} (hgd : o.guard = none) (sl x : Operand) (t u : TypeId)
  (ho : o.op = .call { callee:=.builtin .append,args:=#[sl,x],argTypes:=#[t,u] })
  (e : TypeId) (i : TypeInfo) (ht : P.underlying t = some (.slice e)) (hu : P.underlying u = some .string) (hi : P.info? e = some i) (hz : i.zero = some (.int .u8 0))
  (hsize : i.size = 1) (hby : i.bytes = 1)
  (v : Value) (n : Nat) (xs : List Value) (hs : a.eval sl = v) (hown : w.ownsRow 0 e 1 v n xs) (s : ByteArray) (hx : a.eval x = .string s)
  (h63 : n + s.size ≤ maxLen) (hbytes : n + s.size ≤ 140737488355328)
  (h : ∀ v' w',w'.ownsRow 0 e 1 v' (n + s.size) (xs ++ Lib.strCells s) → WRel (fun k=>some k = v.ownBlock) w w' → (v'.ownBlock = v.ownBlock ∨ v'.ownBlock = some w.heap.size) → wpList P ops Q rest (a.put o.dst v') w') : wpList P ops Q (o :: rest) a w:=by
 refine wpList_plain hgd fun K hK=>?_
 have hobt:=append_rel (P:=P) w t u o.type e i ht hu hi hz hsize hby v n xs hown s h63 hbytes
 obtain ⟨v',w',hr,h2,h3,h4⟩:=hobt
 unfold Oper.wp execOp
 simp only [ho,resolve,invoke,builtin,Sem.run_bind,Sem.run_pure,Result.andThen_ok,List.map_toArray,List.map_cons,List.map_nil,hs,hx,hr]
 exact hK _ _ (h v' w' h2 h3 h4)
theorem ownsRow_of_heap {w w' : World} {e : TypeId} {v : Value} {n : Nat} {xs : List Value} (h : w.ownsRow 0 e 1 v n xs) (hk : ∀ k,v.ownBlock = some k → w'.heap[k]? = w.heap[k]?) : w'.ownsRow 0 e 1 v n xs:=by
 refine ⟨h.1,?_⟩
 rcases h.2 with hn | ⟨g,cap,cur,rfl,hb,hgg,rest⟩
 ·exact .inl hn
 ·exact .inr ⟨g,cap,cur,rfl,hb,by rw [hk g rfl]; exact hgg,rest⟩
set_option maxRecDepth 100000 in
theorem bld_check (L : Lays.n240 P ρ) (X : Builder.X72 P ρ) (b : Nat) (p v : Value) (w : World) (hp : p = .pointer none ∨ p = .pointer (some ⟨b,0,none⟩)) (hbk : w.heap[b]? = some (.cells #[p,v] (ρ.t 72) (0,0))) :
  Calls P (ρ.f 240) #[.pointer (some ⟨b,0,none⟩)] w fun e w'=>e = .returned (.tuple #[]) ∧ w'.heap[b]? = some (.cells #[.pointer (some ⟨b,0,none⟩),v] (ρ.t 72) (0,0)) ∧ (∀ k,k ≠ b → w'.heap[k]? = w.heap[k]?) ∧ w'.heap.size = w.heap.size ∧ WRel (fun k=>k = b) w w':=by
 have c0 : w.cell? ⟨b,0,none⟩ = some p:=by rw [Lib.cell_of_heap hbk]; rfl
 rcases hp with rfl | rfl
 ·refine (Any.Builder_copyCheck_fresh L X b w c0 (by simp [World.shape?,hbk]) (Lib.frozen_of_heap hbk 0)).mono ?_
  rintro e w' ⟨rfl,rfl⟩
  exact ⟨rfl,heap_setCell_same hbk,fun k hk=>heap_setCell_other hk,by simp [World.setCell],WRel.refl.setCell hbk (.inl rfl)⟩
 ·refine (Any.Builder_copyCheck_used L X b w c0).mono ?_
  rintro e w' ⟨rfl,rfl⟩
  exact ⟨rfl,hbk,fun _ _=>rfl,rfl,WRel.refl⟩
set_option maxRecDepth 100000 in
theorem bld_write (L : Lays.n166 P ρ) (X : Builder.Extra P ρ) (b : Nat) (p v : Value) (bs : List Value) (s : ByteArray) (w : World) (hp : p = .pointer none ∨ p = .pointer (some ⟨b,0,none⟩)) (hbk : w.heap[b]? = some (.cells #[p,v] (ρ.t 72) (0,0)))
  (hown : w.ownsRow 0 (ρ.t 5) 1 v bs.length bs) (hlen : bs.length + s.size ≤ 140737488355328) :
  Calls P (ρ.f 166) #[.pointer (some ⟨b,0,none⟩),.string s] w fun e w'=>e = .returned (.tuple #[.int .i64 s.size,.nilIface]) ∧
   ∃ v',w'.heap[b]? = some (.cells #[.pointer (some ⟨b,0,none⟩),v'] (ρ.t 72) (0,0)) ∧ w'.ownsRow 0 (ρ.t 5) 1 v' (bs.length + s.size) (bs ++ Lib.strCells s) ∧
    (v'.ownBlock = v.ownBlock ∨ v'.ownBlock = some w.heap.size) ∧ WRel (fun k=>k = b ∨ some k = v.ownBlock) w w':=by
 have hobt:=info_parts X.infoByte
 obtain ⟨i0,hi,hz0,hz1,hz2⟩:=hobt
 have hne : v.ownBlock ≠ some b:=Lib.ownBlock_ne hown hbk X.neB5
 have mixed:=L.mixed
 have t72:=L.t72; have a72:=L.a72; have z72:=L.z72; have v72:=L.v72; have u72:=run_underlying L.t72
 have t70:=L.t70; have a70:=L.a70; have z70:=L.z70; have v70:=L.v70; have u70:=run_underlying L.t70
 have t37:=L.t37; have a37:=L.a37; have z37:=L.z37; have v37:=L.v37; have u37:=run_underlying L.t37
 have t3:=L.t3; have a3:=L.a3; have z3:=L.z3; have v3:=L.v3; have u3:=run_underlying L.t3
 have t9:=L.t9; have a9:=L.a9; have z9:=L.z9; have v9:=L.v9; have u9:=run_underlying L.t9
 have t4:=L.t4; have a4:=L.a4; have z4:=L.z4; have v4:=L.v4; have u4:=run_underlying L.t4
 have t164:=L.t164; have a164:=L.a164; have z164:=L.z164; have v164:=L.v164; have u164:=run_underlying L.t164
 have t5:=X.t5; have a5:=X.a5; have z5:=X.z5; have v5:=X.v5; have u5:=run_underlying X.t5
 have e240 : ∀ args w,(callFunc (ρ.f 240) args).run P w = .ok (.enter (ρ.f 240) args) w:=enters_of L.f240 (by kernel_rfl) rfl
 go_enter L.f166,Body.n166_ntmps ρ
 go_wp2_with (go_at_fn (ρ.f 240); refine (bld_check { L with } X.toX72 b p v _ hp hbk).mono ?_)
 rintro e w1 ⟨rfl,hbk1,hoth,hsz1,hr1⟩
 have hown1 : w1.ownsRow 0 (ρ.t 5) 1 v bs.length bs:=ownsRow_of_heap hown fun k hk=>hoth k fun e=>hne (e ▸ hk)
 have c0 : w1.cell? ⟨b,0,none⟩ = some (.pointer (some ⟨b,0,none⟩)):=by rw [Lib.cell_of_heap hbk1]; rfl
 have c1 : w1.cell? ⟨b,1,none⟩ = some v:=by rw [Lib.cell_of_heap hbk1]; rfl
 go_wp2_with (at_builtin; refine wpList_append_rel _ rfl _ _ (ρ.t 37) (ρ.t 9) rfl (ρ.t 5) i0 L.t37 L.t9 hi hz0 hz1 hz2 _ _ _ rfl hown1 s rfl ?c3 ?c4 ?_)
 case c3=>unfold maxLen; omega
 case c4=>omega
 intro v' w2 hown' hr2 hob
 have hlt : b < w1.heap.size:=lt_of_heap hbk1
 have hb2 : w2.heap[b]? = some (.cells #[.pointer (some ⟨b,0,none⟩),v] (ρ.t 72) (0,0)):=by
  rw [hr2.block b hlt (fun e=>hne e.symm)]
  exact hbk1
 have d0 : w2.cell? ⟨b,0,none⟩ = some (.pointer (some ⟨b,0,none⟩)):=by rw [Lib.cell_of_heap hb2]; rfl
 have d1 : w2.cell? ⟨b,1,none⟩ = some v:=by rw [Lib.cell_of_heap hb2]; rfl
 have f1 : w2.frozen? ⟨b,1,none⟩ = false:=Lib.frozen_of_heap hb2 1
 have hne' : v'.ownBlock ≠ some b:=Lib.ownBlock_ne hown' hb2 X.neB5
 have hr1' : WRel (fun k=>k = b ∨ some k = v.ownBlock) w w1:=⟨hr1.os,hr1.tape,hr1.output,hr1.size,fun k hk hn=>hr1.block k hk fun e=>hn (.inl e),hr1.shape⟩
 have hW2 : WRel (fun k=>k = b ∨ some k = v.ownBlock) w w2:=hr1'.trans' hr2 fun k h=>.inl (.inr h)
 obtain ⟨ao,n',cap,rfl⟩ : ∃ ao n' cap,v' = .slice ao n' cap:=by
  rcases hown'.2 with ⟨hv,_⟩ | ⟨g,cap,cur,hv,_⟩
  ·exact ⟨_,_,_,hv⟩
  ·exact ⟨_,_,_,hv⟩
 go_wp2
 go_ret2
 refine ⟨rfl,_,heap_setCell_same hb2,ownsRow_of_heap hown' fun k hk=>heap_setCell_other fun e=>hne' (e ▸ hk),by first | exact hob | (rw [← hsz1]; exact hob),hW2.setCell hb2 (.inl (.inl rfl))⟩
set_option maxRecDepth 1000000 in
theorem bld_grow0 (L : Lays.n241 P ρ) (X : Builder.Extra P ρ) (b n : Nat) (w : World) (hbk : w.heap[b]? = some (.cells #[.pointer (some ⟨b,0,none⟩),.slice none 0 0] (ρ.t 72) (0,0))) (hn : n ≤ 281474976710656) :
  Calls P (ρ.f 241) #[.pointer (some ⟨b,0,none⟩),.int .i64 n] w fun e w'=>e = .returned (.tuple #[]) ∧ ∃ cap,n ≤ cap ∧ w'.heap[b]? = some (.cells #[.pointer (some ⟨b,0,none⟩),.slice (some ⟨w.heap.size,0,none⟩) 0 cap] (ρ.t 72) (0,0)) ∧
   w'.ownsRow 0 (ρ.t 5) 1 (.slice (some ⟨w.heap.size,0,none⟩) 0 cap) 0 [] ∧ WRel (fun k=>k = b) w w':=by
 have hobt:=Lib.run_makeNoZero (P:=P) w.drew #[(ρ.t 3)] (ρ.t 37) (ρ.t 5) L.t37 n hn
 obtain ⟨cs,hrun,hle,hmax⟩:=hobt
 have hw : IntKind.i64.wrap (IntKind.i64.wrap 0 + (n : Int)) = n:=by
  rw [IntKind.wrap_i64,IntKind.wrap_i64]
  omega
 have hcall : (callFunc (ρ.f 277) #[.int .i64 (IntKind.i64.wrap (IntKind.i64.wrap 0 + (n : Int)))]).run P w.drew = .ok (.value (.slice (some ⟨w.drew.heap.size,0,none⟩) n cs.size)) (w.drew.drew.drew.alloc (.cells cs (ρ.t 5))):=by
  rw [hw,run_callFunc_extern L.f277 (by kernel_rfl) (by kernel_rfl) (by kernel_rfl) (e:=Extern.BytealgMakeNoZero.makeNoZero #[(ρ.t 3)] #[(ρ.t 37)]) (by kernel_rfl),hrun]
  rfl
 have hlt : b < w.heap.size:=lt_of_heap hbk
 have hbk2 : (w.alloc (.cells cs (ρ.t 5))).heap[b]? = some (.cells #[.pointer (some ⟨b,0,none⟩),.slice none 0 0] (ρ.t 72) (0,0)):=(Lib.alloc_old w _ b hlt).trans hbk
 have c1 : w.drew.cell? ⟨b,1,none⟩ = some (.slice none 0 0):=by
  have : w.drew.heap[b]? = _:=hbk
  rw [Lib.cell_of_heap this]; rfl
 have c2 : (w.alloc (.cells cs (ρ.t 5))).cell? ⟨b,1,none⟩ = some (.slice none 0 0):=by
  rw [Lib.cell_of_heap hbk2]; rfl
 have f2 : (w.alloc (.cells cs (ρ.t 5))).frozen? ⟨b,1,none⟩ = false:=Lib.frozen_of_heap hbk2 1
 have hcopy : ∀ W : World,(Builtin.copy_ #[(ρ.t 37),(ρ.t 37)] (ρ.t 3) #[.slice (some ⟨w.heap.size,0,none⟩) 0 cs.size,.slice none 0 0]).run P W = .ok (goInt 0) W:=
  fun W=>run_copy_none W (ρ.t 37) (ρ.t 37) (ρ.t 3) (ρ.t 5) _ _ 0 cs.size 0 0 L.t37 X.sizeByte rfl
 clear hw
 have mixed:=L.mixed
 have t72:=L.t72; have a72:=L.a72; have z72:=L.z72; have v72:=L.v72; have u72:=run_underlying L.t72
 have t70:=L.t70; have a70:=L.a70; have z70:=L.z70; have v70:=L.v70; have u70:=run_underlying L.t70
 have t37:=L.t37; have a37:=L.a37; have z37:=L.z37; have v37:=L.v37; have u37:=run_underlying L.t37
 have t3:=L.t3; have a3:=L.a3; have z3:=L.z3; have v3:=L.v3; have u3:=run_underlying L.t3
 have t5:=X.t5; have a5:=X.a5; have z5:=X.z5; have v5:=X.v5; have u5:=run_underlying X.t5
 go_enter L.f241,Body.n241_ntmps ρ
 go_wp2
 have hfin : ∃ cap,n ≤ cap ∧ ((w.alloc (.cells cs (ρ.t 5))).setCell ⟨b,1,none⟩ (.slice (some ⟨w.heap.size,0,none⟩) 0 cs.size)).drew.drew.drew.heap[b]? = some (.cells #[.pointer (some ⟨b,0,none⟩),.slice (some ⟨w.heap.size,0,none⟩) 0 cap] (ρ.t 72) (0,0)) ∧
   ((w.alloc (.cells cs (ρ.t 5))).setCell ⟨b,1,none⟩ (.slice (some ⟨w.heap.size,0,none⟩) 0 cs.size)).drew.drew.drew.ownsRow 0 (ρ.t 5) 1 (.slice (some ⟨w.heap.size,0,none⟩) 0 cap) 0 [] ∧
   WRel (fun k=>k = b) w ((w.alloc (.cells cs (ρ.t 5))).setCell ⟨b,1,none⟩ (.slice (some ⟨w.heap.size,0,none⟩) 0 cs.size)).drew.drew.drew:=by
  refine ⟨cs.size,hle,heap_setCell_same hbk2,⟨rfl,.inr ⟨w.heap.size,cs.size,cs,rfl,Nat.zero_le _,?_,Nat.zero_le _,hmax (by unfold maxLen; omega),by simp,by simp⟩⟩,((((WRel.refl (E0:=fun k=>k = b)).alloc _).setCell hbk2 (.inl rfl)).drew.drew).drew⟩
  exact (heap_setCell_other (by omega)).trans (Go.heap_alloc_new w _)
 have hbs : (w.setCell ⟨b,1,none⟩ (.slice (some ⟨w.heap.size,0,none⟩) 0 cs.size)).heap.size = w.heap.size:=by simp [World.setCell]
 have hfin2 : ∃ cap,n ≤ cap ∧ ((w.setCell ⟨b,1,none⟩ (.slice (some ⟨w.heap.size,0,none⟩) 0 cs.size)).alloc (.cells cs (ρ.t 5))).drew.drew.drew.heap[b]? = some (.cells #[.pointer (some ⟨b,0,none⟩),.slice (some ⟨w.heap.size,0,none⟩) 0 cap] (ρ.t 72) (0,0)) ∧
   ((w.setCell ⟨b,1,none⟩ (.slice (some ⟨w.heap.size,0,none⟩) 0 cs.size)).alloc (.cells cs (ρ.t 5))).drew.drew.drew.ownsRow 0 (ρ.t 5) 1 (.slice (some ⟨w.heap.size,0,none⟩) 0 cap) 0 [] ∧
   WRel (fun k=>k = b) w ((w.setCell ⟨b,1,none⟩ (.slice (some ⟨w.heap.size,0,none⟩) 0 cs.size)).alloc (.cells cs (ρ.t 5))).drew.drew.drew:=by
  refine ⟨cs.size,hle,(Lib.alloc_old _ _ b (by rw [hbs]; exact hlt)).trans (heap_setCell_same hbk),⟨rfl,.inr ⟨w.heap.size,cs.size,cs,rfl,Nat.zero_le _,?_,Nat.zero_le _,hmax (by unfold maxLen; omega),by simp,by simp⟩⟩,((((WRel.refl (E0:=fun k=>k = b)).setCell hbk (.inl rfl)).alloc _).drew.drew).drew⟩
  have:=Go.heap_alloc_new (w.setCell ⟨b,1,none⟩ (.slice (some ⟨w.heap.size,0,none⟩) 0 cs.size)) (.cells cs (ρ.t 5))
  rw [hbs] at this
  exact this
 go_region_o
 all_goals (go_wp2; go_end0; first | exact ⟨rfl,hfin⟩ | exact ⟨rfl,hfin2⟩)
set_option maxRecDepth 1000000 in
theorem bld_grow (L : Lays.n165 P ρ) (X : Builder.Extra P ρ) (b n : Nat) (w : World) (hbk : w.heap[b]? = some (.cells #[.pointer none,.slice none 0 0] (ρ.t 72) (0,0))) (hn : n ≤ 281474976710656) (hn0 : 0 < n) :
  Calls P (ρ.f 165) #[.pointer (some ⟨b,0,none⟩),.int .i64 n] w fun e w'=>e = .returned (.tuple #[]) ∧ ∃ cap,n ≤ cap ∧ w'.heap[b]? = some (.cells #[.pointer (some ⟨b,0,none⟩),.slice (some ⟨w.heap.size,0,none⟩) 0 cap] (ρ.t 72) (0,0)) ∧
   w'.ownsRow 0 (ρ.t 5) 1 (.slice (some ⟨w.heap.size,0,none⟩) 0 cap) 0 [] ∧ WRel (fun k=>k = b) w w':=by
 have hbk1 : (w.setCell ⟨b,0,none⟩ (.pointer (some ⟨b,0,none⟩))).heap[b]? = some (.cells #[.pointer (some ⟨b,0,none⟩),.slice none 0 0] (ρ.t 72) (0,0)):=heap_setCell_same hbk
 have c1 : (w.setCell ⟨b,0,none⟩ (.pointer (some ⟨b,0,none⟩))).cell? ⟨b,1,none⟩ = some (.slice none 0 0):=by rw [Lib.cell_of_heap hbk1]; rfl
 have hr1 : WRel (fun k=>k = b) w (w.setCell ⟨b,0,none⟩ (.pointer (some ⟨b,0,none⟩))):=WRel.refl.setCell hbk (.inl rfl)
 have hsz1 : (w.setCell ⟨b,0,none⟩ (.pointer (some ⟨b,0,none⟩))).drew.heap.size = w.heap.size:=by show (w.setCell ⟨b,0,none⟩ (.pointer (some ⟨b,0,none⟩))).heap.size = _; simp [World.setCell]
 have mixed:=L.mixed
 have t72:=L.t72; have a72:=L.a72; have z72:=L.z72; have v72:=L.v72; have u72:=run_underlying L.t72
 have t70:=L.t70; have a70:=L.a70; have z70:=L.z70; have v70:=L.v70; have u70:=run_underlying L.t70
 have t37:=L.t37; have a37:=L.a37; have z37:=L.z37; have v37:=L.v37; have u37:=run_underlying L.t37
 have t3:=L.t3; have a3:=L.a3; have z3:=L.z3; have v3:=L.v3; have u3:=run_underlying L.t3
 have t9:=L.t9; have a9:=L.a9; have z9:=L.z9; have v9:=L.v9; have u9:=run_underlying L.t9
 have t4:=L.t4; have a4:=L.a4; have z4:=L.z4; have v4:=L.v4; have u4:=run_underlying L.t4
 have t164:=L.t164; have a164:=L.a164; have z164:=L.z164; have v164:=L.v164; have u164:=run_underlying L.t164
 have t5:=X.t5; have a5:=X.a5; have z5:=X.z5; have v5:=X.v5; have u5:=run_underlying X.t5
 have e240 : ∀ args w,(callFunc (ρ.f 240) args).run P w = .ok (.enter (ρ.f 240) args) w:=enters_of L.f240 (by kernel_rfl) rfl
 have e241 : ∀ args w,(callFunc (ρ.f 241) args).run P w = .ok (.enter (ρ.f 241) args) w:=enters_of L.f241 (by kernel_rfl) rfl
 go_enter L.f165,Body.n165_ntmps ρ
 have c1' : (w.setCell ⟨b,0,none⟩ (.pointer (some ⟨b,0,none⟩))).drew.cell? ⟨b,1,none⟩ = some (.slice none 0 0):=c1
 go_wp2_with (go_at_fn (ρ.f 240); refine (Any.Builder_copyCheck_fresh { L with } X.toX72 b w (by rw [Lib.cell_of_heap hbk]; rfl) (by simp [World.shape?,hbk]) (Lib.frozen_of_heap hbk 0)).mono ?_; rintro e w' ⟨rfl,rfl⟩)
 go_region_o
 all_goals go_wp2_with (go_at_fn (ρ.f 241); refine (bld_grow0 { L with } X b n (w.setCell ⟨b,0,none⟩ (.pointer (some ⟨b,0,none⟩))).drew hbk1 hn).mono ?_; rintro e w' ⟨rfl,cap,h1,h2,h3,h4⟩)
 all_goals first
  | (go_end0; rw [hsz1] at h2 h3; exact ⟨rfl,cap,h1,h2,h3,hr1.drew.trans' h4 (fun _ e=>.inl e)⟩)
  | (exfalso; omega)
set_option maxRecDepth 100000 in
theorem bld_string (L : Lays.n169 P ρ) (X : Builder.Extra P ρ) (b g cap : Nat) (p : Value) (l : List UInt8) (w : World) (hbk : w.heap[b]? = some (.cells #[p,.slice (some ⟨g,0,none⟩) l.length cap] (ρ.t 72) (0,0)))
  (hown : w.ownsRow 0 (ρ.t 5) 1 (.slice (some ⟨g,0,none⟩) l.length cap) l.length (Lib.byteCells l)) (h0 : l ≠ []) :
  Calls P (ρ.f 169) #[.pointer (some ⟨b,0,none⟩)] w fun e w'=>e = .returned (.string ⟨l.toArray⟩) ∧ WRel (fun k=>k = g) w w':=by
 have hl0 : l.length ≠ 0:=by simpa using h0
 obtain ⟨cur,hg,hnc,hcm,hcs,htake⟩ : ∃ cur,w.heap[g]? = some (.cells cur (ρ.t 5) (0,0)) ∧ l.length ≤ cap ∧ cap ≤ maxLen ∧ cur.size = cap * 1 ∧ cur.toList.take (l.length * 1) = Lib.byteCells l:=by
  rcases hown.2 with ⟨_,hz⟩ | ⟨g',cap',cur,hv,_,r⟩
  ·exact absurd hz hl0
  ·cases hv; exact ⟨cur,r⟩
 have c1 : w.drew.cell? ⟨b,1,none⟩ = some (.slice (some ⟨g,0,none⟩) l.length cap):=by
  have : w.drew.heap[b]? = some (.cells #[p,.slice (some ⟨g,0,none⟩) l.length cap] (ρ.t 72) (0,0)):=hbk
  rw [Lib.cell_of_heap this]; rfl
 have hSD : (Builtin.unsafeSliceData_ #[(ρ.t 37)] (ρ.t 127) #[.slice (some ⟨g,0,none⟩) l.length cap]).run P w.drew = .ok (.pointer (some ⟨g,0,none⟩)) w.drew:=
  Lib.run_unsafeSliceData_row _ _ _ _ _ _ (by omega)
 have hUS : (Builtin.unsafeString_ #[(ρ.t 127),(ρ.t 3)] (ρ.t 9) #[.pointer (some ⟨g,0,none⟩),.int .i64 l.length]).run P w.drew = .ok (.string ⟨l.toArray⟩) (w.drew.freeze ⟨g,0,none⟩ l.length):=by
  refine Lib.run_unsafeString_row w.drew (ρ.t 127) (ρ.t 3) (ρ.t 9) (ρ.t 5) L.t127 X.cellsByte g cur.size (by have hg' : w.drew.heap[g]? = some (.cells cur (ρ.t 5) (0,0)):=hg; simp [World.shape?,hg']) l h0 (by omega) (by unfold maxLen at hcm; omega) ?_
  intro j x hx
  have:=hown.cells (g:=g) rfl j (.int .u8 x.toNat) (by simp [Lib.byteCells,hx])
  exact this
 have hfr : WRel (fun k=>k = g) w (w.drew.freeze ⟨g,0,none⟩ l.length):=(WRel.refl.drew).freeze (w:=w.drew) hg (.inl rfl)
 have mixed:=L.mixed
 have t72:=L.t72; have a72:=L.a72; have z72:=L.z72; have v72:=L.v72; have u72:=run_underlying L.t72
 have t70:=L.t70; have a70:=L.a70; have z70:=L.z70; have v70:=L.v70; have u70:=run_underlying L.t70
 have t37:=L.t37; have a37:=L.a37; have z37:=L.z37; have v37:=L.v37; have u37:=run_underlying L.t37
 have t127:=L.t127; have a127:=L.a127; have z127:=L.z127; have v127:=L.v127; have u127:=run_underlying L.t127
 have t3:=L.t3; have a3:=L.a3; have z3:=L.z3; have v3:=L.v3; have u3:=run_underlying L.t3
 have t9:=L.t9; have a9:=L.a9; have z9:=L.z9; have v9:=L.v9; have u9:=run_underlying L.t9
 have t5:=X.t5; have a5:=X.a5; have z5:=X.z5; have v5:=X.v5; have u5:=run_underlying X.t5
 go_enter L.f169,Body.n169_ntmps ρ
 go_wp2
 go_region_o
 all_goals (go_wp2; go_ret; exact ⟨rfl,hfr⟩)
end
end
end Go.Sx
namespace Go.Proofs
open Go.Shelf
def BldT.ws_ren : Go.Shelf.Ren:=⟨fun | 166=>41 | 240=>76 | 276=>103 | n=>n,fun | 70=>81 | 3=>3 | 0=>0 | 4=>4 | 9=>9 | 20=>20 | 72=>84 | 37=>82 | 75=>145 | 80=>209 | 164=>225 | 5=>5 | n=>n,fun | n=>n⟩
theorem BldT.ws : Go.Proofs.Lays.n166 Tryz.prog BldT.ws_ren:={
 mixed:=by kernel_rfl
 f166:=Tryz.func41.trans (congrArg some (by kernel_rfl))
 f240:=Tryz.func76.trans (congrArg some (by kernel_rfl))
 f276:=Tryz.func103.trans (congrArg some (by kernel_rfl))
 t0:=Tryz.underlying0
 a0:=Tryz.isAgg0
 z0:=Tryz.sizeOf0
 v0:=Tryz.zeroValue0
 t3:=Tryz.underlying3
 a3:=Tryz.isAgg3
 z3:=Tryz.sizeOf3
 v3:=Tryz.zeroValue3
 t4:=Tryz.underlying4
 a4:=Tryz.isAgg4
 z4:=Tryz.sizeOf4
 v4:=Tryz.zeroValue4
 t9:=Tryz.underlying9
 a9:=Tryz.isAgg9
 z9:=Tryz.sizeOf9
 v9:=Tryz.zeroValue9
 t20:=Tryz.underlying20
 a20:=Tryz.isAgg20
 z20:=Tryz.sizeOf20
 v20:=Tryz.zeroValue20
 t37:=Tryz.underlying82
 a37:=Tryz.isAgg82
 z37:=Tryz.sizeOf82
 v37:=Tryz.zeroValue82
 t70:=Tryz.underlying81
 a70:=Tryz.isAgg81
 z70:=Tryz.sizeOf81
 v70:=Tryz.zeroValue81
 t72:=Tryz.underlying84
 a72:=Tryz.isAgg84
 z72:=Tryz.sizeOf84
 v72:=Tryz.zeroValue84
 t75:=Tryz.underlying145
 a75:=Tryz.isAgg145
 z75:=Tryz.sizeOf145
 v75:=Tryz.zeroValue145
 t164:=Tryz.underlying225
 a164:=Tryz.isAgg225
 z164:=Tryz.sizeOf225
 v164:=Tryz.zeroValue225 }
theorem BldT.wsX : Builder.Extra Tryz.prog BldT.ws_ren:={
 sizeBuilder:=by kernel_rfl
 liesBuilder:=by kernel_rfl
 t5:=Tryz.underlying5
 a5:=Tryz.isAgg5
 z5:=Tryz.sizeOf5
 v5:=Tryz.zeroValue5
 infoByte:=by kernel_rfl
 cellsByte:=by kernel_rfl
 sizeByte:=by kernel_rfl
 neB5:=by decide }
def BldT.st_ren : Go.Shelf.Ren:=⟨fun | 169=>91 | n=>n,fun | 70=>81 | 9=>9 | 0=>0 | 72=>84 | 37=>82 | 127=>245 | 3=>3 | 5=>5 | n=>n,fun | n=>n⟩
theorem BldT.st : Go.Proofs.Lays.n169 Tryz.prog BldT.st_ren:={
 mixed:=by kernel_rfl
 f169:=Tryz.func91.trans (congrArg some (by kernel_rfl))
 t0:=Tryz.underlying0
 a0:=Tryz.isAgg0
 z0:=Tryz.sizeOf0
 v0:=Tryz.zeroValue0
 t3:=Tryz.underlying3
 a3:=Tryz.isAgg3
 z3:=Tryz.sizeOf3
 v3:=Tryz.zeroValue3
 t9:=Tryz.underlying9
 a9:=Tryz.isAgg9
 z9:=Tryz.sizeOf9
 v9:=Tryz.zeroValue9
 t37:=Tryz.underlying82
 a37:=Tryz.isAgg82
 z37:=Tryz.sizeOf82
 v37:=Tryz.zeroValue82
 t70:=Tryz.underlying81
 a70:=Tryz.isAgg81
 z70:=Tryz.sizeOf81
 v70:=Tryz.zeroValue81
 t72:=Tryz.underlying84
 a72:=Tryz.isAgg84
 z72:=Tryz.sizeOf84
 v72:=Tryz.zeroValue84
 t127:=Tryz.underlying245
 a127:=Tryz.isAgg245
 z127:=Tryz.sizeOf245
 v127:=Tryz.zeroValue245 }
theorem BldT.stX : Builder.Extra Tryz.prog BldT.st_ren:={
 sizeBuilder:=by kernel_rfl
 liesBuilder:=by kernel_rfl
 t5:=Tryz.underlying5
 a5:=Tryz.isAgg5
 z5:=Tryz.sizeOf5
 v5:=Tryz.zeroValue5
 infoByte:=by kernel_rfl
 cellsByte:=by kernel_rfl
 sizeByte:=by kernel_rfl
 neB5:=by decide }
def BldT.gr_ren : Go.Shelf.Ren:=⟨fun | 165=>92 | 240=>76 | 241=>121 | 276=>103 | 277=>160 | n=>n,fun | 70=>81 | 3=>3 | 0=>0 | 4=>4 | 9=>9 | 20=>20 | 72=>84 | 37=>82 | 164=>225 | 5=>5 | n=>n,fun | n=>n⟩
theorem BldT.gr : Go.Proofs.Lays.n165 Tryz.prog BldT.gr_ren:={
 mixed:=by kernel_rfl
 f165:=Tryz.func92.trans (congrArg some (by kernel_rfl))
 f240:=Tryz.func76.trans (congrArg some (by kernel_rfl))
 f241:=Tryz.func121.trans (congrArg some (by kernel_rfl))
 f276:=Tryz.func103.trans (congrArg some (by kernel_rfl))
 f277:=Tryz.func160.trans (congrArg some (by kernel_rfl))
 t0:=Tryz.underlying0
 a0:=Tryz.isAgg0
 z0:=Tryz.sizeOf0
 v0:=Tryz.zeroValue0
 t3:=Tryz.underlying3
 a3:=Tryz.isAgg3
 z3:=Tryz.sizeOf3
 v3:=Tryz.zeroValue3
 t4:=Tryz.underlying4
 a4:=Tryz.isAgg4
 z4:=Tryz.sizeOf4
 v4:=Tryz.zeroValue4
 t9:=Tryz.underlying9
 a9:=Tryz.isAgg9
 z9:=Tryz.sizeOf9
 v9:=Tryz.zeroValue9
 t20:=Tryz.underlying20
 a20:=Tryz.isAgg20
 z20:=Tryz.sizeOf20
 v20:=Tryz.zeroValue20
 t37:=Tryz.underlying82
 a37:=Tryz.isAgg82
 z37:=Tryz.sizeOf82
 v37:=Tryz.zeroValue82
 t70:=Tryz.underlying81
 a70:=Tryz.isAgg81
 z70:=Tryz.sizeOf81
 v70:=Tryz.zeroValue81
 t72:=Tryz.underlying84
 a72:=Tryz.isAgg84
 z72:=Tryz.sizeOf84
 v72:=Tryz.zeroValue84
 t164:=Tryz.underlying225
 a164:=Tryz.isAgg225
 z164:=Tryz.sizeOf225
 v164:=Tryz.zeroValue225 }
theorem BldT.grX : Builder.Extra Tryz.prog BldT.gr_ren:={
 sizeBuilder:=by kernel_rfl
 liesBuilder:=by kernel_rfl
 t5:=Tryz.underlying5
 a5:=Tryz.isAgg5
 z5:=Tryz.sizeOf5
 v5:=Tryz.zeroValue5
 infoByte:=by kernel_rfl
 cellsByte:=by kernel_rfl
 sizeByte:=by kernel_rfl
 neB5:=by decide }
end Go.Proofs
namespace Go.Sx
noncomputable section
open Go Go.Proofs Go.Proofs.YtcehbnfhlcfinaaGreatDoor Go.Shelf
theorem denObj_inv {R : Reg AF} {ρ : Rho} {O : Nat → Prop} {w : World} {k : Option Nat} {Q : Array Value → TypeId → Nat × Nat → Prop} {p : Option (Nat × Nat)} (h : DenCt R ρ O w (.obj k Q) p) :
  ∃ b,p = some (b,0) ∧ (∀ i,k = some i → b = i) ∧ ∃ c E fz,w.heap[b]? = some (.cells c E fz) ∧ Q c E fz:=by
 cases p with
 | none=>cases h
 | some p=>
  obtain ⟨b,base⟩:=p
  rcases h with (⟨_,_,_,e,_⟩ | ⟨k',Q',e,rfl,hk,c,E,fz,hc,hQ⟩) | ⟨e,_⟩
  ·cases e
  ·cases e; exact ⟨b,rfl,hk,c,E,fz,hc,hQ⟩
  ·cases e
theorem denObj {R : Reg AF} {ρ : Rho} {O : Nat → Prop} {w : World} {k : Option Nat} {Q : Array Value → TypeId → Nat × Nat → Prop} {b : Nat} {c : Array Value} {E : TypeId} {fz : Nat × Nat} (hk : ∀ i,k = some i → b = i) (hc : w.heap[b]? = some (.cells c E fz)) (hQ : Q c E fz) :
  DenCt R ρ O w (.obj k Q) (some (b,0)):=.inl (.inr ⟨k,Q,rfl,rfl,hk,c,E,fz,hc,hQ⟩)
abbrev bld0 : Ct AF:=.obj none fun c E fz=>c = (Value.agg #[.pointer none,.slice none 0 0]).cells ∧ E = 84 ∧ fz = (0,0)
def bldH (b gb n cap : Nat) : Ct AF:=.obj (some b) fun c E fz=>c = #[.pointer (some ⟨b,0,none⟩),.slice (some ⟨gb,0,none⟩) n cap] ∧ E = 84 ∧ fz = (0,0)
def bldR (gb : Nat) (l : List UInt8) (cap : Nat) : Ct AF:=.obj (some gb) fun c E fz=>E = 5 ∧ fz = (0,0) ∧ l.length ≤ cap ∧ cap ≤ maxLen ∧ c.size = cap ∧ c.toList.take l.length = Lib.byteCells l
theorem bldR_owns {w : World} {gb cap : Nat} {l : List UInt8} {c : Array Value} {E : TypeId} {fz : Nat × Nat} (hb : w.heap[gb]? = some (.cells c E fz)) (h : E = 5 ∧ fz = (0,0) ∧ l.length ≤ cap ∧ cap ≤ maxLen ∧ c.size = cap ∧ c.toList.take l.length = Lib.byteCells l) :
  w.ownsRow 0 5 1 (.slice (some ⟨gb,0,none⟩) l.length cap) (Lib.byteCells l).length (Lib.byteCells l):=by
 obtain ⟨rfl,rfl,h1,h2,h3,h4⟩:=h
 rw [Lib.byteCells_length]
 exact ⟨by rw [Lib.byteCells_length,Nat.mul_one],.inr ⟨gb,cap,c,rfl,Nat.zero_le _,hb,h1,h2,by omega,by rw [Nat.mul_one]; exact h4⟩⟩
theorem owns_bldR {w : World} {v : Value} {n : Nat} {xs : List Value} {l : List UInt8} (h : w.ownsRow 0 5 1 v n xs) (hx : xs = Lib.byteCells l) (h0 : 0 < n ∨ v.ownBlock ≠ none) :
  ∃ gb cap c,v = .slice (some ⟨gb,0,none⟩) l.length cap ∧ w.heap[gb]? = some (.cells c 5 (0,0)) ∧ ((5 : TypeId) = 5 ∧ ((0,0) : Nat × Nat) = (0,0) ∧ l.length ≤ cap ∧ cap ≤ maxLen ∧ c.size = cap ∧ c.toList.take l.length = Lib.byteCells l):=by
 subst hx
 have hl : n = l.length:=by have:=h.1; rw [Lib.byteCells_length] at this; omega
 subst hl
 rcases h.2 with ⟨rfl,hn⟩ | ⟨gb,cap,c,rfl,_,hg,h1,h2,h3,h4⟩
 ·rcases h0 with h0 | h0
  ·omega
  ·exact absurd rfl h0
 ·exact ⟨gb,cap,c,rfl,hg,rfl,rfl,h1,h2,by omega,by rw [Nat.mul_one] at h4; exact h4⟩
theorem strCells_list (s : ByteArray) : Lib.strCells s = Lib.byteCells s.data.toList:=rfl
theorem len_data (s : ByteArray) : s.data.toList.length = s.size:=by rw [Array.length_toList]; rfl
theorem args2 {vs : Array Value} {R : Reg AF} {ρ : Rho} {O : Nat → Prop} {w : World} {a b : SV AF} (h : DenL R ρ O w [a,b] vs.toList) : ∃ u v,vs = #[u,v] ∧ Den R ρ O w a u ∧ Den R ρ O w b v:=by
 obtain ⟨h1,h2⟩:=h
 obtain ⟨l⟩:=vs
 match l,h1,h2 with
 | [u,v],_,h2=>exact ⟨u,v,rfl,h2 0 a u rfl rfl,h2 1 b v rfl rfl⟩
theorem args1 {vs : Array Value} {R : Reg AF} {ρ : Rho} {O : Nat → Prop} {w : World} {a : SV AF} (h : DenL R ρ O w [a] vs.toList) : ∃ u,vs = #[u] ∧ Den R ρ O w a u:=by
 obtain ⟨h1,h2⟩:=h
 obtain ⟨l⟩:=vs
 match l,h1,h2 with
 | [u],_,h2=>exact ⟨u,rfl,h2 0 a u rfl rfl⟩
theorem val_inv' {R : Reg AF} {ρ : Rho} {O : Nat → Prop} {w : World} {u v : Value} (h : Den R ρ O w (.val u) v) : v = u:=by cases h; rfl
theorem ptr0_inv {R : Reg AF} {ρ : Rho} {O : Nat → Prop} {w : World} {v : Value} {b : Nat} (hr : ρ 0 = some (b,0)) (h : Den R ρ O w (.ptr 0 0 2 0) v) : v = .pointer (some ⟨b,0,none⟩):=by
 cases h with
 | ptr _ _ _ _ b' base h=>rw [hr] at h; cases h; rfl
abbrev resW (s : ByteArray) : SV AF:=.tup [.val (.int .i64 s.size),.val .nilIface]
theorem den_resW {R : Reg AF} {ρ : Rho} {O : Nat → Prop} {w : World} (s : ByteArray) : Den R ρ O w (resW s) (.tuple #[.int .i64 s.size,.nilIface]):=by
 refine Den.tup _ _ rfl fun j a v ha hv=>?_
 match j,ha,hv with
 | 0,ha,hv=>cases ha; cases hv; exact .val _
 | 1,ha,hv=>cases ha; cases hv; exact .val _
theorem ptr_ne {b gb : Nat} {w : World} {c c' : Array Value} {fz fz' : Nat × Nat} (h : w.heap[b]? = some (.cells c 84 fz)) (h' : w.heap[gb]? = some (.cells c' 5 fz')) : b ≠ gb:=by
 rintro rfl
 rw [h] at h'
 exact absurd (Obj.cells.inj (Option.some.inj h')).2.1 (by decide)
def spWU : Spec AF where
 γ:=(Nat × Nat × Nat) × List UInt8 × ByteArray
 δ:=Nat × Nat × Nat
 args:=fun g=>[.ptr 0 0 2 0,.val (.string g.2.2)]
 own:=fun g=>[bldH g.1.1 g.1.2.1 g.2.1.length g.1.2.2,bldR g.1.2.1 g.2.1 g.1.2.2]
 pre:=fun g=>g.2.1.length + g.2.2.size ≤ 140737488355328
 nnew:=1
 res:=fun g _=>resW g.2.2
 own':=fun g d=>[some (bldH d.1 d.2.1 (g.2.1 ++ g.2.2.data.toList).length d.2.2),none,some (bldR d.2.1 (g.2.1 ++ g.2.2.data.toList) d.2.2)]
theorem m_wsU : Meets Tryz.prog regF 41 spWU:=by
 refine ⟨⟨_,Tryz.func41,by kernel_rfl,by kernel_rfl⟩,?_⟩
 rintro ⟨⟨b,g0,cap0⟩,(l : List UInt8),(s : ByteArray)⟩ (hs : l.length + s.size ≤ 140737488355328) X ρ w vs hX1 hX2 hargs hown
 have hobt:=denObj_inv (hown.den 0 _ rfl)
 obtain ⟨b,hr0,hk0,c,E,fz,hb,hc,hE,hfz⟩:=hobt
 have hobt:=hk0 _ rfl
 obtain rfl:=hobt
 subst hc hE hfz
 have hobt:=denObj_inv (hown.den 1 _ rfl)
 obtain ⟨g1,hr1,hk1,c1,E1,fz1,hg1,hQ1⟩:=hobt
 have hobt:=hk1 _ rfl
 obtain rfl:=hobt
 have hobt:=args2 hargs
 obtain ⟨u,v,rfl,hu,hv⟩:=hobt
 have hobt:=ptr0_inv hr0 hu
 obtain rfl:=hobt
 have hobt:=val_inv' hv
 obtain rfl:=hobt
 refine (bld_write BldT.ws BldT.wsX b _ _ (Lib.byteCells l) s w (.inr rfl) hb (bldR_owns hg1 hQ1) (by rw [Lib.byteCells_length]; exact hs)).mono ?_
 rintro e w' ⟨rfl,v',hb',hown',hob,hrel⟩
 have hobt:=owns_bldR (l:=l ++ s.data.toList) hown' (by rw [strCells_list,Lib.byteCells_append]) (.inr (by rcases hob with e | e <;> (rw [e]; simp [Value.ownBlock])))
 obtain ⟨gb,cap,cc,rfl,hg,hQ⟩:=hobt
 have hne : b ≠ gb:=ptr_ne hb' hg
 have hgb : gb = g1 ∨ w.heap.size ≤ gb:=by
  rcases hob with e | e
  ·exact .inl (Option.some.inj e)
  ·have : gb = w.heap.size:=Option.some.inj e
   exact .inr (by omega)
 refine ⟨(b,gb,cap),fun h=>if h = 2 then some (gb,0) else ρ h,_,trivial,rfl,fun h hh=>if_neg (by have : h < 2:=hh; omega),den_resW s,⟨fun h ct hct=>?_,fun h h' ct ct' k base base' hct hct' e e'=>?_⟩,fun k hk=>?_,rfl,rfl,fun h ct hct=>?_,?_⟩
 ·match h,hct with
  | 0,hct=>cases hct; exact (if_neg (by omega) : (if 0 = 2 then some (gb,0) else ρ 0) = ρ 0) ▸ hr0 ▸ denObj (fun i e=>Option.some.inj e) hb' ⟨rfl,rfl,rfl⟩
  | 1,hct=>cases hct
  | 2,hct=>cases hct; exact denObj (fun i e=>Option.some.inj e) hg hQ
 ·have h01 : h ≠ 1:=by rintro rfl; cases hct
  have h01' : h' ≠ 1:=by rintro rfl; cases hct'
  have hl : h < 3:=by
   rcases Nat.lt_or_ge h 3 with e | e
   ·exact e
   ·rw [List.getElem?_eq_none (by exact e)] at hct; cases hct
  have hl' : h' < 3:=by
   rcases Nat.lt_or_ge h' 3 with e | e
   ·exact e
   ·rw [List.getElem?_eq_none (by exact e)] at hct'; cases hct'
  have hh : h = 0 ∨ h = 2:=by omega
  have hh' : h' = 0 ∨ h' = 2:=by omega
  rcases hh with rfl | rfl <;> rcases hh' with rfl | rfl
  ·rfl
  ·have e : ρ 0 = some (k,base):=e
   have e' : some (gb,0) = some (k,base'):=e'
   rw [hr0] at e; cases e; cases e'; exact absurd rfl hne
  ·have e' : ρ 0 = some (k,base'):=e'
   have e : some (gb,0) = some (k,base):=e
   rw [hr0] at e'; cases e'; cases e; exact absurd rfl hne
  ·rfl
 ·obtain ⟨h,ct,base,hct,hr⟩:=hk
  match h,hct with
  | 0,_=>
   have hr : ρ 0 = some (k,base):=hr
   exact ⟨.inl ⟨0,_,base,rfl,hr⟩,fun hx=>hX2 k hx ⟨0,_,base,rfl,hr⟩⟩
  | 1,hct=>cases hct
  | 2,_=>
   have hr : some (gb,0) = some (k,base):=hr
   cases hr
   rcases hgb with rfl | hgb
   ·exact ⟨.inl ⟨1,_,0,rfl,hr1⟩,fun hx=>hX2 _ hx ⟨1,_,0,rfl,hr1⟩⟩
   ·exact ⟨.inr hgb,fun hx=>by have:=hX1 _ hx; omega⟩
 ·match h,hct with
  | 0,hct=>cases hct; rfl
  | 1,hct=>cases hct
  | 2,hct=>cases hct; rfl
 ·refine ⟨hrel.os,hrel.tape,hrel.output,hrel.size,fun k hk hn=>hrel.block k hk ?_,hrel.shape⟩
  rintro (rfl | e)
  ·exact hn ⟨0,_,0,rfl,hr0⟩
  ·have e : some k = some g1:=e
   cases e
   exact hn ⟨1,_,0,rfl,hr1⟩
def spGrow : Spec AF where
 γ:=Int
 δ:=Nat × Nat × Nat
 args:=fun n=>[.ptr 0 0 2 0,vI n]
 own:=fun _=>[bld0]
 pre:=fun n=>0 < n ∧ n ≤ 281474976710656
 nnew:=1
 res:=fun _ _=>.tup []
 own':=fun _ d=>[some (bldH d.1 d.2.1 ([] : List UInt8).length d.2.2),some (bldR d.2.1 [] d.2.2)]
theorem m_grow : Meets Tryz.prog regF 92 spGrow:=by
 refine ⟨⟨_,Tryz.func92,by kernel_rfl,by kernel_rfl⟩,?_⟩
 intro (n : Int) ⟨(h0 : 0 < n),(hs : n ≤ 281474976710656)⟩ X ρ w vs hX1 hX2 hargs hown
 have hobt:=denObj_inv (hown.den 0 _ rfl)
 obtain ⟨b,hr0,_,c,E,fz,hb,hc,hE,hfz⟩:=hobt
 subst hc hE hfz
 have hobt:=args2 hargs
 obtain ⟨u,v,rfl,hu,hv⟩:=hobt
 have hobt:=ptr0_inv hr0 hu
 obtain rfl:=hobt
 have hobt:=val_inv' hv
 obtain rfl:=hobt
 have hobt:=Int.eq_ofNat_of_zero_le (Int.le_of_lt h0)
 obtain ⟨m,rfl⟩:=hobt
 refine (bld_grow BldT.gr BldT.grX b m w hb (by omega) (by omega)).mono ?_
 rintro e w' ⟨rfl,cap,hcap,hb',hown',hrel⟩
 have hobt:=owns_bldR (l:=[]) hown' rfl (.inr (by simp [Value.ownBlock]))
 obtain ⟨gb,cap',cc,he,hg,hQ⟩:=hobt
 cases he
 have hne : b ≠ w.heap.size:=ptr_ne hb' hg
 refine ⟨(b,w.heap.size,cap),fun h=>if h = 1 then some (w.heap.size,0) else ρ h,_,trivial,rfl,fun h hh=>if_neg (by have : h < 1:=hh; omega),Den.tup [] #[] rfl (fun j a v ha _=>by cases ha),⟨fun h ct hct=>?_,fun h h' ct ct' k base base' hct hct' e e'=>?_⟩,fun k hk=>?_,rfl,rfl,fun h ct hct=>?_,?_⟩
 ·match h,hct with
  | 0,hct=>cases hct; exact (if_neg (by omega) : (if 0 = 1 then some (w.heap.size,0) else ρ 0) = ρ 0) ▸ hr0 ▸ denObj (fun i e=>Option.some.inj e) hb' ⟨rfl,rfl,rfl⟩
  | 1,hct=>cases hct; exact denObj (fun i e=>Option.some.inj e) hg hQ
 ·match h,h',hct,hct' with
  | 0,0,_,_=>rfl
  | 1,1,_,_=>rfl
  | 0,1,_,_=>
   have e : ρ 0 = some (k,base):=e
   have e' : some (w.heap.size,0) = some (k,base'):=e'
   rw [hr0] at e; cases e; cases e'; exact absurd rfl hne
  | 1,0,_,_=>
   have e' : ρ 0 = some (k,base'):=e'
   have e : some (w.heap.size,0) = some (k,base):=e
   rw [hr0] at e'; cases e'; cases e; exact absurd rfl hne
 ·obtain ⟨h,ct,base,hct,hr⟩:=hk
  match h,hct with
  | 0,_=>
   have hr : ρ 0 = some (k,base):=hr
   exact ⟨.inl ⟨0,bld0,base,rfl,hr⟩,fun hx=>hX2 k hx ⟨0,bld0,base,rfl,hr⟩⟩
  | 1,_=>
   have hr : some (w.heap.size,0) = some (k,base):=hr
   cases hr
   exact ⟨.inr (Nat.le_refl _),fun hx=>absurd (hX1 _ hx) (Nat.lt_irrefl _)⟩
 ·match h,hct with
  | 0,hct=>cases hct; rfl
  | 1,hct=>cases hct; rfl
 ·refine ⟨hrel.os,hrel.tape,hrel.output,hrel.size,fun k hk hn=>hrel.block k hk ?_,hrel.shape⟩
  rintro rfl
  exact hn ⟨0,bld0,0,rfl,hr0⟩
def spStr : Spec AF where
 γ:=(Nat × Nat × Nat) × List UInt8
 args:=fun _=>[.ptr 0 0 2 0]
 own:=fun g=>[bldH g.1.1 g.1.2.1 g.2.length g.1.2.2,bldR g.1.2.1 g.2 g.1.2.2]
 pre:=fun g=>g.2 ≠ []
 res:=fun g _=>.val (.string ⟨g.2.toArray⟩)
 own':=fun _ _=>[none,none]
theorem m_str : Meets Tryz.prog regF 91 spStr:=by
 refine ⟨⟨_,Tryz.func91,by kernel_rfl,by kernel_rfl⟩,?_⟩
 rintro ⟨⟨b,g0,cap0⟩,(l : List UInt8)⟩ (h0 : l ≠ []) X ρ w vs hX1 hX2 hargs hown
 have hobt:=denObj_inv (hown.den 0 _ rfl)
 obtain ⟨b,hr0,hk0,c,E,fz,hb,hc,hE,hfz⟩:=hobt
 have hobt:=hk0 _ rfl
 obtain rfl:=hobt
 subst hc hE hfz
 have hobt:=denObj_inv (hown.den 1 _ rfl)
 obtain ⟨g1,hr1,hk1,c1,E1,fz1,hg1,hQ1⟩:=hobt
 have hobt:=hk1 _ rfl
 obtain rfl:=hobt
 have hobt:=args1 hargs
 obtain ⟨u,rfl,hu⟩:=hobt
 have hobt:=ptr0_inv hr0 hu
 obtain rfl:=hobt
 refine (bld_string BldT.st BldT.stX b g1 cap0 _ l w hb (by have:=bldR_owns hg1 hQ1; rw [Lib.byteCells_length] at this; exact this) h0).mono ?_
 rintro e w' ⟨rfl,hrel⟩
 refine ⟨(),ρ,_,trivial,rfl,fun _ _=>rfl,.val _,⟨fun h ct hct=>?_,fun h h' ct ct' k base base' hct hct' e e'=>?_⟩,fun k hk=>?_,rfl,rfl,fun h ct hct=>?_,?_⟩
 ·match h,hct with
  | 0,hct=>cases hct
  | 1,hct=>cases hct
 ·match h,hct with
  | 0,hct=>cases hct
  | 1,hct=>cases hct
 ·obtain ⟨h,ct,base,hct,hr⟩:=hk
  match h,hct with
  | 0,hct=>cases hct
  | 1,hct=>cases hct
 ·match h,hct with
  | 0,hct=>cases hct
  | 1,hct=>cases hct
 ·refine ⟨hrel.os,hrel.tape,hrel.output,hrel.size,fun k hk hn=>hrel.block k hk ?_,hrel.shape⟩
  rintro rfl
  exact hn ⟨1,_,0,rfl,hr1⟩
def restL (sep : ByteArray) (l : List ByteArray) : List UInt8:=l.flatMap fun y=>sep.data.toList ++ y.data.toList
def joinL (sep : ByteArray) : List ByteArray → List UInt8
 | []=>[]
 | x :: l=>x.data.toList ++ restL sep l
theorem restL_snoc (sep : ByteArray) (l : List ByteArray) (x : ByteArray) : restL sep (l ++ [x]) = restL sep l ++ sep.data.toList ++ x.data.toList:=by
 unfold restL
 rw [List.flatMap_append,List.append_assoc]
 simp
theorem restL_len {sep : ByteArray} (hs : sep.size ≤ 100) : ∀ {l : List ByteArray},(∀ s ∈ l,s.size ≤ 1000000) → (restL sep l).length ≤ l.length * 1000100
 | [],_=>Nat.zero_le _
 | x :: l,h=>by
  have h1:=restL_len hs (l:=l) fun s hs=>h s (List.mem_cons_of_mem _ hs)
  have h2:=h x (List.mem_cons_self ..)
  unfold restL at h1 ⊢
  rw [List.flatMap_cons,List.length_append,List.length_append,len_data,len_data,List.length_cons]
  omega
def spJoin : Spec AF where
 γ:=List ByteArray × ByteArray
 args:=fun g=>[.lst 9 g.1,.val (.string g.2)]
 pre:=fun g=>(2 ≤ g.1.length ∧ g.1.length ≤ 1000) ∧ (0 < g.2.size ∧ g.2.size ≤ 100) ∧ ∀ s ∈ g.1,s.size ≤ 1000000
 res:=fun g _=>.val (.string ⟨(joinL g.2 g.1).toArray⟩)
theorem m_join : Meets Tryz.prog regF 60 spJoin:=by
 refine meets Tryz.func60 75 noWr ?_
 rintro ⟨(xs : List ByteArray),(sep : ByteArray)⟩ ⟨⟨(h2 : 2 ≤ xs.length),(hm : xs.length ≤ 1000)⟩,⟨(hs0 : 0 < sep.size),(hs1 : sep.size ≤ 100)⟩,(hx : ∀ s ∈ xs,s.size ≤ 1000000)⟩
 have hq : 9223372036854775 ≤ Int.tdiv 9223372036854775807 ((xs.length : Int) - 1):=by
  rw [Int.tdiv_eq_ediv_of_nonneg (by decide)]
  exact Int.le_ediv_of_mul_le (by omega) (by omega)
 have hq2 : Int.tdiv 9223372036854775807 ((xs.length : Int) - 1) ≤ 9223372036854775807:=by
  rw [Int.tdiv_eq_ediv_of_nonneg (by decide)]
  exact Int.ediv_le_self _ (by decide)
 have hp0 : 0 < (sep.size : Int) * ((xs.length : Int) - 1):=Int.mul_pos (by omega) (by omega)
 have hp1 : (sep.size : Int) * ((xs.length : Int) - 1) ≤ 100 * 999:=Int.mul_le_mul (by omega) (by omega) (by omega) (by decide)
 conv=>whnf
 repeat' ((first | (refine (?_ : TG _ _); first | refine tY ?_ | refine tN ?_ | refine dY ?_ | refine dN ?_ | (refine tell ?_ ?_ <;> intro hQ <;> try dsimp only at hQ)) | refine aS ?_ | refine ai ?_ | fail) <;> conv=>whnf)
 refine ⟨Nat × Int,fun p=>⟨[(0,.lst 9 xs),(1,.val (.string sep)),(5,vI p.2),(39,.lst 9 xs),(40,vI xs.length),(41,vI p.1)],[]⟩,fun p=>p.1 ≤ xs.length ∧ 0 < p.2 ∧ p.2 ≤ 99900 + (p.1 : Int) * 1000000,fun p=>xs.length - p.1,fun _ _=>rfl,⟨(0,0 + (sep.size : Int) * ((xs.length : Int) - 1)),[],⟨Nat.zero_le _,by dsimp only; omega,by dsimp only; omega⟩,en⟩,?_⟩
 rintro ⟨(i : Nat),(n : Int)⟩ ⟨(hi : i ≤ xs.length),(hn0 : 0 < n),(hn1 : n ≤ 99900 + (i : Int) * 1000000)⟩
 by_cases hlt : i < xs.length
 ·have hobt : ∃ y,xs[i]? = some y:=⟨_,List.getElem?_eq_getElem hlt⟩
  obtain ⟨x,hxi⟩:=hobt
  have hxs:=hx x (List.mem_of_getElem? hxi)
  conv=>whnf
  repeat' ((first | (refine (?_ : TG _ _); first | refine tY ?_ | refine tN ?_ | refine dY ?_ | refine dN ?_ | (refine tell ?_ ?_ <;> intro hQ <;> try dsimp only at hQ)) | refine aS ?_ | refine aX hxi ?_ | refine aL hxi ?_ | refine ai ?_ | fail) <;> conv=>whnf)
  exact ⟨(i + 1,n + (x.size : Int)),[],⟨hlt,by dsimp only; omega,by dsimp only; omega⟩,rn en⟩
 ·have hobt : ∃ y,xs[0]? = some y:=⟨_,List.getElem?_eq_getElem (by omega)⟩
  obtain ⟨x0,hx0⟩:=hobt
  have hx0s:=hx x0 (List.mem_of_getElem? hx0)
  conv=>whnf
  repeat' ((first | (refine (?_ : TG _ _); first | refine tY ?_ | refine tN ?_ | refine dY ?_ | refine dN ?_ | (refine tell ?_ ?_ <;> intro hQ <;> try dsimp only at hQ)) | refine aS ?_ | refine ai ?_ | fail) <;> conv=>whnf)
  refine ⟨_,m_grow,n,[1008],false,?_⟩
  conv=>whnf
  refine vcA ⟨hn0,by omega⟩ ?_
  refine And.intro ⟨(0,0,0),trivial⟩ ?_
  rintro ⟨(b : Nat),(gb : Nat),(cap : Nat)⟩ _
  conv=>whnf
  repeat' ((first | (refine (?_ : TG _ _); first | refine tY ?_ | refine tN ?_ | refine dY ?_ | refine dN ?_ | (refine tell ?_ ?_ <;> intro hQ <;> try dsimp only at hQ)) | refine aS ?_ | refine aX hx0 ?_ | refine aL hx0 ?_ | refine ai ?_ | fail) <;> conv=>whnf)
  refine ⟨_,m_wsU,((b,gb,cap),[],x0),[1008,1057],false,?_⟩
  conv=>whnf
  refine vcA (show 0 + x0.size ≤ 140737488355328 by omega) ?_
  refine And.intro ⟨(0,0,0),trivial⟩ ?_
  rintro ⟨(b : Nat),(gb : Nat),(cap : Nat)⟩ _
  have hdl : (xs.drop 1).length = xs.length - 1:=List.length_drop ..
  conv=>whnf
  repeat' ((first | (refine (?_ : TG _ _); first | refine tY ?_ | refine tN ?_ | refine dY ?_ | refine dN ?_ | (refine tell ?_ ?_ <;> intro hQ <;> try dsimp only at hQ)) | refine aS ?_ | refine ai ?_ | fail) <;> conv=>whnf)
  refine ⟨Nat × (Nat × Nat × Nat) × List UInt8,fun p=>⟨[(1,.val (.string sep)),(8,.ptr 1008 0 2 0),(63,.lst 9 (xs.drop 1)),(64,vI (xs.drop 1).length),(65,vI p.1)],[(1008,bldH p.2.1.1 p.2.1.2.1 p.2.2.length p.2.1.2.2),(3000,bldR p.2.1.2.1 p.2.2 p.2.1.2.2)]⟩,fun p=>p.1 ≤ (xs.drop 1).length ∧ p.2.2 = x0.data.toList ++ restL sep ((xs.drop 1).take p.1),fun p=>(xs.drop 1).length - p.1,fun _ _=>rfl,⟨(0,(b,gb,cap),x0.data.toList),[(3000,1061)],⟨Nat.zero_le _,by simp [restL]⟩,en⟩,?_⟩
  rintro ⟨(i : Nat),⟨(b : Nat),(gb : Nat),(cap : Nat)⟩,(l : List UInt8)⟩ ⟨(hi : i ≤ (xs.drop 1).length),(hl : l = x0.data.toList ++ restL sep ((xs.drop 1).take i))⟩
  have hll : l.length ≤ 1000000 + 1000 * 1000100:=by
   have h1:=restL_len (sep:=sep) hs1 (l:=(xs.drop 1).take i) fun s hs=>hx s (List.mem_of_mem_drop (List.mem_of_mem_take hs))
   have h2 : ((xs.drop 1).take i).length ≤ 1000:=by rw [List.length_take]; omega
   have h3 : ((xs.drop 1).take i).length * 1000100 ≤ 1000 * 1000100:=Nat.mul_le_mul_right _ h2
   rw [hl,List.length_append,len_data]
   omega
  by_cases hlt : i < (xs.drop 1).length
  ·have hobt : ∃ y,(xs.drop 1)[i]? = some y:=⟨_,List.getElem?_eq_getElem hlt⟩
   obtain ⟨x,hxi⟩:=hobt
   have hxs:=hx x (List.mem_of_mem_drop (List.mem_of_getElem? hxi))
   have hs' : (l ++ sep.data.toList).length = l.length + sep.size:=by rw [List.length_append,len_data]
   conv=>whnf
   repeat' ((first | (refine (?_ : TG _ _); first | refine tY ?_ | refine tN ?_ | refine dY ?_ | refine dN ?_ | (refine tell ?_ ?_ <;> intro hQ <;> try dsimp only at hQ)) | refine aS ?_ | refine aX hxi ?_ | refine aL hxi ?_ | refine ai ?_ | fail) <;> conv=>whnf)
   refine ⟨_,m_wsU,((b,gb,cap),l,sep),[1008,3000],false,?_⟩
   conv=>whnf
   refine vcA (show l.length + sep.size ≤ 140737488355328 by omega) ?_
   refine And.intro ⟨(0,0,0),trivial⟩ ?_
   rintro ⟨(b : Nat),(gb : Nat),(cap : Nat)⟩ _
   conv=>whnf
   repeat' ((first | (refine (?_ : TG _ _); first | refine tY ?_ | refine tN ?_ | refine dY ?_ | refine dN ?_ | (refine tell ?_ ?_ <;> intro hQ <;> try dsimp only at hQ)) | refine aS ?_ | refine ai ?_ | fail) <;> conv=>whnf)
   refine ⟨_,m_wsU,((b,gb,cap),l ++ sep.data.toList,x),[1008,1070],false,?_⟩
   conv=>whnf
   refine vcA (show (l ++ sep.data.toList).length + x.size ≤ 140737488355328 by omega) ?_
   refine And.intro ⟨(0,0,0),trivial⟩ ?_
   rintro ⟨(b : Nat),(gb : Nat),(cap : Nat)⟩ _
   have hnl : l ++ sep.data.toList ++ x.data.toList = x0.data.toList ++ restL sep ((xs.drop 1).take (i + 1)):=by
    rw [take_snocI hxi,restL_snoc,hl]; simp
   conv=>whnf
   repeat' ((first | (refine (?_ : TG _ _); first | refine tY ?_ | refine tN ?_ | refine dY ?_ | refine dN ?_ | (refine tell ?_ ?_ <;> intro hQ <;> try dsimp only at hQ)) | refine aS ?_ | refine ai ?_ | fail) <;> conv=>whnf)
   exact ⟨(i + 1,(b,gb,cap),l ++ sep.data.toList ++ x.data.toList),[(3000,1072)],⟨hlt,hnl⟩,rn en⟩
  ·rw [List.take_of_length_le (by omega)] at hl
   have hne : l ≠ []:=by
    rw [hl]
    have hobt : ∃ y,(xs.drop 1)[0]? = some y:=⟨_,List.getElem?_eq_getElem (by omega)⟩
    obtain ⟨x1,hx1⟩:=hobt
    intro e
    have e2:=congrArg List.length e
    cases hd : xs.drop 1 with
    | nil=>rw [hd] at hdl; simp at hdl; omega
    | cons y ys=>
     rw [hd,restL,List.flatMap_cons,List.length_append,List.length_append,List.length_append,len_data,len_data,List.length_nil] at e2
     omega
   conv=>whnf
   repeat' ((first | (refine (?_ : TG _ _); first | refine tY ?_ | refine tN ?_ | refine dY ?_ | refine dN ?_ | (refine tell ?_ ?_ <;> intro hQ <;> try dsimp only at hQ)) | refine aS ?_ | refine ai ?_ | fail) <;> conv=>whnf)
   refine ⟨_,m_str,((b,gb,cap),l),[1008,3000],false,?_⟩
   conv=>whnf
   refine vcA hne ?_
   refine uU ?_
   conv=>whnf
   conv=>whnf
   repeat' ((first | (refine (?_ : TG _ _); first | refine tY ?_ | refine tN ?_ | refine dY ?_ | refine dN ?_ | (refine tell ?_ ?_ <;> intro hQ <;> try dsimp only at hQ)) | refine aS ?_ | refine ai ?_ | fail) <;> conv=>whnf)
   have hres : l = joinL sep xs:=by
    cases xs with
    | nil=>simp at h2
    | cons y ys=>simp at hx0; subst hx0; rw [hl]; simp [joinL]
   exact ⟨(),[],trivial,eS (by rw [hres]),trivial,trivial⟩
end
end Go.Sx
namespace Go.Proofs
open Go.Shelf
def BldT.wb_ren : Go.Shelf.Ren:=⟨fun | 167=>120 | 240=>76 | 276=>103 | n=>n,fun | 70=>81 | 3=>3 | 0=>0 | 4=>4 | 9=>9 | 20=>20 | 72=>84 | 37=>82 | 75=>145 | 164=>225 | 5=>5 | 80=>209 | n=>n,fun | n=>n⟩
theorem BldT.wb : Go.Proofs.Lays.n167 Tryz.prog BldT.wb_ren:={
 mixed:=by kernel_rfl
 f167:=Tryz.func120.trans (congrArg some (by kernel_rfl))
 f240:=Tryz.func76.trans (congrArg some (by kernel_rfl))
 f276:=Tryz.func103.trans (congrArg some (by kernel_rfl))
 t0:=Tryz.underlying0
 a0:=Tryz.isAgg0
 z0:=Tryz.sizeOf0
 v0:=Tryz.zeroValue0
 t4:=Tryz.underlying4
 a4:=Tryz.isAgg4
 z4:=Tryz.sizeOf4
 v4:=Tryz.zeroValue4
 t5:=Tryz.underlying5
 a5:=Tryz.isAgg5
 z5:=Tryz.sizeOf5
 v5:=Tryz.zeroValue5
 t9:=Tryz.underlying9
 a9:=Tryz.isAgg9
 z9:=Tryz.sizeOf9
 v9:=Tryz.zeroValue9
 t20:=Tryz.underlying20
 a20:=Tryz.isAgg20
 z20:=Tryz.sizeOf20
 v20:=Tryz.zeroValue20
 t37:=Tryz.underlying82
 a37:=Tryz.isAgg82
 z37:=Tryz.sizeOf82
 v37:=Tryz.zeroValue82
 t70:=Tryz.underlying81
 a70:=Tryz.isAgg81
 z70:=Tryz.sizeOf81
 v70:=Tryz.zeroValue81
 t72:=Tryz.underlying84
 a72:=Tryz.isAgg84
 z72:=Tryz.sizeOf84
 v72:=Tryz.zeroValue84
 t75:=Tryz.underlying145
 a75:=Tryz.isAgg145
 z75:=Tryz.sizeOf145
 v75:=Tryz.zeroValue145
 t164:=Tryz.underlying225
 a164:=Tryz.isAgg225
 z164:=Tryz.sizeOf225
 v164:=Tryz.zeroValue225 }
theorem BldT.wbX : Builder.Extra Tryz.prog BldT.wb_ren:={
 sizeBuilder:=by kernel_rfl
 liesBuilder:=by kernel_rfl
 t5:=Tryz.underlying5
 a5:=Tryz.isAgg5
 z5:=Tryz.sizeOf5
 v5:=Tryz.zeroValue5
 infoByte:=by kernel_rfl
 cellsByte:=by kernel_rfl
 sizeByte:=by kernel_rfl
 neB5:=by decide }
end Go.Proofs
namespace Go.Sx
open Go Go.Proofs Go.Proofs.YtcehbnfhlcfinaaGreatDoor Go.Shelf Go.RowKit
noncomputable section
section
variable {P : Program} {ρ : Ren}
theorem append_rel1 (w : World) (t ty e : TypeId) (i : TypeInfo) (ht : P.underlying t = some (.slice e)) (hi : P.info? e = some i) (hz : i.zero = some (.int .u8 0))
  (hsize : i.size = 1) (hby : i.bytes = 1) (v : Value) (n : Nat) (xs : List Value) (hown : w.ownsRow 0 e 1 v n xs) (ad : Addr) (c : Int) (hcell : w.cell? ad = some (.int .u8 c))
  (hbytes : n + 1 ≤ 140737488355328) :
  ∃ v' w',(Builtin.append_ #[t,t] ty #[v,.slice (some ad) 1 1]).run P w = .ok v' w' ∧ w'.ownsRow 0 e 1 v' (n + 1) (xs ++ [.int .u8 c]) ∧ WRel (fun k=>some k = v.ownBlock) w w' ∧
   (v'.ownBlock = v.ownBlock ∨ v'.ownBlock = some w.heap.size):=by
 have h63 : n + 1 ≤ maxLen:=by unfold maxLen; omega
 have hxl : xs.length = n:=by simpa using hown.1
 have hnews : ∀ (j : Nat) u,([.int .u8 c] : List Value)[j]? = some u → w.cell? (ad.add j) = some u:=fun j u hu=>by
  match j,hu with
  | 0,hu=>simp at hu; subst hu; simpa [Addr.add] using hcell
 have h1 : ∀ u ∈ ([.int .u8 c] : List Value),u.oneCell' = true:=fun u hu=>by simp at hu; subst hu; rfl
 have hlen : (xs ++ [Value.int .u8 c]).length = (n + 1) * 1:=by simp [hxl]
 have grown : ∀ (old : Nat),old < n + 1 → ∀ (E0 : Nat → Prop),
   (w.drew.alloc (.cells (xs.toArray ++ [Value.int .u8 c].toArray ++ Builtin.zeroCells (Value.int .u8 0).cells (grownCap w (n + 1) old e - (n + 1))) e)).ownsRow 0 e 1
    (.slice (some ⟨w.heap.size,0,none⟩) (n + 1) (grownCap w (n + 1) old e)) (n + 1) (xs ++ [.int .u8 c]) ∧
   WRel E0 w (w.drew.alloc (.cells (xs.toArray ++ [Value.int .u8 c].toArray ++ Builtin.zeroCells (Value.int .u8 0).cells (grownCap w (n + 1) old e - (n + 1))) e)):=by
  intro old ho E0
  have hge:=grownCap_ge w (n + 1) old e
  have hcm : grownCap w (n + 1) old e ≤ maxLen:=grownCap_le_maxLen w (n + 1) old e h63
  refine ⟨⟨hlen,.inr ⟨w.heap.size,_,_,rfl,Nat.zero_le _,Go.heap_alloc_new w.drew _,hge,hcm,?_,?_⟩⟩,(WRel.refl.drew).alloc _⟩
  ·have hz1 : (Value.int IntKind.u8 0).cells.size = 1:=rfl
   simp only [Array.size_append,List.size_toArray,size_zeroCells,hz1,hxl,List.length_cons,List.length_nil]
   omega
  ·simp only [Array.toList_append,List.append_assoc]
   rw [← List.append_assoc,← hlen]
   exact List.take_left
 rcases hown.2 with ⟨rfl,rfl⟩ | ⟨g,cap,cur,rfl,hbg,hg,hnc,hcm,hcs,htake⟩
 ·have hx : xs = []:=List.eq_nil_of_length_eq_zero hxl
  subst hx
  have hr:=Go.run_append_nil (P:=P) w t ty e i (.int .u8 0) ht hi hz ad 1 1 [.int .u8 c] (by rw [hsize]; rfl) hnews (by omega) (by omega) (by rw [hby]; omega)
  have hgr:=grown 0 (by omega) (fun k=>some k = Value.ownBlock (.slice none 0 0))
  simp only [Nat.zero_add,List.nil_append,Array.empty_append] at hgr ⊢
  exact ⟨_,_,hr,hgr.1,hgr.2,.inr rfl⟩
 ·by_cases hroom : n + 1 ≤ cap
  ·have hr:=Go.run_append_room (P:=P) w t ty e i ht hi g n cap cur hg ad 1 1 [.int .u8 c] (by rw [hsize]; rfl) hnews h1 hroom (by rw [hsize]; simp; omega)
   rw [hsize,Nat.mul_one] at hr
   have hsz : (cur.toList.take n ++ [Value.int .u8 c] ++ cur.toList.drop (n + [Value.int .u8 c].length)).toArray.size = cur.size:=by
    simp only [List.size_toArray,List.length_append,List.length_take,List.length_drop,Array.length_toList,List.length_cons,List.length_nil]
    omega
   refine ⟨_,_,hr,⟨hlen,.inr ⟨g,cap,_,rfl,hbg,setRow_heap w g cur _ e _ hg,hroom,hcm,?_,?_⟩⟩,WRel.refl.setRow hg _ hsz (.inl rfl),.inl rfl⟩
   ·rw [hsz]; exact hcs
   ·have ht' : cur.toList.take n = xs:=by simpa using htake
    rw [ht',← hlen]
    exact List.take_left
  ·have holds : ∀ j u,xs[j]? = some u → w.cell? ((⟨g,0,none⟩ : Addr).add j) = some u:=hown.cells (g:=g) rfl
   have hr:=Go.run_append_grow (P:=P) w t ty e i (.int .u8 0) ht hi hz ⟨g,0,none⟩ n cap xs (by rw [hsize]; simpa using hxl) holds ad 1 1 [.int .u8 c] (by rw [hsize]; rfl) hnews (by omega) (by omega) (by rw [hby]; exact growslice_fits (by omega) (by omega))
   have hgr:=grown cap (by omega) (fun k=>some k = Value.ownBlock (.slice (some ⟨g,0,none⟩) n cap))
   exact ⟨_,_,hr,hgr.1,hgr.2,.inr rfl⟩
theorem wpList_append_rel1 (w : World) {ops : Array Oper} {rest : List Oper} {o : Oper} {a : Act} {Q : Exit → Act → World → Prop} (hgd : o.guard = none) (sl x : Operand) (t : TypeId)
  (ho : o.op = .call { callee:=.builtin .append,args:=#[sl,x],argTypes:=#[t,t] })
  (e : TypeId) (i : TypeInfo) (ht : P.underlying t = some (.slice e)) (hi : P.info? e = some i) (hz : i.zero = some (.int .u8 0))
  (hsize : i.size = 1) (hby : i.bytes = 1)
  (v : Value) (n : Nat) (xs : List Value) (hs : a.eval sl = v) (hown : w.ownsRow 0 e 1 v n xs) (ad : Addr) (c : Int) (hx : a.eval x = .slice (some ad) 1 1) (hcell : w.cell? ad = some (.int .u8 c))
  (hbytes : n + 1 ≤ 140737488355328)
  (h : ∀ v' w',w'.ownsRow 0 e 1 v' (n + 1) (xs ++ [.int .u8 c]) → WRel (fun k=>some k = v.ownBlock) w w' → (v'.ownBlock = v.ownBlock ∨ v'.ownBlock = some w.heap.size) → wpList P ops Q rest (a.put o.dst v') w') : wpList P ops Q (o :: rest) a w:=by
 refine wpList_plain hgd fun K hK=>?_
 obtain ⟨v',w',hr,h2,h3,h4⟩:=append_rel1 (P:=P) w t o.type e i ht hi hz hsize hby v n xs hown ad c hcell hbytes
 unfold Oper.wp execOp
 simp only [ho,resolve,invoke,builtin,Sem.run_bind,Sem.run_pure,Result.andThen_ok,List.map_toArray,List.map_cons,List.map_nil,hs,hx,hr]
 exact hK _ _ (h v' w' h2 h3 h4)
set_option maxRecDepth 100000 in
theorem bld_byte (L : Lays.n167 P ρ) (X : Builder.Extra P ρ) (b : Nat) (p v : Value) (bs : List Value) (c : Int) (w : World) (hp : p = .pointer none ∨ p = .pointer (some ⟨b,0,none⟩)) (hbk : w.heap[b]? = some (.cells #[p,v] (ρ.t 72) (0,0)))
  (hown : w.ownsRow 0 (ρ.t 5) 1 v bs.length bs) (hlen : bs.length + 1 ≤ 140737488355328) :
  Calls P (ρ.f 167) #[.pointer (some ⟨b,0,none⟩),.int .u8 c] w fun e w'=>e = .returned .nilIface ∧
   ∃ v',w'.heap[b]? = some (.cells #[.pointer (some ⟨b,0,none⟩),v'] (ρ.t 72) (0,0)) ∧ w'.ownsRow 0 (ρ.t 5) 1 v' (bs.length + 1) (bs ++ [.int .u8 c]) ∧
    (v'.ownBlock = v.ownBlock ∨ v'.ownBlock = some (w.heap.size + 1)) ∧ WRel (fun k=>k = b ∨ some k = v.ownBlock) w w':=by
 obtain ⟨i0,hi,hz0,hz1,hz2⟩:=info_parts X.infoByte
 have hne : v.ownBlock ≠ some b:=Lib.ownBlock_ne hown hbk X.neB5
 have mixed:=L.mixed
 have t72:=L.t72; have a72:=L.a72; have z72:=L.z72; have v72:=L.v72; have u72:=run_underlying L.t72
 have t70:=L.t70; have a70:=L.a70; have z70:=L.z70; have v70:=L.v70; have u70:=run_underlying L.t70
 have t37:=L.t37; have a37:=L.a37; have z37:=L.z37; have v37:=L.v37; have u37:=run_underlying L.t37
 have t9:=L.t9; have a9:=L.a9; have z9:=L.z9; have v9:=L.v9; have u9:=run_underlying L.t9
 have t4:=L.t4; have a4:=L.a4; have z4:=L.z4; have v4:=L.v4; have u4:=run_underlying L.t4
 have t164:=L.t164; have a164:=L.a164; have z164:=L.z164; have v164:=L.v164; have u164:=run_underlying L.t164
 have t5:=X.t5; have a5:=X.a5; have z5:=X.z5; have v5:=X.v5; have u5:=run_underlying X.t5
 have e240 : ∀ args w,(callFunc (ρ.f 240) args).run P w = .ok (.enter (ρ.f 240) args) w:=enters_of L.f240 (by kernel_rfl) rfl
 go_enter L.f167,Body.n167_ntmps ρ
 go_wp2_with (go_at_fn (ρ.f 240); refine (bld_check { L with } X.toX72 b p v _ hp hbk).mono ?_)
 rintro e w1 ⟨rfl,hbk1,hoth,hsz1,hr1⟩
 have hown1 : w1.ownsRow 0 (ρ.t 5) 1 v bs.length bs:=ownsRow_of_heap hown fun k hk=>hoth k fun e=>hne (e ▸ hk)
 have c0 : w1.cell? ⟨b,0,none⟩ = some (.pointer (some ⟨b,0,none⟩)):=by rw [Lib.cell_of_heap hbk1]; rfl
 have c1 : w1.cell? ⟨b,1,none⟩ = some v:=by rw [Lib.cell_of_heap hbk1]; rfl
 go_wp2_with (at_builtin; refine wpList_append_rel1 _ (by rfl) _ _ (ρ.t 37) (by rfl) (ρ.t 5) i0 L.t37 hi hz0 hz1 hz2 _ _ _ (by rfl) (hown1.alloc _) ⟨w.heap.size,0,none⟩ c (by rfl) ?c3 ?c4 ?_)
 case c3=>rw [← hsz1]; simp
 case c4=>omega
 intro v' w2 hown' hr2 hob
 have hlt : b < w1.heap.size:=lt_of_heap hbk1
 have hb2 : w2.heap[b]? = some (.cells #[.pointer (some ⟨b,0,none⟩),v] (ρ.t 72) (0,0)):=by
  rw [hr2.block b (by simp; omega) (fun e=>hne e.symm),Lib.alloc_old w1 _ b hlt]
  exact hbk1
 have d0 : w2.cell? ⟨b,0,none⟩ = some (.pointer (some ⟨b,0,none⟩)):=by rw [Lib.cell_of_heap hb2]; rfl
 have d1 : w2.cell? ⟨b,1,none⟩ = some v:=by rw [Lib.cell_of_heap hb2]; rfl
 have f1 : w2.frozen? ⟨b,1,none⟩ = false:=Lib.frozen_of_heap hb2 1
 have hne' : v'.ownBlock ≠ some b:=Lib.ownBlock_ne hown' hb2 X.neB5
 have hr1' : WRel (fun k=>k = b ∨ some k = v.ownBlock) w w1:=⟨hr1.os,hr1.tape,hr1.output,hr1.size,fun k hk hn=>hr1.block k hk fun e=>hn (.inl e),hr1.shape⟩
 have hW2 : WRel (fun k=>k = b ∨ some k = v.ownBlock) w w2:=(hr1'.alloc _).trans' hr2 fun k h=>.inl (.inr h)
 obtain ⟨ao,n',cap,rfl⟩ : ∃ ao n' cap,v' = .slice ao n' cap:=by
  rcases hown'.2 with ⟨hv,_⟩ | ⟨g,cap,cur,hv,_⟩
  ·exact ⟨_,_,_,hv⟩
  ·exact ⟨_,_,_,hv⟩
 go_wp2
 go_ret
 refine ⟨rfl,_,heap_setCell_same hb2,ownsRow_of_heap hown' fun k hk=>heap_setCell_other fun e=>hne' (e ▸ hk),?_,hW2.setCell hb2 (.inl (.inl rfl))⟩
 rcases hob with h | h
 ·exact .inl h
 ·exact .inr (by rw [h])
end
def spWF : Spec AF where
 γ:=ByteArray
 δ:=Nat × Nat × Nat
 args:=fun s=>[.ptr 0 0 2 0,.val (.string s)]
 own:=fun _=>[bld0]
 pre:=fun s=>0 < s.size ∧ s.size ≤ 140737488355328
 nnew:=1
 res:=fun s _=>resW s
 own':=fun s d=>[some (bldH d.1 d.2.1 s.data.toList.length d.2.2),some (bldR d.2.1 s.data.toList d.2.2)]
theorem m_wsF : Meets Tryz.prog regF 41 spWF:=by
 refine ⟨⟨_,Tryz.func41,by kernel_rfl,by kernel_rfl⟩,?_⟩
 intro (s : ByteArray) ⟨(h0 : 0 < s.size),(hs : s.size ≤ 140737488355328)⟩ X ρ w vs hX1 hX2 hargs hown
 obtain ⟨b,hr0,_,c,E,fz,hb,hc,hE,hfz⟩:=denObj_inv (hown.den 0 _ rfl)
 subst hc hE hfz
 obtain ⟨u,v,rfl,hu,hv⟩:=args2 hargs
 obtain rfl:=ptr0_inv hr0 hu
 obtain rfl:=val_inv' hv
 refine (bld_write BldT.ws BldT.wsX b (.pointer none) (.slice none 0 0) [] s w (.inl rfl) hb (World.ownsRow_nil _ _ _ _) (by simpa using hs)).mono ?_
 rintro e w' ⟨rfl,v',hb',hown',hob,hrel⟩
 obtain ⟨gb,cap,cc,rfl,hg,hQ⟩:=owns_bldR (l:=s.data.toList) hown' (by simp [strCells_list]) (.inl (by simpa using h0))
 have hne : b ≠ gb:=ptr_ne hb' hg
 have hgb : w.heap.size ≤ gb:=by
  rcases hob with e | e
  ·cases e
  ·have : gb = w.heap.size:=Option.some.inj e
   omega
 refine ⟨(b,gb,cap),fun h=>if h = 1 then some (gb,0) else ρ h,_,trivial,rfl,fun h hh=>if_neg (by have : h < 1:=hh; omega),den_resW s,⟨fun h ct hct=>?_,fun h h' ct ct' k base base' hct hct' e e'=>?_⟩,fun k hk=>?_,rfl,rfl,fun h ct hct=>?_,?_⟩
 ·match h,hct with
  | 0,hct=>cases hct; exact (if_neg (by omega) : (if 0 = 1 then some (gb,0) else ρ 0) = ρ 0) ▸ hr0 ▸ denObj (fun i e=>Option.some.inj e) hb' ⟨rfl,rfl,rfl⟩
  | 1,hct=>cases hct; exact denObj (fun i e=>Option.some.inj e) hg hQ
 ·match h,h',hct,hct' with
  | 0,0,_,_=>rfl
  | 1,1,_,_=>rfl
  | 0,1,_,_=>
   have e : ρ 0 = some (k,base):=e
   have e' : some (gb,0) = some (k,base'):=e'
   rw [hr0] at e; cases e; cases e'; exact absurd rfl hne
  | 1,0,_,_=>
   have e' : ρ 0 = some (k,base'):=e'
   have e : some (gb,0) = some (k,base):=e
   rw [hr0] at e'; cases e'; cases e; exact absurd rfl hne
 ·obtain ⟨h,ct,base,hct,hr⟩:=hk
  match h,hct with
  | 0,_=>
   have hr : ρ 0 = some (k,base):=hr
   exact ⟨.inl ⟨0,bld0,base,rfl,hr⟩,fun hx=>hX2 k hx ⟨0,bld0,base,rfl,hr⟩⟩
  | 1,_=>
   have hr : some (gb,0) = some (k,base):=hr
   cases hr
   exact ⟨.inr hgb,fun hx=>by have:=hX1 _ hx; omega⟩
 ·match h,hct with
  | 0,hct=>cases hct; rfl
  | 1,hct=>cases hct; rfl
 ·refine ⟨hrel.os,hrel.tape,hrel.output,hrel.size,fun k hk hn=>hrel.block k hk ?_,hrel.shape⟩
  rintro (rfl | e)
  ·exact hn ⟨0,bld0,0,rfl,hr0⟩
  ·cases e
def spYF : Spec AF where
 γ:=UInt8
 δ:=Nat × Nat × Nat
 args:=fun c=>[.ptr 0 0 2 0,.val (.int .u8 c.toNat)]
 own:=fun _=>[bld0]
 nnew:=1
 res:=fun _ _=>.val .nilIface
 own':=fun c d=>[some (bldH d.1 d.2.1 1 d.2.2),some (bldR d.2.1 [c] d.2.2)]
def spYU : Spec AF where
 γ:=(Nat × Nat × Nat) × List UInt8 × UInt8
 δ:=Nat × Nat × Nat
 args:=fun g=>[.ptr 0 0 2 0,.val (.int .u8 g.2.2.toNat)]
 own:=fun g=>[bldH g.1.1 g.1.2.1 g.2.1.length g.1.2.2,bldR g.1.2.1 g.2.1 g.1.2.2]
 pre:=fun g=>g.2.1.length + 1 ≤ 140737488355328
 nnew:=1
 res:=fun _ _=>.val .nilIface
 own':=fun g d=>[some (bldH d.1 d.2.1 (g.2.1 ++ [g.2.2]).length d.2.2),none,some (bldR d.2.1 (g.2.1 ++ [g.2.2]) d.2.2)]
theorem m_byF : Meets Tryz.prog regF 120 spYF:=by
 refine ⟨⟨_,Tryz.func120,by kernel_rfl,by kernel_rfl⟩,?_⟩
 intro (s : UInt8) _ X ρ w vs hX1 hX2 hargs hown
 obtain ⟨b,hr0,_,c,E,fz,hb,hc,hE,hfz⟩:=denObj_inv (hown.den 0 _ rfl)
 subst hc hE hfz
 obtain ⟨u,v,rfl,hu,hv⟩:=args2 hargs
 obtain rfl:=ptr0_inv hr0 hu
 obtain rfl:=val_inv' hv
 refine (bld_byte BldT.wb BldT.wbX b (.pointer none) (.slice none 0 0) [] s.toNat w (.inl rfl) hb (World.ownsRow_nil _ _ _ _) (by decide)).mono ?_
 rintro e w' ⟨rfl,v',hb',hown',hob,hrel⟩
 obtain ⟨gb,cap,cc,rfl,hg,hQ⟩:=owns_bldR (l:=[s]) hown' (by simp [Lib.byteCells]) (.inl (by simp))
 have hne : b ≠ gb:=ptr_ne hb' hg
 have hgb : w.heap.size ≤ gb:=by
  rcases hob with e | e
  ·cases e
  ·have : gb = w.heap.size + 1:=Option.some.inj e
   omega
 refine ⟨(b,gb,cap),fun h=>if h = 1 then some (gb,0) else ρ h,_,trivial,rfl,fun h hh=>if_neg (by have : h < 1:=hh; omega),Den.val _,⟨fun h ct hct=>?_,fun h h' ct ct' k base base' hct hct' e e'=>?_⟩,fun k hk=>?_,rfl,rfl,fun h ct hct=>?_,?_⟩
 ·match h,hct with
  | 0,hct=>cases hct; exact (if_neg (by omega) : (if 0 = 1 then some (gb,0) else ρ 0) = ρ 0) ▸ hr0 ▸ denObj (fun i e=>Option.some.inj e) hb' ⟨rfl,rfl,rfl⟩
  | 1,hct=>cases hct; exact denObj (fun i e=>Option.some.inj e) hg hQ
 ·match h,h',hct,hct' with
  | 0,0,_,_=>rfl
  | 1,1,_,_=>rfl
  | 0,1,_,_=>
   have e : ρ 0 = some (k,base):=e
   have e' : some (gb,0) = some (k,base'):=e'
   rw [hr0] at e; cases e; cases e'; exact absurd rfl hne
  | 1,0,_,_=>
   have e' : ρ 0 = some (k,base'):=e'
   have e : some (gb,0) = some (k,base):=e
   rw [hr0] at e'; cases e'; cases e; exact absurd rfl hne
 ·obtain ⟨h,ct,base,hct,hr⟩:=hk
  match h,hct with
  | 0,_=>
   have hr : ρ 0 = some (k,base):=hr
   exact ⟨.inl ⟨0,bld0,base,rfl,hr⟩,fun hx=>hX2 k hx ⟨0,bld0,base,rfl,hr⟩⟩
  | 1,_=>
   have hr : some (gb,0) = some (k,base):=hr
   cases hr
   exact ⟨.inr hgb,fun hx=>by have:=hX1 _ hx; omega⟩
 ·match h,hct with
  | 0,hct=>cases hct; rfl
  | 1,hct=>cases hct; rfl
 ·refine ⟨hrel.os,hrel.tape,hrel.output,hrel.size,fun k hk hn=>hrel.block k hk ?_,hrel.shape⟩
  rintro (rfl | e)
  ·exact hn ⟨0,bld0,0,rfl,hr0⟩
  ·cases e
theorem m_byU : Meets Tryz.prog regF 120 spYU:=by
 refine ⟨⟨_,Tryz.func120,by kernel_rfl,by kernel_rfl⟩,?_⟩
 rintro ⟨⟨b,g0,cap0⟩,(l : List UInt8),(s : UInt8)⟩ (hs : l.length + 1 ≤ 140737488355328) X ρ w vs hX1 hX2 hargs hown
 obtain ⟨b,hr0,hk0,c,E,fz,hb,hc,hE,hfz⟩:=denObj_inv (hown.den 0 _ rfl)
 obtain rfl:=hk0 _ rfl
 subst hc hE hfz
 obtain ⟨g1,hr1,hk1,c1,E1,fz1,hg1,hQ1⟩:=denObj_inv (hown.den 1 _ rfl)
 obtain rfl:=hk1 _ rfl
 obtain ⟨u,v,rfl,hu,hv⟩:=args2 hargs
 obtain rfl:=ptr0_inv hr0 hu
 obtain rfl:=val_inv' hv
 refine (bld_byte BldT.wb BldT.wbX b _ _ (Lib.byteCells l) s.toNat w (.inr rfl) hb (bldR_owns hg1 hQ1) (by rw [Lib.byteCells_length]; exact hs)).mono ?_
 rintro e w' ⟨rfl,v',hb',hown',hob,hrel⟩
 obtain ⟨gb,cap,cc,rfl,hg,hQ⟩:=owns_bldR (l:=l ++ [s]) hown' (by rw [Lib.byteCells_append]; rfl) (.inr (by rcases hob with e | e <;> (rw [e]; simp [Value.ownBlock])))
 have hne : b ≠ gb:=ptr_ne hb' hg
 have hgb : gb = g1 ∨ w.heap.size ≤ gb:=by
  rcases hob with e | e
  ·exact .inl (Option.some.inj e)
  ·have : gb = w.heap.size + 1:=Option.some.inj e
   exact .inr (by omega)
 refine ⟨(b,gb,cap),fun h=>if h = 2 then some (gb,0) else ρ h,_,trivial,rfl,fun h hh=>if_neg (by have : h < 2:=hh; omega),Den.val _,⟨fun h ct hct=>?_,fun h h' ct ct' k base base' hct hct' e e'=>?_⟩,fun k hk=>?_,rfl,rfl,fun h ct hct=>?_,?_⟩
 ·match h,hct with
  | 0,hct=>cases hct; exact (if_neg (by omega) : (if 0 = 2 then some (gb,0) else ρ 0) = ρ 0) ▸ hr0 ▸ denObj (fun i e=>Option.some.inj e) hb' ⟨rfl,rfl,rfl⟩
  | 1,hct=>cases hct
  | 2,hct=>cases hct; exact denObj (fun i e=>Option.some.inj e) hg hQ
 ·have h01 : h ≠ 1:=by rintro rfl; cases hct
  have h01' : h' ≠ 1:=by rintro rfl; cases hct'
  have hl : h < 3:=by
   rcases Nat.lt_or_ge h 3 with e | e
   ·exact e
   ·rw [List.getElem?_eq_none (by exact e)] at hct; cases hct
  have hl' : h' < 3:=by
   rcases Nat.lt_or_ge h' 3 with e | e
   ·exact e
   ·rw [List.getElem?_eq_none (by exact e)] at hct'; cases hct'
  have hh : h = 0 ∨ h = 2:=by omega
  have hh' : h' = 0 ∨ h' = 2:=by omega
  rcases hh with rfl | rfl <;> rcases hh' with rfl | rfl
  ·rfl
  ·have e : ρ 0 = some (k,base):=e
   have e' : some (gb,0) = some (k,base'):=e'
   rw [hr0] at e; cases e; cases e'; exact absurd rfl hne
  ·have e' : ρ 0 = some (k,base'):=e'
   have e : some (gb,0) = some (k,base):=e
   rw [hr0] at e'; cases e'; cases e; exact absurd rfl hne
  ·rfl
 ·obtain ⟨h,ct,base,hct,hr⟩:=hk
  match h,hct with
  | 0,_=>
   have hr : ρ 0 = some (k,base):=hr
   exact ⟨.inl ⟨0,_,base,rfl,hr⟩,fun hx=>hX2 k hx ⟨0,_,base,rfl,hr⟩⟩
  | 1,hct=>cases hct
  | 2,_=>
   have hr : some (gb,0) = some (k,base):=hr
   cases hr
   rcases hgb with rfl | hgb
   ·exact ⟨.inl ⟨1,_,0,rfl,hr1⟩,fun hx=>hX2 _ hx ⟨1,_,0,rfl,hr1⟩⟩
   ·exact ⟨.inr hgb,fun hx=>by have:=hX1 _ hx; omega⟩
 ·match h,hct with
  | 0,hct=>cases hct; rfl
  | 1,hct=>cases hct
  | 2,hct=>cases hct; rfl
 ·refine ⟨hrel.os,hrel.tape,hrel.output,hrel.size,fun k hk hn=>hrel.block k hk ?_,hrel.shape⟩
  rintro (rfl | e)
  ·exact hn ⟨0,_,0,rfl,hr0⟩
  ·have e : some k = some g1:=e
   cases e
   exact hn ⟨1,_,0,rfl,hr1⟩
def spCC (F k : Nat) : Spec AF where
 γ:=List (SV AF) × List (Ct AF)
 args:=fun g=>[.ptr 0 0 g.1.length k]
 own:=fun g=>.row F g.1 :: g.2
 pre:=fun g=>g.1[k]? = some (.val (.pointer none)) ∧ 1 + k < g.1.length ∧ g.1.length ≤ 8 ∧ menL (fun h=>Nat.blt h (g.2.length + 1)) g.1 = true ∧ (∀ ct ∈ g.2,menCt (fun h=>Nat.blt h (g.2.length + 1)) ct = true) ∧
  liesAt Tryz.prog Tryz.prog.depth F (g.1.length / Tryz.prog.cellsOf F) k 84 1 = true
 res:=fun _ _=>.val (.tuple #[])
 own':=fun g _=>some (.row F (g.1.set k (.ptr 0 0 g.1.length k))) :: g.2.map some
set_option maxRecDepth 100000 in
theorem cc_at (b k n F : Nat) (w : World) (h0 : w.cell? ⟨b,k,none⟩ = some (.pointer none)) (hsh : w.shape? b = some (F,n)) (hk : 1 + k < n) (hfz : w.frozen? ⟨b,k,none⟩ = false)
  (hl : liesAt Tryz.prog Tryz.prog.depth F (n / Tryz.prog.cellsOf F) k 84 1 = true) :
  Calls Tryz.prog 76 #[.pointer (some ⟨b,k,none⟩)] w fun e w'=>e = .returned (.tuple #[]) ∧ w' = w.setCell ⟨b,k,none⟩ (.pointer (some ⟨b,k,none⟩)):=by
 have L:=BldT.ws
 have X:=BldT.wsX
 obtain ⟨j,hj,hjs⟩:=Option.map_eq_some_iff.1 X.sizeBuilder
 have mixed:=L.mixed
 have t72:=L.t72; have a72:=L.a72; have z72:=L.z72; have v72:=L.v72; have u72:=run_underlying L.t72
 have t70:=L.t70; have a70:=L.a70; have z70:=L.z70; have v70:=L.v70; have u70:=run_underlying L.t70
 have t9:=L.t9; have a9:=L.a9; have z9:=L.z9; have v9:=L.v9; have u9:=run_underlying L.t9
 have t4:=L.t4; have a4:=L.a4; have z4:=L.z4; have v4:=L.v4; have u4:=run_underlying L.t4
 have t164:=L.t164; have a164:=L.a164; have z164:=L.z164; have v164:=L.v164; have u164:=run_underlying L.t164
 show Calls Tryz.prog (BldT.ws_ren.f 240) _ w _
 go_enter L.f240,Body.n240_ntmps BldT.ws_ren
 go_wp2
 rw [Lib.run_to_unsafe w ⟨b,k,none⟩ L.t70 L.t164 hj (by rw [hjs]; decide) hsh (show k < n by omega)]
 simp only [Result.andThen]
 rw [Oper.upon_value]
 go_wp2
 rw [run_callFunc_extern L.f276 (by kernel_rfl) (by kernel_rfl) (by kernel_rfl) (e:=Extern.AbiNoEscape.same) (by kernel_rfl)]
 rw [Lib.run_noEscape]
 simp only [Result.andThen]
 rw [Oper.upon_value]
 go_wp2
 rw [Lib.run_from_unsafe w ⟨b,k,none⟩ L.t164 L.t70 hj hsh hl]
 simp only [Result.andThen]
 rw [Oper.upon_value]
 go_wp2
 go_end0
 exact ⟨rfl,rfl⟩
theorem m_cc (F k : Nat) : Meets Tryz.prog regF 76 (spCC F k):=by
 refine ⟨⟨_,Tryz.func76,by kernel_rfl,by kernel_rfl⟩,?_⟩
 rintro ⟨(cs : List (SV AF)),(rest : List (Ct AF))⟩ ⟨(hk : cs[k]? = some (.val (.pointer none))),(hkn : 1 + k < cs.length),(hn8 : cs.length ≤ 8),hm,hmr,hl⟩ X ρ w vs hX1 hX2 hargs hown
 have hd:=hown.den 0 (.row F cs) rfl
 cases hr : ρ 0 with
 | none=>
  rw [hr] at hd
  have hd : cs = []:=hd
  subst hd; simp at hk
 | some p=>
  obtain ⟨b,base⟩:=p
  rw [hr] at hd
  rcases hd with (⟨_,_,_,e,_⟩ | ⟨_,_,e,_⟩) | ⟨_,c,E,fz,hb,hfz,⟨hlen,hbase,hsz,hE⟩,hc⟩
  ·cases e
  ·cases e
  subst hbase; subst hE
  have hlen : 0 + cs.length ≤ c.size:=hlen
  have hc : ∀ (j : Nat) s v,cs[j]? = some s → c[0 + j]? = some v → Den regF ρ _ w s v:=hc
  obtain ⟨u,rfl,hu⟩:=args1 hargs
  have hu' : u = .pointer (some ⟨b,k,none⟩):=by
   cases hu with
   | ptr _ _ _ _ b' base' h=>rw [hr] at h; cases h; simp
  subst hu'
  have hck : c[k]? = some (.pointer none):=by
   have h1 : c[0 + k]? = some (c[k]'(by omega)):=by simp
   have h2:=val_inv' (hc k _ _ hk h1)
   rw [Nat.zero_add] at h1; rw [h1,h2]
  refine (cc_at b k cs.length E w (by simp [World.cell?,hb,hck]) (by simp [World.shape?,hb,hsz]) hkn (by simp only [World.frozen?,hb]; rcases hfz with h | h <;> simp <;> omega) hl).mono ?_
  rintro e w' ⟨rfl,rfl⟩
  have hb' : (w.setCell ⟨b,k,none⟩ (.pointer (some ⟨b,k,none⟩))).heap[b]? = some (.cells (c.setIfInBounds k (.pointer (some ⟨b,k,none⟩))) E fz):=heap_setCell_same hb
  have hoth : ∀ j,j ≠ b → (w.setCell ⟨b,k,none⟩ (.pointer (some ⟨b,k,none⟩))).heap[j]? = w.heap[j]?:=fun j hj=>heap_setCell_other hj
  have get' : ∀ (h : Nat) ct,(some (Ct.row E (cs.set k (.ptr 0 0 cs.length k))) :: rest.map some)[h]? = some (some ct) → (h = 0 ∧ ct = .row E (cs.set k (.ptr 0 0 cs.length k))) ∨ ∃ h',h = h' + 1 ∧ (rest.map some)[h']? = some (some ct):=fun h ct hh=>by
   match h,hh with
   | 0,hh=>cases hh; exact .inl ⟨rfl,rfl⟩
   | h + 1,hh=>exact .inr ⟨h,rfl,hh⟩
  have old : ∀ (h : Nat) ct,(some (Ct.row E (cs.set k (.ptr 0 0 cs.length k))) :: rest.map some)[h]? = some (some ct) → ∃ ct0,((Ct.row E cs :: rest).map some)[h]? = some (some ct0):=fun h ct hh=>by
   rcases get' h ct hh with ⟨rfl,rfl⟩ | ⟨h',rfl,e⟩
   ·exact ⟨_,rfl⟩
   ·exact ⟨ct,e⟩
  have hblk : ∀ b',Blk (some (Ct.row E (cs.set k (.ptr 0 0 cs.length k))) :: rest.map some) ρ b' ↔ Blk ((Ct.row E cs :: rest).map some) ρ b':=fun b'=>by
   constructor
   ·rintro ⟨h,ct,base',h1,h2⟩
    obtain ⟨ct0,h3⟩:=old h ct h1
    exact ⟨h,ct0,base',h3,h2⟩
   ·rintro ⟨h,ct,base',h1,h2⟩
    match h,h1 with
    | 0,_=>exact ⟨0,_,base',rfl,h2⟩
    | h + 1,h1=>exact ⟨h + 1,ct,base',h1,h2⟩
  have hg : Goes (fun b'=>X b' ∨ Blk ((Ct.row E cs :: rest).map some) ρ b') (fun b'=>X b' ∨ Blk (some (Ct.row E (cs.set k (.ptr 0 0 cs.length k))) :: rest.map some) ρ b') w (w.setCell ⟨b,k,none⟩ (.pointer (some ⟨b,k,none⟩))):=by
   refine ⟨fun b1 c1 E1 fz1 hn h1=>⟨fun hx=>hn (hx.imp id (hblk b1).1),?_⟩,fun b1 c1 E1 fz1 h1=>?_,fun b1 ds h1=>?_⟩
   ·rw [hoth b1 (by rintro rfl; exact hn (.inr ⟨0,_,0,rfl,hr⟩))]; exact h1
   ·by_cases e : b1 = b
    ·subst e; rw [hb] at h1; cases h1; exact ⟨_,_,hb',by simp⟩
    ·exact ⟨c1,fz1,by rw [hoth b1 e]; exact h1,rfl⟩
   ·rw [hoth b1 (by rintro rfl; rw [hb] at h1; cases h1)]; exact h1
  refine ⟨(),ρ,_,trivial,rfl,fun _ _=>rfl,.val _,⟨fun h ct hct=>?_,fun h h' ct ct' b1 base1 base2 h1 h2 h3 h4=>?_⟩,fun b' hk'=>?_,by simp [spCC],rfl,fun h ct hct=>?_,?_⟩
  ·rcases get' h ct hct with ⟨rfl,rfl⟩ | ⟨h',rfl,e⟩
   ·rw [hr]
    refine .inr ⟨rfl,_,E,fz,hb',by simpa using hfz,⟨by show 0 + (cs.set k _).length ≤ _; simp; omega,rfl,by simp [hsz],rfl⟩,fun j s v hs hv=>?_⟩
    have hs : (cs.set k (.ptr 0 0 cs.length k))[j]? = some s:=hs
    rw [Nat.zero_add,Array.getElem?_setIfInBounds] at hv
    rw [List.getElem?_set] at hs
    by_cases e : k = j
    ·subst e
     rw [if_pos rfl,if_pos (by omega)] at hs
     rw [if_pos rfl,if_pos (by omega)] at hv
     cases hs; cases hv
     have e0 : (⟨b,0 + (0 * cs.length + k),none⟩ : Addr) = ⟨b,k,none⟩:=by simp
     exact e0 ▸ Den.ptr 0 0 cs.length k b 0 hr
    ·rw [if_neg e] at hs hv
     exact (hc j s v hs (by rw [Nat.zero_add]; exact hv)).mono hg
   ·have h5:=hown.den (h' + 1) ct e
    refine h5.mono hg fun b1 base1 hb1=>hoth b1 ?_
    rintro rfl
    exact absurd (hown.inj (h' + 1) 0 ct _ b1 base1 0 e rfl hb1 hr) (by omega)
  ·obtain ⟨c1,g1⟩:=old h ct h1
   obtain ⟨c2,g2⟩:=old h' ct' h2
   exact hown.inj h h' c1 c2 b1 base1 base2 g1 g2 h3 h4
  ·have hk2:=(hblk b').1 hk'
   exact ⟨.inl hk2,fun hx=>hX2 b' hx hk2⟩
  ·rcases get' h ct hct with ⟨rfl,rfl⟩ | ⟨h',rfl,e⟩
   ·refine menL_of fun j s hs=>?_
    rw [List.getElem?_set] at hs
    split at hs
    ·split at hs
     ·cases hs; show Nat.blt 0 (rest.length + 1 + 0) = true; simp
     ·cases hs
    ·exact menL_get hm j s hs
   ·obtain ⟨ct0,hm0,rfl⟩ : ∃ ct0,rest[h']? = some ct0 ∧ ct0 = ct:=by
     rw [List.getElem?_map] at e
     cases e2 : rest[h']? with
     | none=>rw [e2] at e; cases e
     | some x=>rw [e2] at e; cases e; exact ⟨_,rfl,rfl⟩
    exact hmr _ (List.mem_of_getElem? hm0)
  ·exact WRel.refl.setCell hb (.inl ⟨0,_,0,rfl,hr⟩)
end
end Go.Sx
namespace Go.Sx
noncomputable section
open Go Go.Proofs Go.Proofs.YtcehbnfhlcfinaaGreatDoor Go.Shelf
theorem own_set {X : Nat → Prop} {ρ : Rho} {w : World} {hs : List (Option (Ct AF))} (hown : DenHs regF ρ (fun b=>X b ∨ Blk hs ρ b) w hs) {i : Nat} {cs : List (SV AF)} (hi : hs[i]? = some (some (.cells cs))) {b base : Nat} (hr : ρ i = some (b,base))
  {k : Nat} {v0 v1 : Value} (hk : cs[k]? = some (.val v0)) :
  w.cell? ⟨b,base + k,none⟩ = some v0 ∧ w.frozen? ⟨b,base + k,none⟩ = false ∧
   DenHs regF ρ (fun b=>X b ∨ Blk (hs.set i (some (.cells (cs.set k (.val v1))))) ρ b) (w.setCell ⟨b,base + k,none⟩ v1) (hs.set i (some (.cells (cs.set k (.val v1))))) ∧
   Goes (fun b'=>X b' ∨ Blk hs ρ b') (fun b'=>X b' ∨ Blk (hs.set i (some (.cells (cs.set k (.val v1))))) ρ b') w (w.setCell ⟨b,base + k,none⟩ v1) ∧
   (∀ b',Blk (hs.set i (some (.cells (cs.set k (.val v1))))) ρ b' ↔ Blk hs ρ b') ∧ ∃ c E fz,w.heap[b]? = some (.cells c E fz):=by
 have hil : i < hs.length:=(List.getElem?_eq_some_iff.1 hi).1
 have hd:=hown.den i (.cells cs) hi
 rw [hr] at hd
 rcases hd with (⟨_,_,_,e,_⟩ | ⟨_,_,e,_⟩) | ⟨_,c,E,fz,hb,hfz,⟨hlen,hty⟩,hc⟩
 ·cases e
 ·cases e
 have hlen : base + cs.length ≤ c.size:=hlen
 have hc : ∀ (j : Nat) s v,cs[j]? = some s → c[base + j]? = some v → Den regF ρ _ w s v:=hc
 have hkl : k < cs.length:=(List.getElem?_eq_some_iff.1 hk).1
 have hck : c[base + k]? = some v0:=by
  have h1 : c[base + k]? = some (c[base + k]'(by omega)):=by simp
  rw [h1,val_inv' (hc k _ _ hk h1)]
 have hb' : (w.setCell ⟨b,base + k,none⟩ v1).heap[b]? = some (.cells (c.setIfInBounds (base + k) v1) E fz):=heap_setCell_same hb
 have hoth : ∀ j,j ≠ b → (w.setCell ⟨b,base + k,none⟩ v1).heap[j]? = w.heap[j]?:=fun j hj=>heap_setCell_other hj
 have get' : ∀ (h : Nat) ct,(hs.set i (some (.cells (cs.set k (.val v1)))))[h]? = some (some ct) → (h = i ∧ ct = .cells (cs.set k (.val v1))) ∨ (h ≠ i ∧ hs[h]? = some (some ct)):=fun h ct hh=>by
  by_cases e : i = h
  ·subst e; rw [List.getElem?_set_self hil] at hh; cases hh; exact .inl ⟨rfl,rfl⟩
  ·rw [List.getElem?_set_ne e] at hh; exact .inr ⟨fun h'=>e h'.symm,hh⟩
 have old : ∀ (h : Nat) ct,(hs.set i (some (.cells (cs.set k (.val v1)))))[h]? = some (some ct) → ∃ ct0,hs[h]? = some (some ct0):=fun h ct hh=>by
  rcases get' h ct hh with ⟨rfl,rfl⟩ | ⟨_,e⟩
  ·exact ⟨_,hi⟩
  ·exact ⟨ct,e⟩
 have hblk : ∀ b',Blk (hs.set i (some (.cells (cs.set k (.val v1))))) ρ b' ↔ Blk hs ρ b':=fun b'=>by
  constructor
  ·rintro ⟨h,ct,base',h1,h2⟩
   obtain ⟨ct0,h3⟩:=old h ct h1
   exact ⟨h,ct0,base',h3,h2⟩
  ·rintro ⟨h,ct,base',h1,h2⟩
   by_cases e : i = h
   ·subst e; exact ⟨i,_,base',by rw [List.getElem?_set_self hil],h2⟩
   ·exact ⟨h,ct,base',by rw [List.getElem?_set_ne e]; exact h1,h2⟩
 have hg : Goes (fun b'=>X b' ∨ Blk hs ρ b') (fun b'=>X b' ∨ Blk (hs.set i (some (.cells (cs.set k (.val v1))))) ρ b') w (w.setCell ⟨b,base + k,none⟩ v1):=by
  refine ⟨fun b1 c1 E1 fz1 hn h1=>⟨fun hx=>hn (hx.imp id (hblk b1).1),?_⟩,fun b1 c1 E1 fz1 h1=>?_,fun b1 ds h1=>?_⟩
  ·rw [hoth b1 (by rintro rfl; exact hn (.inr ⟨i,_,base,hi,hr⟩))]; exact h1
  ·by_cases e : b1 = b
   ·subst e; rw [hb] at h1; cases h1; exact ⟨_,_,hb',by simp⟩
   ·exact ⟨c1,fz1,by rw [hoth b1 e]; exact h1,rfl⟩
  ·rw [hoth b1 (by rintro rfl; rw [hb] at h1; cases h1)]; exact h1
 refine ⟨by simp [World.cell?,hb,hck],by simp only [World.frozen?,hb]; rcases hfz with h | h <;> simp <;> omega,⟨fun h ct hct=>?_,fun h h' ct ct' b1 base1 base2 h1 h2 h3 h4=>?_⟩,hg,hblk,c,E,fz,hb⟩
 ·rcases get' h ct hct with ⟨rfl,rfl⟩ | ⟨hne,e⟩
  ·rw [hr]
   refine .inr ⟨rfl,_,E,fz,hb',by simpa using hfz,⟨by show base + (cs.set k _).length ≤ _; simp; omega,trivial⟩,fun j s v hs' hv=>?_⟩
   have hs' : (cs.set k (.val v1))[j]? = some s:=hs'
   rw [Array.getElem?_setIfInBounds] at hv
   rw [List.getElem?_set] at hs'
   by_cases e : k = j
   ·subst e
    rw [if_pos rfl,if_pos hkl] at hs'
    rw [if_pos rfl,if_pos (by omega)] at hv
    cases hs'; cases hv
    exact .val _
   ·rw [if_neg e] at hs'
    rw [if_neg (by omega)] at hv
    exact (hc j s v hs' hv).mono hg
  ·have h5:=hown.den h ct e
   refine h5.mono hg fun b1 base1 hb1=>hoth b1 ?_
   rintro rfl
   exact hne (hown.inj h i ct _ b1 base1 base e hi hb1 hr)
 ·obtain ⟨c1,g1⟩:=old h ct h1
  obtain ⟨c2,g2⟩:=old h' ct' h2
  exact hown.inj h h' c1 c2 b1 base1 base2 g1 g2 h3 h4
end
end Go.Sx
namespace Go.Sx
open Go Go.Proofs Go.Proofs.YtcehbnfhlcfinaaGreatDoor
noncomputable section
def spCl0 (T : Nat) : Spec AF where
 γ:=Unit
 args:=fun _=>[.lst T []]
 res:=fun _ _=>.lst T []
def spCl1 (T : Nat) : Spec AF:={ spCl0 T with args:=fun _=>[.val (.slice none 0 0)] }
def spCl2 (T : Nat) : Spec AF where
 γ:=Addr × Nat
 args:=fun g=>[.val (.slice (some g.1) 0 g.2)]
 res:=fun _ _=>.lst T []
def spClO (T : Nat) (sz m : Nat) : Spec AF where
 γ:=List (AF T)
 args:=fun xs=>[.lst T xs]
 pre:=fun xs=>0 < xs.length ∧ xs.length ≤ m
 nnew:=1
 res:=fun xs _=>.sl 0 sz 0 xs.length
 own':=fun xs _=>[some (.arr T xs)]
def spClP (T : Nat) (m : Nat) : Spec AF where
 γ:=List (AF T)
 args:=fun xs=>[.lst T xs]
 pre:=fun xs=>0 < xs.length ∧ xs.length ≤ m
 res:=fun xs _=>.lst T xs
def spCl (T : Nat) (m : Nat) : Spec AF:={ spClP T m with pre:=fun xs=>xs.length ≤ m }
def spClS (T : Nat) (sz m : Nat) : Spec AF where
 γ:=List (AF T)
 args:=fun xs=>[.sl 0 sz 0 xs.length]
 own:=fun xs=>[.arr T xs]
 pre:=fun xs=>0 < xs.length ∧ xs.length ≤ m
 res:=fun xs _=>.lst T xs
 own':=fun xs _=>[some (.arr T xs)]
theorem cl0_of {f T : Nat} (h1' : Meets Tryz.prog regF f (spCl1 T)) (h2' : Meets Tryz.prog regF f (spCl2 T)) : Meets Tryz.prog regF f (spCl0 T):=by
 refine ⟨h1'.1,fun g hg X ρ w vs h1 h2 h3 h4=>?_⟩
 have hobt:=Array.size_eq_one_iff.1 (show vs.size = 1 by have h:=h3.1; simp [spCl0] at h; exact h.symm)
 obtain ⟨v,rfl⟩:=hobt
 have hv : Den regF ρ (fun b=>X b ∨ Blk (((spCl0 T).own g).map some) ρ b) w (.lst T []) v:=h3.2 0 _ v rfl rfl
 have one : ∀ u : Value,DenL regF ρ (fun b=>X b ∨ Blk (((spCl0 T).own g).map some) ρ b) w [.val u] [u]:=fun u=>⟨rfl,fun j s x hs hx=>by
  match j with
  | 0=>simp at hs hx; subst hs; subst hx; exact .val _
  | j + 1=>simp at hs⟩
 cases hv with
 | lnil _ cap hc=>subst hc; exact h1'.2 () trivial X ρ w _ h1 h2 (one _) h4
 | lempty _ a cap ha=>
  cases a with
  | none=>exact absurd rfl ha
  | some a=>exact h2'.2 (a,cap) trivial X ρ w _ h1 h2 (one _) h4
 | lst _ _ b off cap c E fz g' ho hb hcap hc hd=>exact h2'.2 (⟨b,off,none⟩,cap) trivial X ρ w _ h1 h2 (one _) h4
theorem cl_of {f T m : Nat} (h0' : Meets Tryz.prog regF f (spCl0 T)) (hp' : Meets Tryz.prog regF f (spClP T m)) : Meets Tryz.prog regF f (spCl T m):=by
 refine ⟨h0'.1,fun (xs : List (AF T)) hg X ρ w vs h1 h2 h3 h4=>?_⟩
 cases xs with
 | nil=>exact h0'.2 () trivial X ρ w vs h1 h2 h3 h4
 | cons x xs=>exact hp'.2 (x :: xs) ⟨Nat.zero_lt_succ _,hg⟩ X ρ w vs h1 h2 h3 h4
theorem m_cl0I : Meets Tryz.prog regF 29 (spCl0 3):=by
 refine cl0_of ?_ ?_
 ·refine meets Tryz.func29 8 noWr ?_
  rintro ⟨⟩ _
  conv=>whnf
  repeat' ((first | (refine (?_ : TG _ _); first | refine tY ?_ | refine tN ?_ | refine dY ?_ | refine dN ?_ | (refine tell ?_ ?_ <;> intro hQ <;> try dsimp only at hQ)) | refine aS ?_ | refine ai ?_ | fail) <;> conv=>whnf)
  exact ⟨(),[],trivial,rfl,trivial,trivial⟩
 ·refine meets Tryz.func29 8 noWr ?_
  rintro ⟨(a : Addr),(k : Nat)⟩ _
  conv=>whnf
  repeat' ((first | (refine (?_ : TG _ _); first | refine tY ?_ | refine tN ?_ | refine dY ?_ | refine dN ?_ | (refine tell ?_ ?_ <;> intro hQ <;> try dsimp only at hQ)) | refine aS ?_ | refine ai ?_ | fail) <;> conv=>whnf)
  exact ⟨(),[],trivial,⟨Nat.le_refl _,rfl,rfl⟩,trivial,trivial⟩
theorem m_clI : Meets Tryz.prog regF 29 (spCl 3 1000000000):=by
 refine cl_of m_cl0I ?_
 refine meets Tryz.func29 8 noWr ?_
 rintro (xs : List (AF 3)) ⟨(h0 : 0 < xs.length),(hl : xs.length ≤ 1000000000)⟩
 conv=>whnf
 repeat' ((first | (refine (?_ : TG _ _); first | refine tY ?_ | refine tN ?_ | refine dY ?_ | refine dN ?_ | (refine tell ?_ ?_ <;> intro hQ <;> try dsimp only at hQ)) | refine aS ?_ | refine ai ?_ | fail) <;> conv=>whnf)
 refine ⟨(),[],trivial,⟨?_,rfl,?_⟩,trivial,trivial⟩
 ·show 0 + (0 + xs.length) ≤ _; simp
 ·exact congrArg (SV.lst (A:=AF) 3) (by simp)
theorem m_cl0E : Meets Tryz.prog regF 22 (spCl0 44):=by
 refine cl0_of ?_ ?_
 ·refine meets Tryz.func22 8 noWr ?_
  rintro ⟨⟩ _
  conv=>whnf
  repeat' ((first | (refine (?_ : TG _ _); first | refine tY ?_ | refine tN ?_ | refine dY ?_ | refine dN ?_ | (refine tell ?_ ?_ <;> intro hQ <;> try dsimp only at hQ)) | refine aS ?_ | refine ai ?_ | fail) <;> conv=>whnf)
  exact ⟨(),[],trivial,rfl,trivial,trivial⟩
 ·refine meets Tryz.func22 8 noWr ?_
  rintro ⟨(a : Addr),(k : Nat)⟩ _
  conv=>whnf
  repeat' ((first | (refine (?_ : TG _ _); first | refine tY ?_ | refine tN ?_ | refine dY ?_ | refine dN ?_ | (refine tell ?_ ?_ <;> intro hQ <;> try dsimp only at hQ)) | refine aS ?_ | refine ai ?_ | fail) <;> conv=>whnf)
  exact ⟨(),[],trivial,⟨Nat.le_refl _,rfl,rfl⟩,trivial,trivial⟩
theorem m_clE : Meets Tryz.prog regF 22 (spCl 44 1000000000):=by
 refine cl_of m_cl0E ?_
 refine meets Tryz.func22 8 noWr ?_
 rintro (xs : List (AF 44)) ⟨(h0 : 0 < xs.length),(hl : xs.length ≤ 1000000000)⟩
 conv=>whnf
 repeat' ((first | (refine (?_ : TG _ _); first | refine tY ?_ | refine tN ?_ | refine dY ?_ | refine dN ?_ | (refine tell ?_ ?_ <;> intro hQ <;> try dsimp only at hQ)) | refine aS ?_ | refine ai ?_ | fail) <;> conv=>whnf)
 refine ⟨(),[],trivial,⟨?_,rfl,?_⟩,trivial,trivial⟩
 ·show 0 + (0 + xs.length) ≤ _; simp
 ·exact congrArg (SV.lst (A:=AF) 44) (by simp)
theorem m_cl0P : Meets Tryz.prog regF 23 (spCl0 48):=by
 refine cl0_of ?_ ?_
 ·refine meets Tryz.func23 8 noWr ?_
  rintro ⟨⟩ _
  conv=>whnf
  repeat' ((first | (refine (?_ : TG _ _); first | refine tY ?_ | refine tN ?_ | refine dY ?_ | refine dN ?_ | (refine tell ?_ ?_ <;> intro hQ <;> try dsimp only at hQ)) | refine aS ?_ | refine ai ?_ | fail) <;> conv=>whnf)
  exact ⟨(),[],trivial,rfl,trivial,trivial⟩
 ·refine meets Tryz.func23 8 noWr ?_
  rintro ⟨(a : Addr),(k : Nat)⟩ _
  conv=>whnf
  repeat' ((first | (refine (?_ : TG _ _); first | refine tY ?_ | refine tN ?_ | refine dY ?_ | refine dN ?_ | (refine tell ?_ ?_ <;> intro hQ <;> try dsimp only at hQ)) | refine aS ?_ | refine ai ?_ | fail) <;> conv=>whnf)
  exact ⟨(),[],trivial,⟨Nat.le_refl _,rfl,rfl⟩,trivial,trivial⟩
theorem m_clP : Meets Tryz.prog regF 23 (spCl 48 1000000000):=by
 refine cl_of m_cl0P ?_
 refine meets Tryz.func23 8 noWr ?_
 rintro (xs : List (AF 48)) ⟨(h0 : 0 < xs.length),(hl : xs.length ≤ 1000000000)⟩
 conv=>whnf
 repeat' ((first | (refine (?_ : TG _ _); first | refine tY ?_ | refine tN ?_ | refine dY ?_ | refine dN ?_ | (refine tell ?_ ?_ <;> intro hQ <;> try dsimp only at hQ)) | refine aS ?_ | refine ai ?_ | fail) <;> conv=>whnf)
 refine ⟨(),[],trivial,⟨?_,rfl,?_⟩,trivial,trivial⟩
 ·show 0 + (0 + xs.length) ≤ _; simp
 ·exact congrArg (SV.lst (A:=AF) 48) (by simp)
theorem m_clSJ : Meets Tryz.prog regF 19 (spClS 63 4 1000000000):=by
 refine meets Tryz.func19 8 noWr ?_
 rintro (xs : List (AF 63)) ⟨(h0 : 0 < xs.length),(hl : xs.length ≤ 1000000000)⟩
 conv=>whnf
 repeat' ((first | (refine (?_ : TG _ _); first | refine tY ?_ | refine tN ?_ | refine dY ?_ | refine dN ?_ | (refine tell ?_ ?_ <;> intro hQ <;> try dsimp only at hQ)) | refine aS ?_ | refine ai ?_ | fail) <;> conv=>whnf)
 refine ⟨(),[],trivial,⟨?_,rfl,?_⟩,⟨rfl,trivial⟩,trivial⟩
 ·show 0 + (0 + xs.length) ≤ _; simp
 ·exact congrArg (SV.lst (A:=AF) 63) (by simp)
theorem m_cl0S : Meets Tryz.prog regF 30 (spCl0 122):=by
 refine cl0_of ?_ ?_
 ·refine meets Tryz.func30 8 noWr ?_
  rintro ⟨⟩ _
  conv=>whnf
  repeat' ((first | (refine (?_ : TG _ _); first | refine tY ?_ | refine tN ?_ | refine dY ?_ | refine dN ?_ | (refine tell ?_ ?_ <;> intro hQ <;> try dsimp only at hQ)) | refine aS ?_ | refine ai ?_ | fail) <;> conv=>whnf)
  exact ⟨(),[],trivial,rfl,trivial,trivial⟩
 ·refine meets Tryz.func30 8 noWr ?_
  rintro ⟨(a : Addr),(k : Nat)⟩ _
  conv=>whnf
  repeat' ((first | (refine (?_ : TG _ _); first | refine tY ?_ | refine tN ?_ | refine dY ?_ | refine dN ?_ | (refine tell ?_ ?_ <;> intro hQ <;> try dsimp only at hQ)) | refine aS ?_ | refine ai ?_ | fail) <;> conv=>whnf)
  exact ⟨(),[],trivial,⟨Nat.le_refl _,rfl,rfl⟩,trivial,trivial⟩
theorem m_clS : Meets Tryz.prog regF 30 (spCl 122 1000000000):=by
 refine cl_of m_cl0S ?_
 refine meets Tryz.func30 8 noWr ?_
 rintro (xs : List (AF 122)) ⟨(h0 : 0 < xs.length),(hl : xs.length ≤ 1000000000)⟩
 conv=>whnf
 repeat' ((first | (refine (?_ : TG _ _); first | refine tY ?_ | refine tN ?_ | refine dY ?_ | refine dN ?_ | (refine tell ?_ ?_ <;> intro hQ <;> try dsimp only at hQ)) | refine aS ?_ | refine ai ?_ | fail) <;> conv=>whnf)
 refine ⟨(),[],trivial,⟨?_,rfl,?_⟩,trivial,trivial⟩
 ·show 0 + (0 + xs.length) ≤ _; simp
 ·exact congrArg (SV.lst (A:=AF) 122) (by simp)
theorem m_cl0W : Meets Tryz.prog regF 31 (spCl0 125):=by
 refine cl0_of ?_ ?_
 ·refine meets Tryz.func31 8 noWr ?_
  rintro ⟨⟩ _
  conv=>whnf
  repeat' ((first | (refine (?_ : TG _ _); first | refine tY ?_ | refine tN ?_ | refine dY ?_ | refine dN ?_ | (refine tell ?_ ?_ <;> intro hQ <;> try dsimp only at hQ)) | refine aS ?_ | refine ai ?_ | fail) <;> conv=>whnf)
  exact ⟨(),[],trivial,rfl,trivial,trivial⟩
 ·refine meets Tryz.func31 8 noWr ?_
  rintro ⟨(a : Addr),(k : Nat)⟩ _
  conv=>whnf
  repeat' ((first | (refine (?_ : TG _ _); first | refine tY ?_ | refine tN ?_ | refine dY ?_ | refine dN ?_ | (refine tell ?_ ?_ <;> intro hQ <;> try dsimp only at hQ)) | refine aS ?_ | refine ai ?_ | fail) <;> conv=>whnf)
  exact ⟨(),[],trivial,⟨Nat.le_refl _,rfl,rfl⟩,trivial,trivial⟩
theorem m_clW : Meets Tryz.prog regF 31 (spCl 125 1000000000):=by
 refine cl_of m_cl0W ?_
 refine meets Tryz.func31 8 noWr ?_
 rintro (xs : List (AF 125)) ⟨(h0 : 0 < xs.length),(hl : xs.length ≤ 1000000000)⟩
 conv=>whnf
 repeat' ((first | (refine (?_ : TG _ _); first | refine tY ?_ | refine tN ?_ | refine dY ?_ | refine dN ?_ | (refine tell ?_ ?_ <;> intro hQ <;> try dsimp only at hQ)) | refine aS ?_ | refine ai ?_ | fail) <;> conv=>whnf)
 refine ⟨(),[],trivial,⟨?_,rfl,?_⟩,trivial,trivial⟩
 ·show 0 + (0 + xs.length) ≤ _; simp
 ·exact congrArg (SV.lst (A:=AF) 125) (by simp)
theorem m_cl0T : Meets Tryz.prog regF 113 (spCl0 9):=by
 refine cl0_of ?_ ?_
 ·refine meets Tryz.func113 8 noWr ?_
  rintro ⟨⟩ _
  conv=>whnf
  repeat' ((first | (refine (?_ : TG _ _); first | refine tY ?_ | refine tN ?_ | refine dY ?_ | refine dN ?_ | (refine tell ?_ ?_ <;> intro hQ <;> try dsimp only at hQ)) | refine aS ?_ | refine ai ?_ | fail) <;> conv=>whnf)
  exact ⟨(),[],trivial,rfl,trivial,trivial⟩
 ·refine meets Tryz.func113 8 noWr ?_
  rintro ⟨(a : Addr),(k : Nat)⟩ _
  conv=>whnf
  repeat' ((first | (refine (?_ : TG _ _); first | refine tY ?_ | refine tN ?_ | refine dY ?_ | refine dN ?_ | (refine tell ?_ ?_ <;> intro hQ <;> try dsimp only at hQ)) | refine aS ?_ | refine ai ?_ | fail) <;> conv=>whnf)
  exact ⟨(),[],trivial,⟨Nat.le_refl _,rfl,rfl⟩,trivial,trivial⟩
theorem m_clT : Meets Tryz.prog regF 113 (spCl 9 1000000000):=by
 refine cl_of m_cl0T ?_
 refine meets Tryz.func113 8 noWr ?_
 rintro (xs : List (AF 9)) ⟨(h0 : 0 < xs.length),(hl : xs.length ≤ 1000000000)⟩
 conv=>whnf
 repeat' ((first | (refine (?_ : TG _ _); first | refine tY ?_ | refine tN ?_ | refine dY ?_ | refine dN ?_ | (refine tell ?_ ?_ <;> intro hQ <;> try dsimp only at hQ)) | refine aS ?_ | refine ai ?_ | fail) <;> conv=>whnf)
 refine ⟨(),[],trivial,⟨?_,rfl,?_⟩,trivial,trivial⟩
 ·show 0 + (0 + xs.length) ≤ _; simp
 ·exact congrArg (SV.lst (A:=AF) 9) (by simp)
theorem m_cl0N : Meets Tryz.prog regF 114 (spCl0 160):=by
 refine cl0_of ?_ ?_
 ·refine meets Tryz.func114 8 noWr ?_
  rintro ⟨⟩ _
  conv=>whnf
  repeat' ((first | (refine (?_ : TG _ _); first | refine tY ?_ | refine tN ?_ | refine dY ?_ | refine dN ?_ | (refine tell ?_ ?_ <;> intro hQ <;> try dsimp only at hQ)) | refine aS ?_ | refine ai ?_ | fail) <;> conv=>whnf)
  exact ⟨(),[],trivial,rfl,trivial,trivial⟩
 ·refine meets Tryz.func114 8 noWr ?_
  rintro ⟨(a : Addr),(k : Nat)⟩ _
  conv=>whnf
  repeat' ((first | (refine (?_ : TG _ _); first | refine tY ?_ | refine tN ?_ | refine dY ?_ | refine dN ?_ | (refine tell ?_ ?_ <;> intro hQ <;> try dsimp only at hQ)) | refine aS ?_ | refine ai ?_ | fail) <;> conv=>whnf)
  exact ⟨(),[],trivial,⟨Nat.le_refl _,rfl,rfl⟩,trivial,trivial⟩
theorem m_clN : Meets Tryz.prog regF 114 (spCl 160 1000000000):=by
 refine cl_of m_cl0N ?_
 refine meets Tryz.func114 8 noWr ?_
 rintro (xs : List (AF 160)) ⟨(h0 : 0 < xs.length),(hl : xs.length ≤ 1000000000)⟩
 conv=>whnf
 repeat' ((first | (refine (?_ : TG _ _); first | refine tY ?_ | refine tN ?_ | refine dY ?_ | refine dN ?_ | (refine tell ?_ ?_ <;> intro hQ <;> try dsimp only at hQ)) | refine aS ?_ | refine ai ?_ | fail) <;> conv=>whnf)
 refine ⟨(),[],trivial,⟨?_,rfl,?_⟩,trivial,trivial⟩
 ·show 0 + (0 + xs.length) ≤ _; simp
 ·exact congrArg (SV.lst (A:=AF) 160) (by simp)
theorem m_clON : Meets Tryz.prog regF 114 (spClO 160 6 1000000000):=by
 refine meets Tryz.func114 8 noWr ?_
 rintro (xs : List (AF 160)) ⟨(h0 : 0 < xs.length),(hl : xs.length ≤ 1000000000)⟩
 conv=>whnf
 repeat' ((first | (refine (?_ : TG _ _); first | refine tY ?_ | refine tN ?_ | refine dY ?_ | refine dN ?_ | (refine tell ?_ ?_ <;> intro hQ <;> try dsimp only at hQ)) | refine aS ?_ | refine ai ?_ | fail) <;> conv=>whnf)
 refine ⟨(),[1007],trivial,congrArg (SV.sl (A:=AF) 1007 6 0) (show 0 + xs.length = xs.length by omega),⟨rfl,trivial⟩,trivial⟩
end
end Go.Sx
namespace Go.Sx
open Go Go.Proofs Go.Proofs.YtcehbnfhlcfinaaGreatDoor
noncomputable section
def OkA (l : List UInt8) : Prop:=l.length ≤ 16 ∧ ∀ c ∈ l,c.toNat < 128
def spWord : Spec AF where
 γ:=List UInt8
 δ:=Int
 args:=fun l=>[vS l]
 pre:=fun l=>8 ≤ l.length
 res:=fun _ n=>.val (.int .u64 n)
theorem m_word : Meets Tryz.prog regF 232 spWord:=by
 refine meets Tryz.func232 59 noWr ?_
 rintro (l : List UInt8) (hl : 8 ≤ l.length)
 have hz:=size_bS l
 conv=>whnf
 repeat' ((first | (refine (?_ : TG _ _); first | refine tY ?_ | refine tN ?_ | refine dY ?_ | refine dN ?_ | (refine tell ?_ ?_ <;> intro hQ <;> try dsimp only at hQ)) | refine aS ?_ | refine ai ?_ | fail) <;> conv=>whnf)
 exact ⟨_,[],trivial,rfl,trivial,trivial⟩
def spVal : Spec AF where
 γ:=List UInt8
 δ:=Bool
 args:=fun l=>[vS l]
 pre:=OkA
 res:=fun _ c=>vB c
theorem m_val : Meets Tryz.prog regF 194 spVal:=by
 refine meetsC Tryz.func194 169 noWr ?_
 rintro (l0 : List UInt8) (h0 : OkA l0)
 conv=>whnf
 repeat' ((first | (refine (?_ : TG _ _); first | refine tY ?_ | refine tN ?_ | refine dY ?_ | refine dN ?_ | (refine tell ?_ ?_ <;> intro hQ <;> try dsimp only at hQ)) | refine aS ?_ | refine ai ?_ | refine ⟨none,?_⟩ | fail) <;> conv=>whnf)
 refine ⟨List UInt8,fun l=>⟨[(0,vS l)],[]⟩,OkA,fun l=>l.length,fun _ _=>rfl,⟨l0,[],h0,en⟩,?_⟩
 rintro (l : List UInt8) (hl : OkA l)
 have hz:=size_bS l
 cases l with
 | nil=>
  have hz0 : (⟨#[]⟩ : ByteArray).size = 0:=rfl
  conv=>whnf
  repeat' ((first | (refine (?_ : TG _ _); first | refine tY ?_ | refine tN ?_ | refine dY ?_ | refine dN ?_ | (refine tell ?_ ?_ <;> intro hQ <;> try dsimp only at hQ)) | refine aS ?_ | refine ai ?_ | refine ⟨none,?_⟩ | fail) <;> conv=>whnf)
  exact ⟨true,[],trivial,rfl,trivial,trivial⟩
 | cons c l=>
  have hc : ((c.toNat : Nat) : Int) < 128:=by have:=hl.2 c (by simp); omega
  have hl2 : l.length ≤ 15:=by have:=hl.1; simp at this; omega
  have hok : ∀ c ∈ l,c.toNat < 128:=fun x hx=>hl.2 x (by simp [hx])
  have hz2 : (c :: l).length = l.length + 1:=rfl
  have hcut : (SV.val (A:=AF) (.string ((⟨(c :: l).toArray⟩ : ByteArray).extract 1 (⟨(c :: l).toArray⟩ : ByteArray).size))) = vS l:=congrArg (fun y=>SV.val (A:=AF) (.string y)) (bS_drop (c :: l) 1)
  conv=>whnf
  repeat' ((first | (refine (?_ : TG _ _); first | refine tY ?_ | refine tN ?_ | refine dY ?_ | refine dN ?_ | (refine tell ?_ ?_ <;> intro hQ <;> try dsimp only at hQ)) | refine aS ?_ | refine ai ?_ | fail) <;> conv=>whnf)
  refine ⟨none,?_⟩
  conv=>whnf
  conv=>whnf
  repeat' ((first | (refine (?_ : TG _ _); first | refine tY ?_ | refine tN ?_ | refine dY ?_ | refine dN ?_ | (refine tell ?_ ?_ <;> intro hQ <;> try dsimp only at hQ)) | refine aS ?_ | refine ai ?_ | fail) <;> conv=>whnf)
  refine ⟨none,?_⟩
  conv=>whnf
  conv=>whnf
  repeat' ((first | (refine (?_ : TG _ _); first | refine tY ?_ | refine tN ?_ | refine dY ?_ | refine dN ?_ | (refine tell ?_ ?_ <;> intro hQ <;> try dsimp only at hQ)) | refine aS ?_ | refine ai ?_ | fail) <;> conv=>whnf)
  refine ⟨none,?_⟩
  conv=>whnf
  conv=>whnf
  repeat' ((first | (refine (?_ : TG _ _); first | refine tY ?_ | refine tN ?_ | refine dY ?_ | refine dN ?_ | (refine tell ?_ ?_ <;> intro hQ <;> try dsimp only at hQ)) | refine aS ?_ | refine ai ?_ | fail) <;> conv=>whnf)
  refine ⟨none,?_⟩
  conv=>whnf
  conv=>whnf
  repeat' ((first | (refine (?_ : TG _ _); first | refine tY ?_ | refine tN ?_ | refine dY ?_ | refine dN ?_ | (refine tell ?_ ?_ <;> intro hQ <;> try dsimp only at hQ)) | refine aS ?_ | refine ai ?_ | fail) <;> conv=>whnf)
  refine ⟨some (⟨[(0,vS l)],[]⟩,[]),?_⟩
  conv=>whnf
  refine ⟨rfl,en,?_⟩
  have hzl:=size_bS l
  by_cases h8 : 8 < l.length
  ·conv=>whnf
   repeat' ((first | (refine (?_ : TG _ _); first | refine tY ?_ | refine tN ?_ | refine dY ?_ | refine dN ?_ | (refine tell ?_ ?_ <;> intro hQ <;> try dsimp only at hQ)) | refine aS ?_ | refine ai ?_ | fail) <;> conv=>whnf)
   refine ⟨_,m_word,l,[],false,?_⟩
   conv=>whnf
   refine vcA (show 8 ≤ l.length by omega) ?_
   conv=>whnf
   refine aV (0 : Int) trivial fun (d : Int) _=>?_
   conv=>whnf
   repeat' ((first | (refine (?_ : TG _ _); first | refine tY ?_ | refine tN ?_) | refine aS ?_ | refine ai ?_ | refine ⟨none,?_⟩ | fail) <;> conv=>whnf)
   refine tell (fun hb=>?_) (fun hb=>?_)
   ·have hd8 : (⟨l.toArray⟩ : ByteArray).extract (lowOf (some 8)).toNat (⟨l.toArray⟩ : ByteArray).size = ⟨(l.drop 8).toArray⟩:=bS_drop l 8
    have hz8 : ((⟨l.toArray⟩ : ByteArray).extract (lowOf (some 8)).toNat (⟨l.toArray⟩ : ByteArray).size).size = l.length - 8:=by rw [hd8,size_bS]; simp
    have hcut8 : (SV.val (A:=AF) (.string ((⟨l.toArray⟩ : ByteArray).extract (lowOf (some 8)).toNat (⟨l.toArray⟩ : ByteArray).size))) = vS (l.drop 8):=congrArg (fun y=>SV.val (A:=AF) (.string y)) hd8
    conv=>whnf
    repeat' ((first | (refine (?_ : TG _ _); first | refine tY ?_ | refine tN ?_) | refine aS ?_ | refine ai ?_ | refine ⟨none,?_⟩ | fail) <;> conv=>whnf)
    exact ⟨l.drop 8,[],⟨by simp; omega,fun x hx=>hok x (List.mem_of_mem_drop hx)⟩,rn en⟩
   ·conv=>whnf
    repeat' ((first | (refine (?_ : TG _ _); first | refine tY ?_ | refine tN ?_) | refine aS ?_ | refine ai ?_ | refine ⟨none,?_⟩ | fail) <;> conv=>whnf)
    exact ⟨l,[],⟨by omega,hok⟩,rn en⟩
  ·conv=>whnf
   repeat' ((first | (refine (?_ : TG _ _); first | refine tY ?_ | refine tN ?_ | refine dY ?_ | refine dN ?_ | (refine tell ?_ ?_ <;> intro hQ <;> try dsimp only at hQ)) | refine aS ?_ | refine ai ?_ | refine ⟨none,?_⟩ | fail) <;> conv=>whnf)
   exact ⟨l,[],⟨by omega,hok⟩,rn en⟩
theorem m_whole : Meets Tryz.prog regF 152 spVal:=by
 refine meets Tryz.func152 5 noWr ?_
 rintro (l : List UInt8) (hl : OkA l)
 conv=>whnf
 repeat' ((first | (refine (?_ : TG _ _); first | refine tY ?_ | refine tN ?_ | refine dY ?_ | refine dN ?_ | (refine tell ?_ ?_ <;> intro hQ <;> try dsimp only at hQ)) | refine aS ?_ | refine ai ?_ | fail) <;> conv=>whnf)
 refine ⟨_,m_val,l,[],false,?_⟩
 conv=>whnf
 refine vcA hl ?_
 conv=>whnf
 refine aV false trivial fun (d : Bool) _=>?_
 conv=>whnf
 repeat' ((first | (refine (?_ : TG _ _); first | refine tY ?_ | refine tN ?_ | refine dY ?_ | refine dN ?_ | (refine tell ?_ ?_ <;> intro hQ <;> try dsimp only at hQ)) | refine aS ?_ | refine ai ?_ | fail) <;> conv=>whnf)
 exact ⟨d,[],trivial,rfl,trivial,trivial⟩
end
end Go.Sx
namespace Go.Proofs
open Go.Shelf
def QuoT.wr_ren : Go.Shelf.Ren:=⟨fun | 168=>157 | 240=>76 | 242=>196 | 276=>103 | 278=>233 | n=>n,fun | 70=>81 | 3=>3 | 0=>0 | 4=>4 | 9=>9 | 20=>20 | 72=>84 | 37=>82 | 75=>145 | 164=>225 | 5=>5 | 80=>209 | 21=>21 | 46=>206 | 51=>97 | 127=>245 | n=>n,fun | n=>n⟩
theorem QuoT.wr : Go.Proofs.Lays.n168 Tryz.prog QuoT.wr_ren:={
 mixed:=by kernel_rfl
 f168:=Tryz.func157.trans (congrArg some (by kernel_rfl))
 f240:=Tryz.func76.trans (congrArg some (by kernel_rfl))
 f242:=Tryz.func196.trans (congrArg some (by kernel_rfl))
 f276:=Tryz.func103.trans (congrArg some (by kernel_rfl))
 f278:=Tryz.func233.trans (congrArg some (by kernel_rfl))
 t0:=Tryz.underlying0
 a0:=Tryz.isAgg0
 z0:=Tryz.sizeOf0
 v0:=Tryz.zeroValue0
 t3:=Tryz.underlying3
 a3:=Tryz.isAgg3
 z3:=Tryz.sizeOf3
 v3:=Tryz.zeroValue3
 t4:=Tryz.underlying4
 a4:=Tryz.isAgg4
 z4:=Tryz.sizeOf4
 v4:=Tryz.zeroValue4
 t5:=Tryz.underlying5
 a5:=Tryz.isAgg5
 z5:=Tryz.sizeOf5
 v5:=Tryz.zeroValue5
 t9:=Tryz.underlying9
 a9:=Tryz.isAgg9
 z9:=Tryz.sizeOf9
 v9:=Tryz.zeroValue9
 t20:=Tryz.underlying20
 a20:=Tryz.isAgg20
 z20:=Tryz.sizeOf20
 v20:=Tryz.zeroValue20
 t21:=Tryz.underlying21
 a21:=Tryz.isAgg21
 z21:=Tryz.sizeOf21
 v21:=Tryz.zeroValue21
 t37:=Tryz.underlying82
 a37:=Tryz.isAgg82
 z37:=Tryz.sizeOf82
 v37:=Tryz.zeroValue82
 t46:=Tryz.underlying206
 a46:=Tryz.isAgg206
 z46:=Tryz.sizeOf206
 v46:=Tryz.zeroValue206
 t51:=Tryz.underlying97
 a51:=Tryz.isAgg97
 z51:=Tryz.sizeOf97
 v51:=Tryz.zeroValue97
 t70:=Tryz.underlying81
 a70:=Tryz.isAgg81
 z70:=Tryz.sizeOf81
 v70:=Tryz.zeroValue81
 t72:=Tryz.underlying84
 a72:=Tryz.isAgg84
 z72:=Tryz.sizeOf84
 v72:=Tryz.zeroValue84
 t75:=Tryz.underlying145
 a75:=Tryz.isAgg145
 z75:=Tryz.sizeOf145
 v75:=Tryz.zeroValue145
 t164:=Tryz.underlying225
 a164:=Tryz.isAgg225
 z164:=Tryz.sizeOf225
 v164:=Tryz.zeroValue225 }
theorem QuoT.wrX : Builder.Extra Tryz.prog QuoT.wr_ren:={
 sizeBuilder:=by kernel_rfl
 liesBuilder:=by kernel_rfl
 t5:=Tryz.underlying5
 a5:=Tryz.isAgg5
 z5:=Tryz.sizeOf5
 v5:=Tryz.zeroValue5
 infoByte:=by kernel_rfl
 cellsByte:=by kernel_rfl
 sizeByte:=by kernel_rfl
 neB5:=by decide }
def QuoT.st_ren : Go.Shelf.Ren:=⟨fun | 169=>91 | n=>n,fun | 70=>81 | 3=>3 | 0=>0 | 4=>4 | 9=>9 | 20=>20 | 72=>84 | 37=>82 | 75=>145 | 164=>225 | 5=>5 | 80=>209 | 21=>21 | 46=>206 | 51=>97 | 127=>245 | n=>n,fun | n=>n⟩
theorem QuoT.st : Go.Proofs.Lays.n169 Tryz.prog QuoT.st_ren:={
 mixed:=by kernel_rfl
 f169:=Tryz.func91.trans (congrArg some (by kernel_rfl))
 t0:=Tryz.underlying0
 a0:=Tryz.isAgg0
 z0:=Tryz.sizeOf0
 v0:=Tryz.zeroValue0
 t3:=Tryz.underlying3
 a3:=Tryz.isAgg3
 z3:=Tryz.sizeOf3
 v3:=Tryz.zeroValue3
 t9:=Tryz.underlying9
 a9:=Tryz.isAgg9
 z9:=Tryz.sizeOf9
 v9:=Tryz.zeroValue9
 t37:=Tryz.underlying82
 a37:=Tryz.isAgg82
 z37:=Tryz.sizeOf82
 v37:=Tryz.zeroValue82
 t70:=Tryz.underlying81
 a70:=Tryz.isAgg81
 z70:=Tryz.sizeOf81
 v70:=Tryz.zeroValue81
 t72:=Tryz.underlying84
 a72:=Tryz.isAgg84
 z72:=Tryz.sizeOf84
 v72:=Tryz.zeroValue84
 t127:=Tryz.underlying245
 a127:=Tryz.isAgg245
 z127:=Tryz.sizeOf245
 v127:=Tryz.zeroValue245 }
theorem QuoT.stX : Builder.Extra Tryz.prog QuoT.st_ren:={
 sizeBuilder:=by kernel_rfl
 liesBuilder:=by kernel_rfl
 t5:=Tryz.underlying5
 a5:=Tryz.isAgg5
 z5:=Tryz.sizeOf5
 v5:=Tryz.zeroValue5
 infoByte:=by kernel_rfl
 cellsByte:=by kernel_rfl
 sizeByte:=by kernel_rfl
 neB5:=by decide }
def QuoT.wb_ren : Go.Shelf.Ren:=⟨fun | 167=>120 | 240=>76 | 276=>103 | n=>n,fun | 70=>81 | 3=>3 | 0=>0 | 4=>4 | 9=>9 | 20=>20 | 72=>84 | 37=>82 | 75=>145 | 164=>225 | 5=>5 | 80=>209 | 21=>21 | 46=>206 | 51=>97 | 127=>245 | n=>n,fun | n=>n⟩
theorem QuoT.wb : Go.Proofs.Lays.n167 Tryz.prog QuoT.wb_ren:={
 mixed:=by kernel_rfl
 f167:=Tryz.func120.trans (congrArg some (by kernel_rfl))
 f240:=Tryz.func76.trans (congrArg some (by kernel_rfl))
 f276:=Tryz.func103.trans (congrArg some (by kernel_rfl))
 t0:=Tryz.underlying0
 a0:=Tryz.isAgg0
 z0:=Tryz.sizeOf0
 v0:=Tryz.zeroValue0
 t4:=Tryz.underlying4
 a4:=Tryz.isAgg4
 z4:=Tryz.sizeOf4
 v4:=Tryz.zeroValue4
 t5:=Tryz.underlying5
 a5:=Tryz.isAgg5
 z5:=Tryz.sizeOf5
 v5:=Tryz.zeroValue5
 t9:=Tryz.underlying9
 a9:=Tryz.isAgg9
 z9:=Tryz.sizeOf9
 v9:=Tryz.zeroValue9
 t20:=Tryz.underlying20
 a20:=Tryz.isAgg20
 z20:=Tryz.sizeOf20
 v20:=Tryz.zeroValue20
 t37:=Tryz.underlying82
 a37:=Tryz.isAgg82
 z37:=Tryz.sizeOf82
 v37:=Tryz.zeroValue82
 t70:=Tryz.underlying81
 a70:=Tryz.isAgg81
 z70:=Tryz.sizeOf81
 v70:=Tryz.zeroValue81
 t72:=Tryz.underlying84
 a72:=Tryz.isAgg84
 z72:=Tryz.sizeOf84
 v72:=Tryz.zeroValue84
 t75:=Tryz.underlying145
 a75:=Tryz.isAgg145
 z75:=Tryz.sizeOf145
 v75:=Tryz.zeroValue145
 t164:=Tryz.underlying225
 a164:=Tryz.isAgg225
 z164:=Tryz.sizeOf225
 v164:=Tryz.zeroValue225 }
theorem QuoT.wbX : Builder.Extra Tryz.prog QuoT.wb_ren:={
 sizeBuilder:=by kernel_rfl
 liesBuilder:=by kernel_rfl
 t5:=Tryz.underlying5
 a5:=Tryz.isAgg5
 z5:=Tryz.sizeOf5
 v5:=Tryz.zeroValue5
 infoByte:=by kernel_rfl
 cellsByte:=by kernel_rfl
 sizeByte:=by kernel_rfl
 neB5:=by decide }
end Go.Proofs
namespace Go.Sx
open Go Go.Proofs Go.Proofs.YtcehbnfhlcfinaaGreatDoor Go.Shelf Go.RowKit
noncomputable section
theorem Meets.calls0 {f : FuncId} {s : Spec AF} (hm : Meets Tryz.prog regF f s) (g : s.γ) (hp : s.pre g) (ho : s.own g = []) (ho' : ∀ d,s.own' g d = []) (vs : List Value) (ha : s.args g = vs.map .val) (w : World) :
  Calls Tryz.prog f vs.toArray w fun e w'=>∃ d v,s.post g d ∧ e = .returned v ∧ (∀ u,s.res g d = .val u → v = u) ∧ WRel (fun _=>False) w w':=by
 have hb : ∀ b,¬ Blk ((s.own g).map some) (fun _=>none) b:=fun b ⟨_,_,_,_,h⟩=>by cases h
 refine (hm.2 g hp (fun _=>False) (fun _=>none) w vs.toArray (fun _ h=>h.elim) (fun _ h=>h.elim) ⟨by rw [ha]; simp,fun j a v h1 h2=>?_⟩ ⟨fun h ct h1=>by rw [ho] at h1; simp at h1,fun h h' ct ct' b base base' h1 _ h3=>by cases h3⟩).mono ?_
 ·rw [ha,List.getElem?_map] at h1
  have h2 : vs[j]? = some v:=h2
  rw [h2] at h1; cases h1; exact .val _
 ·rintro e w' ⟨d,ρ',v,h1,h2,h3,h4,h5,h6,h7,h8,h9,h10⟩
  refine ⟨d,v,h1,h2,fun u hu=>by rw [hu] at h4; exact val_inv' h4,h10.os,h10.tape,h10.output,h10.size,fun k hk _=>h10.block k hk (hb k),h10.shape⟩
theorem below_of {w w' : World} (h : WRel (fun _=>False) w w') {B : Nat} (hB : B ≤ w.heap.size) : Below B w w':=⟨h.os,h.tape,h.output,h.size,fun k hk=>h.block k (by omega) id⟩
theorem okB_not {c : UInt8} (h : okB c = true) : 45 ≤ c.toNat ∧ c.toNat ≤ 122 ∧ c.toNat ≠ 92:=by
 unfold okB at h
 simp only [Bool.or_eq_true,Bool.and_eq_true,decide_eq_true_eq,beq_iff_eq] at h
 omega
set_option maxRecDepth 100000 in
theorem short_walk (c : UInt8) (hc : okB c = true) (w : World) : Calls Tryz.prog 156 #[.int .i32 (c.toNat : Nat)] w fun e w'=>e = .returned (.int .u8 0) ∧ w' = w:=by
 have hobt:=okB_not hc
 obtain ⟨h1,h2,h3⟩:=hobt
 have a1 : ¬ ((c.toNat : Int) = 34):=by omega
 have a2 : ¬ ((c.toNat : Int) = 92):=by omega
 have a3 : ¬ ((c.toNat : Int) = 8):=by omega
 have a4 : ¬ ((c.toNat : Int) = 12):=by omega
 have a5 : ¬ ((c.toNat : Int) = 10):=by omega
 have a6 : ¬ ((c.toNat : Int) = 13):=by omega
 have a7 : ¬ ((c.toNat : Int) = 9):=by omega
 go_enter Tryz.func156,Tryz.ntmps156
 go_wp2
 go_ret
 exact ⟨rfl,rfl⟩
theorem get_bS (l : List UInt8) (i : Nat) (h : i < l.length) : ((⟨l.toArray⟩ : ByteArray).get! i) = l[i]:=by
 show (l.toArray).getD i default = _
 simp [Array.getD,h]
theorem decode_plain (l : List UInt8) (i : Nat) (h : i < l.length) (hc : (l[i]).toNat < 128) : Utf8.decode ⟨l.toArray⟩ i = ((l[i]).toNat,1):=by
 have e : ((⟨l.toArray⟩ : ByteArray).get! (i + 0)).toNat = (l[i]).toNat:=by rw [Nat.add_zero,get_bS l i h]
 unfold Utf8.decode
 simp only [e]
 rw [if_pos hc]
set_option maxRecDepth 1000000 in
theorem quote_walk (l : List UInt8) (hl : OkA l) (hok : ∀ c ∈ l,okB c = true) (w : World) :
  Calls Tryz.prog 118 #[.string ⟨l.toArray⟩] w fun e w'=>(∃ (s : List UInt8) (c : Bool),e = .returned (.tuple #[.string ⟨s.toArray⟩,.bool c]) ∧ s.length ≤ 4 * l.length + 2) ∧ Below w.heap.size w w':=by
 have hsz0:=size_bS l
 have e152 : ∀ args w,(callFunc 152 args).run Tryz.prog w = .ok (.enter 152 args) w:=enters_of Tryz.func152 (by kernel_rfl) rfl
 have e156 : ∀ args w,(callFunc 156 args).run Tryz.prog w = .ok (.enter 156 args) w:=enters_of Tryz.func156 (by kernel_rfl) rfl
 have e120 : ∀ args w,(callFunc 120 args).run Tryz.prog w = .ok (.enter 120 args) w:=enters_of Tryz.func120 (by kernel_rfl) rfl
 have e157 : ∀ args w,(callFunc 157 args).run Tryz.prog w = .ok (.enter 157 args) w:=enters_of Tryz.func157 (by kernel_rfl) rfl
 have e91 : ∀ args w,(callFunc 91 args).run Tryz.prog w = .ok (.enter 91 args) w:=enters_of Tryz.func91 (by kernel_rfl) rfl
 go_enter Tryz.func118,Tryz.ntmps118
 go_wp2_with (go_at_call 152; refine (m_whole.calls0 l hl rfl (fun _=>rfl) [.string ⟨l.toArray⟩] rfl _).mono ?_)
 rintro e w1 ⟨d,v,_,rfl,hv,hw1⟩
 have hobt:=hv _ rfl
 obtain rfl:=hobt
 have hw1s:=hw1.size
 cases hd : (show Bool from d) with
 | false=>
  have hd : d = false:=hd
  subst hd
  go_wp2
  go_ret2
  exact ⟨⟨[],false,rfl,by simp⟩,below_of hw1 (Nat.le_refl _)⟩
 | true=>
  have hd : d = true:=hd
  subst hd
  have hb1 : Below w.heap.size w w1:=below_of hw1 (Nat.le_refl _)
  go_wp2_with (go_at_call 120; refine (Any.Builder_WriteByte_k QuoT.wb QuoT.wbX w1.heap.size w1.heap.size (Lib.byteCells []) 34 _ (Lib.IsBuilderF.of (Lib.fresh_isBuilder 84 5 w1)) (by simp [Lib.byteCells]) (by simp)).mono ?_)
  rintro e W1 ⟨rfl,h1,b1,k1⟩
  have hW1 : w1.heap.size < W1.heap.size:=by have:=b1.size; simp at this; omega
  go_wp2
  go_loopw [] (fun wr=>∃ (pos : Nat) (acc : List UInt8),Lib.IsBuilderF 84 5 w1.heap.size w1.heap.size (Lib.byteCells acc) wr ∧ wr.heap[W1.heap.size]? = some (.stringIter ⟨l.toArray⟩ pos) ∧ Below w1.heap.size w1 wr ∧ acc.length ≤ 4 * pos + 1 ∧ pos ≤ l.length) (fun wr=>l.length - wr.iterPos W1.heap.size)
  case atStart=>
   refine ⟨0,[34],Lib.IsBuilderF.alloc (Or.inr h1) _,?_,(((Below.refl _ w1).alloc (Nat.le_refl _) _).trans b1).alloc (by omega) _,by simp,Nat.zero_le _⟩
   have:=World.iter_heap W1 ⟨l.toArray⟩ 0
   simpa using this
  case round=>
   obtain ⟨pos,acc,hI,hit,hbw,hal,hpl⟩:=hrel
   have hsz : W1.heap.size < wr.heap.size:=(Array.getElem?_eq_some_iff.1 hit).1
   by_cases hp : pos < l.length
   ·have hobt : ∃ c,l[pos]? = some c:=⟨_,List.getElem?_eq_getElem hp⟩
    obtain ⟨c,hc⟩:=hobt
    have hcm:=List.mem_of_getElem? hc
    have hc2 : l[pos] = c:=by rw [List.getElem?_eq_getElem hp] at hc; exact Option.some.inj hc
    have hdec : Utf8.decode ⟨l.toArray⟩ pos = (c.toNat,1):=by rw [decode_plain l pos hp (by rw [hc2]; exact hl.2 c hcm),hc2]
    have hnx : ∀ ty,(Instr.next (.pointer (some ⟨W1.heap.size,0,none⟩)) true ty).run Tryz.prog wr = _:=fun ty=>Lib.run_next_any_at wr W1.heap.size ⟨l.toArray⟩ pos ty hit (by rw [hsz0]; exact hp)
    simp only [hdec] at hnx
    have hI2:=hI.iterAt hit (pos + 1)
    have hit2:=Lib.iterAt_heap wr W1.heap.size ⟨l.toArray⟩ pos (pos + 1) hit
    have hbw2:=Lib.below_iterAt hbw (k:=W1.heap.size) (by omega) ⟨l.toArray⟩ (pos + 1)
    have hsz2 : w1.heap.size ≤ (wr.iterAt W1.heap.size ⟨l.toArray⟩ (pos + 1)).heap.size:=by rw [Lib.iterAt_size]; omega
    go_wp2_with (go_at_call 156; refine (short_walk c (hok c hcm) _).mono ?_)
    rintro e Wa ⟨rfl,rfl⟩
    have a32 : ¬ ((c.toNat : Int) < 32):=by have:=(okB_not (hok c hcm)).1; omega
    have hc128:=hl.2 c hcm
    have hlen16:=hl.1
    go_wp2_with (go_at_call 157; refine (Any.Builder_WriteRune_k QuoT.wr QuoT.wrX w1.heap.size w1.heap.size _ _ (by omega) (by omega) _ hI2 (by rw [Lib.byteCells_length]; omega) hsz2).mono ?_)
    rintro e W2 ⟨rfl,h2,b2,k2⟩
    go_wp2
    go_roundw
    case rel=>
     have hl4:=Lib.runeCells_le ((c.toNat : Nat) : Int)
     rw [Lib.runeCells_length] at hl4
     refine ⟨pos + 1,acc ++ Lib.encodeRune ((c.toNat : Nat) : Int),?_,k2.iter hit2 (by omega),hbw2.trans b2,by simp; omega,by omega⟩
     rw [Lib.byteCells_append,Lib.byteCells_encodeRune]; exact Or.inr h2
    case measure=>
     simp only [World.iterPos,k2.iter hit2 (by omega),hit]
     omega
   ·have hlen16:=hl.1
    have hnx : ∀ ty,(Instr.next (.pointer (some ⟨W1.heap.size,0,none⟩)) true ty).run Tryz.prog wr = _:=fun ty=>Lib.run_next_end_at wr W1.heap.size ⟨l.toArray⟩ pos ty hit (by rw [hsz0]; exact hp)
    go_wp2_with (go_at_call 120; refine (Any.Builder_WriteByte_k QuoT.wb QuoT.wbX w1.heap.size w1.heap.size _ 34 _ hI (by rw [Lib.byteCells_length]; omega) (by omega)).mono ?_)
    rintro e W2 ⟨rfl,h2,b2,k2⟩
    have h2' : Lib.IsBuilderF 84 5 w1.heap.size w1.heap.size (Lib.byteCells (acc ++ [34])) W2:=by rw [Lib.byteCells_append]; exact Or.inr h2
    have hs2:=b2.size
    go_wp2_with (go_at_call 91; refine (Any.Builder_String_any_k QuoT.st QuoT.stX w1.heap.size w1.heap.size (acc ++ [34]) _ h2' (by omega)).mono ?_)
    rintro e W3 ⟨rfl,_,b3,_⟩
    go_wp2
    go_ret2
    have hb3:=hbw.trans (b2.trans b3)
    exact ⟨⟨acc ++ [34],true,rfl,by simp; omega⟩,hb1.trans ⟨hb3.os,hb3.tape,hb3.output,hb3.size,fun k hk=>hb3.block k (by omega)⟩⟩
theorem wrel_of {w w' : World} (h : Below w.heap.size w w') (E0 : Nat → Prop) : WRel E0 w w':=
 ⟨h.os,h.tape,h.output,h.size,fun k hk _=>h.block k hk,fun b c E fz hb=>⟨c,fz,by rw [h.block b (lt_of_heap hb)]; exact hb,rfl⟩⟩
theorem meets0_of {f : FuncId} {s : Spec AF} (hE : Enters Tryz.prog f) (ho : ∀ g,s.own g = []) (hn : s.nnew = 0) (ho' : ∀ g d,s.own' g d = []) (vs : s.γ → List Value) (ha : ∀ g,s.args g = (vs g).map .val) (u : s.γ → s.δ → Value)
  (hu : ∀ g d (R : Reg AF) ρ O w,Den R ρ O w (s.res g d) (u g d)) (hm : ∀ g d f,men f (s.res g d) = true)
  (h : ∀ g,s.pre g → ∀ w,Calls Tryz.prog f (vs g).toArray w fun e w'=>(∃ d,s.post g d ∧ e = .returned (u g d)) ∧ Below w.heap.size w w') : Meets Tryz.prog regF f s:=by
 refine ⟨hE,fun g hg X ρ w vs0 hX1 hX2 hargs hown=>?_⟩
 obtain rfl : vs0 = (vs g).toArray:=by
  obtain ⟨h1,h2⟩:=hargs
  rw [ha] at h1 h2
  have h1' : vs0.toList.length = (vs g).length:=by have:=h1; simp at this; simp [this]
  apply Array.ext'
  show vs0.toList = vs g
  apply List.ext_getElem?
  intro j
  cases e1 : vs0.toList[j]? with
  | none=>rw [List.getElem?_eq_none_iff] at e1; exact (List.getElem?_eq_none (by omega)).symm
  | some v=>
   have hj:=(List.getElem?_eq_some_iff.1 e1).1
   have hj2 : j < (vs g).length:=by omega
   rw [List.getElem?_eq_getElem hj2]
   exact congrArg some (val_inv' (h2 j (.val (vs g)[j]) v (by simp [hj2]) e1))
 refine (h g hg w).mono ?_
 rintro e w' ⟨⟨d,h1,rfl⟩,hb⟩
 exact ⟨d,ρ,_,h1,rfl,fun _ _=>rfl,hu g d _ _ _ _,⟨fun h ct hh=>by rw [ho'] at hh; simp at hh,fun h h' ct ct' b base base' hh=>by rw [ho'] at hh; simp at hh⟩,fun b ⟨h,ct,base,hh,_⟩=>by rw [ho'] at hh; simp at hh,
  by rw [ho',ho,hn]; rfl,hm g d _,fun h ct hh=>by rw [ho'] at hh; simp at hh,wrel_of hb _⟩
def OkW (l : List UInt8) : Prop:=OkA l ∧ ∀ c ∈ l,okB c = true
def spQuote : Spec AF where
 γ:=List UInt8
 δ:=List UInt8 × Bool
 args:=fun l=>[vS l]
 pre:=OkW
 res:=fun _ d=>.tup [vS d.1,vB d.2]
 post:=fun l d=>d.1.length ≤ 4 * l.length + 2
theorem m_quote : Meets Tryz.prog regF 118 spQuote:=by
 refine meets0_of ⟨_,Tryz.func118,by kernel_rfl,by kernel_rfl⟩ (fun _=>rfl) rfl (fun _ _=>rfl) (fun l=>[.string ⟨(show List UInt8 from l).toArray⟩]) (fun _=>rfl) (fun _ d=>.tuple #[.string ⟨d.1.toArray⟩,.bool d.2]) (fun _ d R ρ O w=>?_) (fun _ _ _=>rfl) ?_
 ·refine .tup _ _ rfl fun j s v hs hv=>?_
  match j,hs,hv with
  | 0,hs,hv=>cases hs; cases hv; exact .val _
  | 1,hs,hv=>cases hs; cases hv; exact .val _
 ·rintro (l : List UInt8) ⟨hl,hok⟩ w
  refine (quote_walk l hl hok w).mono ?_
  rintro e w' ⟨⟨s,c,rfl,hs⟩,hb⟩
  exact ⟨⟨(s,c),hs,rfl⟩,hb⟩
end
end Go.Sx
namespace Go.Proofs
open Go.Shelf
def NumT.it_ren : Go.Shelf.Ren:=⟨fun | 171=>158 | 243=>197 | 246=>234 | 283=>260 | 284=>261 | 285=>262 | 286=>263 | 129=>171 | 317=>285 | 318=>286 | 319=>287 | 320=>288 | 337=>304 | 338=>305 | n=>n,fun | 3=>3 | 9=>9 | 2=>2 | 4=>4 | 171=>392 | 0=>0 | 53=>294 | 37=>82 | 5=>5 | 173=>394 | 212=>416 | 51=>97 | 20=>20 | 213=>417 | 46=>206 | 232=>429 | 233=>430 | n=>n,fun | 17=>3 | 18=>4 | 19=>5 | n=>n⟩
theorem NumT.it : Go.Proofs.Lays.n171 Tryz.prog NumT.it_ren:={
 mixed:=by kernel_rfl
 f129:=Tryz.func171.trans (congrArg some (by kernel_rfl))
 f171:=Tryz.func158.trans (congrArg some (by kernel_rfl))
 f243:=Tryz.func197.trans (congrArg some (by kernel_rfl))
 f246:=Tryz.func234.trans (congrArg some (by kernel_rfl))
 f283:=Tryz.func260.trans (congrArg some (by kernel_rfl))
 f284:=Tryz.func261.trans (congrArg some (by kernel_rfl))
 f285:=Tryz.func262.trans (congrArg some (by kernel_rfl))
 f286:=Tryz.func263.trans (congrArg some (by kernel_rfl))
 f317:=Tryz.func285.trans (congrArg some (by kernel_rfl))
 f318:=Tryz.func286.trans (congrArg some (by kernel_rfl))
 f319:=Tryz.func287.trans (congrArg some (by kernel_rfl))
 f320:=Tryz.func288.trans (congrArg some (by kernel_rfl))
 f337:=Tryz.func304.trans (congrArg some (by kernel_rfl))
 f338:=Tryz.func305.trans (congrArg some (by kernel_rfl))
 t0:=Tryz.underlying0
 a0:=Tryz.isAgg0
 z0:=Tryz.sizeOf0
 v0:=Tryz.zeroValue0
 t2:=Tryz.underlying2
 a2:=Tryz.isAgg2
 z2:=Tryz.sizeOf2
 v2:=Tryz.zeroValue2
 t3:=Tryz.underlying3
 a3:=Tryz.isAgg3
 z3:=Tryz.sizeOf3
 v3:=Tryz.zeroValue3
 t4:=Tryz.underlying4
 a4:=Tryz.isAgg4
 z4:=Tryz.sizeOf4
 v4:=Tryz.zeroValue4
 t5:=Tryz.underlying5
 a5:=Tryz.isAgg5
 z5:=Tryz.sizeOf5
 v5:=Tryz.zeroValue5
 t9:=Tryz.underlying9
 a9:=Tryz.isAgg9
 z9:=Tryz.sizeOf9
 v9:=Tryz.zeroValue9
 t20:=Tryz.underlying20
 a20:=Tryz.isAgg20
 z20:=Tryz.sizeOf20
 v20:=Tryz.zeroValue20
 t37:=Tryz.underlying82
 a37:=Tryz.isAgg82
 z37:=Tryz.sizeOf82
 v37:=Tryz.zeroValue82
 t46:=Tryz.underlying206
 a46:=Tryz.isAgg206
 z46:=Tryz.sizeOf206
 v46:=Tryz.zeroValue206
 t51:=Tryz.underlying97
 a51:=Tryz.isAgg97
 z51:=Tryz.sizeOf97
 v51:=Tryz.zeroValue97
 t53:=Tryz.underlying294
 a53:=Tryz.isAgg294
 z53:=Tryz.sizeOf294
 v53:=Tryz.zeroValue294
 t171:=Tryz.underlying392
 a171:=Tryz.isAgg392
 z171:=Tryz.sizeOf392
 v171:=Tryz.zeroValue392
 t173:=Tryz.underlying394
 a173:=Tryz.isAgg394
 z173:=Tryz.sizeOf394
 v173:=Tryz.zeroValue394
 t212:=Tryz.underlying416
 a212:=Tryz.isAgg416
 z212:=Tryz.sizeOf416
 v212:=Tryz.zeroValue416
 t213:=Tryz.underlying417
 a213:=Tryz.isAgg417
 z213:=Tryz.sizeOf417
 t232:=Tryz.underlying429
 a232:=Tryz.isAgg429
 z232:=Tryz.sizeOf429
 v232:=Tryz.zeroValue429
 t233:=Tryz.underlying430
 a233:=Tryz.isAgg430
 z233:=Tryz.sizeOf430
 v233:=Tryz.zeroValue430
 g17:=by kernel_rfl
 g18:=by kernel_rfl
 g19:=by kernel_rfl }
end Go.Proofs
namespace Go.Sx
noncomputable section
open Go Go.Proofs Go.Proofs.YtcehbnfhlcfinaaGreatDoor Go.Shelf Go.RowKit
theorem below_refl (w : World) : Below w.heap.size w w:=⟨rfl,rfl,rfl,Nat.le_refl _,fun _ _=>rfl⟩
abbrev dgL (n : Int) : List UInt8:=[UInt8.ofNat (48 + n.toNat)]
def spItoa : Spec AF where
 γ:=Int
 args:=fun n=>[vI n]
 pre:=fun n=>0 ≤ n ∧ n ≤ 9
 res:=fun n _=>vS (dgL n)
theorem m_itoa : Meets Tryz.prog regF 158 spItoa:=by
 refine meets0_of ⟨_,Tryz.func158,by kernel_rfl,by kernel_rfl⟩ (fun _=>rfl) rfl (fun _ _=>rfl) (fun n=>[.int .i64 n]) (fun _=>rfl) (fun n _=>.string ⟨(dgL n).toArray⟩) (fun _ d R ρ O w=>.val _) (fun _ _ _=>rfl) ?_
 rintro (n : Int) ⟨(h0 : 0 ≤ n),(h1 : n ≤ 9)⟩ w
 have hobt:=Int.eq_ofNat_of_zero_le h0
 obtain ⟨i,rfl⟩:=hobt
 refine (Any.strconv_Itoa_small NumT.it i (by omega) w).mono ?_
 rintro e w' ⟨rfl,rfl⟩
 refine ⟨⟨(),trivial,?_⟩,below_refl _⟩
 rw [Lib.decDigits_one (by omega)]
 rfl
def spRep0 : Spec AF where
 γ:=List UInt8
 args:=fun l=>[vS l,vI 0]
 res:=fun _ _=>vS []
theorem m_rep0 : Meets Tryz.prog regF 159 spRep0:=by
 refine meets Tryz.func159 125 noWr ?_
 rintro (l : List UInt8) _
 conv=>whnf
 repeat' ((first | (refine (?_ : TG _ _); first | refine tY ?_ | refine tN ?_ | refine dY ?_ | refine dN ?_ | (refine tell ?_ ?_ <;> intro hQ <;> try dsimp only at hQ)) | refine aS ?_ | refine ai ?_ | fail) <;> conv=>whnf)
 exact ⟨(),[],trivial,a3⟩
def spWithin : Spec AF where
 γ:=Int × Int × Int
 args:=fun g=>[vI g.1,vI g.2.1,vI g.2.2]
 pre:=fun g=>g.1 ≤ g.2.1 ∧ g.2.1 ≤ g.2.2
 res:=fun _ _=>vB true
theorem m_within : Meets Tryz.prog regF 115 spWithin:=by
 refine meets Tryz.func115 15 noWr ?_
 rintro ⟨a,b,c⟩ ⟨(h1 : a ≤ b),(h2 : b ≤ c)⟩
 conv=>whnf
 repeat' ((first | (refine (?_ : TG _ _); first | refine tY ?_ | refine tN ?_ | refine dY ?_ | refine dN ?_ | (refine tell ?_ ?_ <;> intro hQ <;> try dsimp only at hQ)) | refine aS ?_ | refine ai ?_ | fail) <;> conv=>whnf)
 exact ⟨(),[],trivial,a3⟩
def spDMake : Spec AF where
 γ:=Int
 args:=fun n=>[vI n,vI 0]
 pre:=fun n=>0 ≤ n ∧ n ≤ 9
 res:=fun n _=>.tup [.agg [vI n,vI 0],vB true]
theorem m_dmake : Meets Tryz.prog regF 86 spDMake:=by
 refine meets Tryz.func86 30 noWr ?_
 rintro (n : Int) ⟨(h0 : 0 ≤ n),(h1 : n ≤ 9)⟩
 by_cases hz : n = 0
 ·subst hz
  conv=>whnf
  repeat' ((first | (refine (?_ : TG _ _); first | refine tY ?_ | refine tN ?_ | refine dY ?_ | refine dN ?_ | (refine tell ?_ ?_ <;> intro hQ <;> try dsimp only at hQ)) | refine aS ?_ | refine ai ?_ | fail) <;> conv=>whnf)
  exact ⟨(),[],trivial,a3⟩
 ·conv=>whnf
  repeat' ((first | (refine (?_ : TG _ _); first | refine tY ?_ | refine tN ?_ | refine dY ?_ | refine dN ?_ | (refine tell ?_ ?_ <;> intro hQ <;> try dsimp only at hQ)) | refine aS ?_ | refine ai ?_ | fail) <;> conv=>whnf)
  have hm : n.tmod 10 = n:=Int.tmod_eq_of_lt h0 (by omega)
  refine ⟨Unit,fun _=>⟨[(0,vI n),(1,vI 0),(4,.ptr 1004 0 2 0)],[(1004,.cells [vI 0,vI 0])]⟩,fun _=>True,fun _=>0,fun _ _=>rfl,⟨(),[],trivial,en⟩,?_⟩
  rintro _ _
  conv=>whnf
  repeat' ((first | (refine (?_ : TG _ _); first | refine tY ?_ | refine tN ?_ | refine dY ?_ | refine dN ?_ | (refine tell ?_ ?_ <;> intro hQ <;> try dsimp only at hQ)) | refine aS ?_ | refine ai ?_ | fail) <;> conv=>whnf)
  refine ⟨_,m_within,(-1000000000000000,n,1000000000000000),[],false,?_⟩
  conv=>whnf
  refine vcA (show (-1000000000000000 : Int) ≤ n ∧ n ≤ 1000000000000000 from ⟨by omega,by omega⟩) ?_
  refine uU ?_
  conv=>whnf
  conv=>whnf
  repeat' ((first | (refine (?_ : TG _ _); first | refine tY ?_ | refine tN ?_ | refine dY ?_ | refine dN ?_ | (refine tell ?_ ?_ <;> intro hQ <;> try dsimp only at hQ)) | refine aS ?_ | refine ai ?_ | fail) <;> conv=>whnf)
  refine ⟨_,m_within,(-9,0,9),[],false,?_⟩
  conv=>whnf
  refine vcA ⟨by decide,by decide⟩ ?_
  refine uU ?_
  conv=>whnf
  conv=>whnf
  repeat' ((first | (refine (?_ : TG _ _); first | refine tY ?_ | refine tN ?_ | refine dY ?_ | refine dN ?_ | (refine tell ?_ ?_ <;> intro hQ <;> try dsimp only at hQ)) | refine aS ?_ | refine ai ?_ | fail) <;> conv=>whnf)
  exact ⟨(),[],trivial,a3⟩
def spDRight : Spec AF where
 γ:=Int
 args:=fun n=>[.agg [vI n,vI 0]]
 pre:=fun n=>0 ≤ n ∧ n ≤ 9
 res:=fun n _=>vB true
theorem m_dright : Meets Tryz.prog regF 151 spDRight:=by
 refine meets Tryz.func151 23 noWr ?_
 rintro (n : Int) ⟨(h0 : 0 ≤ n),(h1 : n ≤ 9)⟩
 by_cases hz : n = 0
 ·subst hz
  conv=>whnf
  repeat' ((first | (refine (?_ : TG _ _); first | refine tY ?_ | refine tN ?_ | refine dY ?_ | refine dN ?_ | (refine tell ?_ ?_ <;> intro hQ <;> try dsimp only at hQ)) | refine aS ?_ | refine ai ?_ | fail) <;> conv=>whnf)
  exact ⟨(),[],trivial,a3⟩
 ·have hm : n.tmod 10 = n:=Int.tmod_eq_of_lt h0 (by omega)
  conv=>whnf
  repeat' ((first | (refine (?_ : TG _ _); first | refine tY ?_ | refine tN ?_ | refine dY ?_ | refine dN ?_ | (refine tell ?_ ?_ <;> intro hQ <;> try dsimp only at hQ)) | refine aS ?_ | refine ai ?_ | fail) <;> conv=>whnf)
  refine ⟨_,m_within,(-1000000000000000,n,1000000000000000),[],false,?_⟩
  conv=>whnf
  refine vcA (show (-1000000000000000 : Int) ≤ n ∧ n ≤ 1000000000000000 from ⟨by omega,by omega⟩) ?_
  refine uU ?_
  conv=>whnf
  conv=>whnf
  repeat' ((first | (refine (?_ : TG _ _); first | refine tY ?_ | refine tN ?_ | refine dY ?_ | refine dN ?_ | (refine tell ?_ ?_ <;> intro hQ <;> try dsimp only at hQ)) | refine aS ?_ | refine ai ?_ | fail) <;> conv=>whnf)
  refine ⟨_,m_within,(-9,0,9),[],false,?_⟩
  conv=>whnf
  refine vcA ⟨by decide,by decide⟩ ?_
  refine uU ?_
  conv=>whnf
  conv=>whnf
  repeat' ((first | (refine (?_ : TG _ _); first | refine tY ?_ | refine tN ?_ | refine dY ?_ | refine dN ?_ | (refine tell ?_ ?_ <;> intro hQ <;> try dsimp only at hQ)) | refine aS ?_ | refine ai ?_ | fail) <;> conv=>whnf)
  exact ⟨(),[],trivial,a3⟩
def spDPrint : Spec AF where
 γ:=Int
 args:=fun n=>[.agg [vI n,vI 0]]
 pre:=fun n=>0 ≤ n ∧ n ≤ 9
 res:=fun n _=>vS (dgL n)
theorem m_dprint : Meets Tryz.prog regF 119 spDPrint:=by
 refine meets Tryz.func119 55 noWr ?_
 rintro (n : Int) ⟨(h0 : 0 ≤ n),(h1 : n ≤ 9)⟩
 have hs : (⟨(dgL n).toArray⟩ : ByteArray).size + (⟨#[]⟩ : ByteArray).size ≤ 9223372036854775807:=by show 1 + 0 ≤ _; decide
 have e1 : (⟨#[UInt8.ofNat (48 + n.toNat)]⟩ : ByteArray) ++ ⟨([] : List UInt8).toArray⟩ = ⟨(dgL n).toArray⟩:=rfl
 conv=>whnf
 repeat' ((first | (refine (?_ : TG _ _); first | refine tY ?_ | refine tN ?_ | refine dY ?_ | refine dN ?_ | (refine tell ?_ ?_ <;> intro hQ <;> try dsimp only at hQ)) | refine aS ?_ | refine ai ?_ | fail) <;> conv=>whnf)
 refine ⟨_,m_dright,n,[],false,?_⟩
 conv=>whnf
 refine vcA ⟨h0,h1⟩ ?_
 refine uU ?_
 conv=>whnf
 conv=>whnf
 repeat' ((first | (refine (?_ : TG _ _); first | refine tY ?_ | refine tN ?_ | refine dY ?_ | refine dN ?_ | (refine tell ?_ ?_ <;> intro hQ <;> try dsimp only at hQ)) | refine aS ?_ | refine ai ?_ | fail) <;> conv=>whnf)
 refine ⟨_,m_itoa,n,[],false,?_⟩
 conv=>whnf
 refine vcA ⟨h0,h1⟩ ?_
 refine uU ?_
 conv=>whnf
 conv=>whnf
 repeat' ((first | (refine (?_ : TG _ _); first | refine tY ?_ | refine tN ?_ | refine dY ?_ | refine dN ?_ | (refine tell ?_ ?_ <;> intro hQ <;> try dsimp only at hQ)) | refine aS ?_ | refine ai ?_ | fail) <;> conv=>whnf)
 refine ⟨_,m_rep0,[48],[],false,?_⟩
 conv=>whnf
 refine vcA trivial ?_
 refine uU ?_
 conv=>whnf
 conv=>whnf
 repeat' ((first | (refine (?_ : TG _ _); first | refine tY ?_ | refine tN ?_ | refine dY ?_ | refine dN ?_ | (refine tell ?_ ?_ <;> intro hQ <;> try dsimp only at hQ)) | refine aS ?_ | refine ai ?_ | fail) <;> conv=>whnf)
 refine ⟨_,m_wsF,⟨(dgL n).toArray⟩,[1003],false,?_⟩
 conv=>whnf
 refine vcA (show 0 < 1 ∧ 1 ≤ 140737488355328 from ⟨by decide,by decide⟩) ?_
 refine And.intro ⟨(0,0,0),trivial⟩ ?_
 rintro ⟨(b : Nat),(gb : Nat),(cap : Nat)⟩ _
 conv=>whnf
 repeat' ((first | (refine (?_ : TG _ _); first | refine tY ?_ | refine tN ?_ | refine dY ?_ | refine dN ?_ | (refine tell ?_ ?_ <;> intro hQ <;> try dsimp only at hQ)) | refine aS ?_ | refine ai ?_ | fail) <;> conv=>whnf)
 refine ⟨_,m_str,((b,gb,cap),dgL n),[1003,1028],false,?_⟩
 conv=>whnf
 refine vcA (show dgL n ≠ [] by simp) ?_
 refine uU ?_
 conv=>whnf
 conv=>whnf
 repeat' ((first | (refine (?_ : TG _ _); first | refine tY ?_ | refine tN ?_ | refine dY ?_ | refine dN ?_ | (refine tell ?_ ?_ <;> intro hQ <;> try dsimp only at hQ)) | refine aS ?_ | refine ai ?_ | fail) <;> conv=>whnf)
 exact ⟨(),[],trivial,a3⟩
end
end Go.Sx
namespace Go.Sx
noncomputable section
open Go Go.Proofs Go.Proofs.YtcehbnfhlcfinaaGreatDoor
open Go.Shelf
abbrev bS (l : List UInt8) : ByteArray:=⟨l.toArray⟩
theorem bS_append (a b : List UInt8) : (⟨a.toArray⟩ : ByteArray) ++ ⟨b.toArray⟩ = ⟨(a ++ b).toArray⟩:=by
 apply ByteArray.ext
 rw [ByteArray.data_append]
 simp
abbrev Txt:=List UInt8
def joinN : List Txt → Txt
 | []=>[]
 | [p]=>p
 | p :: q :: ps=>p ++ 47 :: joinN (q :: ps)
abbrev uagvL : Txt:=[117,97,103,118]
abbrev v2L : Txt:=[118,50]
abbrev headL : Txt:=[117,97,103,118,47,118,50,47]
abbrev kindsL : List Txt:=[[111,114,100,101,114],[105,110,115,116,97,110,116,65,99,116,105,111,110,115],[115,116,97,116,101],[99,111,110,110,101,99,116,105,111,110],[118,105,115,117,97,108,105,122,97,116,105,111,110]]
def kindT (k : Txt) : Bool:=decide (k ∈ kindsL)
abbrev Topic:=Txt × Txt × Txt
def okT (t : Topic) : Bool:=nameF t.1 && nameF t.2.1 && kindT t.2.2
def partsT (t : Topic) : List Txt:=[uagvL,v2L,t.1,t.2.1,t.2.2]
def textT (t : Topic) : Txt:=joinN (partsT t)
def printS (t : Topic) : Txt:=if okT t then textT t else []
def printE (t : Topic) : Int:=if okT t then 0 else 70
theorem nameF_len {m : Txt} (h : nameF m = true) : m.length ≤ 16:=by
 unfold nameF at h
 rw [Bool.and_eq_true,Bool.and_eq_true] at h
 exact of_decide_eq_true h.2.2
theorem kindT_len {k : Txt} (h : kindT k = true) : k.length ≤ 14:=by
 have h:=of_decide_eq_true h
 have : ∀ k ∈ kindsL,k.length ≤ 14:=by decide
 exact this k h
theorem okT_iff {t : Topic} : okT t = true ↔ nameF t.1 = true ∧ nameF t.2.1 = true ∧ kindT t.2.2 = true:=by
 unfold okT
 rw [Bool.and_eq_true,Bool.and_eq_true,and_assoc]
theorem text_eq (m s k : Txt) : textT (m,s,k) = headL ++ (m ++ 47 :: (s ++ 47 :: k)):=rfl
def spIndexS : Spec AF where
 γ:=List Txt × Txt
 δ:=Int
 args:=fun g=>[.lst 9 (g.1.map bS),vS g.2]
 pre:=fun g=>g.1.length ≤ 9223372036854775807
 res:=fun _ r=>vI r
 post:=fun g r=>(0 ≤ r ↔ g.2 ∈ g.1)
theorem indexS_ex (a : List Txt) (k : Txt) : ∃ r : Int,0 ≤ r ↔ k ∈ a:=by
 by_cases h : k ∈ a
 ·exact ⟨0,by simp [h]⟩
 ·exact ⟨-1,by simp [h]⟩
theorem m_indexS : Meets Tryz.prog regF 112 spIndexS:=by
 refine meets Tryz.func112 19 noWr ?_
 rintro ⟨(a : List Txt),(k : Txt)⟩ (hl : a.length ≤ 9223372036854775807)
 have hml : (a.map bS).length = a.length:=List.length_map ..
 conv=>whnf
 repeat' ((first | (refine (?_ : TG _ _); first | refine tY ?_ | refine tN ?_ | refine dY ?_ | refine dN ?_ | (refine tell ?_ ?_ <;> intro hQ <;> try dsimp only at hQ)) | refine aS ?_ | refine ai ?_ | fail) <;> conv=>whnf)
 refine ⟨Nat,fun i=>⟨[(0,.lst 9 (a.map bS)),(1,vS k),(7,vI a.length),(8,vI i)],[]⟩,fun i=>i ≤ a.length ∧ k ∉ a.take i,fun i=>a.length - i,fun _ _=>rfl,⟨0,[],⟨Nat.zero_le _,by simp⟩,en⟩,?_⟩
 rintro (i : Nat) ⟨(hi : i ≤ a.length),(hs : k ∉ a.take i)⟩
 by_cases hlt : i < a.length
 ·have hobt : ∃ x,a[i]? = some x:=⟨_,List.getElem?_eq_getElem hlt⟩
  obtain ⟨x,hx⟩:=hobt
  have hxm : (a.map bS)[i]? = some (bS x):=by rw [List.getElem?_map,hx]; rfl
  have hm:=List.mem_of_getElem? hx
  by_cases hxk : x = k
  ·have t1 : ByteArray.toList ⟨k.toArray⟩ = ByteArray.toList ⟨x.toArray⟩:=bS_inj.2 hxk.symm
   conv=>whnf
   repeat' ((first | (refine (?_ : TG _ _); first | refine tY ?_ | refine tN ?_ | refine dY ?_ | refine dN ?_ | (refine tell ?_ ?_ <;> intro hQ <;> try dsimp only at hQ)) | refine aS ?_ | refine aX hxm ?_ | refine aL hxm ?_ | refine ai ?_ | fail) <;> conv=>whnf)
   exact ⟨(i : Int),[],⟨fun _=>hxk ▸ hm,fun _=>Int.natCast_nonneg i⟩,rfl,trivial,trivial⟩
  ·have hne : ¬ (ByteArray.toList ⟨k.toArray⟩ = ByteArray.toList ⟨x.toArray⟩):=fun e=>hxk (bS_inj.1 e).symm
   conv=>whnf
   repeat' ((first | (refine (?_ : TG _ _); first | refine tY ?_ | refine tN ?_ | refine dY ?_ | refine dN ?_ | (refine tell ?_ ?_ <;> intro hQ <;> try dsimp only at hQ)) | refine aS ?_ | refine aX hxm ?_ | refine aL hxm ?_ | refine ai ?_ | fail) <;> conv=>whnf)
   exact ⟨i + 1,[],⟨hlt,by rw [take_snocI hx]; simp; exact ⟨hs,fun h=>hxk h.symm⟩⟩,rn en⟩
 ·rw [List.take_of_length_le (by omega)] at hs
  conv=>whnf
  repeat' ((first | (refine (?_ : TG _ _); first | refine tY ?_ | refine tN ?_ | refine dY ?_ | refine dN ?_ | (refine tell ?_ ?_ <;> intro hQ <;> try dsimp only at hQ)) | refine aS ?_ | refine ai ?_ | fail) <;> conv=>whnf)
  exact ⟨(-1 : Int),[],⟨fun h=>absurd h (by decide),fun h=>absurd h hs⟩,rfl,trivial,trivial⟩
def spHasS : Spec AF where
 γ:=List Txt × Txt
 δ:=Bool
 args:=fun g=>[.lst 9 (g.1.map bS),vS g.2]
 pre:=fun g=>g.1.length ≤ 9223372036854775807
 res:=fun _ c=>vB c
 post:=fun g c=>(c = true ↔ g.2 ∈ g.1)
theorem m_containsS : Meets Tryz.prog regF 84 spHasS:=by
 refine meets Tryz.func84 9 noWr ?_
 rintro ⟨(a : List Txt),(k : Txt)⟩ (hl : a.length ≤ 9223372036854775807)
 conv=>whnf
 repeat' ((first | (refine (?_ : TG _ _); first | refine tY ?_ | refine tN ?_ | refine dY ?_ | refine dN ?_ | (refine tell ?_ ?_ <;> intro hQ <;> try dsimp only at hQ)) | refine aS ?_ | refine ai ?_ | fail) <;> conv=>whnf)
 refine ⟨_,m_indexS,(a,k),[],false,?_⟩
 conv=>whnf
 refine vcA hl ?_
 refine And.intro (indexS_ex a k) ?_
 intro (r : Int) (hr : 0 ≤ r ↔ k ∈ a)
 conv=>whnf
 repeat' ((first | (refine (?_ : TG _ _); first | refine tY ?_ | refine tN ?_ | refine dY ?_ | refine dN ?_ | (refine tell ?_ ?_ <;> intro hQ <;> try dsimp only at hQ)) | refine aS ?_ | refine ai ?_ | fail) <;> conv=>whnf)
 ·exact ⟨true,[],⟨fun _=>hr.1 (by assumption),fun _=>rfl⟩,rfl,trivial,trivial⟩
 ·exact ⟨false,[],⟨fun h=>(by cases h),fun h=>absurd (hr.2 h) (by omega)⟩,rfl,trivial,trivial⟩
theorem hasS_ex (a : List Txt) (k : Txt) : ∃ c : Bool,c = true ↔ k ∈ a:=by
 by_cases h : k ∈ a
 ·exact ⟨true,by simp [h]⟩
 ·exact ⟨false,by simp [h]⟩
def spKindS : Spec AF where
 γ:=Txt
 args:=fun k=>[vS k]
 res:=fun k _=>vB (kindT k)
theorem m_kindS : Meets Tryz.prog regF 59 spKindS:=by
 refine meets Tryz.func59 6 noWr ?_
 rintro (k : Txt) _
 conv=>whnf
 repeat' ((first | (refine (?_ : TG _ _); first | refine tY ?_ | refine tN ?_ | refine dY ?_ | refine dN ?_ | (refine tell ?_ ?_ <;> intro hQ <;> try dsimp only at hQ)) | refine aS ?_ | refine ai ?_ | fail) <;> conv=>whnf)
 refine ⟨_,m_containsS,(kindsL,k),[],false,?_⟩
 conv=>whnf
 refine vcA (by show (5 : Nat) ≤ _; decide) ?_
 refine And.intro (hasS_ex kindsL k) ?_
 intro (c : Bool) (hc : c = true ↔ k ∈ kindsL)
 have hk : c = kindT k:=by
  unfold kindT
  rw [Bool.eq_iff_iff,hc]; simp
 subst hk
 conv=>whnf
 repeat' ((first | (refine (?_ : TG _ _); first | refine tY ?_ | refine tN ?_ | refine dY ?_ | refine dN ?_ | (refine tell ?_ ?_ <;> intro hQ <;> try dsimp only at hQ)) | refine aS ?_ | refine ai ?_ | fail) <;> conv=>whnf)
 exact ⟨(),[],trivial,rfl,trivial,trivial⟩
def topS (t : Topic) : SV AF:=.agg [vS t.1,vS t.2.1,vS t.2.2]
theorem eVSA {R : Reg AF} {st : St AF} {a b : List UInt8} (h : a = b) : EntA R st (vS a) (vS b):=congrArg vS h
theorem eIA {R : Reg AF} {st : St AF} {a b : Int} (h : a = b) : EntA R st (vI a) (vI b):=congrArg vI h
def spPrint : Spec AF where
 γ:=Topic
 args:=fun t=>[topS t]
 res:=fun t _=>.tup [vS (printS t),vI (printE t)]
theorem joinL_three (a b c : Txt) : joinL (bS [47]) [bS a,bS b,bS c] = a ++ 47 :: (b ++ 47 :: c):=by
 simp [joinL,restL]
set_option maxRecDepth 100000 in
theorem m_print : Meets Tryz.prog regF 27 spPrint:=by
 refine meets Tryz.func27 29 noWr ?_
 rintro ⟨(m : Txt),(s : Txt),(k : Txt)⟩ _
 have bad : okT (m,s,k) = false → printS (m,s,k) = [] ∧ printE (m,s,k) = 70:=fun h=>by unfold printS printE; rw [h]; exact ⟨rfl,rfl⟩
 conv=>whnf
 repeat' ((first | (refine (?_ : TG _ _); first | refine tY ?_ | refine tN ?_ | refine dY ?_ | refine dN ?_ | (refine tell ?_ ?_ <;> intro hQ <;> try dsimp only at hQ)) | refine aS ?_ | refine ai ?_ | fail) <;> conv=>whnf)
 refine ⟨_,m_name,m,[],false,?_⟩
 conv=>whnf
 refine vcA trivial ?_
 refine uU ?_
 conv=>whnf
 cases h1 : nameF m
 ·have hobt:=bad (by unfold okT; simp [h1])
  obtain ⟨e1,e2⟩:=hobt
  conv=>whnf
  repeat' ((first | (refine (?_ : TG _ _); first | refine tY ?_ | refine tN ?_ | refine dY ?_ | refine dN ?_ | (refine tell ?_ ?_ <;> intro hQ <;> try dsimp only at hQ)) | refine aS ?_ | refine ai ?_ | fail) <;> conv=>whnf)
  exact ⟨(),[],trivial,⟨eVSA e1.symm,eIA e2.symm,trivial⟩,trivial,trivial⟩
 conv=>whnf
 repeat' ((first | (refine (?_ : TG _ _); first | refine tY ?_ | refine tN ?_ | refine dY ?_ | refine dN ?_ | (refine tell ?_ ?_ <;> intro hQ <;> try dsimp only at hQ)) | refine aS ?_ | refine ai ?_ | fail) <;> conv=>whnf)
 refine ⟨_,m_name,s,[],false,?_⟩
 conv=>whnf
 refine vcA trivial ?_
 refine uU ?_
 conv=>whnf
 cases h2 : nameF s
 ·have hobt:=bad (by unfold okT; simp [h2])
  obtain ⟨e1,e2⟩:=hobt
  conv=>whnf
  repeat' ((first | (refine (?_ : TG _ _); first | refine tY ?_ | refine tN ?_ | refine dY ?_ | refine dN ?_ | (refine tell ?_ ?_ <;> intro hQ <;> try dsimp only at hQ)) | refine aS ?_ | refine ai ?_ | fail) <;> conv=>whnf)
  exact ⟨(),[],trivial,⟨eVSA e1.symm,eIA e2.symm,trivial⟩,trivial,trivial⟩
 conv=>whnf
 repeat' ((first | (refine (?_ : TG _ _); first | refine tY ?_ | refine tN ?_ | refine dY ?_ | refine dN ?_ | (refine tell ?_ ?_ <;> intro hQ <;> try dsimp only at hQ)) | refine aS ?_ | refine ai ?_ | fail) <;> conv=>whnf)
 refine ⟨_,m_kindS,k,[],false,?_⟩
 conv=>whnf
 refine vcA trivial ?_
 refine uU ?_
 conv=>whnf
 cases h3 : kindT k
 ·have hobt:=bad (by unfold okT; simp [h3])
  obtain ⟨e1,e2⟩:=hobt
  conv=>whnf
  repeat' ((first | (refine (?_ : TG _ _); first | refine tY ?_ | refine tN ?_ | refine dY ?_ | refine dN ?_ | (refine tell ?_ ?_ <;> intro hQ <;> try dsimp only at hQ)) | refine aS ?_ | refine ai ?_ | fail) <;> conv=>whnf)
  exact ⟨(),[],trivial,⟨eVSA e1.symm,eIA e2.symm,trivial⟩,trivial,trivial⟩
 have hok : okT (m,s,k) = true:=okT_iff.2 ⟨h1,h2,h3⟩
 have z1:=size_bS m
 have z2:=size_bS s
 have z3:=size_bS k
 have l1:=nameF_len h1
 have l2:=nameF_len h2
 have l3:=kindT_len h3
 have hpre : spJoin.pre ([bS m,bS s,bS k],bS [47]):=by
  refine ⟨⟨by show 2 ≤ 3; decide,by show 3 ≤ 1000; decide⟩,⟨by show 0 < 1; decide,by show 1 ≤ 100; decide⟩,fun x hx=>?_⟩
  have hx : x ∈ [bS m,bS s,bS k]:=hx
  simp only [List.mem_cons,List.not_mem_nil,or_false] at hx
  rcases hx with rfl | rfl | rfl
  ·show (⟨m.toArray⟩ : ByteArray).size ≤ _; omega
  ·show (⟨s.toArray⟩ : ByteArray).size ≤ _; omega
  ·show (⟨k.toArray⟩ : ByteArray).size ≤ _; omega
 conv=>whnf
 repeat' ((first | (refine (?_ : TG _ _); first | refine tY ?_ | refine tN ?_ | refine dY ?_ | refine dN ?_ | (refine tell ?_ ?_ <;> intro hQ <;> try dsimp only at hQ)) | refine aS ?_ | refine ai ?_ | fail) <;> conv=>whnf)
 refine ⟨_,m_join,([bS m,bS s,bS k],bS [47]),[],false,?_⟩
 conv=>whnf
 refine vcA hpre ?_
 refine uU ?_
 conv=>whnf
 have hj : (⟨(joinL (bS [47]) [bS m,bS s,bS k]).toArray⟩ : ByteArray) = ⟨(m ++ 47 :: (s ++ 47 :: k)).toArray⟩:=by rw [joinL_three]
 have hjs : (⟨#[117,97,103,118,47,118,50,47]⟩ : ByteArray).size + (⟨(joinL (bS [47]) [bS m,bS s,bS k]).toArray⟩ : ByteArray).size ≤ 9223372036854775807:=by
  rw [hj]
  have:=size_bS (m ++ 47 :: (s ++ 47 :: k))
  simp only [List.length_append,List.length_cons] at this
  show 8 + (⟨(m ++ 47 :: (s ++ 47 :: k)).toArray⟩ : ByteArray).size ≤ _
  omega
 have he : (⟨#[117,97,103,118,47,118,50,47]⟩ : ByteArray) ++ (⟨(joinL (bS [47]) [bS m,bS s,bS k]).toArray⟩ : ByteArray) = ⟨(printS (m,s,k)).toArray⟩:=by
  unfold printS
  rw [hok,if_pos rfl,hj,text_eq]
  exact bS_append headL _
 have e2 : printE (m,s,k) = 0:=by unfold printE; rw [hok]; rfl
 conv=>whnf
 repeat' ((first | (refine (?_ : TG _ _); first | refine tY ?_ | refine tN ?_ | refine dY ?_ | refine dN ?_ | (refine tell ?_ ?_ <;> intro hQ <;> try dsimp only at hQ)) | refine aS ?_ | refine ai ?_ | fail) <;> conv=>whnf)
 exact ⟨(),[],trivial,⟨congrArg (fun y=>SV.val (A:=AF) (.string y)) he,eIA e2.symm,trivial⟩,trivial,trivial⟩
end
end Go.Sx
