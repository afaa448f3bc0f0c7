/- Own texts of the proof, merged: MNo MSp MNe MVn MNw MNo2 MMs6 MAw MYa MRn MRm MBe MMf MasR. -/
import Derived.Test.YtcehbnfhlcfinaaGreatDoorZE
import Derived.Test.YtcehbnfhlcfinaaGreatDoorZF
import Derived.Test.YtcehbnfhlcfinaaGreatDoorZG
set_option linter.unusedVariables false
set_option linter.unusedSimpArgs false
set_option maxHeartbeats 8000000
namespace Go.Sx
noncomputable section
open Go Go.Proofs Go.Proofs.YtcehbnfhlcfinaaGreatDoor
open Go.Shelf
abbrev sC (bs l l2 : Txt) : MS:={ (GP.f (g1 (bs ++ l)) ordA) with bs:=(bs ++ l) ++ l2 }
def sAB (bs : Txt) : Nat → Txt → MS
 | 0,_=>sA bs
 | _ + 1,l=>sB bs l
def sBC (bs l : Txt) : Nat → Txt → MS
 | 0,_=>sB bs l
 | _ + 1,l2=>sC bs l l2
def spNotes : Spec AF where
 γ:=Txt
 δ:=Txt × Txt
 args:=fun _=>[.ptr 0 0 2 0]
 own:=fun bs=>msB (sA bs)
 pre:=fun bs=>bs.length ≤ 10000000
 nnew:=2
 res:=fun _ _=>.tup []
 own':=fun bs l=>msN (sC bs l.1 l.2)
 post:=fun _ l=>l.1.length ≤ 100000 ∧ l.2.length ≤ 100000
theorem m_notes : Meets Tryz.prog regF 25 spNotes:=by
 refine meets Tryz.func25 83 noWr ?_
 rintro (bs : List UInt8) (hb : bs.length ≤ 10000000)
 have hx : (sA bs).ps[0]? = some (mkP c0 ⟨#[]⟩ (-1) 0):=rfl
 have hj : (sA bs).js[0]? = some (1,2,1,-1):=rfl
 have hjl : (sA bs).js.length = 1:=rfl
 conv=>whnf
 repeat' ((first | (refine (?_ : TG _ _); first | refine tY ?_ | refine tN ?_ | refine dY ?_ | refine dN ?_ | (refine tell ?_ ?_ <;> intro hQ <;> try dsimp only at hQ)) | refine aS ?_ | refine ai ?_ | fail) <;> conv=>whnf)
 refine ⟨Nat,fun j=>⟨[(0,.ptr 0 0 2 0),(14,vI 1),(15,vI j)],msH 7 8 (sA bs)⟩,fun j=>j ≤ 1,fun j=>1 - j,fun _ _=>rfl,⟨0,[],Nat.zero_le _,en⟩,?_⟩
 rintro (j : Nat) (hj1 : j ≤ 1)
 by_cases hlt : j < 1
 ·have hobt : j = 0:=by omega
  obtain rfl:=hobt
  conv=>whnf
  repeat' ((first | (refine (?_ : TG _ _); first | refine tY ?_ | refine tN ?_ | refine dY ?_ | refine dN ?_ | (refine tell ?_ ?_ <;> intro hQ <;> try dsimp only at hQ)) | refine aS ?_ | refine aX hx ?_ | refine aL hx ?_ | refine ai ?_ | fail) <;> conv=>whnf)
  exact ⟨1,[],Nat.le_refl 1,rn en⟩
 have hobt : j = 1:=by omega
 obtain rfl:=hobt
 conv=>whnf
 repeat' ((first | (refine (?_ : TG _ _); first | refine tY ?_ | refine tN ?_ | refine dY ?_ | refine dN ?_ | (refine tell ?_ ?_ <;> intro hQ <;> try dsimp only at hQ)) | refine aS ?_ | refine ai ?_ | fail) <;> conv=>whnf)
 refine ⟨_,m_clSJ,(sA bs).js,[4],false,?_⟩
 conv=>whnf
 refine vcA ⟨by show 0 < 1; decide,by show 1 ≤ 1000000000; decide⟩ ?_
 refine uU ?_
 conv=>whnf
 conv=>whnf
 repeat' ((first | (refine (?_ : TG _ _); first | refine tY ?_ | refine tN ?_ | refine dY ?_ | refine dN ?_ | (refine tell ?_ ?_ <;> intro hQ <;> try dsimp only at hQ)) | refine aS ?_ | refine ai ?_ | fail) <;> conv=>whnf)
 refine ⟨Nat × Txt,fun p=>⟨[(0,.ptr 0 0 2 0),(54,.lst 63 (sA bs).js),(55,vI 1),(56,vI p.1)],msH 3007 3008 (sAB bs p.1 p.2)⟩,fun p=>p.1 ≤ 1 ∧ p.2.length ≤ 100000,fun p=>1 - p.1,fun p _=>by rcases p with ⟨_ | _,_⟩ <;> rfl,⟨(0,[]),[(3007,7),(3008,8)],⟨Nat.zero_le _,Nat.zero_le _⟩,?_⟩,?_⟩
 ·refine ⟨rfl,?_,?_,rfl⟩
  all_goals (repeat' (first | exact trivial | exact rfl | refine And.intro ?_ ?_ | (refine congrArg vI ?_; first | omega | (dsimp only; omega) | fail) | (refine congrArg some ?_) | omega | exact Nat.le_refl _ | exact congrArg (SV.lst _) (List.take_of_length_le (Nat.le_refl _)).symm))
 rintro ⟨(j : Nat),(l : Txt)⟩ ⟨(hj1 : j ≤ 1),(hl : l.length ≤ 100000)⟩
 by_cases hlt : j < 1
 ·have hobt : j = 0:=by omega
  obtain rfl:=hobt
  conv=>whnf
  repeat' ((first | (refine (?_ : TG _ _); first | refine tY ?_ | refine tN ?_ | refine dY ?_ | refine dN ?_ | (refine tell ?_ ?_ <;> intro hQ <;> try dsimp only at hQ)) | refine aS ?_ | refine aX hj ?_ | refine aL hj ?_ | refine ai ?_ | fail) <;> conv=>whnf)
  refine ⟨_,m_send,bs,[0,1,2,3,4,5,6,3007,3008],false,?_⟩
  conv=>whnf
  refine vcA hb ?_
  conv=>whnf
  refine aV [] (by show 0 ≤ 100000; decide) fun (l' : Txt) (hl' : l'.length ≤ 100000)=>?_
  conv=>whnf
  repeat' ((first | (refine (?_ : TG _ _); first | refine tY ?_ | refine tN ?_ | refine dY ?_ | refine dN ?_ | (refine tell ?_ ?_ <;> intro hQ <;> try dsimp only at hQ)) | refine aS ?_ | refine ai ?_ | fail) <;> conv=>whnf)
  exact ⟨(1,l'),[(3007,2065),(3008,1065)],⟨Nat.le_refl 1,hl'⟩,rn en⟩
 have hobt : j = 1:=by omega
 obtain rfl:=hobt
 conv=>whnf
 repeat' ((first | (refine (?_ : TG _ _); first | refine tY ?_ | refine tN ?_ | refine dY ?_ | refine dN ?_ | (refine tell ?_ ?_ <;> intro hQ <;> try dsimp only at hQ)) | refine aS ?_ | refine ai ?_ | fail) <;> conv=>whnf)
 refine ⟨Nat × Txt,fun p=>⟨[(0,.ptr 0 0 2 0),(74,vI 1),(75,vI p.1)],msH 3007 3008 (sBC bs l p.1 p.2)⟩,fun p=>p.1 ≤ 1 ∧ p.2.length ≤ 100000,fun p=>1 - p.1,fun p _=>by rcases p with ⟨_ | _,_⟩ <;> rfl,⟨(0,[]),[],⟨Nat.zero_le _,Nat.zero_le _⟩,?_⟩,?_⟩
 ·refine ⟨rfl,?_,?_,rfl⟩
  all_goals (repeat' (first | exact trivial | exact rfl | refine And.intro ?_ ?_ | (refine congrArg vI ?_; first | omega | (dsimp only; omega) | fail) | (refine congrArg some ?_) | omega | exact Nat.le_refl _ | exact congrArg (SV.lst _) (List.take_of_length_le (Nat.le_refl _)).symm))
 rintro ⟨(j : Nat),(l2 : Txt)⟩ ⟨(hj1 : j ≤ 1),(hl2 : l2.length ≤ 100000)⟩
 by_cases hlt : j < 1
 ·have hobt : j = 0:=by omega
  obtain rfl:=hobt
  conv=>whnf
  repeat' ((first | (refine (?_ : TG _ _); first | refine tY ?_ | refine tN ?_ | refine dY ?_ | refine dN ?_ | (refine tell ?_ ?_ <;> intro hQ <;> try dsimp only at hQ)) | refine aS ?_ | refine ai ?_ | fail) <;> conv=>whnf)
  refine ⟨_,m_noS,(g1 (bs ++ l),vT),[0,1,2,3,4,5,6,3007,3008],false,?_⟩
  conv=>whnf
  refine vcA ⟨g1_ok _,(show (bs ++ l).length ≤ 100000000 by rw [List.length_append]; omega)⟩ ?_
  conv=>whnf
  refine aV (ordA,[]) ⟨ord_a.symm,by show 0 ≤ 100000; decide⟩ fun (d : OrdT × Txt) (hd : d.1 = ord1 c1 vT (goalN c1.2.2.2.2.2.2.1) ∧ d.2.length ≤ 100000)=>?_
  obtain ⟨d,l'⟩:=d
  obtain ⟨hd1,(hd2 : l'.length ≤ 100000)⟩:=hd
  have hobt : d = ordA:=hd1.trans ord_a
  obtain rfl:=hobt
  conv=>whnf
  repeat' ((first | (refine (?_ : TG _ _); first | refine tY ?_ | refine tN ?_ | refine dY ?_ | refine dN ?_ | (refine tell ?_ ?_ <;> intro hQ <;> try dsimp only at hQ)) | refine aS ?_ | refine ai ?_ | fail) <;> conv=>whnf)
  exact ⟨(1,l'),[(3007,1081)],⟨Nat.le_refl 1,hd2⟩,rn en⟩
 have hobt : j = 1:=by omega
 obtain rfl:=hobt
 conv=>whnf
 repeat' ((first | (refine (?_ : TG _ _); first | refine tY ?_ | refine tN ?_ | refine dY ?_ | refine dN ?_ | (refine tell ?_ ?_ <;> intro hQ <;> try dsimp only at hQ)) | refine aS ?_ | refine ai ?_ | fail) <;> conv=>whnf)
 exact ⟨(l,l2),[3008,3007],⟨hl,hl2⟩,a3⟩
end
end Go.Sx
namespace Go.Sx
noncomputable section
open Go Go.Proofs Go.Proofs.YtcehbnfhlcfinaaGreatDoor
open Go.Shelf
def mails (d : Txt) : Nat → List (ByteArray × ByteArray × Bool)
 | 0=>[]
 | _ + 1=>[(bS awT,bS d,false)]
def spStep : Spec AF where
 γ:=Txt
 δ:=(Txt × Txt) × Txt
 args:=fun _=>[.ptr 0 0 2 0]
 own:=fun bs=>msB (sA bs)
 pre:=fun bs=>bs.length ≤ 10000000
 nnew:=2
 res:=fun _ d=>.lst 61 [(bS awT,bS d.2,false)]
 own':=fun bs d=>msN (sC bs d.1.1 d.1.2)
 post:=fun _ d=>d.1.1.length ≤ 100000 ∧ d.1.2.length ≤ 100000
theorem m_step : Meets Tryz.prog regF 10 spStep:=by
 refine meets Tryz.func10 49 noWr ?_
 rintro (bs : List UInt8) (hb : bs.length ≤ 10000000)
 conv=>whnf
 repeat' ((first | (refine (?_ : TG _ _); first | refine tY ?_ | refine tN ?_ | refine dY ?_ | refine dN ?_ | (refine tell ?_ ?_ <;> intro hQ <;> try dsimp only at hQ)) | refine aS ?_ | refine ai ?_ | fail) <;> conv=>whnf)
 refine ⟨_,m_notes,bs,[0,1,2,3,4,5,6,7,8],false,?_⟩
 conv=>whnf
 refine vcA hb ?_
 conv=>whnf
 refine aV ([],[]) ⟨by show 0 ≤ 100000; decide,by show 0 ≤ 100000; decide⟩ fun (d : Txt × Txt) (hd : d.1.length ≤ 100000 ∧ d.2.length ≤ 100000)=>?_
 obtain ⟨l,l2⟩:=d
 have hx : (sC bs l l2).ps[0]? = some (mkP (ctl2 c1 (goalN c1.2.2.2.2.2.2.1) ordA) ⟨#[]⟩ 0 3):=rfl
 conv=>whnf
 repeat' ((first | (refine (?_ : TG _ _); first | refine tY ?_ | refine tN ?_ | refine dY ?_ | refine dN ?_ | (refine tell ?_ ?_ <;> intro hQ <;> try dsimp only at hQ)) | refine aS ?_ | refine ai ?_ | fail) <;> conv=>whnf)
 refine ⟨Nat × Txt,fun p=>⟨[(2,.sl 3001 3 0 p.1),(17,.sl 3 20 0 1),(18,vI 1),(19,vI p.1)],(3001,.arr 61 (mails p.2 p.1)) :: msH 2010 1010 (sC bs l l2)⟩,fun p=>p.1 ≤ 1,fun p=>1 - p.1,fun _ _=>rfl,⟨(0,[]),[(3001,3011)],Nat.zero_le _,en⟩,?_⟩
 rintro ⟨(j : Nat),(dt : Txt)⟩ (hj1 : j ≤ 1)
 by_cases hlt : j < 1
 ·have hobt : j = 0:=by omega
  obtain rfl:=hobt
  conv=>whnf
  repeat' ((first | (refine (?_ : TG _ _); first | refine tY ?_ | refine tN ?_ | refine dY ?_ | refine dN ?_ | (refine tell ?_ ?_ <;> intro hQ <;> try dsimp only at hQ)) | refine aS ?_ | refine aX hx ?_ | refine aL hx ?_ | refine ai ?_ | fail) <;> conv=>whnf)
  refine ⟨_,m_olay,ordA,[],false,?_⟩
  conv=>whnf
  refine vcA ordA_small ?_
  conv=>whnf
  refine aV ([],0) (by show 0 ≤ 2000000; decide) fun (r : List UInt8 × Int) (hr : r.1.length ≤ 2000000)=>?_
  obtain ⟨r,re⟩:=r
  conv=>whnf
  repeat' ((first | (refine (?_ : TG _ _); first | refine tY ?_ | refine tN ?_ | refine dY ?_ | refine dN ?_ | (refine tell ?_ ?_ <;> intro hQ <;> try dsimp only at hQ)) | refine aS ?_ | refine ai ?_ | fail) <;> conv=>whnf)
  refine ⟨_,m_prA,(),[],false,?_⟩
  conv=>whnf
  refine vcA trivial ?_
  refine uU ?_
  conv=>whnf
  conv=>whnf
  repeat' ((first | (refine (?_ : TG _ _); first | refine tY ?_ | refine tN ?_ | refine dY ?_ | refine dN ?_ | (refine tell ?_ ?_ <;> intro hQ <;> try dsimp only at hQ)) | refine aS ?_ | refine ai ?_ | fail) <;> conv=>whnf)
  exact ⟨(1,r),[(3001,1047)],Nat.le_refl 1,rn en⟩
 have hobt : j = 1:=by omega
 obtain rfl:=hobt
 conv=>whnf
 repeat' ((first | (refine (?_ : TG _ _); first | refine tY ?_ | refine tN ?_ | refine dY ?_ | refine dN ?_ | (refine tell ?_ ?_ <;> intro hQ <;> try dsimp only at hQ)) | refine aS ?_ | refine ai ?_ | fail) <;> conv=>whnf)
 exact ⟨((l,l2),dt),[1010,2010],hd,a3⟩
end
end Go.Sx
namespace Go.Sx
noncomputable section
open Go Go.Proofs Go.Proofs.YtcehbnfhlcfinaaGreatDoor
open Go.Shelf
abbrev mkP0 (p : HomT) : PostT:=(p.1,0,0,0,0,0,[p.2],0,false,0,false,0,⟨#[]⟩,0,0,[],[],⟨#[]⟩,-1,0)
def psOf (fl : List HomT) : List PostT:=fl.map mkP0
theorem psOf_take {fl : List HomT} {j : Nat} {p : HomT} (h : fl[j]? = some p) : psOf (fl.take (j + 1)) = psOf (fl.take j) ++ [mkP0 p]:=by
 unfold psOf
 rw [take_snocI h,List.map_append]
 rfl
theorem psOf_len {fl : List HomT} {j : Nat} (h : j ≤ fl.length) : (psOf (fl.take j)).length = j:=by
 unfold psOf
 rw [List.length_map,List.length_take]
 omega
abbrev knowN (p t n : Nat) : Ct AF:=.row 86 [.sl p 20 0 n,.val (.slice none 0 0),.ptr t 0 1 0,.val (.pointer none),.val (.slice none 0 0)]
def TbOk (fl : List HomT) (tb : TM) : Prop:=∀ p,fl = [p] → tb = [(p.2,0)]
def spMBegin : Spec AF where
 γ:=List HomT
 δ:=TM
 args:=fun fl=>[.lst 48 fl]
 pre:=fun fl=>0 < fl.length ∧ fl.length ≤ 6 ∧ ∀ p ∈ fl,InI p.2
 nnew:=4
 res:=fun _ _=>.ptr 0 0 5 0
 own':=fun fl tb=>[some (knowN 1 2 fl.length),some (.arr 111 (psOf fl)),some (.cells [.mp 3]),some (.map 3 3 tb)]
 post:=fun fl tb=>TbOk fl tb
theorem tbOk_ex (fl : List HomT) : ∃ tb,TbOk fl tb:=by
 cases fl with
 | nil=>exact ⟨[],fun p h=>by cases h⟩
 | cons p l=>exact ⟨[(p.2,0)],fun q h=>by cases h; rfl⟩
theorem m_mbegin : Meets Tryz.prog regF 24 spMBegin:=by
 refine meets Tryz.func24 42 noWr ?_
 rintro (fl : List HomT) ⟨(h0 : 0 < fl.length),(hl : fl.length ≤ 6),(hi : ∀ p ∈ fl,InI p.2)⟩
 conv=>whnf
 repeat' ((first | (refine (?_ : TG _ _); first | refine tY ?_ | refine tN ?_ | refine dY ?_ | refine dN ?_ | (refine tell ?_ ?_ <;> intro hQ <;> try dsimp only at hQ)) | refine aS ?_ | refine ai ?_ | fail) <;> conv=>whnf)
 refine ⟨_,m_tnew,(),[],false,?_⟩
 conv=>whnf
 refine vcA trivial ?_
 refine uU ?_
 conv=>whnf
 conv=>whnf
 repeat' ((first | (refine (?_ : TG _ _); first | refine tY ?_ | refine tN ?_ | refine dY ?_ | refine dN ?_ | (refine tell ?_ ?_ <;> intro hQ <;> try dsimp only at hQ)) | refine aS ?_ | refine ai ?_ | fail) <;> conv=>whnf)
 refine ⟨Nat × TM,fun q=>⟨[(3,.ptr 1008 0 5 0),(9,.lst 48 fl),(10,vI fl.length),(11,vI q.1)],[(1008,knowN 3001 1006 q.1),(1006,.cells [.mp 2006]),(2006,.map 3 3 q.2),(3001,.arr 111 (psOf (fl.take q.1)))]⟩,fun q=>q.1 ≤ fl.length ∧ (q.1 = 0 → q.2 = []) ∧ (q.1 = 1 → TbOk fl q.2),fun q=>fl.length - q.1,fun _ _=>rfl,⟨(0,[]),[(3001,3011)],⟨Nat.zero_le _,fun _=>rfl,fun h=>by cases h⟩,en⟩,?_⟩
 rintro ⟨(j : Nat),(tb : TM)⟩ ⟨(hj : j ≤ fl.length),(hz : j = 0 → tb = []),(hone : j = 1 → TbOk fl tb)⟩
 by_cases hlt : j < fl.length
 ·have hobt : ∃ y,fl[j]? = some y:=⟨_,List.getElem?_eq_getElem hlt⟩
  obtain ⟨⟨v,h⟩,hx1⟩:=hobt
  have hpl:=psOf_len hj
  have hpt:=psOf_take hx1
  conv=>whnf
  repeat' ((first | (refine (?_ : TG _ _); first | refine tY ?_ | refine tN ?_ | refine dY ?_ | refine dN ?_ | (refine tell ?_ ?_ <;> intro hQ <;> try dsimp only at hQ)) | refine aS ?_ | refine aX hx1 ?_ | refine aL hx1 ?_ | refine ai ?_ | fail) <;> conv=>whnf)
  refine ⟨_,m_fbegin,(v,h),[],false,?_⟩
  conv=>whnf
  refine vcA trivial ?_
  refine uU ?_
  conv=>whnf
  conv=>whnf
  repeat' ((first | (refine (?_ : TG _ _); first | refine tY ?_ | refine tN ?_ | refine dY ?_ | refine dN ?_ | (refine tell ?_ ?_ <;> intro hQ <;> try dsimp only at hQ)) | refine aS ?_ | refine ai ?_ | fail) <;> conv=>whnf)
  refine ⟨_,m_claim,(tb,j,[h]),[1006,2006],false,?_⟩
  conv=>whnf
  refine vcA ⟨by show 1 ≤ 9223372036854775807; decide,fun x hx=>by rw [List.mem_singleton] at hx; subst hx; exact hi _ (List.mem_of_getElem? hx1)⟩ ?_
  conv=>whnf
  have hobt:=pred_ex (ClaimOk tb j [h])
  obtain ⟨c1,hc1⟩:=hobt
  refine aV c1 hc1 fun (c : Bool) (hc : c = true ↔ ClaimOk tb j [h])=>?_
  have hpe : ((psOf (fl.take j)).drop 0).take j ++ [mkP0 (v,h)] = psOf (fl.take (j + 1)):=by rw [List.drop_zero,List.take_of_length_le (by omega),hpt]
  cases c
  ·have hno : ¬ ((j : Nat) = 0):=fun e=>by
    have hcl : ClaimOk tb j [h]:=fun x _ w hw=>by rw [hz e] at hw; cases hw
    have:=hc.2 hcl; cases this
   conv=>whnf
   repeat' ((first | (refine (?_ : TG _ _); first | refine tY ?_ | refine tN ?_ | refine dY ?_ | refine dN ?_ | (refine tell ?_ ?_ <;> intro hQ <;> try dsimp only at hQ)) | refine aS ?_ | refine ai ?_ | fail) <;> conv=>whnf)
   exact ⟨(j + 1,tb),[(3001,1028)],⟨hlt,fun e=>absurd e (Nat.succ_ne_zero j),fun e=>absurd (Nat.succ.inj e) hno⟩,rn en⟩
  ·have hon : j + 1 = 1 → TbOk fl (claimL j tb [h]):=fun e p hp=>by
    have hj0 : j = 0:=Nat.succ.inj e
    subst hj0
    subst hp
    cases hx1
    rw [hz rfl]
    rfl
   conv=>whnf
   repeat' ((first | (refine (?_ : TG _ _); first | refine tY ?_ | refine tN ?_ | refine dY ?_ | refine dN ?_ | (refine tell ?_ ?_ <;> intro hQ <;> try dsimp only at hQ)) | refine aS ?_ | refine ai ?_ | fail) <;> conv=>whnf)
   exact ⟨(j + 1,claimL j tb [h]),[(3001,1028)],⟨hlt,fun e=>absurd e (Nat.succ_ne_zero j),hon⟩,rn en⟩
 have hobt : j = fl.length:=by omega
 obtain rfl:=hobt
 have ht : psOf (fl.take fl.length) = psOf fl:=by rw [List.take_length]
 conv=>whnf
 repeat' ((first | (refine (?_ : TG _ _); first | refine tY ?_ | refine tN ?_ | refine dY ?_ | refine dN ?_ | (refine tell ?_ ?_ <;> intro hQ <;> try dsimp only at hQ)) | refine aS ?_ | refine ai ?_ | fail) <;> conv=>whnf)
 exact ⟨tb,[1008,3001,1006,2006],(fun p e=>hone (by rw [e]; rfl) p e),a3⟩
end
end Go.Sx
namespace Go.Sx
noncomputable section
open Go Go.Proofs Go.Proofs.YtcehbnfhlcfinaaGreatDoor
open Go.Shelf
def spP (S : Spec AF) : Spec AF where
 γ:=S.γ
 δ:=S.δ × Nat × Nat
 args:=S.args
 pre:=S.pre
 res:=fun _ d=>.tup [.val (.pointer (some ⟨d.2.1,d.2.2,none⟩)),vI 0]
 post:=fun g d=>S.post g d.1
theorem blk_nil {ρ : Rho} {b : Nat} (h : Blk ([] : List (Option (Ct AF))) ρ b) : False:=by
 obtain ⟨i,ct,base,h,_⟩:=h
 cases h
theorem meets_ptr {f : Nat} {S : Spec AF} (hm : Meets Tryz.prog regF f S) (k : Nat) (ho : ∀ g,S.own g = []) (hr : ∀ g d,S.res g d = .tup [.ptr 0 0 k 0,vI 0]) : Meets Tryz.prog regF f (spP S):=by
 refine ⟨hm.1,fun g hg X ρ w vs h1 h2 h3 h4=>?_⟩
 have e : S.own g = []:=ho g
 refine (hm.2 g hg X ρ w vs h1 (by rw [e]; exact h2) (by rw [e]; exact h3) (by rw [e]; exact h4)).mono fun en w' hh=>?_
 obtain ⟨d,ρ',v,p1,p2,p3,p4,p5,p6,p7,p8,p9,p10⟩:=hh
 rw [show S.res g d = _ from hr g d] at p4
 obtain ⟨b,o,rfl⟩ : ∃ b o,v = .tuple #[.pointer (some ⟨b,o,none⟩),.int .i64 0]:=by
  cases p4 with
  | tup cs vs hl hd=>
   obtain ⟨l⟩:=vs
   match l,hl with
   | [a,c],_=>
    have ha:=hd 0 _ a rfl rfl
    have hc:=val_inv' (hd 1 _ c rfl rfl)
    subst hc
    cases ha with
    | ptr _ _ _ _ b base h=>exact ⟨b,_,rfl⟩
 rw [e] at p10
 refine ⟨(d,b,o),ρ,_,p1,p2,fun _ _=>rfl,.tup _ _ rfl fun j s v hs hv=>?_,⟨fun h ct hh=>(by cases hh),fun h h' ct ct' b base base' hh=>(by cases hh)⟩,fun b hb=>(blk_nil hb).elim,rfl,rfl,fun h ct hh=>(by cases hh),p10⟩
 match j,hs,hv with
 | 0,hs,hv=>cases hs; cases hv; exact .val _
 | 1,hs,hv=>cases hs; cases hv; exact .val _
def spNameT : Spec AF:={ spName with pre:=fun l=>nameF l = true ∧ l.length ≤ 9223372036854775807,res:=fun _ _=>vB true }
theorem m_nameT : Meets Tryz.prog regF 20 spNameT:=
 meets_told m_name.1 fun l hl=>⟨spName,m_name,l,trivial,rfl,rfl,rfl,fun _ _=>⟨(),trivial,rfl,fun ρ O w v hv=>by
  have h : spName.res l () = spNameT.res l ():=congrArg vB hl.1
  rw [← h]; exact hv,fun _ h=>h⟩⟩
theorem m_name07T : Meets Tryz.prog regF 35 spNameT:=
 meets_told m_name07.1 fun l hl=>⟨_,m_name07,l,hl.2,rfl,rfl,rfl,fun _ _=>⟨(),trivial,rfl,fun ρ O w v hv=>by
  have h : spName.res l () = spNameT.res l ():=congrArg vB hl.1
  rw [← h]; exact hv,fun _ h=>h⟩⟩
theorem right_yes {n : Int} {es : List Edge} (h : RightL n es) : true = true ↔ RightL n es:=⟨fun _=>h,fun _=>rfl⟩
def spVN : Spec AF where
 γ:=(Int × List Edge) × Txt × Int
 args:=fun g=>[layS g.1.1 g.1.2,vS g.2.1,vI g.2.2]
 pre:=fun g=>RightL g.1.1 g.1.2 ∧ GoodL g.1.2 ∧ (nameF g.2.1 = true ∧ g.2.1.length ≤ 9223372036854775807) ∧ 0 ≤ g.2.2 ∧ g.2.2 < g.1.1
 nnew:=1
 res:=fun _ _=>.tup [.ptr 0 0 14 0,vI 0]
 own':=fun _ _=>[none]
theorem m_vn0 : Meets Tryz.prog regF 16 spVN:=by
 refine meets Tryz.func16 38 noWr ?_
 rintro ⟨⟨(n : Int),(es : List Edge)⟩,(nm : Txt),(k : Int)⟩ ⟨hR,hG,hN,(h0 : 0 ≤ k),(h1 : k < n)⟩
 conv=>whnf
 repeat' ((first | (refine (?_ : TG _ _); first | refine tY ?_ | refine tN ?_ | refine dY ?_ | refine dN ?_ | (refine tell ?_ ?_ <;> intro hQ <;> try dsimp only at hQ)) | refine aS ?_ | refine ai ?_ | fail) <;> conv=>whnf)
 refine ⟨_,m_right,(n,es),[],false,?_⟩
 conv=>whnf
 refine vcA hG ?_
 conv=>whnf
 refine aV true (right_yes hR) fun (c : Bool) (hc : c = true ↔ RightL n es)=>?_
 have hobt : c = true:=hc.2 hR
 obtain rfl:=hobt
 conv=>whnf
 repeat' ((first | (refine (?_ : TG _ _); first | refine tY ?_ | refine tN ?_ | refine dY ?_ | refine dN ?_ | (refine tell ?_ ?_ <;> intro hQ <;> try dsimp only at hQ)) | refine aS ?_ | refine ai ?_ | fail) <;> conv=>whnf)
 refine ⟨_,m_nameT,nm,[],false,?_⟩
 conv=>whnf
 refine vcA hN ?_
 refine uU ?_
 conv=>whnf
 conv=>whnf
 repeat' ((first | (refine (?_ : TG _ _); first | refine tY ?_ | refine tN ?_ | refine dY ?_ | refine dN ?_ | (refine tell ?_ ?_ <;> intro hQ <;> try dsimp only at hQ)) | refine aS ?_ | refine ai ?_ | fail) <;> conv=>whnf)
 refine ⟨_,m_clE,es,[],false,?_⟩
 conv=>whnf
 refine vcA (show es.length ≤ 1000000000 by have h120 : es.length ≤ 120:=hR.len; omega) ?_
 refine uU ?_
 conv=>whnf
 conv=>whnf
 repeat' ((first | (refine (?_ : TG _ _); first | refine tY ?_ | refine tN ?_ | refine dY ?_ | refine dN ?_ | (refine tell ?_ ?_ <;> intro hQ <;> try dsimp only at hQ)) | refine aS ?_ | refine ai ?_ | fail) <;> conv=>whnf)
 exact ⟨(),[1037],trivial,a3⟩
theorem m_vn : Meets Tryz.prog regF 16 (spP spVN):=meets_ptr m_vn0 14 (fun _=>rfl) (fun _ _=>rfl)
end
end Go.Sx
namespace Go.Sx
noncomputable section
open Go Go.Proofs Go.Proofs.YtcehbnfhlcfinaaGreatDoor
open Go.Shelf
structure FleetOk (N : Int) (fl : List HomT) : Prop where
 pos : 0 < fl.length
 most : fl.length ≤ 6
 each : ∀ p ∈ fl,(∃ l,p.1 = bS l ∧ nameF l = true ∧ l.length ≤ 16) ∧ 0 ≤ p.2 ∧ p.2 < N
 apart : fl.Pairwise fun p q=>p.1 ≠ q.1 ∧ p.2 < q.2
abbrev nmE (fl : List HomT) : List (ByteArray × Bool):=fl.map fun p=>(p.1,true)
abbrev hmE (fl : List HomT) : List (Int × Bool):=fl.map fun p=>(p.2,true)
def spMNew : Spec AF where
 γ:=(Int × List Edge) × List HomT × Int
 δ:=TM
 args:=fun g=>[layS g.1.1 g.1.2,.lst 48 g.2.1,vI g.2.2]
 pre:=fun g=>RightL g.1.1 g.1.2 ∧ GoodL g.1.2 ∧ FleetOk g.1.1 g.2.1 ∧ 0 ≤ g.2.2 ∧ g.2.2 ≤ 64
 nnew:=6
 res:=fun _ _=>.tup [.ptr 0 0 2 0,vI 0]
 own':=fun g tb=>[some (.cells [.ptr 1 0 8 0,.ptr 2 0 5 0]),some (.cells [vI g.1.1,.lst 44 g.1.2,.lst 48 g.2.1,vI g.2.2,vW 0,.val (.int .i32 0),vW 0,.val (.slice none 0 0)]),some (knowN 3 4 g.2.1.length),some (.arr 111 (psOf g.2.1)),some (.cells [.mp 5]),some (.map 3 3 tb)]
 post:=fun g tb=>TbOk g.2.1 tb
theorem look_no {K V : Nat} {es : List (AF K × AF V)} {k : AF K} (h : ∀ p ∈ es,p.1 ≠ k) : look regF K V es k = none:=by
 have e : es.find? (fun p=>regF.beq K p.1 k) = none:=List.find?_eq_none.2 fun p hp hb=>h p hp ((regF.same K _ _).1 hb)
 unfold look
 rw [e]
theorem ins_no {K V : Nat} {es : List (AF K × AF V)} {k : AF K} {v : AF V} (h : ∀ p ∈ es,p.1 ≠ k) : ins regF K V es k v = es ++ [(k,v)]:=by
 have e : es.any (fun p=>regF.beq K p.1 k) = false:=List.any_eq_false.2 fun p hp hb=>h p hp ((regF.same K _ _).1 hb)
 unfold ins
 rw [e]
theorem fleet_apart {N : Int} {fl : List HomT} (hF : FleetOk N fl) {j : Nat} {p : HomT} (hp : fl[j]? = some p) : ∀ q ∈ fl.take j,q.1 ≠ p.1 ∧ q.2 < p.2:=fun q hq=>by
 have hobt:=List.getElem?_of_mem hq
 obtain ⟨i,hi⟩:=hobt
 rw [List.getElem?_take] at hi
 split at hi
 ·rename_i hij
  have hobt:=List.getElem?_eq_some_iff.1 hi
  obtain ⟨h1,e1⟩:=hobt
  have hobt:=List.getElem?_eq_some_iff.1 hp
  obtain ⟨h2,e2⟩:=hobt
  have:=List.pairwise_iff_getElem.1 hF.apart i j h1 h2 hij
  rw [e1,e2] at this
  exact this
 ·cases hi
theorem m_mnew : Meets Tryz.prog regF 9 spMNew:=by
 refine meets Tryz.func9 90 noWr ?_
 rintro ⟨⟨(N : Int),(es : List Edge)⟩,(fl : List HomT),(win : Int)⟩ ⟨hR,hG,hF,(hw0 : 0 ≤ win),(hw1 : win ≤ 64)⟩
 have hp0 : 0 < fl.length:=hF.pos
 have hp6 : fl.length ≤ 6:=hF.most
 conv=>whnf
 repeat' ((first | (refine (?_ : TG _ _); first | refine tY ?_ | refine tN ?_ | refine dY ?_ | refine dN ?_ | (refine tell ?_ ?_ <;> intro hQ <;> try dsimp only at hQ)) | refine aS ?_ | refine ai ?_ | fail) <;> conv=>whnf)
 refine ⟨Nat,fun j=>⟨[(1,.lst 48 fl),(2,vI win),(3,.ptr 1003 0 2 0),(8,.mp 1012),(9,.mp 1013),(14,.lst 48 fl),(15,vI fl.length),(16,vI j)],[(1003,.cells [vI N,.lst 44 es]),(1012,.map 9 4 (nmE (fl.take j))),(1013,.map 3 4 (hmE (fl.take j)))]⟩,fun j=>j ≤ fl.length,fun j=>fl.length - j,fun _ _=>rfl,⟨0,[],Nat.zero_le _,en⟩,?_⟩
 rintro (j : Nat) (hj : j ≤ fl.length)
 by_cases hlt : j < fl.length
 ·have hobt : ∃ y,fl[j]? = some y:=⟨_,List.getElem?_eq_getElem hlt⟩
  obtain ⟨⟨v,h⟩,hx1⟩:=hobt
  have hobt:=hF.each _ (List.mem_of_getElem? hx1)
  obtain ⟨⟨l,hv,hl,hl16⟩,(h0 : 0 ≤ h),(h1 : h < N)⟩:=hobt
  have hv : v = bS l:=hv
  subst hv
  conv=>whnf
  repeat' ((first | (refine (?_ : TG _ _); first | refine tY ?_ | refine tN ?_ | refine dY ?_ | refine dN ?_ | (refine tell ?_ ?_ <;> intro hQ <;> try dsimp only at hQ)) | refine aS ?_ | refine aX hx1 ?_ | refine aL hx1 ?_ | refine ai ?_ | fail) <;> conv=>whnf)
  refine ⟨_,m_nameT,l,[],false,?_⟩
  conv=>whnf
  refine vcA ⟨hl,by omega⟩ ?_
  refine uU ?_
  conv=>whnf
  have hap:=fleet_apart hF hx1
  have hnn : ∀ p ∈ nmE (fl.take j),p.1 ≠ bS l:=fun p hp=>by obtain ⟨q,hq,rfl⟩:=List.mem_map.1 hp; exact (hap q hq).1
  have hhn : ∀ p ∈ hmE (fl.take j),p.1 ≠ h:=fun p hp=>by obtain ⟨q,hq,rfl⟩:=List.mem_map.1 hp; exact Int.ne_of_lt (hap q hq).2
  have hn1 : (look regF 9 4 (nmE (fl.take j)) (bS l)).getD false = false:=by rw [look_no (K:=9) (V:=4) hnn]; rfl
  have hn2 : (look regF 3 4 (hmE (fl.take j)) h).getD false = false:=by rw [look_no (K:=3) (V:=4) hhn]; rfl
  have hi1 : ins regF 9 4 (nmE (fl.take j)) (bS l) true = nmE (fl.take (j + 1)):=by rw [ins_no (K:=9) (V:=4) hnn,nmE,nmE,take_snocI hx1,List.map_append]; rfl
  have hi2 : ins regF 3 4 (hmE (fl.take j)) h true = hmE (fl.take (j + 1)):=by rw [ins_no (K:=3) (V:=4) hhn,hmE,hmE,take_snocI hx1,List.map_append]; rfl
  have hkS : regF.kg 9 (bS l):=by
   show (bS l).size ≤ maxLen
   rw [size_bS]
   exact Nat.le_trans hl16 (by decide)
  have hN : N ≤ 40:=hR.most
  have hkI : regF.kg 3 h:=by
   show -9223372036854775808 ≤ h ∧ h ≤ 9223372036854775807
   omega
  conv=>whnf
  repeat' ((first | (refine (?_ : TG _ _); first | refine tY ?_ | refine tN ?_ | refine dY ?_ | refine dN ?_ | (refine tell ?_ ?_ <;> intro hQ <;> try dsimp only at hQ)) | refine aS ?_ | refine ai ?_ | fail) <;> conv=>whnf)
  refine aV false hn1.symm fun (c : Bool) (hc : c = _)=>?_
  have hobt : c = false:=hc.trans hn1
  obtain rfl:=hobt
  conv=>whnf
  repeat' ((first | (refine (?_ : TG _ _); first | refine tY ?_ | refine tN ?_ | refine dY ?_ | refine dN ?_ | (refine tell ?_ ?_ <;> intro hQ <;> try dsimp only at hQ)) | refine aS ?_ | refine ai ?_ | fail) <;> conv=>whnf)
  refine aV false hn2.symm fun (c : Bool) (hc : c = _)=>?_
  have hobt : c = false:=hc.trans hn2
  obtain rfl:=hobt
  conv=>whnf
  repeat' ((first | (refine (?_ : TG _ _); first | refine tY ?_ | refine tN ?_ | refine dY ?_ | refine dN ?_ | (refine tell ?_ ?_ <;> intro hQ <;> try dsimp only at hQ)) | refine aS ?_ | refine ai ?_ | fail) <;> conv=>whnf)
  exact ⟨j + 1,[],hlt,rn en⟩
 have hobt : j = fl.length:=by omega
 obtain rfl:=hobt
 have hel : es.length ≤ 120:=hR.len
 have hFi : ∀ p ∈ fl,InI p.2:=fun p hp=>by
  have h40 : N ≤ 40:=hR.most
  have hobt:=hF.each p hp
  obtain ⟨_,h1,(h2 : p.2 < N)⟩:=hobt
  unfold InI; omega
 conv=>whnf
 repeat' ((first | (refine (?_ : TG _ _); first | refine tY ?_ | refine tN ?_ | refine dY ?_ | refine dN ?_ | (refine tell ?_ ?_ <;> intro hQ <;> try dsimp only at hQ)) | refine aS ?_ | refine ai ?_ | fail) <;> conv=>whnf)
 refine ⟨_,m_right,(N,es),[],false,?_⟩
 conv=>whnf
 refine vcA hG ?_
 conv=>whnf
 refine aV true (right_yes hR) fun (c : Bool) (hc : c = true ↔ RightL N es)=>?_
 have hobt : c = true:=hc.2 hR
 obtain rfl:=hobt
 conv=>whnf
 repeat' ((first | (refine (?_ : TG _ _); first | refine tY ?_ | refine tN ?_ | refine dY ?_ | refine dN ?_ | (refine tell ?_ ?_ <;> intro hQ <;> try dsimp only at hQ)) | refine aS ?_ | refine ai ?_ | fail) <;> conv=>whnf)
 refine ⟨_,m_clE,es,[],false,?_⟩
 conv=>whnf
 refine vcA (show es.length ≤ 1000000000 by omega) ?_
 refine uU ?_
 conv=>whnf
 conv=>whnf
 repeat' ((first | (refine (?_ : TG _ _); first | refine tY ?_ | refine tN ?_ | refine dY ?_ | refine dN ?_ | (refine tell ?_ ?_ <;> intro hQ <;> try dsimp only at hQ)) | refine aS ?_ | refine ai ?_ | fail) <;> conv=>whnf)
 refine ⟨_,m_clP,fl,[],false,?_⟩
 conv=>whnf
 refine vcA (show fl.length ≤ 1000000000 by omega) ?_
 refine uU ?_
 conv=>whnf
 conv=>whnf
 repeat' ((first | (refine (?_ : TG _ _); first | refine tY ?_ | refine tN ?_ | refine dY ?_ | refine dN ?_ | (refine tell ?_ ?_ <;> intro hQ <;> try dsimp only at hQ)) | refine aS ?_ | refine ai ?_ | fail) <;> conv=>whnf)
 refine ⟨_,m_mbegin,fl,[],false,?_⟩
 conv=>whnf
 refine vcA ⟨hp0,hp6,hFi⟩ ?_
 conv=>whnf
 have hobt:=tbOk_ex fl
 obtain ⟨tb0,htb0⟩:=hobt
 refine aV tb0 htb0 fun (tb : TM) (htb : TbOk fl tb)=>?_
 conv=>whnf
 repeat' ((first | (refine (?_ : TG _ _); first | refine tY ?_ | refine tN ?_ | refine dY ?_ | refine dN ?_ | (refine tell ?_ ?_ <;> intro hQ <;> try dsimp only at hQ)) | refine aS ?_ | refine ai ?_ | fail) <;> conv=>whnf)
 exact ⟨tb,[1089,1085,1087,2087,3087,4087],htb,a3⟩
end
end Go.Sx
namespace Go.Sx
noncomputable section
open Go Go.Proofs Go.Proofs.YtcehbnfhlcfinaaGreatDoor
open Go.Shelf
theorem m_clSE : Meets Tryz.prog regF 22 (spClS 44 3 1000000000):=by
 refine meets Tryz.func22 8 noWr ?_
 rintro (xs : List (AF 44)) ⟨(h0 : 0 < xs.length),(hl : xs.length ≤ 1000000000)⟩
 conv=>whnf
 repeat' ((first | (refine (?_ : TG _ _); first | refine tY ?_ | refine tN ?_ | refine dY ?_ | refine dN ?_ | (refine tell ?_ ?_ <;> intro hQ <;> try dsimp only at hQ)) | refine aS ?_ | refine ai ?_ | fail) <;> conv=>whnf)
 refine ⟨(),[],trivial,⟨?_,rfl,?_⟩,⟨rfl,trivial⟩,trivial⟩
 ·show 0 + (0 + xs.length) ≤ _; simp
 ·exact congrArg (SV.lst (A:=AF) 44) (by simp)
def spMNewO : Spec AF where
 γ:=(Int × List Edge) × List HomT × Int
 δ:=TM
 args:=fun g=>[.agg [vI g.1.1,.sl 0 3 0 g.1.2.length],.lst 48 g.2.1,vI g.2.2]
 own:=fun g=>[.arr 44 g.1.2]
 pre:=fun g=>RightL g.1.1 g.1.2 ∧ GoodL g.1.2 ∧ FleetOk g.1.1 g.2.1 ∧ 0 ≤ g.2.2 ∧ g.2.2 ≤ 64 ∧ 0 < g.1.2.length
 nnew:=6
 res:=fun _ _=>.tup [.ptr 1 0 2 0,vI 0]
 own':=fun g tb=>[some (.arr 44 g.1.2),some (.cells [.ptr 2 0 8 0,.ptr 3 0 5 0]),some (.cells [vI g.1.1,.lst 44 g.1.2,.lst 48 g.2.1,vI g.2.2,vW 0,.val (.int .i32 0),vW 0,.val (.slice none 0 0)]),some (knowN 4 5 g.2.1.length),some (.arr 111 (psOf g.2.1)),some (.cells [.mp 6]),some (.map 3 3 tb)]
 post:=fun g tb=>TbOk g.2.1 tb
theorem m_mnewO : Meets Tryz.prog regF 9 spMNewO:=by
 refine meets Tryz.func9 90 noWr ?_
 rintro ⟨⟨(N : Int),(es : List Edge)⟩,(fl : List HomT),(win : Int)⟩ ⟨hR,hG,hF,(hw0 : 0 ≤ win),(hw1 : win ≤ 64),(he0 : 0 < es.length)⟩
 have hp0 : 0 < fl.length:=hF.pos
 have hp6 : fl.length ≤ 6:=hF.most
 conv=>whnf
 repeat' ((first | (refine (?_ : TG _ _); first | refine tY ?_ | refine tN ?_ | refine dY ?_ | refine dN ?_ | (refine tell ?_ ?_ <;> intro hQ <;> try dsimp only at hQ)) | refine aS ?_ | refine ai ?_ | fail) <;> conv=>whnf)
 refine ⟨Nat,fun j=>⟨[(1,.lst 48 fl),(2,vI win),(3,.ptr 1003 0 2 0),(8,.mp 1012),(9,.mp 1013),(14,.lst 48 fl),(15,vI fl.length),(16,vI j)],[(0,.arr 44 es),(1003,.cells [vI N,.sl 0 3 0 es.length]),(1012,.map 9 4 (nmE (fl.take j))),(1013,.map 3 4 (hmE (fl.take j)))]⟩,fun j=>j ≤ fl.length,fun j=>fl.length - j,fun _ _=>rfl,⟨0,[],Nat.zero_le _,en⟩,?_⟩
 rintro (j : Nat) (hj : j ≤ fl.length)
 by_cases hlt : j < fl.length
 ·have hobt : ∃ y,fl[j]? = some y:=⟨_,List.getElem?_eq_getElem hlt⟩
  obtain ⟨⟨v,h⟩,hx1⟩:=hobt
  have hobt:=hF.each _ (List.mem_of_getElem? hx1)
  obtain ⟨⟨l,hv,hl,hl16⟩,(h0 : 0 ≤ h),(h1 : h < N)⟩:=hobt
  have hv : v = bS l:=hv
  subst hv
  conv=>whnf
  repeat' ((first | (refine (?_ : TG _ _); first | refine tY ?_ | refine tN ?_ | refine dY ?_ | refine dN ?_ | (refine tell ?_ ?_ <;> intro hQ <;> try dsimp only at hQ)) | refine aS ?_ | refine aX hx1 ?_ | refine aL hx1 ?_ | refine ai ?_ | fail) <;> conv=>whnf)
  refine ⟨_,m_nameT,l,[],false,?_⟩
  conv=>whnf
  refine vcA ⟨hl,by omega⟩ ?_
  refine uU ?_
  conv=>whnf
  have hap:=fleet_apart hF hx1
  have hnn : ∀ p ∈ nmE (fl.take j),p.1 ≠ bS l:=fun p hp=>by obtain ⟨q,hq,rfl⟩:=List.mem_map.1 hp; exact (hap q hq).1
  have hhn : ∀ p ∈ hmE (fl.take j),p.1 ≠ h:=fun p hp=>by obtain ⟨q,hq,rfl⟩:=List.mem_map.1 hp; exact Int.ne_of_lt (hap q hq).2
  have hn1 : (look regF 9 4 (nmE (fl.take j)) (bS l)).getD false = false:=by rw [look_no (K:=9) (V:=4) hnn]; rfl
  have hn2 : (look regF 3 4 (hmE (fl.take j)) h).getD false = false:=by rw [look_no (K:=3) (V:=4) hhn]; rfl
  have hi1 : ins regF 9 4 (nmE (fl.take j)) (bS l) true = nmE (fl.take (j + 1)):=by rw [ins_no (K:=9) (V:=4) hnn,nmE,nmE,take_snocI hx1,List.map_append]; rfl
  have hi2 : ins regF 3 4 (hmE (fl.take j)) h true = hmE (fl.take (j + 1)):=by rw [ins_no (K:=3) (V:=4) hhn,hmE,hmE,take_snocI hx1,List.map_append]; rfl
  have hkS : regF.kg 9 (bS l):=by
   show (bS l).size ≤ maxLen
   rw [size_bS]
   exact Nat.le_trans hl16 (by decide)
  have hN : N ≤ 40:=hR.most
  have hkI : regF.kg 3 h:=by
   show -9223372036854775808 ≤ h ∧ h ≤ 9223372036854775807
   omega
  conv=>whnf
  repeat' ((first | (refine (?_ : TG _ _); first | refine tY ?_ | refine tN ?_ | refine dY ?_ | refine dN ?_ | (refine tell ?_ ?_ <;> intro hQ <;> try dsimp only at hQ)) | refine aS ?_ | refine ai ?_ | fail) <;> conv=>whnf)
  refine aV false hn1.symm fun (c : Bool) (hc : c = _)=>?_
  have hobt : c = false:=hc.trans hn1
  obtain rfl:=hobt
  conv=>whnf
  repeat' ((first | (refine (?_ : TG _ _); first | refine tY ?_ | refine tN ?_ | refine dY ?_ | refine dN ?_ | (refine tell ?_ ?_ <;> intro hQ <;> try dsimp only at hQ)) | refine aS ?_ | refine ai ?_ | fail) <;> conv=>whnf)
  refine aV false hn2.symm fun (c : Bool) (hc : c = _)=>?_
  have hobt : c = false:=hc.trans hn2
  obtain rfl:=hobt
  conv=>whnf
  repeat' ((first | (refine (?_ : TG _ _); first | refine tY ?_ | refine tN ?_ | refine dY ?_ | refine dN ?_ | (refine tell ?_ ?_ <;> intro hQ <;> try dsimp only at hQ)) | refine aS ?_ | refine ai ?_ | fail) <;> conv=>whnf)
  exact ⟨j + 1,[],hlt,rn en⟩
 have hobt : j = fl.length:=by omega
 obtain rfl:=hobt
 have hel : es.length ≤ 120:=hR.len
 have hFi : ∀ p ∈ fl,InI p.2:=fun p hp=>by
  have h40 : N ≤ 40:=hR.most
  have hobt:=hF.each p hp
  obtain ⟨_,h1,(h2 : p.2 < N)⟩:=hobt
  unfold InI; omega
 conv=>whnf
 repeat' ((first | (refine (?_ : TG _ _); first | refine tY ?_ | refine tN ?_ | refine dY ?_ | refine dN ?_ | (refine tell ?_ ?_ <;> intro hQ <;> try dsimp only at hQ)) | refine aS ?_ | refine ai ?_ | fail) <;> conv=>whnf)
 refine ⟨_,m_right,(N,es),[],true,?_⟩
 conv=>whnf
 refine And.intro (vc0 hG (by (repeat' (first | exact trivial | exact rfl | refine And.intro ?_ ?_ | (refine congrArg vI ?_; first | omega | (dsimp only; omega) | fail) | (refine congrArg some ?_) | omega | exact Nat.le_refl _ | exact congrArg (SV.lst _) (List.take_of_length_le (Nat.le_refl _)).symm))) (by repeat' (first | exact trivial | exact rfl | refine And.intro ?_ ?_ | (refine congrArg vI ?_; first | omega | (dsimp only; omega) | fail) | (refine congrArg some ?_) | omega | exact Nat.le_refl _ | exact congrArg (SV.lst _) (List.take_of_length_le (Nat.le_refl _)).symm)) trivial (.inr (fun _=>⟨rfl,fun h ct he=>by rcases h with _ | _ | h <;> first | (cases he; done) | (cases he; rfl)⟩))) ?_
 conv=>whnf
 refine aV true (right_yes hR) fun (c : Bool) (hc : c = true ↔ RightL N es)=>?_
 have hobt : c = true:=hc.2 hR
 obtain rfl:=hobt
 conv=>whnf
 repeat' ((first | (refine (?_ : TG _ _); first | refine tY ?_ | refine tN ?_ | refine dY ?_ | refine dN ?_ | (refine tell ?_ ?_ <;> intro hQ <;> try dsimp only at hQ)) | refine aS ?_ | refine ai ?_ | fail) <;> conv=>whnf)
 refine ⟨_,m_clSE,es,[0],false,?_⟩
 conv=>whnf
 refine vcA ⟨he0,(show es.length ≤ 1000000000 by omega)⟩ ?_
 refine uU ?_
 conv=>whnf
 conv=>whnf
 repeat' ((first | (refine (?_ : TG _ _); first | refine tY ?_ | refine tN ?_ | refine dY ?_ | refine dN ?_ | (refine tell ?_ ?_ <;> intro hQ <;> try dsimp only at hQ)) | refine aS ?_ | refine ai ?_ | fail) <;> conv=>whnf)
 refine ⟨_,m_clP,fl,[],false,?_⟩
 conv=>whnf
 refine vcA (show fl.length ≤ 1000000000 by omega) ?_
 refine uU ?_
 conv=>whnf
 conv=>whnf
 repeat' ((first | (refine (?_ : TG _ _); first | refine tY ?_ | refine tN ?_ | refine dY ?_ | refine dN ?_ | (refine tell ?_ ?_ <;> intro hQ <;> try dsimp only at hQ)) | refine aS ?_ | refine ai ?_ | fail) <;> conv=>whnf)
 refine ⟨_,m_mbegin,fl,[],false,?_⟩
 conv=>whnf
 refine vcA ⟨hp0,hp6,hFi⟩ ?_
 conv=>whnf
 have hobt:=tbOk_ex fl
 obtain ⟨tb0,htb0⟩:=hobt
 refine aV tb0 htb0 fun (tb : TM) (htb : TbOk fl tb)=>?_
 conv=>whnf
 repeat' ((first | (refine (?_ : TG _ _); first | refine tY ?_ | refine tN ?_ | refine dY ?_ | refine dN ?_ | (refine tell ?_ ?_ <;> intro hQ <;> try dsimp only at hQ)) | refine aS ?_ | refine ai ?_ | fail) <;> conv=>whnf)
 exact ⟨tb,[1089,1085,1087,2087,3087,4087],htb,a3⟩
def spMNewF : Spec AF where
 γ:=(Int × List Edge) × Int
 args:=fun g=>[.agg [vI g.1.1,.sl 0 3 0 g.1.2.length],.val (.slice none 0 0),vI g.2]
 own:=fun g=>[.arr 44 g.1.2]
 pre:=fun g=>RightL g.1.1 g.1.2 ∧ GoodL g.1.2
 res:=fun _ _=>.tup [.val (.pointer none),vI 1]
 own':=fun g _=>[some (.arr 44 g.1.2)]
theorem m_mnewF : Meets Tryz.prog regF 9 spMNewF:=by
 refine meets Tryz.func9 90 noWr ?_
 rintro ⟨⟨(N : Int),(es : List Edge)⟩,(win : Int)⟩ ⟨hR,hG⟩
 conv=>whnf
 repeat' ((first | (refine (?_ : TG _ _); first | refine tY ?_ | refine tN ?_ | refine dY ?_ | refine dN ?_ | (refine tell ?_ ?_ <;> intro hQ <;> try dsimp only at hQ)) | refine aS ?_ | refine ai ?_ | fail) <;> conv=>whnf)
 refine ⟨Unit,fun _=>⟨[(1,.val (.slice none 0 0)),(2,vI win),(3,.ptr 1003 0 2 0),(15,vI 0),(16,vI 0)],[(0,.arr 44 es),(1003,.cells [vI N,.sl 0 3 0 es.length])]⟩,fun _=>True,fun _=>0,fun _ _=>rfl,⟨(),[],trivial,en⟩,?_⟩
 rintro _ _
 conv=>whnf
 repeat' ((first | (refine (?_ : TG _ _); first | refine tY ?_ | refine tN ?_ | refine dY ?_ | refine dN ?_ | (refine tell ?_ ?_ <;> intro hQ <;> try dsimp only at hQ)) | refine aS ?_ | refine ai ?_ | fail) <;> conv=>whnf)
 refine ⟨_,m_right,(N,es),[],true,?_⟩
 conv=>whnf
 refine And.intro (vc0 hG (by (repeat' (first | exact trivial | exact rfl | refine And.intro ?_ ?_ | (refine congrArg vI ?_; first | omega | (dsimp only; omega) | fail) | (refine congrArg some ?_) | omega | exact Nat.le_refl _ | exact congrArg (SV.lst _) (List.take_of_length_le (Nat.le_refl _)).symm))) (by repeat' (first | exact trivial | exact rfl | refine And.intro ?_ ?_ | (refine congrArg vI ?_; first | omega | (dsimp only; omega) | fail) | (refine congrArg some ?_) | omega | exact Nat.le_refl _ | exact congrArg (SV.lst _) (List.take_of_length_le (Nat.le_refl _)).symm)) trivial (.inr (fun _=>⟨rfl,fun h ct he=>by rcases h with _ | _ | h <;> first | (cases he; done) | (cases he; rfl)⟩))) ?_
 conv=>whnf
 refine aV true (right_yes hR) fun (c : Bool) (hc : c = true ↔ RightL N es)=>?_
 have hobt : c = true:=hc.2 hR
 obtain rfl:=hobt
 conv=>whnf
 repeat' ((first | (refine (?_ : TG _ _); first | refine tY ?_ | refine tN ?_ | refine dY ?_ | refine dN ?_ | (refine tell ?_ ?_ <;> intro hQ <;> try dsimp only at hQ)) | refine aS ?_ | refine ai ?_ | fail) <;> conv=>whnf)
 exact ⟨(),[],trivial,a3⟩
end
end Go.Sx
namespace Go.Sx
noncomputable section
open Go Go.Proofs Go.Proofs.YtcehbnfhlcfinaaGreatDoor
open Go.Shelf
def spSub1 : Spec AF where
 γ:=MS × Int
 δ:=Txt
 args:=fun g=>[.ptr 0 0 2 0,vI g.2]
 own:=fun g=>msB g.1
 pre:=fun g=>g.1.bs.length ≤ 100000000 ∧ (g.1.f = false → g.1.bs = []) ∧ g.1.fl.length ≤ 1000000 ∧ g.1.js.length < 50 ∧ placeB g.1.n g.1.fl g.2 = true
 nnew:=2
 res:=fun g d=>.tup [vI ((g.1.js.length : Int) + 1),vI 0]
 own':=fun g d=>[some m0C,some (yardCt g.1),some (knowAt 9 10 (noteJ g.1 g.2 d)),some (.arr 111 g.1.ps),none,some tbC,some (.map 3 3 g.1.tb),none,some (.arr 51 g.1.past),some (.arr 63 (noteJ g.1 g.2 d).js),some (.arr 5 (iB (noteJ g.1 g.2 d).bs))]
 post:=fun g d=>d.length ≤ 100000
theorem m_sub1 : Meets Tryz.prog regF 6 spSub1:=by
 refine meets Tryz.func6 37 noWr ?_
 rintro ⟨⟨n,es,fl,win,dn,past,ps,(js : List JobT),tb,f,(bs : List UInt8)⟩,(t : Int)⟩ ⟨(hb : bs.length ≤ 100000000),(hf : f = false → bs = []),(hfl : fl.length ≤ 1000000),(hj : js.length < 50),(hp : placeB n fl t = true)⟩
 cases f
 ·conv=>whnf
  repeat' ((first | (refine (?_ : TG _ _); first | refine tY ?_ | refine tN ?_ | refine dY ?_ | refine dN ?_ | (refine tell ?_ ?_ <;> intro hQ <;> try dsimp only at hQ)) | refine aS ?_ | refine ai ?_ | fail) <;> conv=>whnf)
  refine ⟨_,m_place,(⟨n,es,fl,win,dn,past,ps,js,tb,true,bs⟩,t),[1,8],false,?_⟩
  conv=>whnf
  refine vcA hfl ?_
  conv=>whnf
  refine aV _ rfl fun (c : Bool) (hc : c = placeB n fl t)=>?_
  have hobt : c = true:=hc.trans hp
  obtain rfl:=hobt
  conv=>whnf
  repeat' ((first | (refine (?_ : TG _ _); first | refine tY ?_ | refine tN ?_ | refine dY ?_ | refine dN ?_ | (refine tell ?_ ?_ <;> intro hQ <;> try dsimp only at hQ)) | refine aS ?_ | refine ai ?_ | fail) <;> conv=>whnf)
  refine ⟨_,m_noJ1,(⟨n,es,fl,win,dn,past,ps,js,tb,false,bs⟩,t),[0,1,2,3,4,5,6,7,8],false,?_⟩
  conv=>whnf
  refine vcA ⟨hb,hf,hfl,hj,hp⟩ ?_
  conv=>whnf
  refine aV [] (by show 0 ≤ 100000; decide) fun (l : Txt) (hl : l.length ≤ 100000)=>?_
  have eJ : ((js ++ [((js.length : Int) + 1,t,(1 : Int),(-1 : Int))]).length : Int) = (js.length : Int) + 1:=by simp
  conv=>whnf
  repeat' ((first | (refine (?_ : TG _ _); first | refine tY ?_ | refine tN ?_ | refine dY ?_ | refine dN ?_ | (refine tell ?_ ?_ <;> intro hQ <;> try dsimp only at hQ)) | refine aS ?_ | refine ai ?_ | fail) <;> conv=>whnf)
  exact ⟨l,[1027,2027],hl,a3⟩
 ·conv=>whnf
  repeat' ((first | (refine (?_ : TG _ _); first | refine tY ?_ | refine tN ?_ | refine dY ?_ | refine dN ?_ | (refine tell ?_ ?_ <;> intro hQ <;> try dsimp only at hQ)) | refine aS ?_ | refine ai ?_ | fail) <;> conv=>whnf)
  refine ⟨_,m_place,(⟨n,es,fl,win,dn,past,ps,js,tb,true,bs⟩,t),[1,8],false,?_⟩
  conv=>whnf
  refine vcA hfl ?_
  conv=>whnf
  refine aV _ rfl fun (c : Bool) (hc : c = placeB n fl t)=>?_
  have hobt : c = true:=hc.trans hp
  obtain rfl:=hobt
  conv=>whnf
  repeat' ((first | (refine (?_ : TG _ _); first | refine tY ?_ | refine tN ?_ | refine dY ?_ | refine dN ?_ | (refine tell ?_ ?_ <;> intro hQ <;> try dsimp only at hQ)) | refine aS ?_ | refine ai ?_ | fail) <;> conv=>whnf)
  refine ⟨_,m_noJ1,(⟨n,es,fl,win,dn,past,ps,js,tb,true,bs⟩,t),[0,1,2,3,4,5,6,7,8],false,?_⟩
  conv=>whnf
  refine vcA ⟨hb,hf,hfl,hj,hp⟩ ?_
  conv=>whnf
  refine aV [] (by show 0 ≤ 100000; decide) fun (l : Txt) (hl : l.length ≤ 100000)=>?_
  have eJ : ((js ++ [((js.length : Int) + 1,t,(1 : Int),(-1 : Int))]).length : Int) = (js.length : Int) + 1:=by simp
  conv=>whnf
  repeat' ((first | (refine (?_ : TG _ _); first | refine tY ?_ | refine tN ?_ | refine dY ?_ | refine dN ?_ | (refine tell ?_ ?_ <;> intro hQ <;> try dsimp only at hQ)) | refine aS ?_ | refine ai ?_ | fail) <;> conv=>whnf)
  exact ⟨l,[1027,2027],hl,a3⟩
def spSub0 : Spec AF where
 γ:=MS × Int
 args:=fun g=>[.ptr 0 0 2 0,vI g.2]
 own:=fun g=>msB g.1
 pre:=fun g=>g.1.fl.length ≤ 1000000 ∧ (50 ≤ g.1.js.length ∧ g.1.js.length ≤ 1000) ∧ placeB g.1.n g.1.fl g.2 = true
 res:=fun g d=>.tup [vI 0,vI 190]
 own':=fun g d=>(msB g.1).map some
 post:=fun g d=>True
theorem m_sub0 : Meets Tryz.prog regF 6 spSub0:=by
 refine meets Tryz.func6 37 noWr ?_
 rintro ⟨⟨n,es,fl,win,dn,past,ps,(js : List JobT),tb,f,(bs : List UInt8)⟩,(t : Int)⟩ ⟨(hfl : fl.length ≤ 1000000),⟨(hj : 50 ≤ js.length),(hj2 : js.length ≤ 1000)⟩,(hp : placeB n fl t = true)⟩
 cases f
 ·conv=>whnf
  repeat' ((first | (refine (?_ : TG _ _); first | refine tY ?_ | refine tN ?_ | refine dY ?_ | refine dN ?_ | (refine tell ?_ ?_ <;> intro hQ <;> try dsimp only at hQ)) | refine aS ?_ | refine ai ?_ | fail) <;> conv=>whnf)
  refine ⟨_,m_place,(⟨n,es,fl,win,dn,past,ps,js,tb,true,bs⟩,t),[1,8],false,?_⟩
  conv=>whnf
  refine vcA hfl ?_
  conv=>whnf
  refine aV _ rfl fun (c : Bool) (hc : c = placeB n fl t)=>?_
  have hobt : c = true:=hc.trans hp
  obtain rfl:=hobt
  conv=>whnf
  repeat' ((first | (refine (?_ : TG _ _); first | refine tY ?_ | refine tN ?_ | refine dY ?_ | refine dN ?_ | (refine tell ?_ ?_ <;> intro hQ <;> try dsimp only at hQ)) | refine aS ?_ | refine ai ?_ | fail) <;> conv=>whnf)
  refine ⟨_,m_noJ0,(⟨n,es,fl,win,dn,past,ps,js,tb,false,bs⟩,t),[0,1,2,3,4,5,6,7,8],false,?_⟩
  conv=>whnf
  refine vcA ⟨hj,hj2⟩ ?_
  refine uU ?_
  conv=>whnf
  conv=>whnf
  repeat' ((first | (refine (?_ : TG _ _); first | refine tY ?_ | refine tN ?_ | refine dY ?_ | refine dN ?_ | (refine tell ?_ ?_ <;> intro hQ <;> try dsimp only at hQ)) | refine aS ?_ | refine ai ?_ | fail) <;> conv=>whnf)
  exact ⟨(),[],trivial,a3⟩
 ·conv=>whnf
  repeat' ((first | (refine (?_ : TG _ _); first | refine tY ?_ | refine tN ?_ | refine dY ?_ | refine dN ?_ | (refine tell ?_ ?_ <;> intro hQ <;> try dsimp only at hQ)) | refine aS ?_ | refine ai ?_ | fail) <;> conv=>whnf)
  refine ⟨_,m_place,(⟨n,es,fl,win,dn,past,ps,js,tb,true,bs⟩,t),[1,8],false,?_⟩
  conv=>whnf
  refine vcA hfl ?_
  conv=>whnf
  refine aV _ rfl fun (c : Bool) (hc : c = placeB n fl t)=>?_
  have hobt : c = true:=hc.trans hp
  obtain rfl:=hobt
  conv=>whnf
  repeat' ((first | (refine (?_ : TG _ _); first | refine tY ?_ | refine tN ?_ | refine dY ?_ | refine dN ?_ | (refine tell ?_ ?_ <;> intro hQ <;> try dsimp only at hQ)) | refine aS ?_ | refine ai ?_ | fail) <;> conv=>whnf)
  refine ⟨_,m_noJ0,(⟨n,es,fl,win,dn,past,ps,js,tb,true,bs⟩,t),[0,1,2,3,4,5,6,7,8],false,?_⟩
  conv=>whnf
  refine vcA ⟨hj,hj2⟩ ?_
  refine uU ?_
  conv=>whnf
  conv=>whnf
  repeat' ((first | (refine (?_ : TG _ _); first | refine tY ?_ | refine tN ?_ | refine dY ?_ | refine dN ?_ | (refine tell ?_ ?_ <;> intro hQ <;> try dsimp only at hQ)) | refine aS ?_ | refine ai ?_ | fail) <;> conv=>whnf)
  exact ⟨(),[],trivial,a3⟩
def spSubP : Spec AF where
 γ:=MS × Int
 args:=fun g=>[.ptr 0 0 2 0,vI g.2]
 own:=fun g=>msB g.1
 pre:=fun g=>g.1.fl.length ≤ 1000000 ∧ placeB g.1.n g.1.fl g.2 = false
 res:=fun g d=>.tup [vI 0,vI 191]
 own':=fun g d=>(msB g.1).map some
 post:=fun g d=>True
theorem m_subP : Meets Tryz.prog regF 6 spSubP:=by
 refine meets Tryz.func6 37 noWr ?_
 rintro ⟨⟨n,es,fl,win,dn,past,ps,(js : List JobT),tb,f,(bs : List UInt8)⟩,(t : Int)⟩ ⟨(hfl : fl.length ≤ 1000000),(hp : placeB n fl t = false)⟩
 cases f
 ·conv=>whnf
  repeat' ((first | (refine (?_ : TG _ _); first | refine tY ?_ | refine tN ?_ | refine dY ?_ | refine dN ?_ | (refine tell ?_ ?_ <;> intro hQ <;> try dsimp only at hQ)) | refine aS ?_ | refine ai ?_ | fail) <;> conv=>whnf)
  refine ⟨_,m_place,(⟨n,es,fl,win,dn,past,ps,js,tb,true,bs⟩,t),[1,8],false,?_⟩
  conv=>whnf
  refine vcA hfl ?_
  conv=>whnf
  refine aV _ rfl fun (c : Bool) (hc : c = placeB n fl t)=>?_
  have hobt : c = false:=hc.trans hp
  obtain rfl:=hobt
  conv=>whnf
  repeat' ((first | (refine (?_ : TG _ _); first | refine tY ?_ | refine tN ?_ | refine dY ?_ | refine dN ?_ | (refine tell ?_ ?_ <;> intro hQ <;> try dsimp only at hQ)) | refine aS ?_ | refine ai ?_ | fail) <;> conv=>whnf)
  exact ⟨(),[],trivial,a3⟩
 ·conv=>whnf
  repeat' ((first | (refine (?_ : TG _ _); first | refine tY ?_ | refine tN ?_ | refine dY ?_ | refine dN ?_ | (refine tell ?_ ?_ <;> intro hQ <;> try dsimp only at hQ)) | refine aS ?_ | refine ai ?_ | fail) <;> conv=>whnf)
  refine ⟨_,m_place,(⟨n,es,fl,win,dn,past,ps,js,tb,true,bs⟩,t),[1,8],false,?_⟩
  conv=>whnf
  refine vcA hfl ?_
  conv=>whnf
  refine aV _ rfl fun (c : Bool) (hc : c = placeB n fl t)=>?_
  have hobt : c = false:=hc.trans hp
  obtain rfl:=hobt
  conv=>whnf
  repeat' ((first | (refine (?_ : TG _ _); first | refine tY ?_ | refine tN ?_ | refine dY ?_ | refine dN ?_ | (refine tell ?_ ?_ <;> intro hQ <;> try dsimp only at hQ)) | refine aS ?_ | refine ai ?_ | fail) <;> conv=>whnf)
  exact ⟨(),[],trivial,a3⟩
end
end Go.Sx
namespace Go.Sx
noncomputable section
open Go Go.Proofs Go.Proofs.YtcehbnfhlcfinaaGreatDoor
open Go.Shelf
abbrev tb7 : TM:=[(0,0),(1000,0),(1,0),(1001,0),(2,0),(1002,0)]
theorem claim7 : claimL 0 [(0,0)] path7 = tb7:=rfl
theorem sort7 : sortK tb7 = [0,1,2,1000,1001,1002]:=by
 have h:=sortK_of (ss:=[0,1,2,1000,1001,1002]) (es:=tb7) (by decide)
 rw [← h]
 exact List.mergeSort_of_pairwise (by decide)
theorem of7 : ofL tb7 0 = [0,1,2,1000,1001,1002]:=by
 unfold ofL
 rw [sort7]
 rfl
abbrev fl1 : List HomT:=[(bS vT,0)]
theorem fleet1 : FleetOk 3 fl1:=⟨by decide,by decide,fun p hp=>by
 rw [List.mem_singleton] at hp
 subst hp
 exact ⟨⟨vT,rfl,by decide,by decide⟩,by decide,by decide⟩,List.pairwise_singleton _ _⟩
theorem fl1_len : fl1.length ≤ 1000000:=by decide
theorem place0 : placeB 3 fl1 0 = false:=by decide
theorem clens2 : CLens (ctl2 c1 (goalN c1.2.2.2.2.2.2.1) ordA):=⟨by decide,by decide,by decide⟩
theorem own7 : ofL (claimL 0 [(0,0)] path7) 0 = [0,1,2,1000,1001,1002]:=by rw [claim7]; exact of7
theorem tb7_ok : (claimL 0 [(0,0)] path7).length ≤ 17592186044416 ∧ ∀ p ∈ claimL 0 [(0,0)] path7,InI p.1:=by
 rw [claim7]
 refine ⟨by decide,fun p hp=>?_⟩
 simp only [List.mem_cons,List.not_mem_nil,or_false] at hp
 rcases hp with rfl | rfl | rfl | rfl | rfl | rfl <;> (unfold InI; decide)
abbrev S0 : MS:=⟨3,ring3,fl1,0,false,[],psOf fl1,[],[(0,0)],false,[]⟩
def spAwake : Spec AF where
 γ:=Unit
 args:=fun _=>[]
 res:=fun _ _=>vB true
theorem m_awake : Meets Tryz.prog regF 4 spAwake:=by
 refine meetsC Tryz.func4 109 noWr ?_
 rintro _ _
 conv=>whnf
 repeat' ((first | (refine (?_ : TG _ _); first | refine tY ?_ | refine tN ?_ | refine dY ?_ | refine dN ?_ | (refine tell ?_ ?_ <;> intro hQ <;> try dsimp only at hQ)) | refine aS ?_ | refine ai ?_ | refine ⟨none,?_⟩ | fail) <;> conv=>whnf)
 refine ⟨_,m_mnewO,((3,ring3),fl1,0),[1017],false,?_⟩
 conv=>whnf
 refine vcA ⟨ring_right,ring_good,fleet1,by decide,by decide,by decide⟩ ?_
 conv=>whnf
 refine aV [(0,0)] (fun p h=>by cases h; rfl) fun (tb : TM) (htb : TbOk fl1 tb)=>?_
 have hobt : tb = [(0,0)]:=htb _ rfl
 obtain rfl:=hobt
 conv=>whnf
 repeat' ((first | (refine (?_ : TG _ _); first | refine tY ?_ | refine tN ?_ | refine dY ?_ | refine dN ?_ | (refine tell ?_ ?_ <;> intro hQ <;> try dsimp only at hQ)) | refine aS ?_ | refine ai ?_ | refine ⟨none,?_⟩ | fail) <;> conv=>whnf)
 refine ⟨_,m_mnewF,((3,ring3),0),[1017],false,?_⟩
 conv=>whnf
 refine vcA ⟨ring_right,ring_good⟩ ?_
 refine uU ?_
 conv=>whnf
 conv=>whnf
 repeat' ((first | (refine (?_ : TG _ _); first | refine tY ?_ | refine tN ?_ | refine dY ?_ | refine dN ?_ | (refine tell ?_ ?_ <;> intro hQ <;> try dsimp only at hQ)) | refine aS ?_ | refine ai ?_ | fail) <;> conv=>whnf)
 refine ⟨none,?_⟩
 conv=>whnf
 conv=>whnf
 repeat' ((first | (refine (?_ : TG _ _); first | refine tY ?_ | refine tN ?_ | refine dY ?_ | refine dN ?_ | (refine tell ?_ ?_ <;> intro hQ <;> try dsimp only at hQ)) | refine aS ?_ | refine ai ?_ | fail) <;> conv=>whnf)
 refine ⟨none,?_⟩
 conv=>whnf
 refine ⟨some (⟨[(2,.ptr 1023 0 2 0)],[(1023,.cells [.ptr 2023 0 8 0,.ptr 3023 0 5 0]),(2023,.cells [vI 3,.lst 44 ring3,.lst 48 fl1,vI 0,vW 0,.val (.int .i32 0),vW 0,.sl 3008 1 0 0]),(3023,.row 86 [.sl 4023 20 0 1,.sl 3004 4 0 0,.ptr 5023 0 1 0,.val (.pointer none),.sl 3007 1 0 0]),(4023,.arr 111 (psOf fl1)),(3004,.arr 63 []),(5023,.cells [.mp 6023]),(6023,.map 3 3 [(0,0)]),(3007,.arr 5 []),(3008,.arr 51 [])]⟩,[(3004,3014),(3007,3017),(3008,3018)]),?_⟩
 conv=>whnf
 refine ⟨rfl,en,?_⟩
 as_aux_lemma=>
 have hpl : path7.length = 7:=rfl
 have hj0 : [((1,2,2,0) : JobT)][0]? = some (1,2,2,0):=rfl
 conv=>whnf
 repeat' ((first | (refine (?_ : TG _ _); first | refine tY ?_ | refine tN ?_ | refine dY ?_ | refine dN ?_ | (refine tell ?_ ?_ <;> intro hQ <;> try dsimp only at hQ)) | refine aS ?_ | refine ai ?_ | fail) <;> conv=>whnf)
 refine ⟨_,m_sub1,(S0,2),[1023,2023,3023,4023,3004,5023,6023,3007,3008],false,?_⟩
 conv=>whnf
 refine vcA ⟨by decide,fun _=>rfl,by decide,by decide,by decide⟩ ?_
 conv=>whnf
 refine aV [] (by show 0 ≤ 100000; decide) fun (l : Txt) (hl : l.length ≤ 100000)=>?_
 conv=>whnf
 repeat' ((first | (refine (?_ : TG _ _); first | refine tY ?_ | refine tN ?_ | refine dY ?_ | refine dN ?_ | (refine tell ?_ ?_ <;> intro hQ <;> try dsimp only at hQ)) | refine aS ?_ | refine ai ?_ | refine ⟨none,?_⟩ | fail) <;> conv=>whnf)
 refine ⟨_,m_subP,(noteJ S0 2 l,0),[1023,2023,3023,4023,1043,5023,6023,2043,3008],false,?_⟩
 conv=>whnf
 refine vcA ⟨fl1_len,place0⟩ ?_
 refine uU ?_
 conv=>whnf
 conv=>whnf
 repeat' ((first | (refine (?_ : TG _ _); first | refine tY ?_ | refine tN ?_ | refine dY ?_ | refine dN ?_ | (refine tell ?_ ?_ <;> intro hQ <;> try dsimp only at hQ)) | refine aS ?_ | refine ai ?_ | refine ⟨none,?_⟩ | fail) <;> conv=>whnf)
 refine ⟨_,m_step,l,[1023,2023,3023,4023,1043,5023,6023,2043,3008],false,?_⟩
 conv=>whnf
 refine vcA (show l.length ≤ 10000000 by omega) ?_
 conv=>whnf
 refine aV (([],[]),[]) ⟨by show 0 ≤ 100000; decide,by show 0 ≤ 100000; decide⟩ fun (d : (Txt × Txt) × Txt) _=>?_
 obtain ⟨⟨l2,l3⟩,dt⟩:=d
 have hm0 : [((bS awT,bS dt,false) : ByteArray × ByteArray × Bool)][0]? = some (bS awT,bS dt,false):=rfl
 conv=>whnf
 repeat' ((first | (refine (?_ : TG _ _); first | refine tY ?_ | refine tN ?_ | refine dY ?_ | refine dN ?_ | (refine tell ?_ ?_ <;> intro hQ <;> try dsimp only at hQ)) | refine aS ?_ | refine ai ?_ | refine ⟨none,?_⟩ | fail) <;> conv=>whnf)
 refine ⟨_,m_jobs,sC l l2 l3,[1023,2023,3023,4023,1043,5023,6023,2052,1052],false,?_⟩
 conv=>whnf
 refine vcA ⟨rfl,by show 0 < 1; decide,by show 1 ≤ 1000; decide⟩ ?_
 refine uU ?_
 conv=>whnf
 conv=>whnf
 repeat' ((first | (refine (?_ : TG _ _); first | refine tY ?_ | refine tN ?_ | refine dY ?_ | refine dN ?_ | (refine tell ?_ ?_ <;> intro hQ <;> try dsimp only at hQ)) | refine aS ?_ | refine ai ?_ | refine ⟨none,?_⟩ | fail) <;> conv=>whnf)
 refine ⟨_,m_ctl,(sC l l2 l3,ctl2 c1 (goalN c1.2.2.2.2.2.2.1) ordA,⟨#[]⟩,0,3),[1023,2023,3023,4023,1043,5023,6023,2052,1052],false,?_⟩
 conv=>whnf
 refine vcA ⟨rfl,rfl,clens2⟩ ?_
 refine uU ?_
 conv=>whnf
 conv=>whnf
 repeat' ((first | (refine (?_ : TG _ _); first | refine tY ?_ | refine tN ?_ | refine dY ?_ | refine dN ?_ | (refine tell ?_ ?_ <;> intro hQ <;> try dsimp only at hQ)) | refine aS ?_ | refine aX hm0 ?_ | refine aL hm0 ?_ | refine aX hj0 ?_ | refine aL hj0 ?_ | refine ai ?_ | refine ⟨none,?_⟩ | fail) <;> conv=>whnf)
 refine ⟨_,m_owned,sC l l2 l3,[1023,2023,3023,4023,1043,5023,6023,2052,1052],false,?_⟩
 conv=>whnf
 refine vcA ⟨rfl,tb7_ok⟩ ?_
 refine uU ?_
 conv=>whnf
 conv=>whnf
 repeat' ((first | (refine (?_ : TG _ _); first | refine tY ?_ | refine tN ?_ | refine dY ?_ | refine dN ?_ | (refine tell ?_ ?_ <;> intro hQ <;> try dsimp only at hQ)) | refine aS ?_ | refine ai ?_ | refine ⟨none,?_⟩ | fail) <;> conv=>whnf)
 refine ⟨_,m_ints,(ofL (claimL 0 [(0,0)] path7) 0,[0,1,2,1000,1001,1002]),[],false,?_⟩
 conv=>whnf
 refine vcA (show (ofL (claimL 0 [(0,0)] path7) 0).length ≤ 9223372036854775807 by rw [own7]; decide) ?_
 conv=>whnf
 refine aV true ⟨fun _=>own7,fun _=>rfl⟩ fun (c : Bool) (hc : c = true ↔ ofL (claimL 0 [(0,0)] path7) 0 = [0,1,2,1000,1001,1002])=>?_
 have hobt : c = true:=hc.2 own7
 obtain rfl:=hobt
 conv=>whnf
 repeat' ((first | (refine (?_ : TG _ _); first | refine tY ?_ | refine tN ?_ | refine dY ?_ | refine dN ?_ | (refine tell ?_ ?_ <;> intro hQ <;> try dsimp only at hQ)) | refine aS ?_ | refine ai ?_ | refine ⟨none,?_⟩ | fail) <;> conv=>whnf)
 exact ⟨(),[],trivial,a3⟩
end
end Go.Sx
namespace Go.Sx
noncomputable section
open Go Go.Proofs Go.Proofs.YtcehbnfhlcfinaaGreatDoor
open Go.Shelf
theorem m_pick19 : Meets Tryz.prog regF 7 spPick:=by
 refine meets Tryz.func7 13 noWr ?_
 rintro ⟨(c : Int),(n : Int)⟩ ⟨⟨hc1,hc2⟩,(hn : 0 < n)⟩
 conv=>whnf
 repeat' ((first | (refine (?_ : TG _ _); first | refine tY ?_ | refine tN ?_ | refine dY ?_ | refine dN ?_ | (refine tell ?_ ?_ <;> intro hQ <;> try dsimp only at hQ)) | refine aS ?_ | refine ai ?_ | fail) <;> conv=>whnf)
 all_goals exact ⟨(),[],trivial,eI (by unfold pickF; first | rw [if_pos (by assumption)] | rw [if_neg (by assumption)]),trivial,trivial⟩
structure EdgesOk (m : Int) (k : Nat) (es : List Edge) : Prop where
 each : ∀ e ∈ es,EdgeOk m e
 apart : (es.map wayE).Nodup
 len : es.length ≤ k
theorem EdgeOk.up {m m' : Int} {e : Edge} (h : EdgeOk m e) (hm : m ≤ m') : EdgeOk m' e:=by
 obtain ⟨h1,h2,h3,h4,h5⟩:=h
 exact ⟨h1,by omega,h3,by omega,h5⟩
theorem EdgesOk.add {m m' : Int} {k : Nat} {es : List Edge} (h : EdgesOk m k es) (hm : m ≤ m') {e : Edge} (he : EdgeOk m' e) (hn : wayE e ∉ es.map wayE) : EdgesOk m' (k + 1) (es ++ [e]) :=
  ⟨fun x hx => by
    rcases List.mem_append.1 hx with hx | hx
    · exact (h.each x hx).up hm
    · rw [List.mem_singleton] at hx; subst hx; exact he,
   by
    rw [List.map_append]
    refine List.nodup_append.2 ⟨h.apart, by simp, fun x hx y hy hxy => ?_⟩
    simp at hy
    subst hy; subst hxy
    exact hn hx,
   by have := h.len; simp; omega⟩
theorem EdgesOk.new {m : Int} {k : Nat} {es : List Edge} (h : EdgesOk m k es) {a b : Int} (hab : m ≤ a ∨ m ≤ b) : (a,b) ∉ es.map wayE:=fun hm=>by
 have hobt:=List.mem_map.1 hm
 obtain ⟨e,he,hw⟩:=hobt
 have hobt:=h.each e he
 obtain ⟨_,h2,_,h4,_⟩:=hobt
 obtain ⟨e1,e2,e3⟩:=e
 have h5 : e1 = a:=congrArg Prod.fst hw
 have h6 : e2 = b:=congrArg Prod.snd hw
 subst h5 h6
 have h2 : e1 < m:=h2
 have h4 : e2 < m:=h4
 omega
theorem EdgesOk.right {m : Int} {k : Nat} {es : List Edge} (h : EdgesOk m k es) (h0 : 0 < m) (hm : m ≤ 40) (hk : k ≤ 120) : RightL m es:=⟨h0,hm,Nat.le_trans h.len hk,h.each,h.apart⟩
theorem EdgesOk.good {m : Int} {k : Nat} {es : List Edge} (h : EdgesOk m k es) (hm : m ≤ 40) (hk : k ≤ 120) : GoodL es:=⟨by have:=h.len; omega,fun e he=>by
 have hobt:=h.each e he
 obtain ⟨h1,h2,h3,h4,_⟩:=hobt
 unfold InI
 omega⟩
theorem EdgesOk.mono {m m' : Int} {k k' : Nat} {es : List Edge} (h : EdgesOk m k es) (hm : m ≤ m') (hk : k ≤ k') : EdgesOk m' k' es:=⟨fun e he=>(h.each e he).up hm,h.apart,Nat.le_trans h.len hk⟩
def ringL (c : Int) (j : Nat) : List Edge:=(List.range j).map fun i : Nat=>((i : Int),((i : Int) + 1).tmod c,2)
theorem ringL_succ (c : Int) (j : Nat) : ringL c (j + 1) = ringL c j ++ [((j : Int),((j : Int) + 1).tmod c,2)]:=by simp [ringL,List.range_succ]
theorem ringL_len (c : Int) (j : Nat) : (ringL c j).length = j:=by simp [ringL]
theorem ringL_ok {c : Int} (hc : 2 ≤ c) : ∀ j : Nat,(j : Int) ≤ c → EdgesOk c j (ringL c j)
 | 0,_=>⟨fun e he=>absurd he (by simp [ringL]),by simp [ringL],Nat.le_refl _⟩
 | j + 1,hj=>by
  have ih:=ringL_ok hc j (by omega)
  rw [ringL_succ]
  have e : ((j : Int) + 1).tmod c = if (j : Int) + 1 = c then 0 else (j : Int) + 1:=by
   rw [Int.tmod_eq_emod_of_nonneg (by omega)]
   split
   ·rename_i h; rw [h,Int.emod_self]
   ·exact Int.emod_eq_of_lt (by omega) (by omega)
  refine ih.add (Int.le_refl _) ?_ fun hm=>?_
  ·rw [e]
   refine ⟨by show (0 : Int) ≤ j; omega,by show (j : Int) < c; omega,?_,?_,?_,by show (1 : Int) ≤ 2; decide,by show (2 : Int) ≤ 1000; decide⟩
   ·show 0 ≤ if (j : Int) + 1 = c then 0 else (j : Int) + 1; split <;> omega
   ·show (if (j : Int) + 1 = c then 0 else (j : Int) + 1) < c; split <;> omega
   ·show (j : Int) ≠ if (j : Int) + 1 = c then 0 else (j : Int) + 1; split <;> omega
  ·have hobt:=List.mem_map.1 hm
   obtain ⟨x,hx,hw⟩:=hobt
   have hobt:=List.mem_map.1 hx
   obtain ⟨i,hi,rfl⟩:=hobt
   have h1 : (i : Int) = (j : Int):=congrArg Prod.fst hw
   have:=List.mem_range.1 hi
   omega
theorem idxF_none {w : Int × Int} : ∀ {es : List Edge} {j : Nat},idxF w es j < 0 → w ∉ es.map wayE
 | [],_,_,h=>by cases h
 | e :: es,j,h,hm=>by
  unfold idxF at h
  split at h
  ·omega
  ·rename_i hne
   rcases List.mem_cons.1 hm with h1 | h1
   ·exact hne h1.symm
   ·exact idxF_none h h1
abbrev nameL : Nat → Txt
 | 0=>[120]
 | 1=>[121]
 | _=>[122]
def fleetL (c : Int) (n : Nat) : List (ByteArray × Int):=(List.range n).map fun i : Nat=>(bS (nameL i),c + (i : Int))
theorem fleetL_succ (c : Int) (n : Nat) : fleetL c (n + 1) = fleetL c n ++ [(bS (nameL n),c + (n : Int))]:=by simp [fleetL,List.range_succ]
theorem fleetL_len (c : Int) (n : Nat) : (fleetL c n).length = n:=by simp [fleetL]
def spBetD : Spec AF where
 γ:=(Int × List Edge) × Int × Int
 δ:=Int × Bool
 args:=fun g=>[layS g.1.1 g.1.2,vI g.2.1,vI g.2.2]
 pre:=fun g=>RightL g.1.1 g.1.2 ∧ GoodL g.1.2
 res:=fun _ d=>.tup [vI d.1,vB d.2]
 post:=fun g d=>d.2 = false → g.2 ∉ g.1.2.map wayE
theorem betF_no {n : Int} {es : List Edge} {w : Int × Int} (hR : RightL n es) (h : (betF n es w).2 = false) : w ∉ es.map wayE:=by
 unfold betF at h
 split at h
 ·cases h
 ·rename_i hn
  exact idxF_none (j:=0) (by
   have : ¬ 0 ≤ idxF w es 0:=fun h=>hn ⟨hR,h⟩
   omega)
theorem m_betD : Meets Tryz.prog regF 33 spBetD:=
 meets_told m_between.1 fun g hg=>⟨spBetween,m_between,g,hg.2,rfl,rfl,rfl,fun _ _=>⟨betF g.1.1 g.1.2 g.2,betF_no hg.1,rfl,fun _ _ _ _ h=>h,fun _ h=>h⟩⟩
def YardOk (c : Int) (n : Nat) (es : List Edge) : Prop:=(2 ≤ c ∧ c ≤ 4) ∧ (1 ≤ n ∧ n ≤ 3) ∧ EdgesOk (c + n) 18 es ∧ 0 < es.length
def spYard : Spec AF where
 γ:=Int × Int × List (Int × Int × Int)
 δ:=Int × Nat × List Edge
 args:=fun g=>[vI g.1,vI g.2.1,.lst 126 g.2.2]
 pre:=fun g=>InI g.1 ∧ InI g.2.1 ∧ g.2.2.length ≤ 9223372036854775807 ∧ ∀ r ∈ g.2.2,InI r.1 ∧ InI r.2.1 ∧ InI r.2.2
 res:=fun _ d=>.tup [layS (d.1 + d.2.1) d.2.2,.lst 48 (fleetL d.1 d.2.1)]
 post:=fun _ d=>YardOk d.1 d.2.1 d.2.2
theorem m_yard : Meets Tryz.prog regF 14 spYard:=by
 refine meets Tryz.func14 137 noWr ?_
 rintro ⟨(core : Int),(cars : Int),(raw : List (Int × Int × Int))⟩ ⟨(h1 : InI core),(h2 : InI cars),(hl : raw.length ≤ 9223372036854775807),(hr : ∀ r ∈ raw,InI r.1 ∧ InI r.2.1 ∧ InI r.2.2)⟩
 have hp1:=pickF_bd (c:=core) (n:=3) (by decide)
 have hp2:=pickF_bd (c:=cars) (n:=3) (by decide)
 have hobt : ∃ c,2 + pickF core 3 = c:=⟨_,rfl⟩
 obtain ⟨c,hc⟩:=hobt
 have hobt : ∃ n : Nat,1 + pickF cars 3 = n:=⟨(1 + pickF cars 3).toNat,by omega⟩
 obtain ⟨n,hn⟩:=hobt
 conv=>whnf
 repeat' ((first | (refine (?_ : TG _ _); first | refine tY ?_ | refine tN ?_ | refine dY ?_ | refine dN ?_ | (refine tell ?_ ?_ <;> intro hQ <;> try dsimp only at hQ)) | refine aS ?_ | refine ai ?_ | fail) <;> conv=>whnf)
 refine ⟨_,m_pick19,(core,3),[],false,?_⟩
 conv=>whnf
 refine vcA ⟨h1,by show (0 : Int) < 3; decide⟩ ?_
 refine uU ?_
 conv=>whnf
 conv=>whnf
 repeat' ((first | (refine (?_ : TG _ _); first | refine tY ?_ | refine tN ?_ | refine dY ?_ | refine dN ?_ | (refine tell ?_ ?_ <;> intro hQ <;> try dsimp only at hQ)) | refine aS ?_ | refine ai ?_ | fail) <;> conv=>whnf)
 refine ⟨_,m_pick19,(cars,3),[],false,?_⟩
 conv=>whnf
 refine vcA ⟨h2,by show (0 : Int) < 3; decide⟩ ?_
 refine uU ?_
 conv=>whnf
 conv=>whnf
 repeat' ((first | (refine (?_ : TG _ _); first | refine tY ?_ | refine tN ?_ | refine dY ?_ | refine dN ?_ | (refine tell ?_ ?_ <;> intro hQ <;> try dsimp only at hQ)) | refine aS ?_ | refine ai ?_ | fail) <;> conv=>whnf)
 refine ⟨Nat,fun j=>⟨[(2,.lst 126 raw),(6,.ptr 1006 0 2 0),(8,vI c),(9,vI n),(10,.ptr 1010 0 2 0),(11,vI j)],[(1006,.cells [vI 0,.val (.slice none 0 0)]),(1010,.cells [vI (c + n),.sl 3001 3 0 j]),(3001,.arr 44 (ringL c j))]⟩,fun j=>(j : Int) ≤ c,fun j=>(c - j).toNat,fun _ _=>rfl,⟨0,[(3001,3011)],(show (0 : Int) ≤ c by omega),en⟩,?_⟩
 rintro (j : Nat) (hj : (j : Int) ≤ c)
 by_cases hlt : (j : Int) < c
 ·have hrl:=ringL_len c j
  have hre : ((ringL c j).drop 0).take j ++ [((j : Int),((j : Int) + 1).tmod c,(2 : Int))] = ringL c (j + 1):=by rw [List.drop_zero,List.take_of_length_le (by omega),ringL_succ]
  conv=>whnf
  repeat' ((first | (refine (?_ : TG _ _); first | refine tY ?_ | refine tN ?_ | refine dY ?_ | refine dN ?_ | (refine tell ?_ ?_ <;> intro hQ <;> try dsimp only at hQ)) | refine aS ?_ | refine ai ?_ | fail) <;> conv=>whnf)
  exact ⟨j + 1,[(3001,1042)],(show ((j + 1 : Nat) : Int) ≤ c by omega),rn en⟩
 have hcj : c = j:=by omega
 have hrok:=ringL_ok (c:=c) (by omega) j hj
 have hrl:=ringL_len c j
 have hj4 : j ≤ 4:=by omega
 clear hlt hj
 conv=>whnf
 repeat' ((first | (refine (?_ : TG _ _); first | refine tY ?_ | refine tN ?_ | refine dY ?_ | refine dN ?_ | (refine tell ?_ ?_ <;> intro hQ <;> try dsimp only at hQ)) | refine aS ?_ | refine ai ?_ | fail) <;> conv=>whnf)
 refine ⟨Nat × List Edge,fun q=>⟨[(2,.lst 126 raw),(6,.ptr 1006 0 2 0),(8,vI c),(9,vI n),(10,.ptr 1010 0 2 0),(12,vI q.1)],[(1006,.cells [vI 0,.val (.slice none 0 0)]),(1010,.cells [vI (c + n),.sl 3002 3 0 q.2.length]),(3002,.arr 44 q.2)]⟩,fun q=>q.1 ≤ 8 ∧ EdgesOk c (4 + q.1) q.2,fun q=>8 - q.1,fun _ _=>rfl,⟨(0,ringL c j),[(3002,3001)],⟨Nat.zero_le _,hrok.mono (Int.le_refl _) hj4⟩,en⟩,?_⟩
 rintro ⟨(i : Nat),(es : List Edge)⟩ ⟨(hi : i ≤ 8),(he : EdgesOk c (4 + i) es)⟩
 have hel : es.length ≤ 4 + i:=he.len
 have hro:=(he.mono (m':=c + n) (by omega) (Nat.le_refl _)).right (by omega) (by omega) (by omega)
 have hgo:=he.good (by omega) (by omega)
 by_cases hlt : i < raw.length
 ·by_cases h8 : i < 8
  ·have hobt : ∃ y,raw[i]? = some y:=⟨_,List.getElem?_eq_getElem hlt⟩
   obtain ⟨⟨r1,r2,r3⟩,hx1⟩:=hobt
   have hobt:=hr _ (List.mem_of_getElem? hx1)
   obtain ⟨(g1 : InI r1),(g2 : InI r2),(g3 : InI r3)⟩:=hobt
   have b1:=pickF_bd (c:=r1) (n:=c) (by omega)
   have b2:=pickF_bd (c:=r2) (n:=c) (by omega)
   have b3:=pickF_bd (c:=r3) (n:=9) (by decide)
   conv=>whnf
   repeat' ((first | (refine (?_ : TG _ _); first | refine tY ?_ | refine tN ?_ | refine dY ?_ | refine dN ?_ | (refine tell ?_ ?_ <;> intro hQ <;> try dsimp only at hQ)) | refine aS ?_ | refine aX hx1 ?_ | refine aL hx1 ?_ | refine ai ?_ | fail) <;> conv=>whnf)
   refine ⟨_,m_pick19,(r1,c),[],false,?_⟩
   conv=>whnf
   refine vcA ⟨g1,by show 0 < c; omega⟩ ?_
   refine uU ?_
   conv=>whnf
   conv=>whnf
   repeat' ((first | (refine (?_ : TG _ _); first | refine tY ?_ | refine tN ?_ | refine dY ?_ | refine dN ?_ | (refine tell ?_ ?_ <;> intro hQ <;> try dsimp only at hQ)) | refine aS ?_ | refine aX hx1 ?_ | refine aL hx1 ?_ | refine ai ?_ | fail) <;> conv=>whnf)
   refine ⟨_,m_pick19,(r2,c),[],false,?_⟩
   conv=>whnf
   refine vcA ⟨g2,by show 0 < c; omega⟩ ?_
   refine uU ?_
   conv=>whnf
   conv=>whnf
   repeat' ((first | (refine (?_ : TG _ _); first | refine tY ?_ | refine tN ?_ | refine dY ?_ | refine dN ?_ | (refine tell ?_ ?_ <;> intro hQ <;> try dsimp only at hQ)) | refine aS ?_ | refine aX hx1 ?_ | refine aL hx1 ?_ | refine ai ?_ | fail) <;> conv=>whnf)
   refine ⟨_,m_pick19,(r3,9),[],false,?_⟩
   conv=>whnf
   refine vcA ⟨g3,by show (0 : Int) < 9; decide⟩ ?_
   refine uU ?_
   conv=>whnf
   conv=>whnf
   repeat' ((first | (refine (?_ : TG _ _); first | refine tY ?_ | refine tN ?_ | refine dY ?_ | refine dN ?_ | (refine tell ?_ ?_ <;> intro hQ <;> try dsimp only at hQ)) | refine aS ?_ | refine ai ?_ | fail) <;> conv=>whnf)
   refine ⟨_,m_betD,((c + n,es),pickF r1 c,pickF r2 c),[],true,?_⟩
   conv=>whnf
   refine And.intro (vc0 ⟨hro,hgo⟩ (by (repeat' (first | exact trivial | exact rfl | refine And.intro ?_ ?_ | (refine congrArg vI ?_; first | omega | (dsimp only; omega) | fail) | (refine congrArg some ?_) | omega | exact Nat.le_refl _ | exact congrArg (SV.lst _) (List.take_of_length_le (Nat.le_refl _)).symm))) (by repeat' (first | exact trivial | exact rfl | refine And.intro ?_ ?_ | (refine congrArg vI ?_; first | omega | (dsimp only; omega) | fail) | (refine congrArg some ?_) | omega | exact Nat.le_refl _ | exact congrArg (SV.lst _) (List.take_of_length_le (Nat.le_refl _)).symm)) trivial (.inr (fun _=>⟨rfl,fun h ct he=>by rcases h with _ | _ | h <;> first | (cases he; done) | (cases he; rfl)⟩))) ?_
   refine aV ((0,true) : Int × Bool) (fun h=>by cases h) fun (d : Int × Bool) (hd : d.2 = false → (pickF r1 c,pickF r2 c) ∉ es.map wayE)=>?_
   obtain ⟨k,b⟩:=d
   cases b
   ·by_cases hne : pickF r1 c = pickF r2 c
    ·conv=>whnf
     repeat' ((first | (refine (?_ : TG _ _); first | refine tY ?_ | refine tN ?_ | refine dY ?_ | refine dN ?_ | (refine tell ?_ ?_ <;> intro hQ <;> try dsimp only at hQ)) | refine aS ?_ | refine ai ?_ | fail) <;> conv=>whnf)
     exact ⟨(i + 1,es),[],⟨h8,he.mono (Int.le_refl _) (by omega)⟩,rn en⟩
    ·have hadd : EdgesOk c (4 + (i + 1)) (es ++ [(pickF r1 c,pickF r2 c,1 + pickF r3 9)]):=he.add (Int.le_refl _) ⟨b1.1,b1.2,b2.1,b2.2,hne,by show 1 ≤ 1 + pickF r3 9; omega,by show 1 + pickF r3 9 ≤ 1000; omega⟩ (hd rfl)
     have heq : (es.drop 0).take es.length ++ [(pickF r1 c,pickF r2 c,1 + pickF r3 9)] = es ++ [(pickF r1 c,pickF r2 c,1 + pickF r3 9)]:=by rw [List.drop_zero,List.take_length]
     have hll : es.length + 1 = (es ++ [(pickF r1 c,pickF r2 c,1 + pickF r3 9)]).length:=by simp
     conv=>whnf
     repeat' ((first | (refine (?_ : TG _ _); first | refine tY ?_ | refine tN ?_ | refine dY ?_ | refine dN ?_ | (refine tell ?_ ?_ <;> intro hQ <;> try dsimp only at hQ)) | refine aS ?_ | refine ai ?_ | fail) <;> conv=>whnf)
     exact ⟨(i + 1,es ++ [(pickF r1 c,pickF r2 c,1 + pickF r3 9)]),[(3002,1098)],⟨h8,hadd⟩,rn en⟩
   ·conv=>whnf
    repeat' ((first | (refine (?_ : TG _ _); first | refine tY ?_ | refine tN ?_ | refine dY ?_ | refine dN ?_ | (refine tell ?_ ?_ <;> intro hQ <;> try dsimp only at hQ)) | refine aS ?_ | refine ai ?_ | fail) <;> conv=>whnf)
    exact ⟨(i + 1,es),[],⟨h8,he.mono (Int.le_refl _) (by omega)⟩,rn en⟩
  ·have hfin : EdgesOk c 12 es:=he.mono (Int.le_refl _) (by omega)
   clear hro hgo he
   conv=>whnf
   repeat' ((first | (refine (?_ : TG _ _); first | refine tY ?_ | refine tN ?_ | refine dY ?_ | refine dN ?_ | (refine tell ?_ ?_ <;> intro hQ <;> try dsimp only at hQ)) | refine aS ?_ | refine ai ?_ | fail) <;> conv=>whnf)
   refine ⟨Nat × List Edge,fun q=>⟨[(6,.ptr 1006 0 2 0),(8,vI c),(9,vI n),(10,.ptr 1010 0 2 0),(16,.sl 3003 2 0 q.1),(17,vI q.1)],[(1006,.cells [vI 0,.val (.slice none 0 0)]),(1010,.cells [vI (c + n),.sl 3002 3 0 q.2.length]),(3002,.arr 44 q.2),(3003,.arr 48 (fleetL c q.1))]⟩,fun q=>q.1 ≤ n ∧ EdgesOk (c + q.1) (12 + 2 * q.1) q.2 ∧ (0 < q.1 → 0 < q.2.length),fun q=>n - q.1,fun _ _=>rfl,⟨(0,es),[(3003,3011)],⟨Nat.zero_le _,hfin.mono (by omega) (by omega),fun h=>absurd h (Nat.lt_irrefl 0)⟩,en⟩,?_⟩
   rintro ⟨(v : Nat),(fs : List Edge)⟩ ⟨(hv : v ≤ n),(hf : EdgesOk (c + v) (12 + 2 * v) fs),(hf0 : 0 < v → 0 < fs.length)⟩
   by_cases hvn : v < n
   ·have hfl:=fleetL_len c v
    have hmod : 0 ≤ (v : Int).tmod c ∧ (v : Int).tmod c < c:=by rw [Int.tmod_eq_emod_of_nonneg (by omega)]; exact ⟨Int.emod_nonneg _ (by omega),Int.emod_lt_of_pos _ (by omega)⟩
    have ha1:=hf.add (m':=c + v + 1) (by omega) (e:=(c + v,(v : Int).tmod c,1)) ⟨by show 0 ≤ c + v; omega,by show c + v < c + v + 1; omega,hmod.1,by show (v : Int).tmod c < c + v + 1; omega,by show c + v ≠ (v : Int).tmod c; omega,by show (1 : Int) ≤ 1; decide,by show (1 : Int) ≤ 1000; decide⟩ (hf.new (.inl (Int.le_refl _)))
    have ha2:=ha1.add (m':=c + v + 1) (Int.le_refl _) (e:=((v : Int).tmod c,c + v,1)) ⟨hmod.1,by show (v : Int).tmod c < c + v + 1; omega,by show 0 ≤ c + v; omega,by show c + v < c + v + 1; omega,by show (v : Int).tmod c ≠ c + v; omega,by show (1 : Int) ≤ 1; decide,by show (1 : Int) ≤ 1000; decide⟩ (fun hm=>by
     rw [List.map_append,List.mem_append] at hm
     rcases hm with hm | hm
     ·exact hf.new (.inr (Int.le_refl _)) hm
     ·rw [List.map_singleton,List.mem_singleton] at hm
      have:=congrArg Prod.fst hm
      have this : (v : Int).tmod c = c + v:=this
      omega)
    have heq : (fs.drop 0).take fs.length ++ [(c + v,(v : Int).tmod c,1),((v : Int).tmod c,c + v,1)] = fs ++ [(c + v,(v : Int).tmod c,1)] ++ [((v : Int).tmod c,c + v,1)]:=by rw [List.drop_zero,List.take_length,List.append_assoc]; rfl
    have hll : fs.length + 2 = (fs ++ [(c + v,(v : Int).tmod c,1)] ++ [((v : Int).tmod c,c + v,1)]).length:=by simp
    have hfe : ((fleetL c v).drop 0).take v ++ [(bS (nameL v),c + (v : Int))] = fleetL c (v + 1):=by rw [List.drop_zero,List.take_of_length_le (by omega),fleetL_succ]
    have hfs : fs.length ≤ 12 + 2 * v:=hf.len
    have hx : [bS [120],bS [121],bS [122]][0 + (v : Int).toNat]? = some (bS (nameL v)):=by
     have h3 : v = 0 ∨ v = 1 ∨ v = 2:=by omega
     rcases h3 with rfl | rfl | rfl <;> rfl
    conv=>whnf
    repeat' ((first | (refine (?_ : TG _ _); first | refine tY ?_ | refine tN ?_ | refine dY ?_ | refine dN ?_ | (refine tell ?_ ?_ <;> intro hQ <;> try dsimp only at hQ)) | refine aS ?_ | refine aX hx ?_ | refine aL hx ?_ | refine ai ?_ | fail) <;> conv=>whnf)
    exact ⟨(v + 1,fs ++ [(c + v,(v : Int).tmod c,1)] ++ [((v : Int).tmod c,c + v,1)]),[(3002,1122),(3003,1134)],⟨hvn,ha2.mono (by show c + v + 1 ≤ c + ((v + 1 : Nat) : Int); omega) (by show 12 + 2 * v + 1 + 1 ≤ 12 + 2 * (v + 1); omega),fun _=>by simp⟩,rn en⟩
   have hobt : v = n:=by omega
   obtain rfl:=hobt
   have hok : YardOk c v fs:=⟨⟨by omega,by omega⟩,⟨by omega,by omega⟩,hf.mono (Int.le_refl _) (by omega),hf0 (by omega)⟩
   conv=>whnf
   repeat' ((first | (refine (?_ : TG _ _); first | refine tY ?_ | refine tN ?_ | refine dY ?_ | refine dN ?_ | (refine tell ?_ ?_ <;> intro hQ <;> try dsimp only at hQ)) | refine aS ?_ | refine ai ?_ | fail) <;> conv=>whnf)
   refine ⟨(c,v,fs),[],hok,?_,?_,?_⟩
   all_goals (repeat' (first | exact trivial | exact rfl | refine And.intro ?_ ?_ | (refine congrArg vI ?_; first | omega | (dsimp only; omega) | fail) | (refine congrArg some ?_) | omega | exact Nat.le_refl _ | exact congrArg (SV.lst _) (List.take_of_length_le (Nat.le_refl _)).symm))
   all_goals first | (show 0 + v ≤ (fleetL c v).length; rw [fleetL_len]; omega) | exact congrArg (SV.lst (A:=AF) 48) (show fleetL c v = ((fleetL c v).drop 0).take v by rw [List.drop_zero,List.take_of_length_le (by rw [fleetL_len]; exact Nat.le_refl _)]) | fail
 ·have hfin : EdgesOk c 12 es:=he.mono (Int.le_refl _) (by omega)
  clear hro hgo he
  conv=>whnf
  repeat' ((first | (refine (?_ : TG _ _); first | refine tY ?_ | refine tN ?_ | refine dY ?_ | refine dN ?_ | (refine tell ?_ ?_ <;> intro hQ <;> try dsimp only at hQ)) | refine aS ?_ | refine ai ?_ | fail) <;> conv=>whnf)
  refine ⟨Nat × List Edge,fun q=>⟨[(6,.ptr 1006 0 2 0),(8,vI c),(9,vI n),(10,.ptr 1010 0 2 0),(16,.sl 3003 2 0 q.1),(17,vI q.1)],[(1006,.cells [vI 0,.val (.slice none 0 0)]),(1010,.cells [vI (c + n),.sl 3002 3 0 q.2.length]),(3002,.arr 44 q.2),(3003,.arr 48 (fleetL c q.1))]⟩,fun q=>q.1 ≤ n ∧ EdgesOk (c + q.1) (12 + 2 * q.1) q.2 ∧ (0 < q.1 → 0 < q.2.length),fun q=>n - q.1,fun _ _=>rfl,⟨(0,es),[(3003,3011)],⟨Nat.zero_le _,hfin.mono (by omega) (by omega),fun h=>absurd h (Nat.lt_irrefl 0)⟩,en⟩,?_⟩
  rintro ⟨(v : Nat),(fs : List Edge)⟩ ⟨(hv : v ≤ n),(hf : EdgesOk (c + v) (12 + 2 * v) fs),(hf0 : 0 < v → 0 < fs.length)⟩
  by_cases hvn : v < n
  ·have hfl:=fleetL_len c v
   have hmod : 0 ≤ (v : Int).tmod c ∧ (v : Int).tmod c < c:=by rw [Int.tmod_eq_emod_of_nonneg (by omega)]; exact ⟨Int.emod_nonneg _ (by omega),Int.emod_lt_of_pos _ (by omega)⟩
   have ha1:=hf.add (m':=c + v + 1) (by omega) (e:=(c + v,(v : Int).tmod c,1)) ⟨by show 0 ≤ c + v; omega,by show c + v < c + v + 1; omega,hmod.1,by show (v : Int).tmod c < c + v + 1; omega,by show c + v ≠ (v : Int).tmod c; omega,by show (1 : Int) ≤ 1; decide,by show (1 : Int) ≤ 1000; decide⟩ (hf.new (.inl (Int.le_refl _)))
   have ha2:=ha1.add (m':=c + v + 1) (Int.le_refl _) (e:=((v : Int).tmod c,c + v,1)) ⟨hmod.1,by show (v : Int).tmod c < c + v + 1; omega,by show 0 ≤ c + v; omega,by show c + v < c + v + 1; omega,by show (v : Int).tmod c ≠ c + v; omega,by show (1 : Int) ≤ 1; decide,by show (1 : Int) ≤ 1000; decide⟩ (fun hm=>by
    rw [List.map_append,List.mem_append] at hm
    rcases hm with hm | hm
    ·exact hf.new (.inr (Int.le_refl _)) hm
    ·rw [List.map_singleton,List.mem_singleton] at hm
     have:=congrArg Prod.fst hm
     have this : (v : Int).tmod c = c + v:=this
     omega)
   have heq : (fs.drop 0).take fs.length ++ [(c + v,(v : Int).tmod c,1),((v : Int).tmod c,c + v,1)] = fs ++ [(c + v,(v : Int).tmod c,1)] ++ [((v : Int).tmod c,c + v,1)]:=by rw [List.drop_zero,List.take_length,List.append_assoc]; rfl
   have hll : fs.length + 2 = (fs ++ [(c + v,(v : Int).tmod c,1)] ++ [((v : Int).tmod c,c + v,1)]).length:=by simp
   have hfe : ((fleetL c v).drop 0).take v ++ [(bS (nameL v),c + (v : Int))] = fleetL c (v + 1):=by rw [List.drop_zero,List.take_of_length_le (by omega),fleetL_succ]
   have hfs : fs.length ≤ 12 + 2 * v:=hf.len
   have hx : [bS [120],bS [121],bS [122]][0 + (v : Int).toNat]? = some (bS (nameL v)):=by
    have h3 : v = 0 ∨ v = 1 ∨ v = 2:=by omega
    rcases h3 with rfl | rfl | rfl <;> rfl
   conv=>whnf
   repeat' ((first | (refine (?_ : TG _ _); first | refine tY ?_ | refine tN ?_ | refine dY ?_ | refine dN ?_ | (refine tell ?_ ?_ <;> intro hQ <;> try dsimp only at hQ)) | refine aS ?_ | refine aX hx ?_ | refine aL hx ?_ | refine ai ?_ | fail) <;> conv=>whnf)
   exact ⟨(v + 1,fs ++ [(c + v,(v : Int).tmod c,1)] ++ [((v : Int).tmod c,c + v,1)]),[(3002,1122),(3003,1134)],⟨hvn,ha2.mono (by show c + v + 1 ≤ c + ((v + 1 : Nat) : Int); omega) (by show 12 + 2 * v + 1 + 1 ≤ 12 + 2 * (v + 1); omega),fun _=>by simp⟩,rn en⟩
  have hobt : v = n:=by omega
  obtain rfl:=hobt
  have hok : YardOk c v fs:=⟨⟨by omega,by omega⟩,⟨by omega,by omega⟩,hf.mono (Int.le_refl _) (by omega),hf0 (by omega)⟩
  conv=>whnf
  repeat' ((first | (refine (?_ : TG _ _); first | refine tY ?_ | refine tN ?_ | refine dY ?_ | refine dN ?_ | (refine tell ?_ ?_ <;> intro hQ <;> try dsimp only at hQ)) | refine aS ?_ | refine ai ?_ | fail) <;> conv=>whnf)
  refine ⟨(c,v,fs),[],hok,?_,?_,?_⟩
  all_goals (repeat' (first | exact trivial | exact rfl | refine And.intro ?_ ?_ | (refine congrArg vI ?_; first | omega | (dsimp only; omega) | fail) | (refine congrArg some ?_) | omega | exact Nat.le_refl _ | exact congrArg (SV.lst _) (List.take_of_length_le (Nat.le_refl _)).symm))
  all_goals first | (show 0 + v ≤ (fleetL c v).length; rw [fleetL_len]; omega) | exact congrArg (SV.lst (A:=AF) 48) (show fleetL c v = ((fleetL c v).drop 0).take v by rw [List.drop_zero,List.take_of_length_le (by rw [fleetL_len]; exact Nat.le_refl _)]) | fail
end
end Go.Sx
namespace Go.Sx
noncomputable section
open Go Go.Proofs Go.Proofs.YtcehbnfhlcfinaaGreatDoor
open Go.Shelf
abbrev rtC (n : Nat) : Ct AF:=.cells [.sl 1 1 0 n,.sl 2 1 0 n]
def spRFind : Spec AF where
 γ:=List Int × List Int × Int
 args:=fun g=>[.ptr 0 0 2 0,vI g.2.2]
 own:=fun g=>[rtC g.1.length,.arr 3 g.1,.arr 3 g.2.1]
 pre:=fun g=>g.1.length ≤ 1000 ∧ ∀ y ∈ g.1,y < g.2.2
 res:=fun g _=>.tup [vI g.1.length,vB false]
 own':=fun g _=>[some (rtC g.1.length),some (.arr 3 g.1),some (.arr 3 g.2.1)]
theorem m_rfind : Meets Tryz.prog regF 96 spRFind:=by
 refine meets Tryz.func96 46 noWr ?_
 rintro ⟨(X : List Int),(W : List Int),(x : Int)⟩ ⟨(hl : X.length ≤ 1000),(hx : ∀ y ∈ X,y < x)⟩
 conv=>whnf
 repeat' ((first | (refine (?_ : TG _ _); first | refine tY ?_ | refine tN ?_ | refine dY ?_ | refine dN ?_ | (refine tell ?_ ?_ <;> intro hQ <;> try dsimp only at hQ)) | refine aS ?_ | refine ai ?_ | fail) <;> conv=>whnf)
 refine ⟨Nat,fun k=>⟨[(0,.ptr 0 0 2 0),(1,vI x),(6,vI k)],[(0,rtC X.length),(1,.arr 3 X),(2,.arr 3 W)]⟩,fun k=>k ≤ X.length,fun k=>X.length - k,fun _ _=>rfl,⟨0,[],Nat.zero_le _,en⟩,?_⟩
 rintro (k : Nat) (hk : k ≤ X.length)
 by_cases hlt : k < X.length
 ·have hobt : ∃ y,X[k]? = some y:=⟨_,List.getElem?_eq_getElem hlt⟩
  obtain ⟨y,hy⟩:=hobt
  have hyx:=hx y (List.mem_of_getElem? hy)
  have hy0 : X[0 + (k : Int).toNat]? = some y:=by simpa using hy
  conv=>whnf
  repeat' ((first | (refine (?_ : TG _ _); first | refine tY ?_ | refine tN ?_ | refine dY ?_ | refine dN ?_ | (refine tell ?_ ?_ <;> intro hQ <;> try dsimp only at hQ)) | refine aS ?_ | refine aX hy0 ?_ | refine aL hy0 ?_ | refine ai ?_ | fail) <;> conv=>whnf)
  exact ⟨k + 1,[],hlt,rn en⟩
 have hobt : k = X.length:=by omega
 obtain rfl:=hobt
 conv=>whnf
 repeat' ((first | (refine (?_ : TG _ _); first | refine tY ?_ | refine tN ?_ | refine dY ?_ | refine dN ?_ | (refine tell ?_ ?_ <;> intro hQ <;> try dsimp only at hQ)) | refine aS ?_ | refine ai ?_ | fail) <;> conv=>whnf)
 exact ⟨(),[],trivial,a3⟩
def spRClaim : Spec AF where
 γ:=List Int × List Int × Int × Int
 args:=fun g=>[.ptr 0 0 2 0,vI g.2.2.1,.lst 3 [g.2.2.2]]
 own:=fun g=>[rtC g.1.length,.arr 3 g.1,.arr 3 g.2.1]
 pre:=fun g=>g.2.1.length = g.1.length ∧ g.1.length ≤ 900 ∧ ∀ y ∈ g.1,y < g.2.2.2
 nnew:=2
 res:=fun _ _=>vB true
 own':=fun g _=>[some (.cells [.sl 3 1 0 (g.1.length + 1),.sl 4 1 0 (g.1.length + 1)]),none,none,some (.arr 3 (g.1 ++ [g.2.2.2])),some (.arr 3 (g.2.1 ++ [g.2.2.1]))]
theorem app_all (X : List Int) (x : Int) (n : Nat) (h : X.length = n) : List.take ((n : Int).toNat - 0 + 1) (List.drop 0 (List.take ((n : Int).toNat - 0) (List.drop 0 (List.take ((n : Int).toNat - 0) (List.drop (0 + 0) X))) ++ List.take 1 (List.drop 0 [x]))) ++ List.take (n - (n : Int).toNat) (List.drop (0 + (n : Int).toNat) X) = X ++ [x]:=by
 subst h
 simp [List.take_of_length_le]
theorem m_rclaim : Meets Tryz.prog regF 67 spRClaim:=by
 refine meets Tryz.func67 100 noWr ?_
 rintro ⟨(X : List Int),(W : List Int),(who : Int),(x : Int)⟩ ⟨(hw : W.length = X.length),(hl : X.length ≤ 900),(hx : ∀ y ∈ X,y < x)⟩
 have hx0 : [x][0]? = some x:=rfl
 have hxl : [x].length = 1:=rfl
 conv=>whnf
 repeat' ((first | (refine (?_ : TG _ _); first | refine tY ?_ | refine tN ?_ | refine dY ?_ | refine dN ?_ | (refine tell ?_ ?_ <;> intro hQ <;> try dsimp only at hQ)) | refine aS ?_ | refine ai ?_ | fail) <;> conv=>whnf)
 refine ⟨Nat,fun k=>⟨[(0,.ptr 0 0 2 0),(1,vI who),(2,.lst 3 [x]),(7,vI k)],[(0,rtC X.length),(1,.arr 3 X),(2,.arr 3 W)]⟩,fun k=>k ≤ 1,fun k=>1 - k,fun _ _=>rfl,⟨0,[],Nat.zero_le _,en⟩,?_⟩
 rintro (k : Nat) (hk : k ≤ 1)
 by_cases hlt : k < 1
 ·have hobt : k = 0:=by omega
  obtain rfl:=hobt
  conv=>whnf
  repeat' ((first | (refine (?_ : TG _ _); first | refine tY ?_ | refine tN ?_ | refine dY ?_ | refine dN ?_ | (refine tell ?_ ?_ <;> intro hQ <;> try dsimp only at hQ)) | refine aS ?_ | refine aX hx0 ?_ | refine aL hx0 ?_ | refine ai ?_ | fail) <;> conv=>whnf)
  refine ⟨_,m_rfind,(X,W,x),[0,1,2],false,?_⟩
  conv=>whnf
  refine vcA ⟨(show X.length ≤ 1000 by omega),hx⟩ ?_
  refine uU ?_
  conv=>whnf
  conv=>whnf
  repeat' ((first | (refine (?_ : TG _ _); first | refine tY ?_ | refine tN ?_ | refine dY ?_ | refine dN ?_ | (refine tell ?_ ?_ <;> intro hQ <;> try dsimp only at hQ)) | refine aS ?_ | refine ai ?_ | fail) <;> conv=>whnf)
  exact ⟨1,[],Nat.le_refl 1,rn en⟩
 have hobt : k = 1:=by omega
 obtain rfl:=hobt
 conv=>whnf
 repeat' ((first | (refine (?_ : TG _ _); first | refine tY ?_ | refine tN ?_ | refine dY ?_ | refine dN ?_ | (refine tell ?_ ?_ <;> intro hQ <;> try dsimp only at hQ)) | refine aS ?_ | refine ai ?_ | fail) <;> conv=>whnf)
 refine ⟨Nat,fun k=>⟨[(0,.ptr 0 0 2 0),(1,vI who),(2,.lst 3 [x]),(10,vI k)],[(0,.cells [.sl 3001 1 0 (X.length + k),.sl 3002 1 0 (X.length + k)]),(3001,.arr 3 (X ++ [x].take k)),(3002,.arr 3 (W ++ [who].take k))]⟩,fun k=>k ≤ 1,fun k=>1 - k,fun _ _=>rfl,⟨0,[(3001,1),(3002,2)],Nat.zero_le _,en⟩,?_⟩
 rintro (k : Nat) (hk : k ≤ 1)
 by_cases hlt : k < 1
 ·have hobt : k = 0:=by omega
  obtain rfl:=hobt
  have he1 : X ++ List.take 0 [x] = X:=List.append_nil X
  have he2 : W ++ List.take 0 [who] = W:=List.append_nil W
  conv=>whnf
  repeat' ((first | (refine (?_ : TG _ _); first | refine tY ?_ | refine tN ?_ | refine dY ?_ | refine dN ?_ | (refine tell ?_ ?_ <;> intro hQ <;> try dsimp only at hQ)) | refine aS ?_ | refine aX hx0 ?_ | refine aL hx0 ?_ | refine ai ?_ | fail) <;> conv=>whnf)
  refine ⟨_,m_rfind,(X,W,x),[0,3001,3002],false,?_⟩
  conv=>whnf
  refine vcA ⟨(show X.length ≤ 1000 by omega),hx⟩ ?_
  refine uU ?_
  conv=>whnf
  conv=>whnf
  repeat' ((first | (refine (?_ : TG _ _); first | refine tY ?_ | refine tN ?_ | refine dY ?_ | refine dN ?_ | (refine tell ?_ ?_ <;> intro hQ <;> try dsimp only at hQ)) | refine aS ?_ | refine aX hx0 ?_ | refine aL hx0 ?_ | refine ai ?_ | fail) <;> conv=>whnf)
  refine ⟨1,[(3001,1077),(3002,1097)],Nat.le_refl 1,?_,rfl,?_,?_,rfl⟩
  ·dsimp only; first | omega | (simp; done) | (simp; omega)
  all_goals (repeat' (first | exact trivial | exact rfl | refine And.intro ?_ ?_ | (refine congrArg vI ?_; first | omega | (dsimp only; omega) | fail) | (refine congrArg some ?_) | omega | exact Nat.le_refl _ | exact congrArg (SV.lst _) (List.take_of_length_le (Nat.le_refl _)).symm))
  ·exact congrArg (SV.sl (A:=AF) 1077 1 0) (show (X.length : Int).toNat - 0 + 1 + (X.length - (X.length : Int).toNat) = X.length + (0 + 1) by omega)
  ·exact congrArg (SV.sl (A:=AF) 1097 1 0) (show (X.length : Int).toNat - 0 + 1 + (X.length - (X.length : Int).toNat) = X.length + (0 + 1) by omega)
  ·exact congrArg (Ct.arr (A:=AF) 3) (app_all X x X.length rfl)
  ·exact congrArg (Ct.arr (A:=AF) 3) (app_all W who X.length hw)
 have hobt : k = 1:=by omega
 obtain rfl:=hobt
 conv=>whnf
 repeat' ((first | (refine (?_ : TG _ _); first | refine tY ?_ | refine tN ?_ | refine dY ?_ | refine dN ?_ | (refine tell ?_ ?_ <;> intro hQ <;> try dsimp only at hQ)) | refine aS ?_ | refine ai ?_ | fail) <;> conv=>whnf)
 exact ⟨(),[3001,3002],trivial,a3⟩
end
end Go.Sx
namespace Go.Sx
noncomputable section
open Go Go.Proofs Go.Proofs.YtcehbnfhlcfinaaGreatDoor
open Go.Shelf
theorem m_rbegin : Meets Tryz.prog regF 66 spFBegin:=by
 refine meets Tryz.func66 9 noWr ?_
 rintro ⟨(v : ByteArray),(n : Int)⟩ _
 conv=>whnf
 repeat' ((first | (refine (?_ : TG _ _); first | refine tY ?_ | refine tN ?_ | refine dY ?_ | refine dN ?_ | (refine tell ?_ ?_ <;> intro hQ <;> try dsimp only at hQ)) | refine aS ?_ | refine ai ?_ | fail) <;> conv=>whnf)
 refine ⟨(),[],trivial,?_,?_,?_⟩
 all_goals (repeat' (first | exact trivial | exact rfl | refine And.intro ?_ ?_ | (refine congrArg vI ?_; first | omega | (dsimp only; omega) | fail) | (refine congrArg some ?_) | omega | exact Nat.le_refl _ | exact congrArg (SV.lst _) (List.take_of_length_le (Nat.le_refl _)).symm))
 skip
def spRTN : Spec AF where
 γ:=Unit
 args:=fun _=>[]
 nnew:=1
 res:=fun _ _=>.ptr 0 0 2 0
 own':=fun _ _=>[some (.cells [.val (.slice none 0 0),.val (.slice none 0 0)])]
theorem m_rtn : Meets Tryz.prog regF 65 spRTN:=by
 refine meets Tryz.func65 3 noWr ?_
 rintro _ _
 conv=>whnf
 repeat' ((first | (refine (?_ : TG _ _); first | refine tY ?_ | refine tN ?_ | refine dY ?_ | refine dN ?_ | (refine tell ?_ ?_ <;> intro hQ <;> try dsimp only at hQ)) | refine aS ?_ | refine ai ?_ | fail) <;> conv=>whnf)
 exact ⟨(),[1002],trivial,a3⟩
def hX (fl : List HomT) (j : Nat) : List Int:=(fl.take j).map (·.2)
def hW (j : Nat) : List Int:=(List.range j).map fun i : Nat=>(i : Int)
def cOf (fl : List HomT) (j : Nat) : List CtlT:=(fl.take j).map fun p=>ctl0 p.1 p.2
theorem hX_succ {fl : List HomT} {j : Nat} {p : HomT} (h : fl[j]? = some p) : hX fl (j + 1) = hX fl j ++ [p.2]:=by unfold hX; rw [take_snocI h,List.map_append]; rfl
theorem hW_succ (j : Nat) : hW (j + 1) = hW j ++ [(j : Int)]:=by simp [hW,List.range_succ]
theorem cOf_succ {fl : List HomT} {j : Nat} {p : HomT} (h : fl[j]? = some p) : cOf fl (j + 1) = cOf fl j ++ [ctl0 p.1 p.2]:=by unfold cOf; rw [take_snocI h,List.map_append]; rfl
theorem hX_len {fl : List HomT} {j : Nat} (h : j ≤ fl.length) : (hX fl j).length = j:=by simp [hX]; omega
theorem hW_len (j : Nat) : (hW j).length = j:=by simp [hW]
theorem cOf_len {fl : List HomT} {j : Nat} (h : j ≤ fl.length) : (cOf fl j).length = j:=by simp [cOf]; omega
def spReset : Spec AF where
 γ:=(Int × List Edge) × List HomT × Int
 args:=fun _=>[.ptr 0 0 11 0]
 own:=fun g=>[.cells [vI g.1.1,.sl 1 3 0 g.1.2.length,.sl 2 2 0 g.2.1.length,vI g.2.2,.val (.slice none 0 0),.val (.slice none 0 0),.val (.slice none 0 0),.val (.slice none 0 0),.val (.slice none 0 0),.val (.pointer none),.val (.string ⟨#[]⟩)],.arr 44 g.1.2,.arr 48 g.2.1]
 pre:=fun g=>FleetOk g.1.1 g.2.1
 res:=fun _ _=>.tup []
 own':=fun _ _=>[none,none,none]
theorem m_reset : Meets Tryz.prog regF 36 spReset:=by
 refine meets Tryz.func36 96 noWr ?_
 rintro ⟨⟨(N : Int),(es : List Edge)⟩,(fl : List HomT),(win : Int)⟩ (hF : FleetOk N fl)
 have hp0 : 0 < fl.length:=hF.pos
 have hp6 : fl.length ≤ 6:=hF.most
 conv=>whnf
 repeat' ((first | (refine (?_ : TG _ _); first | refine tY ?_ | refine tN ?_ | refine dY ?_ | refine dN ?_ | (refine tell ?_ ?_ <;> intro hQ <;> try dsimp only at hQ)) | refine aS ?_ | refine ai ?_ | fail) <;> conv=>whnf)
 refine ⟨_,m_rtn,(),[],false,?_⟩
 conv=>whnf
 refine vcA trivial ?_
 refine uU ?_
 conv=>whnf
 conv=>whnf
 repeat' ((first | (refine (?_ : TG _ _); first | refine tY ?_ | refine tN ?_ | refine dY ?_ | refine dN ?_ | (refine tell ?_ ?_ <;> intro hQ <;> try dsimp only at hQ)) | refine aS ?_ | refine ai ?_ | fail) <;> conv=>whnf)
 refine ⟨Nat,fun j=>⟨[(0,.ptr 0 0 11 0),(2,vI j)],[(0,.cells [vI N,.sl 1 3 0 es.length,.sl 2 2 0 fl.length,vI win,.sl 3001 17 0 j,.sl 1012 1 0 (fl.length : Int).toNat,.val (.slice none 0 0),.sl 3002 1 0 j,.sl 1027 1 0 (fl.length : Int).toNat,.ptr 1031 0 2 0,.val (.string ⟨#[]⟩)]),(1,.arr 44 es),(2,.arr 48 fl),(3001,.arr 57 (cOf fl j)),(1012,.arr 9 (List.replicate (fl.length : Int).toNat (⟨#[]⟩ : ByteArray))),(3002,.arr 3 (List.replicate j (-1 : Int))),(1027,.arr 3 (List.replicate (fl.length : Int).toNat (0 : Int))),(1031,.cells [.sl 3003 1 0 (hX fl j).length,.sl 3004 1 0 (hX fl j).length]),(3003,.arr 3 (hX fl j)),(3004,.arr 3 (hW j))]⟩,fun j=>j ≤ fl.length,fun j=>fl.length - j,fun _ _=>rfl,⟨0,[(3001,3011),(3002,3012),(3003,3013),(3004,3014)],Nat.zero_le _,en⟩,?_⟩
 rintro (j : Nat) (hj : j ≤ fl.length)
 by_cases hlt : j < fl.length
 ·have hobt : ∃ y,fl[j]? = some y:=⟨_,List.getElem?_eq_getElem hlt⟩
  obtain ⟨⟨v,h⟩,hx1⟩:=hobt
  have hap:=fleet_apart hF hx1
  have hx0 : fl[0 + (j : Int).toNat]? = some (v,h):=by simpa using hx1
  have hlX:=hX_len (fl:=fl) hj
  have hlX1:=hX_len (fl:=fl) (j:=j + 1) hlt
  have hlW:=hW_len j
  have hlC:=cOf_len (fl:=fl) hj
  have hbelow : ∀ y ∈ hX fl j,y < h:=fun y hy=>by
   have hobt:=List.mem_map.1 hy
   obtain ⟨q,hq,rfl⟩:=hobt
   exact (hap q hq).2
  have eC : ((cOf fl j).drop 0).take j ++ [ctl0 v h] = cOf fl (j + 1):=by rw [List.drop_zero,List.take_of_length_le (by omega),cOf_succ hx1]
  have eJ : ((List.replicate j (-1 : Int)).drop 0).take j ++ [-1] = List.replicate (j + 1) (-1):=by rw [List.drop_zero,List.take_of_length_le (by simp),← List.replicate_succ']
  have eX:=hX_succ hx1
  have eW:=hW_succ j
  conv=>whnf
  repeat' ((first | (refine (?_ : TG _ _); first | refine tY ?_ | refine tN ?_ | refine dY ?_ | refine dN ?_ | (refine tell ?_ ?_ <;> intro hQ <;> try dsimp only at hQ)) | refine aS ?_ | refine aX hx0 ?_ | refine aL hx0 ?_ | refine ai ?_ | fail) <;> conv=>whnf)
  refine ⟨_,m_rbegin,(v,h),[],false,?_⟩
  conv=>whnf
  refine vcA trivial ?_
  refine uU ?_
  conv=>whnf
  conv=>whnf
  repeat' ((first | (refine (?_ : TG _ _); first | refine tY ?_ | refine tN ?_ | refine dY ?_ | refine dN ?_ | (refine tell ?_ ?_ <;> intro hQ <;> try dsimp only at hQ)) | refine aS ?_ | refine aX hx0 ?_ | refine aL hx0 ?_ | refine ai ?_ | fail) <;> conv=>whnf)
  refine ⟨_,m_rclaim,(hX fl j,hW j,j,h),[1031,3003,3004],false,?_⟩
  conv=>whnf
  refine vcA ⟨hlW.trans hlX.symm,(show (hX fl j).length ≤ 900 by omega),hbelow⟩ ?_
  refine uU ?_
  conv=>whnf
  conv=>whnf
  repeat' ((first | (refine (?_ : TG _ _); first | refine tY ?_ | refine tN ?_ | refine dY ?_ | refine dN ?_ | (refine tell ?_ ?_ <;> intro hQ <;> try dsimp only at hQ)) | refine aS ?_ | refine ai ?_ | fail) <;> conv=>whnf)
  have eL : (hX fl j).length + 1 = (hX fl (j + 1)).length:=by omega
  exact ⟨j + 1,[(3001,1069),(3002,1078),(3003,1095),(3004,2095)],hlt,rn en⟩
 have hobt : j = fl.length:=by omega
 obtain rfl:=hobt
 conv=>whnf
 repeat' ((first | (refine (?_ : TG _ _); first | refine tY ?_ | refine tN ?_ | refine dY ?_ | refine dN ?_ | (refine tell ?_ ?_ <;> intro hQ <;> try dsimp only at hQ)) | refine aS ?_ | refine ai ?_ | fail) <;> conv=>whnf)
 exact ⟨(),[],trivial,a3⟩
def spRNew : Spec AF where
 γ:=(Int × List Edge) × List HomT × Int
 args:=fun g=>[layS g.1.1 g.1.2,.lst 48 g.2.1,vI g.2.2]
 pre:=fun g=>RightL g.1.1 g.1.2 ∧ GoodL g.1.2 ∧ FleetOk g.1.1 g.2.1 ∧ 0 ≤ g.2.2 ∧ g.2.2 ≤ 64 ∧ 0 < g.1.2.length
 nnew:=1
 res:=fun _ _=>.tup [.ptr 0 0 11 0,vI 0]
 own':=fun _ _=>[none]
theorem m_rnew0 : Meets Tryz.prog regF 15 spRNew:=by
 refine meets Tryz.func15 110 noWr ?_
 rintro ⟨⟨(N : Int),(es : List Edge)⟩,(fl : List HomT),(win : Int)⟩ ⟨hR,hG,hF,(hw0 : 0 ≤ win),(hw1 : win ≤ 64),(he0 : 0 < es.length)⟩
 have hp0 : 0 < fl.length:=hF.pos
 have hp6 : fl.length ≤ 6:=hF.most
 have he120 : es.length ≤ 120:=hR.len
 conv=>whnf
 repeat' ((first | (refine (?_ : TG _ _); first | refine tY ?_ | refine tN ?_ | refine dY ?_ | refine dN ?_ | (refine tell ?_ ?_ <;> intro hQ <;> try dsimp only at hQ)) | refine aS ?_ | refine ai ?_ | fail) <;> conv=>whnf)
 refine ⟨_,m_rright,(N,es),[],false,?_⟩
 conv=>whnf
 refine vcA (show es.length ≤ 9223372036854775807 by omega) ?_
 conv=>whnf
 refine aV true (right_yes hR) fun (c : Bool) (hc : c = true ↔ RightL N es)=>?_
 have hobt : c = true:=hc.2 hR
 obtain rfl:=hobt
 conv=>whnf
 repeat' ((first | (refine (?_ : TG _ _); first | refine tY ?_ | refine tN ?_ | refine dY ?_ | refine dN ?_ | (refine tell ?_ ?_ <;> intro hQ <;> try dsimp only at hQ)) | refine aS ?_ | refine ai ?_ | fail) <;> conv=>whnf)
 refine ⟨Nat,fun i=>⟨[(1,.lst 48 fl),(2,vI win),(3,.ptr 1003 0 2 0),(9,vI i)],[(1003,.cells [vI N,.lst 44 es])]⟩,fun i=>i ≤ fl.length,fun i=>fl.length - i,fun _ _=>rfl,⟨0,[],Nat.zero_le _,en⟩,?_⟩
 rintro (i : Nat) (hi : i ≤ fl.length)
 by_cases hlt : i < fl.length
 ·have hobt : ∃ y,fl[i]? = some y:=⟨_,List.getElem?_eq_getElem hlt⟩
  obtain ⟨⟨v,h⟩,hx1⟩:=hobt
  have hobt:=hF.each _ (List.mem_of_getElem? hx1)
  obtain ⟨⟨l,hv,hl,hl16⟩,(h0 : 0 ≤ h),(h1 : h < N)⟩:=hobt
  have hv : v = bS l:=hv
  subst hv
  conv=>whnf
  repeat' ((first | (refine (?_ : TG _ _); first | refine tY ?_ | refine tN ?_ | refine dY ?_ | refine dN ?_ | (refine tell ?_ ?_ <;> intro hQ <;> try dsimp only at hQ)) | refine aS ?_ | refine aX hx1 ?_ | refine aL hx1 ?_ | refine ai ?_ | fail) <;> conv=>whnf)
  refine ⟨_,m_name07T,l,[],false,?_⟩
  conv=>whnf
  refine vcA ⟨hl,by omega⟩ ?_
  refine uU ?_
  conv=>whnf
  conv=>whnf
  repeat' ((first | (refine (?_ : TG _ _); first | refine tY ?_ | refine tN ?_ | refine dY ?_ | refine dN ?_ | (refine tell ?_ ?_ <;> intro hQ <;> try dsimp only at hQ)) | refine aS ?_ | refine aX hx1 ?_ | refine aL hx1 ?_ | refine ai ?_ | fail) <;> conv=>whnf)
  refine ⟨Nat,fun k=>⟨[(1,.lst 48 fl),(2,vI win),(3,.ptr 1003 0 2 0),(9,vI i),(11,vI k)],[(1003,.cells [vI N,.lst 44 es])]⟩,fun k=>k ≤ i,fun k=>i - k,fun _ _=>rfl,⟨0,[],Nat.zero_le _,en⟩,?_⟩
  rintro (k : Nat) (hk : k ≤ i)
  by_cases hki : k < i
  ·have hobt : ∃ y,fl[k]? = some y:=⟨_,List.getElem?_eq_getElem (by omega)⟩
   obtain ⟨⟨v2,h2⟩,hx2⟩:=hobt
   have hobt:=fleet_apart hF hx1 (v2,h2) (List.mem_of_getElem? (i:=k) (by rw [List.getElem?_take,if_pos hki]; exact hx2))
   obtain ⟨hne,hh2⟩:=hobt
   have hh2 : h2 < h:=hh2
   have hne : v2 ≠ bS l:=hne
   have hobt:=hF.each _ (List.mem_of_getElem? hx2)
   obtain ⟨⟨l2,(hv2 : v2 = bS l2),_⟩,_⟩:=hobt
   have hnl : ¬ v2.toList = (bS l).toList:=fun e=>hne (by rw [hv2,bS_inj] at e; rw [hv2,e])
   conv=>whnf
   repeat' ((first | (refine (?_ : TG _ _); first | refine tY ?_ | refine tN ?_ | refine dY ?_ | refine dN ?_ | (refine tell ?_ ?_ <;> intro hQ <;> try dsimp only at hQ)) | refine aS ?_ | refine aX hx2 ?_ | refine aL hx2 ?_ | refine aX hx1 ?_ | refine aL hx1 ?_ | refine ai ?_ | fail) <;> conv=>whnf)
   exact ⟨k + 1,[],hki,rn en⟩
  have hobt : k = i:=by omega
  obtain rfl:=hobt
  conv=>whnf
  repeat' ((first | (refine (?_ : TG _ _); first | refine tY ?_ | refine tN ?_ | refine dY ?_ | refine dN ?_ | (refine tell ?_ ?_ <;> intro hQ <;> try dsimp only at hQ)) | refine aS ?_ | refine ai ?_ | fail) <;> conv=>whnf)
  exact ⟨k + 1,[],hlt,rn en⟩
 have hobt : i = fl.length:=by omega
 obtain rfl:=hobt
 conv=>whnf
 repeat' ((first | (refine (?_ : TG _ _); first | refine tY ?_ | refine tN ?_ | refine dY ?_ | refine dN ?_ | (refine tell ?_ ?_ <;> intro hQ <;> try dsimp only at hQ)) | refine aS ?_ | refine ai ?_ | fail) <;> conv=>whnf)
 refine ⟨_,m_reset,((N,es),fl,win),[1106,1100,1103],false,?_⟩
 conv=>whnf
 refine vcA hF ?_
 refine uU ?_
 conv=>whnf
 conv=>whnf
 repeat' ((first | (refine (?_ : TG _ _); first | refine tY ?_ | refine tN ?_ | refine dY ?_ | refine dN ?_ | (refine tell ?_ ?_ <;> intro hQ <;> try dsimp only at hQ)) | refine aS ?_ | refine ai ?_ | fail) <;> conv=>whnf)
 exact ⟨(),[1106],trivial,a3⟩
theorem m_rnew : Meets Tryz.prog regF 15 (spP spRNew):=meets_ptr m_rnew0 11 (fun _=>rfl) (fun _ _=>rfl)
end
end Go.Sx
namespace Go.Sx
noncomputable section
open Go Go.Proofs Go.Proofs.YtcehbnfhlcfinaaGreatDoor
open Go.Shelf
theorem nameL_ok (i : Nat) : nameF (nameL i) = true ∧ (nameL i).length ≤ 16:=by
 match i with
 | 0=>exact ⟨by decide,by decide⟩
 | 1=>exact ⟨by decide,by decide⟩
 | i + 2=>exact ⟨(by decide : nameF [122] = true),(by decide : [(122 : UInt8)].length ≤ 16)⟩
theorem nameL_ne {i j : Nat} (h : i < j) (hj : j < 3) : bS (nameL i) ≠ bS (nameL j):=fun e=>by
 have e:=bS_inj.1 (congrArg ByteArray.toList e)
 have hc : (i = 0 ∧ j = 1) ∨ (i = 0 ∧ j = 2) ∨ (i = 1 ∧ j = 2):=by omega
 rcases hc with ⟨rfl,rfl⟩ | ⟨rfl,rfl⟩ | ⟨rfl,rfl⟩ <;> exact absurd e (by decide)
theorem fleetL_get (c : Int) {n i : Nat} (h : i < n) : (fleetL c n)[i]? = some (bS (nameL i),c + (i : Int)):=by
 unfold fleetL
 rw [List.getElem?_map,List.getElem?_range h]; rfl
theorem fleetL_ok {c : Int} {n : Nat} (hc : 0 ≤ c) (h1 : 1 ≤ n) (h3 : n ≤ 3) : FleetOk (c + n) (fleetL c n):=by
 refine ⟨by rw [fleetL_len]; omega,by rw [fleetL_len]; omega,fun p hp=>?_,?_⟩
 ·have hobt:=List.mem_map.1 hp
  obtain ⟨i,hi,rfl⟩:=hobt
  have hi:=List.mem_range.1 hi
  exact ⟨⟨_,rfl,nameL_ok i⟩,by show 0 ≤ c + (i : Int); omega,by show c + (i : Int) < c + n; omega⟩
 ·unfold fleetL
  rw [List.pairwise_map]
  refine (List.pairwise_lt_range (n:=n)).imp_of_mem fun {i j} hi hj hij=>?_
  have hj:=List.mem_range.1 hj
  exact ⟨nameL_ne hij (by omega),by show c + (i : Int) < c + (j : Int); omega⟩
abbrev ptrS (b : Nat × Nat) : SV AF:=.val (.pointer (some ⟨b.1,b.2,none⟩))
abbrev nilS : SV AF:=.val (.slice none 0 0)
abbrev playC (a v : Nat) (c : Int) (n : Nat) (es : List Edge) (b : Nat × Nat) (k : Nat) : Ct AF:=.cells [.ptr a 0 2 0,ptrS b,.sl v 1 0 k,vI (c + n),.lst 44 es,nilS,nilS,vB false,vI 0,vB false]
abbrev yardN (c : Int) (n : Nat) (es : List Edge) : Ct AF:=.cells [vI (c + n),.lst 44 es,.lst 48 (fleetL c n),vI 0,vW 0,.val (.int .i32 0),vW 0,nilS]
theorem yard_ex : ∃ d : Int × Nat × List Edge,YardOk d.1 d.2.1 d.2.2:=⟨(2,1,ringL 2 2),⟨by decide,by decide⟩,⟨by decide,by decide⟩,(ringL_ok (by decide) 2 (by decide)).mono (by decide) (by decide),by decide⟩
def spBeg : Spec AF where
 γ:=Int × Int × List (Int × Int × Int)
 δ:=(Int × Nat × List Edge) × TM × (Nat × Nat) × List (Nat × Nat)
 args:=fun g=>[vI g.1,vI g.2.1,.lst 126 g.2.2,vI 0]
 pre:=fun g=>InI g.1 ∧ InI g.2.1 ∧ g.2.2.length ≤ 9223372036854775807 ∧ ∀ r ∈ g.2.2,InI r.1 ∧ InI r.2.1 ∧ InI r.2.2
 nnew:=8
 res:=fun _ _=>.ptr 0 0 10 0
 own':=fun _ d=>[some (playC 1 7 d.1.1 d.1.2.1 d.1.2.2 d.2.2.1 d.1.2.1),some (.cells [.ptr 2 0 8 0,.ptr 3 0 5 0]),some (yardN d.1.1 d.1.2.1 d.1.2.2),some (knowN 4 5 (fleetL d.1.1 d.1.2.1).length),some (.arr 111 (psOf (fleetL d.1.1 d.1.2.1))),some (.cells [.mp 6]),some (.map 3 3 d.2.1),some (.arr 70 d.2.2.2)]
 post:=fun _ d=>YardOk d.1.1 d.1.2.1 d.1.2.2 ∧ d.2.2.2.length = d.1.2.1
theorem m_beg : Meets Tryz.prog regF 5 spBeg:=by
 refine meets Tryz.func5 106 noWr ?_
 rintro ⟨(core : Int),(cars : Int),(raw : List (Int × Int × Int))⟩ hpre
 conv=>whnf
 repeat' ((first | (refine (?_ : TG _ _); first | refine tY ?_ | refine tN ?_ | refine dY ?_ | refine dN ?_ | (refine tell ?_ ?_ <;> intro hQ <;> try dsimp only at hQ)) | refine aS ?_ | refine ai ?_ | fail) <;> conv=>whnf)
 refine ⟨_,m_yard,(core,cars,raw),[],false,?_⟩
 conv=>whnf
 refine vcA hpre ?_
 conv=>whnf
 obtain ⟨d0,hd0⟩:=yard_ex
 refine aV d0 hd0 fun (d : Int × Nat × List Edge) (hd : YardOk d.1 d.2.1 d.2.2)=>?_
 obtain ⟨c,n,es⟩:=d
 obtain ⟨⟨(h2 : 2 ≤ c),(h4 : c ≤ 4)⟩,⟨(hn1 : 1 ≤ n),(hn3 : n ≤ 3)⟩,(he : EdgesOk (c + n) 18 es),(he0 : 0 < es.length)⟩:=hd
 have hok : YardOk c n es:=⟨⟨h2,h4⟩,⟨hn1,hn3⟩,he,he0⟩
 have hR : RightL (c + n) es:=he.right (by omega) (by omega) (by omega)
 have hG : GoodL es:=he.good (by omega) (by omega)
 have hF:=fleetL_ok (c:=c) (n:=n) (by omega) hn1 hn3
 have hfl:=fleetL_len c n
 have hw : pickF 0 4 = 0:=by decide
 conv=>whnf
 repeat' ((first | (refine (?_ : TG _ _); first | refine tY ?_ | refine tN ?_ | refine dY ?_ | refine dN ?_ | (refine tell ?_ ?_ <;> intro hQ <;> try dsimp only at hQ)) | refine aS ?_ | refine ai ?_ | fail) <;> conv=>whnf)
 refine ⟨_,m_pick19,(0,4),[],false,?_⟩
 conv=>whnf
 refine vcA ⟨⟨by decide,by decide⟩,by show (0 : Int) < 4; decide⟩ ?_
 refine uU ?_
 conv=>whnf
 conv=>whnf
 repeat' ((first | (refine (?_ : TG _ _); first | refine tY ?_ | refine tN ?_ | refine dY ?_ | refine dN ?_ | (refine tell ?_ ?_ <;> intro hQ <;> try dsimp only at hQ)) | refine aS ?_ | refine ai ?_ | fail) <;> conv=>whnf)
 refine ⟨_,m_mnew,((c + n,es),fleetL c n,pickF 0 4),[],false,?_⟩
 conv=>whnf
 refine vcA ⟨hR,hG,hF,(show 0 ≤ pickF 0 4 by omega),(show pickF 0 4 ≤ 64 by omega)⟩ ?_
 conv=>whnf
 have hobt:=tbOk_ex (fleetL c n)
 obtain ⟨tb0,htb0⟩:=hobt
 refine aV tb0 htb0 fun (tb : TM) _=>?_
 conv=>whnf
 repeat' ((first | (refine (?_ : TG _ _); first | refine tY ?_ | refine tN ?_ | refine dY ?_ | refine dN ?_ | (refine tell ?_ ?_ <;> intro hQ <;> try dsimp only at hQ)) | refine aS ?_ | refine ai ?_ | fail) <;> conv=>whnf)
 refine ⟨_,m_rnew,((c + n,es),fleetL c n,pickF 0 4),[],false,?_⟩
 conv=>whnf
 refine vcA ⟨hR,hG,hF,(show 0 ≤ pickF 0 4 by omega),(show pickF 0 4 ≤ 64 by omega),he0⟩ ?_
 conv=>whnf
 refine aV ((),0,0) trivial fun (q : Unit × Nat × Nat) _=>?_
 obtain ⟨_,b1,b2⟩:=q
 conv=>whnf
 repeat' ((first | (refine (?_ : TG _ _); first | refine tY ?_ | refine tN ?_ | refine dY ?_ | refine dN ?_ | (refine tell ?_ ?_ <;> intro hQ <;> try dsimp only at hQ)) | refine aS ?_ | refine ai ?_ | fail) <;> conv=>whnf)
 refine ⟨Nat × List (Nat × Nat),fun q=>⟨[(9,.ptr 1009 0 2 0),(10,.lst 48 (fleetL c n)),(12,.ptr 1027 0 10 0),(13,vI q.1)],[(1009,.cells [vI (c + n),.lst 44 es]),(1027,playC 1033 3001 c n es (b1,b2) q.1),(1033,.cells [.ptr 2033 0 8 0,.ptr 3033 0 5 0]),(2033,yardN c n es),(3033,knowN 4033 5033 (fleetL c n).length),(4033,.arr 111 (psOf (fleetL c n))),(5033,.cells [.mp 6033]),(6033,.map 3 3 tb),(3001,.arr 70 q.2)]⟩,fun q=>q.1 ≤ n ∧ q.2.length = q.1,fun q=>n - q.1,fun _ _=>rfl,⟨(0,[]),[(3001,3011)],⟨Nat.zero_le _,rfl⟩,en⟩,?_⟩
 rintro ⟨(j : Nat),(vs : List (Nat × Nat))⟩ ⟨(hj : j ≤ n),(hvs : vs.length = j)⟩
 by_cases hlt : j < n
 ·have hx1:=fleetL_get c hlt
  have hobt:=nameL_ok j
  obtain ⟨hnm,hn16⟩:=hobt
  conv=>whnf
  repeat' ((first | (refine (?_ : TG _ _); first | refine tY ?_ | refine tN ?_ | refine dY ?_ | refine dN ?_ | (refine tell ?_ ?_ <;> intro hQ <;> try dsimp only at hQ)) | refine aS ?_ | refine aX hx1 ?_ | refine aL hx1 ?_ | refine ai ?_ | fail) <;> conv=>whnf)
  refine ⟨_,m_vn,((c + n,es),nameL j,c + j),[],false,?_⟩
  conv=>whnf
  refine vcA ⟨hR,hG,⟨hnm,Nat.le_trans hn16 (by decide)⟩,(show 0 ≤ c + (j : Int) by omega),(show c + (j : Int) < c + n by omega)⟩ ?_
  conv=>whnf
  refine aV ((),0,0) trivial fun (q : Unit × Nat × Nat) _=>?_
  obtain ⟨_,a1,a2⟩:=q
  have hve : (vs.drop 0).take j ++ [(a1,a2)] = vs ++ [(a1,a2)]:=by rw [List.drop_zero,List.take_of_length_le (by omega)]
  conv=>whnf
  repeat' ((first | (refine (?_ : TG _ _); first | refine tY ?_ | refine tN ?_ | refine dY ?_ | refine dN ?_ | (refine tell ?_ ?_ <;> intro hQ <;> try dsimp only at hQ)) | refine aS ?_ | refine ai ?_ | fail) <;> conv=>whnf)
  exact ⟨(j + 1,vs ++ [(a1,a2)]),[(3001,1091)],⟨hlt,by simp; omega⟩,rn en⟩
 have hobt : j = n:=by omega
 obtain rfl:=hobt
 conv=>whnf
 repeat' ((first | (refine (?_ : TG _ _); first | refine tY ?_ | refine tN ?_ | refine dY ?_ | refine dN ?_ | (refine tell ?_ ?_ <;> intro hQ <;> try dsimp only at hQ)) | refine aS ?_ | refine ai ?_ | fail) <;> conv=>whnf)
 exact ⟨((c,j,es),tb,(b1,b2),vs),[1027,1033,2033,3033,4033,5033,6033,3001],⟨hok,hvs⟩,a3⟩
end
end Go.Sx
namespace Go.Sx
noncomputable section
open Go Go.Proofs Go.Proofs.YtcehbnfhlcfinaaGreatDoor
open Go.Shelf
theorem place_home {c : Int} {n : Nat} (hn : 1 ≤ n) (i : Int) (hi : 0 ≤ i) : placeB (c + n) (fleetL c n) (c + i.tmod n) = false:=by
 have hb : homeB (fleetL c n) (c + i.tmod n) = true:=by
  rw [homeB_iff,Int.tmod_eq_emod_of_nonneg hi]
  have h0:=Int.emod_nonneg i (b:=n) (by omega)
  have h1:=Int.emod_lt_of_pos i (b:=n) (by omega)
  refine ⟨(bS (nameL (i % n).toNat),c + ((i % n).toNat : Int)),List.mem_of_getElem? (fleetL_get c (n:=n) (i:=(i % n).toNat) (by omega)),?_⟩
  show c + ((i % n).toNat : Int) = _
  omega
 unfold placeB
 rw [hb]
 simp
theorem place_ok {c : Int} {n : Nat} {x : Int} (h0 : 0 ≤ x) (h1 : x < c) : placeB (c + n) (fleetL c n) x = true:=by
 have hb : homeB (fleetL c n) x = false:=by
  cases hh : homeB (fleetL c n) x with
  | false=>rfl
  | true=>
   have hobt:=homeB_iff.1 hh
   obtain ⟨p,hp,e⟩:=hobt
   have hobt:=List.mem_map.1 hp
   obtain ⟨i,_,rfl⟩:=hobt
   have e : c + (i : Int) = x:=e
   omega
 unfold placeB
 rw [hb,decide_eq_true ⟨h0,(by omega : x < c + n)⟩]
 rfl
theorem place_out {N x : Int} {fl : List HomT} (h : ¬ (0 ≤ x ∧ x < N)) : placeB N fl x = false:=by
 unfold placeB
 rw [decide_eq_false h]
 rfl
def fB : Nat → Bool
 | 0=>false
 | _ + 1=>true
def adrAt (k : Nat) (b : Bool) : SV AF:=match b with | true=>.ptr k 0 5 3 | false=>.val (.pointer none)
abbrev mS (c : Int) (n : Nat) (es : List Edge) (tb : TM) (f : Bool) (js : List JobT) (bs : List UInt8) : MS:=⟨c + n,es,fleetL c n,0,false,[],psOf (fleetL c n),js,tb,f,bs⟩
abbrev fullH (c : Int) (n : Nat) (es : List Edge) (tb : TM) (b : Nat × Nat) (vs : List (Nat × Nat)) (i : Nat) (js : List JobT) (bs : List UInt8) : List (Nat × Ct AF):=
 [(1027,playC 2027 8027 c n es b n),(2027,.cells [.ptr 3027 0 8 0,.ptr 4027 0 5 0]),(3027,.cells [vI (c + n),.lst 44 es,.lst 48 (fleetL c n),vI 0,vW 0,.val (.int .i32 0),vW 0,.sl 3008 1 0 0]),
  (4027,.row 86 [.sl 5027 20 0 (psOf (fleetL c n)).length,.sl 3004 4 0 js.length,.ptr 6027 0 1 0,adrAt 4027 (fB i),.sl 3007 1 0 bs.length]),(5027,.arr 111 (psOf (fleetL c n))),(3004,.arr 63 js),(6027,.cells [.mp 7027]),(7027,.map 3 3 tb),(3007,.arr 5 (iB bs)),(3008,.arr 51 []),(8027,.arr 70 vs)]
theorem wrap_in (z : Int) : InI (IntKind.i64.wrap z):=by
 unfold InI
 rw [IntKind.wrap_i64]
 omega
theorem m_masterFull : Meets Tryz.prog regF 3 (spLaw (fun g : Int × Int × List (Int × Int × Int) × Int=>[vI g.1,vI g.2.1,.lst 126 g.2.2.1,vI g.2.2.2]) (fun g=>(InI g.1 ∧ InI g.2.1 ∧ InI g.2.2.2) ∧ g.2.2.1.length ≤ 9223372036854775807 ∧ ∀ r ∈ g.2.2.1,InI r.1 ∧ InI r.2.1 ∧ InI r.2.2)):=by
 refine meets Tryz.func3 148 (fun k=>Nat.beq k 75) ?_
 rintro ⟨(core : Int),(cars : Int),(raw : List (Int × Int × Int)),(target : Int)⟩ ⟨⟨(h1 : InI core),(h2 : InI cars),(h3 : InI target)⟩,(hl : raw.length ≤ 9223372036854775807),(hr : ∀ r ∈ raw,InI r.1 ∧ InI r.2.1 ∧ InI r.2.2)⟩
 conv=>whnf
 repeat' ((first | (refine (?_ : TG _ _); first | refine tY ?_ | refine tN ?_ | refine dY ?_ | refine dN ?_ | (refine tell ?_ ?_ <;> intro hQ <;> try dsimp only at hQ)) | refine aS ?_ | refine ai ?_ | fail) <;> conv=>whnf)
 refine ⟨_,m_awake,(),[],false,?_⟩
 conv=>whnf
 refine vcA trivial ?_
 refine uU ?_
 conv=>whnf
 conv=>whnf
 repeat' ((first | (refine (?_ : TG _ _); first | refine tY ?_ | refine tN ?_ | refine dY ?_ | refine dN ?_ | (refine tell ?_ ?_ <;> intro hQ <;> try dsimp only at hQ)) | refine aS ?_ | refine ai ?_ | fail) <;> conv=>whnf)
 refine ⟨_,m_beg,(core,cars,raw),[],false,?_⟩
 conv=>whnf
 refine vcA ⟨h1,h2,hl,hr⟩ ?_
 conv=>whnf
 obtain ⟨d0,hd0⟩:=yard_ex
 refine aV (d0,[],(0,0),List.replicate d0.2.1 (0,0)) ⟨hd0,List.length_replicate⟩ fun (d : (Int × Nat × List Edge) × TM × (Nat × Nat) × List (Nat × Nat)) (hd : YardOk d.1.1 d.1.2.1 d.1.2.2 ∧ d.2.2.2.length = d.1.2.1)=>?_
 obtain ⟨⟨c,n,es⟩,tb,b,vs⟩:=d
 obtain ⟨⟨⟨(h2c : 2 ≤ c),(h4c : c ≤ 4)⟩,⟨(hn1 : 1 ≤ n),(hn3 : n ≤ 3)⟩,(he : EdgesOk (c + n) 18 es),(he0 : 0 < es.length)⟩,(hvs : vs.length = n)⟩:=hd
 have hfl:=fleetL_len c n
 have hps : (psOf (fleetL c n)).length = n:=by unfold psOf; rw [List.length_map,hfl]
 have hfm : (fleetL c n).length ≤ 1000000:=by omega
 conv=>whnf
 repeat' ((first | (refine (?_ : TG _ _); first | refine tY ?_ | refine tN ?_ | refine dY ?_ | refine dN ?_ | (refine tell ?_ ?_ <;> intro hQ <;> try dsimp only at hQ)) | refine aS ?_ | refine ai ?_ | fail) <;> conv=>whnf)
 refine ⟨Nat × List JobT × List UInt8,fun p=>⟨[(3,vI target),(10,.ptr 1027 0 10 0),(11,vI c),(12,vI p.1)],fullH c n es tb b vs p.1 p.2.1 p.2.2⟩,fun p=>p.1 ≤ 50 ∧ p.2.1.length = p.1 ∧ p.2.2.length ≤ 200000 * p.1 ∧ (fB p.1 = false → p.2.2 = []),fun p=>50 - p.1,fun p _=>by rcases p with ⟨_ | _,_,_⟩ <;> rfl,⟨(0,[],[]),[(3004,3014),(3007,3017),(3008,3018)],⟨Nat.zero_le _,rfl,Nat.le_refl _,fun _=>rfl⟩,?_⟩,?_⟩
 ·refine ⟨rfl,?_,?_,rfl⟩
  all_goals (repeat' (first | exact trivial | exact rfl | refine And.intro ?_ ?_ | (refine congrArg vI ?_; first | omega | (dsimp only; omega) | fail) | (refine congrArg some ?_) | omega | exact Nat.le_refl _ | exact congrArg (SV.lst _) (List.take_of_length_le (Nat.le_refl _)).symm))
  all_goals (exact congrArg (SV.sl (A:=AF) 5027 20 0) (hfl.trans hps.symm))
 rintro ⟨(i : Nat),(js : List JobT),(bs : List UInt8)⟩ ⟨(hi : i ≤ 50),(hjs : js.length = i),(hbs : bs.length ≤ 200000 * i),(hf : fB i = false → bs = [])⟩
 by_cases hlt : i < 50
 ·have hw:=wrap_in (target + i)
  have hb:=pickF_bd (c:=IntKind.i64.wrap (target + i)) (n:=c) (by omega)
  have hph:=place_home (c:=c) hn1 (i : Int) (by omega)
  have hpo:=place_ok (n:=n) hb.1 hb.2
  have hmod : 0 ≤ (i : Int).tmod n ∧ (i : Int).tmod n < n:=by
   rw [Int.tmod_eq_emod_of_nonneg (by omega)]
   exact ⟨Int.emod_nonneg _ (by omega),Int.emod_lt_of_pos _ (by omega)⟩
  rcases i with _ | i
  ·conv=>whnf
   repeat' ((first | (refine (?_ : TG _ _); first | refine tY ?_ | refine tN ?_ | refine dY ?_ | refine dN ?_ | (refine tell ?_ ?_ <;> intro hQ <;> try dsimp only at hQ)) | refine aS ?_ | refine ai ?_ | fail) <;> conv=>whnf)
   refine ⟨_,m_subP,(mS c n es tb false js bs,c + ((0 : Nat) : Int).tmod n),[2027,3027,4027,5027,3004,6027,7027,3007,3008],false,?_⟩
   conv=>whnf
   refine vcA ⟨hfm,hph⟩ ?_
   refine uU ?_
   conv=>whnf
   conv=>whnf
   repeat' ((first | (refine (?_ : TG _ _); first | refine tY ?_ | refine tN ?_ | refine dY ?_ | refine dN ?_ | (refine tell ?_ ?_ <;> intro hQ <;> try dsimp only at hQ)) | refine aS ?_ | refine ai ?_ | fail) <;> conv=>whnf)
   refine ⟨_,m_pick19,((IntKind.i64.wrap (target + ((0 : Nat) : Int))),c),[],false,?_⟩
   conv=>whnf
   refine vcA ⟨hw,by show 0 < c; omega⟩ ?_
   refine uU ?_
   conv=>whnf
   conv=>whnf
   repeat' ((first | (refine (?_ : TG _ _); first | refine tY ?_ | refine tN ?_ | refine dY ?_ | refine dN ?_ | (refine tell ?_ ?_ <;> intro hQ <;> try dsimp only at hQ)) | refine aS ?_ | refine ai ?_ | fail) <;> conv=>whnf)
   refine ⟨_,m_sub1,(mS c n es tb false js bs,pickF (IntKind.i64.wrap (target + ((0 : Nat) : Int))) c),[2027,3027,4027,5027,3004,6027,7027,3007,3008],false,?_⟩
   conv=>whnf
   refine vcA ⟨(show bs.length ≤ 100000000 by omega),(fun _=>hf rfl),hfm,(show js.length < 50 by omega),hpo⟩ ?_
   conv=>whnf
   refine aV [] (by show 0 ≤ 100000; decide) fun (l : Txt) (hl : l.length ≤ 100000)=>?_
   conv=>whnf
   repeat' ((first | (refine (?_ : TG _ _); first | refine tY ?_ | refine tN ?_ | refine dY ?_ | refine dN ?_ | (refine tell ?_ ?_ <;> intro hQ <;> try dsimp only at hQ)) | refine aS ?_ | refine ai ?_ | fail) <;> conv=>whnf)
   exact ⟨(0 + 1,js ++ [((js.length : Int) + 1,pickF (IntKind.i64.wrap (target + ((0 : Nat) : Int))) c,1,-1)],bs ++ l),[(3004,1078),(3007,2078)],⟨hlt,by rw [List.length_append]; show js.length + 1 = _; omega,by show (bs ++ l).length ≤ 200000 * (0 + 1); rw [List.length_append]; omega,fun h=>by cases h⟩,rn en⟩
  ·conv=>whnf
   repeat' ((first | (refine (?_ : TG _ _); first | refine tY ?_ | refine tN ?_ | refine dY ?_ | refine dN ?_ | (refine tell ?_ ?_ <;> intro hQ <;> try dsimp only at hQ)) | refine aS ?_ | refine ai ?_ | fail) <;> conv=>whnf)
   refine ⟨_,m_subP,(mS c n es tb true js bs,c + (((i + 1) : Nat) : Int).tmod n),[2027,3027,4027,5027,3004,6027,7027,3007,3008],false,?_⟩
   conv=>whnf
   refine vcA ⟨hfm,hph⟩ ?_
   refine uU ?_
   conv=>whnf
   conv=>whnf
   repeat' ((first | (refine (?_ : TG _ _); first | refine tY ?_ | refine tN ?_ | refine dY ?_ | refine dN ?_ | (refine tell ?_ ?_ <;> intro hQ <;> try dsimp only at hQ)) | refine aS ?_ | refine ai ?_ | fail) <;> conv=>whnf)
   refine ⟨_,m_pick19,((IntKind.i64.wrap (target + (((i + 1) : Nat) : Int))),c),[],false,?_⟩
   conv=>whnf
   refine vcA ⟨hw,by show 0 < c; omega⟩ ?_
   refine uU ?_
   conv=>whnf
   conv=>whnf
   repeat' ((first | (refine (?_ : TG _ _); first | refine tY ?_ | refine tN ?_ | refine dY ?_ | refine dN ?_ | (refine tell ?_ ?_ <;> intro hQ <;> try dsimp only at hQ)) | refine aS ?_ | refine ai ?_ | fail) <;> conv=>whnf)
   refine ⟨_,m_sub1,(mS c n es tb true js bs,pickF (IntKind.i64.wrap (target + (((i + 1) : Nat) : Int))) c),[2027,3027,4027,5027,3004,6027,7027,3007,3008],false,?_⟩
   conv=>whnf
   refine vcA ⟨(show bs.length ≤ 100000000 by omega),(fun h=>by cases h),hfm,(show js.length < 50 by omega),hpo⟩ ?_
   conv=>whnf
   refine aV [] (by show 0 ≤ 100000; decide) fun (l : Txt) (hl : l.length ≤ 100000)=>?_
   conv=>whnf
   repeat' ((first | (refine (?_ : TG _ _); first | refine tY ?_ | refine tN ?_ | refine dY ?_ | refine dN ?_ | (refine tell ?_ ?_ <;> intro hQ <;> try dsimp only at hQ)) | refine aS ?_ | refine ai ?_ | fail) <;> conv=>whnf)
   exact ⟨((i + 1) + 1,js ++ [((js.length : Int) + 1,pickF (IntKind.i64.wrap (target + (((i + 1) : Nat) : Int))) c,1,-1)],bs ++ l),[(3004,1078),(3007,2078)],⟨hlt,by rw [List.length_append]; show js.length + 1 = _; omega,by show (bs ++ l).length ≤ 200000 * ((i + 1) + 1); rw [List.length_append]; omega,fun h=>by cases h⟩,rn en⟩
 have hobt : i = 50:=by omega
 obtain rfl:=hobt
 have hb:=pickF_bd (c:=target) (n:=c) (by omega)
 have hpo:=place_ok (n:=n) hb.1 hb.2
 conv=>whnf
 repeat' ((first | (refine (?_ : TG _ _); first | refine tY ?_ | refine tN ?_ | refine dY ?_ | refine dN ?_ | (refine tell ?_ ?_ <;> intro hQ <;> try dsimp only at hQ)) | refine aS ?_ | refine ai ?_ | fail) <;> conv=>whnf)
 refine ⟨_,m_pick19,(target,c),[],false,?_⟩
 conv=>whnf
 refine vcA ⟨h3,by show 0 < c; omega⟩ ?_
 refine uU ?_
 conv=>whnf
 conv=>whnf
 repeat' ((first | (refine (?_ : TG _ _); first | refine tY ?_ | refine tN ?_ | refine dY ?_ | refine dN ?_ | (refine tell ?_ ?_ <;> intro hQ <;> try dsimp only at hQ)) | refine aS ?_ | refine ai ?_ | fail) <;> conv=>whnf)
 refine ⟨_,m_sub0,(mS c n es tb true js bs,pickF target c),[2027,3027,4027,5027,3004,6027,7027,3007,3008],false,?_⟩
 conv=>whnf
 refine vcA ⟨hfm,⟨(show 50 ≤ js.length by omega),(show js.length ≤ 1000 by omega)⟩,hpo⟩ ?_
 refine uU ?_
 conv=>whnf
 conv=>whnf
 repeat' ((first | (refine (?_ : TG _ _); first | refine tY ?_ | refine tN ?_ | refine dY ?_ | refine dN ?_ | (refine tell ?_ ?_ <;> intro hQ <;> try dsimp only at hQ)) | refine aS ?_ | refine ai ?_ | fail) <;> conv=>whnf)
 refine ⟨_,m_subP,(mS c n es tb true js bs,-1),[2027,3027,4027,5027,3004,6027,7027,3007,3008],false,?_⟩
 conv=>whnf
 refine vcA ⟨hfm,place_out (by omega)⟩ ?_
 refine uU ?_
 conv=>whnf
 conv=>whnf
 repeat' ((first | (refine (?_ : TG _ _); first | refine tY ?_ | refine tN ?_ | refine dY ?_ | refine dN ?_ | (refine tell ?_ ?_ <;> intro hQ <;> try dsimp only at hQ)) | refine aS ?_ | refine ai ?_ | fail) <;> conv=>whnf)
 refine ⟨_,m_subP,(mS c n es tb true js bs,c + n),[2027,3027,4027,5027,3004,6027,7027,3007,3008],false,?_⟩
 conv=>whnf
 refine vcA ⟨hfm,place_out (show ¬ (0 ≤ c + (n : Int) ∧ c + (n : Int) < c + n) by omega)⟩ ?_
 refine uU ?_
 conv=>whnf
 conv=>whnf
 repeat' ((first | (refine (?_ : TG _ _); first | refine tY ?_ | refine tN ?_ | refine dY ?_ | refine dN ?_ | (refine tell ?_ ?_ <;> intro hQ <;> try dsimp only at hQ)) | refine aS ?_ | refine ai ?_ | fail) <;> conv=>whnf)
 refine ⟨_,m_jobs,mS c n es tb true js bs,[2027,3027,4027,5027,3004,6027,7027,3007,3008],false,?_⟩
 conv=>whnf
 refine vcA ⟨rfl,(show 0 < js.length by omega),(show js.length ≤ 1000 by omega)⟩ ?_
 refine uU ?_
 conv=>whnf
 conv=>whnf
 repeat' ((first | (refine (?_ : TG _ _); first | refine tY ?_ | refine tN ?_ | refine dY ?_ | refine dN ?_ | (refine tell ?_ ?_ <;> intro hQ <;> try dsimp only at hQ)) | refine aS ?_ | refine ai ?_ | fail) <;> conv=>whnf)
 exact ⟨(),[],trivial,a3⟩
end
end Go.Sx
namespace Go.Sx
open Go Go.Proofs Go.Proofs.YtcehbnfhlcfinaaGreatDoor
open Go.ChangeShapes Go.WideShapes
theorem und3 : Tryz.prog.underlying 3 = some (.int .i64):=by kernel_rfl
theorem und4 : Tryz.prog.underlying 4 = some .bool:=by kernel_rfl
theorem und96 : Tryz.prog.underlying 126 = some (.array 3 3):=by kernel_rfl
theorem und22 : Tryz.prog.underlying 22 = some (.slice 126):=by kernel_rfl
theorem rdA_int_of {P : Program} {t : TypeId} (ht : P.underlying t = some (.int .i64)) : RdA P t (fun n : Int=>vI n) InI:=by
 intro H enc w sp base v d ps h hv
 have hobt:=open_int ht hv h
 obtain ⟨a,rfl,_,_,wa⟩:=hobt
 exact ⟨a,wf_i64 wa,says_val _⟩
theorem rdA_int : RdA Tryz.prog 3 (fun n : Int=>vI n) InI:=rdA_int_of und3
theorem rd_triple {P : Program} (h66 : P.underlying 126 = some (.array 3 3)) (h3 : P.underlying 3 = some (.int .i64)) (hc : P.cellsOf 126 = 3) (hc3 : P.cellsOf 3 = 1) : Rd P 126 (fun r : Int × Int × Int=>InI r.1 ∧ InI r.2.1 ∧ InI r.2.2):=by
 intro H enc w sp n cs x h
 have hobt:=rd_ints_of h66 h3 hc hc3 h
 obtain ⟨hl,hx⟩:=hobt
 have hobt:=hx 0 (by omega)
 obtain ⟨a,ha,ea⟩:=hobt
 have hobt:=hx 1 (by omega)
 obtain ⟨b,hb,eb⟩:=hobt
 have hobt:=hx 2 (by omega)
 obtain ⟨c,hc,ec⟩:=hobt
 refine ⟨((a,b,c) : Int × Int × Int),⟨ha,hb,hc⟩,?_⟩
 match cs,hl with
 | [u,v,z],_=>
  simp at ea eb ec
  subst ea; subst eb; subst ec
  exact saysL_cons (says_val _) (saysL_cons (says_val _) (saysL_cons (says_val _) saysL_nil))
theorem rdN_triples : RdA Tryz.prog 22 (fun xs : List (Int × Int × Int)=>.lst 126 xs) (fun xs=>xs.length ≤ 9223372036854775807 ∧ ∀ r ∈ xs,InI r.1 ∧ InI r.2.1 ∧ InI r.2.2):=
 rdN_slice und22 (by kernel_rfl) (by decide) (rd_triple und96 und3 (by kernel_rfl) (by kernel_rfl))
end Go.Sx
