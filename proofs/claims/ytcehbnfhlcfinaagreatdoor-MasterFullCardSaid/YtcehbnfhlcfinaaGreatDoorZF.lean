/- Own texts of the proof, merged: MFld MOrd MJs MPr MRou. -/
import Derived.Shelf.Bits.Mul64
import Derived.Shelf.Spec.SlicesGrow
import Derived.Test.YtcehbnfhlcfinaaGreatDoorZE
set_option linter.unusedVariables false
set_option linter.unusedSimpArgs false
set_option maxHeartbeats 8000000
namespace Go.Sx
noncomputable section
open Go Go.Proofs Go.Proofs.YtcehbnfhlcfinaaGreatDoor
open Go.Shelf
abbrev jS (v : Js) : SV AF:=.agg [vI v.p0,vI v.p1,vI v.p2,.val (.string v.p3),.lst 9 v.p4,.lst 160 v.p5]
def OkS (s : ByteArray) : Prop:=∃ l,OkW l ∧ s = bS l
def jg : Nat → Js → Prop
 | 0,_=>False
 | n + 1,v=>(0 ≤ v.p0 ∧ v.p0 ≤ 9) ∧ (0 ≤ v.p1 ∧ v.p1 ≤ 9) ∧ v.p2 = 0 ∧ OkS v.p3 ∧ v.p4.length ≤ 8 ∧ v.p5.length ≤ 8 ∧ (v.p0 = 7 → v.p4.length = v.p5.length) ∧ (∀ s ∈ v.p4,OkS s) ∧ ∀ x ∈ v.p5,jg n x
abbrev Z6 : List (SV AF):=[vI 0,vI 0,vI 0,vS [],.val (.slice none 0 0),.val (.slice none 0 0)]
def spFresh (n : Nat) : Spec AF where
 γ:=Js
 args:=fun v=>[jS v]
 pre:=fun v=>jg n v
 res:=fun v _=>jS v
theorem m_fresh (n : Nat) : Meets Tryz.prog regF 85 (spFresh n):=by
 induction n with
 | zero=>exact ⟨⟨_,Tryz.func85,by kernel_rfl,by kernel_rfl⟩,fun v hv=>hv.elim⟩
 | succ n ih=>
 refine meets Tryz.func85 29 noWr ?_
 rintro ⟨k,m,e,t,names,(items : List Js)⟩ ⟨⟨(hk0 : 0 ≤ k),(hk1 : k ≤ 9)⟩,⟨(hm0 : 0 ≤ m),(hm1 : m ≤ 9)⟩,(he : e = 0),_,(hn : names.length ≤ 8),(hi : items.length ≤ 8),_,_,(hx : ∀ x ∈ items,jg n x)⟩
 subst he
 conv=>whnf
 repeat' ((first | (refine (?_ : TG _ _); first | refine tY ?_ | refine tN ?_ | refine dY ?_ | refine dN ?_ | (refine tell ?_ ?_ <;> intro hQ <;> try dsimp only at hQ)) | refine aS ?_ | refine ai ?_ | fail) <;> conv=>whnf)
 refine ⟨_,m_clT,names,[],false,?_⟩
 conv=>whnf
 refine vcA (show names.length ≤ 1000000000 by omega) ?_
 refine uU ?_
 conv=>whnf
 conv=>whnf
 repeat' ((first | (refine (?_ : TG _ _); first | refine tY ?_ | refine tN ?_ | refine dY ?_ | refine dN ?_ | (refine tell ?_ ?_ <;> intro hQ <;> try dsimp only at hQ)) | refine aS ?_ | refine ai ?_ | fail) <;> conv=>whnf)
 by_cases h0 : items.length = 0
 ·have hobt:=List.length_eq_zero_iff.1 h0
  obtain rfl:=hobt
  refine ⟨_,m_clN,[],[],false,?_⟩
  conv=>whnf
  refine vcA (show 0 ≤ 1000000000 by omega) ?_
  refine uU ?_
  conv=>whnf
  conv=>whnf
  repeat' ((first | (refine (?_ : TG _ _); first | refine tY ?_ | refine tN ?_ | refine dY ?_ | refine dN ?_ | (refine tell ?_ ?_ <;> intro hQ <;> try dsimp only at hQ)) | refine aS ?_ | refine ai ?_ | fail) <;> conv=>whnf)
  refine ⟨Unit,fun _=>⟨[(1,.ptr 1001 0 6 0),(2,.ptr 1002 0 6 0),(15,vI 0),(16,vI 0)],[(1001,.cells [vI k,vI m,vI 0,.val (.string t),.lst 9 names,.lst 160 []]),(1002,.cells Z6)]⟩,fun _=>True,fun _=>0,fun _ _=>rfl,⟨(),[],trivial,en⟩,?_⟩
  rintro _ _
  conv=>whnf
  repeat' ((first | (refine (?_ : TG _ _); first | refine tY ?_ | refine tN ?_ | refine dY ?_ | refine dN ?_ | (refine tell ?_ ?_ <;> intro hQ <;> try dsimp only at hQ)) | refine aS ?_ | refine ai ?_ | fail) <;> conv=>whnf)
  exact ⟨(),[],trivial,a3⟩
 ·refine ⟨_,m_clON,items,[],false,?_⟩
  conv=>whnf
  refine vcA (show 0 < items.length ∧ items.length ≤ 1000000000 by omega) ?_
  refine uU ?_
  conv=>whnf
  conv=>whnf
  repeat' ((first | (refine (?_ : TG _ _); first | refine tY ?_ | refine tN ?_ | refine dY ?_ | refine dN ?_ | (refine tell ?_ ?_ <;> intro hQ <;> try dsimp only at hQ)) | refine aS ?_ | refine ai ?_ | fail) <;> conv=>whnf)
  refine ⟨Nat,fun i=>⟨[(1,.ptr 1001 0 6 0),(2,.ptr 1002 0 6 0),(14,.sl 1011 6 0 items.length),(15,vI items.length),(16,vI i)],[(1001,.cells [vI k,vI m,vI 0,.val (.string t),.lst 9 names,.sl 1011 6 0 items.length]),(1002,.cells Z6),(1011,.arr 160 items)]⟩,fun i=>i ≤ items.length,fun i=>items.length - i,fun _ _=>rfl,⟨0,[],Nat.zero_le _,en⟩,?_⟩
  rintro (i : Nat) (hil : i ≤ items.length)
  by_cases hlt : i < items.length
  ·have hobt : ∃ y,items[i]? = some y:=⟨_,List.getElem?_eq_getElem hlt⟩
   obtain ⟨x,hxi⟩:=hobt
   obtain ⟨xa,xb,xc,xd,xe,xf⟩:=x
   have hset : items.set (0 + (i : Int).toNat) (.mk xa xb xc xd xe xf) = items:=by
    rw [show 0 + (i : Int).toNat = i by omega]
    apply List.ext_getElem?
    intro j
    rw [List.getElem?_set]
    split
    ·rename_i e; subst e; exact hxi.symm
    ·rfl
   conv=>whnf
   repeat' ((first | (refine (?_ : TG _ _); first | refine tY ?_ | refine tN ?_ | refine dY ?_ | refine dN ?_ | (refine tell ?_ ?_ <;> intro hQ <;> try dsimp only at hQ)) | refine aS ?_ | refine aX hxi ?_ | refine aL hxi ?_ | refine ai ?_ | fail) <;> conv=>whnf)
   refine ⟨_,ih,.mk xa xb xc xd xe xf,[],false,?_⟩
   conv=>whnf
   refine vcA (hx _ (List.mem_of_getElem? hxi)) ?_
   refine uU ?_
   conv=>whnf
   conv=>whnf
   repeat' ((first | (refine (?_ : TG _ _); first | refine tY ?_ | refine tN ?_ | refine dY ?_ | refine dN ?_ | (refine tell ?_ ?_ <;> intro hQ <;> try dsimp only at hQ)) | refine aS ?_ | refine aX hxi ?_ | refine aL hxi ?_ | refine ai ?_ | fail) <;> conv=>whnf)
   exact ⟨i + 1,[],hlt,rn en⟩
  ·have htk : items = List.take items.length (List.drop 0 items):=by simp
   conv=>whnf
   repeat' ((first | (refine (?_ : TG _ _); first | refine tY ?_ | refine tN ?_ | refine dY ?_ | refine dN ?_ | (refine tell ?_ ?_ <;> intro hQ <;> try dsimp only at hQ)) | refine aS ?_ | refine ai ?_ | fail) <;> conv=>whnf)
   exact ⟨(),[],trivial,a3⟩
abbrev jInt (n : Int) : Js:=.mk 4 n 0 (bS []) [] []
abbrev jStr (l : List UInt8) : Js:=.mk 5 0 0 (bS l) [] []
abbrev jYes (b : Bool) : Js:=.mk (if b then 3 else 2) 0 0 (bS []) [] []
abbrev jArr (l : List Js) : Js:=.mk 6 0 0 (bS []) [] l
abbrev jObj (a : List Txt) (l : List Js) : Js:=.mk 7 0 0 (bS []) (a.map bS) l
theorem okS_nil : OkS (bS []):=⟨[],⟨⟨by simp,by simp⟩,by simp⟩,rfl⟩
theorem jg_int {n : Int} (h0 : 0 ≤ n) (h1 : n ≤ 9) (d : Nat) : jg (d + 1) (jInt n):=⟨⟨by show (0 : Int) ≤ 4; decide,by show (4 : Int) ≤ 9; decide⟩,⟨h0,h1⟩,rfl,okS_nil,Nat.zero_le _,Nat.zero_le _,fun _=>rfl,(fun _ h=>by cases h),(fun _ h=>by cases h)⟩
theorem jg_str {l : List UInt8} (h : OkW l) (d : Nat) : jg (d + 1) (jStr l):=⟨⟨by show (0 : Int) ≤ 5; decide,by show (5 : Int) ≤ 9; decide⟩,⟨by show (0 : Int) ≤ 0; decide,by show (0 : Int) ≤ 9; decide⟩,rfl,⟨l,h,rfl⟩,Nat.zero_le _,Nat.zero_le _,fun _=>rfl,(fun _ h=>by cases h),(fun _ h=>by cases h)⟩
theorem jg_yes (b : Bool) (d : Nat) : jg (d + 1) (jYes b):=⟨by cases b <;> exact ⟨by decide,by decide⟩,⟨by show (0 : Int) ≤ 0; decide,by show (0 : Int) ≤ 9; decide⟩,rfl,okS_nil,Nat.zero_le _,Nat.zero_le _,fun _=>rfl,(fun _ h=>by cases h),(fun _ h=>by cases h)⟩
theorem jg_arr {l : List Js} {d : Nat} (hl : l.length ≤ 8) (h : ∀ x ∈ l,jg d x) : jg (d + 1) (jArr l):=⟨⟨by show (0 : Int) ≤ 6; decide,by show (6 : Int) ≤ 9; decide⟩,⟨by show (0 : Int) ≤ 0; decide,by show (0 : Int) ≤ 9; decide⟩,rfl,okS_nil,Nat.zero_le _,hl,fun e=>absurd e (by show ¬ (6 : Int) = 7; decide),(fun _ h=>by cases h),h⟩
theorem jg_obj {a : List Txt} {l : List Js} {d : Nat} (ha : ∀ x ∈ a,OkW x) (hal : a.length = l.length) (hl : l.length ≤ 8) (h : ∀ x ∈ l,jg d x) : jg (d + 1) (jObj a l):=⟨⟨by show (0 : Int) ≤ 7; decide,by show (7 : Int) ≤ 9; decide⟩,⟨by show (0 : Int) ≤ 0; decide,by show (0 : Int) ≤ 9; decide⟩,rfl,okS_nil,by show (a.map bS).length ≤ 8; rw [List.length_map]; omega,hl,fun _=>by show (a.map bS).length = l.length; rw [List.length_map]; exact hal,fun s hs=>by
 have hobt:=List.mem_map.1 hs
 obtain ⟨x,hx,rfl⟩:=hobt
 exact ⟨x,ha x hx,rfl⟩,h⟩
def spFInt : Spec AF where
 γ:=Int
 args:=fun n=>[vI n]
 pre:=fun n=>0 ≤ n ∧ n ≤ 9
 res:=fun n _=>jS (jInt n)
theorem m_fint : Meets Tryz.prog regF 50 spFInt:=by
 refine meets Tryz.func50 15 noWr ?_
 rintro (n : Int) ⟨(h0 : 0 ≤ n),(h1 : n ≤ 9)⟩
 conv=>whnf
 repeat' ((first | (refine (?_ : TG _ _); first | refine tY ?_ | refine tN ?_ | refine dY ?_ | refine dN ?_ | (refine tell ?_ ?_ <;> intro hQ <;> try dsimp only at hQ)) | refine aS ?_ | refine ai ?_ | fail) <;> conv=>whnf)
 refine ⟨_,m_dmake,n,[],false,?_⟩
 conv=>whnf
 refine vcA ⟨h0,h1⟩ ?_
 refine uU ?_
 conv=>whnf
 conv=>whnf
 repeat' ((first | (refine (?_ : TG _ _); first | refine tY ?_ | refine tN ?_ | refine dY ?_ | refine dN ?_ | (refine tell ?_ ?_ <;> intro hQ <;> try dsimp only at hQ)) | refine aS ?_ | refine ai ?_ | fail) <;> conv=>whnf)
 exact ⟨(),[],trivial,a3⟩
def spFStr : Spec AF where
 γ:=Txt
 args:=fun l=>[vS l]
 res:=fun l _=>jS (jStr l)
theorem m_fstr : Meets Tryz.prog regF 51 spFStr:=by
 refine meets Tryz.func51 5 noWr ?_
 rintro (l : Txt) _
 conv=>whnf
 repeat' ((first | (refine (?_ : TG _ _); first | refine tY ?_ | refine tN ?_ | refine dY ?_ | refine dN ?_ | (refine tell ?_ ?_ <;> intro hQ <;> try dsimp only at hQ)) | refine aS ?_ | refine ai ?_ | fail) <;> conv=>whnf)
 exact ⟨(),[],trivial,a3⟩
def spFYes : Spec AF where
 γ:=Bool
 args:=fun b=>[vB b]
 res:=fun b _=>jS (jYes b)
theorem m_fyes : Meets Tryz.prog regF 88 spFYes:=by
 refine meets Tryz.func88 6 noWr ?_
 rintro (_ | _) _
 ·conv=>whnf
  repeat' ((first | (refine (?_ : TG _ _); first | refine tY ?_ | refine tN ?_ | refine dY ?_ | refine dN ?_ | (refine tell ?_ ?_ <;> intro hQ <;> try dsimp only at hQ)) | refine aS ?_ | refine ai ?_ | fail) <;> conv=>whnf)
  exact ⟨(),[],trivial,a3⟩
 ·conv=>whnf
  repeat' ((first | (refine (?_ : TG _ _); first | refine tY ?_ | refine tN ?_ | refine dY ?_ | refine dN ?_ | (refine tell ?_ ?_ <;> intro hQ <;> try dsimp only at hQ)) | refine aS ?_ | refine ai ?_ | fail) <;> conv=>whnf)
  exact ⟨(),[],trivial,a3⟩
def spFArr (n : Nat) : Spec AF where
 γ:=List Js
 args:=fun l=>[.lst 160 l]
 pre:=fun l=>jg n (jArr l)
 res:=fun l _=>jS (jArr l)
theorem m_farr (n : Nat) : Meets Tryz.prog regF 87 (spFArr n):=by
 refine meets Tryz.func87 6 noWr ?_
 rintro (l : List Js) (h : jg n (jArr l))
 conv=>whnf
 repeat' ((first | (refine (?_ : TG _ _); first | refine tY ?_ | refine tN ?_ | refine dY ?_ | refine dN ?_ | (refine tell ?_ ?_ <;> intro hQ <;> try dsimp only at hQ)) | refine aS ?_ | refine ai ?_ | fail) <;> conv=>whnf)
 refine ⟨_,m_fresh n,jArr l,[],false,?_⟩
 conv=>whnf
 refine vcA h ?_
 refine uU ?_
 conv=>whnf
 conv=>whnf
 repeat' ((first | (refine (?_ : TG _ _); first | refine tY ?_ | refine tN ?_ | refine dY ?_ | refine dN ?_ | (refine tell ?_ ?_ <;> intro hQ <;> try dsimp only at hQ)) | refine aS ?_ | refine ai ?_ | fail) <;> conv=>whnf)
 exact ⟨(),[],trivial,a3⟩
def spFMake (n : Nat) : Spec AF where
 γ:=List Txt × List Js
 args:=fun g=>[.lst 9 (g.1.map bS),.lst 160 g.2]
 pre:=fun g=>g.1.Nodup ∧ g.1.length = g.2.length ∧ g.2.length ≤ 8 ∧ 0 < g.2.length ∧ ∀ x ∈ g.2,jg n x
 res:=fun g _=>jS (jObj g.1 g.2)
theorem m_fmake (n : Nat) : Meets Tryz.prog regF 49 (spFMake n):=by
 refine meets Tryz.func49 48 noWr ?_
 rintro ⟨(a : List Txt),(l : List Js)⟩ ⟨(hd : a.Nodup),(hal : a.length = l.length),(hl : l.length ≤ 8),(hl0 : 0 < l.length),(hx : ∀ x ∈ l,jg n x)⟩
 have hml : (a.map bS).length = a.length:=List.length_map ..
 have e0 : ((l.take (min (l.length : Int) ((a.map bS).length : Int)).toNat).drop ((0 : Int)).toNat) = l:=by rw [show (min (l.length : Int) ((a.map bS).length : Int)).toNat = l.length by omega,List.take_length]; rfl
 conv=>whnf
 repeat' ((first | (refine (?_ : TG _ _); first | refine tY ?_ | refine tN ?_ | refine dY ?_ | refine dN ?_ | (refine tell ?_ ?_ <;> intro hQ <;> try dsimp only at hQ)) | refine aS ?_ | refine ai ?_ | fail) <;> conv=>whnf)
 refine ⟨Nat,fun i=>⟨[(0,.lst 9 (a.map bS)),(4,.ptr 1004 0 6 0),(5,.ptr 1005 0 6 0),(15,.lst 160 l),(16,vI l.length),(17,vI i)],[(1004,.cells Z6),(1005,.cells [vI 7,vI 0,vI 0,vS [],.sl 3001 1 0 i,.sl 3002 6 0 i]),(3001,.arr 9 ((a.take i).map bS)),(3002,.arr 160 (l.take i))]⟩,fun i=>i ≤ l.length,fun i=>l.length - i,fun _ _=>rfl,⟨0,[],Nat.zero_le _,?_⟩,?_⟩
 ·refine ⟨rfl,?_,?_,rfl⟩
  all_goals (repeat' (first | exact trivial | exact rfl | refine And.intro ?_ ?_ | (refine congrArg vI ?_; first | omega | (dsimp only; omega) | fail) | (refine congrArg some ?_) | omega | exact Nat.le_refl _ | exact congrArg (SV.lst _) (List.take_of_length_le (Nat.le_refl _)).symm))
  all_goals (first | exact congrArg (SV.lst (A:=AF) 160) e0 | exact congrArg (fun x : List Js=>vI x.length) e0 | fail)
 rintro (i : Nat) (hi : i ≤ l.length)
 have htl : (l.take i).length = i:=by rw [List.length_take]; omega
 have hta : ((a.take i).map bS).length = i:=by rw [List.length_map,List.length_take]; omega
 by_cases hlt : i < l.length
 ·have hobt : ∃ y,l[i]? = some y:=⟨_,List.getElem?_eq_getElem hlt⟩
  obtain ⟨x,hx1⟩:=hobt
  have hobt : ∃ y,a[i]? = some y:=⟨_,List.getElem?_eq_getElem (by omega)⟩
  obtain ⟨y,hy1⟩:=hobt
  have hy2 : (a.map bS)[i]? = some (bS y):=by rw [List.getElem?_map,hy1]; rfl
  have hno : y ∉ a.take i:=by
   intro h
   have hobt:=List.mem_iff_getElem.1 h
   obtain ⟨j,hj,e⟩:=hobt
   rw [List.length_take] at hj
   have hj2 : j < i:=by omega
   rw [List.getElem_take] at e
   have hobt:=List.getElem?_eq_some_iff.1 hy1
   obtain ⟨h2,e2⟩:=hobt
   exact List.pairwise_iff_getElem.1 hd j i (by omega) h2 hj2 (e.trans e2.symm)
  obtain ⟨xa,xb,xc,xd,xe,xf⟩:=x
  conv=>whnf
  repeat' ((first | (refine (?_ : TG _ _); first | refine tY ?_ | refine tN ?_ | refine dY ?_ | refine dN ?_ | (refine tell ?_ ?_ <;> intro hQ <;> try dsimp only at hQ)) | refine aS ?_ | refine aX hx1 ?_ | refine aL hx1 ?_ | refine aX hy2 ?_ | refine aL hy2 ?_ | refine ai ?_ | fail) <;> conv=>whnf)
  have e1 : (a.take i).map bS = List.take i (List.drop 0 (List.map bS (List.take i a))):=(List.take_of_length_le (Nat.le_of_eq hta)).symm
  refine ⟨_,m_containsS,(a.take i,y),[],true,?_⟩
  conv=>whnf
  refine And.intro (vc0 (show (a.take i).length ≤ 9223372036854775807 by rw [List.length_take]; omega) (by (repeat' (first | exact trivial | exact rfl | refine And.intro ?_ ?_ | (refine congrArg vI ?_; first | omega | (dsimp only; omega) | fail) | (refine congrArg some ?_) | omega | exact Nat.le_refl _ | exact congrArg (SV.lst _) (List.take_of_length_le (Nat.le_refl _)).symm)); all_goals (first | exact congrArg (SV.lst (A:=AF) 9) e1 | fail)) (by repeat' (first | exact trivial | exact rfl | refine And.intro ?_ ?_ | (refine congrArg vI ?_; first | omega | (dsimp only; omega) | fail) | (refine congrArg some ?_) | omega | exact Nat.le_refl _ | exact congrArg (SV.lst _) (List.take_of_length_le (Nat.le_refl _)).symm)) trivial (.inr (fun _=>⟨rfl,fun h ct he=>by rcases h with _ | _ | h <;> first | (cases he; done) | (cases he; rfl)⟩))) ?_
  refine And.intro (hasS_ex _ _) ?_
  rintro (c : Bool) (hc : c = true ↔ y ∈ a.take i)
  cases c
  ·conv=>whnf
   repeat' ((first | (refine (?_ : TG _ _); first | refine tY ?_ | refine tN ?_ | refine dY ?_ | refine dN ?_ | (refine tell ?_ ?_ <;> intro hQ <;> try dsimp only at hQ)) | refine aS ?_ | refine aX hx1 ?_ | refine aL hx1 ?_ | refine aX hy2 ?_ | refine aL hy2 ?_ | refine ai ?_ | fail) <;> conv=>whnf)
   refine ⟨_,m_fresh n,.mk xa xb xc xd xe xf,[],false,?_⟩
   conv=>whnf
   refine vcA (hx _ (List.mem_of_getElem? hx1)) ?_
   refine uU ?_
   conv=>whnf
   conv=>whnf
   repeat' ((first | (refine (?_ : TG _ _); first | refine tY ?_ | refine tN ?_ | refine dY ?_ | refine dN ?_ | (refine tell ?_ ?_ <;> intro hQ <;> try dsimp only at hQ)) | refine aS ?_ | refine ai ?_ | fail) <;> conv=>whnf)
   have e2 : (a.take (i + 1)).map bS = (a.take i).map bS ++ [bS y]:=by rw [take_snocI hy1,List.map_append]; rfl
   have e3 : l.take (i + 1) = l.take i ++ [.mk xa xb xc xd xe xf]:=take_snocI hx1
   have e4 : List.take i (List.drop 0 (l.take i)) = l.take i:=List.take_of_length_le (Nat.le_of_eq htl)
   refine ⟨i + 1,[(3001,1037),(3002,1044)],hlt,?_,rfl,?_,?_,rfl⟩
   ·dsimp only; first | omega | (simp; done) | (simp; omega)
   all_goals (repeat' (first | exact trivial | exact rfl | refine And.intro ?_ ?_ | (refine congrArg vI ?_; first | omega | (dsimp only; omega) | fail) | (refine congrArg some ?_) | omega | exact Nat.le_refl _ | exact congrArg (SV.lst _) (List.take_of_length_le (Nat.le_refl _)).symm))
   ·exact congrArg (Ct.arr (A:=AF) 9) ((congrArg (· ++ [bS y]) e1.symm).trans e2.symm)
   ·exact congrArg (Ct.arr (A:=AF) 160) ((congrArg (· ++ [Js.mk xa xb xc xd xe xf]) e4).trans e3.symm)
  ·exact absurd (hc.1 rfl) hno
 ·have hi' : i = l.length:=by omega
  have e5 : (a.map bS) = List.take i (List.drop 0 ((a.take i).map bS)):=by
   rw [List.take_of_length_le (l:=a) (by omega)]
   exact (List.take_of_length_le (by omega)).symm
  have e6 : l = List.take i (List.drop 0 (l.take i)):=by
   rw [List.take_of_length_le (l:=l) (by omega)]
   exact (List.take_of_length_le (by omega)).symm
  conv=>whnf
  repeat' ((first | (refine (?_ : TG _ _); first | refine tY ?_ | refine tN ?_ | refine dY ?_ | refine dN ?_ | (refine tell ?_ ?_ <;> intro hQ <;> try dsimp only at hQ)) | refine aS ?_ | refine ai ?_ | fail) <;> conv=>whnf)
  exact ⟨(),[],trivial,a3⟩
abbrev nodeL : Txt:=[110,111,100,101,73,100]
abbrev edgeL : Txt:=[101,100,103,101,73,100]
abbrev seqL : Txt:=[115,101,113,117,101,110,99,101,73,100]
abbrev relL : Txt:=[114,101,108,101,97,115,101,100]
abbrev partJ (nm : Txt) (a b : Int) (c : Bool) : Js:=jObj [nm,seqL,relL] [jInt a,jInt b,jYes c]
def OkP (g : Int × Int × Bool) : Prop:=(0 ≤ g.1 ∧ g.1 ≤ 9) ∧ 0 ≤ g.2.1 ∧ g.2.1 ≤ 9
theorem okW_of {l : List UInt8} (h : (decide (l.length ≤ 16) && l.all fun c=>decide (c.toNat < 128) && okB c) = true) : OkW l:=by
 rw [Bool.and_eq_true,List.all_eq_true] at h
 exact ⟨⟨of_decide_eq_true h.1,fun c hc=>by have:=h.2 c hc; rw [Bool.and_eq_true] at this; exact of_decide_eq_true this.1⟩,fun c hc=>by have:=h.2 c hc; rw [Bool.and_eq_true] at this; exact this.2⟩
theorem part_ok {nm : Txt} (hn : nm = nodeL ∨ nm = edgeL) : (∀ x ∈ [nm,seqL,relL],OkW x) ∧ [nm,seqL,relL].Nodup:=by
 rcases hn with rfl | rfl
 ·refine ⟨fun x hx=>?_,by decide⟩
  simp only [List.mem_cons,List.not_mem_nil,or_false] at hx
  rcases hx with rfl | rfl | rfl <;> exact okW_of (by decide)
 ·refine ⟨fun x hx=>?_,by decide⟩
  simp only [List.mem_cons,List.not_mem_nil,or_false] at hx
  rcases hx with rfl | rfl | rfl <;> exact okW_of (by decide)
theorem jg_part {nm : Txt} (hn : nm = nodeL ∨ nm = edgeL) {g : Int × Int × Bool} (h : OkP g) (d : Nat) : jg (d + 2) (partJ nm g.1 g.2.1 g.2.2):=
 jg_obj (part_ok hn).1 rfl (by show 3 ≤ 8; decide) fun x hx=>by
  simp only [List.mem_cons,List.not_mem_nil,or_false] at hx
  rcases hx with rfl | rfl | rfl
  ·exact jg_int h.1.1 h.1.2 d
  ·exact jg_int h.2.1 h.2.2 d
  ·exact jg_yes _ d
theorem jg_parts (nm : Txt) (hn : nm = nodeL ∨ nm = edgeL) {l : List (Int × Int × Bool)} (hl : l.length ≤ 8) (h : ∀ x ∈ l,OkP x) : jg 3 (jArr (l.map fun x=>partJ nm x.1 x.2.1 x.2.2)):=
 jg_arr (by rw [List.length_map]; exact hl) fun x hx=>by
  have hobt:=List.mem_map.1 hx
  obtain ⟨y,hy,rfl⟩:=hobt
  exact jg_part hn (h y hy) 0
theorem part_items {nm : Txt} {a b : Int} (ha : 0 ≤ a ∧ a ≤ 9) (hb : 0 ≤ b ∧ b ≤ 9) (c : Bool) (x : Js) (hx : x ∈ (([nm,seqL,relL],[jInt a,jInt b,jYes c]) : List Txt × List Js).2) : jg 1 x:=by
 have hx : x ∈ [jInt a,jInt b,jYes c]:=hx
 simp only [List.mem_cons,List.not_mem_nil,or_false] at hx
 rcases hx with rfl | rfl | rfl
 ·exact jg_int ha.1 ha.2 0
 ·exact jg_int hb.1 hb.2 0
 ·exact jg_yes _ 0
def spPart : Spec AF where
 γ:=Txt × Int × Int × Bool
 args:=fun g=>[vS g.1,vI g.2.1,vI g.2.2.1,vB g.2.2.2]
 pre:=fun g=>(g.1 = nodeL ∨ g.1 = edgeL) ∧ OkP g.2
 res:=fun g _=>jS (partJ g.1 g.2.1 g.2.2.1 g.2.2.2)
theorem m_part : Meets Tryz.prog regF 54 spPart:=by
 refine meets Tryz.func54 19 noWr ?_
 rintro ⟨(nm : Txt),(a : Int),(b : Int),(c : Bool)⟩ ⟨(hn : nm = nodeL ∨ nm = edgeL),⟨(ha0 : 0 ≤ a),(ha1 : a ≤ 9)⟩,(hb0 : 0 ≤ b),(hb1 : b ≤ 9)⟩
 conv=>whnf
 repeat' ((first | (refine (?_ : TG _ _); first | refine tY ?_ | refine tN ?_ | refine dY ?_ | refine dN ?_ | (refine tell ?_ ?_ <;> intro hQ <;> try dsimp only at hQ)) | refine aS ?_ | refine ai ?_ | fail) <;> conv=>whnf)
 refine ⟨_,m_fint,a,[],false,?_⟩
 conv=>whnf
 refine vcA ⟨ha0,ha1⟩ ?_
 refine uU ?_
 conv=>whnf
 conv=>whnf
 repeat' ((first | (refine (?_ : TG _ _); first | refine tY ?_ | refine tN ?_ | refine dY ?_ | refine dN ?_ | (refine tell ?_ ?_ <;> intro hQ <;> try dsimp only at hQ)) | refine aS ?_ | refine ai ?_ | fail) <;> conv=>whnf)
 refine ⟨_,m_fint,b,[],false,?_⟩
 conv=>whnf
 refine vcA ⟨hb0,hb1⟩ ?_
 refine uU ?_
 conv=>whnf
 conv=>whnf
 repeat' ((first | (refine (?_ : TG _ _); first | refine tY ?_ | refine tN ?_ | refine dY ?_ | refine dN ?_ | (refine tell ?_ ?_ <;> intro hQ <;> try dsimp only at hQ)) | refine aS ?_ | refine ai ?_ | fail) <;> conv=>whnf)
 refine ⟨_,m_fyes,c,[],false,?_⟩
 conv=>whnf
 refine vcA trivial ?_
 refine uU ?_
 conv=>whnf
 conv=>whnf
 repeat' ((first | (refine (?_ : TG _ _); first | refine tY ?_ | refine tN ?_ | refine dY ?_ | refine dN ?_ | (refine tell ?_ ?_ <;> intro hQ <;> try dsimp only at hQ)) | refine aS ?_ | refine ai ?_ | fail) <;> conv=>whnf)
 refine ⟨_,m_fmake 1,([nm,seqL,relL],[jInt a,jInt b,jYes c]),[],false,?_⟩
 conv=>whnf
 refine vcA ⟨(part_ok hn).2,rfl,(show 3 ≤ 8 by decide),(show 0 < 3 by decide),fun x hx=>part_items (nm:=nm) ⟨ha0,ha1⟩ ⟨hb0,hb1⟩ c x hx⟩ ?_
 refine uU ?_
 conv=>whnf
 conv=>whnf
 repeat' ((first | (refine (?_ : TG _ _); first | refine tY ?_ | refine tN ?_ | refine dY ?_ | refine dN ?_ | (refine tell ?_ ?_ <;> intro hQ <;> try dsimp only at hQ)) | refine aS ?_ | refine ai ?_ | fail) <;> conv=>whnf)
 exact ⟨(),[],trivial,a3⟩
def spEN1 : Spec AF where
 γ:=Int × Int × Bool
 args:=fun g=>[.agg [vI g.1,vI g.2.1,vB g.2.2]]
 pre:=OkP
 res:=fun g _=>jS (partJ nodeL g.1 g.2.1 g.2.2)
theorem m_eachN1 : Meets Tryz.prog regF 53 spEN1:=by
 refine meets Tryz.func53 10 noWr ?_
 rintro ⟨(a : Int),(b : Int),(c : Bool)⟩ ⟨⟨(ha0 : 0 ≤ a),(ha1 : a ≤ 9)⟩,(hb0 : 0 ≤ b),(hb1 : b ≤ 9)⟩
 conv=>whnf
 repeat' ((first | (refine (?_ : TG _ _); first | refine tY ?_ | refine tN ?_ | refine dY ?_ | refine dN ?_ | (refine tell ?_ ?_ <;> intro hQ <;> try dsimp only at hQ)) | refine aS ?_ | refine ai ?_ | fail) <;> conv=>whnf)
 refine ⟨_,m_part,(nodeL,a,b,c),[],false,?_⟩
 conv=>whnf
 refine vcA (show (nodeL = nodeL ∨ nodeL = edgeL) ∧ OkP (a,b,c) from ⟨by simp,⟨ha0,ha1⟩,hb0,hb1⟩) ?_
 refine uU ?_
 conv=>whnf
 conv=>whnf
 repeat' ((first | (refine (?_ : TG _ _); first | refine tY ?_ | refine tN ?_ | refine dY ?_ | refine dN ?_ | (refine tell ?_ ?_ <;> intro hQ <;> try dsimp only at hQ)) | refine aS ?_ | refine ai ?_ | fail) <;> conv=>whnf)
 exact ⟨(),[],trivial,a3⟩
def spEN : Spec AF where
 γ:=List (Int × Int × Bool)
 args:=fun l=>[.lst 122 l,.val (.func (.func 53) #[] #[])]
 pre:=fun l=>0 < l.length ∧ l.length ≤ 8 ∧ ∀ x ∈ l,OkP x
 res:=fun l _=>jS (jArr (l.map fun x=>partJ nodeL x.1 x.2.1 x.2.2))
theorem m_eachN : Meets Tryz.prog regF 52 spEN:=by
 refine meets Tryz.func52 23 noWr ?_
 rintro (l : List (Int × Int × Bool)) ⟨(hl0 : 0 < l.length),(hl : l.length ≤ 8),(hx : ∀ x ∈ l,OkP x)⟩
 conv=>whnf
 repeat' ((first | (refine (?_ : TG _ _); first | refine tY ?_ | refine tN ?_ | refine dY ?_ | refine dN ?_ | (refine tell ?_ ?_ <;> intro hQ <;> try dsimp only at hQ)) | refine aS ?_ | refine ai ?_ | fail) <;> conv=>whnf)
 refine ⟨Nat,fun i=>⟨[(1,.val (.func (.func 53) #[] #[])),(4,.ptr 1004 0 6 0),(5,.sl 3001 6 0 i),(8,.lst 122 l),(9,vI l.length),(10,vI i)],[(1004,.cells Z6),(3001,.arr 160 ((l.take i).map fun x=>partJ nodeL x.1 x.2.1 x.2.2))]⟩,fun i=>i ≤ l.length,fun i=>l.length - i,fun _ _=>rfl,⟨0,[],Nat.zero_le _,en⟩,?_⟩
 rintro (i : Nat) (hi : i ≤ l.length)
 have htl : ((l.take i).map fun x=>partJ nodeL x.1 x.2.1 x.2.2).length = i:=by rw [List.length_map,List.length_take]; omega
 by_cases hlt : i < l.length
 ·have hobt : ∃ y,l[i]? = some y:=⟨_,List.getElem?_eq_getElem hlt⟩
  obtain ⟨⟨xa,xb,xc⟩,hx1⟩:=hobt
  have hox:=hx _ (List.mem_of_getElem? hx1)
  conv=>whnf
  repeat' ((first | (refine (?_ : TG _ _); first | refine tY ?_ | refine tN ?_ | refine dY ?_ | refine dN ?_ | (refine tell ?_ ?_ <;> intro hQ <;> try dsimp only at hQ)) | refine aS ?_ | refine aX hx1 ?_ | refine aL hx1 ?_ | refine ai ?_ | fail) <;> conv=>whnf)
  refine ⟨_,m_eachN1,(xa,xb,xc),[],false,?_⟩
  conv=>whnf
  refine vcA hox ?_
  refine uU ?_
  conv=>whnf
  conv=>whnf
  repeat' ((first | (refine (?_ : TG _ _); first | refine tY ?_ | refine tN ?_ | refine dY ?_ | refine dN ?_ | (refine tell ?_ ?_ <;> intro hQ <;> try dsimp only at hQ)) | refine aS ?_ | refine aX hx1 ?_ | refine aL hx1 ?_ | refine ai ?_ | fail) <;> conv=>whnf)
  have e2 : ((l.take (i + 1)).map fun x=>partJ nodeL x.1 x.2.1 x.2.2) = ((l.take i).map fun x=>partJ nodeL x.1 x.2.1 x.2.2) ++ [partJ nodeL xa xb xc]:=by rw [take_snocI hx1,List.map_append]; rfl
  have e4 : List.take i (List.drop 0 ((l.take i).map fun x=>partJ nodeL x.1 x.2.1 x.2.2)) = ((l.take i).map fun x=>partJ nodeL x.1 x.2.1 x.2.2):=List.take_of_length_le (Nat.le_of_eq htl)
  refine ⟨i + 1,[(3001,1019)],hlt,?_,rfl,?_,?_,rfl⟩
  ·dsimp only; first | omega | (simp; done) | (simp; omega)
  all_goals (repeat' (first | exact trivial | exact rfl | refine And.intro ?_ ?_ | (refine congrArg vI ?_; first | omega | (dsimp only; omega) | fail) | (refine congrArg some ?_) | omega | exact Nat.le_refl _ | exact congrArg (SV.lst _) (List.take_of_length_le (Nat.le_refl _)).symm))
  exact congrArg (Ct.arr (A:=AF) 160) ((congrArg (· ++ [partJ nodeL xa xb xc]) e4).trans e2.symm)
 ·have hi' : i = l.length:=by omega
  have e6 : (l.map fun x=>partJ nodeL x.1 x.2.1 x.2.2) = List.take i (List.drop 0 ((l.take i).map fun x=>partJ nodeL x.1 x.2.1 x.2.2)):=by
   rw [List.take_of_length_le (l:=l) (by omega)]
   exact (List.take_of_length_le (by rw [List.length_map]; omega)).symm
  conv=>whnf
  repeat' ((first | (refine (?_ : TG _ _); first | refine tY ?_ | refine tN ?_ | refine dY ?_ | refine dN ?_ | (refine tell ?_ ?_ <;> intro hQ <;> try dsimp only at hQ)) | refine aS ?_ | refine ai ?_ | fail) <;> conv=>whnf)
  refine ⟨_,m_farr 3,(l.map fun x=>partJ nodeL x.1 x.2.1 x.2.2),[],false,?_⟩
  conv=>whnf
  refine And.intro (vc0 (jg_parts nodeL (by simp) hl hx) (by (repeat' (first | exact trivial | exact rfl | refine And.intro ?_ ?_ | (refine congrArg vI ?_; first | omega | (dsimp only; omega) | fail) | (refine congrArg some ?_) | omega | exact Nat.le_refl _ | exact congrArg (SV.lst _) (List.take_of_length_le (Nat.le_refl _)).symm)); all_goals (first | exact congrArg (SV.lst (A:=AF) 160) e6 | fail)) (by repeat' (first | exact trivial | exact rfl | refine And.intro ?_ ?_ | (refine congrArg vI ?_; first | omega | (dsimp only; omega) | fail) | (refine congrArg some ?_) | omega | exact Nat.le_refl _ | exact congrArg (SV.lst _) (List.take_of_length_le (Nat.le_refl _)).symm)) trivial trivial) ?_
  refine uU ?_
  conv=>whnf
  conv=>whnf
  repeat' ((first | (refine (?_ : TG _ _); first | refine tY ?_ | refine tN ?_ | refine dY ?_ | refine dN ?_ | (refine tell ?_ ?_ <;> intro hQ <;> try dsimp only at hQ)) | refine aS ?_ | refine ai ?_ | fail) <;> conv=>whnf)
  exact ⟨(),[],trivial,a3⟩
def spEE1 : Spec AF where
 γ:=Int × Int × Bool
 args:=fun g=>[.agg [vI g.1,vI g.2.1,vB g.2.2]]
 pre:=OkP
 res:=fun g _=>jS (partJ edgeL g.1 g.2.1 g.2.2)
theorem m_eachE1 : Meets Tryz.prog regF 56 spEE1:=by
 refine meets Tryz.func56 10 noWr ?_
 rintro ⟨(a : Int),(b : Int),(c : Bool)⟩ ⟨⟨(ha0 : 0 ≤ a),(ha1 : a ≤ 9)⟩,(hb0 : 0 ≤ b),(hb1 : b ≤ 9)⟩
 conv=>whnf
 repeat' ((first | (refine (?_ : TG _ _); first | refine tY ?_ | refine tN ?_ | refine dY ?_ | refine dN ?_ | (refine tell ?_ ?_ <;> intro hQ <;> try dsimp only at hQ)) | refine aS ?_ | refine ai ?_ | fail) <;> conv=>whnf)
 refine ⟨_,m_part,(edgeL,a,b,c),[],false,?_⟩
 conv=>whnf
 refine vcA (show (edgeL = nodeL ∨ edgeL = edgeL) ∧ OkP (a,b,c) from ⟨by simp,⟨ha0,ha1⟩,hb0,hb1⟩) ?_
 refine uU ?_
 conv=>whnf
 conv=>whnf
 repeat' ((first | (refine (?_ : TG _ _); first | refine tY ?_ | refine tN ?_ | refine dY ?_ | refine dN ?_ | (refine tell ?_ ?_ <;> intro hQ <;> try dsimp only at hQ)) | refine aS ?_ | refine ai ?_ | fail) <;> conv=>whnf)
 exact ⟨(),[],trivial,a3⟩
def spEE : Spec AF where
 γ:=List (Int × Int × Bool)
 args:=fun l=>[.lst 125 l,.val (.func (.func 56) #[] #[])]
 pre:=fun l=>0 < l.length ∧ l.length ≤ 8 ∧ ∀ x ∈ l,OkP x
 res:=fun l _=>jS (jArr (l.map fun x=>partJ edgeL x.1 x.2.1 x.2.2))
theorem m_eachE : Meets Tryz.prog regF 55 spEE:=by
 refine meets Tryz.func55 23 noWr ?_
 rintro (l : List (Int × Int × Bool)) ⟨(hl0 : 0 < l.length),(hl : l.length ≤ 8),(hx : ∀ x ∈ l,OkP x)⟩
 conv=>whnf
 repeat' ((first | (refine (?_ : TG _ _); first | refine tY ?_ | refine tN ?_ | refine dY ?_ | refine dN ?_ | (refine tell ?_ ?_ <;> intro hQ <;> try dsimp only at hQ)) | refine aS ?_ | refine ai ?_ | fail) <;> conv=>whnf)
 refine ⟨Nat,fun i=>⟨[(1,.val (.func (.func 56) #[] #[])),(4,.ptr 1004 0 6 0),(5,.sl 3001 6 0 i),(8,.lst 125 l),(9,vI l.length),(10,vI i)],[(1004,.cells Z6),(3001,.arr 160 ((l.take i).map fun x=>partJ edgeL x.1 x.2.1 x.2.2))]⟩,fun i=>i ≤ l.length,fun i=>l.length - i,fun _ _=>rfl,⟨0,[],Nat.zero_le _,en⟩,?_⟩
 rintro (i : Nat) (hi : i ≤ l.length)
 have htl : ((l.take i).map fun x=>partJ edgeL x.1 x.2.1 x.2.2).length = i:=by rw [List.length_map,List.length_take]; omega
 by_cases hlt : i < l.length
 ·have hobt : ∃ y,l[i]? = some y:=⟨_,List.getElem?_eq_getElem hlt⟩
  obtain ⟨⟨xa,xb,xc⟩,hx1⟩:=hobt
  have hox:=hx _ (List.mem_of_getElem? hx1)
  conv=>whnf
  repeat' ((first | (refine (?_ : TG _ _); first | refine tY ?_ | refine tN ?_ | refine dY ?_ | refine dN ?_ | (refine tell ?_ ?_ <;> intro hQ <;> try dsimp only at hQ)) | refine aS ?_ | refine aX hx1 ?_ | refine aL hx1 ?_ | refine ai ?_ | fail) <;> conv=>whnf)
  refine ⟨_,m_eachE1,(xa,xb,xc),[],false,?_⟩
  conv=>whnf
  refine vcA hox ?_
  refine uU ?_
  conv=>whnf
  conv=>whnf
  repeat' ((first | (refine (?_ : TG _ _); first | refine tY ?_ | refine tN ?_ | refine dY ?_ | refine dN ?_ | (refine tell ?_ ?_ <;> intro hQ <;> try dsimp only at hQ)) | refine aS ?_ | refine aX hx1 ?_ | refine aL hx1 ?_ | refine ai ?_ | fail) <;> conv=>whnf)
  have e2 : ((l.take (i + 1)).map fun x=>partJ edgeL x.1 x.2.1 x.2.2) = ((l.take i).map fun x=>partJ edgeL x.1 x.2.1 x.2.2) ++ [partJ edgeL xa xb xc]:=by rw [take_snocI hx1,List.map_append]; rfl
  have e4 : List.take i (List.drop 0 ((l.take i).map fun x=>partJ edgeL x.1 x.2.1 x.2.2)) = ((l.take i).map fun x=>partJ edgeL x.1 x.2.1 x.2.2):=List.take_of_length_le (Nat.le_of_eq htl)
  refine ⟨i + 1,[(3001,1019)],hlt,?_,rfl,?_,?_,rfl⟩
  ·dsimp only; first | omega | (simp; done) | (simp; omega)
  all_goals (repeat' (first | exact trivial | exact rfl | refine And.intro ?_ ?_ | (refine congrArg vI ?_; first | omega | (dsimp only; omega) | fail) | (refine congrArg some ?_) | omega | exact Nat.le_refl _ | exact congrArg (SV.lst _) (List.take_of_length_le (Nat.le_refl _)).symm))
  exact congrArg (Ct.arr (A:=AF) 160) ((congrArg (· ++ [partJ edgeL xa xb xc]) e4).trans e2.symm)
 ·have hi' : i = l.length:=by omega
  have e6 : (l.map fun x=>partJ edgeL x.1 x.2.1 x.2.2) = List.take i (List.drop 0 ((l.take i).map fun x=>partJ edgeL x.1 x.2.1 x.2.2)):=by
   rw [List.take_of_length_le (l:=l) (by omega)]
   exact (List.take_of_length_le (by rw [List.length_map]; omega)).symm
  conv=>whnf
  repeat' ((first | (refine (?_ : TG _ _); first | refine tY ?_ | refine tN ?_ | refine dY ?_ | refine dN ?_ | (refine tell ?_ ?_ <;> intro hQ <;> try dsimp only at hQ)) | refine aS ?_ | refine ai ?_ | fail) <;> conv=>whnf)
  refine ⟨_,m_farr 3,(l.map fun x=>partJ edgeL x.1 x.2.1 x.2.2),[],false,?_⟩
  conv=>whnf
  refine And.intro (vc0 (jg_parts edgeL (by simp) hl hx) (by (repeat' (first | exact trivial | exact rfl | refine And.intro ?_ ?_ | (refine congrArg vI ?_; first | omega | (dsimp only; omega) | fail) | (refine congrArg some ?_) | omega | exact Nat.le_refl _ | exact congrArg (SV.lst _) (List.take_of_length_le (Nat.le_refl _)).symm)); all_goals (first | exact congrArg (SV.lst (A:=AF) 160) e6 | fail)) (by repeat' (first | exact trivial | exact rfl | refine And.intro ?_ ?_ | (refine congrArg vI ?_; first | omega | (dsimp only; omega) | fail) | (refine congrArg some ?_) | omega | exact Nat.le_refl _ | exact congrArg (SV.lst _) (List.take_of_length_le (Nat.le_refl _)).symm)) trivial trivial) ?_
  refine uU ?_
  conv=>whnf
  conv=>whnf
  repeat' ((first | (refine (?_ : TG _ _); first | refine tY ?_ | refine tN ?_ | refine dY ?_ | refine dN ?_ | (refine tell ?_ ?_ <;> intro hQ <;> try dsimp only at hQ)) | refine aS ?_ | refine ai ?_ | fail) <;> conv=>whnf)
  exact ⟨(),[],trivial,a3⟩
theorem kgS (y : Txt) (hy : OkW y) {n : Nat} {wr : Nat → Bool} : (envF n wr).reg.kg 9 (bS y):=by
 have h1:=size_bS y
 have h2:=hy.1.1
 show (⟨y.toArray⟩ : ByteArray).size ≤ maxLen
 rw [h1]; unfold maxLen; omega
def spUniq : Spec AF where
 γ:=List ByteArray
 δ:=Bool
 args:=fun l=>[.lst 9 l]
 pre:=fun l=>l.length ≤ 8 ∧ ∀ s ∈ l,OkS s
 res:=fun _ c=>vB c
theorem m_unique : Meets Tryz.prog regF 153 spUniq:=by
 refine meets Tryz.func153 24 noWr ?_
 rintro (l : List ByteArray) ⟨(hl : l.length ≤ 8),(hx : ∀ s ∈ l,OkS s)⟩
 conv=>whnf
 repeat' ((first | (refine (?_ : TG _ _); first | refine tY ?_ | refine tN ?_ | refine dY ?_ | refine dN ?_ | (refine tell ?_ ?_ <;> intro hQ <;> try dsimp only at hQ)) | refine aS ?_ | refine ai ?_ | fail) <;> conv=>whnf)
 refine ⟨Nat × List (ByteArray × Bool),fun p=>⟨[(2,vB false),(3,.mp 1006),(7,.lst 9 l),(8,vI l.length),(9,vI p.1)],[(1006,.map 9 4 p.2)]⟩,fun p=>p.1 ≤ l.length,fun p=>l.length - p.1,fun _ _=>rfl,⟨(0,[]),[],Nat.zero_le _,en⟩,?_⟩
 rintro ⟨(i : Nat),(es : List (ByteArray × Bool))⟩ (hi : i ≤ l.length)
 by_cases hlt : i < l.length
 ·have hobt : ∃ y,l[i]? = some y:=⟨_,List.getElem?_eq_getElem hlt⟩
  obtain ⟨x,hx1⟩:=hobt
  have hobt:=hx _ (List.mem_of_getElem? hx1)
  obtain ⟨y,hy,rfl⟩:=hobt
  conv=>whnf
  repeat' ((first | (refine (?_ : TG _ _); first | refine tY ?_ | refine tN ?_ | refine dY ?_ | refine dN ?_ | (refine tell ?_ ?_ <;> intro hQ <;> try dsimp only at hQ)) | refine aS ?_ | refine aX hx1 ?_ | refine aL hx1 ?_ | refine ai ?_ | fail) <;> conv=>whnf)
  refine ⟨kgS y hy,?_⟩
  conv=>whnf
  refine aV _ rfl fun (c : Bool) _=>?_
  cases c
  ·conv=>whnf
   repeat' ((first | (refine (?_ : TG _ _); first | refine tY ?_ | refine tN ?_ | refine dY ?_ | refine dN ?_ | (refine tell ?_ ?_ <;> intro hQ <;> try dsimp only at hQ)) | refine aS ?_ | refine ai ?_ | fail) <;> conv=>whnf)
   refine ⟨_,m_whole,y,[],false,?_⟩
   conv=>whnf
   refine vcA hy.1 ?_
   conv=>whnf
   refine aV false trivial fun (d : Bool) _=>?_
   cases d
   ·conv=>whnf
    repeat' ((first | (refine (?_ : TG _ _); first | refine tY ?_ | refine tN ?_ | refine dY ?_ | refine dN ?_ | (refine tell ?_ ?_ <;> intro hQ <;> try dsimp only at hQ)) | refine aS ?_ | refine ai ?_ | fail) <;> conv=>whnf)
    exact ⟨false,[],trivial,a3⟩
   ·conv=>whnf
    repeat' ((first | (refine (?_ : TG _ _); first | refine tY ?_ | refine tN ?_ | refine dY ?_ | refine dN ?_ | (refine tell ?_ ?_ <;> intro hQ <;> try dsimp only at hQ)) | refine aS ?_ | refine ai ?_ | fail) <;> conv=>whnf)
    refine ⟨kgS y hy,?_⟩
    conv=>whnf
    repeat' ((first | (refine (?_ : TG _ _); first | refine tY ?_ | refine tN ?_ | refine dY ?_ | refine dN ?_ | (refine tell ?_ ?_ <;> intro hQ <;> try dsimp only at hQ)) | refine aS ?_ | refine ai ?_ | fail) <;> conv=>whnf)
    exact ⟨(i + 1,ins regF 9 4 es (bS y) true),[],hlt,rn en⟩
  ·conv=>whnf
   repeat' ((first | (refine (?_ : TG _ _); first | refine tY ?_ | refine tN ?_ | refine dY ?_ | refine dN ?_ | (refine tell ?_ ?_ <;> intro hQ <;> try dsimp only at hQ)) | refine aS ?_ | refine ai ?_ | fail) <;> conv=>whnf)
   exact ⟨false,[],trivial,a3⟩
 ·conv=>whnf
  repeat' ((first | (refine (?_ : TG _ _); first | refine tY ?_ | refine tN ?_ | refine dY ?_ | refine dN ?_ | (refine tell ?_ ?_ <;> intro hQ <;> try dsimp only at hQ)) | refine aS ?_ | refine ai ?_ | fail) <;> conv=>whnf)
  exact ⟨true,[],trivial,a3⟩
def spBare : Spec AF where
 γ:=Js
 δ:=Js
 args:=fun v=>[jS v]
 pre:=fun v=>v.p4.length ≤ 8 ∧ v.p5.length ≤ 8
 res:=fun _ v=>jS v
 post:=fun _ v=>v.p4.length ≤ 8 ∧ v.p5.length ≤ 8
theorem m_bare : Meets Tryz.prog regF 150 spBare:=by
 refine meets Tryz.func150 20 noWr ?_
 rintro ⟨k,m,e,t,names,(items : List Js)⟩ ⟨(hn : names.length ≤ 8),(hi : items.length ≤ 8)⟩
 have h0 : (0 : Nat) ≤ 8:=by decide
 conv=>whnf
 repeat' ((first | (refine (?_ : TG _ _); first | refine tY ?_ | refine tN ?_ | refine dY ?_ | refine dN ?_ | (refine tell ?_ ?_ <;> intro hQ <;> try dsimp only at hQ)) | refine aS ?_ | refine ai ?_ | fail) <;> conv=>whnf)
 ·exact ⟨.mk k 0 0 t names items,[],⟨hn,hi⟩,a3⟩
 ·exact ⟨.mk k m e (bS []) names items,[],⟨hn,hi⟩,a3⟩
 ·exact ⟨.mk k m e t [] [],[],⟨h0,h0⟩,a3⟩
 ·exact ⟨.mk k m e t names [],[],⟨hn,h0⟩,a3⟩
 ·exact ⟨.mk k m e t names items,[],⟨hn,hi⟩,a3⟩
def spJR (n : Nat) : Spec AF where
 γ:=Js × Int
 δ:=Bool
 args:=fun g=>[jS g.1,vI g.2]
 pre:=fun g=>jg n g.1 ∧ 0 ≤ g.2 ∧ g.2 + n ≤ 1000
 res:=fun _ c=>vB c
def spR1 (n : Nat) : Spec AF where
 γ:=Js × Int
 δ:=Bool
 args:=fun g=>[jS g.1,.ptr 0 0 1 0]
 own:=fun g=>[.cells [vI g.2]]
 pre:=fun g=>jg n g.1 ∧ 0 ≤ g.2 ∧ g.2 + 1 + n ≤ 1000
 res:=fun _ c=>vB c
 own':=fun g _=>[some (.cells [vI g.2])]
theorem m_r1 (n : Nat) (h : Meets Tryz.prog regF 116 (spJR n)) : Meets Tryz.prog regF 155 (spR1 n):=by
 refine meets Tryz.func155 9 noWr ?_
 rintro ⟨⟨k,m,e,t,names,(items : List Js)⟩,(d : Int)⟩ ⟨hv,(h0 : 0 ≤ d),(h1 : d + 1 + n ≤ 1000)⟩
 conv=>whnf
 repeat' ((first | (refine (?_ : TG _ _); first | refine tY ?_ | refine tN ?_ | refine dY ?_ | refine dN ?_ | (refine tell ?_ ?_ <;> intro hQ <;> try dsimp only at hQ)) | refine aS ?_ | refine ai ?_ | fail) <;> conv=>whnf)
 refine ⟨_,h,(.mk k m e t names items,d + 1),[],false,?_⟩
 conv=>whnf
 refine vcA ⟨hv,(show 0 ≤ d + 1 by omega),h1⟩ ?_
 conv=>whnf
 refine aV false trivial fun (c : Bool) _=>?_
 conv=>whnf
 repeat' ((first | (refine (?_ : TG _ _); first | refine tY ?_ | refine tN ?_ | refine dY ?_ | refine dN ?_ | (refine tell ?_ ?_ <;> intro hQ <;> try dsimp only at hQ)) | refine aS ?_ | refine ai ?_ | fail) <;> conv=>whnf)
 exact ⟨!c,[],trivial,a3⟩
def spIdxJR (n : Nat) : Spec AF where
 γ:=List Js × Int
 δ:=Int
 args:=fun g=>[.lst 160 g.1,.fn (.func 155) [] [.ptr 0 0 1 0]]
 own:=fun g=>[.cells [vI g.2]]
 pre:=fun g=>g.1.length ≤ 8 ∧ (∀ x ∈ g.1,jg n x) ∧ 0 ≤ g.2 ∧ g.2 + 1 + n ≤ 1000
 res:=fun _ r=>vI r
 own':=fun g _=>[some (.cells [vI g.2])]
 post:=fun _ r=>-1 ≤ r ∧ r ≤ 8
theorem m_idxJR (n : Nat) (h : Meets Tryz.prog regF 155 (spR1 n)) : Meets Tryz.prog regF 195 (spIdxJR n):=by
 refine meets Tryz.func195 19 noWr ?_
 rintro ⟨(l : List Js),(d : Int)⟩ ⟨(hl : l.length ≤ 8),(hx : ∀ x ∈ l,jg n x),(h0 : 0 ≤ d),(h1 : d + 1 + n ≤ 1000)⟩
 conv=>whnf
 repeat' ((first | (refine (?_ : TG _ _); first | refine tY ?_ | refine tN ?_ | refine dY ?_ | refine dN ?_ | (refine tell ?_ ?_ <;> intro hQ <;> try dsimp only at hQ)) | refine aS ?_ | refine ai ?_ | fail) <;> conv=>whnf)
 refine ⟨Nat,fun j=>⟨[(0,.lst 160 l),(1,.fn (.func 155) [] [.ptr 0 0 1 0]),(7,vI l.length),(8,vI j)],[(0,.cells [vI d])]⟩,fun j=>j ≤ l.length,fun j=>l.length - j,fun _ _=>rfl,⟨0,[],Nat.zero_le _,en⟩,?_⟩
 rintro (j : Nat) (hj : j ≤ l.length)
 by_cases hlt : j < l.length
 ·have hobt : ∃ y,l[j]? = some y:=⟨_,List.getElem?_eq_getElem hlt⟩
  obtain ⟨⟨xa,xb,xc,xd,xe,xf⟩,hx1⟩:=hobt
  conv=>whnf
  repeat' ((first | (refine (?_ : TG _ _); first | refine tY ?_ | refine tN ?_ | refine dY ?_ | refine dN ?_ | (refine tell ?_ ?_ <;> intro hQ <;> try dsimp only at hQ)) | refine aS ?_ | refine aX hx1 ?_ | refine aL hx1 ?_ | refine ai ?_ | fail) <;> conv=>whnf)
  refine ⟨_,h,(.mk xa xb xc xd xe xf,d),[0],false,?_⟩
  conv=>whnf
  refine vcA ⟨hx _ (List.mem_of_getElem? hx1),h0,h1⟩ ?_
  conv=>whnf
  refine aV false trivial fun (c : Bool) _=>?_
  cases c
  ·conv=>whnf
   repeat' ((first | (refine (?_ : TG _ _); first | refine tY ?_ | refine tN ?_ | refine dY ?_ | refine dN ?_ | (refine tell ?_ ?_ <;> intro hQ <;> try dsimp only at hQ)) | refine aS ?_ | refine ai ?_ | fail) <;> conv=>whnf)
   exact ⟨j + 1,[],hlt,rn en⟩
  ·conv=>whnf
   repeat' ((first | (refine (?_ : TG _ _); first | refine tY ?_ | refine tN ?_ | refine dY ?_ | refine dN ?_ | (refine tell ?_ ?_ <;> intro hQ <;> try dsimp only at hQ)) | refine aS ?_ | refine ai ?_ | fail) <;> conv=>whnf)
   exact ⟨(j : Int),[],⟨by omega,by omega⟩,a3⟩
 ·conv=>whnf
  repeat' ((first | (refine (?_ : TG _ _); first | refine tY ?_ | refine tN ?_ | refine dY ?_ | refine dN ?_ | (refine tell ?_ ?_ <;> intro hQ <;> try dsimp only at hQ)) | refine aS ?_ | refine ai ?_ | fail) <;> conv=>whnf)
  exact ⟨(-1 : Int),[],⟨by decide,by decide⟩,a3⟩
def spConJR (n : Nat) : Spec AF where
 γ:=List Js × Int
 δ:=Bool
 args:=fun g=>[.lst 160 g.1,.fn (.func 155) [] [.ptr 0 0 1 0]]
 own:=fun g=>[.cells [vI g.2]]
 pre:=fun g=>g.1.length ≤ 8 ∧ (∀ x ∈ g.1,jg n x) ∧ 0 ≤ g.2 ∧ g.2 + 1 + n ≤ 1000
 res:=fun _ c=>vB c
 own':=fun g _=>[some (.cells [vI g.2])]
theorem m_conJR (n : Nat) (h : Meets Tryz.prog regF 195 (spIdxJR n)) : Meets Tryz.prog regF 154 (spConJR n):=by
 refine meets Tryz.func154 9 noWr ?_
 rintro ⟨(l : List Js),(d : Int)⟩ hp
 conv=>whnf
 repeat' ((first | (refine (?_ : TG _ _); first | refine tY ?_ | refine tN ?_ | refine dY ?_ | refine dN ?_ | (refine tell ?_ ?_ <;> intro hQ <;> try dsimp only at hQ)) | refine aS ?_ | refine ai ?_ | fail) <;> conv=>whnf)
 refine ⟨_,h,(l,d),[0],false,?_⟩
 conv=>whnf
 refine vcA hp ?_
 conv=>whnf
 refine aV (0 : Int) ⟨by decide,by decide⟩ fun (r : Int) _=>?_
 conv=>whnf
 repeat' ((first | (refine (?_ : TG _ _); first | refine tY ?_ | refine tN ?_ | refine dY ?_ | refine dN ?_ | (refine tell ?_ ?_ <;> intro hQ <;> try dsimp only at hQ)) | refine aS ?_ | refine ai ?_ | fail) <;> conv=>whnf)
 ·exact ⟨true,[],trivial,a3⟩
 ·exact ⟨false,[],trivial,a3⟩
theorem m_rightJ (n : Nat) : Meets Tryz.prog regF 116 (spJR n):=by
 induction n with
 | zero=>exact ⟨⟨_,Tryz.func116,by kernel_rfl,by kernel_rfl⟩,fun v hv=>hv.1.elim⟩
 | succ n ih=>
 have hC:=m_conJR n (m_idxJR n (m_r1 n ih))
 refine meets Tryz.func116 73 noWr ?_
 rintro ⟨⟨k,m,e,t,names,(items : List Js)⟩,(d : Int)⟩ ⟨⟨⟨(hk0 : 0 ≤ k),(hk1 : k ≤ 9)⟩,⟨(hm0 : 0 ≤ m),(hm1 : m ≤ 9)⟩,(he : e = 0),ht,(hn : names.length ≤ 8),(hi : items.length ≤ 8),_,(hns : ∀ s ∈ names,OkS s),(hx : ∀ x ∈ items,jg n x)⟩,(h0 : 0 ≤ d),(h1 : d + ((n + 1 : Nat) : Int) ≤ 1000)⟩
 subst he
 obtain ⟨tl,ht,rfl⟩:=ht
 conv=>whnf
 repeat' ((first | (refine (?_ : TG _ _); first | refine tY ?_ | refine tN ?_ | refine dY ?_ | refine dN ?_ | (refine tell ?_ ?_ <;> intro hQ <;> try dsimp only at hQ)) | refine aS ?_ | refine ai ?_ | fail) <;> conv=>whnf)
 refine ⟨_,m_bare,.mk k m 0 (bS tl) names items,[],false,?_⟩
 conv=>whnf
 refine vcA ⟨hn,hi⟩ ?_
 conv=>whnf
 refine aV (.mk 0 0 0 (bS []) [] []) ⟨Nat.zero_le _,Nat.zero_le _⟩ fun (b : Js) (hb : b.p4.length ≤ 8 ∧ b.p5.length ≤ 8)=>?_
 obtain ⟨hb1,hb2⟩:=hb
 conv=>whnf
 repeat' ((first | (refine (?_ : TG _ _); first | refine tY ?_ | refine tN ?_ | refine dY ?_ | refine dN ?_ | (refine tell ?_ ?_ <;> intro hQ <;> try dsimp only at hQ)) | refine aS ?_ | refine ai ?_ | fail) <;> conv=>whnf)
 ·exact ⟨false,[],trivial,a3⟩
 ·exact ⟨false,[],trivial,a3⟩
 ·exact ⟨false,[],trivial,a3⟩
 ·exact ⟨false,[],trivial,a3⟩
 ·exact ⟨false,[],trivial,a3⟩
 ·exact ⟨false,[],trivial,a3⟩
 ·refine ⟨_,m_dright,m,[],false,?_⟩
  conv=>whnf
  refine vcA ⟨hm0,hm1⟩ ?_
  refine uU ?_
  conv=>whnf
  conv=>whnf
  repeat' ((first | (refine (?_ : TG _ _); first | refine tY ?_ | refine tN ?_ | refine dY ?_ | refine dN ?_ | (refine tell ?_ ?_ <;> intro hQ <;> try dsimp only at hQ)) | refine aS ?_ | refine ai ?_ | fail) <;> conv=>whnf)
  exact ⟨true,[],trivial,a3⟩
 ·refine ⟨_,m_whole,tl,[],false,?_⟩
  conv=>whnf
  refine vcA ht.1 ?_
  conv=>whnf
  refine aV false trivial fun (c : Bool) _=>?_
  conv=>whnf
  repeat' ((first | (refine (?_ : TG _ _); first | refine tY ?_ | refine tN ?_ | refine dY ?_ | refine dN ?_ | (refine tell ?_ ?_ <;> intro hQ <;> try dsimp only at hQ)) | refine aS ?_ | refine ai ?_ | fail) <;> conv=>whnf)
  exact ⟨c,[],trivial,a3⟩
 ·exact ⟨false,[],trivial,a3⟩
 ·refine ⟨_,m_unique,names,[],false,?_⟩
  conv=>whnf
  refine vcA ⟨hn,hns⟩ ?_
  conv=>whnf
  refine aV false trivial fun (c : Bool) _=>?_
  cases c
  ·conv=>whnf
   repeat' ((first | (refine (?_ : TG _ _); first | refine tY ?_ | refine tN ?_ | refine dY ?_ | refine dN ?_ | (refine tell ?_ ?_ <;> intro hQ <;> try dsimp only at hQ)) | refine aS ?_ | refine ai ?_ | fail) <;> conv=>whnf)
   exact ⟨false,[],trivial,a3⟩
  ·conv=>whnf
   repeat' ((first | (refine (?_ : TG _ _); first | refine tY ?_ | refine tN ?_ | refine dY ?_ | refine dN ?_ | (refine tell ?_ ?_ <;> intro hQ <;> try dsimp only at hQ)) | refine aS ?_ | refine ai ?_ | fail) <;> conv=>whnf)
   refine ⟨_,hC,(items,d),[1003],false,?_⟩
   conv=>whnf
   refine vcA ⟨hi,hx,h0,(show d + 1 + (n : Int) ≤ 1000 by omega)⟩ ?_
   conv=>whnf
   refine aV false trivial fun (c : Bool) _=>?_
   conv=>whnf
   repeat' ((first | (refine (?_ : TG _ _); first | refine tY ?_ | refine tN ?_ | refine dY ?_ | refine dN ?_ | (refine tell ?_ ?_ <;> intro hQ <;> try dsimp only at hQ)) | refine aS ?_ | refine ai ?_ | fail) <;> conv=>whnf)
   exact ⟨!c,[],trivial,a3⟩
 ·refine ⟨_,hC,(items,d),[1003],false,?_⟩
  conv=>whnf
  refine vcA ⟨hi,hx,h0,(show d + 1 + (n : Int) ≤ 1000 by omega)⟩ ?_
  conv=>whnf
  refine aV false trivial fun (c : Bool) _=>?_
  conv=>whnf
  repeat' ((first | (refine (?_ : TG _ _); first | refine tY ?_ | refine tN ?_ | refine dY ?_ | refine dN ?_ | (refine tell ?_ ?_ <;> intro hQ <;> try dsimp only at hQ)) | refine aS ?_ | refine ai ?_ | fail) <;> conv=>whnf)
  exact ⟨!c,[],trivial,a3⟩
abbrev B3:=Nat × Nat × Nat
def spW1 : Spec AF where
 γ:=B3 × List UInt8 × Txt
 δ:=B3 × List UInt8
 args:=fun g=>[vS g.2.2,.ptr 0 0 1 0]
 own:=fun g=>[.cells [.ptr 1 0 2 0],bldH g.1.1 g.1.2.1 g.2.1.length g.1.2.2,bldR g.1.2.1 g.2.1 g.1.2.2]
 pre:=fun g=>OkW g.2.2 ∧ g.2.1.length ≤ 1000000000000
 nnew:=1
 res:=fun _ _=>.tup []
 own':=fun _ d=>[some (.cells [.ptr 1 0 2 0]),some (bldH d.1.1 d.1.2.1 d.2.length d.1.2.2),none,some (bldR d.1.2.1 d.2 d.1.2.2)]
 post:=fun g d=>d.2.length ≤ g.2.1.length + 66 ∧ g.2.1.length ≤ d.2.length
theorem m_w1 : Meets Tryz.prog regF 117 spW1:=by
 refine meets Tryz.func117 13 noWr ?_
 rintro ⟨⟨(b : Nat),(gb : Nat),(cap : Nat)⟩,(l : List UInt8),(y : Txt)⟩ ⟨(hy : OkW y),(hl : l.length ≤ 1000000000000)⟩
 have hyl:=hy.1.1
 conv=>whnf
 repeat' ((first | (refine (?_ : TG _ _); first | refine tY ?_ | refine tN ?_ | refine dY ?_ | refine dN ?_ | (refine tell ?_ ?_ <;> intro hQ <;> try dsimp only at hQ)) | refine aS ?_ | refine ai ?_ | fail) <;> conv=>whnf)
 refine ⟨_,m_quote,y,[],false,?_⟩
 conv=>whnf
 refine vcA hy ?_
 conv=>whnf
 refine aV (([],false) : List UInt8 × Bool) (Nat.zero_le _) fun (q : List UInt8 × Bool) (hq : q.1.length ≤ 4 * y.length + 2)=>?_
 obtain ⟨q,c⟩:=q
 have hq : q.length ≤ 4 * y.length + 2:=hq
 have hqs:=size_bS q
 conv=>whnf
 repeat' ((first | (refine (?_ : TG _ _); first | refine tY ?_ | refine tN ?_ | refine dY ?_ | refine dN ?_ | (refine tell ?_ ?_ <;> intro hQ <;> try dsimp only at hQ)) | refine aS ?_ | refine ai ?_ | fail) <;> conv=>whnf)
 refine ⟨_,m_wsU,((b,gb,cap),l,bS q),[1,2],false,?_⟩
 conv=>whnf
 refine vcA (show l.length + (⟨q.toArray⟩ : ByteArray).size ≤ 140737488355328 by omega) ?_
 conv=>whnf
 refine aV ((0,0,0) : B3) trivial fun (d : B3) _=>?_
 conv=>whnf
 repeat' ((first | (refine (?_ : TG _ _); first | refine tY ?_ | refine tN ?_ | refine dY ?_ | refine dN ?_ | (refine tell ?_ ?_ <;> intro hQ <;> try dsimp only at hQ)) | refine aS ?_ | refine ai ?_ | fail) <;> conv=>whnf)
 exact ⟨(d,l ++ q),[1012],(show (l ++ q).length ≤ l.length + 66 ∧ l.length ≤ (l ++ q).length by rw [List.length_append]; omega),a3⟩
def Bn : Nat → Nat
 | 0=>0
 | n + 1=>8 * (Bn n + 100) + 100
def spWr (n : Nat) : Spec AF where
 γ:=B3 × List UInt8 × Js
 δ:=B3 × List UInt8
 args:=fun g=>[.ptr 0 0 2 0,jS g.2.2]
 own:=fun g=>[bldH g.1.1 g.1.2.1 g.2.1.length g.1.2.2,bldR g.1.2.1 g.2.1 g.1.2.2]
 pre:=fun g=>jg n g.2.2 ∧ g.2.1.length + Bn n ≤ 1000000000000
 nnew:=1
 res:=fun _ _=>.tup []
 own':=fun _ d=>[some (bldH d.1.1 d.1.2.1 d.2.length d.1.2.2),none,some (bldR d.1.2.1 d.2 d.1.2.2)]
 post:=fun g d=>d.2.length ≤ g.2.1.length + Bn n ∧ g.2.1.length ≤ d.2.length
def spWrF (n : Nat) : Spec AF where
 γ:=Js
 δ:=B3 × List UInt8
 args:=fun v=>[.ptr 0 0 2 0,jS v]
 own:=fun _=>[bld0]
 pre:=fun v=>jg n v ∧ v.p0 = 7 ∧ Bn n ≤ 1000000000
 nnew:=1
 res:=fun _ _=>.tup []
 own':=fun _ d=>[some (bldH d.1.1 d.1.2.1 d.2.length d.1.2.2),some (bldR d.1.2.1 d.2 d.1.2.2)]
 post:=fun _ d=>d.2.length ≤ Bn n ∧ d.2 ≠ []
theorem m_wr (n : Nat) : Meets Tryz.prog regF 90 (spWr n):=by
 induction n with
 | zero=>exact ⟨⟨_,Tryz.func90,by kernel_rfl,by kernel_rfl⟩,fun v hv=>hv.1.elim⟩
 | succ n ih=>
 refine meets Tryz.func90 74 noWr ?_
 rintro ⟨⟨(b : Nat),(gb : Nat),(cap : Nat)⟩,(l : List UInt8),⟨k,m,e,t,names,(items : List Js)⟩⟩ ⟨⟨⟨(hk0 : 0 ≤ k),(hk1 : k ≤ 9)⟩,⟨(hm0 : 0 ≤ m),(hm1 : m ≤ 9)⟩,(he : e = 0),ht,(hn : names.length ≤ 8),(hi : items.length ≤ 8),(hnl : k = 7 → names.length = items.length),(hns : ∀ s ∈ names,OkS s),(hx : ∀ x ∈ items,jg n x)⟩,(hl : l.length + Bn (n + 1) ≤ 1000000000000)⟩
 subst he
 obtain ⟨tl,ht,rfl⟩:=ht
 have hB : Bn (n + 1) = 8 * (Bn n + 100) + 100:=rfl
 conv=>whnf
 repeat' ((first | (refine (?_ : TG _ _); first | refine tY ?_ | refine tN ?_ | refine dY ?_ | refine dN ?_ | (refine tell ?_ ?_ <;> intro htest <;> try dsimp only at htest)) | refine aS ?_ | refine ai ?_ | fail) <;> conv=>whnf)
 ·refine ⟨_,m_wsU,((b,gb,cap),l,bS ([110,117,108,108] : List UInt8)),[0,1],false,?_⟩
  conv=>whnf
  refine vcA (by have:=size_bS ([110,117,108,108] : List UInt8); show l.length + (⟨(([110,117,108,108] : List UInt8) : List UInt8).toArray⟩ : ByteArray).size ≤ 140737488355328; simp at this; omega) ?_
  conv=>whnf
  refine aV ((0,0,0) : B3) trivial fun (d : B3) _=>?_
  conv=>whnf
  repeat' ((first | (refine (?_ : TG _ _); first | refine tY ?_ | refine tN ?_ | refine dY ?_ | refine dN ?_ | (refine tell ?_ ?_ <;> intro htest <;> try dsimp only at htest)) | refine aS ?_ | refine ai ?_ | fail) <;> conv=>whnf)
  exact ⟨(d,l ++ ([110,117,108,108] : List UInt8)),[1014],(show (l ++ ([110,117,108,108] : List UInt8)).length ≤ l.length + Bn (n + 1) ∧ l.length ≤ (l ++ ([110,117,108,108] : List UInt8)).length by rw [List.length_append]; simp; omega),a3⟩
 ·refine ⟨_,m_wsU,((b,gb,cap),l,bS ([102,97,108,115,101] : List UInt8)),[0,1],false,?_⟩
  conv=>whnf
  refine vcA (by have:=size_bS ([102,97,108,115,101] : List UInt8); show l.length + (⟨(([102,97,108,115,101] : List UInt8) : List UInt8).toArray⟩ : ByteArray).size ≤ 140737488355328; simp at this; omega) ?_
  conv=>whnf
  refine aV ((0,0,0) : B3) trivial fun (d : B3) _=>?_
  conv=>whnf
  repeat' ((first | (refine (?_ : TG _ _); first | refine tY ?_ | refine tN ?_ | refine dY ?_ | refine dN ?_ | (refine tell ?_ ?_ <;> intro htest <;> try dsimp only at htest)) | refine aS ?_ | refine ai ?_ | fail) <;> conv=>whnf)
  exact ⟨(d,l ++ ([102,97,108,115,101] : List UInt8)),[1018],(show (l ++ ([102,97,108,115,101] : List UInt8)).length ≤ l.length + Bn (n + 1) ∧ l.length ≤ (l ++ ([102,97,108,115,101] : List UInt8)).length by rw [List.length_append]; simp; omega),a3⟩
 ·refine ⟨_,m_wsU,((b,gb,cap),l,bS ([116,114,117,101] : List UInt8)),[0,1],false,?_⟩
  conv=>whnf
  refine vcA (by have:=size_bS ([116,114,117,101] : List UInt8); show l.length + (⟨(([116,114,117,101] : List UInt8) : List UInt8).toArray⟩ : ByteArray).size ≤ 140737488355328; simp at this; omega) ?_
  conv=>whnf
  refine aV ((0,0,0) : B3) trivial fun (d : B3) _=>?_
  conv=>whnf
  repeat' ((first | (refine (?_ : TG _ _); first | refine tY ?_ | refine tN ?_ | refine dY ?_ | refine dN ?_ | (refine tell ?_ ?_ <;> intro htest <;> try dsimp only at htest)) | refine aS ?_ | refine ai ?_ | fail) <;> conv=>whnf)
  exact ⟨(d,l ++ ([116,114,117,101] : List UInt8)),[1022],(show (l ++ ([116,114,117,101] : List UInt8)).length ≤ l.length + Bn (n + 1) ∧ l.length ≤ (l ++ ([116,114,117,101] : List UInt8)).length by rw [List.length_append]; simp; omega),a3⟩
 ·refine ⟨_,m_dprint,m,[],false,?_⟩
  conv=>whnf
  refine vcA ⟨hm0,hm1⟩ ?_
  refine uU ?_
  conv=>whnf
  conv=>whnf
  repeat' ((first | (refine (?_ : TG _ _); first | refine tY ?_ | refine tN ?_ | refine dY ?_ | refine dN ?_ | (refine tell ?_ ?_ <;> intro htest <;> try dsimp only at htest)) | refine aS ?_ | refine ai ?_ | fail) <;> conv=>whnf)
  refine ⟨_,m_wsU,((b,gb,cap),l,bS (dgL m)),[0,1],false,?_⟩
  conv=>whnf
  refine vcA (by have:=size_bS (dgL m); show l.length + (⟨((dgL m) : List UInt8).toArray⟩ : ByteArray).size ≤ 140737488355328; simp at this; omega) ?_
  conv=>whnf
  refine aV ((0,0,0) : B3) trivial fun (d : B3) _=>?_
  conv=>whnf
  repeat' ((first | (refine (?_ : TG _ _); first | refine tY ?_ | refine tN ?_ | refine dY ?_ | refine dN ?_ | (refine tell ?_ ?_ <;> intro htest <;> try dsimp only at htest)) | refine aS ?_ | refine ai ?_ | fail) <;> conv=>whnf)
  exact ⟨(d,l ++ (dgL m)),[1029],(show (l ++ (dgL m)).length ≤ l.length + Bn (n + 1) ∧ l.length ≤ (l ++ (dgL m)).length by rw [List.length_append]; simp; omega),a3⟩
 ·refine ⟨_,m_w1,((b,gb,cap),l,tl),[1002,0,1],false,?_⟩
  conv=>whnf
  refine vcA ⟨ht,(show l.length ≤ 1000000000000 by omega)⟩ ?_
  conv=>whnf
  refine aV (((0,0,0),l) : B3 × List UInt8) ⟨Nat.le_add_right _ _,Nat.le_refl _⟩ fun (d : B3 × List UInt8) (hd : d.2.length ≤ l.length + 66 ∧ l.length ≤ d.2.length)=>?_
  conv=>whnf
  repeat' ((first | (refine (?_ : TG _ _); first | refine tY ?_ | refine tN ?_ | refine dY ?_ | refine dN ?_ | (refine tell ?_ ?_ <;> intro htest <;> try dsimp only at htest)) | refine aS ?_ | refine ai ?_ | fail) <;> conv=>whnf)
  exact ⟨d,[1035],(show d.2.length ≤ l.length + Bn (n + 1) ∧ l.length ≤ d.2.length by omega),a3⟩
 ·have hk7 : k = 7:=htest
  have hnl : names.length = items.length:=hnl hk7
  refine ⟨_,m_byU,((b,gb,cap),l,123),[0,1],false,?_⟩
  conv=>whnf
  refine vcA (show l.length + 1 ≤ 140737488355328 by omega) ?_
  conv=>whnf
  refine aV ((0,0,0) : B3) trivial fun (d : B3) _=>?_
  conv=>whnf
  repeat' ((first | (refine (?_ : TG _ _); first | refine tY ?_ | refine tN ?_ | refine dY ?_ | refine dN ?_ | (refine tell ?_ ?_ <;> intro htest <;> try dsimp only at htest)) | refine aS ?_ | refine ai ?_ | fail) <;> conv=>whnf)
  refine ⟨Nat × B3 × List UInt8,fun p=>⟨[(2,.ptr 1002 0 1 0),(3,.ptr 1003 0 6 0),(4,.fn (.func 117) [] [.ptr 1002 0 1 0]),(5,vS [123,125]),(43,.lst 160 items),(44,vI items.length),(45,vI p.1)],[(0,bldH p.2.1.1 p.2.1.2.1 p.2.2.length p.2.1.2.2),(1002,.cells [.ptr 0 0 2 0]),(1003,.cells [vI k,vI m,vI 0,vS tl,.lst 9 names,.lst 160 items]),(3000,bldR p.2.1.2.1 p.2.2 p.2.1.2.2)]⟩,fun p=>p.1 ≤ items.length ∧ p.2.2.length ≤ (l ++ [123]).length + p.1 * (Bn n + 100) ∧ (l ++ [123]).length ≤ p.2.2.length,fun p=>items.length - p.1,fun _ _=>rfl,⟨(0,d,(l ++ [123])),[(3000,1041)],⟨Nat.zero_le _,(show (l ++ [123]).length ≤ (l ++ [123]).length + 0 * (Bn n + 100) by omega),Nat.le_refl _⟩,en⟩,?_⟩
  rintro ⟨(i : Nat),(d : B3),(u : List UInt8)⟩ ⟨(hil : i ≤ items.length),hu⟩
  have hu : u.length ≤ (l ++ [123]).length + i * (Bn n + 100) ∧ (l ++ [123]).length ≤ u.length:=hu
  have hK:=Nat.mul_le_mul_right (Bn n + 100) (Nat.le_trans hil hi)
  have hKs : (i + 1) * (Bn n + 100) = i * (Bn n + 100) + (Bn n + 100):=Nat.succ_mul i (Bn n + 100)
  have hsl : (l ++ [123]).length = l.length + 1:=by simp
  by_cases hlt : i < items.length
  ·have hK1 : (i + 1) * (Bn n + 100) ≤ 8 * (Bn n + 100):=Nat.mul_le_mul_right (Bn n + 100) (Nat.le_trans (Nat.succ_le_of_lt hlt) hi)
   have hul : (u ++ [(44 : UInt8)]).length = u.length + 1:=by simp
   have hobt : ∃ y,items[i]? = some y:=⟨_,List.getElem?_eq_getElem hlt⟩
   obtain ⟨⟨xa,xb,xc,xd,xe,xf⟩,hx1⟩:=hobt
   have hobt : ∃ y,names[i]? = some y:=⟨_,List.getElem?_eq_getElem (by omega)⟩
   obtain ⟨y,hy1⟩:=hobt
   have hobt:=hns _ (List.mem_of_getElem? hy1)
   obtain ⟨yl,hyl,rfl⟩:=hobt
   by_cases hi0 : i = 0
   ·subst hi0
    conv=>whnf
    repeat' ((first | (refine (?_ : TG _ _); first | refine tY ?_ | refine tN ?_ | refine dY ?_ | refine dN ?_ | (refine tell ?_ ?_ <;> intro htest <;> try dsimp only at htest)) | refine aS ?_ | refine aX hx1 ?_ | refine aL hx1 ?_ | refine aX hy1 ?_ | refine aL hy1 ?_ | refine ai ?_ | fail) <;> conv=>whnf)
    refine ⟨_,m_w1,(d,u,yl),[1002,0,3000],false,?_⟩
    conv=>whnf
    refine vcA ⟨hyl,(show u.length ≤ 1000000000000 by omega)⟩ ?_
    conv=>whnf
    refine aV (((0,0,0),u) : B3 × List UInt8) ⟨Nat.le_add_right _ _,Nat.le_refl _⟩ fun (d : B3 × List UInt8) (hd : d.2.length ≤ u.length + 66 ∧ u.length ≤ d.2.length)=>?_
    obtain ⟨d,v⟩:=d
    have hd : v.length ≤ u.length + 66 ∧ u.length ≤ v.length:=hd
    conv=>whnf
    repeat' ((first | (refine (?_ : TG _ _); first | refine tY ?_ | refine tN ?_ | refine dY ?_ | refine dN ?_ | (refine tell ?_ ?_ <;> intro htest <;> try dsimp only at htest)) | refine aS ?_ | refine aX hx1 ?_ | refine aL hx1 ?_ | refine aX hy1 ?_ | refine aL hy1 ?_ | refine ai ?_ | fail) <;> conv=>whnf)
    refine ⟨_,m_byU,(d,v,58),[0,1063],false,?_⟩
    conv=>whnf
    refine vcA (show v.length + 1 ≤ 140737488355328 by (try simp only [List.length_append,List.length_cons,List.length_nil]); omega) ?_
    conv=>whnf
    refine aV ((0,0,0) : B3) trivial fun (d : B3) _=>?_
    conv=>whnf
    repeat' ((first | (refine (?_ : TG _ _); first | refine tY ?_ | refine tN ?_ | refine dY ?_ | refine dN ?_ | (refine tell ?_ ?_ <;> intro htest <;> try dsimp only at htest)) | refine aS ?_ | refine aX hx1 ?_ | refine aL hx1 ?_ | refine aX hy1 ?_ | refine aL hy1 ?_ | refine ai ?_ | fail) <;> conv=>whnf)
    have hvl : (v ++ [(58 : UInt8)]).length = v.length + 1:=by simp
    refine ⟨_,ih,(d,(v ++ [(58 : UInt8)]),.mk xa xb xc xd xe xf),[0,1065],false,?_⟩
    conv=>whnf
    refine vcA ⟨hx _ (List.mem_of_getElem? hx1),(show (v ++ [(58 : UInt8)]).length + Bn n ≤ 1000000000000 by omega)⟩ ?_
    conv=>whnf
    refine aV (((0,0,0),(v ++ [(58 : UInt8)])) : B3 × List UInt8) ⟨Nat.le_add_right _ _,Nat.le_refl _⟩ fun (d : B3 × List UInt8) (hd2 : d.2.length ≤ (v ++ [(58 : UInt8)]).length + Bn n ∧ (v ++ [(58 : UInt8)]).length ≤ d.2.length)=>?_
    obtain ⟨d,z⟩:=d
    have hd2 : z.length ≤ (v ++ [(58 : UInt8)]).length + Bn n ∧ (v ++ [(58 : UInt8)]).length ≤ z.length:=hd2
    conv=>whnf
    repeat' ((first | (refine (?_ : TG _ _); first | refine tY ?_ | refine tN ?_ | refine dY ?_ | refine dN ?_ | (refine tell ?_ ?_ <;> intro htest <;> try dsimp only at htest)) | refine aS ?_ | refine aX hx1 ?_ | refine aL hx1 ?_ | refine aX hy1 ?_ | refine aL hy1 ?_ | refine ai ?_ | fail) <;> conv=>whnf)
    exact ⟨(0 + 1,d,z),[(3000,1068)],⟨hlt,(show z.length ≤ (l ++ [123]).length + (0 + 1) * (Bn n + 100) ∧ (l ++ [123]).length ≤ z.length by omega)⟩,rn en⟩
   ·conv=>whnf
    repeat' ((first | (refine (?_ : TG _ _); first | refine tY ?_ | refine tN ?_ | refine dY ?_ | refine dN ?_ | (refine tell ?_ ?_ <;> intro htest <;> try dsimp only at htest)) | refine aS ?_ | refine aX hx1 ?_ | refine aL hx1 ?_ | refine aX hy1 ?_ | refine aL hy1 ?_ | refine ai ?_ | fail) <;> conv=>whnf)
    refine ⟨_,m_byU,(d,u,44),[0,3000],false,?_⟩
    conv=>whnf
    refine vcA (show u.length + 1 ≤ 140737488355328 by (try simp only [List.length_append,List.length_cons,List.length_nil]); omega) ?_
    conv=>whnf
    refine aV ((0,0,0) : B3) trivial fun (d : B3) _=>?_
    conv=>whnf
    repeat' ((first | (refine (?_ : TG _ _); first | refine tY ?_ | refine tN ?_ | refine dY ?_ | refine dN ?_ | (refine tell ?_ ?_ <;> intro htest <;> try dsimp only at htest)) | refine aS ?_ | refine aX hx1 ?_ | refine aL hx1 ?_ | refine aX hy1 ?_ | refine aL hy1 ?_ | refine ai ?_ | fail) <;> conv=>whnf)
    refine ⟨_,m_w1,(d,(u ++ [(44 : UInt8)]),yl),[1002,0,1053],false,?_⟩
    conv=>whnf
    refine vcA ⟨hyl,(show (u ++ [(44 : UInt8)]).length ≤ 1000000000000 by omega)⟩ ?_
    conv=>whnf
    refine aV (((0,0,0),(u ++ [(44 : UInt8)])) : B3 × List UInt8) ⟨Nat.le_add_right _ _,Nat.le_refl _⟩ fun (d : B3 × List UInt8) (hd : d.2.length ≤ (u ++ [(44 : UInt8)]).length + 66 ∧ (u ++ [(44 : UInt8)]).length ≤ d.2.length)=>?_
    obtain ⟨d,v⟩:=d
    have hd : v.length ≤ (u ++ [(44 : UInt8)]).length + 66 ∧ (u ++ [(44 : UInt8)]).length ≤ v.length:=hd
    conv=>whnf
    repeat' ((first | (refine (?_ : TG _ _); first | refine tY ?_ | refine tN ?_ | refine dY ?_ | refine dN ?_ | (refine tell ?_ ?_ <;> intro htest <;> try dsimp only at htest)) | refine aS ?_ | refine aX hx1 ?_ | refine aL hx1 ?_ | refine aX hy1 ?_ | refine aL hy1 ?_ | refine ai ?_ | fail) <;> conv=>whnf)
    refine ⟨_,m_byU,(d,v,58),[0,1063],false,?_⟩
    conv=>whnf
    refine vcA (show v.length + 1 ≤ 140737488355328 by (try simp only [List.length_append,List.length_cons,List.length_nil]); omega) ?_
    conv=>whnf
    refine aV ((0,0,0) : B3) trivial fun (d : B3) _=>?_
    conv=>whnf
    repeat' ((first | (refine (?_ : TG _ _); first | refine tY ?_ | refine tN ?_ | refine dY ?_ | refine dN ?_ | (refine tell ?_ ?_ <;> intro htest <;> try dsimp only at htest)) | refine aS ?_ | refine aX hx1 ?_ | refine aL hx1 ?_ | refine aX hy1 ?_ | refine aL hy1 ?_ | refine ai ?_ | fail) <;> conv=>whnf)
    have hvl : (v ++ [(58 : UInt8)]).length = v.length + 1:=by simp
    refine ⟨_,ih,(d,(v ++ [(58 : UInt8)]),.mk xa xb xc xd xe xf),[0,1065],false,?_⟩
    conv=>whnf
    refine vcA ⟨hx _ (List.mem_of_getElem? hx1),(show (v ++ [(58 : UInt8)]).length + Bn n ≤ 1000000000000 by omega)⟩ ?_
    conv=>whnf
    refine aV (((0,0,0),(v ++ [(58 : UInt8)])) : B3 × List UInt8) ⟨Nat.le_add_right _ _,Nat.le_refl _⟩ fun (d : B3 × List UInt8) (hd2 : d.2.length ≤ (v ++ [(58 : UInt8)]).length + Bn n ∧ (v ++ [(58 : UInt8)]).length ≤ d.2.length)=>?_
    obtain ⟨d,z⟩:=d
    have hd2 : z.length ≤ (v ++ [(58 : UInt8)]).length + Bn n ∧ (v ++ [(58 : UInt8)]).length ≤ z.length:=hd2
    conv=>whnf
    repeat' ((first | (refine (?_ : TG _ _); first | refine tY ?_ | refine tN ?_ | refine dY ?_ | refine dN ?_ | (refine tell ?_ ?_ <;> intro htest <;> try dsimp only at htest)) | refine aS ?_ | refine aX hx1 ?_ | refine aL hx1 ?_ | refine aX hy1 ?_ | refine aL hy1 ?_ | refine ai ?_ | fail) <;> conv=>whnf)
    exact ⟨(i + 1,d,z),[(3000,1068)],⟨hlt,(show z.length ≤ (l ++ [123]).length + (i + 1) * (Bn n + 100) ∧ (l ++ [123]).length ≤ z.length by omega)⟩,rn en⟩
  ·conv=>whnf
   repeat' ((first | (refine (?_ : TG _ _); first | refine tY ?_ | refine tN ?_ | refine dY ?_ | refine dN ?_ | (refine tell ?_ ?_ <;> intro htest <;> try dsimp only at htest)) | refine aS ?_ | refine ai ?_ | fail) <;> conv=>whnf)
   refine ⟨_,m_byU,(d,u,125),[0,3000],false,?_⟩
   conv=>whnf
   refine vcA (show u.length + 1 ≤ 140737488355328 by (try simp only [List.length_append,List.length_cons,List.length_nil]); omega) ?_
   conv=>whnf
   refine aV ((0,0,0) : B3) trivial fun (d : B3) _=>?_
   conv=>whnf
   repeat' ((first | (refine (?_ : TG _ _); first | refine tY ?_ | refine tN ?_ | refine dY ?_ | refine dN ?_ | (refine tell ?_ ?_ <;> intro htest <;> try dsimp only at htest)) | refine aS ?_ | refine ai ?_ | fail) <;> conv=>whnf)
   exact ⟨(d,u ++ [(125 : UInt8)]),[1073],(show (u ++ [(125 : UInt8)]).length ≤ l.length + Bn (n + 1) ∧ l.length ≤ (u ++ [(125 : UInt8)]).length by rw [List.length_append]; simp; omega),a3⟩
 ·have hk7 : ¬ k = 7:=htest
  refine ⟨_,m_byU,((b,gb,cap),l,91),[0,1],false,?_⟩
  conv=>whnf
  refine vcA (show l.length + 1 ≤ 140737488355328 by omega) ?_
  conv=>whnf
  refine aV ((0,0,0) : B3) trivial fun (d : B3) _=>?_
  conv=>whnf
  repeat' ((first | (refine (?_ : TG _ _); first | refine tY ?_ | refine tN ?_ | refine dY ?_ | refine dN ?_ | (refine tell ?_ ?_ <;> intro htest <;> try dsimp only at htest)) | refine aS ?_ | refine ai ?_ | fail) <;> conv=>whnf)
  refine ⟨Nat × B3 × List UInt8,fun p=>⟨[(2,.ptr 1002 0 1 0),(3,.ptr 1003 0 6 0),(4,.fn (.func 117) [] [.ptr 1002 0 1 0]),(5,vS [91,93]),(43,.lst 160 items),(44,vI items.length),(45,vI p.1)],[(0,bldH p.2.1.1 p.2.1.2.1 p.2.2.length p.2.1.2.2),(1002,.cells [.ptr 0 0 2 0]),(1003,.cells [vI k,vI m,vI 0,vS tl,.lst 9 names,.lst 160 items]),(3000,bldR p.2.1.2.1 p.2.2 p.2.1.2.2)]⟩,fun p=>p.1 ≤ items.length ∧ p.2.2.length ≤ (l ++ [91]).length + p.1 * (Bn n + 100) ∧ (l ++ [91]).length ≤ p.2.2.length,fun p=>items.length - p.1,fun _ _=>rfl,⟨(0,d,(l ++ [91])),[(3000,1041)],⟨Nat.zero_le _,(show (l ++ [91]).length ≤ (l ++ [91]).length + 0 * (Bn n + 100) by omega),Nat.le_refl _⟩,en⟩,?_⟩
  rintro ⟨(i : Nat),(d : B3),(u : List UInt8)⟩ ⟨(hil : i ≤ items.length),hu⟩
  have hu : u.length ≤ (l ++ [91]).length + i * (Bn n + 100) ∧ (l ++ [91]).length ≤ u.length:=hu
  have hK:=Nat.mul_le_mul_right (Bn n + 100) (Nat.le_trans hil hi)
  have hKs : (i + 1) * (Bn n + 100) = i * (Bn n + 100) + (Bn n + 100):=Nat.succ_mul i (Bn n + 100)
  have hsl : (l ++ [91]).length = l.length + 1:=by simp
  by_cases hlt : i < items.length
  ·have hK1 : (i + 1) * (Bn n + 100) ≤ 8 * (Bn n + 100):=Nat.mul_le_mul_right (Bn n + 100) (Nat.le_trans (Nat.succ_le_of_lt hlt) hi)
   have hul : (u ++ [(44 : UInt8)]).length = u.length + 1:=by simp
   have hobt : ∃ y,items[i]? = some y:=⟨_,List.getElem?_eq_getElem hlt⟩
   obtain ⟨⟨xa,xb,xc,xd,xe,xf⟩,hx1⟩:=hobt
   by_cases hi0 : i = 0
   ·subst hi0
    conv=>whnf
    repeat' ((first | (refine (?_ : TG _ _); first | refine tY ?_ | refine tN ?_ | refine dY ?_ | refine dN ?_ | (refine tell ?_ ?_ <;> intro htest <;> try dsimp only at htest)) | refine aS ?_ | refine aX hx1 ?_ | refine aL hx1 ?_ | refine ai ?_ | fail) <;> conv=>whnf)
    skip
    refine ⟨_,ih,(d,u,.mk xa xb xc xd xe xf),[0,3000],false,?_⟩
    conv=>whnf
    refine vcA ⟨hx _ (List.mem_of_getElem? hx1),(show u.length + Bn n ≤ 1000000000000 by omega)⟩ ?_
    conv=>whnf
    refine aV (((0,0,0),u) : B3 × List UInt8) ⟨Nat.le_add_right _ _,Nat.le_refl _⟩ fun (d : B3 × List UInt8) (hd2 : d.2.length ≤ u.length + Bn n ∧ u.length ≤ d.2.length)=>?_
    obtain ⟨d,z⟩:=d
    have hd2 : z.length ≤ u.length + Bn n ∧ u.length ≤ z.length:=hd2
    conv=>whnf
    repeat' ((first | (refine (?_ : TG _ _); first | refine tY ?_ | refine tN ?_ | refine dY ?_ | refine dN ?_ | (refine tell ?_ ?_ <;> intro htest <;> try dsimp only at htest)) | refine aS ?_ | refine aX hx1 ?_ | refine aL hx1 ?_ | refine ai ?_ | fail) <;> conv=>whnf)
    exact ⟨(0 + 1,d,z),[(3000,1068)],⟨hlt,(show z.length ≤ (l ++ [91]).length + (0 + 1) * (Bn n + 100) ∧ (l ++ [91]).length ≤ z.length by omega)⟩,rn en⟩
   ·conv=>whnf
    repeat' ((first | (refine (?_ : TG _ _); first | refine tY ?_ | refine tN ?_ | refine dY ?_ | refine dN ?_ | (refine tell ?_ ?_ <;> intro htest <;> try dsimp only at htest)) | refine aS ?_ | refine aX hx1 ?_ | refine aL hx1 ?_ | refine ai ?_ | fail) <;> conv=>whnf)
    refine ⟨_,m_byU,(d,u,44),[0,3000],false,?_⟩
    conv=>whnf
    refine vcA (show u.length + 1 ≤ 140737488355328 by (try simp only [List.length_append,List.length_cons,List.length_nil]); omega) ?_
    conv=>whnf
    refine aV ((0,0,0) : B3) trivial fun (d : B3) _=>?_
    conv=>whnf
    repeat' ((first | (refine (?_ : TG _ _); first | refine tY ?_ | refine tN ?_ | refine dY ?_ | refine dN ?_ | (refine tell ?_ ?_ <;> intro htest <;> try dsimp only at htest)) | refine aS ?_ | refine aX hx1 ?_ | refine aL hx1 ?_ | refine ai ?_ | fail) <;> conv=>whnf)
    skip
    refine ⟨_,ih,(d,(u ++ [(44 : UInt8)]),.mk xa xb xc xd xe xf),[0,1053],false,?_⟩
    conv=>whnf
    refine vcA ⟨hx _ (List.mem_of_getElem? hx1),(show (u ++ [(44 : UInt8)]).length + Bn n ≤ 1000000000000 by omega)⟩ ?_
    conv=>whnf
    refine aV (((0,0,0),(u ++ [(44 : UInt8)])) : B3 × List UInt8) ⟨Nat.le_add_right _ _,Nat.le_refl _⟩ fun (d : B3 × List UInt8) (hd2 : d.2.length ≤ (u ++ [(44 : UInt8)]).length + Bn n ∧ (u ++ [(44 : UInt8)]).length ≤ d.2.length)=>?_
    obtain ⟨d,z⟩:=d
    have hd2 : z.length ≤ (u ++ [(44 : UInt8)]).length + Bn n ∧ (u ++ [(44 : UInt8)]).length ≤ z.length:=hd2
    conv=>whnf
    repeat' ((first | (refine (?_ : TG _ _); first | refine tY ?_ | refine tN ?_ | refine dY ?_ | refine dN ?_ | (refine tell ?_ ?_ <;> intro htest <;> try dsimp only at htest)) | refine aS ?_ | refine aX hx1 ?_ | refine aL hx1 ?_ | refine ai ?_ | fail) <;> conv=>whnf)
    exact ⟨(i + 1,d,z),[(3000,1068)],⟨hlt,(show z.length ≤ (l ++ [91]).length + (i + 1) * (Bn n + 100) ∧ (l ++ [91]).length ≤ z.length by omega)⟩,rn en⟩
  ·conv=>whnf
   repeat' ((first | (refine (?_ : TG _ _); first | refine tY ?_ | refine tN ?_ | refine dY ?_ | refine dN ?_ | (refine tell ?_ ?_ <;> intro htest <;> try dsimp only at htest)) | refine aS ?_ | refine ai ?_ | fail) <;> conv=>whnf)
   refine ⟨_,m_byU,(d,u,93),[0,3000],false,?_⟩
   conv=>whnf
   refine vcA (show u.length + 1 ≤ 140737488355328 by (try simp only [List.length_append,List.length_cons,List.length_nil]); omega) ?_
   conv=>whnf
   refine aV ((0,0,0) : B3) trivial fun (d : B3) _=>?_
   conv=>whnf
   repeat' ((first | (refine (?_ : TG _ _); first | refine tY ?_ | refine tN ?_ | refine dY ?_ | refine dN ?_ | (refine tell ?_ ?_ <;> intro htest <;> try dsimp only at htest)) | refine aS ?_ | refine ai ?_ | fail) <;> conv=>whnf)
   exact ⟨(d,u ++ [(93 : UInt8)]),[1073],(show (u ++ [(93 : UInt8)]).length ≤ l.length + Bn (n + 1) ∧ l.length ≤ (u ++ [(93 : UInt8)]).length by rw [List.length_append]; simp; omega),a3⟩
theorem m_wrF (n : Nat) (ih : Meets Tryz.prog regF 90 (spWr n)) : Meets Tryz.prog regF 90 (spWrF (n + 1)):=by
 refine meets Tryz.func90 74 noWr ?_
 rintro ⟨k,m,e,t,names,(items : List Js)⟩ ⟨⟨⟨(hk0 : 0 ≤ k),(hk1 : k ≤ 9)⟩,⟨(hm0 : 0 ≤ m),(hm1 : m ≤ 9)⟩,(he : e = 0),ht,(hn : names.length ≤ 8),(hi : items.length ≤ 8),(hnl : k = 7 → names.length = items.length),(hns : ∀ s ∈ names,OkS s),(hx : ∀ x ∈ items,jg n x)⟩,(hk7 : k = 7),(hl : Bn (n + 1) ≤ 1000000000)⟩
 subst he
 obtain ⟨tl,ht,rfl⟩:=ht
 have hB : Bn (n + 1) = 8 * (Bn n + 100) + 100:=rfl
 have hnl : names.length = items.length:=hnl hk7
 conv=>whnf
 repeat' ((first | (refine (?_ : TG _ _); first | refine tY ?_ | refine tN ?_ | refine dY ?_ | refine dN ?_ | (refine tell ?_ ?_ <;> intro htest <;> try dsimp only at htest)) | refine aS ?_ | refine ai ?_ | fail) <;> conv=>whnf)
 ·exact absurd (show k = 1 from htest) (by omega)
 ·exact absurd (show k = 2 from htest) (by omega)
 ·exact absurd (show k = 3 from htest) (by omega)
 ·exact absurd (show k = 4 from htest) (by omega)
 ·exact absurd (show k = 5 from htest) (by omega)
 refine ⟨_,m_byF,(123 : UInt8),[0],false,?_⟩
 conv=>whnf
 refine vcA trivial ?_
 conv=>whnf
 refine aV ((0,0,0) : B3) trivial fun (d : B3) _=>?_
 conv=>whnf
 repeat' ((first | (refine (?_ : TG _ _); first | refine tY ?_ | refine tN ?_ | refine dY ?_ | refine dN ?_ | (refine tell ?_ ?_ <;> intro htest <;> try dsimp only at htest)) | refine aS ?_ | refine ai ?_ | fail) <;> conv=>whnf)
 refine ⟨Nat × B3 × List UInt8,fun p=>⟨[(2,.ptr 1002 0 1 0),(3,.ptr 1003 0 6 0),(4,.fn (.func 117) [] [.ptr 1002 0 1 0]),(5,vS [123,125]),(43,.lst 160 items),(44,vI items.length),(45,vI p.1)],[(0,bldH p.2.1.1 p.2.1.2.1 p.2.2.length p.2.1.2.2),(1002,.cells [.ptr 0 0 2 0]),(1003,.cells [vI k,vI m,vI 0,vS tl,.lst 9 names,.lst 160 items]),(3000,bldR p.2.1.2.1 p.2.2 p.2.1.2.2)]⟩,fun p=>p.1 ≤ items.length ∧ p.2.2.length ≤ [(123 : UInt8)].length + p.1 * (Bn n + 100) ∧ [(123 : UInt8)].length ≤ p.2.2.length,fun p=>items.length - p.1,fun _ _=>rfl,⟨(0,d,[(123 : UInt8)]),[(3000,1041)],⟨Nat.zero_le _,(show [(123 : UInt8)].length ≤ [(123 : UInt8)].length + 0 * (Bn n + 100) by omega),Nat.le_refl _⟩,en⟩,?_⟩
 rintro ⟨(i : Nat),(d : B3),(u : List UInt8)⟩ ⟨(hil : i ≤ items.length),hu⟩
 have hu : u.length ≤ [(123 : UInt8)].length + i * (Bn n + 100) ∧ [(123 : UInt8)].length ≤ u.length:=hu
 have hK:=Nat.mul_le_mul_right (Bn n + 100) (Nat.le_trans hil hi)
 have hKs : (i + 1) * (Bn n + 100) = i * (Bn n + 100) + (Bn n + 100):=Nat.succ_mul i (Bn n + 100)
 have hsl : [(123 : UInt8)].length = 1:=by simp
 by_cases hlt : i < items.length
 ·have hK1 : (i + 1) * (Bn n + 100) ≤ 8 * (Bn n + 100):=Nat.mul_le_mul_right (Bn n + 100) (Nat.le_trans (Nat.succ_le_of_lt hlt) hi)
  have hul : (u ++ [(44 : UInt8)]).length = u.length + 1:=by simp
  have hobt : ∃ y,items[i]? = some y:=⟨_,List.getElem?_eq_getElem hlt⟩
  obtain ⟨⟨xa,xb,xc,xd,xe,xf⟩,hx1⟩:=hobt
  have hobt : ∃ y,names[i]? = some y:=⟨_,List.getElem?_eq_getElem (by omega)⟩
  obtain ⟨y,hy1⟩:=hobt
  have hobt:=hns _ (List.mem_of_getElem? hy1)
  obtain ⟨yl,hyl,rfl⟩:=hobt
  by_cases hi0 : i = 0
  ·subst hi0
   conv=>whnf
   repeat' ((first | (refine (?_ : TG _ _); first | refine tY ?_ | refine tN ?_ | refine dY ?_ | refine dN ?_ | (refine tell ?_ ?_ <;> intro htest <;> try dsimp only at htest)) | refine aS ?_ | refine aX hx1 ?_ | refine aL hx1 ?_ | refine aX hy1 ?_ | refine aL hy1 ?_ | refine ai ?_ | fail) <;> conv=>whnf)
   refine ⟨_,m_w1,(d,u,yl),[1002,0,3000],false,?_⟩
   conv=>whnf
   refine vcA ⟨hyl,(show u.length ≤ 1000000000000 by omega)⟩ ?_
   conv=>whnf
   refine aV (((0,0,0),u) : B3 × List UInt8) ⟨Nat.le_add_right _ _,Nat.le_refl _⟩ fun (d : B3 × List UInt8) (hd : d.2.length ≤ u.length + 66 ∧ u.length ≤ d.2.length)=>?_
   obtain ⟨d,v⟩:=d
   have hd : v.length ≤ u.length + 66 ∧ u.length ≤ v.length:=hd
   conv=>whnf
   repeat' ((first | (refine (?_ : TG _ _); first | refine tY ?_ | refine tN ?_ | refine dY ?_ | refine dN ?_ | (refine tell ?_ ?_ <;> intro htest <;> try dsimp only at htest)) | refine aS ?_ | refine aX hx1 ?_ | refine aL hx1 ?_ | refine aX hy1 ?_ | refine aL hy1 ?_ | refine ai ?_ | fail) <;> conv=>whnf)
   refine ⟨_,m_byU,(d,v,58),[0,1063],false,?_⟩
   conv=>whnf
   refine vcA (show v.length + 1 ≤ 140737488355328 by (try simp only [List.length_append,List.length_cons,List.length_nil]); omega) ?_
   conv=>whnf
   refine aV ((0,0,0) : B3) trivial fun (d : B3) _=>?_
   conv=>whnf
   repeat' ((first | (refine (?_ : TG _ _); first | refine tY ?_ | refine tN ?_ | refine dY ?_ | refine dN ?_ | (refine tell ?_ ?_ <;> intro htest <;> try dsimp only at htest)) | refine aS ?_ | refine aX hx1 ?_ | refine aL hx1 ?_ | refine aX hy1 ?_ | refine aL hy1 ?_ | refine ai ?_ | fail) <;> conv=>whnf)
   have hvl : (v ++ [(58 : UInt8)]).length = v.length + 1:=by simp
   refine ⟨_,ih,(d,(v ++ [(58 : UInt8)]),.mk xa xb xc xd xe xf),[0,1065],false,?_⟩
   conv=>whnf
   refine vcA ⟨hx _ (List.mem_of_getElem? hx1),(show (v ++ [(58 : UInt8)]).length + Bn n ≤ 1000000000000 by omega)⟩ ?_
   conv=>whnf
   refine aV (((0,0,0),(v ++ [(58 : UInt8)])) : B3 × List UInt8) ⟨Nat.le_add_right _ _,Nat.le_refl _⟩ fun (d : B3 × List UInt8) (hd2 : d.2.length ≤ (v ++ [(58 : UInt8)]).length + Bn n ∧ (v ++ [(58 : UInt8)]).length ≤ d.2.length)=>?_
   obtain ⟨d,z⟩:=d
   have hd2 : z.length ≤ (v ++ [(58 : UInt8)]).length + Bn n ∧ (v ++ [(58 : UInt8)]).length ≤ z.length:=hd2
   conv=>whnf
   repeat' ((first | (refine (?_ : TG _ _); first | refine tY ?_ | refine tN ?_ | refine dY ?_ | refine dN ?_ | (refine tell ?_ ?_ <;> intro htest <;> try dsimp only at htest)) | refine aS ?_ | refine aX hx1 ?_ | refine aL hx1 ?_ | refine aX hy1 ?_ | refine aL hy1 ?_ | refine ai ?_ | fail) <;> conv=>whnf)
   exact ⟨(0 + 1,d,z),[(3000,1068)],⟨hlt,(show z.length ≤ [(123 : UInt8)].length + (0 + 1) * (Bn n + 100) ∧ [(123 : UInt8)].length ≤ z.length by omega)⟩,rn en⟩
  ·conv=>whnf
   repeat' ((first | (refine (?_ : TG _ _); first | refine tY ?_ | refine tN ?_ | refine dY ?_ | refine dN ?_ | (refine tell ?_ ?_ <;> intro htest <;> try dsimp only at htest)) | refine aS ?_ | refine aX hx1 ?_ | refine aL hx1 ?_ | refine aX hy1 ?_ | refine aL hy1 ?_ | refine ai ?_ | fail) <;> conv=>whnf)
   refine ⟨_,m_byU,(d,u,44),[0,3000],false,?_⟩
   conv=>whnf
   refine vcA (show u.length + 1 ≤ 140737488355328 by (try simp only [List.length_append,List.length_cons,List.length_nil]); omega) ?_
   conv=>whnf
   refine aV ((0,0,0) : B3) trivial fun (d : B3) _=>?_
   conv=>whnf
   repeat' ((first | (refine (?_ : TG _ _); first | refine tY ?_ | refine tN ?_ | refine dY ?_ | refine dN ?_ | (refine tell ?_ ?_ <;> intro htest <;> try dsimp only at htest)) | refine aS ?_ | refine aX hx1 ?_ | refine aL hx1 ?_ | refine aX hy1 ?_ | refine aL hy1 ?_ | refine ai ?_ | fail) <;> conv=>whnf)
   refine ⟨_,m_w1,(d,(u ++ [(44 : UInt8)]),yl),[1002,0,1053],false,?_⟩
   conv=>whnf
   refine vcA ⟨hyl,(show (u ++ [(44 : UInt8)]).length ≤ 1000000000000 by omega)⟩ ?_
   conv=>whnf
   refine aV (((0,0,0),(u ++ [(44 : UInt8)])) : B3 × List UInt8) ⟨Nat.le_add_right _ _,Nat.le_refl _⟩ fun (d : B3 × List UInt8) (hd : d.2.length ≤ (u ++ [(44 : UInt8)]).length + 66 ∧ (u ++ [(44 : UInt8)]).length ≤ d.2.length)=>?_
   obtain ⟨d,v⟩:=d
   have hd : v.length ≤ (u ++ [(44 : UInt8)]).length + 66 ∧ (u ++ [(44 : UInt8)]).length ≤ v.length:=hd
   conv=>whnf
   repeat' ((first | (refine (?_ : TG _ _); first | refine tY ?_ | refine tN ?_ | refine dY ?_ | refine dN ?_ | (refine tell ?_ ?_ <;> intro htest <;> try dsimp only at htest)) | refine aS ?_ | refine aX hx1 ?_ | refine aL hx1 ?_ | refine aX hy1 ?_ | refine aL hy1 ?_ | refine ai ?_ | fail) <;> conv=>whnf)
   refine ⟨_,m_byU,(d,v,58),[0,1063],false,?_⟩
   conv=>whnf
   refine vcA (show v.length + 1 ≤ 140737488355328 by (try simp only [List.length_append,List.length_cons,List.length_nil]); omega) ?_
   conv=>whnf
   refine aV ((0,0,0) : B3) trivial fun (d : B3) _=>?_
   conv=>whnf
   repeat' ((first | (refine (?_ : TG _ _); first | refine tY ?_ | refine tN ?_ | refine dY ?_ | refine dN ?_ | (refine tell ?_ ?_ <;> intro htest <;> try dsimp only at htest)) | refine aS ?_ | refine aX hx1 ?_ | refine aL hx1 ?_ | refine aX hy1 ?_ | refine aL hy1 ?_ | refine ai ?_ | fail) <;> conv=>whnf)
   have hvl : (v ++ [(58 : UInt8)]).length = v.length + 1:=by simp
   refine ⟨_,ih,(d,(v ++ [(58 : UInt8)]),.mk xa xb xc xd xe xf),[0,1065],false,?_⟩
   conv=>whnf
   refine vcA ⟨hx _ (List.mem_of_getElem? hx1),(show (v ++ [(58 : UInt8)]).length + Bn n ≤ 1000000000000 by omega)⟩ ?_
   conv=>whnf
   refine aV (((0,0,0),(v ++ [(58 : UInt8)])) : B3 × List UInt8) ⟨Nat.le_add_right _ _,Nat.le_refl _⟩ fun (d : B3 × List UInt8) (hd2 : d.2.length ≤ (v ++ [(58 : UInt8)]).length + Bn n ∧ (v ++ [(58 : UInt8)]).length ≤ d.2.length)=>?_
   obtain ⟨d,z⟩:=d
   have hd2 : z.length ≤ (v ++ [(58 : UInt8)]).length + Bn n ∧ (v ++ [(58 : UInt8)]).length ≤ z.length:=hd2
   conv=>whnf
   repeat' ((first | (refine (?_ : TG _ _); first | refine tY ?_ | refine tN ?_ | refine dY ?_ | refine dN ?_ | (refine tell ?_ ?_ <;> intro htest <;> try dsimp only at htest)) | refine aS ?_ | refine aX hx1 ?_ | refine aL hx1 ?_ | refine aX hy1 ?_ | refine aL hy1 ?_ | refine ai ?_ | fail) <;> conv=>whnf)
   exact ⟨(i + 1,d,z),[(3000,1068)],⟨hlt,(show z.length ≤ [(123 : UInt8)].length + (i + 1) * (Bn n + 100) ∧ [(123 : UInt8)].length ≤ z.length by omega)⟩,rn en⟩
 ·conv=>whnf
  repeat' ((first | (refine (?_ : TG _ _); first | refine tY ?_ | refine tN ?_ | refine dY ?_ | refine dN ?_ | (refine tell ?_ ?_ <;> intro htest <;> try dsimp only at htest)) | refine aS ?_ | refine ai ?_ | fail) <;> conv=>whnf)
  refine ⟨_,m_byU,(d,u,125),[0,3000],false,?_⟩
  conv=>whnf
  refine vcA (show u.length + 1 ≤ 140737488355328 by (try simp only [List.length_append,List.length_cons,List.length_nil]); omega) ?_
  conv=>whnf
  refine aV ((0,0,0) : B3) trivial fun (d : B3) _=>?_
  conv=>whnf
  repeat' ((first | (refine (?_ : TG _ _); first | refine tY ?_ | refine tN ?_ | refine dY ?_ | refine dN ?_ | (refine tell ?_ ?_ <;> intro htest <;> try dsimp only at htest)) | refine aS ?_ | refine ai ?_ | fail) <;> conv=>whnf)
  exact ⟨(d,u ++ [(125 : UInt8)]),[1073],⟨(show (u ++ [(125 : UInt8)]).length ≤ Bn (n + 1) by rw [List.length_append]; simp; omega),(by simp)⟩,a3⟩
end
end Go.Sx
namespace Go.Sx
noncomputable section
open Go Go.Proofs Go.Proofs.YtcehbnfhlcfinaaGreatDoor
def outL (es : List Edge) (n : Int) (i : Nat) : List Int:=match es with
 | []=>[]
 | e :: t=>if e.1 = n then (i : Int) :: outL t n (i + 1) else outL t n (i + 1)
theorem outL_snoc (n : Int) (e : Edge) : ∀ (es : List Edge) (i : Nat),outL (es ++ [e]) n i = outL es n i ++ if e.1 = n then [((i + es.length : Nat) : Int)] else []
 | [],i=>by simp only [List.nil_append,outL,List.length_nil,Nat.add_zero]
 | x :: t,i=>by
  simp only [List.cons_append,outL]
  rw [outL_snoc n e t (i + 1),show i + 1 + t.length = i + (x :: t).length by simp; omega]
  split <;> simp
theorem outL_len (n : Int) : ∀ (es : List Edge) (i : Nat),(outL es n i).length ≤ es.length
 | [],_=>Nat.le_refl _
 | e :: t,i=>by
  have:=outL_len n t (i + 1)
  simp only [outL]
  split <;> simp <;> omega
open Classical in
noncomputable def outF (n : Int) (es : List Edge) (k : Int) : List Int:=if RightL n es then outL es k 0 else []
noncomputable def spOut : Spec AF where
 γ:=Int × List Edge × Int
 args:=fun g=>[layS g.1 g.2.1,vI g.2.2]
 pre:=fun g=>GoodL g.2.1
 res:=fun g _=>.lst 3 (outF g.1 g.2.1 g.2.2)
theorem m_out : Meets Tryz.prog regF 144 spOut:=by
 refine meets Tryz.func144 27 noWr ?_
 rintro ⟨(n : Int),(es : List Edge),(k : Int)⟩ (hg : GoodL es)
 conv=>whnf
 repeat' ((first | (refine (?_ : TG _ _); first | refine tY ?_ | refine tN ?_ | refine dY ?_ | refine dN ?_ | (refine tell ?_ ?_ <;> intro hQ <;> try dsimp only at hQ)) | refine aS ?_ | refine ai ?_ | fail) <;> conv=>whnf)
 refine ⟨_,m_right,(n,es),[],false,?_⟩
 conv=>whnf
 refine vcA hg ?_
 refine And.intro (right_ex n es) ?_
 intro (c : Bool) (hc : c = true ↔ RightL n es)
 cases c
 ·have hr : ¬ RightL n es:=fun h=>by have:=hc.2 h; cases this
  conv=>whnf
  repeat' ((first | (refine (?_ : TG _ _); first | refine tY ?_ | refine tN ?_ | refine dY ?_ | refine dN ?_ | (refine tell ?_ ?_ <;> intro hQ <;> try dsimp only at hQ)) | refine aS ?_ | refine ai ?_ | fail) <;> conv=>whnf)
  exact ⟨(),[],trivial,(by show _ = _; exact (if_neg hr)),trivial,trivial⟩
 have hr:=hc.1 rfl
 have hl:=hr.len
 conv=>whnf
 repeat' ((first | (refine (?_ : TG _ _); first | refine tY ?_ | refine tN ?_ | refine dY ?_ | refine dN ?_ | (refine tell ?_ ?_ <;> intro hQ <;> try dsimp only at hQ)) | refine aS ?_ | refine ai ?_ | fail) <;> conv=>whnf)
 refine ⟨Nat,fun i=>⟨[(1,vI k),(2,.ptr 1002 0 2 0),(4,.sl 3000 1 0 (outL (es.take i) k 0).length),(11,.lst 44 es),(12,vI es.length),(13,vI i)],[(1002,layC n es),(3000,.arr 3 (outL (es.take i) k 0))]⟩,fun i=>i ≤ es.length,fun i=>es.length - i,fun _ _=>rfl,⟨0,[],Nat.zero_le _,en⟩,?_⟩
 rintro (i : Nat) (hi : i ≤ es.length)
 have hol:=outL_len k (es.take i) 0
 rw [List.length_take] at hol
 by_cases hlt : i < es.length
 ·have hobt : ∃ e,es[i]? = some e:=⟨_,List.getElem?_eq_getElem hlt⟩
  obtain ⟨e,he⟩:=hobt
  have htk:=outL_snoc k e (es.take i) 0
  rw [← take_snocI he,List.length_take,Nat.min_eq_left hi,Nat.zero_add] at htk
  by_cases hek : e.1 = k
  ·rw [if_pos hek] at htk
   conv=>whnf
   repeat' ((first | (refine (?_ : TG _ _); first | refine tY ?_ | refine tN ?_ | refine dY ?_ | refine dN ?_ | (refine tell ?_ ?_ <;> intro hQ <;> try dsimp only at hQ)) | refine aS ?_ | refine aX he ?_ | refine aL he ?_ | refine ai ?_ | fail) <;> conv=>whnf)
   refine ⟨i + 1,[(3000,1025)],hlt,?_,rfl,?_,?_,rfl⟩
   ·dsimp only; first | omega | (simp; done) | (simp; omega)
   all_goals (repeat' (first | exact trivial | exact rfl | refine And.intro ?_ ?_ | (refine congrArg vI ?_; first | omega | (dsimp only; omega) | fail) | (refine congrArg some ?_) | omega | exact Nat.le_refl _ | exact congrArg (SV.lst _) (List.take_of_length_le (Nat.le_refl _)).symm))
   ·exact congrArg (SV.sl (A:=AF) 1025 1 0) (show (outL (es.take i) k 0).length + 1 = (outL (es.take (i + 1)) k 0).length by rw [htk]; simp)
   ·exact congrArg (Ct.arr (A:=AF) 3) (show ((outL (es.take i) k 0).drop 0).take (outL (es.take i) k 0).length ++ [(i : Int)] = outL (es.take (i + 1)) k 0 by rw [htk]; simp)
  ·rw [if_neg hek,List.append_nil] at htk
   conv=>whnf
   repeat' ((first | (refine (?_ : TG _ _); first | refine tY ?_ | refine tN ?_ | refine dY ?_ | refine dN ?_ | (refine tell ?_ ?_ <;> intro hQ <;> try dsimp only at hQ)) | refine aS ?_ | refine aX he ?_ | refine aL he ?_ | refine ai ?_ | fail) <;> conv=>whnf)
   refine ⟨i + 1,[],hlt,?_,rfl,?_,?_,rfl⟩
   ·dsimp only; first | omega | (simp; done) | (simp; omega)
   all_goals (repeat' (first | exact trivial | exact rfl | refine And.intro ?_ ?_ | (refine congrArg vI ?_; first | omega | (dsimp only; omega) | fail) | (refine congrArg some ?_) | omega | exact Nat.le_refl _ | exact congrArg (SV.lst _) (List.take_of_length_le (Nat.le_refl _)).symm))
   ·exact congrArg (SV.sl (A:=AF) 3000 1 0) (congrArg List.length htk.symm)
   ·exact congrArg (Ct.arr (A:=AF) 3) htk.symm
 ·have hi : i = es.length:=by omega
  subst hi
  rw [List.take_of_length_le (Nat.le_refl _)] at hol
  conv=>whnf
  repeat' ((first | (refine (?_ : TG _ _); first | refine tY ?_ | refine tN ?_ | refine dY ?_ | refine dN ?_ | (refine tell ?_ ?_ <;> intro hQ <;> try dsimp only at hQ)) | refine aS ?_ | refine ai ?_ | fail) <;> conv=>whnf)
  refine ⟨(),[],trivial,⟨by simp,rfl,?_⟩,trivial,trivial⟩
  have e : outF n es k = ((outL (es.take es.length) k 0).drop 0).take (outL (es.take es.length) k 0).length:=by
   unfold outF
   rw [if_pos hr,List.take_of_length_le (Nat.le_refl _)]
   simp
  exact congrArg (SV.lst (A:=AF) 3) e
def srcE (back : Bool) (e : Edge) : Int:=match back with | true=>e.2.1 | false=>e.1
def dstE (back : Bool) (e : Edge) : Int:=match back with | true=>e.1 | false=>e.2.1
inductive ReachI (es : List Edge) (bl : List Int) (back : Bool) (s : Int) : Int → Prop where
 | refl : ReachI es bl back s s
 | step {e : Edge} : ReachI es bl back s (srcE back e) → e ∈ es → dstE back e ∉ bl → ReachI es bl back s (dstE back e)
structure BfsOk (es : List Edge) (bl : List Int) (back : Bool) (s : Int) (n : Int) (bits : List Bool) (q : List Int) (open' : Int → Edge → Prop) : Prop where
 len : bits.length = 40
 sound : ∀ v : Nat,bits[v]? = some true → ReachI es bl back s v ∧ (v : Int) < n
 start : bits[s.toNat]? = some true
 queue : ∀ u ∈ q,0 ≤ u ∧ u < n ∧ bits[u.toNat]? = some true
 closed : ∀ e ∈ es,∀ u : Nat,bits[u]? = some true → srcE back e = u → dstE back e ∉ bl → bits[(dstE back e).toNat]? = some true ∨ (u : Int) ∈ q ∨ open' u e
theorem has_ex (a : List Int) (k : Int) : ∃ c : Bool,c = true ↔ k ∈ a:=by
 by_cases h : k ∈ a
 ·exact ⟨true,by simp [h]⟩
 ·exact ⟨false,by simp [h]⟩
theorem outL_mem (k : Int) : ∀ (es : List Edge) (i : Nat) (v : Int),v ∈ outL es k i ↔ ∃ (j : Nat) (e : Edge),v = ((i + j : Nat) : Int) ∧ es[j]? = some e ∧ e.1 = k
 | [],i,v=>by simp [outL]
 | x :: t,i,v=>by
  have ih:=outL_mem k t (i + 1) v
  have key : (∃ (j : Nat) (e : Edge),v = ((i + 1 + j : Nat) : Int) ∧ t[j]? = some e ∧ e.1 = k) ↔ ∃ (j : Nat) (e : Edge),v = ((i + (j + 1) : Nat) : Int) ∧ t[j]? = some e ∧ e.1 = k:=by
   constructor
   ·rintro ⟨j,e,h1,h2⟩; exact ⟨j,e,by rw [h1]; congr 1; omega,h2⟩
   ·rintro ⟨j,e,h1,h2⟩; exact ⟨j,e,by rw [h1]; congr 1; omega,h2⟩
  rw [key] at ih
  have split0 : (∃ (j : Nat) (e : Edge),v = ((i + j : Nat) : Int) ∧ (x :: t)[j]? = some e ∧ e.1 = k) ↔ (v = (i : Int) ∧ x.1 = k) ∨ ∃ (j : Nat) (e : Edge),v = ((i + (j + 1) : Nat) : Int) ∧ t[j]? = some e ∧ e.1 = k:=by
   constructor
   ·rintro ⟨j,e,h1,h2,h3⟩
    cases j with
    | zero=>simp at h2; subst h2; exact .inl ⟨h1,h3⟩
    | succ j=>exact .inr ⟨j,e,h1,by simpa using h2,h3⟩
   ·rintro (⟨h1,h2⟩ | ⟨j,e,h1,h2,h3⟩)
    ·exact ⟨0,x,h1,rfl,h2⟩
    ·exact ⟨j + 1,e,h1,by simpa using h2,h3⟩
  rw [split0,← ih,show outL (x :: t) k i = if x.1 = k then (i : Int) :: outL t k (i + 1) else outL t k (i + 1) from rfl]
  by_cases hx : x.1 = k
  ·rw [if_pos hx,List.mem_cons]
   constructor
   ·rintro (h | h)
    ·exact .inl ⟨h,hx⟩
    ·exact .inr h
   ·rintro (⟨h,_⟩ | h)
    ·exact .inl h
    ·exact .inr h
  ·rw [if_neg hx]
   exact ⟨.inr,fun h=>h.elim (fun h=>absurd h.2 hx) id⟩
theorem outL_sorted (k : Int) : ∀ (es : List Edge) (i : Nat),(outL es k i).Pairwise (· < ·)
 | [],_=>by simp [outL]
 | x :: t,i=>by
  have ih:=outL_sorted k t (i + 1)
  unfold outL
  by_cases hx : x.1 = k
  ·rw [if_pos hx,List.pairwise_cons]
   refine ⟨fun v hv=>?_,ih⟩
   have hobt:=(outL_mem k t (i + 1) v).1 hv
   obtain ⟨j,_,rfl,_⟩:=hobt
   omega
  ·rw [if_neg hx]; exact ih
def spIsNaN : Spec AF where
 γ:=Int
 args:=fun x=>[vI x]
 res:=fun _ _=>vB false
theorem m_isNaN : Meets Tryz.prog regF 206 spIsNaN:=by
 refine meets Tryz.func206 6 noWr ?_
 intro (g : Int) hg
 conv=>whnf
 refine tell (fun h=>absurd rfl h) (fun _=>?_)
 conv=>whnf
 exact ⟨(),[],trivial,rfl,trivial,trivial⟩
def cmpI (a b : Int) : Int:=if a < b then -1 else if a > b then 1 else 0
def spCompare : Spec AF where
 γ:=Int × Int
 args:=fun x=>[vI x.1,vI x.2]
 res:=fun x _=>vI (cmpI x.1 x.2)
theorem m_compare : Meets Tryz.prog regF 183 spCompare:=by
 refine meets Tryz.func183 20 noWr ?_
 intro (g : Int × Int) hg
 conv=>whnf
 refine ⟨_,m_isNaN,g.1,[],false,?_⟩
 conv=>whnf
 refine ⟨vc0 trivial (And.intro rfl trivial) trivial trivial trivial,⟨(),trivial⟩,fun _ _=>?_⟩
 conv=>whnf
 refine ⟨_,m_isNaN,g.2,[],false,?_⟩
 conv=>whnf
 refine ⟨vc0 trivial (And.intro rfl trivial) trivial trivial trivial,⟨(),trivial⟩,fun _ _=>?_⟩
 conv=>whnf
 refine tell (fun h=>?_) (fun h=>?_)
 ·conv=>whnf
  exact ⟨(),[],trivial,eI (by unfold cmpI; rw [if_pos h]),trivial,trivial⟩
 ·conv=>whnf
  refine tell (fun h2=>?_) (fun h2=>?_)
  ·conv=>whnf
   exact ⟨(),[],trivial,eI (by unfold cmpI; rw [if_neg h,if_pos h2]),trivial,trivial⟩
  ·conv=>whnf
   exact ⟨(),[],trivial,eI (by unfold cmpI; rw [if_neg h,if_neg h2]),trivial,trivial⟩
def orF : List Int → Int
 | []=>0
 | x :: l=>if x ≠ 0 then x else orF l
theorem orF_drop {xs : List Int} {i : Nat} {x : Int} (h : xs[i]? = some x) : orF (xs.drop i) = if x ≠ 0 then x else orF (xs.drop (i + 1)):=by
 have hl:=(List.getElem?_eq_some_iff.1 h)
 obtain ⟨h1,h2⟩:=hl
 rw [List.drop_eq_getElem_cons h1,h2]; rfl
def spOr : Spec AF where
 γ:=List Int
 args:=fun x=>[.lst 3 x]
 pre:=fun x=>x.length ≤ 1000
 res:=fun x _=>vI (orF x)
theorem m_or : Meets Tryz.prog regF 182 spOr:=by
 refine meets Tryz.func182 18 noWr ?_
 intro (g : List Int) hg
 have hg : g.length ≤ 1000:=hg
 conv=>whnf
 refine ⟨Nat,fun i=>⟨[(2,vI 0),(3,vI 0),(6,.lst 3 g),(7,vI g.length),(8,vI i)],[]⟩,fun i=>i ≤ g.length ∧ orF (g.drop i) = orF g,fun i=>g.length - i,fun _ _=>rfl,
  ⟨0,[],⟨Nat.zero_le _,rfl⟩,?_⟩,fun i hi=>?_⟩
 ·exact ⟨rfl,⟨rfl,rfl,rfl,rfl,rfl,trivial⟩,trivial,rfl⟩
 ·obtain ⟨hi,ho⟩:=hi
  conv=>whnf
  refine tell (fun (h : (i : Int) < g.length)=>?_) (fun (h : ¬ (i : Int) < g.length)=>?_)
  ·have hlt : i < g.length:=by omega
   conv=>whnf
   refine And.intro ⟨g[i],Int.natCast_nonneg i,List.getElem?_eq_getElem hlt⟩ ?_
   intro (y : Int) hy
   have hy : g[i]? = some y:=hy.2
   have hod:=orF_drop hy
   conv=>whnf
   refine tell (fun (h2 : ¬ y = 0)=>?_) (fun h2=>?_)
   ·conv=>whnf
    exact ⟨(),[],trivial,eI (by rw [← ho,hod,if_pos h2]),trivial,trivial⟩
   ·have h2 : y = 0:=Decidable.not_not.1 h2
    conv=>whnf
    refine And.intro ⟨by omega,by omega⟩ ?_
    conv=>whnf
    exact ⟨i + 1,[],⟨hlt,by rw [← ho,hod,if_neg (by simp [h2])]⟩,(by show g.length - (i + 1) < g.length - i; omega),rfl,⟨rfl,rfl,rfl,rfl,congrArg vI (by simp),trivial⟩,trivial,rfl⟩
  ·have : i = g.length:=by omega
   conv=>whnf
   exact ⟨(),[],trivial,eI (by rw [← ho,this,List.drop_length]; rfl),trivial,trivial⟩
def ltP (a b : Int × Int) : Bool:=decide (a.1 < b.1) || (decide (a.1 = b.1) && decide (a.2 < b.2))
def spBefore : Spec AF where
 γ:=(Int × Int) × (Int × Int)
 δ:=Bool
 args:=fun x=>[.agg [vI x.1.1,vI x.1.2],.agg [vI x.2.1,vI x.2.2]]
 res:=fun _ c=>vB c
 post:=fun x c=>c = ltP x.1 x.2
theorem ltP_or (a b c e : Int) : decide (orF [cmpI a b,cmpI c e] < 0) = ltP (a,c) (b,e):=by
 by_cases h1 : a < b
 ·simp [orF,cmpI,ltP,h1]
 by_cases h2 : b < a
 ·have h : a ≠ b:=by omega
  simp [orF,cmpI,ltP,h1,h2,h]
 have h : a = b:=by omega
 subst h
 by_cases h3 : c < e
 ·simp [orF,cmpI,ltP,h3]
 by_cases h4 : e < c
 ·simp [orF,cmpI,ltP,h3,h4]
 ·simp [orF,cmpI,ltP,h3,h4]
theorem m_before : Meets Tryz.prog regF 253 spBefore:=by
 refine meets Tryz.func253 18 noWr ?_
 intro (g : (Int × Int) × (Int × Int)) hg
 conv=>whnf
 refine ⟨_,m_compare,(g.1.1,g.2.1),[],false,?_⟩
 conv=>whnf
 refine ⟨vc0 trivial (And.intro rfl (And.intro rfl trivial)) trivial trivial trivial,⟨(),trivial⟩,fun _ _=>?_⟩
 conv=>whnf
 refine ⟨_,m_compare,(g.1.2,g.2.2),[],false,?_⟩
 conv=>whnf
 refine ⟨vc0 trivial (And.intro rfl (And.intro rfl trivial)) trivial trivial trivial,⟨(),trivial⟩,fun _ _=>?_⟩
 conv=>whnf
 refine ⟨_,m_or,[cmpI g.1.1 g.2.1,cmpI g.1.2 g.2.2],[],false,?_⟩
 conv=>whnf
 refine ⟨vc0 (by decide : (2 : Nat) ≤ 1000) (And.intro (And.intro (Nat.le_refl 2) (And.intro rfl rfl)) trivial) trivial trivial trivial,⟨(),trivial⟩,fun _ _=>?_⟩
 conv=>whnf
 refine tell0 ?_
 conv=>whnf
 refine And.intro (by kernel_rfl) ?_
 conv=>whnf
 exact ⟨ltP g.1 g.2,[],rfl,eB (ltP_or _ _ _ _),trivial,trivial⟩
abbrev Item:=Int × Int
def leP (a b : Item) : Prop:=ltP b a = false
theorem ltP_iff {a b : Item} : ltP a b = true ↔ a.1 < b.1 ∨ (a.1 = b.1 ∧ a.2 < b.2):=by simp [ltP]
theorem leP_iff {a b : Item} : leP a b ↔ a.1 < b.1 ∨ (a.1 = b.1 ∧ a.2 ≤ b.2):=by
 have h:=ltP_iff (a:=b) (b:=a)
 have e : leP a b ↔ ¬ ltP b a = true:=by unfold leP; cases ltP b a <;> simp
 rw [e,h]; omega
theorem leP_refl (a : Item) : leP a a:=leP_iff.2 (by omega)
theorem leP_trans {a b c : Item} (h1 : leP a b) (h2 : leP b c) : leP a c:=by
 have h1:=leP_iff.1 h1
 have h2:=leP_iff.1 h2
 exact leP_iff.2 (by omega)
theorem leP_of_lt {a b : Item} (h : ltP a b = true) : leP a b:=by
 have h:=ltP_iff.1 h
 exact leP_iff.2 (by omega)
theorem leP_total (a b : Item) : leP a b ∨ leP b a:=by
 simp only [leP_iff]; omega
def HeapL (xs : List Item) : Prop:=∀ j a b,0 < j → xs[j]? = some b → xs[(j - 1) / 2]? = some a → leP a b
structure UpOk (xs : List Item) (i : Nat) : Prop where
 rest : ∀ j a b,0 < j → j ≠ i → xs[j]? = some b → xs[(j - 1) / 2]? = some a → leP a b
 far : ∀ j a b,0 < j → 0 < i → (j - 1) / 2 = i → xs[j]? = some b → xs[(i - 1) / 2]? = some a → leP a b
structure DownOk (xs : List Item) (i : Nat) : Prop where
 rest : ∀ j a b,0 < j → (j - 1) / 2 ≠ i → xs[j]? = some b → xs[(j - 1) / 2]? = some a → leP a b
 far : ∀ j a b,0 < j → 0 < i → (j - 1) / 2 = i → xs[j]? = some b → xs[(i - 1) / 2]? = some a → leP a b
def swp (xs : List Item) (i j : Nat) (a b : Item) : List Item:=(xs.set i b).set j a
theorem swp_get {xs : List Item} {i j : Nat} {a b : Item} (hi : xs[i]? = some a) (hj : xs[j]? = some b) (k : Nat) : (swp xs i j a b)[k]? = if k = j then some a else if k = i then some b else xs[k]?:=by
 have h1:=(List.getElem?_eq_some_iff.1 hi).1
 have h2:=(List.getElem?_eq_some_iff.1 hj).1
 unfold swp
 rw [List.getElem?_set,List.getElem?_set]
 simp only [List.length_set]
 by_cases e : j = k
 ·subst e; simp [h2]
 ·by_cases e2 : i = k
  ·subst e2; simp [e,h1,Ne.symm e]
  ·simp [e,e2,Ne.symm e,Ne.symm e2]
theorem swp_perm {xs : List Item} {i j : Nat} {a b : Item} (hi : xs[i]? = some a) (hj : xs[j]? = some b) : List.Perm (swp xs i j a b) xs:=by
 have hobt:=List.getElem?_eq_some_iff.1 hi
 obtain ⟨h1,rfl⟩:=hobt
 have hobt:=List.getElem?_eq_some_iff.1 hj
 obtain ⟨h2,rfl⟩:=hobt
 exact List.set_set_perm h1 h2
theorem up_stop {xs : List Item} {i : Nat} {x p : Item} (h : UpOk xs i) (hx : xs[i]? = some x) (hp : xs[(i - 1) / 2]? = some p) (hl : ltP x p = false) : HeapL xs:=fun j a b hj hb ha=>by
 by_cases e : j = i
 ·subst e
  rw [hx] at hb; rw [hp] at ha; cases hb; cases ha
  exact hl
 ·exact h.rest j a b hj e hb ha
theorem up_zero {xs : List Item} (h : UpOk xs 0) : HeapL xs:=fun j a b hj hb ha=>h.rest j a b hj (by omega) hb ha
theorem up_step {xs : List Item} {i : Nat} {x p : Item} (h : UpOk xs i) (hi : 0 < i) (hx : xs[i]? = some x) (hp : xs[(i - 1) / 2]? = some p) (hl : ltP x p = true) : UpOk (swp xs i ((i - 1) / 2) x p) ((i - 1) / 2):=by
 have hxp:=leP_of_lt hl
 refine ⟨fun j a b hj hne hb ha=>?_,fun j a b hj h0 hpar hb ha=>?_⟩
 ·rw [swp_get hx hp] at hb ha
  rw [if_neg hne] at hb
  by_cases e : j = i
  ·subst e
   rw [if_pos rfl] at hb ha
   cases hb; cases ha
   exact hxp
  ·rw [if_neg e] at hb
   by_cases e1 : (j - 1) / 2 = (i - 1) / 2
   ·rw [if_pos e1] at ha
    cases ha
    exact leP_trans hxp (h.rest j p b hj e hb (by rw [e1]; exact hp))
   ·rw [if_neg e1] at ha
    by_cases e2 : (j - 1) / 2 = i
    ·rw [if_pos e2] at ha
     cases ha
     exact h.far j p b hj hi e2 hb hp
    ·rw [if_neg e2] at ha
     exact h.rest j a b hj e hb ha
 ·rw [swp_get hx hp] at hb ha
  rw [if_neg (by omega)] at hb
  rw [if_neg (by omega),if_neg (by omega)] at ha
  have hgp:=h.rest ((i - 1) / 2) a p h0 (by omega) hp ha
  by_cases e : j = i
  ·rw [if_pos e] at hb; cases hb; exact hgp
  ·rw [if_neg e] at hb
   exact leP_trans hgp (h.rest j p b hj e hb (by rw [hpar]; exact hp))
theorem down_stop {xs : List Item} {i : Nat} {x : Item} (h : DownOk xs i) (hx : xs[i]? = some x) (hl : ∀ j b,(j = 2 * i + 1 ∨ j = 2 * i + 2) → xs[j]? = some b → leP x b) : HeapL xs:=fun j a b hj hb ha=>by
 by_cases e : (j - 1) / 2 = i
 ·rw [e,hx] at ha; cases ha
  exact hl j b (by omega) hb
 ·exact h.rest j a b hj e hb ha
theorem down_step {xs : List Item} {i k : Nat} {x m : Item} (h : DownOk xs i) (hx : xs[i]? = some x) (hm : xs[k]? = some m) (hk : k = 2 * i + 1 ∨ k = 2 * i + 2) (hl : leP m x) (hs : ∀ j b,(j = 2 * i + 1 ∨ j = 2 * i + 2) → xs[j]? = some b → leP m b) : DownOk (swp xs i k x m) k:=by
 refine ⟨fun j a b hj hne hb ha=>?_,fun j a b hj h0 hpar hb ha=>?_⟩
 ·rw [swp_get hx hm] at hb ha
  rw [if_neg hne] at ha
  by_cases e : j = k
  ·subst e
   rw [if_pos rfl] at hb
   rw [if_pos (by omega)] at ha
   cases hb; cases ha
   exact hl
  ·rw [if_neg e] at hb
   by_cases e1 : j = i
   ·subst e1
    rw [if_pos rfl] at hb
    rw [if_neg (by omega)] at ha
    cases hb
    exact h.far k a m (by omega) hj (by omega) hm ha
   ·rw [if_neg e1] at hb
    by_cases e2 : (j - 1) / 2 = i
    ·rw [if_pos e2] at ha
     cases ha
     exact hs j b (by omega) hb
    ·rw [if_neg e2] at ha
     exact h.rest j a b hj e2 hb ha
 ·rw [swp_get hx hm] at hb ha
  rw [if_neg (by omega),if_neg (by omega)] at hb
  rw [if_neg (by omega),if_pos (by omega)] at ha
  cases ha
  exact h.rest j m b hj (by omega) hb (by rw [hpar]; exact hm)
theorem heap_least {xs : List Item} (h : HeapL xs) {a : Item} (ha : xs[0]? = some a) : ∀ (n j : Nat),j ≤ n → ∀ b,xs[j]? = some b → leP a b:=by
 intro n
 induction n with
 | zero=>
  intro j hj b hb
  have : j = 0:=by omega
  subst this
  rw [ha] at hb; cases hb; exact leP_refl a
 | succ n ih=>
  intro j hj b hb
  by_cases e : j = 0
  ·subst e; rw [ha] at hb; cases hb; exact leP_refl a
  ·have hlt:=(List.getElem?_eq_some_iff.1 hb).1
   have hp : xs[(j - 1) / 2]? = some xs[(j - 1) / 2]:=List.getElem?_eq_getElem (by omega)
   exact leP_trans (ih ((j - 1) / 2) (by omega) _ hp) (h j _ b (by omega) hb hp)
theorem heap_min {xs : List Item} (h : HeapL xs) {a : Item} (ha : xs[0]? = some a) : ∀ b ∈ xs,leP a b:=fun b hb=>by
 have hobt:=List.getElem?_of_mem hb
 obtain ⟨j,hj⟩:=hobt
 exact heap_least h ha j j (Nat.le_refl _) b hj
theorem push_ok {xs : List Item} (h : HeapL xs) (x : Item) : UpOk (xs ++ [x]) xs.length:=by
 refine ⟨fun j a b hj hne hb ha=>?_,fun j a b hj h0 hpar hb ha=>?_⟩
 ·have hlt:=(List.getElem?_eq_some_iff.1 hb).1
  simp at hlt
  rw [List.getElem?_append_left (by omega)] at hb
  rw [List.getElem?_append_left (by omega)] at ha
  exact h j a b hj hb ha
 ·have hlt:=(List.getElem?_eq_some_iff.1 hb).1
  simp at hlt
  omega
theorem pop_ok {xs : List Item} (h : HeapL xs) {l : Item} : DownOk ((xs.set 0 l).take (xs.length - 1)) 0:=by
 refine ⟨fun j a b hj hne hb ha=>?_,fun j a b hj h0 hpar hb ha=>absurd h0 (by omega)⟩
 rw [List.getElem?_take] at hb ha
 split at hb
 ·split at ha
  ·rw [List.getElem?_set_ne (by omega)] at hb
   rw [List.getElem?_set_ne (by omega)] at ha
   exact h j a b hj hb ha
  ·cases ha
 ·cases hb
theorem pop_perm {xs : List Item} {a l : Item} (ha : xs[0]? = some a) (hl : xs[xs.length - 1]? = some l) : List.Perm (a :: (xs.set 0 l).take (xs.length - 1)) xs:=by
 cases xs with
 | nil=>simp at ha
 | cons x t=>
  simp at ha; subst ha
  cases ht : t.reverse with
  | nil=>
   have : t = []:=by simpa using ht
   subst this
   simp
  | cons y r=>
   have : t = r.reverse ++ [y]:=by rw [← List.reverse_reverse t,ht]; simp
   subst this
   have : l = y:=by simp at hl; exact hl.symm
   subst this
   simp only [List.set_cons_zero,List.length_cons,List.length_append,List.length_reverse,List.length_nil,Nat.add_sub_cancel]
   rw [List.take_succ_cons,List.take_append_of_le_length (by simp)]
   simp only [List.take_of_length_le (show (r.reverse).length ≤ r.length by simp)]
   exact List.Perm.cons x (List.perm_append_singleton l r.reverse).symm
abbrev fnB : SV AF:=.val (.func (.func 253) #[] #[])
abbrev hpC (n : Nat) : Ct AF:=.cells [.sl 1 2 0 n,fnB]
theorem at0 {zs ys : List Item} {i : Nat} {x : Item} (h : zs[i]? = some x) : (zs ++ ys)[0 + (i : Int).toNat]? = some x:=by
 have:=(List.getElem?_eq_some_iff.1 h).1
 rw [Nat.zero_add,Int.toNat_natCast,List.getElem?_append_left this]; exact h
theorem allAt {zs ys : List Item} {i : Nat} {x : Item} {K : Item → Prop} (h : zs[i]? = some x) (hK : K x) :
  (∃ y,(zs ++ ys)[0 + (i : Int).toNat]? = some y) ∧ ∀ y,(zs ++ ys)[0 + (i : Int).toNat]? = some y → K y:=
 ⟨⟨x,at0 h⟩,fun y hy=>by rw [at0 h] at hy; cases hy; exact hK⟩
theorem allSome {L : List Item} {j : Nat} {x : Item} {K : Item → Prop} (h : L[j]? = some x) (hK : K x) : (∃ y,L[j]? = some y) ∧ ∀ y,L[j]? = some y → K y:=
 ⟨⟨x,h⟩,fun y hy=>by rw [h] at hy; cases hy; exact hK⟩
theorem at1 {zs ys : List Item} {i k : Nat} {q p : Item} (hne : i ≠ k) (h : zs[k]? = some p) : ((zs ++ ys).set (0 + (i : Int).toNat) q)[0 + (k : Int).toNat]? = some p:=by
 rw [List.getElem?_set_ne (by simp only [Nat.zero_add,Int.toNat_natCast]; exact hne)]; exact at0 h
theorem swpApp {zs ys : List Item} {i k : Nat} {x p : Item} (hx : zs[i]? = some x) (hp : zs[k]? = some p) :
  ((zs ++ ys).set (0 + (i : Int).toNat) p).set (0 + (k : Int).toNat) x = swp zs i k x p ++ ys:=by
 have h1:=(List.getElem?_eq_some_iff.1 hx).1
 have h2:=(List.getElem?_eq_some_iff.1 hp).1
 simp only [Nat.zero_add,Int.toNat_natCast]
 rw [List.set_append_left _ _ h1,List.set_append_left _ _ (by simpa using h2)]
 rfl
def spUp : Spec AF where
 γ:=List Item × List Item × Nat
 δ:=List Item
 args:=fun g=>[.ptr 0 0 2 0,vI g.2.2]
 own:=fun g=>[hpC g.1.length,.arr 386 (g.1 ++ g.2.1)]
 pre:=fun g=>g.2.2 < g.1.length ∧ UpOk g.1 g.2.2 ∧ g.1.length ≤ 1000000
 res:=fun _ _=>.tup []
 own':=fun g d=>[some (hpC g.1.length),some (.arr 386 (d ++ g.2.1))]
 post:=fun g d=>List.Perm d g.1 ∧ HeapL d
theorem m_up : Meets Tryz.prog regF 275 spUp:=by
 refine meets Tryz.func275 57 noWr ?_
 rintro ⟨(xs : List Item),(ys : List Item),(i : Nat)⟩ ⟨(hi : i < xs.length),(hu : UpOk xs i),(hl : xs.length ≤ 1000000)⟩
 conv=>whnf
 refine ⟨List Item × Nat,fun p=>⟨[(0,.ptr 0 0 2 0),(1,vI p.2)],[(0,hpC xs.length),(1,.arr 386 (p.1 ++ ys))]⟩,fun p=>p.2 < xs.length ∧ UpOk p.1 p.2 ∧ List.Perm p.1 xs,fun p=>p.2,fun _ _=>rfl,
  ⟨(xs,i),[],⟨hi,hu,List.Perm.refl _⟩,?_⟩,?_⟩
 ·exact ⟨rfl,⟨rfl,rfl,trivial⟩,⟨⟨rfl,rfl,trivial⟩,rfl,trivial⟩,rfl⟩
 rintro ⟨(zs : List Item),(i : Nat)⟩ ⟨(hi : i < xs.length),(hu : UpOk zs i),(hp : List.Perm zs xs)⟩
 have hlen : zs.length = xs.length:=hp.length_eq
 show XC _ _ _ _ (Pat.st ⟨[(0,.ptr 0 0 2 0),(1,vI i)],[(0,hpC xs.length),(1,.arr 386 (zs ++ ys))]⟩) _
 conv=>whnf
 refine tell (fun (h : 0 < (i : Int))=>?_) (fun (h : ¬ 0 < (i : Int))=>?_)
 ·conv=>whnf
  refine And.intro (inI (by omega)) ?_
  conv=>whnf
  refine And.intro (by decide) ?_
  conv=>whnf
  have hq : ((i : Int) - 1).tdiv 2 = ((i - 1) / 2 : Nat):=by
   rw [Int.tdiv_eq_ediv_of_nonneg (by omega)]; omega
  generalize ((i : Int) - 1).tdiv 2 = q at *
  subst hq
  have hk : (i - 1) / 2 < xs.length:=by omega
  generalize hkk : (i - 1) / 2 = k at *
  refine And.intro (inI (by omega)) ?_
  conv=>whnf
  have hobt : ∃ x,zs[i]? = some x:=⟨_,List.getElem?_eq_getElem (by omega)⟩
  obtain ⟨x,hx⟩:=hobt
  have hobt : ∃ p,zs[k]? = some p:=⟨_,List.getElem?_eq_getElem (by omega)⟩
  obtain ⟨p,hpk⟩:=hobt
  refine And.intro ⟨Int.natCast_nonneg i,by omega⟩ ?_
  conv=>whnf
  refine allAt hx ?_
  conv=>whnf
  refine And.intro ⟨Int.natCast_nonneg k,by omega⟩ ?_
  conv=>whnf
  refine allAt hpk ?_
  conv=>whnf
  refine ⟨_,m_before,(x,p),[],false,?_⟩
  conv=>whnf
  refine ⟨vc0 trivial (And.intro (And.intro rfl (And.intro rfl trivial)) (And.intro (And.intro rfl (And.intro rfl trivial)) trivial)) trivial trivial trivial,⟨_,rfl⟩,fun (c : Bool) (hc : c = ltP x p)=>?_⟩
  cases c
  ·have h2 : ltP x p = false:=hc.symm
   conv=>whnf
   refine And.intro (by kernel_rfl) ?_
   conv=>whnf
   exact ⟨zs,[],⟨hp,up_stop hu hx (by rw [hkk]; exact hpk) h2⟩,trivial,⟨⟨rfl,rfl,trivial⟩,rfl,trivial⟩,trivial⟩
  ·have h2 : ltP x p = true:=hc.symm
   conv=>whnf
   refine And.intro (by kernel_rfl) ?_
   conv=>whnf
   refine And.intro ⟨Int.natCast_nonneg k,by omega⟩ ?_
   conv=>whnf
   refine allAt hpk ?_
   conv=>whnf
   refine And.intro ⟨Int.natCast_nonneg i,by omega⟩ ?_
   conv=>whnf
   refine allAt hx ?_
   conv=>whnf
   refine And.intro ⟨Int.natCast_nonneg i,by omega⟩ ?_
   conv=>whnf
   refine allAt hx ?_
   conv=>whnf
   refine And.intro ⟨Int.natCast_nonneg k,by omega⟩ ?_
   conv=>whnf
   refine allSome (at1 (by omega) hpk) ?_
   conv=>whnf
   refine And.intro (by kernel_rfl) ?_
   conv=>whnf
   refine ⟨(swp zs i k x p,k),[],⟨hk,by rw [← hkk]; exact up_step hu (by omega) hx (by rw [hkk]; exact hpk) h2,(swp_perm hx hpk).trans hp⟩,(by show k < i; omega),rfl,⟨rfl,rfl,trivial⟩,⟨⟨rfl,rfl,trivial⟩,?_,trivial⟩,rfl⟩
   exact congrArg (Ct.arr (A:=AF) 386) (swpApp hx hpk)
 ·have : i = 0:=by omega
  subst this
  conv=>whnf
  exact ⟨zs,[],⟨hp,up_zero hu⟩,trivial,⟨⟨rfl,rfl,trivial⟩,rfl,trivial⟩,trivial⟩
def spDown : Spec AF where
 γ:=List Item × List Item × Nat
 δ:=List Item
 args:=fun g=>[.ptr 0 0 2 0,vI g.2.2]
 own:=fun g=>[hpC g.1.length,.arr 386 (g.1 ++ g.2.1)]
 pre:=fun g=>(g.2.2 < g.1.length ∨ (g.2.2 = 0 ∧ g.1.length = 0)) ∧ DownOk g.1 g.2.2 ∧ g.1.length ≤ 1000000
 res:=fun _ _=>.tup []
 own':=fun g d=>[some (hpC g.1.length),some (.arr 386 (d ++ g.2.1))]
 post:=fun g d=>List.Perm d g.1 ∧ HeapL d
structure LeastOk (zs : List Item) (i l b : Nat) : Prop where
 lo : 2 * i + 1 ≤ b
 hi : b ≤ 2 * i + 3
 least : l = i ∨ (2 * i + 1 ≤ l ∧ l < b ∧ l < zs.length)
 all : ∀ j x m,(j = i ∨ (2 * i + 1 ≤ j ∧ j < b)) → zs[j]? = some x → zs[l]? = some m → leP m x
theorem m_down : Meets Tryz.prog regF 276 spDown:=by
 refine meets Tryz.func276 76 noWr ?_
 rintro ⟨(xs : List Item),(ys : List Item),(i : Nat)⟩ ⟨(hi : i < xs.length ∨ (i = 0 ∧ xs.length = 0)),(hu : DownOk xs i),(hl : xs.length ≤ 1000000)⟩
 conv=>whnf
 refine ⟨List Item × Nat,fun p=>⟨[(0,.ptr 0 0 2 0),(1,vI p.2)],[(0,hpC xs.length),(1,.arr 386 (p.1 ++ ys))]⟩,fun p=>(p.2 < xs.length ∨ (p.2 = 0 ∧ xs.length = 0)) ∧ DownOk p.1 p.2 ∧ List.Perm p.1 xs,fun p=>xs.length - p.2,fun _ _=>rfl,
  ⟨(xs,i),[],⟨hi,hu,List.Perm.refl _⟩,?_⟩,?_⟩
 ·exact ⟨rfl,⟨rfl,rfl,trivial⟩,⟨⟨rfl,rfl,trivial⟩,rfl,trivial⟩,rfl⟩
 rintro ⟨(zs : List Item),(i : Nat)⟩ ⟨(hi : i < xs.length ∨ (i = 0 ∧ xs.length = 0)),(hu : DownOk zs i),(hp : List.Perm zs xs)⟩
 have hlen : zs.length = xs.length:=hp.length_eq
 show XC _ _ _ _ (Pat.st ⟨[(0,.ptr 0 0 2 0),(1,vI i)],[(0,hpC xs.length),(1,.arr 386 (zs ++ ys))]⟩) _
 conv=>whnf
 refine And.intro (inI (by omega)) ?_
 conv=>whnf
 refine And.intro (inI (by omega)) ?_
 conv=>whnf
 refine ⟨Nat × Nat,fun p=>⟨[(0,.ptr 0 0 2 0),(1,vI i),(4,vI p.1),(5,vI p.2)],[(0,hpC xs.length),(1,.arr 386 (zs ++ ys))]⟩,fun p=>LeastOk zs i p.1 p.2,fun p=>2 * i + 3 - p.2,fun _ _=>rfl,
  ⟨(i,2 * i + 1),[],⟨Nat.le_refl _,by omega,.inl rfl,fun j x m hj hx hm=>?_⟩,?_⟩,?_⟩
 ·have : j = i:=by omega
  subst this
  rw [hx] at hm; cases hm; exact leP_refl x
 ·exact ⟨rfl,⟨rfl,rfl,rfl,congrArg vI (by simp),trivial⟩,⟨⟨rfl,rfl,trivial⟩,rfl,trivial⟩,rfl⟩
 rintro ⟨(l : Nat),(b : Nat)⟩ ⟨(h1 : 2 * i + 1 ≤ b),(h2 : b ≤ 2 * i + 3),(h3 : l = i ∨ (2 * i + 1 ≤ l ∧ l < b ∧ l < zs.length)),(h4 : ∀ j x m,(j = i ∨ (2 * i + 1 ≤ j ∧ j < b)) → zs[j]? = some x → zs[l]? = some m → leP m x)⟩
 show XC _ _ _ _ (Pat.st ⟨[(0,.ptr 0 0 2 0),(1,vI i),(4,vI l),(5,vI b)],[(0,hpC xs.length),(1,.arr 386 (zs ++ ys))]⟩) _
 conv=>whnf
 refine And.intro (inI (by omega)) ?_
 conv=>whnf
 refine And.intro (inI (by omega)) ?_
 conv=>whnf
 refine tell (fun (hb : (b : Int) ≤ 2 * i + 2)=>?_) (fun (hb : ¬ (b : Int) ≤ 2 * i + 2)=>?_)
 ·conv=>whnf
  refine tell (fun (hn : (b : Int) < xs.length)=>?_) (fun (hn : ¬ (b : Int) < xs.length)=>?_)
  ·conv=>whnf
   have hobt : ∃ y,zs[b]? = some y:=⟨_,List.getElem?_eq_getElem (by omega)⟩
   obtain ⟨y,hy⟩:=hobt
   have hobt : ∃ m,zs[l]? = some m:=⟨_,List.getElem?_eq_getElem (by omega)⟩
   obtain ⟨m,hm⟩:=hobt
   refine And.intro ⟨Int.natCast_nonneg b,by omega⟩ ?_
   conv=>whnf
   refine allAt hy ?_
   conv=>whnf
   refine And.intro ⟨Int.natCast_nonneg l,by omega⟩ ?_
   conv=>whnf
   refine allAt hm ?_
   conv=>whnf
   refine ⟨_,m_before,(y,m),[],false,?_⟩
   conv=>whnf
   refine ⟨vc0 trivial (And.intro (And.intro rfl (And.intro rfl trivial)) (And.intro (And.intro rfl (And.intro rfl trivial)) trivial)) trivial trivial trivial,⟨_,rfl⟩,fun (c : Bool) (hc : c = ltP y m)=>?_⟩
   cases c
   ·have hlt : leP m y:=hc.symm
    conv=>whnf
    refine And.intro (by kernel_rfl) ?_
    conv=>whnf
    refine And.intro (inI (by omega)) ?_
    conv=>whnf
    refine ⟨(l,b + 1),[],⟨by omega,by omega,by omega,fun j x m' hj hx hm'=>?_⟩,(by show 2 * i + 3 - (b + 1) < 2 * i + 3 - b; omega),rfl,⟨rfl,rfl,rfl,congrArg vI (by simp),trivial⟩,⟨⟨rfl,rfl,trivial⟩,rfl,trivial⟩,rfl⟩
    by_cases e : j = b
    ·subst e
     rw [hy] at hx; rw [hm] at hm'; cases hx; cases hm'; exact hlt
    ·exact h4 j x m' (by omega) hx hm'
   ·have hlt : ltP y m = true:=hc.symm
    conv=>whnf
    refine And.intro (by kernel_rfl) ?_
    conv=>whnf
    refine And.intro (inI (by omega)) ?_
    conv=>whnf
    refine ⟨(b,b + 1),[],⟨by omega,by omega,.inr ⟨h1,by omega,by omega⟩,fun j x m' hj hx hm'=>?_⟩,(by show 2 * i + 3 - (b + 1) < 2 * i + 3 - b; omega),rfl,⟨rfl,rfl,rfl,congrArg vI (by simp),trivial⟩,⟨⟨rfl,rfl,trivial⟩,rfl,trivial⟩,rfl⟩
    rw [hy] at hm'; cases hm'
    by_cases e : j = b
    ·subst e
     rw [hy] at hx; cases hx; exact leP_refl y
    ·exact leP_trans (leP_of_lt hlt) (h4 j x m (by omega) hx hm)
  ·have hs : ∀ j x m,(j = i ∨ j = 2 * i + 1 ∨ j = 2 * i + 2) → zs[j]? = some x → zs[l]? = some m → leP m x:=fun j x m hj hx hm=>h4 j x m (by have:=(List.getElem?_eq_some_iff.1 hx).1; omega) hx hm
   conv=>whnf
   refine tell (fun (e : (l : Int) = i)=>?_) (fun (e : ¬ (l : Int) = i)=>?_)
   ·conv=>whnf
    refine ⟨zs,[],⟨hp,?_⟩,trivial,⟨⟨rfl,rfl,trivial⟩,rfl,trivial⟩,trivial⟩
    have e : l = i:=by omega
    subst e
    rcases hi with hi | hi
    ·have hobt : ∃ x,zs[l]? = some x:=⟨_,List.getElem?_eq_getElem (by omega)⟩
     obtain ⟨x,hx⟩:=hobt
     exact down_stop hu hx fun j c hj hc=>hs j c x (by omega) hc hx
    ·exact fun j x c hj hc=>by have:=(List.getElem?_eq_some_iff.1 hc).1; omega
   ·have hl' : 2 * i + 1 ≤ l ∧ l < b ∧ l < zs.length:=h3.resolve_left (by omega)
    have hobt : ∃ x,zs[i]? = some x:=⟨_,List.getElem?_eq_getElem (by omega)⟩
    obtain ⟨x,hx⟩:=hobt
    have hobt : ∃ m,zs[l]? = some m:=⟨_,List.getElem?_eq_getElem (by omega)⟩
    obtain ⟨m,hm⟩:=hobt
    conv=>whnf
    refine And.intro ⟨Int.natCast_nonneg l,by omega⟩ ?_
    conv=>whnf
    refine allAt hm ?_
    conv=>whnf
    refine And.intro ⟨Int.natCast_nonneg i,by omega⟩ ?_
    conv=>whnf
    refine allAt hx ?_
    conv=>whnf
    refine And.intro ⟨Int.natCast_nonneg i,by omega⟩ ?_
    conv=>whnf
    refine allAt hx ?_
    conv=>whnf
    refine And.intro ⟨Int.natCast_nonneg l,by omega⟩ ?_
    conv=>whnf
    refine allSome (at1 (by omega) hm) ?_
    conv=>whnf
    refine And.intro (by kernel_rfl) ?_
    conv=>whnf
    refine ⟨(swp zs i l x m,l),[],⟨.inl (by omega),down_step hu hx hm (by omega) (hs i x m (.inl rfl) hx hm) (fun j c hj hc=>hs j c m (.inr hj) hc hm),(swp_perm hx hm).trans hp⟩,(by show xs.length - l < xs.length - i; omega),rfl,⟨rfl,rfl,trivial⟩,⟨⟨rfl,rfl,trivial⟩,?_,trivial⟩,rfl⟩
    exact congrArg (Ct.arr (A:=AF) 386) (swpApp hx hm)
 ·have hs : ∀ j x m,(j = i ∨ j = 2 * i + 1 ∨ j = 2 * i + 2) → zs[j]? = some x → zs[l]? = some m → leP m x:=fun j x m hj hx hm=>h4 j x m (by have:=(List.getElem?_eq_some_iff.1 hx).1; omega) hx hm
  conv=>whnf
  refine tell (fun (e : (l : Int) = i)=>?_) (fun (e : ¬ (l : Int) = i)=>?_)
  ·conv=>whnf
   refine ⟨zs,[],⟨hp,?_⟩,trivial,⟨⟨rfl,rfl,trivial⟩,rfl,trivial⟩,trivial⟩
   have e : l = i:=by omega
   subst e
   rcases hi with hi | hi
   ·have hobt : ∃ x,zs[l]? = some x:=⟨_,List.getElem?_eq_getElem (by omega)⟩
    obtain ⟨x,hx⟩:=hobt
    exact down_stop hu hx fun j c hj hc=>hs j c x (by omega) hc hx
   ·exact fun j x c hj hc=>by have:=(List.getElem?_eq_some_iff.1 hc).1; omega
  ·have hl' : 2 * i + 1 ≤ l ∧ l < b ∧ l < zs.length:=h3.resolve_left (by omega)
   have hobt : ∃ x,zs[i]? = some x:=⟨_,List.getElem?_eq_getElem (by omega)⟩
   obtain ⟨x,hx⟩:=hobt
   have hobt : ∃ m,zs[l]? = some m:=⟨_,List.getElem?_eq_getElem (by omega)⟩
   obtain ⟨m,hm⟩:=hobt
   conv=>whnf
   refine And.intro ⟨Int.natCast_nonneg l,by omega⟩ ?_
   conv=>whnf
   refine allAt hm ?_
   conv=>whnf
   refine And.intro ⟨Int.natCast_nonneg i,by omega⟩ ?_
   conv=>whnf
   refine allAt hx ?_
   conv=>whnf
   refine And.intro ⟨Int.natCast_nonneg i,by omega⟩ ?_
   conv=>whnf
   refine allAt hx ?_
   conv=>whnf
   refine And.intro ⟨Int.natCast_nonneg l,by omega⟩ ?_
   conv=>whnf
   refine allSome (at1 (by omega) hm) ?_
   conv=>whnf
   refine And.intro (by kernel_rfl) ?_
   conv=>whnf
   refine ⟨(swp zs i l x m,l),[],⟨.inl (by omega),down_step hu hx hm (by omega) (hs i x m (.inl rfl) hx hm) (fun j c hj hc=>hs j c m (.inr hj) hc hm),(swp_perm hx hm).trans hp⟩,(by show xs.length - l < xs.length - i; omega),rfl,⟨rfl,rfl,trivial⟩,⟨⟨rfl,rfl,trivial⟩,?_,trivial⟩,rfl⟩
   exact congrArg (Ct.arr (A:=AF) 386) (swpApp hx hm)
def spNew : Spec AF where
 γ:=Unit
 args:=fun _=>[]
 nnew:=2
 res:=fun _ _=>.ptr 0 0 2 0
 own':=fun _ _=>[some (hpC 0),some (.arr 386 [])]
theorem m_new : Meets Tryz.prog regF 224 spNew:=by
 refine meets Tryz.func224 4 noWr ?_
 intro (g : Unit) hg
 conv=>whnf
 exact ⟨(),[1003,9000],trivial,rfl,⟨⟨⟨rfl,rfl,rfl,rfl⟩,rfl,trivial⟩,⟨rfl,rfl⟩,trivial⟩,trivial⟩
def spLen : Spec AF where
 γ:=List Item × List Item
 args:=fun _=>[.ptr 0 0 2 0]
 own:=fun g=>[hpC g.1.length,.arr 386 g.2]
 res:=fun g _=>vI g.1.length
 own':=fun g _=>[some (hpC g.1.length),some (.arr 386 g.2)]
theorem m_len : Meets Tryz.prog regF 226 spLen:=by
 refine meets Tryz.func226 9 noWr ?_
 rintro ⟨(xs : List Item),(ys : List Item)⟩ hg
 conv=>whnf
 exact ⟨(),[],trivial,rfl,⟨⟨rfl,rfl,trivial⟩,rfl,trivial⟩,trivial⟩
theorem heap_ex (xs : List Item) : ∃ d,List.Perm d xs ∧ HeapL d:=by
 have ht : ∀ a b c : Item,(!ltP b a) = true → (!ltP c b) = true → (!ltP c a) = true:=fun a b c h1 h2=>by
  have h1 : leP a b:=by unfold leP; simpa using h1
  have h2 : leP b c:=by unfold leP; simpa using h2
  have h3 : ltP c a = false:=leP_trans h1 h2
  simp [h3]
 have hto : ∀ a b : Item,((!ltP b a) || (!ltP a b)) = true:=fun a b=>by
  rcases leP_total a b with h | h
  ·have h : ltP b a = false:=h
   simp [h]
  ·have h : ltP a b = false:=h
   simp [h]
 refine ⟨xs.mergeSort (fun a b=>!ltP b a),List.mergeSort_perm _ _,fun j a b hj hb ha=>?_⟩
 have hs:=List.pairwise_mergeSort ht hto xs
 have hobt:=List.getElem?_eq_some_iff.1 hb
 obtain ⟨h1,rfl⟩:=hobt
 have hobt:=List.getElem?_eq_some_iff.1 ha
 obtain ⟨h2,rfl⟩:=hobt
 have h:=List.pairwise_iff_getElem.1 hs ((j - 1) / 2) j h2 h1 (by omega)
 show ltP _ _ = false
 simpa using h
def spPut : Spec AF where
 γ:=List Item × List Item × Item
 δ:=List Item
 args:=fun g=>[.ptr 0 0 2 0,.agg [vI g.2.2.1,vI g.2.2.2]]
 own:=fun g=>[hpC g.1.length,.arr 386 g.2.1]
 pre:=fun g=>HeapL g.1 ∧ g.1.length < 1000000 ∧ ∃ ys,g.2.1 = g.1 ++ ys
 nnew:=1
 res:=fun _ _=>.tup []
 own':=fun _ d=>[some (.cells [.sl 2 2 0 d.length,fnB]),none,some (.arr 386 d)]
 post:=fun g d=>List.Perm d (g.2.2 :: g.1) ∧ HeapL d
theorem m_put : Meets Tryz.prog regF 254 spPut:=by
 refine meets Tryz.func254 22 noWr ?_
 rintro ⟨(xs : List Item),(zs : List Item),(x : Item)⟩ ⟨(hh : HeapL xs),(hl : xs.length < 1000000),(ys : List Item),(hz : zs = xs ++ ys)⟩
 subst hz
 conv=>whnf
 refine And.intro ⟨Nat.le_refl 1,(by show 0 + xs.length ≤ (xs ++ ys).length; simp),(by show (xs.length + 1) * 16 ≤ 140737488355328; omega)⟩ ?_
 conv=>whnf
 refine And.intro (by kernel_rfl) ?_
 conv=>whnf
 refine And.intro (inI (z:=((xs.length + 1 : Nat) : Int) - 1) (by omega)) ?_
 conv=>whnf
 refine ⟨_,m_up,(xs ++ [x],[],xs.length),[0,1011],false,?_⟩
 conv=>whnf
 refine ⟨vc0 ⟨by simp,push_ok hh x,by simp; omega⟩ (And.intro rfl (And.intro (congrArg vI (show ((xs.length + 1 : Nat) : Int) - 1 = (xs.length : Int) by omega)) trivial))
  (And.intro ?_ (And.intro ?_ trivial)) trivial trivial,?_,?_⟩
 ·show some (Ct.cells (A:=AF) [.sl 1011 2 0 (xs.length + 1),fnB]) = some (.cells [.sl 1011 2 0 (xs ++ [x]).length,fnB])
  rw [List.length_append]; rfl
 ·have e : List.take xs.length (xs ++ ys) ++ [x] = (xs ++ [x]) ++ []:=by simp
  exact congrArg (fun l : List Item=>some (Ct.arr (A:=AF) 386 l)) e
 ·exact heap_ex _
 rintro (d : List Item) ⟨(hp : List.Perm d (xs ++ [x])),(hd : HeapL d)⟩
 conv=>whnf
 refine ⟨d,[1011],⟨hp.trans (List.perm_append_singleton x xs),hd⟩,trivial,⟨⟨?_,rfl,trivial⟩,trivial,?_,trivial⟩,trivial⟩
 ·exact congrArg (SV.sl (A:=AF) 1011 2 0) hp.length_eq.symm
 ·exact congrArg (Ct.arr (A:=AF) 386) (List.append_nil d)
def spTake : Spec AF where
 γ:=List Item × List Item
 δ:=List Item × List Item × Item × Bool
 args:=fun _=>[.ptr 0 0 2 0]
 own:=fun g=>[hpC g.1.length,.arr 386 g.2]
 pre:=fun g=>HeapL g.1 ∧ g.1.length ≤ 1000000 ∧ ∃ ys,g.2 = g.1 ++ ys
 res:=fun _ d=>.tup [.agg [vI d.2.2.1.1,vI d.2.2.1.2],vB d.2.2.2]
 own':=fun _ d=>[some (hpC d.1.length),some (.arr 386 d.2.1)]
 post:=fun g d=>HeapL d.1 ∧ (∃ ys,d.2.1 = d.1 ++ ys) ∧ ((g.1 = [] ∧ d.1 = [] ∧ d.2.2.1 = (0,0) ∧ d.2.2.2 = false) ∨ (List.Perm (d.2.2.1 :: d.1) g.1 ∧ (∀ b ∈ g.1,leP d.2.2.1 b) ∧ d.2.2.2 = true))
theorem m_take : Meets Tryz.prog regF 255 spTake:=by
 refine meets Tryz.func255 43 noWr ?_
 rintro ⟨(xs : List Item),(zs : List Item)⟩ ⟨(hh : HeapL xs),(hl : xs.length ≤ 1000000),(ys : List Item),(hz : zs = xs ++ ys)⟩
 subst hz
 conv=>whnf
 refine And.intro (inI (z:=(xs.length : Int) - 1) (by omega)) ?_
 conv=>whnf
 refine tell (fun (h : (xs.length : Int) - 1 < 0)=>?_) (fun (h : ¬ (xs.length : Int) - 1 < 0)=>?_)
 ·conv=>whnf
  have hn : xs = []:=List.length_eq_zero_iff.1 (by omega)
  subst hn
  exact ⟨([],ys,(0,0),false),[],⟨hh,⟨ys,rfl⟩,.inl ⟨rfl,rfl,rfl,rfl⟩⟩,⟨⟨rfl,rfl,trivial⟩,rfl,trivial⟩,⟨⟨rfl,rfl,trivial⟩,rfl,trivial⟩,trivial⟩
 ·conv=>whnf
  have hobt : ∃ a,xs[0]? = some a:=⟨_,List.getElem?_eq_getElem (by omega)⟩
  obtain ⟨a,ha⟩:=hobt
  have hobt : ∃ l,xs[xs.length - 1]? = some l:=⟨_,List.getElem?_eq_getElem (by omega)⟩
  obtain ⟨l,hla⟩:=hobt
  have ha' : (xs ++ ys)[0 + Int.toNat 0]? = some a:=by rw [List.getElem?_append_left (by simp; omega)]; exact ha
  have hl' : (xs ++ ys)[0 + ((xs.length : Int) - 1).toNat]? = some l:=by
   rw [show 0 + ((xs.length : Int) - 1).toNat = xs.length - 1 by omega,List.getElem?_append_left (by omega)]; exact hla
  refine And.intro ⟨Int.le_refl 0,by show (0 : Int) < xs.length; omega⟩ ?_
  conv=>whnf
  refine allSome ha' ?_
  conv=>whnf
  refine And.intro ⟨by show (0 : Int) ≤ (xs.length : Int) - 1; omega,by show (xs.length : Int) - 1 < xs.length; omega⟩ ?_
  conv=>whnf
  refine allSome hl' ?_
  conv=>whnf
  refine And.intro ⟨Int.le_refl 0,by show (0 : Int) < xs.length; omega⟩ ?_
  conv=>whnf
  refine allSome ha' ?_
  conv=>whnf
  refine And.intro (by kernel_rfl) ?_
  conv=>whnf
  refine And.intro ⟨Int.le_refl 0,by show (0 : Int) ≤ xs.length - 1; omega,by show (xs.length : Int) - 1 ≤ xs.length; omega⟩ ?_
  conv=>whnf
  have hz : ((xs ++ ys).set 0 l).take (xs.length - 1) = (xs.set 0 l).take (xs.length - 1):=by
   rw [List.set_append_left _ _ (by omega),List.take_append_of_le_length (by simp)]
  have hzl : ((xs.set 0 l).take (xs.length - 1)).length = xs.length - 1:=by simp
  refine ⟨_,m_down,((xs.set 0 l).take (xs.length - 1),((xs ++ ys).set 0 l).drop (xs.length - 1),0),[0,1],false,?_⟩
  conv=>whnf
  refine ⟨vc0 ⟨by show 0 < ((xs.set 0 l).take (xs.length - 1)).length ∨ (0 = 0 ∧ ((xs.set 0 l).take (xs.length - 1)).length = 0); omega,pop_ok hh,by show ((xs.set 0 l).take (xs.length - 1)).length ≤ 1000000; omega⟩ (And.intro rfl (And.intro rfl trivial))
   (And.intro ?_ (And.intro ?_ trivial)) trivial trivial,heap_ex _,?_⟩
  ·have e : ((xs.length : Int) - 1).toNat - Int.toNat 0 = ((xs.set 0 l).take (xs.length - 1)).length:=by simp
   exact congrArg (fun n=>some (Ct.cells (A:=AF) [.sl 1 2 0 n,fnB])) e
  ·have e : (xs ++ ys).set 0 l = (xs.set 0 l).take (xs.length - 1) ++ ((xs ++ ys).set 0 l).drop (xs.length - 1):=by rw [← hz,List.take_append_drop]
   exact congrArg (fun L : List Item=>some (Ct.arr (A:=AF) 386 L)) e
  rintro (d : List Item) ⟨(hp : List.Perm d _),(hd : HeapL d)⟩
  conv=>whnf
  exact ⟨(d,d ++ ((xs ++ ys).set 0 l).drop (xs.length - 1),a,true),[],⟨hd,⟨_,rfl⟩,.inr ⟨(hp.cons a).trans (pop_perm ha hla),heap_min hh ha,rfl⟩⟩,⟨⟨rfl,rfl,trivial⟩,rfl,trivial⟩,⟨⟨congrArg (SV.sl (A:=AF) 1 2 0) hp.length_eq.symm,rfl,trivial⟩,rfl,trivial⟩,trivial⟩
def spPush : Spec AF where
 γ:=List Item × List Item × Item
 δ:=List Item
 args:=fun g=>[.ptr 0 0 2 0,vI g.2.2.1,vI g.2.2.2]
 own:=fun g=>[hpC g.1.length,.arr 386 g.2.1]
 pre:=fun g=>HeapL g.1 ∧ g.1.length < 1000000 ∧ ∃ ys,g.2.1 = g.1 ++ ys
 nnew:=1
 res:=fun _ _=>.tup []
 own':=fun _ d=>[some (.cells [.sl 2 2 0 d.length,fnB]),none,some (.arr 386 d)]
 post:=fun g d=>List.Perm d (g.2.2 :: g.1) ∧ HeapL d
theorem m_push : Meets Tryz.prog regF 225 spPush:=by
 refine meets Tryz.func225 13 noWr ?_
 rintro ⟨(xs : List Item),(zs : List Item),(x : Item)⟩ ⟨(hh : HeapL xs),(hl : xs.length < 1000000),(ys : List Item),(hz : zs = xs ++ ys)⟩
 subst hz
 conv=>whnf
 refine ⟨_,m_put,(xs,xs ++ ys,x),[0,1],false,?_⟩
 conv=>whnf
 refine ⟨vc0 ⟨hh,hl,ys,rfl⟩ (And.intro rfl (And.intro (And.intro rfl (And.intro rfl trivial)) trivial)) (And.intro rfl (And.intro rfl trivial)) trivial trivial,heap_ex _,?_⟩
 rintro (d : List Item) ⟨hp,hd⟩
 conv=>whnf
 exact ⟨d,[1012],⟨hp,hd⟩,trivial,⟨⟨rfl,rfl,trivial⟩,trivial,rfl,trivial⟩,trivial⟩
def spPop : Spec AF where
 γ:=List Item × List Item
 δ:=List Item × List Item × Item × Bool
 args:=fun _=>[.ptr 0 0 2 0]
 own:=fun g=>[hpC g.1.length,.arr 386 g.2]
 pre:=fun g=>HeapL g.1 ∧ g.1.length ≤ 1000000 ∧ ∃ ys,g.2 = g.1 ++ ys
 res:=fun _ d=>.tup [vI d.2.2.1.1,vI d.2.2.1.2,vB d.2.2.2]
 own':=fun _ d=>[some (hpC d.1.length),some (.arr 386 d.2.1)]
 post:=fun g d=>HeapL d.1 ∧ (∃ ys,d.2.1 = d.1 ++ ys) ∧ ((g.1 = [] ∧ d.1 = [] ∧ d.2.2.1 = (0,0) ∧ d.2.2.2 = false) ∨ (List.Perm (d.2.2.1 :: d.1) g.1 ∧ (∀ b ∈ g.1,leP d.2.2.1 b) ∧ d.2.2.2 = true))
theorem pop_ex {xs : List Item} (h : HeapL xs) : ∃ d : List Item × List Item × Item × Bool,HeapL d.1 ∧ (∃ ys,d.2.1 = d.1 ++ ys) ∧ ((xs = [] ∧ d.1 = [] ∧ d.2.2.1 = (0,0) ∧ d.2.2.2 = false) ∨ (List.Perm (d.2.2.1 :: d.1) xs ∧ (∀ b ∈ xs,leP d.2.2.1 b) ∧ d.2.2.2 = true)):=by
 cases hx : xs with
 | nil=>exact ⟨([],[],(0,0),false),hx ▸ h,⟨[],rfl⟩,.inl ⟨rfl,rfl,rfl,rfl⟩⟩
 | cons a t=>
  have hobt:=heap_ex t
  obtain ⟨d,h1,h2⟩:=hobt
  exact ⟨(d,d,a,true),h2,⟨[],(List.append_nil d).symm⟩,.inr ⟨h1.cons a,fun b hb=>heap_min h (a:=a) (by rw [hx]; rfl) b (hx ▸ hb),rfl⟩⟩
theorem m_pop : Meets Tryz.prog regF 227 spPop:=by
 refine meets Tryz.func227 18 noWr ?_
 rintro ⟨(xs : List Item),(zs : List Item)⟩ ⟨(hh : HeapL xs),(hl : xs.length ≤ 1000000),(ys : List Item),(hz : zs = xs ++ ys)⟩
 subst hz
 conv=>whnf
 refine ⟨_,m_take,(xs,xs ++ ys),[0,1],false,?_⟩
 conv=>whnf
 refine ⟨vc0 ⟨hh,hl,ys,rfl⟩ (And.intro rfl trivial) (And.intro rfl (And.intro rfl trivial)) trivial trivial,pop_ex hh,?_⟩
 rintro ⟨(d : List Item),(ws : List Item),(a : Item),(ok : Bool)⟩ hd
 conv=>whnf
 refine And.intro (by kernel_rfl) ?_
 conv=>whnf
 exact ⟨(d,ws,a,ok),[],hd,⟨rfl,rfl,rfl,trivial⟩,⟨⟨rfl,rfl,trivial⟩,rfl,trivial⟩,trivial⟩
inductive WayC (es : List Edge) (bl : List Int) (t : Int) : Int → Int → Prop where
 | refl : WayC es bl t t 0
 | step {e : Edge} {c : Int} (he : e ∈ es) (hb : e.2.1 ∉ bl) (h : WayC es bl t e.2.1 c) : WayC es bl t e.1 (e.2.2 + c)
open Classical in
noncomputable def farV (es : List Edge) (bl : List Int) (t v : Int) : Int:=if h : ∃ m,WayC es bl t v m ∧ ∀ k,WayC es bl t v k → m ≤ k then Classical.choose h else -1
noncomputable def farF (n : Int) (es : List Edge) (bl : List Int) (t : Int) : List Int:=(List.range n.toNat).map fun (i : Nat)=>farV es bl t i
section
variable {n : Int} {es : List Edge} {bl : List Int} {t v : Int}
theorem wayC_nonneg (hR : RightL n es) {v c : Int} (h : WayC es bl t v c) : 0 ≤ c:=by
 induction h with
 | refl=>exact Int.le_refl 0
 | step he _ _ ih=>have:=(hR.each _ he).2.2.2.2.2.1; omega
theorem farV_min (hR : RightL n es) {v c : Int} (h : WayC es bl t v c) : WayC es bl t v (farV es bl t v) ∧ ∀ k,WayC es bl t v k → farV es bl t v ≤ k:=by
 have hc:=wayC_nonneg hR h
 have hobt:=ex_min (p:=fun m : Nat=>WayC es bl t v (m : Int)) c.toNat (by rw [Int.toNat_of_nonneg hc]; exact h)
 obtain ⟨m,hm,hmin⟩:=hobt
 have hex : ∃ m,WayC es bl t v m ∧ ∀ k,WayC es bl t v k → m ≤ k:=⟨m,hm,fun k hk=>by
  have:=wayC_nonneg hR hk
  have:=hmin k.toNat (by rw [Int.toNat_of_nonneg this]; exact hk)
  omega⟩
 unfold farV
 rw [dif_pos hex]
 exact Classical.choose_spec hex
theorem farV_none {v : Int} (h : ∀ c,¬ WayC es bl t v c) : farV es bl t v = -1:=by
 unfold farV
 rw [dif_neg fun ⟨m,hm,_⟩=>h m hm]
theorem farV_some (hR : RightL n es) {v : Int} (h : 0 ≤ farV es bl t v) : WayC es bl t v (farV es bl t v) ∧ ∀ k,WayC es bl t v k → farV es bl t v ≤ k:=by
 by_cases hw : ∃ c,WayC es bl t v c
 ·obtain ⟨c,hc⟩:=hw
  exact farV_min hR hc
 ·rw [farV_none fun c hc=>hw ⟨c,hc⟩] at h; omega
theorem farV_eq (hR : RightL n es) {v c : Int} (h : WayC es bl t v c) (hm : ∀ k,WayC es bl t v k → c ≤ k) : farV es bl t v = c:=by
 have hobt:=farV_min hR h
 obtain ⟨h1,h2⟩:=hobt
 have:=hm _ h1
 have:=h2 _ h
 omega
theorem farV_ge (hR : RightL n es) (v : Int) : farV es bl t v = -1 ∨ 0 ≤ farV es bl t v:=by
 by_cases hw : ∃ c,WayC es bl t v c
 ·obtain ⟨c,hc⟩:=hw
  exact .inr (wayC_nonneg hR (farV_min hR hc).1)
 ·exact .inl (farV_none fun c hc=>hw ⟨c,hc⟩)
theorem farV_self (hR : RightL n es) : farV es bl t t = 0:=farV_eq hR .refl fun _ h=>wayC_nonneg hR h
theorem farV_next (hR : RightL n es) {v : Int} (hv : v ≠ t) (h : 0 ≤ farV es bl t v) : ∃ e ∈ es,e.1 = v ∧ e.2.1 ∉ bl ∧ 0 ≤ farV es bl t e.2.1 ∧ farV es bl t v = farV es bl t e.2.1 + e.2.2:=by
 have hobt:=farV_some hR h
 obtain ⟨h1,h2⟩:=hobt
 generalize hx : farV es bl t v = x at *
 cases h1 with
 | refl=>exact absurd rfl hv
 | @step e c he hb hw=>
  have hobt:=farV_min hR hw
  obtain ⟨h3,h4⟩:=hobt
  have h5:=h4 _ hw
  have h6:=h2 _ (.step he hb h3)
  exact ⟨e,he,rfl,hb,wayC_nonneg hR h3,by omega⟩
theorem farF_len : (farF n es bl t).length = n.toNat:=by simp [farF]
theorem farF_get {v : Nat} (h : (v : Int) < n) : (farF n es bl t)[v]? = some (farV es bl t v):=by
 have : v < n.toNat:=by omega
 simp [farF,this]
theorem farF_at {v : Int} (h0 : 0 ≤ v) (h : v < n) : (farF n es bl t)[v.toNat]? = some (farV es bl t v):=by
 have:=farF_get (es:=es) (bl:=bl) (t:=t) (v:=v.toNat) (n:=n) (by omega)
 rwa [Int.toNat_of_nonneg h0] at this
def nearer (f : Int → Int) (l : List Nat) (x : Int) : Nat:=(l.filter fun (i : Nat)=>decide (0 ≤ f i) && decide (f i < x)).length
theorem nearer_mono (f : Int → Int) {l : List Nat} {x y : Int} (hxy : x < y) (i : Nat) (hi : i ∈ l) (h0 : 0 ≤ f i) (hx : f i = x) : nearer f l x + 1 ≤ nearer f l y:=by
 unfold nearer
 induction l with
 | nil=>cases hi
 | cons j l ih=>
  have mono : (l.filter fun (i : Nat)=>decide (0 ≤ f i) && decide (f i < x)).length ≤ (l.filter fun (i : Nat)=>decide (0 ≤ f i) && decide (f i < y)).length:=by
   clear ih hi
   induction l with
   | nil=>simp
   | cons k l ih=>
    simp only [List.filter_cons]
    by_cases h1 : 0 ≤ f k <;> by_cases h2 : f k < x <;> by_cases h3 : f k < y <;> simp [h1,h2,h3] <;> first | omega | exact ih
  simp only [List.filter_cons]
  rcases List.mem_cons.1 hi with e | e
  ·subst e
   simp [h0,hx,hxy]
   have hx0 : 0 ≤ x:=hx ▸ h0
   rw [if_pos hx0]
   simpa using mono
  ·have:=ih e
   by_cases h1 : 0 ≤ f j <;> by_cases h2 : f j < x <;> by_cases h3 : f j < y <;> simp [h1,h2,h3] <;> omega
theorem farV_bd (hR : RightL n es) (h0 : 0 ≤ t) (ht : t < n) (v : Int) : farV es bl t v ≤ 40000:=by
 have key : ∀ (k : Nat) (v : Int),0 ≤ farV es bl t v → farV es bl t v ≤ k → farV es bl t v ≤ 1000 * (nearer (farV es bl t) (List.range n.toNat) (farV es bl t v) : Int):=by
  intro k
  induction k with
  | zero=>intro v h1 h2; omega
  | succ k ih=>
   intro v h1 h2
   by_cases hv : v = t
   ·subst hv; rw [farV_self hR]; omega
   ·have hobt:=farV_next hR hv h1
    obtain ⟨e,he,rfl,hb,h3,h4⟩:=hobt
    have ho:=hR.each e he
    obtain ⟨o1,o2,o3,o4,_,o6,o7⟩:=ho
    have h5:=ih e.2.1 h3 (by omega)
    have h6:=nearer_mono (farV es bl t) (l:=List.range n.toNat) (x:=farV es bl t e.2.1) (y:=farV es bl t e.1) (by omega) e.2.1.toNat (by simp; omega) (by rw [Int.toNat_of_nonneg o3]; exact h3) (by rw [Int.toNat_of_nonneg o3])
    omega
 rcases farV_ge (es:=es) (bl:=bl) (t:=t) hR v with h | h
 ·omega
 ·have h1:=key (farV es bl t v).toNat v h (by omega)
  have h2 : nearer (farV es bl t) (List.range n.toNat) (farV es bl t v) ≤ n.toNat:=by
   unfold nearer
   have:=List.length_filter_le (fun i : Nat=>decide (0 ≤ farV es bl t i) && decide (farV es bl t i < farV es bl t v)) (List.range n.toNat)
   simpa using this
  have:=hR.most
  have:=hR.pos
  omega
structure Dij (n : Int) (es : List Edge) (bl : List Int) (t : Int) (dn : List Bool) (H : List Item) : Prop where
 len : dn.length = 40
 lt : ∀ v : Nat,dn[v]? = some true → (v : Int) < n ∧ ∃ c,WayC es bl t v c
 way : ∀ p ∈ H,0 ≤ p.2 ∧ p.2 < n ∧ WayC es bl t p.2 p.1 ∧ p.1 ≤ 41000
 edge : ∀ e ∈ es,e.2.1 ∉ bl → dn[e.2.1.toNat]? = some true → dn[e.1.toNat]? = some false → ∃ p ∈ H,p.2 = e.1 ∧ p.1 ≤ farV es bl t e.2.1 + e.2.2
 self : dn[t.toNat]? = some false → (0,t) ∈ H
structure Dij2 (n : Int) (es : List Edge) (bl : List Int) (t : Int) (dn : List Bool) (v : Int) (i : Nat) (H : List Item) : Prop where
 len : dn.length = 40
 lt : ∀ v : Nat,dn[v]? = some true → (v : Int) < n ∧ ∃ c,WayC es bl t v c
 way : ∀ p ∈ H,0 ≤ p.2 ∧ p.2 < n ∧ WayC es bl t p.2 p.1 ∧ p.1 ≤ 41000
 edge : ∀ e ∈ es,(e.2.1 = v → e ∈ es.take i) → e.2.1 ∉ bl → dn[e.2.1.toNat]? = some true → dn[e.1.toNat]? = some false → ∃ p ∈ H,p.2 = e.1 ∧ p.1 ≤ farV es bl t e.2.1 + e.2.2
 self : dn[t.toNat]? = some false → (0,t) ∈ H
theorem dij_wait (hR : RightL n es) (h0 : 0 ≤ t) (ht : t < n) {dn : List Bool} {H : List Item} (h : Dij n es bl t dn H) {u c : Int} (hw : WayC es bl t u c) (hu : dn[u.toNat]? = some false) : ∃ p ∈ H,p.1 ≤ c:=by
 induction hw with
 | refl=>exact ⟨_,h.self hu,Int.le_refl 0⟩
 | @step e c he hb hw ih=>
  have ho:=hR.each e he
  obtain ⟨o1,o2,o3,o4,_,o6,o7⟩:=ho
  have hm:=hR.most
  have hlt : e.2.1.toNat < dn.length:=by rw [h.len]; omega
  cases hd : dn[e.2.1.toNat] with
  | true=>
   have hobt:=h.edge e he hb (by rw [List.getElem?_eq_getElem hlt,hd]) hu
   obtain ⟨p,hp,h1,h2⟩:=hobt
   exact ⟨p,hp,by have:=(farV_min hR hw).2 _ hw; omega⟩
  | false=>
   have hobt:=ih (by rw [List.getElem?_eq_getElem hlt,hd])
   obtain ⟨p,hp,h1⟩:=hobt
   exact ⟨p,hp,by omega⟩
theorem dij_start (h0 : 0 ≤ t) (ht : t < n) {H : List Item} (hp : List.Perm H [(0,t)]) : Dij n es bl t (List.replicate 40 false) H:=by
 have hf : ∀ v : Nat,(List.replicate 40 false)[v]? ≠ some true:=fun v h=>by
  rw [List.getElem?_replicate] at h
  split at h <;> cases h
 refine ⟨by simp,fun v hv=>absurd hv (hf v),fun p hq=>?_,fun e _ _ h=>absurd h (hf _),fun _=>hp.mem_iff.2 (by simp)⟩
 have:=hp.mem_iff.1 hq
 simp at this
 subst this
 exact ⟨h0,ht,.refl,by show (0 : Int) ≤ 41000; decide⟩
theorem dij_end (hR : RightL n es) (h0 : 0 ≤ t) (ht : t < n) {dn : List Bool} (h : Dij n es bl t dn []) {u : Nat} (hu : dn[u]? = some false) (hun : (u : Int) < n) : farV es bl t u = -1:=
 farV_none fun c hc=>by
  have hobt:=dij_wait hR h0 ht h hc (by simpa using hu)
  obtain ⟨p,hp,_⟩:=hobt
  cases hp
theorem dij_again {dn : List Bool} {H H' : List Item} {c v : Int} (hv0 : 0 ≤ v) (h : Dij n es bl t dn H) (hp : List.Perm ((c,v) :: H') H) (hd : dn[v.toNat]? = some true) : Dij n es bl t dn H':=by
 have sub : ∀ p ∈ H',p ∈ H:=fun p hq=>hp.mem_iff.1 (List.mem_cons_of_mem _ hq)
 have back : ∀ p ∈ H,dn[p.2.toNat]? = some false → p ∈ H':=fun p hq hn=>by
  rcases List.mem_cons.1 (hp.mem_iff.2 hq) with e | e
  ·subst e; rw [hd] at hn; cases hn
  ·exact e
 refine ⟨h.len,h.lt,fun p hq=>h.way p (sub p hq),fun e he hb h1 h2=>?_,fun h1=>back _ (h.self h1) h1⟩
 have hobt:=h.edge e he hb h1 h2
 obtain ⟨p,q1,q2,q3⟩:=hobt
 exact ⟨p,back p q1 (by rw [q2]; exact h2),q2,q3⟩
theorem dij_first (hR : RightL n es) (h0 : 0 ≤ t) (ht : t < n) {dn : List Bool} {H H' : List Item} {c v : Int} (h : Dij n es bl t dn H) (hp : List.Perm ((c,v) :: H') H) (hmin : ∀ b ∈ H,leP (c,v) b) (hd : dn[v.toNat]? = some false) :
  farV es bl t v = c ∧ Dij2 n es bl t (dn.set v.toNat true) v 0 H':=by
 have hobt:=h.way (c,v) (hp.mem_iff.1 (by simp))
 obtain ⟨w1,w2,w3,w4⟩:=hobt
 have hf : farV es bl t v = c:=farV_eq hR w3 fun k hk=>by
  have hobt:=dij_wait hR h0 ht h hk hd
  obtain ⟨p,q1,q2⟩:=hobt
  have:=leP_iff.1 (hmin p q1)
  simp only at this
  omega
 have hlt:=(List.getElem?_eq_some_iff.1 hd).1
 have old : ∀ (u : Nat) b,u ≠ v.toNat → (dn.set v.toNat true)[u]? = some b → dn[u]? = some b:=fun u b hne hu=>by rwa [List.getElem?_set_ne (Ne.symm hne)] at hu
 have back : ∀ p ∈ H,(dn.set v.toNat true)[p.2.toNat]? = some false → p ∈ H':=fun p hq hn=>by
  rcases List.mem_cons.1 (hp.mem_iff.2 hq) with e | e
  ·subst e; simp [hlt] at hn
  ·exact e
 refine ⟨hf,by simp [h.len],fun u hu=>?_,fun p hq=>h.way p (hp.mem_iff.1 (List.mem_cons_of_mem _ hq)),fun e he hi hb h1 h2=>?_,fun h1=>?_⟩
 ·by_cases e : u = v.toNat
  ·subst e; exact ⟨by omega,c,by rw [Int.toNat_of_nonneg w1]; exact w3⟩
  ·exact h.lt u (old u _ e hu)
 ·have hn1 : e.1.toNat ≠ v.toNat:=fun e1=>by rw [e1] at h2; simp [hlt] at h2
  have hn2 : e.2.1.toNat ≠ v.toNat:=fun e1=>by
   have ho:=hR.each e he
   have:=hi (by have:=ho.2.2.1; omega)
   simp at this
  have hobt:=h.edge e he hb (old _ _ hn2 h1) (old _ _ hn1 h2)
  obtain ⟨p,q1,q2,q3⟩:=hobt
  exact ⟨p,back p q1 (by rw [q2]; exact h2),q2,q3⟩
 ·have hn : t.toNat ≠ v.toNat:=fun e1=>by rw [e1] at h1; simp [hlt] at h1
  exact back _ (h.self (old _ _ hn h1)) h1
theorem dij_blocked (hb : v ∈ bl) {dn : List Bool} {H : List Item} (h : Dij2 n es bl t dn v 0 H) : Dij n es bl t dn H:=
 ⟨h.len,h.lt,h.way,fun e he h1=>h.edge e he (fun e1=>absurd (e1 ▸ hb) h1) h1,h.self⟩
theorem dij_done {dn : List Bool} {H : List Item} (h : Dij2 n es bl t dn v es.length H) : Dij n es bl t dn H:=
 ⟨h.len,h.lt,h.way,fun e he=>h.edge e he fun _=>by rw [List.take_of_length_le (Nat.le_refl _)]; exact he,h.self⟩
theorem dij_skip {dn : List Bool} {H : List Item} {i : Nat} {e : Edge} (hi : es[i]? = some e) (h : Dij2 n es bl t dn v i H) (hs : e.2.1 ≠ v ∨ dn[e.1.toNat]? = some true) : Dij2 n es bl t dn v (i + 1) H:=
 ⟨h.len,h.lt,h.way,fun x hx h1 h2 h3 h4=>h.edge x hx (fun hv=>by
  have:=h1 hv
  rw [take_snocI hi] at this
  rcases List.mem_append.1 this with h5 | h5
  ·exact h5
  ·simp at h5; subst h5
   rcases hs with hs | hs
   ·exact absurd hv hs
   ·rw [hs] at h4; cases h4) h2 h3 h4,h.self⟩
theorem dij_push (hR : RightL n es) (h0 : 0 ≤ t) (ht : t < n) {dn : List Bool} {H H' : List Item} {i : Nat} {e : Edge} {c : Int} (hi : es[i]? = some e) (h : Dij2 n es bl t dn v i H) (hv : e.2.1 = v) (hb : v ∉ bl) (hf : farV es bl t v = c) (hc : 0 ≤ c) (hp : List.Perm H' ((c + e.2.2,e.1) :: H)) : Dij2 n es bl t dn v (i + 1) H':=by
 have he : e ∈ es:=List.mem_of_getElem? hi
 have ho:=hR.each e he
 obtain ⟨o1,o2,o3,o4,_,o6,o7⟩:=ho
 have hw : WayC es bl t e.1 (c + e.2.2):=by
  have:=(farV_some hR (v:=v) (by omega) (es:=es) (bl:=bl) (t:=t)).1
  rw [hf] at this
  rw [Int.add_comm]
  exact .step he (hv ▸ hb) (hv ▸ this)
 refine ⟨h.len,h.lt,fun p hq=>?_,fun x hx h1 h2 h3 h4=>?_,fun h1=>hp.mem_iff.2 (by simp [h.self h1])⟩
 ·rcases List.mem_cons.1 (hp.mem_iff.1 hq) with e1 | e1
  ·subst e1
   have:=farV_bd hR h0 ht v (bl:=bl)
   exact ⟨o1,o2,hw,by show c + e.2.2 ≤ 41000; omega⟩
  ·exact h.way p e1
 ·by_cases e1 : x = e
  ·subst e1
   exact ⟨(c + x.2.2,x.1),hp.mem_iff.2 (by simp),rfl,by rw [hv,hf]; exact Int.le_refl _⟩
  ·obtain ⟨p,q1,q2,q3⟩:=h.edge x hx (fun hxv=>by
    have:=h1 hxv
    rw [take_snocI hi] at this
    rcases List.mem_append.1 this with h5 | h5
    ·exact h5
    ·simp at h5; exact absurd h5 e1) h2 h3 h4
   exact ⟨p,hp.mem_iff.2 (by simp [q1]),q2,q3⟩
end
end
end Go.Sx
namespace Go.Proofs
open Go.Shelf
def RouM.l212_ren : Go.Shelf.Ren:=⟨fun | 212=>198 | 263=>235 | 264=>236 | n=>n,fun | 46=>206 | 51=>97 | 53=>294 | 146=>359 | 148=>361 | n=>n,fun | n=>n⟩
theorem RouM.l212 : Go.Proofs.Lays.n212 Tryz.prog RouM.l212_ren:={
 mixed:=by kernel_rfl
 f212:=Tryz.func198.trans (congrArg some (by kernel_rfl))
 f263:=Tryz.func235.trans (congrArg some (by kernel_rfl))
 f264:=Tryz.func236.trans (congrArg some (by kernel_rfl))
 t46:=Tryz.underlying206
 a46:=Tryz.isAgg206
 z46:=Tryz.sizeOf206
 v46:=Tryz.zeroValue206
 t51:=Tryz.underlying97
 a51:=Tryz.isAgg97
 z51:=Tryz.sizeOf97
 v51:=Tryz.zeroValue97
 t53:=Tryz.underlying294
 a53:=Tryz.isAgg294
 z53:=Tryz.sizeOf294
 v53:=Tryz.zeroValue294
 t146:=Tryz.underlying359
 a146:=Tryz.isAgg359
 z146:=Tryz.sizeOf359
 v146:=Tryz.zeroValue359
 t148:=Tryz.underlying361
 a148:=Tryz.isAgg361
 z148:=Tryz.sizeOf361
 v148:=Tryz.zeroValue361 }
end Go.Proofs
namespace Go.Sx
noncomputable section
open Go Go.Proofs Go.Proofs.YtcehbnfhlcfinaaGreatDoor
abbrev vU (n : Nat) : SV AF:=.val (.int .u64 (n : Int))
def spMul : Spec AF where
 γ:=Nat × Nat
 args:=fun g=>[vU g.1,vU g.2]
 pre:=fun g=>g.1 < 18446744073709551616 ∧ g.2 < 18446744073709551616
 res:=fun g _=>.tup [vU (g.1 * g.2 / 18446744073709551616),vU (g.1 * g.2 % 18446744073709551616)]
theorem m_mul : Meets Tryz.prog regF 198 spMul:=by
 refine ⟨⟨_,Tryz.func198,by kernel_rfl,by kernel_rfl⟩,?_⟩
 rintro ⟨(x : Nat),(y : Nat)⟩ ⟨(hx : x < 18446744073709551616),(hy : y < 18446744073709551616)⟩ X ρ w ⟨vs⟩ hX1 hX2 hargs hown
 obtain ⟨hl,hd⟩:=hargs
 match vs,hl with
 | [a,b],_=>
  have ha:=val_inv (hd 0 (vU x) a rfl rfl)
  have hb:=val_inv (hd 1 (vU y) b rfl rfl)
  subst ha; subst hb
  refine (Any.bits_Mul RouM.l212 x y hx hy w).mono fun e w' h=>?_
  obtain ⟨rfl,rfl⟩:=h
  refine ⟨(),ρ,_,trivial,rfl,fun _ _=>rfl,.tup _ _ rfl fun j s v hs hv=>?_,⟨fun h ct hh=>by simp [spMul] at hh,fun h h' ct ct' b base base' hh=>by simp [spMul] at hh⟩,fun b ⟨h,ct,base,hh,_⟩=>by simp [spMul] at hh,rfl,rfl,fun h ct hh=>by simp [spMul] at hh,.refl⟩
  match j with
  | 0=>simp at hs hv; subst hs; subst hv; exact .val _
  | 1=>simp at hs hv; subst hs; subst hv; exact .val _
  | j + 2=>simp at hs
def spMul1 : Spec AF where
 γ:=Nat
 args:=fun g=>[vU 1,vU g]
 pre:=fun g=>g < 18446744073709551616
 res:=fun g _=>.tup [vU 0,vU g]
theorem m_mul1 : Meets Tryz.prog regF 198 spMul1:=
 ⟨m_mul.1,fun (g : Nat) (hg : g < 18446744073709551616) X ρ w vs h1 h2 h3 h4=>(m_mul.2 (1,g) ⟨by show (1 : Nat) < _; decide,hg⟩ X ρ w vs h1 h2 h3 h4).mono fun _ _ hp=>by
  obtain ⟨d,ρ',v,_,he,hρ,hd,rest⟩:=hp
  have e : spMul.res (1,g) d = spMul1.res g ():=by
   show SV.tup [vU (1 * g / 18446744073709551616),vU (1 * g % 18446744073709551616)] = SV.tup [vU 0,vU g]
   rw [Nat.one_mul,Nat.div_eq_of_lt hg,Nat.mod_eq_of_lt hg]
  exact ⟨(),ρ',v,trivial,he,hρ,e ▸ hd,rest⟩⟩
def repC (x : Int) (m c : Nat) : List Int:=List.replicate m x ++ List.replicate (c - m) 0
theorem rep_step {x : Int} {m c : Nat} (h : m ≤ c) : (repC x m c).take m ++ (((repC x m c).drop 0).take (min m (c - m))) ++ (repC x m c).drop (m + min m (c - m)) = repC x (m + min m (c - m)) c:=by
 unfold repC
 rw [List.drop_zero,List.take_append_of_le_length (by simp),List.take_append_of_le_length (by simp; omega)]
 rw [List.take_replicate,List.take_replicate,List.drop_append]
 simp only [List.length_replicate,List.drop_replicate]
 rw [show min m m = m by omega,show m - (m + min m (c - m)) = 0 by omega,show min (min m (c - m)) m = min m (c - m) by omega]
 rw [List.replicate_zero,List.nil_append,List.replicate_append_replicate]
 congr 2
 omega
def spRepeat : Spec AF where
 γ:=Int × Nat
 args:=fun g=>[.sl 0 1 0 1,vI (g.2 : Int)]
 own:=fun g=>[.arr 3 [g.1]]
 pre:=fun g=>1 ≤ g.2 ∧ g.2 ≤ 1000
 nnew:=1
 res:=fun g _=>.sl 1 1 0 g.2
 own':=fun g _=>[some (.arr 3 [g.1]),some (.arr 3 (List.replicate g.2 g.1))]
theorem m_repeat : Meets Tryz.prog regF 189 spRepeat:=by
 refine meets Tryz.func189 48 noWr ?_
 rintro ⟨(x : Int),(c : Nat)⟩ ⟨(hc1 : 1 ≤ c),(hc2 : c ≤ 1000)⟩
 conv=>whnf
 repeat' ((first | (refine (?_ : TG _ _); first | refine tY ?_ | refine tN ?_ | refine dY ?_ | refine dN ?_ | (refine tell ?_ ?_ <;> intro hQ <;> try dsimp only at hQ)) | refine aS ?_ | refine ai ?_ | fail) <;> conv=>whnf)
 have w64 : ∀ k : Nat,k < 18446744073709551616 → IntKind.u64.wrap (k : Int) = (k : Int):=fun k hk=>by rw [IntKind.wrap_u64]; omega
 have wi64 : ∀ k : Nat,k < 9223372036854775808 → IntKind.i64.wrap (k : Int) = (k : Int):=fun k hk=>by rw [IntKind.wrap_i64]; omega
 refine ⟨_,m_mul1,c,[],false,?_⟩
 conv=>whnf
 refine And.intro (vc0 (show c < 18446744073709551616 by omega) (by (repeat' (first | exact trivial | exact rfl | refine And.intro ?_ ?_ | (refine congrArg vI ?_; first | omega | (dsimp only; omega) | fail) | (refine congrArg some ?_) | omega | exact Nat.le_refl _ | exact congrArg (SV.lst _) (List.take_of_length_le (Nat.le_refl _)).symm)); all_goals (exact congrArg (fun z : Int=>(SV.val (Value.int .u64 z) : SV AF)) (w64 _ (by omega)))) (by repeat' (first | exact trivial | exact rfl | refine And.intro ?_ ?_ | (refine congrArg vI ?_; first | omega | (dsimp only; omega) | fail) | (refine congrArg some ?_) | omega | exact Nat.le_refl _ | exact congrArg (SV.lst _) (List.take_of_length_le (Nat.le_refl _)).symm)) trivial trivial) ?_
 refine uU ?_
 conv=>whnf
 conv=>whnf
 repeat' ((first | (refine (?_ : TG _ _); first | refine tY ?_ | refine tN ?_ | refine dY ?_ | refine dN ?_ | (refine tell ?_ ?_ <;> intro hQ <;> try dsimp only at hQ)) | refine aS ?_ | refine ai ?_ | fail) <;> conv=>whnf)
 rw [wi64 c (by omega)]
 refine And.intro ⟨rfl,by omega,by omega,by omega⟩ ?_
 rw [Int.toNat_natCast]
 conv=>whnf
 repeat' ((first | (refine (?_ : TG _ _); first | refine tY ?_ | refine tN ?_ | refine dY ?_ | refine dN ?_ | (refine tell ?_ ?_ <;> intro hQ <;> try dsimp only at hQ)) | refine aS ?_ | refine ai ?_ | fail) <;> conv=>whnf)
 refine ⟨Nat,fun m=>⟨[(7,.sl 3000 1 0 c),(8,vI m)],[(0,.arr 3 [x]),(3000,.arr 3 (repC x m c))]⟩,fun m=>1 ≤ m ∧ m ≤ c,fun m=>c - m,fun _ _=>rfl,⟨1,[(3000,1030)],⟨Nat.le_refl 1,hc1⟩,?_⟩,?_⟩
 ·refine ⟨rfl,?_,?_,rfl⟩
  all_goals (repeat' (first | exact trivial | exact rfl | refine And.intro ?_ ?_ | (refine congrArg vI ?_; first | omega | (dsimp only; omega) | fail) | (refine congrArg some ?_) | omega | exact Nat.le_refl _ | exact congrArg (SV.lst _) (List.take_of_length_le (Nat.le_refl _)).symm))
  all_goals (exact congrArg (Ct.arr (A:=AF) 3) (show (List.replicate c (0 : Int)).take 0 ++ ([x].drop 0).take (min 1 c) ++ (List.replicate c 0).drop (0 + min 1 c) = repC x 1 c by rw [show min 1 c = 1 by omega]; simp [repC]))
 rintro (m : Nat) ⟨(hm1 : 1 ≤ m),(hmc : m ≤ c)⟩
 by_cases hlt : m < c
 ·have hst:=rep_step (x:=x) (m:=m) (c:=c) (by omega)
  have hln : (repC x m c).length = c:=by simp [repC]; omega
  conv=>whnf
  repeat' ((first | (refine (?_ : TG _ _); first | refine tY ?_ | refine tN ?_ | refine dY ?_ | refine dN ?_ | (refine tell ?_ ?_ <;> intro hQ <;> try dsimp only at hQ)) | refine aS ?_ | refine ai ?_ | fail) <;> conv=>whnf)
  refine ⟨m + min m (c - m),[],⟨by omega,by omega⟩,?_,rfl,?_,?_,rfl⟩
  ·dsimp only; omega
  ·refine And.intro rfl (And.intro ?_ trivial)
   exact congrArg vI (show (m : Int) + ((min (m - 0) (c - m) : Nat) : Int) = ((m + min m (c - m) : Nat) : Int) by omega)
  ·refine And.intro rfl (And.intro ?_ trivial)
   exact congrArg (Ct.arr (A:=AF) 3) (show (repC x m c).take (0 + m) ++ (((repC x m c).drop 0).take (min (m - 0) (c - m))) ++ (repC x m c).drop (0 + m + min (m - 0) (c - m)) = repC x (m + min m (c - m)) c by rw [Nat.sub_zero,Nat.zero_add]; exact hst)
 ·have hme : m = c:=by omega
  subst hme
  conv=>whnf
  repeat' ((first | (refine (?_ : TG _ _); first | refine tY ?_ | refine tN ?_ | refine dY ?_ | refine dN ?_ | (refine tell ?_ ?_ <;> intro hQ <;> try dsimp only at hQ)) | refine aS ?_ | refine ai ?_ | fail) <;> conv=>whnf)
  exact ⟨(),[3000],trivial,rfl,⟨rfl,congrArg (Ct.arr (A:=AF) 3) (show repC x m m = List.replicate m x by simp [repC]),trivial⟩,trivial⟩
def spKnown : Spec AF where
 γ:=(Int × List Edge) × List Int × Int
 args:=fun g=>[layS g.1.1 g.1.2,.lst 3 g.2.1,vI g.2.2]
 nnew:=3
 res:=fun _ _=>.fn (.func 223) [] [.ptr 0 0 1 0,.ptr 1 0 1 0,.ptr 2 0 2 0]
 own':=fun g _=>[some (.cells [vI g.2.2]),some (.cells [.lst 3 g.2.1]),some (layC g.1.1 g.1.2)]
theorem m_known : Meets Tryz.prog regF 190 spKnown:=by
 refine meets Tryz.func190 8 noWr ?_
 rintro ⟨⟨(n : Int),(es : List Edge)⟩,(bl : List Int),(t : Int)⟩ _
 conv=>whnf
 repeat' ((first | (refine (?_ : TG _ _); first | refine tY ?_ | refine tN ?_ | refine dY ?_ | refine dN ?_ | (refine tell ?_ ?_ <;> intro hQ <;> try dsimp only at hQ)) | refine aS ?_ | refine ai ?_ | fail) <;> conv=>whnf)
 exact ⟨(),[1005,1004,1003],trivial,rfl,⟨⟨rfl,trivial⟩,⟨rfl,trivial⟩,⟨rfl,rfl,trivial⟩,trivial⟩,trivial⟩
def spYield : Spec AF where
 γ:=List Int × Int × Int
 args:=fun g=>[vI g.2.1,vI g.2.2]
 own:=fun g=>[.arr 3 g.1,.cells [.sl 0 1 0 g.1.length]]
 pre:=fun g=>0 ≤ g.2.1 ∧ g.2.1 < g.1.length
 res:=fun _ _=>vB true
 own':=fun g _=>[some (.arr 3 (g.1.set g.2.1.toNat g.2.2)),some (.cells [.sl 0 1 0 g.1.length])]
noncomputable def spIt (l : Nat) : Spec AF where
 γ:=(Int × List Edge) × List Int × Int
 args:=fun _=>[.val (.func (.yield l) #[] #[]),.ptr 2 0 1 0,.ptr 3 0 1 0,.ptr 4 0 2 0]
 own:=fun g=>[.arr 3 (List.replicate g.1.1.toNat (-1)),.cells [.sl 0 1 0 g.1.1.toNat],.cells [vI g.2.2],.cells [.lst 3 g.2.1],layC g.1.1 g.1.2]
 pre:=fun g=>RightL g.1.1 g.1.2 ∧ 0 ≤ g.2.2 ∧ g.2.2 < g.1.1 ∧ g.2.1.length ≤ 9223372036854775807
 res:=fun _ _=>.tup []
 own':=fun g _=>[some (.arr 3 (farF g.1.1 g.1.2 g.2.1 g.2.2)),some (.cells [.sl 0 1 0 g.1.1.toNat]),none,none,none]
noncomputable def outOf (n : Int) (es : List Edge) (bl : List Int) (t : Int) (dn : List Bool) : List Int:=(List.range n.toNat).map fun (i : Nat)=>if dn[i]? = some true then farV es bl t i else -1
theorem outOf_len {n : Int} {es : List Edge} {bl : List Int} {t : Int} {dn : List Bool} : (outOf n es bl t dn).length = n.toNat:=by simp [outOf]
theorem outOf_start {n : Int} {es : List Edge} {bl : List Int} {t : Int} : outOf n es bl t (List.replicate 40 false) = List.replicate n.toNat (-1):=by
 unfold outOf
 apply List.ext_getElem?
 intro i
 rw [List.getElem?_map,List.getElem?_replicate]
 by_cases h : i < n.toNat
 ·have : (List.replicate 40 false)[i]? ≠ some true:=fun h=>by
   rw [List.getElem?_replicate] at h
   split at h <;> cases h
  rw [List.getElem?_range h,Option.map_some,if_neg this,if_pos h]
 ·simp [h]
theorem outOf_set {n : Int} {es : List Edge} {bl : List Int} {t v : Int} {dn : List Bool} (h0 : 0 ≤ v) (hl : dn.length = 40) (hv : v < 40) : outOf n es bl t (dn.set v.toNat true) = (outOf n es bl t dn).set v.toNat (farV es bl t v):=by
 apply List.ext_getElem?
 intro i
 rw [List.getElem?_set,outOf_len]
 unfold outOf
 rw [List.getElem?_map,List.getElem?_map]
 by_cases h : i < n.toNat
 ·rw [List.getElem?_range h]
  by_cases e : v.toNat = i
  ·subst e
   rw [Option.map_some,if_pos rfl,if_pos h,List.getElem?_set_self (by omega),if_pos rfl,Int.toNat_of_nonneg h0]
  ·rw [if_neg e,Option.map_some,Option.map_some,List.getElem?_set_ne e]
 ·rw [List.getElem?_eq_none (by simp; omega),Option.map_none]
  by_cases e : v.toNat = i
  ·subst e; simp [h]
  ·rw [if_neg e,Option.map_none]
theorem outOf_end {n : Int} {es : List Edge} {bl : List Int} {t : Int} {dn : List Bool} (hR : RightL n es) (h0 : 0 ≤ t) (ht : t < n) (h : Dij n es bl t dn []) : outOf n es bl t dn = farF n es bl t:=by
 unfold outOf farF
 refine List.map_congr_left fun i hi=>?_
 have hi : i < n.toNat:=by simpa using hi
 split
 ·rfl
 ·rename_i hd
  have hlt : i < dn.length:=by have:=hR.most; have:=h.len; omega
  cases hb : dn[i] with
  | true=>exact absurd (by rw [List.getElem?_eq_getElem hlt,hb]) hd
  | false=>exact (dij_end hR h0 ht h (by rw [List.getElem?_eq_getElem hlt,hb]) (by omega)).symm
theorem count_set {dn : List Bool} {i : Nat} (h : dn[i]? = some false) : (dn.set i true).count true = dn.count true + 1:=by
 have hobt:=List.getElem?_eq_some_iff.1 h
 obtain ⟨hlt,h1⟩:=hobt
 induction dn generalizing i with
 | nil=>simp at hlt
 | cons b l ih=>
  cases i with
  | zero=>simp at h1; subst h1; simp
  | succ i=>
   have:=ih (i:=i) (by simpa using h) (by simpa using hlt) (by simpa using h1)
   rw [List.set_cons_succ,List.count_cons,List.count_cons,this]
   split <;> omega
theorem count_le {dn : List Bool} : dn.count true ≤ dn.length:=List.count_le_length
structure KInv (n : Int) (es : List Edge) (bl : List Int) (t : Int) (dn : List Bool) (H ws : List Item) : Prop where
 heap : HeapL H
 room : ∃ ys,ws = H ++ ys
 dij : Dij n es bl t dn H
 few : H.length ≤ 1 + 120 * dn.count true
theorem it_known : MeetsIt Tryz.prog regF 2 spYield 223 spIt:=by
 refine meetsIt Tryz.func223 65 noWr rfl (by kernel_rfl) (by kernel_rfl) (by decide) fun l Y hy=>?_
 rintro ⟨⟨(n : Int),(es : List Edge)⟩,(bl : List Int),(t : Int)⟩ ⟨(hR : RightL n es),(h0 : 0 ≤ t),(ht : t < n),(hbl : bl.length ≤ 9223372036854775807)⟩
 have hm:=hR.most
 have hl:=hR.len
 conv=>whnf
 repeat' ((first | (refine (?_ : TG _ _); first | refine tY ?_ | refine tN ?_ | refine dY ?_ | refine dN ?_ | (refine tell ?_ ?_ <;> intro hQ <;> try dsimp only at hQ)) | refine aS ?_ | refine ai ?_ | fail) <;> conv=>whnf)
 refine ⟨_,m_new,(),[],false,?_⟩
 conv=>whnf
 refine vcA trivial ?_
 refine uU ?_
 conv=>whnf
 conv=>whnf
 repeat' ((first | (refine (?_ : TG _ _); first | refine tY ?_ | refine tN ?_ | refine dY ?_ | refine dN ?_ | (refine tell ?_ ?_ <;> intro hQ <;> try dsimp only at hQ)) | refine aS ?_ | refine ai ?_ | fail) <;> conv=>whnf)
 refine ⟨_,m_push,([],[],(0,t)),[1012,2012],false,?_⟩
 conv=>whnf
 refine vcA ⟨fun j a b _ hb=>by simp at hb,by show (0 : Nat) < _; decide,[],rfl⟩ ?_
 refine And.intro (heap_ex _) ?_
 rintro (d : List Item) ⟨(hp : List.Perm d [(0,t)]),(hd : HeapL d)⟩
 conv=>whnf
 repeat' ((first | (refine (?_ : TG _ _); first | refine tY ?_ | refine tN ?_ | refine dY ?_ | refine dN ?_ | (refine tell ?_ ?_ <;> intro hQ <;> try dsimp only at hQ)) | refine aS ?_ | refine ai ?_ | fail) <;> conv=>whnf)
 refine ⟨List Bool × List Item × List Item,fun p=>⟨[(0,.val (.func (.yield l) #[] #[])),(1,.ptr 2 0 1 0),(2,.ptr 3 0 1 0),(3,.ptr 4 0 2 0),(5,.ptr 1005 0 40 0),(6,.ptr 3001 0 2 0)],[(0,.arr 3 (outOf n es bl t p.1)),(1,.cells [.sl 0 1 0 n.toNat]),(2,.cells [vI t]),(3,.cells [.lst 3 bl]),(4,layC n es),(1005,.arr 4 p.1),(3001,.cells [.sl 3002 2 0 p.2.1.length,fnB]),(3002,.arr 386 p.2.2)]⟩,fun p=>KInv n es bl t p.1 p.2.1 p.2.2,fun p=>200 * (41 - p.1.count true) + p.2.1.length,fun _ _=>rfl,⟨(List.replicate 40 false,d,d),[(3001,1012),(3002,1015)],⟨hd,⟨[],by simp⟩,dij_start h0 ht hp,by rw [hp.length_eq]; simp⟩,?_⟩,?_⟩
 ·refine ⟨rfl,?_,?_,rfl⟩
  all_goals (repeat' (first | exact trivial | exact rfl | refine And.intro ?_ ?_ | (refine congrArg vI ?_; first | omega | (dsimp only; omega) | fail) | (refine congrArg some ?_) | omega | exact Nat.le_refl _ | exact congrArg (SV.lst _) (List.take_of_length_le (Nat.le_refl _)).symm))
  all_goals (exact congrArg (Ct.arr (A:=AF) 3) outOf_start.symm)
 rintro ⟨(dn : List Bool),(H : List Item),(ws : List Item)⟩ (hK : KInv n es bl t dn H ws)
 have hdl:=hK.dij.len
 have hcl:=count_le (dn:=dn)
 have hfew:=hK.few
 by_cases hH : H = []
 ·have hz : H.length = 0:=by rw [hH]; rfl
  conv=>whnf
  repeat' ((first | (refine (?_ : TG _ _); first | refine tY ?_ | refine tN ?_ | refine dY ?_ | refine dN ?_ | (refine tell ?_ ?_ <;> intro hQ <;> try dsimp only at hQ)) | refine aS ?_ | refine ai ?_ | fail) <;> conv=>whnf)
  refine ⟨_,m_len,(H,ws),[3001,3002],false,?_⟩
  conv=>whnf
  refine vcA trivial ?_
  refine uU ?_
  conv=>whnf
  conv=>whnf
  repeat' ((first | (refine (?_ : TG _ _); first | refine tY ?_ | refine tN ?_ | refine dY ?_ | refine dN ?_ | (refine tell ?_ ?_ <;> intro hQ <;> try dsimp only at hQ)) | refine aS ?_ | refine ai ?_ | fail) <;> conv=>whnf)
  refine ⟨(),[],trivial,trivial,⟨?_,⟨rfl,trivial⟩,trivial,trivial,trivial,trivial⟩,trivial⟩
  exact congrArg (Ct.arr (A:=AF) 3) (outOf_end hR h0 ht (by rw [← hH]; exact hK.dij))
 ·have hHp : 0 < H.length:=List.length_pos_iff.2 hH
  have hobt:=hK.room
  obtain ⟨ys,hws⟩:=hobt
  conv=>whnf
  repeat' ((first | (refine (?_ : TG _ _); first | refine tY ?_ | refine tN ?_ | refine dY ?_ | refine dN ?_ | (refine tell ?_ ?_ <;> intro hQ <;> try dsimp only at hQ)) | refine aS ?_ | refine ai ?_ | fail) <;> conv=>whnf)
  refine ⟨_,m_len,(H,ws),[3001,3002],false,?_⟩
  conv=>whnf
  refine vcA trivial ?_
  refine uU ?_
  conv=>whnf
  conv=>whnf
  repeat' ((first | (refine (?_ : TG _ _); first | refine tY ?_ | refine tN ?_ | refine dY ?_ | refine dN ?_ | (refine tell ?_ ?_ <;> intro hQ <;> try dsimp only at hQ)) | refine aS ?_ | refine ai ?_ | fail) <;> conv=>whnf)
  refine ⟨_,m_pop,(H,ws),[3001,3002],false,?_⟩
  conv=>whnf
  refine vcA ⟨hK.heap,by show H.length ≤ 1000000; omega,ys,hws⟩ ?_
  refine And.intro (pop_ex hK.heap) ?_
  rintro ⟨(H1 : List Item),(w1 : List Item),⟨(c : Int),(v : Int)⟩,(ok : Bool)⟩ ⟨(hH1 : HeapL H1),(hw1 : ∃ ys,w1 = H1 ++ ys),hcase⟩
  rcases hcase with ⟨h,_⟩ | ⟨(hpm : List.Perm ((c,v) :: H1) H),(hmin : ∀ b ∈ H,leP (c,v) b),(hok : ok = true)⟩
  ·exact absurd h hH
  subst hok
  have hobt:=hK.dij.way (c,v) (hpm.mem_iff.1 (by simp))
  obtain ⟨hv0,hvn,hvw,hvc⟩:=hobt
  have hv0 : 0 ≤ v:=hv0
  have hvn : v < n:=hvn
  have hvc : c ≤ 41000:=hvc
  have hc0 : 0 ≤ c:=wayC_nonneg hR hvw
  have hlH:=hpm.length_eq
  rw [List.length_cons] at hlH
  have hobt : ∃ b,dn[v.toNat]? = some b:=⟨_,List.getElem?_eq_getElem (by omega)⟩
  obtain ⟨b,hb⟩:=hobt
  cases b
  ·have hobt:=dij_first hR h0 ht hK.dij hpm hmin hb
   obtain ⟨hfv,hD2⟩:=hobt
   have hln:=outOf_len (n:=n) (es:=es) (bl:=bl) (t:=t) (dn:=dn)
   have hcs:=count_set hb
   conv=>whnf
   repeat' ((first | (refine (?_ : TG _ _); first | refine tY ?_ | refine tN ?_ | refine dY ?_ | refine dN ?_ | (refine tell ?_ ?_ <;> intro hQ <;> try dsimp only at hQ)) | refine aS ?_ | refine aX hb ?_ | refine aL hb ?_ | refine ai ?_ | fail) <;> conv=>whnf)
   refine ⟨_,hy,(outOf n es bl t dn,v,c),rfl,?_⟩
   conv=>whnf
   refine And.intro (vc0 (show 0 ≤ v ∧ v < (outOf n es bl t dn).length by omega) ⟨rfl,rfl,trivial⟩ ⟨rfl,congrArg (fun k=>some (Ct.cells (A:=AF) [.sl 0 1 0 k])) hln.symm,trivial⟩ trivial trivial) ?_
   refine uU ?_
   conv=>whnf
   conv=>whnf
   repeat' ((first | (refine (?_ : TG _ _); first | refine tY ?_ | refine tN ?_ | refine dY ?_ | refine dN ?_ | (refine tell ?_ ?_ <;> intro hQ <;> try dsimp only at hQ)) | refine aS ?_ | refine ai ?_ | fail) <;> conv=>whnf)
   have hos:=outOf_set (n:=n) (es:=es) (bl:=bl) (t:=t) hv0 hdl (show v < 40 by omega)
   rw [hfv] at hos
   have hdl2:=hD2.len
   have hcl2:=count_le (dn:=dn.set v.toNat true)
   refine ⟨_,m_contains,(bl,v),[],false,?_⟩
   conv=>whnf
   refine vcA hbl ?_
   refine And.intro (has_ex _ _) ?_
   intro (b : Bool) (hbv : b = true ↔ v ∈ bl)
   cases b
   ·have hvb : v ∉ bl:=fun h=>by have:=hbv.2 h; cases this
    conv=>whnf
    repeat' ((first | (refine (?_ : TG _ _); first | refine tY ?_ | refine tN ?_ | refine dY ?_ | refine dN ?_ | (refine tell ?_ ?_ <;> intro hQ <;> try dsimp only at hQ)) | refine aS ?_ | refine ai ?_ | fail) <;> conv=>whnf)
    refine ⟨Nat × List Item × List Item,fun p=>⟨[(0,.val (.func (.yield l) #[] #[])),(1,.ptr 2 0 1 0),(2,.ptr 3 0 1 0),(3,.ptr 4 0 2 0),(5,.ptr 1005 0 40 0),(6,.ptr 3001 0 2 0),(7,vI c),(8,vI v),(39,.lst 44 es),(40,vI es.length),(41,vI p.1)],[(0,.arr 3 (outOf n es bl t (dn.set v.toNat true))),(1,.cells [.sl 0 1 0 n.toNat]),(2,.cells [vI t]),(3,.cells [.lst 3 bl]),(4,layC n es),(1005,.arr 4 (dn.set v.toNat true)),(3001,.cells [.sl 3002 2 0 p.2.1.length,fnB]),(3002,.arr 386 p.2.2)]⟩,fun p=>p.1 ≤ es.length ∧ HeapL p.2.1 ∧ (∃ ys,p.2.2 = p.2.1 ++ ys) ∧ Dij2 n es bl t (dn.set v.toNat true) v p.1 p.2.1 ∧ p.2.1.length ≤ H1.length + p.1,fun p=>es.length - p.1,fun _ _=>rfl,⟨(0,H1,w1),[],⟨Nat.zero_le _,hH1,hw1,hD2,Nat.le_refl _⟩,?_⟩,?_⟩
    ·refine ⟨rfl,?_,?_,rfl⟩
     all_goals (repeat' (first | exact trivial | exact rfl | refine And.intro ?_ ?_ | (refine congrArg vI ?_; first | omega | (dsimp only; omega) | fail) | (refine congrArg some ?_) | omega | exact Nat.le_refl _ | exact congrArg (SV.lst _) (List.take_of_length_le (Nat.le_refl _)).symm))
     all_goals (first | exact congrArg (Ct.arr (A:=AF) 3) hos.symm | exact congrArg (SV.sl (A:=AF) 0 1 0) hln)
    rintro ⟨(i : Nat),(H2 : List Item),(w2 : List Item)⟩ ⟨(hi : i ≤ es.length),(hH2 : HeapL H2),(hw2 : ∃ ys,w2 = H2 ++ ys),(hDi : Dij2 n es bl t (dn.set v.toNat true) v i H2),(hfi : H2.length ≤ H1.length + i)⟩
    by_cases hlt : i < es.length
    ·have hobt : ∃ e,es[i]? = some e:=⟨_,List.getElem?_eq_getElem hlt⟩
     obtain ⟨e,he⟩:=hobt
     have hmem : e ∈ es:=List.mem_of_getElem? he
     have hobt:=hR.each e hmem
     obtain ⟨o1,o2,o3,o4,_,o6,o7⟩:=hobt
     have hobt : ∃ b2,(dn.set v.toNat true)[e.1.toNat]? = some b2:=⟨_,List.getElem?_eq_getElem (by omega)⟩
     obtain ⟨b2,hb2⟩:=hobt
     by_cases hev : e.2.1 = v
     ·cases b2
      ·conv=>whnf
       repeat' ((first | (refine (?_ : TG _ _); first | refine tY ?_ | refine tN ?_ | refine dY ?_ | refine dN ?_ | (refine tell ?_ ?_ <;> intro hQ <;> try dsimp only at hQ)) | refine aS ?_ | refine aX he ?_ | refine aL he ?_ | refine aX hb2 ?_ | refine aL hb2 ?_ | refine ai ?_ | fail) <;> conv=>whnf)
       refine ⟨_,m_push,(H2,w2,(c + e.2.2,e.1)),[3001,3002],false,?_⟩
       conv=>whnf
       refine vcA ⟨hH2,by show H2.length < 1000000; omega,hw2⟩ ?_
       refine And.intro (heap_ex _) ?_
       rintro (d2 : List Item) ⟨(hp2 : List.Perm d2 ((c + e.2.2,e.1) :: H2)),(hd2 : HeapL d2)⟩
       have hpl:=hp2.length_eq
       rw [List.length_cons] at hpl
       conv=>whnf
       repeat' ((first | (refine (?_ : TG _ _); first | refine tY ?_ | refine tN ?_ | refine dY ?_ | refine dN ?_ | (refine tell ?_ ?_ <;> intro hQ <;> try dsimp only at hQ)) | refine aS ?_ | refine ai ?_ | fail) <;> conv=>whnf)
       exact ⟨(i + 1,d2,d2),[(3002,1063)],⟨hlt,hd2,⟨[],by simp⟩,dij_push hR h0 ht he hDi hev hvb hfv hc0 hp2,by show d2.length ≤ H1.length + (i + 1); omega⟩,rn en⟩
      ·conv=>whnf
       repeat' ((first | (refine (?_ : TG _ _); first | refine tY ?_ | refine tN ?_ | refine dY ?_ | refine dN ?_ | (refine tell ?_ ?_ <;> intro hQ <;> try dsimp only at hQ)) | refine aS ?_ | refine aX he ?_ | refine aL he ?_ | refine aX hb2 ?_ | refine aL hb2 ?_ | refine ai ?_ | fail) <;> conv=>whnf)
       exact ⟨(i + 1,H2,w2),[],⟨hlt,hH2,hw2,dij_skip he hDi (.inr hb2),by show H2.length ≤ H1.length + (i + 1); omega⟩,rn en⟩
     ·conv=>whnf
      repeat' ((first | (refine (?_ : TG _ _); first | refine tY ?_ | refine tN ?_ | refine dY ?_ | refine dN ?_ | (refine tell ?_ ?_ <;> intro hQ <;> try dsimp only at hQ)) | refine aS ?_ | refine aX he ?_ | refine aL he ?_ | refine ai ?_ | fail) <;> conv=>whnf)
      exact ⟨(i + 1,H2,w2),[],⟨hlt,hH2,hw2,dij_skip he hDi (.inl hev),by show H2.length ≤ H1.length + (i + 1); omega⟩,rn en⟩
    ·have hie : i = es.length:=by omega
     subst hie
     conv=>whnf
     repeat' ((first | (refine (?_ : TG _ _); first | refine tY ?_ | refine tN ?_ | refine dY ?_ | refine dN ?_ | (refine tell ?_ ?_ <;> intro hQ <;> try dsimp only at hQ)) | refine aS ?_ | refine ai ?_ | fail) <;> conv=>whnf)
     exact ⟨(dn.set v.toNat true,H2,w2),[],⟨hH2,hw2,dij_done hDi,by show H2.length ≤ 1 + 120 * (dn.set v.toNat true).count true; omega⟩,rn en⟩
   ·have hvb:=hbv.1 rfl
    conv=>whnf
    repeat' ((first | (refine (?_ : TG _ _); first | refine tY ?_ | refine tN ?_ | refine dY ?_ | refine dN ?_ | (refine tell ?_ ?_ <;> intro hQ <;> try dsimp only at hQ)) | refine aS ?_ | refine ai ?_ | fail) <;> conv=>whnf)
    refine ⟨(dn.set v.toNat true,H1,w1),[],⟨hH1,hw1,dij_blocked hvb hD2,by show H1.length ≤ 1 + 120 * (dn.set v.toNat true).count true; omega⟩,?_,rfl,?_,?_,rfl⟩
    ·dsimp only; first | omega | (simp; done) | (simp; omega)
    all_goals (repeat' (first | exact trivial | exact rfl | refine And.intro ?_ ?_ | (refine congrArg vI ?_; first | omega | (dsimp only; omega) | fail) | (refine congrArg some ?_) | omega | exact Nat.le_refl _ | exact congrArg (SV.lst _) (List.take_of_length_le (Nat.le_refl _)).symm))
    all_goals first | exact congrArg (Ct.arr (A:=AF) 3) hos.symm | exact congrArg (SV.sl (A:=AF) 0 1 0) hln
  ·conv=>whnf
   repeat' ((first | (refine (?_ : TG _ _); first | refine tY ?_ | refine tN ?_ | refine dY ?_ | refine dN ?_ | (refine tell ?_ ?_ <;> intro hQ <;> try dsimp only at hQ)) | refine aS ?_ | refine aX hb ?_ | refine aL hb ?_ | refine ai ?_ | fail) <;> conv=>whnf)
   exact ⟨(dn,H1,w1),[],⟨hH1,hw1,dij_again hv0 hK.dij hpm hb,by show H1.length ≤ 1 + 120 * dn.count true; omega⟩,rn en⟩
noncomputable def spFar : Spec AF where
 γ:=(Int × List Edge) × List Int × Int
 args:=fun g=>[layS g.1.1 g.1.2,.lst 3 g.2.1,vI g.2.2]
 pre:=fun g=>RightL g.1.1 g.1.2 ∧ 0 ≤ g.2.2 ∧ g.2.2 < g.1.1 ∧ GoodL g.1.2 ∧ g.2.1.length ≤ 9223372036854775807
 res:=fun g _=>.lst 3 (farF g.1.1 g.1.2 g.2.1 g.2.2)
theorem m_far : Meets Tryz.prog regF 142 spFar:=by
 refine meets Tryz.func142 38 noWr ?_
 rintro ⟨⟨(n : Int),(es : List Edge)⟩,(bl : List Int),(t : Int)⟩ ⟨(hR : RightL n es),(h0 : 0 ≤ t),(ht : t < n),(hg : GoodL es),(hbl : bl.length ≤ 9223372036854775807)⟩
 have hobt:=Int.eq_ofNat_of_zero_le (show 0 ≤ n from Int.le_of_lt hR.pos)
 obtain ⟨k,rfl⟩:=hobt
 have hk40:=hR.most
 have hkp:=hR.pos
 conv=>whnf
 repeat' ((first | (refine (?_ : TG _ _); first | refine tY ?_ | refine tN ?_ | refine dY ?_ | refine dN ?_ | (refine tell ?_ ?_ <;> intro hQ <;> try dsimp only at hQ)) | refine aS ?_ | refine ai ?_ | fail) <;> conv=>whnf)
 refine ⟨_,m_right,(((k : Nat) : Int),es),[],false,?_⟩
 conv=>whnf
 refine vcA hg ?_
 refine And.intro (right_ex _ es) ?_
 intro (c : Bool) (hc : c = true ↔ RightL k es)
 cases c
 ·have:=hc.2 hR; cases this
 conv=>whnf
 repeat' ((first | (refine (?_ : TG _ _); first | refine tY ?_ | refine tN ?_ | refine dY ?_ | refine dN ?_ | (refine tell ?_ ?_ <;> intro hQ <;> try dsimp only at hQ)) | refine aS ?_ | refine ai ?_ | fail) <;> conv=>whnf)
 refine ⟨_,m_repeat,(-1,k),[1023],false,?_⟩
 conv=>whnf
 refine vcA ⟨by show 1 ≤ k; omega,by show k ≤ 1000; omega⟩ ?_
 refine uU ?_
 conv=>whnf
 conv=>whnf
 repeat' ((first | (refine (?_ : TG _ _); first | refine tY ?_ | refine tN ?_ | refine dY ?_ | refine dN ?_ | (refine tell ?_ ?_ <;> intro hQ <;> try dsimp only at hQ)) | refine aS ?_ | refine ai ?_ | fail) <;> conv=>whnf)
 refine ⟨_,m_known,((((k : Nat) : Int),es),bl,t),[],false,?_⟩
 conv=>whnf
 refine vcA trivial ?_
 refine uU ?_
 conv=>whnf
 conv=>whnf
 repeat' ((first | (refine (?_ : TG _ _); first | refine tY ?_ | refine tN ?_ | refine dY ?_ | refine dN ?_ | (refine tell ?_ ?_ <;> intro hQ <;> try dsimp only at hQ)) | refine aS ?_ | refine ai ?_ | fail) <;> conv=>whnf)
 refine .inl ⟨spYield,spIt,2,it_known,[1026,1007],[1030,2030,3030],fun _=>((((k : Nat) : Int),es),bl,t),⟨rfl,rfl,rfl⟩,?_,?_⟩
 ·rintro ⟨(xs : List Int),(v : Int),(c : Int)⟩ ⟨(hv0 : 0 ≤ v),(hvl : v < xs.length)⟩
  refine ⟨⟨rfl,⟨rfl,rfl,trivial⟩,rfl,trivial⟩,?_⟩
  have hobt : ∃ x,xs[v.toNat]? = some x:=⟨_,List.getElem?_eq_getElem (by omega)⟩
  obtain ⟨x,hx⟩:=hobt
  conv=>whnf
  repeat' ((first | (refine (?_ : TG _ _); first | refine tY ?_ | refine tN ?_ | refine dY ?_ | refine dN ?_ | (refine tell ?_ ?_ <;> intro hQ <;> try dsimp only at hQ)) | refine aS ?_ | refine aX hx ?_ | refine aL hx ?_ | refine ai ?_ | fail) <;> conv=>whnf)
  refine ⟨(),trivial,rfl,⟨?_,⟨rfl,trivial⟩,trivial⟩,trivial⟩
  exact congrArg (fun i : Nat=>Ct.arr (A:=AF) 3 (xs.set i c)) (show 0 + v.toNat = v.toNat by omega)
 ·intro l
  refine ⟨rfl,?_⟩
  conv=>whnf
  refine And.intro (vc0 ⟨hR,h0,ht,hbl⟩ ⟨rfl,rfl,rfl,rfl,trivial⟩ ⟨rfl,rfl,rfl,rfl,rfl,trivial⟩ trivial trivial) ?_
  refine uU ?_
  conv=>whnf
  conv=>whnf
  repeat' ((first | (refine (?_ : TG _ _); first | refine tY ?_ | refine tN ?_ | refine dY ?_ | refine dN ?_ | (refine tell ?_ ?_ <;> intro hQ <;> try dsimp only at hQ)) | refine aS ?_ | refine ai ?_ | fail) <;> conv=>whnf)
  refine ⟨(),[],trivial,⟨?_,rfl,?_⟩,trivial,trivial⟩
  ·show 0 + k ≤ (farF k es bl t).length
   rw [farF_len]; simp
  ·exact congrArg (SV.lst (A:=AF) 3) (show farF k es bl t = ((farF k es bl t).drop 0).take k by rw [List.drop_zero,List.take_of_length_le (by rw [farF_len]; simp)])
def spFarN : Spec AF where
 γ:=(Int × List Edge) × List Int × Int
 args:=fun g=>[layS g.1.1 g.1.2,.lst 3 g.2.1,vI g.2.2]
 pre:=fun g=>¬ (RightL g.1.1 g.1.2 ∧ 0 ≤ g.2.2 ∧ g.2.2 < g.1.1) ∧ GoodL g.1.2
 res:=fun _ _=>.val (.slice none 0 0)
theorem m_farN : Meets Tryz.prog regF 142 spFarN:=by
 refine meets Tryz.func142 38 noWr ?_
 rintro ⟨⟨(n : Int),(es : List Edge)⟩,(bl : List Int),(t : Int)⟩ ⟨(hno : ¬ (RightL n es ∧ 0 ≤ t ∧ t < n)),(hg : GoodL es)⟩
 conv=>whnf
 repeat' ((first | (refine (?_ : TG _ _); first | refine tY ?_ | refine tN ?_ | refine dY ?_ | refine dN ?_ | (refine tell ?_ ?_ <;> intro hQ <;> try dsimp only at hQ)) | refine aS ?_ | refine ai ?_ | fail) <;> conv=>whnf)
 refine ⟨_,m_right,(n,es),[],false,?_⟩
 conv=>whnf
 refine vcA hg ?_
 refine And.intro (right_ex n es) ?_
 intro (c : Bool) (hc : c = true ↔ RightL n es)
 cases c
 ·conv=>whnf
  repeat' ((first | (refine (?_ : TG _ _); first | refine tY ?_ | refine tN ?_ | refine dY ?_ | refine dN ?_ | (refine tell ?_ ?_ <;> intro hQ <;> try dsimp only at hQ)) | refine aS ?_ | refine ai ?_ | fail) <;> conv=>whnf)
  exact ⟨(),[],trivial,rfl,trivial,trivial⟩
 ·have hr:=hc.1 rfl
  by_cases h0 : t < 0
  ·conv=>whnf
   repeat' ((first | (refine (?_ : TG _ _); first | refine tY ?_ | refine tN ?_ | refine dY ?_ | refine dN ?_ | (refine tell ?_ ?_ <;> intro hQ <;> try dsimp only at hQ)) | refine aS ?_ | refine ai ?_ | fail) <;> conv=>whnf)
   exact ⟨(),[],trivial,rfl,trivial,trivial⟩
  ·have hn : ¬ t < n:=fun h=>hno ⟨hr,by omega,h⟩
   conv=>whnf
   repeat' ((first | (refine (?_ : TG _ _); first | refine tY ?_ | refine tN ?_ | refine dY ?_ | refine dN ?_ | (refine tell ?_ ?_ <;> intro hQ <;> try dsimp only at hQ)) | refine aS ?_ | refine ai ?_ | fail) <;> conv=>whnf)
   exact ⟨(),[],trivial,rfl,trivial,trivial⟩
def OkE (es : List Edge) (bl : List Int) (t v : Int) (e : Edge) : Prop:=0 ≤ farV es bl t e.2.1 ∧ farV es bl t e.2.1 + e.2.2 = farV es bl t v ∧ e.2.1 ∉ bl
inductive RouteP (es : List Edge) (bl : List Int) (t : Int) : Int → List Int → Prop where
 | nil : RouteP es bl t t []
 | cons {v : Int} {i : Nat} {e : Edge} {l : List Int} (hv : v ≠ t) (he : es[i]? = some e) (h1 : e.1 = v) (hok : OkE es bl t v e) (hmin : ∀ (j : Nat) x,j < i → es[j]? = some x → x.1 = v → ¬ OkE es bl t v x) (h : RouteP es bl t e.2.1 l) : RouteP es bl t v ((i : Int) :: l)
section
variable {n : Int} {es : List Edge} {bl : List Int} {t v : Int}
theorem first_ex {p : Nat → Prop} {n : Nat} (h : ∃ i,i < n ∧ p i) : ∃ i,i < n ∧ p i ∧ ∀ j,j < i → ¬ p j:=by
 obtain ⟨i,hi,hp⟩:=h
 have hobt:=ex_min (p:=p) i hp
 obtain ⟨m,hm,hmin⟩:=hobt
 exact ⟨m,Nat.lt_of_le_of_lt (hmin i hp) hi,hm,fun j hj hpj=>by have:=hmin j hpj; omega⟩
theorem okE_ex (hR : RightL n es) (hv : v ≠ t) (h : 0 ≤ farV es bl t v) : ∃ (i : Nat) (e : Edge),es[i]? = some e ∧ e.1 = v ∧ OkE es bl t v e ∧ ∀ (j : Nat) x,j < i → es[j]? = some x → x.1 = v → ¬ OkE es bl t v x:=by
 have hobt:=farV_next hR hv h
 obtain ⟨e,he,h1,h2,h3,h4⟩:=hobt
 have hobt:=List.getElem?_of_mem he
 obtain ⟨i,hi⟩:=hobt
 have hobt:=first_ex (p:=fun i=>∃ x,es[i]? = some x ∧ x.1 = v ∧ OkE es bl t v x) (n:=es.length) ⟨i,(List.getElem?_eq_some_iff.1 hi).1,e,hi,h1,h3,by omega,h2⟩
 obtain ⟨m,_,⟨x,q1,q2,q3⟩,q4⟩:=hobt
 exact ⟨m,x,q1,q2,q3,fun j y hj hy h5 h6=>q4 j hj ⟨y,hy,h5,h6⟩⟩
theorem okE_less (hR : RightL n es) {e : Edge} (he : e ∈ es) (h : OkE es bl t v e) : 0 ≤ farV es bl t e.2.1 ∧ farV es bl t e.2.1 + 1 ≤ farV es bl t v:=by
 have:=(hR.each e he).2.2.2.2.2.1
 obtain ⟨h1,h2,_⟩:=h
 exact ⟨h1,by omega⟩
end
def FirstAt (os : List Int) (P : Int → Prop) (r : Int) : Prop:=
 (∃ (j : Nat) (i : Int),r = j ∧ os[j]? = some i ∧ P i ∧ ∀ (j' : Nat) i',j' < j → os[j']? = some i' → ¬ P i') ∨ (r = -1 ∧ ∀ i ∈ os,¬ P i)
def PredR (es : List Edge) (bl : List Int) (t v : Int) (i : Int) : Prop:=∃ e,es[i.toNat]? = some e ∧ OkE es bl t v e
theorem firstAt_ex (os : List Int) (P : Int → Prop) : ∃ r,FirstAt os P r:=by
 by_cases h : ∃ j,j < os.length ∧ ∃ i,os[j]? = some i ∧ P i
 ·have hobt:=first_ex h
  obtain ⟨j,_,⟨i,h1,h2⟩,h3⟩:=hobt
  exact ⟨j,.inl ⟨j,i,rfl,h1,h2,fun j' i' hj hi hp=>h3 j' hj ⟨i',hi,hp⟩⟩⟩
 ·refine ⟨-1,.inr ⟨rfl,fun i hi hp=>?_⟩⟩
  have hobt:=List.getElem?_of_mem hi
  obtain ⟨j,hj⟩:=hobt
  exact h ⟨j,(List.getElem?_eq_some_iff.1 hj).1,i,hj,hp⟩
noncomputable abbrev rOwn (g : (Int × List Edge) × List Int × Int × Int) : List (Ct AF):=[layC g.1.1 g.1.2,.cells [.lst 3 (farF g.1.1 g.1.2 g.2.1 g.2.2.1)],.cells [vI g.2.2.2],.cells [.lst 3 g.2.1]]
noncomputable def spPred : Spec AF where
 γ:=((Int × List Edge) × List Int × Int × Int) × Int
 δ:=Bool
 args:=fun g=>[vI g.2,.ptr 0 0 2 0,.ptr 1 0 1 0,.ptr 2 0 1 0,.ptr 3 0 1 0]
 own:=fun g=>rOwn g.1
 pre:=fun g=>RightL g.1.1.1 g.1.1.2 ∧ (0 ≤ g.1.2.2.1 ∧ g.1.2.2.1 < g.1.1.1) ∧ (0 ≤ g.1.2.2.2 ∧ g.1.2.2.2 < g.1.1.1) ∧ 0 ≤ farV g.1.1.2 g.1.2.1 g.1.2.2.1 g.1.2.2.2 ∧ g.1.2.1.length ≤ 9223372036854775807 ∧ 0 ≤ g.2 ∧ g.2 < g.1.1.2.length
 res:=fun _ c=>vB c
 own':=fun g _=>(rOwn g.1).map some
 post:=fun g c=>(c = true ↔ PredR g.1.1.2 g.1.2.1 g.1.2.2.1 g.1.2.2.2 g.2)
theorem m_pred : Meets Tryz.prog regF 145 spPred:=by
 refine meets Tryz.func145 41 noWr ?_
 rintro ⟨⟨⟨(n : Int),(es : List Edge)⟩,(bl : List Int),(t : Int),(v : Int)⟩,(i : Int)⟩ ⟨(hR : RightL n es),⟨(ht0 : 0 ≤ t),(htn : t < n)⟩,⟨(hv0 : 0 ≤ v),(hvn : v < n)⟩,(hfv : 0 ≤ farV es bl t v),(hbl : bl.length ≤ 9223372036854775807),(hi0 : 0 ≤ i),(hil : i < es.length)⟩
 have hobt : ∃ e,es[i.toNat]? = some e:=⟨_,List.getElem?_eq_getElem (by omega)⟩
 obtain ⟨e,he⟩:=hobt
 have hmem:=List.mem_of_getElem? he
 have hobt:=hR.each e hmem
 obtain ⟨o1,o2,o3,o4,_,o6,o7⟩:=hobt
 have hat:=farF_at (es:=es) (bl:=bl) (t:=t) o3 o4
 have hav:=farF_at (es:=es) (bl:=bl) (t:=t) hv0 hvn
 have hbd:=farV_bd hR ht0 htn (bl:=bl) e.2.1
 have hbv:=farV_bd hR ht0 htn (bl:=bl) v
 have hge:=farV_ge (bl:=bl) (t:=t) hR e.2.1
 have hpr : PredR es bl t v i ↔ OkE es bl t v e:=⟨fun ⟨x,h1,h2⟩=>by rw [he] at h1; cases h1; exact h2,fun h=>⟨e,he,h⟩⟩
 have fin : ∀ c : Bool,(c = true ↔ OkE es bl t v e) → (c = true ↔ PredR es bl t v i):=fun c h=>h.trans hpr.symm
 by_cases h1 : farV es bl t e.2.1 = -1
 ·conv=>whnf
  repeat' ((first | (refine (?_ : TG _ _); first | refine tY ?_ | refine tN ?_ | refine dY ?_ | refine dN ?_ | (refine tell ?_ ?_ <;> intro hQ <;> try dsimp only at hQ)) | refine aS ?_ | refine aL he ?_ (h0:=hi0) | refine aL hat ?_ (h0:=o3) | refine ai ?_ | fail) <;> conv=>whnf)
  exact ⟨false,[],fin _ ⟨fun h=>(by cases h),fun h=>absurd h.1 (by omega)⟩,rfl,⟨⟨rfl,rfl,trivial⟩,⟨rfl,trivial⟩,⟨rfl,trivial⟩,⟨rfl,trivial⟩,trivial⟩,trivial⟩
 have h1' : 0 ≤ farV es bl t e.2.1:=hge.resolve_left h1
 by_cases h2 : farV es bl t e.2.1 + e.2.2 = farV es bl t v
 ·conv=>whnf
  repeat' ((first | (refine (?_ : TG _ _); first | refine tY ?_ | refine tN ?_ | refine dY ?_ | refine dN ?_ | (refine tell ?_ ?_ <;> intro hQ <;> try dsimp only at hQ)) | refine aS ?_ | refine aL he ?_ (h0:=hi0) | refine aL hat ?_ (h0:=o3) | refine aL hav ?_ (h0:=hv0) | refine ai ?_ | fail) <;> conv=>whnf)
  refine ⟨_,m_contains,(bl,e.2.1),[],false,?_⟩
  conv=>whnf
  refine vcA hbl ?_
  refine And.intro (has_ex _ _) ?_
  intro (c : Bool) (hc : c = true ↔ e.2.1 ∈ bl)
  cases c
  ·conv=>whnf
   repeat' ((first | (refine (?_ : TG _ _); first | refine tY ?_ | refine tN ?_ | refine dY ?_ | refine dN ?_ | (refine tell ?_ ?_ <;> intro hQ <;> try dsimp only at hQ)) | refine aS ?_ | refine ai ?_ | fail) <;> conv=>whnf)
   exact ⟨true,[],fin _ ⟨fun _=>⟨h1',h2,fun h=>(by have:=hc.2 h; cases this)⟩,fun _=>rfl⟩,rfl,⟨⟨rfl,rfl,trivial⟩,⟨rfl,trivial⟩,⟨rfl,trivial⟩,⟨rfl,trivial⟩,trivial⟩,trivial⟩
  ·conv=>whnf
   repeat' ((first | (refine (?_ : TG _ _); first | refine tY ?_ | refine tN ?_ | refine dY ?_ | refine dN ?_ | (refine tell ?_ ?_ <;> intro hQ <;> try dsimp only at hQ)) | refine aS ?_ | refine ai ?_ | fail) <;> conv=>whnf)
   exact ⟨false,[],fin _ ⟨fun h=>(by cases h),fun h=>absurd (hc.1 rfl) h.2.2⟩,rfl,⟨⟨rfl,rfl,trivial⟩,⟨rfl,trivial⟩,⟨rfl,trivial⟩,⟨rfl,trivial⟩,trivial⟩,trivial⟩
 ·conv=>whnf
  repeat' ((first | (refine (?_ : TG _ _); first | refine tY ?_ | refine tN ?_ | refine dY ?_ | refine dN ?_ | (refine tell ?_ ?_ <;> intro hQ <;> try dsimp only at hQ)) | refine aS ?_ | refine aL he ?_ (h0:=hi0) | refine aL hat ?_ (h0:=o3) | refine aL hav ?_ (h0:=hv0) | refine ai ?_ | fail) <;> conv=>whnf)
  exact ⟨false,[],fin _ ⟨fun h=>(by cases h),fun h=>absurd h.2.1 h2⟩,rfl,⟨⟨rfl,rfl,trivial⟩,⟨rfl,trivial⟩,⟨rfl,trivial⟩,⟨rfl,trivial⟩,trivial⟩,trivial⟩
noncomputable def spIdxR : Spec AF where
 γ:=List Int × (Int × List Edge) × List Int × Int × Int
 δ:=Int
 args:=fun g=>[.lst 3 g.1,.fn (.func 145) [] [.ptr 0 0 2 0,.ptr 1 0 1 0,.ptr 2 0 1 0,.ptr 3 0 1 0]]
 own:=fun g=>rOwn g.2
 pre:=fun g=>RightL g.2.1.1 g.2.1.2 ∧ (0 ≤ g.2.2.2.1 ∧ g.2.2.2.1 < g.2.1.1) ∧ (0 ≤ g.2.2.2.2 ∧ g.2.2.2.2 < g.2.1.1) ∧ 0 ≤ farV g.2.1.2 g.2.2.1 g.2.2.2.1 g.2.2.2.2 ∧ g.2.2.1.length ≤ 9223372036854775807 ∧ (∀ i ∈ g.1,0 ≤ i ∧ i < g.2.1.2.length) ∧ g.1.length ≤ 1000
 res:=fun _ r=>vI r
 own':=fun g _=>(rOwn g.2).map some
 post:=fun g r=>FirstAt g.1 (PredR g.2.1.2 g.2.2.1 g.2.2.2.1 g.2.2.2.2) r
theorem pred_ex (p : Prop) : ∃ c : Bool,(c = true ↔ p):=by
 by_cases h : p
 ·exact ⟨true,by simp [h]⟩
 ·exact ⟨false,by simp [h]⟩
theorem m_idxR : Meets Tryz.prog regF 143 spIdxR:=by
 refine meets Tryz.func143 19 noWr ?_
 rintro ⟨(os : List Int),⟨(n : Int),(es : List Edge)⟩,(bl : List Int),(t : Int),(v : Int)⟩ ⟨(hR : RightL n es),(ht : 0 ≤ t ∧ t < n),(hv : 0 ≤ v ∧ v < n),(hfv : 0 ≤ farV es bl t v),(hbl : bl.length ≤ 9223372036854775807),(hos : ∀ i ∈ os,0 ≤ i ∧ i < es.length),(hol : os.length ≤ 1000)⟩
 conv=>whnf
 repeat' ((first | (refine (?_ : TG _ _); first | refine tY ?_ | refine tN ?_ | refine dY ?_ | refine dN ?_ | (refine tell ?_ ?_ <;> intro hQ <;> try dsimp only at hQ)) | refine aS ?_ | refine ai ?_ | fail) <;> conv=>whnf)
 refine ⟨Nat,fun j=>⟨[(0,.lst 3 os),(1,.fn (.func 145) [] [.ptr 0 0 2 0,.ptr 1 0 1 0,.ptr 2 0 1 0,.ptr 3 0 1 0]),(6,.lst 3 os),(7,vI os.length),(8,vI j)],[(0,layC n es),(1,.cells [.lst 3 (farF n es bl t)]),(2,.cells [vI v]),(3,.cells [.lst 3 bl])]⟩,fun j=>j ≤ os.length ∧ ∀ (j' : Nat) i',j' < j → os[j']? = some i' → ¬ PredR es bl t v i',fun j=>os.length - j,fun _ _=>rfl,⟨0,[],⟨Nat.zero_le _,fun j' i' h=>absurd h (Nat.not_lt_zero _)⟩,en⟩,?_⟩
 rintro (j : Nat) ⟨(hj : j ≤ os.length),(hno : ∀ (j' : Nat) i',j' < j → os[j']? = some i' → ¬ PredR es bl t v i')⟩
 by_cases hlt : j < os.length
 ·have hobt : ∃ i,os[j]? = some i:=⟨_,List.getElem?_eq_getElem hlt⟩
  obtain ⟨i,hi⟩:=hobt
  have hobt:=hos i (List.mem_of_getElem? hi)
  obtain ⟨hi0,hil⟩:=hobt
  conv=>whnf
  repeat' ((first | (refine (?_ : TG _ _); first | refine tY ?_ | refine tN ?_ | refine dY ?_ | refine dN ?_ | (refine tell ?_ ?_ <;> intro hQ <;> try dsimp only at hQ)) | refine aS ?_ | refine aX hi ?_ | refine aL hi ?_ | refine ai ?_ | fail) <;> conv=>whnf)
  refine ⟨_,m_pred,(((n,es),bl,t,v),i),[0,1,2,3],false,?_⟩
  conv=>whnf
  refine vcA ⟨hR,ht,hv,hfv,hbl,hi0,hil⟩ ?_
  refine And.intro (pred_ex _) ?_
  intro (c : Bool) (hc : c = true ↔ PredR es bl t v i)
  cases c
  ·have hnx : ∀ (j' : Nat) i',j' < j + 1 → os[j']? = some i' → ¬ PredR es bl t v i':=fun j' i' h1 h2 h3=>by
    by_cases e : j' = j
    ·subst e; rw [hi] at h2; cases h2; have:=hc.2 h3; cases this
    ·exact hno j' i' (by omega) h2 h3
   conv=>whnf
   repeat' ((first | (refine (?_ : TG _ _); first | refine tY ?_ | refine tN ?_ | refine dY ?_ | refine dN ?_ | (refine tell ?_ ?_ <;> intro hQ <;> try dsimp only at hQ)) | refine aS ?_ | refine ai ?_ | fail) <;> conv=>whnf)
   exact ⟨j + 1,[],⟨hlt,hnx⟩,rn en⟩
  ·conv=>whnf
   repeat' ((first | (refine (?_ : TG _ _); first | refine tY ?_ | refine tN ?_ | refine dY ?_ | refine dN ?_ | (refine tell ?_ ?_ <;> intro hQ <;> try dsimp only at hQ)) | refine aS ?_ | refine ai ?_ | fail) <;> conv=>whnf)
   exact ⟨(j : Int),[],.inl ⟨j,i,rfl,hi,hc.1 rfl,hno⟩,rfl,⟨⟨rfl,rfl,trivial⟩,⟨rfl,trivial⟩,⟨rfl,trivial⟩,⟨rfl,trivial⟩,trivial⟩,trivial⟩
 ·conv=>whnf
  repeat' ((first | (refine (?_ : TG _ _); first | refine tY ?_ | refine tN ?_ | refine dY ?_ | refine dN ?_ | (refine tell ?_ ?_ <;> intro hQ <;> try dsimp only at hQ)) | refine aS ?_ | refine ai ?_ | fail) <;> conv=>whnf)
  exact ⟨(-1 : Int),[],.inr ⟨rfl,fun i hi=>(by
   have hobt:=List.getElem?_of_mem hi
   obtain ⟨j',hj'⟩:=hobt
   exact hno j' i (by have : j' < os.length:=(List.getElem?_eq_some_iff.1 hj').1; omega) hj')⟩,rfl,⟨⟨rfl,rfl,trivial⟩,⟨rfl,trivial⟩,⟨rfl,trivial⟩,⟨rfl,trivial⟩,trivial⟩,trivial⟩
theorem firstAt_out {es : List Edge} {bl : List Int} {t v r : Int} (h : FirstAt (outL es v 0) (PredR es bl t v) r) (hex : ∃ (i : Nat) (e : Edge),es[i]? = some e ∧ e.1 = v ∧ OkE es bl t v e) :
  ∃ (j m : Nat) (e : Edge),r = j ∧ (outL es v 0)[j]? = some (m : Int) ∧ es[m]? = some e ∧ e.1 = v ∧ OkE es bl t v e ∧ ∀ (k : Nat) x,k < m → es[k]? = some x → x.1 = v → ¬ OkE es bl t v x:=by
 rcases h with ⟨j,i,rfl,hj,⟨e,he,hok⟩,hmin⟩ | ⟨_,hno⟩
 ·have hobt:=(outL_mem v es 0 i).1 (List.mem_of_getElem? hj)
  obtain ⟨m,x,hm,hx,hxv⟩:=hobt
  rw [Nat.zero_add] at hm
  subst hm
  rw [Int.toNat_natCast,hx] at he
  have hobt:=Option.some.inj he
  obtain rfl:=hobt
  refine ⟨j,m,x,rfl,hj,hx,hxv,hok,fun k y hk hy hyv hyo=>?_⟩
  have hobt:=List.getElem?_of_mem ((outL_mem v es 0 (k : Int)).2 ⟨k,y,by rw [Nat.zero_add],hy,hyv⟩)
  obtain ⟨p,hp⟩:=hobt
  have hpj : p < j:=by
   rcases Nat.lt_or_ge p j with h1 | h1
   ·exact h1
   ·exfalso
    have hobt:=List.getElem?_eq_some_iff.1 hj
    obtain ⟨l1,g1⟩:=hobt
    have hobt:=List.getElem?_eq_some_iff.1 hp
    obtain ⟨l2,g2⟩:=hobt
    rcases Nat.lt_or_ge j p with h2 | h2
    ·have:=List.pairwise_iff_getElem.1 (outL_sorted v es 0) j p l1 l2 h2
     rw [g1,g2] at this; omega
    ·have : p = j:=by omega
     subst this
     rw [g1] at g2; omega
  exact hmin p _ hpj hp ⟨y,by rw [Int.toNat_natCast]; exact hy,hyo⟩
 ·obtain ⟨i,e,he,hev,hok⟩:=hex
  exact absurd ⟨e,by rw [Int.toNat_natCast]; exact he,hok⟩ (hno (i : Int) ((outL_mem v es 0 (i : Int)).2 ⟨i,e,by rw [Nat.zero_add],he,hev⟩))
noncomputable def spRoute : Spec AF where
 γ:=(Int × List Edge) × List Int × Int × Int
 δ:=List Int
 args:=fun g=>[layS g.1.1 g.1.2,.lst 3 g.2.1,vI g.2.2.1,vI g.2.2.2]
 pre:=fun g=>RightL g.1.1 g.1.2 ∧ (0 ≤ g.2.2.1 ∧ g.2.2.1 < g.1.1) ∧ (0 ≤ g.2.2.2 ∧ g.2.2.2 < g.1.1) ∧ GoodL g.1.2 ∧ g.2.1.length ≤ 9223372036854775807 ∧ 0 ≤ farV g.1.2 g.2.1 g.2.2.2 g.2.2.1
 res:=fun _ l=>.tup [.lst 3 l,vI 0]
 post:=fun g l=>RouteP g.1.2 g.2.1 g.2.2.2 g.2.2.1 l
theorem m_route : Meets Tryz.prog regF 107 spRoute:=by
 refine meets Tryz.func107 64 noWr ?_
 rintro ⟨⟨(n : Int),(es : List Edge)⟩,(bl : List Int),(a : Int),(t : Int)⟩ ⟨(hR : RightL n es),⟨(ha0 : 0 ≤ a),(han : a < n)⟩,⟨(ht0 : 0 ≤ t),(htn : t < n)⟩,(hg : GoodL es),(hbl : bl.length ≤ 9223372036854775807),(hfa : 0 ≤ farV es bl t a)⟩
 have hfl:=farF_len (n:=n) (es:=es) (bl:=bl) (t:=t)
 have haa:=farF_at (es:=es) (bl:=bl) (t:=t) ha0 han
 have hba:=farV_bd hR ht0 htn (bl:=bl) a
 have hes:=hR.len
 conv=>whnf
 repeat' ((first | (refine (?_ : TG _ _); first | refine tY ?_ | refine tN ?_ | refine dY ?_ | refine dN ?_ | (refine tell ?_ ?_ <;> intro hQ <;> try dsimp only at hQ)) | refine aS ?_ | refine ai ?_ | fail) <;> conv=>whnf)
 refine ⟨_,m_far,((n,es),bl,t),[],false,?_⟩
 conv=>whnf
 refine vcA ⟨hR,ht0,htn,hg,hbl⟩ ?_
 refine uU ?_
 conv=>whnf
 conv=>whnf
 repeat' ((first | (refine (?_ : TG _ _); first | refine tY ?_ | refine tN ?_ | refine dY ?_ | refine dN ?_ | (refine tell ?_ ?_ <;> intro hQ <;> try dsimp only at hQ)) | refine aS ?_ | refine aL haa ?_ (h0:=ha0) | refine ai ?_ | fail) <;> conv=>whnf)
 refine ⟨Int × List Int,fun p=>⟨[(3,vI t),(4,.ptr 1004 0 2 0),(5,.ptr 1005 0 1 0),(8,.sl 3003 1 0 p.2.length),(10,.ptr 1010 0 1 0),(11,.ptr 3001 0 1 0)],[(1004,layC n es),(1005,.cells [.lst 3 bl]),(1010,.cells [.lst 3 (farF n es bl t)]),(3001,.cells [vI p.1]),(3003,.arr 3 p.2)]⟩,fun p=>(0 ≤ p.1 ∧ p.1 < n) ∧ 0 ≤ farV es bl t p.1 ∧ (p.2.length : Int) + farV es bl t p.1 ≤ 40000 ∧ ∀ l,RouteP es bl t p.1 l → RouteP es bl t a (p.2 ++ l),fun p=>(farV es bl t p.1).toNat,fun _ _=>rfl,⟨(a,[]),[(3001,1011)],⟨⟨ha0,han⟩,hfa,by simpa using hba,fun l h=>h⟩,en⟩,?_⟩
 rintro ⟨(v : Int),(out : List Int)⟩ ⟨⟨(hv0 : 0 ≤ v),(hvn : v < n)⟩,(hfv : 0 ≤ farV es bl t v),(hol : (out.length : Int) + farV es bl t v ≤ 40000),(hcont : ∀ l,RouteP es bl t v l → RouteP es bl t a (out ++ l))⟩
 by_cases hvt : v = t
 ·subst hvt
  conv=>whnf
  repeat' ((first | (refine (?_ : TG _ _); first | refine tY ?_ | refine tN ?_ | refine dY ?_ | refine dN ?_ | (refine tell ?_ ?_ <;> intro hQ <;> try dsimp only at hQ)) | refine aS ?_ | refine ai ?_ | fail) <;> conv=>whnf)
  refine ⟨out,[],(by have:=hcont [] .nil; rwa [List.append_nil] at this),⟨⟨?_,rfl,?_⟩,rfl,trivial⟩,trivial,trivial⟩
  ·show 0 + out.length ≤ out.length; omega
  ·exact congrArg (SV.lst (A:=AF) 3) (show out = (out.drop 0).take out.length by simp)
 ·have hobt:=okE_ex hR hvt hfv
  obtain ⟨i0,e0,he0,h10,h20,_⟩:=hobt
  have hof : outF n es v = outL es v 0:=if_pos hR
  have hos : ∀ i ∈ outF n es v,0 ≤ i ∧ i < es.length:=fun i hi=>by
   rw [hof] at hi
   have hobt:=(outL_mem v es 0 i).1 hi
   obtain ⟨j,x,q1,q2,_⟩:=hobt
   have:=(List.getElem?_eq_some_iff.1 q2).1
   omega
  have hosl : (outF n es v).length ≤ 1000:=by rw [hof]; have:=outL_len v es 0; omega
  conv=>whnf
  repeat' ((first | (refine (?_ : TG _ _); first | refine tY ?_ | refine tN ?_ | refine dY ?_ | refine dN ?_ | (refine tell ?_ ?_ <;> intro hQ <;> try dsimp only at hQ)) | refine aS ?_ | refine ai ?_ | fail) <;> conv=>whnf)
  refine ⟨_,m_out,(n,es,v),[],false,?_⟩
  conv=>whnf
  refine vcA hg ?_
  refine uU ?_
  conv=>whnf
  conv=>whnf
  repeat' ((first | (refine (?_ : TG _ _); first | refine tY ?_ | refine tN ?_ | refine dY ?_ | refine dN ?_ | (refine tell ?_ ?_ <;> intro hQ <;> try dsimp only at hQ)) | refine aS ?_ | refine ai ?_ | fail) <;> conv=>whnf)
  refine ⟨_,m_idxR,(outF n es v,(n,es),bl,t,v),[1004,1010,3001,1005],false,?_⟩
  conv=>whnf
  refine vcA ⟨hR,⟨ht0,htn⟩,⟨hv0,hvn⟩,hfv,hbl,hos,hosl⟩ ?_
  refine And.intro (firstAt_ex _ _) ?_
  intro (r : Int) (hr : FirstAt (outF n es v) (PredR es bl t v) r)
  rw [hof] at hr
  have hobt:=firstAt_out hr ⟨i0,e0,he0,h10,h20⟩
  obtain ⟨j,m,e,rfl,hj,he,h1,h2,h3⟩:=hobt
  rw [← hof] at hj
  have hmem:=List.mem_of_getElem? he
  have hml:=(List.getElem?_eq_some_iff.1 he).1
  have hless:=okE_less hR hmem h2
  have hobt:=hR.each e hmem
  obtain ⟨o1,o2,o3,o4,_,o6,o7⟩:=hobt
  have hjl : j < (outF n es v).length:=(List.getElem?_eq_some_iff.1 hj).1
  conv=>whnf
  repeat' ((first | (refine (?_ : TG _ _); first | refine tY ?_ | refine tN ?_ | refine dY ?_ | refine dN ?_ | (refine tell ?_ ?_ <;> intro hQ <;> try dsimp only at hQ)) | refine aS ?_ | refine ai ?_ | fail) <;> conv=>whnf)
  refine ⟨_,m_out,(n,es,v),[],false,?_⟩
  conv=>whnf
  refine vcA hg ?_
  refine uU ?_
  conv=>whnf
  conv=>whnf
  repeat' ((first | (refine (?_ : TG _ _); first | refine tY ?_ | refine tN ?_ | refine dY ?_ | refine dN ?_ | (refine tell ?_ ?_ <;> intro hQ <;> try dsimp only at hQ)) | refine aS ?_ | refine aX hj ?_ | refine aL hj ?_ | refine aX he ?_ | refine aL he ?_ | refine ai ?_ | fail) <;> conv=>whnf)
  refine ⟨(e.2.1,out ++ [(m : Int)]),[(3001,1011),(3003,1055)],⟨⟨o3,o4⟩,hless.1,(by show ((out ++ [(m : Int)]).length : Int) + farV es bl t e.2.1 ≤ 40000; rw [List.length_append]; simp; omega),fun l hl=>(by show RouteP es bl t a ((out ++ [(m : Int)]) ++ l); rw [List.append_assoc]; exact hcont _ (.cons hvt he h1 h2 h3 hl))⟩,?_,rfl,?_,?_,rfl⟩
  ·dsimp only; first | omega | (simp; done) | (simp; omega)
  all_goals (repeat' (first | exact trivial | exact rfl | refine And.intro ?_ ?_ | (refine congrArg vI ?_; first | omega | (dsimp only; omega) | fail) | (refine congrArg some ?_) | omega | exact Nat.le_refl _ | exact congrArg (SV.lst _) (List.take_of_length_le (Nat.le_refl _)).symm))
  ·exact congrArg (SV.sl (A:=AF) 1055 1 0) (show out.length + 1 = (out ++ [(m : Int)]).length by simp)
  ·exact congrArg (Ct.arr (A:=AF) 3) (show (out.drop 0).take out.length ++ [(m : Int)] = out ++ [(m : Int)] by simp)
def spRouteE : Spec AF where
 γ:=(Int × List Edge) × List Int × Int × Int
 args:=fun g=>[layS g.1.1 g.1.2,.lst 3 g.2.1,vI g.2.2.1,vI g.2.2.2]
 pre:=fun g=>RightL g.1.1 g.1.2 ∧ (0 ≤ g.2.2.1 ∧ g.2.2.1 < g.1.1) ∧ (0 ≤ g.2.2.2 ∧ g.2.2.2 < g.1.1) ∧ GoodL g.1.2 ∧ g.2.1.length ≤ 9223372036854775807 ∧ farV g.1.2 g.2.1 g.2.2.2 g.2.2.1 = -1
 res:=fun _ _=>.tup [.val (.slice none 0 0),vI 120]
theorem m_routeE : Meets Tryz.prog regF 107 spRouteE:=by
 refine meets Tryz.func107 64 noWr ?_
 rintro ⟨⟨(n : Int),(es : List Edge)⟩,(bl : List Int),(a : Int),(t : Int)⟩ ⟨(hR : RightL n es),⟨(ha0 : 0 ≤ a),(han : a < n)⟩,⟨(ht0 : 0 ≤ t),(htn : t < n)⟩,(hg : GoodL es),(hbl : bl.length ≤ 9223372036854775807),(hfa : farV es bl t a = -1)⟩
 have hfl:=farF_len (n:=n) (es:=es) (bl:=bl) (t:=t)
 have haa:=farF_at (es:=es) (bl:=bl) (t:=t) ha0 han
 conv=>whnf
 repeat' ((first | (refine (?_ : TG _ _); first | refine tY ?_ | refine tN ?_ | refine dY ?_ | refine dN ?_ | (refine tell ?_ ?_ <;> intro hQ <;> try dsimp only at hQ)) | refine aS ?_ | refine ai ?_ | fail) <;> conv=>whnf)
 refine ⟨_,m_far,((n,es),bl,t),[],false,?_⟩
 conv=>whnf
 refine vcA ⟨hR,ht0,htn,hg,hbl⟩ ?_
 refine uU ?_
 conv=>whnf
 conv=>whnf
 repeat' ((first | (refine (?_ : TG _ _); first | refine tY ?_ | refine tN ?_ | refine dY ?_ | refine dN ?_ | (refine tell ?_ ?_ <;> intro hQ <;> try dsimp only at hQ)) | refine aS ?_ | refine aL haa ?_ (h0:=ha0) | refine ai ?_ | fail) <;> conv=>whnf)
 exact ⟨(),[],trivial,⟨rfl,rfl,trivial⟩,trivial,trivial⟩
def spRouteA : Spec AF where
 γ:=(Int × List Edge) × List Int × Int × Int
 args:=fun g=>[layS g.1.1 g.1.2,.lst 3 g.2.1,vI g.2.2.1,vI g.2.2.2]
 pre:=fun g=>¬ (RightL g.1.1 g.1.2 ∧ (0 ≤ g.2.2.1 ∧ g.2.2.1 < g.1.1) ∧ (0 ≤ g.2.2.2 ∧ g.2.2.2 < g.1.1)) ∧ GoodL g.1.2 ∧ g.2.1.length ≤ 9223372036854775807
 res:=fun _ _=>.tup [.val (.slice none 0 0),vI 1]
theorem m_routeA : Meets Tryz.prog regF 107 spRouteA:=by
 refine meets Tryz.func107 64 noWr ?_
 rintro ⟨⟨(n : Int),(es : List Edge)⟩,(bl : List Int),(a : Int),(t : Int)⟩ ⟨(hno : ¬ (RightL n es ∧ (0 ≤ a ∧ a < n) ∧ (0 ≤ t ∧ t < n))),(hg : GoodL es),(hbl : bl.length ≤ 9223372036854775807)⟩
 by_cases hF : RightL n es ∧ 0 ≤ t ∧ t < n
 ·obtain ⟨hR,ht0,htn⟩:=hF
  have hfl:=farF_len (n:=n) (es:=es) (bl:=bl) (t:=t)
  have hp:=hR.pos
  have hna : ¬ (0 ≤ a ∧ a < n):=fun h=>hno ⟨hR,h,ht0,htn⟩
  conv=>whnf
  repeat' ((first | (refine (?_ : TG _ _); first | refine tY ?_ | refine tN ?_ | refine dY ?_ | refine dN ?_ | (refine tell ?_ ?_ <;> intro hQ <;> try dsimp only at hQ)) | refine aS ?_ | refine ai ?_ | fail) <;> conv=>whnf)
  refine ⟨_,m_far,((n,es),bl,t),[],false,?_⟩
  conv=>whnf
  refine vcA ⟨hR,ht0,htn,hg,hbl⟩ ?_
  refine uU ?_
  conv=>whnf
  by_cases h0 : a < 0
  ·conv=>whnf
   repeat' ((first | (refine (?_ : TG _ _); first | refine tY ?_ | refine tN ?_ | refine dY ?_ | refine dN ?_ | (refine tell ?_ ?_ <;> intro hQ <;> try dsimp only at hQ)) | refine aS ?_ | refine ai ?_ | fail) <;> conv=>whnf)
   exact ⟨(),[],trivial,⟨rfl,rfl,trivial⟩,trivial,trivial⟩
  ·have h1 : n ≤ a:=by omega
   conv=>whnf
   repeat' ((first | (refine (?_ : TG _ _); first | refine tY ?_ | refine tN ?_ | refine dY ?_ | refine dN ?_ | (refine tell ?_ ?_ <;> intro hQ <;> try dsimp only at hQ)) | refine aS ?_ | refine ai ?_ | fail) <;> conv=>whnf)
   exact ⟨(),[],trivial,⟨rfl,rfl,trivial⟩,trivial,trivial⟩
 ·conv=>whnf
  repeat' ((first | (refine (?_ : TG _ _); first | refine tY ?_ | refine tN ?_ | refine dY ?_ | refine dN ?_ | (refine tell ?_ ?_ <;> intro hQ <;> try dsimp only at hQ)) | refine aS ?_ | refine ai ?_ | fail) <;> conv=>whnf)
  refine ⟨_,m_farN,((n,es),bl,t),[],false,?_⟩
  conv=>whnf
  refine vcA ⟨hF,hg⟩ ?_
  refine uU ?_
  conv=>whnf
  conv=>whnf
  repeat' ((first | (refine (?_ : TG _ _); first | refine tY ?_ | refine tN ?_ | refine dY ?_ | refine dN ?_ | (refine tell ?_ ?_ <;> intro hQ <;> try dsimp only at hQ)) | refine aS ?_ | refine ai ?_ | fail) <;> conv=>whnf)
  exact ⟨(),[],trivial,⟨rfl,rfl,trivial⟩,trivial,trivial⟩
end
end Go.Sx
namespace Go.Proofs
open Go.Shelf
def RouK.n4_ren : Go.Shelf.Ren:=⟨fun | 4=>149 | n=>n,fun | 22=>51 | 25=>3 | n=>n,fun | n=>n⟩
theorem RouK.n4 : Go.Proofs.Lays8.n4 Tryz.prog RouK.n4_ren:={
 mixed:=by kernel_rfl
 f4:=⟨Tryz.f149.name,by decide,Tryz.func149.trans (congrArg some (by kernel_rfl))⟩
 t0:=Tryz.underlying0
 a0:=Tryz.isAgg0
 z0:=Tryz.sizeOf0
 v0:=Tryz.zeroValue0
 t3:=Tryz.underlying3
 a3:=Tryz.isAgg3
 z3:=Tryz.sizeOf3
 v3:=Tryz.zeroValue3
 t4:=Tryz.underlying4
 a4:=Tryz.isAgg4
 z4:=Tryz.sizeOf4
 v4:=Tryz.zeroValue4
 t9:=Tryz.underlying9
 a9:=Tryz.isAgg9
 z9:=Tryz.sizeOf9
 v9:=Tryz.zeroValue9
 t20:=Tryz.underlying20
 a20:=Tryz.isAgg20
 z20:=Tryz.sizeOf20
 v20:=Tryz.zeroValue20
 t22:=Tryz.underlying51
 a22:=Tryz.isAgg51
 z22:=Tryz.sizeOf51
 v22:=Tryz.zeroValue51 }
end Go.Proofs
namespace Go.Sx
noncomputable section
open Go Go.Proofs Go.Proofs.YtcehbnfhlcfinaaGreatDoor
def spGrowI : Spec AF where
 γ:=Nat
 args:=fun k=>[.val (.slice none 0 0),vI (k : Int)]
 pre:=fun k=>k ≤ 1000000
 nnew:=1
 res:=fun _ _=>.sl 0 1 0 0
 own':=fun _ _=>[some (.arr 3 [])]
theorem m_growI : Meets Tryz.prog regF 149 spGrowI:=by
 refine ⟨⟨_,Tryz.func149,by kernel_rfl,by kernel_rfl⟩,?_⟩
 rintro (k : Nat) (hk : k ≤ 1000000) X ρ w ⟨vs⟩ hX1 hX2 hargs hown
 obtain ⟨hl,hd⟩:=hargs
 match vs,hl with
 | [a,b],_=>
  have ha:=val_inv (hd 0 (.val (.slice none 0 0)) a rfl rfl)
  have hb:=val_inv (hd 1 (vI (k : Int)) b rfl rfl)
  subst ha; subst hb
  by_cases h0 : k = 0
  ·subst h0
   refine (Any8.slices_Grow_room RouK.n4 none 0 0 0 w (by omega) (by omega) (by omega) (by omega)).mono fun e w' h=>?_
   obtain ⟨rfl,rfl⟩:=h
   refine ⟨(),fun _=>none,_,trivial,rfl,fun h hh=>absurd hh (Nat.not_lt_zero _),.slnil 0 1 rfl,⟨fun h ct hh=>?_,fun h h' ct ct' b base base' h1 h2 h3=>by cases h3⟩,fun b hb=>(by obtain ⟨_,_,_,_,h3⟩:=hb; cases h3),rfl,rfl,fun h ct hh=>?_,.refl⟩
   all_goals match h with
    | 0=>(simp [spGrowI] at hh; subst hh; rfl)
    | h + 1=>simp [spGrowI] at hh
  ·have hobt:=tiOf_inv ((env_ok 0 noWr).tt 3 ti3 (by kernel_rfl))
   obtain ⟨_,i0,_,hi0,_,hs0,hb0,hz0,_⟩:=hobt
   have hs0 : i0.size = 1:=hs0
   have hb0 : i0.bytes = 8:=hb0
   refine (Any8.slices_Grow_grow RouK.n4 i0 (.int .i64 0) hi0 hz0 (by omega) none 0 0 k [] w (by omega) (by omega) (by rw [hb0]; omega) (by omega) (by simp) (fun _=>rfl) (fun a h=>by cases h)).mono fun e w' h=>?_
   obtain ⟨rfl,rfl⟩:=h
   have hG:=grownCap_ge w (0 + k) 0 3
   have hobt : ∃ G,G = grownCap w (0 + k) 0 (RouK.n4_ren.t 25):=⟨_,rfl⟩
   obtain ⟨G,hGe⟩:=hobt
   have hobt : ∃ cs,cs = ([] : List Value).toArray ++ Builtin.zeroCells (Value.cells (.int .i64 0)) (0 + k - 0) ++ Builtin.zeroCells (Value.cells (.int .i64 0)) (grownCap w (0 + k) 0 (RouK.n4_ren.t 25) - (0 + k)):=⟨_,rfl⟩
   obtain ⟨cs,hcs⟩:=hobt
   have hsz : cs.size = G:=by
    rw [hcs,hGe]
    have : RouK.n4_ren.t 25 = 3:=rfl
    rw [this]
    rw [Nat.zero_add] at hG ⊢
    simp [Builtin.zeroCells,Value.cells]
    omega
   rw [← hcs,← hGe]
   have hheap : (w.drew.alloc (.cells cs (RouK.n4_ren.t 25))).heap[w.heap.size]? = some (.cells cs (RouK.n4_ren.t 25) (0,0)):=by
    show (w.heap.push _)[w.heap.size]? = _
    simp
   refine ⟨(),fun _=>some (w.heap.size,0),_,trivial,rfl,fun h hh=>absurd hh (Nat.not_lt_zero _),.sl 0 1 0 0 G w.heap.size 0 0 cs _ _ rfl hheap (Nat.zero_le _) (.inr rfl) (by rw [hsz]; omega),⟨fun h ct hh=>?_,fun h h' ct ct' b base base' h1 h2 h3 h4=>?_⟩,fun b hb=>?_,rfl,rfl,fun h ct hh=>?_,?_⟩
   ·match h with
    | 0=>
     simp [spGrowI] at hh; subst hh
     exact .inr ⟨rfl,cs,_,_,hheap,.inl (Nat.le_refl _),⟨by simp [Ct.flat],trivial⟩,fun j s v h=>by simp [Ct.flat] at h⟩
    | h + 1=>simp [spGrowI] at hh
   ·match h,h' with
    | 0,0=>rfl
    | 0,h' + 1=>simp [spGrowI] at h2
    | h + 1,_=>simp [spGrowI] at h1
   ·obtain ⟨_,_,_,_,h3⟩:=hb
    cases h3
    exact ⟨.inr (Nat.le_refl _),fun hx=>by have:=hX1 _ hx; omega⟩
   ·match h with
    | 0=>(simp [spGrowI] at hh; subst hh; rfl)
    | h + 1=>simp [spGrowI] at hh
   ·refine ⟨rfl,rfl,rfl,?_,fun b hb _=>?_,fun b c E fz h=>⟨c,fz,?_,rfl⟩⟩
    ·show _ ≤ (w.heap.push _).size
     simp
    ·show (w.heap.push _)[b]? = _
     rw [Array.getElem?_push_lt hb,Array.getElem?_eq_getElem hb]
    ·have hb:=lt_of_heap h
     show (w.heap.push _)[b]? = _
     rw [Array.getElem?_push_lt hb,← Array.getElem?_eq_getElem hb]; exact h
def spConcat : Spec AF where
 γ:=List Int × List Int
 args:=fun _=>[.sl 0 1 0 2]
 own:=fun g=>[.cells [.lst 3 g.1,.lst 3 g.2]]
 pre:=fun g=>g.1.length ≤ 100000 ∧ g.2.length ≤ 100000
 nnew:=1
 res:=fun g _=>.sl 1 1 0 (g.1 ++ g.2).length
 own':=fun g _=>[some (.cells [.lst 3 g.1,.lst 3 g.2]),some (.arr 3 (g.1 ++ g.2))]
def catSum (a b : List Int) : Nat → Int
 | 0=>0
 | 1=>a.length
 | _=>a.length + b.length
def catPre (a b : List Int) : Nat → List Int
 | 0=>[]
 | 1=>a
 | _=>a ++ b
theorem m_concat : Meets Tryz.prog regF 109 spConcat:=by
 refine meets Tryz.func109 36 noWr ?_
 rintro ⟨(a : List Int),(b : List Int)⟩ ⟨(ha : a.length ≤ 100000),(hb : b.length ≤ 100000)⟩
 conv=>whnf
 repeat' ((first | (refine (?_ : TG _ _); first | refine tY ?_ | refine tN ?_ | refine dY ?_ | refine dN ?_ | (refine tell ?_ ?_ <;> intro hQ <;> try dsimp only at hQ)) | refine aS ?_ | refine ai ?_ | fail) <;> conv=>whnf)
 refine ⟨Nat,fun i=>⟨[(0,.sl 0 1 0 2),(3,vI (catSum a b i)),(9,.sl 0 1 0 2),(10,vI 2),(11,vI i)],[(0,.cells [.lst 3 a,.lst 3 b])]⟩,fun i=>i ≤ 2,fun i=>2 - i,fun _ _=>rfl,⟨0,[],Nat.zero_le _,en⟩,?_⟩
 rintro (i : Nat) (hi : i ≤ 2)
 match i,hi with
 | 0,_=>
  have h0 : catSum a b 0 = 0:=rfl
  have h1 : catSum a b 1 = a.length:=rfl
  conv=>whnf
  repeat' ((first | (refine (?_ : TG _ _); first | refine tY ?_ | refine tN ?_ | refine dY ?_ | refine dN ?_ | (refine tell ?_ ?_ <;> intro hQ <;> try dsimp only at hQ)) | refine aS ?_ | refine ai ?_ | fail) <;> conv=>whnf)
  exact ⟨1,[],(show 1 ≤ 2 by decide),rn en⟩
 | 1,_=>
  have h0 : catSum a b 1 = a.length:=rfl
  have h1 : catSum a b 2 = a.length + b.length:=rfl
  conv=>whnf
  repeat' ((first | (refine (?_ : TG _ _); first | refine tY ?_ | refine tN ?_ | refine dY ?_ | refine dN ?_ | (refine tell ?_ ?_ <;> intro hQ <;> try dsimp only at hQ)) | refine aS ?_ | refine ai ?_ | fail) <;> conv=>whnf)
  exact ⟨2,[],(show 2 ≤ 2 by decide),rn en⟩
 | 2,_=>
  have h1 : catSum a b 2 = ((a.length + b.length : Nat) : Int):=by show (a.length : Int) + b.length = _; omega
  conv=>whnf
  repeat' ((first | (refine (?_ : TG _ _); first | refine tY ?_ | refine tN ?_ | refine dY ?_ | refine dN ?_ | (refine tell ?_ ?_ <;> intro hQ <;> try dsimp only at hQ)) | refine aS ?_ | refine ai ?_ | fail) <;> conv=>whnf)
  refine ⟨_,m_growI,a.length + b.length,[],false,?_⟩
  conv=>whnf
  refine vcA (show a.length + b.length ≤ 1000000 by omega) ?_
  refine uU ?_
  conv=>whnf
  conv=>whnf
  repeat' ((first | (refine (?_ : TG _ _); first | refine tY ?_ | refine tN ?_ | refine dY ?_ | refine dN ?_ | (refine tell ?_ ?_ <;> intro hQ <;> try dsimp only at hQ)) | refine aS ?_ | refine ai ?_ | fail) <;> conv=>whnf)
  refine ⟨Nat,fun i=>⟨[(25,.sl 0 1 0 2),(26,vI 2),(27,vI i),(6,.sl 3001 1 0 (catPre a b i).length)],[(0,.cells [.lst 3 a,.lst 3 b]),(3001,.arr 3 (catPre a b i))]⟩,fun i=>i ≤ 2,fun i=>2 - i,fun _ _=>rfl,⟨0,[(3001,1024)],Nat.zero_le _,en⟩,?_⟩
  rintro (j : Nat) (hj : j ≤ 2)
  match j,hj with
  | 0,_=>
   have g0 : (catPre a b 0).length = 0:=rfl
   have g1 : (catPre a b 1).length = a.length:=rfl
   conv=>whnf
   repeat' ((first | (refine (?_ : TG _ _); first | refine tY ?_ | refine tN ?_ | refine dY ?_ | refine dN ?_ | (refine tell ?_ ?_ <;> intro hQ <;> try dsimp only at hQ)) | refine aS ?_ | refine ai ?_ | fail) <;> conv=>whnf)
   refine ⟨1,[(3001,1033)],(show 1 ≤ 2 by decide),?_,rfl,?_,?_,rfl⟩
   ·dsimp only; first | omega | (simp; done) | (simp; omega)
   all_goals (repeat' (first | exact trivial | exact rfl | refine And.intro ?_ ?_ | (refine congrArg vI ?_; first | omega | (dsimp only; omega) | fail) | (refine congrArg some ?_) | omega | exact Nat.le_refl _ | exact congrArg (SV.lst _) (List.take_of_length_le (Nat.le_refl _)).symm))
   all_goals first | exact congrArg (SV.sl (A:=AF) 1033 1 0) (show (catPre a b 0).length + a.length = (catPre a b 1).length by omega) | exact congrArg (Ct.arr (A:=AF) 3) (show ((catPre a b 0).drop 0).take (catPre a b 0).length ++ a = catPre a b 1 by simp [catPre]) | fail
  | 1,_=>
   have g0 : (catPre a b 1).length = a.length:=rfl
   have g1 : (catPre a b 2).length = a.length + b.length:=List.length_append
   conv=>whnf
   repeat' ((first | (refine (?_ : TG _ _); first | refine tY ?_ | refine tN ?_ | refine dY ?_ | refine dN ?_ | (refine tell ?_ ?_ <;> intro hQ <;> try dsimp only at hQ)) | refine aS ?_ | refine ai ?_ | fail) <;> conv=>whnf)
   refine ⟨2,[(3001,1033)],(show 2 ≤ 2 by decide),?_,rfl,?_,?_,rfl⟩
   ·dsimp only; first | omega | (simp; done) | (simp; omega)
   all_goals (repeat' (first | exact trivial | exact rfl | refine And.intro ?_ ?_ | (refine congrArg vI ?_; first | omega | (dsimp only; omega) | fail) | (refine congrArg some ?_) | omega | exact Nat.le_refl _ | exact congrArg (SV.lst _) (List.take_of_length_le (Nat.le_refl _)).symm))
   all_goals first | exact congrArg (SV.sl (A:=AF) 1033 1 0) (show (catPre a b 1).length + b.length = (catPre a b 2).length by omega) | exact congrArg (Ct.arr (A:=AF) 3) (show ((catPre a b 1).drop 0).take (catPre a b 1).length ++ b = catPre a b 2 by simp [catPre]) | fail
  | 2,_=>
   conv=>whnf
   repeat' ((first | (refine (?_ : TG _ _); first | refine tY ?_ | refine tN ?_ | refine dY ?_ | refine dN ?_ | (refine tell ?_ ?_ <;> intro hQ <;> try dsimp only at hQ)) | refine aS ?_ | refine ai ?_ | fail) <;> conv=>whnf)
   exact ⟨(),[3001],trivial,rfl,⟨⟨rfl,rfl,trivial⟩,rfl,trivial⟩,trivial⟩
theorem den_nil {R : Reg AF} {ρ : Rho} {O : Nat → Prop} {w : World} {v : Value} (T : Nat) (h : Den R ρ O w (.val (.slice none 0 0)) v) : Den R ρ O w (.lst T []) v:=by
 cases h; exact .lnil T 0 rfl
theorem meets_told {f : Nat} {S' : Spec AF} (he : Enters Tryz.prog f) (hp : ∀ g',S'.pre g' → ∃ (S : Spec AF) (_ : Meets Tryz.prog regF f S) (g : S.γ),S.pre g ∧ S.args g = S'.args g' ∧ S.own g = S'.own g' ∧ S.nnew = S'.nnew ∧
  ∀ d,S.post g d → ∃ d',S'.post g' d' ∧ S'.own' g' d' = S.own' g d ∧ (∀ ρ O w v,Den regF ρ O w (S.res g d) v → Den regF ρ O w (S'.res g' d') v) ∧ (∀ n : Nat → Bool,men n (S.res g d) = true → men n (S'.res g' d') = true)) : Meets Tryz.prog regF f S':=by
 refine ⟨he,fun g' hg' X ρ w vs h1 h2 h3 h4=>?_⟩
 have hobt:=hp g' hg'
 obtain ⟨S,hm,g,hg,ea,eo,en,hd⟩:=hobt
 rw [← ea] at h3
 rw [← eo] at h2 h3 h4
 refine (hm.2 g hg X ρ w vs h1 h2 h3 h4).mono fun e w' hh=>?_
 obtain ⟨d,ρ',v,q1,q2,q3,q4,q5,q6,q7,q8,q9,q10⟩:=hh
 have hobt:=hd d q1
 obtain ⟨d',p1,p2,p3,p4⟩:=hobt
 refine ⟨d',ρ',v,p1,q2,?_,?_,?_,?_,?_,?_,?_,?_⟩
 ·rw [← eo]; exact q3
 ·rw [p2]; exact p3 _ _ _ _ q4
 ·rw [p2]; exact q5
 ·rw [p2,← eo]; exact q6
 ·rw [p2,← eo,← en]; exact q7
 ·rw [← eo,← en]; exact p4 _ q8
 ·rw [p2,← eo,← en]; exact q9
 ·rw [← eo]; exact q10
def InR (n : Int) (es : List Edge) (a t : Int) : Prop:=RightL n es ∧ (0 ≤ a ∧ a < n) ∧ (0 ≤ t ∧ t < n)
def RouteR (n : Int) (es : List Edge) (bl : List Int) (a t : Int) (p : List Int × Int) : Prop:=
 (¬ InR n es a t ∧ p = ([],1)) ∨ (InR n es a t ∧ farV es bl t a = -1 ∧ p = ([],120)) ∨ (InR n es a t ∧ 0 ≤ farV es bl t a ∧ RouteP es bl t a p.1 ∧ p.2 = 0)
section
variable {n : Int} {es : List Edge} {bl : List Int} {a t : Int} {p q : List Int × Int}
end
def spRouteU : Spec AF where
 γ:=(Int × List Edge) × List Int × Int × Int
 δ:=List Int × Int
 args:=fun g=>[layS g.1.1 g.1.2,.lst 3 g.2.1,vI g.2.2.1,vI g.2.2.2]
 pre:=fun g=>GoodL g.1.2 ∧ g.2.1.length ≤ 9223372036854775807
 res:=fun _ p=>.tup [.lst 3 p.1,vI p.2]
 post:=fun g p=>RouteR g.1.1 g.1.2 g.2.1 g.2.2.1 g.2.2.2 p
theorem den_pair {ρ : Rho} {O : Nat → Prop} {w : World} {a b : SV AF} {k : Int} {v : Value} (h : Den regF ρ O w (.tup [a,vI k]) v) (hab : ∀ x,Den regF ρ O w a x → Den regF ρ O w b x) : Den regF ρ O w (.tup [b,vI k]) v:=by
 cases h with
 | tup _ vs hl hd=>
  refine .tup _ vs hl fun j s v hs hv=>?_
  match j with
  | 0=>simp at hs; subst hs; exact hab _ (hd 0 _ _ rfl hv)
  | 1=>simp at hs; subst hs; exact hd 1 _ _ rfl hv
  | j + 2=>simp at hs
theorem m_routeU : Meets Tryz.prog regF 107 spRouteU:=by
 refine meets_told m_route.1 fun g hg=>?_
 obtain ⟨⟨(n : Int),(es : List Edge)⟩,(bl : List Int),(a : Int),(t : Int)⟩:=g
 obtain ⟨(hg : GoodL es),(hbl : bl.length ≤ 9223372036854775807)⟩:=hg
 by_cases h : InR n es a t
 ·rcases farV_ge (bl:=bl) (t:=t) h.1 a with hf | hf
  ·exact ⟨spRouteE,m_routeE,((n,es),bl,a,t),⟨h.1,h.2.1,h.2.2,hg,hbl,hf⟩,rfl,rfl,rfl,fun d hd=>⟨(([],120) : List Int × Int),.inr (.inl ⟨h,hf,rfl⟩),rfl,fun ρ O w v hv=>den_pair hv fun _=>den_nil 3,fun _ _=>rfl⟩⟩
  ·exact ⟨spRoute,m_route,((n,es),bl,a,t),⟨h.1,h.2.1,h.2.2,hg,hbl,hf⟩,rfl,rfl,rfl,fun (d : List Int) hd=>⟨((d,0) : List Int × Int),.inr (.inr ⟨h,hf,hd,rfl⟩),rfl,fun ρ O w v hv=>hv,fun _ _=>rfl⟩⟩
 ·exact ⟨spRouteA,m_routeA,((n,es),bl,a,t),⟨h,hg,hbl⟩,rfl,rfl,rfl,fun d hd=>⟨(([],1) : List Int × Int),.inl ⟨h,rfl⟩,rfl,fun ρ O w v hv=>den_pair hv fun _=>den_nil 3,fun _ _=>rfl⟩⟩
end
end Go.Sx
