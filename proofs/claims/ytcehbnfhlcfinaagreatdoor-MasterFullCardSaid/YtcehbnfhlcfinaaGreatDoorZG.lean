/- Own texts of the proof, merged: MWal MPs MSe MJo MFle MFl2 MTab MMst MMs2 MOn MOd MOb MAw0 MTo MMs3 MMs7 MMs8 MMs9 MMs4 MMs5 MMsB MOl MAw1 MMsA MSd MMsC. -/
import Derived.Shelf.SlGeneric
import Derived.Shelf.SlIterI.Nil
import Derived.Shelf.SortM.Plain
import Derived.Shelf.SortM.SortNone
import Derived.Ground.GgzProg
import Derived.Ground.SlgmProg
import Derived.Test.YtcehbnfhlcfinaaGreatDoorZE
import Derived.Test.YtcehbnfhlcfinaaGreatDoorZF
set_option linter.unusedVariables false
set_option linter.unusedSimpArgs false
set_option maxHeartbeats 8000000
namespace Go.Sx
noncomputable section
open Go Go.Proofs Go.Proofs.YtcehbnfhlcfinaaGreatDoor
end
end Go.Sx
namespace Go.Proofs
open Go.Shelf
end Go.Proofs
namespace Go.Sx
noncomputable section
open Go Go.Proofs Go.Proofs.YtcehbnfhlcfinaaGreatDoor Go.Shelf
def OkN (n : Int) : Prop:=0 ≤ n ∧ n ≤ 1000000000
instance (n : Int) : Decidable (OkN n):=inferInstanceAs (Decidable (_ ∧ _))
def spNum1 : Spec AF where
 γ:=Int
 δ:=Bool
 args:=fun n=>[vI n]
 res:=fun _ c=>vB c
 post:=fun n c=>c = !decide (OkN n)
theorem m_num1 : Meets Tryz.prog regF 111 spNum1:=by
 refine meets Tryz.func111 9 noWr ?_
 rintro (n : Int) _
 by_cases h0 : n < 0
 ·conv=>whnf
  repeat' ((first | (refine (?_ : TG _ _); first | refine tY ?_ | refine tN ?_ | refine dY ?_ | refine dN ?_ | (refine tell ?_ ?_ <;> intro hQ <;> try dsimp only at hQ)) | refine aS ?_ | refine ai ?_ | fail) <;> conv=>whnf)
  exact ⟨true,[],(show true = !decide (OkN n) by rw [decide_eq_false (fun h=>by have:=h.1; omega)]; rfl),rfl,trivial,trivial⟩
 ·by_cases h1 : n ≤ 1000000000
  ·conv=>whnf
   repeat' ((first | (refine (?_ : TG _ _); first | refine tY ?_ | refine tN ?_ | refine dY ?_ | refine dN ?_ | (refine tell ?_ ?_ <;> intro hQ <;> try dsimp only at hQ)) | refine aS ?_ | refine ai ?_ | fail) <;> conv=>whnf)
   exact ⟨false,[],(show false = !decide (OkN n) by rw [decide_eq_true ⟨by omega,h1⟩]; rfl),rfl,trivial,trivial⟩
  ·conv=>whnf
   repeat' ((first | (refine (?_ : TG _ _); first | refine tY ?_ | refine tN ?_ | refine dY ?_ | refine dN ?_ | (refine tell ?_ ?_ <;> intro hQ <;> try dsimp only at hQ)) | refine aS ?_ | refine ai ?_ | fail) <;> conv=>whnf)
   exact ⟨true,[],(show true = !decide (OkN n) by rw [decide_eq_false (fun h=>by have:=h.2; omega)]; rfl),rfl,trivial,trivial⟩
def spIdxNum : Spec AF where
 γ:=List Int
 δ:=Int
 args:=fun l=>[.lst 3 l,.val (.func (.func 111) #[] #[])]
 pre:=fun l=>l.length ≤ 9223372036854775806
 res:=fun _ r=>vI r
 post:=fun l r=>(0 ≤ r ↔ ¬ ∀ n ∈ l,OkN n)
theorem m_idxNum : Meets Tryz.prog regF 143 spIdxNum:=by
 refine meets Tryz.func143 19 noWr ?_
 rintro (l : List Int) (hl : l.length ≤ 9223372036854775806)
 conv=>whnf
 repeat' ((first | (refine (?_ : TG _ _); first | refine tY ?_ | refine tN ?_ | refine dY ?_ | refine dN ?_ | (refine tell ?_ ?_ <;> intro hQ <;> try dsimp only at hQ)) | refine aS ?_ | refine ai ?_ | fail) <;> conv=>whnf)
 refine ⟨Nat,fun j=>⟨[(0,.lst 3 l),(1,.val (.func (.func 111) #[] #[])),(7,vI l.length),(8,vI j)],[]⟩,fun j=>j ≤ l.length ∧ ∀ n ∈ l.take j,OkN n,fun j=>l.length - j,fun _ _=>rfl,⟨0,[],⟨Nat.zero_le _,fun n h=>by simp at h⟩,en⟩,?_⟩
 rintro (j : Nat) ⟨(hj : j ≤ l.length),(hs : ∀ n ∈ l.take j,OkN n)⟩
 by_cases hlt : j < l.length
 ·have hobt : ∃ x,l[j]? = some x:=⟨_,List.getElem?_eq_getElem hlt⟩
  obtain ⟨x,hx⟩:=hobt
  conv=>whnf
  repeat' ((first | (refine (?_ : TG _ _); first | refine tY ?_ | refine tN ?_ | refine dY ?_ | refine dN ?_ | (refine tell ?_ ?_ <;> intro hQ <;> try dsimp only at hQ)) | refine aS ?_ | refine aX hx ?_ | refine aL hx ?_ | refine ai ?_ | fail) <;> conv=>whnf)
  refine ⟨_,m_num1,x,[],false,?_⟩
  conv=>whnf
  refine vcA trivial ?_
  refine And.intro ⟨_,rfl⟩ ?_
  intro (c : Bool) (hc : c = !decide (OkN x))
  by_cases hk : OkN x
  ·rw [decide_eq_true hk] at hc
   subst hc
   have hn : ∀ n ∈ l.take (j + 1),OkN n:=fun n hn=>by
    rw [take_snocI hx] at hn
    rcases List.mem_append.1 hn with hn | hn
    ·exact hs n hn
    ·rw [List.mem_singleton.1 hn]; exact hk
   conv=>whnf
   repeat' ((first | (refine (?_ : TG _ _); first | refine tY ?_ | refine tN ?_ | refine dY ?_ | refine dN ?_ | (refine tell ?_ ?_ <;> intro hQ <;> try dsimp only at hQ)) | refine aS ?_ | refine ai ?_ | fail) <;> conv=>whnf)
   exact ⟨j + 1,[],⟨hlt,hn⟩,rn en⟩
  ·rw [decide_eq_false hk] at hc
   subst hc
   conv=>whnf
   repeat' ((first | (refine (?_ : TG _ _); first | refine tY ?_ | refine tN ?_ | refine dY ?_ | refine dN ?_ | (refine tell ?_ ?_ <;> intro hQ <;> try dsimp only at hQ)) | refine aS ?_ | refine ai ?_ | fail) <;> conv=>whnf)
   exact ⟨(j : Int),[],⟨fun _ h=>hk (h x (List.mem_of_getElem? hx)),fun _=>Int.natCast_nonneg j⟩,rfl,trivial,trivial⟩
 ·rw [List.take_of_length_le (by omega)] at hs
  conv=>whnf
  repeat' ((first | (refine (?_ : TG _ _); first | refine tY ?_ | refine tN ?_ | refine dY ?_ | refine dN ?_ | (refine tell ?_ ?_ <;> intro hQ <;> try dsimp only at hQ)) | refine aS ?_ | refine ai ?_ | fail) <;> conv=>whnf)
  exact ⟨(-1 : Int),[],⟨fun h=>absurd h (by decide),fun h=>absurd hs h⟩,rfl,trivial,trivial⟩
def spNum : Spec AF where
 γ:=List Int
 δ:=Bool
 args:=fun l=>[.lst 3 l]
 pre:=fun l=>l.length ≤ 9223372036854775806
 res:=fun _ c=>vB c
 post:=fun l c=>(c = true ↔ ∀ n ∈ l,OkN n)
theorem num_ex (l : List Int) : ∃ c : Bool,c = true ↔ ∀ n ∈ l,OkN n:=by
 by_cases h : ∀ n ∈ l,OkN n
 ·exact ⟨true,by simp; exact h⟩
 ·exact ⟨false,by simp; simpa using h⟩
theorem idxNum_ex (l : List Int) : ∃ r : Int,0 ≤ r ↔ ¬ ∀ n ∈ l,OkN n:=by
 by_cases h : ∀ n ∈ l,OkN n
 ·exact ⟨-1,fun h=>absurd h (by decide),fun hn=>absurd h hn⟩
 ·exact ⟨0,fun _=>h,fun _=>by decide⟩
def spCNum : Spec AF where
 γ:=List Int
 δ:=Bool
 args:=fun l=>[.lst 3 l,.val (.func (.func 111) #[] #[])]
 pre:=fun l=>l.length ≤ 9223372036854775806
 res:=fun _ c=>vB c
 post:=fun l c=>(c = true ↔ ¬ ∀ n ∈ l,OkN n)
theorem m_containsNum : Meets Tryz.prog regF 110 spCNum:=by
 refine meets Tryz.func110 9 noWr ?_
 rintro (l : List Int) (hl : l.length ≤ 9223372036854775806)
 conv=>whnf
 repeat' ((first | (refine (?_ : TG _ _); first | refine tY ?_ | refine tN ?_ | refine dY ?_ | refine dN ?_ | (refine tell ?_ ?_ <;> intro hQ <;> try dsimp only at hQ)) | refine aS ?_ | refine ai ?_ | fail) <;> conv=>whnf)
 refine ⟨_,m_idxNum,l,[],false,?_⟩
 conv=>whnf
 refine vcA hl ?_
 refine And.intro (idxNum_ex l) ?_
 intro (r : Int) (hr : 0 ≤ r ↔ ¬ ∀ n ∈ l,OkN n)
 conv=>whnf
 repeat' ((first | (refine (?_ : TG _ _); first | refine tY ?_ | refine tN ?_ | refine dY ?_ | refine dN ?_ | (refine tell ?_ ?_ <;> intro hQ <;> try dsimp only at hQ)) | refine aS ?_ | refine ai ?_ | fail) <;> conv=>whnf)
 ·exact ⟨true,[],⟨fun _=>hr.1 (by assumption),fun _=>rfl⟩,rfl,trivial,trivial⟩
 ·exact ⟨false,[],⟨fun h=>(by cases h),fun h=>absurd (hr.2 h) (by assumption)⟩,rfl,trivial,trivial⟩
theorem cnum_ex (l : List Int) : ∃ c : Bool,c = true ↔ ¬ ∀ n ∈ l,OkN n:=by
 have hobt:=num_ex l
 obtain ⟨c,hc⟩:=hobt
 exact ⟨!c,by rw [← hc]; cases c <;> simp⟩
theorem m_num : Meets Tryz.prog regF 83 spNum:=by
 refine meets Tryz.func83 6 noWr ?_
 rintro (l : List Int) (hl : l.length ≤ 9223372036854775806)
 conv=>whnf
 repeat' ((first | (refine (?_ : TG _ _); first | refine tY ?_ | refine tN ?_ | refine dY ?_ | refine dN ?_ | (refine tell ?_ ?_ <;> intro hQ <;> try dsimp only at hQ)) | refine aS ?_ | refine ai ?_ | fail) <;> conv=>whnf)
 refine ⟨_,m_containsNum,l,[],false,?_⟩
 conv=>whnf
 refine vcA hl ?_
 refine And.intro (cnum_ex l) ?_
 intro (c : Bool) (hc : c = true ↔ ¬ ∀ n ∈ l,OkN n)
 cases c
 ·conv=>whnf
  repeat' ((first | (refine (?_ : TG _ _); first | refine tY ?_ | refine tN ?_ | refine dY ?_ | refine dN ?_ | (refine tell ?_ ?_ <;> intro hQ <;> try dsimp only at hQ)) | refine aS ?_ | refine ai ?_ | fail) <;> conv=>whnf)
  exact ⟨true,[],⟨fun _=>Classical.byContradiction fun h=>(by have:=hc.2 h; cases this),fun _=>rfl⟩,rfl,trivial,trivial⟩
 ·conv=>whnf
  repeat' ((first | (refine (?_ : TG _ _); first | refine tY ?_ | refine tN ?_ | refine dY ?_ | refine dN ?_ | (refine tell ?_ ?_ <;> intro hQ <;> try dsimp only at hQ)) | refine aS ?_ | refine ai ?_ | fail) <;> conv=>whnf)
  exact ⟨false,[],⟨fun h=>(by cases h),fun h=>absurd h (hc.1 rfl)⟩,rfl,trivial,trivial⟩
abbrev Stp:=Int × Int × Bool
abbrev OrdT:=Int × List UInt8 × Int × Int × List Stp × List Stp
abbrev ordCs (o : OrdT) : List (SV AF):=[vI o.1,vS o.2.1,vI o.2.2.1,vI o.2.2.2.1,.lst 122 o.2.2.2.2.1,.lst 125 o.2.2.2.2.2]
abbrev ordS (o : OrdT) : SV AF:=.agg (ordCs o)
def StepOk (f e t : Stp) : Prop:=(OkN e.1 ∧ OkN e.2.1 ∧ OkN t.1 ∧ OkN t.2.1) ∧ e.2.1 = f.2.1 + 1 ∧ t.2.1 = e.2.1 + 1 ∧ e.2.2 = t.2.2 ∧ (t.2.2 = true → f.2.2 = true)
def HeadOk (o : OrdT) : Prop:=nameF o.2.1 = true ∧ (OkN o.1 ∧ OkN o.2.2.1 ∧ OkN o.2.2.2.1) ∧ 1 ≤ o.2.2.2.2.1.length ∧ o.2.2.2.2.1.length ≤ 64 ∧ o.2.2.2.2.2.length + 1 = o.2.2.2.2.1.length
def FirstOk (f : Stp) : Prop:=f.2.1.tmod 2 = 0 ∧ f.2.2 = true ∧ OkN f.1 ∧ OkN f.2.1
def RightO (o : OrdT) : Prop:=HeadOk o ∧ (∃ f,o.2.2.2.2.1[0]? = some f ∧ FirstOk f) ∧ ∀ (i : Nat) f e t,o.2.2.2.2.2[i]? = some e → o.2.2.2.2.1[i]? = some f → o.2.2.2.2.1[i + 1]? = some t → StepOk f e t
def spRightO : Spec AF where
 γ:=OrdT
 δ:=Bool
 args:=fun o=>[ordS o]
 pre:=fun o=>o.2.2.2.2.1.length ≤ 9223372036854775807 ∧ o.2.2.2.2.2.length ≤ 9223372036854775807
 res:=fun _ c=>vB c
 post:=fun o c=>(c = true ↔ RightO o)
theorem rightO_ex (o : OrdT) : ∃ c : Bool,c = true ↔ RightO o:=by
 by_cases h : RightO o
 ·exact ⟨true,by simp [h]⟩
 ·exact ⟨false,by simp [h]⟩
theorem m_rightO : Meets Tryz.prog regF 48 spRightO:=by
 refine meets Tryz.func48 128 noWr ?_
 rintro ⟨(h : Int),(v : List UInt8),(od : Int),(up : Int),(ns : List Stp),(es : List Stp)⟩ ⟨(hnl : ns.length ≤ 9223372036854775807),(hel : es.length ≤ 9223372036854775807)⟩
 conv=>whnf
 repeat' ((first | (refine (?_ : TG _ _); first | refine tY ?_ | refine tN ?_ | refine dY ?_ | refine dN ?_ | (refine tell ?_ ?_ <;> intro hQ <;> try dsimp only at hQ)) | refine aS ?_ | refine ai ?_ | fail) <;> conv=>whnf)
 refine ⟨_,m_name,v,[],false,?_⟩
 conv=>whnf
 refine vcA trivial ?_
 refine uU ?_
 conv=>whnf
 cases hv : nameF v
 ·have hno : ¬ RightO (h,v,od,up,ns,es):=fun hr=>by have : nameF v = true:=hr.1.1; rw [hv] at this; cases this
  conv=>whnf
  repeat' ((first | (refine (?_ : TG _ _); first | refine tY ?_ | refine tN ?_ | refine dY ?_ | refine dN ?_ | (refine tell ?_ ?_ <;> intro hQ <;> try dsimp only at hQ)) | refine aS ?_ | refine ai ?_ | fail) <;> conv=>whnf)
  exact ⟨false,[],⟨fun h=>(by cases h),fun h=>absurd h hno⟩,rfl,trivial,trivial⟩
 ·conv=>whnf
  repeat' ((first | (refine (?_ : TG _ _); first | refine tY ?_ | refine tN ?_ | refine dY ?_ | refine dN ?_ | (refine tell ?_ ?_ <;> intro hQ <;> try dsimp only at hQ)) | refine aS ?_ | refine ai ?_ | fail) <;> conv=>whnf)
  refine ⟨_,m_num,[h,od,up],[],false,?_⟩
  conv=>whnf
  refine vcA (show (3 : Nat) ≤ 9223372036854775806 by decide) ?_
  refine And.intro (num_ex _) ?_
  intro (c : Bool) (hc : c = true ↔ ∀ n ∈ [h,od,up],OkN n)
  cases c
  ·have hno : ¬ RightO (h,v,od,up,ns,es):=fun hr=>by
    have hh : OkN h ∧ OkN od ∧ OkN up:=hr.1.2.1
    have:=hc.2 (by simp; exact hh)
    cases this
   conv=>whnf
   repeat' ((first | (refine (?_ : TG _ _); first | refine tY ?_ | refine tN ?_ | refine dY ?_ | refine dN ?_ | (refine tell ?_ ?_ <;> intro hQ <;> try dsimp only at hQ)) | refine aS ?_ | refine ai ?_ | fail) <;> conv=>whnf)
   exact ⟨false,[],⟨fun h=>(by cases h),fun h=>absurd h hno⟩,rfl,trivial,trivial⟩
  ·have hn3:=hc.1 rfl
   have hn3 : OkN h ∧ OkN od ∧ OkN up:=by simpa using hn3
   by_cases hL : 1 ≤ ns.length ∧ ns.length ≤ 64 ∧ es.length + 1 = ns.length
   ·obtain ⟨hL1,hL2,hL3⟩:=hL
    have hobt : ∃ y,ns[0]? = some y:=⟨_,List.getElem?_eq_getElem (by omega)⟩
    obtain ⟨⟨(n0 : Int),(s0 : Int),(r0 : Bool)⟩,hf0⟩:=hobt
    have hfirst : RightO (h,v,od,up,ns,es) → FirstOk (n0,s0,r0):=fun hr=>by
     have hobt:=hr.2.1
     obtain ⟨f,h1,h2⟩:=hobt
     have h1 : ns[0]? = some f:=h1
     rw [hf0] at h1; cases h1; exact h2
    by_cases h2 : s0.tmod 2 = 0
    ·cases r0
     ·have hno : ¬ RightO (h,v,od,up,ns,es):=fun hr=>by have:=(hfirst hr).2.1; cases this
      conv=>whnf
      repeat' ((first | (refine (?_ : TG _ _); first | refine tY ?_ | refine tN ?_ | refine dY ?_ | refine dN ?_ | (refine tell ?_ ?_ <;> intro hQ <;> try dsimp only at hQ)) | refine aS ?_ | refine aX hf0 ?_ | refine aL hf0 ?_ | refine ai ?_ | fail) <;> conv=>whnf)
      exact ⟨false,[],⟨fun h=>(by cases h),fun h=>absurd h hno⟩,rfl,trivial,trivial⟩
     ·conv=>whnf
      repeat' ((first | (refine (?_ : TG _ _); first | refine tY ?_ | refine tN ?_ | refine dY ?_ | refine dN ?_ | (refine tell ?_ ?_ <;> intro hQ <;> try dsimp only at hQ)) | refine aS ?_ | refine aX hf0 ?_ | refine aL hf0 ?_ | refine ai ?_ | fail) <;> conv=>whnf)
      refine ⟨_,m_num,[n0,s0],[],false,?_⟩
      conv=>whnf
      refine vcA (show (2 : Nat) ≤ 9223372036854775806 by decide) ?_
      refine And.intro (num_ex _) ?_
      intro (c : Bool) (hc : c = true ↔ ∀ n ∈ [n0,s0],OkN n)
      cases c
      ·have hno : ¬ RightO (h,v,od,up,ns,es):=fun hr=>by
        have hh:=(hfirst hr).2.2
        have:=hc.2 (by simp; exact hh)
        cases this
       conv=>whnf
       repeat' ((first | (refine (?_ : TG _ _); first | refine tY ?_ | refine tN ?_ | refine dY ?_ | refine dN ?_ | (refine tell ?_ ?_ <;> intro hQ <;> try dsimp only at hQ)) | refine aS ?_ | refine ai ?_ | fail) <;> conv=>whnf)
       exact ⟨false,[],⟨fun h=>(by cases h),fun h=>absurd h hno⟩,rfl,trivial,trivial⟩
      ·have hn2:=hc.1 rfl
       have hn2 : OkN n0 ∧ OkN s0:=by simpa using hn2
       conv=>whnf
       repeat' ((first | (refine (?_ : TG _ _); first | refine tY ?_ | refine tN ?_ | refine dY ?_ | refine dN ?_ | (refine tell ?_ ?_ <;> intro hQ <;> try dsimp only at hQ)) | refine aS ?_ | refine ai ?_ | fail) <;> conv=>whnf)
       refine ⟨Nat,fun i=>⟨[(1,.ptr 1001 0 6 0),(66,.lst 125 es),(67,vI es.length),(68,vI i)],[(1001,.cells [vI h,vS v,vI od,vI up,.lst 122 ns,.lst 125 es])]⟩,fun i=>i ≤ es.length ∧ (∀ f,ns[i]? = some f → OkN f.2.1) ∧ ∀ (j : Nat) f e t,j < i → es[j]? = some e → ns[j]? = some f → ns[j + 1]? = some t → StepOk f e t,fun i=>es.length - i,fun _ _=>rfl,⟨0,[],⟨Nat.zero_le _,fun f hf=>by rw [hf0] at hf; cases hf; exact hn2.2,fun j f e t hj=>absurd hj (Nat.not_lt_zero _)⟩,en⟩,?_⟩
       rintro (i : Nat) ⟨(hi : i ≤ es.length),(hseq : ∀ f,ns[i]? = some f → OkN f.2.1),(hst : ∀ (j : Nat) f e t,j < i → es[j]? = some e → ns[j]? = some f → ns[j + 1]? = some t → StepOk f e t)⟩
       by_cases hlt : i < es.length
       ·have hobt : ∃ y,es[i]? = some y:=⟨_,List.getElem?_eq_getElem hlt⟩
        obtain ⟨⟨(e0 : Int),(e1 : Int),(e2 : Bool)⟩,he⟩:=hobt
        have hobt : ∃ y,ns[i]? = some y:=⟨_,List.getElem?_eq_getElem (by omega)⟩
        obtain ⟨⟨(f0 : Int),(f1 : Int),(f2 : Bool)⟩,hf⟩:=hobt
        have hobt : ∃ y,ns[i + 1]? = some y:=⟨_,List.getElem?_eq_getElem (by omega)⟩
        obtain ⟨⟨(t0 : Int),(t1 : Int),(t2 : Bool)⟩,ht⟩:=hobt
        have hf1 : OkN f1:=hseq _ hf
        have hf1a:=hf1.1
        have hf1b:=hf1.2
        have ht' : ns[((i : Int) + 1).toNat]? = some (t0,t1,t2):=by rw [show ((i : Int) + 1).toNat = i + 1 by omega]; exact ht
        have hstep : RightO (h,v,od,up,ns,es) → StepOk (f0,f1,f2) (e0,e1,e2) (t0,t1,t2):=fun hr=>hr.2.2 i _ _ _ he hf ht
        conv=>whnf
        repeat' ((first | (refine (?_ : TG _ _); first | refine tY ?_ | refine tN ?_ | refine dY ?_ | refine dN ?_ | (refine tell ?_ ?_ <;> intro hQ <;> try dsimp only at hQ)) | refine aS ?_ | refine aX he ?_ | refine aL he ?_ | refine aX hf ?_ | refine aL hf ?_ | refine aX ht' ?_ | refine aL ht' ?_ | refine ai ?_ | fail) <;> conv=>whnf)
        refine ⟨_,m_num,[e0,e1,t0,t1],[],false,?_⟩
        conv=>whnf
        refine vcA (show (4 : Nat) ≤ 9223372036854775806 by decide) ?_
        refine And.intro (num_ex _) ?_
        intro (c : Bool) (hc : c = true ↔ ∀ n ∈ [e0,e1,t0,t1],OkN n)
        cases c
        ·have hno : ¬ RightO (h,v,od,up,ns,es):=fun hr=>by
          have hh:=(hstep hr).1
          have:=hc.2 (by simp; exact hh)
          cases this
         conv=>whnf
         repeat' ((first | (refine (?_ : TG _ _); first | refine tY ?_ | refine tN ?_ | refine dY ?_ | refine dN ?_ | (refine tell ?_ ?_ <;> intro hQ <;> try dsimp only at hQ)) | refine aS ?_ | refine ai ?_ | fail) <;> conv=>whnf)
         exact ⟨false,[],⟨fun h=>(by cases h),fun h=>absurd h hno⟩,rfl,trivial,trivial⟩
        ·have hn4:=hc.1 rfl
         have hn4 : OkN e0 ∧ OkN e1 ∧ OkN t0 ∧ OkN t1:=by simpa using hn4
         have hea:=hn4.2.1.1
         have heb:=hn4.2.1.2
         have hta:=hn4.2.2.2.1
         have htb:=hn4.2.2.2.2
         by_cases h5 : e1 = f1 + 1
         ·by_cases h6 : t1 = e1 + 1
          ·cases e2
           ·cases t2
            ·cases f2
             ·have hso : StepOk (f0,f1,false) (e0,e1,false) (t0,t1,false):=⟨hn4,h5,h6,rfl,fun h=>by first | exact h | rfl⟩
              have hnext : ∀ (j : Nat) f e t,j < i + 1 → es[j]? = some e → ns[j]? = some f → ns[j + 1]? = some t → StepOk f e t:=fun j f e t hj h1 h2 h3=>by
               by_cases hji : j = i
               ·subst hji; rw [he] at h1; rw [hf] at h2; rw [ht] at h3; cases h1; cases h2; cases h3; exact hso
               ·exact hst j f e t (by omega) h1 h2 h3
              have hsn : ∀ f,ns[i + 1]? = some f → OkN f.2.1:=fun f h1=>by rw [ht] at h1; cases h1; exact hn4.2.2.2
              conv=>whnf
              repeat' ((first | (refine (?_ : TG _ _); first | refine tY ?_ | refine tN ?_ | refine dY ?_ | refine dN ?_ | (refine tell ?_ ?_ <;> intro hQ <;> try dsimp only at hQ)) | refine aS ?_ | refine ai ?_ | fail) <;> conv=>whnf)
              exact ⟨i + 1,[],⟨hlt,hsn,hnext⟩,rn en⟩
             ·have hso : StepOk (f0,f1,true) (e0,e1,false) (t0,t1,false):=⟨hn4,h5,h6,rfl,fun h=>by first | exact h | rfl⟩
              have hnext : ∀ (j : Nat) f e t,j < i + 1 → es[j]? = some e → ns[j]? = some f → ns[j + 1]? = some t → StepOk f e t:=fun j f e t hj h1 h2 h3=>by
               by_cases hji : j = i
               ·subst hji; rw [he] at h1; rw [hf] at h2; rw [ht] at h3; cases h1; cases h2; cases h3; exact hso
               ·exact hst j f e t (by omega) h1 h2 h3
              have hsn : ∀ f,ns[i + 1]? = some f → OkN f.2.1:=fun f h1=>by rw [ht] at h1; cases h1; exact hn4.2.2.2
              conv=>whnf
              repeat' ((first | (refine (?_ : TG _ _); first | refine tY ?_ | refine tN ?_ | refine dY ?_ | refine dN ?_ | (refine tell ?_ ?_ <;> intro hQ <;> try dsimp only at hQ)) | refine aS ?_ | refine ai ?_ | fail) <;> conv=>whnf)
              exact ⟨i + 1,[],⟨hlt,hsn,hnext⟩,rn en⟩
            ·cases f2
             ·have hno : ¬ RightO (h,v,od,up,ns,es):=fun hr=>by have:=(hstep hr).2.2.2.1; cases this
              conv=>whnf
              repeat' ((first | (refine (?_ : TG _ _); first | refine tY ?_ | refine tN ?_ | refine dY ?_ | refine dN ?_ | (refine tell ?_ ?_ <;> intro hQ <;> try dsimp only at hQ)) | refine aS ?_ | refine ai ?_ | fail) <;> conv=>whnf)
              exact ⟨false,[],⟨fun h=>(by cases h),fun h=>absurd h hno⟩,rfl,trivial,trivial⟩
             ·have hno : ¬ RightO (h,v,od,up,ns,es):=fun hr=>by have:=(hstep hr).2.2.2.1; cases this
              conv=>whnf
              repeat' ((first | (refine (?_ : TG _ _); first | refine tY ?_ | refine tN ?_ | refine dY ?_ | refine dN ?_ | (refine tell ?_ ?_ <;> intro hQ <;> try dsimp only at hQ)) | refine aS ?_ | refine ai ?_ | fail) <;> conv=>whnf)
              exact ⟨false,[],⟨fun h=>(by cases h),fun h=>absurd h hno⟩,rfl,trivial,trivial⟩
           ·cases t2
            ·cases f2
             ·have hno : ¬ RightO (h,v,od,up,ns,es):=fun hr=>by have:=(hstep hr).2.2.2.1; cases this
              conv=>whnf
              repeat' ((first | (refine (?_ : TG _ _); first | refine tY ?_ | refine tN ?_ | refine dY ?_ | refine dN ?_ | (refine tell ?_ ?_ <;> intro hQ <;> try dsimp only at hQ)) | refine aS ?_ | refine ai ?_ | fail) <;> conv=>whnf)
              exact ⟨false,[],⟨fun h=>(by cases h),fun h=>absurd h hno⟩,rfl,trivial,trivial⟩
             ·have hno : ¬ RightO (h,v,od,up,ns,es):=fun hr=>by have:=(hstep hr).2.2.2.1; cases this
              conv=>whnf
              repeat' ((first | (refine (?_ : TG _ _); first | refine tY ?_ | refine tN ?_ | refine dY ?_ | refine dN ?_ | (refine tell ?_ ?_ <;> intro hQ <;> try dsimp only at hQ)) | refine aS ?_ | refine ai ?_ | fail) <;> conv=>whnf)
              exact ⟨false,[],⟨fun h=>(by cases h),fun h=>absurd h hno⟩,rfl,trivial,trivial⟩
            ·cases f2
             ·have hno : ¬ RightO (h,v,od,up,ns,es):=fun hr=>by have:=((hstep hr).2.2.2.2 rfl); cases this
              conv=>whnf
              repeat' ((first | (refine (?_ : TG _ _); first | refine tY ?_ | refine tN ?_ | refine dY ?_ | refine dN ?_ | (refine tell ?_ ?_ <;> intro hQ <;> try dsimp only at hQ)) | refine aS ?_ | refine ai ?_ | fail) <;> conv=>whnf)
              exact ⟨false,[],⟨fun h=>(by cases h),fun h=>absurd h hno⟩,rfl,trivial,trivial⟩
             ·have hso : StepOk (f0,f1,true) (e0,e1,true) (t0,t1,true):=⟨hn4,h5,h6,rfl,fun h=>by first | exact h | rfl⟩
              have hnext : ∀ (j : Nat) f e t,j < i + 1 → es[j]? = some e → ns[j]? = some f → ns[j + 1]? = some t → StepOk f e t:=fun j f e t hj h1 h2 h3=>by
               by_cases hji : j = i
               ·subst hji; rw [he] at h1; rw [hf] at h2; rw [ht] at h3; cases h1; cases h2; cases h3; exact hso
               ·exact hst j f e t (by omega) h1 h2 h3
              have hsn : ∀ f,ns[i + 1]? = some f → OkN f.2.1:=fun f h1=>by rw [ht] at h1; cases h1; exact hn4.2.2.2
              conv=>whnf
              repeat' ((first | (refine (?_ : TG _ _); first | refine tY ?_ | refine tN ?_ | refine dY ?_ | refine dN ?_ | (refine tell ?_ ?_ <;> intro hQ <;> try dsimp only at hQ)) | refine aS ?_ | refine ai ?_ | fail) <;> conv=>whnf)
              exact ⟨i + 1,[],⟨hlt,hsn,hnext⟩,rn en⟩
          ·have hno : ¬ RightO (h,v,od,up,ns,es):=fun hr=>absurd (hstep hr).2.2.1 h6
           conv=>whnf
           repeat' ((first | (refine (?_ : TG _ _); first | refine tY ?_ | refine tN ?_ | refine dY ?_ | refine dN ?_ | (refine tell ?_ ?_ <;> intro hQ <;> try dsimp only at hQ)) | refine aS ?_ | refine ai ?_ | fail) <;> conv=>whnf)
           exact ⟨false,[],⟨fun h=>(by cases h),fun h=>absurd h hno⟩,rfl,trivial,trivial⟩
         ·have hno : ¬ RightO (h,v,od,up,ns,es):=fun hr=>absurd (hstep hr).2.1 h5
          conv=>whnf
          repeat' ((first | (refine (?_ : TG _ _); first | refine tY ?_ | refine tN ?_ | refine dY ?_ | refine dN ?_ | (refine tell ?_ ?_ <;> intro hQ <;> try dsimp only at hQ)) | refine aS ?_ | refine ai ?_ | fail) <;> conv=>whnf)
          exact ⟨false,[],⟨fun h=>(by cases h),fun h=>absurd h hno⟩,rfl,trivial,trivial⟩
       ·have hyes : RightO (h,v,od,up,ns,es):=⟨⟨hv,hn3,hL1,hL2,hL3⟩,⟨_,hf0,h2,rfl,hn2.1,hn2.2⟩,fun j f e t h1 h2 h3=>hst j f e t (by have:=(List.getElem?_eq_some_iff.1 h1).1; have h9 : j < es.length:=this; omega) h1 h2 h3⟩
        conv=>whnf
        repeat' ((first | (refine (?_ : TG _ _); first | refine tY ?_ | refine tN ?_ | refine dY ?_ | refine dN ?_ | (refine tell ?_ ?_ <;> intro hQ <;> try dsimp only at hQ)) | refine aS ?_ | refine ai ?_ | fail) <;> conv=>whnf)
        exact ⟨true,[],⟨fun _=>hyes,fun _=>rfl⟩,rfl,trivial,trivial⟩
    ·have hno : ¬ RightO (h,v,od,up,ns,es):=fun hr=>absurd (hfirst hr).1 h2
     conv=>whnf
     repeat' ((first | (refine (?_ : TG _ _); first | refine tY ?_ | refine tN ?_ | refine dY ?_ | refine dN ?_ | (refine tell ?_ ?_ <;> intro hQ <;> try dsimp only at hQ)) | refine aS ?_ | refine aX hf0 ?_ | refine aL hf0 ?_ | refine ai ?_ | fail) <;> conv=>whnf)
     exact ⟨false,[],⟨fun h=>(by cases h),fun h=>absurd h hno⟩,rfl,trivial,trivial⟩
   ·have hno : ¬ RightO (h,v,od,up,ns,es):=fun hr=>hL hr.1.2.2
    conv=>whnf
    repeat' ((first | (refine (?_ : TG _ _); first | refine tY ?_ | refine tN ?_ | refine dY ?_ | refine dN ?_ | (refine tell ?_ ?_ <;> intro hQ <;> try dsimp only at hQ)) | refine aS ?_ | refine ai ?_ | fail) <;> conv=>whnf)
    all_goals exact ⟨false,[],⟨fun h=>(by cases h),fun h=>absurd h hno⟩,rfl,trivial,trivial⟩
def PathOk (p : List Int) : Prop:=p.length % 2 = 1 ∧ ∀ (i : Nat) x,p[i]? = some x → 0 ≤ x ∧ (1000 ≤ x ↔ i % 2 = 1)
def nodesN (p : List Int) (s k : Int) (m : Nat) : List Stp:=(List.range m).map fun j=>(p.getD (2 * j) 0,s + 2 * (j : Int),decide ((j : Int) < k))
def edgesN (p : List Int) (s k : Int) (m : Nat) : List Stp:=(List.range m).map fun j=>(p.getD (2 * j + 1) 0 - 1000,s + (2 * (j : Int) + 1),decide ((j : Int) + 1 < k))
def ordOf (o : OrdT) (p : List Int) (s k : Int) : OrdT:=(o.1,o.2.1,o.2.2.1,o.2.2.2.1,nodesN p s k ((p.length + 1) / 2),edgesN p s k (p.length / 2))
theorem nodesN_len (p : List Int) (s k : Int) (m : Nat) : (nodesN p s k m).length = m:=by simp [nodesN]
theorem edgesN_len (p : List Int) (s k : Int) (m : Nat) : (edgesN p s k m).length = m:=by simp [edgesN]
theorem nodesN_succ (p : List Int) (s k : Int) (m : Nat) : nodesN p s k (m + 1) = nodesN p s k m ++ [(p.getD (2 * m) 0,s + 2 * (m : Int),decide ((m : Int) < k))]:=by simp [nodesN,List.range_succ]
theorem edgesN_succ (p : List Int) (s k : Int) (m : Nat) : edgesN p s k (m + 1) = edgesN p s k m ++ [(p.getD (2 * m + 1) 0 - 1000,s + (2 * (m : Int) + 1),decide ((m : Int) + 1 < k))]:=by simp [edgesN,List.range_succ]
def spIsPath : Spec AF where
 γ:=List Int
 δ:=Bool
 args:=fun p=>[.lst 3 p]
 pre:=fun p=>p.length ≤ 9223372036854775807
 res:=fun _ c=>vB c
 post:=fun p c=>(c = true ↔ PathOk p)
theorem path_ex (p : List Int) : ∃ c : Bool,c = true ↔ PathOk p:=by
 by_cases h : PathOk p
 ·exact ⟨true,by simp [h]⟩
 ·exact ⟨false,by simp [h]⟩
theorem m_isPath : Meets Tryz.prog regF 251 spIsPath:=by
 refine meets Tryz.func251 29 noWr ?_
 rintro (p : List Int) (hl : p.length ≤ 9223372036854775807)
 conv=>whnf
 repeat' ((first | (refine (?_ : TG _ _); first | refine tY ?_ | refine tN ?_ | refine dY ?_ | refine dN ?_ | (refine tell ?_ ?_ <;> intro hQ <;> try dsimp only at hQ)) | refine aS ?_ | refine ai ?_ | fail) <;> conv=>whnf)
 refine ⟨Nat,fun i=>⟨[(0,.lst 3 p),(6,.lst 3 p),(7,vI p.length),(8,vI i)],[]⟩,fun i=>i ≤ p.length ∧ ∀ (j : Nat) x,j < i → p[j]? = some x → 0 ≤ x ∧ (1000 ≤ x ↔ j % 2 = 1),fun i=>p.length - i,fun _ _=>rfl,⟨0,[],⟨Nat.zero_le _,fun j x h=>absurd h (Nat.not_lt_zero _)⟩,en⟩,?_⟩
 rintro (i : Nat) ⟨(hi : i ≤ p.length),(hs : ∀ (j : Nat) x,j < i → p[j]? = some x → 0 ≤ x ∧ (1000 ≤ x ↔ j % 2 = 1))⟩
 have hpl : (p.length : Int).tmod 2 = ((p.length % 2 : Nat) : Int):=by rw [Int.tmod_eq_emod_of_nonneg (by omega)]; omega
 have hpi : (i : Int).tmod 2 = ((i % 2 : Nat) : Int):=by rw [Int.tmod_eq_emod_of_nonneg (by omega)]; omega
 by_cases hlt : i < p.length
 ·have hobt : ∃ y,p[i]? = some y:=⟨_,List.getElem?_eq_getElem hlt⟩
  obtain ⟨x,hx⟩:=hobt
  by_cases hg : 0 ≤ x ∧ (1000 ≤ x ↔ i % 2 = 1)
  ·have hnext : ∀ (j : Nat) y,j < i + 1 → p[j]? = some y → 0 ≤ y ∧ (1000 ≤ y ↔ j % 2 = 1):=fun j y hj hy=>by
    by_cases e : j = i
    ·subst e; rw [hx] at hy; cases hy; exact hg
    ·exact hs j y (by omega) hy
   obtain ⟨hg0,hg1⟩:=hg
   by_cases h1 : 1000 ≤ x
   ·have h2:=hg1.1 h1
    conv=>whnf
    repeat' ((first | (refine (?_ : TG _ _); first | refine tY ?_ | refine tN ?_ | refine dY ?_ | refine dN ?_ | (refine tell ?_ ?_ <;> intro hQ <;> try dsimp only at hQ)) | refine aS ?_ | refine aX hx ?_ | refine aL hx ?_ | refine ai ?_ | fail) <;> conv=>whnf)
    exact ⟨i + 1,[],⟨hlt,hnext⟩,rn en⟩
   ·have h2 : ¬ i % 2 = 1:=fun h=>h1 (hg1.2 h)
    conv=>whnf
    repeat' ((first | (refine (?_ : TG _ _); first | refine tY ?_ | refine tN ?_ | refine dY ?_ | refine dN ?_ | (refine tell ?_ ?_ <;> intro hQ <;> try dsimp only at hQ)) | refine aS ?_ | refine aX hx ?_ | refine aL hx ?_ | refine ai ?_ | fail) <;> conv=>whnf)
    exact ⟨i + 1,[],⟨hlt,hnext⟩,rn en⟩
  ·have hno : ¬ PathOk p:=fun h=>hg (h.2 i x hx)
   by_cases h0 : 0 ≤ x
   ·by_cases h1 : 1000 ≤ x
    ·have h2 : ¬ i % 2 = 1:=fun h=>hg ⟨h0,by simp [h1,h]⟩
     conv=>whnf
     repeat' ((first | (refine (?_ : TG _ _); first | refine tY ?_ | refine tN ?_ | refine dY ?_ | refine dN ?_ | (refine tell ?_ ?_ <;> intro hQ <;> try dsimp only at hQ)) | refine aS ?_ | refine aX hx ?_ | refine aL hx ?_ | refine ai ?_ | fail) <;> conv=>whnf)
     exact ⟨false,[],⟨fun h=>(by cases h),fun h=>absurd h hno⟩,rfl,trivial,trivial⟩
    ·have h2 : i % 2 = 1:=Classical.byContradiction fun h=>hg ⟨h0,by simp [h1,h]⟩
     conv=>whnf
     repeat' ((first | (refine (?_ : TG _ _); first | refine tY ?_ | refine tN ?_ | refine dY ?_ | refine dN ?_ | (refine tell ?_ ?_ <;> intro hQ <;> try dsimp only at hQ)) | refine aS ?_ | refine aX hx ?_ | refine aL hx ?_ | refine ai ?_ | fail) <;> conv=>whnf)
     exact ⟨false,[],⟨fun h=>(by cases h),fun h=>absurd h hno⟩,rfl,trivial,trivial⟩
   ·conv=>whnf
    repeat' ((first | (refine (?_ : TG _ _); first | refine tY ?_ | refine tN ?_ | refine dY ?_ | refine dN ?_ | (refine tell ?_ ?_ <;> intro hQ <;> try dsimp only at hQ)) | refine aS ?_ | refine aX hx ?_ | refine aL hx ?_ | refine ai ?_ | fail) <;> conv=>whnf)
    all_goals exact ⟨false,[],⟨fun h=>(by cases h),fun h=>absurd h hno⟩,rfl,trivial,trivial⟩
 ·have hall : ∀ (j : Nat) x,p[j]? = some x → 0 ≤ x ∧ (1000 ≤ x ↔ j % 2 = 1):=fun j x hj=>hs j x (by have:=(List.getElem?_eq_some_iff.1 hj).1; omega) hj
  by_cases ho : p.length % 2 = 1
  ·conv=>whnf
   repeat' ((first | (refine (?_ : TG _ _); first | refine tY ?_ | refine tN ?_ | refine dY ?_ | refine dN ?_ | (refine tell ?_ ?_ <;> intro hQ <;> try dsimp only at hQ)) | refine aS ?_ | refine ai ?_ | fail) <;> conv=>whnf)
   exact ⟨true,[],⟨fun _=>⟨ho,hall⟩,fun _=>rfl⟩,rfl,trivial,trivial⟩
  ·conv=>whnf
   repeat' ((first | (refine (?_ : TG _ _); first | refine tY ?_ | refine tN ?_ | refine dY ?_ | refine dN ?_ | (refine tell ?_ ?_ <;> intro hQ <;> try dsimp only at hQ)) | refine aS ?_ | refine ai ?_ | fail) <;> conv=>whnf)
   exact ⟨false,[],⟨fun h=>(by cases h),fun h=>absurd h.1 ho⟩,rfl,trivial,trivial⟩
abbrev zeroO : OrdT:=(0,[],0,0,[],[])
def resO (o : OrdT) (c : Bool) : SV AF:=match c with
 | true=>.tup [ordS o,vB true]
 | false=>.tup [ordS zeroO,vB false]
def spOrder : Spec AF where
 γ:=OrdT × List Int × Int × Int
 δ:=Bool
 args:=fun g=>[ordS g.1,.lst 3 g.2.1,vI g.2.2.1,vI g.2.2.2]
 pre:=fun g=>g.2.1.length ≤ 127 ∧ (∀ x ∈ g.2.1,InI x) ∧ (0 ≤ g.2.2.1 ∧ g.2.2.1 ≤ 1000000)
 res:=fun g c=>resO (ordOf g.1 g.2.1 g.2.2.1 g.2.2.2) c
 post:=fun g c=>(c = true ↔ PathOk g.2.1 ∧ RightO (ordOf g.1 g.2.1 g.2.2.1 g.2.2.2))
theorem nodes_full (p : List Int) (s k : Int) (m : Nat) : (nodesN p s k m) = ((nodesN p s k m).drop 0).take m:=by rw [List.drop_zero,List.take_of_length_le (by rw [nodesN_len]; exact Nat.le_refl _)]
theorem edges_full (p : List Int) (s k : Int) (m : Nat) : (edgesN p s k m) = ((edgesN p s k m).drop 0).take m:=by rw [List.drop_zero,List.take_of_length_le (by rw [edgesN_len]; exact Nat.le_refl _)]
theorem rightO_lens (o : OrdT) (p : List Int) (s k : Int) (hl : p.length ≤ 127) : (ordOf o p s k).2.2.2.2.1.length ≤ 9223372036854775807 ∧ (ordOf o p s k).2.2.2.2.2.length ≤ 9223372036854775807:=by
 show (nodesN _ _ _ _).length ≤ 9223372036854775807 ∧ (edgesN _ _ _ _).length ≤ 9223372036854775807
 rw [nodesN_len,edgesN_len]
 omega
abbrev ordZ : List (SV AF):=[.val (.int .i64 0),.val (.string ⟨#[]⟩),.val (.int .i64 0),.val (.int .i64 0),.val (.slice none 0 0),.val (.slice none 0 0)]
set_option maxRecDepth 100000 in
theorem m_order : Meets Tryz.prog regF 221 spOrder:=by
 refine meets Tryz.func221 72 noWr ?_
 rintro ⟨⟨(h : Int),(v : List UInt8),(od : Int),(up : Int),(ns0 : List Stp),(es0 : List Stp)⟩,(p : List Int),(s : Int),(k : Int)⟩ ⟨(hl : p.length ≤ 127),(hin : ∀ x ∈ p,InI x),(hs0 : 0 ≤ s),(hs1 : s ≤ 1000000)⟩
 conv=>whnf
 repeat' ((first | (refine (?_ : TG _ _); first | refine tY ?_ | refine tN ?_ | refine dY ?_ | refine dN ?_ | (refine tell ?_ ?_ <;> intro hQ <;> try dsimp only at hQ)) | refine aS ?_ | refine ai ?_ | fail) <;> conv=>whnf)
 refine ⟨_,m_isPath,p,[],false,?_⟩
 conv=>whnf
 refine vcA (show p.length ≤ 9223372036854775807 by omega) ?_
 refine And.intro (path_ex p) ?_
 intro (c : Bool) (hc : c = true ↔ PathOk p)
 cases c
 ·have hno : ¬ (PathOk p ∧ RightO (ordOf (h,v,od,up,ns0,es0) p s k)):=fun hh=>(by have:=hc.2 hh.1; cases this)
  conv=>whnf
  repeat' ((first | (refine (?_ : TG _ _); first | refine tY ?_ | refine tN ?_ | refine dY ?_ | refine dN ?_ | (refine tell ?_ ?_ <;> intro hQ <;> try dsimp only at hQ)) | refine aS ?_ | refine ai ?_ | fail) <;> conv=>whnf)
  exact ⟨false,[],⟨fun h=>(by cases h),fun h=>absurd h hno⟩,⟨⟨rfl,rfl,rfl,rfl,rfl,rfl,trivial⟩,rfl,trivial⟩,trivial,trivial⟩
 have hpo:=hc.1 rfl
 have hp' : ((p.take (min (p.length : Int) 127).toNat).drop ((0 : Int)).toNat) = p:=by
  rw [show (min (p.length : Int) 127).toNat = p.length by omega,List.take_length]; rfl
 conv=>whnf
 repeat' ((first | (refine (?_ : TG _ _); first | refine tY ?_ | refine tN ?_ | refine dY ?_ | refine dN ?_ | (refine tell ?_ ?_ <;> intro hQ <;> try dsimp only at hQ)) | refine aS ?_ | refine ai ?_ | fail) <;> conv=>whnf)
 refine ⟨Nat,fun i=>⟨[(2,vI s),(3,vI k),(8,.ptr 1008 0 6 0),(10,.ptr 1010 0 6 0),(25,.lst 3 p),(26,vI p.length),(27,vI i)],[(1008,.cells (ordZ)),(1010,.cells [vI h,vS v,vI od,vI up,.sl 3001 3 0 ((i + 1) / 2),.sl 3002 3 0 (i / 2)]),(3001,.arr 122 (nodesN p s k ((i + 1) / 2))),(3002,.arr 125 (edgesN p s k (i / 2)))]⟩,fun i=>i ≤ p.length,fun i=>p.length - i,fun _ _=>rfl,⟨0,[],Nat.zero_le _,?_⟩,?_⟩
 ·refine ⟨rfl,?_,?_,rfl⟩
  all_goals (repeat' (first | exact trivial | exact rfl | refine And.intro ?_ ?_ | (refine congrArg vI ?_; first | omega | (dsimp only; omega) | fail) | (refine congrArg some ?_) | omega | exact Nat.le_refl _ | exact congrArg (SV.lst _) (List.take_of_length_le (Nat.le_refl _)).symm))
  all_goals (first | exact congrArg (SV.lst (A:=AF) 3) hp' | exact congrArg (fun l : List Int=>vI (l.length : Int)) hp' | fail)
 rintro (i : Nat) (hi : i ≤ p.length)
 have hpi : (i : Int).tmod 2 = ((i % 2 : Nat) : Int):=by rw [Int.tmod_eq_emod_of_nonneg (by omega)]; omega
 have hqi : (i : Int).tdiv 2 = ((i / 2 : Nat) : Int):=by rw [Int.tdiv_eq_ediv_of_nonneg (by omega)]; omega
 have hqj : ((i : Int) + 1).tdiv 2 = (((i + 1) / 2 : Nat) : Int):=by rw [Int.tdiv_eq_ediv_of_nonneg (by omega)]; omega
 have hnl:=nodesN_len p s k ((i + 1) / 2)
 have hel:=edgesN_len p s k (i / 2)
 by_cases hlt : i < p.length
 ·have hobt : ∃ y,p[i]? = some y:=⟨_,List.getElem?_eq_getElem hlt⟩
  obtain ⟨x,hx⟩:=hobt
  have hx2:=hpo.2 i x hx
  have hx0:=hx2.1
  have hxb : InI x:=hin x (List.mem_of_getElem? hx)
  have hxb1:=hxb.1
  have hxb2:=hxb.2
  by_cases h2 : i % 2 = 0
  ·have e1 : (i + 1) / 2 = i / 2:=by omega
   have e2 : (i + 1 + 1) / 2 = i / 2 + 1:=by omega
   by_cases hk : (i : Int) - (i : Int).tdiv 2 < k
   ·have hn : nodesN p s k ((i + 1 + 1) / 2) = nodesN p s k ((i + 1) / 2) ++ [(x,s + (i : Int),true)]:=by
     rw [e2,e1,nodesN_succ,show 2 * (i / 2) = i by omega,List.getD_eq_getElem?_getD,hx,show s + 2 * ((i / 2 : Nat) : Int) = s + (i : Int) by omega,decide_eq_true (show ((i / 2 : Nat) : Int) < k by omega)]; rfl
    conv=>whnf
    repeat' ((first | (refine (?_ : TG _ _); first | refine tY ?_ | refine tN ?_ | refine dY ?_ | refine dN ?_ | (refine tell ?_ ?_ <;> intro hQ <;> try dsimp only at hQ)) | refine aS ?_ | refine aX hx ?_ | refine aL hx ?_ | refine ai ?_ | fail) <;> conv=>whnf)
    refine ⟨i + 1,[(3001,1064)],hlt,?_,rfl,?_,?_,rfl⟩
    ·dsimp only; first | omega | (simp; done) | (simp; omega)
    all_goals (repeat' (first | exact trivial | exact rfl | refine And.intro ?_ ?_ | (refine congrArg vI ?_; first | omega | (dsimp only; omega) | fail) | (refine congrArg some ?_) | omega | exact Nat.le_refl _ | exact congrArg (SV.lst _) (List.take_of_length_le (Nat.le_refl _)).symm))
    all_goals first | exact congrArg (SV.sl (A:=AF) 1064 3 0) (by omega) | exact congrArg (SV.sl (A:=AF) 3002 3 0) e1.symm | exact congrArg (fun m=>Ct.arr (A:=AF) 125 (edgesN p s k m)) e1.symm | exact congrArg (Ct.arr (A:=AF) 122) (by rw [hn,← nodes_full]; rfl) | fail
   ·have hn : nodesN p s k ((i + 1 + 1) / 2) = nodesN p s k ((i + 1) / 2) ++ [(x,s + (i : Int),false)]:=by
     rw [e2,e1,nodesN_succ,show 2 * (i / 2) = i by omega,List.getD_eq_getElem?_getD,hx,show s + 2 * ((i / 2 : Nat) : Int) = s + (i : Int) by omega,decide_eq_false (show ¬ ((i / 2 : Nat) : Int) < k by omega)]; rfl
    conv=>whnf
    repeat' ((first | (refine (?_ : TG _ _); first | refine tY ?_ | refine tN ?_ | refine dY ?_ | refine dN ?_ | (refine tell ?_ ?_ <;> intro hQ <;> try dsimp only at hQ)) | refine aS ?_ | refine aX hx ?_ | refine aL hx ?_ | refine ai ?_ | fail) <;> conv=>whnf)
    refine ⟨i + 1,[(3001,1064)],hlt,?_,rfl,?_,?_,rfl⟩
    ·dsimp only; first | omega | (simp; done) | (simp; omega)
    all_goals (repeat' (first | exact trivial | exact rfl | refine And.intro ?_ ?_ | (refine congrArg vI ?_; first | omega | (dsimp only; omega) | fail) | (refine congrArg some ?_) | omega | exact Nat.le_refl _ | exact congrArg (SV.lst _) (List.take_of_length_le (Nat.le_refl _)).symm))
    all_goals first | exact congrArg (SV.sl (A:=AF) 1064 3 0) (by omega) | exact congrArg (SV.sl (A:=AF) 3002 3 0) e1.symm | exact congrArg (fun m=>Ct.arr (A:=AF) 125 (edgesN p s k m)) e1.symm | exact congrArg (Ct.arr (A:=AF) 122) (by rw [hn,← nodes_full]; rfl) | fail
  ·have e1 : (i + 1) / 2 = i / 2 + 1:=by omega
   have e2 : (i + 1 + 1) / 2 = (i + 1) / 2:=by omega
   by_cases hk : (i : Int) - (i : Int).tdiv 2 < k
   ·have hn : edgesN p s k ((i + 1) / 2) = edgesN p s k (i / 2) ++ [(x - 1000,s + (i : Int),true)]:=by
     rw [e1,edgesN_succ,show 2 * (i / 2) + 1 = i by omega,List.getD_eq_getElem?_getD,hx,show s + (2 * ((i / 2 : Nat) : Int) + 1) = s + (i : Int) by omega,decide_eq_true (show ((i / 2 : Nat) : Int) + 1 < k by omega)]; rfl
    conv=>whnf
    repeat' ((first | (refine (?_ : TG _ _); first | refine tY ?_ | refine tN ?_ | refine dY ?_ | refine dN ?_ | (refine tell ?_ ?_ <;> intro hQ <;> try dsimp only at hQ)) | refine aS ?_ | refine aX hx ?_ | refine aL hx ?_ | refine ai ?_ | fail) <;> conv=>whnf)
    refine ⟨i + 1,[(3002,1051)],hlt,?_,rfl,?_,?_,rfl⟩
    ·dsimp only; first | omega | (simp; done) | (simp; omega)
    all_goals (repeat' (first | exact trivial | exact rfl | refine And.intro ?_ ?_ | (refine congrArg vI ?_; first | omega | (dsimp only; omega) | fail) | (refine congrArg some ?_) | omega | exact Nat.le_refl _ | exact congrArg (SV.lst _) (List.take_of_length_le (Nat.le_refl _)).symm))
    all_goals first | exact congrArg (SV.sl (A:=AF) 1051 3 0) (by omega) | exact congrArg (SV.sl (A:=AF) 3001 3 0) e2.symm | exact congrArg (fun m=>Ct.arr (A:=AF) 122 (nodesN p s k m)) e2.symm | exact congrArg (Ct.arr (A:=AF) 125) (by rw [hn,← edges_full]; rfl) | fail
   ·have hn : edgesN p s k ((i + 1) / 2) = edgesN p s k (i / 2) ++ [(x - 1000,s + (i : Int),false)]:=by
     rw [e1,edgesN_succ,show 2 * (i / 2) + 1 = i by omega,List.getD_eq_getElem?_getD,hx,show s + (2 * ((i / 2 : Nat) : Int) + 1) = s + (i : Int) by omega,decide_eq_false (show ¬ ((i / 2 : Nat) : Int) + 1 < k by omega)]; rfl
    conv=>whnf
    repeat' ((first | (refine (?_ : TG _ _); first | refine tY ?_ | refine tN ?_ | refine dY ?_ | refine dN ?_ | (refine tell ?_ ?_ <;> intro hQ <;> try dsimp only at hQ)) | refine aS ?_ | refine aX hx ?_ | refine aL hx ?_ | refine ai ?_ | fail) <;> conv=>whnf)
    refine ⟨i + 1,[(3002,1051)],hlt,?_,rfl,?_,?_,rfl⟩
    ·dsimp only; first | omega | (simp; done) | (simp; omega)
    all_goals (repeat' (first | exact trivial | exact rfl | refine And.intro ?_ ?_ | (refine congrArg vI ?_; first | omega | (dsimp only; omega) | fail) | (refine congrArg some ?_) | omega | exact Nat.le_refl _ | exact congrArg (SV.lst _) (List.take_of_length_le (Nat.le_refl _)).symm))
    all_goals first | exact congrArg (SV.sl (A:=AF) 1051 3 0) (by omega) | exact congrArg (SV.sl (A:=AF) 3001 3 0) e2.symm | exact congrArg (fun m=>Ct.arr (A:=AF) 122 (nodesN p s k m)) e2.symm | exact congrArg (Ct.arr (A:=AF) 125) (by rw [hn,← edges_full]; rfl) | fail
 ·have hobt : i = p.length:=by omega
  obtain rfl:=hobt
  conv=>whnf
  repeat' ((first | (refine (?_ : TG _ _); first | refine tY ?_ | refine tN ?_ | refine dY ?_ | refine dN ?_ | (refine tell ?_ ?_ <;> intro hQ <;> try dsimp only at hQ)) | refine aS ?_ | refine ai ?_ | fail) <;> conv=>whnf)
  refine ⟨_,m_rightO,(ordOf (h,v,od,up,ns0,es0) p s k),[],true,?_⟩
  conv=>whnf
  refine And.intro (vc0 (rightO_lens _ p s k hl) (by (repeat' (first | exact trivial | exact rfl | refine And.intro ?_ ?_ | (refine congrArg vI ?_; first | omega | (dsimp only; omega) | fail) | (refine congrArg some ?_) | omega | exact Nat.le_refl _ | exact congrArg (SV.lst _) (List.take_of_length_le (Nat.le_refl _)).symm)); all_goals (first | omega | exact congrArg (SV.lst (A:=AF) 122) (nodes_full p s k _) | exact congrArg (SV.lst (A:=AF) 125) (edges_full p s k _) | fail)) (by repeat' (first | exact trivial | exact rfl | refine And.intro ?_ ?_ | (refine congrArg vI ?_; first | omega | (dsimp only; omega) | fail) | (refine congrArg some ?_) | omega | exact Nat.le_refl _ | exact congrArg (SV.lst _) (List.take_of_length_le (Nat.le_refl _)).symm)) trivial (.inr (fun _=>⟨rfl,fun h ct he=>by rcases h with _ | _ | h <;> first | (cases he; done) | (cases he; rfl)⟩))) ?_
  refine And.intro (rightO_ex _) ?_
  intro (c : Bool) (hc : c = true ↔ RightO (ordOf (h,v,od,up,ns0,es0) p s k))
  cases c
  ·have hno : ¬ (PathOk p ∧ RightO (ordOf (h,v,od,up,ns0,es0) p s k)):=fun hh=>(by have:=hc.2 hh.2; cases this)
   conv=>whnf
   repeat' ((first | (refine (?_ : TG _ _); first | refine tY ?_ | refine tN ?_ | refine dY ?_ | refine dN ?_ | (refine tell ?_ ?_ <;> intro hQ <;> try dsimp only at hQ)) | refine aS ?_ | refine ai ?_ | fail) <;> conv=>whnf)
   exact ⟨false,[],⟨fun h=>(by cases h),fun h=>absurd h hno⟩,⟨⟨rfl,rfl,rfl,rfl,rfl,rfl,trivial⟩,rfl,trivial⟩,trivial,trivial⟩
  ·conv=>whnf
   repeat' ((first | (refine (?_ : TG _ _); first | refine tY ?_ | refine tN ?_ | refine dY ?_ | refine dN ?_ | (refine tell ?_ ?_ <;> intro hQ <;> try dsimp only at hQ)) | refine aS ?_ | refine ai ?_ | fail) <;> conv=>whnf)
   exact ⟨true,[],⟨fun _=>⟨hpo,hc.1 rfl⟩,fun _=>rfl⟩,⟨⟨rfl,rfl,rfl,rfl,⟨by omega,rfl,congrArg (SV.lst (A:=AF) 122) (nodes_full p s k _)⟩,⟨by omega,rfl,congrArg (SV.lst (A:=AF) 125) (edges_full p s k _)⟩,trivial⟩,rfl,trivial⟩,trivial,trivial⟩
end
end Go.Sx
namespace Go.Sx
noncomputable section
open Go Go.Proofs Go.Proofs.YtcehbnfhlcfinaaGreatDoor
open Go.Shelf
def spJRight : Spec AF where
 γ:=Js
 δ:=Bool
 args:=fun v=>[jS v]
 pre:=fun v=>jg 4 v
 res:=fun _ c=>vB c
theorem m_jright : Meets Tryz.prog regF 89 spJRight:=by
 refine meets Tryz.func89 5 noWr ?_
 rintro ⟨k,m,e,t,names,(items : List Js)⟩ hv
 conv=>whnf
 repeat' ((first | (refine (?_ : TG _ _); first | refine tY ?_ | refine tN ?_ | refine dY ?_ | refine dN ?_ | (refine tell ?_ ?_ <;> intro hQ <;> try dsimp only at hQ)) | refine aS ?_ | refine ai ?_ | fail) <;> conv=>whnf)
 refine ⟨_,m_rightJ 4,(.mk k m e t names items,1),[],false,?_⟩
 conv=>whnf
 refine vcA ⟨hv,(by show (0 : Int) ≤ 1; decide),(by show (1 : Int) + 4 ≤ 1000; decide)⟩ ?_
 conv=>whnf
 refine aV false trivial fun (c : Bool) _=>?_
 conv=>whnf
 repeat' ((first | (refine (?_ : TG _ _); first | refine tY ?_ | refine tN ?_ | refine dY ?_ | refine dN ?_ | (refine tell ?_ ?_ <;> intro hQ <;> try dsimp only at hQ)) | refine aS ?_ | refine ai ?_ | fail) <;> conv=>whnf)
 exact ⟨c,[],trivial,a3⟩
def spJPrint : Spec AF where
 γ:=Js
 δ:=List UInt8
 args:=fun v=>[jS v]
 pre:=fun v=>jg 4 v ∧ v.p0 = 7
 res:=fun _ l=>vS l
 post:=fun _ l=>l.length ≤ 1000000
theorem m_jprint : Meets Tryz.prog regF 58 spJPrint:=by
 refine meets Tryz.func58 10 noWr ?_
 rintro ⟨k,m,e,t,names,(items : List Js)⟩ ⟨hv,(h7 : k = 7)⟩
 have hB : Bn 4 ≤ 1000000:=by decide
 conv=>whnf
 repeat' ((first | (refine (?_ : TG _ _); first | refine tY ?_ | refine tN ?_ | refine dY ?_ | refine dN ?_ | (refine tell ?_ ?_ <;> intro hQ <;> try dsimp only at hQ)) | refine aS ?_ | refine ai ?_ | fail) <;> conv=>whnf)
 refine ⟨_,m_jright,.mk k m e t names items,[],false,?_⟩
 conv=>whnf
 refine vcA hv ?_
 conv=>whnf
 refine aV false trivial fun (c : Bool) _=>?_
 cases c
 ·conv=>whnf
  repeat' ((first | (refine (?_ : TG _ _); first | refine tY ?_ | refine tN ?_ | refine dY ?_ | refine dN ?_ | (refine tell ?_ ?_ <;> intro hQ <;> try dsimp only at hQ)) | refine aS ?_ | refine ai ?_ | fail) <;> conv=>whnf)
  exact ⟨[],[],Nat.zero_le _,a3⟩
 ·conv=>whnf
  repeat' ((first | (refine (?_ : TG _ _); first | refine tY ?_ | refine tN ?_ | refine dY ?_ | refine dN ?_ | (refine tell ?_ ?_ <;> intro hQ <;> try dsimp only at hQ)) | refine aS ?_ | refine ai ?_ | fail) <;> conv=>whnf)
  refine ⟨_,m_wrF 3 (m_wr 3),.mk k m e t names items,[1003],false,?_⟩
  conv=>whnf
  refine vcA ⟨hv,h7,(show Bn 4 ≤ 1000000000 by omega)⟩ ?_
  conv=>whnf
  refine aV (((0,0,0),[0]) : B3 × List UInt8) ⟨by decide,by simp⟩ fun (d : B3 × List UInt8) (hd : d.2.length ≤ Bn 4 ∧ d.2 ≠ [])=>?_
  obtain ⟨d,l⟩:=d
  have hd : l.length ≤ Bn 4 ∧ l ≠ []:=hd
  conv=>whnf
  repeat' ((first | (refine (?_ : TG _ _); first | refine tY ?_ | refine tN ?_ | refine dY ?_ | refine dN ?_ | (refine tell ?_ ?_ <;> intro hQ <;> try dsimp only at hQ)) | refine aS ?_ | refine ai ?_ | fail) <;> conv=>whnf)
  refine ⟨_,m_str,(d,l),[1003,1008],false,?_⟩
  conv=>whnf
  refine vcA hd.2 ?_
  refine uU ?_
  conv=>whnf
  conv=>whnf
  repeat' ((first | (refine (?_ : TG _ _); first | refine tY ?_ | refine tN ?_ | refine dY ?_ | refine dN ?_ | (refine tell ?_ ?_ <;> intro hQ <;> try dsimp only at hQ)) | refine aS ?_ | refine ai ?_ | fail) <;> conv=>whnf)
  exact ⟨l,[],(show l.length ≤ 1000000 by omega),a3⟩
end
end Go.Sx
namespace Go.Sx
noncomputable section
open Go Go.Proofs Go.Proofs.YtcehbnfhlcfinaaGreatDoor
open Go.Shelf
abbrev vW (n : Int) : SV AF:=.val (.int .u32 n)
theorem wrapU (z : Int) : 0 ≤ IntKind.wrap .u32 z ∧ IntKind.wrap .u32 z ≤ 4294967295:=by
 unfold IntKind.wrap
 simp [IntKind.bits,IntKind.signed]
 omega
def spSum : Spec AF where
 γ:=List UInt8
 δ:=Int
 args:=fun l=>[vS l]
 pre:=fun l=>l.length ≤ 1000000000
 res:=fun _ r=>vW r
 post:=fun _ r=>0 ≤ r ∧ r ≤ 4294967295
theorem m_sum : Meets Tryz.prog regF 70 spSum:=by
 refine meets Tryz.func70 20 (fun n=>Nat.beq n 17) ?_
 rintro (l : List UInt8) (hl : l.length ≤ 1000000000)
 have hs:=size_bS l
 have hml : (l.map fun c=>((c.toNat : Nat) : Int)).length = l.length:=List.length_map ..
 conv=>whnf
 repeat' ((first | (refine (?_ : TG _ _); first | refine tY ?_ | refine tN ?_ | refine dY ?_ | refine dN ?_ | (refine tell ?_ ?_ <;> intro hQ <;> try dsimp only at hQ)) | refine aS ?_ | refine ai ?_ | fail) <;> conv=>whnf)
 refine ⟨Nat × Int,fun p=>⟨[(2,vW 0),(3,vW p.2),(7,.sl 1007 1 0 (⟨l.toArray⟩ : ByteArray).size),(8,vI (⟨l.toArray⟩ : ByteArray).size),(9,vI p.1)],[(1007,.arr 5 (l.map fun c=>((c.toNat : Nat) : Int)))]⟩,fun p=>p.1 ≤ l.length ∧ 0 ≤ p.2 ∧ p.2 ≤ 4294967295,fun p=>l.length - p.1,fun _ _=>rfl,⟨(0,2166136261),[],⟨Nat.zero_le _,by show (0 : Int) ≤ 2166136261 ∧ (2166136261 : Int) ≤ 4294967295; decide⟩,en⟩,?_⟩
 rintro ⟨(i : Nat),(u : Int)⟩ ⟨(hi : i ≤ l.length),(hu0 : 0 ≤ u),(hu1 : u ≤ 4294967295)⟩
 by_cases hlt : i < l.length
 ·have hobt : ∃ y,(l.map fun c=>((c.toNat : Nat) : Int))[i]? = some y:=⟨_,List.getElem?_eq_getElem (by omega)⟩
  obtain ⟨x,hx1⟩:=hobt
  have hx2 : (l.map fun c=>((c.toNat : Nat) : Int))[0 + (i : Int).toNat]? = some x:=by rw [show 0 + (i : Int).toNat = i by omega]; exact hx1
  conv=>whnf
  repeat' ((first | (refine (?_ : TG _ _); first | refine tY ?_ | refine tN ?_ | refine dY ?_ | refine dN ?_ | (refine tell ?_ ?_ <;> intro hQ <;> try dsimp only at hQ)) | refine aS ?_ | refine aX hx2 ?_ | refine aL hx2 ?_ | refine ai ?_ | fail) <;> conv=>whnf)
  exact ⟨(i + 1,IntKind.wrap .u32 (bitsI .xor .u32 u (IntKind.wrap .u32 x) * 16777619)),[],⟨hlt,wrapU _⟩,rn en⟩
 ·conv=>whnf
  repeat' ((first | (refine (?_ : TG _ _); first | refine tY ?_ | refine tN ?_ | refine dY ?_ | refine dN ?_ | (refine tell ?_ ?_ <;> intro hQ <;> try dsimp only at hQ)) | refine aS ?_ | refine ai ?_ | fail) <;> conv=>whnf)
  exact ⟨u,[],⟨hu0,hu1⟩,a3⟩
abbrev iB (l : List UInt8) : List Int:=l.map fun c=>((c.toNat : Nat) : Int)
theorem iB_len (l : List UInt8) : (iB l).length = l.length:=List.length_map ..
theorem iB_inj : ∀ {a b : List UInt8},iB a = iB b → a = b
 | [],[],_=>rfl
 | [],_ :: _,h=>by simp [iB] at h
 | _ :: _,[],h=>by simp [iB] at h
 | x :: a,y :: b,h=>by
  have h : (((x.toNat : Nat) : Int) :: iB a) = ((y.toNat : Nat) : Int) :: iB b:=h
  rw [List.cons.injEq] at h
  rw [UInt8.toNat_inj.1 (Int.ofNat.inj h.1),iB_inj h.2]
theorem wrapU_eq {z : Int} (h0 : 0 ≤ z) (h1 : z < 4294967296) : IntKind.wrap .u32 z = z:=by
 unfold IntKind.wrap
 simp [IntKind.bits,IntKind.signed]
 omega
theorem andU (u : Int) : 0 ≤ bitsI .and .u32 u 15 ∧ bitsI .and .u32 u 15 < 16:=by
 have h : (BitVec.ofInt 32 u &&& BitVec.ofInt 32 15).toNat ≤ 15:=by rw [BitVec.toNat_and]; exact Nat.and_le_right
 have e : bitsI .and .u32 u 15 = IntKind.wrap .u32 ((BitVec.ofInt 32 u &&& BitVec.ofInt 32 15).toNat : Int):=rfl
 rw [e,wrapU_eq (by omega) (by omega)]
 omega
def spSeal : Spec AF where
 γ:=List UInt8
 δ:=List UInt8
 args:=fun l=>[vS l]
 pre:=fun l=>l.length ≤ 1000000000
 res:=fun _ r=>vS r
 post:=fun l r=>r.length = l.length + 9
theorem m_seal : Meets Tryz.prog regF 57 spSeal:=by
 refine meets Tryz.func57 25 noWr ?_
 rintro (l : List UInt8) (hl : l.length ≤ 1000000000)
 have hs:=size_bS l
 conv=>whnf
 repeat' ((first | (refine (?_ : TG _ _); first | refine tY ?_ | refine tN ?_ | refine dY ?_ | refine dN ?_ | (refine tell ?_ ?_ <;> intro hQ <;> try dsimp only at hQ)) | refine aS ?_ | refine ai ?_ | fail) <;> conv=>whnf)
 refine ⟨_,m_sum,l,[],false,?_⟩
 conv=>whnf
 refine vcA hl ?_
 conv=>whnf
 refine aV (0 : Int) ⟨by decide,by decide⟩ fun (u : Int) (hu : 0 ≤ u ∧ u ≤ 4294967295)=>?_
 conv=>whnf
 repeat' ((first | (refine (?_ : TG _ _); first | refine tY ?_ | refine tN ?_ | refine dY ?_ | refine dN ?_ | (refine tell ?_ ?_ <;> intro hQ <;> try dsimp only at hQ)) | refine aS ?_ | refine ai ?_ | fail) <;> conv=>whnf)
 refine ⟨Nat × Int × List UInt8,fun p=>⟨[(0,vS l),(3,vW p.2.1),(4,.ptr 1004 0 8 0),(8,vI p.1)],[(1004,.arr 5 (iB p.2.2))]⟩,fun p=>p.1 ≤ 8 ∧ p.2.2.length = 8,fun p=>8 - p.1,fun _ _=>rfl,⟨(0,u,[0,0,0,0,0,0,0,0]),[],⟨Nat.zero_le _,rfl⟩,en⟩,?_⟩
 rintro ⟨(i : Nat),(v : Int),(d : List UInt8)⟩ ⟨(hi : i ≤ 8),(hd : d.length = 8)⟩
 have hdl:=iB_len d
 by_cases hlt : i < 8
 ·have hobt:=andU v
  obtain ⟨ha,hb⟩:=hobt
  have hobt : ∃ y,(iB d)[(7 - (i : Int)).toNat]? = some y:=⟨_,List.getElem?_eq_getElem (by omega)⟩
  obtain ⟨y,hy⟩:=hobt
  conv=>whnf
  repeat' ((first | (refine (?_ : TG _ _); first | refine tY ?_ | refine tN ?_ | refine dY ?_ | refine dN ?_ | (refine tell ?_ ?_ <;> intro hQ <;> try dsimp only at hQ)) | refine aS ?_ | refine ai ?_ | fail) <;> conv=>whnf)
  refine ai ?_ ⟨ha,hb⟩
  conv=>whnf
  repeat' ((first | (refine (?_ : TG _ _); first | refine tY ?_ | refine tN ?_ | refine dY ?_ | refine dN ?_ | (refine tell ?_ ?_ <;> intro hQ <;> try dsimp only at hQ)) | refine aS ?_ | refine aX hy ?_ | refine aL hy ?_ | refine ai ?_ | fail) <;> conv=>whnf)
  refine ⟨(i + 1,v.fdiv (2 ^ (min (4 : Int).toNat IntKind.u32.bits)),d.set (7 - (i : Int)).toNat ((⟨#[48,49,50,51,52,53,54,55,56,57,97,98,99,100,101,102]⟩ : ByteArray).data.toList.getD (bitsI .and .u32 v 15).toNat 0)),[],⟨hlt,(by show (d.set _ _).length = 8; rw [List.length_set]; exact hd)⟩,?_,rfl,?_,?_,rfl⟩
  ·dsimp only; first | omega | (simp; done) | (simp; omega)
  all_goals (repeat' (first | exact trivial | exact rfl | refine And.intro ?_ ?_ | (refine congrArg vI ?_; first | omega | (dsimp only; omega) | fail) | (refine congrArg some ?_) | omega | exact Nat.le_refl _ | exact congrArg (SV.lst _) (List.take_of_length_le (Nat.le_refl _)).symm))
  exact congrArg (Ct.arr (A:=AF) 5) List.map_set.symm
 ·have h35 : (⟨l.toArray⟩ : ByteArray).size + (⟨#[35]⟩ : ByteArray).size ≤ 9223372036854775807:=by rw [hs]; show l.length + 1 ≤ _; omega
  have e35 : (⟨l.toArray⟩ : ByteArray) ++ (⟨#[35]⟩ : ByteArray) = ⟨(l ++ [35]).toArray⟩:=bS_append l [35]
  have h9 : ((⟨l.toArray⟩ : ByteArray) ++ (⟨#[35]⟩ : ByteArray)).size + (⟨d.toArray⟩ : ByteArray).size ≤ 9223372036854775807:=by
   rw [e35,size_bS,size_bS,List.length_append,hd]; show l.length + 1 + 8 ≤ _; omega
  have h10 : (⟨l.toArray⟩ : ByteArray) ++ (⟨#[35]⟩ : ByteArray) ++ (⟨d.toArray⟩ : ByteArray) = ⟨(l ++ [35] ++ d).toArray⟩:=by rw [e35]; exact bS_append _ _
  have hex : ((iB d).drop 0).take 8 = d.map fun b=>((b.toNat : Nat) : Int):=by rw [List.drop_zero,List.take_of_length_le (by omega)]
  conv=>whnf
  repeat' ((first | (refine (?_ : TG _ _); first | refine tY ?_ | refine tN ?_ | refine dY ?_ | refine dN ?_ | (refine tell ?_ ?_ <;> intro hQ <;> try dsimp only at hQ)) | refine aS ?_ | refine ai ?_ | fail) <;> conv=>whnf)
  refine And.intro ⟨_,hex⟩ (fun l' hl'=>?_)
  conv=>whnf
  have hll : l' = d:=iB_inj (hl'.symm.trans hex)
  subst hll
  conv=>whnf
  repeat' ((first | (refine (?_ : TG _ _); first | refine tY ?_ | refine tN ?_ | refine dY ?_ | refine dN ?_ | (refine tell ?_ ?_ <;> intro hQ <;> try dsimp only at hQ)) | refine aS ?_ | refine ai ?_ | fail) <;> conv=>whnf)
  refine ⟨l ++ [35] ++ l',[],(by show (l ++ [35] ++ l').length = l.length + 9; simp; omega),?_,?_,?_⟩
  all_goals (repeat' (first | exact trivial | exact rfl | refine And.intro ?_ ?_ | (refine congrArg vI ?_; first | omega | (dsimp only; omega) | fail) | (refine congrArg some ?_) | omega | exact Nat.le_refl _ | exact congrArg (SV.lst _) (List.take_of_length_le (Nat.le_refl _)).symm))
  skip
end
end Go.Sx
namespace Go.Sx
noncomputable section
open Go Go.Proofs Go.Proofs.YtcehbnfhlcfinaaGreatDoor
open Go.Shelf
theorem iB_snoc (v : List UInt8) (c : UInt8) : iB v ++ [((c.toNat : Nat) : Int)] = iB (v ++ [c]):=by simp [iB]
theorem wrapB (z : Int) : IntKind.wrap .u8 z = (((UInt8.ofNat (IntKind.wrap .u8 z).toNat).toNat : Nat) : Int):=by
 have h : 0 ≤ IntKind.wrap .u8 z ∧ IntKind.wrap .u8 z < 256:=by
  unfold IntKind.wrap
  simp [IntKind.bits,IntKind.signed]
  omega
 rw [UInt8.toNat_ofNat']
 omega
def spJPut : Spec AF where
 γ:=List UInt8 × Nat × List Int
 δ:=List UInt8
 args:=fun g=>[.sl 0 1 0 g.1.length,vI g.2.1,.lst 3 g.2.2]
 own:=fun g=>[.arr 5 (iB g.1)]
 pre:=fun g=>g.1.length ≤ 1000000 ∧ (1 ≤ g.2.1 ∧ g.2.1 ≤ 8) ∧ g.2.2.length ≤ 300
 nnew:=1
 res:=fun g _=>.sl 1 1 0 (g.1.length + g.2.2.length * g.2.1)
 own':=fun _ d=>[none,some (.arr 5 (iB d))]
 post:=fun g d=>d.length = g.1.length + g.2.2.length * g.2.1
theorem m_jput : Meets Tryz.prog regF 69 spJPut:=by
 refine meets Tryz.func69 32 noWr ?_
 rintro ⟨(l : List UInt8),(s : Nat),(nums : List Int)⟩ ⟨(hl : l.length ≤ 1000000),⟨(hs1 : 1 ≤ s),(hs8 : s ≤ 8)⟩,(hn : nums.length ≤ 300)⟩
 conv=>whnf
 repeat' ((first | (refine (?_ : TG _ _); first | refine tY ?_ | refine tN ?_ | refine dY ?_ | refine dN ?_ | (refine tell ?_ ?_ <;> intro hQ <;> try dsimp only at hQ)) | refine aS ?_ | refine ai ?_ | fail) <;> conv=>whnf)
 refine ⟨Nat × List UInt8,fun p=>⟨[(0,.sl 3001 1 0 p.2.length),(1,vI s),(10,.lst 3 nums),(11,vI nums.length),(12,vI p.1)],[(3001,.arr 5 (iB p.2))]⟩,fun p=>p.1 ≤ nums.length ∧ p.2.length = l.length + p.1 * s,fun p=>nums.length - p.1,fun _ _=>rfl,⟨(0,l),[(3001,0)],⟨Nat.zero_le _,(show l.length = l.length + 0 * s by omega)⟩,en⟩,?_⟩
 rintro ⟨(i : Nat),(u : List UInt8)⟩ ⟨(hi : i ≤ nums.length),(hu : u.length = l.length + i * s)⟩
 have hm1 : i * s ≤ 300 * 8:=Nat.mul_le_mul (by omega) hs8
 by_cases hlt : i < nums.length
 ·have hobt : ∃ y,nums[i]? = some y:=⟨_,List.getElem?_eq_getElem hlt⟩
  obtain ⟨x,hx1⟩:=hobt
  conv=>whnf
  repeat' ((first | (refine (?_ : TG _ _); first | refine tY ?_ | refine tN ?_ | refine dY ?_ | refine dN ?_ | (refine tell ?_ ?_ <;> intro hQ <;> try dsimp only at hQ)) | refine aS ?_ | refine aX hx1 ?_ | refine aL hx1 ?_ | refine ai ?_ | fail) <;> conv=>whnf)
  refine ⟨Nat × List UInt8,fun p=>⟨[(0,.sl 3001 1 0 p.2.length),(1,vI s),(8,vI x),(9,vI (8 * ((s : Int) - 1) - 8 * p.1)),(10,.lst 3 nums),(11,vI nums.length),(12,vI i)],[(3001,.arr 5 (iB p.2))]⟩,fun p=>p.1 ≤ s ∧ p.2.length = u.length + p.1,fun p=>s - p.1,fun _ _=>rfl,⟨(0,u),[],⟨Nat.zero_le _,rfl⟩,en⟩,?_⟩
  rintro ⟨(j : Nat),(v : List UInt8)⟩ ⟨(hj : j ≤ s),(hv : v.length = u.length + j)⟩
  have hiv:=iB_len v
  by_cases hjs : j < s
  ·conv=>whnf
   repeat' ((first | (refine (?_ : TG _ _); first | refine tY ?_ | refine tN ?_ | refine dY ?_ | refine dN ?_ | (refine tell ?_ ?_ <;> intro hQ <;> try dsimp only at hQ)) | refine aS ?_ | refine ai ?_ | fail) <;> conv=>whnf)
   refine ⟨(j + 1,v ++ [UInt8.ofNat (IntKind.wrap .u8 (x.fdiv (2 ^ (min (8 * ((s : Int) - 1) - 8 * j).toNat IntKind.i64.bits)))).toNat]),[(3001,1029)],⟨hjs,by simp; omega⟩,?_,rfl,?_,?_,rfl⟩
   ·dsimp only; first | omega | (simp; done) | (simp; omega)
   all_goals (repeat' (first | exact trivial | exact rfl | refine And.intro ?_ ?_ | (refine congrArg vI ?_; first | omega | (dsimp only; omega) | fail) | (refine congrArg some ?_) | omega | exact Nat.le_refl _ | exact congrArg (SV.lst _) (List.take_of_length_le (Nat.le_refl _)).symm))
   ·exact congrArg (SV.sl (A:=AF) 1029 1 0) (by simp)
   ·refine congrArg (Ct.arr (A:=AF) 5) ?_
    exact ((congrArg (· ++ [_]) (List.take_of_length_le (Nat.le_of_eq hiv))).trans (congrArg (fun z : Int=>iB v ++ [z]) (wrapB _))).trans (iB_snoc v _)
  ·conv=>whnf
   repeat' ((first | (refine (?_ : TG _ _); first | refine tY ?_ | refine tN ?_ | refine dY ?_ | refine dN ?_ | (refine tell ?_ ?_ <;> intro hQ <;> try dsimp only at hQ)) | refine aS ?_ | refine ai ?_ | fail) <;> conv=>whnf)
   exact ⟨(i + 1,v),[],⟨hlt,(show v.length = l.length + (i + 1) * s by rw [Nat.succ_mul]; omega)⟩,rn en⟩
 ·have hi' : i = nums.length:=by omega
  subst hi'
  conv=>whnf
  repeat' ((first | (refine (?_ : TG _ _); first | refine tY ?_ | refine tN ?_ | refine dY ?_ | refine dN ?_ | (refine tell ?_ ?_ <;> intro hQ <;> try dsimp only at hQ)) | refine aS ?_ | refine ai ?_ | fail) <;> conv=>whnf)
  refine ⟨u,[3001],hu,?_,?_,?_⟩
  all_goals (repeat' (first | exact trivial | exact rfl | refine And.intro ?_ ?_ | (refine congrArg vI ?_; first | omega | (dsimp only; omega) | fail) | (refine congrArg some ?_) | omega | exact Nat.le_refl _ | exact congrArg (SV.lst _) (List.take_of_length_le (Nat.le_refl _)).symm))
  exact congrArg (SV.sl (A:=AF) 3001 1 0) hu
def spJPut0 : Spec AF where
 γ:=Nat × List Int
 δ:=List UInt8
 args:=fun g=>[.val (.slice none 0 0),vI g.1,.lst 3 g.2]
 pre:=fun g=>(1 ≤ g.1 ∧ g.1 ≤ 8) ∧ g.2.length ≤ 300
 nnew:=1
 res:=fun g _=>.sl 0 1 0 (g.2.length * g.1)
 own':=fun _ d=>[some (.arr 5 (iB d))]
 post:=fun g d=>d.length = g.2.length * g.1
theorem m_jput0 : Meets Tryz.prog regF 69 spJPut0:=by
 refine meets Tryz.func69 32 noWr ?_
 rintro ⟨(s : Nat),(nums : List Int)⟩ ⟨⟨(hs1 : 1 ≤ s),(hs8 : s ≤ 8)⟩,(hn : nums.length ≤ 300)⟩
 conv=>whnf
 repeat' ((first | (refine (?_ : TG _ _); first | refine tY ?_ | refine tN ?_ | refine dY ?_ | refine dN ?_ | (refine tell ?_ ?_ <;> intro hQ <;> try dsimp only at hQ)) | refine aS ?_ | refine ai ?_ | fail) <;> conv=>whnf)
 refine ⟨Nat × List UInt8,fun p=>⟨[(0,.sl 3001 1 0 p.2.length),(1,vI s),(10,.lst 3 nums),(11,vI nums.length),(12,vI p.1)],[(3001,.arr 5 (iB p.2))]⟩,fun p=>p.1 ≤ nums.length ∧ p.2.length = p.1 * s,fun p=>nums.length - p.1,fun _ _=>rfl,⟨(0,[]),[],⟨Nat.zero_le _,(show 0 = 0 * s by omega)⟩,en⟩,?_⟩
 rintro ⟨(i : Nat),(u : List UInt8)⟩ ⟨(hi : i ≤ nums.length),(hu : u.length = i * s)⟩
 have hm1 : i * s ≤ 300 * 8:=Nat.mul_le_mul (by omega) hs8
 by_cases hlt : i < nums.length
 ·have hobt : ∃ y,nums[i]? = some y:=⟨_,List.getElem?_eq_getElem hlt⟩
  obtain ⟨x,hx1⟩:=hobt
  conv=>whnf
  repeat' ((first | (refine (?_ : TG _ _); first | refine tY ?_ | refine tN ?_ | refine dY ?_ | refine dN ?_ | (refine tell ?_ ?_ <;> intro hQ <;> try dsimp only at hQ)) | refine aS ?_ | refine aX hx1 ?_ | refine aL hx1 ?_ | refine ai ?_ | fail) <;> conv=>whnf)
  refine ⟨Nat × List UInt8,fun p=>⟨[(0,.sl 3001 1 0 p.2.length),(1,vI s),(8,vI x),(9,vI (8 * ((s : Int) - 1) - 8 * p.1)),(10,.lst 3 nums),(11,vI nums.length),(12,vI i)],[(3001,.arr 5 (iB p.2))]⟩,fun p=>p.1 ≤ s ∧ p.2.length = u.length + p.1,fun p=>s - p.1,fun _ _=>rfl,⟨(0,u),[],⟨Nat.zero_le _,rfl⟩,en⟩,?_⟩
  rintro ⟨(j : Nat),(v : List UInt8)⟩ ⟨(hj : j ≤ s),(hv : v.length = u.length + j)⟩
  have hiv:=iB_len v
  by_cases hjs : j < s
  ·conv=>whnf
   repeat' ((first | (refine (?_ : TG _ _); first | refine tY ?_ | refine tN ?_ | refine dY ?_ | refine dN ?_ | (refine tell ?_ ?_ <;> intro hQ <;> try dsimp only at hQ)) | refine aS ?_ | refine ai ?_ | fail) <;> conv=>whnf)
   refine ⟨(j + 1,v ++ [UInt8.ofNat (IntKind.wrap .u8 (x.fdiv (2 ^ (min (8 * ((s : Int) - 1) - 8 * j).toNat IntKind.i64.bits)))).toNat]),[(3001,1029)],⟨hjs,by simp; omega⟩,?_,rfl,?_,?_,rfl⟩
   ·dsimp only; first | omega | (simp; done) | (simp; omega)
   all_goals (repeat' (first | exact trivial | exact rfl | refine And.intro ?_ ?_ | (refine congrArg vI ?_; first | omega | (dsimp only; omega) | fail) | (refine congrArg some ?_) | omega | exact Nat.le_refl _ | exact congrArg (SV.lst _) (List.take_of_length_le (Nat.le_refl _)).symm))
   ·exact congrArg (SV.sl (A:=AF) 1029 1 0) (by simp)
   ·refine congrArg (Ct.arr (A:=AF) 5) ?_
    exact ((congrArg (· ++ [_]) (List.take_of_length_le (Nat.le_of_eq hiv))).trans (congrArg (fun z : Int=>iB v ++ [z]) (wrapB _))).trans (iB_snoc v _)
  ·conv=>whnf
   repeat' ((first | (refine (?_ : TG _ _); first | refine tY ?_ | refine tN ?_ | refine dY ?_ | refine dN ?_ | (refine tell ?_ ?_ <;> intro hQ <;> try dsimp only at hQ)) | refine aS ?_ | refine ai ?_ | fail) <;> conv=>whnf)
   exact ⟨(i + 1,v),[],⟨hlt,(show v.length = (i + 1) * s by rw [Nat.succ_mul]; omega)⟩,rn en⟩
 ·have hi' : i = nums.length:=by omega
  subst hi'
  conv=>whnf
  repeat' ((first | (refine (?_ : TG _ _); first | refine tY ?_ | refine tN ?_ | refine dY ?_ | refine dN ?_ | (refine tell ?_ ?_ <;> intro hQ <;> try dsimp only at hQ)) | refine aS ?_ | refine ai ?_ | fail) <;> conv=>whnf)
  refine ⟨u,[3001],hu,?_,?_,?_⟩
  all_goals (repeat' (first | exact trivial | exact rfl | refine And.intro ?_ ?_ | (refine congrArg vI ?_; first | omega | (dsimp only; omega) | fail) | (refine congrArg some ?_) | omega | exact Nat.le_refl _ | exact congrArg (SV.lst _) (List.take_of_length_le (Nat.le_refl _)).symm))
  exact congrArg (SV.sl (A:=AF) 3001 1 0) hu
abbrev recS (r : Int × List Int × Txt) : SV AF:=.agg [vI r.1,.lst 3 r.2.1,vS r.2.2]
def spJLay : Spec AF where
 γ:=Int × List Int × Txt
 δ:=Txt
 args:=fun r=>[recS r]
 pre:=fun r=>(0 ≤ r.1 ∧ r.1 ≤ 255) ∧ r.2.1.length ≤ 255 ∧ r.2.2.length ≤ 20000
 res:=fun _ l=>.tup [vS l,vI 0]
 post:=fun _ l=>0 < l.length ∧ l.length ≤ 100000
theorem m_jlay : Meets Tryz.prog regF 39 spJLay:=by
 refine meets Tryz.func39 59 noWr ?_
 rintro ⟨(k : Int),(n : List Int),(t : Txt)⟩ ⟨⟨(hk0 : 0 ≤ k),(hk1 : k ≤ 255)⟩,(hn : n.length ≤ 255),(ht : t.length ≤ 20000)⟩
 have hts:=size_bS t
 conv=>whnf
 repeat' ((first | (refine (?_ : TG _ _); first | refine tY ?_ | refine tN ?_ | refine dY ?_ | refine dN ?_ | (refine tell ?_ ?_ <;> intro hQ <;> try dsimp only at hQ)) | refine aS ?_ | refine ai ?_ | fail) <;> conv=>whnf)
 refine ⟨_,m_jput0,(4,[2 + 8 * (n.length : Int) + (⟨t.toArray⟩ : ByteArray).size]),[],false,?_⟩
 conv=>whnf
 refine vcA (show (1 ≤ 4 ∧ 4 ≤ 8) ∧ 1 ≤ 300 by decide) ?_
 conv=>whnf
 refine aV [0,0,0,0] rfl fun (a : List UInt8) (ha : a.length = 1 * 4)=>?_
 have ha2 : 1 * 4 = a.length:=ha.symm
 have hia:=iB_len a
 conv=>whnf
 repeat' ((first | (refine (?_ : TG _ _); first | refine tY ?_ | refine tN ?_ | refine dY ?_ | refine dN ?_ | (refine tell ?_ ?_ <;> intro hQ <;> try dsimp only at hQ)) | refine aS ?_ | refine ai ?_ | fail) <;> conv=>whnf)
 refine ⟨_,m_jput,(a,1,[k,(n.length : Int)]),[1035],false,?_⟩
 conv=>whnf
 refine And.intro (vc0 ⟨(show a.length ≤ 1000000 by omega),(by show 1 ≤ 1 ∧ 1 ≤ 8; decide),(by show 2 ≤ 300; decide)⟩ (by (repeat' (first | exact trivial | exact rfl | refine And.intro ?_ ?_ | (refine congrArg vI ?_; first | omega | (dsimp only; omega) | fail) | (refine congrArg some ?_) | omega | exact Nat.le_refl _ | exact congrArg (SV.lst _) (List.take_of_length_le (Nat.le_refl _)).symm)); all_goals (first | exact congrArg (SV.sl (A:=AF) 1035 1 0) ha2 | fail)) (by repeat' (first | exact trivial | exact rfl | refine And.intro ?_ ?_ | (refine congrArg vI ?_; first | omega | (dsimp only; omega) | fail) | (refine congrArg some ?_) | omega | exact Nat.le_refl _ | exact congrArg (SV.lst _) (List.take_of_length_le (Nat.le_refl _)).symm)) trivial trivial) ?_
 conv=>whnf
 refine aV (a ++ [0,0]) (by show (a ++ [0,0]).length = a.length + 2 * 1; simp) fun (b : List UInt8) (hb : b.length = a.length + 2 * 1)=>?_
 have hb2:=hb.symm
 have hib:=iB_len b
 conv=>whnf
 repeat' ((first | (refine (?_ : TG _ _); first | refine tY ?_ | refine tN ?_ | refine dY ?_ | refine dN ?_ | (refine tell ?_ ?_ <;> intro hQ <;> try dsimp only at hQ)) | refine aS ?_ | refine ai ?_ | fail) <;> conv=>whnf)
 refine ⟨_,m_jput,(b,8,n),[1043],false,?_⟩
 conv=>whnf
 refine And.intro (vc0 ⟨(show b.length ≤ 1000000 by omega),(by show 1 ≤ 8 ∧ 8 ≤ 8; decide),(show n.length ≤ 300 by omega)⟩ (by (repeat' (first | exact trivial | exact rfl | refine And.intro ?_ ?_ | (refine congrArg vI ?_; first | omega | (dsimp only; omega) | fail) | (refine congrArg some ?_) | omega | exact Nat.le_refl _ | exact congrArg (SV.lst _) (List.take_of_length_le (Nat.le_refl _)).symm)); all_goals (first | exact congrArg (SV.sl (A:=AF) 1043 1 0) hb2 | fail)) (by repeat' (first | exact trivial | exact rfl | refine And.intro ?_ ?_ | (refine congrArg vI ?_; first | omega | (dsimp only; omega) | fail) | (refine congrArg some ?_) | omega | exact Nat.le_refl _ | exact congrArg (SV.lst _) (List.take_of_length_le (Nat.le_refl _)).symm)) trivial trivial) ?_
 conv=>whnf
 refine aV (b ++ List.replicate (n.length * 8) 0) (by show (b ++ List.replicate (n.length * 8) 0).length = b.length + n.length * 8; simp) fun (c : List UInt8) (hc : c.length = b.length + n.length * 8)=>?_
 have hic:=iB_len c
 conv=>whnf
 repeat' ((first | (refine (?_ : TG _ _); first | refine tY ?_ | refine tN ?_ | refine dY ?_ | refine dN ?_ | (refine tell ?_ ?_ <;> intro hQ <;> try dsimp only at hQ)) | refine aS ?_ | refine ai ?_ | fail) <;> conv=>whnf)
 have hit:=iB_len t
 have e1 : ((iB c).drop 0).take (b.length + n.length * 8) = iB c:=by rw [List.drop_zero]; exact List.take_of_length_le (by omega)
 have hex : ((((iB c).drop 0).take (b.length + n.length * 8) ++ iB t).drop 0).take (b.length + n.length * 8 + (⟨t.toArray⟩ : ByteArray).size) = (c ++ t).map fun b=>((b.toNat : Nat) : Int):=by
  rw [e1,List.drop_zero,List.take_of_length_le (by rw [List.length_append]; omega)]
  exact List.map_append.symm
 refine And.intro ⟨_,hex⟩ (fun l' hl'=>?_)
 conv=>whnf
 have hll : l' = c ++ t:=iB_inj (hl'.symm.trans hex)
 subst hll
 have hcl : (c ++ t).length = c.length + t.length:=List.length_append
 conv=>whnf
 repeat' ((first | (refine (?_ : TG _ _); first | refine tY ?_ | refine tN ?_ | refine dY ?_ | refine dN ?_ | (refine tell ?_ ?_ <;> intro hQ <;> try dsimp only at hQ)) | refine aS ?_ | refine ai ?_ | fail) <;> conv=>whnf)
 refine ⟨_,m_sum,c ++ t,[],false,?_⟩
 conv=>whnf
 refine vcA (show (c ++ t).length ≤ 1000000000 by omega) ?_
 conv=>whnf
 refine aV (0 : Int) ⟨by decide,by decide⟩ fun (u : Int) _=>?_
 conv=>whnf
 repeat' ((first | (refine (?_ : TG _ _); first | refine tY ?_ | refine tN ?_ | refine dY ?_ | refine dN ?_ | (refine tell ?_ ?_ <;> intro hQ <;> try dsimp only at hQ)) | refine aS ?_ | refine ai ?_ | fail) <;> conv=>whnf)
 have eL : b.length + n.length * 8 + (⟨t.toArray⟩ : ByteArray).size = (c ++ t).length:=by omega
 have eC : ((iB c).drop 0).take (b.length + n.length * 8) ++ iB t = iB (c ++ t):=by rw [e1]; exact List.map_append.symm
 refine ⟨_,m_jput,(c ++ t,4,[IntKind.wrap .i64 u]),[1050],false,?_⟩
 conv=>whnf
 refine vcA (⟨(show (c ++ t).length ≤ 1000000 by omega),(by show 1 ≤ 4 ∧ 4 ≤ 8; decide),(by show 1 ≤ 300; decide)⟩) ?_ (hq:=by repeat' (first | exact trivial | exact rfl | exact congrArg (SV.sl (A:=AF) 1050 1 0) eL | exact Nat.le_refl 1 | refine And.intro ?_ ?_)) (hr:=by repeat' (first | exact trivial | exact congrArg (fun z=>some (Ct.arr (A:=AF) 5 z)) eC | refine And.intro ?_ ?_))
 conv=>whnf
 refine aV (c ++ t ++ [0,0,0,0]) (by show (c ++ t ++ [0,0,0,0]).length = (c ++ t).length + 1 * 4; rw [List.length_append]; rfl) fun (d : List UInt8) (hd : d.length = (c ++ t).length + 1 * 4)=>?_
 have hid:=iB_len d
 have hex2 : ((iB d).drop 0).take ((c ++ t).length + 1 * 4) = d.map fun b=>((b.toNat : Nat) : Int):=by
  rw [List.drop_zero]; exact List.take_of_length_le (by omega)
 conv=>whnf
 repeat' ((first | (refine (?_ : TG _ _); first | refine tY ?_ | refine tN ?_ | refine dY ?_ | refine dN ?_ | (refine tell ?_ ?_ <;> intro hQ <;> try dsimp only at hQ)) | refine aS ?_ | refine ai ?_ | fail) <;> conv=>whnf)
 refine And.intro ⟨_,hex2⟩ (fun l' hl'=>?_)
 conv=>whnf
 have hll : l' = d:=iB_inj (hl'.symm.trans hex2)
 subst hll
 conv=>whnf
 repeat' ((first | (refine (?_ : TG _ _); first | refine tY ?_ | refine tN ?_ | refine dY ?_ | refine dN ?_ | (refine tell ?_ ?_ <;> intro hQ <;> try dsimp only at hQ)) | refine aS ?_ | refine ai ?_ | fail) <;> conv=>whnf)
 exact ⟨l',[],(show 0 < l'.length ∧ l'.length ≤ 100000 by omega),a3⟩
end
end Go.Sx
namespace Go.Sx
noncomputable section
open Go Go.Proofs Go.Proofs.YtcehbnfhlcfinaaGreatDoor
open Go.Shelf
abbrev CtlT:=ByteArray × Int × Int × Int × Int × Int × List Int × Int × Bool × Int × Bool × Int × ByteArray × Int × Int × List Stp × List Stp
abbrev ctlCs (c : CtlT) : List (SV AF):=[.val (.string c.1),vI c.2.1,vI c.2.2.1,vI c.2.2.2.1,vI c.2.2.2.2.1,vI c.2.2.2.2.2.1,.lst 3 c.2.2.2.2.2.2.1,vI c.2.2.2.2.2.2.2.1,vB c.2.2.2.2.2.2.2.2.1,vI c.2.2.2.2.2.2.2.2.2.1,vB c.2.2.2.2.2.2.2.2.2.2.1,vI c.2.2.2.2.2.2.2.2.2.2.2.1,.val (.string c.2.2.2.2.2.2.2.2.2.2.2.2.1),vI c.2.2.2.2.2.2.2.2.2.2.2.2.2.1,vI c.2.2.2.2.2.2.2.2.2.2.2.2.2.2.1,.lst 122 c.2.2.2.2.2.2.2.2.2.2.2.2.2.2.2.1,.lst 125 c.2.2.2.2.2.2.2.2.2.2.2.2.2.2.2.2]
abbrev ctlS (c : CtlT) : SV AF:=.agg (ctlCs c)
abbrev ctl0 (v : ByteArray) (n : Int) : CtlT:=(v,0,0,0,0,0,[n],0,false,0,false,0,⟨#[]⟩,0,0,[],[])
def CLens (c : CtlT) : Prop:=c.2.2.2.2.2.2.1.length ≤ 1000000 ∧ c.2.2.2.2.2.2.2.2.2.2.2.2.2.2.2.1.length ≤ 1000000 ∧ c.2.2.2.2.2.2.2.2.2.2.2.2.2.2.2.2.length ≤ 1000000
theorem bS_ex (s : ByteArray) : ∃ l : List UInt8,s = ⟨l.toArray⟩:=⟨s.data.toList,by cases s; simp⟩
def spFBegin : Spec AF where
 γ:=ByteArray × Int
 args:=fun g=>[.val (.string g.1),vI g.2]
 res:=fun g _=>ctlS (ctl0 g.1 g.2)
theorem m_fbegin : Meets Tryz.prog regF 45 spFBegin:=by
 refine meets Tryz.func45 9 noWr ?_
 rintro ⟨(v : ByteArray),(n : Int)⟩ _
 conv=>whnf
 repeat' ((first | (refine (?_ : TG _ _); first | refine tY ?_ | refine tN ?_ | refine dY ?_ | refine dN ?_ | (refine tell ?_ ?_ <;> intro hQ <;> try dsimp only at hQ)) | refine aS ?_ | refine ai ?_ | fail) <;> conv=>whnf)
 refine ⟨(),[],trivial,?_,?_,?_⟩
 all_goals (repeat' (first | exact trivial | exact rfl | refine And.intro ?_ ?_ | (refine congrArg vI ?_; first | omega | (dsimp only; omega) | fail) | (refine congrArg some ?_) | omega | exact Nat.le_refl _ | exact congrArg (SV.lst _) (List.take_of_length_le (Nat.le_refl _)).symm))
 skip
def spIdle : Spec AF where
 γ:=CtlT
 args:=fun c=>[ctlS c]
 res:=fun c _=>vB (decide (c.2.2.2.2.2.2.1.length = 1) && !c.2.2.2.2.2.2.2.2.2.2.1)
theorem m_idle : Meets Tryz.prog regF 82 spIdle:=by
 refine meets Tryz.func82 12 noWr ?_
 rintro ⟨v,h,o,u,b,s,(p : List Int),q,op,r,(w : Bool),oh,ov,oo,ou,on,oe⟩ _
 by_cases h1 : p.length = 1
 ·have e : (!w) = (decide (p.length = 1) && !w):=by rw [decide_eq_true h1]; rfl
  conv=>whnf
  repeat' ((first | (refine (?_ : TG _ _); first | refine tY ?_ | refine tN ?_ | refine dY ?_ | refine dN ?_ | (refine tell ?_ ?_ <;> intro hQ <;> try dsimp only at hQ)) | refine aS ?_ | refine ai ?_ | fail) <;> conv=>whnf)
  exact ⟨(),[],trivial,a3⟩
 ·have e : false = (decide (p.length = 1) && !w):=by rw [decide_eq_false h1]; rfl
  conv=>whnf
  repeat' ((first | (refine (?_ : TG _ _); first | refine tY ?_ | refine tN ?_ | refine dY ?_ | refine dN ?_ | (refine tell ?_ ?_ <;> intro hQ <;> try dsimp only at hQ)) | refine aS ?_ | refine ai ?_ | fail) <;> conv=>whnf)
  exact ⟨(),[],trivial,a3⟩
def spOFresh : Spec AF where
 γ:=OrdT
 args:=fun o=>[ordS o]
 pre:=fun o=>o.2.2.2.2.1.length ≤ 1000000 ∧ o.2.2.2.2.2.length ≤ 1000000
 res:=fun o _=>ordS o
theorem m_ofresh : Meets Tryz.prog regF 137 spOFresh:=by
 refine meets Tryz.func137 12 noWr ?_
 rintro ⟨(h : Int),(v : List UInt8),(od : Int),(up : Int),(ns : List Stp),(es : List Stp)⟩ ⟨(hn : ns.length ≤ 1000000),(he : es.length ≤ 1000000)⟩
 conv=>whnf
 repeat' ((first | (refine (?_ : TG _ _); first | refine tY ?_ | refine tN ?_ | refine dY ?_ | refine dN ?_ | (refine tell ?_ ?_ <;> intro hQ <;> try dsimp only at hQ)) | refine aS ?_ | refine ai ?_ | fail) <;> conv=>whnf)
 refine ⟨_,m_clS,ns,[],false,?_⟩
 conv=>whnf
 refine vcA (show ns.length ≤ 1000000000 by omega) ?_
 refine uU ?_
 conv=>whnf
 conv=>whnf
 repeat' ((first | (refine (?_ : TG _ _); first | refine tY ?_ | refine tN ?_ | refine dY ?_ | refine dN ?_ | (refine tell ?_ ?_ <;> intro hQ <;> try dsimp only at hQ)) | refine aS ?_ | refine ai ?_ | fail) <;> conv=>whnf)
 refine ⟨_,m_clW,es,[],false,?_⟩
 conv=>whnf
 refine vcA (show es.length ≤ 1000000000 by omega) ?_
 refine uU ?_
 conv=>whnf
 conv=>whnf
 repeat' ((first | (refine (?_ : TG _ _); first | refine tY ?_ | refine tN ?_ | refine dY ?_ | refine dN ?_ | (refine tell ?_ ?_ <;> intro hQ <;> try dsimp only at hQ)) | refine aS ?_ | refine ai ?_ | fail) <;> conv=>whnf)
 exact ⟨(),[],trivial,a3⟩
def spOwn : Spec AF where
 γ:=CtlT
 args:=fun c=>[ctlS c]
 pre:=CLens
 nnew:=1
 res:=fun _ _=>.ptr 0 0 17 0
 own':=fun c _=>[some (.cells (ctlCs c))]
theorem m_own : Meets Tryz.prog regF 131 spOwn:=by
 refine meets Tryz.func131 14 noWr ?_
 rintro ⟨v,h,o,u,b,s,(p : List Int),q,op,r,(w : Bool),oh,ov,oo,ou,(on : List Stp),(oe : List Stp)⟩ ⟨(h1 : p.length ≤ 1000000),(h2 : on.length ≤ 1000000),(h3 : oe.length ≤ 1000000)⟩
 have hobt:=bS_ex ov
 obtain ⟨ol,rfl⟩:=hobt
 conv=>whnf
 repeat' ((first | (refine (?_ : TG _ _); first | refine tY ?_ | refine tN ?_ | refine dY ?_ | refine dN ?_ | (refine tell ?_ ?_ <;> intro hQ <;> try dsimp only at hQ)) | refine aS ?_ | refine ai ?_ | fail) <;> conv=>whnf)
 refine ⟨_,m_clI,p,[],false,?_⟩
 conv=>whnf
 refine vcA (show p.length ≤ 1000000000 by omega) ?_
 refine uU ?_
 conv=>whnf
 conv=>whnf
 repeat' ((first | (refine (?_ : TG _ _); first | refine tY ?_ | refine tN ?_ | refine dY ?_ | refine dN ?_ | (refine tell ?_ ?_ <;> intro hQ <;> try dsimp only at hQ)) | refine aS ?_ | refine ai ?_ | fail) <;> conv=>whnf)
 refine ⟨_,m_ofresh,(oh,ol,oo,ou,on,oe),[],false,?_⟩
 conv=>whnf
 refine vcA ⟨h2,h3⟩ ?_
 refine uU ?_
 conv=>whnf
 conv=>whnf
 repeat' ((first | (refine (?_ : TG _ _); first | refine tY ?_ | refine tN ?_ | refine dY ?_ | refine dN ?_ | (refine tell ?_ ?_ <;> intro hQ <;> try dsimp only at hQ)) | refine aS ?_ | refine ai ?_ | fail) <;> conv=>whnf)
 exact ⟨(),[1013],trivial,a3⟩
def spFPath : Spec AF where
 γ:=List Int
 args:=fun p=>[.lst 3 p]
 pre:=fun p=>p.length ≤ 1000000 ∧ PathOk p
 res:=fun _ c=>vB true
 post:=fun p c=>True
theorem m_fpath : Meets Tryz.prog regF 136 spFPath:=by
 refine meets Tryz.func136 27 noWr ?_
 rintro (p : List Int) ⟨(hl : p.length ≤ 1000000),(hp1 : p.length % 2 = 1),hp⟩
 conv=>whnf
 repeat' ((first | (refine (?_ : TG _ _); first | refine tY ?_ | refine tN ?_ | refine dY ?_ | refine dN ?_ | (refine tell ?_ ?_ <;> intro hQ <;> try dsimp only at hQ)) | refine aS ?_ | refine ai ?_ | fail) <;> conv=>whnf)
 refine ⟨Nat,fun i=>⟨[(0,.lst 3 p),(5,.lst 3 p),(6,vI p.length),(7,vI i)],[]⟩,fun i=>i ≤ p.length,fun i=>p.length - i,fun _ _=>rfl,⟨0,[],Nat.zero_le _,en⟩,?_⟩
 rintro (i : Nat) (hi : i ≤ p.length)
 have hpl : (p.length : Int).tmod 2 = ((p.length % 2 : Nat) : Int):=by rw [Int.tmod_eq_emod_of_nonneg (by omega)]; omega
 have hpi : (i : Int).tmod 2 = ((i % 2 : Nat) : Int):=by rw [Int.tmod_eq_emod_of_nonneg (by omega)]; omega
 by_cases hlt : i < p.length
 ·have hobt : ∃ y,p[i]? = some y:=⟨_,List.getElem?_eq_getElem hlt⟩
  obtain ⟨x,hx⟩:=hobt
  have hobt:=hp i x hx
  obtain ⟨hg0,hg1⟩:=hobt
  by_cases h1 : 1000 ≤ x
  ·have h2:=hg1.1 h1
   conv=>whnf
   repeat' ((first | (refine (?_ : TG _ _); first | refine tY ?_ | refine tN ?_ | refine dY ?_ | refine dN ?_ | (refine tell ?_ ?_ <;> intro hQ <;> try dsimp only at hQ)) | refine aS ?_ | refine aX hx ?_ | refine aL hx ?_ | refine ai ?_ | fail) <;> conv=>whnf)
   exact ⟨i + 1,[],hlt,rn en⟩
  ·have h2 : ¬ i % 2 = 1:=fun h=>h1 (hg1.2 h)
   conv=>whnf
   repeat' ((first | (refine (?_ : TG _ _); first | refine tY ?_ | refine tN ?_ | refine dY ?_ | refine dN ?_ | (refine tell ?_ ?_ <;> intro hQ <;> try dsimp only at hQ)) | refine aS ?_ | refine aX hx ?_ | refine aL hx ?_ | refine ai ?_ | fail) <;> conv=>whnf)
   exact ⟨i + 1,[],hlt,rn en⟩
 ·conv=>whnf
  repeat' ((first | (refine (?_ : TG _ _); first | refine tY ?_ | refine tN ?_ | refine dY ?_ | refine dN ?_ | (refine tell ?_ ?_ <;> intro hQ <;> try dsimp only at hQ)) | refine aS ?_ | refine ai ?_ | fail) <;> conv=>whnf)
  exact ⟨(),[],trivial,a3⟩
def spFRight : Spec AF where
 γ:=CtlT
 args:=fun c=>[ctlS c]
 pre:=fun c=>c.2.2.2.2.2.2.1.length ≤ 1000000 ∧ PathOk c.2.2.2.2.2.2.1 ∧ 0 ≤ c.2.2.2.2.2.2.2.2.2.1
 res:=fun _ _=>vB true
theorem m_fright : Meets Tryz.prog regF 132 spFRight:=by
 refine meets Tryz.func132 11 noWr ?_
 rintro ⟨v,h,o,u,b,s,(p : List Int),q,op,(r : Int),(w : Bool),oh,ov,oo,ou,on,oe⟩ ⟨(h1 : p.length ≤ 1000000),(h2 : PathOk p),(h3 : 0 ≤ r)⟩
 conv=>whnf
 repeat' ((first | (refine (?_ : TG _ _); first | refine tY ?_ | refine tN ?_ | refine dY ?_ | refine dN ?_ | (refine tell ?_ ?_ <;> intro hQ <;> try dsimp only at hQ)) | refine aS ?_ | refine ai ?_ | fail) <;> conv=>whnf)
 refine ⟨_,m_fpath,p,[],false,?_⟩
 conv=>whnf
 refine vcA ⟨h1,h2⟩ ?_
 refine uU ?_
 conv=>whnf
 conv=>whnf
 repeat' ((first | (refine (?_ : TG _ _); first | refine tY ?_ | refine tN ?_ | refine dY ?_ | refine dN ?_ | (refine tell ?_ ?_ <;> intro hQ <;> try dsimp only at hQ)) | refine aS ?_ | refine ai ?_ | fail) <;> conv=>whnf)
 exact ⟨(),[],trivial,a3⟩
def spPlan : Spec AF where
 γ:=CtlT × List Int
 args:=fun g=>[ctlS g.1,.lst 3 g.2]
 pre:=fun g=>CLens g.1 ∧ (∃ x,g.1.2.2.2.2.2.2.1 = [x] ∧ g.2[0]? = some x) ∧ g.1.2.2.2.2.2.2.2.2.2.2.1 = false ∧ 3 ≤ g.2.length ∧ g.2.length ≤ 1000000 ∧ PathOk g.2
 res:=fun g _=>.tup [ctlS (g.1.1,g.1.2.1,g.1.2.2.1,g.1.2.2.2.1,g.1.2.2.2.2.1,g.1.2.2.2.2.2.1,g.2,g.1.2.2.2.2.2.2.2.1,false,0,g.1.2.2.2.2.2.2.2.2.2.2),vB true]
theorem m_plan : Meets Tryz.prog regF 101 spPlan:=by
 refine meets Tryz.func101 54 noWr ?_
 rintro ⟨⟨v,h,o,u,b,s,(p : List Int),q,op,r,(w : Bool),oh,ov,oo,ou,(on : List Stp),(oe : List Stp)⟩,(l : List Int)⟩ ⟨hc,⟨x,(hp : p = [x]),(hx : l[0]? = some x)⟩,(hw : w = false),(h3 : 3 ≤ l.length),(hl : l.length ≤ 1000000),(hok : PathOk l)⟩
 subst hp hw
 conv=>whnf
 repeat' ((first | (refine (?_ : TG _ _); first | refine tY ?_ | refine tN ?_ | refine dY ?_ | refine dN ?_ | (refine tell ?_ ?_ <;> intro hQ <;> try dsimp only at hQ)) | refine aS ?_ | refine ai ?_ | fail) <;> conv=>whnf)
 refine ⟨_,m_own,(v,h,o,u,b,s,[x],q,op,r,false,oh,ov,oo,ou,on,oe),[],false,?_⟩
 conv=>whnf
 refine vcA hc ?_
 refine uU ?_
 conv=>whnf
 conv=>whnf
 repeat' ((first | (refine (?_ : TG _ _); first | refine tY ?_ | refine tN ?_ | refine dY ?_ | refine dN ?_ | (refine tell ?_ ?_ <;> intro hQ <;> try dsimp only at hQ)) | refine aS ?_ | refine ai ?_ | fail) <;> conv=>whnf)
 refine ⟨_,m_idle,(v,h,o,u,b,s,[x],q,op,r,false,oh,ov,oo,ou,on,oe),[],false,?_⟩
 conv=>whnf
 refine vcA trivial ?_
 refine uU ?_
 conv=>whnf
 conv=>whnf
 repeat' ((first | (refine (?_ : TG _ _); first | refine tY ?_ | refine tN ?_ | refine dY ?_ | refine dN ?_ | (refine tell ?_ ?_ <;> intro hQ <;> try dsimp only at hQ)) | refine aS ?_ | refine ai ?_ | fail) <;> conv=>whnf)
 refine ⟨_,m_fpath,l,[],false,?_⟩
 conv=>whnf
 refine vcA ⟨hl,hok⟩ ?_
 refine uU ?_
 conv=>whnf
 have hx0 : [x][0]? = some x:=rfl
 conv=>whnf
 repeat' ((first | (refine (?_ : TG _ _); first | refine tY ?_ | refine tN ?_ | refine dY ?_ | refine dN ?_ | (refine tell ?_ ?_ <;> intro hQ <;> try dsimp only at hQ)) | refine aS ?_ | refine aX hx ?_ | refine aL hx ?_ | refine aX hx0 ?_ | refine aL hx0 ?_ | refine ai ?_ | fail) <;> conv=>whnf)
 refine ⟨_,m_clI,l,[],false,?_⟩
 conv=>whnf
 refine vcA (show l.length ≤ 1000000000 by omega) ?_
 refine uU ?_
 conv=>whnf
 conv=>whnf
 repeat' ((first | (refine (?_ : TG _ _); first | refine tY ?_ | refine tN ?_ | refine dY ?_ | refine dN ?_ | (refine tell ?_ ?_ <;> intro hQ <;> try dsimp only at hQ)) | refine aS ?_ | refine ai ?_ | fail) <;> conv=>whnf)
 exact ⟨(),[],trivial,a3⟩
def ctl1 (c : CtlT) (goal : Int) : CtlT:=(c.1,c.2.1 + 1,c.2.2.1 + 1,0,c.2.2.2.2.1,c.2.2.2.2.2.1,c.2.2.2.2.2.2.1,0,c.2.2.2.2.2.2.2.2.1,min goal 63,c.2.2.2.2.2.2.2.2.2.2)
def spOver : Spec AF where
 γ:=CtlT × Txt × Int
 δ:=Bool
 args:=fun g=>[.ptr 0 0 17 0,vI 0,vI g.2.2]
 own:=fun g=>[.cells (ctlCs g.1)]
 pre:=fun g=>g.1.1 = bS g.2.1 ∧ (0 ≤ g.1.2.1 ∧ g.1.2.1 ≤ 1000000) ∧ (0 ≤ g.1.2.2.2.2.2.2.2.1 ∧ g.1.2.2.2.2.2.2.2.1 ≤ 1000) ∧ g.1.2.2.2.2.2.2.1.length ≤ 127 ∧ (∀ x ∈ g.1.2.2.2.2.2.2.1,InI x) ∧ (0 ≤ g.2.2 ∧ g.2.2 ≤ 63)
 res:=fun g c=>resO (ordOf (g.1.2.1 + 1,g.2.1,g.1.2.2.1,g.1.2.2.2.1,[],[]) g.1.2.2.2.2.2.2.1 g.1.2.2.2.2.2.2.2.1 (g.2.2 + 1)) c
 own':=fun g _=>[some (.cells (ctlCs (g.1.1,g.1.2.1 + 1,g.1.2.2)))]
 post:=fun g c=>(c = true ↔ PathOk g.1.2.2.2.2.2.2.1 ∧ RightO (ordOf (g.1.2.1 + 1,g.2.1,g.1.2.2.1,g.1.2.2.2.1,[],[]) g.1.2.2.2.2.2.2.1 g.1.2.2.2.2.2.2.2.1 (g.2.2 + 1)))
theorem order_ex (p : List Int) (o : OrdT) : ∃ c : Bool,c = true ↔ PathOk p ∧ RightO o:=by
 by_cases h : PathOk p ∧ RightO o
 ·exact ⟨true,by simp [h]⟩
 ·exact ⟨false,by simp [h]⟩
theorem m_over : Meets Tryz.prog regF 184 spOver:=by
 refine meets Tryz.func184 59 noWr ?_
 rintro ⟨⟨v,(h : Int),(o : Int),(u : Int),b,s,(p : List Int),(q : Int),op,r,(w : Bool),oh,ov,oo,ou,(on : List Stp),(oe : List Stp)⟩,(vl : Txt),(k : Int)⟩ ⟨(hv : v = bS vl),⟨(hh0 : 0 ≤ h),(hh1 : h ≤ 1000000)⟩,⟨(hq0 : 0 ≤ q),(hq1 : q ≤ 1000)⟩,(hp : p.length ≤ 127),(hi : ∀ x ∈ p,InI x),(hk0 : 0 ≤ k),(hk1 : k ≤ 63)⟩
 subst hv
 have eq0 : q + 2 * 0 = q:=by omega
 conv=>whnf
 repeat' ((first | (refine (?_ : TG _ _); first | refine tY ?_ | refine tN ?_ | refine dY ?_ | refine dN ?_ | (refine tell ?_ ?_ <;> intro hQ <;> try dsimp only at hQ)) | refine aS ?_ | refine ai ?_ | fail) <;> conv=>whnf)
 refine ⟨_,m_order,((h + 1,vl,o,u,[],[]),p,q,k + 1),[],false,?_⟩
 conv=>whnf
 refine vcA ⟨hp,hi,hq0,(show q ≤ 1000000 by omega)⟩ ?_
 refine And.intro (order_ex _ _) ?_
 intro (c : Bool) (hc : c = true ↔ PathOk p ∧ RightO (ordOf (h + 1,vl,o,u,[],[]) p q (k + 1)))
 cases c
 ·conv=>whnf
  repeat' ((first | (refine (?_ : TG _ _); first | refine tY ?_ | refine tN ?_ | refine dY ?_ | refine dN ?_ | (refine tell ?_ ?_ <;> intro hQ <;> try dsimp only at hQ)) | refine aS ?_ | refine ai ?_ | fail) <;> conv=>whnf)
  exact ⟨false,[],hc,a3⟩
 ·conv=>whnf
  repeat' ((first | (refine (?_ : TG _ _); first | refine tY ?_ | refine tN ?_ | refine dY ?_ | refine dN ?_ | (refine tell ?_ ?_ <;> intro hQ <;> try dsimp only at hQ)) | refine aS ?_ | refine ai ?_ | fail) <;> conv=>whnf)
  exact ⟨true,[],hc,a3⟩
end
end Go.Sx
namespace Go.Sx
noncomputable section
open Go Go.Proofs Go.Proofs.YtcehbnfhlcfinaaGreatDoor
open Go.Shelf
abbrev ord1 (c : CtlT) (vl : Txt) (goal : Int) : OrdT:=ordOf (c.2.1 + 1,vl,c.2.2.1 + 1,0,[],[]) c.2.2.2.2.2.2.1 0 (min goal 63 + 1)
def spFirst : Spec AF where
 γ:=CtlT × Txt × Int
 δ:=OrdT
 args:=fun g=>[.ptr 0 0 17 0,vI g.2.2]
 own:=fun g=>[.cells (ctlCs g.1)]
 pre:=fun g=>g.1.1 = bS g.2.1 ∧ (0 ≤ g.1.2.1 ∧ g.1.2.1 ≤ 1000000) ∧ (0 ≤ g.1.2.2.1 ∧ g.1.2.2.1 ≤ 1000000) ∧ g.1.2.2.2.2.2.2.1.length ≤ 127 ∧ (∀ x ∈ g.1.2.2.2.2.2.2.1,InI x) ∧ (0 ≤ g.2.2 ∧ g.2.2 ≤ 1000) ∧ PathOk g.1.2.2.2.2.2.2.1 ∧ RightO (ord1 g.1 g.2.1 g.2.2)
 res:=fun _ d=>.tup [ordS d,vB true]
 own':=fun g _=>[some (.cells (ctlCs (ctl1 g.1 g.2.2)))]
 post:=fun g d=>d = ord1 g.1 g.2.1 g.2.2
theorem m_first : Meets Tryz.prog regF 138 spFirst:=by
 refine meets Tryz.func138 38 noWr ?_
 rintro ⟨⟨v,(h : Int),(o : Int),(u : Int),b,s,(p : List Int),(q : Int),op,r,(w : Bool),oh,ov,oo,ou,(on : List Stp),(oe : List Stp)⟩,(vl : Txt),(g : Int)⟩ ⟨(hv : v = bS vl),⟨(hh0 : 0 ≤ h),(hh1 : h ≤ 1000000)⟩,⟨(ho0 : 0 ≤ o),(ho1 : o ≤ 1000000)⟩,(hp : p.length ≤ 127),(hi : ∀ x ∈ p,InI x),⟨(hg0 : 0 ≤ g),(hg1 : g ≤ 1000)⟩,hpo,hr⟩
 conv=>whnf
 repeat' ((first | (refine (?_ : TG _ _); first | refine tY ?_ | refine tN ?_ | refine dY ?_ | refine dN ?_ | (refine tell ?_ ?_ <;> intro hQ <;> try dsimp only at hQ)) | refine aS ?_ | refine ai ?_ | fail) <;> conv=>whnf)
 refine ⟨_,m_over,((v,h,o + 1,0,b,s,p,0,op,min g 63,w,oh,ov,oo,ou,on,oe),vl,min g 63),[0],false,?_⟩
 conv=>whnf
 refine vcA ⟨hv,⟨hh0,hh1⟩,(by show (0 : Int) ≤ 0 ∧ (0 : Int) ≤ 1000; decide),hp,hi,(show 0 ≤ min g 63 ∧ min g 63 ≤ 63 by omega)⟩ ?_
 conv=>whnf
 refine aV true ⟨fun _=>⟨hpo,hr⟩,fun _=>rfl⟩ fun (c : Bool) hc=>?_
 have hobt : c = true:=hc.2 ⟨hpo,hr⟩
 obtain rfl:=hobt
 conv=>whnf
 repeat' ((first | (refine (?_ : TG _ _); first | refine tY ?_ | refine tN ?_ | refine dY ?_ | refine dN ?_ | (refine tell ?_ ?_ <;> intro hQ <;> try dsimp only at hQ)) | refine aS ?_ | refine ai ?_ | fail) <;> conv=>whnf)
 exact ⟨ord1 (v,h,o,u,b,s,p,q,op,r,w,oh,ov,oo,ou,on,oe) vl g,[],rfl,a3⟩
abbrev ctl2 (c : CtlT) (goal : Int) (d : OrdT) : CtlT:=(c.1,c.2.1 + 1,c.2.2.1 + 1,0,c.2.2.2.2.1,c.2.2.2.2.2.1,c.2.2.2.2.2.2.1,0,true,min goal 63,true,d.1,bS d.2.1,d.2.2.1,d.2.2.2.1,d.2.2.2.2.1,d.2.2.2.2.2)
abbrev goalN (p : List Int) : Int:=(p.length : Int).tdiv 2
def spNext1 : Spec AF where
 γ:=CtlT × Txt
 δ:=OrdT
 args:=fun g=>[ctlS g.1,vI 0]
 pre:=fun g=>CLens g.1 ∧ g.1.1 = bS g.2 ∧ (0 ≤ g.1.2.1 ∧ g.1.2.1 ≤ 1000000) ∧ (0 ≤ g.1.2.2.1 ∧ g.1.2.2.1 ≤ 1000000) ∧ (3 ≤ g.1.2.2.2.2.2.2.1.length ∧ g.1.2.2.2.2.2.2.1.length ≤ 127) ∧ (∀ x ∈ g.1.2.2.2.2.2.2.1,InI x) ∧ PathOk g.1.2.2.2.2.2.2.1 ∧ g.1.2.2.2.2.2.2.2.2.1 = false ∧ 0 ≤ g.1.2.2.2.2.2.2.2.2.2.1 ∧ g.1.2.2.2.2.2.2.2.2.2.2.1 = false ∧ RightO (ord1 g.1 g.2 (goalN g.1.2.2.2.2.2.2.1))
 res:=fun g d=>.tup [ctlS (ctl2 g.1 (goalN g.1.2.2.2.2.2.2.1) d),ordS d,vB true]
 post:=fun g d=>d = ord1 g.1 g.2 (goalN g.1.2.2.2.2.2.2.1)
theorem m_next1 : Meets Tryz.prog regF 102 spNext1:=by
 refine meets Tryz.func102 111 noWr ?_
 rintro ⟨⟨v,(h : Int),(o : Int),(u : Int),b,s,(p : List Int),(q : Int),(op : Bool),(r : Int),(w : Bool),oh,ov,oo,ou,(on : List Stp),(oe : List Stp)⟩,(vl : Txt)⟩ ⟨hc,(hv : v = bS vl),⟨(hh0 : 0 ≤ h),(hh1 : h ≤ 1000000)⟩,⟨(ho0 : 0 ≤ o),(ho1 : o ≤ 1000000)⟩,⟨(hp3 : 3 ≤ p.length),(hp : p.length ≤ 127)⟩,(hi : ∀ x ∈ p,InI x),(hpo : PathOk p),(hop : op = false),(hr0 : 0 ≤ r),(hw : w = false),hr⟩
 subst hop hw
 have hg : goalN p = ((p.length / 2 : Nat) : Int):=by show (p.length : Int).tdiv 2 = _; rw [Int.tdiv_eq_ediv_of_nonneg (by omega)]; omega
 have hg0 : 0 < (p.length : Int).tdiv 2:=by show 0 < goalN p; rw [hg]; omega
 conv=>whnf
 repeat' ((first | (refine (?_ : TG _ _); first | refine tY ?_ | refine tN ?_ | refine dY ?_ | refine dN ?_ | (refine tell ?_ ?_ <;> intro hQ <;> try dsimp only at hQ)) | refine aS ?_ | refine ai ?_ | fail) <;> conv=>whnf)
 refine ⟨_,m_own,(v,h,o,u,b,s,p,q,false,r,false,oh,ov,oo,ou,on,oe),[],false,?_⟩
 conv=>whnf
 refine vcA hc ?_
 refine uU ?_
 conv=>whnf
 conv=>whnf
 repeat' ((first | (refine (?_ : TG _ _); first | refine tY ?_ | refine tN ?_ | refine dY ?_ | refine dN ?_ | (refine tell ?_ ?_ <;> intro hQ <;> try dsimp only at hQ)) | refine aS ?_ | refine ai ?_ | fail) <;> conv=>whnf)
 refine ⟨_,m_fright,(v,h,o,u,b,s,p,q,false,r,false,oh,ov,oo,ou,on,oe),[],false,?_⟩
 conv=>whnf
 refine vcA ⟨hc.1,hpo,hr0⟩ ?_
 refine uU ?_
 conv=>whnf
 conv=>whnf
 repeat' ((first | (refine (?_ : TG _ _); first | refine tY ?_ | refine tN ?_ | refine dY ?_ | refine dN ?_ | (refine tell ?_ ?_ <;> intro hQ <;> try dsimp only at hQ)) | refine aS ?_ | refine ai ?_ | fail) <;> conv=>whnf)
 refine ⟨_,m_first,((v,h,o,u,b,s,p,q,false,r,false,oh,ov,oo,ou,on,oe),vl,goalN p),[1013],false,?_⟩
 conv=>whnf
 refine vcA ⟨hv,⟨hh0,hh1⟩,⟨ho0,ho1⟩,hp,hi,(show 0 ≤ goalN p ∧ goalN p ≤ 1000 by rw [hg]; omega),hpo,hr⟩ ?_
 conv=>whnf
 refine aV _ rfl fun (d : OrdT) (hd : d = ord1 (v,h,o,u,b,s,p,q,false,r,false,oh,ov,oo,ou,on,oe) vl (goalN p))=>?_
 have hl : d.2.2.2.2.1.length ≤ 1000000 ∧ d.2.2.2.2.2.length ≤ 1000000:=by
  rw [hd]
  show (nodesN p 0 (min (goalN p) 63 + 1) ((p.length + 1) / 2)).length ≤ 1000000 ∧ (edgesN p 0 (min (goalN p) 63 + 1) (p.length / 2)).length ≤ 1000000
  rw [nodesN_len,edgesN_len]
  omega
 obtain ⟨dh,dv,dd,du,dn,de⟩:=d
 conv=>whnf
 repeat' ((first | (refine (?_ : TG _ _); first | refine tY ?_ | refine tN ?_ | refine dY ?_ | refine dN ?_ | (refine tell ?_ ?_ <;> intro hQ <;> try dsimp only at hQ)) | refine aS ?_ | refine ai ?_ | fail) <;> conv=>whnf)
 refine ⟨_,m_ofresh,(dh,dv,dd,du,dn,de),[],false,?_⟩
 conv=>whnf
 refine vcA hl ?_
 refine uU ?_
 conv=>whnf
 conv=>whnf
 repeat' ((first | (refine (?_ : TG _ _); first | refine tY ?_ | refine tN ?_ | refine dY ?_ | refine dN ?_ | (refine tell ?_ ?_ <;> intro hQ <;> try dsimp only at hQ)) | refine aS ?_ | refine ai ?_ | fail) <;> conv=>whnf)
 exact ⟨(dh,dv,dd,du,dn,de),[],hd,a3⟩
end
end Go.Sx
namespace Go.Proofs
open Go.Shelf
def TabK.sortedA_ren : Go.Shelf.Ren:=⟨fun | 6=>61 | 8=>93 | 9=>94 | 11=>122 | 13=>124 | 12=>123 | 23=>170 | 24=>171 | 14=>161 | 15=>162 | 16=>163 | 17=>164 | 18=>165 | 19=>166 | 20=>167 | 21=>168 | 22=>169 | 25=>201 | 26=>202 | 27=>203 | 28=>204 | 29=>205 | 30=>206 | 31=>238 | n=>n,fun | 26=>3 | 28=>174 | 24=>51 | 0=>0 | 3=>3 | 37=>206 | 48=>97 | 50=>294 | 4=>4 | 40=>287 | 39=>286 | 45=>127 | 5=>5 | 9=>9 | 51=>333 | 55=>307 | 57=>363 | 58=>364 | 33=>77 | n=>n,fun | n=>n⟩
theorem TabK.sortedA : Go.Proofs.SlLaysZI.n6 Tryz.prog TabK.sortedA_ren:={
 mixed:=by kernel_rfl
 f6:=⟨Tryz.f61.name,by decide,Tryz.func61.trans (congrArg some (by kernel_rfl))⟩
 f8:=⟨Tryz.f93.name,by decide,Tryz.func93.trans (congrArg some (by kernel_rfl))⟩
 f11:=⟨Tryz.f122.name,by decide,Tryz.func122.trans (congrArg some (by kernel_rfl))⟩
 t0:=Tryz.underlying0
 a0:=Tryz.isAgg0
 z0:=Tryz.sizeOf0
 v0:=Tryz.zeroValue0
 t24:=Tryz.underlying51
 a24:=Tryz.isAgg51
 z24:=Tryz.sizeOf51
 v24:=Tryz.zeroValue51
 t26:=Tryz.underlying3
 a26:=Tryz.isAgg3
 z26:=Tryz.sizeOf3
 v26:=Tryz.zeroValue3
 t28:=Tryz.underlying174
 a28:=Tryz.isAgg174
 z28:=Tryz.sizeOf174
 v28:=Tryz.zeroValue174
 i26:=by kernel_rfl }
def TabK.sortA_ren : Go.Shelf.Ren:=⟨fun | 5=>94 | 8=>124 | 7=>123 | 19=>170 | 20=>171 | 10=>161 | 11=>162 | 12=>163 | 13=>164 | 14=>165 | 15=>166 | 16=>167 | 17=>168 | 18=>169 | 30=>201 | 31=>202 | 32=>203 | 33=>204 | 34=>205 | 35=>206 | 40=>238 | n=>n,fun | 23=>51 | 25=>3 | 3=>3 | 32=>206 | 22=>51 | 0=>0 | 44=>97 | 46=>294 | 4=>4 | 36=>287 | 35=>286 | 41=>127 | 5=>5 | 9=>9 | 53=>333 | 57=>307 | 63=>363 | 64=>364 | n=>n,fun | n=>n⟩
theorem TabK.sortA : Go.Proofs.SlLaysM.n5 Tryz.prog TabK.sortA_ren:={
 mixed:=by kernel_rfl
 f5:=⟨Tryz.f94.name,by decide,Tryz.func94.trans (congrArg some (by kernel_rfl))⟩
 f7:=⟨Tryz.f123.name,by decide,Tryz.func123.trans (congrArg some (by kernel_rfl))⟩
 f8:=Tryz.func124.trans (congrArg some (by kernel_rfl))
 f10:=⟨Tryz.f161.name,by decide,Tryz.func161.trans (congrArg some (by kernel_rfl))⟩
 f11:=⟨Tryz.f162.name,by decide,Tryz.func162.trans (congrArg some (by kernel_rfl))⟩
 f12:=⟨Tryz.f163.name,by decide,Tryz.func163.trans (congrArg some (by kernel_rfl))⟩
 f13:=⟨Tryz.f164.name,by decide,Tryz.func164.trans (congrArg some (by kernel_rfl))⟩
 f14:=⟨Tryz.f165.name,by decide,Tryz.func165.trans (congrArg some (by kernel_rfl))⟩
 f15:=⟨Tryz.f166.name,by decide,Tryz.func166.trans (congrArg some (by kernel_rfl))⟩
 f16:=⟨Tryz.f167.name,by decide,Tryz.func167.trans (congrArg some (by kernel_rfl))⟩
 f17:=⟨Tryz.f168.name,by decide,Tryz.func168.trans (congrArg some (by kernel_rfl))⟩
 f18:=⟨Tryz.f169.name,by decide,Tryz.func169.trans (congrArg some (by kernel_rfl))⟩
 f19:=Tryz.func170.trans (congrArg some (by kernel_rfl))
 f20:=Tryz.func171.trans (congrArg some (by kernel_rfl))
 f30:=⟨Tryz.f201.name,by decide,Tryz.func201.trans (congrArg some (by kernel_rfl))⟩
 f31:=Tryz.func202.trans (congrArg some (by kernel_rfl))
 f32:=Tryz.func203.trans (congrArg some (by kernel_rfl))
 f33:=⟨Tryz.f204.name,by decide,Tryz.func204.trans (congrArg some (by kernel_rfl))⟩
 f34:=⟨Tryz.f205.name,by decide,Tryz.func205.trans (congrArg some (by kernel_rfl))⟩
 f35:=⟨Tryz.f206.name,by decide,Tryz.func206.trans (congrArg some (by kernel_rfl))⟩
 f40:=⟨Tryz.f238.name,by decide,Tryz.func238.trans (congrArg some (by kernel_rfl))⟩
 t0:=Tryz.underlying0
 a0:=Tryz.isAgg0
 z0:=Tryz.sizeOf0
 v0:=Tryz.zeroValue0
 t3:=Tryz.underlying3
 a3:=Tryz.isAgg3
 z3:=Tryz.sizeOf3
 v3:=Tryz.zeroValue3
 t4:=Tryz.underlying4
 a4:=Tryz.isAgg4
 z4:=Tryz.sizeOf4
 v4:=Tryz.zeroValue4
 t5:=Tryz.underlying5
 a5:=Tryz.isAgg5
 z5:=Tryz.sizeOf5
 v5:=Tryz.zeroValue5
 t9:=Tryz.underlying9
 a9:=Tryz.isAgg9
 z9:=Tryz.sizeOf9
 v9:=Tryz.zeroValue9
 t22:=Tryz.underlying51
 a22:=Tryz.isAgg51
 z22:=Tryz.sizeOf51
 v22:=Tryz.zeroValue51
 t23:=Tryz.underlying51
 a23:=Tryz.isAgg51
 z23:=Tryz.sizeOf51
 v23:=Tryz.zeroValue51
 t25:=Tryz.underlying3
 a25:=Tryz.isAgg3
 z25:=Tryz.sizeOf3
 v25:=Tryz.zeroValue3
 t32:=Tryz.underlying206
 a32:=Tryz.isAgg206
 z32:=Tryz.sizeOf206
 v32:=Tryz.zeroValue206
 t35:=Tryz.underlying286
 a35:=Tryz.isAgg286
 z35:=Tryz.sizeOf286
 v35:=Tryz.zeroValue286
 t36:=Tryz.underlying287
 a36:=Tryz.isAgg287
 z36:=Tryz.sizeOf287
 v36:=Tryz.zeroValue287
 t41:=Tryz.underlying127
 a41:=Tryz.isAgg127
 z41:=Tryz.sizeOf127
 v41:=Tryz.zeroValue127
 t44:=Tryz.underlying97
 a44:=Tryz.isAgg97
 z44:=Tryz.sizeOf97
 v44:=Tryz.zeroValue97
 t46:=Tryz.underlying294
 a46:=Tryz.isAgg294
 z46:=Tryz.sizeOf294
 v46:=Tryz.zeroValue294
 t53:=Tryz.underlying333
 a53:=Tryz.isAgg333
 z53:=Tryz.sizeOf333
 v53:=Tryz.zeroValue333
 t57:=Tryz.underlying307
 a57:=Tryz.isAgg307
 z57:=Tryz.sizeOf307
 v57:=Tryz.zeroValue307
 t63:=Tryz.underlying363
 a63:=Tryz.isAgg363
 z63:=Tryz.sizeOf363
 v63:=Tryz.zeroValue363
 t64:=Tryz.underlying364
 a64:=Tryz.isAgg364
 z64:=Tryz.sizeOf364
 v64:=Tryz.zeroValue364 }
end Go.Proofs
namespace Go.Sx
noncomputable section
open Go Go.Proofs Go.Proofs.YtcehbnfhlcfinaaGreatDoor
open Go.RowKit Go.Maps Go.Sort Go.Shelf Go.WideElems
theorem sorts_in (m : Nat) : AnyZI.SortsIn Tryz.prog TabK.sortedA_ren Fence.wide m :=
  ⟨fun blk off cap ss W hH hblk hsz => callsIn_wide.2 (AnyM.slices_Sort_int TabK.sortA blk off cap ss W hH hblk hsz),
   fun p cap W => callsIn_wide.2 (AnyM.slices_Sort_int_none TabK.sortA p cap W)⟩
set_option maxRecDepth 100000 in
theorem keysOff {H : Type} (n : Nat) (hn : 1 ≤ n) (l Bm off b nn : Nat) (D0 : DataW H) {R : Value → Option (DataW H × List MemPlace)} (J : List Int → World → Prop)
  (hY : ∀ pre x W,J pre W → pre.length < Maps.size D0 → YieldAt Fence.wide (n - 1) Tryz.prog l #[encZ x] W fun e W'=>e = .returned (.bool true) ∧ J (pre ++ [x]) W' ∧ KeepsWalks W W')
  (W : World) (hJ : AbidesFrom W.heap.size J) (hm : W.cell? ⟨Bm,off,none⟩ = some (.map (some b))) (hown : W.ownsMap Tryz.prog 3 R b nn D0) (h0 : J [] W) :
  CallsIn Fence.wide n Tryz.prog 95 #[.func (.yield l) #[] #[],.pointer (some ⟨Bm,off,none⟩)] W fun e W'=>(∃ v,e = .returned v) ∧ ∃ ss : List Int,ss.Perm (intKeys D0) ∧ J ss W':=by
 have und3T:=Tryz.underlying3
 have und114T:=Tryz.underlying176
 refine callsIn_of_wp Tryz.func95 rfl trivial ?_ rfl
 simp only [Tryz.ntmps95,List.size_toArray,List.length_cons,List.length_nil,Nat.reduceAdd,Nat.reduceSub,Array.replicate_succ,Array.replicate_zero,List.push_toArray,List.append_toArray,List.nil_append,List.cons_append]
 gi_wp2_with (first
  | (gi_at_range; refine wpListIn_range_own _ rfl _ 176 rfl 3 3 (int_keyed und3T) und114T _ b nn _ rfl hown ?_; intro w0 hrg0 hg0 hs0)
  | gi_in)
 go_frame
 gi_loopw [3] (fun _ wr=>∃ (left : Lit → Bool) (cnt : Nat) (ss : List Int),wr.ranges Tryz.prog 3 R b W.heap.size nn D0 left cnt ∧ ss.length + cnt ≤ Maps.size D0 ∧ CollectedI D0 left ss ∧ J ss wr)
  (fun _ wr=>wr.rangeLeft b W.heap.size)
 case atStart=>
  exact ⟨_,_,[],hrg0,by simp,CollectedI.start D0,hJ [] W w0 none h0 hg0 (fun r e=>by cases e)⟩
 case round=>
  obtain ⟨left,cnt,ss,hrg,hcs,hC,hJs⟩:=hrel
  gi_wp2_with (first
   | (gi_at_next; refine wpListIn_next_ranges _ rfl _ rfl 3 (int_keyed und3T) R encZ id (fun key kl hk=>by obtain ⟨x,hx,_⟩:=Maps.keyOf_i64 und3T hk; exact ⟨x,hx⟩) (fun v _ _=>⟨v,rfl⟩) b W.heap.size nn _ _ _ rfl hrg ?_ ?_)
   | gi_in)
  ·intro hc0 hl0
   gi_wp2
   go_end0
   exact ⟨⟨_,rfl⟩,ss,hC.perm hown (int_keyed und3T) und3T hl0,hJs⟩
  ·intro x c kl yd yp w2 cnt2 hkey hlk hv hat hrg2 hlt hg2 hs2 hen
   have hobt:=Maps.keyOf_i64 und3T hkey
   obtain ⟨x',ex,rfl,_⟩:=hobt
   have hobt : x = x':=encZ_inj ex
   obtain rfl:=hobt
   have hJ2 : J ss w2:=hJ ss wr w2 (some W.heap.size) hJs hg2 (fun r e=>by cases e; exact ⟨Nat.le_refl _,hrg.iter_walk⟩)
   have hobt:=hY ss x w2 hJ2 (by omega)
   obtain ⟨fn,tmps,assign,body,hy,hR⟩:=hobt
   clear hs2
   gi_wp2
   refine hR.mono ?_
   rintro e W3 ⟨rfl,hJ3,hk3⟩
   gi_wp2
   have hrg3:=hrg2.of_walks hk3
   go_roundw
   case rel=>exact ⟨_,cnt2,ss ++ [x],hrg3,by simp; omega,hC.step hlk hat,hJ3⟩
   case measure=>rw [hrg3.left_eq,hrg.left_eq]; exact hlt
theorem keyLit {x : Int} (h : InI x) : keyOf Tryz.prog 3 (.int .i64 x) = some (.int .i64 x):=by
 have hobt:=keys_of3 x h
 obtain ⟨l,hl⟩:=hobt
 have hobt:=Maps.keyOf_i64 Tryz.underlying3 hl
 obtain ⟨y,hy,rfl,_⟩:=hobt
 cases hy
 exact hl
theorem insert_perm {H : Type} (x : Lit × DataW H) : ∀ l : List (Lit × DataW H),(DataW.insert x l).Perm (x :: l)
 | []=>List.Perm.refl _
 | y :: r=>by
  unfold DataW.insert
  split
  ·exact List.Perm.refl _
  ·exact ((insert_perm x r).cons y).trans (List.Perm.swap x y r)
theorem inserts_perm {H : Type} : ∀ l : List (Lit × DataW H),(l.foldr DataW.insert []).Perm l
 | []=>List.Perm.refl _
 | x :: l=>(insert_perm x _).trans ((inserts_perm l).cons x)
theorem rep_owns {w : World} {b : Nat} {es : List (Int × Int)} {mes : Array MapEntry} {cl : Nat} (hb : w.heap[b]? = some (.map mes cl)) (hm : MapRep regF 3 3 es mes cl) (hl : es.length ≤ maxLen) :
  ∃ (D0 : DataW Unit),w.ownsMap Tryz.prog 3 (fun _=>some (.nil,[])) b mes.size D0 ∧ (intKeys D0).Perm (es.map (·.1)) ∧ Maps.size D0 = es.length:=by
 have hlen : mes.toList.length = es.length:=by have:=congrArg List.length hm.ents; simpa using this
 have at_ : ∀ (j : Nat) (e : MapEntry),mes.toList[j]? = some e → ∃ p,es[j]? = some p ∧ e.key = .int .i64 p.1 ∧ InI p.1:=fun j e he=>by
  have h1:=congrArg (fun l=>l[j]?) hm.ents
  simp only [List.getElem?_map] at h1
  rw [he] at h1
  cases hp : es[j]? with
  | none=>rw [hp] at h1; cases h1
  | some p=>
   rw [hp] at h1
   have h2:=(Prod.mk.inj (Option.some.inj h1)).1
   have h3 : keyVal regF 3 p.1 = some (.int .i64 p.1):=rfl
   rw [h3] at h2
   exact ⟨p,rfl,Option.some.inj h2,hm.good p (List.mem_of_getElem? hp)⟩
 have hrd : ∀ e ∈ mes.toList,∃ x : Int,e.key = .int .i64 x ∧ rd (H:=Unit) Tryz.prog 3 (fun _=>some (.nil,[])) e = some (.int .i64 x,.nil):=fun e he=>by
  have hobt:=List.getElem?_of_mem he
  obtain ⟨j,hj⟩:=hobt
  have hobt:=at_ j e hj
  obtain ⟨p,_,hk,hi⟩:=hobt
  refine ⟨p.1,hk,?_⟩
  obtain ⟨key,val,born⟩:=e
  dsimp only at hk
  subst hk
  exact rd_mk (R:=fun _=>some (.nil,[])) (yv:=(.nil,[])) (keyLit hi) rfl
 have hnd : (mes.toList.map (·.key)).Nodup:=by
  have : mes.toList.map (·.key) = (es.map (·.1)).map fun x : Int=>Value.int .i64 x:=by
   apply List.ext_getElem?
   intro j
   rw [List.getElem?_map,List.map_map,List.getElem?_map]
   cases he : mes.toList[j]? with
   | none=>rw [List.getElem?_eq_none (by rw [← hlen]; simpa using he)]; rfl
   | some e=>
    have hobt:=at_ j e he
    obtain ⟨p,hp,hk,_⟩:=hobt
    rw [hp]; simp [hk]
  rw [this]
  exact List.pairwise_map.2 (hm.nodup.imp fun h e=>h (by simpa using e))
 have F : Fit (H:=Unit) Tryz.prog 3 (fun _=>some (.nil,[])) mes cl:=by
  refine ⟨by rw [← Array.length_toList,hlen]; exact hl,⟨hm.born,?_,hnd⟩,fun e he=>?_⟩
  ·exact List.pairwise_map.2 (hm.rise.imp fun h e=>by omega)
  ·have hobt:=hrd e he
   obtain ⟨x,_,h⟩:=hobt
   exact ⟨_,h⟩
 refine ⟨_,World.ownsMap_of_fit hb F (fun _ _ _ h=>h),?_,?_⟩
 ·refine ((inserts_perm _).map fun p : Lit × DataW Unit=>intOf p.1).trans (List.Perm.of_eq ?_)
  apply List.ext_getElem?
  intro j
  rw [List.map_map,List.getElem?_map,List.getElem?_map]
  cases he : mes.toList[j]? with
  | none=>rw [List.getElem?_eq_none (by rw [← hlen]; simpa using he)]; rfl
  | some e=>
   have hobt:=at_ j e he
   obtain ⟨p,hp,hk,_⟩:=hobt
   have hobt:=hrd e (List.mem_of_getElem? he)
   obtain ⟨x,hx,h⟩:=hobt
   rw [hk] at hx; cases hx
   rw [hp]
   simp [rg_of h,intOf]
 ·show ((mes.toList.map _).foldr DataW.insert []).length = es.length
  rw [length_sorted,List.length_map,hlen]
def sortK (es : List (Int × Int)) : List Int:=(es.map (·.1)).mergeSort fun x y=>decide (x ≤ y)
theorem sortK_of {ss : List Int} {es : List (Int × Int)} (h : ss.Perm (es.map (·.1))) : ss.mergeSort (fun x y=>decide (x ≤ y)) = sortK es:=by
 refine List.Perm.eq_of_pairwise (le:=fun x y : Int=>x ≤ y) (fun a b _ _ h1 h2=>Int.le_antisymm h1 h2) ?_ ?_ ?_
 ·have:=List.pairwise_mergeSort (le:=fun x y : Int=>decide (x ≤ y)) (by simp; omega) (by simp; omega) ss
  exact this.imp fun h=>by simpa using h
 ·have:=List.pairwise_mergeSort (le:=fun x y : Int=>decide (x ≤ y)) (by simp; omega) (by simp; omega) (es.map (·.1))
  exact this.imp fun h=>by simpa using h
 ·exact (List.mergeSort_perm ss _).trans (h.trans (List.mergeSort_perm _ _).symm)
def spKeys : Spec AF where
 γ:=List (Int × Int)
 args:=fun _=>[.mp 0]
 own:=fun es=>[.map 3 3 es]
 nnew:=1
 res:=fun _ _=>.fn (.func 95) [] [.ptr 1 0 1 0]
 own':=fun es _=>[some (.map 3 3 es),some (.cells [.mp 0])]
theorem m_keys : Meets Tryz.prog regF 62 spKeys:=by
 refine meets Tryz.func62 4 noWr ?_
 rintro (es : List (Int × Int)) _
 conv=>whnf
 repeat' ((first | (refine (?_ : TG _ _); first | refine tY ?_ | refine tN ?_ | refine dY ?_ | refine dN ?_ | (refine tell ?_ ?_ <;> intro hQ <;> try dsimp only at hQ)) | refine aS ?_ | refine ai ?_ | fail) <;> conv=>whnf)
 exact ⟨(),[1001],trivial,rfl,⟨rfl,⟨⟨rfl,trivial⟩,trivial⟩⟩,trivial⟩
def spSorted : Spec AF where
 γ:=List (Int × Int)
 args:=fun _=>[.fn (.func 95) [] [.ptr 1 0 1 0]]
 own:=fun es=>[.map 3 3 es,.cells [.mp 0]]
 pre:=fun es=>es.length ≤ 17592186044416
 res:=fun es _=>.lst 3 (sortK es)
 own':=fun es _=>[some (.map 3 3 es),some (.cells [.mp 0])]
theorem sortK_len (es : List (Int × Int)) : (sortK es).length = es.length:=by unfold sortK; rw [List.length_mergeSort,List.length_map]
theorem m_sorted : Meets Tryz.prog regF 61 spSorted:=by
 refine ⟨⟨_,Tryz.func61,by kernel_rfl,by kernel_rfl⟩,?_⟩
 intro (es : List (Int × Int)) (hlen : es.length ≤ 17592186044416) X ρ w vs hX1 hX2 hargs hown
 have hobt:=Array.size_eq_one_iff.1 (show vs.size = 1 by have h:=hargs.1; simp [spSorted] at h; exact h.symm)
 obtain ⟨v0,rfl⟩:=hobt
 have hv : Den regF ρ _ w (.fn (.func 95) [] [.ptr 1 0 1 0]) v0:=hargs.2 0 _ v0 rfl rfl
 have h1 : DenCt regF ρ _ w (.cells [.mp 0]) (ρ 1):=hown.den 1 _ rfl
 have h0 : DenCt regF ρ _ w (.map 3 3 es) (ρ 0):=hown.den 0 _ rfl
 cases hv with
 | fn _ _ _ us cs hl1 hd1 hl2 hd2=>
 have hobt : us = #[]:=Array.eq_empty_of_size_eq_zero (by simpa using hl1.symm)
 obtain rfl:=hobt
 have hobt:=Array.size_eq_one_iff.1 (show cs.size = 1 by simpa using hl2.symm)
 obtain ⟨u,rfl⟩:=hobt
 have hu:=hd2 0 _ u rfl rfl
 clear hd1 hd2 hl1 hl2 hargs
 cases hu with
 | ptr _ _ _ _ b1 base1 hr1=>
 rw [hr1] at h1
 rcases h1 with (⟨_,_,_,e,_⟩ | ⟨_,_,e,_⟩) | ⟨_,c1,E1,fz1,hb1,hfz1,hszp,hc1⟩
 ·cases e
 ·cases e
 have hsz1 : base1 + 1 ≤ c1.size:=hszp.1
 have hcv : c1[base1]? = some c1[base1]:=Array.getElem?_eq_getElem (by omega)
 have hobt:=mp_inv (hc1 0 (.mp 0) c1[base1] rfl (by simp))
 obtain ⟨b0,base0,ev,hr0⟩:=hobt
 rw [ev] at hcv
 rw [hr0] at h0
 rcases h0 with (⟨K,V,es',e,mes,cl,hb0,hm⟩ | ⟨_,_,e,_⟩) | ⟨e,_⟩
 rotate_left
 ·cases e
 ·cases e
 cases e
 have hcell : w.cell? ⟨b1,base1 + (0 * 1 + 0),none⟩ = some (.map (some b0)):=by simp [World.cell?,hb1,hcv]
 have hobt:=rep_owns hb0 hm (by unfold maxLen; omega)
 obtain ⟨D0,hown0,hperm,hsize⟩:=hobt
 have hlt1:=lt_of_heap hb1
 have hlt0:=lt_of_heap hb0
 have hseq : SeqGives Fence.wide 2 Tryz.prog 95 #[.pointer (some ⟨b1,base1 + (0 * 1 + 0),none⟩)] encZ (fun ss=>ss.Perm (intKeys D0)) (Maps.size D0) w:=fun l J W hW hJ hY hJ0=>by
  have hownW : W.ownsMap Tryz.prog 3 (fun _=>some (.nil,[])) b0 mes.size D0:=by
   obtain ⟨es2,clock,hb,Ft,hs,hD⟩:=hown0
   exact ⟨es2,clock,(hW.block b0 hlt0).trans hb,Ft,hs,hD⟩
  exact keysOff 2 (by omega) l b1 _ b0 mes.size D0 J hY W hJ ((hW.cell (p:=⟨b1,base1 + (0 * 1 + 0),none⟩) hlt1).trans hcell) hownW hJ0
 have cS : CallsIn Fence.wide 5 Tryz.prog 61 #[.func (.func 95) #[] #[.pointer (some ⟨b1,base1 + (0 * 1 + 0),none⟩)]] w _:=
  AnyZI.sorted_in TabK.sortedA Fence.wide 5 trivial trivial trivial trivial rfl (by omega) (sorts_in _) (enters_of Tryz.func94 (by kernel_rfl) rfl) 95 _ trivial (enters_of Tryz.func95 (by kernel_rfl) rfl) _ (Maps.size D0) (by rw [hsize]; unfold maxLen; omega) (by rw [hsize]; omega) w hseq
 refine (callsIn_wide.1 cS).mono ?_
 rintro e w' ⟨v,ss,rfl,hS,hrow,hnil,hb⟩
 have hp:=hS.trans hperm
 have hlss : ss.length = (sortK es).length:=by rw [sortK_len,hp.length_eq,List.length_map]
 rw [sortK_of hp,hlss] at hrow
 have hnew : ∀ b,w.heap.size ≤ b → ¬ (X b ∨ Blk (spSorted.own' es ()) ρ b):=fun b hbs h=>by
  rcases h with h | ⟨h,ct,base,hh,hr⟩
  ·have:=hX1 b h; omega
  ·match h with
   | 0=>rw [hr0] at hr; cases hr; omega
   | 1=>rw [hr1] at hr; cases hr; omega
   | h + 2=>simp [spSorted] at hh
 refine ⟨(),ρ,v,trivial,rfl,fun _ _=>rfl,?_,⟨fun h ct hh=>?_,fun h h' ct ct' b bs bs' g1 g2=>hown.inj h h' ct ct' b bs bs' g1 g2⟩,fun b hbl=>⟨.inl hbl,fun hx=>hX2 b hx hbl⟩,rfl,rfl,fun h ct hh=>?_,
  ⟨hb.os,hb.tape,hb.output,hb.size,fun k hk _=>hb.block k hk,fun b c E fz h=>⟨c,fz,(hb.block b (lt_of_heap h)).trans h,rfl⟩⟩⟩
 ·show Den regF ρ _ w' (.lst 3 (sortK es)) v
  rcases hrow.2 with ⟨rfl,hz⟩ | ⟨g,cap,cur,rfl,hbase,hg,r1,r2,r3,r4⟩
  ·rw [List.length_eq_zero_iff.1 hz]
   exact .lnil 3 0 rfl
  ·refine Den.lst (A:=AF) (R:=regF) 3 (sortK es : List (AF 3)) g 0 cap cur 3 (0,0) (fun i _=>.int .i64 ((sortK es).getD i 0)) (hnew g hbase) hg (by exact r1) (fun i x hx j hj=>?_) (fun i x hx j s hs=>?_)
   ·have hj : j = 0:=by have : j < 1:=hj; omega
    subst hj
    have hx : (sortK es)[i]? = some x:=hx
    have hil:=(List.getElem?_eq_some_iff.1 hx).1
    have h4:=congrArg (fun l=>l[i]?) r4
    simp only [List.getElem?_map,hx,Option.map_some] at h4
    rw [List.getElem?_take_of_lt (by omega),Array.getElem?_toList] at h4
    have hsz : regF.sz 3 = 1:=rfl
    rw [hsz,Nat.zero_add,Nat.mul_one,Nat.add_zero,h4]
    simp [List.getD,hx,encZ]
   ·have hx : (sortK es)[i]? = some x:=hx
    have hs : ([.val (.int .i64 x)] : List (SV AF))[j]? = some s:=hs
    match j with
    | 0=>
     simp at hs; subst hs
     simp only [List.getD,hx,Option.getD_some]
     exact .val _
    | j + 1=>simp at hs
 ·match h with
  | 0=>
   have hh : some (some (Ct.map (A:=AF) 3 3 es)) = some (some ct):=hh
   cases hh
   rw [hr0]
   exact .inl (.inl ⟨3,3,es,rfl,mes,cl,(hb.block b0 hlt0).trans hb0,hm⟩)
  | 1=>
   have hh : some (some (Ct.cells (A:=AF) [.mp 0])) = some (some ct):=hh
   cases hh
   rw [hr1]
   refine .inr ⟨rfl,c1,E1,fz1,(hb.block b1 hlt1).trans hb1,hfz1,hszp,fun j s u hs hu=>?_⟩
   have hs : ([.mp 0] : List (SV AF))[j]? = some s:=hs
   match j with
   | 0=>
    simp at hs; subst hs
    rw [Nat.add_zero,hcv] at hu; cases hu
    exact .mp 0 b0 base0 hr0
   | j + 1=>simp at hs
  | h + 2=>simp [spSorted] at hh
 ·match h with
  | 0=>
   have hh : some (some (Ct.map (A:=AF) 3 3 es)) = some (some ct):=hh
   cases hh; rfl
  | 1=>
   have hh : some (some (Ct.cells (A:=AF) [.mp 0])) = some (some ct):=hh
   cases hh; rfl
  | h + 2=>simp [spSorted] at hh
abbrev TM:=List (Int × Int)
abbrev tabC : Ct AF:=.cells [.mp 1]
def lookT (es : TM) (x : Int) : Option Int:=look regF 3 3 es x
def insT (es : TM) (x w : Int) : TM:=ins regF 3 3 es x w
def InL (l : List Int) : Prop:=l.length ≤ 9223372036854775807 ∧ ∀ x ∈ l,InI x
def spTNew : Spec AF where
 γ:=Unit
 args:=fun _=>[]
 nnew:=2
 res:=fun _ _=>.ptr 0 0 1 0
 own':=fun _ _=>[some tabC,some (.map 3 3 [])]
theorem m_tnew : Meets Tryz.prog regF 44 spTNew:=by
 refine meets Tryz.func44 4 noWr ?_
 intro (g : Unit) hg
 conv=>whnf
 repeat' ((first | (refine (?_ : TG _ _); first | refine tY ?_ | refine tN ?_ | refine dY ?_ | refine dN ?_ | (refine tell ?_ ?_ <;> intro hQ <;> try dsimp only at hQ)) | refine aS ?_ | refine ai ?_ | fail) <;> conv=>whnf)
 exact ⟨(),[1003,1001],trivial,rfl,⟨⟨rfl,trivial⟩,rfl,trivial⟩,trivial⟩
def ClaimOk (es : TM) (who : Int) (l : List Int) : Prop:=∀ x ∈ l,∀ w,lookT es x = some w → w = who
def claimL (who : Int) (es : TM) (l : List Int) : TM:=l.foldl (fun es x=>insT es x who) es
def spClaim : Spec AF where
 γ:=TM × Int × List Int
 δ:=Bool
 args:=fun g=>[.ptr 0 0 1 0,vI g.2.1,.lst 3 g.2.2]
 own:=fun g=>[tabC,.map 3 3 g.1]
 pre:=fun g=>InL g.2.2
 res:=fun _ c=>vB c
 own':=fun g c=>[some tabC,some (.map 3 3 (if c then claimL g.2.1 g.1 g.2.2 else g.1))]
 post:=fun g c=>c = true ↔ ClaimOk g.1 g.2.1 g.2.2
theorem m_claim : Meets Tryz.prog regF 46 spClaim:=by
 refine meets Tryz.func46 48 noWr ?_
 rintro ⟨(es : TM),(who : Int),(l : List Int)⟩ ⟨(hl : l.length ≤ 9223372036854775807),(hI : ∀ x ∈ l,InI x)⟩
 have fin : ∀ {c : Bool},(c = true ↔ ClaimOk es who l) → spClaim.post (es,who,l) c:=fun h=>h
 conv=>whnf
 repeat' ((first | (refine (?_ : TG _ _); first | refine tY ?_ | refine tN ?_ | refine dY ?_ | refine dN ?_ | (refine tell ?_ ?_ <;> intro hQ <;> try dsimp only at hQ)) | refine aS ?_ | refine ai ?_ | fail) <;> conv=>whnf)
 refine ⟨Nat,fun i=>⟨[(0,.ptr 0 0 1 0),(1,vI who),(2,.lst 3 l),(13,.lst 3 l),(14,vI l.length),(15,vI i)],[(0,tabC),(1,.map 3 3 es)]⟩,fun i=>i ≤ l.length ∧ ClaimOk es who (l.take i),fun i=>l.length - i,fun _ _=>rfl,⟨0,[],⟨Nat.zero_le _,fun _ h=>by simp at h⟩,en⟩,?_⟩
 rintro (i : Nat) ⟨(hi : i ≤ l.length),(hs : ClaimOk es who (l.take i))⟩
 by_cases hlt : i < l.length
 ·have hobt : ∃ x,l[i]? = some x:=⟨_,List.getElem?_eq_getElem hlt⟩
  obtain ⟨x,hx⟩:=hobt
  have hm:=List.mem_of_getElem? hx
  conv=>whnf
  repeat' ((first | (refine (?_ : TG _ _); first | refine tY ?_ | refine tN ?_ | refine dY ?_ | refine dN ?_ | (refine tell ?_ ?_ <;> intro hQ <;> try dsimp only at hQ)) | refine aS ?_ | refine aX hx ?_ | refine aL hx ?_ | refine ai ?_ | fail) <;> conv=>whnf)
  refine And.intro (hI x hm) ?_
  conv=>whnf
  refine allEqB ?_
  intro (o : Option Int) (ho : o = lookT es x)
  have skip : (∀ w,lookT es x = some w → w = who) → ClaimOk es who (l.take (i + 1)):=fun h y hy=>by
   rw [take_snocI hx] at hy
   rcases List.mem_append.1 hy with hy | hy
   ·exact hs y hy
   ·simp at hy; subst hy; exact h
  cases o with
  | none=>
   have hk:=skip fun w hw=>by rw [← ho] at hw; cases hw
   conv=>whnf
   repeat' ((first | (refine (?_ : TG _ _); first | refine tY ?_ | refine tN ?_ | refine dY ?_ | refine dN ?_ | (refine tell ?_ ?_ <;> intro hQ <;> try dsimp only at hQ)) | refine aS ?_ | refine ai ?_ | fail) <;> conv=>whnf)
   exact ⟨i + 1,[],⟨hlt,hk⟩,rn en⟩
  | some w=>
   by_cases hw : w = who
   ·have hk:=skip fun w' hw'=>by rw [← ho] at hw'; cases hw'; exact hw
    conv=>whnf
    repeat' ((first | (refine (?_ : TG _ _); first | refine tY ?_ | refine tN ?_ | refine dY ?_ | refine dN ?_ | (refine tell ?_ ?_ <;> intro hQ <;> try dsimp only at hQ)) | refine aS ?_ | refine ai ?_ | fail) <;> conv=>whnf)
    exact ⟨i + 1,[],⟨hlt,hk⟩,rn en⟩
   ·have hno : ¬ ClaimOk es who l:=fun h=>hw (h x hm w ho.symm)
    conv=>whnf
    repeat' ((first | (refine (?_ : TG _ _); first | refine tY ?_ | refine tN ?_ | refine dY ?_ | refine dN ?_ | (refine tell ?_ ?_ <;> intro hQ <;> try dsimp only at hQ)) | refine aS ?_ | refine ai ?_ | fail) <;> conv=>whnf)
    exact ⟨false,[],fin (by simp [hno]),rfl,⟨⟨rfl,trivial⟩,rfl,trivial⟩,trivial⟩
 ·rw [List.take_of_length_le (by omega)] at hs
  conv=>whnf
  repeat' ((first | (refine (?_ : TG _ _); first | refine tY ?_ | refine tN ?_ | refine dY ?_ | refine dN ?_ | (refine tell ?_ ?_ <;> intro hQ <;> try dsimp only at hQ)) | refine aS ?_ | refine ai ?_ | fail) <;> conv=>whnf)
  refine ⟨Nat,fun i=>⟨[(0,.ptr 0 0 1 0),(1,vI who),(35,.lst 3 l),(36,vI l.length),(37,vI i)],[(0,tabC),(1,.map 3 3 (claimL who es (l.take i)))]⟩,fun i=>i ≤ l.length,fun i=>l.length - i,fun _ _=>rfl,⟨0,[],Nat.zero_le _,en⟩,?_⟩
  rintro (i : Nat) (hi : i ≤ l.length)
  by_cases hlt : i < l.length
  ·have hobt : ∃ x,l[i]? = some x:=⟨_,List.getElem?_eq_getElem hlt⟩
   obtain ⟨x,hx⟩:=hobt
   have hm:=List.mem_of_getElem? hx
   have hsn : claimL who es (l.take (i + 1)) = insT (claimL who es (l.take i)) x who:=by unfold claimL; rw [take_snocI hx,List.foldl_append]; rfl
   conv=>whnf
   repeat' ((first | (refine (?_ : TG _ _); first | refine tY ?_ | refine tN ?_ | refine dY ?_ | refine dN ?_ | (refine tell ?_ ?_ <;> intro hQ <;> try dsimp only at hQ)) | refine aS ?_ | refine aX hx ?_ | refine aL hx ?_ | refine ai ?_ | fail) <;> conv=>whnf)
   refine And.intro (hI x hm) ?_
   conv=>whnf
   repeat' ((first | (refine (?_ : TG _ _); first | refine tY ?_ | refine tN ?_ | refine dY ?_ | refine dN ?_ | (refine tell ?_ ?_ <;> intro hQ <;> try dsimp only at hQ)) | refine aS ?_ | refine ai ?_ | fail) <;> conv=>whnf)
   refine ⟨i + 1,[],hlt,?_,rfl,?_,?_,rfl⟩
   ·dsimp only; first | omega | (simp; done) | (simp; omega)
   all_goals (repeat' (first | exact trivial | exact rfl | refine And.intro ?_ ?_ | (refine congrArg vI ?_; first | omega | (dsimp only; omega) | fail) | (refine congrArg some ?_) | omega | exact Nat.le_refl _ | exact congrArg (SV.lst _) (List.take_of_length_le (Nat.le_refl _)).symm))
   exact congrArg (Ct.map (A:=AF) 3 3) hsn.symm
  ·have hi : i = l.length:=by omega
   subst hi
   conv=>whnf
   repeat' ((first | (refine (?_ : TG _ _); first | refine tY ?_ | refine tN ?_ | refine dY ?_ | refine dN ?_ | (refine tell ?_ ?_ <;> intro hQ <;> try dsimp only at hQ)) | refine aS ?_ | refine ai ?_ | fail) <;> conv=>whnf)
   refine ⟨true,[],fin (by simp [hs]),rfl,⟨⟨rfl,trivial⟩,?_,trivial⟩,trivial⟩
   exact congrArg (Ct.map (A:=AF) 3 3) (show claimL who es (l.take l.length) = claimL who es l by rw [List.take_of_length_le (Nat.le_refl _)])
def ofL (es : TM) (who : Int) : List Int:=(sortK es).filter fun x=>decide (lookT es x = some who)
theorem sortK_mem {es : TM} {x : Int} : x ∈ sortK es ↔ ∃ p ∈ es,p.1 = x:=by
 unfold sortK
 rw [List.mem_mergeSort,List.mem_map]
theorem lookT_some {es : TM} {x : Int} (h : ∃ p ∈ es,p.1 = x) : ∃ w,lookT es x = some w:=by
 obtain ⟨p,hp,rfl⟩:=h
 unfold lookT look
 have : (es.find? fun q=>regF.beq 3 q.1 p.1).isSome = true:=List.find?_isSome.2 ⟨p,hp,(regF.same 3 _ _).2 rfl⟩
 have hobt:=Option.isSome_iff_exists.1 this
 obtain ⟨q,hq⟩:=hobt
 rw [hq]
 exact ⟨q.2,rfl⟩
theorem filter_snoc {α : Type} {p : α → Bool} {l : List α} {i : Nat} {x : α} (hx : l[i]? = some x) : (l.take (i + 1)).filter p = (l.take i).filter p ++ if p x = true then [x] else []:=by
 rw [take_snocI hx,List.filter_append]
 simp only [List.filter_cons,List.filter_nil]
def ofP (es : TM) (who : Int) (i : Nat) : List Int:=((sortK es).take i).filter fun x=>decide (lookT es x = some who)
def spOf : Spec AF where
 γ:=TM × Int
 args:=fun g=>[.ptr 0 0 1 0,vI g.2]
 own:=fun g=>[tabC,.map 3 3 g.1]
 pre:=fun g=>g.1.length ≤ 17592186044416 ∧ ∀ p ∈ g.1,InI p.1
 res:=fun g _=>.lst 3 (ofL g.1 g.2)
 own':=fun g _=>[some tabC,some (.map 3 3 g.1)]
theorem m_of : Meets Tryz.prog regF 32 spOf:=by
 refine meets Tryz.func32 31 noWr ?_
 rintro ⟨(es : TM),(who : Int)⟩ ⟨(hl : es.length ≤ 17592186044416),(hI : ∀ p ∈ es,InI p.1)⟩
 have hkl:=sortK_len es
 conv=>whnf
 repeat' ((first | (refine (?_ : TG _ _); first | refine tY ?_ | refine tN ?_ | refine dY ?_ | refine dN ?_ | (refine tell ?_ ?_ <;> intro hQ <;> try dsimp only at hQ)) | refine aS ?_ | refine ai ?_ | fail) <;> conv=>whnf)
 refine ⟨_,m_keys,es,[1],false,?_⟩
 conv=>whnf
 refine vcA trivial ?_
 refine uU ?_
 conv=>whnf
 conv=>whnf
 repeat' ((first | (refine (?_ : TG _ _); first | refine tY ?_ | refine tN ?_ | refine dY ?_ | refine dN ?_ | (refine tell ?_ ?_ <;> intro hQ <;> try dsimp only at hQ)) | refine aS ?_ | refine ai ?_ | fail) <;> conv=>whnf)
 refine ⟨_,m_sorted,es,[1,1011],false,?_⟩
 conv=>whnf
 refine vcA hl ?_
 refine uU ?_
 conv=>whnf
 conv=>whnf
 repeat' ((first | (refine (?_ : TG _ _); first | refine tY ?_ | refine tN ?_ | refine dY ?_ | refine dN ?_ | (refine tell ?_ ?_ <;> intro hQ <;> try dsimp only at hQ)) | refine aS ?_ | refine ai ?_ | fail) <;> conv=>whnf)
 refine ⟨Nat,fun i=>⟨[(0,.ptr 0 0 1 0),(1,vI who),(4,.sl 3000 1 0 (ofP es who i).length),(12,.lst 3 (sortK es)),(13,vI (sortK es).length),(14,vI i)],[(0,tabC),(1,.map 3 3 es),(3000,.arr 3 (ofP es who i))]⟩,fun i=>i ≤ (sortK es).length,fun i=>(sortK es).length - i,fun _ _=>rfl,⟨0,[],Nat.zero_le _,en⟩,?_⟩
 rintro (i : Nat) (hi : i ≤ (sortK es).length)
 have hol : (ofP es who i).length ≤ i:=Nat.le_trans (List.length_filter_le _ _) (by rw [List.length_take]; omega)
 by_cases hlt : i < (sortK es).length
 ·have hobt : ∃ x,(sortK es)[i]? = some x:=⟨_,List.getElem?_eq_getElem hlt⟩
  obtain ⟨x,hx⟩:=hobt
  have hxm:=sortK_mem.1 (List.mem_of_getElem? hx)
  have hxI : InI x:=by obtain ⟨p,hp,rfl⟩:=hxm; exact hI p hp
  have hobt:=lookT_some hxm
  obtain ⟨w,hw⟩:=hobt
  have hsn : ofP es who (i + 1) = ofP es who i ++ if decide (lookT es x = some who) = true then [x] else []:=filter_snoc hx
  conv=>whnf
  repeat' ((first | (refine (?_ : TG _ _); first | refine tY ?_ | refine tN ?_ | refine dY ?_ | refine dN ?_ | (refine tell ?_ ?_ <;> intro hQ <;> try dsimp only at hQ)) | refine aS ?_ | refine aX hx ?_ | refine aL hx ?_ | refine ai ?_ | fail) <;> conv=>whnf)
  refine allEqB ?_
  intro (y : Int) (hy : y = (lookT es x).getD 0)
  rw [hw] at hy
  have hy : y = w:=hy
  by_cases hyw : y = who
  ·rw [if_pos (decide_eq_true (by rw [hw,← hy,hyw]))] at hsn
   conv=>whnf
   repeat' ((first | (refine (?_ : TG _ _); first | refine tY ?_ | refine tN ?_ | refine dY ?_ | refine dN ?_ | (refine tell ?_ ?_ <;> intro hQ <;> try dsimp only at hQ)) | refine aS ?_ | refine ai ?_ | fail) <;> conv=>whnf)
   refine ⟨i + 1,[(3000,1029)],hlt,?_,rfl,?_,?_,rfl⟩
   ·dsimp only; first | omega | (simp; done) | (simp; omega)
   all_goals (repeat' (first | exact trivial | exact rfl | refine And.intro ?_ ?_ | (refine congrArg vI ?_; first | omega | (dsimp only; omega) | fail) | (refine congrArg some ?_) | omega | exact Nat.le_refl _ | exact congrArg (SV.lst _) (List.take_of_length_le (Nat.le_refl _)).symm))
   ·exact congrArg (SV.sl (A:=AF) 1029 1 0) (show (ofP es who i).length + 1 = (ofP es who (i + 1)).length by rw [hsn]; simp)
   ·exact congrArg (Ct.arr (A:=AF) 3) (show ((ofP es who i).drop 0).take (ofP es who i).length ++ [x] = ofP es who (i + 1) by rw [hsn]; simp)
  ·rw [if_neg (by rw [hw,decide_eq_true_iff]; intro h; cases h; exact hyw hy),List.append_nil] at hsn
   conv=>whnf
   repeat' ((first | (refine (?_ : TG _ _); first | refine tY ?_ | refine tN ?_ | refine dY ?_ | refine dN ?_ | (refine tell ?_ ?_ <;> intro hQ <;> try dsimp only at hQ)) | refine aS ?_ | refine ai ?_ | fail) <;> conv=>whnf)
   refine ⟨i + 1,[],hlt,?_,rfl,?_,?_,rfl⟩
   ·dsimp only; first | omega | (simp; done) | (simp; omega)
   all_goals (repeat' (first | exact trivial | exact rfl | refine And.intro ?_ ?_ | (refine congrArg vI ?_; first | omega | (dsimp only; omega) | fail) | (refine congrArg some ?_) | omega | exact Nat.le_refl _ | exact congrArg (SV.lst _) (List.take_of_length_le (Nat.le_refl _)).symm))
   ·exact congrArg (SV.sl (A:=AF) 3000 1 0) (congrArg List.length hsn.symm)
   ·exact congrArg (Ct.arr (A:=AF) 3) hsn.symm
 ·have hi : i = (sortK es).length:=by omega
  subst hi
  have hend : ofP es who (sortK es).length = ofL es who:=by unfold ofP ofL; rw [List.take_of_length_le (Nat.le_refl _)]
  conv=>whnf
  repeat' ((first | (refine (?_ : TG _ _); first | refine tY ?_ | refine tN ?_ | refine dY ?_ | refine dN ?_ | (refine tell ?_ ?_ <;> intro hQ <;> try dsimp only at hQ)) | refine aS ?_ | refine ai ?_ | fail) <;> conv=>whnf)
  refine ⟨(),[],trivial,⟨by simp,rfl,?_⟩,⟨⟨rfl,trivial⟩,rfl,trivial⟩,trivial⟩
  exact congrArg (SV.lst (A:=AF) 3) (show ofL es who = ((ofP es who (sortK es).length).drop 0).take (ofP es who (sortK es).length).length by rw [hend]; simp)
end
end Go.Sx
namespace Go.Sx
noncomputable section
open Go Go.Proofs Go.Proofs.YtcehbnfhlcfinaaGreatDoor
open Go.Shelf
abbrev EdgT:=Int × Int × Int
abbrev HomT:=ByteArray × Int
abbrev JobT:=Int × Int × Int × Int
abbrev PostT:=ByteArray × Int × Int × Int × Int × Int × List Int × Int × Bool × Int × Bool × Int × ByteArray × Int × Int × List Stp × List Stp × ByteArray × Int × Int
structure MS where
 n : Int
 es : List EdgT
 fl : List HomT
 win : Int
 dn : Bool
 past : List (List Int)
 ps : List PostT
 js : List JobT
 tb : TM
 f : Bool
 bs : List UInt8
abbrev doneV (b : Bool) : SV AF:=vW (if b then 1 else 0)
def adrV (b : Bool) : SV AF:=match b with | true=>.ptr 2 0 5 3 | false=>.val (.pointer none)
abbrev yardCt (s : MS) : Ct AF:=.cells [vI s.n,.lst 44 s.es,.lst 48 s.fl,vI s.win,doneV s.dn,.val (.int .i32 0),vW 0,.sl 8 1 0 s.past.length]
abbrev knowCt (s : MS) : Ct AF:=.row 86 [.sl 3 20 0 s.ps.length,.sl 4 4 0 s.js.length,.ptr 5 0 1 0,adrV s.f,.sl 7 1 0 s.bs.length]
abbrev msB (s : MS) : List (Ct AF):=[.cells [.ptr 1 0 8 0,.ptr 2 0 5 0],yardCt s,knowCt s,.arr 111 s.ps,.arr 63 s.js,.cells [.mp 6],.map 3 3 s.tb,.arr 5 (iB s.bs),.arr 51 s.past]
abbrev knowCtW (s : MS) : Ct AF:=.row 86 [.sl 3 20 0 s.ps.length,.sl 4 4 0 s.js.length,.ptr 5 0 1 0,adrV s.f,.sl 9 1 0 s.bs.length]
def spWK : Spec AF where
 γ:=MS × Txt
 args:=fun g=>[.ptr 2 0 5 3,vS g.2]
 own:=fun g=>msB g.1
 pre:=fun g=>g.1.bs.length ≤ 1000000000 ∧ g.2.length ≤ 1000000 ∧ (g.1.f = false → g.1.bs = [])
 nnew:=1
 res:=fun g _=>resW (bS g.2)
 own':=fun g _=>[some (.cells [.ptr 1 0 8 0,.ptr 2 0 5 0]),some (yardCt g.1),some (knowCtW { g.1 with f:=true,bs:=g.1.bs ++ g.2 }),some (.arr 111 g.1.ps),some (.arr 63 g.1.js),some (.cells [.mp 6]),some (.map 3 3 g.1.tb),none,some (.arr 51 g.1.past),some (.arr 5 (iB (g.1.bs ++ g.2)))]
def spCCU : Spec AF where
 γ:=MS
 args:=fun _=>[.ptr 2 0 5 3]
 own:=fun s=>msB s
 pre:=fun s=>s.f = true
 res:=fun _ _=>.tup []
 own':=fun s _=>(msB s).map some
theorem m_ccU : Meets Tryz.prog regF 76 spCCU:=by
 refine meetsB Tryz.func76 20 noWr ?_
 rintro ⟨n,es,fl,win,dn,past,ps,js,tb,f,bs⟩ (hf : f = true)
 subst hf
 conv=>whnf
 repeat' ((first | (refine (?_ : TG _ _); first | refine tY ?_ | refine tN ?_ | refine dY ?_ | refine dN ?_ | (refine tell ?_ ?_ <;> intro hQ <;> try dsimp only at hQ)) | refine aS ?_ | refine ai ?_ | fail) <;> conv=>whnf)
 exact ⟨(),[],trivial,a3⟩
theorem ccMen (ps : List PostT) (js : List JobT) (tb : TM) : ∀ ct ∈ ([.arr 111 ps,.arr 63 js,.cells [.mp 5],.arr 5 [],.map 3 3 tb] : List (Ct AF)),menCt (fun h=>Nat.blt h 6) ct = true:=fun ct h=>by
 simp only [List.mem_cons,List.not_mem_nil,or_false] at h
 rcases h with rfl | rfl | rfl | rfl | rfl <;> rfl
theorem m_wk : Meets Tryz.prog regF 41 spWK:=by
 refine meetsB Tryz.func41 19 noWr ?_
 rintro ⟨⟨n,es,fl,win,dn,past,ps,js,tb,f,(bs : List UInt8)⟩,(t : Txt)⟩ ⟨(hb : bs.length ≤ 1000000000),(ht : t.length ≤ 1000000),(hf : f = false → bs = [])⟩
 have hts:=size_bS t
 have hib:=iB_len bs
 cases f with
 | true=>
  have eL : bs.length + (⟨t.toArray⟩ : ByteArray).size = (bs ++ t).length:=by rw [hts,List.length_append]
  have eC : ((iB bs).drop 0).take bs.length ++ iB t = iB (bs ++ t):=by rw [List.drop_zero,List.take_of_length_le (by omega)]; exact List.map_append.symm
  conv=>whnf
  repeat' ((first | (refine (?_ : TG _ _); first | refine tY ?_ | refine tN ?_ | refine dY ?_ | refine dN ?_ | (refine tell ?_ ?_ <;> intro hQ <;> try dsimp only at hQ)) | refine aS ?_ | refine ai ?_ | fail) <;> conv=>whnf)
  refine ⟨_,m_ccU,⟨n,es,fl,win,dn,past,ps,js,tb,true,bs⟩,[0,1,2,3,4,5,6,7,8],false,?_⟩
  conv=>whnf
  refine vcA rfl ?_
  refine uU ?_
  conv=>whnf
  conv=>whnf
  repeat' ((first | (refine (?_ : TG _ _); first | refine tY ?_ | refine tN ?_ | refine dY ?_ | refine dN ?_ | (refine tell ?_ ?_ <;> intro hQ <;> try dsimp only at hQ)) | refine aS ?_ | refine ai ?_ | fail) <;> conv=>whnf)
  refine ⟨(),[1014],trivial,?_,?_,?_⟩
  all_goals (repeat' (first | exact trivial | exact rfl | refine And.intro ?_ ?_ | (refine congrArg vI ?_; first | omega | (dsimp only; omega) | fail) | (refine congrArg some ?_) | omega | exact Nat.le_refl _ | exact congrArg (SV.lst _) (List.take_of_length_le (Nat.le_refl _)).symm))
  ·exact congrArg (SV.sl (A:=AF) 1014 1 0) eL
  ·exact congrArg (Ct.arr (A:=AF) 5) eC
 | false=>
  have eL : 0 + (⟨t.toArray⟩ : ByteArray).size = ([] ++ t).length:=by rw [hts,List.nil_append,Nat.zero_add]
  have hobt:=hf rfl
  obtain rfl:=hobt
  conv=>whnf
  repeat' ((first | (refine (?_ : TG _ _); first | refine tY ?_ | refine tN ?_ | refine dY ?_ | refine dN ?_ | (refine tell ?_ ?_ <;> intro hQ <;> try dsimp only at hQ)) | refine aS ?_ | refine ai ?_ | fail) <;> conv=>whnf)
  refine ⟨_,m_cc 86 3,([.sl 1 20 0 ps.length,.sl 2 4 0 js.length,.ptr 3 0 1 0,.val (.pointer none),.sl 4 1 0 0],[.arr 111 ps,.arr 63 js,.cells [.mp 5],.arr 5 [],.map 3 3 tb]),[2,3,4,5,7,6],false,?_⟩
  conv=>whnf
  refine vcA ⟨rfl,by show 1 + 3 < 5; decide,by show 5 ≤ 8; decide,rfl,ccMen ps js tb,by kernel_rfl⟩ ?_
  refine uU ?_
  conv=>whnf
  conv=>whnf
  repeat' ((first | (refine (?_ : TG _ _); first | refine tY ?_ | refine tN ?_ | refine dY ?_ | refine dN ?_ | (refine tell ?_ ?_ <;> intro hQ <;> try dsimp only at hQ)) | refine aS ?_ | refine ai ?_ | fail) <;> conv=>whnf)
  refine ⟨(),[1014],trivial,?_,?_,?_⟩
  all_goals (repeat' (first | exact trivial | exact rfl | refine And.intro ?_ ?_ | (refine congrArg vI ?_; first | omega | (dsimp only; omega) | fail) | (refine congrArg some ?_) | omega | exact Nat.le_refl _ | exact congrArg (SV.lst _) (List.take_of_length_le (Nat.le_refl _)).symm))
  exact congrArg (SV.sl (A:=AF) 1014 1 0) eL
end
end Go.Sx
namespace Go.Sx
noncomputable section
open Go Go.Proofs Go.Proofs.YtcehbnfhlcfinaaGreatDoor
open Go.Shelf
def spPl1 : Spec AF where
 γ:=HomT × Int
 δ:=Bool
 args:=fun g=>[.agg [.val (.string g.1.1),vI g.1.2],.ptr 0 0 1 0]
 own:=fun g=>[.cells [vI g.2]]
 res:=fun _ c=>vB c
 own':=fun g _=>[some (.cells [vI g.2])]
 post:=fun g c=>c = decide (g.1.2 = g.2)
theorem m_pl1 : Meets Tryz.prog regF 38 spPl1:=by
 refine meets Tryz.func38 8 noWr ?_
 rintro ⟨⟨(v : ByteArray),(h : Int)⟩,(t : Int)⟩ _
 by_cases e : h = t
 ·conv=>whnf
  repeat' ((first | (refine (?_ : TG _ _); first | refine tY ?_ | refine tN ?_ | refine dY ?_ | refine dN ?_ | (refine tell ?_ ?_ <;> intro hQ <;> try dsimp only at hQ)) | refine aS ?_ | refine ai ?_ | fail) <;> conv=>whnf)
  exact ⟨true,[],(decide_eq_true e).symm,a3⟩
 ·conv=>whnf
  repeat' ((first | (refine (?_ : TG _ _); first | refine tY ?_ | refine tN ?_ | refine dY ?_ | refine dN ?_ | (refine tell ?_ ?_ <;> intro hQ <;> try dsimp only at hQ)) | refine aS ?_ | refine ai ?_ | fail) <;> conv=>whnf)
  exact ⟨false,[],(decide_eq_false e).symm,a3⟩
def homeB (fl : List HomT) (t : Int) : Bool:=fl.any fun p=>decide (p.2 = t)
theorem homeB_iff {fl : List HomT} {t : Int} : homeB fl t = true ↔ ∃ p ∈ fl,p.2 = t:=by
 unfold homeB
 rw [List.any_eq_true]
 exact ⟨fun ⟨p,h,e⟩=>⟨p,h,of_decide_eq_true e⟩,fun ⟨p,h,e⟩=>⟨p,h,decide_eq_true e⟩⟩
def spPlI : Spec AF where
 γ:=List HomT × Int
 δ:=Int
 args:=fun g=>[.lst 48 g.1,.fn (.func 38) [] [.ptr 0 0 1 0]]
 own:=fun g=>[.cells [vI g.2]]
 pre:=fun g=>g.1.length ≤ 1000000
 res:=fun _ r=>vI r
 own':=fun g _=>[some (.cells [vI g.2])]
 post:=fun g r=>(0 ≤ r ↔ homeB g.1 g.2 = true)
theorem plI_ex (l : List HomT) (t : Int) : ∃ r : Int,(0 ≤ r ↔ homeB l t = true):=by
 by_cases h : homeB l t = true
 ·exact ⟨0,by simp [h]⟩
 ·exact ⟨-1,by simp [h]⟩
theorem m_plI : Meets Tryz.prog regF 68 spPlI:=by
 refine meets Tryz.func68 19 noWr ?_
 rintro ⟨(l : List HomT),(t : Int)⟩ (hl : l.length ≤ 1000000)
 conv=>whnf
 repeat' ((first | (refine (?_ : TG _ _); first | refine tY ?_ | refine tN ?_ | refine dY ?_ | refine dN ?_ | (refine tell ?_ ?_ <;> intro hQ <;> try dsimp only at hQ)) | refine aS ?_ | refine ai ?_ | fail) <;> conv=>whnf)
 refine ⟨Nat,fun j=>⟨[(0,.lst 48 l),(1,.fn (.func 38) [] [.ptr 0 0 1 0]),(7,vI l.length),(8,vI j)],[(0,.cells [vI t])]⟩,fun j=>j ≤ l.length ∧ ∀ p ∈ l.take j,¬ p.2 = t,fun j=>l.length - j,fun _ _=>rfl,⟨0,[],⟨Nat.zero_le _,fun p h=>absurd h (by simp)⟩,en⟩,?_⟩
 rintro (j : Nat) ⟨(hj : j ≤ l.length),(hs : ∀ p ∈ l.take j,¬ p.2 = t)⟩
 by_cases hlt : j < l.length
 ·have hobt : ∃ y,l[j]? = some y:=⟨_,List.getElem?_eq_getElem hlt⟩
  obtain ⟨⟨v,h⟩,hx1⟩:=hobt
  conv=>whnf
  repeat' ((first | (refine (?_ : TG _ _); first | refine tY ?_ | refine tN ?_ | refine dY ?_ | refine dN ?_ | (refine tell ?_ ?_ <;> intro hQ <;> try dsimp only at hQ)) | refine aS ?_ | refine aX hx1 ?_ | refine aL hx1 ?_ | refine ai ?_ | fail) <;> conv=>whnf)
  refine ⟨_,m_pl1,((v,h),t),[0],false,?_⟩
  conv=>whnf
  refine vcA trivial ?_
  conv=>whnf
  refine aV _ rfl fun (c : Bool) (hc : c = decide (h = t))=>?_
  cases c
  ·have e : ¬ h = t:=of_decide_eq_false hc.symm
   have hnx : ∀ p ∈ l.take (j + 1),¬ p.2 = t:=fun p hp=>by
    rw [take_snocI hx1,List.mem_append] at hp
    rcases hp with hp | hp
    ·exact hs p hp
    ·rw [List.mem_singleton] at hp; subst hp; exact e
   conv=>whnf
   repeat' ((first | (refine (?_ : TG _ _); first | refine tY ?_ | refine tN ?_ | refine dY ?_ | refine dN ?_ | (refine tell ?_ ?_ <;> intro hQ <;> try dsimp only at hQ)) | refine aS ?_ | refine ai ?_ | fail) <;> conv=>whnf)
   exact ⟨j + 1,[],⟨hlt,hnx⟩,rn en⟩
  ·have e : h = t:=of_decide_eq_true hc.symm
   conv=>whnf
   repeat' ((first | (refine (?_ : TG _ _); first | refine tY ?_ | refine tN ?_ | refine dY ?_ | refine dN ?_ | (refine tell ?_ ?_ <;> intro hQ <;> try dsimp only at hQ)) | refine aS ?_ | refine ai ?_ | fail) <;> conv=>whnf)
   exact ⟨(j : Int),[],⟨fun _=>homeB_iff.2 ⟨_,List.mem_of_getElem? hx1,e⟩,fun _=>Int.natCast_nonneg j⟩,a3⟩
 ·rw [List.take_of_length_le (by omega)] at hs
  conv=>whnf
  repeat' ((first | (refine (?_ : TG _ _); first | refine tY ?_ | refine tN ?_ | refine dY ?_ | refine dN ?_ | (refine tell ?_ ?_ <;> intro hQ <;> try dsimp only at hQ)) | refine aS ?_ | refine ai ?_ | fail) <;> conv=>whnf)
  exact ⟨(-1 : Int),[],⟨fun h=>absurd h (by decide),fun h=>(by obtain ⟨p,hp,e⟩:=homeB_iff.1 h; exact absurd e (hs p hp))⟩,a3⟩
def spPlC : Spec AF where
 γ:=List HomT × Int
 args:=fun g=>[.lst 48 g.1,.fn (.func 38) [] [.ptr 0 0 1 0]]
 own:=fun g=>[.cells [vI g.2]]
 pre:=fun g=>g.1.length ≤ 1000000
 res:=fun g _=>vB (homeB g.1 g.2)
 own':=fun g _=>[some (.cells [vI g.2])]
theorem m_plC : Meets Tryz.prog regF 37 spPlC:=by
 refine meets Tryz.func37 9 noWr ?_
 rintro ⟨(l : List HomT),(t : Int)⟩ hp
 conv=>whnf
 repeat' ((first | (refine (?_ : TG _ _); first | refine tY ?_ | refine tN ?_ | refine dY ?_ | refine dN ?_ | (refine tell ?_ ?_ <;> intro hQ <;> try dsimp only at hQ)) | refine aS ?_ | refine ai ?_ | fail) <;> conv=>whnf)
 refine ⟨_,m_plI,(l,t),[0],false,?_⟩
 conv=>whnf
 refine vcA hp ?_
 conv=>whnf
 have hobt:=plI_ex l t
 obtain ⟨r0,hr0⟩:=hobt
 refine aV r0 hr0 fun (r : Int) (hr : 0 ≤ r ↔ homeB l t = true)=>?_
 conv=>whnf
 repeat' ((first | (refine (?_ : TG _ _); first | refine tY ?_ | refine tN ?_ | refine dY ?_ | refine dN ?_ | (refine tell ?_ ?_ <;> intro hQ <;> try dsimp only at hQ)) | refine aS ?_ | refine ai ?_ | fail) <;> conv=>whnf)
 ·have e : true = homeB l t:=(hr.1 (by assumption)).symm
  exact ⟨(),[],trivial,a3⟩
 ·have e : false = homeB l t:=by
   cases h : homeB l t
   ·rfl
   ·exact absurd (hr.2 h) (by assumption)
  exact ⟨(),[],trivial,a3⟩
def placeB (n : Int) (fl : List HomT) (t : Int) : Bool:=decide (0 ≤ t ∧ t < n) && !homeB fl t
abbrev yardCs (s : MS) : List (SV AF):=[vI s.n,.lst 44 s.es,.lst 48 s.fl,vI s.win,doneV s.dn,.val (.int .i32 0),vW 0,.sl 1 1 0 s.past.length]
def spPlace : Spec AF where
 γ:=MS × Int
 δ:=Bool
 args:=fun g=>[.ptr 0 0 8 0,vI g.2]
 own:=fun g=>[.cells (yardCs g.1),.arr 51 g.1.past]
 pre:=fun g=>g.1.fl.length ≤ 1000000
 res:=fun _ c=>vB c
 own':=fun g _=>[some (.cells (yardCs g.1)),some (.arr 51 g.1.past)]
 post:=fun g c=>c = placeB g.1.n g.1.fl g.2
theorem m_place : Meets Tryz.prog regF 17 spPlace:=by
 refine meets Tryz.func17 25 noWr ?_
 rintro ⟨⟨n,es,fl,win,dn,past,ps,js,tb,f,bs⟩,(t : Int)⟩ (hfl : fl.length ≤ 1000000)
 by_cases h : 0 ≤ t ∧ t < n
 ·obtain ⟨h0,h1⟩:=h
  have e : (!homeB fl t) = placeB n fl t:=by unfold placeB; rw [decide_eq_true ⟨h0,h1⟩]; rfl
  conv=>whnf
  repeat' ((first | (refine (?_ : TG _ _); first | refine tY ?_ | refine tN ?_ | refine dY ?_ | refine dN ?_ | (refine tell ?_ ?_ <;> intro hQ <;> try dsimp only at hQ)) | refine aS ?_ | refine ai ?_ | fail) <;> conv=>whnf)
  refine ⟨_,m_plC,(fl,t),[1003],false,?_⟩
  conv=>whnf
  refine vcA hfl ?_
  refine uU ?_
  conv=>whnf
  conv=>whnf
  repeat' ((first | (refine (?_ : TG _ _); first | refine tY ?_ | refine tN ?_ | refine dY ?_ | refine dN ?_ | (refine tell ?_ ?_ <;> intro hQ <;> try dsimp only at hQ)) | refine aS ?_ | refine ai ?_ | fail) <;> conv=>whnf)
  exact ⟨(!homeB fl t),[],e,a3⟩
 ·have e : false = placeB n fl t:=by unfold placeB; rw [decide_eq_false h]; rfl
  by_cases h0 : 0 ≤ t
  ·have h1 : ¬ t < n:=fun h1=>h ⟨h0,h1⟩
   conv=>whnf
   repeat' ((first | (refine (?_ : TG _ _); first | refine tY ?_ | refine tN ?_ | refine dY ?_ | refine dN ?_ | (refine tell ?_ ?_ <;> intro hQ <;> try dsimp only at hQ)) | refine aS ?_ | refine ai ?_ | fail) <;> conv=>whnf)
   exact ⟨false,[],e,a3⟩
  ·conv=>whnf
   repeat' ((first | (refine (?_ : TG _ _); first | refine tY ?_ | refine tN ?_ | refine dY ?_ | refine dN ?_ | (refine tell ?_ ?_ <;> intro hQ <;> try dsimp only at hQ)) | refine aS ?_ | refine ai ?_ | fail) <;> conv=>whnf)
   exact ⟨false,[],e,a3⟩
end
end Go.Sx
namespace Go.Sx
noncomputable section
open Go Go.Proofs Go.Proofs.YtcehbnfhlcfinaaGreatDoor
open Go.Shelf
abbrev yardM (n : Int) (es : List EdgT) (fl : List HomT) (win : Int) (dn : Int) (mu : Int) (p k : Nat) : Ct AF:=.cells [vI n,.lst 44 es,.lst 48 fl,vI win,vW dn,.val (.int .i32 mu),vW 0,.sl p 1 0 k]
def spBl1 : Spec AF where
 γ:=Int × List EdgT × HomT × Int
 args:=fun _=>[.ptr 0 0 1 0]
 own:=fun g=>[.cells [.ptr 1 0 8 0],yardM g.1 g.2.1 [g.2.2.1] g.2.2.2 0 1 2 0,.arr 51 []]
 nnew:=1
 res:=fun _ _=>.tup []
 own':=fun g _=>[some (.cells [.ptr 1 0 8 0]),some (yardM g.1 g.2.1 [g.2.2.1] g.2.2.2 0 1 3 1),none,some (.arr 51 [[]])]
theorem m_bl1 : Meets Tryz.prog regF 148 spBl1:=by
 refine meets Tryz.func148 43 noWr ?_
 rintro ⟨n,es,⟨v,(h : Int)⟩,win⟩ _
 have hx : [((v,h) : HomT)][0]? = some (v,h):=rfl
 conv=>whnf
 repeat' ((first | (refine (?_ : TG _ _); first | refine tY ?_ | refine tN ?_ | refine dY ?_ | refine dN ?_ | (refine tell ?_ ?_ <;> intro hQ <;> try dsimp only at hQ)) | refine aS ?_ | refine ai ?_ | fail) <;> conv=>whnf)
 refine ⟨Nat,fun i=>⟨[(0,.ptr 0 0 1 0),(8,.lst 48 [(v,h)]),(9,vI 1),(10,vI i)],[(0,.cells [.ptr 1 0 8 0]),(1,yardM n es [(v,h)] win 0 1 3001 i),(3001,.arr 51 (List.replicate i []))]⟩,fun i=>i ≤ 1,fun i=>1 - i,fun _ _=>rfl,⟨0,[(3001,2)],Nat.zero_le _,en⟩,?_⟩
 rintro (i : Nat) (hi : i ≤ 1)
 by_cases hlt : i < 1
 ·have hobt : i = 0:=by omega
  obtain rfl:=hobt
  conv=>whnf
  repeat' ((first | (refine (?_ : TG _ _); first | refine tY ?_ | refine tN ?_ | refine dY ?_ | refine dN ?_ | (refine tell ?_ ?_ <;> intro hQ <;> try dsimp only at hQ)) | refine aS ?_ | refine aX hx ?_ | refine aL hx ?_ | refine ai ?_ | fail) <;> conv=>whnf)
  refine ⟨Nat,fun j=>⟨[(0,.ptr 0 0 1 0),(1,vI 0),(2,.lst 3 []),(8,.lst 48 [(v,h)]),(9,vI 1),(10,vI 0),(16,.lst 48 [(v,h)]),(17,vI 1),(18,vI j)],[(0,.cells [.ptr 1 0 8 0]),(1,yardM n es [(v,h)] win 0 1 3001 0),(3001,.arr 51 [])]⟩,fun j=>j ≤ 1,fun j=>1 - j,fun _ _=>rfl,⟨0,[],Nat.zero_le _,en⟩,?_⟩
  rintro (j : Nat) (hj : j ≤ 1)
  by_cases hjl : j < 1
  ·have hobt : j = 0:=by omega
   obtain rfl:=hobt
   conv=>whnf
   repeat' ((first | (refine (?_ : TG _ _); first | refine tY ?_ | refine tN ?_ | refine dY ?_ | refine dN ?_ | (refine tell ?_ ?_ <;> intro hQ <;> try dsimp only at hQ)) | refine aS ?_ | refine aX hx ?_ | refine aL hx ?_ | refine ai ?_ | fail) <;> conv=>whnf)
   exact ⟨1,[],(by show 1 ≤ 1; decide),rn en⟩
  ·have hobt : j = 1:=by omega
   obtain rfl:=hobt
   conv=>whnf
   repeat' ((first | (refine (?_ : TG _ _); first | refine tY ?_ | refine tN ?_ | refine dY ?_ | refine dN ?_ | (refine tell ?_ ?_ <;> intro hQ <;> try dsimp only at hQ)) | refine aS ?_ | refine ai ?_ | fail) <;> conv=>whnf)
   exact ⟨1,[(3001,1039)],(by show 1 ≤ 1; decide),rn en⟩
 ·have hobt : i = 1:=by omega
  obtain rfl:=hobt
  conv=>whnf
  repeat' ((first | (refine (?_ : TG _ _); first | refine tY ?_ | refine tN ?_ | refine dY ?_ | refine dN ?_ | (refine tell ?_ ?_ <;> intro hQ <;> try dsimp only at hQ)) | refine aS ?_ | refine ai ?_ | fail) <;> conv=>whnf)
  exact ⟨(),[3001],trivial,a3⟩
end
end Go.Sx
namespace Go.Sx
noncomputable section
open Go Go.Proofs Go.Proofs.YtcehbnfhlcfinaaGreatDoor Go.Shelf
def spDo1 : Spec AF where
 γ:=Int × List EdgT × HomT × Int
 args:=fun _=>[.ptr 1 0 8 4,.fn (.func 148) [] [.ptr 0 0 1 0]]
 own:=fun g=>[.cells [.ptr 1 0 8 0],yardM g.1 g.2.1 [g.2.2.1] g.2.2.2 0 0 2 0,.arr 51 []]
 nnew:=1
 res:=fun _ _=>.val (.tuple #[])
 own':=fun g _=>[some (.cells [.ptr 1 0 8 0]),some (yardM g.1 g.2.1 [g.2.2.1] g.2.2.2 1 0 3 1),none,some (.arr 51 [[]])]
theorem m_do1 : Meets Tryz.prog regF 147 spDo1:=by
 refine ⟨⟨_,Tryz.func147,by kernel_rfl,by kernel_rfl⟩,?_⟩
 rintro ⟨n,es,x,win⟩ _ X ρ w vs hX1 hX2 hargs hown
 obtain ⟨u,v,rfl,hu,hv⟩:=args2 hargs
 obtain ⟨b,base,hr1,rfl⟩ : ∃ b base,ρ 1 = some (b,base) ∧ u = .pointer (some ⟨b,base + 4,none⟩):=by
  cases hu with
  | ptr _ _ _ _ b base h=>exact ⟨b,base,h,by simp⟩
 obtain ⟨pb,pbase,hr0,rfl⟩ : ∃ pb pbase,ρ 0 = some (pb,pbase) ∧ v = .func (.func 148) #[] #[.pointer (some ⟨pb,pbase,none⟩)]:=by
  cases hv with
  | fn f first cap vs us hl1 hd1 hl2 hd2=>
   obtain ⟨vl⟩:=vs
   obtain ⟨ul⟩:=us
   match vl,hl1 with
   | [],_=>
    match ul,hl2,hd2 with
    | [p],_,hd2=>
     have hp:=hd2 0 (.ptr 0 0 1 0) p rfl rfl
     cases hp with
     | ptr _ _ _ _ b0 base0 h=>exact ⟨b0,base0,h,by simp⟩
 obtain ⟨c5,f5,hown1,hg1,hblk1,hb⟩:=own_set (X:=X) hown (i:=1) (cs:=_) rfl hr1 (k:=5) (v0:=.int .i32 0) (v1:=.int .i32 1) rfl
 obtain ⟨c4,f4,_,_,_,_⟩:=own_set (X:=X) hown (i:=1) (cs:=_) rfl hr1 (k:=4) (v0:=.int .u32 0) (v1:=.int .u32 1) rfl
 have hcl:=m_bl1.2 (n,es,x,win) trivial X ρ (w.setCell ⟨b,base + 5,none⟩ (.int .i32 1)) #[.pointer (some ⟨pb,pbase,none⟩)] (fun b' hx=>by have:=hX1 b' hx; simpa using this) (fun b' hx hb'=>hX2 b' hx ((hblk1 b').1 hb')) ⟨rfl,fun j s v hs hv=>by
  match j,hs,hv with
  | 0,hs,hv=>cases hs; cases hv; simpa using Den.ptr (R:=regF) 0 0 1 0 pb pbase hr0⟩ hown1
 refine (On.do_first b (base + 4) ⟨pb,pbase,none⟩ w (fun w1=>MPost regF spBl1 (n,es,x,win) X ρ (w.setCell ⟨b,base + 5,none⟩ (.int .i32 1)) (.returned (.tuple #[])) w1) c4 c5 f5 (hcl.mono ?_) ?_).mono ?_
 ·intro e w1 hp
  obtain ⟨d,ρ',v,h1,rfl,h2,h3,rest⟩:=hp
  have hv : v = .tuple #[]:=by
   cases h3 with
   | tup cs vs hl hd=>obtain ⟨l⟩:=vs; match l,hl with | [],_=>rfl
  subst hv
  exact ⟨rfl,d,ρ',_,h1,rfl,h2,h3,rest⟩
 ·rintro w1 ⟨d,ρ',v,_,_,h2,_,hown2,_⟩
  have hr1' : ρ' 1 = some (b,base):=(h2 1 (by show 1 < 3; decide)).trans hr1
  obtain ⟨a1,a2,_⟩:=own_set (X:=X) hown2 (i:=1) (cs:=_) rfl hr1' (k:=4) (v0:=.int .u32 0) (v1:=.int .u32 1) rfl
  obtain ⟨a3,a4,_⟩:=own_set (X:=X) hown2 (i:=1) (cs:=_) rfl hr1' (k:=5) (v0:=.int .i32 1) (v1:=.int .i32 0) rfl
  exact ⟨a1,a3,a2,a4⟩
 ·rintro e w' ⟨rfl,w1,hp,rfl⟩
  obtain ⟨d,ρ',v,_,_,h2,h3,hown2,hblk2,hlen,hmen,hmenc,hrel⟩:=hp
  have hr1' : ρ' 1 = some (b,base):=(h2 1 (by show 1 < 3; decide)).trans hr1
  have hown2' : DenHs regF ρ' (fun b=>X b ∨ Blk (spBl1.own' (n,es,x,win) d) ρ' b) w1.drew (spBl1.own' (n,es,x,win) d):=
   ⟨fun h ct hh=>(hown2.den h ct hh).mono ⟨fun _ _ _ _ h hb=>⟨h,hb⟩,fun _ c _ fz h=>⟨c,fz,h,rfl⟩,fun _ _ h=>h⟩ fun _ _ _=>rfl,hown2.inj⟩
  obtain ⟨_,_,hown3,_,hblk3,hb3⟩:=own_set (X:=X) hown2' (i:=1) (cs:=_) rfl hr1' (k:=4) (v0:=.int .u32 0) (v1:=.int .u32 1) rfl
  obtain ⟨_,_,hown4,_,hblk4,hb4⟩:=own_set (X:=X) hown3 (i:=1) (cs:=_) rfl hr1' (k:=5) (v0:=.int .i32 1) (v1:=.int .i32 0) rfl
  refine ⟨(),ρ',.tuple #[],trivial,rfl,h2,.val _,hown4,fun b' hb'=>?_,rfl,rfl,fun h ct hct=>?_,?_⟩
  ·have h5:=hblk2 b' ((hblk3 b').1 ((hblk4 b').1 hb'))
   exact ⟨h5.1.imp (hblk1 b').1 (fun h=>by simpa using h),h5.2⟩
  ·match h,hct with
   | 0,hct=>cases hct; rfl
   | 1,hct=>cases hct; rfl
   | 2,hct=>cases hct
   | 3,hct=>cases hct; rfl
  ·obtain ⟨_,_,_,hb⟩:=hb
   obtain ⟨_,_,_,hb3⟩:=hb3
   obtain ⟨_,_,_,hb4⟩:=hb4
   have hE : Blk ((spDo1.own (n,es,x,win)).map some) ρ b:=⟨1,_,base,rfl,hr1⟩
   exact ((((WRel.refl.setCell hb (.inl hE)).trans' hrel fun b' h=>.inl ((hblk1 b').1 h)).drew.setCell hb3 (.inl hE)).setCell hb4 (.inl hE))
def spDo2 : Spec AF where
 γ:=Int × List EdgT × List HomT × Int × List (List Int)
 args:=fun _=>[.ptr 1 0 8 4,.fn (.func 148) [] [.ptr 0 0 1 0]]
 own:=fun g=>[.cells [.ptr 1 0 8 0],yardM g.1 g.2.1 g.2.2.1 g.2.2.2.1 1 0 2 g.2.2.2.2.length,.arr 51 g.2.2.2.2]
 res:=fun _ _=>.val (.tuple #[])
 own':=fun g _=>[some (.cells [.ptr 1 0 8 0]),some (yardM g.1 g.2.1 g.2.2.1 g.2.2.2.1 1 0 2 g.2.2.2.2.length),some (.arr 51 g.2.2.2.2)]
theorem m_do2 : Meets Tryz.prog regF 147 spDo2:=by
 refine ⟨⟨_,Tryz.func147,by kernel_rfl,by kernel_rfl⟩,?_⟩
 rintro ⟨n,es,fl,win,past⟩ _ X ρ w vs hX1 hX2 hargs hown
 obtain ⟨u,v,rfl,hu,hv⟩:=args2 hargs
 obtain ⟨b,base,hr1,rfl⟩ : ∃ b base,ρ 1 = some (b,base) ∧ u = .pointer (some ⟨b,base + 4,none⟩):=by
  cases hu with
  | ptr _ _ _ _ b base h=>exact ⟨b,base,h,by simp⟩
 obtain ⟨c4,f4,_,_,_,_⟩:=own_set (X:=X) hown (i:=1) (cs:=_) rfl hr1 (k:=4) (v0:=.int .u32 1) (v1:=.int .u32 1) rfl
 refine (On.do_done ⟨b,base + 4,none⟩ 1 (by decide) v w c4).mono ?_
 rintro e w' ⟨rfl,rfl⟩
 refine ⟨(),ρ,.tuple #[],trivial,rfl,fun _ _=>rfl,.val _,hown,fun b' hb'=>⟨.inl hb',fun hx=>hX2 b' hx hb'⟩,rfl,rfl,fun h ct hct=>?_,WRel.refl⟩
 match h,hct with
 | 0,hct=>cases hct; rfl
 | 1,hct=>cases hct; rfl
 | 2,hct=>cases hct; rfl
end
end Go.Sx
namespace Go.Sx
noncomputable section
open Go Go.Proofs Go.Proofs.YtcehbnfhlcfinaaGreatDoor
open Go.Shelf
def spBk1 : Spec AF where
 γ:=Int × List EdgT × HomT × Int
 args:=fun _=>[.ptr 0 0 8 0,vI 0]
 own:=fun g=>[yardM g.1 g.2.1 [g.2.2.1] g.2.2.2 0 0 1 0,.arr 51 []]
 nnew:=1
 res:=fun _ _=>.lst 3 []
 own':=fun g _=>[some (yardM g.1 g.2.1 [g.2.2.1] g.2.2.2 1 0 2 1),none,some (.arr 51 [[]])]
theorem m_bk1 : Meets Tryz.prog regF 108 spBk1:=by
 refine meets Tryz.func108 17 noWr ?_
 rintro ⟨n,es,x,win⟩ _
 have hx : [([] : List Int)][0]? = some []:=rfl
 conv=>whnf
 repeat' ((first | (refine (?_ : TG _ _); first | refine tY ?_ | refine tN ?_ | refine dY ?_ | refine dN ?_ | (refine tell ?_ ?_ <;> intro hQ <;> try dsimp only at hQ)) | refine aS ?_ | refine ai ?_ | fail) <;> conv=>whnf)
 refine ⟨_,m_do1,(n,es,x,win),[1002,0,1],false,?_⟩
 conv=>whnf
 refine vcA trivial ?_
 refine uU ?_
 conv=>whnf
 conv=>whnf
 repeat' ((first | (refine (?_ : TG _ _); first | refine tY ?_ | refine tN ?_ | refine dY ?_ | refine dN ?_ | (refine tell ?_ ?_ <;> intro hQ <;> try dsimp only at hQ)) | refine aS ?_ | refine aX hx ?_ | refine aL hx ?_ | refine ai ?_ | fail) <;> conv=>whnf)
 exact ⟨(),[1009],trivial,a3⟩
def spBk2 : Spec AF where
 γ:=Int × List EdgT × List HomT × Int
 args:=fun _=>[.ptr 0 0 8 0,vI 0]
 own:=fun g=>[yardM g.1 g.2.1 g.2.2.1 g.2.2.2 1 0 1 1,.arr 51 [[]]]
 res:=fun _ _=>.lst 3 []
 own':=fun g _=>[some (yardM g.1 g.2.1 g.2.2.1 g.2.2.2 1 0 1 1),some (.arr 51 [[]])]
 ro:=true
theorem m_bk2 : Meets Tryz.prog regF 108 spBk2:=by
 refine meets Tryz.func108 17 noWr ?_
 rintro ⟨n,es,fl,win⟩ _
 have hx : [([] : List Int)][0]? = some []:=rfl
 conv=>whnf
 repeat' ((first | (refine (?_ : TG _ _); first | refine tY ?_ | refine tN ?_ | refine dY ?_ | refine dN ?_ | (refine tell ?_ ?_ <;> intro hQ <;> try dsimp only at hQ)) | refine aS ?_ | refine ai ?_ | fail) <;> conv=>whnf)
 refine ⟨_,m_do2,(n,es,fl,win,[[]]),[1002,0,1],false,?_⟩
 conv=>whnf
 refine vcA trivial ?_
 refine uU ?_
 conv=>whnf
 conv=>whnf
 repeat' ((first | (refine (?_ : TG _ _); first | refine tY ?_ | refine tN ?_ | refine dY ?_ | refine dN ?_ | (refine tell ?_ ?_ <;> intro hQ <;> try dsimp only at hQ)) | refine aS ?_ | refine aX hx ?_ | refine aL hx ?_ | refine ai ?_ | fail) <;> conv=>whnf)
 exact ⟨(),[],trivial,a3⟩
end
end Go.Sx
namespace Go.Sx
noncomputable section
open Go Go.Proofs Go.Proofs.YtcehbnfhlcfinaaGreatDoor
open Go.Shelf
abbrev ring3 : List EdgT:=[(0,1,1),(1,2,1),(2,0,1)]
theorem ring_right : RightL 3 ring3:=⟨by decide,by decide,by decide,fun e he=>by
 simp only [List.mem_cons,List.not_mem_nil,or_false] at he
 rcases he with rfl | rfl | rfl <;> (unfold EdgeOk; decide),by decide⟩
theorem ring_good : GoodL ring3:=⟨by decide,fun e he=>by
 simp only [List.mem_cons,List.not_mem_nil,or_false] at he
 rcases he with rfl | rfl | rfl <;> (unfold InI; decide)⟩
theorem rp3 {t v : Int} {l : List Int} (h : RouteP ring3 [] t v l) (hv : v ≠ t) : ∃ l',(v = 0 ∧ l = 0 :: l' ∧ RouteP ring3 [] t 1 l') ∨ (v = 1 ∧ l = 1 :: l' ∧ RouteP ring3 [] t 2 l') ∨ (v = 2 ∧ l = 2 :: l' ∧ RouteP ring3 [] t 0 l'):=by
 cases h with
 | nil=>exact absurd rfl hv
 | @cons _ i e l _ he h1 hok hmin h=>
  match i,he with
  | 0,he=>cases he; exact ⟨l,.inl ⟨h1.symm,rfl,h⟩⟩
  | 1,he=>cases he; exact ⟨l,.inr (.inl ⟨h1.symm,rfl,h⟩)⟩
  | 2,he=>cases he; exact ⟨l,.inr (.inr ⟨h1.symm,rfl,h⟩)⟩
  | i + 3,he=>cases he
theorem rp_nil {t : Int} {l : List Int} (h : RouteP ring3 [] t t l) : l = []:=by
 cases h with
 | nil=>rfl
 | cons hv=>exact absurd rfl hv
theorem far02 : 0 ≤ farV ring3 [] 2 0:=wayC_nonneg ring_right (farV_min ring_right (.step (e:=(0,1,1)) (by simp) (by simp) (.step (e:=(1,2,1)) (by simp) (by simp) .refl))).1
theorem far20 : 0 ≤ farV ring3 [] 0 2:=wayC_nonneg ring_right (farV_min ring_right (.step (e:=(2,0,1)) (by simp) (by simp) .refl)).1
theorem route02 {p : List Int × Int} (h : RouteR 3 ring3 [] 0 2 p) : p = ([0,1],0):=by
 rcases h with ⟨h,_⟩ | ⟨_,h,_⟩ | ⟨_,_,h,h2⟩
 ·exact absurd ⟨ring_right,by decide,by decide⟩ h
 ·have:=far02; omega
 ·have hobt:=rp3 h (by decide)
  obtain ⟨l1,⟨_,e1,h1⟩ | ⟨h1,_⟩ | ⟨h1,_⟩⟩:=hobt
  ·have hobt:=rp3 h1 (by decide)
   obtain ⟨l2,⟨h3,_⟩ | ⟨_,e2,h3⟩ | ⟨h3,_⟩⟩:=hobt
   ·cases h3
   ·rw [rp_nil h3] at e2; subst e2; exact Prod.ext e1 h2
   ·cases h3
  ·cases h1
  ·cases h1
theorem route20 {p : List Int × Int} (h : RouteR 3 ring3 [] 2 0 p) : p = ([2],0):=by
 rcases h with ⟨h,_⟩ | ⟨_,h,_⟩ | ⟨_,_,h,h2⟩
 ·exact absurd ⟨ring_right,by decide,by decide⟩ h
 ·have:=far20; omega
 ·have hobt:=rp3 h (by decide)
  obtain ⟨l1,⟨h1,_⟩ | ⟨h1,_⟩ | ⟨_,e1,h1⟩⟩:=hobt
  ·cases h1
  ·cases h1
  ·rw [rp_nil h1] at e1; exact Prod.ext e1 h2
theorem route_ex {n : Int} {es : List Edge} {bl : List Int} {t : Int} (hR : RightL n es) : ∀ (k : Nat) (v : Int),0 ≤ farV es bl t v → farV es bl t v ≤ k → ∃ l,RouteP es bl t v l
 | 0,v,h0,hk=>by
  by_cases hv : v = t
  ·subst hv; exact ⟨[],.nil⟩
  ·have hobt:=okE_ex hR hv h0
   obtain ⟨i,e,he,h1,h2,h3⟩:=hobt
   have:=okE_less hR (List.mem_of_getElem? he) h2
   omega
 | k + 1,v,h0,hk=>by
  by_cases hv : v = t
  ·subst hv; exact ⟨[],.nil⟩
  ·have hobt:=okE_ex hR hv h0
   obtain ⟨i,e,he,h1,h2,h3⟩:=hobt
   have:=okE_less hR (List.mem_of_getElem? he) h2
   have hobt:=route_ex hR k e.2.1 this.1 (by omega)
   obtain ⟨l,hl⟩:=hobt
   exact ⟨_,.cons hv he h1 h2 h3 hl⟩
theorem ring02 : RouteR 3 ring3 [] 0 2 ([0,1],0):=by
 have hobt:=route_ex ring_right _ 0 far02 (Int.le_of_eq (Int.toNat_of_nonneg far02).symm)
 obtain ⟨l,hl⟩:=hobt
 have h : RouteR 3 ring3 [] 0 2 (l,0):=.inr (.inr ⟨⟨ring_right,by decide,by decide⟩,far02,hl,rfl⟩)
 rw [route02 h] at h
 exact h
theorem ring20 : RouteR 3 ring3 [] 2 0 ([2],0):=by
 have hobt:=route_ex ring_right _ 2 far20 (Int.le_of_eq (Int.toNat_of_nonneg far20).symm)
 obtain ⟨l,hl⟩:=hobt
 have h : RouteR 3 ring3 [] 2 0 (l,0):=.inr (.inr ⟨⟨ring_right,by decide,by decide⟩,far20,hl,rfl⟩)
 rw [route20 h] at h
 exact h
end
end Go.Sx
namespace Go.Sx
noncomputable section
open Go Go.Proofs Go.Proofs.YtcehbnfhlcfinaaGreatDoor
open Go.Shelf
theorem den_arr {ρ : Rho} {O : Nat → Prop} {w : World} {a b : List Int} {p : Option (Nat × Nat)} : DenCt regF ρ O w (.arr 51 [a,b]) p ↔ DenCt regF ρ O w (.cells [.lst 3 a,.lst 3 b]) p:=by
 cases p with
 | none=>exact Iff.rfl
 | some p=>
  constructor
  ·rintro ((⟨_,_,_,e,_⟩ | ⟨_,_,e,_⟩) | ⟨_,h⟩)
   ·cases e
   ·cases e
   ·exact .inr ⟨rfl,h⟩
  ·rintro ((⟨_,_,_,e,_⟩ | ⟨_,_,e,_⟩) | ⟨_,h⟩)
   ·cases e
   ·cases e
   ·exact .inr ⟨rfl,h⟩
def spConA : Spec AF where
 γ:=List Int × List Int
 args:=fun _=>[.sl 0 1 0 2]
 own:=fun g=>[.arr 51 [g.1,g.2]]
 pre:=fun g=>g.1.length ≤ 100000 ∧ g.2.length ≤ 100000
 nnew:=1
 res:=fun g _=>.sl 1 1 0 (g.1 ++ g.2).length
 own':=fun g _=>[none,some (.arr 3 (g.1 ++ g.2))]
theorem blk_one {a b : Ct AF} {ρ : Rho} : Blk [some a] ρ = Blk [some b] ρ:=by
 funext x
 refine propext ⟨fun h=>?_,fun h=>?_⟩
 all_goals
  obtain ⟨i,ct,base,h1,h2⟩:=h
  match i,h1 with
  | 0,h1=>exact ⟨0,_,base,rfl,h2⟩
theorem m_conA : Meets Tryz.prog regF 109 spConA:=by
 refine ⟨m_concat.1,fun g hg X ρ w vs h1 h2 h3 h4=>?_⟩
 have e : Blk ((spConA.own g).map some) ρ = Blk ((spConcat.own g).map some) ρ:=blk_one
 rw [e] at h2 h3 h4
 refine (m_concat.2 g hg X ρ w vs h1 h2 h3 ⟨fun h ct hh=>?_,fun h h' ct ct' b base base' g1 g2 g3 g4=>?_⟩).mono fun e' w' hh=>?_
 ·match h,hh with
  | 0,hh=>cases hh; exact den_arr.1 (h4.den 0 _ rfl)
 ·match h,h',g1,g2 with
  | 0,0,_,_=>rfl
 ·obtain ⟨d,ρ',v,p1,p2,p3,p4,p5,p6,p7,p8,p9,p10⟩:=hh
  have sub : ∀ b,Blk (spConA.own' g d) ρ' b → Blk (spConcat.own' g d) ρ' b:=fun b h=>by
   obtain ⟨i,ct,base,q1,q2⟩:=h
   match i,q1 with
   | 0,q1=>cases q1
   | 1,q1=>exact ⟨1,ct,base,q1,q2⟩
  have gs : Goes (fun b=>X b ∨ Blk (spConcat.own' g d) ρ' b) (fun b=>X b ∨ Blk (spConA.own' g d) ρ' b) w' w':=⟨fun b c E fz hn hb=>⟨fun hx=>hn (hx.imp id (sub b)),hb⟩,fun b c E fz hb=>⟨c,fz,hb,rfl⟩,fun b ds hb=>hb⟩
  refine ⟨d,ρ',v,p1,p2,p3,p4.mono gs,⟨fun h ct hh=>?_,fun h h' ct ct' b base base' g1 g2 g3 g4=>?_⟩,fun b hb=>?_,p7,p8,fun h ct hh=>?_,?_⟩
  ·match h,hh with
   | 0,hh=>cases hh
   | 1,hh=>exact (p5.den 1 ct hh).mono gs fun _ _ _=>rfl
  ·match h,h',g1,g2 with
   | 0,_,g1,_=>cases g1
   | 1,0,_,g2=>cases g2
   | 1,1,_,_=>rfl
  ·rw [e]; exact p6 b (sub b hb)
  ·match h,hh with
   | 0,hh=>cases hh
   | 1,hh=>cases hh; rfl
  ·rw [e]; exact p10
abbrev path7 : List Int:=[0,1000,1,1001,2,1002,0]
abbrev pathK (k : Nat) : List Int:=path7.take (1 + 2 * k)
abbrev yd0 (v : ByteArray) (win : Int) : Ct AF:=yardM 3 ring3 [(v,0)] win 0 0 1 0
abbrev yd1 (v : ByteArray) (win : Int) (p : Nat) : Ct AF:=yardM 3 ring3 [(v,0)] win 1 0 p 1
def spTo1 : Spec AF where
 γ:=ByteArray × Int
 args:=fun _=>[.ptr 0 0 8 0,vI 0,vI 0,vI 2]
 own:=fun g=>[yd0 g.1 g.2,.arr 51 []]
 nnew:=1
 res:=fun _ _=>.tup [.lst 3 path7,vI 3,vB true]
 own':=fun g _=>[some (yd1 g.1 g.2 2),none,some (.arr 51 [[]])]
theorem m_to1 : Meets Tryz.prog regF 81 spTo1:=by
 refine meetsT Tryz.func81 87 noWr ?_
 rintro ⟨(v : ByteArray),(win : Int)⟩ _
 have hx : [((v,0) : HomT)][0]? = some (v,0):=rfl
 conv=>whnf
 repeat' ((first | (refine (?_ : TG _ _); first | refine tY ?_ | refine tN ?_ | refine dY ?_ | refine dN ?_ | (refine tell ?_ ?_ <;> intro hQ <;> try dsimp only at hQ)) | refine aS ?_ | refine ai ?_ | fail) <;> conv=>whnf)
 refine ⟨some (3,6,[0,1,2,4,5,6,3,7,8,9,10,11,12,13,14]),?_⟩
 conv=>whnf
 refine ai ?_
 refine And.intro ?_ ?_
 ·conv=>whnf
  repeat' ((first | (refine (?_ : TG _ _); first | refine tY ?_ | refine tN ?_ | refine dY ?_ | refine dN ?_ | (refine tell ?_ ?_ <;> intro hQ <;> try dsimp only at hQ)) | refine aS ?_ | refine ai ?_ | refine ⟨none,?_⟩ | fail) <;> conv=>whnf)
  refine ⟨_,m_bk1,(3,ring3,(v,0),win),[0,1],false,?_⟩
  conv=>whnf
  refine vcA trivial ?_
  refine uU ?_
  conv=>whnf
  conv=>whnf
  repeat' ((first | (refine (?_ : TG _ _); first | refine tY ?_ | refine tN ?_ | refine dY ?_ | refine dN ?_ | (refine tell ?_ ?_ <;> intro hQ <;> try dsimp only at hQ)) | refine aS ?_ | refine ai ?_ | refine ⟨none,?_⟩ | fail) <;> conv=>whnf)
  refine ⟨_,m_routeU,((3,ring3),[],0,2),[],false,?_⟩
  conv=>whnf
  refine vcA ⟨ring_good,by decide⟩ ?_
  conv=>whnf
  refine aV ([0,1],0) ring02 fun (p : List Int × Int) (hp : RouteR 3 ring3 [] 0 2 p)=>?_
  have hobt:=route02 hp
  obtain rfl:=hobt
  conv=>whnf
  repeat' ((first | (refine (?_ : TG _ _); first | refine tY ?_ | refine tN ?_ | refine dY ?_ | refine dN ?_ | (refine tell ?_ ?_ <;> intro hQ <;> try dsimp only at hQ)) | refine aS ?_ | refine ai ?_ | refine ⟨none,?_⟩ | fail) <;> conv=>whnf)
  refine ⟨_,m_bk2,(3,ring3,[(v,0)],win),[0,1024],false,?_⟩
  conv=>whnf
  refine vcA trivial ?_ (ht:=⟨trivial,rfl,fun _=>rfl⟩)
  refine uU ?_
  conv=>whnf
  conv=>whnf
  repeat' ((first | (refine (?_ : TG _ _); first | refine tY ?_ | refine tN ?_ | refine dY ?_ | refine dN ?_ | (refine tell ?_ ?_ <;> intro hQ <;> try dsimp only at hQ)) | refine aS ?_ | refine aX hx ?_ | refine aL hx ?_ | refine ai ?_ | refine ⟨none,?_⟩ | fail) <;> conv=>whnf)
  refine ⟨_,m_routeU,((3,ring3),[],2,0),[],false,?_⟩
  conv=>whnf
  refine vcA ⟨ring_good,by decide⟩ ?_
  conv=>whnf
  refine aV ([2],0) ring20 fun (q : List Int × Int) (hq : RouteR 3 ring3 [] 2 0 q)=>?_
  have hobt:=route20 hq
  obtain rfl:=hobt
  conv=>whnf
  repeat' ((first | (refine (?_ : TG _ _); first | refine tY ?_ | refine tN ?_ | refine dY ?_ | refine dN ?_ | (refine tell ?_ ?_ <;> intro hQ <;> try dsimp only at hQ)) | refine aS ?_ | refine ai ?_ | refine ⟨none,?_⟩ | fail) <;> conv=>whnf)
  refine ⟨_,m_conA,([0,1],[2]),[1060],false,?_⟩
  conv=>whnf
  refine vcA ⟨by decide,by decide⟩ ?_
  refine uU ?_
  conv=>whnf
  conv=>whnf
  repeat' ((first | (refine (?_ : TG _ _); first | refine tY ?_ | refine tN ?_ | refine dY ?_ | refine dN ?_ | (refine tell ?_ ?_ <;> intro hQ <;> try dsimp only at hQ)) | refine aS ?_ | refine ai ?_ | refine ⟨none,?_⟩ | fail) <;> conv=>whnf)
  refine ⟨Nat,fun j=>⟨[(0,.ptr 0 0 8 0),(8,.sl 3001 1 0 (1 + 2 * j)),(13,.lst 3 [2]),(61,.sl 1061 1 0 3),(62,vI 3),(63,vI j)],[(0,yd1 v win 1024),(1024,.arr 51 [[]]),(1061,.arr 3 [0,1,2]),(3001,.arr 3 (pathK j))]⟩,fun j=>j ≤ 3,fun j=>3 - j,fun _ _=>rfl,⟨0,[(3001,1057)],Nat.zero_le _,en⟩,?_⟩
  rintro (j : Nat) (hj : j ≤ 3)
  by_cases hlt : j < 3
  ·have hj3 : j = 0 ∨ j = 1 ∨ j = 2:=by omega
   rcases hj3 with rfl | rfl | rfl
   ·have ha : [(0 : Int),1,2][0 + ((0 : Nat) : Int).toNat]? = some 0:=rfl
    have hb : ring3[(0 : Int).toNat]? = some (0,1,1):=rfl
    conv=>whnf
    repeat' ((first | (refine (?_ : TG _ _); first | refine tY ?_ | refine tN ?_ | refine dY ?_ | refine dN ?_ | (refine tell ?_ ?_ <;> intro hQ <;> try dsimp only at hQ)) | refine aS ?_ | refine aX ha ?_ | refine aL ha ?_ | refine aX hb ?_ | refine aL hb ?_ | refine ai ?_ | refine ⟨none,?_⟩ | fail) <;> conv=>whnf)
    exact ⟨1,[(3001,1080)],(by show 1 ≤ 3; decide),rn en⟩
   ·have ha : [(0 : Int),1,2][0 + ((1 : Nat) : Int).toNat]? = some 1:=rfl
    have hb : ring3[(1 : Int).toNat]? = some (1,2,1):=rfl
    conv=>whnf
    repeat' ((first | (refine (?_ : TG _ _); first | refine tY ?_ | refine tN ?_ | refine dY ?_ | refine dN ?_ | (refine tell ?_ ?_ <;> intro hQ <;> try dsimp only at hQ)) | refine aS ?_ | refine aX ha ?_ | refine aL ha ?_ | refine aX hb ?_ | refine aL hb ?_ | refine ai ?_ | refine ⟨none,?_⟩ | fail) <;> conv=>whnf)
    exact ⟨2,[(3001,1080)],(by show 2 ≤ 3; decide),rn en⟩
   ·have ha : [(0 : Int),1,2][0 + ((2 : Nat) : Int).toNat]? = some 2:=rfl
    have hb : ring3[(2 : Int).toNat]? = some (2,0,1):=rfl
    conv=>whnf
    repeat' ((first | (refine (?_ : TG _ _); first | refine tY ?_ | refine tN ?_ | refine dY ?_ | refine dN ?_ | (refine tell ?_ ?_ <;> intro hQ <;> try dsimp only at hQ)) | refine aS ?_ | refine aX ha ?_ | refine aL ha ?_ | refine aX hb ?_ | refine aL hb ?_ | refine ai ?_ | refine ⟨none,?_⟩ | fail) <;> conv=>whnf)
    exact ⟨3,[(3001,1080)],(by show 3 ≤ 3; decide),rn en⟩
  ·have hobt : j = 3:=by omega
   obtain rfl:=hobt
   have hp7 : 0 + (1 + 2 * 3) ≤ (pathK 3).length:=by decide
   conv=>whnf
   repeat' ((first | (refine (?_ : TG _ _); first | refine tY ?_ | refine tN ?_ | refine dY ?_ | refine dN ?_ | (refine tell ?_ ?_ <;> intro hQ <;> try dsimp only at hQ)) | refine aS ?_ | refine ai ?_ | refine ⟨none,?_⟩ | fail) <;> conv=>whnf)
   exact ⟨(),[1024],trivial,a3⟩
 ·conv=>whnf
  repeat' ((first | (refine (?_ : TG _ _); first | refine tY ?_ | refine tN ?_ | refine dY ?_ | refine dN ?_ | (refine tell ?_ ?_ <;> intro hQ <;> try dsimp only at hQ)) | refine aS ?_ | refine ai ?_ | refine ⟨none,?_⟩ | fail) <;> conv=>whnf)
  refine ⟨_,m_bk1,(3,ring3,(v,0),win),[0,1],false,?_⟩
  conv=>whnf
  refine vcA trivial ?_
  refine uU ?_
  conv=>whnf
  conv=>whnf
  repeat' ((first | (refine (?_ : TG _ _); first | refine tY ?_ | refine tN ?_ | refine dY ?_ | refine dN ?_ | (refine tell ?_ ?_ <;> intro hQ <;> try dsimp only at hQ)) | refine aS ?_ | refine ai ?_ | refine ⟨none,?_⟩ | fail) <;> conv=>whnf)
  refine ⟨_,m_routeU,((3,ring3),[],0,2),[],false,?_⟩
  conv=>whnf
  refine vcA ⟨ring_good,by decide⟩ ?_
  conv=>whnf
  refine aV ([0,1],0) ring02 fun (p : List Int × Int) (hp : RouteR 3 ring3 [] 0 2 p)=>?_
  have hobt:=route02 hp
  obtain rfl:=hobt
  conv=>whnf
  repeat' ((first | (refine (?_ : TG _ _); first | refine tY ?_ | refine tN ?_ | refine dY ?_ | refine dN ?_ | (refine tell ?_ ?_ <;> intro hQ <;> try dsimp only at hQ)) | refine aS ?_ | refine ai ?_ | refine ⟨none,?_⟩ | fail) <;> conv=>whnf)
  refine ⟨_,m_bk2,(3,ring3,[(v,0)],win),[0,1024],false,?_⟩
  conv=>whnf
  refine vcA trivial ?_ (ht:=⟨trivial,rfl,fun _=>rfl⟩)
  refine uU ?_
  conv=>whnf
  conv=>whnf
  repeat' ((first | (refine (?_ : TG _ _); first | refine tY ?_ | refine tN ?_ | refine dY ?_ | refine dN ?_ | (refine tell ?_ ?_ <;> intro hQ <;> try dsimp only at hQ)) | refine aS ?_ | refine aX hx ?_ | refine aL hx ?_ | refine ai ?_ | refine ⟨none,?_⟩ | fail) <;> conv=>whnf)
  refine ⟨_,m_routeU,((3,ring3),[],2,0),[],false,?_⟩
  conv=>whnf
  refine vcA ⟨ring_good,by decide⟩ ?_
  conv=>whnf
  refine aV ([2],0) ring20 fun (q : List Int × Int) (hq : RouteR 3 ring3 [] 2 0 q)=>?_
  have hobt:=route20 hq
  obtain rfl:=hobt
  conv=>whnf
  repeat' ((first | (refine (?_ : TG _ _); first | refine tY ?_ | refine tN ?_ | refine dY ?_ | refine dN ?_ | (refine tell ?_ ?_ <;> intro hQ <;> try dsimp only at hQ)) | refine aS ?_ | refine ai ?_ | refine ⟨none,?_⟩ | fail) <;> conv=>whnf)
  refine ⟨_,m_conA,([0,1],[2]),[1060],false,?_⟩
  conv=>whnf
  refine vcA ⟨by decide,by decide⟩ ?_
  refine uU ?_
  conv=>whnf
  conv=>whnf
  repeat' ((first | (refine (?_ : TG _ _); first | refine tY ?_ | refine tN ?_ | refine dY ?_ | refine dN ?_ | (refine tell ?_ ?_ <;> intro hQ <;> try dsimp only at hQ)) | refine aS ?_ | refine ai ?_ | refine ⟨none,?_⟩ | fail) <;> conv=>whnf)
  refine ⟨Nat,fun j=>⟨[(0,.ptr 0 0 8 0),(8,.sl 3001 1 0 (1 + 2 * j)),(13,.lst 3 [2]),(61,.sl 1061 1 0 3),(62,vI 3),(63,vI j)],[(0,yd1 v win 1024),(1024,.arr 51 [[]]),(1061,.arr 3 [0,1,2]),(3001,.arr 3 (pathK j))]⟩,fun j=>j ≤ 3,fun j=>3 - j,fun _ _=>rfl,⟨0,[(3001,1057)],Nat.zero_le _,en⟩,?_⟩
  rintro (j : Nat) (hj : j ≤ 3)
  by_cases hlt : j < 3
  ·have hj3 : j = 0 ∨ j = 1 ∨ j = 2:=by omega
   rcases hj3 with rfl | rfl | rfl
   ·have ha : [(0 : Int),1,2][0 + ((0 : Nat) : Int).toNat]? = some 0:=rfl
    have hb : ring3[(0 : Int).toNat]? = some (0,1,1):=rfl
    conv=>whnf
    repeat' ((first | (refine (?_ : TG _ _); first | refine tY ?_ | refine tN ?_ | refine dY ?_ | refine dN ?_ | (refine tell ?_ ?_ <;> intro hQ <;> try dsimp only at hQ)) | refine aS ?_ | refine aX ha ?_ | refine aL ha ?_ | refine aX hb ?_ | refine aL hb ?_ | refine ai ?_ | refine ⟨none,?_⟩ | fail) <;> conv=>whnf)
    exact ⟨1,[(3001,1080)],(by show 1 ≤ 3; decide),rn en⟩
   ·have ha : [(0 : Int),1,2][0 + ((1 : Nat) : Int).toNat]? = some 1:=rfl
    have hb : ring3[(1 : Int).toNat]? = some (1,2,1):=rfl
    conv=>whnf
    repeat' ((first | (refine (?_ : TG _ _); first | refine tY ?_ | refine tN ?_ | refine dY ?_ | refine dN ?_ | (refine tell ?_ ?_ <;> intro hQ <;> try dsimp only at hQ)) | refine aS ?_ | refine aX ha ?_ | refine aL ha ?_ | refine aX hb ?_ | refine aL hb ?_ | refine ai ?_ | refine ⟨none,?_⟩ | fail) <;> conv=>whnf)
    exact ⟨2,[(3001,1080)],(by show 2 ≤ 3; decide),rn en⟩
   ·have ha : [(0 : Int),1,2][0 + ((2 : Nat) : Int).toNat]? = some 2:=rfl
    have hb : ring3[(2 : Int).toNat]? = some (2,0,1):=rfl
    conv=>whnf
    repeat' ((first | (refine (?_ : TG _ _); first | refine tY ?_ | refine tN ?_ | refine dY ?_ | refine dN ?_ | (refine tell ?_ ?_ <;> intro hQ <;> try dsimp only at hQ)) | refine aS ?_ | refine aX ha ?_ | refine aL ha ?_ | refine aX hb ?_ | refine aL hb ?_ | refine ai ?_ | refine ⟨none,?_⟩ | fail) <;> conv=>whnf)
    exact ⟨3,[(3001,1080)],(by show 3 ≤ 3; decide),rn en⟩
  ·have hobt : j = 3:=by omega
   obtain rfl:=hobt
   have hp7 : 0 + (1 + 2 * 3) ≤ (pathK 3).length:=by decide
   conv=>whnf
   repeat' ((first | (refine (?_ : TG _ _); first | refine tY ?_ | refine tN ?_ | refine dY ?_ | refine dN ?_ | (refine tell ?_ ?_ <;> intro hQ <;> try dsimp only at hQ)) | refine aS ?_ | refine ai ?_ | refine ⟨none,?_⟩ | fail) <;> conv=>whnf)
   exact ⟨(),[1024],trivial,a3⟩
def spTo2 : Spec AF where
 γ:=ByteArray × Int
 args:=fun _=>[.ptr 0 0 8 0,vI 0,vI 0,vI 2]
 own:=fun g=>[yd1 g.1 g.2 1,.arr 51 [[]]]
 res:=fun _ _=>.tup [.lst 3 path7,vI 3,vB true]
 own':=fun g _=>[some (yd1 g.1 g.2 1),some (.arr 51 [[]])]
theorem m_to2 : Meets Tryz.prog regF 81 spTo2:=by
 refine meets Tryz.func81 87 noWr ?_
 rintro ⟨(v : ByteArray),(win : Int)⟩ _
 have hx : [((v,0) : HomT)][0]? = some (v,0):=rfl
 conv=>whnf
 repeat' ((first | (refine (?_ : TG _ _); first | refine tY ?_ | refine tN ?_ | refine dY ?_ | refine dN ?_ | (refine tell ?_ ?_ <;> intro hQ <;> try dsimp only at hQ)) | refine aS ?_ | refine ai ?_ | fail) <;> conv=>whnf)
 refine ⟨_,m_bk2,(3,ring3,[(v,0)],win),[0,1],false,?_⟩
 conv=>whnf
 refine vcA trivial ?_ (ht:=⟨trivial,rfl,fun _=>rfl⟩)
 refine uU ?_
 conv=>whnf
 conv=>whnf
 repeat' ((first | (refine (?_ : TG _ _); first | refine tY ?_ | refine tN ?_ | refine dY ?_ | refine dN ?_ | (refine tell ?_ ?_ <;> intro hQ <;> try dsimp only at hQ)) | refine aS ?_ | refine ai ?_ | fail) <;> conv=>whnf)
 refine ⟨_,m_routeU,((3,ring3),[],0,2),[],false,?_⟩
 conv=>whnf
 refine vcA ⟨ring_good,by decide⟩ ?_
 conv=>whnf
 refine aV ([0,1],0) ring02 fun (p : List Int × Int) (hp : RouteR 3 ring3 [] 0 2 p)=>?_
 have hobt:=route02 hp
 obtain rfl:=hobt
 conv=>whnf
 repeat' ((first | (refine (?_ : TG _ _); first | refine tY ?_ | refine tN ?_ | refine dY ?_ | refine dN ?_ | (refine tell ?_ ?_ <;> intro hQ <;> try dsimp only at hQ)) | refine aS ?_ | refine ai ?_ | fail) <;> conv=>whnf)
 refine ⟨_,m_bk2,(3,ring3,[(v,0)],win),[0,1],false,?_⟩
 conv=>whnf
 refine vcA trivial ?_ (ht:=⟨trivial,rfl,fun _=>rfl⟩)
 refine uU ?_
 conv=>whnf
 conv=>whnf
 repeat' ((first | (refine (?_ : TG _ _); first | refine tY ?_ | refine tN ?_ | refine dY ?_ | refine dN ?_ | (refine tell ?_ ?_ <;> intro hQ <;> try dsimp only at hQ)) | refine aS ?_ | refine aX hx ?_ | refine aL hx ?_ | refine ai ?_ | fail) <;> conv=>whnf)
 refine ⟨_,m_routeU,((3,ring3),[],2,0),[],false,?_⟩
 conv=>whnf
 refine vcA ⟨ring_good,by decide⟩ ?_
 conv=>whnf
 refine aV ([2],0) ring20 fun (q : List Int × Int) (hq : RouteR 3 ring3 [] 2 0 q)=>?_
 have hobt:=route20 hq
 obtain rfl:=hobt
 conv=>whnf
 repeat' ((first | (refine (?_ : TG _ _); first | refine tY ?_ | refine tN ?_ | refine dY ?_ | refine dN ?_ | (refine tell ?_ ?_ <;> intro hQ <;> try dsimp only at hQ)) | refine aS ?_ | refine ai ?_ | fail) <;> conv=>whnf)
 refine ⟨_,m_conA,([0,1],[2]),[1060],false,?_⟩
 conv=>whnf
 refine vcA ⟨by decide,by decide⟩ ?_
 refine uU ?_
 conv=>whnf
 conv=>whnf
 repeat' ((first | (refine (?_ : TG _ _); first | refine tY ?_ | refine tN ?_ | refine dY ?_ | refine dN ?_ | (refine tell ?_ ?_ <;> intro hQ <;> try dsimp only at hQ)) | refine aS ?_ | refine ai ?_ | fail) <;> conv=>whnf)
 refine ⟨Nat,fun j=>⟨[(0,.ptr 0 0 8 0),(8,.sl 3001 1 0 (1 + 2 * j)),(13,.lst 3 [2]),(61,.sl 1061 1 0 3),(62,vI 3),(63,vI j)],[(0,yd1 v win 1),(1,.arr 51 [[]]),(1061,.arr 3 [0,1,2]),(3001,.arr 3 (pathK j))]⟩,fun j=>j ≤ 3,fun j=>3 - j,fun _ _=>rfl,⟨0,[(3001,1057)],Nat.zero_le _,en⟩,?_⟩
 rintro (j : Nat) (hj : j ≤ 3)
 by_cases hlt : j < 3
 ·have hj3 : j = 0 ∨ j = 1 ∨ j = 2:=by omega
  rcases hj3 with rfl | rfl | rfl
  ·have ha : [(0 : Int),1,2][0 + ((0 : Nat) : Int).toNat]? = some 0:=rfl
   have hb : ring3[(0 : Int).toNat]? = some (0,1,1):=rfl
   conv=>whnf
   repeat' ((first | (refine (?_ : TG _ _); first | refine tY ?_ | refine tN ?_ | refine dY ?_ | refine dN ?_ | (refine tell ?_ ?_ <;> intro hQ <;> try dsimp only at hQ)) | refine aS ?_ | refine aX ha ?_ | refine aL ha ?_ | refine aX hb ?_ | refine aL hb ?_ | refine ai ?_ | fail) <;> conv=>whnf)
   exact ⟨1,[(3001,1080)],(by show 1 ≤ 3; decide),rn en⟩
  ·have ha : [(0 : Int),1,2][0 + ((1 : Nat) : Int).toNat]? = some 1:=rfl
   have hb : ring3[(1 : Int).toNat]? = some (1,2,1):=rfl
   conv=>whnf
   repeat' ((first | (refine (?_ : TG _ _); first | refine tY ?_ | refine tN ?_ | refine dY ?_ | refine dN ?_ | (refine tell ?_ ?_ <;> intro hQ <;> try dsimp only at hQ)) | refine aS ?_ | refine aX ha ?_ | refine aL ha ?_ | refine aX hb ?_ | refine aL hb ?_ | refine ai ?_ | fail) <;> conv=>whnf)
   exact ⟨2,[(3001,1080)],(by show 2 ≤ 3; decide),rn en⟩
  ·have ha : [(0 : Int),1,2][0 + ((2 : Nat) : Int).toNat]? = some 2:=rfl
   have hb : ring3[(2 : Int).toNat]? = some (2,0,1):=rfl
   conv=>whnf
   repeat' ((first | (refine (?_ : TG _ _); first | refine tY ?_ | refine tN ?_ | refine dY ?_ | refine dN ?_ | (refine tell ?_ ?_ <;> intro hQ <;> try dsimp only at hQ)) | refine aS ?_ | refine aX ha ?_ | refine aL ha ?_ | refine aX hb ?_ | refine aL hb ?_ | refine ai ?_ | fail) <;> conv=>whnf)
   exact ⟨3,[(3001,1080)],(by show 3 ≤ 3; decide),rn en⟩
 ·have hobt : j = 3:=by omega
  obtain rfl:=hobt
  have hp7 : 0 + (1 + 2 * 3) ≤ (pathK 3).length:=by decide
  conv=>whnf
  repeat' ((first | (refine (?_ : TG _ _); first | refine tY ?_ | refine tN ?_ | refine dY ?_ | refine dN ?_ | (refine tell ?_ ?_ <;> intro hQ <;> try dsimp only at hQ)) | refine aS ?_ | refine ai ?_ | fail) <;> conv=>whnf)
  exact ⟨(),[],trivial,a3⟩
end
end Go.Sx
namespace Go.Sx
noncomputable section
open Go Go.Proofs Go.Proofs.YtcehbnfhlcfinaaGreatDoor
open Go.Shelf
abbrev m0C : Ct AF:=.cells [.ptr 1 0 8 0,.ptr 2 0 5 0]
abbrev tbC : Ct AF:=.cells [.mp 6]
abbrev knowAt (j b : Nat) (s : MS) : Ct AF:=.row 86 [.sl 3 20 0 s.ps.length,.sl j 4 0 s.js.length,.ptr 5 0 1 0,adrV s.f,.sl b 1 0 s.bs.length]
abbrev addJ (s : MS) (t : Int) : MS:={ s with js:=s.js ++ [((s.js.length : Int) + 1,t,1,-1)] }
def spCame1 : Spec AF where
 γ:=MS × Int
 args:=fun g=>[.ptr 0 0 2 0,vI (g.1.js.length + 1),vI g.2]
 own:=fun g=>msB g.1
 pre:=fun g=>g.1.fl.length ≤ 1000000 ∧ g.1.js.length < 50 ∧ placeB g.1.n g.1.fl g.2 = true
 nnew:=1
 res:=fun _ _=>vB true
 own':=fun g _=>[some m0C,some (yardCt g.1),some (knowAt 9 7 (addJ g.1 g.2)),some (.arr 111 g.1.ps),none,some tbC,some (.map 3 3 g.1.tb),some (.arr 5 (iB g.1.bs)),some (.arr 51 g.1.past),some (.arr 63 (addJ g.1 g.2).js)]
theorem m_came1 : Meets Tryz.prog regF 72 spCame1:=by
 refine meets Tryz.func72 56 noWr ?_
 rintro ⟨⟨n,es,fl,win,dn,past,ps,(js : List JobT),tb,f,bs⟩,(t : Int)⟩ ⟨(hfl : fl.length ≤ 1000000),(hj : js.length < 50),(hp : placeB n fl t = true)⟩
 have eL : js.length + 1 = (js ++ [((js.length : Int) + 1,t,(1 : Int),(-1 : Int))]).length:=by simp
 have eC : (js.drop 0).take js.length ++ [((js.length : Int) + 1,t,(1 : Int),(-1 : Int))] = js ++ [((js.length : Int) + 1,t,(1 : Int),(-1 : Int))]:=by rw [List.drop_zero,List.take_length]
 cases f
 all_goals
  conv=>whnf
  repeat' ((first | (refine (?_ : TG _ _); first | refine tY ?_ | refine tN ?_ | refine dY ?_ | refine dN ?_ | (refine tell ?_ ?_ <;> intro hQ <;> try dsimp only at hQ)) | refine aS ?_ | refine ai ?_ | fail) <;> conv=>whnf)
 all_goals
  refine ⟨_,m_place,(⟨n,es,fl,win,dn,past,ps,js,tb,true,bs⟩,t),[1,8],false,?_⟩
  conv=>whnf
  refine vcA hfl ?_
 all_goals conv=>whnf
 all_goals refine aV _ rfl fun (c : Bool) (hc : c = placeB n fl t)=>?_
 all_goals obtain rfl : c = true:=hc.trans hp
 all_goals
  conv=>whnf
  repeat' ((first | (refine (?_ : TG _ _); first | refine tY ?_ | refine tN ?_ | refine dY ?_ | refine dN ?_ | (refine tell ?_ ?_ <;> intro hQ <;> try dsimp only at hQ)) | refine aS ?_ | refine ai ?_ | fail) <;> conv=>whnf)
 ·refine ⟨(),[1053],trivial,?_,?_,?_⟩
  all_goals (repeat' (first | exact trivial | exact rfl | refine And.intro ?_ ?_ | (refine congrArg vI ?_; first | omega | (dsimp only; omega) | fail) | (refine congrArg some ?_) | omega | exact Nat.le_refl _ | exact congrArg (SV.lst _) (List.take_of_length_le (Nat.le_refl _)).symm))
  ·exact congrArg (SV.sl (A:=AF) 1053 4 0) eL
  ·exact congrArg (Ct.arr (A:=AF) 63) eC
 ·refine ⟨(),[1053],trivial,?_,?_,?_⟩
  all_goals (repeat' (first | exact trivial | exact rfl | refine And.intro ?_ ?_ | (refine congrArg vI ?_; first | omega | (dsimp only; omega) | fail) | (refine congrArg some ?_) | omega | exact Nat.le_refl _ | exact congrArg (SV.lst _) (List.take_of_length_le (Nat.le_refl _)).symm))
  ·exact congrArg (SV.sl (A:=AF) 1053 4 0) eL
  ·exact congrArg (Ct.arr (A:=AF) 63) eC
end
end Go.Sx
namespace Go.Sx
noncomputable section
open Go Go.Proofs Go.Proofs.YtcehbnfhlcfinaaGreatDoor
open Go.Shelf
abbrev mkP (c : CtlT) (news : ByteArray) (job left : Int) : PostT:=(c.1,c.2.1,c.2.2.1,c.2.2.2.1,c.2.2.2.2.1,c.2.2.2.2.2.1,c.2.2.2.2.2.2.1,c.2.2.2.2.2.2.2.1,c.2.2.2.2.2.2.2.2.1,c.2.2.2.2.2.2.2.2.2.1,c.2.2.2.2.2.2.2.2.2.2.1,c.2.2.2.2.2.2.2.2.2.2.2.1,c.2.2.2.2.2.2.2.2.2.2.2.2.1,c.2.2.2.2.2.2.2.2.2.2.2.2.2.1,c.2.2.2.2.2.2.2.2.2.2.2.2.2.2.1,c.2.2.2.2.2.2.2.2.2.2.2.2.2.2.2.1,c.2.2.2.2.2.2.2.2.2.2.2.2.2.2.2.2,news,job,left)
structure M1 where
 n : Int
 es : List EdgT
 fl : List HomT
 win : Int
 dn : Bool
 past : List (List Int)
 c : CtlT
 news : ByteArray
 job : Int
 left : Int
 j : JobT
 tb : TM
 bs : List UInt8
abbrev M1.s (m : M1) : MS:=⟨m.n,m.es,m.fl,m.win,m.dn,m.past,[mkP m.c m.news m.job m.left],[m.j],m.tb,true,m.bs⟩
def spPost : Spec AF where
 γ:=MS
 args:=fun _=>[.ptr 0 0 2 0,vI 0]
 own:=fun s=>msB s
 pre:=fun s=>s.f = true ∧ 0 < s.ps.length
 res:=fun _ _=>.ptr 3 0 20 0
 own':=fun s _=>(msB s).map some
theorem m_post : Meets Tryz.prog regF 28 spPost:=by
 refine meets Tryz.func28 28 noWr ?_
 rintro ⟨n,es,fl,win,dn,past,(ps : List PostT),js,tb,f,bs⟩ ⟨(hf : f = true),(hp : 0 < ps.length)⟩
 subst hf
 conv=>whnf
 repeat' ((first | (refine (?_ : TG _ _); first | refine tY ?_ | refine tN ?_ | refine dY ?_ | refine dN ?_ | (refine tell ?_ ?_ <;> intro hQ <;> try dsimp only at hQ)) | refine aS ?_ | refine ai ?_ | fail) <;> conv=>whnf)
 exact ⟨(),[],trivial,a3⟩
def spWaits : Spec AF where
 γ:=MS × JobT
 args:=fun _=>[.ptr 0 0 2 0,vI 1]
 own:=fun g=>msB g.1
 pre:=fun g=>g.1.f = true ∧ g.1.js[0]? = some g.2 ∧ g.2.2.2.1 = 1
 res:=fun _ _=>.ptr 4 0 4 0
 own':=fun g _=>(msB g.1).map some
theorem m_waits : Meets Tryz.prog regF 100 spWaits:=by
 refine meets Tryz.func100 44 noWr ?_
 rintro ⟨⟨n,es,fl,win,dn,past,ps,(js : List JobT),tb,f,bs⟩,⟨j1,j2,(j3 : Int),j4⟩⟩ ⟨(hf : f = true),(hj : js[0]? = some (j1,j2,j3,j4)),(h1 : j3 = 1)⟩
 subst hf h1
 have hl : 0 < js.length:=(List.getElem?_eq_some_iff.1 hj).1
 conv=>whnf
 repeat' ((first | (refine (?_ : TG _ _); first | refine tY ?_ | refine tN ?_ | refine dY ?_ | refine dN ?_ | (refine tell ?_ ?_ <;> intro hQ <;> try dsimp only at hQ)) | refine aS ?_ | refine aX hj ?_ | refine aL hj ?_ | refine ai ?_ | fail) <;> conv=>whnf)
 exact ⟨(),[],trivial,a3⟩
end
end Go.Sx
namespace Go.Sx
noncomputable section
open Go Go.Proofs Go.Proofs.YtcehbnfhlcfinaaGreatDoor
open Go.Shelf
abbrev planC (c : CtlT) (l : List Int) : CtlT:=(c.1,c.2.1,c.2.2.1,c.2.2.2.1,c.2.2.2.2.1,c.2.2.2.2.2.1,l,c.2.2.2.2.2.2.2.1,false,0,c.2.2.2.2.2.2.2.2.2.2)
structure GP where
 n : Int
 es : List EdgT
 fl : List HomT
 win : Int
 dn : Bool
 past : List (List Int)
 c : CtlT
 news : ByteArray
 l0 : Int
 t : Int
 tb : TM
 bs : List UInt8
 left : Int
 path : List Int
abbrev GP.a (g : GP) : MS:=⟨g.n,g.es,g.fl,g.win,g.dn,g.past,[mkP g.c g.news (-1) g.l0],[(1,g.t,1,-1)],g.tb,true,g.bs⟩
abbrev GP.b (g : GP) : MS:=⟨g.n,g.es,g.fl,g.win,g.dn,g.past,[mkP (planC g.c g.path) g.news 0 g.left],[(1,g.t,2,0)],claimL 0 g.tb g.path,true,g.bs⟩
def GP.ok (g : GP) : Prop:=spPlan.pre (g.c,g.path) ∧ (1 ≤ g.left ∧ g.left ≤ g.path.length) ∧ g.path[((g.path.length : Int) - g.left).toNat]? = some g.t ∧ ClaimOk g.tb 0 g.path ∧ InL g.path
def spMPlan : Spec AF where
 γ:=GP
 args:=fun g=>[.ptr 0 0 2 0,vI 1,vI 0,vI g.left,.lst 3 g.path]
 own:=fun g=>msB g.a
 pre:=GP.ok
 res:=fun _ _=>vB true
 own':=fun g _=>(msB g.b).map some
theorem m_mplan : Meets Tryz.prog regF 73 spMPlan:=by
 refine meets Tryz.func73 102 noWr ?_
 rintro ⟨n,es,fl,win,dn,past,⟨v,h,o,u,b,s,p,q,op,r,w,oh,ov,oo,ou,on,oe⟩,news,l0,(t : Int),tb,bs,(left : Int),(path : List Int)⟩ ⟨hpl,⟨(hl1 : 1 ≤ left),(hl2 : left ≤ path.length)⟩,(ht : path[((path.length : Int) - left).toNat]? = some t),hok,hin⟩
 have hl3 : path.length ≤ 1000000:=hpl.2.2.2.2.1
 have hx : [(v,h,o,u,b,s,p,q,op,r,w,oh,ov,oo,ou,on,oe,news,(-1 : Int),l0)][0]? = some (v,h,o,u,b,s,p,q,op,r,w,oh,ov,oo,ou,on,oe,news,(-1 : Int),l0):=rfl
 have hy : [((1,t,1,-1) : JobT)][0]? = some (1,t,1,-1):=rfl
 conv=>whnf
 repeat' ((first | (refine (?_ : TG _ _); first | refine tY ?_ | refine tN ?_ | refine dY ?_ | refine dN ?_ | (refine tell ?_ ?_ <;> intro hQ <;> try dsimp only at hQ)) | refine aS ?_ | refine ai ?_ | fail) <;> conv=>whnf)
 refine ⟨_,m_post,⟨n,es,fl,win,dn,past,[(v,h,o,u,b,s,p,q,op,r,w,oh,ov,oo,ou,on,oe,news,(-1 : Int),l0)],[(1,t,1,-1)],tb,true,bs⟩,[0,1,2,3,4,5,6,7,8],false,?_⟩
 conv=>whnf
 refine vcA ⟨rfl,by show 0 < 1; decide⟩ ?_
 refine uU ?_
 conv=>whnf
 conv=>whnf
 repeat' ((first | (refine (?_ : TG _ _); first | refine tY ?_ | refine tN ?_ | refine dY ?_ | refine dN ?_ | (refine tell ?_ ?_ <;> intro hQ <;> try dsimp only at hQ)) | refine aS ?_ | refine ai ?_ | fail) <;> conv=>whnf)
 refine ⟨_,m_waits,(⟨n,es,fl,win,dn,past,[(v,h,o,u,b,s,p,q,op,r,w,oh,ov,oo,ou,on,oe,news,(-1 : Int),l0)],[(1,t,1,-1)],tb,true,bs⟩,(1,t,1,-1)),[0,1,2,3,4,5,6,7,8],false,?_⟩
 conv=>whnf
 refine vcA ⟨rfl,rfl,rfl⟩ ?_
 refine uU ?_
 conv=>whnf
 have hge : 0 ≤ (path.length : Int) - left:=by omega
 conv=>whnf
 repeat' ((first | (refine (?_ : TG _ _); first | refine tY ?_ | refine tN ?_ | refine dY ?_ | refine dN ?_ | (refine tell ?_ ?_ <;> intro hQ <;> try dsimp only at hQ)) | refine aS ?_ | refine aX hx ?_ | refine aL hx ?_ | refine aX hy ?_ | refine aL hy ?_ | refine aL ht ?_ (h0:=hge) | refine ai ?_ | fail) <;> conv=>whnf)
 refine ⟨_,m_plan,((v,h,o,u,b,s,p,q,op,r,w,oh,ov,oo,ou,on,oe),path),[],false,?_⟩
 conv=>whnf
 refine vcA hpl ?_
 refine uU ?_
 conv=>whnf
 conv=>whnf
 repeat' ((first | (refine (?_ : TG _ _); first | refine tY ?_ | refine tN ?_ | refine dY ?_ | refine dN ?_ | (refine tell ?_ ?_ <;> intro hQ <;> try dsimp only at hQ)) | refine aS ?_ | refine ai ?_ | fail) <;> conv=>whnf)
 refine ⟨_,m_claim,(tb,0,path),[5,6],false,?_⟩
 conv=>whnf
 refine vcA hin ?_
 conv=>whnf
 refine aV true ⟨fun _=>hok,fun _=>rfl⟩ fun (c : Bool) (hc : c = true ↔ ClaimOk tb 0 path)=>?_
 have hobt : c = true:=hc.2 hok
 obtain rfl:=hobt
 conv=>whnf
 repeat' ((first | (refine (?_ : TG _ _); first | refine tY ?_ | refine tN ?_ | refine dY ?_ | refine dN ?_ | (refine tell ?_ ?_ <;> intro hQ <;> try dsimp only at hQ)) | refine aS ?_ | refine aX hx ?_ | refine aL hx ?_ | refine aX hy ?_ | refine aL hy ?_ | refine ai ?_ | fail) <;> conv=>whnf)
 exact ⟨(),[],trivial,a3⟩
end
end Go.Sx
namespace Go.Sx
noncomputable section
open Go Go.Proofs Go.Proofs.YtcehbnfhlcfinaaGreatDoor
open Go.Shelf
def spMSent : Spec AF where
 γ:=GP × Txt
 δ:=OrdT
 args:=fun _=>[.ptr 0 0 2 0,vI 0]
 own:=fun g=>msB { g.1.b with ps:=[mkP g.1.c g.1.news 0 g.1.left] }
 pre:=fun g=>g.1.win = 0 ∧ spNext1.pre (g.1.c,g.2)
 res:=fun _ _=>vB true
 own':=fun g d=>(msB { g.1.b with ps:=[mkP (ctl2 g.1.c (goalN g.1.c.2.2.2.2.2.2.1) d) g.1.news 0 g.1.left] }).map some
 post:=fun g d=>d = ord1 g.1.c g.2 (goalN g.1.c.2.2.2.2.2.2.1)
theorem m_msent : Meets Tryz.prog regF 75 spMSent:=by
 refine meets Tryz.func75 43 noWr ?_
 rintro ⟨⟨n,es,fl,win,dn,past,⟨v,h,o,u,b,s,(p : List Int),q,op,r,w,oh,ov,oo,ou,on,oe⟩,news,l0,(t : Int),tb,bs,(left : Int),(path : List Int)⟩,(vl : Txt)⟩ ⟨(hw : win = 0),hn⟩
 subst hw
 have hww : w = false:=hn.2.2.2.2.2.2.2.2.2.1
 subst hww
 have hx : [(v,h,o,u,b,s,p,q,op,r,false,oh,ov,oo,ou,on,oe,news,(0 : Int),left)][0]? = some (v,h,o,u,b,s,p,q,op,r,false,oh,ov,oo,ou,on,oe,news,(0 : Int),left):=rfl
 conv=>whnf
 repeat' ((first | (refine (?_ : TG _ _); first | refine tY ?_ | refine tN ?_ | refine dY ?_ | refine dN ?_ | (refine tell ?_ ?_ <;> intro hQ <;> try dsimp only at hQ)) | refine aS ?_ | refine ai ?_ | fail) <;> conv=>whnf)
 refine ⟨_,m_post,⟨n,es,fl,0,dn,past,[(v,h,o,u,b,s,p,q,op,r,false,oh,ov,oo,ou,on,oe,news,(0 : Int),left)],[(1,t,2,0)],claimL 0 tb path,true,bs⟩,[0,1,2,3,4,5,6,7,8],false,?_⟩
 conv=>whnf
 refine vcA ⟨rfl,by show 0 < 1; decide⟩ ?_
 refine uU ?_
 conv=>whnf
 conv=>whnf
 repeat' ((first | (refine (?_ : TG _ _); first | refine tY ?_ | refine tN ?_ | refine dY ?_ | refine dN ?_ | (refine tell ?_ ?_ <;> intro hQ <;> try dsimp only at hQ)) | refine aS ?_ | refine aX hx ?_ | refine aL hx ?_ | refine ai ?_ | fail) <;> conv=>whnf)
 refine ⟨_,m_next1,((v,h,o,u,b,s,p,q,op,r,false,oh,ov,oo,ou,on,oe),vl),[],false,?_⟩
 conv=>whnf
 refine vcA hn ?_
 conv=>whnf
 refine aV _ rfl fun (d : OrdT) (hd : d = ord1 (v,h,o,u,b,s,p,q,op,r,false,oh,ov,oo,ou,on,oe) vl (goalN p))=>?_
 obtain ⟨dh,dv,dd,du,dn',de⟩:=d
 conv=>whnf
 repeat' ((first | (refine (?_ : TG _ _); first | refine tY ?_ | refine tN ?_ | refine dY ?_ | refine dN ?_ | (refine tell ?_ ?_ <;> intro hQ <;> try dsimp only at hQ)) | refine aS ?_ | refine aX hx ?_ | refine aL hx ?_ | refine ai ?_ | fail) <;> conv=>whnf)
 exact ⟨(dh,dv,dd,du,dn',de),[],hd,a3⟩
end
end Go.Sx
namespace Go.Sx
noncomputable section
open Go Go.Proofs Go.Proofs.YtcehbnfhlcfinaaGreatDoor
open Go.Shelf
abbrev noteJ (s : MS) (t : Int) (l : Txt) : MS:={ s with js:=s.js ++ [((s.js.length : Int) + 1,t,1,-1)],f:=true,bs:=s.bs ++ l }
def spCame0 : Spec AF where
 γ:=MS × Int
 args:=fun g=>[.ptr 0 0 2 0,vI (g.1.js.length + 1),vI g.2]
 own:=fun g=>msB g.1
 pre:=fun g=>50 ≤ g.1.js.length ∧ g.1.js.length ≤ 1000
 res:=fun g d=>vB false
 own':=fun g d=>(msB g.1).map some
 post:=fun g d=>True
theorem m_came0 : Meets Tryz.prog regF 72 spCame0:=by
 refine meets Tryz.func72 56 noWr ?_
 rintro ⟨⟨n,es,fl,win,dn,past,ps,(js : List JobT),tb,f,(bs : List UInt8)⟩,(t : Int)⟩ ⟨(hj : 50 ≤ js.length),(hj2 : js.length ≤ 1000)⟩
 cases f
 ·conv=>whnf
  repeat' ((first | (refine (?_ : TG _ _); first | refine tY ?_ | refine tN ?_ | refine dY ?_ | refine dN ?_ | (refine tell ?_ ?_ <;> intro hQ <;> try dsimp only at hQ)) | refine aS ?_ | refine ai ?_ | fail) <;> conv=>whnf)
  exact ⟨(),[],trivial,a3⟩
 ·conv=>whnf
  repeat' ((first | (refine (?_ : TG _ _); first | refine tY ?_ | refine tN ?_ | refine dY ?_ | refine dN ?_ | (refine tell ?_ ?_ <;> intro hQ <;> try dsimp only at hQ)) | refine aS ?_ | refine ai ?_ | fail) <;> conv=>whnf)
  exact ⟨(),[],trivial,a3⟩
def spApJ1 : Spec AF where
 γ:=MS × Int
 args:=fun g=>[.ptr 0 0 2 0,recS (1,[(g.1.js.length : Int) + 1,g.2],[])]
 own:=fun g=>msB g.1
 pre:=fun g=>g.1.fl.length ≤ 1000000 ∧ g.1.js.length < 50 ∧ placeB g.1.n g.1.fl g.2 = true
 nnew:=1
 res:=fun g d=>vB true
 own':=fun g d=>[some m0C,some (yardCt g.1),some (knowAt 9 7 (addJ g.1 g.2)),some (.arr 111 g.1.ps),none,some tbC,some (.map 3 3 g.1.tb),some (.arr 5 (iB g.1.bs)),some (.arr 51 g.1.past),some (.arr 63 (addJ g.1 g.2).js)]
 post:=fun g d=>True
theorem m_apJ1 : Meets Tryz.prog regF 40 spApJ1:=by
 refine meets Tryz.func40 95 noWr ?_
 rintro ⟨⟨n,es,fl,win,dn,past,ps,(js : List JobT),tb,f,(bs : List UInt8)⟩,(t : Int)⟩ ⟨(hfl : fl.length ≤ 1000000),(hj : js.length < 50),(hp : placeB n fl t = true)⟩
 have hx0 : [(js.length : Int) + 1,t][0]? = some ((js.length : Int) + 1):=rfl
 have hx1 : [(js.length : Int) + 1,t][1]? = some t:=rfl
 cases f
 ·conv=>whnf
  repeat' ((first | (refine (?_ : TG _ _); first | refine tY ?_ | refine tN ?_ | refine dY ?_ | refine dN ?_ | (refine tell ?_ ?_ <;> intro hQ <;> try dsimp only at hQ)) | refine aS ?_ | refine aX hx0 ?_ | refine aL hx0 ?_ | refine aX hx1 ?_ | refine aL hx1 ?_ | refine ai ?_ | fail) <;> conv=>whnf)
  refine ⟨_,m_came1,(⟨n,es,fl,win,dn,past,ps,js,tb,false,bs⟩,t),[0,1,2,3,4,5,6,7,8],false,?_⟩
  conv=>whnf
  refine vcA ⟨hfl,hj,hp⟩ ?_
  refine uU ?_
  conv=>whnf
  conv=>whnf
  repeat' ((first | (refine (?_ : TG _ _); first | refine tY ?_ | refine tN ?_ | refine dY ?_ | refine dN ?_ | (refine tell ?_ ?_ <;> intro hQ <;> try dsimp only at hQ)) | refine aS ?_ | refine aX hx0 ?_ | refine aL hx0 ?_ | refine aX hx1 ?_ | refine aL hx1 ?_ | refine ai ?_ | fail) <;> conv=>whnf)
  exact ⟨(),[1043],trivial,a3⟩
 ·conv=>whnf
  repeat' ((first | (refine (?_ : TG _ _); first | refine tY ?_ | refine tN ?_ | refine dY ?_ | refine dN ?_ | (refine tell ?_ ?_ <;> intro hQ <;> try dsimp only at hQ)) | refine aS ?_ | refine aX hx0 ?_ | refine aL hx0 ?_ | refine aX hx1 ?_ | refine aL hx1 ?_ | refine ai ?_ | fail) <;> conv=>whnf)
  refine ⟨_,m_came1,(⟨n,es,fl,win,dn,past,ps,js,tb,true,bs⟩,t),[0,1,2,3,4,5,6,7,8],false,?_⟩
  conv=>whnf
  refine vcA ⟨hfl,hj,hp⟩ ?_
  refine uU ?_
  conv=>whnf
  conv=>whnf
  repeat' ((first | (refine (?_ : TG _ _); first | refine tY ?_ | refine tN ?_ | refine dY ?_ | refine dN ?_ | (refine tell ?_ ?_ <;> intro hQ <;> try dsimp only at hQ)) | refine aS ?_ | refine aX hx0 ?_ | refine aL hx0 ?_ | refine aX hx1 ?_ | refine aL hx1 ?_ | refine ai ?_ | fail) <;> conv=>whnf)
  exact ⟨(),[1043],trivial,a3⟩
def spApJ0 : Spec AF where
 γ:=MS × Int
 args:=fun g=>[.ptr 0 0 2 0,recS (1,[(g.1.js.length : Int) + 1,g.2],[])]
 own:=fun g=>msB g.1
 pre:=fun g=>50 ≤ g.1.js.length ∧ g.1.js.length ≤ 1000
 res:=fun g d=>vB false
 own':=fun g d=>(msB g.1).map some
 post:=fun g d=>True
theorem m_apJ0 : Meets Tryz.prog regF 40 spApJ0:=by
 refine meets Tryz.func40 95 noWr ?_
 rintro ⟨⟨n,es,fl,win,dn,past,ps,(js : List JobT),tb,f,(bs : List UInt8)⟩,(t : Int)⟩ ⟨(hj : 50 ≤ js.length),(hj2 : js.length ≤ 1000)⟩
 have hx0 : [(js.length : Int) + 1,t][0]? = some ((js.length : Int) + 1):=rfl
 have hx1 : [(js.length : Int) + 1,t][1]? = some t:=rfl
 cases f
 ·conv=>whnf
  repeat' ((first | (refine (?_ : TG _ _); first | refine tY ?_ | refine tN ?_ | refine dY ?_ | refine dN ?_ | (refine tell ?_ ?_ <;> intro hQ <;> try dsimp only at hQ)) | refine aS ?_ | refine aX hx0 ?_ | refine aL hx0 ?_ | refine aX hx1 ?_ | refine aL hx1 ?_ | refine ai ?_ | fail) <;> conv=>whnf)
  refine ⟨_,m_came0,(⟨n,es,fl,win,dn,past,ps,js,tb,false,bs⟩,t),[0,1,2,3,4,5,6,7,8],false,?_⟩
  conv=>whnf
  refine vcA ⟨hj,hj2⟩ ?_
  refine uU ?_
  conv=>whnf
  conv=>whnf
  repeat' ((first | (refine (?_ : TG _ _); first | refine tY ?_ | refine tN ?_ | refine dY ?_ | refine dN ?_ | (refine tell ?_ ?_ <;> intro hQ <;> try dsimp only at hQ)) | refine aS ?_ | refine aX hx0 ?_ | refine aL hx0 ?_ | refine aX hx1 ?_ | refine aL hx1 ?_ | refine ai ?_ | fail) <;> conv=>whnf)
  exact ⟨(),[],trivial,a3⟩
 ·conv=>whnf
  repeat' ((first | (refine (?_ : TG _ _); first | refine tY ?_ | refine tN ?_ | refine dY ?_ | refine dN ?_ | (refine tell ?_ ?_ <;> intro hQ <;> try dsimp only at hQ)) | refine aS ?_ | refine aX hx0 ?_ | refine aL hx0 ?_ | refine aX hx1 ?_ | refine aL hx1 ?_ | refine ai ?_ | fail) <;> conv=>whnf)
  refine ⟨_,m_came0,(⟨n,es,fl,win,dn,past,ps,js,tb,true,bs⟩,t),[0,1,2,3,4,5,6,7,8],false,?_⟩
  conv=>whnf
  refine vcA ⟨hj,hj2⟩ ?_
  refine uU ?_
  conv=>whnf
  conv=>whnf
  repeat' ((first | (refine (?_ : TG _ _); first | refine tY ?_ | refine tN ?_ | refine dY ?_ | refine dN ?_ | (refine tell ?_ ?_ <;> intro hQ <;> try dsimp only at hQ)) | refine aS ?_ | refine aX hx0 ?_ | refine aL hx0 ?_ | refine aX hx1 ?_ | refine aL hx1 ?_ | refine ai ?_ | fail) <;> conv=>whnf)
  exact ⟨(),[],trivial,a3⟩
end
end Go.Sx
namespace Go.Sx
noncomputable section
open Go Go.Proofs Go.Proofs.YtcehbnfhlcfinaaGreatDoor
open Go.Shelf
def spNoJ1 : Spec AF where
 γ:=MS × Int
 δ:=Txt
 args:=fun g=>[.ptr 0 0 2 0,vI 1,vS [],.lst 3 [(g.1.js.length : Int) + 1,g.2]]
 own:=fun g=>msB g.1
 pre:=fun g=>g.1.bs.length ≤ 100000000 ∧ (g.1.f = false → g.1.bs = []) ∧ g.1.fl.length ≤ 1000000 ∧ g.1.js.length < 50 ∧ placeB g.1.n g.1.fl g.2 = true
 nnew:=2
 res:=fun g d=>vB true
 own':=fun g d=>[some m0C,some (yardCt g.1),some (knowAt 9 10 (noteJ g.1 g.2 d)),some (.arr 111 g.1.ps),none,some tbC,some (.map 3 3 g.1.tb),none,some (.arr 51 g.1.past),some (.arr 63 (noteJ g.1 g.2 d).js),some (.arr 5 (iB (noteJ g.1 g.2 d).bs))]
 post:=fun g d=>d.length ≤ 100000
theorem m_noJ1 : Meets Tryz.prog regF 18 spNoJ1:=by
 refine meets Tryz.func18 37 noWr ?_
 rintro ⟨⟨n,es,fl,win,dn,past,ps,(js : List JobT),tb,f,(bs : List UInt8)⟩,(t : Int)⟩ ⟨(hb : bs.length ≤ 100000000),(hf : f = false → bs = []),(hfl : fl.length ≤ 1000000),(hj : js.length < 50),(hp : placeB n fl t = true)⟩
 cases f
 ·conv=>whnf
  repeat' ((first | (refine (?_ : TG _ _); first | refine tY ?_ | refine tN ?_ | refine dY ?_ | refine dN ?_ | (refine tell ?_ ?_ <;> intro hQ <;> try dsimp only at hQ)) | refine aS ?_ | refine ai ?_ | fail) <;> conv=>whnf)
  refine ⟨_,m_jlay,(1,[(js.length : Int) + 1,t],[]),[],false,?_⟩
  conv=>whnf
  refine vcA ⟨(by show (0 : Int) ≤ 1 ∧ (1 : Int) ≤ 255; decide),(by show 2 ≤ 255; decide),Nat.zero_le _⟩ ?_
  conv=>whnf
  refine aV [0] ⟨by decide,by decide⟩ fun (l : Txt) (hl : 0 < l.length ∧ l.length ≤ 100000)=>?_
  conv=>whnf
  repeat' ((first | (refine (?_ : TG _ _); first | refine tY ?_ | refine tN ?_ | refine dY ?_ | refine dN ?_ | (refine tell ?_ ?_ <;> intro hQ <;> try dsimp only at hQ)) | refine aS ?_ | refine ai ?_ | fail) <;> conv=>whnf)
  refine ⟨_,m_apJ1,(⟨n,es,fl,win,dn,past,ps,js,tb,false,bs⟩,t),[0,1,2,3,4,5,6,7,8],false,?_⟩
  conv=>whnf
  refine vcA ⟨hfl,hj,hp⟩ ?_
  refine uU ?_
  conv=>whnf
  conv=>whnf
  repeat' ((first | (refine (?_ : TG _ _); first | refine tY ?_ | refine tN ?_ | refine dY ?_ | refine dN ?_ | (refine tell ?_ ?_ <;> intro hQ <;> try dsimp only at hQ)) | refine aS ?_ | refine ai ?_ | fail) <;> conv=>whnf)
  refine ⟨_,m_wk,(addJ ⟨n,es,fl,win,dn,past,ps,js,tb,false,bs⟩ t,l),[0,1,2,3,1026,5,6,7,8],false,?_⟩
  conv=>whnf
  refine vcA ⟨(show bs.length ≤ 1000000000 by omega),(show l.length ≤ 1000000 by omega),hf⟩ ?_
  refine uU ?_
  conv=>whnf
  conv=>whnf
  repeat' ((first | (refine (?_ : TG _ _); first | refine tY ?_ | refine tN ?_ | refine dY ?_ | refine dN ?_ | (refine tell ?_ ?_ <;> intro hQ <;> try dsimp only at hQ)) | refine aS ?_ | refine ai ?_ | fail) <;> conv=>whnf)
  exact ⟨l,[1026,1036],hl.2,a3⟩
 ·conv=>whnf
  repeat' ((first | (refine (?_ : TG _ _); first | refine tY ?_ | refine tN ?_ | refine dY ?_ | refine dN ?_ | (refine tell ?_ ?_ <;> intro hQ <;> try dsimp only at hQ)) | refine aS ?_ | refine ai ?_ | fail) <;> conv=>whnf)
  refine ⟨_,m_jlay,(1,[(js.length : Int) + 1,t],[]),[],false,?_⟩
  conv=>whnf
  refine vcA ⟨(by show (0 : Int) ≤ 1 ∧ (1 : Int) ≤ 255; decide),(by show 2 ≤ 255; decide),Nat.zero_le _⟩ ?_
  conv=>whnf
  refine aV [0] ⟨by decide,by decide⟩ fun (l : Txt) (hl : 0 < l.length ∧ l.length ≤ 100000)=>?_
  conv=>whnf
  repeat' ((first | (refine (?_ : TG _ _); first | refine tY ?_ | refine tN ?_ | refine dY ?_ | refine dN ?_ | (refine tell ?_ ?_ <;> intro hQ <;> try dsimp only at hQ)) | refine aS ?_ | refine ai ?_ | fail) <;> conv=>whnf)
  refine ⟨_,m_apJ1,(⟨n,es,fl,win,dn,past,ps,js,tb,true,bs⟩,t),[0,1,2,3,4,5,6,7,8],false,?_⟩
  conv=>whnf
  refine vcA ⟨hfl,hj,hp⟩ ?_
  refine uU ?_
  conv=>whnf
  conv=>whnf
  repeat' ((first | (refine (?_ : TG _ _); first | refine tY ?_ | refine tN ?_ | refine dY ?_ | refine dN ?_ | (refine tell ?_ ?_ <;> intro hQ <;> try dsimp only at hQ)) | refine aS ?_ | refine ai ?_ | fail) <;> conv=>whnf)
  refine ⟨_,m_wk,(addJ ⟨n,es,fl,win,dn,past,ps,js,tb,true,bs⟩ t,l),[0,1,2,3,1026,5,6,7,8],false,?_⟩
  conv=>whnf
  refine vcA ⟨(show bs.length ≤ 1000000000 by omega),(show l.length ≤ 1000000 by omega),hf⟩ ?_
  refine uU ?_
  conv=>whnf
  conv=>whnf
  repeat' ((first | (refine (?_ : TG _ _); first | refine tY ?_ | refine tN ?_ | refine dY ?_ | refine dN ?_ | (refine tell ?_ ?_ <;> intro hQ <;> try dsimp only at hQ)) | refine aS ?_ | refine ai ?_ | fail) <;> conv=>whnf)
  exact ⟨l,[1026,1036],hl.2,a3⟩
def spNoJ0 : Spec AF where
 γ:=MS × Int
 args:=fun g=>[.ptr 0 0 2 0,vI 1,vS [],.lst 3 [(g.1.js.length : Int) + 1,g.2]]
 own:=fun g=>msB g.1
 pre:=fun g=>50 ≤ g.1.js.length ∧ g.1.js.length ≤ 1000
 res:=fun g d=>vB false
 own':=fun g d=>(msB g.1).map some
 post:=fun g d=>True
theorem m_noJ0 : Meets Tryz.prog regF 18 spNoJ0:=by
 refine meets Tryz.func18 37 noWr ?_
 rintro ⟨⟨n,es,fl,win,dn,past,ps,(js : List JobT),tb,f,(bs : List UInt8)⟩,(t : Int)⟩ ⟨(hj : 50 ≤ js.length),(hj2 : js.length ≤ 1000)⟩
 cases f
 ·conv=>whnf
  repeat' ((first | (refine (?_ : TG _ _); first | refine tY ?_ | refine tN ?_ | refine dY ?_ | refine dN ?_ | (refine tell ?_ ?_ <;> intro hQ <;> try dsimp only at hQ)) | refine aS ?_ | refine ai ?_ | fail) <;> conv=>whnf)
  refine ⟨_,m_jlay,(1,[(js.length : Int) + 1,t],[]),[],false,?_⟩
  conv=>whnf
  refine vcA ⟨(by show (0 : Int) ≤ 1 ∧ (1 : Int) ≤ 255; decide),(by show 2 ≤ 255; decide),Nat.zero_le _⟩ ?_
  conv=>whnf
  refine aV [0] ⟨by decide,by decide⟩ fun (l : Txt) (hl : 0 < l.length ∧ l.length ≤ 100000)=>?_
  conv=>whnf
  repeat' ((first | (refine (?_ : TG _ _); first | refine tY ?_ | refine tN ?_ | refine dY ?_ | refine dN ?_ | (refine tell ?_ ?_ <;> intro hQ <;> try dsimp only at hQ)) | refine aS ?_ | refine ai ?_ | fail) <;> conv=>whnf)
  refine ⟨_,m_apJ0,(⟨n,es,fl,win,dn,past,ps,js,tb,false,bs⟩,t),[0,1,2,3,4,5,6,7,8],false,?_⟩
  conv=>whnf
  refine vcA ⟨hj,hj2⟩ ?_
  refine uU ?_
  conv=>whnf
  conv=>whnf
  repeat' ((first | (refine (?_ : TG _ _); first | refine tY ?_ | refine tN ?_ | refine dY ?_ | refine dN ?_ | (refine tell ?_ ?_ <;> intro hQ <;> try dsimp only at hQ)) | refine aS ?_ | refine ai ?_ | fail) <;> conv=>whnf)
  exact ⟨(),[],trivial,a3⟩
 ·conv=>whnf
  repeat' ((first | (refine (?_ : TG _ _); first | refine tY ?_ | refine tN ?_ | refine dY ?_ | refine dN ?_ | (refine tell ?_ ?_ <;> intro hQ <;> try dsimp only at hQ)) | refine aS ?_ | refine ai ?_ | fail) <;> conv=>whnf)
  refine ⟨_,m_jlay,(1,[(js.length : Int) + 1,t],[]),[],false,?_⟩
  conv=>whnf
  refine vcA ⟨(by show (0 : Int) ≤ 1 ∧ (1 : Int) ≤ 255; decide),(by show 2 ≤ 255; decide),Nat.zero_le _⟩ ?_
  conv=>whnf
  refine aV [0] ⟨by decide,by decide⟩ fun (l : Txt) (hl : 0 < l.length ∧ l.length ≤ 100000)=>?_
  conv=>whnf
  repeat' ((first | (refine (?_ : TG _ _); first | refine tY ?_ | refine tN ?_ | refine dY ?_ | refine dN ?_ | (refine tell ?_ ?_ <;> intro hQ <;> try dsimp only at hQ)) | refine aS ?_ | refine ai ?_ | fail) <;> conv=>whnf)
  refine ⟨_,m_apJ0,(⟨n,es,fl,win,dn,past,ps,js,tb,true,bs⟩,t),[0,1,2,3,4,5,6,7,8],false,?_⟩
  conv=>whnf
  refine vcA ⟨hj,hj2⟩ ?_
  refine uU ?_
  conv=>whnf
  conv=>whnf
  repeat' ((first | (refine (?_ : TG _ _); first | refine tY ?_ | refine tN ?_ | refine dY ?_ | refine dN ?_ | (refine tell ?_ ?_ <;> intro hQ <;> try dsimp only at hQ)) | refine aS ?_ | refine ai ?_ | fail) <;> conv=>whnf)
  exact ⟨(),[],trivial,a3⟩
end
end Go.Sx
namespace Go.Sx
noncomputable section
open Go Go.Proofs Go.Proofs.YtcehbnfhlcfinaaGreatDoor
open Go.Shelf
abbrev GP.e (g : GP) : MS:={ g.b with ps:=[mkP g.c g.news 0 g.left] }
abbrev GP.f (g : GP) (d : OrdT) : MS:={ g.b with ps:=[mkP (ctl2 g.c (goalN g.c.2.2.2.2.2.2.1) d) g.news 0 g.left] }
def spApS : Spec AF where
 γ:=GP × Txt
 δ:=OrdT
 args:=fun _=>[.ptr 0 0 2 0,recS (5,[0],[])]
 own:=fun g=>msB g.1.e
 pre:=fun g=>g.1.win = 0 ∧ spNext1.pre (g.1.c,g.2)
 res:=fun _ _=>vB true
 own':=fun g d=>(msB (g.1.f d)).map some
 post:=fun g d=>d = ord1 g.1.c g.2 (goalN g.1.c.2.2.2.2.2.2.1)
theorem m_apS : Meets Tryz.prog regF 40 spApS:=by
 refine meets Tryz.func40 95 noWr ?_
 rintro ⟨⟨n,es,fl,win,dn,past,(c : CtlT),news,l0,(t : Int),tb,(bs : List UInt8),(left : Int),(path : List Int)⟩,(vl : Txt)⟩ hok
 have hx : [(0 : Int)][0]? = some 0:=rfl
 obtain ⟨v,h,o,u,b,s,p,q,op,r,w,oh,ov,oo,ou,on,oe⟩:=c
 conv=>whnf
 repeat' ((first | (refine (?_ : TG _ _); first | refine tY ?_ | refine tN ?_ | refine dY ?_ | refine dN ?_ | (refine tell ?_ ?_ <;> intro hQ <;> try dsimp only at hQ)) | refine aS ?_ | refine aX hx ?_ | refine aL hx ?_ | refine ai ?_ | fail) <;> conv=>whnf)
 refine ⟨_,m_msent,(⟨n,es,fl,win,dn,past,(v,h,o,u,b,s,p,q,op,r,w,oh,ov,oo,ou,on,oe),news,l0,t,tb,bs,left,path⟩,vl),[0,1,2,3,4,5,6,7,8],false,?_⟩
 conv=>whnf
 refine vcA hok ?_
 conv=>whnf
 refine aV _ rfl fun (d : OrdT) hd=>?_
 obtain ⟨dh,dv,dd,du,dn',de⟩:=d
 conv=>whnf
 repeat' ((first | (refine (?_ : TG _ _); first | refine tY ?_ | refine tN ?_ | refine dY ?_ | refine dN ?_ | (refine tell ?_ ?_ <;> intro hQ <;> try dsimp only at hQ)) | refine aS ?_ | refine ai ?_ | fail) <;> conv=>whnf)
 exact ⟨(dh,dv,dd,du,dn',de),[],hd,a3⟩
def spNoS : Spec AF where
 γ:=GP × Txt
 δ:=OrdT × Txt
 args:=fun _=>[.ptr 0 0 2 0,vI 5,vS [],.lst 3 [0]]
 own:=fun g=>msB g.1.e
 pre:=fun g=>(g.1.win = 0 ∧ spNext1.pre (g.1.c,g.2)) ∧ g.1.bs.length ≤ 100000000
 nnew:=1
 res:=fun _ _=>vB true
 own':=fun g d=>[some m0C,some (yardCt (g.1.f d.1)),some (knowAt 4 9 { (g.1.f d.1) with bs:=(g.1.f d.1).bs ++ d.2 }),some (.arr 111 (g.1.f d.1).ps),some (.arr 63 (g.1.f d.1).js),some tbC,some (.map 3 3 (g.1.f d.1).tb),none,some (.arr 51 (g.1.f d.1).past),some (.arr 5 (iB ((g.1.f d.1).bs ++ d.2)))]
 post:=fun g d=>d.1 = ord1 g.1.c g.2 (goalN g.1.c.2.2.2.2.2.2.1) ∧ d.2.length ≤ 100000
theorem m_noS : Meets Tryz.prog regF 18 spNoS:=by
 refine meets Tryz.func18 37 noWr ?_
 rintro ⟨⟨n,es,fl,win,dn,past,(c : CtlT),news,l0,(t : Int),tb,(bs : List UInt8),(left : Int),(path : List Int)⟩,(vl : Txt)⟩ ⟨hok,(hb : bs.length ≤ 100000000)⟩
 obtain ⟨v,h,o,u,b,s,p,q,op,r,w,oh,ov,oo,ou,on,oe⟩:=c
 conv=>whnf
 repeat' ((first | (refine (?_ : TG _ _); first | refine tY ?_ | refine tN ?_ | refine dY ?_ | refine dN ?_ | (refine tell ?_ ?_ <;> intro hQ <;> try dsimp only at hQ)) | refine aS ?_ | refine ai ?_ | fail) <;> conv=>whnf)
 refine ⟨_,m_jlay,(5,[0],[]),[],false,?_⟩
 conv=>whnf
 refine vcA ⟨(by show (0 : Int) ≤ 5 ∧ (5 : Int) ≤ 255; decide),(by show 1 ≤ 255; decide),Nat.zero_le _⟩ ?_
 conv=>whnf
 refine aV [0] ⟨by decide,by decide⟩ fun (l : Txt) (hl : 0 < l.length ∧ l.length ≤ 100000)=>?_
 conv=>whnf
 repeat' ((first | (refine (?_ : TG _ _); first | refine tY ?_ | refine tN ?_ | refine dY ?_ | refine dN ?_ | (refine tell ?_ ?_ <;> intro hQ <;> try dsimp only at hQ)) | refine aS ?_ | refine ai ?_ | fail) <;> conv=>whnf)
 refine ⟨_,m_apS,(⟨n,es,fl,win,dn,past,(v,h,o,u,b,s,p,q,op,r,w,oh,ov,oo,ou,on,oe),news,l0,t,tb,bs,left,path⟩,vl),[0,1,2,3,4,5,6,7,8],false,?_⟩
 conv=>whnf
 refine vcA hok ?_
 conv=>whnf
 refine aV _ rfl fun (d : OrdT) hd=>?_
 obtain ⟨dh,dv,dd,du,dn',de⟩:=d
 conv=>whnf
 repeat' ((first | (refine (?_ : TG _ _); first | refine tY ?_ | refine tN ?_ | refine dY ?_ | refine dN ?_ | (refine tell ?_ ?_ <;> intro hQ <;> try dsimp only at hQ)) | refine aS ?_ | refine ai ?_ | fail) <;> conv=>whnf)
 refine ⟨_,m_wk,(GP.f ⟨n,es,fl,win,dn,past,(v,h,o,u,b,s,p,q,op,r,w,oh,ov,oo,ou,on,oe),news,l0,t,tb,bs,left,path⟩ (dh,dv,dd,du,dn',de),l),[0,1,2,3,4,5,6,7,8],false,?_⟩
 conv=>whnf
 refine vcA ⟨(show bs.length ≤ 1000000000 by omega),(show l.length ≤ 1000000 by omega),fun h=>by cases h⟩ ?_
 refine uU ?_
 conv=>whnf
 conv=>whnf
 repeat' ((first | (refine (?_ : TG _ _); first | refine tY ?_ | refine tN ?_ | refine dY ?_ | refine dN ?_ | (refine tell ?_ ?_ <;> intro hQ <;> try dsimp only at hQ)) | refine aS ?_ | refine ai ?_ | fail) <;> conv=>whnf)
 exact ⟨((dh,dv,dd,du,dn',de),l),[1036],⟨hd,hl.2⟩,a3⟩
end
end Go.Sx
namespace Go.Sx
noncomputable section
open Go Go.Proofs Go.Proofs.YtcehbnfhlcfinaaGreatDoor
open Go.Shelf
abbrev hdrL : Txt:=[104,101,97,100,101,114,73,100]
abbrev serL : Txt:=[115,101,114,105,97,108,78,117,109,98,101,114]
abbrev ordL : Txt:=[111,114,100,101,114,73,100]
abbrev updL : Txt:=[111,114,100,101,114,85,112,100,97,116,101,73,100]
abbrev nodsL : Txt:=[110,111,100,101,115]
abbrev edgsL : Txt:=[101,100,103,101,115]
abbrev allL : List Txt:=[hdrL,serL,ordL,updL,nodsL,edgsL]
def SmallO (o : OrdT) : Prop:=(0 ≤ o.1 ∧ o.1 ≤ 9) ∧ OkW o.2.1 ∧ (0 ≤ o.2.2.1 ∧ o.2.2.1 ≤ 9) ∧ (0 ≤ o.2.2.2.1 ∧ o.2.2.2.1 ≤ 9) ∧ (0 < o.2.2.2.2.1.length ∧ o.2.2.2.2.1.length ≤ 8 ∧ ∀ x ∈ o.2.2.2.2.1,OkP x) ∧ 0 < o.2.2.2.2.2.length ∧ o.2.2.2.2.2.length ≤ 8 ∧ ∀ x ∈ o.2.2.2.2.2,OkP x
def spLay : Spec AF where
 γ:=OrdT
 δ:=List UInt8 × Int
 args:=fun o=>[ordS o]
 pre:=SmallO
 res:=fun _ r=>.tup [vS r.1,vI r.2]
 post:=fun _ r=>r.1.length ≤ 2000000
theorem allL_ok : (∀ x ∈ allL,OkW x) ∧ allL.Nodup:=by
 refine ⟨fun x hx=>?_,by decide⟩
 simp only [List.mem_cons,List.not_mem_nil,or_false] at hx
 rcases hx with rfl | rfl | rfl | rfl | rfl | rfl <;> exact okW_of (by decide)
theorem m_olay : Meets Tryz.prog regF 26 spLay:=by
 refine meets Tryz.func26 32 noWr ?_
 rintro ⟨(h : Int),(v : List UInt8),(od : Int),(up : Int),(ns : List Stp),(es : List Stp)⟩ ⟨(hh : 0 ≤ h ∧ h ≤ 9),(hv : OkW v),(ho : 0 ≤ od ∧ od ≤ 9),(hu : 0 ≤ up ∧ up ≤ 9),⟨(hn0 : 0 < ns.length),(hn : ns.length ≤ 8),(hns : ∀ x ∈ ns,OkP x)⟩,(he0 : 0 < es.length),(he : es.length ≤ 8),(hes : ∀ x ∈ es,OkP x)⟩
 have hits : ∀ x ∈ [jInt h,jStr v,jInt od,jInt up,jArr (ns.map fun x=>partJ nodeL x.1 x.2.1 x.2.2),jArr (es.map fun x=>partJ edgeL x.1 x.2.1 x.2.2)],jg 3 x:=fun x hx=>by
  simp only [List.mem_cons,List.not_mem_nil,or_false] at hx
  rcases hx with rfl | rfl | rfl | rfl | rfl | rfl
  ·exact jg_int hh.1 hh.2 2
  ·exact jg_str hv 2
  ·exact jg_int ho.1 ho.2 2
  ·exact jg_int hu.1 hu.2 2
  ·exact jg_parts nodeL (by simp) hn hns
  ·exact jg_parts edgeL (by simp) he hes
 conv=>whnf
 repeat' ((first | (refine (?_ : TG _ _); first | refine tY ?_ | refine tN ?_ | refine dY ?_ | refine dN ?_ | (refine tell ?_ ?_ <;> intro hQ <;> try dsimp only at hQ)) | refine aS ?_ | refine ai ?_ | fail) <;> conv=>whnf)
 refine ⟨_,m_rightO,(h,v,od,up,ns,es),[],false,?_⟩
 conv=>whnf
 refine vcA (show ns.length ≤ 9223372036854775807 ∧ es.length ≤ 9223372036854775807 from ⟨by omega,by omega⟩) ?_
 refine And.intro (rightO_ex _) ?_
 intro (c : Bool) _
 cases c
 ·conv=>whnf
  repeat' ((first | (refine (?_ : TG _ _); first | refine tY ?_ | refine tN ?_ | refine dY ?_ | refine dN ?_ | (refine tell ?_ ?_ <;> intro hQ <;> try dsimp only at hQ)) | refine aS ?_ | refine ai ?_ | fail) <;> conv=>whnf)
  exact ⟨(([],1) : List UInt8 × Int),[],Nat.zero_le _,a3⟩
 ·conv=>whnf
  repeat' ((first | (refine (?_ : TG _ _); first | refine tY ?_ | refine tN ?_ | refine dY ?_ | refine dN ?_ | (refine tell ?_ ?_ <;> intro hQ <;> try dsimp only at hQ)) | refine aS ?_ | refine ai ?_ | fail) <;> conv=>whnf)
  refine ⟨_,m_fint,h,[],false,?_⟩
  conv=>whnf
  refine vcA hh ?_
  refine uU ?_
  conv=>whnf
  conv=>whnf
  repeat' ((first | (refine (?_ : TG _ _); first | refine tY ?_ | refine tN ?_ | refine dY ?_ | refine dN ?_ | (refine tell ?_ ?_ <;> intro hQ <;> try dsimp only at hQ)) | refine aS ?_ | refine ai ?_ | fail) <;> conv=>whnf)
  refine ⟨_,m_fstr,v,[],false,?_⟩
  conv=>whnf
  refine vcA trivial ?_
  refine uU ?_
  conv=>whnf
  conv=>whnf
  repeat' ((first | (refine (?_ : TG _ _); first | refine tY ?_ | refine tN ?_ | refine dY ?_ | refine dN ?_ | (refine tell ?_ ?_ <;> intro hQ <;> try dsimp only at hQ)) | refine aS ?_ | refine ai ?_ | fail) <;> conv=>whnf)
  refine ⟨_,m_fint,od,[],false,?_⟩
  conv=>whnf
  refine vcA ho ?_
  refine uU ?_
  conv=>whnf
  conv=>whnf
  repeat' ((first | (refine (?_ : TG _ _); first | refine tY ?_ | refine tN ?_ | refine dY ?_ | refine dN ?_ | (refine tell ?_ ?_ <;> intro hQ <;> try dsimp only at hQ)) | refine aS ?_ | refine ai ?_ | fail) <;> conv=>whnf)
  refine ⟨_,m_fint,up,[],false,?_⟩
  conv=>whnf
  refine vcA hu ?_
  refine uU ?_
  conv=>whnf
  conv=>whnf
  repeat' ((first | (refine (?_ : TG _ _); first | refine tY ?_ | refine tN ?_ | refine dY ?_ | refine dN ?_ | (refine tell ?_ ?_ <;> intro hQ <;> try dsimp only at hQ)) | refine aS ?_ | refine ai ?_ | fail) <;> conv=>whnf)
  refine ⟨_,m_eachN,ns,[],false,?_⟩
  conv=>whnf
  refine vcA ⟨hn0,hn,hns⟩ ?_
  refine uU ?_
  conv=>whnf
  conv=>whnf
  repeat' ((first | (refine (?_ : TG _ _); first | refine tY ?_ | refine tN ?_ | refine dY ?_ | refine dN ?_ | (refine tell ?_ ?_ <;> intro hQ <;> try dsimp only at hQ)) | refine aS ?_ | refine ai ?_ | fail) <;> conv=>whnf)
  refine ⟨_,m_eachE,es,[],false,?_⟩
  conv=>whnf
  refine vcA ⟨he0,he,hes⟩ ?_
  refine uU ?_
  conv=>whnf
  conv=>whnf
  repeat' ((first | (refine (?_ : TG _ _); first | refine tY ?_ | refine tN ?_ | refine dY ?_ | refine dN ?_ | (refine tell ?_ ?_ <;> intro hQ <;> try dsimp only at hQ)) | refine aS ?_ | refine ai ?_ | fail) <;> conv=>whnf)
  refine ⟨_,m_fmake 3,(allL,[jInt h,jStr v,jInt od,jInt up,jArr (ns.map fun x=>partJ nodeL x.1 x.2.1 x.2.2),jArr (es.map fun x=>partJ edgeL x.1 x.2.1 x.2.2)]),[],false,?_⟩
  conv=>whnf
  refine vcA ⟨allL_ok.2,rfl,(show 6 ≤ 8 by decide),(show 0 < 6 by decide),hits⟩ ?_
  refine uU ?_
  conv=>whnf
  conv=>whnf
  repeat' ((first | (refine (?_ : TG _ _); first | refine tY ?_ | refine tN ?_ | refine dY ?_ | refine dN ?_ | (refine tell ?_ ?_ <;> intro hQ <;> try dsimp only at hQ)) | refine aS ?_ | refine ai ?_ | fail) <;> conv=>whnf)
  refine ⟨_,m_jprint,jObj allL [jInt h,jStr v,jInt od,jInt up,jArr (ns.map fun x=>partJ nodeL x.1 x.2.1 x.2.2),jArr (es.map fun x=>partJ edgeL x.1 x.2.1 x.2.2)],[],false,?_⟩
  conv=>whnf
  refine vcA ⟨jg_obj allL_ok.1 rfl (show 6 ≤ 8 by decide) hits,rfl⟩ ?_
  conv=>whnf
  refine aV ([] : List UInt8) (Nat.zero_le _) fun (t : List UInt8) (ht : t.length ≤ 1000000)=>?_
  conv=>whnf
  repeat' ((first | (refine (?_ : TG _ _); first | refine tY ?_ | refine tN ?_ | refine dY ?_ | refine dN ?_ | (refine tell ?_ ?_ <;> intro hQ <;> try dsimp only at hQ)) | refine aS ?_ | refine ai ?_ | fail) <;> conv=>whnf)
  refine ⟨_,m_seal,t,[],false,?_⟩
  conv=>whnf
  refine vcA (show t.length ≤ 1000000000 by omega) ?_
  conv=>whnf
  refine aV (t ++ [0,0,0,0,0,0,0,0,0] : List UInt8) (by show (_ : List UInt8).length = _; simp) fun (r : List UInt8) (hr : r.length = t.length + 9)=>?_
  conv=>whnf
  repeat' ((first | (refine (?_ : TG _ _); first | refine tY ?_ | refine tN ?_ | refine dY ?_ | refine dN ?_ | (refine tell ?_ ?_ <;> intro hQ <;> try dsimp only at hQ)) | refine aS ?_ | refine ai ?_ | fail) <;> conv=>whnf)
  exact ⟨((r,0) : List UInt8 × Int),[],(show r.length ≤ 2000000 by omega),a3⟩
end
end Go.Sx
namespace Go.Sx
noncomputable section
open Go Go.Proofs Go.Proofs.YtcehbnfhlcfinaaGreatDoor
open Go.Shelf
abbrev vT : Txt:=[118]
abbrev humpL : Txt:=[104,117,109,112]
abbrev orderL : Txt:=[111,114,100,101,114]
abbrev c0 : CtlT:=ctl0 (bS vT) 0
abbrev c1 : CtlT:=planC c0 path7
abbrev g0 (dn : Bool) (past : List (List Int)) (bs : Txt) : GP:=⟨3,ring3,[(bS vT,0)],0,dn,past,c0,⟨#[]⟩,0,2,[(0,0)],bs,3,path7⟩
abbrev g1 (bs : Txt) : GP:=⟨3,ring3,[(bS vT,0)],0,true,[[]],c1,⟨#[]⟩,0,2,[(0,0)],bs,3,path7⟩
abbrev ordA : OrdT:=(1,vT,1,0,[(0,0,true),(1,2,true),(2,4,true),(0,6,true)],[(0,1,true),(1,3,true),(2,5,true)])
theorem ord_a : ord1 c1 vT (goalN c1.2.2.2.2.2.2.1) = ordA:=rfl
theorem path7_ok : PathOk path7:=⟨by decide,fun i x h=>by
 match i,h with
 | 0,h=>cases h; decide
 | 1,h=>cases h; decide
 | 2,h=>cases h; decide
 | 3,h=>cases h; decide
 | 4,h=>cases h; decide
 | 5,h=>cases h; decide
 | 6,h=>cases h; decide
 | i + 7,h=>cases h⟩
theorem path7_in : ∀ x ∈ path7,InI x:=fun x hx=>by
 simp only [List.mem_cons,List.not_mem_nil,or_false] at hx
 rcases hx with rfl | rfl | rfl | rfl | rfl | rfl | rfl <;> (unfold InI; decide)
theorem lookT_one {x w : Int} (h : lookT [(0,0)] x = some w) : w = 0:=by
 unfold lookT look at h
 split at h
 ·rename_i p hp
  have:=List.mem_of_find?_eq_some hp
  rw [List.mem_singleton] at this
  subst this
  cases h; rfl
 ·cases h
theorem ordA_right : RightO ordA:=by
 refine ⟨⟨by decide,⟨by unfold OkN; decide,by unfold OkN; decide,by unfold OkN; decide⟩,by decide,by decide,by decide⟩,⟨_,rfl,by unfold FirstOk OkN; decide⟩,fun i f e t h1 h2 h3=>?_⟩
 match i,h1,h2,h3 with
 | 0,h1,h2,h3=>cases h1; cases h2; cases h3; unfold StepOk OkN; decide
 | 1,h1,h2,h3=>cases h1; cases h2; cases h3; unfold StepOk OkN; decide
 | 2,h1,h2,h3=>cases h1; cases h2; cases h3; unfold StepOk OkN; decide
 | i + 3,h1,_,_=>cases h1
theorem clens0 : CLens c0:=⟨by decide,by decide,by decide⟩
theorem clens1 : CLens c1:=⟨by decide,by decide,by decide⟩
theorem plan_ok : spPlan.pre (c0,path7):=⟨clens0,⟨0,rfl,rfl⟩,rfl,by decide,by decide,path7_ok⟩
theorem path7_inl : InL path7:=⟨by decide,path7_in⟩
theorem g0_ok (dn : Bool) (past : List (List Int)) (bs : Txt) : GP.ok (g0 dn past bs):=
 ⟨plan_ok,⟨(by decide : (1 : Int) ≤ 3),(by decide : (3 : Int) ≤ (path7.length : Int))⟩,rfl,fun x _ w h=>lookT_one h,path7_inl⟩
theorem next_ok : spNext1.pre (c1,vT):=
 ⟨clens1,rfl,(by decide : (0 : Int) ≤ 0 ∧ (0 : Int) ≤ 1000000),(by decide : (0 : Int) ≤ 0 ∧ (0 : Int) ≤ 1000000),(by decide : 3 ≤ path7.length ∧ path7.length ≤ 127),path7_in,path7_ok,rfl,(by decide : (0 : Int) ≤ 0),rfl,(congrArg RightO ord_a).mpr ordA_right⟩
theorem g1_ok (bs : Txt) : (g1 bs).win = 0 ∧ spNext1.pre ((g1 bs).c,vT):=⟨rfl,next_ok⟩
theorem ordA_small : SmallO ordA:=by
 refine ⟨by decide,okW_of (by decide),by decide,by decide,⟨by decide,by decide,fun x hx=>?_⟩,by decide,by decide,fun x hx=>?_⟩
 ·simp only [List.mem_cons,List.not_mem_nil,or_false] at hx
  rcases hx with rfl | rfl | rfl | rfl <;> (unfold OkP; decide)
 ·simp only [List.mem_cons,List.not_mem_nil,or_false] at hx
  rcases hx with rfl | rfl | rfl <;> (unfold OkP; decide)
abbrev awT : Txt:=[117,97,103,118,47,118,50,47,104,117,109,112,47,118,47,111,114,100,101,114]
theorem print_aw : printS (humpL,vT,orderL) = awT ∧ printE (humpL,vT,orderL) = 0:=by
 have h : okT (humpL,vT,orderL) = true:=by decide
 refine ⟨?_,?_⟩
 ·unfold printS; rw [if_pos h]; rfl
 ·unfold printE; rw [if_pos h]
def spPrA : Spec AF where
 γ:=Unit
 args:=fun _=>[topS (humpL,vT,orderL)]
 res:=fun _ _=>.tup [vS awT,vI 0]
theorem m_prA : Meets Tryz.prog regF 27 spPrA:=
 meets_told m_print.1 fun _ _=>⟨spPrint,m_print,(humpL,vT,orderL),trivial,rfl,rfl,rfl,fun _ _=>⟨(),trivial,rfl,fun ρ O w v hv=>by
  have h : spPrint.res (humpL,vT,orderL) () = spPrA.res () ():=by show SV.tup [vS (printS _),vI (printE _)] = _; rw [print_aw.1,print_aw.2]; rfl
  have hv' : Den regF ρ O w (spPrint.res (humpL,vT,orderL) ()) v:=hv
  rw [h] at hv'; exact hv',fun n hn=>rfl⟩⟩
abbrev yardAt (p : Nat) (s : MS) : Ct AF:=.cells [vI s.n,.lst 44 s.es,.lst 48 s.fl,vI s.win,doneV s.dn,.val (.int .i32 0),vW 0,.sl p 1 0 s.past.length]
abbrev msH (b p : Nat) (s : MS) : List (Nat × Ct AF):=[(0,m0C),(1,yardAt p s),(2,knowAt 4 b s),(3,.arr 111 s.ps),(4,.arr 63 s.js),(5,tbC),(6,.map 3 3 s.tb),(b,.arr 5 (iB s.bs)),(p,.arr 51 s.past)]
abbrev msN (s : MS) : List (Option (Ct AF)):=[some m0C,some (yardAt 9 s),some (knowAt 4 10 s),some (.arr 111 s.ps),some (.arr 63 s.js),some tbC,some (.map 3 3 s.tb),none,none,some (.arr 51 s.past),some (.arr 5 (iB s.bs))]
end
end Go.Sx
namespace Go.Sx
noncomputable section
open Go Go.Proofs Go.Proofs.YtcehbnfhlcfinaaGreatDoor
open Go.Shelf
def spApP : Spec AF where
 γ:=GP
 args:=fun g=>[.ptr 0 0 2 0,recS (3,[1,0,g.left] ++ g.path,[])]
 own:=fun g=>msB g.a
 pre:=GP.ok
 res:=fun _ _=>vB true
 own':=fun g _=>(msB g.b).map some
theorem m_apP : Meets Tryz.prog regF 40 spApP:=by
 refine meets Tryz.func40 95 noWr ?_
 rintro ⟨n,es,fl,win,dn,past,(c : CtlT),news,l0,(t : Int),tb,(bs : List UInt8),(left : Int),(path : List Int)⟩ hok
 have h3 : 3 ≤ path.length:=hok.1.2.2.2.1
 have hll : ([1,0,left] ++ path).length = 3 + path.length:=by simp; omega
 have hx : ([1,0,left] ++ path)[0]? = some 1:=rfl
 have hy : ([1,0,left] ++ path)[1]? = some 0:=rfl
 have hz : ([1,0,left] ++ path)[2]? = some left:=rfl
 obtain ⟨v,h,o,u,b,s,p,q,op,r,w,oh,ov,oo,ou,on,oe⟩:=c
 conv=>whnf
 repeat' ((first | (refine (?_ : TG _ _); first | refine tY ?_ | refine tN ?_ | refine dY ?_ | refine dN ?_ | (refine tell ?_ ?_ <;> intro hQ <;> try dsimp only at hQ)) | refine aS ?_ | refine aX hx ?_ | refine aL hx ?_ | refine aX hy ?_ | refine aL hy ?_ | refine aX hz ?_ | refine aL hz ?_ | refine ai ?_ | fail) <;> conv=>whnf)
 refine ⟨_,m_mplan,⟨n,es,fl,win,dn,past,(v,h,o,u,b,s,p,q,op,r,w,oh,ov,oo,ou,on,oe),news,l0,t,tb,bs,left,path⟩,[0,1,2,3,4,5,6,7,8],false,?_⟩
 conv=>whnf
 refine vcA hok ?_
 refine uU ?_
 conv=>whnf
 conv=>whnf
 repeat' ((first | (refine (?_ : TG _ _); first | refine tY ?_ | refine tN ?_ | refine dY ?_ | refine dN ?_ | (refine tell ?_ ?_ <;> intro hQ <;> try dsimp only at hQ)) | refine aS ?_ | refine ai ?_ | fail) <;> conv=>whnf)
 exact ⟨(),[],trivial,a3⟩
def spNoP : Spec AF where
 γ:=GP
 δ:=Txt
 args:=fun g=>[.ptr 0 0 2 0,vI 3,vS [],.lst 3 ([1,0,g.left] ++ g.path)]
 own:=fun g=>msB g.a
 pre:=fun g=>GP.ok g ∧ g.path.length ≤ 200 ∧ g.bs.length ≤ 100000000
 nnew:=1
 res:=fun _ _=>vB true
 own':=fun g l=>[some m0C,some (yardCt g.b),some (knowAt 4 9 { g.b with bs:=g.b.bs ++ l }),some (.arr 111 g.b.ps),some (.arr 63 g.b.js),some tbC,some (.map 3 3 g.b.tb),none,some (.arr 51 g.b.past),some (.arr 5 (iB (g.b.bs ++ l)))]
 post:=fun _ l=>l.length ≤ 100000
theorem m_noP : Meets Tryz.prog regF 18 spNoP:=by
 refine meets Tryz.func18 37 noWr ?_
 rintro ⟨n,es,fl,win,dn,past,(c : CtlT),news,l0,(t : Int),tb,(bs : List UInt8),(left : Int),(path : List Int)⟩ ⟨hok,(hp : path.length ≤ 200),(hb : bs.length ≤ 100000000)⟩
 have hll : ([1,0,left] ++ path).length = 3 + path.length:=by simp; omega
 obtain ⟨v,h,o,u,b,s,p,q,op,r,w,oh,ov,oo,ou,on,oe⟩:=c
 conv=>whnf
 repeat' ((first | (refine (?_ : TG _ _); first | refine tY ?_ | refine tN ?_ | refine dY ?_ | refine dN ?_ | (refine tell ?_ ?_ <;> intro hQ <;> try dsimp only at hQ)) | refine aS ?_ | refine ai ?_ | fail) <;> conv=>whnf)
 refine ⟨_,m_jlay,(3,[1,0,left] ++ path,[]),[],false,?_⟩
 conv=>whnf
 refine vcA ⟨(by show (0 : Int) ≤ 3 ∧ (3 : Int) ≤ 255; decide),(show ([1,0,left] ++ path).length ≤ 255 by omega),Nat.zero_le _⟩ ?_
 conv=>whnf
 refine aV [0] ⟨by decide,by decide⟩ fun (l : Txt) (hl : 0 < l.length ∧ l.length ≤ 100000)=>?_
 conv=>whnf
 repeat' ((first | (refine (?_ : TG _ _); first | refine tY ?_ | refine tN ?_ | refine dY ?_ | refine dN ?_ | (refine tell ?_ ?_ <;> intro hQ <;> try dsimp only at hQ)) | refine aS ?_ | refine ai ?_ | fail) <;> conv=>whnf)
 refine ⟨_,m_apP,⟨n,es,fl,win,dn,past,(v,h,o,u,b,s,p,q,op,r,w,oh,ov,oo,ou,on,oe),news,l0,t,tb,bs,left,path⟩,[0,1,2,3,4,5,6,7,8],false,?_⟩
 conv=>whnf
 refine vcA hok ?_
 refine uU ?_
 conv=>whnf
 conv=>whnf
 repeat' ((first | (refine (?_ : TG _ _); first | refine tY ?_ | refine tN ?_ | refine dY ?_ | refine dN ?_ | (refine tell ?_ ?_ <;> intro hQ <;> try dsimp only at hQ)) | refine aS ?_ | refine ai ?_ | fail) <;> conv=>whnf)
 refine ⟨_,m_wk,(GP.b ⟨n,es,fl,win,dn,past,(v,h,o,u,b,s,p,q,op,r,w,oh,ov,oo,ou,on,oe),news,l0,t,tb,bs,left,path⟩,l),[0,1,2,3,4,5,6,7,8],false,?_⟩
 conv=>whnf
 refine vcA ⟨(show bs.length ≤ 1000000000 by omega),(show l.length ≤ 1000000 by omega),fun h=>by cases h⟩ ?_
 refine uU ?_
 conv=>whnf
 conv=>whnf
 repeat' ((first | (refine (?_ : TG _ _); first | refine tY ?_ | refine tN ?_ | refine dY ?_ | refine dN ?_ | (refine tell ?_ ?_ <;> intro hQ <;> try dsimp only at hQ)) | refine aS ?_ | refine ai ?_ | fail) <;> conv=>whnf)
 exact ⟨l,[1036],hl.2,a3⟩
end
end Go.Sx
namespace Go.Sx
noncomputable section
open Go Go.Proofs Go.Proofs.YtcehbnfhlcfinaaGreatDoor
open Go.Shelf
abbrev sA (bs : Txt) : MS:=(g0 false [] bs).a
abbrev sB (bs l : Txt) : MS:={ (g0 true [[]] bs).b with bs:=bs ++ l }
def spSend : Spec AF where
 γ:=Txt
 δ:=Txt
 args:=fun _=>[.ptr 0 0 2 0,.agg [vI 1,vI 2,vI 1,vI (-1)]]
 own:=fun bs=>msB (sA bs)
 pre:=fun bs=>bs.length ≤ 10000000
 nnew:=2
 res:=fun _ _=>.tup []
 own':=fun bs l=>msN (sB bs l)
 post:=fun _ l=>l.length ≤ 100000
theorem m_send : Meets Tryz.prog regF 47 spSend:=by
 refine meets Tryz.func47 95 noWr ?_
 rintro (bs : List UInt8) (hb : bs.length ≤ 10000000)
 have hx : (sA bs).ps[0]? = some (mkP c0 ⟨#[]⟩ (-1) 0):=rfl
 have hy : [((bS vT,0) : HomT)][0]? = some (bS vT,0):=rfl
 have hz : [(0 : Int)][0]? = some 0:=rfl
 conv=>whnf
 repeat' ((first | (refine (?_ : TG _ _); first | refine tY ?_ | refine tN ?_ | refine dY ?_ | refine dN ?_ | (refine tell ?_ ?_ <;> intro hQ <;> try dsimp only at hQ)) | refine aS ?_ | refine ai ?_ | fail) <;> conv=>whnf)
 refine ⟨Unit,fun _=>⟨[(0,.ptr 0 0 2 0),(3,.ptr 1003 0 4 0),(4,vB true),(19,.sl 3 20 0 1),(20,vI 1),(21,vI 0)],(1003,.cells [vI 1,vI 2,vI 1,vI (-1)]) :: msH 7 8 (sA bs)⟩,fun _=>True,fun _=>0,fun _ _=>rfl,⟨(),[],trivial,en⟩,?_⟩
 rintro _ _
 conv=>whnf
 repeat' ((first | (refine (?_ : TG _ _); first | refine tY ?_ | refine tN ?_ | refine dY ?_ | refine dN ?_ | (refine tell ?_ ?_ <;> intro hQ <;> try dsimp only at hQ)) | refine aS ?_ | refine aX hx ?_ | refine aL hx ?_ | refine aX hy ?_ | refine aL hy ?_ | refine ai ?_ | fail) <;> conv=>whnf)
 refine ⟨_,m_to1,(bS vT,0),[1,8],false,?_⟩
 conv=>whnf
 refine vcA trivial ?_
 refine uU ?_
 conv=>whnf
 conv=>whnf
 repeat' ((first | (refine (?_ : TG _ _); first | refine tY ?_ | refine tN ?_ | refine dY ?_ | refine dN ?_ | (refine tell ?_ ?_ <;> intro hQ <;> try dsimp only at hQ)) | refine aS ?_ | refine ai ?_ | fail) <;> conv=>whnf)
 refine ⟨_,m_idle,c0,[],false,?_⟩
 conv=>whnf
 refine vcA trivial ?_
 refine uU ?_
 conv=>whnf
 conv=>whnf
 repeat' ((first | (refine (?_ : TG _ _); first | refine tY ?_ | refine tN ?_ | refine dY ?_ | refine dN ?_ | (refine tell ?_ ?_ <;> intro hQ <;> try dsimp only at hQ)) | refine aS ?_ | refine aX hx ?_ | refine aL hx ?_ | refine aX hz ?_ | refine aL hz ?_ | refine ai ?_ | fail) <;> conv=>whnf)
 refine ⟨_,m_to2,(bS vT,0),[1,1045],false,?_⟩
 conv=>whnf
 refine vcA trivial ?_
 refine uU ?_
 conv=>whnf
 conv=>whnf
 repeat' ((first | (refine (?_ : TG _ _); first | refine tY ?_ | refine tN ?_ | refine dY ?_ | refine dN ?_ | (refine tell ?_ ?_ <;> intro hQ <;> try dsimp only at hQ)) | refine aS ?_ | refine ai ?_ | fail) <;> conv=>whnf)
 refine ⟨_,m_noP,g0 true [[]] bs,[0,1,2,3,4,5,6,7,1045],false,?_⟩
 conv=>whnf
 refine vcA ⟨g0_ok _ _ _,(by show path7.length ≤ 200; decide),(show bs.length ≤ 100000000 by omega)⟩ ?_
 conv=>whnf
 refine aV [] (by show 0 ≤ 100000; decide) fun (l : Txt) (hl : l.length ≤ 100000)=>?_
 conv=>whnf
 repeat' ((first | (refine (?_ : TG _ _); first | refine tY ?_ | refine tN ?_ | refine dY ?_ | refine dN ?_ | (refine tell ?_ ?_ <;> intro hQ <;> try dsimp only at hQ)) | refine aS ?_ | refine ai ?_ | fail) <;> conv=>whnf)
 exact ⟨l,[1045,1086],hl,a3⟩
end
end Go.Sx
namespace Go.Sx
noncomputable section
open Go Go.Proofs Go.Proofs.YtcehbnfhlcfinaaGreatDoor
open Go.Shelf
def spJobs : Spec AF where
 γ:=MS
 args:=fun _=>[.ptr 0 0 2 0]
 own:=fun s=>msB s
 pre:=fun s=>s.f = true ∧ 0 < s.js.length ∧ s.js.length ≤ 1000
 res:=fun s _=>.lst 63 s.js
 own':=fun s _=>(msB s).map some
theorem m_jobs : Meets Tryz.prog regF 8 spJobs:=by
 refine meets Tryz.func8 11 noWr ?_
 rintro ⟨n,es,fl,win,dn,past,ps,(js : List JobT),tb,f,bs⟩ ⟨(hf : f = true),(h0 : 0 < js.length),(h1 : js.length ≤ 1000)⟩
 subst hf
 conv=>whnf
 repeat' ((first | (refine (?_ : TG _ _); first | refine tY ?_ | refine tN ?_ | refine dY ?_ | refine dN ?_ | (refine tell ?_ ?_ <;> intro hQ <;> try dsimp only at hQ)) | refine aS ?_ | refine ai ?_ | fail) <;> conv=>whnf)
 refine ⟨_,m_clSJ,js,[4],false,?_⟩
 conv=>whnf
 refine vcA ⟨h0,(show js.length ≤ 1000000000 by omega)⟩ ?_
 refine uU ?_
 conv=>whnf
 conv=>whnf
 repeat' ((first | (refine (?_ : TG _ _); first | refine tY ?_ | refine tN ?_ | refine dY ?_ | refine dN ?_ | (refine tell ?_ ?_ <;> intro hQ <;> try dsimp only at hQ)) | refine aS ?_ | refine ai ?_ | fail) <;> conv=>whnf)
 exact ⟨(),[],trivial,a3⟩
def spOwned : Spec AF where
 γ:=MS
 args:=fun _=>[.ptr 0 0 2 0,vI 0]
 own:=fun s=>msB s
 pre:=fun s=>s.f = true ∧ s.tb.length ≤ 17592186044416 ∧ ∀ p ∈ s.tb,InI p.1
 res:=fun s _=>.lst 3 (ofL s.tb 0)
 own':=fun s _=>(msB s).map some
theorem m_owned : Meets Tryz.prog regF 13 spOwned:=by
 refine meets Tryz.func13 14 noWr ?_
 rintro ⟨n,es,fl,win,dn,past,ps,(js : List JobT),tb,f,bs⟩ ⟨(hf : f = true),h⟩
 subst hf
 conv=>whnf
 repeat' ((first | (refine (?_ : TG _ _); first | refine tY ?_ | refine tN ?_ | refine dY ?_ | refine dN ?_ | (refine tell ?_ ?_ <;> intro hQ <;> try dsimp only at hQ)) | refine aS ?_ | refine ai ?_ | fail) <;> conv=>whnf)
 refine ⟨_,m_of,(tb,0),[5,6],false,?_⟩
 conv=>whnf
 refine vcA h ?_
 refine uU ?_
 conv=>whnf
 conv=>whnf
 repeat' ((first | (refine (?_ : TG _ _); first | refine tY ?_ | refine tN ?_ | refine dY ?_ | refine dN ?_ | (refine tell ?_ ?_ <;> intro hQ <;> try dsimp only at hQ)) | refine aS ?_ | refine ai ?_ | fail) <;> conv=>whnf)
 exact ⟨(),[],trivial,a3⟩
def spCtl : Spec AF where
 γ:=MS × CtlT × ByteArray × Int × Int
 args:=fun _=>[.ptr 0 0 2 0,vI 0]
 own:=fun g=>msB g.1
 pre:=fun g=>g.1.f = true ∧ g.1.ps[0]? = some (mkP g.2.1 g.2.2.1 g.2.2.2.1 g.2.2.2.2) ∧ CLens g.2.1
 res:=fun g _=>.tup [ctlS g.2.1,vB true]
 own':=fun g _=>(msB g.1).map some
theorem m_ctl : Meets Tryz.prog regF 11 spCtl:=by
 refine meets Tryz.func11 35 noWr ?_
 rintro ⟨⟨n,es,fl,win,dn,past,(ps : List PostT),js,tb,f,bs⟩,⟨v,h,o,u,b,s,(p : List Int),q,op,r,w,oh,ov,oo,ou,(on : List Stp),(oe : List Stp)⟩,news,job,left⟩ ⟨(hf : f = true),(hx : ps[0]? = some (v,h,o,u,b,s,p,q,op,r,w,oh,ov,oo,ou,on,oe,news,job,left)),(h1 : p.length ≤ 1000000),(h2 : on.length ≤ 1000000),(h3 : oe.length ≤ 1000000)⟩
 subst hf
 have h0 : 0 < ps.length:=(List.getElem?_eq_some_iff.1 hx).1
 conv=>whnf
 repeat' ((first | (refine (?_ : TG _ _); first | refine tY ?_ | refine tN ?_ | refine dY ?_ | refine dN ?_ | (refine tell ?_ ?_ <;> intro hQ <;> try dsimp only at hQ)) | refine aS ?_ | refine ai ?_ | fail) <;> conv=>whnf)
 refine ⟨_,m_post,⟨n,es,fl,win,dn,past,ps,js,tb,true,bs⟩,[0,1,2,3,4,5,6,7,8],false,?_⟩
 conv=>whnf
 refine vcA ⟨rfl,h0⟩ ?_
 refine uU ?_
 conv=>whnf
 conv=>whnf
 repeat' ((first | (refine (?_ : TG _ _); first | refine tY ?_ | refine tN ?_ | refine dY ?_ | refine dN ?_ | (refine tell ?_ ?_ <;> intro hQ <;> try dsimp only at hQ)) | refine aS ?_ | refine aX hx ?_ | refine aL hx ?_ | refine ai ?_ | fail) <;> conv=>whnf)
 refine ⟨_,m_clI,p,[],false,?_⟩
 conv=>whnf
 refine vcA (show p.length ≤ 1000000000 by omega) ?_
 refine uU ?_
 conv=>whnf
 conv=>whnf
 repeat' ((first | (refine (?_ : TG _ _); first | refine tY ?_ | refine tN ?_ | refine dY ?_ | refine dN ?_ | (refine tell ?_ ?_ <;> intro hQ <;> try dsimp only at hQ)) | refine aS ?_ | refine ai ?_ | fail) <;> conv=>whnf)
 refine ⟨_,m_clS,on,[],false,?_⟩
 conv=>whnf
 refine vcA (show on.length ≤ 1000000000 by omega) ?_
 refine uU ?_
 conv=>whnf
 conv=>whnf
 repeat' ((first | (refine (?_ : TG _ _); first | refine tY ?_ | refine tN ?_ | refine dY ?_ | refine dN ?_ | (refine tell ?_ ?_ <;> intro hQ <;> try dsimp only at hQ)) | refine aS ?_ | refine ai ?_ | fail) <;> conv=>whnf)
 refine ⟨_,m_clW,oe,[],false,?_⟩
 conv=>whnf
 refine vcA (show oe.length ≤ 1000000000 by omega) ?_
 refine uU ?_
 conv=>whnf
 conv=>whnf
 repeat' ((first | (refine (?_ : TG _ _); first | refine tY ?_ | refine tN ?_ | refine dY ?_ | refine dN ?_ | (refine tell ?_ ?_ <;> intro hQ <;> try dsimp only at hQ)) | refine aS ?_ | refine ai ?_ | fail) <;> conv=>whnf)
 exact ⟨(),[],trivial,a3⟩
end
end Go.Sx
