/- Own texts of the proof, merged: SxJ SxO SxK SxL SxM SxN SxP SxQ SxR SxS. -/
import Derived.Laws.MakeOwn
import Derived.Laws.IdiomStrings
import Derived.Test.YtcehbnfhlcfinaaGreatDoorZA
set_option linter.unusedVariables false
set_option linter.unusedSimpArgs false
set_option maxHeartbeats 8000000
namespace Go.Sx
open Go
variable {A : Nat → Type}
section
variable {R : Reg A} {n : Nat} {X E0 : Nat → Prop} {ρ0 : Rho} {w0 : World} {st : St A} {ρ : Rho} {a : Act} {w : World} {d : Option Tmp}
theorem SInv.forget (hI : SInv R n X E0 ρ0 w0 st ρ a w) {st' : St A} (ht : st'.t = st.t) (hu : st'.u = st.u) (hh : ∀ i,st'.h i = st.h i ∨ st'.h i = none) : SInv R n X E0 ρ0 w0 st' ρ a w:=by
 have old : ∀ i ct,st'.h i = some ct → st.h i = some ct:=fun i ct h=>by
  rcases hh i with e | e
  ·rwa [e] at h
  ·rw [e] at h; cases h
 have g : Goes (fun b=>X b ∨ OwnB st.h ρ b) (fun b=>X b ∨ OwnB st'.h ρ b) w w:=⟨fun b c E fz hn hb=>⟨fun hx=>hn (hx.imp id fun ⟨k,ct,base,h1,h2⟩=>⟨k,ct,base,old k ct h1,h2⟩),hb⟩,fun _ c _ fz h=>⟨c,fz,h,rfl⟩,fun _ _ h=>h⟩
 exact ⟨hI.size,fun s sv h=>(hI.slots s sv (by rwa [ht] at h)).mono g,fun h ct hc=>(hI.hs h ct (old h ct hc)).mono g (fun _ _ _=>rfl),
  fun h h' ct ct' b base base' h1 h2=>hI.inj h h' ct ct' b base base' (old _ _ h1) (old _ _ h2),fun h ct b base h1=>hI.own h ct b base (old _ _ h1),
  fun h ct h1=>by rw [hu]; exact hI.used h ct (old _ _ h1),fun s sv h=>by rw [hu]; exact hI.men s sv (by rwa [ht] at h),hI.xlt,hI.rel,hI.defers,by rw [hu]; exact hI.keep⟩
theorem SInv.none (hI : SInv R n X E0 ρ0 w0 st ρ a w) {nm : Nat} {ct : Ct A} {sv : SV A} {v : Value} (hd : okDst n d = true) (hf : fresh st.u [nm] = true) (hfl : ct.flat R = []) (hm : menCt st.u ct = true)
  (hden : ∀ O',Den R (setR ρ nm Option.none) O' w sv v) (hmen : Sx.men (fun h=>Nat.beq h nm) sv = true) :
  SInv R n X E0 ρ0 w0 (st.upd d sv [(nm,some ct)] [nm]) (setR ρ nm Option.none) (a.put d v) w:=by
 have hnm : st.u nm = false:=fresh_spec hf nm (by simp)
 have hρ : ∀ h,st.u h = true → setR ρ nm Option.none h = ρ h:=fun h hu=>setR_ne (by rintro rfl; rw [hnm] at hu; cases hu)
 have hgo : Goes (fun b=>X b ∨ OwnB st.h ρ b) (fun b=>X b ∨ OwnB (updH st.h [(nm,some ct)]) (setR ρ nm Option.none) b) w w:=by
  refine ⟨fun b c' E fz hn hb=>⟨?_,hb⟩,fun b c' E fz hb=>⟨c',fz,hb,rfl⟩,fun _ _ h=>h⟩
  rintro (hx | ⟨h,ct',base,hh,hr⟩)
  ·exact hn (.inl hx)
  ·rw [updH_one] at hh
   split at hh
   ·rename_i e; subst e; rw [setR_eq] at hr; cases hr
   ·rename_i e; rw [setR_ne e] at hr; exact hn (.inr ⟨h,ct',base,hh,hr⟩)
 have hk : ∀ k,Nat.beq k nm = true → updU st.u [nm] k = true:=fun k hk=>updU_new (by rw [beq_true hk]; simp)
 refine hI.step hd hρ hI.rel hgo (fun h ct' hh=>?_) (fun h h' ct1 ct2 b base base' hh hh' hr hr'=>?_) (hden _) (men_mono hk sv hmen)
 ·rw [updH_one] at hh
  split at hh
  ·rename_i e; subst e; cases hh
   refine .inr ⟨by rw [setR_eq]; exact hfl,fun b base hr=>(by rw [setR_eq] at hr; cases hr),updU_new (by simp),menCt_mono (fun k=>updU_old) _ hm⟩
  ·exact .inl ⟨hh,fun _ _ _=>rfl⟩
 ·rw [updH_one] at hh hh'
  split at hh <;> split at hh'
  ·rename_i e1 e2; rw [e1,e2]
  ·rename_i e1 e2; subst e1; rw [setR_eq] at hr; cases hr
  ·rename_i e1 e2; subst e2; rw [setR_eq] at hr'; cases hr'
  ·rename_i e1 e2; rw [setR_ne e1] at hr; rw [setR_ne e2] at hr'; exact hI.inj h h' ct1 ct2 b base base' hh hh' hr hr'
theorem updH_two {f : Nat → Option (Ct A)} {k nm : Nat} {c : Option (Ct A)} (h : Nat) : updH f [(k,Option.none),(nm,c)] h = if h = k then Option.none else updH f [(nm,c)] h:=by
 rw [updH]
 by_cases e : h = k
 ·subst e; simp
 ·rw [beq_false e,if_neg e]
theorem SInv.drop {sv : SV A} {nm : Nat} {c : Option (Ct A)} {new : List Nat} (hI : SInv R n X E0 ρ0 w0 (st.upd d sv [(nm,c)] new) ρ a w) {k : Nat} : SInv R n X E0 ρ0 w0 (st.upd d sv [(k,Option.none),(nm,c)] new) ρ a w:=
 hI.forget rfl rfl fun i=>by
  show updH st.h _ i = updH st.h _ i ∨ updH st.h _ i = Option.none
  rw [updH_two]
  split
  ·exact .inr rfl
  ·exact .inl rfl
theorem SInv.take (hI : SInv R n X E0 ρ0 w0 st ρ a w) {h0 nm b base k : Nat} {ct ct' : Ct A} {sv : SV A} {v : Value} {c c' : Array Value} {T : TypeId} {fz : Nat × Nat} (hd : okDst n d = true) (hf : fresh st.u [nm] = true)
  (hh0 : st.h h0 = some ct) (hr0 : ρ h0 = some (b,base)) (hb : w.heap[b]? = some (.cells c T fz)) (hz : fz.2 ≤ fz.1 ∨ c.size ≤ fz.1) (hsz : c'.size = c.size) (hnmp : ct'.isMap = false) (hty : ct'.tyOk (base + k) c.size T)
  (hl : base + k + (ct'.flat R).length ≤ c.size) (hc : ∀ (j : Nat) s u,(ct'.flat R)[j]? = some s → c'[base + k + j]? = some u → Den R ρ (fun b=>X b ∨ OwnB st.h ρ b) w s u) (hm : menCt st.u ct' = true)
  (hden : ∀ O',Den R (setR ρ nm (some (b,base + k))) O' (w.setRow b c') sv v) (hmen : Sx.men (fun h=>Nat.beq h nm) sv = true) :
  SInv R n X E0 ρ0 w0 (st.upd d sv [(h0,Option.none),(nm,some ct')] [nm]) (setR ρ nm (some (b,base + k))) (a.put d v) (w.setRow b c'):=by
 have hown:=hI.own h0 ct b base hh0 hr0
 have hnm : st.u nm = false:=fresh_spec hf nm (by simp)
 have hne : nm ≠ h0:=by rintro rfl; have:=(hI.used nm ct hh0).1; rw [hnm] at this; cases this
 have hρ : ∀ h,st.u h = true → setR ρ nm (some (b,base + k)) h = ρ h:=fun h hu=>setR_ne (by rintro rfl; rw [hnm] at hu; cases hu)
 have get : ∀ h ct1,updH st.h [(h0,Option.none),(nm,some ct')] h = some ct1 → (h = nm ∧ ct1 = ct') ∨ (h ≠ h0 ∧ h ≠ nm ∧ st.h h = some ct1):=fun h ct1 hh=>by
  rw [updH_two] at hh
  split at hh
  ·cases hh
  ·rename_i e
   rw [updH_one] at hh
   split at hh
   ·rename_i e2; cases hh; exact .inl ⟨e2,rfl⟩
   ·rename_i e2; exact .inr ⟨e,e2,hh⟩
 have hgo : Goes (fun b=>X b ∨ OwnB st.h ρ b) (fun b'=>X b' ∨ OwnB (updH st.h [(h0,Option.none),(nm,some ct')]) (setR ρ nm (some (b,base + k))) b') w (w.setRow b c'):=by
  refine ⟨fun b1 c1 E f hn hk=>⟨?_,?_⟩,fun b1 c1 E f hk=>?_,fun b1 ds hk=>by rw [setRow_other (by rintro rfl; rw [hb] at hk; cases hk)]; exact hk⟩
  ·rintro (hx | ⟨h,ct1,base1,hh,hr⟩)
   ·exact hn (.inl hx)
   ·rcases get h ct1 hh with ⟨rfl,rfl⟩ | ⟨e1,e2,h1⟩
    ·rw [setR_eq] at hr; cases hr; exact hn (.inr ⟨h0,ct,base,hh0,hr0⟩)
    ·rw [setR_ne e2] at hr; exact hn (.inr ⟨h,ct1,base1,h1,hr⟩)
  ·rw [setRow_other]; exact hk
   rintro rfl; exact hn (.inr ⟨h0,ct,base,hh0,hr0⟩)
  ·by_cases e : b1 = b
   ·subst e; rw [hb] at hk; cases hk; exact ⟨c',_,setRow_heap w b1 _ c' _ _ hb,hsz⟩
   ·exact ⟨c1,f,by rw [setRow_other e]; exact hk,rfl⟩
 have hk : ∀ k,Nat.beq k nm = true → updU st.u [nm] k = true:=fun k hk=>updU_new (by rw [beq_true hk]; simp)
 refine hI.step hd hρ (hI.rel.setRow hb c' hsz hown.1) hgo (fun h ct1 hh=>?_) (fun h h' ct1 ct2 b1 base1 base2 hh hh' hr hr'=>?_) (hden _) (men_mono hk sv hmen)
 ·rcases get h ct1 hh with ⟨rfl,rfl⟩ | ⟨e1,e2,h1⟩
  ·refine .inr ⟨?_,?_,updU_new (by simp),menCt_mono (fun k=>updU_old) _ hm⟩
   ·rw [setR_eq]
    exact .inr ⟨hnmp,c',T,fz,setRow_heap w b _ c' _ _ hb,by rw [hsz]; exact hz,⟨by omega,by rw [hsz]; exact hty⟩,fun j s u hs hu=>((hc j s u hs hu).rho (flat_men hm j s hs) hρ).mono hgo⟩
   ·intro b1 base1 hr; rw [setR_eq] at hr; cases hr; exact hown
  ·refine .inl ⟨h1,fun b1 base1 hr=>setRow_other ?_⟩
   rintro rfl; exact e1 (hI.inj h h0 ct1 ct b1 base1 base h1 hh0 hr hr0)
 ·rcases get h ct1 hh with ⟨rfl,rfl⟩ | ⟨e1,e2,h1⟩ <;> rcases get h' ct2 hh' with ⟨rfl,rfl⟩ | ⟨e3,e4,h2⟩
  ·rfl
  ·rw [setR_eq] at hr; cases hr; rw [setR_ne e4] at hr'; exact absurd (hI.inj h' h0 ct2 ct b base2 base h2 hh0 hr' hr0) e3
  ·rw [setR_eq] at hr'; cases hr'; rw [setR_ne e2] at hr; exact absurd (hI.inj h h0 ct1 ct b base1 base h1 hh0 hr hr0) e1
  ·rw [setR_ne e2] at hr; rw [setR_ne e4] at hr'; exact hI.inj h h' ct1 ct2 b1 base1 base2 h1 h2 hr hr'
end
section
variable {P : Program} {E : Env A} {n : Nat} {X E0 : Nat → Prop} {ρ0 : Rho} {w0 : World} {st : St A} {ρ : Rho} {a : Act} {w : World} {d : Option Tmp}
def Src (P : Program) (size k : Nat) (v : Value) (w : World) (new : Array Value) : Prop:=
 (Builtin.lenOf v).run P w = .ok k w ∧ ∀ q,(Builtin.firstCells size k v).run P { w with drawn:=q } = .ok new { w with drawn:=q }
theorem src_of {size k b off cap : Nat} {c : Array Value} {F : TypeId} {fz : Nat × Nat} (hb : w.heap[b]? = some (.cells c F fz)) (g : Nat → Value) (hc : ∀ j,j < k * size → c[off + j]? = some (g j)) :
  Src P size k (.slice (some ⟨b,off,none⟩) k cap) w ((List.range (k * size)).map g).toArray:=by
 refine ⟨by simp [Builtin.lenOf],fun q=>?_⟩
 have:=run_loadCells (P:=P) { w with drawn:=q } ⟨b,off,none⟩ (k * size) g (fun j hj=>by rw [add_off]; exact (cell_at (w:={ w with drawn:=q }) hb _).trans (hc j hj))
 simpa [Builtin.firstCells] using this
theorem src_nil {size cap : Nat} (p : Option Addr) : Src P size 0 (.slice p 0 cap) w #[]:=by
 refine ⟨by simp [Builtin.lenOf],fun q=>?_⟩
 cases p with
 | none=>simp [Builtin.firstCells]
 | some x=>simp [Builtin.firstCells,loadCells,loadCellsFrom]
theorem src_str (s : ByteArray) : Src P 1 s.size (.string s) w (s.data.map fun b=>.int .u8 b.toNat):=by
 refine ⟨by simp [Builtin.lenOf],fun q=>?_⟩
 have : (s.extract 0 s.size) = s:=by simp
 simp [Builtin.firstCells,this]
theorem den_bytes {R : Reg A} {O : Nat → Prop} (s : ByteArray) : DenA R ρ O w (byteCells s) (s.data.map fun b=>.int .u8 b.toNat):=by
 refine ⟨by simp [byteCells],fun j s' u hs hu=>?_⟩
 simp only [byteCells,List.getElem?_map,Array.getElem?_toList] at hs
 simp only [Array.getElem?_map] at hu
 cases h : s.data[j]? with
 | none=>rw [h] at hs; cases hs
 | some b=>rw [h] at hs hu; cases hs; cases hu; exact .val _
theorem src_lst {O : Nat → Prop} {T : Nat} {xs : List (A T)} {v : Value} (hv : Den E.reg ρ O w (.lst T xs) v) : ∃ new,Src P (E.reg.sz T) xs.length v w new ∧ DenA E.reg ρ O w (xs.flatMap (E.reg.enc T)) new:=by
 cases hv with
 | lnil=>exact ⟨#[],src_nil _,rfl,fun j s u hs=>by simp at hs⟩
 | lempty=>exact ⟨#[],src_nil _,rfl,fun j s u hs=>by simp at hs⟩
 | lst _ _ b off cap c F fz g ho hb hcap hc hd=>
  refine ⟨_,src_of (cap:=cap) hb (fun j=>g (j / E.reg.sz T) (j % E.reg.sz T)) (fun j hj=>?_),?_,fun j s u hs hu=>?_⟩
  ·have h0 : 0 < E.reg.sz T:=by
    rcases Nat.eq_zero_or_pos (E.reg.sz T) with e | e
    ·rw [e] at hj; simp at hj
    ·exact e
   have hi : j / E.reg.sz T < xs.length:=(Nat.div_lt_iff_lt_mul h0).2 hj
   have:=hc (j / E.reg.sz T) _ (List.getElem?_eq_getElem hi) (j % E.reg.sz T) (Nat.mod_lt _ h0)
   rw [← this]
   congr 1
   have:=Nat.div_add_mod j (E.reg.sz T)
   rw [Nat.mul_comm] at this
   omega
  ·rw [flat_len (E.reg.len T)]; simp
  ·obtain ⟨x,k,h1,h2,h3,h4⟩:=flat_at (E.reg.len T) hs
   have hj : j < xs.length * E.reg.sz T:=by have:=(List.getElem?_eq_some_iff.1 hs).1; rwa [flat_len (E.reg.len T)] at this
   simp [hj] at hu
   subst hu
   have hm : j % E.reg.sz T = k:=by rw [h3,Nat.mul_comm,Nat.mul_add_mod,Nat.mod_eq_of_lt h2]
   rw [hm]
   exact hd _ x h1 k s h4
theorem drop_take_flat {T : Nat} (xs : List (A T)) (off len : Nat) (R : Reg A) : ((xs.drop off).take len).flatMap (R.enc T) = ((xs.flatMap (R.enc T)).drop (off * R.sz T)).take (len * R.sz T):=by
 have hd : ∀ (xs : List (A T)) (k : Nat),(xs.drop k).flatMap (R.enc T) = (xs.flatMap (R.enc T)).drop (k * R.sz T):=by
  intro xs
  induction xs with
  | nil=>intro k; simp
  | cons x xs ih=>
   intro k
   cases k with
   | zero=>simp
   | succ k=>
    have e : (R.enc T x).drop ((k + 1) * R.sz T) = []:=List.drop_eq_nil_of_le (by rw [R.len,Nat.add_mul]; omega)
    rw [List.drop_succ_cons,ih,List.flatMap_cons,List.drop_append,R.len,e,List.nil_append]
    congr 1
    rw [Nat.add_mul]; omega
 have ht : ∀ (xs : List (A T)) (k : Nat),(xs.take k).flatMap (R.enc T) = (xs.flatMap (R.enc T)).take (k * R.sz T):=by
  intro xs
  induction xs with
  | nil=>intro k; simp
  | cons x xs ih=>
   intro k
   cases k with
   | zero=>simp
   | succ k=>
    have e : (R.enc T x).take ((k + 1) * R.sz T) = R.enc T x:=List.take_of_length_le (by rw [R.len,Nat.add_mul]; omega)
    have e2 : (k + 1) * R.sz T - R.sz T = k * R.sz T:=by rw [Nat.add_mul]; omega
    rw [List.take_succ_cons,List.flatMap_cons,ih,List.flatMap_cons,List.take_append,R.len,e,e2]
 rw [ht,hd]
theorem src_sl (hI : SInv E.reg n X E0 ρ0 w0 st ρ a w) {h off len : Nat} {U : Nat} {xs : List (A U)} (hh : st.h h = some (.arr U xs)) (hle : off + len ≤ xs.length) {v : Value} (hv : Den E.reg ρ (fun b=>X b ∨ OwnB st.h ρ b) w (.sl h (E.reg.sz U) off len) v) :
  ∃ new,Src P (E.reg.sz U) len v w new ∧ DenA E.reg ρ (fun b=>X b ∨ OwnB st.h ρ b) w (((xs.drop off).take len).flatMap (E.reg.enc U)) new:=by
 cases hv with
 | slnil _ _ hr=>exact ⟨#[],src_nil _,by simp,fun j s u hs=>by simp at hs⟩
 | sl _ _ _ _ cap b base o c F fz hr hb hl ho hs=>
  obtain ⟨c',F',fz',h1,h2,h3,h4,h5,h6⟩:=hI.block hh rfl hr
  rw [hb] at h1; cases h1
  have hfl : (Ct.flat E.reg (.arr U xs)).length = xs.length * E.reg.sz U:=flat_len (E.reg.len U) xs
  have hle' : off * E.reg.sz U + len * E.reg.sz U ≤ xs.length * E.reg.sz U:=by rw [← Nat.add_mul]; exact Nat.mul_le_mul_right _ hle
  rcases Nat.eq_zero_or_pos cap with e | e
  ·have : len = 0:=by omega
   subst this
   exact ⟨#[],src_nil _,by simp,fun j s u hs=>by simp at hs⟩
  ·have ho : o = base + off * E.reg.sz U:=by omega
   subst ho
   refine ⟨_,src_of (cap:=cap) hb (fun j=>c.getD (base + (off * E.reg.sz U + j)) undef) (fun j hj=>by rw [Nat.add_assoc]; exact h4 _ (by omega)),?_,fun j s u hs hu=>?_⟩
   ·rw [drop_take_flat,List.length_take,List.length_drop,show (xs.flatMap (E.reg.enc U)).length = xs.length * E.reg.sz U from hfl]; simp; omega
   ·rw [drop_take_flat,List.getElem?_take] at hs
    split at hs
    ·rename_i hj
     rw [List.getElem?_drop] at hs
     simp [hj] at hu
     subst hu
     have:=h5 _ s hs
     rwa [Array.getD_eq_getD_getElem?] at this
    ·cases hs
theorem DenA.append {O : Nat → Prop} {R : Reg A} {cs ds : List (SV A)} {c e : Array Value} (h1 : DenA R ρ O w cs c) (h2 : DenA R ρ O w ds e) : DenA R ρ O w (cs ++ ds) (c ++ e):=by
 refine ⟨by simp [h1.1,h2.1],fun j s u hs hu=>?_⟩
 by_cases hj : j < cs.length
 ·rw [List.getElem?_append_left hj] at hs
  rw [Array.getElem?_append_left (by have:=h1.1; omega)] at hu
  exact h1.2 j s u hs hu
 ·rw [List.getElem?_append_right (by omega)] at hs
  rw [Array.getElem?_append_right (by have:=h1.1; omega)] at hu
  rw [← h1.1] at hu
  exact h2.2 _ s u hs hu
theorem run_append_grow (hE : E.Ok P) {T T2 U el2 : TypeId} {te : TI} {ats : Array TypeId} {ty : TypeId} (ha0 : ats[0]? = some T) (ha1 : ats[1]? = some T2) (hu : P.underlying T = some (.slice U)) (hu2 : P.underlying T2 = some (.slice el2) ∨ P.underlying T2 = some .string)
  (hte : E.tt U = some te) (hby : 1 ≤ te.bytes) {base : Option Addr} {len cap k : Nat} {vx : Value} {old new : Array Value} (hsrc : Src P te.size k vx w new) (hold : Src P te.size len (.slice base len cap) w old) (hroom : cap < len + k) (hbytes : (len + k) * te.bytes ≤ 140737488355328) :
  ∃ (newCap q : Nat) (rest : Array Value),len + k ≤ newCap ∧ rest.size = (newCap - (len + k)) * te.zero.cells.size ∧ (Builtin.append_ ats ty #[.slice base len cap,vx]).run P w =
   .ok (.slice (some ⟨w.heap.size,0,none⟩) (len + k) newCap) (({ w with drawn:=q } : World).alloc (.cells (old ++ new ++ rest) U)):=by
 have ht:=hE.tt U te hte
 obtain ⟨d1,i1,hd1,hi1,_,hs1,hb1,hz1,_⟩:=tiOf_inv ht
 have hfit:=growslice_fits (bytes:=te.bytes) hroom hbytes
 refine ⟨(Question.appendCap (len + k) cap U).cut (w.tape w.drawn (.appendCap (len + k) cap U)),w.drawn + 1,Builtin.zeroCells te.zero.cells ((Question.appendCap (len + k) cap U).cut (w.tape w.drawn (.appendCap (len + k) cap U)) - (len + k)),?_,by simp [Builtin.zeroCells],?_⟩
 ·simp [Question.cut]
 ·have hz : (zeroValue U).run P { w with drawn:=w.drawn + 1 } = .ok te.zero { w with drawn:=w.drawn + 1 }:=run_zero_sx ht _
  have hch : ∀ {β : Type} (f : Nat → Sem β),(choose (.appendCap (len + k) cap U) >>= f).run P w = (f ((Question.appendCap (len + k) cap U).cut (w.tape w.drawn (.appendCap (len + k) cap U)))).run P { w with drawn:=w.drawn + 1 }:=fun f=>rfl
  have hfo : (Question.appendCap (len + k) cap U).forced = false:=rfl
  generalize hq : (Question.appendCap (len + k) cap U).cut (w.tape w.drawn (.appendCap (len + k) cap U)) = nc at *
  have hn : ¬ (len + k ≤ cap):=by omega
  have hi : ∀ w' : World,(typeInfo U).run P w' = .ok i1 w':=fun w'=>by simp [typeInfo,hi1]
  have hold' : (Builtin.firstCells te.size len (.slice base len cap)).run P w.drew = .ok old w.drew:=hold.2 (w.drawn + 1)
  have hnew' : (Builtin.firstCells te.size k vx).run P w.drew = .ok new w.drew:=hsrc.2 (w.drawn + 1)
  have hz' : (zeroValue U).run P w.drew = .ok te.zero w.drew:=hz
  have hlen':=hsrc.1
  have hb0 : i1.bytes ≠ 0:=by omega
  have hfit' : ¬ (281474976710656 < Builtin.nextslicecap (len + k) cap * i1.bytes):=by rw [hb1]; omega
  rcases hu2 with hu2 | hu2 <;> simp [Builtin.append_,ha0,ha1,run_underlying hu,run_underlying hu2,run_sizeOf_sx ht,hlen',hn,hi,hb0,hfit',hfo,hold',hnew',hz',hq,run_newRow]
theorem run_append_room (hE : E.Ok P) {T T2 U el2 : TypeId} {te : TI} {ats : Array TypeId} {ty : TypeId} (ha0 : ats[0]? = some T) (ha1 : ats[1]? = some T2) (hu : P.underlying T = some (.slice U)) (hu2 : P.underlying T2 = some (.slice el2) ∨ P.underlying T2 = some .string)
  (hte : E.tt U = some te) {b o len cap k : Nat} {vx : Value} {new c : Array Value} {F : TypeId} {fz : Nat × Nat} (hsrc : Src P te.size k vx w new) (hroom : len + k ≤ cap) (hb : w.heap[b]? = some (.cells c F fz)) (hz : fz.2 ≤ fz.1 ∨ c.size ≤ fz.1)
  (hl : o + len * te.size + new.size ≤ c.size) (h1 : ∀ u ∈ new.toList,u.oneCell' = true) :
  (Builtin.append_ ats ty #[.slice (some ⟨b,o,none⟩) len cap,vx]).run P w = .ok (.slice (some ⟨b,o,none⟩) (len + k) cap) (w.setRow b (over c (o + len * te.size) new.toList)):=by
 have ht:=hE.tt U te hte
 have hlen':=hsrc.1
 have hnew' : (Builtin.firstCells te.size k vx).run P w = .ok new w:=hsrc.2 w.drawn
 have hst:=run_storeCells_sx (P:=P) (o + len * te.size) new.toList 0 c w hb hz (by simpa using hl) h1
 simp at hst
 rcases hu2 with hu2 | hu2 <;>
  ·simp [Builtin.append_,ha0,ha1,run_underlying hu,run_underlying hu2,run_sizeOf_sx ht,hlen',hroom,hnew',add_off]
   simp [hst]
theorem run_append_nothing (hE : E.Ok P) {T T2 U el2 : TypeId} {te : TI} {ats : Array TypeId} {ty : TypeId} (ha0 : ats[0]? = some T) (ha1 : ats[1]? = some T2) (hu : P.underlying T = some (.slice U)) (hu2 : P.underlying T2 = some (.slice el2) ∨ P.underlying T2 = some .string)
  (hte : E.tt U = some te) {base : Option Addr} {len cap : Nat} {vx : Value} {new : Array Value} (hsrc : Src P te.size 0 vx w new) (hn : new.size = 0) (hroom : len ≤ cap) :
  (Builtin.append_ ats ty #[.slice base len cap,vx]).run P w = .ok (.slice base len cap) w:=by
 have ht:=hE.tt U te hte
 have hlen':=hsrc.1
 have hnew' : (Builtin.firstCells te.size 0 vx).run P w = .ok new w:=hsrc.2 w.drawn
 have hn' : new = #[]:=by simpa using hn
 subst hn'
 rcases hu2 with hu2 | hu2 <;> cases base with
 | none=>simp [Builtin.append_,ha0,ha1,run_underlying hu,run_underlying hu2,run_sizeOf_sx ht,hlen',hroom,hnew']
 | some x=>simp [Builtin.append_,ha0,ha1,run_underlying hu,run_underlying hu2,run_sizeOf_sx ht,hlen',hroom,hnew',storeCells]
theorem rows_one {O : Nat → Prop} {T : Nat} {xs : List (A T)} {new : Array Value} (h : DenA E.reg ρ O w (xs.flatMap (E.reg.enc T)) new) : ∀ u ∈ new.toList,u.oneCell' = true:=fun u hu=>by
 obtain ⟨j,hj⟩:=List.getElem?_of_mem hu
 rw [Array.getElem?_toList] at hj
 have hlt : j < (xs.flatMap (E.reg.enc T)).length:=by rw [h.1]; exact (Array.getElem?_eq_some_iff.1 hj).1
 exact (h.2 j _ u (List.getElem?_eq_getElem hlt) hj).oneCell (flatMap_get (P:=fun s=>cellOk s = true) (fun x _ i s hi=>closed_ok (E.reg.closed T x i s hi)) j _ (List.getElem?_eq_getElem hlt))
theorem grow_inv (hI : SInv E.reg n X E0 ρ0 w0 st ρ a w) (hd : okDst n d = true) {nm U len newCap q : Nat} {ys : List (A U)} (hf : fresh st.u [nm] = true) (hlen : ys.length = len) {all rest : Array Value} (hA : DenA E.reg ρ (fun b=>X b ∨ OwnB st.h ρ b) w (ys.flatMap (E.reg.enc U)) all)
  (hcap : len ≤ newCap) (hrest : rest.size = (newCap - len) * E.reg.sz U) :
  SInv E.reg n X E0 ρ0 w0 (st.upd d (.sl nm (E.reg.sz U) 0 len) [(nm,some (.arr U ys))] [nm]) (setR ρ nm (some (w.heap.size,0))) (a.put d (.slice (some ⟨w.heap.size,0,none⟩) len newCap)) (({ w with drawn:=q } : World).alloc (.cells (all ++ rest) U)):=by
 have hfl : (Ct.flat E.reg (.arr U ys)).length = len * E.reg.sz U:=by rw [← hlen]; exact flat_len (E.reg.len U) ys
 have hsz : all.size = len * E.reg.sz U:=by rw [← hfl]; exact hA.1.symm
 refine (hI.drawn q).alloc hd hf rfl trivial (by simp; omega) (fun j s u hs hu=>?_) rfl (fun O'=>?_) (beq_self nm)
 ·have hj : j < all.size:=by rw [hsz,← hfl]; exact (List.getElem?_eq_some_iff.1 hs).1
  rw [Array.getElem?_append_left hj] at hu
  exact (hA.2 j s u hs hu).mono ⟨fun _ _ _ _ h hb=>⟨h,hb⟩,fun _ c _ fz h=>⟨c,fz,h,rfl⟩,fun _ _ h=>h⟩
 ·have:=Den.sl (R:=E.reg) (ρ:=setR ρ nm (some (w.heap.size,0))) (O:=O') (w:=({ w with drawn:=q } : World).alloc (.cells (all ++ rest) U)) nm (E.reg.sz U) 0 len newCap w.heap.size 0 0 (all ++ rest) U (0,0) setR_eq heap_alloc_new hcap (.inr (by simp))
   (by simp only [Array.size_append,hsz,hrest,Nat.zero_add,← Nat.add_mul]; rw [Nat.add_sub_cancel' hcap]; exact Nat.le_refl _)
  exact this
theorem snd_appTo (hE : E.Ok P) (hI : SInv E.reg n X E0 ρ0 w0 st ρ a w) (hd : okDst n d = true) {T T2 U el2 : TypeId} {te : TI} {ats : Array TypeId} {ty : TypeId} (ha0 : ats[0]? = some T) (ha1 : ats[1]? = some T2) (hu : P.underlying T = some (.slice U)) (hu2 : P.underlying T2 = some (.slice el2) ∨ P.underlying T2 = some .string)
  (hte : E.tt U = some te) (hsz : te.size = E.reg.sz U) (hby : 1 ≤ te.bytes) (hzs : te.zero.cells.size = te.size) {nm nn : Nat} {p : Prop} {ss : SV A} {vs vx : Value} {ys : List (A U)} (hnn : p → nn = ys.length)
  (hs : Den E.reg ρ (fun b=>X b ∨ OwnB st.h ρ b) w ss vs) (hsrc : p → ∃ new,Src P (E.reg.sz U) ys.length vx w new ∧ DenA E.reg ρ (fun b=>X b ∨ OwnB st.h ρ b) w (ys.flatMap (E.reg.enc U)) new) :
  Snd P E.reg n X E0 ρ0 w0 st a w d (appTo E nm U te.bytes p nn ss ys) (Builtin.append_ ats ty #[vs,vx]):=by
 unfold appTo
 split
 ·
  obtain rfl:=val_inv hs
  refine .vc fun ⟨hp,hb⟩=>?_
  obtain rfl:=hnn hp
  obtain ⟨new,h1,h2⟩:=hsrc hp
  intro R0 K hf hK
  by_cases h0 : ys.length = 0
  ·have hnil : ys = []:=by simpa using h0
   subst hnil
   have hn0 : new.size = 0:=by rw [← h2.1]; simp
   refine ⟨_,w,_,_,setR ρ nm none,run_append_nothing hE ha0 ha1 hu hu2 hte (hsz ▸ h1) hn0 (Nat.le_refl _),hK,hI.none hd hf rfl rfl (fun O'=>.slnil nm _ setR_eq) (beq_self nm)⟩
  ·obtain ⟨newCap,q,rest,g1,g2,g3⟩:=run_append_grow hE (ty:=ty) ha0 ha1 hu hu2 hte hby (base:=none) (len:=0) (cap:=0) (hsz ▸ h1) (src_nil none) (by omega) (by simpa using hb)
   rw [Nat.zero_add] at g1 g2 g3
   rw [show (#[] : Array Value) ++ new ++ rest = new ++ rest by simp] at g3
   exact ⟨_,_,_,_,setR ρ nm (some (w.heap.size,0)),g3,hK,grow_inv hI hd (q:=q) hf rfl h2 g1 (by rw [g2,hzs,hsz])⟩
 ·rename_i h sz off len
  refine .ask ?_
  cases hh : st.h h with
  | none=>exact .no
  | some ct=>
   cases ct with
   | cells cs=>exact .no
   | map _ _ _=>exact .no
   | obj _ _=>exact .no
   | row _ _=>exact .no
   | arr V xs=>
    dsimp only
    split
    ·rename_i e e1 _
     subst e
     obtain rfl:=beq_true e1
     refine .vc fun ⟨hp,hle,hb⟩=>?_
     obtain rfl:=hnn hp
     obtain ⟨new,h1,h2⟩:=hsrc hp
     obtain ⟨old,h3,h4⟩:=src_sl hI hh hle hs
     intro R0 K hf hK
     have hall:=h4.append h2
     rw [← List.flatMap_append] at hall
     have hl3 : (((xs.drop off).take len) ++ ys).length = len + ys.length:=by simp; omega
     have hnsz : new.size = ys.length * E.reg.sz V:=by rw [← h2.1]; exact flat_len (E.reg.len V) ys
     have hfresh:=hf
     have hvs : ∃ base cap,vs = .slice base len cap:=by
      cases hs with
      | slnil=>exact ⟨_,_,rfl⟩
      | sl=>exact ⟨_,_,rfl⟩
     obtain ⟨base,cap,rfl⟩:=hvs
     by_cases hroom : len + ys.length ≤ cap
     ·
      cases hs with
      | slnil _ _ hr=>
       have h0 : ys.length = 0:=by omega
       have hnil : ys = []:=by simpa using h0
       subst hnil
       exact ⟨_,w,_,_,setR ρ nm none,run_append_nothing hE ha0 ha1 hu hu2 hte (hsz ▸ h1) (by simpa using hnsz) (Nat.le_refl _),hK,(hI.none hd hf (ct:=.arr V ((xs.drop 0).take 0 ++ [])) (by simp [Ct.flat]) rfl (fun O'=>.slnil nm _ setR_eq) (beq_self nm)).drop⟩
      | sl _ _ _ _ _ b bb o c F fz hr hb' hl ho hs'=>
       obtain ⟨c0,F0,fz0,k1,k2,k3,k4,k5,k6⟩:=hI.block hh rfl hr
       rw [hb'] at k1; cases k1
       have hfl : (Ct.flat E.reg (.arr V xs)).length = xs.length * E.reg.sz V:=flat_len (E.reg.len V) xs
       have hfl2 : (Ct.flat E.reg (.arr V ((xs.drop off).take len ++ ys))).length = (len + ys.length) * E.reg.sz V:=by rw [← hl3]; exact flat_len (E.reg.len V) _
       have hle2 : (off + (len + ys.length)) * E.reg.sz V ≤ (off + cap) * E.reg.sz V:=Nat.mul_le_mul_right _ (by omega)
       have hle3 : off * E.reg.sz V + len * E.reg.sz V ≤ xs.length * E.reg.sz V:=by rw [← Nat.add_mul]; exact Nat.mul_le_mul_right _ hle
       have hm1 : (off + (len + ys.length)) * E.reg.sz V = off * E.reg.sz V + len * E.reg.sz V + ys.length * E.reg.sz V:=by rw [Nat.add_mul,Nat.add_mul]; omega
       have hm2 : (len + ys.length) * E.reg.sz V = len * E.reg.sz V + ys.length * E.reg.sz V:=Nat.add_mul _ _ _
       by_cases h0 : ys.length = 0
       ·have hnil : ys = []:=by simpa using h0
        subst hnil
        have hsame : w.setRow b c = w:=setRow_self w b c F fz hb'
        have hT:=hI.take (nm:=nm) (k:=off * E.reg.sz V) (ct':=.arr V ((xs.drop off).take len ++ [])) (c':=c) (sv:=.sl nm (E.reg.sz V) 0 (len + ([] : List (A V)).length)) (v:=.slice (some ⟨b,o,none⟩) (len + 0) cap) hd hf hh hr hb' k2 rfl rfl trivial
         (by rw [hfl2]; simp at hm2 ⊢; omega)
         (fun j s u hs2 hu2'=>by
          have hj : j < len * E.reg.sz V:=by have:=(List.getElem?_eq_some_iff.1 hs2).1; rw [hfl2] at this; simpa using this
          simp only [Ct.flat,List.append_nil] at hs2
          rw [drop_take_flat,List.getElem?_take,if_pos hj,List.getElem?_drop] at hs2
          have:=k5 _ s hs2
          have hg:=k4 _ (List.getElem?_eq_some_iff.1 hs2).1
          rw [Nat.add_assoc] at hu2'
          rw [hg] at hu2'
          cases hu2'
          exact this) rfl
         (fun O'=>by
          rw [hsame]
          refine .sl nm (E.reg.sz V) 0 len cap b (bb + off * E.reg.sz V) o c F fz setR_eq hb' hl (ho.imp id fun h=>by rw [h]; omega) ?_
          rw [Nat.zero_add]; rw [Nat.add_mul] at hs'; omega) (beq_self nm)
        rw [hsame] at hT
        exact ⟨_,w,_,_,_,run_append_nothing hE ha0 ha1 hu hu2 hte (hsz ▸ h1) (by simpa using hnsz) hl,hK,hT⟩
       ·have ho' : o = bb + off * E.reg.sz V:=by omega
        subst ho'
        have hrun:=run_append_room hE (ty:=ty) (o:=bb + off * E.reg.sz V) (len:=len) ha0 ha1 hu hu2 hte (hsz ▸ h1) hroom hb' k2 (by rw [hsz,hnsz]; omega) (rows_one h2)
        rw [hsz] at hrun
        have hover : bb + off * E.reg.sz V + len * E.reg.sz V + new.toList.length ≤ c.size:=by simp only [Array.length_toList,hnsz]; omega
        refine ⟨_,_,_,_,_,hrun,hK,hI.take (k:=off * E.reg.sz V) hd hf hh hr hb' k2 (over_size hover) rfl trivial (by rw [hfl2]; omega) (fun j s u hs2 hu2'=>?_) rfl (fun O'=>?_) (beq_self nm)⟩
        ·rw [over_get hover] at hu2'
         simp only [Array.length_toList,hnsz] at hu2'
         simp only [Ct.flat,List.flatMap_append] at hs2
         have hlen1 : (((xs.drop off).take len).flatMap (E.reg.enc V)).length = len * E.reg.sz V:=by rw [flat_len (E.reg.len V),List.length_take,List.length_drop,Nat.min_eq_left (by omega)]
         by_cases hj : j < len * E.reg.sz V
         ·rw [if_neg (by omega)] at hu2'
          rw [List.getElem?_append_left (by omega),drop_take_flat,List.getElem?_take,if_pos hj,List.getElem?_drop] at hs2
          have:=k5 _ s hs2
          have hg:=k4 _ (List.getElem?_eq_some_iff.1 hs2).1
          rw [Nat.add_assoc,hg] at hu2'
          cases hu2'
          exact this
         ·rw [List.getElem?_append_right (by omega),hlen1] at hs2
          have hj2 : j - len * E.reg.sz V < ys.length * E.reg.sz V:=by have:=(List.getElem?_eq_some_iff.1 hs2).1; rwa [flat_len (E.reg.len V)] at this
          rw [if_pos (by omega),Array.getElem?_toList] at hu2'
          exact h2.2 _ s u hs2 (by rw [← hu2']; congr 1; omega)
        ·refine .sl nm (E.reg.sz V) 0 (len + ys.length) cap b (bb + off * E.reg.sz V) _ _ F fz setR_eq (setRow_heap w b _ _ _ _ hb') hroom (.inr (by omega)) ?_
         rw [over_size hover,Nat.zero_add]; rw [Nat.add_mul] at hs'; omega
     ·
      obtain ⟨newCap,q,rest,g1,g2,g3⟩:=run_append_grow hE (ty:=ty) ha0 ha1 hu hu2 hte hby (hsz ▸ h1) (hsz ▸ h3) (by omega) hb
      have:=grow_inv hI hd (q:=q) hf hl3 hall g1 (by rw [g2,hzs,hsz])
      exact ⟨_,_,_,_,setR ρ nm (some (w.heap.size,0)),g3,hK,this.drop⟩
    ·exact .no
 ·exact .no
theorem withBytes_eq {β : Type 1} (te : TI) (k : Nat → β) : withBytes te k = k te.bytes:=by cases te; rfl
theorem snd_append (hE : E.Ok P) (hI : SInv E.reg n X E0 ρ0 w0 st ρ a w) (hd : okDst n d = true) {T T2 nm : Nat} {ats : Array TypeId} {ty : TypeId} (ha0 : ats[0]? = some T) (ha1 : ats[1]? = some T2) {s x : SV A} {vs vx : Value}
  (hs : Den E.reg ρ (fun b=>X b ∨ OwnB st.h ρ b) w s vs) (hx : Den E.reg ρ (fun b=>X b ∨ OwnB st.h ρ b) w x vx) : Snd P E.reg n X E0 ρ0 w0 st a w d (xappend E nm T T2 s x) (Builtin.append_ ats ty #[vs,vx]):=by
 unfold xappend
 split
 ·rename_i ti t2 hti ht2
  obtain ⟨d1,i1,hd1,_,hk1,_⟩:=tiOf_inv (hE.tt T ti hti)
  obtain ⟨d2,i2,hd2,_,hk2,_⟩:=tiOf_inv (hE.tt T2 t2 ht2)
  split
  ·rename_i U el2 hf1 hf2
   rw [hf1] at hk1
   rw [hf2] at hk2
   obtain rfl:=kind_slice hk1
   obtain rfl:=kind_slice hk2
   split
   ·rename_i te hte
    rw [withBytes_eq]
    split
    ·rename_i e1 e2 e3 e4
     have e2:=beq_true e2
     have e3:=ble_true e3
     have e4:=beq_true e4
     have key : ∀ {p : Prop} {nn : Nat} {ss : SV A} {ys : List (A U)},(p → nn = ys.length) → Den E.reg ρ (fun b=>X b ∨ OwnB st.h ρ b) w ss vs → (p → ∃ new,Src P (E.reg.sz U) ys.length vx w new ∧ DenA E.reg ρ (fun b=>X b ∨ OwnB st.h ρ b) w (ys.flatMap (E.reg.enc U)) new) →
       Snd P E.reg n X E0 ρ0 w0 st a w d (appTo E nm U te.bytes p nn ss ys) (Builtin.append_ ats ty #[vs,vx]):=fun hnn hss hsrc=>snd_appTo hE hI hd ha0 ha1 hd1 (.inl hd2) hte e2 e3 e4 hnn hss hsrc
     split
     ·rename_i h sz off len
      split
      ·rename_i hsz
       have hsz:=beq_true hsz
       refine .ask ?_
       cases hh : st.h h with
       | none=>exact .no
       | some ct=>
        cases ct with
        | cells cs=>exact .no
        | map _ _ _=>exact .no
        | obj _ _=>exact .no
        | row _ _=>exact .no
        | arr V xs=>
         dsimp only
         split
         ·rename_i e _
          subst e
          have hsrc : off + len ≤ xs.length → ∃ new,Src P (E.reg.sz V) ((xs.drop off).take len).length vx w new ∧ DenA E.reg ρ (fun b=>X b ∨ OwnB st.h ρ b) w (((xs.drop off).take len).flatMap (E.reg.enc V)) new:=fun hle=>by
           have hl : ((xs.drop off).take len).length = len:=by simp; omega
           rw [hl]
           rw [hsz,e2] at hx
           exact src_sl hI hh hle hx
          split
          ·split
           ·exact .no
           ·exact key (fun hle=>by simp; omega) hs hsrc
          ·exact key (fun hle=>by simp; omega) hs hsrc
         ·exact .no
      ·exact .no
     ·rename_i V xs
      split
      ·rename_i e _
       subst e
       exact key (fun _=>rfl) hs fun _=>src_lst hx
      ·exact .no
     ·obtain rfl:=val_inv hx
      exact key (fun _=>rfl) hs fun _=>⟨#[],src_nil _,rfl,fun j s u hs=>by simp at hs⟩
     ·exact .no
    ·exact .no
   ·exact .no
  ·rename_i U hf1 hf2
   rw [hf1] at hk1
   rw [hf2] at hk2
   obtain rfl:=kind_slice hk1
   obtain rfl:=kind_str hk2
   split
   ·rename_i te hte
    rw [withBytes_eq]
    split
    ·rename_i f e1 e2 e3 e4 e5
     have e2:=beq_true e2
     have e3:=ble_true e3
     have e4:=beq_true e4
     obtain ⟨h1,hf⟩:=E.reg.byteOk U f e5
     split
     ·rename_i s0
      obtain rfl:=val_inv hx
      refine snd_appTo (p:=True) hE hI hd ha0 ha1 hd1 (el2:=0) (.inr hd2) hte e2 e3 e4 (fun _=>by simp) hs fun _=>?_
      refine ⟨s0.data.map fun b=>.int .u8 b.toNat,?_,?_⟩
      ·rw [h1]; simpa using src_str s0
      ·rw [show (s0.data.toList.map f).flatMap (E.reg.enc U) = byteCells s0 from ?_]
       ·exact den_bytes s0
       ·unfold byteCells
        rw [List.flatMap_map]
        simp only [hf]
        exact List.map_eq_flatMap.symm
     ·exact .no
    ·exact .no
   ·exact .no
  ·exact .no
 ·exact .no
theorem replicate_rows {R : Reg A} {T : Nat} (z : A T) : ∀ k,(List.replicate k z).flatMap (R.enc T) = rowsS k (R.enc T z)
 | 0=>rfl
 | k + 1=>by rw [List.replicate_succ,List.flatMap_cons,replicate_rows z k]; rfl
theorem snd_makeSlice (hE : E.Ok P) (hI : SInv E.reg n X E0 ρ0 w0 st ρ a w) (hd : okDst n d = true) {T : TypeId} {nm : Nat} {x y : SV A} {u v : Value}
  (hx : Den E.reg ρ (fun b=>X b ∨ OwnB st.h ρ b) w x u) (hy : Den E.reg ρ (fun b=>X b ∨ OwnB st.h ρ b) w y v) : Snd P E.reg n X E0 ρ0 w0 st a w d (xmakeSlice E nm T x y) (Instr.makeSlice T u v):=by
 unfold xmakeSlice
 split
 ·rename_i ti l c hti
  obtain rfl:=int_inv hx
  obtain rfl:=int_inv hy
  obtain ⟨dd,ii,hu,hi,hk,hs,hb,hz,_⟩:=tiOf_inv (hE.tt T ti hti)
  split
  ·rename_i elem hfs
   rw [hfs] at hk
   obtain rfl:=kind_slice hk
   split
   ·rename_i te hte
    obtain ⟨_,ie,_,hie,_,hse,hbe,hze,_⟩:=tiOf_inv (hE.tt elem te hte)
    rw [withBytes_eq]
    split
    ·rename_i z c1 c2 c3 c4
     have e1:=E.reg.ok elem _ z c2
     have c3:=beq_true c3
     rintro R0 K hfr ⟨⟨rfl,h0,hbt,h63⟩,hK⟩
     have hrun:=run_make (P:=P) w T elem ie te.zero hu hie hze .i64 .i64 l l h0 (Int.le_refl _) (by rw [hbe]; exact hbt) h63
     rw [hse] at hrun
     have hzl : (zeroCellsS (A:=A) te.zero).length = te.size:=by simp [zeroCellsS,c3]
     have hfl : (Ct.arr (A:=A) elem (List.replicate l.toNat z)).flat E.reg = rowsS l.toNat (zeroCellsS te.zero):=by
      show (List.replicate l.toNat z).flatMap (E.reg.enc elem) = _
      rw [replicate_rows,e1]
     refine ⟨_,_,_,_,_,hrun,hK,hI.alloc hd hfr rfl trivial (by rw [hfl,rowsS_len,hzl]; simp [madeCells]) (fun j s u hs hu=>?_) rfl (fun O'=>
      .sl nm te.size 0 l.toNat l.toNat w.heap.size 0 0 _ elem (0,0) setR_eq heap_alloc_new (Nat.le_refl _) (.inr (by simp)) (by simp [madeCells])) (beq_self nm)⟩
     rw [hfl] at hs
     have hj : j < l.toNat * te.size:=by rw [← hzl,← rowsS_len]; exact (List.getElem?_eq_some_iff.1 hs).1
     have h3:=rowsS_get _ j s hs
     have h4:=(denA_zero (R:=E.reg) (ρ:=ρ) (O:=fun b=>X b ∨ OwnB st.h ρ b) (w:=w) te.zero)
     rw [hzl,← c3] at h3
     have hlt : j % te.zero.cells.size < te.zero.cells.size:=by
      have:=(List.getElem?_eq_some_iff.1 h3).1
      rwa [hzl,← c3] at this
     refine h4.2 _ s u h3 ?_
     simp [madeCells,hj] at hu
     rw [← hu,Array.getElem?_eq_getElem hlt,getElem!_pos te.zero.cells _ hlt]
    ·exact .no
   ·exact .no
  ·exact .no
 ·exact .no
end
end Go.Sx
namespace Go.Sx
open Go
variable {A : Nat → Type}
section
variable {R : Reg A}
theorem valsOf_some : ∀ {cs : List (SV A)} {vs : List Value},valsOf cs = some vs → cs = vs.map .val
 | [],vs,h=>by simp [valsOf] at h; subst h; rfl
 | c :: cs,vs,h=>by
  cases c <;> simp only [valsOf] at h
  case val v=>
   split at h
   ·rename_i us hus
    cases h
    rw [valsOf_some hus]; rfl
   ·cases h
  all_goals cases h
theorem keyVal_inj {K : Nat} {x y : A K} {u : Value} (hx : keyVal R K x = some u) (hy : keyVal R K y = some u) : x = y:=by
 unfold keyVal at hx hy
 have hl : (R.enc K x).length = (R.enc K y).length:=by rw [R.len,R.len]
 cases ex : valsOf (R.enc K x) with
 | none=>rw [ex] at hx; cases hx
 | some vs=>
  cases ey : valsOf (R.enc K y) with
  | none=>rw [ey] at hy; cases hy
  | some us=>
   have e1:=valsOf_some ex
   have e2:=valsOf_some ey
   rw [e1,e2] at hl
   simp only [List.length_map] at hl
   rw [ex] at hx
   rw [ey] at hy
   refine R.inj K x y ?_
   rw [e1,e2]
   congr 1
   match vs,us,hl with
   | [],[],_=>rfl
   | [v],[w],_=>simp at hx hy; rw [hx,hy]
   | v :: v' :: vs,w :: w' :: us,_=>
    simp at hx hy
    rw [← hx] at hy
    injection hy with hy
    have:=congrArg Array.toList hy
    simpa using this.symm
theorem look_none {K V : Nat} {es : List (A K × A V)} {k : A K} (h : ∀ p ∈ es,p.1 ≠ k) : look R K V es k = none ∧ es.any (fun p=>R.beq K p.1 k) = false:=by
 have h2 : ∀ p ∈ es,R.beq K p.1 k = false:=fun p hp=>by
  cases e : R.beq K p.1 k with
  | false=>rfl
  | true=>exact absurd ((R.same K _ _).1 e) (h p hp)
 have h3 : es.find? (fun p=>R.beq K p.1 k) = none:=List.find?_eq_none.2 fun p hp=>by rw [h2 p hp]; simp
 exact ⟨by simp [look,h3],List.any_eq_false.2 fun p hp=>by rw [h2 p hp]; simp⟩
theorem look_some {K V : Nat} {es : List (A K × A V)} {k : A K} {v : A V} (hn : (es.map (·.1)).Nodup) (h : (k,v) ∈ es) : look R K V es k = some v ∧ es.any (fun p=>R.beq K p.1 k) = true:=by
 have hb : R.beq K k k = true:=(R.same K k k).2 rfl
 refine ⟨?_,List.any_eq_true.2 ⟨_,h,hb⟩⟩
 induction es with
 | nil=>cases h
 | cons p es ih=>
  rw [List.map_cons,List.nodup_cons] at hn
  unfold look
  rw [List.find?_cons]
  rcases List.mem_cons.1 h with rfl | h'
  ·simp [hb]
  ·have : R.beq K p.1 k = false:=by
    cases e : R.beq K p.1 k with
    | false=>rfl
    | true=>
     have e:=(R.same K _ _).1 e
     exact absurd (List.mem_map.2 ⟨_,h',e.symm⟩) hn.1
   rw [this]
   exact ih hn.2 h'
end
section
variable {P : Program} {E : Env A} {n : Nat} {X E0 : Nat → Prop} {ρ0 : Rho} {w0 : World} {st : St A} {ρ : Rho} {a : Act} {w : World} {d : Option Tmp}
theorem MapRep.get {R : Reg A} {K V : Nat} {es : List (A K × A V)} {mes : Array MapEntry} {cl : Nat} (h : MapRep R K V es mes cl) {j : Nat} {e : MapEntry} (he : mes.toList[j]? = some e) : ∃ p,es[j]? = some p ∧ keyVal R K p.1 = some e.key ∧ keyVal R V p.2 = some e.val:=by
 have h1:=congrArg (fun l=>l[j]?) h.ents
 simp only [List.getElem?_map,he,Option.map_some] at h1
 cases hp : es[j]? with
 | none=>rw [hp] at h1; cases h1
 | some p=>
  rw [hp] at h1
  simp only [Option.map_some,Option.some.injEq,Prod.mk.injEq] at h1
  exact ⟨p,rfl,h1.1.symm,h1.2.symm⟩
theorem MapRep.all {R : Reg A} {K V : Nat} {es : List (A K × A V)} {mes : Array MapEntry} {cl : Nat} (h : MapRep R K V es mes cl) {p : A K × A V} (hp : p ∈ es) : ∃ e ∈ mes.toList,keyVal R K p.1 = some e.key:=by
 obtain ⟨j,hj⟩:=List.getElem?_of_mem hp
 have h1:=congrArg (fun l=>l[j]?) h.ents
 simp only [List.getElem?_map,hj,Option.map_some] at h1
 cases he : mes.toList[j]? with
 | none=>rw [he] at h1; cases h1
 | some e=>
  rw [he] at h1
  simp only [Option.map_some,Option.some.injEq,Prod.mk.injEq] at h1
  exact ⟨e,List.mem_of_getElem? he,h1.1.symm⟩
theorem find_run (hE : E.Ok P) {K V : Nat} (hK : E.key K = true) {es : List (A K × A V)} {mes : Array MapEntry} {cl : Nat} (h : MapRep E.reg K V es mes cl) {k : A K} {u : Value} (hu : keyVal E.reg K k = some u) (hg : E.reg.kg K k) (w : World) :
  (Instr.checkKey mes.isEmpty 10000 K u).run P w = .ok () w ∧ (Instr.checkKey false 10000 K u).run P w = .ok () w ∧ (Instr.keyThatStays u u).run P w = .ok u w ∧
  (((Instr.findKey K u mes.toList).run P w = .ok none w ∧ (∀ p ∈ es,p.1 ≠ k) ∧ ∀ e ∈ mes.toList,e.key ≠ u) ∨
   ∃ j e p,(Instr.findKey K u mes.toList).run P w = .ok (some (j,e.val)) w ∧ mes.toList[j]? = some e ∧ e.key = u ∧ es[j]? = some p ∧ p.1 = k ∧ keyVal E.reg V p.2 = some e.val):=by
 have hk:=hE.keyed K hK
 obtain ⟨u',l,h1,h2⟩:=hE.keys K hK k hg
 rw [hu] at h1; cases h1
 refine ⟨hk.check w _ h2,hk.check w _ h2,hk.stays w h2,?_⟩
 have hall : ∀ e ∈ mes.toList,∃ l,keyOf P K e.key = some l:=fun e he=>by
  obtain ⟨j,hj⟩:=List.getElem?_of_mem he
  obtain ⟨p,p1,p2,_⟩:=h.get hj
  obtain ⟨v,l,e1,e2⟩:=hE.keys K hK p.1 (h.good p (List.mem_of_getElem? p1))
  rw [p2] at e1; cases e1
  exact ⟨l,e2⟩
 rcases hk.find w h2 mes.toList hall with ⟨h3,h4⟩ | ⟨j,e,h3,h4,h5⟩
 ·refine .inl ⟨h3,fun p hp e=>?_,h4⟩
  obtain ⟨x,hx,hx2⟩:=h.all hp
  rw [e,hu] at hx2; cases hx2
  exact h4 x hx rfl
 ·obtain ⟨p,p1,p2,p3⟩:=h.get h4
  exact .inr ⟨j,e,p,h3,h4,h5,p1,keyVal_inj p2 (by rw [h5]; exact hu),p3⟩
theorem keyOfS_run (hE : E.Ok P) {O : Nat → Prop} {K : Nat} {i : SV A} {k : A K} (h : keyOfS E K i = some k) {vi : Value} (hv : Den E.reg ρ O w i vi) : E.key K = true ∧ keyVal E.reg K k = some vi := by
  unfold keyOfS at h
  split at h
  · rename_i tk htk hkey
    split at h
    · rename_i vs e1 e2 hvs
      refine ⟨hkey, ?_⟩
      have hok := E.reg.ok K _ k h
      have hlen : (cellsOf E.reg i).length = E.reg.sz K := by rw [← hok]; exact E.reg.len K k
      have hvm := valsOf_some hvs
      unfold keyVal
      rw [hok, hvs]
      obtain ⟨h1, h2⟩ := hv.cells
      have hcells : vi.cells.toList = vs := by
        apply List.ext_getElem?
        intro j
        have hl : vs.length = vi.cells.toList.length := by rw [hvm] at h1; simpa using h1
        by_cases hj : j < vs.length
        · have hc : (cellsOf E.reg i)[j]? = some (.val vs[j]) := by rw [hvm, List.getElem?_map, List.getElem?_eq_getElem hj]; rfl
          have hu : vi.cells[j]? = some vi.cells[j] := Array.getElem?_eq_getElem (by simpa using (by omega : j < vi.cells.toList.length))
          have := h2 j _ _ hc hu
          have := val_inv this
          rw [List.getElem?_eq_getElem hj, Array.getElem?_toList, hu, this]
        · rw [List.getElem?_eq_none (by omega), List.getElem?_eq_none (by omega)]
      cases hag : aggS i with
      | true =>
        rw [hag] at e1
        have e3 : tk.k.isAgg = true := by cases h : tk.k.isAgg <;> rw [h] at e1 <;> first | rfl | cases e1
        rw [e3] at e2
        have e2 := ble_true e2
        obtain ⟨c, rfl⟩ := agg_inv hv hag
        have hcv : c.toList = vs := hcells
        have hvl : 2 ≤ vs.length := by rw [hvm] at hlen; simp at hlen; omega
        match vs, hvl with
        | v :: v' :: vs, _ => simp only []; rw [← hcv]
      | false =>
        have hci : cellsOf E.reg i = [i] := by cases i <;> first | rfl | cases hag | skip
                                               all_goals (rename_i v; cases v <;> first | rfl | cases hag)
        rw [hci] at hvm
        match vs, hvm with
        | [v], hvm =>
          simp at hvm
          subst hvm
          have := val_inv hv
          subst this
          rfl
    · cases h
  · cases h
theorem mp_inv {R : Reg A} {O : Nat → Prop} {h : Nat} {v : Value} (hd : Den R ρ O w (.mp h) v) : ∃ b base,v = .map (some b) ∧ ρ h = some (b,base):=by
 cases hd with
 | mp _ b base hr=>exact ⟨b,base,rfl,hr⟩
theorem SInv.mapBlock (hI : SInv E.reg n X E0 ρ0 w0 st ρ a w) {h K V : Nat} {es : List (A K × A V)} (hh : st.h h = some (.map K V es)) {b base : Nat} (hr : ρ h = some (b,base)) : ∃ mes cl,w.heap[b]? = some (.map mes cl) ∧ MapRep E.reg K V es mes cl:=by
 have h0:=hI.hs h _ hh
 rw [hr] at h0
 rcases h0 with (⟨K',V',es',e,mes,cl,h1,h2⟩ | ⟨_,_,e,_⟩) | ⟨hn,_⟩
 ·cases e; exact ⟨mes,cl,h1,h2⟩
 ·cases e
 ·cases hn
theorem one_val {R : Reg A} {V : Nat} {y : A V} {u : Value} (hu : keyVal R V y = some u) {s : SV A} (hs : nth (R.enc V y) 0 = some s) (hsz : R.sz V = 1) : s = .val u:=by
 unfold keyVal at hu
 cases ev : valsOf (R.enc V y) with
 | none=>rw [ev] at hu; cases hu
 | some vs=>
  have e:=valsOf_some ev
  have hl : vs.length = 1:=by have:=R.len V y; rw [e,hsz] at this; simpa using this
  match vs,hl with
  | [v],_=>
   rw [ev] at hu
   simp at hu
   subst hu
   rw [e] at hs
   simp [nth] at hs
   exact hs.symm
theorem dec_one {R : Reg A} {V : Nat} {z : A V} {u : Value} (h : R.dec V [.val u] = some z) : R.sz V = 1 ∧ keyVal R V z = some u ∧ nth (R.enc V z) 0 = some (.val u):=by
 have e:=R.ok V _ z h
 refine ⟨by rw [← R.len V z,e]; rfl,by simp [keyVal,e,valsOf],by rw [e]; rfl⟩
theorem wf_of {x : Int} (h : -9223372036854775808 ≤ x ∧ x ≤ 9223372036854775807) : (Lit.int .i64 x).wf = true:=by
 simp [Lit.wf,IntKind.min,IntKind.max,IntKind.bits,IntKind.signed]; omega
theorem key_of_int {k : TypeId} (hk : P.underlying k = some (.int .i64)) {x : Int} (h : -9223372036854775808 ≤ x ∧ x ≤ 9223372036854775807) : ∃ l,keyOf P k (.int .i64 x) = some l:=
 ⟨.int .i64 x,by simp [keyOf,hk,mapKey,wf_of h]⟩
theorem key_of_pair {k e : TypeId} (hk : P.underlying k = some (.array 2 e)) (he : P.underlying e = some (.int .i64)) (hc : P.cellsOf k = 2) (hce : P.cellsOf e = 1) (hkt : P.keyType k = true) (hs : 0 < P.types.size) {a b : Int}
  (ha : -9223372036854775808 ≤ a ∧ a ≤ 9223372036854775807) (hb : -9223372036854775808 ≤ b ∧ b ≤ 9223372036854775807) : ∃ l,keyOf P k (.agg #[.int .i64 a,.int .i64 b]) = some l:=by
 obtain ⟨m,hm⟩ : ∃ m,P.types.size = m + 1:=⟨P.types.size - 1,by omega⟩
 have h : (keyOf P k (.agg #[.int .i64 a,.int .i64 b])).isSome = true:=by
  simp [keyOf,hk,hkt,Value.formed,hc,hm,Program.keyLits,Value.cells,he,hce,wf_of ha,wf_of hb,List.range_succ]
 exact Option.isSome_iff_exists.1 h
theorem tupRet_den {R : Reg A} {O : Nat → Prop} (u : Value) (b : Bool) : Den R ρ O w (.tup [.val u,.val (.bool b)]) (.tuple #[u,.bool b]):=
 .tup _ _ rfl fun j s v hs hv=>by
  match j with
  | 0=>simp at hs hv; subst hs; subst hv; exact .val _
  | 1=>simp at hs hv; subst hs; subst hv; exact .val _
  | j + 2=>simp at hs
theorem kind_map {d : TypeDesc} {k v : TypeId} (h : kindOf d = .map k v) : d = .map k v:=by
 cases d <;> simp [kindOf] at h; obtain ⟨rfl,rfl⟩:=h; rfl
theorem snd_lookup (hE : E.Ok P) (hI : SInv E.reg n X E0 ρ0 w0 st ρ a w) (hd : okDst n d = true) {T : TypeId} {x i : SV A} {v vi : Value} {ok : Bool} (hv : Den E.reg ρ (fun b=>X b ∨ OwnB st.h ρ b) w x v)
  (hvi : Den E.reg ρ (fun b=>X b ∨ OwnB st.h ρ b) w i vi) : Snd P E.reg n X E0 ρ0 w0 st a w d (xlookup E T x i ok) (Instr.lookup T v vi ok):=by
 unfold xlookup
 split
 ·rename_i ti h hti
  obtain ⟨b,base,rfl,hr⟩:=mp_inv hv
  obtain ⟨dd,ii,hu,hi,hk,_⟩:=tiOf_inv (hE.tt T ti hti)
  split
  ·rename_i K0 V0 hfs
   rw [hfs] at hk
   obtain rfl:=kind_map hk
   refine .ask ?_
   cases hh : st.h h with
   | none=>exact .no
   | some ct=>
    cases ct with
    | cells _=>exact .no
    | arr _ _=>exact .no
    | obj _ _=>exact .no
    | row _ _=>exact .no
    | map K V es=>
     dsimp only
     split
     ·rename_i tv k e1 e2 htv hkk
      obtain rfl:=beq_true e1
      obtain rfl:=beq_true e2
      split
      ·rename_i z hag hz
       obtain ⟨hkey,hkv⟩:=keyOfS_run hE hkk hvi
       obtain ⟨mes,cl,hb,hm⟩:=hI.mapBlock hh hr
       obtain ⟨hsz,_,hz1⟩:=dec_one hz
       have hzr:=run_zero_sx (hE.tt V tv htv) w
       split
       all_goals
        refine .vc fun hg=>?_
        obtain ⟨hc,_,_,hf⟩:=find_run hE hkey hm hkv hg w
       ·refine .all fun y hy=>.opt hI hd fun s hs=>?_
        rcases hf with ⟨h1,h2,_⟩ | ⟨j,e,p,h1,_,_,h2,h3,h4⟩
        ·rw [(look_none h2).1] at hy
         simp at hy
         subst hy
         rw [hz1] at hs; cases hs
         exact ⟨tv.zero,by simp [Instr.lookup,run_underlying hu,MapKept.run_getObj_map hb,hc,h1,hzr],.val _,rfl⟩
        ·obtain ⟨k',y'⟩:=p
         dsimp only at h3 h4
         subst h3
         rw [(look_some hm.nodup (List.mem_of_getElem? h2)).1] at hy
         simp at hy
         subst hy
         have:=one_val h4 hs hsz
         subst this
         exact ⟨e.val,by simp [Instr.lookup,run_underlying hu,MapKept.run_getObj_map hb,hc,h1],.val _,rfl⟩
       ·refine .all fun o ho=>?_
        rcases hf with ⟨h1,h2,_⟩ | ⟨j,e,p,h1,_,_,h2,h3,h4⟩
        ·rw [(look_none h2).1] at ho
         subst ho
         exact .ret hI hd (v:=.tuple #[tv.zero,.bool false]) (by simp [Instr.lookup,run_underlying hu,MapKept.run_getObj_map hb,hc,h1,hzr]) (tupRet_den _ _) rfl
        ·obtain ⟨k',y'⟩:=p
         dsimp only at h3 h4
         subst h3
         rw [(look_some hm.nodup (List.mem_of_getElem? h2)).1] at ho
         subst ho
         dsimp only
         split
         ·rename_i s hs
          have:=one_val h4 hs hsz
          subst this
          exact .ret hI hd (v:=.tuple #[e.val,.bool true]) (by simp [Instr.lookup,run_underlying hu,MapKept.run_getObj_map hb,hc,h1]) (tupRet_den _ _) rfl
         ·exact .fail
      ·exact .no
     ·exact .no
  ·exact .no
 ·exact .no
def setB (w : World) (b : Nat) (o : Obj) : World:={ w with heap:=w.heap.setIfInBounds b o }
theorem setB_other {w : World} {b k : Nat} {o : Obj} (h : k ≠ b) : (setB w b o).heap[k]? = w.heap[k]?:=by
 simp only [setB]
 rw [Array.getElem?_setIfInBounds_ne (by omega)]
theorem setB_self {w : World} {b : Nat} {o o' : Obj} (h : w.heap[b]? = some o) : (setB w b o').heap[b]? = some o':=by
 simp only [setB]
 rw [Array.getElem?_setIfInBounds_self]
 rw [if_pos (lt_of_heap h)]
theorem WRel.setMap (h : WRel E0 w0 w) {b : Nat} {mes : Array MapEntry} {cl : Nat} (hb : w.heap[b]? = some (.map mes cl)) (o : Obj) (hbo : E0 b ∨ w0.heap.size ≤ b) : WRel E0 w0 (setB w b o):=
 ⟨h.os,h.tape,h.output,by simpa [setB] using h.size,fun k hk hn=>by
  rw [← h.block k hk hn]
  exact setB_other (by rintro rfl; rcases hbo with hbo | hbo; exact hn hbo; omega),fun k c1 F1 f1 hk=>by
  obtain ⟨c',fz',h1,h2⟩:=h.shape k c1 F1 f1 hk
  refine ⟨c',fz',?_,h2⟩
  rw [setB_other]; exact h1
  rintro rfl; rw [hb] at h1; cases h1⟩
theorem SInv.setMap (hI : SInv E.reg n X E0 ρ0 w0 st ρ a w) (hd : okDst n d = true) {h0 b base K V : Nat} {es es' : List (A K × A V)} {mes mes' : Array MapEntry} {cl cl' : Nat} (hh0 : st.h h0 = some (.map K V es)) (hr0 : ρ h0 = some (b,base))
  (hb : w.heap[b]? = some (.map mes cl)) (hm : MapRep E.reg K V es' mes' cl') {sv : SV A} {v : Value} (hden : ∀ O w,Den E.reg ρ O w sv v) (hmen : Sx.men st.u sv = true) :
  SInv E.reg n X E0 ρ0 w0 (st.upd d sv [(h0,some (.map K V es'))] []) ρ (a.put d v) (setB w b (.map mes' cl')):=by
 have hown:=hI.own h0 _ b base hh0 hr0
 have hO : ∀ k,OwnB (updH st.h [(h0,some (.map K V es'))]) ρ k ↔ OwnB st.h ρ k:=fun k=>by
  constructor
  ·rintro ⟨h,ct1,base1,hh,hr⟩
   rw [updH_one] at hh
   split at hh
   ·rename_i e; subst e; exact ⟨h,_,base1,hh0,hr⟩
   ·exact ⟨h,ct1,base1,hh,hr⟩
  ·rintro ⟨h,ct1,base1,hh,hr⟩
   by_cases e : h = h0
   ·subst e; exact ⟨h,_,base1,by rw [updH_one,if_pos rfl],hr⟩
   ·exact ⟨h,ct1,base1,by rw [updH_one,if_neg e]; exact hh,hr⟩
 have hne : ∀ {k : Nat} {c1 : Array Value} {F : TypeId} {f : Nat × Nat},w.heap[k]? = some (Obj.cells c1 F f) → k ≠ b:=fun hk e=>by
  subst e; rw [hb] at hk; cases hk
 have hgo : Goes (fun b=>X b ∨ OwnB st.h ρ b) (fun b=>X b ∨ OwnB (updH st.h [(h0,some (.map K V es'))]) ρ b) w (setB w b (.map mes' cl')):=
  ⟨fun k c1 F f hn hk=>⟨fun hx=>hn (hx.imp id (hO k).1),by rw [setB_other (hne hk)]; exact hk⟩,fun k c1 F f hk=>⟨c1,f,by rw [setB_other (hne hk)]; exact hk,rfl⟩,fun k ds hk=>by rw [setB_other (by rintro rfl; rw [hb] at hk; cases hk)]; exact hk⟩
 refine hI.step hd (fun _ _=>rfl) (hI.rel.setMap hb _ hown.1) hgo (fun h ct1 hh=>?_) (fun h h' ct1 ct2 k b1 b2 hh hh' hr hr'=>?_) (hden _ _) hmen
 ·rw [updH_one] at hh
  split at hh
  ·rename_i e; subst e; cases hh
   refine .inr ⟨?_,fun k base1 hr=>hI.own _ _ k base1 hh0 hr,(hI.used _ _ hh0).1,rfl⟩
   rw [hr0]
   exact .inl (.inl ⟨K,V,es',rfl,mes',cl',setB_self hb,hm⟩)
  ·rename_i e
   refine .inl ⟨hh,fun k base1 hr=>setB_other ?_⟩
   rintro rfl; exact e (hI.inj h h0 ct1 _ k base1 base hh hh0 hr hr0)
 ·have get : ∀ h ct1,updH st.h [(h0,some (.map K V es'))] h = some ct1 → ∃ ct2,st.h h = some ct2:=fun h ct1 hh=>by
   rw [updH_one] at hh
   split at hh
   ·rename_i e; subst e; exact ⟨_,hh0⟩
   ·exact ⟨_,hh⟩
  obtain ⟨c1,g1⟩:=get h ct1 hh
  obtain ⟨c2,g2⟩:=get h' ct2 hh'
  exact hI.inj h h' c1 c2 k b1 b2 g1 g2 hr hr'
theorem SInv.newMap (hI : SInv E.reg n X E0 ρ0 w0 st ρ a w) (hd : okDst n d = true) {nm K V : Nat} (hf : fresh st.u [nm] = true) :
  SInv E.reg n X E0 ρ0 w0 (st.upd d (.mp nm) [(nm,some (.map K V []))] [nm]) (setR ρ nm (some (w.heap.size,0))) (a.put d (.map (some w.heap.size))) (w.alloc (.map #[] 0)):=by
 have hnm : st.u nm = false:=fresh_spec hf nm (by simp)
 have hρ : ∀ h,st.u h = true → setR ρ nm (some (w.heap.size,0)) h = ρ h:=fun h hu=>setR_ne (by rintro rfl; rw [hnm] at hu; cases hu)
 have hlt : ∀ h ct' b base,st.h h = some ct' → ρ h = some (b,base) → b < w.heap.size:=fun h ct' b base hh hr=>by
  have:=hI.hs h ct' hh
  rw [hr] at this
  exact this.lt
 have hgo : Goes (fun b=>X b ∨ OwnB st.h ρ b) (fun b=>X b ∨ OwnB (updH st.h [(nm,some (.map K V []))]) (setR ρ nm (some (w.heap.size,0))) b) w (w.alloc (.map #[] 0)):=by
  refine ⟨fun b c' E fz hn hb=>⟨?_,by rw [heap_alloc_old (lt_of_heap hb)]; exact hb⟩,fun b c' E fz hb=>⟨c',fz,by rw [heap_alloc_old (lt_of_heap hb)]; exact hb,rfl⟩,fun b ds hb=>by rw [heap_alloc_old (lt_of_heap hb)]; exact hb⟩
  rintro (hx | ⟨h,ct',base,hh,hr⟩)
  ·exact hn (.inl hx)
  ·rw [updH_one] at hh
   split at hh
   ·rename_i e; subst e; rw [setR_eq] at hr; cases hr; exact absurd (lt_of_heap hb) (Nat.lt_irrefl _)
   ·rename_i e; rw [setR_ne e] at hr; exact hn (.inr ⟨h,ct',base,hh,hr⟩)
 refine hI.step hd hρ (hI.rel.alloc _) hgo (fun h ct' hh=>?_) (fun h h' ct1 ct2 b base base' hh hh' hr hr'=>?_) (.mp nm _ _ setR_eq) (updU_new (by simp))
 ·rw [updH_one] at hh
  split at hh
  ·rename_i e; subst e; cases hh
   refine .inr ⟨?_,?_,updU_new (by simp),rfl⟩
   ·rw [setR_eq]
    exact .inl (.inl ⟨K,V,[],rfl,#[],0,heap_alloc_new,⟨rfl,fun e h=>by simp at h,by simp,by simp,fun p h=>by simp at h⟩⟩)
   ·intro b base hr; rw [setR_eq] at hr; cases hr
    exact ⟨.inr hI.rel.size,fun hx=>absurd (Nat.lt_of_lt_of_le (hI.xlt _ hx).1 hI.rel.size) (Nat.lt_irrefl _)⟩
  ·exact .inl ⟨hh,fun b base hr=>heap_alloc_old (hlt h ct' b base hh hr)⟩
 ·rw [updH_one] at hh hh'
  split at hh <;> split at hh'
  ·rename_i e1 e2; rw [e1,e2]
  ·rename_i e1 e2; subst e1; rw [setR_eq] at hr; cases hr; rw [setR_ne e2] at hr'; exact absurd (hlt _ _ _ _ hh' hr') (Nat.lt_irrefl _)
  ·rename_i e1 e2; subst e2; rw [setR_eq] at hr'; cases hr'; rw [setR_ne e1] at hr; exact absurd (hlt _ _ _ _ hh hr) (Nat.lt_irrefl _)
  ·rename_i e1 e2; rw [setR_ne e1] at hr; rw [setR_ne e2] at hr'; exact hI.inj h h' ct1 ct2 b base base' hh hh' hr hr'
theorem snd_makeMap (hI : SInv E.reg n X E0 ρ0 w0 st ρ a w) (hd : okDst n d = true) {T : TypeId} {nm : Nat} : Snd P E.reg n X E0 ρ0 w0 st a w d (xmakeMap E nm T) (Instr.makeMap T none):=by
 unfold xmakeMap
 split
 ·split
  ·exact fun R0 K hfr hK=>⟨_,_,_,_,_,rfl,hK,hI.newMap hd hfr⟩
  ·exact .no
 ·exact .no
theorem keys_ne {K V : Nat} {es : List (A K × A V)} (hn : (es.map (·.1)).Nodup) {j m : Nat} {p q : A K × A V} (hp : es[j]? = some p) (hq : es[m]? = some q) (h : j ≠ m) : p.1 ≠ q.1:=fun e=>by
 have h1 : (es.map (·.1))[j]? = some p.1:=by rw [List.getElem?_map,hp]; rfl
 have h2 : (es.map (·.1))[m]? = some p.1:=by rw [List.getElem?_map,hq,e]; rfl
 obtain ⟨l1,g1⟩:=List.getElem?_eq_some_iff.1 h1
 obtain ⟨l2,g2⟩:=List.getElem?_eq_some_iff.1 h2
 exact h ((List.getElem_inj hn).1 (g1.trans g2.symm))
theorem MapRep.ins {R : Reg A} {K V : Nat} {es : List (A K × A V)} {mes : Array MapEntry} {cl : Nat} (h : MapRep R K V es mes cl) {k : A K} {y : A V} {u v : Value} (hu : keyVal R K k = some u) (hv : keyVal R V y = some v) (hg : R.kg K k)
  (hf : (∀ p ∈ es,p.1 ≠ k)) : MapRep R K V (Sx.ins R K V es k y) (mes.push ⟨u,v,cl⟩) (cl + 1):=by
 have e : Sx.ins R K V es k y = es ++ [(k,y)]:=by unfold Sx.ins; rw [(look_none hf).2]
 rw [e]
 refine ⟨by simp [h.ents,hu,hv],fun x hx=>?_,?_,?_,fun p hp=>?_⟩
 ·simp at hx
  rcases hx with hx | rfl
  ·have:=h.born x (by simpa using hx); omega
  ·show cl < cl + 1; omega
 ·simp only [Array.toList_push,List.pairwise_append]
  exact ⟨h.rise,by simp,fun x hx z hz=>by simp at hz; subst hz; exact h.born x hx⟩
 ·rw [List.map_append,List.nodup_append]
  exact ⟨h.nodup,by simp,fun x hx z hz=>by
   simp at hz; subst hz
   obtain ⟨p,hp,rfl⟩:=List.mem_map.1 hx
   exact hf p hp⟩
 ·rcases List.mem_append.1 hp with hp | hp
  ·exact h.good p hp
  ·simp at hp; subst hp; exact hg
theorem MapRep.mod {R : Reg A} {K V : Nat} {es : List (A K × A V)} {mes : Array MapEntry} {cl : Nat} (h : MapRep R K V es mes cl) {k : A K} {y : A V} {u v : Value} (hu : keyVal R K k = some u) (hv : keyVal R V y = some v)
  {j : Nat} {p : A K × A V} (hp : es[j]? = some p) (hpk : p.1 = k) : MapRep R K V (Sx.ins R K V es k y) (mes.modify j fun e=>{ e with key:=u,val:=v }) cl:=by
 have hb : R.beq K k k = true:=(R.same K k k).2 rfl
 have hany : es.any (fun p=>R.beq K p.1 k) = true:=List.any_eq_true.2 ⟨p,List.mem_of_getElem? hp,by rw [hpk]; exact hb⟩
 have e : Sx.ins R K V es k y = es.map fun p=>match R.beq K p.1 k with | true=>(k,y) | false=>p:=by unfold Sx.ins; rw [hany]; rfl
 have hkeys : (Sx.ins R K V es k y).map (·.1) = es.map (·.1):=by
  rw [e,List.map_map]
  refine List.map_congr_left fun q _=>?_
  show (match R.beq K q.1 k with | true=>(k,y) | false=>q).1 = q.1
  cases hq : R.beq K q.1 k with
  | true=>exact ((R.same K _ _).1 hq).symm
  | false=>rfl
 have hgetm : ∀ m,(mes.modify j fun e=>{ e with key:=u,val:=v })[m]? = (mes[m]?).map fun e=>if j = m then { e with key:=u,val:=v } else e:=fun m=>by
  rw [Array.getElem?_modify]
  by_cases hjm : j = m
  ·simp [hjm]
  ·simp [hjm]
 refine ⟨?_,?_,?_,by rw [hkeys]; exact h.nodup,fun q hq=>?_⟩
 ·apply List.ext_getElem?
  intro m
  have h1:=congrArg (fun l=>l[m]?) h.ents
  simp only [List.getElem?_map,Array.getElem?_toList] at h1
  rw [List.getElem?_map,List.getElem?_map,Array.getElem?_toList,hgetm,e,List.getElem?_map]
  cases hm : es[m]? with
  | none=>
   rw [hm] at h1
   cases hx : mes[m]? with
   | none=>rfl
   | some x=>rw [hx] at h1; cases h1
  | some q=>
   rw [hm] at h1
   cases hx : mes[m]? with
   | none=>rw [hx] at h1; cases h1
   | some x=>
    rw [hx] at h1
    simp only [Option.map_some,Option.some.injEq,Prod.mk.injEq] at h1 ⊢
    by_cases hjm : j = m
    ·subst hjm
     rw [hp] at hm; cases hm
     simp [hpk,hb,hu,hv]
    ·have hne:=keys_ne h.nodup hp hm hjm
     rw [hpk] at hne
     have hq : R.beq K q.1 k = false:=by
      cases hq : R.beq K q.1 k with
      | false=>rfl
      | true=>exact absurd ((R.same K _ _).1 hq).symm hne
     simp [hjm,hq,h1.1,h1.2]
 ·intro x hx
  obtain ⟨m,hm⟩:=List.getElem?_of_mem hx
  rw [Array.getElem?_toList,hgetm] at hm
  cases hz : mes[m]? with
  | none=>rw [hz] at hm; cases hm
  | some z=>
   rw [hz] at hm
   simp only [Option.map_some,Option.some.injEq] at hm
   have:=h.born z (List.mem_of_getElem? (by rw [Array.getElem?_toList]; exact hz))
   subst hm
   split <;> exact this
 ·have hb2 : (mes.modify j fun e=>{ e with key:=u,val:=v }).toList.map (·.born) = mes.toList.map (·.born):=by
   apply List.ext_getElem?
   intro m
   rw [List.getElem?_map,List.getElem?_map,Array.getElem?_toList,Array.getElem?_toList,hgetm]
   cases mes[m]? with
   | none=>rfl
   | some z=>simp only [Option.map_some]; split <;> rfl
  have hr:=h.rise
  rw [← List.pairwise_map (f:=fun e : MapEntry=>e.born) (R:=(· < ·))] at hr ⊢
  rw [hb2]; exact hr
 ·have : q.1 ∈ es.map (·.1):=by rw [← hkeys]; exact List.mem_map.2 ⟨q,hq,rfl⟩
  obtain ⟨p',hp',e'⟩:=List.mem_map.1 this
  rw [← e']; exact h.good p' hp'
theorem snd_mapUpdate (hE : E.Ok P) (hI : SInv E.reg n X E0 ρ0 w0 st ρ a w) (hd : okDst n d = true) {T : TypeId} {x i s : SV A} {v vi vs : Value} (hv : Den E.reg ρ (fun b=>X b ∨ OwnB st.h ρ b) w x v)
  (hvi : Den E.reg ρ (fun b=>X b ∨ OwnB st.h ρ b) w i vi) (hvs : Den E.reg ρ (fun b=>X b ∨ OwnB st.h ρ b) w s vs) : Snd P E.reg n X E0 ρ0 w0 st a w d (xmapUpdate E T x i s) (do Instr.mapUpdate T v vi vs; pure undef):=by
 unfold xmapUpdate
 split
 ·rename_i ti h hti
  obtain ⟨b,base,rfl,hr⟩:=mp_inv hv
  obtain ⟨dd,ii,hu,hi,hk,_⟩:=tiOf_inv (hE.tt T ti hti)
  split
  ·rename_i K0 V0 hfs
   rw [hfs] at hk
   obtain rfl:=kind_map hk
   refine .ask ?_
   cases hh : st.h h with
   | none=>exact .no
   | some ct=>
    cases ct with
    | cells _=>exact .no
    | arr _ _=>exact .no
    | obj _ _=>exact .no
    | row _ _=>exact .no
    | map K V es=>
     dsimp only
     split
     ·rename_i u k e1 e2 hkk
      obtain rfl:=beq_true e1
      obtain rfl:=beq_true e2
      obtain rfl:=val_inv hvs
      split
      ·rename_i y hag hy
       obtain ⟨hkey,hkv⟩:=keyOfS_run hE hkk hvi
       obtain ⟨mes,cl,hb,hm⟩:=hI.mapBlock hh hr
       obtain ⟨_,hyv,_⟩:=dec_one hy
       refine .vc fun hg=>?_
       obtain ⟨_,hc,hst,hf⟩:=find_run hE hkey hm hkv hg w
       intro R0 Kk hfr hK
       rcases hf with ⟨h1,h2,_⟩ | ⟨j,e,p,h1,h5,h6,h2,h3,h4⟩
       ·refine ⟨undef,setB w b (.map (mes.push ⟨vi,vs,cl⟩) (cl + 1)),undefS,_,ρ,?_,hK,hI.setMap hd hh hr hb (hm.ins hkv hyv hg h2) (fun _ _=>.val _) rfl⟩
        simp [Instr.mapUpdate,run_underlying hu,MapKept.run_getObj_map hb,hc,h1,MapKept.run_setObj_map _ hb,setB,Result.andThen]
       ·refine ⟨undef,setB w b (.map (mes.modify j fun e=>{ e with key:=vi,val:=vs }) cl),undefS,_,ρ,?_,hK,hI.setMap hd hh hr hb (hm.mod hkv hyv h2 h3) (fun _ _=>.val _) rfl⟩
        rw [Array.getElem?_toList] at h5
        simp [Instr.mapUpdate,run_underlying hu,MapKept.run_getObj_map hb,hc,h1,h5,h6,hst,MapKept.run_setObj_map _ hb,setB,Result.andThen]
      ·exact .no
     ·exact .no
  ·exact .no
 ·exact .no
theorem del_erase {R : Reg A} {K V : Nat} : ∀ {es : List (A K × A V)} {j : Nat} {p : A K × A V},(es.map (·.1)).Nodup → es[j]? = some p → Sx.del R K V es p.1 = es.eraseIdx j
 | [],_,_,_,h=>by simp at h
 | q :: es,0,p,hn,h=>by
  simp at h; subst h
  have hb : R.beq K q.1 q.1 = true:=(R.same K _ _).2 rfl
  rw [List.map_cons,List.nodup_cons] at hn
  unfold Sx.del
  rw [List.filter_cons,hb]
  simp only [Bool.not_true,Bool.false_eq_true,if_false,List.eraseIdx_zero,List.tail_cons]
  refine List.filter_eq_self.2 fun x hx=>?_
  cases e : R.beq K x.1 q.1 with
  | false=>rfl
  | true=>exact absurd (List.mem_map.2 ⟨x,hx,(R.same K _ _).1 e⟩) hn.1
 | q :: es,j + 1,p,hn,h=>by
  have h : es[j]? = some p:=by simpa using h
  rw [List.map_cons,List.nodup_cons] at hn
  have ih:=del_erase (R:=R) hn.2 h
  have hb : R.beq K q.1 p.1 = false:=by
   cases e : R.beq K q.1 p.1 with
   | false=>rfl
   | true=>exact absurd (List.mem_map.2 ⟨p,List.mem_of_getElem? h,((R.same K _ _).1 e).symm⟩) hn.1
  unfold Sx.del at ih ⊢
  rw [List.filter_cons,hb]
  simp only [Bool.not_false,if_true,List.eraseIdx_cons_succ,ih]
theorem del_no {R : Reg A} {K V : Nat} {es : List (A K × A V)} {k : A K} (h : ∀ p ∈ es,p.1 ≠ k) : Sx.del R K V es k = es:=by
 unfold Sx.del
 refine List.filter_eq_self.2 fun x hx=>?_
 cases e : R.beq K x.1 k with
 | false=>rfl
 | true=>exact absurd ((R.same K _ _).1 e) (h x hx)
theorem MapRep.del {R : Reg A} {K V : Nat} {es : List (A K × A V)} {mes : Array MapEntry} {cl : Nat} (h : MapRep R K V es mes cl) {j : Nat} {p : A K × A V} (hp : es[j]? = some p) :
  MapRep R K V (Sx.del R K V es p.1) (mes.eraseIdxIfInBounds j) cl:=by
 have ht : (mes.eraseIdxIfInBounds j).toList = mes.toList.eraseIdx j:=by
  unfold Array.eraseIdxIfInBounds
  split
  ·simp
  ·rename_i hj
   rw [List.eraseIdx_of_length_le (by simpa using hj)]
 rw [del_erase h.nodup hp]
 refine ⟨?_,fun e he=>?_,?_,?_,fun q hq=>h.good q (List.mem_of_mem_eraseIdx hq)⟩
 ·have h1:=congrArg (fun l=>l.eraseIdx j) h.ents
  rw [ht]
  simp only [List.eraseIdx_eq_take_drop_succ,List.map_append,List.map_take,List.map_drop] at h1 ⊢
  exact h1
 ·rw [ht] at he; exact h.born e (List.mem_of_mem_eraseIdx he)
 ·rw [ht]; exact h.rise.sublist (List.eraseIdx_sublist _ _)
 ·exact h.nodup.sublist ((List.eraseIdx_sublist _ _).map _)
theorem snd_delete (hE : E.Ok P) (hI : SInv E.reg n X E0 ρ0 w0 st ρ a w) (hd : okDst n d = true) {T : TypeId} {ats : Array TypeId} (ha : ats[0]? = some T) {ty : TypeId} {x i : SV A} {v vi : Value} (hv : Den E.reg ρ (fun b=>X b ∨ OwnB st.h ρ b) w x v)
  (hvi : Den E.reg ρ (fun b=>X b ∨ OwnB st.h ρ b) w i vi) : Snd P E.reg n X E0 ρ0 w0 st a w d (xdelete E T x i) (Builtin.delete_ ats ty #[v,vi]):=by
 unfold xdelete
 split
 ·rename_i ti h hti
  obtain ⟨b,base,rfl,hr⟩:=mp_inv hv
  obtain ⟨dd,ii,hu,hi,hk,_⟩:=tiOf_inv (hE.tt T ti hti)
  split
  ·rename_i K0 V0 hfs
   rw [hfs] at hk
   obtain rfl:=kind_map hk
   refine .ask ?_
   cases hh : st.h h with
   | none=>exact .no
   | some ct=>
    cases ct with
    | cells _=>exact .no
    | arr _ _=>exact .no
    | obj _ _=>exact .no
    | row _ _=>exact .no
    | map K V es=>
     dsimp only
     split
     ·rename_i k e1 hkk
      obtain rfl:=beq_true e1
      obtain ⟨hkey,hkv⟩:=keyOfS_run hE hkk hvi
      obtain ⟨mes,cl,hb,hm⟩:=hI.mapBlock hh hr
      refine .vc fun hg=>?_
      obtain ⟨hc0,hc,hst,hf⟩:=find_run hE hkey hm hkv hg w
      intro R0 Kk hfr hK
      rcases hf with ⟨h1,h2,_⟩ | ⟨j,e,p,h1,h5,h6,h2,h3,h4⟩
      ·refine ⟨.tuple #[],setB w b (.map mes cl),undefS,_,ρ,?_,hK,hI.setMap hd hh hr hb (by rw [del_no h2]; exact hm) (fun _ _=>.val _) rfl⟩
       simp [Builtin.delete_,ha,run_underlying hu,MapKept.run_getObj_map hb,hc0,h1,MapKept.run_setObj_map _ hb,setB,Result.andThen]
      ·refine ⟨.tuple #[],setB w b (.map (mes.eraseIdxIfInBounds j) cl),undefS,_,ρ,?_,hK,hI.setMap hd hh hr hb (by rw [← h3]; exact hm.del h2) (fun _ _=>.val _) rfl⟩
       simp [Builtin.delete_,ha,run_underlying hu,MapKept.run_getObj_map hb,hc0,h1,MapKept.run_setObj_map _ hb,setB,Result.andThen]
     ·exact .no
  ·exact .no
 ·exact .no
theorem snd_convert (hE : E.Ok P) (hI : SInv E.reg n X E0 ρ0 w0 st ρ a w) (hd : okDst n d = true) {S T : TypeId} {nm : Nat} {x : SV A} {v : Value} (hv : Den E.reg ρ (fun b=>X b ∨ OwnB st.h ρ b) w x v) : Snd P E.reg n X E0 ρ0 w0 st a w d (xconvert E nm S T x) (convert S T v):=by
 unfold xconvert
 split
 ·rename_i ts ti j m hts hti
  obtain rfl:=int_inv hv
  obtain ⟨_,_,hu1,_,_,_⟩:=tiOf_inv (hE.tt S ts hts)
  obtain ⟨_,_,hu2,_,hk,_⟩:=tiOf_inv (hE.tt T ti hti)
  split
  ·rename_i k hkk
   rw [hkk] at hk
   obtain rfl:=kind_int hk
   refine .pure hI hd (v:=.int k (k.wrap m)) ?_ (.val _) rfl
   simp [convert,Sem.run_bind,run_underlying hu1,run_underlying hu2,Conv.intToInt]
  ·exact .no
 ·rename_i ts ti s hts hti
  obtain rfl:=val_inv hv
  obtain ⟨_,_,hu1,_,hk1,_⟩:=tiOf_inv (hE.tt S ts hts)
  obtain ⟨_,_,hu2,_,hk2,_⟩:=tiOf_inv (hE.tt T ti hti)
  split
  ·rename_i U q1 q2
   rw [q1] at hk1
   rw [q2] at hk2
   obtain rfl:=kind_str hk1
   obtain rfl:=kind_slice hk2
   split
   ·rename_i te hte
    obtain ⟨_,_,hu3,_,hk3,_⟩:=tiOf_inv (hE.tt U te hte)
    split
    ·rename_i f q3 _ hby
     rw [q3] at hk3
     obtain rfl:=kind_int hk3
     obtain ⟨hs1,hf⟩:=E.reg.byteOk U f hby
     intro R0 K hfr hK
     have hrun:=run_bytes_of_string (P:=P) w S T U s hu1 hu2 hu3
     have hge:=grownCap_ge w s.size 0 U
     generalize grownCap w s.size 0 U = cap at hrun hge
     have hfl : Ct.flat E.reg (.arr U (s.data.toList.map f)) = byteCells s:=by
      show (s.data.toList.map f).flatMap (E.reg.enc U) = _
      unfold byteCells
      rw [List.flatMap_map]
      simp only [hf]
      exact List.map_eq_flatMap.symm
     have hd1:=den_bytes (R:=E.reg) (ρ:=ρ) (w:=w) (O:=fun b=>X b ∨ OwnB st.h ρ b) s
     have hsd : s.data.size = s.size:=rfl
     have hbs : (bytesRow s cap).size = cap:=by unfold bytesRow; simp; omega
     refine ⟨_,_,_,_,_,hrun,hK,(hI.drawn (w.drawn + 1)).allocF (.inr (Nat.le_refl _)) hd hfr rfl trivial ?_ (fun j sv u h1 h2=>?_) rfl (fun O'=>?_) (beq_self nm)⟩
     ·rw [hfl,hbs]; unfold byteCells; simp; omega
     ·rw [hfl] at h1
      have hj : j < s.size:=by have:=(List.getElem?_eq_some_iff.1 h1).1; simpa [byteCells] using this
      refine (hd1.2 j sv u h1 ?_).mono ⟨fun _ _ _ _ h hb=>⟨h,hb⟩,fun _ c _ fz h=>⟨c,fz,h,rfl⟩,fun _ _ h=>h⟩
      rw [← h2]
      unfold bytesRow
      rw [Array.getElem?_append_left (by simpa using hj)]
     ·have:=Den.sl (R:=E.reg) (ρ:=setR ρ nm (some (w.heap.size,0))) (O:=O') (w:=w.drew.alloc (.cells (bytesRow s cap) U ((bytesRow s cap).size,(bytesRow s cap).size + 1))) nm (E.reg.sz U) 0 s.size cap w.heap.size 0 0 (bytesRow s cap) U _ setR_eq heap_alloc_new hge (.inr (by simp)) (by rw [hbs,hs1]; omega)
      exact this
    ·exact .no
   ·exact .no
  ·exact .no
 ·rename_i ts ti h sz off len hts hti
  obtain ⟨_,_,hu1,_,hk1,_⟩:=tiOf_inv (hE.tt S ts hts)
  obtain ⟨_,_,hu2,_,hk2,_⟩:=tiOf_inv (hE.tt T ti hti)
  split
  ·rename_i U q1 q2
   rw [q1] at hk1
   rw [q2] at hk2
   obtain rfl:=kind_slice hk1
   obtain rfl:=kind_str hk2
   split
   ·rename_i te hte
    obtain ⟨_,_,hu3,_,hk3,_⟩:=tiOf_inv (hE.tt U te hte)
    split
    ·rename_i f q3 e2 hby
     rw [q3] at hk3
     obtain rfl:=kind_int hk3
     obtain ⟨hs1,hf⟩:=E.reg.byteOk U f hby
     have e2:=beq_true e2
     refine .ask ?_
     cases hh : st.h h with
     | none=>exact .no
     | some ct=>
      cases ct with
      | cells cs=>exact .no
      | map _ _ _=>exact .no
      | obj _ _=>exact .no
      | row _ _=>exact .no
      | arr V xs=>
       dsimp only
       split
       ·rename_i e _
        subst e
        refine .vc fun hle=>.all fun l hl=>?_
        have hl : (xs.drop off).take len = l.map f:=hl
        have hll : l.length = len:=by have:=congrArg List.length hl; simp at this; omega
        cases hv with
        | slnil _ _ hr=>
         obtain rfl : l = []:=by simpa using hll
         refine .ret hI hd (v:=.string ⟨#[]⟩) ?_ (.val _) rfl
         rw [run_convert_bytes_string w S T V none 0 0 hu1 hu3 hu2]
         simp [Conv.bytesToString]
         rfl
        | sl _ _ _ _ cap b base o c F fz hr hb hl' ho hs=>
         obtain ⟨c',F',fz',k1,k2,k3,k4,k5,k6⟩:=hI.block hh rfl hr
         rw [hb] at k1; cases k1
         subst hll
         refine .ret hI hd (v:=.string ⟨l.toArray⟩) (run_convert_bytes_back w S T V ⟨b,o,none⟩ cap l hu1 hu3 hu2 fun j hj=>?_) (.val _) rfl
         have ho : o = base + off:=by
          rcases ho with ho | ho
          ·omega
          ·rw [ho,e2,hs1]; omega
         have hx : xs[off + j]? = some (f l[j]):=by
          have:=congrArg (fun m : List (A V)=>m[j]?) hl
          simpa [List.getElem?_take,List.getElem?_drop,hj] using this
         have hlt : off + j < (Ct.flat E.reg (.arr V xs)).length:=by
          rw [show (Ct.flat E.reg (.arr V xs)).length = xs.length * E.reg.sz V from flat_len (E.reg.len V) xs,hs1]; omega
         have hfl : (Ct.flat E.reg (.arr V xs))[off + j]? = some (.val (.int .u8 (l[j]).toNat)):=by
          have:=flat_get (E.reg.len V) xs (off + j) 0 _ hx (by omega)
          rw [hs1,Nat.mul_one,Nat.add_zero,hf] at this
          exact this
         have hg:=k4 _ hlt
         have hd5:=val_inv (k5 _ _ hfl)
         rw [hd5] at hg
         rw [add_off,cell_at hb,ho,Nat.add_assoc]
         exact hg
       ·exact .no
    ·exact .no
   ·exact .no
  ·exact .no
 ·exact .no
theorem splice_den (hI : SInv E.reg n X E0 ρ0 w0 st ρ a w) {U : Nat} {xs zs : List (A U)} {off base : Nat} {c : Array Value} {new : List Value} (hle : off + zs.length ≤ xs.length)
  (hsz : base + (Ct.flat E.reg (.arr U xs)).length ≤ c.size) (hx : ∀ (j : Nat) s,(Ct.flat E.reg (.arr U xs))[j]? = some s → Den E.reg ρ (fun b=>X b ∨ OwnB st.h ρ b) w s (c.getD (base + j) undef))
  (hnl : new.length = zs.length * E.reg.sz U) (hn : ∀ (j : Nat) s u,(zs.flatMap (E.reg.enc U))[j]? = some s → new[j]? = some u → Den E.reg ρ (fun b=>X b ∨ OwnB st.h ρ b) w s u) :
  base + (Ct.flat E.reg (.arr U (xs.take off ++ zs ++ xs.drop (off + zs.length)))).length ≤ c.size ∧
  ∀ (j : Nat) s u,(Ct.flat E.reg (.arr U (xs.take off ++ zs ++ xs.drop (off + zs.length))))[j]? = some s → (over c (base + off * E.reg.sz U) new)[base + j]? = some u → Den E.reg ρ (fun b=>X b ∨ OwnB st.h ρ b) w s u:=by
 have hfl : (Ct.flat E.reg (.arr U xs)).length = xs.length * E.reg.sz U:=flat_len (E.reg.len U) xs
 have m2 : (off + zs.length) * E.reg.sz U ≤ xs.length * E.reg.sz U:=Nat.mul_le_mul_right _ (by omega)
 rw [Nat.add_mul] at m2
 refine ⟨?_,fun j s u hs hu=>?_⟩
 ·rw [show (Ct.flat E.reg (.arr U (xs.take off ++ zs ++ xs.drop (off + zs.length)))).length = (xs.take off ++ zs ++ xs.drop (off + zs.length)).length * E.reg.sz U from flat_len (E.reg.len U) _]
  have : (xs.take off ++ zs ++ xs.drop (off + zs.length)).length = xs.length:=by simp; omega
  rw [this,← hfl]; exact hsz
 ·obtain ⟨x,k,p1,p2,p3,p4⟩:=flat_at (E.reg.len U) hs
  generalize hi : j / E.reg.sz U = i at *
  have hsd : ∀ x',xs[i]? = some x' → x' = x → Den E.reg ρ (fun b=>X b ∨ OwnB st.h ρ b) w s (c.getD (base + j) undef):=fun x' h1 h2=>by
   subst h2
   refine hx j s ?_
   rw [p3]
   exact (flat_get (E.reg.len U) xs i k x' h1 p2).trans p4
  have hov:=over_get (c:=c) (off:=base + off * E.reg.sz U) (vs:=new) (by rw [hnl]; rw [hfl] at hsz; omega) (base + j)
  rw [hov,hnl] at hu
  have lt1 : i < off → j < off * E.reg.sz U:=fun h=>by
   have : (i + 1) * E.reg.sz U ≤ off * E.reg.sz U:=Nat.mul_le_mul_right _ h
   rw [Nat.add_mul] at this; omega
  have ge1 : off ≤ i → off * E.reg.sz U ≤ i * E.reg.sz U:=fun h=>Nat.mul_le_mul_right _ h
  have lt2 : i < off + zs.length → j < (off + zs.length) * E.reg.sz U:=fun h=>by
   have : (i + 1) * E.reg.sz U ≤ (off + zs.length) * E.reg.sz U:=Nat.mul_le_mul_right _ h
   rw [Nat.add_mul i] at this; omega
  have ge2 : off + zs.length ≤ i → (off + zs.length) * E.reg.sz U ≤ i * E.reg.sz U:=fun h=>Nat.mul_le_mul_right _ h
  rw [Nat.add_mul] at lt2 ge2
  have hlx : (xs.take off).length = off:=by simp; omega
  rw [List.getElem?_append] at p1
  split at p1
  ·rename_i h1
   rw [List.getElem?_append] at p1
   split at p1
   ·rename_i h2
    rw [hlx] at h2
    have:=lt1 h2
    rw [if_neg (by omega)] at hu
    rw [List.getElem?_take,if_pos h2] at p1
    have:=hsd _ p1 rfl
    rw [Array.getD_eq_getD_getElem?,hu] at this
    exact this
   ·rename_i h2
    rw [hlx] at h2 p1
    rw [List.length_append,hlx] at h1
    have g1:=ge1 (by omega)
    have g2:=lt2 h1
    rw [if_pos (by omega)] at hu
    refine hn _ s u ?_ hu
    have e1 : base + j - (base + off * E.reg.sz U) = (i - off) * E.reg.sz U + k:=by
     rw [Nat.sub_mul]; omega
    rw [e1]
    exact (flat_get (E.reg.len U) zs (i - off) k x p1 p2).trans p4
  ·rename_i h1
   rw [List.length_append,hlx] at h1 p1
   have g1:=ge2 (by omega)
   rw [if_neg (by omega)] at hu
   rw [List.getElem?_drop,show off + zs.length + (i - (off + zs.length)) = i by omega] at p1
   have:=hsd _ p1 rfl
   rw [Array.getD_eq_getD_getElem?,hu] at this
   exact this
theorem snd_clear (hE : E.Ok P) (hI : SInv E.reg n X E0 ρ0 w0 st ρ a w) (hd : okDst n d = true) {T : TypeId} {ats : Array TypeId} (ha : ats[0]? = some T) {ty : TypeId} {x : SV A} {v : Value} (hv : Den E.reg ρ (fun b=>X b ∨ OwnB st.h ρ b) w x v) :
  Snd P E.reg n X E0 ρ0 w0 st a w d (xclear E T x) (Builtin.clear_ ats ty #[v]):=by
 unfold xclear
 split
 ·rename_i ti hti
  obtain ⟨dd,ii,hud,hi,hk,_⟩:=tiOf_inv (hE.tt T ti hti)
  split
  ·rename_i U hfs
   rw [hfs] at hk
   obtain rfl:=kind_slice hk
   split
   ·rename_i te hte
    split
    ·rename_i z hts hzs hdec
     have hts:=beq_true hts
     have hzs:=beq_true hzs
     have e1:=E.reg.ok U _ z hdec
     have hzt:=hzs.trans hts
     split
     ·rename_i h sz off len
      split
      ·rename_i e0
       obtain rfl:=beq_true e0
       refine .ask ?_
       cases hh : st.h h with
       | none=>exact .no
       | some ct=>
        cases ct with
        | cells _=>exact .no
        | map _ _ _=>exact .no
        | obj _ _=>exact .no
        | row _ _=>exact .no
        | arr V xs=>
         dsimp only
         split
         ·rename_i e _
          subst e
          refine .vc fun hc=>?_
          obtain ⟨hl0,hx⟩:=hc
          cases hv with
          | slnil _ _ _=>omega
          | sl _ _ _ _ cap b base o c F fz hr hb hcap ho hs=>
           have ho : o = base + off * te.size:=by omega
           subst ho
           rw [hts] at *
           obtain ⟨c',F',fz',k1,k2,k3,k4,k5,k6⟩:=hI.block hh rfl hr
           rw [hb] at k1; cases k1
           have hzl : (zeroCellsS (A:=A) te.zero).length = te.zero.cells.size:=by simp [zeroCellsS]
           have hrep : (List.replicate len z).flatMap (E.reg.enc V) = rowsS len (zeroCellsS te.zero):=by rw [replicate_rows,e1]
           have hnl : (Builtin.zeroCells te.zero.cells len).toList.length = (List.replicate len z).length * E.reg.sz V:=by simp [Builtin.zeroCells,hzt]
           have hn : ∀ (j : Nat) s u,((List.replicate len z).flatMap (E.reg.enc V))[j]? = some s → (Builtin.zeroCells te.zero.cells len).toList[j]? = some u → Den E.reg ρ (fun b=>X b ∨ OwnB st.h ρ b) w s u:=fun j s u hs hu=>by
            rw [hrep] at hs
            have hj : j < len * te.zero.cells.size:=by rw [← hzl,← rowsS_len]; exact (List.getElem?_eq_some_iff.1 hs).1
            have h3:=rowsS_get _ j s hs
            have h4:=(denA_zero (R:=E.reg) (ρ:=ρ) (O:=fun b=>X b ∨ OwnB st.h ρ b) (w:=w) te.zero)
            rw [hzl] at h3
            have hlt : j % te.zero.cells.size < te.zero.cells.size:=by
             have:=(List.getElem?_eq_some_iff.1 h3).1
             rwa [hzl] at this
            refine h4.2 _ s u h3 ?_
            simp [Builtin.zeroCells,hj] at hu
            rw [← hu,Array.getElem?_eq_getElem hlt,getElem!_pos te.zero.cells _ hlt]
           have hA : DenA E.reg ρ (fun b=>X b ∨ OwnB st.h ρ b) w ((List.replicate len z).flatMap (E.reg.enc V)) (Builtin.zeroCells te.zero.cells len):=
            ⟨by rw [flat_len (E.reg.len V),← hnl]; simp,fun j s u hs hu=>hn j s u hs (by simpa using hu)⟩
           have h1:=rows_one hA
           have hlr : (List.replicate len z).length = len:=by simp
           have hfl : (Ct.flat E.reg (.arr V xs)).length = xs.length * E.reg.sz V:=flat_len (E.reg.len V) xs
           have m2 : (off + len) * E.reg.sz V ≤ xs.length * E.reg.sz V:=Nat.mul_le_mul_right _ (by omega)
           rw [Nat.add_mul] at m2
           have hst:=run_storeCells_sx (P:=P) (base + off * E.reg.sz V) (Builtin.zeroCells te.zero.cells len).toList 0 c w hb k2 (by rw [hnl,hlr]; rw [hfl] at k3; omega) h1
           have hsp:=splice_den (off:=off) (zs:=List.replicate len z) hI (by rw [hlr]; exact hx) k3.1 k5 hnl hn
           rw [hlr] at hsp
           intro R0 K hfr hK
           refine ⟨.tuple #[],w.setRow b (over c (base + off * E.reg.sz V) (Builtin.zeroCells te.zero.cells len).toList),_,_,ρ,?_,hK,hI.write (ct':=.arr V (xs.take off ++ List.replicate len z ++ xs.drop (off + len))) hd hh hr hb k2 (over_size (by rw [hnl,hlr]; rw [hfl] at k3; omega)) rfl trivial hsp.1 hsp.2 rfl (.val _) rfl⟩
           have hz0:=run_zero_sx (hE.tt V te hte)
           obtain ⟨m,rfl⟩ : ∃ m,len = m + 1:=⟨len - 1,by omega⟩
           simp [Builtin.clear_,ha,run_underlying hud,hz0,Sem.run_bind,hst,Result.andThen]
         ·exact .no
      ·exact .no
     ·exact .no
    ·exact .no
   ·exact .no
  ·exact .no
 ·exact .no
theorem snd_copy (hE : E.Ok P) (hI : SInv E.reg n X E0 ρ0 w0 st ρ a w) (hd : okDst n d = true) {T : TypeId} {ats : Array TypeId} (ha : ats[0]? = some T) {ty : TypeId} {x y : SV A} {v u : Value} (hv : Den E.reg ρ (fun b=>X b ∨ OwnB st.h ρ b) w x v)
  (hu : Den E.reg ρ (fun b=>X b ∨ OwnB st.h ρ b) w y u) : Snd P E.reg n X E0 ρ0 w0 st a w d (xcopy E T x y) (Builtin.copy_ ats ty #[v,u]):=by
 unfold xcopy
 split
 ·rename_i ti hti
  obtain ⟨dd,ii,hud,hi,hk,_⟩:=tiOf_inv (hE.tt T ti hti)
  split
  ·rename_i U hfs
   rw [hfs] at hk
   obtain rfl:=kind_slice hk
   split
   ·rename_i te hte
    split
    ·rename_i hts
     have hts:=beq_true hts
     have hsz : ∀ w : World,(sizeOf U).run P w = .ok (E.reg.sz U) w:=fun w=>by rw [← hts]; exact run_sizeOf_sx (hE.tt U te hte) w
     split
     ·rename_i h sz off len
      split
      ·rename_i e0
       obtain rfl:=beq_true e0
       refine .ask ?_
       cases hh : st.h h with
       | none=>exact .no
       | some ct=>
        cases ct with
        | cells _=>exact .no
        | map _ _ _=>exact .no
        | obj _ _=>exact .no
        | row _ _=>exact .no
        | arr V xs=>
         dsimp only
         split
         ·rename_i e _
          subst e
          split
          ·rename_i h2 sz2 off2 len2
           split
           ·rename_i e0
            obtain rfl:=beq_true e0
            refine .ask ?_
            cases hh2 : st.h h2 with
            | none=>exact .no
            | some ct2=>
             cases ct2 with
             | cells _=>exact .no
             | map _ _ _=>exact .no
             | obj _ _=>exact .no
             | row _ _=>exact .no
             | arr V2 ys=>
              dsimp only
              split
              ·rename_i e2 _
               subst e2
               refine .vc fun hc=>?_
               obtain ⟨⟨hl0,hl2⟩,hx,hy⟩:=hc
               cases hv with
               | slnil _ _ _=>omega
               | sl _ _ _ _ cap b base o c F fz hr hb hcap ho hs=>
                cases hu with
                | slnil _ _ _=>omega
                | sl _ _ _ _ cap2 b2 base2 o2 c2 F2 fz2 hr2 hb2 hcap2 ho2 hs2=>
                 have ho : o = base + off * te.size:=by omega
                 have ho2 : o2 = base2 + off2 * te.size:=by omega
                 subst ho; subst ho2
                 rw [hts] at *
                 obtain ⟨c',F',fz',k1,k2,k3,k4,k5,k6⟩:=hI.block hh rfl hr
                 rw [hb] at k1; cases k1
                 obtain ⟨c2',F2',fz2',q1,q2,q3,q4,q5,q6⟩:=hI.block hh2 rfl hr2
                 rw [hb2] at q1; cases q1
                 have hfl : (Ct.flat E.reg (.arr V2 xs)).length = xs.length * E.reg.sz V2:=flat_len (E.reg.len V2) xs
                 have hfl2 : (Ct.flat E.reg (.arr V2 ys)).length = ys.length * E.reg.sz V2:=flat_len (E.reg.len V2) ys
                 generalize hnn : min len2 len = nn
                 have hn1 : nn ≤ len:=by omega
                 have hn2 : nn ≤ len2:=by omega
                 have m1 : (off2 + nn) * E.reg.sz V2 ≤ ys.length * E.reg.sz V2:=Nat.mul_le_mul_right _ (by omega)
                 have m2 : (off + nn) * E.reg.sz V2 ≤ xs.length * E.reg.sz V2:=Nat.mul_le_mul_right _ (by omega)
                 rw [Nat.add_mul] at m1 m2
                 let new : Array Value:=((List.range (nn * E.reg.sz V2)).map fun j=>c2.getD (base2 + (off2 * E.reg.sz V2 + j)) undef).toArray
                 have hrd : (Builtin.firstCells (E.reg.sz V2) nn (.slice (some ⟨b2,base2 + off2 * E.reg.sz V2,none⟩) len2 cap2)).run P w = .ok new w:=by
                  have:=run_loadCells (P:=P) w ⟨b2,base2 + off2 * E.reg.sz V2,none⟩ (nn * E.reg.sz V2) (fun j=>c2.getD (base2 + (off2 * E.reg.sz V2 + j)) undef) (fun j hj=>by
                   rw [add_off]
                   refine (cell_at hb2 _).trans ?_
                   rw [Nat.add_assoc]
                   exact q4 (off2 * E.reg.sz V2 + j) (by rw [hfl2]; omega))
                  exact this
                 have hA : DenA E.reg ρ (fun b=>X b ∨ OwnB st.h ρ b) w (((ys.drop off2).take nn).flatMap (E.reg.enc V2)) new:=by
                  refine ⟨?_,fun j s u hs hu=>?_⟩
                  ·rw [flat_len (E.reg.len V2)]; simp [new]; rw [show min nn (ys.length - off2) = nn by omega]
                  ·rw [drop_take_flat,List.getElem?_take] at hs
                   split at hs
                   ·rename_i hj
                    rw [List.getElem?_drop] at hs
                    simp [new,hj] at hu
                    subst hu
                    have:=q5 _ s hs
                    simpa using this
                   ·cases hs
                 have h1:=rows_one hA
                 have hnl : new.toList.length = nn * E.reg.sz V2:=by simp [new]
                 have hst:=run_storeCells_sx (P:=P) (base + off * E.reg.sz V2) new.toList 0 c w hb k2 (by rw [hnl]; rw [hfl] at k3; omega) h1
                 intro R0 K hfr hK
                 refine ⟨.int .i64 ((nn : Nat) : Int),w.setRow b (over c (base + off * E.reg.sz V2) new.toList),_,_,ρ,?_,hK,hI.write (ct':=.arr V2 (xs.take off ++ (ys.drop off2).take nn ++ xs.drop (off + nn))) hd hh hr hb k2 (over_size (by rw [hnl]; rw [hfl] at k3; omega)) rfl trivial ?_ (fun j s u hs hu=>?_) rfl (.val _) rfl⟩
                 ·have hmin : Nat.min len2 len = nn:=hnn
                  simp [Builtin.copy_,ha,run_underlying hud,Builtin.lenOf,hsz,hmin,hrd,Sem.run_bind,hst,Result.andThen,goInt]
                 ·rw [show (Ct.flat E.reg (.arr V2 (xs.take off ++ (ys.drop off2).take nn ++ xs.drop (off + nn)))).length = (xs.take off ++ (ys.drop off2).take nn ++ xs.drop (off + nn)).length * E.reg.sz V2 from flat_len (E.reg.len V2) _]
                  have : (xs.take off ++ (ys.drop off2).take nn ++ xs.drop (off + nn)).length = xs.length:=by simp; omega
                  rw [this,← hfl]; exact k3.1
                 ·obtain ⟨x,k,p1,p2,p3,p4⟩:=flat_at (E.reg.len V2) hs
                  generalize hi : j / E.reg.sz V2 = i at *
                  have hsd : ∀ x',xs[i]? = some x' → x' = x → Den E.reg ρ (fun b=>X b ∨ OwnB st.h ρ b) w s (c.getD (base + j) undef):=fun x' h1 h2=>by
                   subst h2
                   refine k5 j s ?_
                   rw [p3]
                   exact (flat_get (E.reg.len V2) xs i k x' h1 p2).trans p4
                  have hov:=over_get (c:=c) (off:=base + off * E.reg.sz V2) (vs:=new.toList) (by rw [hnl]; rw [hfl] at k3; omega) (base + j)
                  rw [hov,hnl] at hu
                  have lt1 : i < off → j < off * E.reg.sz V2:=fun h=>by
                   have : (i + 1) * E.reg.sz V2 ≤ off * E.reg.sz V2:=Nat.mul_le_mul_right _ h
                   rw [Nat.add_mul] at this; omega
                  have ge1 : off ≤ i → off * E.reg.sz V2 ≤ i * E.reg.sz V2:=fun h=>Nat.mul_le_mul_right _ h
                  have lt2 : i < off + nn → j < (off + nn) * E.reg.sz V2:=fun h=>by
                   have : (i + 1) * E.reg.sz V2 ≤ (off + nn) * E.reg.sz V2:=Nat.mul_le_mul_right _ h
                   rw [Nat.add_mul i] at this; omega
                  have ge2 : off + nn ≤ i → (off + nn) * E.reg.sz V2 ≤ i * E.reg.sz V2:=fun h=>Nat.mul_le_mul_right _ h
                  rw [Nat.add_mul] at lt2 ge2
                  have hlx : (xs.take off).length = off:=by simp; omega
                  have hly : ((ys.drop off2).take nn).length = nn:=by simp; omega
                  rw [List.getElem?_append] at p1
                  split at p1
                  ·rename_i h1
                   rw [List.getElem?_append] at p1
                   split at p1
                   ·rename_i h2
                    rw [hlx] at h2
                    have:=lt1 h2
                    rw [if_neg (by omega)] at hu
                    rw [List.getElem?_take,if_pos h2] at p1
                    have:=hsd _ p1 rfl
                    rw [Array.getD_eq_getD_getElem?,hu] at this
                    exact this
                   ·rename_i h2
                    rw [hlx] at h2 p1
                    rw [List.length_append,hlx,hly] at h1
                    have g1:=ge1 (by omega)
                    have g2:=lt2 h1
                    rw [if_pos (by omega)] at hu
                    rw [List.getElem?_take,if_pos (by omega),List.getElem?_drop] at p1
                    have hjj : base + j - (base + off * E.reg.sz V2) < nn * E.reg.sz V2:=by omega
                    simp [new,hjj] at hu
                    subst hu
                    have e1 : off2 * E.reg.sz V2 + (base + j - (base + off * E.reg.sz V2)) = (off2 + (i - off)) * E.reg.sz V2 + k:=by
                     rw [Nat.add_mul,Nat.sub_mul]; omega
                    have:=q5 _ s ((flat_get (E.reg.len V2) ys (off2 + (i - off)) k x p1 p2).trans p4)
                    rw [← e1] at this
                    simpa using this
                  ·rename_i h1
                   rw [List.length_append,hlx,hly] at h1 p1
                   have g1:=ge2 (by omega)
                   rw [if_neg (by omega)] at hu
                   rw [List.getElem?_drop,show off + nn + (i - (off + nn)) = i by omega] at p1
                   have:=hsd _ p1 rfl
                   rw [Array.getD_eq_getD_getElem?,hu] at this
                   exact this
              ·exact .no
           ·exact .no
          ·exact .no
         ·exact .no
      ·exact .no
     ·exact .no
    ·exact .no
   ·exact .no
  ·exact .no
 ·exact .no
end
end Go.Sx
namespace Go.Sx
open Go
variable {A : Nat → Type}
section
variable {P : Program} {E : Env A} {n : Nat} {X E0 : Nat → Prop} {ρ0 : Rho} {w0 : World} {st : St A} {ρ : Rho} {a : Act} {w : World}
def Does (P : Program) (a : Act) (o : Oper) (s : Sem Value) : Prop:=
 ∀ w v w',s.run P w = .ok v w' → (execOp a.eval o).run P w = .ok (.value v) w' ∨ ((execOp a.eval o).run P w = .ok .skip w' ∧ v = undef)
theorem Does.value {o : Oper} {s : Sem Value} (h : execOp a.eval o = (do pure (.value (← s)))) : Does P a o s:=fun w v w' hr=>.inl (by rw [h]; simp [hr])
theorem evs_spec (hI : SInv E.reg n X E0 ρ0 w0 st ρ a w) : ∀ (l : List Operand) vs,evs st.ev l = some vs → vs.length = l.length ∧ (∀ (j : Nat) s v,vs[j]? = some s → (l.map a.eval)[j]? = some v → Den E.reg ρ (fun b=>X b ∨ OwnB st.h ρ b) w s v) ∧ (∀ (j : Nat) s,vs[j]? = some s → Sx.men st.u s = true)
 | [],vs,h=>by simp [evs] at h; subst h; simp
 | x :: l,vs,h=>by
  simp only [evs] at h
  split at h
  ·rename_i v us h1 h2
   cases h
   obtain ⟨e1,e2,e3⟩:=evs_spec hI l us h2
   refine ⟨by simp [e1],fun j s u hs hu=>?_,fun j s hs=>?_⟩
   ·cases j with
    | zero=>simp at hs hu; subst hs; subst hu; exact (hI.ev h1).1
    | succ j=>exact e2 j s u (by simpa using hs) (by simpa using hu)
   ·cases j with
    | zero=>simp at hs; subst hs; exact (hI.ev h1).2
    | succ j=>exact e3 j s (by simpa using hs)
  ·cases h
theorem snd_xop (hE : E.Ok P) (hI : SInv E.reg n X E0 ρ0 w0 st ρ a w) {o : Oper} (hd : okDst n o.dst = true) (nm : Nat) : ∃ s,Does P a o s ∧ Snd P E.reg n X E0 ρ0 w0 st a w o.dst (xop E nm o.dst o.op st.ev) s:=by
 obtain ⟨dst,op,ty,pos,after,guard⟩:=o
 dsimp only at hd ⊢
 have nothing : ∀ q : QT A,q = .no → ∃ s,Does P a ⟨dst,op,ty,pos,after,guard⟩ s ∧ Snd P E.reg n X E0 ρ0 w0 st a w dst q s:=fun q hq=>⟨.halt (.stuck ""),(fun _ _ _ h=>by cases h),by subst hq; exact .no⟩
 cases op with
 | move x=>
  dsimp only [xop]
  split
  ·rename_i v hv
   obtain ⟨h1,h2⟩:=hI.ev hv
   exact ⟨pure (a.eval x),.value rfl,.pure hI hd rfl h1 h2⟩
  ·exact nothing _ rfl
 | assign x=>
  dsimp only [xop]
  split
  ·rename_i v hv
   obtain ⟨h1,h2⟩:=hI.ev hv
   exact ⟨pure (a.eval x),.value rfl,.pure hI hd rfl h1 h2⟩
  ·exact nothing _ rfl
 | pick c x y=>
  dsimp only [xop]
  split
  ·rename_i sc sx sy hc hx hy
   unfold xpick
   split
   ·rename_i b
    have hcv:=val_inv (hI.ev hc).1
    have hrun : Does P a ⟨dst,.pick c x y,ty,pos,after,guard⟩ (pure (if b then a.eval x else a.eval y)):=.value (by simp [execOp,hcv,asBool])
    cases b with
    | true=>exact ⟨_,hrun,.pure hI hd rfl (hI.ev hx).1 (hI.ev hx).2⟩
    | false=>exact ⟨_,hrun,.pure hI hd rfl (hI.ev hy).1 (hI.ev hy).2⟩
   ·exact nothing _ rfl
  ·exact nothing _ rfl
 | alloc T=>exact ⟨_,.value rfl,snd_alloc hE hI hd⟩
 | box T x=>
  dsimp only [xop]
  split
  ·rename_i v hv
   obtain ⟨h1,h2⟩:=hI.ev hv
   exact ⟨_,.value rfl,snd_box hI hd h1 h2⟩
  ·exact nothing _ rfl
 | build T ps=>
  obtain ⟨ps⟩:=ps
  dsimp only [xop]
  split
  ·rename_i v hv
   exact ⟨_,.value (by simp only [execOp,List.map_toArray]),snd_build hE hI hd hv⟩
  ·exact nothing _ rfl
 | buildSlice T len ps=>
  obtain ⟨ps⟩:=ps
  dsimp only [xop]
  split
  ·rename_i v hv
   exact ⟨_,.value (by simp only [execOp,List.map_toArray]),snd_buildSlice hE hI hd hv⟩
  ·exact nothing _ rfl
 | load T x=>
  dsimp only [xop]
  split
  ·rename_i v hv
   obtain ⟨h1,h2⟩:=hI.ev hv
   exact ⟨_,.value rfl,snd_load hE hI hd h1 h2⟩
  ·exact nothing _ rfl
 | store T x y=>
  dsimp only [xop]
  split
  ·rename_i v u hv hu
   obtain ⟨h1,h2⟩:=hI.ev hv
   obtain ⟨h3,h4⟩:=hI.ev hu
   refine ⟨_,fun w v w' hr=>.inr ?_,snd_store hE hI hd h1 h3 h4⟩
   simp only [execOp,Sem.run_bind] at hr ⊢
   cases hq : (Instr.storeAt T (a.eval x) (a.eval y)).run P w with
   | halt h w1=>rw [hq] at hr; cases hr
   | ok u w1=>rw [hq] at hr; simp at hr; obtain ⟨rfl,rfl⟩:=hr; simp
  ·exact nothing _ rfl
 | nilCheck x=>
  dsimp only [xop]
  split
  ·rename_i v hv
   obtain ⟨h1,h2⟩:=hI.ev hv
   split
   ·rename_i hn
    have hb : ∃ b,a.eval x = .pointer (some b):=by
     generalize a.eval x = u at h1
     cases h1 <;> first | exact ⟨_,rfl⟩ | cases hn
    obtain ⟨b,hb⟩:=hb
    refine ⟨pure (a.eval x),.value ?_,.pure hI hd rfl h1 h2⟩
    simp only [execOp,hb]; rfl
   ·exact nothing _ rfl
  ·exact nothing _ rfl
 | binOp op T x y yT=>
  dsimp only [xop]
  split
  ·rename_i v u hv hu
   obtain ⟨h1,h2⟩:=hI.ev hv
   obtain ⟨h3,h4⟩:=hI.ev hu
   exact ⟨_,.value rfl,snd_bin hE hI hd h1 h3⟩
  ·exact nothing _ rfl
 | unOp op T x=>
  dsimp only [xop]
  split
  ·rename_i v hv
   obtain ⟨h1,h2⟩:=hI.ev hv
   exact ⟨_,.value rfl,snd_un hI hd h1⟩
  ·exact nothing _ rfl
 | slice T x lo hi mx=>
  cases mx with
  | some _=>exact nothing _ rfl
  | none=>
   have hb : ∀ (x : Operand) (v : SV A) (l : Option Int),st.ev x = some v → bnd (some v) = some l → BndOk l (some (a.eval x)):=fun x v l hv hl=>by
    have h1:=(hI.ev hv).1
    unfold bnd at hl
    split at hl
    ·rename_i e; cases e
    ·rename_i e; cases e; cases hl
     exact ⟨_,val_inv h1⟩
    ·cases hl
   dsimp only [xop]
   split
   ·rename_i v hv
    obtain ⟨h1,h2⟩:=hI.ev hv
    exact ⟨_,.value rfl,snd_slice hE hI hd h1 h2 (fun l hl=>by cases hl; trivial) (fun l hl=>by cases hl; trivial)⟩
   ·rename_i v l hv
    split
    ·rename_i vl hl
     obtain ⟨h1,h2⟩:=hI.ev hv
     exact ⟨_,.value rfl,snd_slice hE hI hd h1 h2 (fun z hz=>hb l vl z hl hz) (fun l hl=>by cases hl; trivial)⟩
    ·exact nothing _ rfl
   ·rename_i v h hv
    split
    ·rename_i vh hh
     obtain ⟨h1,h2⟩:=hI.ev hv
     exact ⟨_,.value rfl,snd_slice hE hI hd h1 h2 (fun l hl=>by cases hl; trivial) (fun z hz=>hb h vh z hh hz)⟩
    ·exact nothing _ rfl
   ·rename_i v l h hv
    split
    ·rename_i vl vh hl hh
     obtain ⟨h1,h2⟩:=hI.ev hv
     exact ⟨_,.value rfl,snd_slice hE hI hd h1 h2 (fun z hz=>hb l vl z hl hz) (fun z hz=>hb h vh z hh hz)⟩
    ·exact nothing _ rfl
   ·exact nothing _ rfl
 | fieldAddr T x f=>
  dsimp only [xop]
  split
  ·rename_i v hv
   obtain ⟨h1,h2⟩:=hI.ev hv
   exact ⟨_,.value rfl,snd_fieldAddr hE hI hd h1 h2⟩
  ·exact nothing _ rfl
 | field T x f=>
  dsimp only [xop]
  split
  ·rename_i v hv
   obtain ⟨h1,h2⟩:=hI.ev hv
   exact ⟨_,.value rfl,snd_field hE hI hd h1 h2⟩
  ·exact nothing _ rfl
 | indexAddr T x i=>
  dsimp only [xop]
  split
  ·rename_i v u hv hu
   obtain ⟨h1,h2⟩:=hI.ev hv
   obtain ⟨h3,h4⟩:=hI.ev hu
   split
   ·exact ⟨_,.value rfl,snd_indexAddrC hE hI hd h1 h2 h3⟩
   ·exact ⟨_,.value rfl,snd_indexAddr hE hI hd h1 h2 h3⟩
  ·exact nothing _ rfl
 | makeMap T r=>
  cases r with
  | none=>exact ⟨_,.value rfl,snd_makeMap hI hd⟩
  | some r=>exact nothing _ rfl
 | makeSlice T l c=>
  dsimp only [xop]
  split
  ·rename_i v u hv hu
   exact ⟨_,.value rfl,snd_makeSlice hE hI hd (hI.ev hv).1 (hI.ev hu).1⟩
  ·exact nothing _ rfl
 | lookup T x i ok=>
  dsimp only [xop]
  split
  ·rename_i v u hv hu
   obtain ⟨h1,_⟩:=hI.ev hv
   obtain ⟨h3,_⟩:=hI.ev hu
   exact ⟨_,.value rfl,snd_lookup hE hI hd h1 h3⟩
  ·exact nothing _ rfl
 | mapUpdate T x i v=>
  dsimp only [xop]
  split
  ·rename_i vx vu vv hx hu hv
   obtain ⟨h1,_⟩:=hI.ev hx
   obtain ⟨h3,_⟩:=hI.ev hu
   obtain ⟨h5,_⟩:=hI.ev hv
   refine ⟨_,fun w v1 w' hr=>.inr ?_,snd_mapUpdate hE hI hd h1 h3 h5⟩
   simp only [execOp,Sem.run_bind] at hr ⊢
   cases hq : (Instr.mapUpdate T (a.eval x) (a.eval i) (a.eval v)).run P w with
   | halt h w1=>rw [hq] at hr; cases hr
   | ok u w1=>rw [hq] at hr; simp at hr; obtain ⟨rfl,rfl⟩:=hr; simp
  ·exact nothing _ rfl
 | makeFunc f va vb=>
  obtain ⟨va⟩:=va
  obtain ⟨vb⟩:=vb
  dsimp only [xop]
  split
  ·rename_i vs us hvs hus
   obtain ⟨e1,e2,e3⟩:=evs_spec hI va vs hvs
   obtain ⟨f1,f2,f3⟩:=evs_spec hI vb us hus
   simp only [forceL_eq]
   refine ⟨_,.value rfl,.pure hI hd (v:=.func f (va.map a.eval).toArray (vb.map a.eval).toArray) (by simp [Instr.makeFunc]) (.fn f vs us _ _ (by simpa using e1) (fun j s v hs hv=>e2 j s v hs (by simpa using hv)) (by simpa using f1) (fun j s v hs hv=>f2 j s v hs (by simpa using hv))) ?_⟩
   show (menL st.u vs && menL st.u us) = true
   rw [menL_of e3,menL_of f3]; rfl
  ·exact nothing _ rfl
 | convert S T x=>
  dsimp only [xop]
  split
  ·rename_i v hv
   exact ⟨_,.value rfl,snd_convert hE hI hd (hI.ev hv).1⟩
  ·exact nothing _ rfl
 | index T x i=>
  dsimp only [xop]
  split
  ·rename_i v u hv hu
   obtain ⟨h1,h2⟩:=hI.ev hv
   obtain ⟨h3,h4⟩:=hI.ev hu
   exact ⟨_,.value rfl,snd_index hE hI hd h1 h2 h3⟩
  ·exact nothing _ rfl
 | extract x i=>
  dsimp only [xop]
  split
  ·rename_i vs hv
   split
   ·rename_i v hv2
    obtain ⟨h1,h2⟩:=hI.ev hv
    rw [nth_eq] at hv2
    generalize hu : a.eval x = u at h1
    cases h1 with
    | tup _ us hl hdd=>
     have hlt:=(List.getElem?_eq_some_iff.1 hv2).1
     have hg : us[i]? = some us[i]:=Array.getElem?_eq_getElem (by omega)
     refine ⟨pure us[i],.value ?_,.pure hI hd rfl (hdd i v _ hv2 hg) (menL_get h2 i v hv2)⟩
     simp only [execOp,hu,Instr.extract,hg]
   ·exact nothing _ rfl
  ·exact nothing _ rfl
 | call c=>
  obtain ⟨callee,⟨args⟩,⟨ats⟩⟩:=c
  cases callee with
  | value f=>exact nothing _ rfl
  | invoke r m=>exact nothing _ rfl
  | builtin b=>
   dsimp only [xop,xbuiltin]
   split
   ·exact nothing _ rfl
   ·rename_i vs hvs
    obtain ⟨e1,e2,e3⟩:=evs_spec hI args vs hvs
    split
    ·split
     ·rename_i T x rest v hats
      match args,e1 with
      | [x],_=>exact ⟨_,.value (by simp only [execOp,resolve,List.map_toArray,List.map_cons,List.map_nil,pure_bind,invoke,builtin]; rfl),snd_len hE hI hd (by simp) (ty:=ty) (e2 0 _ _ rfl rfl)⟩
     ·exact nothing _ rfl
    ·split
     ·match args,e1 with
      | [x,y],_=>exact ⟨_,.value (by simp only [execOp,resolve,List.map_toArray,List.map_cons,List.map_nil,pure_bind,invoke,builtin]; rfl),snd_append hE hI hd (by simp) (by simp) (ty:=ty) (e2 0 _ _ rfl rfl) (e2 1 _ _ rfl rfl)⟩
     ·exact nothing _ rfl
    ·split
     ·rename_i T x0 i0 rest v1 i1 hats
      match args,e1 with
      | [x,y],_=>exact ⟨_,.value (by simp only [execOp,resolve,List.map_toArray,List.map_cons,List.map_nil,pure_bind,invoke,builtin]; rfl),snd_delete hE hI hd (by simp) (ty:=ty) (e2 0 _ _ rfl rfl) (e2 1 _ _ rfl rfl)⟩
     ·exact nothing _ rfl
    ·split
     ·rename_i T x0 i0 rest v1 i1 hats
      match args,e1 with
      | [x,y],_=>exact ⟨_,.value (by simp only [execOp,resolve,List.map_toArray,List.map_cons,List.map_nil,pure_bind,invoke,builtin]; rfl),snd_copy hE hI hd (by simp) (ty:=ty) (e2 0 _ _ rfl rfl) (e2 1 _ _ rfl rfl)⟩
     ·exact nothing _ rfl
    ·exact ⟨_,.value (by simp only [execOp,resolve,List.map_toArray,pure_bind,invoke,builtin]; rfl),snd_minmax (mx:=true) (ats:=⟨ats⟩) (ty:=ty) hI hd (by simp [e1]) e2⟩
    ·exact ⟨_,.value (by simp only [execOp,resolve,List.map_toArray,pure_bind,invoke,builtin]; rfl),snd_minmax (mx:=false) (ats:=⟨ats⟩) (ty:=ty) hI hd (by simp [e1]) e2⟩
    ·unfold xbuiltin2
     split
     ·split
      ·rename_i T x0 rest v1 hats
       match args,e1 with
       | [x],_=>exact ⟨_,.value (by simp only [execOp,resolve,List.map_toArray,List.map_cons,List.map_nil,pure_bind,invoke,builtin]; rfl),snd_clear hE hI hd (by simp) (ty:=ty) (e2 0 _ _ rfl rfl)⟩
      ·exact nothing _ rfl
     ·exact nothing _ rfl
 | _=>exact nothing _ rfl
def FR (ro : Option Nat) : Fence:={ fn:=fun _=>True,depth:=none,alive:=false,round:=ro }
theorem FR_depth {ro : Option Nat} {m : Nat} : (FR ro).depth.isSome = true → 1 ≤ m:=fun h=>by cases h
theorem FR_calls {ro : Option Nat} {m : Nat} {f : FuncId} {vs : Array Value} {R : Ending → World → Prop} (h : Calls P f vs w R) : CallsIn (FR ro) m P f vs w R:=(callsIn_wide (n:=m)).2 h
theorem wp_xop {ro : Option Nat} {m : Nat} (hE : E.Ok P) (hI : SInv E.reg n X E0 ρ0 w0 st ρ a w) {o : Oper} (hd : okDst n o.dst = true) {nm : Nat} {R0 : List Nat} {K : SV A → List (Nat × Option (Ct A)) → Prop} {next : Act → World → Prop} {Q : Exit → Act → World → Prop}
  (hf : fresh st.u ((xop E nm o.dst o.op st.ev).go st.h R0).new = true) (hr : ((xop E nm o.dst o.op st.ev).go st.h R0).b.run K)
  (hn : ∀ v hs ρ' a' w',K v hs → SInv E.reg n X E0 ρ0 w0 (st.upd o.dst v hs ((xop E nm o.dst o.op st.ev).go st.h R0).new) ρ' a' w' → next a' w') : o.wpIn (FR ro) m P a w next Q:=by
 have hnd : ∀ c,o.op ≠ .defer c:=fun c e=>by rw [e] at hr; exact hr
 obtain ⟨s,h1,h2⟩:=snd_xop hE hI hd nm
 obtain ⟨v,w',sv,hs,ρ',g1,g2,g3⟩:=h2 R0 K hf hr
 refine ⟨fun _ _=>trivial,?_⟩
 rw [Oper.semAt_eq _ _ _ hnd]
 rcases h1 w v w' g1 with e | ⟨e,rfl⟩
 ·rw [e]; exact hn _ _ _ _ _ g2 g3
 ·rw [e]; exact hn _ _ _ _ _ g2 g3
end
end Go.Sx
namespace Go.Sx
open Go
variable {A : Nat → Type}
def FlOk (R : Reg A) (fl : Nat → Bool) : Prop:=∀ T,fl T = true → ∀ x (i : Nat) s,(R.enc T x)[i]? = some s → flatS fl s = true
theorem flatL_get {fl : Nat → Bool} : ∀ {cs : List (SV A)},flatL fl cs = true → ∀ (j : Nat) s,cs[j]? = some s → flatS fl s = true
 | [],_,j,s,h=>by simp at h
 | c :: cs,hm,j,s,h=>by
  simp only [flatL,Bool.and_eq_true] at hm
  cases j with
  | zero=>simp at h; subst h; exact hm.1
  | succ j=>exact flatL_get hm.2 j s (by simpa using h)
theorem flatL_of {fl : Nat → Bool} : ∀ {cs : List (SV A)},(∀ (j : Nat) s,cs[j]? = some s → flatS fl s = true) → flatL fl cs = true
 | [],_=>rfl
 | c :: cs,h=>by
  simp only [flatL,Bool.and_eq_true]
  exact ⟨h 0 c rfl,flatL_of fun j s hs=>h (j + 1) s (by simpa using hs)⟩
theorem Den.flat {R : Reg A} {fl : Nat → Bool} (hfl : FlOk R fl) {ρ : Rho} {O O' : Nat → Prop} {w : World} {s : SV A} {v : Value} (h : Den R ρ O w s v) (hs : flatS fl s = true) : Den R ρ O' w s v:=by
 induction h with
 | val v=>exact .val v
 | lnil T c h=>cases hs
 | lempty T a c h=>cases hs
 | lst T xs b off cap c E fz gg ho hb hcap hc hd ih=>cases hs
 | prow cs k b off c E fz gg ho hb hc hd ih=>cases hs
 | ptr h i sz k b base hr=>exact .ptr h i sz k b base hr
 | slnil h sz hr=>exact .slnil h sz hr
 | sl h sz off len cap b base o c E fz hr hb hl ho hs'=>exact .sl h sz off len cap b base o c E fz hr hb hl ho hs'
 | mp h b base hr=>exact .mp h b base hr
 | agg cs vs hl hd ih=>exact .agg cs vs hl fun j s v h1 h2=>ih j s v h1 h2 (flatL_get hs j s h1)
 | aggl T xs vs hd ih=>exact .aggl T xs vs (ih (flatL_of fun j s hj=>flatMap_get (P:=fun s=>flatS fl s = true) (fun x _ i s hi=>hfl T hs x i s hi) j s hj))
 | tup cs vs hl hd ih=>exact .tup cs vs hl fun j s v h1 h2=>ih j s v h1 h2 (flatL_get hs j s h1)
 | fn f a b vs us h1 hd1 h2 hd2 i1 i2=>
  simp only [flatS,Bool.and_eq_true] at hs
  exact .fn f a b vs us h1 (fun j s v e1 e2=>i1 j s v e1 e2 (flatL_get hs.1 j s e1)) h2 (fun j s v e1 e2=>i2 j s v e1 e2 (flatL_get hs.2 j s e1))
theorem mem_iff {n : Nat} : ∀ {l : List Nat},mem n l = true ↔ n ∈ l
 | []=>by simp [mem]
 | m :: l=>by
  simp only [mem]
  split
  ·rename_i h; simp [beq_true h]
  ·rename_i h
   have : n ≠ m:=fun e=>by subst e; simp at h
   simp [mem_iff (l:=l),this]
theorem disj_spec : ∀ {l m : List Nat},disj l m = true → ∀ n ∈ l,n ∉ m
 | [],_,_,n,h=>by cases h
 | k :: l,m,h,n,hn=>by
  simp only [disj] at h
  split at h
  ·cases h
  ·rename_i hk
   rcases List.mem_cons.1 hn with rfl | hn
   ·exact fun hm=>by rw [mem_iff.2 hm] at hk; cases hk
   ·exact disj_spec h n hn
theorem nodup_spec : ∀ {l : List Nat},nodup l = true → l.Nodup
 | [],_=>List.nodup_nil
 | k :: l,h=>by
  simp only [nodup] at h
  split at h
  ·cases h
  ·rename_i hk; exact List.nodup_cons.2 ⟨fun hm=>(by rw [mem_iff.2 hm] at hk; cases hk),nodup_spec h⟩
theorem newNames_spec (d : Nat) : ∀ k,(newNames d k).length = k ∧ ∀ n ∈ newNames d k,d < n
 | 0=>⟨rfl,fun _ h=>by cases h⟩
 | k + 1=>by
  obtain ⟨h1,h2⟩:=newNames_spec (d + 1000) k
  refine ⟨by simp [newNames,h1],fun n hn=>?_⟩
  simp only [newNames,List.mem_cons] at hn
  rcases hn with rfl | hn
  ·omega
  ·have:=h2 n hn; omega
theorem newNames_nodup (d : Nat) : ∀ k,(newNames d k).Nodup:=by
 intro k
 induction k generalizing d with
 | zero=>exact List.nodup_nil
 | succ k ih=>
  simp only [newNames,List.nodup_cons]
  exact ⟨fun h=>Nat.lt_irrefl _ ((newNames_spec (d + 1000) k).2 _ h),ih _⟩
theorem thr_get {l : List Nat} {i k : Nat} (h : l[i]? = some k) : thr l i = k:=by simp [thr,nth_eq,h]
theorem updH_app {f : Nat → Option (Ct A)} {g : Nat → Nat} : ∀ (l : List Nat) (cs : List (Option (Ct A))) (tl : List (Nat × Option (Ct A))) (h : Nat),l.Nodup → l.length = cs.length →
  updH f (updsOf g l cs ++ tl) h = if h ∈ l then (match cs[l.idxOf h]? with | some (some c)=>some (renCt g c) | _=>none) else updH f tl h
 | [],[],tl,h,_,_=>by simp [updsOf]
 | [],_ :: _,_,_,_,hl=>by simp at hl
 | _ :: _,[],_,_,_,hl=>by simp at hl
 | k :: l,c :: cs,tl,h,hn,hl=>by
  simp only [updsOf,List.cons_append,updH]
  by_cases e : h = k
  ·subst e
   simp
   cases c <;> rfl
  ·rw [beq_false e]
   dsimp only
   rw [updH_app l cs tl h (List.nodup_cons.1 hn).2 (by simpa using hl)]
   have e' : k ≠ h:=fun x=>e x.symm
   by_cases hm : h ∈ l
   ·have hb : (k == h) = false:=by simpa using e'
    rw [if_pos hm,if_pos (by simp [hm]),List.idxOf_cons,hb]
    rfl
   ·rw [if_neg hm,if_neg (by simp [e,hm])]
theorem updH_gone {f : Nat → Option (Ct A)} : ∀ (l : List Nat) (h : Nat),updH f (gone l) h = if h ∈ l then none else f h
 | [],h=>by simp [gone,updH]
 | k :: l,h=>by
  simp only [gone,updH]
  by_cases e : h = k
  ·subst e; simp
  ·rw [beq_false e]; dsimp only; rw [updH_gone l h]; simp [e]
section
variable {P : Program} {E : Env A} {n : Nat} {X E0 : Nat → Prop} {ρ0 : Rho} {w0 : World} {st : St A} {ρ : Rho} {a : Act} {w : World} {fl : Nat → Bool}
structure Lend (R : Reg A) (st : St A) (ρ : Rho) (O O' : Nat → Prop) (bs : List Nat) : Prop where
 sub : ∀ b,O' b → O b
 lent : ∀ h ct b base,h ∈ bs → st.h h = some ct → ρ h = some (b,base) → ¬ O' b
theorem ent0_den (hI : SInv E.reg n X E0 ρ0 w0 st ρ a w) {O' : Nat → Prop} {bs : List Nat} (hL : Lend E.reg st ρ (fun b=>X b ∨ OwnB st.h ρ b) O' bs) {c p : SV A} {f : Nat → Nat} (he : EntA0 E.reg st c (ren f p)) (hb : ∀ h ∈ bor0 c p,h ∈ bs)
  {v : Value} (hv : Den E.reg ρ (fun b=>X b ∨ OwnB st.h ρ b) w c v) : Den E.reg (fun k=>ρ (f k)) O' w p v:=by
 have g : Goes (fun b=>X b ∨ OwnB st.h ρ b) O' w w:=⟨fun b _ _ _ hn hb=>⟨fun h=>hn (hL.sub b h),hb⟩,fun _ c _ fz h=>⟨c,fz,h,rfl⟩,fun _ _ h=>h⟩
 unfold EntA0 at he
 split at he
 ·rename_i h sz off len T xs hp
  have hp : p = .lst T xs:=by cases p <;> simp only [ren] at hp <;> cases hp; rfl
  subst hp
  split at he
  ·rename_i U ys hh
   obtain ⟨h1,h2,h3⟩:=he
   subst h2
   injection h3 with h3 h4
   subst h3
   have h4:=eq_of_heq h4
   subst h4
   have hbs : h ∈ bs:=hb h (by simp [bor0])
   cases hv with
   | slnil _ _ hr=>
    simp only [List.take_zero]
    exact .lnil _ _ rfl
   | sl _ _ _ _ cap b base o c F fz hr hb' hl ho hs=>
    obtain ⟨c0,F0,fz0,k1,k2,k3,k4,k5,k6⟩:=hI.block hh rfl hr
    rw [hb'] at k1; cases k1
    have hno:=hL.lent h _ b base hbs hh hr
    have hlen : ((ys.drop off).take len).length = len:=by simp; omega
    by_cases h0 : len = 0
    ·subst h0
     simp only [List.take_zero]
     exact .lempty _ _ _ (by simp)
    ·have ho : o = base + off * E.reg.sz T:=by omega
     subst ho
     have hfl : (Ct.flat E.reg (.arr T ys)).length = ys.length * E.reg.sz T:=flat_len (E.reg.len T) ys
     have hget : ∀ (i : Nat) x,((ys.drop off).take len)[i]? = some x → ys[off + i]? = some x ∧ i < len:=fun i x hx=>by
      rw [List.getElem?_take] at hx
      split at hx
      ·rename_i hi; rw [List.getElem?_drop] at hx; exact ⟨hx,hi⟩
      ·cases hx
     have key:=Den.lst (R:=E.reg) (ρ:=fun k=>ρ (f k)) (O:=O') (w:=w) T ((ys.drop off).take len) b (base + off * E.reg.sz T) cap c F fz (fun i j=>c.getD (base + ((off + i) * E.reg.sz T + j)) undef) hno hb' (by omega)
      (fun i x hx j hj=>by
       obtain ⟨hx,hi⟩:=hget i x hx
       have hle : (off + i) * E.reg.sz T + E.reg.sz T ≤ ys.length * E.reg.sz T:=by
        have : (off + i + 1) * E.reg.sz T ≤ ys.length * E.reg.sz T:=Nat.mul_le_mul_right _ (by omega)
        rwa [Nat.add_mul,Nat.one_mul] at this
       have:=k4 ((off + i) * E.reg.sz T + j) (by omega)
       rw [← this,Nat.add_mul]
       congr 1; omega)
      (fun i x hx j s hs=>by
       obtain ⟨hx,hi⟩:=hget i x hx
       have hj : j < E.reg.sz T:=by have:=(List.getElem?_eq_some_iff.1 hs).1; rwa [E.reg.len] at this
       have:=k5 _ s ((flat_get (E.reg.len T) ys (off + i) j x hx hj).trans hs)
       exact (this.mono g).closed (E.reg.closed T x j s hs))
     rw [hlen] at key
     exact key
  ·exact he.elim
 ·rename_i T xs hp
  have hp : p = .lst T xs:=by cases p <;> simp only [ren] at hp <;> cases hp; rfl
  subst hp; subst he
  obtain rfl:=val_inv hv
  exact .lnil _ _ rfl
 ·exact (hv.mono g).unren p he
theorem entL_len {R : Reg A} : ∀ {cs ps : List (SV A)},EntL R st cs ps → cs.length = ps.length
 | [],[],_=>rfl
 | _ :: _,_ :: _,h=>by simp [entL_len h.2]
 | [],_ :: _,h=>h.elim
 | _ :: _,[],h=>h.elim
theorem entL_get {R : Reg A} : ∀ {cs ps : List (SV A)},EntL R st cs ps → ∀ (j : Nat) c p,cs[j]? = some c → ps[j]? = some p → EntA0 R st c p ∧ ∀ h ∈ bor0 c p,h ∈ borL cs ps
 | [],_,_,j,c,p,h,_=>by simp at h
 | _ :: _,[],h,_,_,_,_,_=>h.elim
 | c0 :: cs,p0 :: ps,h,j,c,p,hc,hp=>by
  cases j with
  | zero=>simp at hc hp; subst hc; subst hp; exact ⟨h.1,fun k hk=>by simp [borL,hk]⟩
  | succ j=>
   obtain ⟨h1,h2⟩:=entL_get h.2 j c p (by simpa using hc) (by simpa using hp)
   exact ⟨h1,fun k hk=>by simp [borL,h2 k hk]⟩
theorem bor0_ren (f : Nat → Nat) (c p : SV A) : bor0 c (ren f p) = bor0 c p:=by
 cases c <;> cases p <;> simp only [ren,bor0]
theorem borL_ren (f : Nat → Nat) : ∀ (cs ps : List (SV A)),borL cs (renL f ps) = borL cs ps
 | [],ps=>by cases ps <;> rfl
 | _ :: _,[]=>rfl
 | c :: cs,p :: ps=>by simp only [renL,borL,bor0_ren,borL_ren f cs ps]
theorem bor_ren (f : Nat → Nat) (c p : SV A) : bor c (ren f p) = bor c p:=by
 cases c <;> cases p <;> simp only [ren,bor,bor0,borL_ren]
theorem borAL_ren (f : Nat → Nat) : ∀ (cs ps : List (SV A)),borAL cs (renL f ps) = borAL cs ps
 | [],ps=>by cases ps <;> rfl
 | _ :: _,[]=>rfl
 | c :: cs,p :: ps=>by simp only [renL,borAL,bor_ren,borAL_ren f cs ps]
theorem ent_den (hI : SInv E.reg n X E0 ρ0 w0 st ρ a w) {O' : Nat → Prop} {bs : List Nat} (hL : Lend E.reg st ρ (fun b=>X b ∨ OwnB st.h ρ b) O' bs) {c p : SV A} {f : Nat → Nat} (he : EntA E.reg st c (ren f p)) (hb : ∀ h ∈ bor c p,h ∈ bs)
  {v : Value} (hv : Den E.reg ρ (fun b=>X b ∨ OwnB st.h ρ b) w c v) : Den E.reg (fun k=>ρ (f k)) O' w p v:=by
 unfold EntA at he
 split at he
 ·rename_i cs ps hp
  obtain ⟨qs,rfl,hq⟩ : ∃ qs,p = .agg qs ∧ ps = renL f qs:=by cases p <;> simp only [ren] at hp <;> cases hp; exact ⟨_,rfl,rfl⟩
  subst hq
  cases hv with
  | agg _ vs hl hd=>
   have hlen:=entL_len he
   rw [renL_eq,List.length_map] at hlen
   refine .agg qs vs (by omega) fun j s v hs hv=>?_
   have hj : j < cs.length:=by have:=(List.getElem?_eq_some_iff.1 hs).1; omega
   have hcj : cs[j]? = some cs[j]:=List.getElem?_eq_getElem hj
   obtain ⟨e1,e2⟩:=entL_get he j _ (ren f s) hcj (by rw [renL_eq,List.getElem?_map,hs]; rfl)
   refine ent0_den hI hL e1 (fun h hh=>hb h ?_) (hd j _ v hcj hv)
   have:=e2 h (by rwa [bor0_ren])
   rwa [borL_ren] at this
 ·refine ent0_den hI hL he (fun h hh=>hb h ?_) hv
  unfold bor
  split
  ·simp only [bor0] at hh; cases hh
  ·exact hh
theorem entAL_len {R : Reg A} : ∀ {cs ps : List (SV A)},EntAL R st cs ps → cs.length = ps.length
 | [],[],_=>rfl
 | _ :: _,_ :: _,h=>by simp [entAL_len h.2]
 | [],_ :: _,h=>h.elim
 | _ :: _,[],h=>h.elim
theorem entAL_get {R : Reg A} : ∀ {cs ps : List (SV A)},EntAL R st cs ps → ∀ (j : Nat) c p,cs[j]? = some c → ps[j]? = some p → EntA R st c p ∧ ∀ h ∈ bor c p,h ∈ borAL cs ps
 | [],_,_,j,c,p,h,_=>by simp at h
 | _ :: _,[],h,_,_,_,_,_=>h.elim
 | c0 :: cs,p0 :: ps,h,j,c,p,hc,hp=>by
  cases j with
  | zero=>simp at hc hp; subst hc; subst hp; exact ⟨h.1,fun k hk=>by simp [borAL,hk]⟩
  | succ j=>
   obtain ⟨h1,h2⟩:=entAL_get h.2 j c p (by simpa using hc) (by simpa using hp)
   exact ⟨h1,fun k hk=>by simp [borAL,h2 k hk]⟩
theorem entAL_den (hI : SInv E.reg n X E0 ρ0 w0 st ρ a w) {O' : Nat → Prop} {bs : List Nat} (hL : Lend E.reg st ρ (fun b=>X b ∨ OwnB st.h ρ b) O' bs) {cs ps : List (SV A)} {f : Nat → Nat} (he : EntAL E.reg st cs (renL f ps)) (hb : ∀ h ∈ borAL cs ps,h ∈ bs)
  {vs : List Value} (hv : DenL E.reg ρ (fun b=>X b ∨ OwnB st.h ρ b) w cs vs) : DenL E.reg (fun k=>ρ (f k)) O' w ps vs:=by
 have hlen:=entAL_len he
 rw [renL_eq,List.length_map] at hlen
 refine ⟨by rw [← hlen]; exact hv.1,fun j s v hs hvj=>?_⟩
 have hj : j < cs.length:=by have:=(List.getElem?_eq_some_iff.1 hs).1; omega
 have hcj : cs[j]? = some cs[j]:=List.getElem?_eq_getElem hj
 obtain ⟨e1,e2⟩:=entAL_get he j _ (ren f s) hcj (by rw [renL_eq,List.getElem?_map,hs]; rfl)
 refine ent_den hI hL e1 (fun h hh=>hb h ?_) (hv.2 j _ v hcj hvj)
 have:=e2 h (by rwa [bor_ren])
 rwa [borAL_ren] at this
theorem ownAt_spec {f : Nat → Nat} : ∀ {hs : List Nat} {cs : List (Ct A)},ownAt st f hs cs → hs.length = cs.length ∧ ∀ (j : Nat) h c,hs[j]? = some h → cs[j]? = some c → st.h h = some (renCt f c)
 | [],[],_=>⟨rfl,fun j h c hh=>by simp at hh⟩
 | [],_ :: _,h=>h.elim
 | _ :: _,[],h=>h.elim
 | h0 :: hs,c0 :: cs,h=>by
  obtain ⟨h1,h2⟩:=ownAt_spec h.2
  refine ⟨by simp [h1],fun j h c hh hc=>?_⟩
  cases j with
  | zero=>simp at hh hc; subst hh; subst hc; exact h.1
  | succ j=>exact h2 j h c (by simpa using hh) (by simpa using hc)
end
end Go.Sx
namespace Go.Sx
open Go
variable {A : Nat → Type}
section
variable {P : Program} {E : Env A} {n : Nat} {X E0 : Nat → Prop} {ρ0 : Rho} {w0 : World} {st : St A} {ρ : Rho} {a : Act} {w : World} {fl : Nat → Bool}
theorem target_run (hI : SInv E.reg n X E0 ρ0 w0 st ρ a w) {fo : Operand} {fv : SV A} (hfo : st.ev fo = some fv) {f : FuncId} {A1 B1 : List (SV A)} (ht : target fv = some (f,A1,B1)) (args : Array Value) :
  ∃ (u1 u2 : Array Value),Deferred.ofValue (a.eval fo) args = pure { target:=.fn (.func f) u2,args:=u1 ++ args } ∧
   DenL E.reg ρ (fun b=>X b ∨ OwnB st.h ρ b) w A1 u1.toList ∧ DenL E.reg ρ (fun b=>X b ∨ OwnB st.h ρ b) w B1 u2.toList ∧ menL st.u A1 = true ∧ menL st.u B1 = true:=by
 obtain ⟨h1,h2⟩:=hI.ev hfo
 unfold target at ht
 split at ht
 ·cases ht
  obtain hv:=val_inv h1
  rw [hv]
  exact ⟨#[],#[],rfl,⟨rfl,fun j s v h=>by simp at h⟩,⟨rfl,fun j s v h=>by simp at h⟩,rfl,rfl⟩
 ·cases ht
  generalize a.eval fo = u at h1
  cases h1 with
  | fn _ _ _ us vs l1 d1 l2 d2=>
   simp only [men,Bool.and_eq_true] at h2
   exact ⟨us,vs,rfl,⟨by simpa using l1,fun j s v hs hv=>d1 j s v hs (by rwa [Array.getElem?_toList] at hv)⟩,⟨by simpa using l2,fun j s v hs hv=>d2 j s v hs (by rwa [Array.getElem?_toList] at hv)⟩,h2.1,h2.2⟩
 ·cases ht
theorem DenL.append {R : Reg A} {O : Nat → Prop} {s1 s2 : List (SV A)} {v1 v2 : List Value} (h1 : DenL R ρ O w s1 v1) (h2 : DenL R ρ O w s2 v2) : DenL R ρ O w (s1 ++ s2) (v1 ++ v2):=by
 refine ⟨by simp [h1.1,h2.1],fun j s v hs hv=>?_⟩
 by_cases hj : j < s1.length
 ·rw [List.getElem?_append_left hj] at hs
  rw [List.getElem?_append_left (by have:=h1.1; omega)] at hv
  exact h1.2 j s v hs hv
 ·rw [List.getElem?_append_right (by omega)] at hs
  rw [List.getElem?_append_right (by have:=h1.1; omega),← h1.1] at hv
  exact h2.2 _ s v hs hv
mutual
theorem men_ren {f : Nat → Nat} {p q : Nat → Bool} (h : ∀ k,p k = true → q (f k) = true) : ∀ s : SV A,men p s = true → men q (ren f s) = true
 | .ptr k _ _ _=>fun hm=>h k hm
 | .sl k _ _ _=>fun hm=>h k hm
 | .mp k=>fun hm=>h k hm
 | .agg cs=>fun hm=>menL_ren h cs hm
 | .tup cs=>fun hm=>menL_ren h cs hm
 | .fn _ a b=>fun hm=>by
  simp only [men,ren,Bool.and_eq_true] at hm ⊢
  exact ⟨menL_ren h a hm.1,menL_ren h b hm.2⟩
 | .val _=>fun _=>rfl
 | .lst _ _=>fun _=>rfl
 | .prow cs _=>fun hm=>menL_ren h cs hm
 | .aggl _ _=>fun _=>rfl
theorem menL_ren {f : Nat → Nat} {p q : Nat → Bool} (h : ∀ k,p k = true → q (f k) = true) : ∀ cs : List (SV A),menL p cs = true → menL q (renL f cs) = true
 | []=>fun _=>rfl
 | c :: cs=>fun hm=>by
  simp only [menL,renL,Bool.and_eq_true] at hm ⊢
  exact ⟨men_ren h c hm.1,menL_ren h cs hm.2⟩
end
theorem menCt_ren {f : Nat → Nat} {p q : Nat → Bool} (h : ∀ k,p k = true → q (f k) = true) (ct : Ct A) (hm : menCt p ct = true) : menCt q (renCt f ct) = true:=by
 cases ct with
 | cells cs=>exact menL_ren h cs hm
 | row E cs=>exact menL_ren h cs hm
 | arr T xs=>rfl
 | map K V es=>rfl
 | obj k Q=>rfl
theorem flatCt_get (hfl : FlOk E.reg fl) {ct : Ct A} (h : (match ct with | .cells cs=>flatL fl cs | .row _ cs=>flatL fl cs | .arr T _=>fl T | .map ..=>true | .obj ..=>true) = true) (j : Nat) (s : SV A) (hs : (ct.flat E.reg)[j]? = some s) : flatS fl s = true:=by
 cases ct with
 | cells cs=>exact flatL_get h j s hs
 | row E cs=>exact flatL_get h j s hs
 | arr T xs=>exact flatMap_get (P:=fun s=>flatS fl s = true) (fun x _ i s hi=>hfl T h x i s hi) j s hs
 | map K V es=>simp [Ct.flat] at hs
 | obj k Q=>
  match j with
  | 0=>simp [Ct.flat] at hs; subst hs; rfl
  | j + 1=>simp [Ct.flat] at hs
theorem ids_len : ∀ n,(ids n).length = n
 | 0=>rfl
 | n + 1=>by simp [ids,ids_len n]
theorem ids_get : ∀ (n j : Nat),j < n → (ids n)[j]? = some j
 | 0,j,h=>by omega
 | n + 1,j,h=>by
  simp only [ids]
  rw [List.getElem?_append]
  split
  ·rename_i hj; exact ids_get n j (by rwa [ids_len] at hj)
  ·rename_i hj
   rw [ids_len] at hj ⊢
   have : j = n:=by omega
   subst this; simp
theorem call_core0 (hfl : FlOk E.reg fl) (hI : SInv E.reg n X E0 ρ0 w0 st ρ a w) {vs : List (SV A)} {us : Array Value} (hargs : DenL E.reg ρ (fun b=>X b ∨ OwnB st.h ρ b) w vs us.toList) {s : Spec A} {g : s.γ} {θ : List Nat} {kp : Bool} {d : Nat}
  {K : SV A → List (Nat × Option (Ct A)) → Prop} (hf : fresh st.u (callEff0 E.reg fl st d vs s g θ kp).new = true) (hr : (callEff0 E.reg fl st d vs s g θ kp).b.run K) :
  s.pre g ∧ ∃ (X' : Nat → Prop) (ρq : Rho),(∀ b,X' b → b < w.heap.size) ∧ (∀ b,X' b → ¬ Blk ((s.own g).map some) ρq b) ∧
   DenL E.reg ρq (fun b=>X' b ∨ Blk ((s.own g).map some) ρq b) w (s.args g) us.toList ∧ DenHs E.reg ρq (fun b=>X' b ∨ Blk ((s.own g).map some) ρq b) w ((s.own g).map some) ∧
   ((s.own g).length = θ.length ∧ (∀ (j k : Nat),θ[j]? = some k → ρq j = ρ k ∧ ∃ ct,st.h k = some ct) ∧ (∀ b,Blk ((s.own g).map some) ρq b → OwnB st.h ρ b) ∧ θ.Nodup) ∧
   ∀ e w',MPost E.reg s g X' ρq w e w' → ∃ v sv hs ρ',e = .returned v ∧ K sv hs ∧ ∀ dst,okDst n dst = true → SInv E.reg n X E0 ρ0 w0 (st.upd dst sv hs (callEff0 E.reg fl st d vs s g θ kp).new) ρ' (a.put dst v) w':=by
 simp only [callEff0,forceL_eq] at hf hr ⊢
 generalize hnews : newNames d s.nnew = news at *
 generalize hbs : borAL vs (s.args g) = bs at *
 obtain ⟨⟨hpre,hent,hown,hdis,hkp⟩,hne,hall⟩:=hr
 have hbn : disj bs θ = true ∧ nodup θ = true:=by
  unfold disOk at hdis
  split at hdis
  ·rename_i h1 h2; exact ⟨h1,h2⟩
  ·exact hdis.elim
 have hbθ:=disj_spec hbn.1
 have hθn:=nodup_spec hbn.2
 obtain ⟨hnl,hownd⟩:=ownAt_spec hown
 have hnewlen : news.length = s.nnew:=by rw [← hnews]; exact (newNames_spec d s.nnew).1
 have hnewnd : news.Nodup:=by rw [← hnews]; exact newNames_nodup d s.nnew
 have hnewfresh:=fresh_spec hf
 have hfθ : ∀ (j k : Nat),θ[j]? = some k → thr (θ ++ news) j = k:=fun j k h=>thr_get (by rw [List.getElem?_append_left (List.getElem?_eq_some_iff.1 h).1]; exact h)
 have hfn : ∀ (j k : Nat),news[j]? = some k → thr (θ ++ news) (θ.length + j) = k:=fun j k h=>thr_get (by rw [List.getElem?_append_right (by omega)]; rw [Nat.add_sub_cancel_left]; exact h)
 have hθlive : ∀ k ∈ θ,∃ ct,st.h k = some ct:=fun k hk=>by
  obtain ⟨j,hj⟩:=List.getElem?_of_mem hk
  have hlt : j < (s.own g).length:=by have:=(List.getElem?_eq_some_iff.1 hj).1; omega
  exact ⟨_,hownd j k _ hj (List.getElem?_eq_getElem hlt)⟩
 have hnθ : ∀ k ∈ news,k ∉ θ:=fun k hk hm=>by
  obtain ⟨ct,hct⟩:=hθlive k hm
  have:=(hI.used k ct hct).1
  rw [hnewfresh k hk] at this; cases this
 have hθnnd : (θ ++ news).Nodup:=List.nodup_append.2 ⟨hθn,hnewnd,fun x hx y hy hxy=>hnθ y hy (hxy ▸ hx)⟩
 let X' : Nat → Prop:=fun b=>X b ∨ ∃ h ct base,h ∉ θ ∧ h ∉ bs ∧ st.h h = some ct ∧ ρ h = some (b,base)
 have hblk : ∀ b,Blk ((s.own g).map some) (fun k=>ρ (thr (θ ++ news) k)) b ↔ ∃ h ct base,h ∈ θ ∧ st.h h = some ct ∧ ρ h = some (b,base):=fun b=>by
  constructor
  ·rintro ⟨j,ct,base,hj,hr⟩
   have hlt : j < (s.own g).length:=by have:=(List.getElem?_eq_some_iff.1 hj).1; simpa using this
   have hk : θ[j]? = some θ[j]:=List.getElem?_eq_getElem (by omega)
   refine ⟨θ[j],_,base,List.getElem_mem _,hownd j _ _ hk (List.getElem?_eq_getElem hlt),?_⟩
   have hr1 : ρ (thr (θ ++ news) j) = some (b,base):=hr
   rwa [hfθ j _ hk] at hr1
  ·rintro ⟨h,ct,base,hmem,hh,hr⟩
   obtain ⟨j,hj⟩:=List.getElem?_of_mem hmem
   have hlt : j < (s.own g).length:=by have:=(List.getElem?_eq_some_iff.1 hj).1; omega
   exact ⟨j,(s.own g)[j],base,by simp [hlt],by show ρ (thr (θ ++ news) j) = _; rw [hfθ j h hj]; exact hr⟩
 have hlt : ∀ h ct b base,st.h h = some ct → ρ h = some (b,base) → b < w.heap.size:=fun h ct b base hh hr=>by
  have:=hI.hs h ct hh
  rw [hr] at this
  exact this.lt
 have hX1 : ∀ b,X' b → b < w.heap.size:=fun b hb=>by
  rcases hb with hb | ⟨h,ct,base,_,_,hh,hr⟩
  ·exact Nat.lt_of_lt_of_le (hI.xlt b hb).1 hI.rel.size
  ·exact hlt h ct b base hh hr
 have hX2 : ∀ b,X' b → ¬ Blk ((s.own g).map some) (fun k=>ρ (thr (θ ++ news) k)) b:=fun b hb hB=>by
  obtain ⟨h',ct',base',hm',hh',hr'⟩:=(hblk b).1 hB
  rcases hb with hb | ⟨h,ct,base,hn1,hn2,hh,hr⟩
  ·exact (hI.own h' ct' b base' hh' hr').2 hb
  ·exact hn1 (hI.inj h h' ct ct' b base base' hh hh' hr hr' ▸ hm')
 have hO : ∀ b,(X' b ∨ Blk ((s.own g).map some) (fun k=>ρ (thr (θ ++ news) k)) b) → (X b ∨ OwnB st.h ρ b):=fun b hb=>by
  rcases hb with (hb | ⟨h,ct,base,_,_,hh,hr⟩) | hb
  ·exact .inl hb
  ·exact .inr ⟨h,ct,base,hh,hr⟩
  ·obtain ⟨h,ct,base,_,hh,hr⟩:=(hblk b).1 hb
   exact .inr ⟨h,ct,base,hh,hr⟩
 have hLend : Lend E.reg st ρ (fun b=>X b ∨ OwnB st.h ρ b) (fun b=>X' b ∨ Blk ((s.own g).map some) (fun k=>ρ (thr (θ ++ news) k)) b) bs:=⟨hO,fun h ct b base hb hh hr hx=>by
  rcases hx with (hx | ⟨h',ct',base',hn1,hn2,hh',hr'⟩) | hx
  ·exact (hI.own h ct b base hh hr).2 hx
  ·exact hn2 (hI.inj h h' ct ct' b base base' hh hh' hr hr' ▸ hb)
  ·obtain ⟨h',ct',base',hm',hh',hr'⟩:=(hblk b).1 hx
   exact hbθ h hb (hI.inj h h' ct ct' b base base' hh hh' hr hr' ▸ hm')⟩
 have gO : Goes (fun b=>X b ∨ OwnB st.h ρ b) (fun b=>X' b ∨ Blk ((s.own g).map some) (fun k=>ρ (thr (θ ++ news) k)) b) w w:=⟨fun b _ _ _ hn hb=>⟨fun h=>hn (hO b h),hb⟩,fun _ c _ fz h=>⟨c,fz,h,rfl⟩,fun _ _ h=>h⟩
 have hargs':=entAL_den hI hLend hent (fun h hh=>by rw [← hbs]; exact hh) hargs
 have hown' : DenHs E.reg (fun k=>ρ (thr (θ ++ news) k)) (fun b=>X' b ∨ Blk ((s.own g).map some) (fun k=>ρ (thr (θ ++ news) k)) b) w ((s.own g).map some):=by
  refine ⟨fun j ct hj=>?_,fun j j' ct ct' b base base' hj hj' hr hr'=>?_⟩
  ·rw [List.getElem?_map] at hj
   cases hc : (s.own g)[j]? with
   | none=>rw [hc] at hj; cases hj
   | some c0=>
    rw [hc] at hj; cases hj
    have hl:=(List.getElem?_eq_some_iff.1 hc).1
    have hk : θ[j]? = some θ[j]:=List.getElem?_eq_getElem (by omega)
    have hst:=hownd j _ _ hk hc
    have:=((hI.hs _ _ hst).mono gO (fun _ _ _=>rfl)).unren
    rw [← hfθ j _ hk] at this
    exact this
  ·have l1 : j < (s.own g).length:=by have:=(List.getElem?_eq_some_iff.1 hj).1; simpa using this
   have l2 : j' < (s.own g).length:=by have:=(List.getElem?_eq_some_iff.1 hj').1; simpa using this
   have k1 : θ[j]? = some θ[j]:=List.getElem?_eq_getElem (by omega)
   have k2 : θ[j']? = some θ[j']:=List.getElem?_eq_getElem (by omega)
   have hr1 : ρ (thr (θ ++ news) j) = some (b,base):=hr
   have hr2 : ρ (thr (θ ++ news) j') = some (b,base'):=hr'
   rw [hfθ j _ k1] at hr1
   rw [hfθ j' _ k2] at hr2
   have:=hI.inj _ _ _ _ b base base' (hownd j _ _ k1 (List.getElem?_eq_getElem l1)) (hownd j' _ _ k2 (List.getElem?_eq_getElem l2)) hr1 hr2
   exact (List.getElem_inj hθn).1 this
 refine ⟨hpre,X',(fun k=>ρ (thr (θ ++ news) k)),hX1,hX2,hargs',hown',⟨hnl.symm,fun j k hj=>⟨?_,hθlive k (List.mem_of_getElem? hj)⟩,fun b hb=>?_,hθn⟩,fun e w' hpost=>?_⟩
 ·show ρ (thr (θ ++ news) j) = ρ k
  rw [hfθ j k hj]
 ·obtain ⟨h,ct,base,_,hh,hr⟩:=(hblk b).1 hb
  exact ⟨h,ct,base,hh,hr⟩
 obtain ⟨dd,ρ',v,hp,rfl,hρold,hres,hhs',hnewb,hlen',hmres,hmct,hrel⟩:=hpost
 have hK:=hall dd hp
 let ρ2 : Rho:=fun h=>if h ∈ news then ρ' (θ.length + news.idxOf h) else ρ h
 have hρ2 : ∀ h,st.u h = true → ρ2 h = ρ h:=fun h hu=>by
  show (if h ∈ news then _ else _) = _
  rw [if_neg]
  intro hm; rw [hnewfresh h hm] at hu; cases hu
 have hlθ : θ.length = (s.own g).length:=hnl
 have hagree : ∀ k,Nat.blt k ((s.own g).length + s.nnew) = true → ρ2 (thr (θ ++ news) k) = ρ' k:=fun k hk=>by
  have hk : k < (s.own g).length + s.nnew:=(Nat.blt_eq (x:=k) (y:=(s.own g).length + s.nnew)) ▸ hk
  by_cases h1 : k < θ.length
  ·have hkk : θ[k]? = some θ[k]:=List.getElem?_eq_getElem h1
   rw [hfθ k _ hkk]
   have : θ[k] ∉ news:=fun hm=>hnθ _ hm (List.getElem_mem _)
   show (if θ[k] ∈ news then _ else _) = _
   rw [if_neg this,hρold k (by omega)]
   show ρ θ[k] = ρ (thr (θ ++ news) k)
   rw [hfθ k _ hkk]
  ·have hj : k - θ.length < news.length:=by omega
   have hkk : news[k - θ.length]? = some news[k - θ.length]:=List.getElem?_eq_getElem hj
   have:=hfn (k - θ.length) _ hkk
   rw [show θ.length + (k - θ.length) = k by omega] at this
   rw [this]
   show (if news[k - θ.length] ∈ news then _ else _) = _
   rw [if_pos (List.getElem_mem _),hnewnd.idxOf_getElem]
   congr 1; omega
 have hlen2 : (θ ++ news).length = (s.own' g dd).length:=by rw [List.length_append,hlen',hlθ,hnewlen]
 have hst' : ∀ h,updH st.h (updsOf (thr (θ ++ news)) (θ ++ news) (s.own' g dd) ++ tailOf kp bs) h =
   if h ∈ θ ++ news then (match (s.own' g dd)[(θ ++ news).idxOf h]? with | some (some c)=>some (renCt (thr (θ ++ news)) c) | _=>none) else (if kp = false ∧ h ∈ bs then none else st.h h):=fun h=>by
  rw [updH_app _ _ _ _ hθnnd hlen2]
  split
  ·rfl
  ·cases kp with
   | true=>
    have ht : tailOf (A:=A) true bs = []:=rfl
    rw [ht]; simp [updH]
   | false=>
    have ht : tailOf (A:=A) false bs = gone bs:=rfl
    rw [ht,updH_gone]; simp
 have hin : ∀ h ct,h ∈ θ ++ news → updH st.h (updsOf (thr (θ ++ news)) (θ ++ news) (s.own' g dd) ++ tailOf kp bs) h = some ct → ∃ k c0,(θ ++ news)[k]? = some h ∧ (s.own' g dd)[k]? = some (some c0) ∧ ct = renCt (thr (θ ++ news)) c0 ∧ ρ2 h = ρ' k:=fun h ct hm hh=>by
  rw [hst',if_pos hm] at hh
  split at hh
  ·rename_i c0 hc0
   cases hh
   have hi : (θ ++ news)[(θ ++ news).idxOf h]? = some h:=by
    have hlt:=List.idxOf_lt_length_of_mem hm
    rw [List.getElem?_eq_getElem hlt,List.getElem_idxOf hlt]
   refine ⟨_,c0,hi,hc0,rfl,?_⟩
   have:=hagree ((θ ++ news).idxOf h) (by
    have hlt:=List.idxOf_lt_length_of_mem hm
    rw [hlen2,hlen'] at hlt
    exact (Nat.blt_eq (x:=(θ ++ news).idxOf h) (y:=(s.own g).length + s.nnew)) ▸ hlt)
   rwa [thr_get hi] at this
  ·cases hh
 have hout : ∀ h ct,h ∉ θ ++ news → updH st.h (updsOf (thr (θ ++ news)) (θ ++ news) (s.own' g dd) ++ tailOf kp bs) h = some ct → st.h h = some ct ∧ ¬ (kp = false ∧ h ∈ bs) ∧ ρ2 h = ρ h:=fun h ct hm hh=>by
  rw [hst',if_neg hm] at hh
  split at hh
  ·cases hh
  ·rename_i hk; exact ⟨hh,hk,hρ2 h (hI.used h ct hh).1⟩
 have hblk' : ∀ b h ct base,h ∈ θ ++ news → updH st.h (updsOf (thr (θ ++ news)) (θ ++ news) (s.own' g dd) ++ tailOf kp bs) h = some ct → ρ2 h = some (b,base) → Blk (s.own' g dd) ρ' b:=fun b h ct base hm hh hr=>by
  obtain ⟨k,c0,_,h2,_,h4⟩:=hin h ct hm hh
  exact ⟨k,c0,base,h2,h4 ▸ hr⟩
 have hO2 : ∀ b,(X b ∨ OwnB (updH st.h (updsOf (thr (θ ++ news)) (θ ++ news) (s.own' g dd) ++ tailOf kp bs)) ρ2 b) → (X b ∨ OwnB st.h ρ b) ∨ w.heap.size ≤ b:=fun b hb=>by
  rcases hb with hb | ⟨h,ct,base,hh,hr⟩
  ·exact .inl (.inl hb)
  ·by_cases hm : h ∈ θ ++ news
   ·rcases (hnewb b (hblk' b h ct base hm hh hr)).1 with h1 | h1
    ·obtain ⟨h',ct',base',_,hh',hr'⟩:=(hblk b).1 h1
     exact .inl (.inr ⟨h',ct',base',hh',hr'⟩)
    ·exact .inr h1
   ·obtain ⟨h1,_,h3⟩:=hout h ct hm hh
    exact .inl (.inr ⟨h,ct,base,h1,h3 ▸ hr⟩)
 have hO3 : (kp = false ∨ bs = []) → ∀ b,(X b ∨ OwnB (updH st.h (updsOf (thr (θ ++ news)) (θ ++ news) (s.own' g dd) ++ tailOf kp bs)) ρ2 b) → X' b ∨ Blk (s.own' g dd) ρ' b:=fun hk b hb=>by
  rcases hb with hb | ⟨h,ct,base,hh,hr⟩
  ·exact .inl (.inl hb)
  ·by_cases hm : h ∈ θ ++ news
   ·exact .inr (hblk' b h ct base hm hh hr)
   ·obtain ⟨h1,h2,h3⟩:=hout h ct hm hh
    refine .inl (.inr ⟨h,ct,base,fun hx=>hm (List.mem_append.2 (.inl hx)),fun hx=>?_,h1,h3 ▸ hr⟩)
    rcases hk with hk | hk
    ·exact h2 ⟨hk,hx⟩
    ·rw [hk] at hx; cases hx
 have carry : ∀ {sv : SV A} {v : Value},Den E.reg ρ' (fun b=>X' b ∨ Blk (s.own' g dd) ρ' b) w' sv v → ((kp = true ∧ bs ≠ []) → flatS fl sv = true) →
   Den E.reg ρ' (fun b=>X b ∨ OwnB (updH st.h (updsOf (thr (θ ++ news)) (θ ++ news) (s.own' g dd) ++ tailOf kp bs)) ρ2 b) w' sv v:=fun {sv v} hden hflat=>by
  by_cases hk : kp = false ∨ bs = []
  ·exact hden.mono ⟨fun b _ _ _ hn hb=>⟨fun h=>hn (hO3 hk b h),hb⟩,fun _ c _ fz h=>⟨c,fz,h,rfl⟩,fun _ _ h=>h⟩
  ·refine hden.flat hfl (hflat ⟨?_,fun e=>hk (.inr e)⟩)
   cases kp with
   | true=>rfl
   | false=>exact absurd (.inl rfl) hk
 have hflatres : (kp = true ∧ bs ≠ []) → flatRes fl s g:=fun ⟨h1,h2⟩=>by
  subst h1
  exact hkp.resolve_left h2
 have hnames : ∀ k,Nat.blt k ((s.own g).length + s.nnew) = true → updU st.u news (thr (θ ++ news) k) = true:=fun k hk=>by
  have hk : k < (s.own g).length + s.nnew:=(Nat.blt_eq (x:=k) (y:=(s.own g).length + s.nnew)) ▸ hk
  have hkk : (θ ++ news)[k]? = some (θ ++ news)[k]:=List.getElem?_eq_getElem (by rw [List.length_append]; omega)
  rw [thr_get hkk]
  rcases List.mem_append.1 (List.getElem_mem (l:=θ ++ news) (by rw [List.length_append]; omega) : (θ ++ news)[k] ∈ θ ++ news) with hm | hm
  ·obtain ⟨ct,hct⟩:=hθlive _ hm
   exact updU_old (hI.used _ ct hct).1
  ·exact updU_new hm
 refine ⟨v,_,_,ρ2,rfl,hK,fun dst hd=>hI.step hd hρ2 ?_ ?_ (fun h ct hh=>?_) (fun h h' ct ct' b base base' hh hh' hr hr'=>?_) ?_ (men_ren hnames _ hmres)⟩
 ·
  refine ⟨hrel.os.trans hI.rel.os,hrel.tape.trans hI.rel.tape,hrel.output.trans hI.rel.output,Nat.le_trans hI.rel.size hrel.size,fun b hb hnE=>?_,fun b c F fz hb=>?_⟩
  ·rw [← hI.rel.block b hb hnE]
   refine hrel.block b (Nat.lt_of_lt_of_le hb hI.rel.size) fun hB=>?_
   obtain ⟨h,ct,base,_,hh,hr⟩:=(hblk b).1 hB
   rcases (hI.own h ct b base hh hr).1 with h1 | h1
   ·exact hnE h1
   ·omega
  ·obtain ⟨c1,f1,h1,h2⟩:=hI.rel.shape b c F fz hb
   obtain ⟨c2,f2,h3,h4⟩:=hrel.shape b c1 F f1 h1
   exact ⟨c2,f2,h3,h4.trans h2⟩
 ·
  refine ⟨fun b c F fz hno hb=>⟨fun hx=>?_,?_⟩,fun b c F fz hb=>hrel.shape b c F fz hb,fun b ds hb=>(hrel.block b (lt_of_heap hb) fun hB=>?_).trans hb⟩
  ·rcases hO2 b hx with h1 | h1
   ·exact hno h1
   ·have:=lt_of_heap hb; omega
  ·rw [hrel.block b (lt_of_heap hb) fun hB=>?_]; exact hb
   obtain ⟨h,ct,base,_,hh,hr⟩:=(hblk b).1 hB
   exact hno (.inr ⟨h,ct,base,hh,hr⟩)
  ·obtain ⟨h,ct,base,_,hh,hr⟩:=(hblk b).1 hB
   have hd0:=hI.hs h ct hh
   rw [hr] at hd0
   rcases hd0 with (⟨_,_,_,_,_,_,hm,_⟩ | ⟨_,_,_,_,_,_,_,_,hm,_⟩) | ⟨_,c,F,fz,hc,_⟩
   ·rw [hb] at hm; cases hm
   ·rw [hb] at hm; cases hm
   ·rw [hb] at hc; cases hc
 ·
  by_cases hm : h ∈ θ ++ news
  ·obtain ⟨k,c0,h1,h2,rfl,h4⟩:=hin h ct hm hh
   refine .inr ⟨?_,fun b base hr=>?_,?_,menCt_ren hnames c0 (hmct k c0 h2)⟩
   ·have hd0:=hhs'.den k c0 h2
    rw [h4]
    have hd1 : DenCt E.reg ρ' (fun b=>X b ∨ OwnB (updH st.h (updsOf (thr (θ ++ news)) (θ ++ news) (s.own' g dd) ++ tailOf kp bs)) ρ2 b) w' c0 (ρ' k):=by
     cases hrk : ρ' k with
     | none=>rw [hrk] at hd0; exact hd0
     | some p=>
      obtain ⟨b,base⟩:=p
      rw [hrk] at hd0
      rcases hd0 with hd0 | ⟨hnm,c,F,fz,g1,g2,g3,g4⟩
      ·exact .inl hd0
      exact .inr ⟨hnm,c,F,fz,g1,g2,g3,fun j sv u hs hu=>carry (g4 j sv u hs hu) fun hk=>flatCt_get hfl ((hflatres hk dd).2 k c0 h2) j sv hs⟩
    exact (hd1.rho (hmct k c0 h2) hagree).ren
   ·obtain ⟨g1,g2⟩:=hnewb b (hblk' b h _ base hm hh hr)
    refine ⟨?_,fun hx=>g2 (.inl hx)⟩
    rcases g1 with g1 | g1
    ·obtain ⟨h',ct',base',_,hh',hr'⟩:=(hblk b).1 g1
     exact (hI.own h' ct' b base' hh' hr').1
    ·exact .inr (Nat.le_trans hI.rel.size g1)
   ·rcases List.mem_append.1 hm with hm | hm
    ·obtain ⟨ct',hct⟩:=hθlive _ hm
     exact updU_old (hI.used _ ct' hct).1
    ·exact updU_new hm
  ·obtain ⟨h1,h2,h3⟩:=hout h ct hm hh
   refine .inl ⟨h1,fun b base hr=>hrel.block b (hlt h ct b base h1 hr) fun hB=>?_⟩
   obtain ⟨h',ct',base',hm',hh',hr'⟩:=(hblk b).1 hB
   exact hm (List.mem_append.2 (.inl (hI.inj h h' ct ct' b base base' h1 hh' hr hr' ▸ hm')))
 ·
  have cross : ∀ h h' ct ct' b base base',h ∈ θ ++ news → h' ∉ θ ++ news → updH st.h (updsOf (thr (θ ++ news)) (θ ++ news) (s.own' g dd) ++ tailOf kp bs) h = some ct →
    updH st.h (updsOf (thr (θ ++ news)) (θ ++ news) (s.own' g dd) ++ tailOf kp bs) h' = some ct' → ρ2 h = some (b,base) → ρ2 h' = some (b,base') → False:=fun h h' ct ct' b base base' hm hm' hh hh' hr hr'=>by
   obtain ⟨h1,h2,h3⟩:=hout h' ct' hm' hh'
   rw [h3] at hr'
   rcases (hnewb b (hblk' b h ct base hm hh hr)).1 with g1 | g1
   ·obtain ⟨h2',ct2,base2,hm2,hh2,hr2⟩:=(hblk b).1 g1
    exact hm' (List.mem_append.2 (.inl (hI.inj h' h2' ct' ct2 b base' base2 h1 hh2 hr' hr2 ▸ hm2)))
   ·have:=hlt h' ct' b base' h1 hr'; omega
  by_cases hm : h ∈ θ ++ news <;> by_cases hm' : h' ∈ θ ++ news
  ·obtain ⟨k,c0,h1,h2,_,h4⟩:=hin h ct hm hh
   obtain ⟨k',c0',h1',h2',_,h4'⟩:=hin h' ct' hm' hh'
   rw [h4] at hr
   rw [h4'] at hr'
   have:=hhs'.inj k k' c0 c0' b base base' h2 h2' hr hr'
   subst this
   rw [h1] at h1'; cases h1'; rfl
  ·exact (cross h h' ct ct' b base base' hm hm' hh hh' hr hr').elim
  ·exact (cross h' h ct' ct b base' base hm' hm hh' hh hr' hr).elim
  ·obtain ⟨h1,_,h3⟩:=hout h ct hm hh
   obtain ⟨h1',_,h3'⟩:=hout h' ct' hm' hh'
   exact hI.inj h h' ct ct' b base base' h1 h1' (h3 ▸ hr) (h3' ▸ hr')
 ·
  exact ((carry hres fun hk=>(hflatres hk dd).1).rho hmres hagree).ren
theorem updH_same {f : Nat → Option (Ct A)} {hs : List (Nat × Option (Ct A))} {k : Nat} (h : ∀ p ∈ hs,p.1 = k → p.2 = f k) : updH f hs k = f k:=by
 induction hs with
 | nil=>rfl
 | cons p hs ih=>
  obtain ⟨i,c⟩:=p
  show (match Nat.beq k i with | true=>c | false=>updH f hs k) = f k
  cases hb : Nat.beq k i with
  | true=>exact h (i,c) (by simp) (beq_true hb).symm
  | false=>exact ih fun p hp=>h p (by simp [hp])
theorem updH_skip {f : Nat → Option (Ct A)} : ∀ {l1 l2 : List (Nat × Option (Ct A))},(∀ p ∈ l1,p.2 = f p.1 ∧ ∀ q ∈ l2,q.1 ≠ p.1) → updH f (l1 ++ l2) = updH f l2
 | [],_,_=>rfl
 | (i,c) :: l1,l2,h=>by
  funext k
  show (match Nat.beq k i with | true=>c | false=>updH f (l1 ++ l2) k) = updH f l2 k
  rw [updH_skip fun p hp=>h p (List.mem_cons_of_mem _ hp)]
  cases hb : Nat.beq k i with
  | false=>rfl
  | true=>
   have e:=beq_true hb
   subst e
   obtain ⟨h1,h2⟩:=h (k,c) (by simp)
   exact h1.trans (updH_same fun p hp hpe=>(h2 p hp hpe).elim).symm
theorem updsOf_own {f : Nat → Nat} : ∀ {θ : List Nat} {cs : List (Ct A)},ownAt st f θ cs → ∀ p ∈ updsOf f θ (cs.map some),p.1 ∈ θ ∧ p.2 = st.h p.1
 | [],[],_,p,hp=>by cases hp
 | [],_ :: _,h,_,_=>h.elim
 | _ :: _,[],h,_,_=>h.elim
 | h :: θ,c :: cs,hh,p,hp=>by
  rcases List.mem_cons.1 hp with rfl | hp
  ·exact ⟨by simp,hh.1.symm⟩
  ·obtain ⟨h1,h2⟩:=updsOf_own hh.2 p hp
   exact ⟨List.mem_cons_of_mem _ h1,h2⟩
theorem tail_names {kp : Bool} {bs : List Nat} : ∀ p ∈ (tailOf kp bs : List (Nat × Option (Ct A))),p.1 ∈ bs:=by
 cases kp with
 | true=>intro p hp; cases hp
 | false=>
  show ∀ p ∈ (gone bs : List (Nat × Option (Ct A))),p.1 ∈ bs
  induction bs with
  | nil=>intro p hp; cases hp
  | cons b bs ih=>
   intro p hp
   rcases List.mem_cons.1 hp with rfl | hp
   ·simp
   ·exact List.mem_cons_of_mem _ (ih p hp)
theorem call_core (hfl : FlOk E.reg fl) (hI : SInv E.reg n X E0 ρ0 w0 st ρ a w) {vs : List (SV A)} {us : Array Value} (hargs : DenL E.reg ρ (fun b=>X b ∨ OwnB st.h ρ b) w vs us.toList) {s : Spec A} {g : s.γ} {θ : List Nat} {kp : Bool} {d : Nat}
  {K : SV A → List (Nat × Option (Ct A)) → Prop} (hf : fresh st.u (callEff E.reg fl st d vs s g θ kp).new = true) (hr : (callEff E.reg fl st d vs s g θ kp).b.run K) :
  s.pre g ∧ ∃ (X' : Nat → Prop) (ρq : Rho),(∀ b,X' b → b < w.heap.size) ∧ (∀ b,X' b → ¬ Blk ((s.own g).map some) ρq b) ∧
   DenL E.reg ρq (fun b=>X' b ∨ Blk ((s.own g).map some) ρq b) w (s.args g) us.toList ∧ DenHs E.reg ρq (fun b=>X' b ∨ Blk ((s.own g).map some) ρq b) w ((s.own g).map some) ∧
   ((s.own g).length = θ.length ∧ (∀ (j k : Nat),θ[j]? = some k → ρq j = ρ k ∧ ∃ ct,st.h k = some ct) ∧ (∀ b,Blk ((s.own g).map some) ρq b → OwnB st.h ρ b) ∧ θ.Nodup) ∧
   ∀ e w',MPost E.reg s g X' ρq w e w' → ∃ v sv hs ρ',e = .returned v ∧ K sv hs ∧ ∀ dst,okDst n dst = true → SInv E.reg n X E0 ρ0 w0 (st.upd dst sv hs (callEff E.reg fl st d vs s g θ kp).new) ρ' (a.put dst v) w':=by
 cases hro : s.ro with
 | false=>
  have e : callEff E.reg fl st d vs s g θ kp = callEff0 E.reg fl st d vs s g θ kp:=by unfold callEff; rw [hro]
  rw [e] at hf hr ⊢
  exact call_core0 hfl hI hargs hf hr
 | true=>
  have e : callEff E.reg fl st d vs s g θ kp = callEffR E.reg fl st vs s g θ kp:=by unfold callEff; rw [hro]
  rw [e] at hf hr ⊢
  simp only [callEffR,forceL_eq] at hr ⊢
  obtain ⟨⟨hpre,hent,hown,hdis,hkp,hnn,hsame⟩,hne,hall⟩:=hr
  have hnew : newNames d s.nnew = []:=by rw [hnn]; rfl
  have hds : disj (borAL vs (s.args g)) θ = true:=by
   unfold disOk at hdis
   split at hdis
   ·rename_i h1 h2; exact h1
   ·exact hdis.elim
  have heq : ∀ dd,updH st.h (updsOf (thr (θ ++ [])) (θ ++ []) (s.own' g dd) ++ tailOf kp (borAL vs (s.args g))) = updH st.h (tailOf kp (borAL vs (s.args g))):=fun dd=>by
   refine updH_skip fun p hp=>?_
   rw [hsame dd,List.append_nil] at hp
   rw [List.append_nil] at hown
   obtain ⟨h1,h2⟩:=updsOf_own hown p hp
   exact ⟨h2,fun q hq e=>disj_spec hds p.1 (e ▸ tail_names q hq) h1⟩
  have hr0 : (callEff0 E.reg fl st d vs s g θ kp).b.run fun v hs=>∃ hs',K v hs' ∧ updH st.h hs = updH st.h hs':=by
   simp only [callEff0,forceL_eq,hnew]
   exact ⟨⟨hpre,hent,hown,hdis,hkp⟩,hne,fun x hx=>⟨_,hall x hx,heq x⟩⟩
  have hf0 : fresh st.u (callEff0 E.reg fl st d vs s g θ kp).new = true:=by
   simp only [callEff0,forceL_eq,hnew]; rfl
  have hnew0 : (callEff0 E.reg fl st d vs s g θ kp).new = []:=by simp only [callEff0,forceL_eq,hnew]
  obtain ⟨q1,X',ρq,q2,q3,q4,q5,q6,q7⟩:=call_core0 hfl hI hargs hf0 hr0
  refine ⟨q1,X',ρq,q2,q3,q4,q5,q6,fun e w' hp=>?_⟩
  obtain ⟨v,sv,hs,ρ',h1,⟨hs',h2,h3⟩,h4⟩:=q7 e w' hp
  refine ⟨v,sv,hs',ρ',h1,h2,fun dst hd=>?_⟩
  have h5:=h4 dst hd
  rw [hnew0] at h5
  have h6 : st.upd dst sv hs [] = st.upd dst sv hs' []:=by unfold St.upd; rw [h3]
  rw [h6] at h5
  exact h5
theorem wp_call {ro : Option Nat} {m : Nat} (hfl : FlOk E.reg fl) (hI : SInv E.reg n X E0 ρ0 w0 st ρ a w) {o : Oper} (hd : okDst n o.dst = true) {fo : Operand} {args : List Operand} {ats : Array TypeId} (ho : o.op = .call ⟨.value fo,⟨args⟩,ats⟩)
  {fv : SV A} (hfo : st.ev fo = some fv) {vs : List (SV A)} (hvs : evs st.ev args = some vs) {f : FuncId} {A1 B1 : List (SV A)} (ht : target fv = some (f,A1,B1)) {s : Spec A} (hm : Meets P E.reg f s) {g : s.γ} {θ : List Nat} {kp : Bool} {d : Nat}
  {K : SV A → List (Nat × Option (Ct A)) → Prop} {next : Act → World → Prop} {Q : Exit → Act → World → Prop}
  (hf : fresh st.u (callEff E.reg fl st d (A1 ++ vs ++ B1) s g θ kp).new = true) (hr : (callEff E.reg fl st d (A1 ++ vs ++ B1) s g θ kp).b.run K)
  (hn : ∀ v hs ρ' a' w',K v hs → SInv E.reg n X E0 ρ0 w0 (st.upd o.dst v hs (callEff E.reg fl st d (A1 ++ vs ++ B1) s g θ kp).new) ρ' a' w' → next a' w') : o.wpIn (FR ro) m P a w next Q:=by
 obtain ⟨e1,e2,e3⟩:=evs_spec hI args vs hvs
 obtain ⟨u1,u2,hdef,hD1,hD2,hM1,hM2⟩:=target_run hI hfo ht (args.map a.eval).toArray
 obtain ⟨⟨fn,hfn1,hfn2,hfn3⟩,hmeets⟩:=hm
 have hexec : (execOp a.eval o).run P w = .ok (.enter f (u1 ++ (args.map a.eval).toArray ++ u2)) w:=by
  have hd2 : resolve a.eval ⟨.value fo,⟨args⟩,ats⟩ o.type = pure { target:=.fn (.func f) u2,args:=u1 ++ (args.map a.eval).toArray }:=by
   simp only [resolve,List.map_toArray]; exact hdef
  simp only [execOp,ho,hd2,pure_bind,invoke,callFunc]
  have q2 : ¬ fn.name = "runtime.NumGoroutine" :=by simpa using hfn2
  have q3 : ¬ fn.body = none:=fun h=>by rw [h] at hfn3; cases hfn3
  simp [hfn1,q2,q3]
 have hargs : DenL E.reg ρ (fun b=>X b ∨ OwnB st.h ρ b) w (A1 ++ vs ++ B1) (u1 ++ (args.map a.eval).toArray ++ u2).toList:=by
  have hv : DenL E.reg ρ (fun b=>X b ∨ OwnB st.h ρ b) w vs (args.map a.eval):=⟨by simp [e1],e2⟩
  have:=(hD1.append hv).append hD2
  simpa using this
 obtain ⟨hpre,X',ρq,h1,h2,h3,h4,_,h5⟩:=call_core hfl hI hargs hf hr
 refine ⟨fun _ _=>trivial,?_⟩
 rw [Oper.semAt_eq _ _ _ (fun c e=>by rw [ho] at e; cases e),hexec]
 refine ⟨FR_depth,CallsIn.mono (FR_calls (hmeets g hpre X' ρq w _ h1 h2 h3 h4)) fun e w' hpost=>?_⟩
 obtain ⟨v,sv,hs,ρ',rfl,hK,hi⟩:=h5 e w' hpost
 exact hn _ _ _ _ _ hK (hi o.dst hd)
theorem wp_yield {ro : Option Nat} {m : Nat} (hfl : FlOk E.reg fl) (hI : SInv E.reg n X E0 ρ0 w0 st ρ a w) (hY : ∀ w ρ,WRel E0 w0 w → (∀ h,h < E.yn → ρ h = ρ0 h) → E.Y w ρ) (hyn : E.yn ≤ 1000) {o : Oper} (hd : okDst n o.dst = true) {fo : Operand} {args : List Operand} {ats : Array TypeId} (ho : o.op = .call ⟨.value fo,⟨args⟩,ats⟩)
  {fv : SV A} (hfo : st.ev fo = some fv) {vs : List (SV A)} (hvs : evs st.ev args = some vs) {l : Nat} (ht : yieldOf fv = some l) {s : Spec A} (hm : MeetsY P E.reg E.Y l s) {g : s.γ} (hlen : (s.own g).length = E.yn) {d : Nat}
  {K : SV A → List (Nat × Option (Ct A)) → Prop} {next : Act → World → Prop} {Q : Exit → Act → World → Prop}
  (hf : fresh st.u (callEff E.reg fl st d vs s g (ids E.yn) false).new = true) (hr : (callEff E.reg fl st d vs s g (ids E.yn) false).b.run K)
  (hn : ∀ v hs ρ' a' w',K v hs → SInv E.reg n X E0 ρ0 w0 (st.upd o.dst v hs (callEff E.reg fl st d vs s g (ids E.yn) false).new) ρ' a' w' → next a' w') : o.wpIn (FR ro) m P a w next Q:=by
 obtain ⟨e1,e2,e3⟩:=evs_spec hI args vs hvs
 have hfv : fv = .val (.func (.yield l) #[] #[]):=by
  unfold yieldOf at ht
  split at ht
  ·cases ht; rfl
  ·cases ht
 subst hfv
 have hev:=val_inv (hI.ev hfo).1
 have hargs : DenL E.reg ρ (fun b=>X b ∨ OwnB st.h ρ b) w vs (args.map a.eval).toArray.toList:=⟨by simp [e1],fun j s v hs hv=>e2 j s v hs (by simpa using hv)⟩
 obtain ⟨hpre,X',ρq,h1,h2,h3,h4,⟨_,h6,_,_⟩,h5⟩:=call_core hfl hI hargs hf hr
 obtain ⟨fn,tmps,assign,body,hy,hround⟩:=hm g hpre X' ρq w _ (hY w ρq hI.rel fun h hh=>by
  have:=(h6 h h (ids_get _ _ hh)).1
  rw [this]
  exact (hI.keep h (by omega)).2) h1 h2 h3 h4 (m - 1)
 refine ⟨fun _ _=>trivial,?_⟩
 have hexec : (execOp a.eval o).run P w = .ok (.round l fn tmps assign body) w:=by
  have hd2 : resolve a.eval ⟨.value fo,⟨args⟩,ats⟩ o.type = pure { target:=.fn (.yield l) #[],args:=(args.map a.eval).toArray }:=by
   simp only [resolve,List.map_toArray,hev,Deferred.ofValue,Array.empty_append]
  simp only [execOp,ho,hd2,pure_bind,invoke]
  simpa using hy
 rw [Oper.semAt_eq _ _ _ (fun c e=>by rw [ho] at e; cases e),hexec]
 refine ⟨FR_depth,RoundIn.mono (show RoundIn (FR ro) (m - 1) P l fn tmps assign body w _ from hround) fun e w' hpost=>?_⟩
 obtain ⟨v,sv,hs,ρ',rfl,hK,hi⟩:=h5 e w' hpost
 exact hn _ _ _ _ _ hK (hi o.dst hd)
end
end Go.Sx
namespace Go.Sx
open Go
variable {A : Nat → Type}
section
variable {P : Program} {E : Env A} {X E0 : Nat → Prop} {ρ0 : Rho} {w0 : World} {st : St A} {ρ : Rho} {a : Act} {w : World} {fl : Nat → Bool}
def Fine (st : St A) (dst : Option Nat) (K : St A → Prop) (e : Eff A) : Prop:=
 fresh st.u e.new = true ∧ e.b.run fun v hs=>K (st.upd dst v hs e.new)
structure YOk (E : Env A) (E0 : Nat → Prop) (ρ0 : Rho) (w0 : World) : Prop where
 le : E.yn ≤ 1000
 ok : ∀ w ρ,WRel E0 w0 w → (∀ h,h < E.yn → ρ h = ρ0 h) → E.Y w ρ
theorem wp_XOp {ro : Option Nat} {m : Nat} (hY : YOk E E0 ρ0 w0) (hE : E.Ok P) (hfl : FlOk E.reg fl) (hI : SInv E.reg E.n X E0 ρ0 w0 st ρ a w) {o : Oper} (hd : okDst E.n o.dst = true) {K : St A → Prop} {next : Act → World → Prop} {Q : Exit → Act → World → Prop}
  (h : XOp P E fl o.dst o.op st (Fine st o.dst K)) (hn : ∀ st' ρ' a' w',K st' → SInv E.reg E.n X E0 ρ0 w0 st' ρ' a' w' → next a' w') : o.wpIn (FR ro) m P a w next Q:=by
 obtain ⟨dst,op,ty,pos,after,guard⟩:=o
 dsimp only at *
 unfold XOp at h
 split at h
 ·rename_i fo args ats
  split at h
  ·rename_i fv vs hfv hvs
   split at h
   ·rename_i f A1 B1 ht
    rw [forceL_eq] at h
    obtain ⟨s,hm,g,θ,kp,hf,hr⟩:=h
    exact wp_call hfl hI (o:=⟨dst,_,ty,pos,after,guard⟩) hd rfl hfv hvs ht hm hf hr fun v hs ρ' a' w' hk hi=>hn _ _ _ _ hk hi
   ·split at h
    ·rename_i l hl
     obtain ⟨s,hm,g,hlen,hf,hr⟩:=h
     exact wp_yield hfl hI hY.ok hY.le (o:=⟨dst,_,ty,pos,after,guard⟩) hd rfl hfv hvs hl hm hlen hf hr fun v hs ρ' a' w' hk hi=>hn _ _ _ _ hk hi
    ·exact h.elim
  ·exact h.elim
 ·obtain ⟨hf,hr⟩:=h
  exact wp_xop hE hI (o:=⟨dst,op,ty,pos,after,guard⟩) hd hf hr fun v hs ρ' a' w' hk hi=>hn _ _ _ _ hk hi
theorem skip_wanted (hI : SInv E.reg E.n X E0 ρ0 w0 st ρ a w) {ops : List Oper} {g : Nat} (h : skipS ops st g = true) : yielded ⟨ops⟩ a.tmps g = none:=by
 unfold skipS at h
 split at h
 ·rename_i o ho
  split at h
  ·rename_i d hd
   split at h
   ·rename_i u hu
    have h1:=hI.slots d _ hu
    have h2:=val_inv h1
    have hsz:=hI.size
    rw [nth_eq] at ho
    unfold yielded
    simp only [List.getElem?_toArray,ho,Option.bind_some,hd]
    rw [Array.getD_eq_getD_getElem?] at h2
    cases hx : a.tmps[d]? with
    | none=>simp
    | some y=>rw [hx] at h2; simp at h2; subst h2; rfl
   ·cases h
  ·cases h
 ·cases h
theorem yield_wanted (hI : SInv E.reg E.n X E0 ρ0 w0 st ρ a w) {ops : List Oper} {g : Nat} {b : Bool} (h : yieldS ops st g = some b) : yielded ⟨ops⟩ a.tmps g = some b:=by
 unfold yieldS at h
 split at h
 ·rename_i o ho
  split at h
  ·rename_i d hd
   split at h
   ·rename_i u hu
    cases h
    have h1:=hI.slots d _ hu
    have h2:=val_inv h1
    rw [nth_eq] at ho
    unfold yielded
    simp only [List.getElem?_toArray,ho,Option.bind_some,hd]
    rw [Array.getD_eq_getD_getElem?] at h2
    cases hx : a.tmps[d]? with
    | none=>rw [hx] at h2; simp [undef] at h2
    | some y=>rw [hx] at h2; simp at h2; subst h2; rfl
   ·cases h
  ·cases h
 ·cases h
theorem eqB_true {a b : Bool} (h : eqB a b = true) : a = b:=by cases a <;> cases b <;> simp_all [eqB]
theorem eqB_false {a b : Bool} (h : eqB a b = false) : a ≠ b:=by cases a <;> cases b <;> simp_all [eqB]
theorem wp_XG {ro : Option Nat} {m : Nat} (hY : YOk E E0 ρ0 w0) (hE : E.Ok P) (hfl : FlOk E.reg fl) (hI : SInv E.reg E.n X E0 ρ0 w0 st ρ a w) {ops : List Oper} {i : Nat} {o : Oper} (ho : ops[i]? = some o) (hd : okDst E.n o.dst = true) {K : St A → Prop} {next : Act → World → Prop} {Q : Exit → Act → World → Prop}
  (h : XG P E fl ops o.dst o.op o.guard st (Fine st o.dst K)) (hn : ∀ st' ρ' a' w',K st' → SInv E.reg E.n X E0 ρ0 w0 st' ρ' a' w' → next a' w') : wpOpIn (FR ro) m P ⟨ops⟩ Q i next a w:=by
 unfold wpOpIn
 simp only [List.getElem?_toArray,ho]
 have skip : Fine st o.dst K skipEff → next (a.put o.dst undef) w:=fun hk=>hn _ _ _ _ hk.2 (hI.pure hd (.val _) rfl)
 unfold XG at h
 split at h
 ·rename_i hg
  rw [if_pos (by simp [Region.wanted,hg])]
  exact wp_XOp hY hE hfl hI hd h hn
 ·rename_i g want hg
  split at h
  ·rename_i hs
   rw [if_neg (by simp [Region.wanted,hg,skip_wanted hI hs])]
   exact ⟨fun _ _=>trivial,skip h⟩
  ·split at h
   ·rename_i b hb
    have hy:=yield_wanted hI hb
    split at h
    ·rename_i e
     have e:=eqB_true e
     rw [if_pos (by simp [Region.wanted,hg,hy,e])]
     exact wp_XOp hY hE hfl hI hd h hn
    ·rename_i e
     have e:=eqB_false e
     rw [if_neg (by simp [Region.wanted,hg,hy,e])]
     exact ⟨fun _ _=>trivial,skip h⟩
   ·exact h.elim
def XL (P : Program) (E : Env A) (fl : Nat → Bool) (all : List Oper) : List (Nat × Oper) → St A → (St A → Prop) → Prop
 | [],st,K=>K st
 | (_,o) :: rest,st,K=>okDst E.n o.dst = true ∧ XG P E fl all o.dst o.op o.guard st (Fine st o.dst fun st'=>XL P E fl all rest st' K)
theorem EB.run_mono {K K' : SV A → List (Nat × Option (Ct A)) → Prop} (h : ∀ v hs,K v hs → K' v hs) : ∀ {e : EB A},e.run K → e.run K'
 | .ret _ _=>fun hr=>h _ _ hr
 | .vc _ _=>fun hr=>⟨hr.1,run_mono h hr.2⟩
 | .all _ _ _=>fun hr=>⟨hr.1,fun x hx=>run_mono h (hr.2 x hx)⟩
 | .fail=>fun hr=>hr
theorem XOp_mono {dst : Option Nat} {op : Op} {K K' : Eff A → Prop} (h : ∀ e,K e → K' e) (hh : XOp P E fl dst op st K) : XOp P E fl dst op st K':=by
 unfold XOp at *
 split at hh
 ·split at hh
  ·split at hh
   ·rw [forceL_eq] at hh ⊢
    obtain ⟨s,hm,g,θ,kp,hk⟩:=hh
    exact ⟨s,hm,g,θ,kp,h _ hk⟩
   ·split at hh
    ·obtain ⟨s,hm,g,hl,hk⟩:=hh
     exact ⟨s,hm,g,hl,h _ hk⟩
    ·exact hh.elim
  ·exact hh.elim
 ·exact h _ hh
theorem XG_mono {all : List Oper} {dst : Option Nat} {op : Op} {guard : Option (Nat × Bool)} {K K' : Eff A → Prop} (h : ∀ e,K e → K' e) (hh : XG P E fl all dst op guard st K) : XG P E fl all dst op guard st K':=by
 unfold XG at *
 split at hh
 ·exact XOp_mono h hh
 ·split at hh
  ·exact h _ hh
  ·split at hh
   ·split at hh
    ·exact XOp_mono h hh
    ·exact h _ hh
   ·exact hh.elim
theorem Fine.mono {dst : Option Nat} {K K' : St A → Prop} (h : ∀ st,K st → K' st) {e : Eff A} (hh : Fine st dst K e) : Fine st dst K' e:=
 ⟨hh.1,EB.run_mono (fun _ _=>h _) hh.2⟩
theorem XL_mono {all : List Oper} {K K' : St A → Prop} (h : ∀ st,K st → K' st) : ∀ {l : List (Nat × Oper)} {st : St A},XL P E fl all l st K → XL P E fl all l st K'
 | [],_,hh=>h _ hh
 | _ :: _,_,hh=>⟨hh.1,XG_mono (fun _=>Fine.mono fun _=>XL_mono h) hh.2⟩
def zipI : Nat → List Oper → List (Nat × Oper)
 | _,[]=>[]
 | j,o :: l=>(j,o) :: zipI (j + 1) l
theorem XL_of_XR {all : List Oper} {K : St A → List Seen → Prop} : ∀ {l : List Oper} {j : Nat} {seen : List Seen} {st : St A},XR P E fl all l j seen st K → XL P E fl all (zipI j l) st fun st'=>∃ seen',K st' seen'
 | [],_,seen,_,h=>⟨seen,h⟩
 | ⟨dst,op,ty,pos,after,guard⟩ :: l,j,seen,st,h=>by
  simp only [XR] at h
  split at h
  ·exact h.elim
  ·rename_i hd
   refine ⟨hd,XG_mono (fun e he=>?_) h⟩
   obtain ⟨R,W,new,b⟩:=e
   dsimp only at he
   split at he
   ·rename_i hf
    exact ⟨hf,EB.run_mono (fun v hs hk=>XL_of_XR hk) he⟩
   ·exact he.elim
theorem wpOps_XL {ro : Option Nat} {m : Nat} (hY : YOk E E0 ρ0 w0) (hE : E.Ok P) (hfl : FlOk E.reg fl) {ops : List Oper} {K : St A → Prop} {Q : Exit → Act → World → Prop} (hn : ∀ st' ρ' a' w',K st' → SInv E.reg E.n X E0 ρ0 w0 st' ρ' a' w' → Q .normal a' w') :
  ∀ (l : List (Nat × Oper)) {st : St A} {ρ : Rho} {a : Act} {w : World},SInv E.reg E.n X E0 ρ0 w0 st ρ a w → (∀ p ∈ l,ops[p.1]? = some p.2) → XL P E fl ops l st K → wpOpsIn (FR ro) m P ⟨ops⟩ Q (l.map (·.1)) a w
 | [],st,ρ,a,w,hI,_,h=>hn _ _ _ _ h hI
 | (i,o) :: l,st,ρ,a,w,hI,hl,h=>by
  rw [List.map_cons,wpOpsIn_cons]
  exact wp_XG hY hE hfl hI (hl (i,o) (by simp)) h.1 h.2 fun st' ρ' a' w' hk hi=>wpOps_XL hY hE hfl hn l hi (fun p hp=>hl p (by simp [hp])) hk
theorem zipI_map : ∀ (l : List Oper) (j : Nat),(zipI j l).map (·.1) = List.range' j l.length
 | [],_=>rfl
 | _ :: l,j=>by simp [zipI,zipI_map l (j + 1),List.range'_succ]
theorem zipI_get {ops : List Oper} : ∀ (l : List Oper) (j : Nat),(∀ k,l[k]? = ops[j + k]?) → ∀ p ∈ zipI j l,ops[p.1]? = some p.2
 | [],_,_,p,hp=>by cases hp
 | o :: l,j,h,p,hp=>by
  rcases List.mem_cons.1 hp with rfl | hp
  ·exact (h 0).symm
  ·exact zipI_get l (j + 1) (fun k=>by have:=h (k + 1); simpa [Nat.add_assoc,Nat.add_comm 1 k] using this) p hp
theorem wp_region_XR {ro : Option Nat} {m : Nat} (hY : YOk E E0 ρ0 w0) (hE : E.Ok P) (hfl : FlOk E.reg fl) (hI : SInv E.reg E.n X E0 ρ0 w0 st ρ a w) {id : Nat} {ops : List Oper} {K : St A → Prop} {Q : Exit → Act → World → Prop}
  (h : XR P E fl ops ops 0 [] st fun st' _=>K st') (hn : ∀ st' ρ' a' w',K st' → SInv E.reg E.n X E0 ρ0 w0 st' ρ' a' w' → Q .normal a' w') : (Code.region id ⟨ops⟩ false).wpIn (FR ro) m P Q a w:=by
 refine wpIn_region ?_
 have h1:=XL_mono (K':=K) (fun st' ⟨_,h⟩=>h) (XL_of_XR h)
 have h2:=wpOps_XL (ro:=ro) (m:=m) hY hE hfl hn (zipI 0 ops) hI (zipI_get ops 0 fun k=>by simp) h1
 rw [zipI_map] at h2
 simpa [List.range_eq_range'] using h2
end
end Go.Sx
namespace Go.Sx
open Go
variable {A : Nat → Type}
section
variable {P : Program} {E : Env A} {st : St A} {fl : Nat → Bool}
def EB.Out : EB A → SV A → List (Nat × Option (Ct A)) → Prop
 | .ret v hs,v',hs'=>v' = v ∧ hs' = hs
 | .vc _ b,v',hs'=>b.Out v' hs'
 | .all _ c b,v',hs'=>∃ x,c x ∧ (b x).Out v' hs'
 | .fail,_,_=>False
theorem EB.run_out {K : SV A → List (Nat × Option (Ct A)) → Prop} : ∀ {e : EB A},e.run K → ∀ v hs,e.Out v hs → K v hs
 | .ret _ _,hr,_,_,ho=>by obtain ⟨rfl,rfl⟩:=ho; exact hr
 | .vc _ _,hr,v,hs,ho=>run_out hr.2 v hs ho
 | .all _ _ _,hr,v,hs,⟨x,hx,ho⟩=>run_out (hr.2 x hx) v hs ho
 | .fail,hr,_,_,_=>hr.elim
theorem EB.run_ex {K : SV A → List (Nat × Option (Ct A)) → Prop} : ∀ {e : EB A},e.run K → ∃ v hs,e.Out v hs ∧ K v hs
 | .ret v hs,hr=>⟨v,hs,⟨rfl,rfl⟩,hr⟩
 | .vc _ b,hr=>run_ex (e:=b) hr.2
 | .all _ _ _,hr=>by
  obtain ⟨x,hx⟩:=hr.1
  obtain ⟨v,hs,h1,h2⟩:=run_ex (hr.2 x hx)
  exact ⟨v,hs,⟨x,hx,h1⟩,h2⟩
 | .fail,hr=>hr.elim
theorem EB.run_of {K K' : SV A → List (Nat × Option (Ct A)) → Prop} : ∀ {e : EB A},e.run K' → (∀ v hs,e.Out v hs → K v hs) → e.run K
 | .ret v hs,_,h=>h v hs ⟨rfl,rfl⟩
 | .vc _ _,hr,h=>⟨hr.1,run_of hr.2 h⟩
 | .all _ _ _,hr,h=>⟨hr.1,fun x hx=>run_of (hr.2 x hx) fun v hs ho=>h v hs ⟨x,hx,ho⟩⟩
 | .fail,hr,_=>hr
def Det (e : EB A) : Prop:=∀ v hs v' hs',e.Out v hs → e.Out v' hs' → v = v' ∧ hs = hs'
def Ins (W : List Nat) (e : EB A) : Prop:=∀ v hs,e.Out v hs → ∀ p ∈ hs,p.1 ∈ W
def QT.Ok : QT A → Prop
 | .ask _ k=>∀ c,(k c).Ok
 | .fin W _ b=>Det b ∧ Ins W b
theorem QT.Ok.go {look : Nat → Option (Ct A)} : ∀ {q : QT A} {R : List Nat},q.Ok → Det (q.go look R).b ∧ Ins (q.go look R).W (q.go look R).b
 | .ask h k,_,hq=>QT.Ok.go (q:=k (look h)) (hq (look h))
 | .fin _ _ _,_,hq=>hq
theorem okRet {W new : List Nat} {v : SV A} {hs : List (Nat × Option (Ct A))} (h : ∀ p ∈ hs,p.1 ∈ W) : (QT.fin W new (.ret v hs)).Ok:=
 ⟨fun _ _ _ _ h1 h2=>⟨h1.1.trans h2.1.symm,h1.2.trans h2.2.symm⟩,fun _ _ h1 p hp=>h p (h1.2 ▸ hp)⟩
theorem okPure {v : SV A} : (QT.pure v).Ok:=okRet fun _ h=>by cases h
theorem okFail {W new : List Nat} : (QT.fin W new (.fail : EB A)).Ok:=⟨fun _ _ _ _ h=>h.elim,fun _ _ h=>h.elim⟩
theorem okNo : (QT.no : QT A).Ok:=okFail
theorem okVc {W new : List Nat} {p : Prop} {b : EB A} (h : (QT.fin W new b).Ok) : (QT.fin W new (.vc p b)).Ok:=h
theorem okAll {W new : List Nat} {α : Type} {c : α → Prop} {b : α → EB A} (hu : ∀ x y,c x → c y → x = y) (h : ∀ x,(QT.fin W new (b x)).Ok) : (QT.fin W new (.all α c b)).Ok:=
 ⟨fun v hs v' hs' ⟨x,hx,ho⟩ ⟨y,hy,ho'⟩=>by
  have:=hu x y hx hy
  subst this
  exact (h x).1 v hs v' hs' ho ho',fun v hs ⟨x,_,ho⟩=>(h x).2 v hs ho⟩
theorem okOpt {W new : List Nat} {o : Option (SV A)} : (QT.fin W new (optRet o)).Ok:=by
 cases o
 ·exact okFail
 ·exact okRet fun _ h=>by cases h
theorem okAsk {h : Nat} {k : Option (Ct A) → QT A} (hk : ∀ c,(k c).Ok) : (QT.ask h k).Ok:=hk
theorem uniq1 {α : Type} {xs : List α} {i : Nat} : ∀ x y,xs[i]? = some x → xs[i]? = some y → x = y:=fun x y h1 h2=>by rw [h1] at h2; cases h2; rfl
theorem uniq2 {α : Type} {xs : List α} {i : Nat} {p : Prop} : ∀ x y,(p ∧ xs[i]? = some x) → (p ∧ xs[i]? = some y) → x = y:=fun x y h1 h2=>uniq1 x y h1.2 h2.2
theorem xload_ok {T : TypeId} {a : SV A} : (xload E T a).Ok:=by
 unfold xload
 repeat' first
  | exact okNo
  | exact okOpt
  | exact okPure
  | exact okFail
  | exact okRet (by simp)
  | exact okAll uniq1 fun _=>okOpt
  | exact okVc (okRet (by simp))
  | refine okAsk fun _=>?_
  | split
theorem xstore_ok {T : TypeId} {a v : SV A} : (xstore E T a v).Ok:=by
 unfold xstore
 simp only [forceL_eq]
 repeat' first
  | exact okNo
  | exact okFail
  | exact okRet (by simp)
  | exact okVc (okRet (by simp))
  | refine okAll uniq1 fun _=>?_
  | refine okAsk fun _=>?_
  | split
theorem told_ok {p : Prop} [Decidable p] : (told p : QT A).Ok:=okAll (fun _ _ h1 h2=>h1.trans h2.symm) fun _=>okRet (by simp)
theorem xbin_ok {wr : Bool} {op : BinOp} {T : TypeId} {x y : SV A} : (xbin E wr op T x y).Ok:=by
 unfold xbin arith xeq xnilS xbs xshift
 repeat' first
  | exact told_ok
  | exact okNo
  | exact okPure
  | exact okVc (okRet (by simp))
  | exact okVc (okVc (okRet (by simp)))
  | split
theorem xslice_ok {T : TypeId} {x : SV A} {lo hi : Option (SV A)} : (xslice E T x lo hi).Ok:=by
 unfold xslice
 repeat' first
  | exact okNo
  | exact okPure
  | refine okAsk fun _=>?_
  | exact okVc (okRet (by simp))
  | split
theorem xaddr_ok {T : TypeId} {x i : SV A} : (xindexAddr E T x i).Ok:=by
 unfold xindexAddr
 repeat' first
  | exact okNo
  | exact okVc (okRet (by simp))
  | exact okAll uniq2 fun _=>okRet (by simp)
  | split
theorem xaddrC_ok {T : TypeId} {x i : SV A} : (xindexAddrC E T x i).Ok:=by
 unfold xindexAddrC
 repeat' first
  | exact okNo
  | exact okPure
  | exact xaddr_ok
  | split
theorem uniq3 {α : Type} {z : α} : ∀ x y : α,x = z → y = z → x = y:=fun _ _ h1 h2=>h1.trans h2.symm
theorem xlookup_ok {T : TypeId} {x i : SV A} {ok : Bool} : (xlookup E T x i ok).Ok:=by
 unfold xlookup
 repeat' first
  | exact okNo
  | exact okFail
  | exact okRet (by simp)
  | exact okVc (okAll uniq3 fun _=>okOpt)
  | refine okVc (okAll uniq3 fun _=>?_)
  | refine okAsk fun _=>?_
  | split
theorem xmapUpdate_ok {T : TypeId} {x i v : SV A} : (xmapUpdate E T x i v).Ok:=by
 unfold xmapUpdate
 repeat' first
  | exact okNo
  | exact okVc (okRet (by simp))
  | refine okAsk fun _=>?_
  | split
theorem byte_inj {U : Nat} {f : UInt8 → A U} (h : E.reg.byte U = some f) : ∀ {a b : List UInt8},a.map f = b.map f → a = b
 | [],[],_=>rfl
 | [],_ :: _,e=>by simp at e
 | _ :: _,[],e=>by simp at e
 | x :: a,y :: b,e=>by
  simp only [List.map_cons,List.cons.injEq] at e
  have h1:=(E.reg.byteOk U f h).2 x
  rw [e.1,(E.reg.byteOk U f h).2 y] at h1
  simp only [List.cons.injEq,SV.val.injEq,Value.int.injEq,and_true,true_and] at h1
  rw [byte_inj h e.2,UInt8.toNat_inj.1 (Int.ofNat.inj h1)]
theorem xconvert_ok {nm : Nat} {S T : TypeId} {x : SV A} : (xconvert E nm S T x).Ok:=by
 unfold xconvert
 repeat' first
  | exact okNo
  | exact okPure
  | exact okRet (by simp)
  | exact okVc (okAll (fun _ _ h1 h2=>byte_inj (by assumption) (h1.symm.trans h2)) fun _=>okRet (by simp))
  | refine okAsk fun _=>?_
  | split
theorem xclear_ok {T : TypeId} {x : SV A} : (xclear E T x).Ok:=by
 unfold xclear
 repeat' first
  | exact okNo
  | exact okVc (okRet (by simp))
  | refine okAsk fun _=>?_
  | split
theorem xcopy_ok {T : TypeId} {x y : SV A} : (xcopy E T x y).Ok:=by
 unfold xcopy
 repeat' first
  | exact okNo
  | exact okVc (okRet (by simp))
  | refine okAsk fun _=>?_
  | split
theorem xdelete_ok {T : TypeId} {x i : SV A} : (xdelete E T x i).Ok:=by
 unfold xdelete
 repeat' first
  | exact okNo
  | exact okVc (okRet (by simp))
  | refine okAsk fun _=>?_
  | split
theorem xmakeMap_ok {nm : Nat} {T : TypeId} : (xmakeMap E nm T).Ok:=by
 unfold xmakeMap
 repeat' first
  | exact okNo
  | exact okRet (by simp)
  | split
theorem xmakeSlice_ok {nm : Nat} {T : TypeId} {x y : SV A} : (xmakeSlice E nm T x y).Ok:=by
 unfold xmakeSlice
 simp only [withBytes_eq]
 repeat' first
  | exact okNo
  | exact okVc (okRet (by simp))
  | split
theorem xindex_ok {T : TypeId} {x i : SV A} : (xindex E T x i).Ok:=by
 unfold xindex
 repeat' first
  | exact okNo
  | exact okOpt
  | exact okVc (okRet (by simp))
  | exact okVc (okAll uniq2 fun _=>okOpt)
  | split
theorem appTo_ok {nm U bytes nn : Nat} {p : Prop} {s : SV A} {ys : List (A U)} : (appTo E nm U bytes p nn s ys).Ok:=by
 unfold appTo
 repeat' first
  | exact okNo
  | exact okVc (okRet (by simp))
  | refine okAsk fun _=>?_
  | split
theorem xappend_ok {nm : Nat} {T T2 : TypeId} {s x : SV A} : (xappend E nm T T2 s x).Ok:=by
 unfold xappend
 simp only [withBytes_eq]
 repeat' first
  | exact okNo
  | exact appTo_ok
  | refine okAsk fun _=>?_
  | split
theorem xnew_ok {nm : Nat} {ct : Ct A} {v : SV A} : (QT.fin [nm] [nm] (.ret v [(nm,some ct)])).Ok:=okRet (by simp)
theorem xop_ok {nm : Nat} {dst : Option Nat} {op : Op} {ev : Operand → Option (SV A)} : (xop E nm dst op ev).Ok:=by
 unfold xop xpick xalloc xbox xbuild xbuildSlice xfieldAddr xfield xun xbuiltin xbuiltin2 xlen xminmax arith
 simp only [forceL_eq]
 repeat' first
  | exact okNo
  | exact okPure
  | exact okFail
  | exact okVc (okRet (by simp))
  | exact okRet (by simp)
  | exact xnew_ok
  | exact xload_ok
  | exact xstore_ok
  | exact xbin_ok
  | exact xslice_ok
  | exact xaddr_ok
  | exact xaddrC_ok
  | exact xlookup_ok
  | exact xmapUpdate_ok
  | exact xmakeMap_ok
  | exact xdelete_ok
  | exact xconvert_ok
  | exact xcopy_ok
  | exact xclear_ok
  | exact xmakeSlice_ok
  | exact xindex_ok
  | exact xappend_ok
  | split
theorem go_R {look : Nat → Option (Ct A)} : ∀ {q : QT A} {R : List Nat},∀ h ∈ R,h ∈ (q.go look R).R
 | .ask _ k,_,h,hm=>go_R (q:=k _) h (List.mem_cons_of_mem _ hm)
 | .fin _ _ _,_,_,hm=>hm
theorem go_local {look look' : Nat → Option (Ct A)} : ∀ {q : QT A} {R : List Nat},(∀ h ∈ (q.go look R).R,look h = look' h) → q.go look' R = q.go look R
 | .ask h k,R,hl=>by
  have h0 : look h = look' h:=hl h (go_R (q:=k (look h)) h (by simp))
  show (k (look' h)).go look' (h :: R) = (k (look h)).go look (h :: R)
  rw [← h0]
  exact go_local hl
 | .fin _ _ _,_,_=>rfl
theorem evs_congr {f g : Operand → Option (SV A)} : ∀ {l : List Operand},(∀ x ∈ l,f x = g x) → evs f l = evs g l
 | [],_=>rfl
 | x :: l,h=>by simp only [evs,h x (by simp),evs_congr fun y hy=>h y (List.mem_cons_of_mem _ hy)]
theorem evParts_congr {f g : Operand → Option (SV A)} : ∀ {l : List (Nat × Operand)},(∀ x ∈ l.map (·.2),f x = g x) → evParts f l = evParts g l
 | [],_=>rfl
 | (i,x) :: l,h=>by simp only [evParts,h x (by simp),evParts_congr fun y hy=>h y (List.mem_cons_of_mem _ hy)]
theorem xop_congr {nm : Nat} {dst : Option Nat} {op : Op} {f g : Operand → Option (SV A)} (h : ∀ x ∈ op.operands,f x = g x) : xop E nm dst op f = xop E nm dst op g:=by
 cases op <;> simp only [Op.operands] at h <;> simp only [xop]
 case build t ps=>rw [evParts_congr fun x hx=>h x (by simpa using hx)]
 case buildSlice t n ps=>rw [evParts_congr fun x hx=>h x (by simpa using hx)]
 case slice t x lo hi mx=>
  have hx:=h x (by simp)
  have hl : ∀ y,lo = some y → f y = g y:=fun y e=>h y (by subst e; simp)
  have hh : ∀ y,hi = some y → f y = g y:=fun y e=>h y (by subst e; simp)
  cases mx with
  | some _=>rfl
  | none=>
   cases lo <;> cases hi <;> dsimp only <;> rw [hx] <;> cases g x <;> simp_all
 case call c=>
  split
  ·rename_i b hb
   rw [evs_congr fun x hx=>h x (by simp [Call.operands,hb]; simpa using hx)]
  ·rfl
 case makeMap t r=>cases r <;> rfl
 case makeFunc fn va vb=>
  rw [evs_congr (l:=va.toList) fun x hx=>h x (by simp; simp at hx; exact .inl hx),evs_congr (l:=vb.toList) fun x hx=>h x (by simp; simp at hx; exact .inr hx)]
 all_goals (first | rfl | (simp_all; done))
end
end Go.Sx
namespace Go.Sx
open Go
variable {A : Nat → Type}
section
variable {P : Program} {E : Env A} {st st1 : St A} {fl : Nat → Bool}
theorem ent0_congr {R : Reg A} {c p : SV A} (h : ∀ k ∈ bor0 c p,st.h k = st1.h k) : EntA0 R st c p ↔ EntA0 R st1 c p:=by
 unfold EntA0
 split
 ·rename_i k sz off len T xs
  rw [h k (by simp [bor0])]
 ·rfl
 ·rfl
theorem entL_congr {R : Reg A} : ∀ {cs ps : List (SV A)},(∀ k ∈ borL cs ps,st.h k = st1.h k) → (EntL R st cs ps ↔ EntL R st1 cs ps)
 | [],[],_=>Iff.rfl
 | [],_ :: _,_=>Iff.rfl
 | _ :: _,[],_=>Iff.rfl
 | c :: cs,p :: ps,h=>and_congr (ent0_congr fun k hk=>h k (by simp [borL,hk])) (entL_congr fun k hk=>h k (by simp [borL,hk]))
theorem entA_congr {R : Reg A} {c p : SV A} (h : ∀ k ∈ bor c p,st.h k = st1.h k) : EntA R st c p ↔ EntA R st1 c p:=by
 unfold EntA
 split
 ·exact entL_congr h
 ·rename_i hn
  have e : bor c p = bor0 c p:=by
   unfold bor
   split
   ·exact (hn _ _ rfl rfl).elim
   ·rfl
  exact ent0_congr (e ▸ h)
theorem entAL_congr {R : Reg A} : ∀ {cs ps : List (SV A)},(∀ k ∈ borAL cs ps,st.h k = st1.h k) → (EntAL R st cs ps ↔ EntAL R st1 cs ps)
 | [],[],_=>Iff.rfl
 | [],_ :: _,_=>Iff.rfl
 | _ :: _,[],_=>Iff.rfl
 | c :: cs,p :: ps,h=>and_congr (entA_congr fun k hk=>h k (by simp [borAL,hk])) (entAL_congr fun k hk=>h k (by simp [borAL,hk]))
theorem ownAt_congr {f : Nat → Nat} : ∀ {hs : List Nat} {cs : List (Ct A)},(∀ k ∈ hs,st.h k = st1.h k) → (ownAt st f hs cs ↔ ownAt st1 f hs cs)
 | [],[],_=>Iff.rfl
 | [],_ :: _,_=>Iff.rfl
 | _ :: _,[],_=>Iff.rfl
 | k :: hs,c :: cs,h=>and_congr (by rw [h k (by simp)]) (ownAt_congr fun k hk=>h k (by simp [hk]))
theorem callEff0_local {R : Reg A} {d : Nat} {vs : List (SV A)} {s : Spec A} {g : s.γ} {θ : List Nat} {kp : Bool}
  (h : ∀ k,k ∈ (callEff0 R fl st d vs s g θ kp).R ∨ k ∈ (callEff0 R fl st d vs s g θ kp).W → st.h k = st1.h k) : callEff0 R fl st1 d vs s g θ kp = callEff0 R fl st d vs s g θ kp:=by
 simp only [callEff0,forceL_eq] at h ⊢
 have h1 : EntAL R st1 vs (renL (thr (θ ++ newNames d s.nnew)) (s.args g)) = EntAL R st vs (renL (thr (θ ++ newNames d s.nnew)) (s.args g)):=
  propext (entAL_congr fun k hk=>(h k (.inl (by rw [borAL_ren] at hk; exact hk))).symm)
 have h2 : ownAt st1 (thr (θ ++ newNames d s.nnew)) θ (s.own g) = ownAt st (thr (θ ++ newNames d s.nnew)) θ (s.own g):=
  propext (ownAt_congr fun k hk=>(h k (.inr (by simp [hk]))).symm)
 rw [h1,h2]
theorem callEff_local {R : Reg A} {d : Nat} {vs : List (SV A)} {s : Spec A} {g : s.γ} {θ : List Nat} {kp : Bool}
  (h : ∀ k,k ∈ (callEff R fl st d vs s g θ kp).R ∨ k ∈ (callEff R fl st d vs s g θ kp).W → st.h k = st1.h k) : callEff R fl st1 d vs s g θ kp = callEff R fl st d vs s g θ kp:=by
 unfold callEff at h ⊢
 cases hro : s.ro with
 | false=>rw [hro] at h; exact callEff0_local h
 | true=>
  rw [hro] at h
  simp only [callEffR,forceL_eq] at h ⊢
  have h1 : EntAL R st1 vs (renL (thr (θ ++ [])) (s.args g)) = EntAL R st vs (renL (thr (θ ++ [])) (s.args g)):=
   propext (entAL_congr fun k hk=>(h k (.inl (List.mem_append_left _ (by rw [borAL_ren] at hk; exact hk)))).symm)
  have h2 : ownAt st1 (thr (θ ++ [])) θ (s.own g) = ownAt st (thr (θ ++ [])) θ (s.own g):=
   propext (ownAt_congr fun k hk=>(h k (.inl (List.mem_append_right _ hk))).symm)
  rw [h1,h2]
theorem updsOf_names {f : Nat → Nat} : ∀ (l : List Nat) (cs : List (Option (Ct A))),∀ p ∈ updsOf f l cs,p.1 ∈ l
 | [],_,p,hp=>by simp [updsOf] at hp
 | _ :: _,[],p,hp=>by simp [updsOf] at hp
 | k :: l,c :: cs,p,hp=>by
  simp only [updsOf,List.mem_cons] at hp ⊢
  rcases hp with rfl | hp
  ·exact .inl rfl
  ·exact .inr (updsOf_names l cs p hp)
theorem gone_names : ∀ (l : List Nat),∀ p ∈ (gone l : List (Nat × Option (Ct A))),p.1 ∈ l
 | [],p,hp=>by simp [gone] at hp
 | k :: l,p,hp=>by
  simp only [gone,List.mem_cons] at hp ⊢
  rcases hp with rfl | hp
  ·exact .inl rfl
  ·exact .inr (gone_names l p hp)
theorem callEff0_ins {R : Reg A} {d : Nat} {vs : List (SV A)} {s : Spec A} {g : s.γ} {θ : List Nat} {kp : Bool} : Ins (callEff0 R fl st d vs s g θ kp).W (callEff0 R fl st d vs s g θ kp).b:=by
 simp only [callEff0,forceL_eq]
 intro v hs ho p hp
 obtain ⟨x,_,ho⟩:=ho
 rw [ho.2] at hp
 rcases List.mem_append.1 hp with hp | hp
 ·exact List.mem_append.2 (.inr (updsOf_names _ _ p hp))
 ·refine List.mem_append.2 (.inl ?_)
  cases kp with
  | true=>cases hp
  | false=>exact gone_names _ p hp
theorem callEff_ins {R : Reg A} {d : Nat} {vs : List (SV A)} {s : Spec A} {g : s.γ} {θ : List Nat} {kp : Bool} : Ins (callEff R fl st d vs s g θ kp).W (callEff R fl st d vs s g θ kp).b:=by
 unfold callEff
 cases hro : s.ro with
 | false=>exact callEff0_ins
 | true=>
  simp only [callEffR,forceL_eq]
  intro v hs ho p hp
  obtain ⟨x,_,ho⟩:=ho
  rw [ho.2] at hp
  cases kp with
  | true=>cases hp
  | false=>exact gone_names _ p hp
theorem XOp_ex {dst : Option Nat} {op : Op} {K : Eff A → Prop} (h : XOp P E fl dst op st K) : ∃ e,XOp P E fl dst op st (· = e) ∧ K e:=by
 unfold XOp at *
 split at h
 ·split at h
  ·split at h
   ·simp only [forceL_eq] at h ⊢
    obtain ⟨s,hm,g,θ,kp,hk⟩:=h
    exact ⟨_,⟨s,hm,g,θ,kp,rfl⟩,hk⟩
   ·split at h
    ·obtain ⟨s,hm,g,hl,hk⟩:=h
     exact ⟨_,⟨s,hm,g,hl,rfl⟩,hk⟩
    ·exact h.elim
  ·exact h.elim
 ·exact ⟨_,rfl,h⟩
theorem XOp_ins {dst : Option Nat} {op : Op} {e : Eff A} (h : XOp P E fl dst op st (· = e)) : Ins e.W e.b:=by
 unfold XOp at h
 split at h
 ·split at h
  ·split at h
   ·simp only [forceL_eq] at h
    obtain ⟨s,hm,g,θ,kp,rfl⟩:=h
    exact callEff_ins
   ·split at h
    ·obtain ⟨s,hm,g,hl,rfl⟩:=h
     exact callEff_ins
    ·exact h.elim
  ·exact h.elim
 ·subst h; exact xop_ok.go.2
theorem XOp_det {dst : Option Nat} {op : Op} (hc : isCall op = false) {e : Eff A} (h : XOp P E fl dst op st (· = e)) : Det e.b ∧ ∀ e',XOp P E fl dst op st (· = e') → e = e':=by
 unfold XOp at *
 split at h
 ·simp [isCall] at hc
 ·subst h
  refine ⟨xop_ok.go.1,fun e' h'=>?_⟩
  exact h'
theorem XOp_local {dst : Option Nat} {op : Op} {e : Eff A} (h : XOp P E fl dst op st (· = e)) (hev : ∀ x ∈ op.operands,st.ev x = st1.ev x) (hh : ∀ k,k ∈ e.R ∨ k ∈ e.W → st.h k = st1.h k) : XOp P E fl dst op st1 (· = e):=by
 unfold XOp at *
 split at h
 ·rename_i fo args ats
  rw [← hev fo (by simp [Op.operands,Call.operands]),← evs_congr (f:=st.ev) (g:=st1.ev) fun x hx=>hev x (by simp [Op.operands,Call.operands,hx])]
  split at h
  ·split at h
   ·simp only [forceL_eq] at h ⊢
    obtain ⟨s,hm,g,θ,kp,rfl⟩:=h
    exact ⟨s,hm,g,θ,kp,callEff_local hh⟩
   ·split at h
    ·obtain ⟨s,hm,g,hl,rfl⟩:=h
     exact ⟨s,hm,g,hl,callEff_local hh⟩
    ·exact h.elim
  ·exact h.elim
 ·rw [← xop_congr hev]
  subst h
  exact go_local fun k hk=>hh k (.inl hk)
theorem XG_ex {all : List Oper} {dst : Option Nat} {op : Op} {guard : Option (Nat × Bool)} {K : Eff A → Prop} (h : XG P E fl all dst op guard st K) : ∃ e,XG P E fl all dst op guard st (· = e) ∧ K e:=by
 unfold XG at *
 split at h
 ·exact XOp_ex h
 ·split at h
  ·exact ⟨_,rfl,h⟩
  ·split at h
   ·split at h
    ·exact XOp_ex h
    ·exact ⟨_,rfl,h⟩
   ·exact h.elim
theorem skip_ins : Ins (A:=A) (skipEff (A:=A)).W (skipEff (A:=A)).b:=fun _ _ h p hp=>by rw [h.2] at hp; cases hp
theorem skip_det : Det (A:=A) (skipEff (A:=A)).b:=fun _ _ _ _ h1 h2=>⟨h1.1.trans h2.1.symm,h1.2.trans h2.2.symm⟩
theorem XG_ins {all : List Oper} {dst : Option Nat} {op : Op} {guard : Option (Nat × Bool)} {e : Eff A} (h : XG P E fl all dst op guard st (· = e)) : Ins e.W e.b:=by
 unfold XG at h
 split at h
 ·exact XOp_ins h
 ·split at h
  ·subst h; exact skip_ins
  ·split at h
   ·split at h
    ·exact XOp_ins h
    ·subst h; exact skip_ins
   ·exact h.elim
theorem XG_det {all : List Oper} {dst : Option Nat} {op : Op} {guard : Option (Nat × Bool)} (hc : isCall op = false) {e : Eff A} (h : XG P E fl all dst op guard st (· = e)) : Det e.b ∧ ∀ e',XG P E fl all dst op guard st (· = e') → e = e':=by
 unfold XG at *
 split at h
 ·exact XOp_det hc h
 ·split at h
  ·rename_i hs; subst h; exact ⟨skip_det,fun e' h'=>by simp only at h'; exact h'⟩
  ·split at h
   ·rename_i g want _ hs _ b hb
    split at h
    ·exact XOp_det hc h
    ·subst h; exact ⟨skip_det,fun e' h'=>h'⟩
   ·exact h.elim
structure Agree (all : List Oper) (o : Oper) (st st1 : St A) : Prop where
 ev : ∀ x ∈ o.op.operands,st.ev x = st1.ev x
 skip : ∀ g want,o.guard = some (g,want) → skipS all st g = skipS all st1 g ∧ yieldS all st g = yieldS all st1 g
theorem XG_local {all : List Oper} {o : Oper} {e : Eff A} (h : XG P E fl all o.dst o.op o.guard st (· = e)) (ha : Agree all o st st1) (hh : ∀ k,k ∈ e.R ∨ k ∈ e.W → st.h k = st1.h k) : XG P E fl all o.dst o.op o.guard st1 (· = e):=by
 unfold XG at *
 split at h
 ·rename_i hg; exact XOp_local h ha.ev hh
 ·rename_i g want hg
  obtain ⟨h1,h2⟩:=ha.skip g want hg
  rw [← h1,← h2]
  split at h
  ·rename_i hs; exact h
  ·split at h
   ·split at h
    ·exact XOp_local h ha.ev hh
    ·exact h
   ·exact h.elim
theorem Agree.symm {all : List Oper} {o : Oper} (h : Agree all o st st1) : Agree all o st1 st:=⟨fun x hx=>(h.ev x hx).symm,fun g w hg=>⟨(h.skip g w hg).1.symm,(h.skip g w hg).2.symm⟩⟩
theorem updH_out {f : Nat → Option (Ct A)} : ∀ {hs : List (Nat × Option (Ct A))} {k : Nat},(∀ p ∈ hs,p.1 ≠ k) → updH f hs k = f k
 | [],_,_=>rfl
 | (h,c) :: l,k,hn=>by
  simp only [updH]
  rw [beq_false (fun e=>hn (h,c) (by simp) e.symm)]
  exact updH_out fun p hp=>hn p (List.mem_cons_of_mem _ hp)
theorem agree_upd {all : List Oper} {o : Oper} {d : Option Tmp} {v : SV A} {hs : List (Nat × Option (Ct A))} {new : List Nat} (h : ∀ i,d = some i → i ∉ o.looksAt ⟨all⟩) : Agree all o st (st.upd d v hs new):=by
 have key : ∀ t,t ∈ o.looksAt ⟨all⟩ → (st.upd d v hs new).t t = st.t t:=fun t ht=>by
  show updT st.t d v t = _
  rw [updT_spec,if_neg (fun e=>h t e ht)]
 refine ⟨fun x hx=>?_,fun g want hg=>?_⟩
 ·cases x with
  | tmp t=>exact (key t (by unfold Oper.looksAt; exact List.mem_append_left _ (List.mem_filterMap.2 ⟨.tmp t,by simpa using hx,rfl⟩))).symm
  | _=>rfl
 ·have : ∀ ob t,nth all g = some ob → ob.dst = some t → (st.upd d v hs new).t t = st.t t:=fun ob t h1 h2=>key t (by
   rw [nth_eq] at h1
   unfold Oper.looksAt
   rw [hg]
   exact List.mem_append_right _ (by simp [h1,h2]))
  unfold skipS yieldS
  cases h1 : nth all g with
  | none=>exact ⟨rfl,rfl⟩
  | some ob=>
   cases h2 : ob.dst with
   | none=>simp [h2]
   | some t=>simp [h2,this ob t h1 h2]
end
end Go.Sx
namespace Go.Sx
open Go
variable {A : Nat → Type}
section
variable {P : Program} {E : Env A} {fl : Nat → Bool}
def apart1 (m : Nat) (e : Eff A) (c : Bool) (s : Seen) : Prop:=Nat.testBit m s.i = true ∨ (disj s.W e.R = true ∧ disj s.W e.W = true ∧ disj s.R e.W = true ∧ (c && s.c) = false)
theorem apartB_iff {m : Nat} {e : Eff A} {c : Bool} : ∀ {l : List Seen},apartB m e.R e.W c l = true ↔ ∀ s ∈ l,apart1 m e c s
 | []=>by simp [apartB]
 | s :: l=>by
  simp only [apartB,Bool.and_eq_true,Bool.or_eq_true,apartB_iff (l:=l),List.forall_mem_cons,apart1,Bool.not_eq_true',and_assoc]
def insS (s : Seen) (S : Seen → Prop) : Seen → Prop:=fun x=>x = s ∨ S x
theorem insS_comm (s t : Seen) (S : Seen → Prop) : insS s (insS t S) = insS t (insS s S):=by
 funext x
 exact propext ⟨fun h=>by rcases h with h | h | h <;> simp [insS,h],fun h=>by rcases h with h | h | h <;> simp [insS,h]⟩
def XK (P : Program) (E : Env A) (fl : Nat → Bool) (all : List Oper) (ms : List Nat) (K : St A → Prop) : List (Nat × Oper) → (Seen → Prop) → St A → Prop
 | [],_,st=>K st
 | (i,o) :: rest,S,st=>okDst E.n o.dst = true ∧ XG P E fl all o.dst o.op o.guard st fun e=>
   (∀ s,S s → apart1 ((nth ms i).getD 0) e (isCall o.op) s) ∧ Fine st o.dst (fun st'=>XK P E fl all ms K rest (insS ⟨i,e.R,e.W,isCall o.op⟩ S) st') e
theorem XR_seen {all : List Oper} {ms : List Nat} {K : St A → List Seen → Prop} (hK : ∀ st seen,K st seen → fpOk ms seen = true) : ∀ {l : List Oper} {j : Nat} {seen : List Seen} {st : St A},XR P E fl all l j seen st K → fpOk ms seen = true
 | [],_,_,_,h=>hK _ _ h
 | ⟨dst,op,ty,pos,after,guard⟩ :: l,j,seen,st,h=>by
  simp only [XR] at h
  split at h
  ·exact h.elim
  ·obtain ⟨⟨R,W,new,b⟩,_,he⟩:=XG_ex h
   dsimp only at he
   split at he
   ·obtain ⟨v,hs,_,hk⟩:=EB.run_ex he
    have:=XR_seen hK hk
    simp only [fpOk,Bool.and_eq_true] at this
    exact this.2
   ·exact he.elim
theorem XK_of_XR {all : List Oper} {ms : List Nat} {K : St A → List Seen → Prop} {K' : St A → Prop} (hK : ∀ st seen,K st seen → fpOk ms seen = true) (hK' : ∀ st seen,K st seen → K' st) : ∀ {l : List Oper} {j : Nat} {seen : List Seen} {st : St A},XR P E fl all l j seen st K →
  XK P E fl all ms K' (zipI j l) (fun s=>s ∈ seen) st
 | [],_,_,_,h=>hK' _ _ h
 | ⟨dst,op,ty,pos,after,guard⟩ :: l,j,seen,st,h=>by
  simp only [XR] at h
  split at h
  ·exact h.elim
  ·rename_i hd
   refine ⟨hd,XG_mono (fun e he=>?_) h⟩
   obtain ⟨R,W,new,b⟩:=e
   dsimp only at he
   split at he
   ·rename_i hf
    have hchk : fpOk ms (⟨j,R,W,isCall op⟩ :: seen) = true:=by
     obtain ⟨v,hs,_,hk⟩:=EB.run_ex he
     exact XR_seen hK hk
    simp only [fpOk,Bool.and_eq_true] at hchk
    refine ⟨(apartB_iff (e:=⟨R,W,new,b⟩)).1 hchk.1,hf,EB.run_mono (fun v hs hk=>?_) he⟩
    have:=XK_of_XR hK hK' hk
    have e : (fun s=>s ∈ (⟨j,R,W,isCall op⟩ :: seen : List Seen)) = insS ⟨j,R,W,isCall op⟩ (fun s=>s ∈ seen):=by
     funext s; exact propext (by simp [insS])
    rwa [e] at this
   ·exact he.elim
theorem XK_tail {all : List Oper} {ms : List Nat} {K : St A → Prop} {l l' : List (Nat × Oper)} {p : Nat × Oper} (h : ∀ S st,XK P E fl all ms K l S st → XK P E fl all ms K l' S st) {S : Seen → Prop} {st : St A} (hh : XK P E fl all ms K (p :: l) S st) : XK P E fl all ms K (p :: l') S st:=
 ⟨hh.1,XG_mono (fun _ he=>⟨he.1,he.2.mono fun _=>h _ _⟩) hh.2⟩
theorem fresh_app {u : Nat → Bool} {n1 : List Nat} : ∀ {n2 : List Nat},fresh (updU u n1) n2 = true → fresh u n2 = true ∧ ∀ k ∈ n2,k ∉ n1
 | [],_=>⟨rfl,fun _ h=>by cases h⟩
 | n :: l,h=>by
  have h0:=fresh_spec h n (by simp)
  have hn : u n = false:=by
   cases hu : u n with
   | false=>rfl
   | true=>rw [updU_old hu] at h0; cases h0
  have hm : n ∉ n1:=fun hm=>by rw [updU_new hm] at h0; cases h0
  have hl : fresh (updU u n1) l = true:=by
   simp only [fresh,h0] at h
   exact h
  obtain ⟨h1,h2⟩:=fresh_app hl
  exact ⟨by simp only [fresh,hn]; exact h1,fun k hk=>by rcases List.mem_cons.1 hk with rfl | hk; exact hm; exact h2 k hk⟩
theorem fresh_of {u : Nat → Bool} : ∀ {n : List Nat},(∀ k ∈ n,u k = false) → fresh u n = true
 | [],_=>rfl
 | k :: l,h=>by simp only [fresh,h k (by simp)]; exact fresh_of fun k hk=>h k (List.mem_cons_of_mem _ hk)
theorem updU_out {u : Nat → Bool} : ∀ {n : List Nat} {k : Nat},k ∉ n → updU u n k = u k
 | [],_,_=>rfl
 | m :: l,k,h=>by
  simp only [updU]
  rw [beq_false fun e=>h (by simp [e])]
  exact updU_out fun hm=>h (List.mem_cons_of_mem _ hm)
theorem updU_comm {u : Nat → Bool} {n m : List Nat} : updU (updU u n) m = updU (updU u m) n:=by
 funext k
 by_cases h1 : k ∈ n
 ·rw [updU_new h1,updU_old (updU_new h1)]
 ·by_cases h2 : k ∈ m
  ·rw [updU_new h2,updU_old (updU_new h2)]
  ·rw [updU_out h1,updU_out h2,updU_out h2,updU_out h1]
theorem updH_in {f g : Nat → Option (Ct A)} : ∀ {hs : List (Nat × Option (Ct A))} {k : Nat},(∃ p ∈ hs,p.1 = k) → updH f hs k = updH g hs k
 | [],_,h=>by obtain ⟨_,h,_⟩:=h; cases h
 | (h,c) :: l,k,⟨p,hp,e⟩=>by
  simp only [updH]
  by_cases hk : k = h
  ·subst hk; simp
  ·rw [beq_false hk]
   rcases List.mem_cons.1 hp with rfl | hp
   ·exact absurd e.symm hk
   ·exact updH_in ⟨p,hp,e⟩
theorem updH_comm {f : Nat → Option (Ct A)} {h1 h2 : List (Nat × Option (Ct A))} (hd : ∀ p ∈ h1,∀ q ∈ h2,p.1 ≠ q.1) : updH (updH f h1) h2 = updH (updH f h2) h1:=by
 funext k
 by_cases e1 : ∃ p ∈ h1,p.1 = k
 ·have e2 : ∀ q ∈ h2,q.1 ≠ k:=fun q hq e=>by obtain ⟨p,hp,ep⟩:=e1; exact hd p hp q hq (ep.trans e.symm)
  rw [updH_out e2]
  exact updH_in e1
 ·have e1' : ∀ p ∈ h1,p.1 ≠ k:=fun p hp e=>e1 ⟨p,hp,e⟩
  rw [updH_out (f:=updH f h2) e1']
  by_cases e2 : ∃ p ∈ h2,p.1 = k
  ·exact updH_in e2
  ·have e2' : ∀ p ∈ h2,p.1 ≠ k:=fun p hp e=>e2 ⟨p,hp,e⟩
   rw [updH_out e2',updH_out e2',updH_out e1']
theorem upd_comm {st : St A} {d1 d2 : Option Tmp} {v1 v2 : SV A} {h1 h2 : List (Nat × Option (Ct A))} {n1 n2 : List Nat} (hd : ∀ d,d1 = some d → d2 ≠ some d) (hh : ∀ p ∈ h1,∀ q ∈ h2,p.1 ≠ q.1) :
  (st.upd d1 v1 h1 n1).upd d2 v2 h2 n2 = (st.upd d2 v2 h2 n2).upd d1 v1 h1 n1:=by
 unfold St.upd
 simp only [updH_comm hh,updU_comm (n:=n1) (m:=n2),St.mk.injEq,and_true]
 funext t
 simp only [updT_spec]
 by_cases e1 : d1 = some t
 ·have e2 : d2 ≠ some t:=hd t e1
  simp [e1,e2]
 ·simp [e1]
theorem disj_swap {l m : List Nat} (h : disj l m = true) : disj m l = true:=by
 have h1:=disj_spec h
 clear h
 induction m with
 | nil=>rfl
 | cons x m ih=>
  simp only [disj]
  have : mem x l = false:=by
   cases hx : mem x l with
   | false=>rfl
   | true=>exact absurd (by simp) (h1 x (mem_iff.1 hx))
  rw [this]
  exact ih fun n hn hm=>h1 n hn (List.mem_cons_of_mem _ hm)
theorem XK_swap {all : List Oper} {ms : List Nat} {K : St A → Prop} {rest : List (Nat × Oper)} {i j : Nat} {oi oj : Oper} {S : Seen → Prop} {st : St A} (hap : oi.apart ⟨all⟩ oj = true) (hm : Nat.testBit ((nth ms j).getD 0) i = false)
  (h : XK P E fl all ms K ((i,oi) :: (j,oj) :: rest) S st) : XK P E fl all ms K ((j,oj) :: (i,oi) :: rest) S st:=by
 obtain ⟨a1,a2,a3⟩:=Oper.apart_spec hap
 obtain ⟨hdi,hi⟩:=h
 obtain ⟨ei,hei,hci,hfi,hri⟩:=XG_ex hi
 have insI:=XG_ins hei
 have hout : ∀ vi hi,ei.b.Out vi hi → okDst E.n oj.dst = true ∧ ∃ ej,XG P E fl all oj.dst oj.op oj.guard st (· = ej) ∧
   (∀ s,insS ⟨i,ei.R,ei.W,isCall oi.op⟩ S s → apart1 ((nth ms j).getD 0) ej (isCall oj.op) s) ∧
   Fine (st.upd oi.dst vi hi ei.new) oj.dst (fun st'=>XK P E fl all ms K rest (insS ⟨j,ej.R,ej.W,isCall oj.op⟩ (insS ⟨i,ei.R,ei.W,isCall oi.op⟩ S)) st') ej:=fun vi hi ho=>by
  obtain ⟨hdj,hj⟩:=EB.run_out hri vi hi ho
  obtain ⟨ej,hej,hcj,hfj⟩:=XG_ex hj
  refine ⟨hdj,ej,?_,hcj,hfj⟩
  have hx:=(hcj ⟨i,ei.R,ei.W,isCall oi.op⟩ (.inl rfl)).resolve_left (by rw [hm]; exact Bool.false_ne_true)
  refine XG_local hej (agree_upd a1).symm fun k hk=>?_
  refine updH_out fun p hp e=>?_
  have hpW:=insI vi hi ho p hp
  rcases hk with hk | hk
  ·exact disj_spec hx.1 _ hpW (e ▸ hk)
  ·exact disj_spec hx.2.1 _ hpW (e ▸ hk)
 obtain ⟨v0,h0,ho0,_⟩:=EB.run_ex hri
 obtain ⟨hdj,ej,hej,hcj,hfj⟩:=hout v0 h0 ho0
 have hx:=(hcj ⟨i,ei.R,ei.W,isCall oi.op⟩ (.inl rfl)).resolve_left (by rw [hm]; exact Bool.false_ne_true)
 dsimp only at hx
 have insJ:=XG_ins hej
 have hall : ∀ vi hi,ei.b.Out vi hi → Fine (st.upd oi.dst vi hi ei.new) oj.dst (fun st'=>XK P E fl all ms K rest (insS ⟨j,ej.R,ej.W,isCall oj.op⟩ (insS ⟨i,ei.R,ei.W,isCall oi.op⟩ S)) st') ej:=fun vi hi ho=>by
  cases hc : isCall oj.op with
  | false=>
   obtain ⟨_,ej',hej',_,hfj'⟩:=hout vi hi ho
   have:=(XG_det hc hej).2 ej' hej'
   subst this
   rw [hc] at hfj'
   exact hfj'
  | true=>
   have hci : isCall oi.op = false:=by
    have:=hx.2.2.2
    rw [hc] at this
    simpa using this
   obtain ⟨e1,e2⟩:=(XG_det hci hei).1 v0 h0 vi hi ho0 ho
   subst e1; subst e2
   rw [hc] at hfj
   exact hfj
 obtain ⟨hfr,hdis⟩:=fresh_app (n1:=ei.new) hfj.1
 refine ⟨hdj,XG_mono (fun e he=>?_) hej⟩
 have he':=he.symm
 subst he'
 refine ⟨fun s hs=>hcj s (.inr hs),hfr,EB.run_of hfj.2 fun vj hj hoj=>⟨hdi,?_⟩⟩
 have hloc : XG P E fl all oi.dst oi.op oi.guard (st.upd oj.dst vj hj ej.new) (· = ei):=by
  refine XG_local hei (agree_upd a3) fun k hk=>?_
  refine (updH_out fun p hp e=>?_).symm
  have hpW:=insJ vj hj hoj p hp
  rcases hk with hk | hk
  ·exact disj_spec hx.2.2.1 k hk (e ▸ hpW)
  ·exact disj_spec hx.2.1 k hk (e ▸ hpW)
 refine XG_mono (fun e he=>?_) hloc
 have he':=he.symm
 subst he'
 refine ⟨fun s hs=>?_,?_,EB.run_of hri fun vi hi ho=>?_⟩
 ·rcases hs with rfl | hs
  ·exact .inr ⟨disj_swap hx.2.2.1,disj_swap hx.2.1,disj_swap hx.1,by rw [Bool.and_comm]; exact hx.2.2.2⟩
  ·exact hci s hs
 ·refine fresh_of fun k hk=>?_
  show updU st.u ej.new k = false
  rw [updU_out fun hm=>hdis k hm hk]
  exact fresh_spec hfi k hk
 ·have:=EB.run_out (hall vi hi ho).2 vj hj hoj
  rw [upd_comm a2 fun p hp q hq e=>disj_spec hx.2.1 _ (insI vi hi ho p hp) (e ▸ insJ vj hj hoj q hq),insS_comm] at this
  exact this
theorem XK_front {all : List Oper} {ms : List Nat} {K : St A → Prop} {j : Nat} {oj : Oper} {l2 : List (Nat × Oper)} : ∀ (l1 : List (Nat × Oper)) {S : Seen → Prop} {st : St A},(∀ p ∈ l1,p.2.apart ⟨all⟩ oj = true ∧ Nat.testBit ((nth ms j).getD 0) p.1 = false) →
  XK P E fl all ms K (l1 ++ (j,oj) :: l2) S st → XK P E fl all ms K ((j,oj) :: (l1 ++ l2)) S st
 | [],_,_,_,h=>h
 | (i,oi) :: l1,S,st,hl,h=>by
  have h1:=XK_tail (l':=(j,oj) :: (l1 ++ l2)) (fun S st=>XK_front l1 (S:=S) (st:=st) fun p hp=>hl p (List.mem_cons_of_mem _ hp)) h
  exact XK_swap (hl (i,oi) (by simp)).1 (hl (i,oi) (by simp)).2 h1
end
end Go.Sx
namespace Go.Sx
open Go
variable {A : Nat → Type}
section
variable {P : Program} {E : Env A} {fl : Nat → Bool}
structure LexOk (ops : List Oper) : Prop where
 back : ∀ j o,ops[j]? = some o → ∀ e ∈ o.after,Region.binds .any e = true → e.on < j
 apart : ∀ i j oi oj,i < j → ops[i]? = some oi → ops[j]? = some oj → (∀ e ∈ oj.after,Region.binds .any e = true → e.on ≠ i) → oi.apart ⟨ops⟩ oj = true
theorem getD_ne {listed : Array Bool} {k : Nat} (h1 : listed.getD k true = false) (h2 : listed.getD k false = true) : False:=by
 rw [Array.getD_eq_getD_getElem?] at h1 h2
 cases h : listed[k]? with
 | none=>rw [h] at h1; cases h1
 | some b=>rw [h] at h1 h2; simp at h1 h2; rw [h1] at h2; cases h2
theorem lexFrom_spec {ops : List Oper} : ∀ (fuel k : Nat) (listed : Array Bool),k + fuel = ops.length → listed.size = ops.length → (∀ m,k ≤ m → m < ops.length → listed.getD m true = false) → Region.lexFrom .any ⟨ops⟩ fuel k listed = true →
  ∀ j,k ≤ j → (∀ o,ops[j]? = some o → ∀ e ∈ o.after,Region.binds .any e = true → e.on < j) ∧
   ∀ i oi oj,k ≤ i → i < j → ops[i]? = some oi → ops[j]? = some oj → (∀ e ∈ oj.after,Region.binds .any e = true → e.on ≠ i) → oi.apart ⟨ops⟩ oj = true
 | 0,k,listed,hk,_,_,_,j,hj=>⟨fun o ho=>by have:=(List.getElem?_eq_some_iff.1 ho).1; omega,fun i oi oj h1 h2 h3 h4=>by have:=(List.getElem?_eq_some_iff.1 h4).1; omega⟩
 | fuel + 1,k,listed,hk,hsz,hun,h,j,hj=>by
  simp only [Region.lexFrom,Bool.and_eq_true] at h
  obtain ⟨⟨h1,h2⟩,h3⟩:=h
  have hun' : ∀ m,k + 1 ≤ m → m < ops.length → (listed.setIfInBounds k true).getD m true = false:=fun m hm hl=>by
   rw [getD_set_ne true (by omega)]; exact hun m (by omega) hl
  have ih:=lexFrom_spec fuel (k + 1) _ (by omega) (by simpa using hsz) hun' h3
  have hr:=mem_ready.1 (by simpa using h1 : k ∈ Region.ready .any ⟨ops⟩ listed)
  obtain ⟨hkun,o,ho,hedge⟩:=hr
  rw [List.getElem?_toArray] at ho
  constructor
  ·intro oj hoj e he hb
   by_cases e1 : j = k
   ·subst e1
    rw [ho] at hoj; cases hoj
    have hl:=hedge e he hb
    rcases Nat.lt_or_ge e.on j with hlt | hge
    ·exact hlt
    ·rcases Nat.lt_or_ge e.on ops.length with h4 | h4
     ·exact (getD_ne (hun e.on hge h4) hl).elim
     ·rw [Array.getD_eq_getD_getElem?,Array.getElem?_eq_none (by omega)] at hl; cases hl
   ·exact (ih j (by omega)).1 oj hoj e he hb
  ·intro i oi oj h4 h5 h6 h7 h8
   by_cases e1 : i = k
   ·subst e1
    exact Region.free_spec (by rw [List.getElem?_toArray]; exact h6) h2 j oj (by rw [List.getElem?_toArray]; exact h7) (by omega) (hun j (by omega) (List.getElem?_eq_some_iff.1 h7).1) h8
   ·exact (ih j (by omega)).2 i oi oj (by omega) h5 h6 h7 h8
theorem lexOk_of {ops : List Oper} (h : Region.lexB .any ⟨ops⟩ = true) : LexOk ops:=by
 simp only [Region.lexB,Bool.and_eq_true] at h
 have:=lexFrom_spec ops.length 0 (Array.replicate ops.length false) (by omega) (by simp) (fun m _ hm=>by simp [hm]) h.2
 exact ⟨fun j=>(this j (by omega)).1,fun i j oi oj h1=>(this j (by omega)).2 i oi oj (by omega) h1⟩
theorem maskOf_bit {ms : List Nat} {i : Nat} : ∀ {l : List Edge},Nat.testBit (maskOf ms l) i = true → ∃ e ∈ l,Region.binds .any e = true ∧ (e.on = i ∨ Nat.testBit ((nth ms e.on).getD 0) i = true)
 | [],h=>by simp [maskOf] at h
 | e :: l,h=>by
  simp only [maskOf] at h
  split at h
  ·rename_i hb
   have h' : Nat.testBit (((2 ^ e.on) ||| ((nth ms e.on).getD 0)) ||| (maskOf ms l)) i = true:=h
   simp only [Nat.testBit_or,Bool.or_eq_true] at h'
   rcases h' with (h1 | h1) | h1
   ·refine ⟨e,by simp,hb,.inl ?_⟩
    rw [Nat.testBit_two_pow] at h1
    simpa using h1
   ·exact ⟨e,by simp,hb,.inr h1⟩
   ·obtain ⟨e',h2,h3⟩:=maskOf_bit h1
    exact ⟨e',by simp [h2],h3⟩
  ·obtain ⟨e',h2,h3⟩:=maskOf_bit h
   exact ⟨e',by simp [h2],h3⟩
theorem masks_keep : ∀ (l : List Oper) (ms : List Nat) (k : Nat),k < ms.length → (masks l ms)[k]? = ms[k]?
 | [],_,_,_=>rfl
 | o :: l,ms,k,h=>by
  simp only [masks]
  rw [masks_keep l _ k (by simp; omega),List.getElem?_append_left h]
theorem masks_spec : ∀ (l : List Oper) (ms : List Nat) (j : Nat) o,l[j]? = some o → ∃ ms',ms'.length = ms.length + j ∧ (∀ k,k < ms'.length → (masks l ms)[k]? = ms'[k]?) ∧ (masks l ms)[ms.length + j]? = some (maskOf ms' o.after.toList)
 | [],_,_,_,h=>by simp at h
 | o :: l,ms,0,o',h=>by
  simp at h; subst h
  refine ⟨ms,rfl,fun k hk=>masks_keep _ _ _ hk,?_⟩
  simp only [masks,Nat.add_zero]
  rw [masks_keep l _ ms.length (by simp)]
  simp
 | o :: l,ms,j + 1,o',h=>by
  obtain ⟨ms',h1,h2,h3⟩:=masks_spec l (ms ++ [maskOf ms o.after.toList]) j o' (by simpa using h)
  refine ⟨ms',by simp at h1; omega,h2,?_⟩
  simp only [masks]
  rw [← h3]; congr 1; simp; omega
theorem mask_listed {ops : List Oper} (hL : LexOk ops) {listed : Array Bool} (hc : ∀ (k : Nat) o,ops[k]? = some o → listed.getD k false = true → ∀ e ∈ o.after,Region.binds .any e = true → listed.getD e.on false = true) :
  ∀ (n j : Nat),j ≤ n → ∀ o,ops[j]? = some o → (∀ e ∈ o.after,Region.binds .any e = true → listed.getD e.on false = true) → ∀ i,Nat.testBit ((nth (masks ops []) j).getD 0) i = true → listed.getD i false = true:=by
 intro n
 induction n with
 | zero=>
  intro j hj o ho he i hi
  obtain ⟨ms',h1,h2,h3⟩:=masks_spec ops [] j o ho
  simp only [List.length_nil,Nat.zero_add] at h1 h3
  rw [nth_eq,h3] at hi
  obtain ⟨e,he1,he2,he3⟩:=maskOf_bit hi
  have:=hL.back j o ho e (by simpa using he1) he2
  omega
 | succ n ih=>
  intro j hj o ho he i hi
  obtain ⟨ms',h1,h2,h3⟩:=masks_spec ops [] j o ho
  simp only [List.length_nil,Nat.zero_add] at h1 h3
  rw [nth_eq,h3] at hi
  obtain ⟨e,he1,he2,he3⟩:=maskOf_bit hi
  have hlt:=hL.back j o ho e (by simpa using he1) he2
  have hle:=he e (by simpa using he1) he2
  rcases he3 with rfl | he3
  ·exact hle
  ·rw [nth_eq,← h2 e.on (by omega),← nth_eq] at he3
   have hjl:=(List.getElem?_eq_some_iff.1 ho).1
   have ho' : ops[e.on]? = some ops[e.on]:=List.getElem?_eq_getElem (by omega)
   exact ih e.on (by omega) _ ho' (hc e.on _ ho' hle) i he3
section
variable {X E0 : Nat → Prop} {ρ0 : Rho} {w0 : World}
theorem wpAny_XK {ro : Option Nat} {m : Nat} (hY : YOk E E0 ρ0 w0) (hE : E.Ok P) (hfl : FlOk E.reg fl) {ops : List Oper} (hL : LexOk ops) {K : St A → Prop} {Q : Exit → Act → World → Prop} (hn : ∀ st' ρ' a' w',K st' → SInv E.reg E.n X E0 ρ0 w0 st' ρ' a' w' → Q .normal a' w') :
  ∀ (n : Nat) (l : List (Nat × Oper)) (listed : Array Bool) (S : Seen → Prop) {st : St A} {ρ : Rho} {a : Act} {w : World},l.length = n → (∀ p ∈ l,ops[p.1]? = some p.2) → l.Pairwise (fun p q=>p.1 < q.1) → listed.size = ops.length →
   (∀ (k : Nat) o,ops[k]? = some o → listed.getD k false = true ∨ (k,o) ∈ l) → (∀ p ∈ l,listed.getD p.1 true = false) →
   (∀ (k : Nat) o,ops[k]? = some o → listed.getD k false = true → ∀ e ∈ o.after,Region.binds .any e = true → listed.getD e.on false = true) →
   SInv E.reg E.n X E0 ρ0 w0 st ρ a w → XK P E fl ops (masks ops []) K l S st → wpAnyIn (FR ro) m P .any ⟨ops⟩ Q n listed a w
 | 0,l,listed,S,st,ρ,a,w,hlen,hops,hsort,hsz,hall,hun,hcl,hI,h=>by
  have hl0 : l = []:=List.length_eq_zero_iff.1 hlen
  subst hl0
  refine ⟨?_,hn _ _ _ _ h hI⟩
  refine List.eq_nil_iff_forall_not_mem.2 fun j hj=>?_
  obtain ⟨h1,o,ho,_⟩:=mem_ready.1 hj
  rw [List.getElem?_toArray] at ho
  rcases hall j o ho with h2 | h2
  ·exact getD_ne h1 h2
  ·cases h2
 | n + 1,l,listed,S,st,ρ,a,w,hlen,hops,hsort,hsz,hall,hun,hcl,hI,h=>by
  refine ⟨fun hr=>?_,fun j hj=>?_⟩
  ·cases l with
   | nil=>simp at hlen
   | cons p l=>
    have hp : p.1 ∈ Region.ready .any ⟨ops⟩ listed:=by
     refine mem_ready.2 ⟨hun p (by simp),p.2,by rw [List.getElem?_toArray]; exact hops p (by simp),fun e he hb=>?_⟩
     have hlt:=hL.back p.1 p.2 (hops p (by simp)) e he hb
     have hpl:=(List.getElem?_eq_some_iff.1 (hops p (by simp))).1
     rcases hall e.on ops[e.on] (List.getElem?_eq_getElem (by omega)) with h2 | h2
     ·exact h2
     ·rcases List.mem_cons.1 h2 with h3 | h3
      ·rw [← h3] at hlt; simp at hlt
      ·have:=(List.pairwise_cons.1 hsort).1 _ h3; simp at this; omega
    rw [hr] at hp; cases hp
  ·obtain ⟨hjun,o,ho,hedge⟩:=mem_ready.1 hj
   rw [List.getElem?_toArray] at ho
   have hmem : (j,o) ∈ l:=(hall j o ho).resolve_left fun h2=>getD_ne hjun h2
   obtain ⟨l1,l2,rfl⟩:=List.append_of_mem hmem
   have hs:=List.pairwise_append.1 hsort
   have h1 : XK P E fl ops (masks ops []) K ((j,o) :: (l1 ++ l2)) S st:=by
    refine XK_front l1 (fun p hp=>?_) h
    have hlt : p.1 < j:=hs.2.2 p hp (j,o) (by simp)
    have hpo:=hops p (by simp [hp])
    have hpu:=hun p (by simp [hp])
    refine ⟨hL.apart p.1 j p.2 o hlt hpo ho fun e he hb heq=>getD_ne hpu (heq ▸ hedge e he hb),?_⟩
    cases hb : Nat.testBit ((nth (masks ops []) j).getD 0) p.1 with
    | false=>rfl
    | true=>exact (getD_ne hpu (mask_listed hL hcl j j (Nat.le_refl _) o ho hedge p.1 hb)).elim
   have hsj:=List.pairwise_cons.1 hs.2.1
   refine wp_XG hY hE hfl hI ho h1.1 (XG_mono (fun e he=>he.2.mono (K':=fun st'=>∃ S',XK P E fl ops (masks ops []) K (l1 ++ l2) S' st') fun _ hk=>⟨_,hk⟩) h1.2) fun st' ρ' a' w' hk hi=>?_
   obtain ⟨S',hk⟩:=hk
   refine wpAny_XK hY hE hfl hL hn n (l1 ++ l2) (listed.setIfInBounds j true) S' (by simp at hlen ⊢; omega) (fun p hp=>hops p ?_) (List.pairwise_append.2 ⟨hs.1,hsj.2,fun p hp q hq=>hs.2.2 p hp q (by simp [hq])⟩) (by simpa using hsz) (fun k ok hok=>?_) (fun p hp=>?_) (fun k ok hok hkl e he hb=>?_) hi hk
   ·rcases List.mem_append.1 hp with hp | hp <;> simp [hp]
   ·rcases hall k ok hok with h2 | h2
    ·exact .inl (getD_set_true h2)
    ·by_cases e : k = j
     ·subst e
      refine .inl ?_
      have:=(List.getElem?_eq_some_iff.1 hok).1
      simp [hsz,this]
     ·refine .inr ?_
      rcases List.mem_append.1 h2 with h2 | h2
      ·simp [h2]
      ·rcases List.mem_cons.1 h2 with h2 | h2
       ·exact absurd (congrArg Prod.fst h2) e
       ·simp [h2]
   ·have hne : p.1 ≠ j:=by
     rcases List.mem_append.1 hp with hp | hp
     ·have:=hs.2.2 p hp (j,o) (by simp); simp at this; omega
     ·have:=hsj.1 p hp; simp at this; omega
    rw [getD_set_ne true (Ne.symm hne)]
    exact hun p (by rcases List.mem_append.1 hp with hp | hp <;> simp [hp])
   ·by_cases e1 : k = j
    ·subst e1
     rw [ho] at hok; cases hok
     exact getD_set_true (hedge e he hb)
    ·rw [getD_set_ne false (Ne.symm e1)] at hkl
     exact getD_set_true (hcl k ok hok hkl e he hb)
theorem zipI_sorted : ∀ (l : List Oper) (j : Nat),(zipI j l).Pairwise (fun p q=>p.1 < q.1) ∧ ∀ p ∈ zipI j l,j ≤ p.1
 | [],_=>⟨List.Pairwise.nil,fun _ h=>by cases h⟩
 | o :: l,j=>by
  obtain ⟨h1,h2⟩:=zipI_sorted l (j + 1)
  refine ⟨List.pairwise_cons.2 ⟨fun p hp=>by have:=h2 p hp; simp; omega,h1⟩,fun p hp=>?_⟩
  rcases List.mem_cons.1 hp with rfl | hp
  ·exact Nat.le_refl _
  ·have:=h2 p hp; omega
theorem zipI_len : ∀ (l : List Oper) (j : Nat),(zipI j l).length = l.length
 | [],_=>rfl
 | _ :: l,j=>by simp [zipI,zipI_len l (j + 1)]
theorem zipI_mem : ∀ (l : List Oper) (j k : Nat) o,l[k]? = some o → (j + k,o) ∈ zipI j l
 | [],_,_,_,h=>by simp at h
 | o :: l,j,0,o',h=>by simp at h; subst h; simp [zipI]
 | o :: l,j,k + 1,o',h=>by
  have:=zipI_mem l (j + 1) k o' (by simpa using h)
  rw [show j + 1 + k = j + (k + 1) by omega] at this
  simp [zipI,this]
theorem wp_region_drawn_XR {ro : Option Nat} {m : Nat} (hY : YOk E E0 ρ0 w0) (hP : P.follows .mixedOrders = true) (hE : E.Ok P) (hfl : FlOk E.reg fl) {st : St A} {ρ : Rho} {a : Act} {w : World} (hI : SInv E.reg E.n X E0 ρ0 w0 st ρ a w) {id : Nat} {ops : List Oper} {K : St A → Prop} {Q : Exit → Act → World → Prop}
  (h : XR P E fl ops ops 0 [] st fun st' seen=>(Region.lexB .any ⟨ops⟩ && fpOk (masks ops []) seen) = true ∧ K st') (hn : ∀ st' ρ' a' w',K st' → SInv E.reg E.n X E0 ρ0 w0 st' ρ' a' w' → Q .normal a' w') : (Code.region id ⟨ops⟩ true).wpIn (FR ro) m P Q a w:=by
 have hK : ∀ st' seen,((Region.lexB .any ⟨ops⟩ && fpOk (masks ops []) seen) = true ∧ K st') → fpOk (masks ops []) seen = true:=fun st' seen h=>by
  have:=h.1; simp only [Bool.and_eq_true] at this; exact this.2
 have hL : LexOk ops:=by
  have h1:=XL_of_XR h
  clear hn
  have ex : ∀ (l : List (Nat × Oper)) (st : St A) (K' : St A → Prop),XL P E fl ops l st K' → ∃ st',K' st':=by
   intro l
   induction l with
   | nil=>intro st K' h; exact ⟨st,h⟩
   | cons p l ih=>
    intro st K' h
    obtain ⟨e,_,_,hr⟩:=XG_ex h.2
    obtain ⟨v,hs,_,hk⟩:=EB.run_ex hr
    exact ih _ _ hk
  obtain ⟨_,_,hh,_⟩:=ex _ _ _ h1
  simp only [Bool.and_eq_true] at hh
  exact lexOk_of hh.1
 have hk:=XK_of_XR (K':=K) hK (fun _ _ h=>h.2) h
 refine wpIn_region_any hP ?_
 have:=wpAny_XK (ro:=ro) (m:=m) hY hE hfl hL hn ops.length (zipI 0 ops) (Array.replicate ops.length false) _ (zipI_len ops 0) (zipI_get ops 0 fun k=>by simp) (zipI_sorted ops 0).1 (by simp)
  (fun k o ho=>.inr (by have:=zipI_mem ops 0 k o ho; simpa using this)) (fun p hp=>by
   have:=(List.getElem?_eq_some_iff.1 (zipI_get (ops:=ops) ops 0 (fun k=>by simp) p hp)).1
   simp [this]) (fun k o ho hl=>by
   have:=(List.getElem?_eq_some_iff.1 ho).1
   simp [this] at hl) (hI.drawn (w.drawn + 1)) hk
 simpa using this
theorem orAt_bit {a b : Nat} : ∀ {ms : List Nat} {j i : Nat},Nat.testBit ((nth (orAt ms b a) j).getD 0) i = true → Nat.testBit ((nth ms j).getD 0) i = true ∨ (j = b ∧ i = a):=by
 induction b with
 | zero=>
  intro ms j i h
  cases ms with
  | nil=>exact .inl h
  | cons m l=>
   cases j with
   | zero=>
    have h : Nat.testBit (m ||| 2 ^ a) i = true:=h
    rw [Nat.testBit_or,Bool.or_eq_true,Nat.testBit_two_pow] at h
    rcases h with h | h
    ·exact .inl h
    ·exact .inr ⟨rfl,(of_decide_eq_true h).symm⟩
   | succ j=>exact .inl h
 | succ b ih=>
  intro ms j i h
  cases ms with
  | nil=>exact .inl h
  | cons m l=>
   cases j with
   | zero=>exact .inl h
   | succ j=>
    rcases ih (ms:=l) (j:=j) h with h | ⟨rfl,rfl⟩
    ·exact .inl h
    ·exact .inr ⟨rfl,rfl⟩
def ClosedL (ops : List Oper) (listed : Array Bool) : Prop:=∀ (k : Nat) o,ops[k]? = some o → listed.getD k false = true → ∀ e ∈ o.after,Region.binds .any e = true → listed.getD e.on false = true
def WaitsNot (listed : Array Bool) (o : Oper) : Prop:=∀ e ∈ o.after,Region.binds .any e = true → listed.getD e.on false = true
def FrontOk (ops : List Oper) (r : Nat → Nat) (ms : List Nat) (listed : Array Bool) (j : Nat) (o : Oper) : Prop:=
 ∀ (i : Nat) oi,ops[i]? = some oi → listed.getD i true = false → r i < r j → oi.apart ⟨ops⟩ o = true ∧ Nat.testBit ((nth ms j).getD 0) i = false
theorem least_mem : ∀ (l : List (Nat × Oper)),l ≠ [] → ∃ p ∈ l,∀ q ∈ l,p.1 ≤ q.1
 | [],h=>absurd rfl h
 | [p],_=>⟨p,by simp,fun q hq=>by rw [List.mem_singleton] at hq; subst hq; exact Nat.le_refl _⟩
 | p :: p2 :: l,_=>by
  obtain ⟨q,hq,hm⟩:=least_mem (p2 :: l) (by simp)
  by_cases h : p.1 ≤ q.1
  ·exact ⟨p,by simp,fun x hx=>by
    rcases List.mem_cons.1 hx with rfl | hx
    ·exact Nat.le_refl _
    ·exact Nat.le_trans h (hm x hx)⟩
  ·exact ⟨q,List.mem_cons_of_mem _ hq,fun x hx=>by
    rcases List.mem_cons.1 hx with rfl | hx
    ·omega
    ·exact hm x hx⟩
theorem ready_some {ops : List Oper} (hL : LexOk ops) {l : List (Nat × Oper)} {listed : Array Bool} (hne : l ≠ []) (hops : ∀ p ∈ l,ops[p.1]? = some p.2) (hall : ∀ (k : Nat) o,ops[k]? = some o → listed.getD k false = true ∨ (k,o) ∈ l) (hun : ∀ p ∈ l,listed.getD p.1 true = false) :
  ∃ j,j ∈ Region.ready .any ⟨ops⟩ listed:=by
 obtain ⟨p,hp,hm⟩:=least_mem l hne
 refine ⟨p.1,mem_ready.2 ⟨hun p hp,p.2,by rw [List.getElem?_toArray]; exact hops p hp,fun e he hb=>?_⟩⟩
 have hlt:=hL.back p.1 p.2 (hops p hp) e he hb
 have hpl:=(List.getElem?_eq_some_iff.1 (hops p hp)).1
 rcases hall e.on ops[e.on] (List.getElem?_eq_getElem (by omega)) with h2 | h2
 ·exact h2
 ·have:=hm _ h2; simp at this; omega
theorem listed_step {ops : List Oper} {l1 l2 : List (Nat × Oper)} {j : Nat} {o : Oper} {listed : Array Bool} (ho : ops[j]? = some o) (hsz : listed.size = ops.length) (hne : ∀ p ∈ l1 ++ l2,p.1 ≠ j)
  (hall : ∀ (k : Nat) o',ops[k]? = some o' → listed.getD k false = true ∨ (k,o') ∈ l1 ++ (j,o) :: l2) (hun : ∀ p ∈ l1 ++ (j,o) :: l2,listed.getD p.1 true = false) (hcl : ClosedL ops listed) (hw : WaitsNot listed o) :
  (listed.setIfInBounds j true).size = ops.length ∧ (∀ (k : Nat) o',ops[k]? = some o' → (listed.setIfInBounds j true).getD k false = true ∨ (k,o') ∈ l1 ++ l2) ∧ (∀ p ∈ l1 ++ l2,(listed.setIfInBounds j true).getD p.1 true = false) ∧ ClosedL ops (listed.setIfInBounds j true):=by
 refine ⟨by simpa using hsz,fun k ok hok=>?_,fun p hp=>?_,fun k ok hok hkl e he hb=>?_⟩
 ·rcases hall k ok hok with h2 | h2
  ·exact .inl (getD_set_true h2)
  ·by_cases e : k = j
   ·subst e
    refine .inl ?_
    have:=(List.getElem?_eq_some_iff.1 hok).1
    simp [hsz,this]
   ·refine .inr ?_
    rcases List.mem_append.1 h2 with h2 | h2
    ·simp [h2]
    ·rcases List.mem_cons.1 h2 with h2 | h2
     ·exact absurd (congrArg Prod.fst h2) e
     ·simp [h2]
 ·rw [getD_set_ne true (Ne.symm (hne p hp))]
  exact hun p (by rcases List.mem_append.1 hp with hp | hp <;> simp [hp])
 ·by_cases e1 : k = j
  ·subst e1
   rw [ho] at hok; cases hok
   exact getD_set_true (hw e he hb)
  ·rw [getD_set_ne false (Ne.symm e1)] at hkl
   exact getD_set_true (hcl k ok hok hkl e he hb)
theorem pair_ne {r : Nat → Nat} {l1 l2 : List (Nat × Oper)} {j : Nat} {o : Oper} (hs : (l1 ++ (j,o) :: l2).Pairwise (fun p q=>r p.1 < r q.1)) : (∀ p ∈ l1 ++ l2,p.1 ≠ j) ∧ (∀ p ∈ l1,r p.1 < r j) ∧ (l1 ++ l2).Pairwise (fun p q=>r p.1 < r q.1):=by
 have hs:=List.pairwise_append.1 hs
 have hsj:=List.pairwise_cons.1 hs.2.1
 refine ⟨fun p hp e=>?_,fun p hp=>hs.2.2 p hp (j,o) (by simp),List.pairwise_append.2 ⟨hs.1,hsj.2,fun p hp q hq=>hs.2.2 p hp q (by simp [hq])⟩⟩
 rcases List.mem_append.1 hp with hp | hp
 ·have:=hs.2.2 p hp (j,o) (by simp); rw [e] at this; exact absurd this (Nat.lt_irrefl _)
 ·have:=hsj.1 p hp; rw [e] at this; simp at this
theorem wpAny_w {ro : Option Nat} {m : Nat} (hY : YOk E E0 ρ0 w0) (hE : E.Ok P) (hfl : FlOk E.reg fl) {ops : List Oper} (hL : LexOk ops) {ms : List Nat} {r : Nat → Nat} {C : Array Bool → Prop} (hC : ∀ listed j,C listed → C (listed.setIfInBounds j true))
  (hF : ∀ listed,C listed → ClosedL ops listed → ∀ (j : Nat) o,ops[j]? = some o → WaitsNot listed o → FrontOk ops r ms listed j o) {K : St A → Prop} {Q : Exit → Act → World → Prop} (hn : ∀ st' ρ' a' w',K st' → SInv E.reg E.n X E0 ρ0 w0 st' ρ' a' w' → Q .normal a' w') :
  ∀ (n : Nat) (l : List (Nat × Oper)) (listed : Array Bool) (S : Seen → Prop) {st : St A} {ρ : Rho} {a : Act} {w : World},l.length = n → (∀ p ∈ l,ops[p.1]? = some p.2) → l.Pairwise (fun p q=>r p.1 < r q.1) → listed.size = ops.length →
   (∀ (k : Nat) o,ops[k]? = some o → listed.getD k false = true ∨ (k,o) ∈ l) → (∀ p ∈ l,listed.getD p.1 true = false) → ClosedL ops listed → C listed →
   SInv E.reg E.n X E0 ρ0 w0 st ρ a w → XK P E fl ops ms K l S st → wpAnyIn (FR ro) m P .any ⟨ops⟩ Q n listed a w
 | 0,l,listed,S,st,ρ,a,w,hlen,hops,hsort,hsz,hall,hun,hcl,hc,hI,h=>by
  have hl0 : l = []:=List.length_eq_zero_iff.1 hlen
  subst hl0
  refine ⟨?_,hn _ _ _ _ h hI⟩
  refine List.eq_nil_iff_forall_not_mem.2 fun j hj=>?_
  obtain ⟨h1,o,ho,_⟩:=mem_ready.1 hj
  rw [List.getElem?_toArray] at ho
  rcases hall j o ho with h2 | h2
  ·exact getD_ne h1 h2
  ·cases h2
 | n + 1,l,listed,S,st,ρ,a,w,hlen,hops,hsort,hsz,hall,hun,hcl,hc,hI,h=>by
  refine ⟨fun hr=>?_,fun j hj=>?_⟩
  ·obtain ⟨j,hj⟩:=ready_some hL (l:=l) (fun e=>by subst e; simp at hlen) hops hall hun
   rw [hr] at hj; cases hj
  ·obtain ⟨hjun,o,ho,hedge⟩:=mem_ready.1 hj
   rw [List.getElem?_toArray] at ho
   have hmem : (j,o) ∈ l:=(hall j o ho).resolve_left fun h2=>getD_ne hjun h2
   obtain ⟨l1,l2,rfl⟩:=List.append_of_mem hmem
   obtain ⟨hne,hlt,hsort'⟩:=pair_ne hsort
   have h1 : XK P E fl ops ms K ((j,o) :: (l1 ++ l2)) S st:=XK_front l1 (fun p hp=>hF listed hc hcl j o ho hedge p.1 p.2 (hops p (by simp [hp])) (hun p (by simp [hp])) (hlt p hp)) h
   refine wp_XG hY hE hfl hI ho h1.1 (XG_mono (fun e he=>he.2.mono (K':=fun st'=>∃ S',XK P E fl ops ms K (l1 ++ l2) S' st') fun _ hk=>⟨_,hk⟩) h1.2) fun st' ρ' a' w' hk hi=>?_
   obtain ⟨S',hk⟩:=hk
   obtain ⟨g1,g2,g3,g4⟩:=listed_step ho hsz hne hall hun hcl hedge
   exact wpAny_w hY hE hfl hL hC hF hn n (l1 ++ l2) (listed.setIfInBounds j true) S' (by simp at hlen ⊢; omega) (fun p hp=>hops p (by rcases List.mem_append.1 hp with hp | hp <;> simp [hp])) hsort' g1 g2 g3 g4 (hC _ _ hc) hi hk
theorem front_id {ops : List Oper} (hL : LexOk ops) {listed : Array Bool} (hcl : ClosedL ops listed) {j : Nat} {o : Oper} (ho : ops[j]? = some o) (hw : WaitsNot listed o) {i : Nat} {oi : Oper} (hoi : ops[i]? = some oi) (hun : listed.getD i true = false) :
  (i < j → oi.apart ⟨ops⟩ o = true) ∧ Nat.testBit ((nth (masks ops []) j).getD 0) i = false:=by
 refine ⟨fun hlt=>hL.apart i j oi o hlt hoi ho fun e he hb heq=>getD_ne hun (heq ▸ hw e he hb),?_⟩
 cases hb : Nat.testBit ((nth (masks ops []) j).getD 0) i with
 | false=>rfl
 | true=>exact (getD_ne hun (mask_listed hL hcl j j (Nat.le_refl _) o ho hw i hb)).elim
theorem rkO_eq (a b i : Nat) : rkO a b i = if i = a then 2 * b + 1 else 2 * i:=by
 unfold rkO
 split
 ·rename_i h; rw [if_pos (beq_true h)]
 ·rename_i h; rw [if_neg fun e=>by subst e; simp at h]
theorem front_two {ops : List Oper} (hL : LexOk ops) {a b : Nat} (hab : a < b) (hbt : ∀ (i : Nat) oi oa,ops[i]? = some oi → ops[a]? = some oa → a < i → i ≤ b → oi.apart ⟨ops⟩ oa = true) {listed : Array Bool} (hcl : ClosedL ops listed) {j : Nat} {o : Oper} (ho : ops[j]? = some o) (hw : WaitsNot listed o) :
  ((listed.getD a true = false → j ≠ b) → FrontOk ops id (orAt (masks ops []) b a) listed j o) ∧ ((listed.getD b true = false → j ≠ a) → FrontOk ops (rkO a b) (orAt (masks ops []) a b) listed j o):=by
 refine ⟨fun hj i oi hoi hun hlt=>?_,fun hj i oi hoi hun hlt=>?_⟩
 ·obtain ⟨h1,h2⟩:=front_id hL hcl ho hw hoi hun
  refine ⟨h1 hlt,?_⟩
  cases hb : Nat.testBit ((nth (orAt (masks ops []) b a) j).getD 0) i with
  | false=>rfl
  | true=>
   rcases orAt_bit hb with hb | ⟨e1,e2⟩
   ·rw [h2] at hb; cases hb
   ·subst e2; exact absurd e1 (hj hun)
 ·obtain ⟨h1,h2⟩:=front_id hL hcl ho hw hoi hun
  refine ⟨?_,?_⟩
  ·rw [rkO_eq,rkO_eq] at hlt
   by_cases hij : i < j
   ·exact h1 hij
   ·split at hlt <;> split at hlt
    ·omega
    ·omega
    ·rename_i hia hja
     subst hja
     exact hbt i oi o hoi ho (by omega) (by omega)
    ·omega
  ·cases hb : Nat.testBit ((nth (orAt (masks ops []) a b) j).getD 0) i with
   | false=>rfl
   | true=>
    rcases orAt_bit hb with hb | ⟨e1,e2⟩
    ·rw [h2] at hb; cases hb
    ·subst e2; exact absurd e1 (hj hun)
theorem wpAny_two {ro : Option Nat} {m : Nat} (hY : YOk E E0 ρ0 w0) (hE : E.Ok P) (hfl : FlOk E.reg fl) {ops : List Oper} (hL : LexOk ops) {x y : Nat} (hab : x < y) (hbt : ∀ (i : Nat) oi oa,ops[i]? = some oi → ops[x]? = some oa → x < i → i ≤ y → oi.apart ⟨ops⟩ oa = true)
  (hca : ∀ (i : Nat) o,ops[i]? = some o → isCall o.op = true → i = y ∨ Nat.testBit ((nth (masks ops []) i).getD 0) x = true ∨ Nat.testBit ((nth (masks ops []) i).getD 0) y = true)
  {K : St A → Prop} {Q : Exit → Act → World → Prop} (hn : ∀ st' ρ' a' w',K st' → SInv E.reg E.n X E0 ρ0 w0 st' ρ' a' w' → Q .normal a' w') :
  ∀ (n : Nat) (l l' : List (Nat × Oper)) (listed : Array Bool) (S S' : Seen → Prop) {st : St A} {ρ : Rho} {a : Act} {w : World},l.length = n → l'.length = n → (∀ p ∈ l,ops[p.1]? = some p.2) → (∀ p ∈ l',ops[p.1]? = some p.2) → l.Pairwise (fun p q=>id p.1 < id q.1) → l'.Pairwise (fun p q=>rkO x y p.1 < rkO x y q.1) → listed.size = ops.length →
   (∀ (k : Nat) o,ops[k]? = some o → listed.getD k false = true ∨ (k,o) ∈ l) → (∀ (k : Nat) o,ops[k]? = some o → listed.getD k false = true ∨ (k,o) ∈ l') → (∀ p ∈ l,listed.getD p.1 true = false) → (∀ p ∈ l',listed.getD p.1 true = false) → ClosedL ops listed → listed.getD x true = false → listed.getD y true = false →
   SInv E.reg E.n X E0 ρ0 w0 st ρ a w → XK P E fl ops (orAt (masks ops []) y x) K l S st → XK P E fl ops (orAt (masks ops []) x y) K l' S' st → wpAnyIn (FR ro) m P .any ⟨ops⟩ Q n listed a w
 | 0,l,l',listed,S,S',st,ρ,a,w,hlen,_,hops,_,hsort,_,hsz,hall,_,hun,_,hcl,hx,hy,hI,h,_=>by
  have hl0 : l = []:=List.length_eq_zero_iff.1 hlen
  subst hl0
  refine ⟨?_,hn _ _ _ _ h hI⟩
  refine List.eq_nil_iff_forall_not_mem.2 fun j hj=>?_
  obtain ⟨h1,o,ho,_⟩:=mem_ready.1 hj
  rw [List.getElem?_toArray] at ho
  rcases hall j o ho with h2 | h2
  ·exact getD_ne h1 h2
  ·cases h2
 | n + 1,l,l',listed,S,S',st,ρ,a,w,hlen,hlen',hops,hops',hsort,hsort',hsz,hall,hall',hun,hun',hcl,hx,hy,hI,h,h'=>by
  refine ⟨fun hr=>?_,fun j hj=>?_⟩
  ·obtain ⟨j,hj⟩:=ready_some hL (l:=l) (fun e=>by subst e; simp at hlen) hops hall hun
   rw [hr] at hj; cases hj
  ·obtain ⟨hjun,o,ho,hedge⟩:=mem_ready.1 hj
   rw [List.getElem?_toArray] at ho
   have hjl:=(List.getElem?_eq_some_iff.1 ho).1
   have hset : (listed.setIfInBounds j true).getD j false = true:=by simp [hsz,hjl]
   have stay : ∀ z,z ≠ j → listed.getD z true = false → (listed.setIfInBounds j true).getD z true = false:=fun z hz h=>by rw [getD_set_ne true (Ne.symm hz)]; exact h
   obtain ⟨hf1,hf2⟩:=front_two hL hab hbt hcl ho hedge
   obtain ⟨l1,l2,rfl⟩:=List.append_of_mem ((hall j o ho).resolve_left fun h2=>getD_ne hjun h2)
   obtain ⟨l3,l4,rfl⟩:=List.append_of_mem ((hall' j o ho).resolve_left fun h2=>getD_ne hjun h2)
   obtain ⟨hne,hlt,hst⟩:=pair_ne hsort
   obtain ⟨hne',hlt',hst'⟩:=pair_ne hsort'
   obtain ⟨g1,g2,g3,g4⟩:=listed_step ho hsz hne hall hun hcl hedge
   obtain ⟨g1',g2',g3',g4'⟩:=listed_step ho hsz hne' hall' hun' hcl hedge
   have first : j ≠ y → XK P E fl ops (orAt (masks ops []) y x) K ((j,o) :: (l1 ++ l2)) S st:=fun hj=>XK_front l1 (fun p hp=>hf1 (fun _=>hj) p.1 p.2 (hops p (by simp [hp])) (hun p (by simp [hp])) (hlt p hp)) h
   have second : j ≠ x → XK P E fl ops (orAt (masks ops []) x y) K ((j,o) :: (l3 ++ l4)) S' st:=fun hj=>XK_front l3 (fun p hp=>hf2 (fun _=>hj) p.1 p.2 (hops' p (by simp [hp])) (hun' p (by simp [hp])) (hlt' p hp)) h'
   have mono : ∀ (z : Nat) (listed : Array Bool) (j : Nat),listed.getD z false = true → (listed.setIfInBounds j true).getD z false = true:=fun z listed j h=>getD_set_true h
   by_cases hjx : j = x
   ·have h1:=first (by omega)
    refine wp_XG hY hE hfl hI ho h1.1 (XG_mono (fun e he=>he.2.mono (K':=fun st'=>∃ S',XK P E fl ops (orAt (masks ops []) y x) K (l1 ++ l2) S' st') fun _ hk=>⟨_,hk⟩) h1.2) fun st' ρ' a' w' hk hi=>?_
    obtain ⟨S1,hk⟩:=hk
    exact wpAny_w hY hE hfl hL (r:=id) (C:=fun listed=>listed.getD x false = true) (mono x) (fun listed hc hcl j o ho hw=>(front_two hL hab hbt hcl ho hw).1 fun hx=>(getD_ne hx hc).elim) hn n (l1 ++ l2) _ S1 (by simp at hlen ⊢; omega) (fun p hp=>hops p (by rcases List.mem_append.1 hp with hp | hp <;> simp [hp])) hst g1 g2 g3 g4 (hjx ▸ hset) hi hk
   ·by_cases hjy : j = y
    ·have h1:=second hjx
     refine wp_XG hY hE hfl hI ho h1.1 (XG_mono (fun e he=>he.2.mono (K':=fun st'=>∃ S',XK P E fl ops (orAt (masks ops []) x y) K (l3 ++ l4) S' st') fun _ hk=>⟨_,hk⟩) h1.2) fun st' ρ' a' w' hk hi=>?_
     obtain ⟨S1,hk⟩:=hk
     exact wpAny_w hY hE hfl hL (r:=rkO x y) (C:=fun listed=>listed.getD y false = true) (mono y) (fun listed hc hcl j o ho hw=>(front_two hL hab hbt hcl ho hw).2 fun hy=>(getD_ne hy hc).elim) hn n (l3 ++ l4) _ S1 (by simp at hlen' ⊢; omega) (fun p hp=>hops' p (by rcases List.mem_append.1 hp with hp | hp <;> simp [hp])) hst' g1' g2' g3' g4' (hjy ▸ hset) hi hk
    ·have h1:=first hjy
     have h2:=second hjx
     have hnc : isCall o.op = false:=by
      cases hcl2 : isCall o.op with
      | false=>rfl
      | true=>
       rcases hca j o ho hcl2 with e | e | e
       ·exact absurd e hjy
       ·exact (getD_ne hx (mask_listed hL hcl j j (Nat.le_refl _) o ho hedge x e)).elim
       ·exact (getD_ne hy (mask_listed hL hcl j j (Nat.le_refl _) o ho hedge y e)).elim
     obtain ⟨e1,hg1,_,hfr1,hr1⟩:=XG_ex h1.2
     obtain ⟨e2,hg2,_,hfr2,hr2⟩:=XG_ex h2.2
     obtain rfl:=(XG_det hnc hg1).2 e2 hg2
     refine wp_XG hY hE hfl hI ho h1.1 (XG_mono (K':=Fine st o.dst fun st'=>(∃ S,XK P E fl ops (orAt (masks ops []) y x) K (l1 ++ l2) S st') ∧ ∃ S,XK P E fl ops (orAt (masks ops []) x y) K (l3 ++ l4) S st') (fun e he=>?_) hg1) fun st' ρ' a' w' hk hi=>?_
     ·subst he
      exact ⟨hfr1,EB.run_of hr1 fun v hs ho=>⟨⟨_,EB.run_out hr1 v hs ho⟩,⟨_,EB.run_out hr2 v hs ho⟩⟩⟩
     ·obtain ⟨⟨S1,hk1⟩,⟨S2,hk2⟩⟩:=hk
      exact wpAny_two hY hE hfl hL hab hbt hca hn n (l1 ++ l2) (l3 ++ l4) _ S1 S2 (by simp at hlen ⊢; omega) (by simp at hlen' ⊢; omega) (fun p hp=>hops p (by rcases List.mem_append.1 hp with hp | hp <;> simp [hp])) (fun p hp=>hops' p (by rcases List.mem_append.1 hp with hp | hp <;> simp [hp])) hst hst' g1 g2 g2' g3 g3' g4 (stay x (Ne.symm hjx) hx) (stay y (Ne.symm hjy) hy) hi hk1 hk2
theorem XRp_seen {all : List Oper} {ms : List Nat} {K : St A → List Seen → Prop} (hK : ∀ st seen,K st seen → fpOk ms seen = true) : ∀ {l : List (Nat × Oper)} {seen : List Seen} {st : St A},XRp P E fl all l seen st K → fpOk ms seen = true
 | [],_,_,h=>hK _ _ h
 | (j,⟨dst,op,ty,pos,after,guard⟩) :: l,seen,st,h=>by
  simp only [XRp] at h
  split at h
  ·exact h.elim
  ·obtain ⟨⟨R,W,new,b⟩,_,he⟩:=XG_ex h
   dsimp only at he
   split at he
   ·obtain ⟨v,hs,_,hk⟩:=EB.run_ex he
    have:=XRp_seen hK hk
    simp only [fpOk,Bool.and_eq_true] at this
    exact this.2
   ·exact he.elim
theorem XK_of_XRp {all : List Oper} {ms : List Nat} {K : St A → List Seen → Prop} {K' : St A → Prop} (hK : ∀ st seen,K st seen → fpOk ms seen = true) (hK' : ∀ st seen,K st seen → K' st) : ∀ {l : List (Nat × Oper)} {seen : List Seen} {st : St A},XRp P E fl all l seen st K →
  XK P E fl all ms K' l (fun s=>s ∈ seen) st
 | [],_,_,h=>hK' _ _ h
 | (j,⟨dst,op,ty,pos,after,guard⟩) :: l,seen,st,h=>by
  simp only [XRp] at h
  split at h
  ·exact h.elim
  ·rename_i hd
   refine ⟨hd,XG_mono (fun e he=>?_) h⟩
   obtain ⟨R,W,new,b⟩:=e
   dsimp only at he
   split at he
   ·rename_i hf
    have hchk : fpOk ms (⟨j,R,W,isCall op⟩ :: seen) = true:=by
     obtain ⟨v,hs,_,hk⟩:=EB.run_ex he
     exact XRp_seen hK hk
    simp only [fpOk,Bool.and_eq_true] at hchk
    refine ⟨(apartB_iff (e:=⟨R,W,new,b⟩)).1 hchk.1,hf,EB.run_mono (fun v hs hk=>?_) he⟩
    have:=XK_of_XRp hK hK' hk
    have e : (fun s=>s ∈ (⟨j,R,W,isCall op⟩ :: seen : List Seen)) = insS ⟨j,R,W,isCall op⟩ (fun s=>s ∈ seen):=by
     funext s; exact propext (by simp [insS])
    rwa [e] at this
   ·exact he.elim
theorem pickO_get {ops : List Oper} : ∀ (ord : List Nat),∀ p ∈ pickO ops ord,ops[p.1]? = some p.2 ∧ p.1 ∈ ord
 | [],p,hp=>by cases hp
 | i :: l,p,hp=>by
  unfold pickO at hp
  split at hp
  ·rename_i o ho
   rcases List.mem_cons.1 hp with rfl | hp
   ·exact ⟨by rw [← nth_eq]; exact ho,by simp⟩
   ·obtain ⟨h1,h2⟩:=pickO_get l p hp
    exact ⟨h1,List.mem_cons_of_mem _ h2⟩
  ·obtain ⟨h1,h2⟩:=pickO_get l p hp
   exact ⟨h1,List.mem_cons_of_mem _ h2⟩
theorem pickO_mem {ops : List Oper} : ∀ (ord : List Nat) (k : Nat) o,k ∈ ord → ops[k]? = some o → (k,o) ∈ pickO ops ord
 | [],_,_,h,_=>by cases h
 | i :: l,k,o,h,ho=>by
  unfold pickO
  rcases List.mem_cons.1 h with rfl | h
  ·rw [nth_eq,ho]; simp
  ·split
   ·exact List.mem_cons_of_mem _ (pickO_mem l k o h ho)
   ·exact pickO_mem l k o h ho
theorem srtO_pair {r : Nat → Nat} : ∀ {l : List Nat},srtO r l = true → l.Pairwise fun i j=>r i < r j
 | [],_=>List.Pairwise.nil
 | [i],_=>List.pairwise_singleton _ _
 | i :: j :: l,h=>by
  unfold srtO at h
  split at h
  ·rename_i hb
   have h1:=srtO_pair h
   have hb : r i < r j:=by simpa using hb
   exact List.pairwise_cons.2 ⟨fun k hk=>by
    rcases List.mem_cons.1 hk with rfl | hk
    ·exact hb
    ·exact Nat.lt_trans hb ((List.pairwise_cons.1 h1).1 k hk),h1⟩
  ·cases h
theorem pickO_pair {ops : List Oper} {r : Nat → Nat} : ∀ {ord : List Nat},ord.Pairwise (fun i j=>r i < r j) → (pickO ops ord).Pairwise fun p q=>r p.1 < r q.1
 | [],_=>List.Pairwise.nil
 | i :: l,h=>by
  have h:=List.pairwise_cons.1 h
  unfold pickO
  split
  ·exact List.pairwise_cons.2 ⟨fun q hq=>h.1 q.1 (pickO_get l q hq).2,pickO_pair h.2⟩
  ·exact pickO_pair h.2
theorem betwO_spec {ops : List Oper} {a b : Nat} : ∀ {l : List Nat},betwO ops a b l = true → ∀ i ∈ l,∀ oi oa,ops[i]? = some oi → ops[a]? = some oa → a < i → i ≤ b → oi.apart ⟨ops⟩ oa = true
 | [],_,_,hi,_,_,_,_,_,_=>by cases hi
 | j :: l,h,i,hi,oi,oa,h1,h2,h3,h4=>by
  unfold betwO at h
  rcases List.mem_cons.1 hi with rfl | hi
  ·have hc : (Nat.blt a i && Nat.ble i b) = true:=by simp; omega
   rw [hc,nth_eq,nth_eq,h1,h2] at h
   simp only [Bool.and_eq_true] at h
   exact h.1
  ·refine betwO_spec (l:=l) ?_ i hi oi oa h1 h2 h3 h4
   split at h
   ·split at h
    ·simp only [Bool.and_eq_true] at h; exact h.2
    ·cases h
   ·exact h
theorem callsO_spec {ops : List Oper} {ms : List Nat} {a b : Nat} : ∀ {l : List Nat},callsO ops ms a b l = true → ∀ i ∈ l,∀ o,ops[i]? = some o → isCall o.op = true → i = b ∨ Nat.testBit ((nth ms i).getD 0) a = true ∨ Nat.testBit ((nth ms i).getD 0) b = true
 | [],_,_,hi,_,_,_=>by cases hi
 | j :: l,h,i,hi,o,h1,h2=>by
  simp only [callsO,Bool.and_eq_true] at h
  rcases List.mem_cons.1 hi with rfl | hi
  ·have h:=h.1
   rw [nth_eq,h1] at h
   simp only [h2,Bool.not_true,Bool.false_or,Bool.or_eq_true] at h
   rcases h with (h | h) | h
   ·exact .inl (beq_true h)
   ·exact .inr (.inl h)
   ·exact .inr (.inr h)
  ·exact callsO_spec h.2 i hi o h1 h2
theorem wp_region_two {ro : Option Nat} {m : Nat} (hY : YOk E E0 ρ0 w0) (hP : P.follows .mixedOrders = true) (hE : E.Ok P) (hfl : FlOk E.reg fl) {st : St A} {ρ : Rho} {a : Act} {w : World} (hI : SInv E.reg E.n X E0 ρ0 w0 st ρ a w) {id : Nat} {ops : List Oper} {x y : Nat} {ord : List Nat} {K : St A → Prop} {Q : Exit → Act → World → Prop}
  (hok : twoOk ops x y ord = true) (h1 : XR P E fl ops ops 0 [] st fun st' seen=>fpOk (orAt (masks ops []) y x) seen = true ∧ K st') (h2 : XRp P E fl ops (pickO ops ord) [] st fun st' seen=>fpOk (orAt (masks ops []) x y) seen = true ∧ K st')
  (hn : ∀ st' ρ' a' w',K st' → SInv E.reg E.n X E0 ρ0 w0 st' ρ' a' w' → Q .normal a' w') : (Code.region id ⟨ops⟩ true).wpIn (FR ro) m P Q a w:=by
 simp only [twoOk,Bool.and_eq_true] at hok
 obtain ⟨⟨⟨⟨⟨⟨o1,o2,o3⟩,o4⟩,o5⟩,o6⟩,o7⟩,o8⟩:=hok
 have hL : LexOk ops:=lexOk_of o1
 have hxy : x < y:=by simpa using o2
 have hyl : y < ops.length:=by simpa using o3
 have hcov : ∀ (k : Nat) o,ops[k]? = some o → k ∈ ord:=fun k o ho=>by
  have hk:=(List.getElem?_eq_some_iff.1 ho).1
  exact mem_iff.1 (List.all_eq_true.1 o6 k (List.mem_of_getElem? (ids_get _ _ hk)))
 have hk1:=XK_of_XR (K':=K) (fun _ _ h=>h.1) (fun _ _ h=>h.2) h1
 have hk2:=XK_of_XRp (K':=K) (fun _ _ h=>h.1) (fun _ _ h=>h.2) h2
 refine wpIn_region_any hP ?_
 have hun : ∀ z,z < ops.length → (Array.replicate ops.length false).getD z true = false:=fun z hz=>by simp [hz]
 have:=wpAny_two (ro:=ro) (m:=m) hY hE hfl hL hxy (fun i oi oa g1 g2 g3 g4=>betwO_spec o7 i (hcov i oi g1) oi oa g1 g2 g3 g4) (fun i o g1 g2=>callsO_spec o8 i (hcov i o g1) o g1 g2) hn ops.length (zipI 0 ops) (pickO ops ord) (Array.replicate ops.length false) _ _ (zipI_len ops 0) (beq_true o5) (zipI_get ops 0 fun k=>by simp) (fun p hp=>(pickO_get ord p hp).1) (zipI_sorted ops 0).1 (pickO_pair (srtO_pair o4)) (by simp)
  (fun k o ho=>.inr (by have:=zipI_mem ops 0 k o ho; simpa using this)) (fun k o ho=>.inr (pickO_mem ord k o (hcov k o ho) ho)) (fun p hp=>hun _ (List.getElem?_eq_some_iff.1 (zipI_get (ops:=ops) ops 0 (fun k=>by simp) p hp)).1) (fun p hp=>hun _ (List.getElem?_eq_some_iff.1 (pickO_get ord p hp).1).1)
  (fun k o ho hl=>by
   have:=(List.getElem?_eq_some_iff.1 ho).1
   simp [this] at hl) (hun x (by omega)) (hun y hyl) (hI.drawn (w.drawn + 1)) hk1 hk2
 simpa using this
end
end
end Go.Sx
