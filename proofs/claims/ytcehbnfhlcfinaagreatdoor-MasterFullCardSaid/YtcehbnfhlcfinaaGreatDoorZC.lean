/- Own texts of the proof, merged: SxT SxU. -/
import Derived.Scope
import Derived.Test.YtcehbnfhlcfinaaGreatDoorZB
set_option linter.unusedVariables false
set_option linter.unusedSimpArgs false
set_option maxHeartbeats 8000000
namespace Go.Sx
open Go
variable {A : Nat → Type}
section
variable {P : Program} {E : Env A} {fl : Nat → Bool} {X E0 : Nat → Prop} {ρ0 : Rho} {w0 : World} {st : St A} {ρ : Rho} {a : Act} {w : World}
theorem assoc_mem {α : Type} : ∀ {l : List (Nat × α)} {i : Nat} {v : α},assoc l i = some v → (i,v) ∈ l
 | [],_,_,h=>by cases h
 | (k,u) :: l,i,v,h=>by
  simp only [assoc] at h
  split at h
  ·rename_i hb
   cases h
   rw [beq_true hb]; simp
  ·simp [assoc_mem h]
theorem low_spec : ∀ {l : List (Nat × Nat)},lowIds l = true → ∀ h,h < 1000 → thA l h = h
 | [],_,h,_=>rfl
 | (k,v) :: l,hl,h,hh=>by
  simp only [lowIds] at hl
  split at hl
  ·cases hl
  ·rename_i hb
   have hk : ¬ k < 1000:=fun e=>by have:=(Nat.blt_eq (x:=k) (y:=1000)).symm ▸ e; rw [this] at hb; cases hb
   have:=low_spec hl h hh
   unfold thA at this ⊢
   simp only [assoc]
   rw [beq_false (by omega)]
   exact this
theorem patT_get {f : Nat → Nat} : ∀ {l : List (Nat × SV A)},patT st f l → ∀ i p,(i,p) ∈ l → ∃ c,st.t i = some c ∧ cellEq st f c p
 | (i0,p0) :: l,h,i,p,hm=>by
  simp only [patT] at h
  rcases List.mem_cons.1 hm with e | e
  ·cases e
   have h1:=h.1
   split at h1
   ·rename_i c hs; exact ⟨c,hs,h1⟩
   ·exact h1.elim
  ·exact patT_get h.2 i p e
theorem patH_get {R : Reg A} {f : Nat → Nat} : ∀ {l : List (Nat × Ct A)},patH R st f l → ∀ h ct,(h,ct) ∈ l → ctEq R st f (f h) ct
 | (h0,c0) :: l,hh,h,ct,hm=>by
  simp only [patH] at hh
  rcases List.mem_cons.1 hm with e | e
  ·cases e; exact hh.1
  ·exact patH_get hh.2 h ct e
mutual
theorem men_unren {f : Nat → Nat} {p : Nat → Bool} : ∀ s : SV A,men p (ren f s) = true → men (fun h=>p (f h)) s = true
 | .ptr k _ _ _=>fun hm=>hm
 | .sl k _ _ _=>fun hm=>hm
 | .mp k=>fun hm=>hm
 | .agg cs=>fun hm=>menL_unren cs hm
 | .tup cs=>fun hm=>menL_unren cs hm
 | .fn _ a b=>fun hm=>by
  simp only [men,ren,Bool.and_eq_true] at hm ⊢
  exact ⟨menL_unren a hm.1,menL_unren b hm.2⟩
 | .val _=>fun _=>rfl
 | .lst _ _=>fun _=>rfl
 | .prow cs _=>fun hm=>menL_unren cs hm
 | .aggl _ _=>fun _=>rfl
theorem menL_unren {f : Nat → Nat} {p : Nat → Bool} : ∀ cs : List (SV A),menL p (renL f cs) = true → menL (fun h=>p (f h)) cs = true
 | []=>fun _=>rfl
 | c :: cs=>fun hm=>by
  simp only [menL,renL,Bool.and_eq_true] at hm ⊢
  exact ⟨men_unren c hm.1,menL_unren cs hm.2⟩
end
theorem menCt_unren {f : Nat → Nat} {p : Nat → Bool} (ct : Ct A) (h : menCt p (renCt f ct) = true) : menCt (fun h=>p (f h)) ct = true:=by
 cases ct with
 | cells cs=>exact menL_unren cs h
 | row E cs=>exact menL_unren cs h
 | arr T xs=>rfl
 | map K V es=>rfl
 | obj k Q=>rfl
theorem nodup_inj {α : Type} {g : α → Nat} : ∀ {l : List α},(l.map g).Nodup → ∀ x ∈ l,∀ y ∈ l,g x = g y → x = y
 | [],_,x,hx,_,_,_=>by cases hx
 | a :: l,hn,x,hx,y,hy,e=>by
  rw [List.map_cons,List.nodup_cons] at hn
  rcases List.mem_cons.1 hx with rfl | hx1 <;> rcases List.mem_cons.1 hy with rfl | hy1
  ·rfl
  ·exact absurd (List.mem_map.2 ⟨y,hy1,e.symm⟩) hn.1
  ·exact absurd (List.mem_map.2 ⟨x,hx1,e⟩ : g y ∈ l.map g) hn.1
  ·exact nodup_inj hn.2 x hx1 y hy1 e
theorem cellsEq_get {f : Nat → Nat} : ∀ {cs ps : List (SV A)},cellsEq st f cs ps → cs.length = ps.length ∧ ∀ (j : Nat) c p,cs[j]? = some c → ps[j]? = some p → cellEq st f c p
 | [],[],_=>⟨rfl,fun j c p h=>by simp at h⟩
 | _ :: _,[],h=>h.elim
 | [],_ :: _,h=>h.elim
 | c0 :: cs,p0 :: ps,h=>by
  obtain ⟨h1,h2⟩:=cellsEq_get h.2
  refine ⟨by simp [h1],fun j c p hc hp=>?_⟩
  cases j with
  | zero=>simp at hc hp; subst hc; subst hp; exact h.1
  | succ j=>exact h2 j c p (by simpa using hc) (by simpa using hp)
theorem cell_den {R : Reg A} {f : Nat → Nat} {ρ' : Rho} {O O' : Nat → Prop} (hρ : ∀ k,st.u (f k) = true → ρ' k = ρ (f k)) (hn : ∀ k,st.u (f k) = false → ρ' k = none) (g : Goes O O' w w) {c p : SV A} {v : Value} (he : cellEq st f c p) (hm : men st.u c = true)
  (hd : Den R ρ O w c v) : Den R ρ' O' w p v:=by
 unfold cellEq at he
 split at he
 ·obtain ⟨_,h2,rfl,rfl⟩:=he
  have hv:=val_inv hd
  subst hv
  exact .slnil _ _ (hn _ h2)
 ·subst he
  have hv:=val_inv hd
  subst hv
  exact .lnil _ 0 rfl
 ·subst he
  exact ((hd.unren p rfl).rho (f:=fun k=>st.u (f k)) (men_unren p hm) hρ).mono g
theorem ct_den {n : Nat} {R : Reg A} (hI : SInv R n X E0 ρ0 w0 st ρ a w) {f : Nat → Nat} {ρ' : Rho} {O' : Nat → Prop} (hρ : ∀ k,st.u (f k) = true → ρ' k = ρ (f k)) (hn : ∀ k,st.u (f k) = false → ρ' k = none) (g : Goes (fun b=>X b ∨ OwnB st.h ρ b) O' w w) {h : Nat} {ct : Ct A}
  (he : ctEq R st f h ct) : (∃ c0,st.h h = some c0 ∧ st.u h = true ∧ DenCt R ρ' O' w ct (ρ h)) ∨ (st.h h = none ∧ st.u h = false ∧ ct.flat R = []):=by
 unfold ctEq at he
 split at he
 ·rename_i cs hc
  have hu:=hI.used h _ hc
  have hd:=hI.hs h _ hc
  refine .inl ⟨_,hc,hu.1,?_⟩
  split at he
  ·rename_i ps
   obtain ⟨hl,hce⟩:=cellsEq_get he
   generalize ρ h = q at *
   cases q with
   | none=>
    have hd : cs = []:=hd
    show ps = []
    subst hd
    exact List.length_eq_zero_iff.1 (by simpa using hl.symm)
   | some q=>
    obtain ⟨b,base⟩:=q
    rcases hd with (⟨_,_,_,e,_⟩ | ⟨_,_,e,_⟩) | ⟨_,c,E,fz,h1,h2,h3,h4⟩
    ·cases e
    ·cases e
    refine .inr ⟨rfl,c,E,fz,h1,h2,⟨by show base + ps.length ≤ _; rw [← hl]; exact h3.1,trivial⟩,fun j s v hs hv=>?_⟩
    have hj : j < cs.length:=by have:=(List.getElem?_eq_some_iff.1 (show ps[j]? = some s from hs)).1; omega
    have hcj : cs[j]? = some cs[j]:=List.getElem?_eq_getElem hj
    exact cell_den hρ hn g (hce j _ s hcj hs) (menL_get hu.2 j _ hcj) (h4 j _ v hcj hv)
  ·exact he.elim
 ·rename_i F0 cs hc
  have hu:=hI.used h _ hc
  have hd:=hI.hs h _ hc
  refine .inl ⟨_,hc,hu.1,?_⟩
  split at he
  ·rename_i F1 ps
   obtain ⟨rfl,he⟩:=he
   obtain ⟨hl,hce⟩:=cellsEq_get he
   generalize ρ h = q at *
   cases q with
   | none=>
    have hd : cs = []:=hd
    show ps = []
    subst hd
    exact List.length_eq_zero_iff.1 (by simpa using hl.symm)
   | some q=>
    obtain ⟨b,base⟩:=q
    rcases hd with (⟨_,_,_,e,_⟩ | ⟨_,_,e,_⟩) | ⟨_,c,E,fz,h1,h2,h3,h4⟩
    ·cases e
    ·cases e
    refine .inr ⟨rfl,c,E,fz,h1,h2,⟨by show base + ps.length ≤ _; rw [← hl]; exact h3.1,h3.2.1,by rw [← hl]; exact h3.2.2.1,h3.2.2.2⟩,fun j s v hs hv=>?_⟩
    have hj : j < cs.length:=by have:=(List.getElem?_eq_some_iff.1 (show ps[j]? = some s from hs)).1; omega
    have hcj : cs[j]? = some cs[j]:=List.getElem?_eq_getElem hj
    exact cell_den hρ hn g (hce j _ s hcj hs) (menL_get hu.2 j _ hcj) (h4 j _ v hcj hv)
  ·exact he.elim
 ·rename_i T xs hc
  have hu:=hI.used h _ hc
  have hd:=hI.hs h _ hc
  rw [he] at hd
  have hm : menCt st.u (renCt f ct) = true:=by rw [← he]; rfl
  exact .inl ⟨_,hc,hu.1,((hd.unren).rho (f:=fun k=>st.u (f k)) (menCt_unren ct hm) hρ).mono g (fun _ _ _=>rfl)⟩
 ·rename_i K V es hc
  have hu:=hI.used h _ hc
  have hd:=hI.hs h _ hc
  rw [he] at hd
  have hm : menCt st.u (renCt f ct) = true:=by rw [← he]; rfl
  exact .inl ⟨_,hc,hu.1,((hd.unren).rho (f:=fun k=>st.u (f k)) (menCt_unren ct hm) hρ).mono g (fun _ _ _=>rfl)⟩
 ·rename_i k Q hc
  have hu:=hI.used h _ hc
  have hd:=hI.hs h _ hc
  rw [he] at hd
  have hm : menCt st.u (renCt f ct) = true:=by rw [← he]; rfl
  exact .inl ⟨_,hc,hu.1,((hd.unren).rho (f:=fun k=>st.u (f k)) (menCt_unren ct hm) hρ).mono g (fun _ _ _=>rfl)⟩
 ·rename_i hc
  exact .inr ⟨hc,he⟩
theorem ent_inv {n : Nat} {R : Reg A} (hI : SInv R n X E0 ρ0 w0 st ρ a w) {p : Pat A} (hp : patOk p = true) {θ : List (Nat × Nat)} (he : Ent R st p θ) : ∃ ρ',SInv R n X E0 ρ0 w0 p.st ρ' a w:=by
 obtain ⟨hlow,hT,hH,hN⟩:=he
 simp only [patOk,Bool.and_eq_true,List.all_eq_true] at hp
 obtain ⟨⟨hpt,hph⟩,hpn⟩:=hp
 let f:=thA θ
 let ρ' : Rho:=fun h=>if st.u (f h) = true then ρ (f h) else none
 have hρ : ∀ h,(fun k=>st.u (f k)) h = true → ρ' h = (fun k=>ρ (f k)) h:=fun h hu=>if_pos hu
 have hρn : ∀ k,st.u (f k) = false → ρ' k = none:=fun k hk=>if_neg (by rw [hk]; exact Bool.false_ne_true)
 have live : ∀ h ct,assoc p.h h = some ct → (∃ c0,st.h (f h) = some c0 ∧ st.u (f h) = true) ∨ ρ' h = none:=fun h ct hc=>by
  have he:=patH_get hH h ct (assoc_mem hc)
  unfold ctEq at he
  split at he
  ·rename_i cs hs; exact .inl ⟨_,hs,(hI.used _ _ hs).1⟩
  ·rename_i F0 cs hs; exact .inl ⟨_,hs,(hI.used _ _ hs).1⟩
  ·rename_i T xs hs; exact .inl ⟨_,hs,(hI.used _ _ hs).1⟩
  ·rename_i K V es hs; exact .inl ⟨_,hs,(hI.used _ _ hs).1⟩
  ·rename_i k Q hs; exact .inl ⟨_,hs,(hI.used _ _ hs).1⟩
  ·exact .inr (hρn h he.1)
 have hO : ∀ b,(X b ∨ OwnB p.st.h ρ' b) → X b ∨ OwnB st.h ρ b:=fun b hb=>by
  rcases hb with hb | ⟨h,ct,base,hh,hr⟩
  ·exact .inl hb
  ·rcases live h ct hh with ⟨c0,h1,h2⟩ | h1
   ·exact .inr ⟨_,_,base,h1,by rw [← hr]; exact (hρ h h2).symm⟩
   ·rw [h1] at hr; cases hr
 have g : Goes (fun b=>X b ∨ OwnB st.h ρ b) (fun b=>X b ∨ OwnB p.st.h ρ' b) w w:=⟨fun b _ _ _ hn hb=>⟨fun h=>hn (hO b h),hb⟩,fun _ c _ fz h=>⟨c,fz,h,rfl⟩,fun _ _ h=>h⟩
 have slot : ∀ s sv,p.st.t s = some sv → ∃ c,st.t s = some c ∧ cellEq st f c sv:=fun s sv h=>patT_get hT s sv (assoc_mem h)
 refine ⟨ρ',hI.size,fun s sv hs=>?_,fun h ct hh=>?_,fun h h' ct ct' b base base' hh hh' hr hr'=>?_,fun h ct b base hh hr=>?_,fun h ct hh=>?_,fun s sv hs=>?_,hI.xlt,hI.rel,hI.defers,fun h hh=>?_⟩
 ·obtain ⟨c,hc,h1⟩:=slot s sv hs
  exact cell_den hρ hρn g h1 (hI.men s _ hc) (hI.slots s _ hc)
 ·rcases ct_den hI hρ hρn g (patH_get hH h ct (assoc_mem hh)) with ⟨c0,h1,h2,h3⟩ | ⟨_,h1,h2⟩
  ·rw [hρ h h2]; exact h3
  ·rw [hρn h h1]; exact h2
 ·rcases live h ct hh with ⟨c1,h1,h2⟩ | h1
  ·rcases live h' ct' hh' with ⟨c2,h3,h4⟩ | h3
   ·have e:=hI.inj (f h) (f h') _ _ b base base' h1 h3 (by rw [← hr]; exact (hρ h h2).symm) (by rw [← hr']; exact (hρ h' h4).symm)
    have:=nodup_inj (nodup_spec hN) (h,ct) (assoc_mem hh) (h',ct') (assoc_mem hh') e
    exact congrArg Prod.fst this
   ·rw [h3] at hr'; cases hr'
  ·rw [h1] at hr; cases hr
 ·rcases live h ct hh with ⟨c1,h1,h2⟩ | h1
  ·exact hI.own _ _ b base h1 (by rw [← hr]; exact (hρ h h2).symm)
  ·rw [h1] at hr; cases hr
 ·have low : ∀ k,someB (assoc p.h k) = true → p.st.u k = true:=fun k hk=>by
   show usedIn p.h k = true
   unfold usedIn
   split
   ·rfl
   ·exact hk
  exact ⟨low h (by rw [show assoc p.h h = some ct from hh]; rfl),menCt_mono low ct (hph (h,ct) (assoc_mem hh))⟩
 ·have low : ∀ k,someB (assoc p.h k) = true → p.st.u k = true:=fun k hk=>by
   show usedIn p.h k = true
   unfold usedIn
   split
   ·rfl
   ·exact hk
  exact men_mono low sv (hpt (s,sv) (assoc_mem hs))
 ·refine ⟨?_,?_⟩
  ·show usedIn p.h h = true
   unfold usedIn
   have:=(Nat.blt_eq (x:=h) (y:=1000)).symm ▸ hh
   rw [this]
  ·have hf : f h = h:=low_spec hlow h hh
   have hk:=hI.keep h hh
   rw [hρ h (by show st.u (f h) = true; rw [hf]; exact hk.1)]
   show ρ (f h) = _
   rw [hf]; exact hk.2
section
variable {b : Frame} {k : List Item} {cs : List Frame} {Q : Exit → Act → World → Prop} {F : Fence} {m : Nat}
theorem stepR_scope {c : Code} : step P (lone (b.atR a (.code (.scope c) :: k)) cs w) = .next (lone (b.atR a (.code c :: .inScope c :: k)) cs w):=step_lone_go (by simp [stepG,stepG.exec,Frame.atR])
theorem stepR_inScope {c : Code} : step P (lone (b.atR a (.inScope c :: k)) cs w) = .next (lone (b.atR a k) cs w):=step_lone_go (by simp [stepG,stepG.exec,Frame.atR])
theorem wpIn_scope_straight {c : Code} (h : c.wpIn F m P (Exit.noGoto Q) a w) : (Code.scope c).wpIn F m P Q a w:=by
 intro b k cs hro hb hr
 have h0 : (lone (b.atR a (.code (.scope c) :: k)) cs w).fenced P F:=fenced_calm hb hr rfl
 obtain ⟨e,a₁,w₁,hq,harr⟩:=h b (.inScope c :: k) cs hro hb hr
 cases e with
 | normal=>exact ⟨.normal,a₁,w₁,hq,.head h0 stepR_scope (StepsIn.trans harr (.one (fenced_calm hb hr rfl) stepR_inScope))⟩
 | exit id=>
  have hx : exitTo id (.inScope c :: k) = exitTo id k:=by simp [exitTo]
  exact ⟨.exit id,a₁,w₁,hq,fun k' hk=>.head h0 stepR_scope (harr.1 k' (by rw [hx]; exact hk)),
   fun hr' hk=>let ⟨k₁,h1,h2⟩:=harr.2 hr' (by rw [hx]; exact hk); ⟨k₁,h1,.head h0 stepR_scope h2⟩⟩
 | goto l=>exact hq.elim
 | ret=>exact ⟨_,a₁,w₁,hq,.of_steps (.one h0 stepR_scope) harr⟩
 | panic ch=>exact ⟨_,a₁,w₁,hq,.of_steps (.one h0 stepR_scope) harr⟩
 | outgrown=>exact ⟨_,a₁,w₁,hq,.of_steps (.one h0 stepR_scope) harr⟩
end
theorem WRel.trans' {E0 B : Nat → Prop} {w0 w1 w2 : World} (h : WRel E0 w0 w1) (g : WRel B w1 w2) (hB : ∀ b,B b → E0 b ∨ w0.heap.size ≤ b) : WRel E0 w0 w2:=by
 refine ⟨g.os.trans h.os,g.tape.trans h.tape,g.output.trans h.output,Nat.le_trans h.size g.size,fun b hb hn=>?_,fun b c F fz hc=>?_⟩
 ·rw [← h.block b hb hn]
  refine g.block b (Nat.lt_of_lt_of_le hb h.size) fun hx=>?_
  rcases hB b hx with e | e
  ·exact hn e
  ·omega
 ·obtain ⟨c1,f1,h1,h2⟩:=h.shape b c F fz hc
  obtain ⟨c2,f2,h3,h4⟩:=g.shape b c1 F f1 h1
  exact ⟨c2,f2,h3,h4.trans h2⟩
theorem WRel.refl {E0 : Nat → Prop} {w : World} : WRel E0 w w:=⟨rfl,rfl,rfl,Nat.le_refl _,fun _ _ _=>rfl,fun b c F fz h=>⟨c,fz,h,rfl⟩⟩
theorem Marks.mono' {w0 w0' w w' : World} {ds : List Deferred} (h : Marks w0 ds w) (hs : w0'.heap.size = w0.heap.size) (hk : ∀ (b : Nat) x,w.heap[b]? = some (Obj.deferred x) → w'.heap[b]? = some (Obj.deferred x)) : Marks w0' ds w':=by
 induction h with
 | nil=>exact .nil _
 | cons b ds w h0 hb hn _ ih=>exact .cons b ds _ (by rw [hs]; exact h0) (hk b _ hb) hn (ih hk)
def Odd (o : Obj) : Prop:=(∀ c F fz,o ≠ .cells c F fz) ∧ ∀ ms cl,o ≠ .map ms cl
theorem denCt_odd {R : Reg A} {O : Nat → Prop} {ct : Ct A} {b base : Nat} {o : Obj} (h : DenCt R ρ O w ct (some (b,base))) (hb : w.heap[b]? = some o) (ho : Odd o) : False:=by
 rcases h with (⟨_,_,_,_,ms,cl,h1,_⟩ | ⟨_,_,_,_,_,c,F,fz,h1,_⟩) | ⟨_,c,F,fz,h1,_⟩
 ·rw [hb] at h1; cases h1; exact ho.2 _ _ rfl
 ·rw [hb] at h1; cases h1; exact ho.1 _ _ _ rfl
 ·rw [hb] at h1; cases h1; exact ho.1 _ _ _ rfl
theorem SInv.world {n : Nat} {R : Reg A} (hI : SInv R n X E0 ρ0 w0 st ρ a w) {a' : Act} {w' : World} (ht : a'.tmps = a.tmps) (hm : Marks w0 a'.defers w') (hr : WRel E0 w0 w')
  (hk : ∀ (b : Nat) (o : Obj),w.heap[b]? = some o → ¬ Odd o → w'.heap[b]? = some o) : SInv R n X E0 ρ0 w0 st ρ a' w':=by
 have cells : ∀ (b : Nat) (c : Array Value) (F : TypeId) (fz : Nat × Nat),w.heap[b]? = some (Obj.cells c F fz) → w'.heap[b]? = some (Obj.cells c F fz):=fun b c F fz h=>hk b _ h fun e=>e.1 _ _ _ rfl
 have g : ∀ O : Nat → Prop,Goes0 O O w w':=fun O=>⟨fun b c F fz hn hb=>⟨hn,cells b c F fz hb⟩,fun b c F fz hb=>⟨c,fz,cells b c F fz hb,rfl⟩⟩
 refine ⟨by rw [ht]; exact hI.size,fun s sv h=>by rw [ht]; exact (hI.slots s sv h).mono0 (g _),fun h ct hh=>(hI.hs h ct hh).mono0 (g _) fun b base hb=>?_,hI.inj,hI.own,hI.used,hI.men,hI.xlt,hr,hm,hI.keep⟩
 have hd:=hI.hs h ct hh
 rw [hb] at hd
 have hlt:=hd.lt
 have hw : w.heap[b]? = some w.heap[b]:=Array.getElem?_eq_getElem hlt
 rw [hw]
 exact hk b _ hw fun ho=>denCt_odd hd hw ho
theorem WRel.other {E0 : Nat → Prop} {w0 w w' : World} (h : WRel E0 w0 w) (hos : w'.os = w.os) (htp : w'.tape = w.tape) (hou : w'.output = w.output) (hsz : w.heap.size ≤ w'.heap.size)
  (hk : ∀ (b : Nat) (o : Obj),w.heap[b]? = some o → w'.heap[b]? = some o ∨ (w0.heap.size ≤ b ∧ Odd o)) : WRel E0 w0 w':=by
 refine h.trans' (B:=fun b=>w0.heap.size ≤ b) ⟨hos,htp,hou,hsz,fun b hb hn=>?_,fun b c F fz hc=>?_⟩ fun b hb=>.inr hb
 ·have hw : w.heap[b]? = some w.heap[b]:=Array.getElem?_eq_getElem hb
  rcases hk b _ hw with e | e
  ·rw [hw]; exact e
  ·exact absurd e.1 hn
 ·rcases hk b _ hc with e | e
  ·exact ⟨c,fz,e,rfl⟩
  ·exact absurd rfl (e.2.1 _ _ _)
theorem putObj_keep {l : Nat} {o o' : Obj} (hl : w.heap[l]? = some o) (ho : Odd o) : ∀ (b : Nat) (x : Obj),w.heap[b]? = some x → ¬ Odd x → (w.putObj l o').heap[b]? = some x:=fun b x hb hx=>by
 by_cases e : b = l
 ·subst e; rw [hl] at hb; cases hb; exact absurd ho hx
 ·rw [World.putObj_heap_other e]; exact hb
theorem SInv.both {n : Nat} {R : Reg A} (hI : SInv R n X E0 ρ0 w0 st ρ a w) {l : Nat} {o o' : Obj} (hE : ¬ E0 l) (hl : w0.heap[l]? = some o) (ho : Odd o) (ho' : Odd o') (hnd : ∀ x,o ≠ .deferred x) : SInv R n X E0 ρ0 (w0.putObj l o') st ρ a (w.putObj l o'):=by
 have hlt:=lt_of_heap hl
 have hlw : w.heap[l]? = some o:=(hI.rel.block l hlt hE).trans hl
 have hltw:=lt_of_heap hlw
 have cells : ∀ (b : Nat) (c : Array Value) (F : TypeId) (fz : Nat × Nat),w.heap[b]? = some (Obj.cells c F fz) → (w.putObj l o').heap[b]? = some (Obj.cells c F fz):=fun b c F fz h=>putObj_keep hlw ho b _ h fun e=>e.1 _ _ _ rfl
 have g : ∀ O : Nat → Prop,Goes0 O O w (w.putObj l o'):=fun O=>⟨fun b c F fz hn hb=>⟨hn,cells b c F fz hb⟩,fun b c F fz hb=>⟨c,fz,cells b c F fz hb,rfl⟩⟩
 refine ⟨hI.size,fun s sv h=>(hI.slots s sv h).mono0 (g _),fun h ct hh=>(hI.hs h ct hh).mono0 (g _) fun b base hb=>?_,hI.inj,fun h ct b base hh hr=>by rw [World.putObj_size]; exact hI.own h ct b base hh hr,hI.used,hI.men,
  fun b hb=>by rw [World.putObj_size]; exact hI.xlt b hb,⟨hI.rel.os,hI.rel.tape,hI.rel.output,by simpa using hI.rel.size,fun b hb hn=>?_,fun b c F fz hc=>?_⟩,?_,hI.keep⟩
 ·have hd:=hI.hs h ct hh
  rw [hb] at hd
  have hlt:=hd.lt
  have hw : w.heap[b]? = some w.heap[b]:=Array.getElem?_eq_getElem hlt
  rw [hw]
  exact putObj_keep hlw ho b _ hw fun h=>denCt_odd hd hw h
 ·by_cases e : b = l
  ·subst e; rw [World.putObj_heap_same hltw,World.putObj_heap_same hlt]
  ·rw [World.putObj_heap_other e,World.putObj_heap_other e]; exact hI.rel.block b (by simpa using hb) hn
 ·by_cases e : b = l
  ·subst e; rw [World.putObj_heap_same hlt] at hc; cases hc; exact absurd rfl (ho'.1 _ _ _)
  ·rw [World.putObj_heap_other e] at hc
   obtain ⟨c',fz',h1,h2⟩:=hI.rel.shape b c F fz hc
   exact ⟨c',fz',by rw [World.putObj_heap_other e]; exact h1,h2⟩
 ·refine hI.defers.mono' (by simp) fun b x hb=>?_
  have e : b ≠ l:=fun e=>by subst e; rw [hlw] at hb; cases hb; exact hnd _ rfl
  rw [World.putObj_heap_other e]; exact hb
def ExOf : XE → Exit
 | .norm=>.normal
 | .ret=>.ret
 | .exit i=>.exit i
def QX (R : Reg A) (n : Nat) (X E0 : Nat → Prop) (ρ0 : Rho) (w0 : World) (Q : XE → St A → Prop) : Exit → Act → World → Prop:=fun e a w=>∃ xe st ρ,e = ExOf xe ∧ Q xe st ∧ SInv R n X E0 ρ0 w0 st ρ a w
theorem ex_min {p : Nat → Prop} : ∀ n,p n → ∃ m,p m ∧ ∀ k,p k → m ≤ k:=by
 intro n
 induction n using Nat.strongRecOn with
 | _ n ih=>
  intro hn
  by_cases h : ∃ k,k < n ∧ p k
  ·obtain ⟨k,hk,hp⟩:=h
   exact ih k hk hp
  ·exact ⟨n,hn,fun k hk=>by
    rcases Nat.lt_or_ge k n with h1 | h1
    ·exact absurd ⟨k,h1,hk⟩ h
    ·exact h1⟩
theorem phiN_spec : ∀ (l : List Nat) (j h : Nat),(∃ i,l[i]? = some h ∧ phiN l j h = j + i) ∨ (h ∉ l ∧ phiN l j h = h + 100000)
 | [],j,h=>.inr ⟨by simp,rfl⟩
 | n :: l,j,h=>by
  simp only [phiN]
  by_cases e : h = n
  ·subst e
   rw [beq_self]
   exact .inl ⟨0,by simp,rfl⟩
  ·rw [beq_false e]
   rcases phiN_spec l (j + 1) h with ⟨i,h1,h2⟩ | ⟨h1,h2⟩
   ·exact .inl ⟨i + 1,by simpa using h1,by dsimp only; rw [h2]; omega⟩
   ·exact .inr ⟨by simp [e,h1],h2⟩
def laid (ps : List Nat) (vs : List Value) (tm : Array Value) : Array Value:=(ps.zip vs).foldl (fun t x=>t.setIfInBounds x.1 x.2) tm
theorem laid_spec {n : Nat} {Good : SV A → Value → Prop} : ∀ (ps : List Nat) (as : List (SV A)) (vs : List Value) (t : Nat → Option (SV A)) (tm : Array Value),okPs n ps as → as.length = vs.length → tm.size = n → (∀ s sv,t s = some sv → Good sv (tm.getD s undef)) →
  (∀ (j : Nat) s v,as[j]? = some s → vs[j]? = some v → Good s v) → (laid ps vs tm).size = n ∧ ∀ s sv,roundT ps as t s = some sv → Good sv ((laid ps vs tm).getD s undef)
 | [],[],[],t,tm,_,_,hs,hg,_=>⟨hs,fun s sv h=>hg s sv (by simpa [roundT] using h)⟩
 | [],_ :: _,_,_,_,h,_,_,_,_=>h.elim
 | _ :: _,[],_,_,_,h,_,_,_,_=>h.elim
 | [],[],_ :: _,_,_,_,h,_,_,_=>by simp at h
 | p :: ps,b :: as,[],_,_,_,h,_,_,_=>by simp at h
 | p :: ps,b :: as,v :: vs,t,tm,hp,hl,hs,hg,hv=>by
  have hpn : p < tm.size:=by rw [hs]; exact (Nat.blt_eq (x:=p) (y:=n)) ▸ hp.1
  have:=laid_spec ps as vs (updT t (some p) b) (tm.setIfInBounds p v) hp.2 (by simpa using hl) (by simpa using hs) (fun s sv h=>?_) (fun j s v h1 h2=>hv (j + 1) s v (by simpa using h1) (by simpa using h2))
  ·exact this
  ·rw [updT_spec] at h
   split at h
   ·rename_i e; cases e; cases h
    have:=hv 0 b v rfl rfl
    simpa [hpn] using this
   ·rename_i e
    have e : p ≠ s:=fun x=>e (by rw [x])
    have:=hg s sv h
    simpa [e] using this
theorem okPs_len {n : Nat} : ∀ {ps : List Nat} {as : List (SV A)},okPs n ps as → ps.length = as.length
 | [],[],_=>rfl
 | [],_ :: _,h=>h.elim
 | _ :: _,[],h=>h.elim
 | _ :: _,_ :: _,h=>by simp [okPs_len h.2]
theorem all2_spec {a b : Bool} (h : all2 a b) : a = true ∧ b = true:=by cases a <;> cases b <;> first | exact h.elim | exact ⟨rfl,rfl⟩
theorem keptAt_get {R : Reg A} {f : Nat → Nat} : ∀ {hs : List Nat} {cs : List (Option (Ct A))},keptAt R st f hs cs → hs.length = cs.length ∧ ∀ (j : Nat) c,cs[j]? = some (some c) → ∃ h,hs[j]? = some h ∧ ctEq R st f h c
 | [],[],_=>⟨rfl,fun j c hc=>by simp at hc⟩
 | [],_ :: _,h=>h.elim
 | _ :: _,[],h=>h.elim
 | h0 :: hs,c0 :: cs,h=>by
  obtain ⟨h1,h2⟩:=keptAt_get h.2
  refine ⟨by simp [h1],fun j c hc=>?_⟩
  cases j with
  | zero=>
   simp at hc; subst hc
   exact ⟨h0,rfl,h.1⟩
  | succ j=>
   obtain ⟨x,e1,e2⟩:=h2 j c (by simpa using hc)
   exact ⟨x,by simpa using e1,e2⟩
theorem menO_spec {f : Nat → Bool} : ∀ {cs : List (Option (Ct A))},menO f cs = true → ∀ (j : Nat) c,cs[j]? = some (some c) → menCt f c = true
 | [],_,j,c,hc=>by simp at hc
 | some c0 :: cs,h,j,c,hc=>by
  simp only [menO] at h
  split at h
  ·rename_i h0
   cases j with
   | zero=>simp at hc; subst hc; exact h0
   | succ j=>exact menO_spec h j c (by simpa using hc)
  ·cases h
 | none :: cs,h,j,c,hc=>by
  cases j with
  | zero=>simp at hc
  | succ j=>exact menO_spec (cs:=cs) h j c (by simpa using hc)
theorem flatO_spec {R : Reg A} (hfl : FlOk R fl) : ∀ {cs : List (Option (Ct A))},flatO fl cs = true → ∀ (j : Nat) c,cs[j]? = some (some c) → ∀ (i : Nat) s,(c.flat R)[i]? = some s → flatS fl s = true
 | [],_,j,c,hc=>by simp at hc
 | none :: cs,h,j,c,hc=>by
  cases j with
  | zero=>simp at hc
  | succ j=>exact flatO_spec hfl (cs:=cs) h j c (by simpa using hc)
 | some (.cells xs) :: cs,h,j,c,hc=>by
  simp only [flatO] at h
  split at h
  ·rename_i h0
   cases j with
   | zero=>simp at hc; subst hc; exact fun i s hs=>flatL_get h0 i s hs
   | succ j=>exact flatO_spec hfl h j c (by simpa using hc)
  ·cases h
 | some (.row _ xs) :: cs,h,j,c,hc=>by
  simp only [flatO] at h
  split at h
  ·rename_i h0
   cases j with
   | zero=>simp at hc; subst hc; exact fun i s hs=>flatL_get h0 i s hs
   | succ j=>exact flatO_spec hfl h j c (by simpa using hc)
  ·cases h
 | some (.arr T xs) :: cs,h,j,c,hc=>by
  simp only [flatO] at h
  split at h
  ·rename_i h0
   cases j with
   | zero=>simp at hc; subst hc; exact fun i s hs=>flatMap_get (P:=fun s=>flatS fl s = true) (fun x _ i s hi=>hfl T h0 x i s hi) i s hs
   | succ j=>exact flatO_spec hfl h j c (by simpa using hc)
  ·cases h
 | some (.map K V es) :: cs,h,j,c,hc=>by
  cases j with
  | zero=>simp at hc; subst hc; exact fun i s hs=>by simp [Ct.flat] at hs
  | succ j=>exact flatO_spec hfl (cs:=cs) h j c (by simpa using hc)
 | some (.obj k Q) :: cs,h,j,c,hc=>by
  cases j with
  | zero=>
   simp at hc; subst hc
   exact fun i s hs=>by
    match i with
    | 0=>simp [Ct.flat] at hs; subst hs; rfl
    | i + 1=>simp [Ct.flat] at hs
  | succ j=>exact flatO_spec hfl (cs:=cs) h j c (by simpa using hc)
theorem odd_loop (r : Loop) : Odd (.loop r):=⟨fun _ _ _ e=>(by cases e),fun _ _ e=>(by cases e)⟩
theorem DenCt.toO {R : Reg A} (hfl : FlOk R fl) {O O' : Nat → Prop} {ct : Ct A} {p : Option (Nat × Nat)} (h : DenCt R ρ O w ct p) (hf : ∀ (i : Nat) s,(ct.flat R)[i]? = some s → flatS fl s = true) : DenCt R ρ O' w ct p:=by
 cases p with
 | none=>exact h
 | some p=>
  obtain ⟨b,base⟩:=p
  rcases h with h | ⟨hnm,c,F,fz,h1,h2,h3,h4⟩
  ·exact .inl h
  ·exact .inr ⟨hnm,c,F,fz,h1,h2,h3,fun j s v hs hv=>(h4 j s v hs hv).flat hfl (hf j s hs)⟩
theorem wp_range {m : Nat} (hfl : FlOk E.reg fl) (hY : YOk E E0 ρ0 w0) (hI : SInv E.reg E.n X E0 ρ0 w0 st ρ a w) {Q : XE → St A → Prop} {g : Operand} {ps : List Nat} {assign body : Code} {f : FuncId} {cap : List (SV A)} (hg : st.ev g = some (.fn (.func f) [] cap))
    {sy : Spec A} {sp : Nat → Spec A} {k : Nat} (hit : MeetsIt P E.reg k sy f sp) {θ θ' : List Nat} {gs : (l : Nat) → (sp l).γ} (hk : Nat.beq θ.length k = true ∧ Nat.ble k 1000 = true ∧ Nat.beq E.yn 0 = true)
    (hcall : ∀ l, fresh st.u (callEff E.reg fl st 0 (.val (.func (.yield l) #[] #[]) :: cap) (sp l) (gs l) (θ ++ θ') false).new = true ∧
          (callEff E.reg fl st 0 (.val (.func (.yield l) #[] #[]) :: cap) (sp l) (gs l) (θ ++ θ') false).b.run fun v hs => Q .norm (st.upd none v hs (callEff E.reg fl st 0 (.val (.func (.yield l) #[] #[]) :: cap) (sp l) (gs l) (θ ++ θ') false).new))
    (hck : ∀ gy, sy.pre gy → (sy.own gy).length = k ∧ okPs E.n ps (sy.args gy) ∧ sy.nnew = 0 ∧ all2 ((sy.args gy).all (men fun h => Nat.blt h k)) ((sy.own gy).all (menCt fun h => Nat.blt h k)))
    {RB : sy.γ → St A → Prop}
    (hA : ∀ gy, sy.pre gy → ∀ (X1 E1 : Nat → Prop) (ρ1 : Rho) (w1 : World) (ρ2 : Rho) (a2 : Act) (w2 : World) (l m' : Nat), YOk { E with rf := false } E1 ρ1 w1 → SInv E.reg E.n X1 E1 ρ1 w1 (roundSt ps θ (sy.own gy) (sy.args gy) st) ρ2 a2 w2 →
      assign.wpIn (FR (some l)) m' P (QX E.reg E.n X1 E1 ρ1 w1 fun e st1 => e = .norm ∧ RB gy st1) a2 w2)
    (hB : ∀ gy st1, RB gy st1 → ∀ (X1 E1 : Nat → Prop) (ρ1 : Rho) (w1 : World) (ρ2 : Rho) (a2 : Act) (w2 : World) (l m' : Nat), YOk { E with rf := false } E1 ρ1 w1 → SInv E.reg E.n X1 E1 ρ1 w1 st1 ρ2 a2 w2 →
      body.wpIn (FR (some l)) m' P (QX E.reg E.n X1 E1 ρ1 w1 fun e st2 => e = .norm ∧ RoundEnd E.reg fl sy gy k st2) a2 w2) :
    (Code.rangeFunc g ⟨ps⟩ assign body).wpIn (FR none) m P (QX E.reg E.n X E0 ρ0 w0 Q) a w := by
  refine wpIn_rangeFunc fun fn _ => ?_
  obtain ⟨rec, hrec⟩ : ∃ rec : LoopState → Option Code → Loop, rec = fun s pe => { state := s, pending := pe, fn, tmps := a.tmps, params := ⟨ps⟩, assign, body, defers := w.heap.size } := ⟨_, rfl⟩
  obtain ⟨W1, hW1⟩ : ∃ W1, (w.alloc (.deferred (some []))).alloc (.loop (rec .ready none)) = W1 := ⟨_, rfl⟩
  have hL1 : W1.heap[w.heap.size + 1]? = some (.loop (rec .ready none)) := by
    rw [← hW1]; have := World.alloc_heap_new (w.alloc (.deferred (some []))) (.loop (rec .ready none)); rwa [World.size_alloc] at this
  have hsz1 : W1.heap.size = w.heap.size + 2 := by rw [← hW1]; simp
  have old1 : ∀ (b : Nat) (o : Obj), w.heap[b]? = some o → W1.heap[b]? = some o := fun b o hb => by
    have hlt := lt_of_heap hb
    rw [← hW1, heap_alloc_old (by simp; omega), heap_alloc_old hlt]; exact hb
  have hD1 : W1.heap[w.heap.size]? = some (.deferred (some [])) := by
    rw [← hW1, heap_alloc_old (by simp)]; exact World.alloc_heap_new w _
  have hrel1 : WRel E0 w0 W1 := by rw [← hW1]; exact (hI.rel.alloc _).alloc _
  have hI1 : SInv E.reg E.n X E0 ρ0 w0 st ρ { a with defers := [{ target := .collected w.heap.size, args := #[] }] ++ a.defers } W1 := by
    refine hI.world rfl ?_ hrel1 fun b o hb _ => old1 b o hb
    refine .cons w.heap.size a.defers W1 hI.rel.size hD1 (fun d hd e => ?_) (hI.defers.mono fun b x hb => old1 b _ hb)
    obtain ⟨b, rfl, hb⟩ := hI.defers.lt d hd
    injection e with e
    omega
  obtain ⟨a1, ha1⟩ : ∃ a1 : Act, { a with defers := [{ target := Target.collected w.heap.size, args := #[] }] ++ a.defers } = a1 := ⟨_, rfl⟩
  rw [ha1] at hI1
  have hev1 : a1.eval g = a.eval g := by rw [← ha1]; cases g <;> rfl
  obtain ⟨u2, hev, hDc⟩ : ∃ u2, a.eval g = .func (.func f) #[] u2 ∧ DenL E.reg ρ (fun b => X b ∨ OwnB st.h ρ b) W1 cap u2.toList := by
    have h1 := (hI1.ev hg).1
    rw [hev1] at h1
    generalize a.eval g = v at h1
    cases h1 with
    | fn _ _ _ us vs l1 d1 l2 d2 =>
      have : us = #[] := Array.eq_empty_of_size_eq_zero (by simpa using l1.symm)
      subst this
      exact ⟨vs, rfl, by simpa using l2, fun j s v hs hv => d2 j s v hs (by rwa [Array.getElem?_toList] at hv)⟩
  obtain ⟨hf, hrun⟩ := hcall (w.heap.size + 1)
  have hargs : DenL E.reg ρ (fun b => X b ∨ OwnB st.h ρ b) W1 (.val (.func (.yield (w.heap.size + 1)) #[] #[]) :: cap) (#[Value.func (.yield (w.heap.size + 1)) #[] #[]] ++ u2).toList := by
    refine ⟨by simp [hDc.1], fun j s v hs hv => ?_⟩
    cases j with
    | zero => simp at hs hv; subst hs; subst hv; exact .val _
    | succ j => exact hDc.2 j s v (by simpa using hs) (by simpa using hv)
  obtain ⟨hpre, X', ρq, h1, h2, h3, h4, ⟨hol, h6, hsub, hθn⟩, h5⟩ := call_core hfl hI1 hargs hf hrun
  have hnb : ∀ (b : Nat) (o : Obj), W1.heap[b]? = some o → Odd o → ¬ Blk (((sp (w.heap.size + 1)).own (gs (w.heap.size + 1))).map some) ρq b := fun b o hb ho hB => by
    obtain ⟨h, ct, base, hh, hr⟩ := hsub b hB
    have := hI1.hs h ct hh
    rw [hr] at this
    exact denCt_odd this hb ho
  have hθk := beq_true hk.1
  have hk1000 := ble_true hk.2.1
  have hyn := beq_true hk.2.2
  have hθlt : ∀ j, j < k → ∃ h, θ[j]? = some h ∧ ρq j = ρ h ∧ ∃ ct, st.h h = some ct := fun j hj => by
    have : θ[j]? = some θ[j] := List.getElem?_eq_getElem (by omega)
    exact ⟨_, this, h6 j _ (by rw [List.getElem?_append_left (by omega)]; exact this)⟩
  have hMY : MeetsY P E.reg (YFrom ((sp (w.heap.size + 1)).own (gs (w.heap.size + 1))) k ρq W1) (w.heap.size + 1) sy := by
    intro gy hp Xr ρr W vs hYW hx1 hx2 hav hhs m'
    obtain ⟨hWrel, hag⟩ := hYW
    obtain ⟨c1, c2, c3, c4⟩ := hck gy hp
    obtain ⟨c4, c5⟩ := all2_spec c4
    have hlW : W.heap[w.heap.size + 1]? = some (.loop (rec .ready none)) := (hWrel.block _ (by omega) (hnb _ _ hL1 (odd_loop _))).trans hL1
    have hlen : (sy.args gy).length = vs.toList.length := hav.1
    have hpl := okPs_len c2
    let E1 : Nat → Prop := Blk ((sy.own gy).map some) ρr
    let ρs : Rho := fun h => if h < k then ρr h else ρ (h - 100000)
    have hs0 : ∀ h, h < k → ρs h = ρr h := fun h hh => if_pos hh
    have hnames : ∀ h, st.u h = true → ρs (phiN θ 0 h) = ρ h ∧ (roundSt ps θ (sy.own gy) (sy.args gy) st).u (phiN θ 0 h) = true := fun h hu => by
      rcases phiN_spec θ 0 h with ⟨i, e1, e2⟩ | ⟨e1, e2⟩
      · have hik : i < k := by have := (List.getElem?_eq_some_iff.1 e1).1; omega
        obtain ⟨h', q1, q2, _⟩ := hθlt i hik
        rw [e1] at q1; cases q1
        rw [e2, Nat.zero_add]
        refine ⟨by rw [hs0 i hik, hag i hik, q2], ?_⟩
        have : Nat.blt i 1000 = true := (Nat.blt_eq (x := i) (y := 1000)).symm ▸ (by omega)
        simp only [roundSt, this]
      · rw [e2]
        refine ⟨by show (if h + 100000 < k then _ else _) = _; rw [if_neg (by omega), Nat.add_sub_cancel], ?_⟩
        have q1 : Nat.blt (h + 100000) 1000 = false := by rw [← Bool.not_eq_true, Nat.blt_eq]; omega
        have q2 : Nat.blt (h + 100000) 100000 = false := by rw [← Bool.not_eq_true, Nat.blt_eq]; omega
        simp only [roundSt, q1, q2]
        show st.u (h + 100000 - 100000) = true
        rw [Nat.add_sub_cancel]; exact hu
    have hown : ∀ (h : Nat) ct, (roundSt ps θ (sy.own gy) (sy.args gy) st).h h = some ct → (sy.own gy)[h]? = some ct ∧ h < k := fun h ct hh => by
      have : (sy.own gy)[h]? = some ct := by rw [← nth_eq]; exact hh
      exact ⟨this, by have := (List.getElem?_eq_some_iff.1 this).1; omega⟩
    have hOr : ∀ b, (False ∨ OwnB (roundSt ps θ (sy.own gy) (sy.args gy) st).h ρs b) → Blk ((sy.own gy).map some) ρr b := fun b hb => by
      rcases hb with hb | ⟨h, ct, base, hh, hr⟩
      · exact hb.elim
      · obtain ⟨q1, q2⟩ := hown h ct hh
        exact ⟨h, ct, base, by rw [List.getElem?_map, q1]; rfl, by rw [← hs0 h q2]; exact hr⟩
    have hOc : ∀ b, Blk ((sy.own gy).map some) ρr b → OwnB st.h ρ b := fun b ⟨h, ct, base, hh, hr⟩ => by
      have hlt : h < k := by have := (List.getElem?_eq_some_iff.1 hh).1; simp at this; omega
      obtain ⟨h', q1, q2, ct', q3⟩ := hθlt h hlt
      exact ⟨h', ct', base, q3, by rw [← q2, ← hag h hlt]; exact hr⟩
    have gc : Goes0 (fun b => X b ∨ OwnB st.h ρ b) (fun b => False ∨ OwnB (roundSt ps θ (sy.own gy) (sy.args gy) st).h ρs b) W1 W := by
      refine ⟨fun b c F fz hn hb => ⟨fun h => hn (.inr (hOc b (hOr b h))), ?_⟩, fun b c F fz hb => hWrel.shape b c F fz hb⟩
      rw [hWrel.block b (lt_of_heap hb) fun hB => hn (.inr (hsub b hB))]; exact hb
    have gr : Goes0 (fun b => Xr b ∨ Blk ((sy.own gy).map some) ρr b) (fun b => False ∨ OwnB (roundSt ps θ (sy.own gy) (sy.args gy) st).h ρs b) W W :=
      ⟨fun b c F fz hn hb => ⟨fun h => hn (.inr (hOr b h)), hb⟩, fun b c F fz hb => ⟨c, fz, hb, rfl⟩⟩
    have low : ∀ h, Nat.blt h k = true → (roundSt ps θ (sy.own gy) (sy.args gy) st).u h = true := fun h hh => by
      have : h < k := (Nat.blt_eq (x := h) (y := k)) ▸ hh
      have : Nat.blt h 1000 = true := (Nat.blt_eq (x := h) (y := 1000)).symm ▸ (by omega)
      simp only [roundSt, this]
    have lowρ : ∀ h, Nat.blt h k = true → ρs h = ρr h := fun h hh => hs0 h ((Nat.blt_eq (x := h) (y := k)) ▸ hh)
    obtain ⟨tsz, tsl⟩ := laid_spec (n := E.n) (Good := fun sv v => Den E.reg ρs (fun b => False ∨ OwnB (roundSt ps θ (sy.own gy) (sy.args gy) st).h ρs b) W sv v ∧ men (roundSt ps θ (sy.own gy) (sy.args gy) st).u sv = true)
      ps (sy.args gy) vs.toList (fun i => match st.t i with | some s => some (ren (phiN θ 0) s) | none => none) a.tmps c2 hlen hI.size
      (fun s sv hs => by
        cases e : st.t s with
        | none => simp [e] at hs
        | some s0 =>
          simp only [e, Option.some.injEq] at hs
          subst hs
          have hm := hI1.men s s0 e
          have hd := (hI1.slots s s0 e).mono0 gc
          rw [← ha1] at hd
          exact ⟨((hd.rho (ρ' := fun n => ρs (phiN θ 0 n)) (f := st.u) hm fun n hn => (hnames n hn).1)).ren, men_ren (fun n hn => (hnames n hn).2) s0 hm⟩)
      (fun j s v hs hv => by
        have hm := List.all_eq_true.1 c4 s (List.mem_of_getElem? hs)
        exact ⟨((hav.2 j s v hs hv).mono0 gr).rho hm lowρ, men_mono low s hm⟩)
    have hIr : SInv E.reg E.n (fun _ => False) E1 ρs W (roundSt ps θ (sy.own gy) (sy.args gy) st) ρs { tmps := laid ps vs.toList a.tmps, defers := [] } W := by
      refine ⟨tsz, fun s sv hs => (tsl s sv hs).1, fun h ct hh => ?_, fun h h' ct ct' b base base' hh hh' hr hr' => ?_, fun h ct b base hh hr => ⟨.inl ?_, id⟩, fun h ct hh => ?_, fun s sv hs => (tsl s sv hs).2, fun b hb => hb.elim, .refl, .nil _, fun h hh => ⟨?_, rfl⟩⟩
      · obtain ⟨q1, q2⟩ := hown h ct hh
        rw [hs0 h q2]
        have hm := List.all_eq_true.1 c5 ct (List.mem_of_getElem? q1)
        exact ((hhs.den h ct (by rw [List.getElem?_map, q1]; rfl)).mono0 gr (fun _ _ _ => rfl)).rho hm lowρ
      · obtain ⟨q1, q2⟩ := hown h ct hh
        obtain ⟨q3, q4⟩ := hown h' ct' hh'
        exact hhs.inj h h' ct ct' b base base' (by rw [List.getElem?_map, q1]; rfl) (by rw [List.getElem?_map, q3]; rfl) (by rw [← hs0 h q2]; exact hr) (by rw [← hs0 h' q4]; exact hr')
      · exact hOr b (.inr ⟨h, ct, base, hh, hr⟩)
      · obtain ⟨q1, q2⟩ := hown h ct hh
        exact ⟨low h ((Nat.blt_eq (x := h) (y := k)).symm ▸ q2), menCt_mono low ct (List.all_eq_true.1 c5 ct (List.mem_of_getElem? q1))⟩
      · have : Nat.blt h 1000 = true := (Nat.blt_eq (x := h) (y := 1000)).symm ▸ hh
        simp only [roundSt, this]
    have hE1 : ¬ E1 (w.heap.size + 1) := fun hb => by
      obtain ⟨h, ct, base, hh, hr⟩ := hb
      have := hhs.den h ct hh
      rw [hr] at this
      exact denCt_odd this hlW (odd_loop _)
    have hE1' : ∀ b, E1 b → E0 b ∨ w0.heap.size ≤ b := fun b hb => by
      obtain ⟨h, ct, base, hh, hr⟩ := hOc b hb
      exact (hI1.own h ct b base hh hr).1
    have hrelW : WRel E0 w0 W := hrel1.trans' hWrel fun b hb => by
      obtain ⟨h, ct, base, hh, hr⟩ := hsub b hb
      exact (hI1.own h ct b base hh hr).1
    have hYs : ∀ W', WRel E0 w0 W' → YOk { E with rf := false } E1 ρs W' := fun W' hr => ⟨hY.le, fun w4 ρ4 hw hρ => hY.ok w4 ρ4 (hr.trans' hw hE1') fun h hh => by omega⟩
    have hltW := lt_of_heap hlW
    have hy := run_yield (P := P) (args := vs) hlW (by rw [hrec]; show vs.size = ps.length; rw [hpl, hlen]; simp)
    have hfold : ((Array.zip ⟨ps⟩ vs).foldl (fun tmps (t, a) => tmps.setIfInBounds t a) a.tmps) = laid ps vs.toList a.tmps := by
      rw [← Array.foldl_toList, Array.toList_zip]; rfl
    refine ⟨fn, _, assign, body, by rw [hrec] at hy; exact hy, roundIn_of_wpIn (F := Fence.wide) trivial ?_⟩
    rw [hfold]
    refine wpIn_mono (F := FR (some (w.heap.size + 1))) (hA gy hp _ E1 ρs W ρs _ W (w.heap.size + 1) m' (hYs W hrelW) hIr) ?_
    rintro e a3 W3 ⟨xe, st3, ρ3, rfl, ⟨rfl, hRB⟩, hi3⟩
    have hl3 : W3.heap[w.heap.size + 1]? = some (.loop (rec .ready none)) := (hi3.rel.block _ hltW hE1).trans hlW
    refine ⟨_, by have := run_beginRound (P := P) hl3 (by rw [hrec]); exact this, ?_⟩
    have hi4 := hi3.both (o' := .loop { rec .ready none with state := .busy }) hE1 hlW (odd_loop _) (odd_loop _) (fun x e => by cases e)
    refine wpIn_mono (F := FR (some (w.heap.size + 1))) (hB gy st3 hRB _ E1 ρs (W.putObj (w.heap.size + 1) (.loop { rec .ready none with state := .busy })) ρ3 _ _ (w.heap.size + 1) m' (hYs _ (hrelW.other (w' := W.putObj (w.heap.size + 1) (.loop { rec .ready none with state := .busy })) rfl rfl rfl (by simp) fun b o hb => ?_)) hi4) ?_
    · by_cases e : b = w.heap.size + 1
      · subst e; rw [hlW] at hb; cases hb
        exact .inr ⟨by have := hI.rel.size; omega, odd_loop _⟩
      · exact .inl (by rw [World.putObj_heap_other e]; exact hb)
    rintro e a5 W5 ⟨xe, st5, ρ5, rfl, ⟨rfl, hRE⟩, hi5⟩
    have hl5 : W5.heap[w.heap.size + 1]? = some (.loop { rec .ready none with state := .busy }) := (hi5.rel.block _ (by simpa using hltW) hE1).trans (World.putObj_heap_same hltW)
    have hlt5 := lt_of_heap hl5
    obtain ⟨d, hpost, hres, hkept, hfl2⟩ := hRE
    obtain ⟨hfl2, hfl3⟩ := all2_spec hfl2
    obtain ⟨hkl, hkg⟩ := keptAt_get hkept
    have hfz : ∀ j, j < k → thr (ids k) j = j := fun j hj => thr_get (ids_get k j hj)
    have hkp : ∀ j, j < k → st5.u j = true ∧ ρ5 j = ρr j := fun j hj => by
      obtain ⟨q1, q2⟩ := hi5.keep j (by omega)
      exact ⟨q1, q2.trans (hs0 j hj)⟩
    have hk5 : ∀ (j : Nat) c, (sy.own' gy d)[j]? = some (some c) → j < k ∧ ctEq E.reg st5 (thr (ids k)) j c := fun j c hj => by
      obtain ⟨h, q1, q2⟩ := hkg j c hj
      have hlt : j < k := by have := (List.getElem?_eq_some_iff.1 q1).1; rwa [ids_len] at this
      rw [ids_get k j hlt] at q1; cases q1
      exact ⟨hlt, q2⟩
    have hk5' : ∀ (j : Nat) c, (sy.own' gy d)[j]? = some (some c) → DenCt E.reg ρr (fun b => False ∨ OwnB st5.h ρ5 b) W5 c (ρr j) := fun j c hj => by
      obtain ⟨hlt, q2⟩ := hk5 j c hj
      let ρz : Rho := fun n => if st5.u (thr (ids k) n) = true then ρ5 (thr (ids k) n) else none
      have z1 : ∀ n, st5.u (thr (ids k) n) = true → ρz n = ρ5 (thr (ids k) n) := fun n hn => if_pos hn
      have z2 : ∀ n, st5.u (thr (ids k) n) = false → ρz n = none := fun n hn => if_neg (by rw [hn]; exact Bool.false_ne_true)
      rcases ct_den hi5 z1 z2 .refl q2 with ⟨c0, _, _, q5⟩ | ⟨_, q4, _⟩
      · rw [(hkp j hlt).2] at q5
        refine q5.rho (menO_spec hfl2 j c hj) fun n hn => ?_
        have hn : n < k := (Nat.blt_eq (x := n) (y := k)) ▸ hn
        rw [z1 n (by rw [hfz n hn]; exact (hkp n hn).1), hfz n hn]
        exact (hkp n hn).2.symm
      · rw [(hkp j hlt).1] at q4; cases q4
    have gz : ∀ O : Nat → Prop, Goes0 O O W5 (W5.putObj (w.heap.size + 1) (.loop { ({ rec .ready none with state := .busy } : Loop) with state := if (none : Option Code).isNone then .ready else .done, pending := none })) := fun O =>
      ⟨fun b c F fz hn hb => ⟨hn, putObj_keep hl5 (odd_loop _) b _ hb fun e => e.1 _ _ _ rfl⟩, fun b c F fz hb => ⟨c, fz, putObj_keep hl5 (odd_loop _) b _ hb fun e => e.1 _ _ _ rfl, rfl⟩⟩
    refine ⟨_, _, run_endRound none hl5, d, ρr, .bool true, hpost, rfl, fun _ _ => rfl, ?_, ⟨?_, ?_⟩, ?_, ?_, ?_, ?_, ?_⟩
    · rw [hres]; exact .val _
    · intro j c hj
      obtain ⟨q1, q2⟩ := hk5 j c hj
      have q0 := hk5' j c hj
      exact (q0.toO hfl (flatO_spec hfl hfl3 j c hj)).mono0 (gz _) fun b base hb => by
        rw [hb] at q0
        have hlt := q0.lt
        have hw : W5.heap[b]? = some W5.heap[b] := Array.getElem?_eq_getElem hlt
        rw [hw]
        exact putObj_keep hl5 (odd_loop _) b _ hw fun h => denCt_odd q0 hw h
    · intro j j' c c' b base base' hj hj' hr hr'
      have e1 : (sy.own gy)[j]? = some ((sy.own gy)[j]'(by have := (hk5 j c hj).1; omega)) := List.getElem?_eq_getElem _
      have e2 : (sy.own gy)[j']? = some ((sy.own gy)[j']'(by have := (hk5 j' c' hj').1; omega)) := List.getElem?_eq_getElem _
      exact hhs.inj j j' _ _ b base base' (by rw [List.getElem?_map, e1]; rfl) (by rw [List.getElem?_map, e2]; rfl) hr hr'
    · intro b hb
      have hb' : Blk ((sy.own gy).map some) ρr b := by
        obtain ⟨j, c, base, hj, hr⟩ := hb
        have e1 : (sy.own gy)[j]? = some ((sy.own gy)[j]'(by have := (hk5 j c hj).1; omega)) := List.getElem?_eq_getElem _
        exact ⟨j, _, base, by rw [List.getElem?_map, e1]; rfl, hr⟩
      exact ⟨.inl hb', fun hx => hx2 b hx hb'⟩
    · rw [← hkl, ids_len, c1, c3, Nat.add_zero]
    · rw [hres]; rfl
    · intro j c hj
      rw [c1, c3, Nat.add_zero]
      exact menO_spec hfl2 j c hj
    · refine ⟨hi5.rel.os, hi5.rel.tape, hi5.rel.output, by have := hi5.rel.size; simpa using this, fun b hb hn => ?_, fun b c F fz hc => ?_⟩
      · by_cases e : b = w.heap.size + 1
        · subst e
          rw [World.putObj_heap_same hlt5, hlW, hrec]; rfl
        · rw [World.putObj_heap_other e, hi5.rel.block b (by simpa using hb) hn, World.putObj_heap_other e]
      · have e : b ≠ w.heap.size + 1 := fun e => by subst e; rw [hlW] at hc; cases hc
        obtain ⟨c', fz', g1, g2⟩ := hi5.rel.shape b c F fz (by rw [World.putObj_heap_other e]; exact hc)
        exact ⟨c', fz', by rw [World.putObj_heap_other e]; exact g1, g2⟩
  refine ⟨w.heap.size + 1, [{ target := .collected w.heap.size, args := #[] }], W1, { target := .fn (.func f) u2, args := #[.func (.yield (w.heap.size + 1)) #[] #[]] }, W1, f, #[.func (.yield (w.heap.size + 1)) #[] #[]] ++ u2, W1, ?_, ?_, fun _ _ => trivial, ?_, FR_depth, ?_⟩
  · rw [← hW1, hrec]; exact run_enterLoop_outer _ _ _ _ _
  · simp only [resolve, hev]
    simp [Deferred.ofValue, Act.eval]
  · obtain ⟨fn', q1, q2, q3⟩ := hit.1
    have q2 : ¬ fn'.name = "runtime.NumGoroutine" := by simpa using q2
    have q3 : ¬ fn'.body = none := fun h => by rw [h] at q3; cases q3
    simp [invoke, callFunc, q1, q2, q3]
  · rw [ha1]
    refine CallsIn.mono (FR_calls (hit.2 (w.heap.size + 1) (gs _) hpre X' ρq W1 _ hMY h1 h2 h3 h4)) fun e w3 hpost => ?_
    have hrel3 : WRel (Blk (((sp (w.heap.size + 1)).own (gs (w.heap.size + 1))).map some) ρq) W1 w3 := by
      obtain ⟨_, _, _, _, _, _, _, _, _, _, _, _, h⟩ := hpost; exact h
    obtain ⟨v, sv, hs, ρ', rfl, hK, hi⟩ := h5 e w3 hpost
    have hi := hi none rfl
    have hl3 : w3.heap[w.heap.size + 1]? = some (.loop (rec .ready none)) := (hrel3.block _ (by omega) (hnb _ _ hL1 (odd_loop _))).trans hL1
    have hlt3 := lt_of_heap hl3
    refine ⟨none, _, by have := run_endLoop (P := P) hl3 (by rw [hrec]; simp); rw [hrec] at this; exact this, ?_⟩
    refine ⟨.norm, _, ρ', rfl, hK, hi.world rfl (hi.defers.mono fun b x hb => ?_) (hi.rel.other rfl rfl rfl (by simp) fun b o hb => ?_) (putObj_keep hl3 (odd_loop _))⟩
    · rw [World.putObj_heap_other (fun e => by subst e; rw [hl3] at hb; cases hb)]; exact hb
    · by_cases e : b = w.heap.size + 1
      · subst e; rw [hl3] at hb; cases hb
        exact .inr ⟨by have := hI.rel.size; omega, odd_loop _⟩
      · exact .inl (by rw [World.putObj_heap_other e]; exact hb)
theorem assoc_app {α : Type} : ∀ {l r : List (Nat × α)} {i : Nat},assoc (l ++ r) i = match assoc l i with | some v=>some v | none=>assoc r i
 | [],_,_=>rfl
 | (k,v) :: l,r,i=>by
  simp only [List.cons_append,assoc]
  split
  ·rfl
  ·exact assoc_app
theorem deads_get {j : Nat} : ∀ {n k : Nat},assoc (deads k n : List (Nat × Ct A)) j = if 900 + k ≤ j ∧ j < 900 + k + n then some (.cells []) else none
 | 0,k=>by rw [if_neg (by omega)]; rfl
 | n + 1,k=>by
  simp only [deads,assoc]
  by_cases e : j = 900 + k
  ·subst e; rw [beq_self,if_pos (by omega)]
  ·rw [beq_false e]; dsimp only
   rw [deads_get (n:=n) (k:=k + 1)]
   by_cases h : 900 + k ≤ j ∧ j < 900 + k + (n + 1)
   ·rw [if_pos h,if_pos (by omega)]
   ·rw [if_neg h,if_neg (by omega)]
theorem updH_dead {f : Nat → Option (Ct A)} : ∀ (l : List Nat) (h : Nat),updH f (deadH l) h = if h ∈ l then some (.cells []) else f h
 | [],h=>by simp [deadH,updH]
 | k :: l,h=>by
  simp only [deadH,updH]
  by_cases e : h = k
  ·subst e; simp
  ·rw [beq_false e]; dsimp only; rw [updH_dead l h]; simp [e]
theorem deadMap_get {θ0 : List (Nat × Nat)} : ∀ {θ : List Nat} {k j h : Nat},θ[j]? = some h → assoc (deadMap k θ) (900 + k + j) = some h
 | [],_,_,_,hh=>by simp at hh
 | h0 :: θ,k,j,h,hh=>by
  simp only [deadMap,assoc]
  cases j with
  | zero=>simp at hh; subst hh; rw [show 900 + k + 0 = 900 + k by omega,beq_self]
  | succ j=>
   rw [beq_false (by omega)]
   dsimp only
   have:=deadMap_get (θ0:=θ0) (θ:=θ) (k:=k + 1) (j:=j) (h:=h) (by simpa using hh)
   rw [show 900 + (k + 1) + j = 900 + k + (j + 1) by omega] at this
   exact this
theorem SInv.dead {n : Nat} {R : Reg A} (hI : SInv R n X E0 ρ0 w0 st ρ a w) {θ : List Nat} (hθ : ∀ h ∈ θ,∃ ct,st.h h = some ct ∧ ct.isMap = false) : SInv R n X E0 ρ0 w0 (deadSt st θ) ρ a w ∧ ∀ b,OwnB (deadSt st θ).h ρ b ↔ OwnB st.h ρ b:=by
 have get : ∀ h ct,(deadSt st θ).h h = some ct → (h ∈ θ ∧ ct = .cells []) ∨ (h ∉ θ ∧ st.h h = some ct):=fun h ct hh=>by
  have hh : updH st.h (deadH θ) h = some ct:=hh
  rw [updH_dead] at hh
  split at hh
  ·rename_i hm; cases hh; exact .inl ⟨hm,rfl⟩
  ·rename_i hm; exact .inr ⟨hm,hh⟩
 have old : ∀ h ct,(deadSt st θ).h h = some ct → ∃ ct0,st.h h = some ct0:=fun h ct hh=>by
  rcases get h ct hh with ⟨hm,_⟩ | ⟨_,h2⟩
  ·obtain ⟨c,hc,_⟩:=hθ h hm; exact ⟨c,hc⟩
  ·exact ⟨ct,h2⟩
 have hO : ∀ b,OwnB (deadSt st θ).h ρ b ↔ OwnB st.h ρ b:=fun b=>by
  constructor
  ·rintro ⟨h,ct,base,hh,hr⟩
   obtain ⟨c,hc⟩:=old h ct hh
   exact ⟨h,c,base,hc,hr⟩
  ·rintro ⟨h,ct,base,hh,hr⟩
   by_cases hm : h ∈ θ
   ·exact ⟨h,.cells [],base,by show updH st.h (deadH θ) h = _; rw [updH_dead,if_pos hm],hr⟩
   ·exact ⟨h,ct,base,by show updH st.h (deadH θ) h = _; rw [updH_dead,if_neg hm]; exact hh,hr⟩
 have g : Goes (fun b=>X b ∨ OwnB st.h ρ b) (fun b=>X b ∨ OwnB (deadSt st θ).h ρ b) w w:=⟨fun b _ _ _ hn hb=>⟨fun h=>hn (h.imp id (hO b).1),hb⟩,fun _ c _ fz h=>⟨c,fz,h,rfl⟩,fun _ _ h=>h⟩
 refine ⟨⟨hI.size,fun s sv h=>(hI.slots s sv h).mono g,fun h ct hh=>?_,fun h h' ct ct' b base base' hh hh' hr hr'=>?_,fun h ct b base hh hr=>?_,fun h ct hh=>?_,hI.men,hI.xlt,hI.rel,hI.defers,hI.keep⟩,hO⟩
 ·rcases get h ct hh with ⟨hm,rfl⟩ | ⟨_,h2⟩
  ·obtain ⟨c,hc,hnm⟩:=hθ h hm
   have hd:=hI.hs h c hc
   generalize ρ h = q at *
   cases q with
   | none=>exact (rfl : (Ct.flat R (.cells [] : Ct A)) = [])
   | some q=>
    obtain ⟨b,base⟩:=q
    rcases hd with (⟨_,_,_,e,_⟩ | ⟨_,_,e,_⟩) | ⟨_,c0,E,fz,h1,h2,h3,h4⟩
    ·subst e; cases hnm
    ·subst e; cases hnm
    ·exact .inr ⟨rfl,c0,E,fz,h1,h2,⟨by show base + 0 ≤ _; omega,trivial⟩,fun j s v hs hv=>by simp [Ct.flat] at hs⟩
  ·exact (hI.hs h ct h2).mono g (fun _ _ _=>rfl)
 ·obtain ⟨c1,g1⟩:=old h ct hh
  obtain ⟨c2,g2⟩:=old h' ct' hh'
  exact hI.inj h h' c1 c2 b base base' g1 g2 hr hr'
 ·obtain ⟨c1,g1⟩:=old h ct hh
  exact hI.own h c1 b base g1 hr
 ·obtain ⟨c1,g1⟩:=old h ct hh
  rcases get h ct hh with ⟨_,rfl⟩ | ⟨_,h2⟩
  ·exact ⟨(hI.used h c1 g1).1,rfl⟩
  ·exact hI.used h ct h2
theorem ent_base {n : Nat} {R : Reg A} (hI : SInv R n X E0 ρ0 w0 st ρ a w) {p : Pat A} (hp : patOk p = true) {θ : List (Nat × Nat)} (he : Ent0 R st p θ) :
  ∃ ρ',SInv R n X E0 ρ' w0 p.st ρ' a w ∧ (∀ h,st.u (thA θ h) = true → ρ' h = ρ (thA θ h)) ∧ ∀ b,OwnB p.st.h ρ' b → OwnB st.h ρ b:=by
 obtain ⟨hT,hH,hN⟩:=he
 simp only [patOk,Bool.and_eq_true,List.all_eq_true] at hp
 obtain ⟨⟨hpt,hph⟩,hpn⟩:=hp
 let f:=thA θ
 let ρ' : Rho:=fun h=>if st.u (f h) = true then ρ (f h) else none
 have hρ : ∀ h,(fun k=>st.u (f k)) h = true → ρ' h = (fun k=>ρ (f k)) h:=fun h hu=>if_pos hu
 have hρn : ∀ k,st.u (f k) = false → ρ' k = none:=fun k hk=>if_neg (by rw [hk]; exact Bool.false_ne_true)
 have live : ∀ h ct,assoc p.h h = some ct → (∃ c0,st.h (f h) = some c0 ∧ st.u (f h) = true) ∨ ρ' h = none:=fun h ct hc=>by
  have he:=patH_get hH h ct (assoc_mem hc)
  unfold ctEq at he
  split at he
  ·rename_i cs hs; exact .inl ⟨_,hs,(hI.used _ _ hs).1⟩
  ·rename_i F0 cs hs; exact .inl ⟨_,hs,(hI.used _ _ hs).1⟩
  ·rename_i T xs hs; exact .inl ⟨_,hs,(hI.used _ _ hs).1⟩
  ·rename_i K V es hs; exact .inl ⟨_,hs,(hI.used _ _ hs).1⟩
  ·rename_i k Q hs; exact .inl ⟨_,hs,(hI.used _ _ hs).1⟩
  ·exact .inr (hρn h he.1)
 have hOo : ∀ b,OwnB p.st.h ρ' b → OwnB st.h ρ b:=fun b ⟨h,ct,base,hh,hr⟩=>by
  rcases live h ct hh with ⟨c0,h1,h2⟩ | h1
  ·exact ⟨_,_,base,h1,by rw [← hr]; exact (hρ h h2).symm⟩
  ·rw [h1] at hr; cases hr
 have g : Goes (fun b=>X b ∨ OwnB st.h ρ b) (fun b=>X b ∨ OwnB p.st.h ρ' b) w w:=⟨fun b _ _ _ hn hb=>⟨fun h=>hn (h.imp id (hOo b)),hb⟩,fun _ c _ fz h=>⟨c,fz,h,rfl⟩,fun _ _ h=>h⟩
 have slot : ∀ s sv,p.st.t s = some sv → ∃ c,st.t s = some c ∧ cellEq st f c sv:=fun s sv h=>patT_get hT s sv (assoc_mem h)
 have low : ∀ k,someB (assoc p.h k) = true → p.st.u k = true:=fun k hk=>by
  show usedIn p.h k = true
  unfold usedIn
  split
  ·rfl
  ·exact hk
 refine ⟨ρ',⟨hI.size,fun s sv hs=>?_,fun h ct hh=>?_,fun h h' ct ct' b base base' hh hh' hr hr'=>?_,fun h ct b base hh hr=>?_,fun h ct hh=>?_,fun s sv hs=>?_,hI.xlt,hI.rel,hI.defers,fun h hh=>⟨?_,rfl⟩⟩,hρ,hOo⟩
 ·obtain ⟨c,hc,h1⟩:=slot s sv hs
  exact cell_den hρ hρn g h1 (hI.men s _ hc) (hI.slots s _ hc)
 ·rcases ct_den hI hρ hρn g (patH_get hH h ct (assoc_mem hh)) with ⟨c0,h1,h2,h3⟩ | ⟨_,h1,h2⟩
  ·rw [hρ h h2]; exact h3
  ·rw [hρn h h1]; exact h2
 ·rcases live h ct hh with ⟨c1,h1,h2⟩ | h1
  ·rcases live h' ct' hh' with ⟨c2,h3,h4⟩ | h3
   ·have e:=hI.inj (f h) (f h') _ _ b base base' h1 h3 (by rw [← hr]; exact (hρ h h2).symm) (by rw [← hr']; exact (hρ h' h4).symm)
    have:=nodup_inj (nodup_spec hN) (h,ct) (assoc_mem hh) (h',ct') (assoc_mem hh') e
    exact congrArg Prod.fst this
   ·rw [h3] at hr'; cases hr'
  ·rw [h1] at hr; cases hr
 ·rcases live h ct hh with ⟨c1,h1,h2⟩ | h1
  ·exact hI.own _ _ b base h1 (by rw [← hr]; exact (hρ h h2).symm)
  ·rw [h1] at hr; cases hr
 ·exact ⟨low h (by rw [show assoc p.h h = some ct from hh]; rfl),menCt_mono low ct (hph (h,ct) (assoc_mem hh))⟩
 ·exact men_mono low sv (hpt (s,sv) (assoc_mem hs))
 ·show usedIn p.h h = true
  unfold usedIn
  have:=(Nat.blt_eq (x:=h) (y:=1000)).symm ▸ hh
  rw [this]
theorem SInv.irel {n : Nat} {R : Reg A} {B : Nat → Prop} (hI : SInv R n X E0 ρ0 w0 st ρ a w) {w' : World} (hr : IRel B w w') (hB : ∀ b,B b → ∃ h base,st.h h = some (.cells []) ∧ ρ h = some (b,base)) : SInv R n X E0 ρ0 w0 st ρ a w':=by
 obtain ⟨hrel,hkeep⟩:=hr
 have hBO : ∀ b,B b → OwnB st.h ρ b:=fun b hb=>by obtain ⟨h,base,h1,h2⟩:=hB b hb; exact ⟨h,_,base,h1,h2⟩
 have g : Goes0 (fun b=>X b ∨ OwnB st.h ρ b) (fun b=>X b ∨ OwnB st.h ρ b) w w':=⟨fun b c F fz hn hb=>⟨hn,by rw [hrel.block b (lt_of_heap hb) fun h=>hn (.inr (hBO b h))]; exact hb⟩,hrel.shape⟩
 refine ⟨hI.size,fun s sv h=>(hI.slots s sv h).mono0 g,fun h ct hh=>?_,hI.inj,hI.own,hI.used,hI.men,hI.xlt,hI.rel.trans' hrel fun b hb=>?_,hI.defers.mono fun b x hb=>?_,hI.keep⟩
 ·have hd:=hI.hs h ct hh
  cases hq : ρ h with
  | none=>rw [hq] at hd; exact hd
  | some q=>
   obtain ⟨b,base⟩:=q
   by_cases hb : B b
   ·obtain ⟨h',base',h1,h2⟩:=hB b hb
    obtain rfl:=hI.inj h h' ct _ b base base' hh h1 hq h2
    rw [hh] at h1; cases h1
    rw [hq] at hd
    rcases hd with (⟨_,_,_,e,_⟩ | ⟨_,_,e,_⟩) | ⟨_,c0,E,fz,h1,h2,h3,h4⟩
    ·cases e
    ·cases e
    ·obtain ⟨c',q1,q2⟩:=hkeep b c0 E fz hb h1
     exact .inr ⟨rfl,c',E,fz,q1,by rw [q2]; exact h2,by rw [q2]; exact h3,fun j s v hs hv=>by simp [Ct.flat] at hs⟩
   ·rw [hq] at hd
    refine hd.mono0 g fun b1 base1 e=>?_
    cases e
    exact hrel.block b hd.lt hb
 ·obtain ⟨h,base,h1,h2⟩:=hB b hb
  exact (hI.own h _ b base h1 h2).1
 ·by_cases e : B b
  ·obtain ⟨h,base,h1,h2⟩:=hB b e
   have hd:=hI.hs h _ h1
   rw [h2] at hd
   exact (denCt_odd hd hb ⟨fun _ _ _ e=>(by cases e),fun _ _ e=>(by cases e)⟩).elim
  ·rw [hrel.block b (lt_of_heap hb) e]; exact hb
theorem upT_get : ∀ {T : List (Nat × SV A)} {s : Nat} {sv : SV A},assoc (upT T) s = some sv → ∃ c,assoc T s = some c ∧ sv = ren (fun h=>h + 3000) c
 | [],_,_,h=>by cases h
 | (i,c) :: T,s,sv,h=>by
  simp only [upT,assoc] at h ⊢
  split at h
  ·rename_i e; cases h; exact ⟨c,rfl,rfl⟩
  ·rename_i e; exact upT_get h
theorem upH_get : ∀ {H : List (Nat × Ct A)} {h : Nat} {ct : Ct A},assoc (upH H) h = some ct → ∃ h0 c,h = h0 + 3000 ∧ assoc H h0 = some c ∧ ct = renCt (fun h=>h + 3000) c
 | [],_,_,h=>by cases h
 | (i,c) :: H,h,ct,hh=>by
  simp only [upH,assoc] at hh
  by_cases e : h = i + 3000
  ·subst e
   rw [beq_self] at hh; cases hh
   exact ⟨i,c,rfl,by simp only [assoc,beq_self],rfl⟩
  ·rw [beq_false e] at hh
   obtain ⟨h0,c0,e1,e2,e3⟩:=upH_get hh
   refine ⟨h0,c0,e1,?_,e3⟩
   simp only [assoc]
   rw [beq_false (by omega)]
   exact e2
theorem upH_some {H : List (Nat × Ct A)} {h : Nat} (hh : someB (assoc H h) = true) : someB (assoc (upH H) (h + 3000)) = true:=by
 induction H with
 | nil=>cases hh
 | cons x H ih=>
  obtain ⟨i,c⟩:=x
  simp only [upH,assoc] at hh ⊢
  by_cases e : h = i
  ·subst e; rw [beq_self]; rfl
  ·rw [beq_false e] at hh
   rw [beq_false (by omega)]
   exact ih hh
theorem upSt_u {T : List (Nat × SV A)} {H : List (Nat × Ct A)} {k : Nat} : (upSt T H).u k = usedIn (upH H) k:=rfl
theorem SInv.up {n : Nat} {R : Reg A} {ρs : Rho} {p : Pat A} (hI : SInv R n X E0 ρs w0 p.st ρs a w) (hp : patOk p = true) : ∃ ρ',SInv R n X E0 ρ0 w0 (upSt p.t p.h) ρ' a w:=by
 simp only [patOk,Bool.and_eq_true,List.all_eq_true] at hp
 obtain ⟨⟨hpt,hph⟩,hpn⟩:=hp
 obtain ⟨ρ',hρ'⟩ : ∃ ρ' : Rho,ρ' = fun h=>if h < 3000 then ρ0 h else ρs (h - 3000):=⟨_,rfl⟩
 have hup : (fun n=>ρ' (n + 3000)) = ρs:=funext fun n=>by rw [hρ']; dsimp only; rw [if_neg (by omega),Nat.add_sub_cancel]
 have hown : ∀ h ct,(upSt p.t p.h).h h = some ct → ∃ h0 c,h = h0 + 3000 ∧ p.st.h h0 = some c ∧ ct = renCt (fun h=>h + 3000) c ∧ ρ' h = ρs h0:=fun h ct hh=>by
  obtain ⟨h0,c,rfl,h2,h3⟩:=upH_get hh
  exact ⟨h0,c,rfl,h2,h3,congrFun hup h0⟩
 have hO : ∀ b,(X b ∨ OwnB (upSt p.t p.h).h ρ' b) → X b ∨ OwnB p.st.h ρs b:=fun b hb=>by
  rcases hb with hb | ⟨h,ct,base,hh,hr⟩
  ·exact .inl hb
  ·obtain ⟨h0,c,rfl,h2,_,h4⟩:=hown h ct hh
   exact .inr ⟨h0,c,base,h2,by rw [← h4]; exact hr⟩
 have g : Goes (fun b=>X b ∨ OwnB p.st.h ρs b) (fun b=>X b ∨ OwnB (upSt p.t p.h).h ρ' b) w w:=⟨fun b _ _ _ hn hb=>⟨fun h=>hn (hO b h),hb⟩,fun _ c _ fz h=>⟨c,fz,h,rfl⟩,fun _ _ h=>h⟩
 have low : ∀ k,someB (assoc p.h k) = true → (upSt p.t p.h).u (k + 3000) = true:=fun k hk=>by
  rw [upSt_u]
  unfold usedIn
  split
  ·rfl
  ·exact upH_some hk
 refine ⟨ρ',hI.size,fun s sv hs=>?_,fun h ct hh=>?_,fun h h' ct ct' b base base' hh hh' hr hr'=>?_,fun h ct b base hh hr=>?_,fun h ct hh=>?_,fun s sv hs=>?_,hI.xlt,hI.rel,hI.defers,fun h hh=>⟨?_,by rw [hρ']; exact if_pos (by omega)⟩⟩
 ·obtain ⟨c,h1,rfl⟩:=upT_get hs
  have:=hI.slots s c h1
  rw [← hup] at this
  have g' : Goes (fun b=>X b ∨ OwnB p.st.h (fun n=>ρ' (n + 3000)) b) (fun b=>X b ∨ OwnB (upSt p.t p.h).h ρ' b) w w:=by rw [hup]; exact g
  exact Den.ren (ρ:=ρ') (f:=fun h=>h + 3000) (this.mono g')
 ·obtain ⟨h0,c,rfl,h2,rfl,h4⟩:=hown h ct hh
  have:=(hI.hs h0 c h2).mono g (fun _ _ _=>rfl)
  rw [h4]
  have h5 : DenCt R (fun n=>ρ' (n + 3000)) (fun b=>X b ∨ OwnB (upSt p.t p.h).h ρ' b) w c (ρs h0):=by rw [hup]; exact this
  exact DenCt.ren (ρ:=ρ') (f:=fun h=>h + 3000) h5
 ·obtain ⟨h0,c,rfl,h2,_,h4⟩:=hown h ct hh
  obtain ⟨h0',c',rfl,h2',_,h4'⟩:=hown h' ct' hh'
  rw [hI.inj h0 h0' c c' b base base' h2 h2' (by rw [← h4]; exact hr) (by rw [← h4']; exact hr')]
 ·obtain ⟨h0,c,rfl,h2,_,h4⟩:=hown h ct hh
  exact hI.own h0 c b base h2 (by rw [← h4]; exact hr)
 ·obtain ⟨h0,c,rfl,h2,rfl,h4⟩:=hown h ct hh
  have hm:=hph (h0,c) (assoc_mem h2)
  refine ⟨low h0 (by rw [show assoc p.h h0 = some c from h2]; rfl),?_⟩
  cases c with
  | cells cs=>exact menL_ren (q:=(upSt p.t p.h).u) low cs hm
  | row E cs=>exact menL_ren (q:=(upSt p.t p.h).u) low cs hm
  | arr T xs=>rfl
  | map K V es=>rfl
  | obj k Q=>rfl
 ·obtain ⟨c,h1,rfl⟩:=upT_get hs
  exact men_ren low c (hpt (s,c) (assoc_mem h1))
 ·rw [upSt_u]
  unfold usedIn
  have:=(Nat.blt_eq (x:=h) (y:=1000)).symm ▸ hh
  rw [this]
theorem assoc_of_mem {α : Type} : ∀ {l : List (Nat × α)} {h : Nat} {x : α},(l.map (·.1)).Nodup → (h,x) ∈ l → assoc l h = some x
 | [],_,_,_,hm=>by cases hm
 | (k,y) :: l,h,x,hn,hm=>by
  simp only [assoc]
  rw [List.map_cons,List.nodup_cons] at hn
  rcases List.mem_cons.1 hm with e | e
  ·cases e; rw [beq_self]
  ·have : h ≠ k:=fun e'=>hn.1 (List.mem_map.2 ⟨(h,x),e,e'⟩)
   rw [beq_false this]
   exact assoc_of_mem hn.2 e
theorem deads_mem {j : Nat} : ∀ {n k : Nat},j < n → (900 + k + j,(Ct.cells [] : Ct A)) ∈ deads k n
 | n + 1,k,h=>by
  cases j with
  | zero=>exact List.mem_cons_self ..
  | succ j=>
   have:=deads_mem (j:=j) (n:=n) (k:=k + 1) (by omega)
   rw [show 900 + (k + 1) + j = 900 + k + (j + 1) by omega] at this
   exact List.mem_cons_of_mem _ this
def codeX : XE → Code
 | .norm=>.skip
 | .ret=>.ret
 | .exit i=>.exit i
theorem round_out {n : Nat} {R : Reg A} {ρs : Rho} {T : List (Nat × SV A)} {H0 H' : List (Nat × Ct A)} {nd : Nat} {W Wb W5 W6 : World} {st5 : St A} {ρ5 : Rho} {a5 : Act} {X1 : Nat → Prop} {θ1 : List (Nat × Nat)} {l : Nat}
  (hs : SInv R n X E0 ρs w0 (Pat.st ⟨T,H0 ++ deads 0 nd⟩) ρs a W) (hp0 : patOk ⟨T,H0 ++ deads 0 nd⟩ = true)
  (hX1 : ∀ b,X1 b ↔ X b ∨ ∃ j base,j < nd ∧ ρs (900 + j) = some (b,base))
  (hlw : w0.heap.size ≤ l) (hWb : ∀ b,b ≠ l → Wb.heap[b]? = W.heap[b]?) (hWbs : Wb.heap.size = W.heap.size) (hWbo : Wb.os = W.os ∧ Wb.tape = W.tape ∧ Wb.output = W.output)
  (hlo : ∃ o,W.heap[l]? = some o ∧ Odd o) (hnd : ∀ x,W.heap[l]? ≠ some (.deferred x))
  (h5 : SInv R n X1 (OwnB (assoc H0) ρs) ρs Wb st5 ρ5 a5 W5)
  (hW6 : ∀ b,b ≠ l → W6.heap[b]? = W5.heap[b]?) (hW6s : W6.heap.size = W5.heap.size) (hW6o : W6.os = W5.os ∧ W6.tape = W5.tape ∧ W6.output = W5.output) (hl6 : ∃ o,W5.heap[l]? = some o ∧ Odd o)
  (hnd100 : nd ≤ 100) (hp : patOk ⟨T,H' ++ deads 0 nd⟩ = true) (he : EntF R T st5 H' θ1) :
  ∃ ρn,SInv R n X E0 ρn w0 (Pat.st ⟨T,H' ++ deads 0 nd⟩) ρn a W6 ∧ (∀ j,j < nd → ρn (900 + j) = ρs (900 + j)) ∧ (∀ b,OwnB (assoc H') ρn b → OwnB (assoc H0) ρs b ∨ W.heap.size ≤ b) ∧
   (∀ (b : Nat) (c : Array Value) (E : TypeId) (fz : Nat × Nat),W.heap[b]? = some (Obj.cells c E fz) → ∃ (c' : Array Value) (fz' : Nat × Nat),W6.heap[b]? = some (Obj.cells c' E fz') ∧ c'.size = c.size) ∧
   ∀ b,b < W.heap.size → b ≠ l → ¬ OwnB (assoc H0) ρs b → W6.heap[b]? = W.heap[b]?:=by
 obtain ⟨hkeys,hTf,hH,hN⟩:=he
 have hp':=hp
 simp only [patOk,Bool.and_eq_true,List.all_eq_true] at hp hp0
 obtain ⟨⟨hpt,hph⟩,hpn⟩:=hp
 obtain ⟨⟨hpt0,hph0⟩,hpn0⟩:=hp0
 have hnd':=nodup_spec hpn
 have hnd0:=nodup_spec hpn0
 let f:=thA θ1
 let dd : Nat → Prop:=fun h=>900 ≤ h ∧ h < 900 + nd
 let ρn : Rho:=fun h=>if st5.u (f h) = true then ρ5 (f h) else none
 have hρ : ∀ h,(fun k=>st5.u (f k)) h = true → ρn h = (fun k=>ρ5 (f k)) h:=fun h hu=>if_pos hu
 have hρn : ∀ k,st5.u (f k) = false → ρn k = none:=fun k hk=>if_neg (by rw [hk]; exact Bool.false_ne_true)
 have fix : ∀ h,h < 1000 → f h = h → ρn h = ρs h:=fun h hlt hf=>by
  have q:=h5.keep h hlt
  rw [hρ h (by show st5.u (f h) = true; rw [hf]; exact q.1)]
  show ρ5 (f h) = _
  rw [hf,q.2]
 have fdead : ∀ h,dd h → f h = h:=fun h hh=>by
  have : assoc θ1 h = none:=by
   cases e : assoc θ1 h with
   | none=>rfl
   | some v=>
    have:=List.all_eq_true.1 hkeys _ (assoc_mem e)
    have : h < 900:=(Nat.blt_eq (x:=h) (y:=900)) ▸ this
    have:=hh.1
    omega
  show (assoc θ1 h).getD h = h
  rw [this]; rfl
 have hdead : ∀ h,dd h → assoc (H' ++ deads 0 nd) h = some (.cells []) ∧ assoc (H0 ++ deads 0 nd) h = some (.cells []) ∧ ρn h = ρs h:=fun h hh=>by
  have hm : (h,(Ct.cells [] : Ct A)) ∈ deads 0 nd:=by
   have:=deads_mem (A:=A) (j:=h - 900) (n:=nd) (k:=0) (by have:=hh.2; have:=hh.1; omega)
   rwa [show 900 + 0 + (h - 900) = h by have:=hh.1; omega] at this
  exact ⟨assoc_of_mem hnd' (List.mem_append_right _ hm),assoc_of_mem hnd0 (List.mem_append_right _ hm),fix h (by have:=hh.2; omega) (fdead h hh)⟩
 have hsplit : ∀ {G : List (Nat × Ct A)} {h ct},assoc (G ++ deads 0 nd) h = some ct → assoc G h = some ct ∨ (dd h ∧ ct = .cells []):=fun {G h ct} hh=>by
  rw [assoc_app] at hh
  cases hg : assoc G h with
  | some v=>rw [hg] at hh; exact .inl hh
  | none=>
   rw [hg] at hh
   have hh : assoc (deads 0 nd) h = some ct:=hh
   rw [deads_get] at hh
   split at hh
   ·rename_i hc; cases hh; exact .inr ⟨⟨by omega,by omega⟩,rfl⟩
   ·cases hh
 have live : ∀ h ct,assoc H' h = some ct → (∃ c0,st5.h (f h) = some c0 ∧ st5.u (f h) = true) ∨ ρn h = none:=fun h ct hc=>by
  have he:=patH_get hH h ct (assoc_mem hc)
  unfold ctEq at he
  split at he
  ·rename_i cs hs; exact .inl ⟨_,hs,(h5.used _ _ hs).1⟩
  ·rename_i F0 cs hs; exact .inl ⟨_,hs,(h5.used _ _ hs).1⟩
  ·rename_i T xs hs; exact .inl ⟨_,hs,(h5.used _ _ hs).1⟩
  ·rename_i K V es hs; exact .inl ⟨_,hs,(h5.used _ _ hs).1⟩
  ·rename_i k Q hs; exact .inl ⟨_,hs,(h5.used _ _ hs).1⟩
  ·exact .inr (hρn h he.1)
 have ownN : ∀ b,OwnB (assoc H') ρn b → OwnB st5.h ρ5 b:=fun b ⟨h,ct,base,hh,hr⟩=>by
  rcases live h ct hh with ⟨c0,h1,h2⟩ | h1
  ·exact ⟨_,_,base,h1,by rw [← hr]; exact (hρ h h2).symm⟩
  ·rw [h1] at hr; cases hr
 have own5 : ∀ b,OwnB st5.h ρ5 b → (OwnB (assoc H0) ρs b ∨ W.heap.size ≤ b) ∧ ¬ X1 b:=fun b ⟨h,ct,base,hh,hr⟩=>by
  have:=h5.own h ct b base hh hr
  rw [hWbs] at this; exact this
 have sub0 : ∀ b,OwnB (assoc H0) ρs b → OwnB (Pat.st ⟨T,H0 ++ deads 0 nd⟩).h ρs b:=fun b ⟨h,ct,base,hh,hr⟩=>⟨h,ct,base,by show assoc (H0 ++ deads 0 nd) h = _; rw [assoc_app,hh],hr⟩
 have hE0 : ∀ b,OwnB (assoc H0) ρs b → (E0 b ∨ w0.heap.size ≤ b) ∧ ¬ X b:=fun b hb=>by
  obtain ⟨h,ct,base,hh,hr⟩:=sub0 b hb
  exact hs.own h ct b base hh hr
 have noOdd : ∀ b o,W.heap[b]? = some o → Odd o → ¬ OwnB (assoc H0) ρs b:=fun b o ho hod hb=>by
  obtain ⟨h,ct,base,hh,hr⟩:=sub0 b hb
  have:=hs.hs h ct hh
  rw [hr] at this
  exact denCt_odd this ho hod
 have lltW : l < W.heap.size:=by obtain ⟨o,ho,_⟩:=hlo; exact lt_of_heap ho
 have same : ∀ b,b < W.heap.size → b ≠ l → ¬ OwnB (assoc H0) ρs b → W6.heap[b]? = W.heap[b]?:=fun b hb hne hno=>by
  rw [hW6 b hne,h5.rel.block b (by rw [hWbs]; exact hb) hno,hWb b hne]
 have ltO : ∀ b c E fz,W.heap[b]? = some (Obj.cells c E fz) → b < W.heap.size ∧ b ≠ l:=fun b c E fz hb=>⟨lt_of_heap hb,fun e=>by
  subst e
  obtain ⟨o,ho,hod⟩:=hlo
  rw [hb] at ho; cases ho
  exact hod.1 _ _ _ rfl⟩
 have shapeW : ∀ (b : Nat) (c : Array Value) (E : TypeId) (fz : Nat × Nat),W.heap[b]? = some (Obj.cells c E fz) → ∃ (c' : Array Value) (fz' : Nat × Nat),W6.heap[b]? = some (Obj.cells c' E fz') ∧ c'.size = c.size:=fun b c E fz hb=>by
  obtain ⟨_,hne⟩:=ltO b c E fz hb
  obtain ⟨c',fz',h1,h2⟩:=h5.rel.shape b c E fz (by rw [hWb b hne]; exact hb)
  exact ⟨c',fz',by rw [hW6 b hne]; exact h1,h2⟩
 have newO : ∀ b,OwnB (Pat.st ⟨T,H' ++ deads 0 nd⟩).h ρn b → OwnB (Pat.st ⟨T,H0 ++ deads 0 nd⟩).h ρs b ∨ W.heap.size ≤ b:=fun b ⟨h,ct,base,hh,hr⟩=>by
  rcases hsplit (G:=H') (show assoc (H' ++ deads 0 nd) h = some ct from hh) with h1 | ⟨hd,rfl⟩
  ·rcases (own5 b (ownN b ⟨h,ct,base,h1,hr⟩)).1 with e | e
   ·exact .inl (sub0 b e)
   ·exact .inr e
  ·obtain ⟨_,q2,q3⟩:=hdead h hd
   exact .inl ⟨h,_,base,q2,by rw [← q3]; exact hr⟩
 have gT : Goes0 (fun b=>X b ∨ OwnB (Pat.st ⟨T,H0 ++ deads 0 nd⟩).h ρs b) (fun b=>X b ∨ OwnB (Pat.st ⟨T,H' ++ deads 0 nd⟩).h ρn b) W W6:=by
  refine ⟨fun b c E fz hn hb=>⟨fun h=>?_,?_⟩,shapeW⟩
  ·rcases h with h | h
   ·exact hn (.inl h)
   ·rcases newO b h with e | e
    ·exact hn (.inr e)
    ·have:=(ltO b c E fz hb).1; omega
  ·rw [same b (ltO b c E fz hb).1 (ltO b c E fz hb).2 fun e=>hn (.inr (sub0 b e))]; exact hb
 have inX1 : ∀ h b base,dd h → ρs h = some (b,base) → X1 b:=fun h b base hd hr=>(hX1 b).2 (.inr ⟨h - 900,base,by have:=hd.1; have:=hd.2; omega,by rw [show 900 + (h - 900) = h by have:=hd.1; omega]; exact hr⟩)
 have g5 : Goes (fun b=>X1 b ∨ OwnB st5.h ρ5 b) (fun b=>X b ∨ OwnB (Pat.st ⟨T,H' ++ deads 0 nd⟩).h ρn b) W5 W5:=by
  refine ⟨fun b c E fz hn hb=>⟨fun h=>?_,hb⟩,fun _ c _ fz h=>⟨c,fz,h,rfl⟩,fun _ _ h=>h⟩
  rcases h with h | ⟨h,ct,base,hh,hr⟩
  ·exact hn (.inl ((hX1 b).2 (.inl h)))
  ·rcases hsplit (G:=H') (show assoc (H' ++ deads 0 nd) h = some ct from hh) with h1 | ⟨hd,rfl⟩
   ·exact hn (.inr (ownN b ⟨h,ct,base,h1,hr⟩))
   ·obtain ⟨_,q2,q3⟩:=hdead h hd
    exact hn (.inl (inX1 h b base hd (by rw [← q3]; exact hr)))
 have ne5 : ∀ b c E fz,W5.heap[b]? = some (Obj.cells c E fz) → b ≠ l:=fun b c E fz hb e=>by
  subst e; obtain ⟨o,ho,hod⟩:=hl6; rw [hb] at ho; cases ho; exact hod.1 _ _ _ rfl
 have g56 : ∀ O : Nat → Prop,Goes0 O O W5 W6:=fun O=>
  ⟨fun b c E fz hn hb=>⟨hn,by rw [hW6 b (ne5 b c E fz hb)]; exact hb⟩,fun b c E fz hb=>⟨c,fz,by rw [hW6 b (ne5 b c E fz hb)]; exact hb,rfl⟩⟩
 have low : ∀ k,someB (assoc (H' ++ deads 0 nd) k) = true → (Pat.st ⟨T,H' ++ deads 0 nd⟩).u k = true:=fun k hk=>by
  show usedIn (H' ++ deads 0 nd) k = true
  unfold usedIn
  split
  ·rfl
  ·exact hk
 refine ⟨ρn,⟨hs.size,fun s sv hsl=>?_,fun h ct hh=>?_,fun h h' ct ct' b base base' hh hh' hr hr'=>?_,fun h ct b base hh hr=>?_,fun h ct hh=>?_,fun s sv hsl=>?_,hs.xlt,?_,?_,fun h hh=>⟨?_,rfl⟩⟩,fun j hj=>(hdead _ ⟨by omega,by omega⟩).2.2,fun b hb=>(own5 b (ownN b hb)).1,shapeW,same⟩
 ·have h1:=hs.slots s sv hsl
  have hfix:=(List.all_eq_true.1 hTf) (s,sv) (assoc_mem hsl)
  refine ((h1.mono0 gT).rho (f:=fun k=>Nat.beq (f k) k && Nat.blt k 1000) hfix fun k hk=>?_)
  rw [Bool.and_eq_true] at hk
  exact fix k ((Nat.blt_eq (x:=k) (y:=1000)) ▸ hk.2) (beq_true hk.1)
 ·rcases hsplit (G:=H') (show assoc (H' ++ deads 0 nd) h = some ct from hh) with h1 | ⟨hd,rfl⟩
  ·rcases ct_den h5 hρ hρn g5 (patH_get hH h ct (assoc_mem h1)) with ⟨c0,q1,q2,q3⟩ | ⟨_,q1,q2⟩
   ·rw [hρ h q2]
    refine q3.mono0 (g56 _) fun b base e=>?_
    rw [hW6 b ?_]
    rintro rfl
    have q0:=h5.hs (f h) c0 q1
    have e : ρ5 (f h) = some (b,base):=e
    rw [e] at q0
    obtain ⟨o,ho,hod⟩:=hl6
    exact denCt_odd q0 ho hod
   ·rw [hρn h q1]; exact q2
  ·obtain ⟨_,q2,q3⟩:=hdead h hd
   have q0:=hs.hs h _ q2
   rw [q3]
   refine (DenCt.rho (ρ':=ρn) (f:=fun _=>false) (q0.mono0 gT fun b base e=>?_) rfl (fun _ h=>by cases h))
   have hlt : b < W.heap.size:=by rw [e] at q0; exact q0.lt
   refine same b hlt (fun e'=>?_) fun hb=>?_
   ·subst e'
    rw [e] at q0
    obtain ⟨o,ho,hod⟩:=hlo
    exact denCt_odd q0 ho hod
   ·obtain ⟨h2,ct2,base2,e1,e2⟩:=hb
    have e3 : (Pat.st ⟨T,H0 ++ deads 0 nd⟩).h h2 = some ct2:=by show assoc (H0 ++ deads 0 nd) h2 = _; rw [assoc_app,e1]
    have e4:=hs.inj h2 h ct2 _ b base2 base e3 q2 e2 e
    subst e4
    have hm:=deads_mem (A:=A) (j:=h2 - 900) (n:=nd) (k:=0) (by have:=hd.2; have:=hd.1; omega)
    rw [show 900 + 0 + (h2 - 900) = h2 by have:=hd.1; omega] at hm
    rw [List.map_append,List.nodup_append] at hnd0
    exact hnd0.2.2 h2 (List.mem_map.2 ⟨_,assoc_mem e1,rfl⟩) h2 (List.mem_map.2 ⟨_,hm,rfl⟩) rfl
 ·rcases hsplit (G:=H') (show assoc (H' ++ deads 0 nd) h = some ct from hh) with h1 | ⟨hd,rfl⟩
  ·rcases hsplit (G:=H') (show assoc (H' ++ deads 0 nd) h' = some ct' from hh') with h2 | ⟨hd',rfl⟩
   ·rcases live h ct h1 with ⟨c1,q1,q2⟩ | q1
    ·rcases live h' ct' h2 with ⟨c2,q3,q4⟩ | q3
     ·have e:=h5.inj (f h) (f h') _ _ b base base' q1 q3 (by rw [← hr]; exact (hρ h q2).symm) (by rw [← hr']; exact (hρ h' q4).symm)
      have:=nodup_inj (nodup_spec hN) (h,ct) (assoc_mem h1) (h',ct') (assoc_mem h2) e
      exact congrArg Prod.fst this
     ·rw [q3] at hr'; cases hr'
    ·rw [q1] at hr; cases hr
   ·exact absurd (inX1 h' b base' hd' (by rw [← (hdead h' hd').2.2]; exact hr')) (own5 b (ownN b ⟨h,ct,base,h1,hr⟩)).2
  ·rcases hsplit (G:=H') (show assoc (H' ++ deads 0 nd) h' = some ct' from hh') with h2 | ⟨hd',rfl⟩
   ·exact absurd (inX1 h b base hd (by rw [← (hdead h hd).2.2]; exact hr)) (own5 b (ownN b ⟨h',ct',base',h2,hr'⟩)).2
   ·exact hs.inj h h' _ _ b base base' (hdead h hd).2.1 (hdead h' hd').2.1 (by rw [← (hdead h hd).2.2]; exact hr) (by rw [← (hdead h' hd').2.2]; exact hr')
 ·rcases hsplit (G:=H') (show assoc (H' ++ deads 0 nd) h = some ct from hh) with h1 | ⟨hd,rfl⟩
  ·obtain ⟨q1,q2⟩:=own5 b (ownN b ⟨h,ct,base,h1,hr⟩)
   refine ⟨?_,fun hx=>q2 ((hX1 b).2 (.inl hx))⟩
   rcases q1 with e | e
   ·exact (hE0 b e).1
   ·exact .inr (Nat.le_trans hs.rel.size e)
  ·exact hs.own h _ b base (hdead h hd).2.1 (by rw [← (hdead h hd).2.2]; exact hr)
 ·exact ⟨low h (by rw [show assoc (H' ++ deads 0 nd) h = some ct from hh]; rfl),menCt_mono low ct (hph (h,ct) (assoc_mem hh))⟩
 ·exact men_mono low sv (hpt (s,sv) (assoc_mem hsl))
 ·refine hs.rel.trans' (B:=fun b=>OwnB (assoc H0) ρs b ∨ b = l) ⟨?_,?_,?_,?_,fun b hb hn=>same b hb (fun e=>hn (.inr e)) fun e=>hn (.inl e),shapeW⟩ fun b hb=>?_
  ·rw [hW6o.1,h5.rel.os,hWbo.1]
  ·rw [hW6o.2.1,h5.rel.tape,hWbo.2.1]
  ·rw [hW6o.2.2,h5.rel.output,hWbo.2.2]
  ·rw [hW6s,← hWbs]; exact h5.rel.size
  ·rcases hb with hb | rfl
   ·exact (hE0 b hb).1
   ·exact .inr hlw
 ·refine hs.defers.mono fun b x hb=>?_
  have hod : Odd (Obj.deferred x):=⟨fun _ _ _ e=>(by cases e),fun _ _ e=>(by cases e)⟩
  rw [same b (lt_of_heap hb) (fun e=>by subst e; exact hnd x hb) (noOdd b _ hb hod)]; exact hb
 ·show usedIn (H' ++ deads 0 nd) h = true
  unfold usedIn
  have:=(Nat.blt_eq (x:=h) (y:=1000)).symm ▸ hh
  rw [this]
theorem wp_rangeX {m : Nat} (hY : YOk E E0 ρ0 w0) (hI : SInv E.reg E.n X E0 ρ0 w0 st ρ a w) {Q : XE → St A → Prop} {g : Operand} {ps : List Nat} {assign body : Code} {f : FuncId} {cap : List (SV A)} (hg : st.ev g = some (.fn (.func f) [] cap))
  {own : List (Ct A)} {capS : List (SV A)} {θ : List Nat} {outs : List (List (SV A))} (hit : SeqIt P E.reg f capS own outs) {α : Type} {T : List (Nat × SV A)} {H : α → List (Nat × Ct A)} {Pr : Nat → α → Prop}
  (hk : Nat.beq E.yn 0 = true ∧ cap = renL (thr θ) capS ∧ ownAt st (thr θ) θ own ∧ rangeOk own capS θ = true)
  (hpat : ∀ i a,Pr i a → patOk ⟨T,H a ++ deads 0 θ.length⟩ = true)
  (hent : ∃ a θ0,Pr 0 a ∧ Ent0 E.reg (deadSt st θ) ⟨T,H a ++ deads 0 θ.length⟩ (deadMap 0 θ ++ θ0))
  (hps : ∀ i a o,Pr i a → outs[i]? = some o → okPs E.n ps o)
  {RB : Nat → St A → Prop}
  (hA : ∀ i al o,Pr i al → outs[i]? = some o → ∀ (X1 E1 : Nat → Prop) (ρ1 : Rho) (w1 : World) (ρ2 : Rho) (a2 : Act) (w2 : World) (l m' : Nat),YOk { E with rf:=false } E1 ρ1 w1 → SInv E.reg E.n X1 E1 ρ1 w1 (roundSt2 ps o T (H al)) ρ2 a2 w2 →
   assign.wpIn (FR (some l)) m' P (QX E.reg E.n X1 E1 ρ1 w1 fun e st1=>e = .norm ∧ RB i st1) a2 w2)
  (hB : ∀ i st1,RB i st1 → ∀ (X1 E1 : Nat → Prop) (ρ1 : Rho) (w1 : World) (ρ2 : Rho) (a2 : Act) (w2 : World) (l m' : Nat),YOk { E with rf:=false } E1 ρ1 w1 → SInv E.reg E.n X1 E1 ρ1 w1 st1 ρ2 a2 w2 →
   body.wpIn (FR (some l)) m' P (QX E.reg E.n X1 E1 ρ1 w1 (RoundE E.reg T H Pr θ.length i Q)) a2 w2)
  (hdone : ∀ al,Pr outs.length al → Q .norm (upSt T (H al ++ deads 0 θ.length))) :
  (Code.rangeFunc g ⟨ps⟩ assign body).wpIn (FR none) m P (QX E.reg E.n X E0 ρ0 w0 Q) a w:=by
 refine wpIn_rangeFunc fun fn _=>?_
 obtain ⟨rec,hrec⟩ : ∃ rec : LoopState → Option Code → Loop,rec = fun s pe=>{ state:=s,pending:=pe,fn,tmps:=a.tmps,params:=⟨ps⟩,assign,body,defers:=w.heap.size }:=⟨_,rfl⟩
 obtain ⟨W1,hW1⟩ : ∃ W1,(w.alloc (.deferred (some []))).alloc (.loop (rec .ready none)) = W1:=⟨_,rfl⟩
 obtain ⟨l,hl⟩ : ∃ l,l = w.heap.size + 1:=⟨_,rfl⟩
 have hL1 : W1.heap[l]? = some (.loop (rec .ready none)):=by
  rw [← hW1,hl]; have:=World.alloc_heap_new (w.alloc (.deferred (some []))) (.loop (rec .ready none)); rwa [World.size_alloc] at this
 have hsz1 : W1.heap.size = w.heap.size + 2:=by rw [← hW1]; simp
 have old1 : ∀ (b : Nat) (o : Obj),w.heap[b]? = some o → W1.heap[b]? = some o:=fun b o hb=>by
  have hlt:=lt_of_heap hb
  rw [← hW1,heap_alloc_old (by simp; omega),heap_alloc_old hlt]; exact hb
 have hD1 : W1.heap[w.heap.size]? = some (.deferred (some [])):=by
  rw [← hW1,heap_alloc_old (by simp)]; exact World.alloc_heap_new w _
 have hrel1 : WRel E0 w0 W1:=by rw [← hW1]; exact (hI.rel.alloc _).alloc _
 have hI1 : SInv E.reg E.n X E0 ρ0 w0 st ρ { a with defers:=[{ target:=.collected w.heap.size,args:=#[] }] ++ a.defers } W1:=by
  refine hI.world rfl ?_ hrel1 fun b o hb _=>old1 b o hb
  refine .cons w.heap.size a.defers W1 hI.rel.size hD1 (fun d hd e=>?_) (hI.defers.mono fun b x hb=>old1 b _ hb)
  obtain ⟨b,rfl,hb⟩:=hI.defers.lt d hd
  injection e with e
  omega
 obtain ⟨a1,ha1⟩ : ∃ a1 : Act,{ a with defers:=[{ target:=Target.collected w.heap.size,args:=#[] }] ++ a.defers } = a1:=⟨_,rfl⟩
 rw [ha1] at hI1
 have ha1t : a1.tmps = a.tmps:=by rw [← ha1]
 have hev1 : a1.eval g = a.eval g:=by rw [← ha1]; cases g <;> rfl
 obtain ⟨u2,hev,hDc⟩ : ∃ u2,a.eval g = .func (.func f) #[] u2 ∧ DenL E.reg ρ (fun b=>X b ∨ OwnB st.h ρ b) W1 cap u2.toList:=by
  have h1:=(hI1.ev hg).1
  rw [hev1] at h1
  generalize a.eval g = v at h1
  cases h1 with
  | fn _ _ _ us vs l1 d1 l2 d2=>
   have : us = #[]:=Array.eq_empty_of_size_eq_zero (by simpa using l1.symm)
   subst this
   exact ⟨vs,rfl,by simpa using l2,fun j s v hs hv=>d2 j s v hs (by rwa [Array.getElem?_toList] at hv)⟩
 obtain ⟨hyn,hcap,hownat,hrok⟩:=hk
 have hyn:=beq_true hyn
 simp only [rangeOk,Bool.and_eq_true] at hrok
 obtain ⟨⟨⟨⟨hθn,hcm⟩,hom⟩,honm⟩,h100⟩:=hrok
 have hθn:=nodup_spec hθn
 have h100:=ble_true h100
 obtain ⟨hθl,hθc⟩:=ownAt_spec hownat
 have hfθ : ∀ (j k : Nat),θ[j]? = some k → thr θ j = k:=fun j k h=>thr_get h
 have hlive : ∀ h ∈ θ,∃ ct,st.h h = some ct ∧ ct.isMap = false:=fun h hm=>by
  obtain ⟨j,hj⟩:=List.getElem?_of_mem hm
  have hlt : j < own.length:=by have:=(List.getElem?_eq_some_iff.1 hj).1; omega
  have hc:=List.getElem?_eq_getElem hlt
  refine ⟨_,hθc j h _ hj hc,?_⟩
  rw [renCt_isMap]
  simpa using List.all_eq_true.1 honm _ (List.mem_of_getElem? hc)
 let C : Nat → Prop:=fun b=>∃ h ct base,h ∉ θ ∧ st.h h = some ct ∧ ρ h = some (b,base)
 let ρq : Rho:=fun k=>ρ (thr θ k)
 let Bk : Nat → Prop:=Blk (own.map some) ρq
 have hblk : ∀ b,Bk b ↔ ∃ h ct base,h ∈ θ ∧ st.h h = some ct ∧ ρ h = some (b,base):=fun b=>by
  constructor
  ·rintro ⟨j,ct,base,hj,hr⟩
   have hlt : j < own.length:=by have:=(List.getElem?_eq_some_iff.1 hj).1; simpa using this
   have hk : θ[j]? = some θ[j]:=List.getElem?_eq_getElem (by omega)
   refine ⟨θ[j],_,base,List.getElem_mem _,hθc j _ _ hk (List.getElem?_eq_getElem hlt),?_⟩
   have hr1 : ρ (thr θ j) = some (b,base):=hr
   rwa [hfθ j _ hk] at hr1
  ·rintro ⟨h,ct,base,hmem,hh,hr⟩
   obtain ⟨j,hj⟩:=List.getElem?_of_mem hmem
   have hlt : j < own.length:=by have:=(List.getElem?_eq_some_iff.1 hj).1; omega
   exact ⟨j,own[j],base,by simp [hlt],by show ρ (thr θ j) = _; rw [hfθ j h hj]; exact hr⟩
 have hlt1 : ∀ h ct b base,st.h h = some ct → ρ h = some (b,base) → b < W1.heap.size:=fun h ct b base hh hr=>by
  have:=hI1.hs h ct hh
  rw [hr] at this
  exact this.lt
 have hX1 : ∀ b,(X b ∨ C b) → b < W1.heap.size:=fun b hb=>by
  rcases hb with hb | ⟨h,ct,base,_,hh,hr⟩
  ·exact Nat.lt_of_lt_of_le (hI1.xlt b hb).1 hI1.rel.size
  ·exact hlt1 h ct b base hh hr
 have hX2 : ∀ b,(X b ∨ C b) → ¬ Bk b:=fun b hb hB=>by
  obtain ⟨h',ct',base',hm',hh',hr'⟩:=(hblk b).1 hB
  rcases hb with hb | ⟨h,ct,base,hn1,hh,hr⟩
  ·exact (hI1.own h' ct' b base' hh' hr').2 hb
  ·exact hn1 (hI1.inj h h' ct ct' b base base' hh hh' hr hr' ▸ hm')
 have hO : ∀ b,((X b ∨ C b) ∨ Bk b) ↔ (X b ∨ OwnB st.h ρ b):=fun b=>by
  constructor
  ·rintro ((hb | ⟨h,ct,base,_,hh,hr⟩) | hb)
   ·exact .inl hb
   ·exact .inr ⟨h,ct,base,hh,hr⟩
   ·obtain ⟨h,ct,base,_,hh,hr⟩:=(hblk b).1 hb
    exact .inr ⟨h,ct,base,hh,hr⟩
  ·rintro (hb | ⟨h,ct,base,hh,hr⟩)
   ·exact .inl (.inl hb)
   ·by_cases hm : h ∈ θ
    ·exact .inr ((hblk b).2 ⟨h,ct,base,hm,hh,hr⟩)
    ·exact .inl (.inr ⟨h,ct,base,hm,hh,hr⟩)
 have gO : Goes (fun b=>X b ∨ OwnB st.h ρ b) (fun b=>(X b ∨ C b) ∨ Bk b) W1 W1:=⟨fun b _ _ _ hn hb=>⟨fun h=>hn ((hO b).1 h),hb⟩,fun _ c _ fz h=>⟨c,fz,h,rfl⟩,fun _ _ h=>h⟩
 have hargs : DenL E.reg ρq (fun b=>(X b ∨ C b) ∨ Bk b) W1 capS u2.toList:=by
  rw [hcap,renL_eq] at hDc
  refine ⟨by simpa using hDc.1,fun j s v hs hv=>?_⟩
  have:=hDc.2 j (ren (thr θ) s) v (by rw [List.getElem?_map,hs]; rfl) hv
  exact (this.mono gO).unren s rfl
 have hown' : DenHs E.reg ρq (fun b=>(X b ∨ C b) ∨ Bk b) W1 (own.map some):=by
  refine ⟨fun j ct hj=>?_,fun j j' ct ct' b base base' hj hj' hr hr'=>?_⟩
  ·rw [List.getElem?_map] at hj
   cases hc : own[j]? with
   | none=>rw [hc] at hj; cases hj
   | some c0=>
    rw [hc] at hj; cases hj
    have hl:=(List.getElem?_eq_some_iff.1 hc).1
    have hk : θ[j]? = some θ[j]:=List.getElem?_eq_getElem (by omega)
    have:=((hI1.hs _ _ (hθc j _ _ hk hc)).mono gO (fun _ _ _=>rfl)).unren
    rw [← hfθ j _ hk] at this
    exact this
  ·have l1 : j < own.length:=by have:=(List.getElem?_eq_some_iff.1 hj).1; simpa using this
   have l2 : j' < own.length:=by have:=(List.getElem?_eq_some_iff.1 hj').1; simpa using this
   have k1 : θ[j]? = some θ[j]:=List.getElem?_eq_getElem (by omega)
   have k2 : θ[j']? = some θ[j']:=List.getElem?_eq_getElem (by omega)
   have hr1 : ρ (thr θ j) = some (b,base):=hr
   have hr2 : ρ (thr θ j') = some (b,base'):=hr'
   rw [hfθ j _ k1] at hr1
   rw [hfθ j' _ k2] at hr2
   have:=hI1.inj _ _ _ _ b base base' (hθc j _ _ k1 (List.getElem?_eq_getElem l1)) (hθc j' _ _ k2 (List.getElem?_eq_getElem l2)) hr1 hr2
   exact (List.getElem_inj hθn).1 this
 obtain ⟨hent1,houts,hit⟩:=hit
 obtain ⟨xs,hxl,hxd,hrun⟩:=hit (fun b=>X b ∨ C b) ρq W1 u2 hX1 hX2 hargs hown'
 obtain ⟨hId,hOd⟩:=hI1.dead hlive
 obtain ⟨a0,θ0,hp0,he0⟩:=hent
 obtain ⟨ρs0,hs0,hρ0,hos0⟩:=ent_base hId (hpat 0 a0 hp0) he0
 let DA : Rho → Prop:=fun ρs=>∀ (j h : Nat),θ[j]? = some h → ρs (900 + j) = ρ h
 have hDA0 : DA ρs0:=fun j h hj=>by
  have e : thA (deadMap 0 θ ++ θ0) (900 + j) = h:=by
   unfold thA
   rw [assoc_app]
   have:=deadMap_get (θ0:=θ0) (k:=0) hj
   rw [show 900 + 0 + j = 900 + j by omega] at this
   rw [this]; rfl
  have hu : (deadSt st θ).u (thA (deadMap 0 θ ++ θ0) (900 + j)) = true:=by
   rw [e]
   obtain ⟨ct,h1,_⟩:=hlive h (List.mem_of_getElem? hj)
   exact (hI1.used h ct h1).1
  rw [hρ0 _ hu,e]
 have hBk : ∀ {ρs : Rho} {G : List (Nat × Ct A)},patOk ⟨T,G ++ deads 0 θ.length⟩ = true → DA ρs → ∀ b,Bk b → ∃ h base,(Pat.st ⟨T,G ++ deads 0 θ.length⟩ : St A).h h = some (.cells []) ∧ ρs h = some (b,base):=fun {ρs G} hp hd b hb=>by
  obtain ⟨h,ct,base,hm,hh,hr⟩:=(hblk b).1 hb
  obtain ⟨j,hj⟩:=List.getElem?_of_mem hm
  have hjl:=(List.getElem?_eq_some_iff.1 hj).1
  refine ⟨900 + j,base,?_,by rw [hd j h hj]; exact hr⟩
  simp only [patOk,Bool.and_eq_true] at hp
  have hm:=deads_mem (A:=A) (j:=j) (n:=θ.length) (k:=0) hjl
  rw [show 900 + 0 + j = 900 + j by omega] at hm
  exact assoc_of_mem (nodup_spec hp.2) (List.mem_append_right _ hm)
 have hdB : ∀ {ρs : Rho},DA ρs → ∀ b,(∃ j base,j < θ.length ∧ ρs (900 + j) = some (b,base)) → Bk b:=fun {ρs} hd b ⟨j,base,hj,hr⟩=>by
  have hk : θ[j]? = some θ[j]:=List.getElem?_eq_getElem hj
  obtain ⟨ct,h1,_⟩:=hlive _ (List.mem_of_getElem? hk)
  exact (hblk b).2 ⟨_,ct,base,List.mem_of_getElem? hk,h1,by rw [← hd j _ hk]; exact hr⟩
 have nbl : ¬ Bk l:=fun hb=>by
  obtain ⟨h,ct,base,_,hh,hr⟩:=(hblk l).1 hb
  have:=hI1.hs h ct hh
  rw [hr] at this
  exact denCt_odd this hL1 (odd_loop _)
 have hlw : w0.heap.size ≤ l:=by have:=hI.rel.size; omega
 let Fr : World → Prop:=fun W=>(∀ (b : Nat) (c : Array Value) (E : TypeId) (fz : Nat × Nat),¬ (X b ∨ OwnB st.h ρ b) → W1.heap[b]? = some (Obj.cells c E fz) → W.heap[b]? = some (Obj.cells c E fz)) ∧ W1.heap.size ≤ W.heap.size ∧
  ∀ (b : Nat) (c : Array Value) (E : TypeId) (fz : Nat × Nat),W1.heap[b]? = some (Obj.cells c E fz) → ∃ (c' : Array Value) (fz' : Nat × Nat),W.heap[b]? = some (Obj.cells c' E fz') ∧ c'.size = c.size
 let OW : List (Nat × Ct A) → Rho → Prop:=fun G ρs=>∀ b,OwnB (assoc G) ρs b → C b ∨ W1.heap.size ≤ b
 let J : Nat → World → Prop:=fun i W=>∃ al ρs,Pr i al ∧ SInv E.reg E.n X E0 ρs w0 (Pat.st ⟨T,H al ++ deads 0 θ.length⟩) ρs a1 W ∧ DA ρs ∧ W.heap[l]? = some (.loop (rec .ready none)) ∧ Fr W ∧ OW (H al) ρs
 let Jx : Nat → World → Prop:=fun _ W=>∃ xe G ρs,xe ≠ .norm ∧ Q xe (upSt T (G ++ deads 0 θ.length)) ∧ patOk ⟨T,G ++ deads 0 θ.length⟩ = true ∧ SInv E.reg E.n X E0 ρs w0 (Pat.st ⟨T,G ++ deads 0 θ.length⟩) ρs a1 W ∧ DA ρs ∧ W.heap[l]? = some (.loop (rec .done (some (codeX xe))))
 have hJ0 : J 0 W1:=by
  refine ⟨a0,ρs0,hp0,hs0,hDA0,hL1,⟨fun b c E fz _ hb=>hb,Nat.le_refl _,fun b c E fz hb=>⟨c,fz,hb,rfl⟩⟩,fun b hb=>?_⟩
  obtain ⟨h,ct,base,hh,hr⟩:=hb
  have h1 : (Pat.st ⟨T,H a0 ++ deads 0 θ.length⟩ : St A).h h = some ct:=by show assoc (H a0 ++ deads 0 θ.length) h = _; rw [assoc_app,hh]
  obtain ⟨h2,ct2,base2,q1,q2⟩:=(hOd b).1 (hos0 b ⟨h,ct,base,h1,hr⟩)
  by_cases hm : h2 ∈ θ
  ·
   exfalso
   obtain ⟨h3,base3,q3,q4⟩:=hBk (hpat 0 a0 hp0) hDA0 b ((hblk b).2 ⟨h2,ct2,base2,hm,q1,q2⟩)
   have e:=hs0.inj h h3 ct _ b base base3 h1 q3 hr q4
   obtain ⟨j,hj⟩:=List.getElem?_of_mem hm
   have hp:=hpat 0 a0 hp0
   simp only [patOk,Bool.and_eq_true] at hp
   have hnd:=nodup_spec hp.2
   have hjl:=(List.getElem?_eq_some_iff.1 hj).1
   have q5 : ρs0 (900 + j) = some (b,base2):=by rw [hDA0 j h2 hj]; exact q2
   have hm2:=deads_mem (A:=A) (j:=j) (n:=θ.length) (k:=0) hjl
   rw [show 900 + 0 + j = 900 + j by omega] at hm2
   have q6 : (Pat.st ⟨T,H a0 ++ deads 0 θ.length⟩ : St A).h (900 + j) = some (.cells []):=assoc_of_mem hnd (List.mem_append_right _ hm2)
   have e2:=hs0.inj h (900 + j) ct _ b base base2 h1 q6 hr q5
   subst e2
   rw [List.map_append,List.nodup_append] at hnd
   exact hnd.2.2 _ (List.mem_map.2 ⟨_,assoc_mem hh,rfl⟩) _ (List.mem_map.2 ⟨_,hm2,rfl⟩) rfl
  ·exact .inl ⟨h2,ct2,base2,hm,q1,q2⟩
 have frS : ∀ {W W' : World},Fr W → WRel Bk W W' → Fr W':=fun {W W'} hF hr=>⟨fun b c E fz hn hb=>by
  have h1:=hF.1 b c E fz hn hb
  rw [hr.block b (lt_of_heap h1) fun h=>hn ((hO b).1 (.inr h))]; exact h1,Nat.le_trans hF.2.1 hr.size,fun b c E fz hb=>by
  obtain ⟨c1,f1,h1,h2⟩:=hF.2.2 b c E fz hb
  obtain ⟨c2,f2,h3,h4⟩:=hr.shape b c1 E f1 h1
  exact ⟨c2,f2,h3,h4.trans h2⟩⟩
 have hJs : ∀ i W W',J i W → IRel Bk W W' → J i W':=fun i W W' ⟨al,ρs,h1,h2,h3,h4,h5,h6⟩ hr=>
  ⟨al,ρs,h1,h2.irel hr (hBk (hpat i al h1) h3),h3,(hr.1.block l (lt_of_heap h4) nbl).trans h4,frS h5 hr.1,h6⟩
 have hJxs : ∀ i W W',Jx i W → IRel Bk W W' → Jx i W':=fun i W W' ⟨xe,G,ρs,h0,h1,h2,h3,h4,h5⟩ hr=>
  ⟨xe,G,ρs,h0,h1,h2,h3.irel hr (hBk h2 h4),h4,(hr.1.block l (lt_of_heap h5) nbl).trans h5⟩
 have hround : ∀ i x W m,xs[i]? = some x → J i W → YieldAt Fence.wide m P l x W fun e W'=>
   (e = .returned (.bool true) ∧ J (i + 1) W' ∧ W.heap.size ≤ W'.heap.size ∧ ∀ b,b < W1.heap.size → ¬ (X b ∨ C b) → W'.heap[b]? = W.heap[b]?) ∨ (e = .returned (.bool false) ∧ Jx (i + 1) W'):=by
  rintro i x W m' hx ⟨al,ρs,hpr,hs,hda,hlW,hFr,hOW⟩
  have hil : i < outs.length:=by have:=(List.getElem?_eq_some_iff.1 hx).1; omega
  have ho : outs[i]? = some outs[i]:=List.getElem?_eq_getElem hil
  obtain ⟨o,hoe⟩ : ∃ o,outs[i] = o:=⟨_,rfl⟩
  rw [hoe] at ho
  have hok:=hps i al o hpr ho
  have hav:=hxd i x o hx ho
  have hlen : o.length = x.toList.length:=hav.1
  have hpl:=okPs_len hok
  have hclosed : ∀ s ∈ o,men (fun _=>false) s = true:=houts o (List.mem_of_getElem? ho)
  have hp:=hpat i al hpr
  have hltW:=lt_of_heap hlW
  have sub0 : ∀ b,OwnB (assoc (H al)) ρs b → OwnB (Pat.st ⟨T,H al ++ deads 0 θ.length⟩ : St A).h ρs b:=fun b ⟨h,ct,base,hh,hr⟩=>⟨h,ct,base,by show assoc (H al ++ deads 0 θ.length) h = _; rw [assoc_app,hh],hr⟩
  let X1 : Nat → Prop:=fun b=>X b ∨ ∃ j base,j < θ.length ∧ ρs (900 + j) = some (b,base)
  let E1 : Nat → Prop:=OwnB (assoc (H al)) ρs
  have dOwn : ∀ b,(∃ j base,j < θ.length ∧ ρs (900 + j) = some (b,base)) → OwnB (Pat.st ⟨T,H al ++ deads 0 θ.length⟩ : St A).h ρs b:=fun b hb=>by
   obtain ⟨h,base,q1,q2⟩:=hBk hp hda b (hdB hda b hb)
   exact ⟨h,_,base,q1,q2⟩
  have hE1 : ∀ b,E1 b → (E0 b ∨ w0.heap.size ≤ b) ∧ ¬ X b:=fun b hb=>by
   obtain ⟨h,ct,base,hh,hr⟩:=sub0 b hb
   exact hs.own h ct b base hh hr
  have hE1d : ∀ b,E1 b → ¬ ∃ j base,j < θ.length ∧ ρs (900 + j) = some (b,base):=fun b hb hd=>by
   obtain ⟨h,ct,base,hh,hr⟩:=hb
   obtain ⟨j,base',hj,hr'⟩:=hd
   have hp2:=hp
   simp only [patOk,Bool.and_eq_true] at hp2
   have hnd:=nodup_spec hp2.2
   have hm2:=deads_mem (A:=A) (j:=j) (n:=θ.length) (k:=0) hj
   rw [show 900 + 0 + j = 900 + j by omega] at hm2
   have q6 : (Pat.st ⟨T,H al ++ deads 0 θ.length⟩ : St A).h (900 + j) = some (.cells []):=assoc_of_mem hnd (List.mem_append_right _ hm2)
   have h1 : (Pat.st ⟨T,H al ++ deads 0 θ.length⟩ : St A).h h = some ct:=by show assoc (H al ++ deads 0 θ.length) h = _; rw [assoc_app,hh]
   have e2:=hs.inj h (900 + j) ct _ b base base' h1 q6 hr hr'
   subst e2
   rw [List.map_append,List.nodup_append] at hnd
   exact hnd.2.2 _ (List.mem_map.2 ⟨_,assoc_mem hh,rfl⟩) _ (List.mem_map.2 ⟨_,hm2,rfl⟩) rfl
  have hlE : ¬ E1 l:=fun hb=>by
   obtain ⟨h,ct,base,hh,hr⟩:=sub0 l hb
   have:=hs.hs h ct hh
   rw [hr] at this
   exact denCt_odd this hlW (odd_loop _)
  have gR : Goes0 (fun b=>X b ∨ OwnB (Pat.st ⟨T,H al ++ deads 0 θ.length⟩ : St A).h ρs b) (fun b=>X1 b ∨ OwnB (roundSt2 ps o T (H al)).h ρs b) W W:=
   ⟨fun b c F fz hn hb=>⟨fun h=>by
    rcases h with (h | h) | h
    ·exact hn (.inl h)
    ·exact hn (.inr (dOwn b h))
    ·exact hn (.inr (sub0 b h)),hb⟩,fun b c F fz hb=>⟨c,fz,hb,rfl⟩⟩
  have gA : Goes0 (fun b=>(X b ∨ C b) ∨ Bk b) (fun b=>X1 b ∨ OwnB (roundSt2 ps o T (H al)).h ρs b) W1 W:=by
   refine ⟨fun b c F fz hn hb=>⟨fun h=>?_,hFr.1 b c F fz (fun h=>hn ((hO b).2 h)) hb⟩,hFr.2.2⟩
   rcases h with (h | h) | h
   ·exact hn (.inl (.inl h))
   ·exact hn (.inr (hdB hda b h))
   ·rcases hOW b h with e | e
    ·exact hn (.inl (.inr e))
    ·have:=lt_of_heap hb; omega
  have low : ∀ k,k < 1000 → (roundSt2 ps o T (H al)).u k = true:=fun k hk=>by
   show usedIn (H al) k = true
   unfold usedIn
   have:=(Nat.blt_eq (x:=k) (y:=1000)).symm ▸ hk
   rw [this]
  have usub : ∀ k,(Pat.st ⟨T,H al ++ deads 0 θ.length⟩ : St A).u k = true → (roundSt2 ps o T (H al)).u k = true:=fun k hk=>by
   by_cases hlt : k < 1000
   ·exact low k hlt
   ·have hk : usedIn (H al ++ deads 0 θ.length) k = true:=hk
    show usedIn (H al) k = true
    unfold usedIn at hk ⊢
    have e : Nat.blt k 1000 = false:=by rw [← Bool.not_eq_true,Nat.blt_eq]; exact hlt
    rw [e] at hk ⊢
    have hk : someB (assoc (H al ++ deads 0 θ.length) k) = true:=hk
    rw [assoc_app] at hk
    show someB (assoc (H al) k) = true
    cases e2 : assoc (H al) k with
    | some v=>rfl
    | none=>
     rw [e2] at hk
     have hk : someB (assoc (deads 0 θ.length) k) = true:=hk
     rw [deads_get,if_neg (by omega)] at hk
     cases hk
  obtain ⟨tsz,tsl⟩:=laid_spec (n:=E.n) (Good:=fun sv v=>Den E.reg ρs (fun b=>X1 b ∨ OwnB (roundSt2 ps o T (H al)).h ρs b) W sv v ∧ men (roundSt2 ps o T (H al)).u sv = true)
   ps o x.toList (assoc T) a.tmps hok hlen hI.size
   (fun s sv hsv=>by
    have h1:=hs.slots s sv hsv
    rw [ha1t] at h1
    exact ⟨h1.mono0 gR,men_mono usub sv (hs.men s sv hsv)⟩)
   (fun j s v hsv hv=>by
    have hm:=hclosed s (List.mem_of_getElem? hsv)
    exact ⟨((hav.2 j s v hsv hv).mono0 gA).rho hm (fun _ h=>by cases h),men_mono (fun _ h=>by cases h) s hm⟩)
  have hIr : SInv E.reg E.n X1 E1 ρs W (roundSt2 ps o T (H al)) ρs { tmps:=laid ps x.toList a.tmps,defers:=[] } W:=by
   have up : ∀ h ct,(roundSt2 ps o T (H al)).h h = some ct → (Pat.st ⟨T,H al ++ deads 0 θ.length⟩ : St A).h h = some ct:=fun h ct hh=>by
    show assoc (H al ++ deads 0 θ.length) h = _
    rw [assoc_app,show assoc (H al) h = some ct from hh]
   refine ⟨tsz,fun s sv hsv=>(tsl s sv hsv).1,fun h ct hh=>(hs.hs h ct (up h ct hh)).mono0 gR (fun _ _ _=>rfl),fun h h' ct ct' b base base' hh hh' hr hr'=>hs.inj h h' ct ct' b base base' (up h ct hh) (up h' ct' hh') hr hr',fun h ct b base hh hr=>⟨.inl ⟨h,ct,base,hh,hr⟩,fun hx=>?_⟩,
    fun h ct hh=>?_,fun s sv hsv=>(tsl s sv hsv).2,fun b hb=>?_,.refl,.nil _,fun h hh=>⟨low h hh,rfl⟩⟩
   ·rcases hx with hx | hx
    ·exact (hE1 b ⟨h,ct,base,hh,hr⟩).2 hx
    ·exact hE1d b ⟨h,ct,base,hh,hr⟩ hx
   ·have:=hs.used h ct (up h ct hh)
    exact ⟨usub h this.1,menCt_mono usub ct this.2⟩
   ·rcases hb with hb | hb
    ·exact ⟨Nat.lt_of_lt_of_le (hs.xlt b hb).1 hs.rel.size,fun h=>(hE1 b h).2 hb⟩
    ·refine ⟨?_,fun h=>hE1d b h hb⟩
     obtain ⟨h,ct,base,hh,hr⟩:=dOwn b hb
     have:=hs.hs h ct hh
     rw [hr] at this
     exact this.lt
  have hYs : ∀ W',WRel E0 w0 W' → YOk { E with rf:=false } E1 ρs W':=fun W' hr=>⟨hY.le,fun w4 ρ4 hw hρ=>hY.ok w4 ρ4 (hr.trans' hw fun b hb=>(hE1 b hb).1) fun h hh=>by omega⟩
  have hy:=run_yield (P:=P) (args:=x) hlW (by rw [hrec]; show x.size = ps.length; rw [hpl,hlen]; simp)
  have hfold : ((Array.zip ⟨ps⟩ x).foldl (fun tmps (t,a)=>tmps.setIfInBounds t a) a.tmps) = laid ps x.toList a.tmps:=by
   rw [← Array.foldl_toList,Array.toList_zip]; rfl
  refine ⟨fn,_,assign,body,by rw [hrec] at hy; exact hy,roundIn_of_wpIn (F:=Fence.wide) trivial ?_⟩
  rw [hfold]
  refine wpIn_mono (F:=FR (some l)) (hA i al o hpr ho X1 E1 ρs W ρs _ W l m' (hYs W hs.rel) hIr) ?_
  rintro e a3 W3 ⟨xe,st3,ρ3,rfl,⟨rfl,hRB⟩,hi3⟩
  have hl3 : W3.heap[l]? = some (.loop (rec .ready none)):=(hi3.rel.block _ hltW hlE).trans hlW
  refine ⟨_,by have:=run_beginRound (P:=P) hl3 (by rw [hrec]); exact this,?_⟩
  have hi4:=hi3.both (o':=.loop { rec .ready none with state:=.busy }) hlE hlW (odd_loop _) (odd_loop _) (fun x e=>by cases e)
  refine wpIn_mono (F:=FR (some l)) (hB i st3 hRB X1 E1 ρs (W.putObj l (.loop { rec .ready none with state:=.busy })) ρ3 _ _ l m' (hYs _ (hs.rel.other (w':=W.putObj l (.loop { rec .ready none with state:=.busy })) rfl rfl rfl (by simp) fun b o hb=>?_)) hi4) ?_
  ·by_cases e : b = l
   ·subst e; rw [hlW] at hb; cases hb
    exact .inr ⟨hlw,odd_loop _⟩
   ·exact .inl (by rw [World.putObj_heap_other e]; exact hb)
  rintro e a5 W5 ⟨xe,st5,ρ5,rfl,hRE,hi5⟩
  have hl5 : W5.heap[l]? = some (.loop { rec .ready none with state:=.busy }):=(hi5.rel.block _ (by simpa using hltW) hlE).trans (World.putObj_heap_same hltW)
  have hlt5:=lt_of_heap hl5
  have fin : ∀ (ob : Loop) (G : List (Nat × Ct A)) (θ1 : List (Nat × Nat)),patOk ⟨T,G ++ deads 0 θ.length⟩ = true → EntF E.reg T st5 G θ1 →
    ∃ ρn,SInv E.reg E.n X E0 ρn w0 (Pat.st ⟨T,G ++ deads 0 θ.length⟩) ρn a1 (W5.putObj l (.loop ob)) ∧ DA ρn ∧ Fr (W5.putObj l (.loop ob)) ∧ OW G ρn ∧ (W.heap.size ≤ (W5.putObj l (.loop ob)).heap.size) ∧
     ∀ b,b < W1.heap.size → b ≠ l → ¬ (X b ∨ C b) → (W5.putObj l (.loop ob)).heap[b]? = W.heap[b]?:=fun ob G θ1 hpG hE=>by
   obtain ⟨ρn,q1,q2,q3,q4,q5⟩:=round_out (W6:=W5.putObj l (.loop ob)) hs hp (X1:=X1) (fun b=>Iff.rfl) hlw (fun b hb=>World.putObj_heap_other hb) (by simp) ⟨rfl,rfl,rfl⟩ ⟨_,hlW,odd_loop _⟩ (fun x e=>by rw [hlW] at e; cases e)
    hi5 (fun b hb=>World.putObj_heap_other hb) (by simp) ⟨rfl,rfl,rfl⟩ ⟨_,hl5,odd_loop _⟩ h100 hpG hE
   have hsz : W.heap.size ≤ (W5.putObj l (.loop ob)).heap.size:=by have:=hi5.rel.size; simpa using this
   have hno : ∀ b,b < W1.heap.size → ¬ (X b ∨ C b) → ¬ OwnB (assoc (H al)) ρs b:=fun b hb hn h=>by
    rcases hOW b h with e | e
    ·exact hn (.inr e)
    ·omega
   refine ⟨ρn,q1,fun j h hj=>(q2 j (List.getElem?_eq_some_iff.1 hj).1).trans (hda j h hj),⟨fun b c F fz hn hb=>?_,Nat.le_trans hFr.2.1 hsz,fun b c F fz hb=>?_⟩,fun b hb=>?_,hsz,fun b hb hne hn=>q5 b (Nat.lt_of_lt_of_le hb hFr.2.1) hne (hno b hb hn)⟩
   ·have h1:=hFr.1 b c F fz hn hb
    have hne : b ≠ l:=fun e=>by subst e; rw [hlW] at h1; cases h1
    rw [q5 b (lt_of_heap h1) hne (hno b (lt_of_heap hb) fun h=>hn ((hO b).1 (.inl h)))]; exact h1
   ·obtain ⟨c1,f1,h1,h2⟩:=hFr.2.2 b c F fz hb
    obtain ⟨c2,f2,h3,h4⟩:=q4 b c1 F f1 h1
    exact ⟨c2,f2,h3,h4.trans h2⟩
   ·rcases q3 b hb with e | e
    ·exact hOW b e
    ·exact .inr (Nat.le_trans hFr.2.1 e)
  cases xe with
  | norm=>
   obtain ⟨al',θ1,hpr',hE⟩:=hRE
   obtain ⟨ρn,q1,q2,q3,q4,q5,q6⟩:=fin _ (H al') θ1 (hpat (i + 1) al' hpr') hE
   refine ⟨_,_,run_endRound none hl5,.inl ⟨rfl,⟨al',ρn,hpr',q1,q2,?_,q3,q4⟩,q5,fun b hb hn=>?_⟩⟩
   ·rw [World.putObj_heap_same hlt5,hrec]; rfl
   ·by_cases e : b = l
    ·subst e; rw [World.putObj_heap_same hlt5,hlW,hrec]; rfl
    ·exact q6 b hb e hn
  | ret=>
   obtain ⟨G,θ1,⟨hpG,hE⟩,hQ⟩:=hRE
   obtain ⟨ρn,q1,q2,q3,q4,q5,q6⟩:=fin _ G θ1 hpG hE
   refine ⟨_,_,run_endRound (some .ret) hl5,.inr ⟨rfl,.ret,G,ρn,by simp,hQ,hpG,q1,q2,?_⟩⟩
   rw [World.putObj_heap_same hlt5,hrec]; rfl
  | exit j=>
   obtain ⟨G,θ1,⟨hpG,hE⟩,hQ⟩:=hRE
   obtain ⟨ρn,q1,q2,q3,q4,q5,q6⟩:=fin _ G θ1 hpG hE
   refine ⟨_,_,run_endRound (some (.exit j)) hl5,.inr ⟨rfl,.exit j,G,ρn,by simp,hQ,hpG,q1,q2,?_⟩⟩
   rw [World.putObj_heap_same hlt5,hrec]; rfl
 refine ⟨l,[{ target:=.collected w.heap.size,args:=#[] }],W1,{ target:=.fn (.func f) u2,args:=#[.func (.yield l) #[] #[]] },W1,f,#[.func (.yield l) #[] #[]] ++ u2,W1,?_,?_,fun _ _=>trivial,?_,FR_depth,?_⟩
 ·rw [← hW1,hrec,hl]; exact run_enterLoop_outer _ _ _ _ _
 ·simp only [resolve,hev]
  simp [Deferred.ofValue,Act.eval]
 ·obtain ⟨fn',q1,q2,q3⟩:=hent1
  have q2 : ¬ fn'.name = "runtime.NumGoroutine" :=by simpa using q2
  have q3 : ¬ fn'.body = none:=fun h=>by rw [h] at q3; cases q3
  simp [invoke,callFunc,q1,q2,q3]
 ·rw [ha1]
  refine CallsIn.mono (FR_calls (hrun l J Jx hJs hJxs hround hJ0)) fun e w3 hpost=>?_
  have last : ∀ {p : Pat A} {ρs : Rho} {r : Loop} (o' : Obj),SInv E.reg E.n X E0 ρs w0 p.st ρs a1 w3 → patOk p = true → w3.heap[l]? = some (.loop r) → Odd o' → ∃ ρ',SInv E.reg E.n X E0 ρ0 w0 (upSt p.t p.h) ρ' a1 (w3.putObj l o'):=fun {p ρs r} o' hs hp hl3 ho'=>by
   obtain ⟨ρ',hi⟩:=hs.up (ρ0:=ρ0) hp
   refine ⟨ρ',hi.world rfl (hi.defers.mono fun b x hb=>?_) (hi.rel.other rfl rfl rfl (by simp) fun b o hb=>?_) (putObj_keep hl3 (odd_loop _))⟩
   ·rw [World.putObj_heap_other (fun e=>by subst e; rw [hl3] at hb; cases hb)]; exact hb
   ·by_cases e : b = l
    ·subst e; rw [hl3] at hb; cases hb
     exact .inr ⟨hlw,odd_loop _⟩
    ·exact .inl (by rw [World.putObj_heap_other e]; exact hb)
  obtain ⟨⟨v,rfl⟩,⟨al,ρs,h1,h2,h3,h4,h5,h6⟩ | ⟨i,xe,G,ρs,h0,h1,h2,h3,h4,h5⟩⟩:=hpost
  ·refine ⟨none,_,by have:=run_endLoop (P:=P) h4 (by rw [hrec]; simp); rw [hrec] at this; exact this,?_⟩
   obtain ⟨ρ',hi⟩:=last _ h2 (hpat _ al h1) h4 (odd_loop _)
   exact ⟨.norm,_,ρ',rfl,hdone al h1,hi⟩
  ·refine ⟨some (codeX xe),_,by have:=run_endLoop (P:=P) h5 (by rw [hrec]; simp); rw [hrec] at this; exact this,?_⟩
   cases xe with
   | norm=>exact absurd rfl h0
   | ret=>
    refine wpIn_ret ?_
    obtain ⟨ρ',hi⟩:=last _ h3 h2 h5 (odd_loop _)
    exact ⟨.ret,_,ρ',rfl,h1,hi⟩
   | exit j=>
    refine wpIn_exit ?_
    obtain ⟨ρ',hi⟩:=last _ h3 h2 h5 (odd_loop _)
    exact ⟨.exit j,_,ρ',rfl,h1,hi⟩
theorem wp_XC (hP : P.follows .mixedOrders = true) : ∀ (c : Code) {E : Env A} {X E0 : Nat → Prop} {ρ0 : Rho} {w0 : World} {ro : Option Nat} {m : Nat} {Q : XE → St A → Prop} {st : St A} {ρ : Rho} {a : Act} {w : World},E.Ok P → FlOk E.reg fl → YOk E E0 ρ0 w0 → (E.rf = true → ro = none) →
  SInv E.reg E.n X E0 ρ0 w0 st ρ a w → XC P E fl c st Q → c.wpIn (FR ro) m P (QX E.reg E.n X E0 ρ0 w0 Q) a w
 | .skip,E,X,E0,ρ0,w0,ro,m,Q,st,ρ,a,w,hE,hfl,hY,hrf,hI,h=>wpIn_skip ⟨.norm,st,ρ,rfl,h,hI⟩
 | .label _,E,X,E0,ρ0,w0,ro,m,Q,st,ρ,a,w,hE,hfl,hY,hrf,hI,h=>wpIn_label ⟨.norm,st,ρ,rfl,h,hI⟩
 | .ret,E,X,E0,ρ0,w0,ro,m,Q,st,ρ,a,w,hE,hfl,hY,hrf,hI,h=>wpIn_ret ⟨.ret,st,ρ,rfl,h,hI⟩
 | .exit id,E,X,E0,ρ0,w0,ro,m,Q,st,ρ,a,w,hE,hfl,hY,hrf,hI,h=>wpIn_exit ⟨.exit id,st,ρ,rfl,h,hI⟩
 | .seq x y,E,X,E0,ρ0,w0,ro,m,Q,st,ρ,a,w,hE,hfl,hY,hrf,hI,h=>by
  refine wpIn_seq (wpIn_mono (wp_XC hP x hE hfl hY hrf hI h) fun e a' w' hq=>?_)
  obtain ⟨xe,st',ρ',rfl,hq,hi⟩:=hq
  cases xe with
  | norm=>
   dsimp only at hq
   split at hq
   ·exact wp_XC hP y hE hfl hY hrf hi hq
   ·obtain ⟨r,hq⟩:=hq
    cases r with
    | none=>exact wp_XC hP y hE hfl hY hrf hi hq
    | some r=>
     obtain ⟨p,θ⟩:=r
     obtain ⟨hp,he,hq⟩:=hq
     obtain ⟨ρ2,hi2⟩:=ent_inv hi hp he
     exact wp_XC hP y hE hfl hY hrf hi2 hq
  | ret=>exact ⟨.ret,st',ρ',rfl,hq,hi⟩
  | exit i=>exact ⟨.exit i,st',ρ',rfl,hq,hi⟩
 | .cond c x y,E,X,E0,ρ0,w0,ro,m,Q,st,ρ,a,w,hE,hfl,hY,hrf,hI,h=>by
  simp only [XC] at h
  split at h
  ·rename_i b hb
   have hv:=val_inv (hI.ev hb).1
   exact wpIn_cond_split hv (fun e=>by subst e; exact wp_XC hP x hE hfl hY hrf hI h) (fun e=>by subst e; exact wp_XC hP y hE hfl hY hrf hI h)
  ·exact h.elim
 | .block id c,E,X,E0,ρ0,w0,ro,m,Q,st,ρ,a,w,hE,hfl,hY,hrf,hI,h=>by
  refine wpIn_block (wpIn_mono (wp_XC hP c hE hfl hY hrf hI h) fun e a' w' hq=>?_)
  obtain ⟨xe,st',ρ',rfl,hq,hi⟩:=hq
  cases xe with
  | norm=>exact ⟨.norm,st',ρ',rfl,hq,hi⟩
  | ret=>exact ⟨.ret,st',ρ',rfl,hq,hi⟩
  | exit i=>
   dsimp only at hq
   show Exit.inBlock id _ (.exit i) a' w'
   unfold Exit.inBlock
   split at hq
   ·rename_i hb
    dsimp only
    rw [if_pos (beq_true hb)]
    exact ⟨.norm,st',ρ',rfl,hq,hi⟩
   ·rename_i hb
    dsimp only
    rw [if_neg fun e=>by subst e; simp at hb]
    exact ⟨.exit i,st',ρ',rfl,hq,hi⟩
 | .region id ⟨ops⟩ draw,E,X,E0,ρ0,w0,ro,m,Q,st,ρ,a,w,hE,hfl,hY,hrf,hI,h=>by
  cases draw with
  | false=>exact wp_region_XR hY hE hfl hI (K:=fun st'=>Q .norm st') h fun st' ρ' a' w' hk hi=>⟨.norm,st',ρ',rfl,hk,hi⟩
  | true=>
   simp only [XC] at h
   split at h
   ·exact wp_region_drawn_XR hY hP hE hfl hI (K:=fun st'=>Q .norm st') h fun st' ρ' a' w' hk hi=>⟨.norm,st',ρ',rfl,hk,hi⟩
   ·obtain ⟨r,h⟩:=h
    cases r with
    | none=>exact wp_region_drawn_XR hY hP hE hfl hI (K:=fun st'=>Q .norm st') h fun st' ρ' a' w' hk hi=>⟨.norm,st',ρ',rfl,hk,hi⟩
    | some r=>
     obtain ⟨x,y,ord⟩:=r
     exact wp_region_two hY hP hE hfl hI (K:=fun st'=>Q .norm st') h.1 h.2.1 h.2.2 fun st' ρ' a' w' hk hi=>⟨.norm,st',ρ',rfl,hk,hi⟩
 | .loop b,E,X,E0,ρ0,w0,ro,m,Q,st,ρ,a,w,hE,hfl,hY,hrf,hI,h=>by
  obtain ⟨α,I,Pr,μ,hok,⟨x0,θ0,hx0,he0⟩,hround⟩:=h
  let J : Act → World → Nat → Prop:=fun a w n=>∃ x ρ',μ x = n ∧ Pr x ∧ SInv E.reg E.n X E0 ρ0 w0 (I x).st ρ' a w
  have hJ : ∀ a w,∃ m,∀ n,J a w n → (J a w m ∧ ∀ k,J a w k → m ≤ k):=fun a w=>by
   by_cases h : ∃ n,J a w n
   ·obtain ⟨n,hn⟩:=h
    obtain ⟨m,hm⟩:=ex_min n hn
    exact ⟨m,fun _ _=>hm⟩
   ·exact ⟨0,fun n hn=>absurd ⟨n,hn⟩ h⟩
  obtain ⟨ρ1,hi1⟩:=ent_inv hI (hok x0 hx0) he0
  refine wpIn_loop (fun a w=>∃ n,J a w n) (fun a w=>Classical.choose (hJ a w)) ⟨_,x0,ρ1,rfl,hx0,hi1⟩ fun a1 w1 hh=>?_
  obtain ⟨n,hn⟩:=hh
  obtain ⟨⟨x,ρx,hμ,hx,hix⟩,hmin⟩:=Classical.choose_spec (hJ a1 w1) n hn
  refine wpIn_mono (wp_XC hP b hE hfl hY hrf hix (hround x hx)) fun e a' w' hq=>?_
  obtain ⟨xe,st',ρ',rfl,hq,hi⟩:=hq
  cases xe with
  | norm=>
   obtain ⟨x',θ',hx',hlt,he'⟩:=hq
   obtain ⟨ρ2,hi2⟩:=ent_inv hi (hok x' hx') he'
   have hj : J a' w' (μ x'):=⟨x',ρ2,rfl,hx',hi2⟩
   refine ⟨⟨_,hj⟩,?_⟩
   have:=(Classical.choose_spec (hJ a' w') _ hj).2 _ hj
   rw [← hμ]
   exact Nat.lt_of_le_of_lt this hlt
  | ret=>exact ⟨.ret,st',ρ',rfl,hq,hi⟩
  | exit i=>exact ⟨.exit i,st',ρ',rfl,hq,hi⟩
 | .scope c,E,X,E0,ρ0,w0,ro,m,Q,st,ρ,a,w,hE,hfl,hY,hrf,hI,h=>by
  refine wpIn_scope_straight (wpIn_mono (wp_XC hP c hE hfl hY hrf hI h) fun e a' w' hq=>?_)
  obtain ⟨xe,st',ρ',rfl,hq,hi⟩:=hq
  cases xe <;> exact ⟨_,st',ρ',rfl,hq,hi⟩
 | .rangeFunc g ⟨ps⟩ assign body,E,X,E0,ρ0,w0,ro,m,Q,st,ρ,a,w,hE,hfl,hY,hrf,hI,h=>by
  simp only [XC] at h
  split at h
  ·rename_i f cap hr hg
   have:=hrf hr
   subst this
   rcases h with h | h
   ·obtain ⟨sy,sp,k,hit,θ,θ',gs,hk,hround,hcall⟩:=h
    exact wp_range hfl hY hI hg hit hk hcall (fun gy hp=>(hround gy hp).1)
     (RB:=fun gy st1=>XC P { E with rf:=false } fl body st1 fun e st2=>match e with | .norm=>RoundEnd E.reg fl sy gy k st2 | _=>False)
     (fun gy hp X1 E1 ρ1 w1 ρ2 a2 w2 l m' hy hi=>wpIn_mono (wp_XC hP assign (E:={ E with rf:=false }) (ro:=some l) ⟨hE.tt,hE.keyed,hE.keys⟩ hfl hy (fun h=>by cases h) hi (hround gy hp).2) fun e a3 w3 hq=>by
      obtain ⟨xe,st',ρ',rfl,hq,hi⟩:=hq
      cases xe with
      | norm=>exact ⟨.norm,st',ρ',rfl,⟨rfl,hq⟩,hi⟩
      | ret=>exact hq.elim
      | exit i=>exact hq.elim)
     (fun gy st1 hb X1 E1 ρ1 w1 ρ2 a2 w2 l m' hy hi=>wpIn_mono (wp_XC hP body (E:={ E with rf:=false }) (ro:=some l) ⟨hE.tt,hE.keyed,hE.keys⟩ hfl hy (fun h=>by cases h) hi hb) fun e a3 w3 hq=>by
      obtain ⟨xe,st',ρ',rfl,hq,hi⟩:=hq
      cases xe with
      | norm=>exact ⟨.norm,st',ρ',rfl,⟨rfl,hq⟩,hi⟩
      | ret=>exact hq.elim
      | exit i=>exact hq.elim)
   ·obtain ⟨own,capS,θ,outs,hit,α,T,H,Pr,hk,hpat,hent,hround,hdone⟩:=h
    exact wp_rangeX hY hI hg hit hk hpat hent (fun i a o h1 h2=>(hround i a o h1 h2).1)
     (RB:=fun i st1=>XC P { E with rf:=false } fl body st1 (RoundE E.reg T H Pr θ.length i Q))
     (fun i al o h1 h2 X1 E1 ρ1 w1 ρ2 a2 w2 l m' hy hi=>wpIn_mono (wp_XC hP assign (E:={ E with rf:=false }) (ro:=some l) ⟨hE.tt,hE.keyed,hE.keys⟩ hfl hy (fun h=>by cases h) hi (hround i al o h1 h2).2) fun e a3 w3 hq=>by
      obtain ⟨xe,st',ρ',rfl,hq,hi⟩:=hq
      cases xe with
      | norm=>exact ⟨.norm,st',ρ',rfl,⟨rfl,hq⟩,hi⟩
      | ret=>exact hq.elim
      | exit i=>exact hq.elim)
     (fun i st1 hb X1 E1 ρ1 w1 ρ2 a2 w2 l m' hy hi=>wp_XC hP body (E:={ E with rf:=false }) (ro:=some l) ⟨hE.tt,hE.keyed,hE.keys⟩ hfl hy (fun h=>by cases h) hi hb)
     hdone
  ·exact h.elim
 | .goto _,_,_,_,_,_,_,_,_,_,_,_,_,_,_,_,_,_,h=>h.elim
end
end Go.Sx
namespace Go.Sx
open Go
variable {A : Nat → Type}
section
variable {P : Program} {E : Env A} {fl : Nat → Bool} {X E0 : Nat → Prop} {ρ0 : Rho} {w0 : World} {st : St A} {ρ : Rho} {a : Act} {w : World}
theorem argT_get : ∀ (l : List (SV A)) (i s : Nat) sv,assoc (argT i l) s = some sv → i ≤ s ∧ l[s - i]? = some sv
 | [],_,_,_,h=>by cases h
 | v :: l,i,s,sv,h=>by
  simp only [argT,assoc] at h
  split at h
  ·rename_i hb
   have:=beq_true hb
   subst this
   cases h
   exact ⟨Nat.le_refl _,by simp⟩
  ·obtain ⟨h1,h2⟩:=argT_get l (i + 1) s sv h
   refine ⟨by omega,?_⟩
   rw [show s - i = (s - (i + 1)) + 1 by omega]
   simpa using h2
theorem blt_iff {a b : Nat} : Nat.blt a b = true ↔ a < b:=by rw [Nat.blt_eq]
theorem keptAt_spec {R : Reg A} {f : Nat → Nat} : ∀ {hs : List Nat} {cs : List (Option (Ct A))},keptAt R st f hs cs → hs.length = cs.length ∧ ∀ (j : Nat) c,cs[j]? = some (some c) → ∃ h,hs[j]? = some h ∧ ctEq R st f h c ∧ h ∈ someOf hs cs
 | [],[],_=>⟨rfl,fun j c hc=>by simp at hc⟩
 | [],_ :: _,h=>h.elim
 | _ :: _,[],h=>h.elim
 | h0 :: hs,c0 :: cs,h=>by
  obtain ⟨h1,h2⟩:=keptAt_spec h.2
  refine ⟨by simp [h1],fun j c hc=>?_⟩
  cases j with
  | zero=>
   simp at hc; subst hc
   exact ⟨h0,rfl,h.1,by simp [someOf]⟩
  | succ j=>
   obtain ⟨k,e1,e2,e3⟩:=h2 j c (by simpa using hc)
   refine ⟨k,by simpa using e1,e2,?_⟩
   cases c0 <;> simp [someOf,e3]
theorem menO_get {f : Nat → Bool} : ∀ {l : List (Option (Ct A))},menO f l = true → ∀ (j : Nat) c,l[j]? = some (some c) → menCt f c = true
 | [],_,j,c,h=>by simp at h
 | o :: l,hm,j,c,h=>by
  cases o with
  | none=>
   simp only [menO] at hm
   cases j with
   | zero=>simp at h
   | succ j=>exact menO_get hm j c (by simpa using h)
  | some c0=>
   simp only [menO] at hm
   split at hm
   ·rename_i h0
    cases j with
    | zero=>simp at h; subst h; exact h0
    | succ j=>exact menO_get hm j c (by simpa using h)
   ·cases hm
theorem endOk_spec {a b c d e f : Bool} (h : endOk a b c d e f) : a = true ∧ b = true ∧ c = true ∧ d = true ∧ e = true ∧ f = true:=by
 cases a <;> cases b <;> cases c <;> cases d <;> cases e <;> cases f <;> first | exact h.elim | exact ⟨rfl,rfl,rfl,rfl,rfl,rfl⟩
def readOf (tmps : Array Value) : ResultVar → Sem Value
 | .tmp t=>pure (tmps.getD t undef)
 | .cell a t=>do loadVar t (← asAddr (tmps.getD a undef))
theorem resV_run (hE : E.Ok P) (hI : SInv E.reg E.n X E0 ρ0 w0 st ρ a w) {r : ResultVar} {sv : SV A} (h : resV E st r = some sv) :
  ∃ v,(readOf a.tmps r).run P w = .ok v w ∧ Den E.reg ρ (fun b=>X b ∨ OwnB st.h ρ b) w sv v:=by
 cases r with
 | tmp t=>exact ⟨_,rfl,hI.slots t sv h⟩
 | cell t T=>
  simp only [resV] at h
  split at h
  ·rename_i hh i sz k hs
   split at h
   ·rename_i cs ti hc ht
    obtain ⟨b,base,hv,hr⟩:=ptr_inv (hI.slots t _ hs)
    obtain ⟨c,F,fz,h1,h2,h3,h4,h5,h6⟩:=hI.block hc rfl hr
    obtain ⟨v,g1,g2,g3⟩:=rowVal_run (E:=E) (hE.tt T ti ht) h h1 (fun j=>c.getD (base + j) undef) h4 h5 h6
    exact ⟨v,by simp only [readOf,hv]; simpa [asAddr] using g1,g2⟩
   ·cases h
  ·cases h
theorem resA_run (hE : E.Ok P) (hI : SInv E.reg E.n X E0 ρ0 w0 st ρ a w) {r : ResultVar} {p : Prop} {sv : SV A} (h : resA E st r = some (p,sv)) (hp : p) :
  ∃ v,(readOf a.tmps r).run P w = .ok v w ∧ Den E.reg ρ (fun b=>X b ∨ OwnB st.h ρ b) w sv v:=by
 cases r with
 | tmp t=>cases h
 | cell t T=>
  simp only [resA] at h
  split at h
  ·rename_i hh sz hs
   split at h
   ·rename_i U xs ti hc ht
    split at h
    ·rename_i k el hk
     cases h
     obtain ⟨hn1,hn2⟩:=hp
     obtain ⟨b,base,hv,hr⟩:=ptr_inv (hI.slots t _ hs)
     obtain ⟨c,F,fz,h1,h2,h3,h4,h5,h6⟩:=hI.block hc rfl hr
     have htt:=hE.tt T ti ht
     have hfl : (Ct.flat E.reg (.arr U xs)).length = ti.size:=by rw [hn2,← hn1]; exact flat_len (E.reg.len U) xs
     have hag : ti.k.isAgg = true:=by rw [hk]; rfl
     have hrun:=run_loadVar_sx htt h1 (off:=base + (0 * sz + 0)) (fun j=>c.getD (base + j) undef) (fun j hj=>by
      rw [hag] at hj
      simpa using h4 j (by rw [hfl]; simpa using hj))
     rw [hag] at hrun
     refine ⟨_,by simp only [readOf,hv]; simpa [asAddr] using hrun,.aggl U xs _ (.agg _ _ ?_ fun j s v hs hv=>?_)⟩
     ·rw [show xs.flatMap (E.reg.enc U) = Ct.flat E.reg (.arr U xs) from rfl,hfl]; simp
     ·have hj : j < ti.size:=by have:=(List.getElem?_eq_some_iff.1 hs).1; rw [← hfl]; exact this
      simp [hj] at hv
      subst hv
      simpa using h5 j s hs
    ·cases h
   ·cases h
  ·cases h
theorem results_eq (fn : Func) (tmps : Array Value) : results fn tmps = (do
  let vs ← fn.results.mapM (readOf tmps)
  pure (if h : vs.size = 1 then vs[0] else .tuple vs)):=by
 unfold results
 congr 1
theorem res_run (hE : E.Ok P) (hI : SInv E.reg E.n X E0 ρ0 w0 st ρ a w) {fn : Func} {K : List (SV A) → Prop} (h : resS E st fn.results.toList K) :
  ∃ svs v,K svs ∧ (results fn a.tmps).run P w = .ok v w ∧ ((∃ x,svs = [x] ∧ Den E.reg ρ (fun b=>X b ∨ OwnB st.h ρ b) w x v) ∨ (svs.length ≠ 1 ∧ ∃ vs,v = .tuple vs ∧ DenL E.reg ρ (fun b=>X b ∨ OwnB st.h ρ b) w svs vs.toList)):=by
 rw [results_eq]
 unfold resS at h
 split at h
 ·rename_i hr
  have hr : fn.results = #[]:=by apply Array.ext'; simpa using hr
  exact ⟨[],_,h,by simp [hr],.inr ⟨by simp,#[],rfl,⟨rfl,fun j s v hs=>by simp at hs⟩⟩⟩
 ·rename_i t hr
  have hr : fn.results = #[t]:=by apply Array.ext'; simpa using hr
  split at h
  ·rename_i p v hv
   obtain ⟨x,h1,h2⟩:=resA_run hE hI hv h.1
   exact ⟨[v],x,h.2,by simp [hr,h1],.inl ⟨v,rfl,h2⟩⟩
  split at h
  ·rename_i v hv
   obtain ⟨x,h1,h2⟩:=resV_run hE hI hv
   exact ⟨[v],x,h,by simp [hr,h1],.inl ⟨v,rfl,h2⟩⟩
  ·exact h.elim
 ·rename_i t u hr
  have hr : fn.results = #[t,u]:=by apply Array.ext'; simpa using hr
  split at h
  ·rename_i v x hv hx
   obtain ⟨x1,a1,a2⟩:=resV_run hE hI hv
   obtain ⟨x2,b1,b2⟩:=resV_run hE hI hx
   refine ⟨[v,x],.tuple #[x1,x2],h,by simp [hr,a1,b1],.inr ⟨by simp,#[_,_],rfl,⟨rfl,fun j s y hs hy=>?_⟩⟩⟩
   match j with
   | 0=>simp at hs hy; subst hs; subst hy; exact a2
   | 1=>simp at hs hy; subst hs; subst hy; exact b2
   | j + 2=>simp at hs
  ·exact h.elim
 ·rename_i t u s0 hr
  have hr : fn.results = #[t,u,s0]:=by apply Array.ext'; simpa using hr
  split at h
  ·rename_i v x y hv hx hy0
   obtain ⟨x1,a1,a2⟩:=resV_run hE hI hv
   obtain ⟨x2,b1,b2⟩:=resV_run hE hI hx
   obtain ⟨x3,c1,c2⟩:=resV_run hE hI hy0
   refine ⟨[v,x,y],.tuple #[x1,x2,x3],h,by simp [hr,a1,b1,c1],.inr ⟨by simp,#[_,_,_],rfl,⟨rfl,fun j s z hs hy=>?_⟩⟩⟩
   match j with
   | 0=>simp at hs hy; subst hs; subst hy; exact a2
   | 1=>simp at hs hy; subst hs; subst hy; exact b2
   | 2=>simp at hs hy; subst hs; subst hy; exact c2
   | j + 3=>simp at hs
  ·exact h.elim
 ·rename_i t u s0 r0 hr
  have hr : fn.results = #[t,u,s0,r0]:=by apply Array.ext'; simpa using hr
  split at h
  ·rename_i v x y z hv hx hy0 hz0
   obtain ⟨x1,a1,a2⟩:=resV_run hE hI hv
   obtain ⟨x2,b1,b2⟩:=resV_run hE hI hx
   obtain ⟨x3,c1,c2⟩:=resV_run hE hI hy0
   obtain ⟨x4,d1,d2⟩:=resV_run hE hI hz0
   refine ⟨[v,x,y,z],.tuple #[x1,x2,x3,x4],h,by simp [hr,a1,b1,c1,d1],.inr ⟨by simp,#[_,_,_,_],rfl,⟨rfl,fun j s z hs hy=>?_⟩⟩⟩
   match j with
   | 0=>simp at hs hy; subst hs; subst hy; exact a2
   | 1=>simp at hs hy; subst hs; subst hy; exact b2
   | 2=>simp at hs hy; subst hs; subst hy; exact c2
   | 3=>simp at hs hy; subst hs; subst hy; exact d2
   | j + 4=>simp at hs
  ·exact h.elim
 ·exact h.elim
theorem entR_cases {R : Reg A} {f : Nat → Nat} {c p : SV A} (he : EntR R st c (ren f p)) : (∃ cs qs,c = .tup cs ∧ p = .tup qs ∧ EntAL R st cs (renL f qs)) ∨ (EntA R st c (ren f p) ∧ borR c p = bor c p):=by
 cases c <;> cases p <;> first | exact .inl ⟨_,_,rfl,rfl,he⟩ | exact .inr ⟨he,rfl⟩
theorem entR_den (hI : SInv E.reg E.n X E0 ρ0 w0 st ρ a w) {O' : Nat → Prop} {svs : List (SV A)} {p : SV A} {f : Nat → Nat} (hL : Lend E.reg st ρ (fun b=>X b ∨ OwnB st.h ρ b) O' (borR (oneOf svs) p)) (he : EntR E.reg st (oneOf svs) (ren f p)) {v : Value}
  (hv : (∃ x,svs = [x] ∧ Den E.reg ρ (fun b=>X b ∨ OwnB st.h ρ b) w x v) ∨ (svs.length ≠ 1 ∧ ∃ vs,v = .tuple vs ∧ DenL E.reg ρ (fun b=>X b ∨ OwnB st.h ρ b) w svs vs.toList)) : Den E.reg (fun k=>ρ (f k)) O' w p v:=by
 have hden : Den E.reg ρ (fun b=>X b ∨ OwnB st.h ρ b) w (oneOf svs) v:=by
  rcases hv with ⟨x,rfl,hx⟩ | ⟨hne,vs,rfl,hx⟩
  ·exact hx
  ·have : oneOf svs = .tup svs:=by
    match svs,hne with
    | [],_=>rfl
    | [_],h=>simp at h
    | _ :: _ :: _,_=>rfl
   rw [this]
   exact .tup svs vs (by simpa using hx.1) fun j s v hs hv=>hx.2 j s v hs (by rwa [Array.getElem?_toList])
 generalize oneOf svs = c at *
 rcases entR_cases he with ⟨cs,qs,rfl,rfl,he⟩ | ⟨he,hb⟩
 ·cases hden with
  | tup _ vs hl hd=>
   have:=entAL_den (vs:=vs.toList) hI hL he (fun h hh=>hh) ⟨by simpa using hl,fun j s v hs hv=>hd j s v hs (by rwa [Array.getElem?_toList] at hv)⟩
   exact .tup qs vs (by simpa using this.1) fun j s v hs hv=>this.2 j s v hs (by rwa [Array.getElem?_toList])
 ·rw [hb] at hL
  exact ent_den hI hL he (fun h hh=>hh) hden
theorem leaves_of {m : Nat} {fn : Func} {R : Ending → World → Prop} (hR : ∀ a' w',a'.defers = [] → SInv E.reg E.n X E0 ρ0 w0 st ρ a' w' → ∃ v,(results fn a'.tmps).run P w' = .ok v w' ∧ R (.returned v) w') :
  ∀ (ds : List Deferred) {a : Act} {w : World},a.defers = ds → SInv E.reg E.n X E0 ρ0 w0 st ρ a w → LeavesInM Fence.wide m P fn a.tmps R ds .returning w
 | [],a,w,hd,hi=>hR a w hd hi
 | d :: ds,a,w,hd,hi=>by
  have hm:=hi.defers
  rw [hd] at hm
  cases hm with
  | cons b _ _ h0 hb hn hrest=>
   refine ⟨by simp,.inl ⟨b,_,rfl,run_takeDeferred hb,?_⟩⟩
   have odd : Odd (.deferred (some [])):=⟨fun _ _ _ e=>(by cases e),fun _ _ e=>(by cases e)⟩
   refine leaves_of hR ds (a:={ a with defers:=ds }) (w:=w.putObj b (.deferred none)) rfl (hi.world rfl ?_ (hi.rel.other rfl rfl rfl (by simp) fun b' o hb'=>?_) (putObj_keep hb odd))
   ·have key : ∀ {ds : List Deferred} {w : World},Marks w0 ds w → (∀ d ∈ ds,d.target ≠ .collected b) → Marks w0 ds (w.putObj b (.deferred none)):=by
     intro ds w h
     induction h with
     | nil=>intro _; exact .nil _
     | cons b' ds w h0 hb' hn' _ ih=>
      intro hne
      have e : b' ≠ b:=fun e=>by subst e; exact hne ⟨.collected b',#[]⟩ (by simp) rfl
      exact .cons b' ds _ h0 (by rw [World.putObj_heap_other e]; exact hb') hn' (ih fun d hd=>hne d (by simp [hd]))
    exact key hrest hn
   ·by_cases e : b' = b
    ·subst e; rw [hb] at hb'; cases hb'; exact .inr ⟨h0,odd⟩
    ·exact .inl (by rw [World.putObj_heap_other e]; exact hb')
theorem calls_of_XFun (hP : P.follows .mixedOrders = true) (hE : E.Ok P) (hfl : FlOk E.reg fl) {f : FuncId} {fn : Func} {body : Code} (hf : P.funcs[f]? = some fn) (hb : fn.body = some body) (hn : E.n = fn.ntmps) {s : Spec A}
  (h : XFun P E fl fn body s) {g : s.γ} (hpre : s.pre g) {X : Nat → Prop} {ρ : Rho} {w : World} {vs : Array Value} (hY : YOk E (Blk ((s.own g).map some) ρ) ρ w) (hX1 : ∀ b,X b → b < w.heap.size) (hX2 : ∀ b,X b → ¬ Blk ((s.own g).map some) ρ b)
  (hargs : DenL E.reg ρ (fun b=>X b ∨ Blk ((s.own g).map some) ρ b) w (s.args g) vs.toList) (hhs : DenHs E.reg ρ (fun b=>X b ∨ Blk ((s.own g).map some) ρ b) w ((s.own g).map some)) : Calls P f vs w (MPost E.reg s g X ρ w):=by
 have hg:=h g hpre
 split at hg
 ·rename_i hm1 hm2 hl1 hl2
  rw [forceL_eq,forceL_eq] at hg
  have hl1:=ble_true hl1
  have hl2:=ble_true hl2
  have hlen : (s.args g).length = vs.size:=by have:=hargs.1; simpa using this
  refine (callsIn_wide (n:=0)).1 (callsIn_of_wp_marks hf hb trivial ?_ rfl)
  let E0 : Nat → Prop:=Blk ((s.own g).map some) ρ
  let st0 : St A:=⟨assoc (argT 0 (s.args g)),nth (s.own g),fun i=>Nat.blt i 1000⟩
  have low : ∀ k,Nat.blt k (s.own g).length = true → Nat.blt k 1000 = true:=fun k hk=>blt_iff.2 (by have:=blt_iff.1 hk; omega)
  have hown : ∀ h ct,st0.h h = some ct → (s.own g)[h]? = some ct:=fun h ct hh=>by rw [← nth_eq]; exact hh
  have hown' : ∀ h ct,st0.h h = some ct → ((s.own g).map some)[h]? = some (some ct):=fun h ct hh=>by rw [List.getElem?_map,hown h ct hh]; rfl
  have hO : ∀ b,OwnB st0.h ρ b → Blk ((s.own g).map some) ρ b:=fun b ⟨h,ct,base,h1,h2⟩=>⟨h,ct,base,hown' h ct h1,h2⟩
  have g0 : Goes (fun b=>X b ∨ Blk ((s.own g).map some) ρ b) (fun b=>X b ∨ OwnB st0.h ρ b) w w:=⟨fun b _ _ _ hn hb=>⟨fun h=>hn (h.imp id (hO b)),hb⟩,fun _ c _ fz h=>⟨c,fz,h,rfl⟩,fun _ _ h=>h⟩
  have hI : SInv E.reg E.n X E0 ρ w st0 ρ { tmps:=vs ++ Array.replicate (fn.ntmps - vs.size) undef,defers:=[] } w:=by
   refine ⟨by simp; omega,fun t sv ht=>?_,fun h ct hh=>(hhs.den h ct (hown' h ct hh)).mono g0 (fun _ _ _=>rfl),fun h h' ct ct' b base base' h1 h2=>hhs.inj h h' ct ct' b base base' (hown' _ _ h1) (hown' _ _ h2),
    fun h ct b base hh hr=>⟨.inl ⟨h,ct,base,hown' _ _ hh,hr⟩,fun hx=>hX2 b hx ⟨h,ct,base,hown' _ _ hh,hr⟩⟩,fun h ct hh=>⟨?_,?_⟩,fun t sv ht=>?_,fun b hb=>⟨hX1 b hb,hX2 b hb⟩,⟨rfl,rfl,rfl,Nat.le_refl _,fun _ _ _=>rfl,fun b c F fz h=>⟨c,fz,h,rfl⟩⟩,.nil _,fun h hh=>⟨blt_iff.2 hh,rfl⟩⟩
   ·obtain ⟨_,h1⟩:=argT_get _ _ _ _ ht
    rw [Nat.sub_zero] at h1
    have hlt:=(List.getElem?_eq_some_iff.1 h1).1
    have hv : vs[t]? = some vs[t]:=Array.getElem?_eq_getElem (by omega)
    have:=(hargs.2 t sv vs[t] h1 (by rw [Array.getElem?_toList]; exact hv)).mono g0
    rw [Array.getD_eq_getD_getElem?,Array.getElem?_append_left (by omega),hv]
    exact this
   ·have:=(List.getElem?_eq_some_iff.1 (hown h ct hh)).1
    exact blt_iff.2 (by omega)
   ·exact menCt_mono low ct (List.all_eq_true.1 hm2 ct (List.mem_of_getElem? (hown h ct hh)))
   ·obtain ⟨_,h1⟩:=argT_get _ _ _ _ ht
    exact men_mono low sv (List.all_eq_true.1 hm1 sv (List.mem_of_getElem? h1))
  refine wpIn_mono (F:=FR none) (wp_XC hP body (ro:=none) hE hfl hY (fun _=>rfl) hI hg) fun e a1 w1 hq=>?_
  obtain ⟨xe,st',ρe,rfl,hend,hi1⟩:=hq
  have key : resS E st' fn.results.toList (fun vs=>∃ (d : s.δ) (θ : List Nat),s.post g d ∧
   let f:=thr (ids (s.own g).length ++ θ)
   EntR E.reg st' (oneOf vs) (ren f (s.res g d)) ∧ keptAt E.reg st' f (ids (s.own g).length ++ θ) (s.own' g d) ∧
   endOk (Nat.beq θ.length s.nnew) (nodup (ids (s.own g).length ++ θ)) (disj (borR (oneOf vs) (s.res g d)) (someOf (ids (s.own g).length ++ θ) (s.own' g d)))
    (men (fun h=>Nat.blt h ((s.own g).length + s.nnew)) (s.res g d)) (menO (fun h=>Nat.blt h ((s.own g).length + s.nnew)) (s.own' g d)) (men (fun k=>st'.u (f k)) (s.res g d))) → bodyPostM Fence.wide 0 P fn (MPost E.reg s g X ρ w) .ret a1 w1:=fun hr=>leaves_of (fun a' w' _ hi=>by
   obtain ⟨svs,v,⟨d,θ,hpost,hent,hkept,hchk⟩,hrun,hv⟩:=res_run (P:=P) hE hi hr
   obtain ⟨c1,c2,c3,c4,c5,c6⟩:=endOk_spec hchk
   have c1:=beq_true c1
   have c2:=nodup_spec c2
   have c3:=disj_spec c3
   obtain ⟨k1,k2⟩:=keptAt_spec hkept
   have hthr : ∀ j k,(ids (s.own g).length ++ θ)[j]? = some k → thr (ids (s.own g).length ++ θ) j = k:=fun j k hk=>thr_get hk
   let f:=thr (ids (s.own g).length ++ θ)
   let ρ' : Rho:=fun k=>if st'.u (f k) = true then ρe (f k) else none
   have hρ : ∀ k,st'.u (f k) = true → ρ' k = ρe (f k):=fun k hk=>if_pos hk
   have hρn : ∀ k,st'.u (f k) = false → ρ' k = none:=fun k hk=>if_neg (by rw [hk]; exact Bool.false_ne_true)
   have told : ∀ j c,(s.own' g d)[j]? = some (some c) → ∃ h,(ids (s.own g).length ++ θ)[j]? = some h ∧ f j = h ∧ ctEq E.reg st' f h c ∧ h ∈ someOf (ids (s.own g).length ++ θ) (s.own' g d) ∧ ((∃ c0,st'.h h = some c0 ∧ st'.u h = true) ∨ ρ' j = none):=fun j c hj=>by
    obtain ⟨h,e1,e2,e3⟩:=k2 j c hj
    have ef:=hthr j h e1
    refine ⟨h,e1,ef,e2,e3,?_⟩
    unfold ctEq at e2
    split at e2
    ·rename_i cs hs; exact .inl ⟨_,hs,(hi.used _ _ hs).1⟩
    ·rename_i F0 cs hs; exact .inl ⟨_,hs,(hi.used _ _ hs).1⟩
    ·rename_i T xs hs; exact .inl ⟨_,hs,(hi.used _ _ hs).1⟩
    ·rename_i K V es hs; exact .inl ⟨_,hs,(hi.used _ _ hs).1⟩
    ·rename_i k Q hs; exact .inl ⟨_,hs,(hi.used _ _ hs).1⟩
    ·exact .inr (hρn j (by show st'.u (f j) = false; rw [show f j = h from ef]; exact e2.1))
   have blk : ∀ b,Blk (s.own' g d) ρ' b → ∃ h ct base,st'.h h = some ct ∧ ρe h = some (b,base) ∧ h ∈ someOf (ids (s.own g).length ++ θ) (s.own' g d):=fun b ⟨j,c,base,h1,h2⟩=>by
    obtain ⟨h,e1,ef,e2,e3,⟨c0,e4,e5⟩ | e4⟩:=told j c h1
    ·rw [hρ j (by rw [ef]; exact e5),ef] at h2
     exact ⟨h,c0,base,e4,h2,e3⟩
    ·rw [e4] at h2; cases h2
   have hsub : ∀ b,(X b ∨ Blk (s.own' g d) ρ' b) → X b ∨ OwnB st'.h ρe b:=fun b hb=>hb.imp id fun hb=>by
    obtain ⟨h,ct,base,h1,h2,_⟩:=blk b hb
    exact ⟨h,ct,base,h1,h2⟩
   have g1 : Goes (fun b=>X b ∨ OwnB st'.h ρe b) (fun b=>X b ∨ Blk (s.own' g d) ρ' b) w' w':=⟨fun b _ _ _ hn hb=>⟨fun h=>hn (hsub b h),hb⟩,fun _ c _ fz h=>⟨c,fz,h,rfl⟩,fun _ _ h=>h⟩
   have hL : Lend E.reg st' ρe (fun b=>X b ∨ OwnB st'.h ρe b) (fun b=>X b ∨ Blk (s.own' g d) ρ' b) (borR (oneOf svs) (s.res g d)):=⟨hsub,fun h ct b base hb hh hr hx=>by
    rcases hx with hx | hx
    ·exact (hi.own h ct b base hh hr).2 hx
    ·obtain ⟨h',ct',base',h1,h2,h3⟩:=blk b hx
     have:=hi.inj h h' ct ct' b base base' hh h1 hr h2
     subst this
     exact c3 h hb h3⟩
   refine ⟨v,hrun,d,ρ',v,hpost,rfl,fun h hh=>?_,(entR_den hi hL hent hv).rho (f:=fun k=>st'.u (f k)) c6 hρ,⟨fun j c hj=>?_,fun j j' c c' b base base' hj hj' hr hr'=>?_⟩,fun b hb=>?_,?_,c4,fun j c hj=>menO_get c5 j c hj,hi.rel⟩
   ·have ef : f h = h:=hthr h h (by rw [List.getElem?_append_left (by rw [ids_len]; exact hh)]; exact ids_get _ _ hh)
    have hk:=hi.keep h (by omega)
    rw [hρ h (by rw [ef]; exact hk.1),ef]
    exact hk.2
   ·obtain ⟨h,e1,ef,e2,e3,_⟩:=told j c hj
    rcases ct_den hi hρ hρn g1 e2 with ⟨c0,q1,q2,q3⟩ | ⟨_,q1,q2⟩
    ·rw [hρ j (by rw [ef]; exact q2),ef]; exact q3
    ·rw [hρn j (by rw [ef]; exact q1)]; exact q2
   ·obtain ⟨h,e1,ef,e2,e3,⟨c0,e4,e5⟩ | e4⟩:=told j c hj
    ·obtain ⟨h',e1',ef',e2',e3',⟨c0',e4',e5'⟩ | e4'⟩:=told j' c' hj'
     ·rw [hρ j (by rw [ef]; exact e5),ef] at hr
      rw [hρ j' (by rw [ef']; exact e5'),ef'] at hr'
      have:=hi.inj h h' _ _ b base base' e4 e4' hr hr'
      subst this
      obtain ⟨l1,q1⟩:=List.getElem?_eq_some_iff.1 e1
      obtain ⟨l2,q2⟩:=List.getElem?_eq_some_iff.1 e1'
      exact (List.getElem_inj c2).1 (q1.trans q2.symm)
     ·rw [e4'] at hr'; cases hr'
    ·rw [e4] at hr; cases hr
   ·obtain ⟨h,ct,base,h1,h2,_⟩:=blk b hb
    exact hi.own h ct b base h1 h2
   ·rw [← k1,List.length_append,ids_len,c1]) _ rfl hi1
  cases xe with
  | norm=>exact key hend
  | ret=>exact key hend
  | exit i=>exact hend.elim
 ·exact hg.elim
theorem meets_of_XFun (hP : P.follows .mixedOrders = true) (hE : E.Ok P) (hfl : FlOk E.reg fl) {f : FuncId} {fn : Func} {body : Code} (hf : P.funcs[f]? = some fn) (hname : (fn.name == "runtime.NumGoroutine") = false) (hb : fn.body = some body) (hn : E.n = fn.ntmps) (hyn : E.yn ≤ 1000) (hY : ∀ w ρ,E.Y w ρ) {s : Spec A}
  (h : XFun P E fl fn body s) : Meets P E.reg f s:=
 ⟨⟨fn,hf,hname,by rw [hb]; rfl⟩,fun _ hpre _ _ _ _ hX1 hX2 hargs hhs=>calls_of_XFun hP hE hfl hf hb hn h hpre ⟨hyn,fun _ _ _ _=>hY _ _⟩ hX1 hX2 hargs hhs⟩
theorem meetsIt_of_XFun (hP : P.follows .mixedOrders = true) (hE : E.Ok P) (hfl : FlOk E.reg fl) {f : FuncId} {fn : Func} {body : Code} (hf : P.funcs[f]? = some fn) (hname : (fn.name == "runtime.NumGoroutine") = false) (hb : fn.body = some body) (hn : E.n = fn.ntmps) {k : Nat} (hk : k ≤ 1000) {sy : Spec A} {sp : Nat → Spec A}
  (h : ∀ (l : Nat) (Y : World → Rho → Prop),MeetsY P E.reg Y l sy → XFun P { E with yn:=k,Y:=Y } fl fn body (sp l)) : MeetsIt P E.reg k sy f sp:=
 ⟨⟨fn,hf,hname,by rw [hb]; rfl⟩,fun l _ hpre _ _ _ _ hy hX1 hX2 hargs hhs=>calls_of_XFun (E:={ E with yn:=k,Y:=_ }) hP ⟨hE.tt,hE.keyed,hE.keys⟩ hfl hf hb hn (h l _ hy) hpre ⟨hk,fun _ _ hw hρ=>⟨hw,hρ⟩⟩ hX1 hX2 hargs hhs⟩
end
end Go.Sx
