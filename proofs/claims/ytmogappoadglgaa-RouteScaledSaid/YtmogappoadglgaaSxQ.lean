/-
  Own tool 'Sx', part Q: two operations in either order.
-/
import Derived.Test.YtmogappoadglgaaSxP
namespace Go.Sx
open Go
variable {A : Nat → Type}
section
variable {P : Program} {E : Env A} {st st1 : St A} {fl : Nat → Bool}

theorem ent0_congr {R : Reg A} {c p : SV A} (h : ∀ k ∈ bor0 c p, st.h k = st1.h k) : EntA0 R st c p ↔ EntA0 R st1 c p := by
  unfold EntA0
  split
  · rename_i k sz off len T xs
    rw [h k (by simp [bor0])]
  · rfl
  · rfl
theorem entL_congr {R : Reg A} : ∀ {cs ps : List (SV A)}, (∀ k ∈ borL cs ps, st.h k = st1.h k) → (EntL R st cs ps ↔ EntL R st1 cs ps)
  | [], [], _ => Iff.rfl
  | [], _ :: _, _ => Iff.rfl
  | _ :: _, [], _ => Iff.rfl
  | c :: cs, p :: ps, h => and_congr (ent0_congr fun k hk => h k (by simp [borL, hk])) (entL_congr fun k hk => h k (by simp [borL, hk]))
theorem entA_congr {R : Reg A} {c p : SV A} (h : ∀ k ∈ bor c p, st.h k = st1.h k) : EntA R st c p ↔ EntA R st1 c p := by
  unfold EntA
  split
  · exact entL_congr h
  · rename_i hn
    have e : bor c p = bor0 c p := by
      unfold bor
      split
      · exact (hn _ _ rfl rfl).elim
      · rfl
    exact ent0_congr (e ▸ h)
theorem entAL_congr {R : Reg A} : ∀ {cs ps : List (SV A)}, (∀ k ∈ borAL cs ps, st.h k = st1.h k) → (EntAL R st cs ps ↔ EntAL R st1 cs ps)
  | [], [], _ => Iff.rfl
  | [], _ :: _, _ => Iff.rfl
  | _ :: _, [], _ => Iff.rfl
  | c :: cs, p :: ps, h => and_congr (entA_congr fun k hk => h k (by simp [borAL, hk])) (entAL_congr fun k hk => h k (by simp [borAL, hk]))
theorem ownAt_congr {f : Nat → Nat} : ∀ {hs : List Nat} {cs : List (Ct A)}, (∀ k ∈ hs, st.h k = st1.h k) → (ownAt st f hs cs ↔ ownAt st1 f hs cs)
  | [], [], _ => Iff.rfl
  | [], _ :: _, _ => Iff.rfl
  | _ :: _, [], _ => Iff.rfl
  | k :: hs, c :: cs, h => and_congr (by rw [h k (by simp)]) (ownAt_congr fun k hk => h k (by simp [hk]))
theorem callEff_local {R : Reg A} {d : Nat} {vs : List (SV A)} {s : Spec A} {g : s.γ} {θ : List Nat} {kp : Bool}
    (h : ∀ k, k ∈ (callEff R fl st d vs s g θ kp).R ∨ k ∈ (callEff R fl st d vs s g θ kp).W → st.h k = st1.h k) : callEff R fl st1 d vs s g θ kp = callEff R fl st d vs s g θ kp := by
  simp only [callEff, forceL_eq] at h ⊢
  have h1 : EntAL R st1 vs (renL (thr (θ ++ newNames d s.nnew)) (s.args g)) = EntAL R st vs (renL (thr (θ ++ newNames d s.nnew)) (s.args g)) :=
    propext (entAL_congr fun k hk => (h k (.inl (by rw [borAL_ren] at hk; exact hk))).symm)
  have h2 : ownAt st1 (thr (θ ++ newNames d s.nnew)) θ (s.own g) = ownAt st (thr (θ ++ newNames d s.nnew)) θ (s.own g) :=
    propext (ownAt_congr fun k hk => (h k (.inr (by simp [hk]))).symm)
  rw [h1, h2]
theorem updsOf_names {f : Nat → Nat} : ∀ (l : List Nat) (cs : List (Option (Ct A))), ∀ p ∈ updsOf f l cs, p.1 ∈ l
  | [], _, p, hp => by simp [updsOf] at hp
  | _ :: _, [], p, hp => by simp [updsOf] at hp
  | k :: l, c :: cs, p, hp => by
    simp only [updsOf, List.mem_cons] at hp ⊢
    rcases hp with rfl | hp
    · exact .inl rfl
    · exact .inr (updsOf_names l cs p hp)
theorem gone_names : ∀ (l : List Nat), ∀ p ∈ (gone l : List (Nat × Option (Ct A))), p.1 ∈ l
  | [], p, hp => by simp [gone] at hp
  | k :: l, p, hp => by
    simp only [gone, List.mem_cons] at hp ⊢
    rcases hp with rfl | hp
    · exact .inl rfl
    · exact .inr (gone_names l p hp)
theorem callEff_ins {R : Reg A} {d : Nat} {vs : List (SV A)} {s : Spec A} {g : s.γ} {θ : List Nat} {kp : Bool} : Ins (callEff R fl st d vs s g θ kp).W (callEff R fl st d vs s g θ kp).b := by
  simp only [callEff, forceL_eq]
  intro v hs ho p hp
  obtain ⟨x, _, ho⟩ := ho
  rw [ho.2] at hp
  rcases List.mem_append.1 hp with hp | hp
  · exact List.mem_append.2 (.inr (updsOf_names _ _ p hp))
  · refine List.mem_append.2 (.inl ?_)
    cases kp with
    | true => cases hp
    | false => exact gone_names _ p hp

theorem XOp_ex {dst : Option Nat} {op : Op} {K : Eff A → Prop} (h : XOp P E fl dst op st K) : ∃ e, XOp P E fl dst op st (· = e) ∧ K e := by
  unfold XOp at *
  split at h
  · split at h
    · split at h
      · simp only [forceL_eq] at h ⊢
        obtain ⟨s, hm, g, θ, kp, hk⟩ := h
        exact ⟨_, ⟨s, hm, g, θ, kp, rfl⟩, hk⟩
      · split at h
        · obtain ⟨s, hm, g, hl, hk⟩ := h
          exact ⟨_, ⟨s, hm, g, hl, rfl⟩, hk⟩
        · exact h.elim
    · exact h.elim
  · exact ⟨_, rfl, h⟩
theorem XOp_ins {dst : Option Nat} {op : Op} {e : Eff A} (h : XOp P E fl dst op st (· = e)) : Ins e.W e.b := by
  unfold XOp at h
  split at h
  · split at h
    · split at h
      · simp only [forceL_eq] at h
        obtain ⟨s, hm, g, θ, kp, rfl⟩ := h
        exact callEff_ins
      · split at h
        · obtain ⟨s, hm, g, hl, rfl⟩ := h
          exact callEff_ins
        · exact h.elim
    · exact h.elim
  · subst h; exact xop_ok.go.2
theorem XOp_det {dst : Option Nat} {op : Op} (hc : isCall op = false) {e : Eff A} (h : XOp P E fl dst op st (· = e)) : Det e.b ∧ ∀ e', XOp P E fl dst op st (· = e') → e = e' := by
  unfold XOp at *
  split at h
  · simp [isCall] at hc
  · subst h
    refine ⟨xop_ok.go.1, fun e' h' => ?_⟩
    exact h'
theorem XOp_local {dst : Option Nat} {op : Op} {e : Eff A} (h : XOp P E fl dst op st (· = e)) (hev : ∀ x ∈ op.operands, st.ev x = st1.ev x) (hh : ∀ k, k ∈ e.R ∨ k ∈ e.W → st.h k = st1.h k) : XOp P E fl dst op st1 (· = e) := by
  unfold XOp at *
  split at h
  · rename_i fo args ats
    rw [← hev fo (by simp [Op.operands, Call.operands]), ← evs_congr (f := st.ev) (g := st1.ev) fun x hx => hev x (by simp [Op.operands, Call.operands, hx])]
    split at h
    · split at h
      · simp only [forceL_eq] at h ⊢
        obtain ⟨s, hm, g, θ, kp, rfl⟩ := h
        exact ⟨s, hm, g, θ, kp, callEff_local hh⟩
      · split at h
        · obtain ⟨s, hm, g, hl, rfl⟩ := h
          exact ⟨s, hm, g, hl, callEff_local hh⟩
        · exact h.elim
    · exact h.elim
  · rw [← xop_congr hev]
    subst h
    exact go_local fun k hk => hh k (.inl hk)

/-! ### Under a guard -/
theorem XG_ex {all : List Oper} {dst : Option Nat} {op : Op} {guard : Option (Nat × Bool)} {K : Eff A → Prop} (h : XG P E fl all dst op guard st K) : ∃ e, XG P E fl all dst op guard st (· = e) ∧ K e := by
  unfold XG at *
  split at h
  · exact XOp_ex h
  · split at h
    · exact ⟨_, rfl, h⟩
    · split at h
      · split at h
        · exact XOp_ex h
        · exact ⟨_, rfl, h⟩
      · exact h.elim
theorem skip_ins : Ins (A := A) (skipEff (A := A)).W (skipEff (A := A)).b := fun _ _ h p hp => by rw [h.2] at hp; cases hp
theorem skip_det : Det (A := A) (skipEff (A := A)).b := fun _ _ _ _ h1 h2 => ⟨h1.1.trans h2.1.symm, h1.2.trans h2.2.symm⟩
theorem XG_ins {all : List Oper} {dst : Option Nat} {op : Op} {guard : Option (Nat × Bool)} {e : Eff A} (h : XG P E fl all dst op guard st (· = e)) : Ins e.W e.b := by
  unfold XG at h
  split at h
  · exact XOp_ins h
  · split at h
    · subst h; exact skip_ins
    · split at h
      · split at h
        · exact XOp_ins h
        · subst h; exact skip_ins
      · exact h.elim
theorem XG_det {all : List Oper} {dst : Option Nat} {op : Op} {guard : Option (Nat × Bool)} (hc : isCall op = false) {e : Eff A} (h : XG P E fl all dst op guard st (· = e)) : Det e.b ∧ ∀ e', XG P E fl all dst op guard st (· = e') → e = e' := by
  unfold XG at *
  split at h
  · exact XOp_det hc h
  · split at h
    · rename_i hs; subst h; exact ⟨skip_det, fun e' h' => by simp only at h'; exact h'⟩
    · split at h
      · rename_i g want _ hs _ b hb
        split at h
        · exact XOp_det hc h
        · subst h; exact ⟨skip_det, fun e' h' => h'⟩
      · exact h.elim
/-- Two states that an operation does not tell apart, its blocks aside. -/
structure Agree (all : List Oper) (o : Oper) (st st1 : St A) : Prop where
  ev : ∀ x ∈ o.op.operands, st.ev x = st1.ev x
  skip : ∀ g want, o.guard = some (g, want) → skipS all st g = skipS all st1 g ∧ yieldS all st g = yieldS all st1 g
theorem XG_local {all : List Oper} {o : Oper} {e : Eff A} (h : XG P E fl all o.dst o.op o.guard st (· = e)) (ha : Agree all o st st1) (hh : ∀ k, k ∈ e.R ∨ k ∈ e.W → st.h k = st1.h k) : XG P E fl all o.dst o.op o.guard st1 (· = e) := by
  unfold XG at *
  split at h
  · rename_i hg; exact XOp_local h ha.ev hh
  · rename_i g want hg
    obtain ⟨h1, h2⟩ := ha.skip g want hg
    rw [← h1, ← h2]
    split at h
    · rename_i hs; exact h
    · split at h
      · split at h
        · exact XOp_local h ha.ev hh
        · exact h
      · exact h.elim
theorem Agree.symm {all : List Oper} {o : Oper} (h : Agree all o st st1) : Agree all o st1 st := ⟨fun x hx => (h.ev x hx).symm, fun g w hg => ⟨(h.skip g w hg).1.symm, (h.skip g w hg).2.symm⟩⟩
theorem updH_out {f : Nat → Option (Ct A)} : ∀ {hs : List (Nat × Option (Ct A))} {k : Nat}, (∀ p ∈ hs, p.1 ≠ k) → updH f hs k = f k
  | [], _, _ => rfl
  | (h, c) :: l, k, hn => by
    simp only [updH]
    rw [beq_false (fun e => hn (h, c) (by simp) e.symm)]
    exact updH_out fun p hp => hn p (List.mem_cons_of_mem _ hp)
theorem agree_upd {all : List Oper} {o : Oper} {d : Option Tmp} {v : SV A} {hs : List (Nat × Option (Ct A))} {new : List Nat} (h : ∀ i, d = some i → i ∉ o.looksAt ⟨all⟩) : Agree all o st (st.upd d v hs new) := by
  have key : ∀ t, t ∈ o.looksAt ⟨all⟩ → (st.upd d v hs new).t t = st.t t := fun t ht => by
    show updT st.t d v t = _
    rw [updT_spec, if_neg (fun e => h t e ht)]
  refine ⟨fun x hx => ?_, fun g want hg => ?_⟩
  · cases x with
    | tmp t => exact (key t (by unfold Oper.looksAt; exact List.mem_append_left _ (List.mem_filterMap.2 ⟨.tmp t, by simpa using hx, rfl⟩))).symm
    | _ => rfl
  · have : ∀ ob t, nth all g = some ob → ob.dst = some t → (st.upd d v hs new).t t = st.t t := fun ob t h1 h2 => key t (by
      rw [nth_eq] at h1
      unfold Oper.looksAt
      rw [hg]
      exact List.mem_append_right _ (by simp [h1, h2]))
    unfold skipS yieldS
    cases h1 : nth all g with
    | none => exact ⟨rfl, rfl⟩
    | some ob =>
      cases h2 : ob.dst with
      | none => simp [h2]
      | some t => simp [h2, this ob t h1 h2]
end
end Go.Sx
