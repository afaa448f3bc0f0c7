/-
  Own tool 'Sx', part N: an operation under its guard; regions in their text's order.
-/
import Derived.Test.YtmogappoadglgaaSxM
namespace Go.Sx
open Go
variable {A : Nat → Type}
section
variable {P : Program} {E : Env A} {X E0 : Nat → Prop} {ρ0 : Rho} {w0 : World} {st : St A} {ρ : Rho} {a : Act} {w : World} {fl : Nat → Bool}

/-- An operation's effect is fine, and behind it 'K' holds. -/
def Fine (st : St A) (dst : Option Nat) (K : St A → Prop) (e : Eff A) : Prop :=
  fresh st.u e.new = true ∧ e.b.run fun v hs => K (st.upd dst v hs e.new)

/-- An iterator's yield is at hand. -/
structure YOk (E : Env A) (E0 : Nat → Prop) (ρ0 : Rho) (w0 : World) : Prop where
  le : E.yn ≤ 1000
  ok : ∀ w ρ, WRel E0 w0 w → (∀ h, h < E.yn → ρ h = ρ0 h) → E.Y w ρ
theorem wp_XOp {ro : Option Nat} {m : Nat} (hY : YOk E E0 ρ0 w0) (hE : E.Ok P) (hfl : FlOk E.reg fl) (hI : SInv E.reg E.n X E0 ρ0 w0 st ρ a w) {o : Oper} (hd : okDst E.n o.dst = true) {K : St A → Prop} {next : Act → World → Prop} {Q : Exit → Act → World → Prop}
    (h : XOp P E fl o.dst o.op st (Fine st o.dst K)) (hn : ∀ st' ρ' a' w', K st' → SInv E.reg E.n X E0 ρ0 w0 st' ρ' a' w' → next a' w') : o.wpIn (FR ro) m P a w next Q := by
  obtain ⟨dst, op, ty, pos, after, guard⟩ := o
  dsimp only at *
  unfold XOp at h
  split at h
  · rename_i fo args ats
    split at h
    · rename_i fv vs hfv hvs
      split at h
      · rename_i f A1 B1 ht
        rw [forceL_eq] at h
        obtain ⟨s, hm, g, θ, kp, hf, hr⟩ := h
        exact wp_call hfl hI (o := ⟨dst, _, ty, pos, after, guard⟩) hd rfl hfv hvs ht hm hf hr fun v hs ρ' a' w' hk hi => hn _ _ _ _ hk hi
      · split at h
        · rename_i l hl
          obtain ⟨s, hm, g, hlen, hf, hr⟩ := h
          exact wp_yield hfl hI hY.ok hY.le (o := ⟨dst, _, ty, pos, after, guard⟩) hd rfl hfv hvs hl hm hlen hf hr fun v hs ρ' a' w' hk hi => hn _ _ _ _ hk hi
        · exact h.elim
    · exact h.elim
  · obtain ⟨hf, hr⟩ := h
    exact wp_xop hE hI (o := ⟨dst, op, ty, pos, after, guard⟩) hd hf hr fun v hs ρ' a' w' hk hi => hn _ _ _ _ hk hi

theorem skip_wanted (hI : SInv E.reg E.n X E0 ρ0 w0 st ρ a w) {ops : List Oper} {g : Nat} (h : skipS ops st g = true) : yielded ⟨ops⟩ a.tmps g = none := by
  unfold skipS at h
  split at h
  · rename_i o ho
    split at h
    · rename_i d hd
      split at h
      · rename_i u hu
        have h1 := hI.slots d _ hu
        have h2 := val_inv h1
        have hsz := hI.size
        rw [nth_eq] at ho
        unfold yielded
        simp only [List.getElem?_toArray, ho, Option.bind_some, hd]
        rw [Array.getD_eq_getD_getElem?] at h2
        cases hx : a.tmps[d]? with
        | none => simp
        | some y => rw [hx] at h2; simp at h2; subst h2; rfl
      · cases h
    · cases h
  · cases h
theorem yield_wanted (hI : SInv E.reg E.n X E0 ρ0 w0 st ρ a w) {ops : List Oper} {g : Nat} {b : Bool} (h : yieldS ops st g = some b) : yielded ⟨ops⟩ a.tmps g = some b := by
  unfold yieldS at h
  split at h
  · rename_i o ho
    split at h
    · rename_i d hd
      split at h
      · rename_i u hu
        cases h
        have h1 := hI.slots d _ hu
        have h2 := val_inv h1
        rw [nth_eq] at ho
        unfold yielded
        simp only [List.getElem?_toArray, ho, Option.bind_some, hd]
        rw [Array.getD_eq_getD_getElem?] at h2
        cases hx : a.tmps[d]? with
        | none => rw [hx] at h2; simp [undef] at h2
        | some y => rw [hx] at h2; simp at h2; subst h2; rfl
      · cases h
    · cases h
  · cases h

theorem eqB_true {a b : Bool} (h : eqB a b = true) : a = b := by cases a <;> cases b <;> simp_all [eqB]
theorem eqB_false {a b : Bool} (h : eqB a b = false) : a ≠ b := by cases a <;> cases b <;> simp_all [eqB]
theorem wp_XG {ro : Option Nat} {m : Nat} (hY : YOk E E0 ρ0 w0) (hE : E.Ok P) (hfl : FlOk E.reg fl) (hI : SInv E.reg E.n X E0 ρ0 w0 st ρ a w) {ops : List Oper} {i : Nat} {o : Oper} (ho : ops[i]? = some o) (hd : okDst E.n o.dst = true) {K : St A → Prop} {next : Act → World → Prop} {Q : Exit → Act → World → Prop}
    (h : XG P E fl ops o.dst o.op o.guard st (Fine st o.dst K)) (hn : ∀ st' ρ' a' w', K st' → SInv E.reg E.n X E0 ρ0 w0 st' ρ' a' w' → next a' w') : wpOpIn (FR ro) m P ⟨ops⟩ Q i next a w := by
  unfold wpOpIn
  simp only [List.getElem?_toArray, ho]
  have skip : Fine st o.dst K skipEff → next (a.put o.dst undef) w := fun hk => hn _ _ _ _ hk.2 (hI.pure hd (.val _) rfl)
  unfold XG at h
  split at h
  · rename_i hg
    rw [if_pos (by simp [Region.wanted, hg])]
    exact wp_XOp hY hE hfl hI hd h hn
  · rename_i g want hg
    split at h
    · rename_i hs
      rw [if_neg (by simp [Region.wanted, hg, skip_wanted hI hs])]
      exact ⟨fun _ _ => trivial, skip h⟩
    · split at h
      · rename_i b hb
        have hy := yield_wanted hI hb
        split at h
        · rename_i e
          have e := eqB_true e
          rw [if_pos (by simp [Region.wanted, hg, hy, e])]
          exact wp_XOp hY hE hfl hI hd h hn
        · rename_i e
          have e := eqB_false e
          rw [if_neg (by simp [Region.wanted, hg, hy, e])]
          exact ⟨fun _ _ => trivial, skip h⟩
      · exact h.elim

/-- Operations, one after the other. -/
def XL (P : Program) (E : Env A) (fl : Nat → Bool) (all : List Oper) : List (Nat × Oper) → St A → (St A → Prop) → Prop
  | [], st, K => K st
  | (_, o) :: rest, st, K => okDst E.n o.dst = true ∧ XG P E fl all o.dst o.op o.guard st (Fine st o.dst fun st' => XL P E fl all rest st' K)

theorem EB.run_mono {K K' : SV A → List (Nat × Option (Ct A)) → Prop} (h : ∀ v hs, K v hs → K' v hs) : ∀ {e : EB A}, e.run K → e.run K'
  | .ret _ _ => fun hr => h _ _ hr
  | .vc _ _ => fun hr => ⟨hr.1, run_mono h hr.2⟩
  | .all _ _ _ => fun hr => ⟨hr.1, fun x hx => run_mono h (hr.2 x hx)⟩
  | .fail => fun hr => hr
theorem XOp_mono {dst : Option Nat} {op : Op} {K K' : Eff A → Prop} (h : ∀ e, K e → K' e) (hh : XOp P E fl dst op st K) : XOp P E fl dst op st K' := by
  unfold XOp at *
  split at hh
  · split at hh
    · split at hh
      · rw [forceL_eq] at hh ⊢
        obtain ⟨s, hm, g, θ, kp, hk⟩ := hh
        exact ⟨s, hm, g, θ, kp, h _ hk⟩
      · split at hh
        · obtain ⟨s, hm, g, hl, hk⟩ := hh
          exact ⟨s, hm, g, hl, h _ hk⟩
        · exact hh.elim
    · exact hh.elim
  · exact h _ hh
theorem XG_mono {all : List Oper} {dst : Option Nat} {op : Op} {guard : Option (Nat × Bool)} {K K' : Eff A → Prop} (h : ∀ e, K e → K' e) (hh : XG P E fl all dst op guard st K) : XG P E fl all dst op guard st K' := by
  unfold XG at *
  split at hh
  · exact XOp_mono h hh
  · split at hh
    · exact h _ hh
    · split at hh
      · split at hh
        · exact XOp_mono h hh
        · exact h _ hh
      · exact hh.elim
theorem Fine.mono {dst : Option Nat} {K K' : St A → Prop} (h : ∀ st, K st → K' st) {e : Eff A} (hh : Fine st dst K e) : Fine st dst K' e :=
  ⟨hh.1, EB.run_mono (fun _ _ => h _) hh.2⟩
theorem XL_mono {all : List Oper} {K K' : St A → Prop} (h : ∀ st, K st → K' st) : ∀ {l : List (Nat × Oper)} {st : St A}, XL P E fl all l st K → XL P E fl all l st K'
  | [], _, hh => h _ hh
  | _ :: _, _, hh => ⟨hh.1, XG_mono (fun _ => Fine.mono fun _ => XL_mono h) hh.2⟩

def zipI : Nat → List Oper → List (Nat × Oper)
  | _, [] => []
  | j, o :: l => (j, o) :: zipI (j + 1) l
theorem XL_of_XR {all : List Oper} {K : St A → List Seen → Prop} : ∀ {l : List Oper} {j : Nat} {seen : List Seen} {st : St A}, XR P E fl all l j seen st K → XL P E fl all (zipI j l) st fun st' => ∃ seen', K st' seen'
  | [], _, seen, _, h => ⟨seen, h⟩
  | ⟨dst, op, ty, pos, after, guard⟩ :: l, j, seen, st, h => by
    simp only [XR] at h
    split at h
    · exact h.elim
    · rename_i hd
      refine ⟨hd, XG_mono (fun e he => ?_) h⟩
      obtain ⟨R, W, new, b⟩ := e
      dsimp only at he
      split at he
      · rename_i hf
        exact ⟨hf, EB.run_mono (fun v hs hk => XL_of_XR hk) he⟩
      · exact he.elim

theorem wpOps_XL {ro : Option Nat} {m : Nat} (hY : YOk E E0 ρ0 w0) (hE : E.Ok P) (hfl : FlOk E.reg fl) {ops : List Oper} {K : St A → Prop} {Q : Exit → Act → World → Prop} (hn : ∀ st' ρ' a' w', K st' → SInv E.reg E.n X E0 ρ0 w0 st' ρ' a' w' → Q .normal a' w') :
    ∀ (l : List (Nat × Oper)) {st : St A} {ρ : Rho} {a : Act} {w : World}, SInv E.reg E.n X E0 ρ0 w0 st ρ a w → (∀ p ∈ l, ops[p.1]? = some p.2) → XL P E fl ops l st K → wpOpsIn (FR ro) m P ⟨ops⟩ Q (l.map (·.1)) a w
  | [], st, ρ, a, w, hI, _, h => hn _ _ _ _ h hI
  | (i, o) :: l, st, ρ, a, w, hI, hl, h => by
    rw [List.map_cons, wpOpsIn_cons]
    exact wp_XG hY hE hfl hI (hl (i, o) (by simp)) h.1 h.2 fun st' ρ' a' w' hk hi => wpOps_XL hY hE hfl hn l hi (fun p hp => hl p (by simp [hp])) hk
theorem zipI_map : ∀ (l : List Oper) (j : Nat), (zipI j l).map (·.1) = List.range' j l.length
  | [], _ => rfl
  | _ :: l, j => by simp [zipI, zipI_map l (j + 1), List.range'_succ]
theorem zipI_get {ops : List Oper} : ∀ (l : List Oper) (j : Nat), (∀ k, l[k]? = ops[j + k]?) → ∀ p ∈ zipI j l, ops[p.1]? = some p.2
  | [], _, _, p, hp => by cases hp
  | o :: l, j, h, p, hp => by
    rcases List.mem_cons.1 hp with rfl | hp
    · exact (h 0).symm
    · exact zipI_get l (j + 1) (fun k => by have := h (k + 1); simpa [Nat.add_assoc, Nat.add_comm 1 k] using this) p hp

theorem wp_region_XR {ro : Option Nat} {m : Nat} (hY : YOk E E0 ρ0 w0) (hE : E.Ok P) (hfl : FlOk E.reg fl) (hI : SInv E.reg E.n X E0 ρ0 w0 st ρ a w) {id : Nat} {ops : List Oper} {K : St A → Prop} {Q : Exit → Act → World → Prop}
    (h : XR P E fl ops ops 0 [] st fun st' _ => K st') (hn : ∀ st' ρ' a' w', K st' → SInv E.reg E.n X E0 ρ0 w0 st' ρ' a' w' → Q .normal a' w') : (Code.region id ⟨ops⟩ false).wpIn (FR ro) m P Q a w := by
  refine wpIn_region ?_
  have h1 := XL_mono (K' := K) (fun st' ⟨_, h⟩ => h) (XL_of_XR h)
  have h2 := wpOps_XL (ro := ro) (m := m) hY hE hfl hn (zipI 0 ops) hI (zipI_get ops 0 fun k => by simp) h1
  rw [zipI_map] at h2
  simpa [List.range_eq_range'] using h2
end
end Go.Sx
