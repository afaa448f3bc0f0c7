/-
  Own tool 'Sx', part R: a region whose order is drawn.
-/
import Derived.Test.YtmogappoadglgaaSxQ
namespace Go.Sx
open Go
variable {A : Nat → Type}
section
variable {P : Program} {E : Env A} {fl : Nat → Bool}

/-- Is an operation apart from one that was carried out ahead of it? -/
def apart1 (m : Nat) (e : Eff A) (c : Bool) (s : Seen) : Prop := Nat.testBit m s.i = true ∨ (disj s.W e.R = true ∧ disj s.W e.W = true ∧ disj s.R e.W = true ∧ (c && s.c) = false)
theorem apartB_iff {m : Nat} {e : Eff A} {c : Bool} : ∀ {l : List Seen}, apartB m e.R e.W c l = true ↔ ∀ s ∈ l, apart1 m e c s
  | [] => by simp [apartB]
  | s :: l => by
    simp only [apartB, Bool.and_eq_true, Bool.or_eq_true, apartB_iff (l := l), List.forall_mem_cons, apart1, Bool.not_eq_true', and_assoc]
def insS (s : Seen) (S : Seen → Prop) : Seen → Prop := fun x => x = s ∨ S x
theorem insS_comm (s t : Seen) (S : Seen → Prop) : insS s (insS t S) = insS t (insS s S) := by
  funext x
  exact propext ⟨fun h => by rcases h with h | h | h <;> simp [insS, h], fun h => by rcases h with h | h | h <;> simp [insS, h]⟩

/-- Operations, one after the other, each apart from those ahead of it. -/
def XK (P : Program) (E : Env A) (fl : Nat → Bool) (all : List Oper) (ms : List Nat) (K : St A → Prop) : List (Nat × Oper) → (Seen → Prop) → St A → Prop
  | [], _, st => K st
  | (i, o) :: rest, S, st => okDst E.n o.dst = true ∧ XG P E fl all o.dst o.op o.guard st fun e =>
      (∀ s, S s → apart1 ((nth ms i).getD 0) e (isCall o.op) s) ∧ Fine st o.dst (fun st' => XK P E fl all ms K rest (insS ⟨i, e.R, e.W, isCall o.op⟩ S) st') e

theorem XR_seen {all : List Oper} {ms : List Nat} {K : St A → List Seen → Prop} (hK : ∀ st seen, K st seen → fpOk ms seen = true) : ∀ {l : List Oper} {j : Nat} {seen : List Seen} {st : St A}, XR P E fl all l j seen st K → fpOk ms seen = true
  | [], _, _, _, h => hK _ _ h
  | ⟨dst, op, ty, pos, after, guard⟩ :: l, j, seen, st, h => by
    simp only [XR] at h
    split at h
    · exact h.elim
    · obtain ⟨⟨R, W, new, b⟩, _, he⟩ := XG_ex h
      dsimp only at he
      split at he
      · obtain ⟨v, hs, _, hk⟩ := EB.run_ex he
        have := XR_seen hK hk
        simp only [fpOk, Bool.and_eq_true] at this
        exact this.2
      · exact he.elim
theorem XK_of_XR {all : List Oper} {ms : List Nat} {K : St A → List Seen → Prop} {K' : St A → Prop} (hK : ∀ st seen, K st seen → fpOk ms seen = true) (hK' : ∀ st seen, K st seen → K' st) : ∀ {l : List Oper} {j : Nat} {seen : List Seen} {st : St A}, XR P E fl all l j seen st K →
    XK P E fl all ms K' (zipI j l) (fun s => s ∈ seen) st
  | [], _, _, _, h => hK' _ _ h
  | ⟨dst, op, ty, pos, after, guard⟩ :: l, j, seen, st, h => by
    simp only [XR] at h
    split at h
    · exact h.elim
    · rename_i hd
      refine ⟨hd, XG_mono (fun e he => ?_) h⟩
      obtain ⟨R, W, new, b⟩ := e
      dsimp only at he
      split at he
      · rename_i hf
        have hchk : fpOk ms (⟨j, R, W, isCall op⟩ :: seen) = true := by
          obtain ⟨v, hs, _, hk⟩ := EB.run_ex he
          exact XR_seen hK hk
        simp only [fpOk, Bool.and_eq_true] at hchk
        refine ⟨(apartB_iff (e := ⟨R, W, new, b⟩)).1 hchk.1, hf, EB.run_mono (fun v hs hk => ?_) he⟩
        have := XK_of_XR hK hK' hk
        have e : (fun s => s ∈ (⟨j, R, W, isCall op⟩ :: seen : List Seen)) = insS ⟨j, R, W, isCall op⟩ (fun s => s ∈ seen) := by
          funext s; exact propext (by simp [insS])
        rwa [e] at this
      · exact he.elim

theorem XK_tail {all : List Oper} {ms : List Nat} {K : St A → Prop} {l l' : List (Nat × Oper)} {p : Nat × Oper} (h : ∀ S st, XK P E fl all ms K l S st → XK P E fl all ms K l' S st) {S : Seen → Prop} {st : St A} (hh : XK P E fl all ms K (p :: l) S st) : XK P E fl all ms K (p :: l') S st :=
  ⟨hh.1, XG_mono (fun _ he => ⟨he.1, he.2.mono fun _ => h _ _⟩) hh.2⟩

theorem fresh_app {u : Nat → Bool} {n1 : List Nat} : ∀ {n2 : List Nat}, fresh (updU u n1) n2 = true → fresh u n2 = true ∧ ∀ k ∈ n2, k ∉ n1
  | [], _ => ⟨rfl, fun _ h => by cases h⟩
  | n :: l, h => by
    have h0 := fresh_spec h n (by simp)
    have hn : u n = false := by
      cases hu : u n with
      | false => rfl
      | true => rw [updU_old hu] at h0; cases h0
    have hm : n ∉ n1 := fun hm => by rw [updU_new hm] at h0; cases h0
    have hl : fresh (updU u n1) l = true := by
      simp only [fresh, h0] at h
      exact h
    obtain ⟨h1, h2⟩ := fresh_app hl
    exact ⟨by simp only [fresh, hn]; exact h1, fun k hk => by rcases List.mem_cons.1 hk with rfl | hk; exact hm; exact h2 k hk⟩
theorem fresh_of {u : Nat → Bool} : ∀ {n : List Nat}, (∀ k ∈ n, u k = false) → fresh u n = true
  | [], _ => rfl
  | k :: l, h => by simp only [fresh, h k (by simp)]; exact fresh_of fun k hk => h k (List.mem_cons_of_mem _ hk)
theorem updU_out {u : Nat → Bool} : ∀ {n : List Nat} {k : Nat}, k ∉ n → updU u n k = u k
  | [], _, _ => rfl
  | m :: l, k, h => by
    simp only [updU]
    rw [beq_false fun e => h (by simp [e])]
    exact updU_out fun hm => h (List.mem_cons_of_mem _ hm)
theorem updU_comm {u : Nat → Bool} {n m : List Nat} : updU (updU u n) m = updU (updU u m) n := by
  funext k
  by_cases h1 : k ∈ n
  · rw [updU_new h1, updU_old (updU_new h1)]
  · by_cases h2 : k ∈ m
    · rw [updU_new h2, updU_old (updU_new h2)]
    · rw [updU_out h1, updU_out h2, updU_out h2, updU_out h1]
theorem updH_in {f g : Nat → Option (Ct A)} : ∀ {hs : List (Nat × Option (Ct A))} {k : Nat}, (∃ p ∈ hs, p.1 = k) → updH f hs k = updH g hs k
  | [], _, h => by obtain ⟨_, h, _⟩ := h; cases h
  | (h, c) :: l, k, ⟨p, hp, e⟩ => by
    simp only [updH]
    by_cases hk : k = h
    · subst hk; simp
    · rw [beq_false hk]
      rcases List.mem_cons.1 hp with rfl | hp
      · exact absurd e.symm hk
      · exact updH_in ⟨p, hp, e⟩
theorem updH_comm {f : Nat → Option (Ct A)} {h1 h2 : List (Nat × Option (Ct A))} (hd : ∀ p ∈ h1, ∀ q ∈ h2, p.1 ≠ q.1) : updH (updH f h1) h2 = updH (updH f h2) h1 := by
  funext k
  by_cases e1 : ∃ p ∈ h1, p.1 = k
  · have e2 : ∀ q ∈ h2, q.1 ≠ k := fun q hq e => by obtain ⟨p, hp, ep⟩ := e1; exact hd p hp q hq (ep.trans e.symm)
    rw [updH_out e2]
    exact updH_in e1
  · have e1' : ∀ p ∈ h1, p.1 ≠ k := fun p hp e => e1 ⟨p, hp, e⟩
    rw [updH_out (f := updH f h2) e1']
    by_cases e2 : ∃ p ∈ h2, p.1 = k
    · exact updH_in e2
    · have e2' : ∀ p ∈ h2, p.1 ≠ k := fun p hp e => e2 ⟨p, hp, e⟩
      rw [updH_out e2', updH_out e2', updH_out e1']
theorem upd_comm {st : St A} {d1 d2 : Option Tmp} {v1 v2 : SV A} {h1 h2 : List (Nat × Option (Ct A))} {n1 n2 : List Nat} (hd : ∀ d, d1 = some d → d2 ≠ some d) (hh : ∀ p ∈ h1, ∀ q ∈ h2, p.1 ≠ q.1) :
    (st.upd d1 v1 h1 n1).upd d2 v2 h2 n2 = (st.upd d2 v2 h2 n2).upd d1 v1 h1 n1 := by
  unfold St.upd
  simp only [updH_comm hh, updU_comm (n := n1) (m := n2), St.mk.injEq, and_true]
  funext t
  simp only [updT_spec]
  by_cases e1 : d1 = some t
  · have e2 : d2 ≠ some t := hd t e1
    simp [e1, e2]
  · simp [e1]

theorem disj_swap {l m : List Nat} (h : disj l m = true) : disj m l = true := by
  have h1 := disj_spec h
  clear h
  induction m with
  | nil => rfl
  | cons x m ih =>
    simp only [disj]
    have : mem x l = false := by
      cases hx : mem x l with
      | false => rfl
      | true => exact absurd (by simp) (h1 x (mem_iff.1 hx))
    rw [this]
    exact ih fun n hn hm => h1 n hn (List.mem_cons_of_mem _ hm)

/-- Two neighbours change places. -/
theorem XK_swap {all : List Oper} {ms : List Nat} {K : St A → Prop} {rest : List (Nat × Oper)} {i j : Nat} {oi oj : Oper} {S : Seen → Prop} {st : St A} (hap : oi.apart ⟨all⟩ oj = true) (hm : Nat.testBit ((nth ms j).getD 0) i = false)
    (h : XK P E fl all ms K ((i, oi) :: (j, oj) :: rest) S st) : XK P E fl all ms K ((j, oj) :: (i, oi) :: rest) S st := by
  obtain ⟨a1, a2, a3⟩ := Oper.apart_spec hap
  obtain ⟨hdi, hi⟩ := h
  obtain ⟨ei, hei, hci, hfi, hri⟩ := XG_ex hi
  have insI := XG_ins hei
  -- of each outcome of the first: the second
  have hout : ∀ vi hi, ei.b.Out vi hi → okDst E.n oj.dst = true ∧ ∃ ej, XG P E fl all oj.dst oj.op oj.guard st (· = ej) ∧
      (∀ s, insS ⟨i, ei.R, ei.W, isCall oi.op⟩ S s → apart1 ((nth ms j).getD 0) ej (isCall oj.op) s) ∧
      Fine (st.upd oi.dst vi hi ei.new) oj.dst (fun st' => XK P E fl all ms K rest (insS ⟨j, ej.R, ej.W, isCall oj.op⟩ (insS ⟨i, ei.R, ei.W, isCall oi.op⟩ S)) st') ej := fun vi hi ho => by
    obtain ⟨hdj, hj⟩ := EB.run_out hri vi hi ho
    obtain ⟨ej, hej, hcj, hfj⟩ := XG_ex hj
    refine ⟨hdj, ej, ?_, hcj, hfj⟩
    have hx := (hcj ⟨i, ei.R, ei.W, isCall oi.op⟩ (.inl rfl)).resolve_left (by rw [hm]; exact Bool.false_ne_true)
    refine XG_local hej (agree_upd a1).symm fun k hk => ?_
    refine updH_out fun p hp e => ?_
    have hpW := insI vi hi ho p hp
    rcases hk with hk | hk
    · exact disj_spec hx.1 _ hpW (e ▸ hk)
    · exact disj_spec hx.2.1 _ hpW (e ▸ hk)
  obtain ⟨v0, h0, ho0, _⟩ := EB.run_ex hri
  obtain ⟨hdj, ej, hej, hcj, hfj⟩ := hout v0 h0 ho0
  have hx := (hcj ⟨i, ei.R, ei.W, isCall oi.op⟩ (.inl rfl)).resolve_left (by rw [hm]; exact Bool.false_ne_true)
  dsimp only at hx
  have insJ := XG_ins hej
  have hall : ∀ vi hi, ei.b.Out vi hi → Fine (st.upd oi.dst vi hi ei.new) oj.dst (fun st' => XK P E fl all ms K rest (insS ⟨j, ej.R, ej.W, isCall oj.op⟩ (insS ⟨i, ei.R, ei.W, isCall oi.op⟩ S)) st') ej := fun vi hi ho => by
    cases hc : isCall oj.op with
    | false =>
      obtain ⟨_, ej', hej', _, hfj'⟩ := hout vi hi ho
      have := (XG_det hc hej).2 ej' hej'
      subst this
      rw [hc] at hfj'
      exact hfj'
    | true =>
      have hci : isCall oi.op = false := by
        have := hx.2.2.2
        rw [hc] at this
        simpa using this
      obtain ⟨e1, e2⟩ := (XG_det hci hei).1 v0 h0 vi hi ho0 ho
      subst e1; subst e2
      rw [hc] at hfj
      exact hfj
  obtain ⟨hfr, hdis⟩ := fresh_app (n1 := ei.new) hfj.1
  refine ⟨hdj, XG_mono (fun e he => ?_) hej⟩
  have he' := he.symm
  subst he'
  refine ⟨fun s hs => hcj s (.inr hs), hfr, EB.run_of hfj.2 fun vj hj hoj => ⟨hdi, ?_⟩⟩
  have hloc : XG P E fl all oi.dst oi.op oi.guard (st.upd oj.dst vj hj ej.new) (· = ei) := by
    refine XG_local hei (agree_upd a3) fun k hk => ?_
    refine (updH_out fun p hp e => ?_).symm
    have hpW := insJ vj hj hoj p hp
    rcases hk with hk | hk
    · exact disj_spec hx.2.2.1 k hk (e ▸ hpW)
    · exact disj_spec hx.2.1 k hk (e ▸ hpW)
  refine XG_mono (fun e he => ?_) hloc
  have he' := he.symm
  subst he'
  refine ⟨fun s hs => ?_, ?_, EB.run_of hri fun vi hi ho => ?_⟩
  · rcases hs with rfl | hs
    · exact .inr ⟨disj_swap hx.2.2.1, disj_swap hx.2.1, disj_swap hx.1, by rw [Bool.and_comm]; exact hx.2.2.2⟩
    · exact hci s hs
  · refine fresh_of fun k hk => ?_
    show updU st.u ej.new k = false
    rw [updU_out fun hm => hdis k hm hk]
    exact fresh_spec hfi k hk
  · have := EB.run_out (hall vi hi ho).2 vj hj hoj
    rw [upd_comm a2 fun p hp q hq e => disj_spec hx.2.1 _ (insI vi hi ho p hp) (e ▸ insJ vj hj hoj q hq), insS_comm] at this
    exact this
theorem XK_front {all : List Oper} {ms : List Nat} {K : St A → Prop} {j : Nat} {oj : Oper} {l2 : List (Nat × Oper)} : ∀ (l1 : List (Nat × Oper)) {S : Seen → Prop} {st : St A}, (∀ p ∈ l1, p.2.apart ⟨all⟩ oj = true ∧ Nat.testBit ((nth ms j).getD 0) p.1 = false) →
    XK P E fl all ms K (l1 ++ (j, oj) :: l2) S st → XK P E fl all ms K ((j, oj) :: (l1 ++ l2)) S st
  | [], _, _, _, h => h
  | (i, oi) :: l1, S, st, hl, h => by
    have h1 := XK_tail (l' := (j, oj) :: (l1 ++ l2)) (fun S st => XK_front l1 (S := S) (st := st) fun p hp => hl p (List.mem_cons_of_mem _ hp)) h
    exact XK_swap (hl (i, oi) (by simp)).1 (hl (i, oi) (by simp)).2 h1
end
end Go.Sx
