/-
  Own tool 'Sx', part S: a region whose order is drawn, carried out.
-/
import Derived.Test.YtmogappoadglgaaSxR
namespace Go.Sx
open Go
variable {A : Nat → Type}
section
variable {P : Program} {E : Env A} {fl : Nat → Bool}

/-- What the text's order has: edges go back; two operations without an edge are apart. -/
structure LexOk (ops : List Oper) : Prop where
  back : ∀ j o, ops[j]? = some o → ∀ e ∈ o.after, Region.binds .any e = true → e.on < j
  apart : ∀ i j oi oj, i < j → ops[i]? = some oi → ops[j]? = some oj → (∀ e ∈ oj.after, Region.binds .any e = true → e.on ≠ i) → oi.apart ⟨ops⟩ oj = true
theorem getD_ne {listed : Array Bool} {k : Nat} (h1 : listed.getD k true = false) (h2 : listed.getD k false = true) : False := by
  rw [Array.getD_eq_getD_getElem?] at h1 h2
  cases h : listed[k]? with
  | none => rw [h] at h1; cases h1
  | some b => rw [h] at h1 h2; simp at h1 h2; rw [h1] at h2; cases h2
theorem lexFrom_spec {ops : List Oper} : ∀ (fuel k : Nat) (listed : Array Bool), k + fuel = ops.length → listed.size = ops.length → (∀ m, k ≤ m → m < ops.length → listed.getD m true = false) → Region.lexFrom .any ⟨ops⟩ fuel k listed = true →
    ∀ j, k ≤ j → (∀ o, ops[j]? = some o → ∀ e ∈ o.after, Region.binds .any e = true → e.on < j) ∧
      ∀ i oi oj, k ≤ i → i < j → ops[i]? = some oi → ops[j]? = some oj → (∀ e ∈ oj.after, Region.binds .any e = true → e.on ≠ i) → oi.apart ⟨ops⟩ oj = true
  | 0, k, listed, hk, _, _, _, j, hj => ⟨fun o ho => by have := (List.getElem?_eq_some_iff.1 ho).1; omega, fun i oi oj h1 h2 h3 h4 => by have := (List.getElem?_eq_some_iff.1 h4).1; omega⟩
  | fuel + 1, k, listed, hk, hsz, hun, h, j, hj => by
    simp only [Region.lexFrom, Bool.and_eq_true] at h
    obtain ⟨⟨h1, h2⟩, h3⟩ := h
    have hun' : ∀ m, k + 1 ≤ m → m < ops.length → (listed.setIfInBounds k true).getD m true = false := fun m hm hl => by
      rw [getD_set_ne true (by omega)]; exact hun m (by omega) hl
    have ih := lexFrom_spec fuel (k + 1) _ (by omega) (by simpa using hsz) hun' h3
    have hr := mem_ready.1 (by simpa using h1 : k ∈ Region.ready .any ⟨ops⟩ listed)
    obtain ⟨hkun, o, ho, hedge⟩ := hr
    rw [List.getElem?_toArray] at ho
    constructor
    · intro oj hoj e he hb
      by_cases e1 : j = k
      · subst e1
        rw [ho] at hoj; cases hoj
        have hl := hedge e he hb
        rcases Nat.lt_or_ge e.on j with hlt | hge
        · exact hlt
        · rcases Nat.lt_or_ge e.on ops.length with h4 | h4
          · exact (getD_ne (hun e.on hge h4) hl).elim
          · rw [Array.getD_eq_getD_getElem?, Array.getElem?_eq_none (by omega)] at hl; cases hl
      · exact (ih j (by omega)).1 oj hoj e he hb
    · intro i oi oj h4 h5 h6 h7 h8
      by_cases e1 : i = k
      · subst e1
        exact Region.free_spec (by rw [List.getElem?_toArray]; exact h6) h2 j oj (by rw [List.getElem?_toArray]; exact h7) (by omega) (hun j (by omega) (List.getElem?_eq_some_iff.1 h7).1) h8
      · exact (ih j (by omega)).2 i oi oj (by omega) h5 h6 h7 h8
theorem lexOk_of {ops : List Oper} (h : Region.lexB .any ⟨ops⟩ = true) : LexOk ops := by
  simp only [Region.lexB, Bool.and_eq_true] at h
  have := lexFrom_spec ops.length 0 (Array.replicate ops.length false) (by omega) (by simp) (fun m _ hm => by simp [hm]) h.2
  exact ⟨fun j => (this j (by omega)).1, fun i j oi oj h1 => (this j (by omega)).2 i oi oj (by omega) h1⟩

theorem maskOf_bit {ms : List Nat} {i : Nat} : ∀ {l : List Edge}, Nat.testBit (maskOf ms l) i = true → ∃ e ∈ l, Region.binds .any e = true ∧ (e.on = i ∨ Nat.testBit ((nth ms e.on).getD 0) i = true)
  | [], h => by simp [maskOf] at h
  | e :: l, h => by
    simp only [maskOf] at h
    split at h
    · rename_i hb
      have h' : Nat.testBit (((2 ^ e.on) ||| ((nth ms e.on).getD 0)) ||| (maskOf ms l)) i = true := h
      simp only [Nat.testBit_or, Bool.or_eq_true] at h'
      rcases h' with (h1 | h1) | h1
      · refine ⟨e, by simp, hb, .inl ?_⟩
        rw [Nat.testBit_two_pow] at h1
        simpa using h1
      · exact ⟨e, by simp, hb, .inr h1⟩
      · obtain ⟨e', h2, h3⟩ := maskOf_bit h1
        exact ⟨e', by simp [h2], h3⟩
    · obtain ⟨e', h2, h3⟩ := maskOf_bit h
      exact ⟨e', by simp [h2], h3⟩
theorem masks_keep : ∀ (l : List Oper) (ms : List Nat) (k : Nat), k < ms.length → (masks l ms)[k]? = ms[k]?
  | [], _, _, _ => rfl
  | o :: l, ms, k, h => by
    simp only [masks]
    rw [masks_keep l _ k (by simp; omega), List.getElem?_append_left h]
theorem masks_spec : ∀ (l : List Oper) (ms : List Nat) (j : Nat) o, l[j]? = some o → ∃ ms', ms'.length = ms.length + j ∧ (∀ k, k < ms'.length → (masks l ms)[k]? = ms'[k]?) ∧ (masks l ms)[ms.length + j]? = some (maskOf ms' o.after.toList)
  | [], _, _, _, h => by simp at h
  | o :: l, ms, 0, o', h => by
    simp at h; subst h
    refine ⟨ms, rfl, fun k hk => masks_keep _ _ _ hk, ?_⟩
    simp only [masks, Nat.add_zero]
    rw [masks_keep l _ ms.length (by simp)]
    simp
  | o :: l, ms, j + 1, o', h => by
    obtain ⟨ms', h1, h2, h3⟩ := masks_spec l (ms ++ [maskOf ms o.after.toList]) j o' (by simpa using h)
    refine ⟨ms', by simp at h1; omega, h2, ?_⟩
    simp only [masks]
    rw [← h3]; congr 1; simp; omega

/-- Whatever an operation waits for, by way of others too, is done ahead of it. -/
theorem mask_listed {ops : List Oper} (hL : LexOk ops) {listed : Array Bool} (hc : ∀ (k : Nat) o, ops[k]? = some o → listed.getD k false = true → ∀ e ∈ o.after, Region.binds .any e = true → listed.getD e.on false = true) :
    ∀ (n j : Nat), j ≤ n → ∀ o, ops[j]? = some o → (∀ e ∈ o.after, Region.binds .any e = true → listed.getD e.on false = true) → ∀ i, Nat.testBit ((nth (masks ops []) j).getD 0) i = true → listed.getD i false = true := by
  intro n
  induction n with
  | zero => 
    intro j hj o ho he i hi
    obtain ⟨ms', h1, h2, h3⟩ := masks_spec ops [] j o ho
    simp only [List.length_nil, Nat.zero_add] at h1 h3
    rw [nth_eq, h3] at hi
    obtain ⟨e, he1, he2, he3⟩ := maskOf_bit hi
    have := hL.back j o ho e (by simpa using he1) he2
    omega
  | succ n ih =>
    intro j hj o ho he i hi
    obtain ⟨ms', h1, h2, h3⟩ := masks_spec ops [] j o ho
    simp only [List.length_nil, Nat.zero_add] at h1 h3
    rw [nth_eq, h3] at hi
    obtain ⟨e, he1, he2, he3⟩ := maskOf_bit hi
    have hlt := hL.back j o ho e (by simpa using he1) he2
    have hle := he e (by simpa using he1) he2
    rcases he3 with rfl | he3
    · exact hle
    · rw [nth_eq, ← h2 e.on (by omega), ← nth_eq] at he3
      have hjl := (List.getElem?_eq_some_iff.1 ho).1
      have ho' : ops[e.on]? = some ops[e.on] := List.getElem?_eq_getElem (by omega)
      exact ih e.on (by omega) _ ho' (hc e.on _ ho' hle) i he3

section
variable {X E0 : Nat → Prop} {ρ0 : Rho} {w0 : World}
theorem wpAny_XK {ro : Option Nat} {m : Nat} (hY : YOk E E0 ρ0 w0) (hE : E.Ok P) (hfl : FlOk E.reg fl) {ops : List Oper} (hL : LexOk ops) {K : St A → Prop} {Q : Exit → Act → World → Prop} (hn : ∀ st' ρ' a' w', K st' → SInv E.reg E.n X E0 ρ0 w0 st' ρ' a' w' → Q .normal a' w') :
    ∀ (n : Nat) (l : List (Nat × Oper)) (listed : Array Bool) (S : Seen → Prop) {st : St A} {ρ : Rho} {a : Act} {w : World}, l.length = n → (∀ p ∈ l, ops[p.1]? = some p.2) → l.Pairwise (fun p q => p.1 < q.1) → listed.size = ops.length →
      (∀ (k : Nat) o, ops[k]? = some o → listed.getD k false = true ∨ (k, o) ∈ l) → (∀ p ∈ l, listed.getD p.1 true = false) →
      (∀ (k : Nat) o, ops[k]? = some o → listed.getD k false = true → ∀ e ∈ o.after, Region.binds .any e = true → listed.getD e.on false = true) →
      SInv E.reg E.n X E0 ρ0 w0 st ρ a w → XK P E fl ops (masks ops []) K l S st → wpAnyIn (FR ro) m P .any ⟨ops⟩ Q n listed a w
  | 0, l, listed, S, st, ρ, a, w, hlen, hops, hsort, hsz, hall, hun, hcl, hI, h => by
    have hl0 : l = [] := List.length_eq_zero_iff.1 hlen
    subst hl0
    refine ⟨?_, hn _ _ _ _ h hI⟩
    refine List.eq_nil_iff_forall_not_mem.2 fun j hj => ?_
    obtain ⟨h1, o, ho, _⟩ := mem_ready.1 hj
    rw [List.getElem?_toArray] at ho
    rcases hall j o ho with h2 | h2
    · exact getD_ne h1 h2
    · cases h2
  | n + 1, l, listed, S, st, ρ, a, w, hlen, hops, hsort, hsz, hall, hun, hcl, hI, h => by
    refine ⟨fun hr => ?_, fun j hj => ?_⟩
    · cases l with
      | nil => simp at hlen
      | cons p l =>
        have hp : p.1 ∈ Region.ready .any ⟨ops⟩ listed := by
          refine mem_ready.2 ⟨hun p (by simp), p.2, by rw [List.getElem?_toArray]; exact hops p (by simp), fun e he hb => ?_⟩
          have hlt := hL.back p.1 p.2 (hops p (by simp)) e he hb
          have hpl := (List.getElem?_eq_some_iff.1 (hops p (by simp))).1
          rcases hall e.on ops[e.on] (List.getElem?_eq_getElem (by omega)) with h2 | h2
          · exact h2
          · rcases List.mem_cons.1 h2 with h3 | h3
            · rw [← h3] at hlt; simp at hlt
            · have := (List.pairwise_cons.1 hsort).1 _ h3; simp at this; omega
        rw [hr] at hp; cases hp
    · obtain ⟨hjun, o, ho, hedge⟩ := mem_ready.1 hj
      rw [List.getElem?_toArray] at ho
      have hmem : (j, o) ∈ l := (hall j o ho).resolve_left fun h2 => getD_ne hjun h2
      obtain ⟨l1, l2, rfl⟩ := List.append_of_mem hmem
      have hs := List.pairwise_append.1 hsort
      have h1 : XK P E fl ops (masks ops []) K ((j, o) :: (l1 ++ l2)) S st := by
        refine XK_front l1 (fun p hp => ?_) h
        have hlt : p.1 < j := hs.2.2 p hp (j, o) (by simp)
        have hpo := hops p (by simp [hp])
        have hpu := hun p (by simp [hp])
        refine ⟨hL.apart p.1 j p.2 o hlt hpo ho fun e he hb heq => getD_ne hpu (heq ▸ hedge e he hb), ?_⟩
        cases hb : Nat.testBit ((nth (masks ops []) j).getD 0) p.1 with
        | false => rfl
        | true => exact (getD_ne hpu (mask_listed hL hcl j j (Nat.le_refl _) o ho hedge p.1 hb)).elim
      have hsj := List.pairwise_cons.1 hs.2.1
      refine wp_XG hY hE hfl hI ho h1.1 (XG_mono (fun e he => he.2.mono (K' := fun st' => ∃ S', XK P E fl ops (masks ops []) K (l1 ++ l2) S' st') fun _ hk => ⟨_, hk⟩) h1.2) fun st' ρ' a' w' hk hi => ?_
      obtain ⟨S', hk⟩ := hk
      refine wpAny_XK hY hE hfl hL hn n (l1 ++ l2) (listed.setIfInBounds j true) S' (by simp at hlen ⊢; omega) (fun p hp => hops p ?_) (List.pairwise_append.2 ⟨hs.1, hsj.2, fun p hp q hq => hs.2.2 p hp q (by simp [hq])⟩) (by simpa using hsz) (fun k ok hok => ?_) (fun p hp => ?_) (fun k ok hok hkl e he hb => ?_) hi hk
      · rcases List.mem_append.1 hp with hp | hp <;> simp [hp]
      · rcases hall k ok hok with h2 | h2
        · exact .inl (getD_set_true h2)
        · by_cases e : k = j
          · subst e
            refine .inl ?_
            have := (List.getElem?_eq_some_iff.1 hok).1
            simp [hsz, this]
          · refine .inr ?_
            rcases List.mem_append.1 h2 with h2 | h2
            · simp [h2]
            · rcases List.mem_cons.1 h2 with h2 | h2
              · exact absurd (congrArg Prod.fst h2) e
              · simp [h2]
      · have hne : p.1 ≠ j := by
          rcases List.mem_append.1 hp with hp | hp
          · have := hs.2.2 p hp (j, o) (by simp); simp at this; omega
          · have := hsj.1 p hp; simp at this; omega
        rw [getD_set_ne true (Ne.symm hne)]
        exact hun p (by rcases List.mem_append.1 hp with hp | hp <;> simp [hp])
      · by_cases e1 : k = j
        · subst e1
          rw [ho] at hok; cases hok
          exact getD_set_true (hedge e he hb)
        · rw [getD_set_ne false (Ne.symm e1)] at hkl
          exact getD_set_true (hcl k ok hok hkl e he hb)

theorem zipI_sorted : ∀ (l : List Oper) (j : Nat), (zipI j l).Pairwise (fun p q => p.1 < q.1) ∧ ∀ p ∈ zipI j l, j ≤ p.1
  | [], _ => ⟨List.Pairwise.nil, fun _ h => by cases h⟩
  | o :: l, j => by
    obtain ⟨h1, h2⟩ := zipI_sorted l (j + 1)
    refine ⟨List.pairwise_cons.2 ⟨fun p hp => by have := h2 p hp; simp; omega, h1⟩, fun p hp => ?_⟩
    rcases List.mem_cons.1 hp with rfl | hp
    · exact Nat.le_refl _
    · have := h2 p hp; omega
theorem zipI_len : ∀ (l : List Oper) (j : Nat), (zipI j l).length = l.length
  | [], _ => rfl
  | _ :: l, j => by simp [zipI, zipI_len l (j + 1)]
theorem zipI_mem : ∀ (l : List Oper) (j k : Nat) o, l[k]? = some o → (j + k, o) ∈ zipI j l
  | [], _, _, _, h => by simp at h
  | o :: l, j, 0, o', h => by simp at h; subst h; simp [zipI]
  | o :: l, j, k + 1, o', h => by
    have := zipI_mem l (j + 1) k o' (by simpa using h)
    rw [show j + 1 + k = j + (k + 1) by omega] at this
    simp [zipI, this]

theorem wp_region_drawn_XR {ro : Option Nat} {m : Nat} (hY : YOk E E0 ρ0 w0) (hP : P.follows .mixedOrders = true) (hE : E.Ok P) (hfl : FlOk E.reg fl) {st : St A} {ρ : Rho} {a : Act} {w : World} (hI : SInv E.reg E.n X E0 ρ0 w0 st ρ a w) {id : Nat} {ops : List Oper} {K : St A → Prop} {Q : Exit → Act → World → Prop}
    (h : XR P E fl ops ops 0 [] st fun st' seen => (Region.lexB .any ⟨ops⟩ && fpOk (masks ops []) seen) = true ∧ K st') (hn : ∀ st' ρ' a' w', K st' → SInv E.reg E.n X E0 ρ0 w0 st' ρ' a' w' → Q .normal a' w') : (Code.region id ⟨ops⟩ true).wpIn (FR ro) m P Q a w := by
  have hK : ∀ st' seen, ((Region.lexB .any ⟨ops⟩ && fpOk (masks ops []) seen) = true ∧ K st') → fpOk (masks ops []) seen = true := fun st' seen h => by
    have := h.1; simp only [Bool.and_eq_true] at this; exact this.2
  have hL : LexOk ops := by
    have h1 := XL_of_XR h
    clear hn
    have ex : ∀ (l : List (Nat × Oper)) (st : St A) (K' : St A → Prop), XL P E fl ops l st K' → ∃ st', K' st' := by
      intro l
      induction l with
      | nil => intro st K' h; exact ⟨st, h⟩
      | cons p l ih =>
        intro st K' h
        obtain ⟨e, _, _, hr⟩ := XG_ex h.2
        obtain ⟨v, hs, _, hk⟩ := EB.run_ex hr
        exact ih _ _ hk
    obtain ⟨_, _, hh, _⟩ := ex _ _ _ h1
    simp only [Bool.and_eq_true] at hh
    exact lexOk_of hh.1
  have hk := XK_of_XR (K' := K) hK (fun _ _ h => h.2) h
  refine wpIn_region_any hP ?_
  have := wpAny_XK (ro := ro) (m := m) hY hE hfl hL hn ops.length (zipI 0 ops) (Array.replicate ops.length false) _ (zipI_len ops 0) (zipI_get ops 0 fun k => by simp) (zipI_sorted ops 0).1 (by simp)
    (fun k o ho => .inr (by have := zipI_mem ops 0 k o ho; simpa using this)) (fun p hp => by
      have := (List.getElem?_eq_some_iff.1 (zipI_get (ops := ops) ops 0 (fun k => by simp) p hp)).1
      simp [this]) (fun k o ho hl => by
      have := (List.getElem?_eq_some_iff.1 ho).1
      simp [this] at hl) (hI.drawn (w.drawn + 1)) hk
  simpa using this
end
end
end Go.Sx
