/-
  Own tool 'Sx', part E: each operation does what the executor says: loads, stores, addresses, numbers.
-/
import Derived.Test.YtmogappoadglgaaSxD
namespace Go.Sx
open Go
variable {A : Nat → Type}

/-! ### Rows of elements -/
theorem flat_len {α β : Type} {f : α → List β} {sz : Nat} (hf : ∀ x, (f x).length = sz) : ∀ xs : List α, (xs.flatMap f).length = xs.length * sz
  | [] => by simp
  | x :: xs => by simp [hf x, flat_len hf xs, Nat.add_mul, Nat.add_comm]
theorem flat_get {α β : Type} {f : α → List β} {sz : Nat} (hf : ∀ x, (f x).length = sz) : ∀ (xs : List α) (i j : Nat) (x : α), xs[i]? = some x → j < sz → (xs.flatMap f)[i * sz + j]? = (f x)[j]?
  | [], i, j, x, h, _ => by simp at h
  | y :: xs, 0, j, x, h, hj => by
    simp at h; subst h
    simp only [List.flatMap_cons, Nat.zero_mul, Nat.zero_add]
    rw [List.getElem?_append_left (by rw [hf]; exact hj)]
  | y :: xs, i + 1, j, x, h, hj => by
    simp only [List.flatMap_cons]
    rw [List.getElem?_append_right (by rw [hf, Nat.add_mul]; omega), hf]
    rw [show (i + 1) * sz + j - sz = i * sz + j by rw [Nat.add_mul]; omega]
    exact flat_get hf xs i j x (by simpa using h) hj
theorem flat_at {α β : Type} {f : α → List β} {sz : Nat} (hf : ∀ x, (f x).length = sz) {xs : List α} {p : Nat} {s : β} (h : (xs.flatMap f)[p]? = some s) : ∃ x j, xs[p / sz]? = some x ∧ j < sz ∧ p = p / sz * sz + j ∧ (f x)[j]? = some s := by
  have hp : p < xs.length * sz := by
    have := (List.getElem?_eq_some_iff.1 h).1
    rwa [flat_len hf] at this
  have h0 : 0 < sz := by
    rcases Nat.eq_zero_or_pos sz with e | e
    · subst e; simp at hp
    · exact e
  have hi : p / sz < xs.length := (Nat.div_lt_iff_lt_mul h0).2 hp
  have hj : p % sz < sz := Nat.mod_lt _ h0
  have he : p = p / sz * sz + p % sz := by rw [Nat.mul_comm]; exact (Nat.div_add_mod p sz).symm
  refine ⟨xs[p / sz], p % sz, List.getElem?_eq_getElem hi, hj, he, ?_⟩
  rw [← flat_get hf xs (p / sz) (p % sz) _ (List.getElem?_eq_getElem hi) hj, ← he]
  exact h
theorem put_len {α : Type} : ∀ (l : List α) (k : Nat) (vs : List α), (put l k vs).length = l.length
  | [], _, [] => by simp [put]
  | [], _, _ :: _ => by simp [put]
  | _ :: _, _, [] => by simp [put]
  | _ :: l, 0, v :: vs => by simp [put, put_len l 0 vs]
  | a :: l, n + 1, v :: vs => by simp [put, put_len l n (v :: vs)]
theorem put_get {α : Type} : ∀ (l : List α) (k : Nat) (vs : List α) (j : Nat), k + vs.length ≤ l.length → (put l k vs)[j]? = if k ≤ j ∧ j < k + vs.length then vs[j - k]? else l[j]?
  | l, k, [], j, _ => by simp [put]; omega
  | [], k, _ :: _, j, h => by simp at h
  | _ :: l, 0, v :: vs, j, h => by
    cases j with
    | zero => simp [put]
    | succ j =>
      simp only [put, List.getElem?_cons_succ]
      rw [put_get l 0 vs j (by simp at h ⊢; omega)]
      simp only [Nat.zero_le, true_and, Nat.zero_add, List.length_cons, Nat.sub_zero, List.getElem?_cons_succ, Nat.add_lt_add_iff_right]
  | a :: l, n + 1, v :: vs, j, h => by
    cases j with
    | zero => simp [put]
    | succ j =>
      simp only [put, List.getElem?_cons_succ]
      rw [put_get l n (v :: vs) j (by simp at h ⊢; omega)]
      have e : n + 1 + (v :: vs).length = n + (v :: vs).length + 1 := by omega
      simp only [e, Nat.add_le_add_iff_right, Nat.add_lt_add_iff_right, Nat.add_sub_add_right]
theorem set_flat {α β : Type} {f : α → List β} {sz : Nat} (hf : ∀ x, (f x).length = sz) {xs : List α} {i : Nat} {x : α} (hx : xs[i]? = some x) (y : α) : (xs.set i y).flatMap f = put (xs.flatMap f) (i * sz) (f y) := by
  have hi : i < xs.length := (List.getElem?_eq_some_iff.1 hx).1
  have hle : i * sz + sz ≤ xs.length * sz := by
    have : (i + 1) * sz ≤ xs.length * sz := Nat.mul_le_mul_right sz hi
    rwa [Nat.add_mul, Nat.one_mul] at this
  apply List.ext_getElem?
  intro p
  rw [put_get _ _ _ _ (by rw [hf, flat_len hf]; exact hle), hf]
  by_cases hp : p < xs.length * sz
  · have h0 : 0 < sz := by
      rcases Nat.eq_zero_or_pos sz with e | e
      · subst e; simp at hp
      · exact e
    have hj : p % sz < sz := Nat.mod_lt _ h0
    have he : p = p / sz * sz + p % sz := by rw [Nat.mul_comm]; exact (Nat.div_add_mod p sz).symm
    have hi' : p / sz < xs.length := (Nat.div_lt_iff_lt_mul h0).2 hp
    by_cases e : p / sz = i
    · rw [if_pos (by rw [← e]; omega)]
      have : (xs.set i y)[p / sz]? = some y := by rw [e]; simp [hi]
      rw [he, flat_get hf _ _ _ y this hj]
      congr 1
      rw [← e]; omega
    · rw [if_neg]
      · have : (xs.set i y)[p / sz]? = some xs[p / sz] := by rw [List.getElem?_set_ne (fun h => e h.symm)]; simp [hi']
        rw [he, flat_get hf _ _ _ _ this hj, flat_get hf _ _ _ xs[p / sz] (by simp [hi']) hj]
      · rintro ⟨h1, h2⟩
        apply e
        exact (Nat.div_eq_iff h0).2 ⟨h1, by omega⟩
  · rw [if_neg (by omega), List.getElem?_eq_none (by rw [flat_len hf]; simp; omega), List.getElem?_eq_none (by rw [flat_len hf]; omega)]

/-! ### The shape of an operation's soundness -/
section
variable (P : Program) (R : Reg A) (n : Nat) (X E0 : Nat → Prop) (ρ0 : Rho) (w0 : World) (st : St A) (a : Act) (w : World)

def Gives (d : Option Tmp) (s : Sem Value) (new : List Nat) (K : SV A → List (Nat × Option (Ct A)) → Prop) : Prop :=
  ∃ v w' sv hs ρ', s.run P w = .ok v w' ∧ K sv hs ∧ SInv R n X E0 ρ0 w0 (st.upd d sv hs new) ρ' (a.put d v) w'
def Snd (d : Option Tmp) (q : QT A) (s : Sem Value) : Prop :=
  ∀ R0 K, fresh st.u (q.go st.h R0).new = true → (q.go st.h R0).b.run K → Gives P R n X E0 ρ0 w0 st a w d s (q.go st.h R0).new K
end
section
variable {P : Program} {R : Reg A} {n : Nat} {X E0 : Nat → Prop} {ρ0 : Rho} {w0 : World} {st : St A} {ρ : Rho} {a : Act} {w : World} {d : Option Tmp} {s : Sem Value}

theorem Snd.no : Snd P R n X E0 ρ0 w0 st a w d .no s := fun _ _ _ h => h.elim
theorem Snd.fail {W new : List Nat} : Snd P R n X E0 ρ0 w0 st a w d (.fin W new .fail) s := fun _ _ _ h => h.elim
theorem Snd.vc {W new : List Nat} {p : Prop} {b : EB A} (h : p → Snd P R n X E0 ρ0 w0 st a w d (.fin W new b) s) : Snd P R n X E0 ρ0 w0 st a w d (.fin W new (.vc p b)) s :=
  fun R0 K hf hr => h hr.1 R0 K hf hr.2
theorem Snd.all {W new : List Nat} {α : Type} {c : α → Prop} {b : α → EB A} (h : ∀ x, c x → Snd P R n X E0 ρ0 w0 st a w d (.fin W new (b x)) s) : Snd P R n X E0 ρ0 w0 st a w d (.fin W new (.all α c b)) s :=
  fun R0 K hf hr => by obtain ⟨x, hx⟩ := hr.1; exact h x hx R0 K hf (hr.2 x hx)
theorem Snd.ask {h : Nat} {k : Option (Ct A) → QT A} (hk : Snd P R n X E0 ρ0 w0 st a w d (k (st.h h)) s) : Snd P R n X E0 ρ0 w0 st a w d (.ask h k) s :=
  fun R0 K hf hr => hk (h :: R0) K hf hr
theorem Snd.pure (hI : SInv R n X E0 ρ0 w0 st ρ a w) (hd : okDst n d = true) {v : Value} {sv : SV A} (hrun : s.run P w = .ok v w)
    (hden : Den R ρ (fun b => X b ∨ OwnB st.h ρ b) w sv v) (hmen : men st.u sv = true) : Snd P R n X E0 ρ0 w0 st a w d (.pure sv) s :=
  fun _ _ _ hr => ⟨v, w, sv, [], ρ, hrun, hr, hI.pure hd hden hmen⟩
theorem Snd.ret (hI : SInv R n X E0 ρ0 w0 st ρ a w) (hd : okDst n d = true) {v : Value} {sv : SV A} (hrun : s.run P w = .ok v w)
    (hden : Den R ρ (fun b => X b ∨ OwnB st.h ρ b) w sv v) (hmen : men st.u sv = true) : Snd P R n X E0 ρ0 w0 st a w d (.fin [] [] (.ret sv [])) s :=
  fun _ _ _ hr => ⟨v, w, sv, [], ρ, hrun, hr, hI.pure hd hden hmen⟩
theorem Snd.opt (hI : SInv R n X E0 ρ0 w0 st ρ a w) (hd : okDst n d = true) {o : Option (SV A)} (h : ∀ sv, o = some sv → ∃ v, s.run P w = .ok v w ∧ Den R ρ (fun b => X b ∨ OwnB st.h ρ b) w sv v ∧ men st.u sv = true) :
    Snd P R n X E0 ρ0 w0 st a w d (.fin [] [] (optRet o)) s := by
  cases o with
  | none => exact .fail
  | some sv => obtain ⟨v, h1, h2, h3⟩ := h sv rfl; exact .ret hI hd h1 h2 h3
end

section
variable {P : Program} {E : Env A} {n : Nat} {X E0 : Nat → Prop} {ρ0 : Rho} {w0 : World} {st : St A} {ρ : Rho} {a : Act} {w : World} {d : Option Tmp}

/-! ### Loads -/
theorem rowVal_run {O : Nat → Prop} {T : TypeId} {ti : TI} (ht : tiOf P T = some ti) {cs : List (SV A)} {k : Nat} {sv : SV A} (hv : rowVal ti.k.isAgg ti.size cs k = some sv)
    {b off : Nat} {c : Array Value} {F : TypeId} {fz : Nat × Nat} (hb : w.heap[b]? = some (.cells c F fz)) (g : Nat → Value) (hc : ∀ j, j < cs.length → c[off + j]? = some (g j))
    (hd : ∀ (j : Nat) s, cs[j]? = some s → Den E.reg ρ O w s (g j)) {u : Nat → Bool} (hm : ∀ (j : Nat) s, cs[j]? = some s → men u s = true) :
    ∃ v, (loadVar T ⟨b, off + k, none⟩).run P w = .ok v w ∧ Den E.reg ρ O w sv v ∧ men u sv = true := by
  unfold rowVal at hv
  cases hk : ti.k.isAgg with
  | true =>
    rw [hk] at hv
    dsimp only at hv
    split at hv
    · rename_i l hl
      rw [forceL_eq] at hv
      cases hv
      obtain ⟨h1, rfl⟩ := cut_some hl
      have hrun := run_loadVar_sx ht hb (off := off + k) (fun j => g (k + j)) (fun j hj => by
        rw [hk] at hj
        rw [Nat.add_assoc]
        exact hc (k + j) (by simp at hj; omega))
      rw [hk] at hrun
      have hlen : ((cs.drop k).take ti.size).length = ti.size := by simp; omega
      refine ⟨_, hrun, .agg _ _ (by simp; omega) fun j s v hs hv => ?_, menL_of fun j s hs => ?_⟩
      · have hj : j < ti.size := by have := (List.getElem?_eq_some_iff.1 hs).1; omega
        rw [List.getElem?_take, if_pos hj, List.getElem?_drop] at hs
        simp [hj] at hv
        subst hv
        exact hd (k + j) s hs
      · have hj : j < ti.size := by have := (List.getElem?_eq_some_iff.1 hs).1; omega
        rw [List.getElem?_take, if_pos hj, List.getElem?_drop] at hs
        exact hm (k + j) s hs
    · cases hv
  | false =>
    rw [hk] at hv
    dsimp only at hv
    rw [nth_eq] at hv
    have hlt := (List.getElem?_eq_some_iff.1 hv).1
    have hrun := run_loadVar_sx ht hb (off := off + k) (fun j => g (k + j)) (fun j hj => by
      rw [hk] at hj
      have : j = 0 := by simp at hj; omega
      subst this
      exact hc k hlt)
    rw [hk] at hrun
    exact ⟨_, hrun, hd k sv hv, hm k sv hv⟩

theorem ptr_inv {R : Reg A} {O : Nat → Prop} {h i sz k : Nat} {v : Value} (hd : Den R ρ O w (.ptr h i sz k) v) : ∃ b base, v = .pointer (some ⟨b, base + (i * sz + k), none⟩) ∧ ρ h = some (b, base) := by
  cases hd with
  | ptr _ _ _ _ b base hr => exact ⟨b, base, rfl, hr⟩

/-- A named block's cells. -/
theorem SInv.block (hI : SInv E.reg n X E0 ρ0 w0 st ρ a w) {h : Nat} {ct : Ct A} (hh : st.h h = some ct) (hnmp : ct.isMap = false) {b base : Nat} (hr : ρ h = some (b, base)) :
    ∃ c F fz, w.heap[b]? = some (.cells c F fz) ∧ (fz.2 ≤ fz.1 ∨ c.size ≤ fz.1) ∧ base + (ct.flat E.reg).length ≤ c.size ∧
      (∀ j, j < (ct.flat E.reg).length → c[base + j]? = some (c.getD (base + j) undef)) ∧
      (∀ (j : Nat) s, (ct.flat E.reg)[j]? = some s → Den E.reg ρ (fun b => X b ∨ OwnB st.h ρ b) w s (c.getD (base + j) undef)) ∧
      (∀ (j : Nat) s, (ct.flat E.reg)[j]? = some s → Sx.men st.u s = true) := by
  have h0 := hI.hs h ct hh
  rw [hr] at h0
  rcases h0 with ⟨_, _, _, rfl, _⟩ | ⟨_, c, F, fz, h1, h2, h3, h4⟩
  · cases hnmp
  have hg : ∀ j, j < (ct.flat E.reg).length → c[base + j]? = some (c.getD (base + j) undef) := fun j hj => by
    have : base + j < c.size := by omega
    simp [this]
  refine ⟨c, F, fz, h1, h2, h3, hg, fun j s hs => h4 j s _ hs (hg j (List.getElem?_eq_some_iff.1 hs).1), fun j s hs => flat_men (hI.used h ct hh).2 j s hs⟩

theorem snd_load (hE : E.Ok P) (hI : SInv E.reg n X E0 ρ0 w0 st ρ a w) (hd : okDst n d = true) {T : TypeId} {sa : SV A} {va : Value} (hv : Den E.reg ρ (fun b => X b ∨ OwnB st.h ρ b) w sa va) (hm : men st.u sa = true) :
    Snd P E.reg n X E0 ρ0 w0 st a w d (xload E T sa) (Instr.loadAt T va) := by
  unfold xload
  split
  · exact .no
  · rename_i ti hti
    have ht := hE.tt T ti hti
    split
    · rename_i cs k
      refine .opt hI hd fun sv hsv => ?_
      cases hv with
      | prow _ _ b off c F fz g ho hb hc hdd =>
        obtain ⟨v, h1, h2, h3⟩ := rowVal_run (E := E) ht hsv hb g hc hdd (u := st.u) (fun j s hs => menL_get hm j s hs)
        exact ⟨v, by simpa [Instr.loadAt, Instr.sureAddr] using h1, h2, h3⟩
    · rename_i h i sz k
      refine .ask ?_
      obtain ⟨b, base, rfl, hr⟩ := ptr_inv hv
      have hload : ∀ v, (loadVar T ⟨b, base + (i * sz + k), none⟩).run P w = .ok v w → (Instr.loadAt T (.pointer (some ⟨b, base + (i * sz + k), none⟩))).run P w = .ok v w := fun v h => by
        simpa [Instr.loadAt, Instr.sureAddr] using h
      cases hh : st.h h with
      | none => exact .no
      | some ct =>
        by_cases hnmp : ct.isMap = true
        · cases ct <;> first | exact .no | cases hnmp
        obtain ⟨c, F, fz, h1, h2, h3, h4, h5, h6⟩ := hI.block hh (by simpa using hnmp) hr
        cases ct with
        | map K V es => exact .no
        | cells cs =>
          refine .opt hI hd fun sv hsv => ?_
          obtain ⟨v, g1, g2, g3⟩ := rowVal_run (E := E) ht hsv h1 (fun j => c.getD (base + j) undef) h4 h5 h6
          exact ⟨v, hload v g1, g2, g3⟩
        | arr U xs =>
          dsimp only
          split
          · rename_i hsz
            obtain rfl := beq_true hsz
            refine .all fun x hx => .opt hI hd fun sv hsv => ?_
            have hlen : (E.reg.enc U x).length = E.reg.sz U := E.reg.len U x
            have hi : i < xs.length := (List.getElem?_eq_some_iff.1 hx).1
            have hle : i * E.reg.sz U + E.reg.sz U ≤ xs.length * E.reg.sz U := by
              have : (i + 1) * E.reg.sz U ≤ xs.length * E.reg.sz U := Nat.mul_le_mul_right _ hi
              rwa [Nat.add_mul, Nat.one_mul] at this
            have hfl : (Ct.flat E.reg (.arr U xs)).length = xs.length * E.reg.sz U := flat_len (E.reg.len U) xs
            have hget : ∀ (j : Nat) s, (E.reg.enc U x)[j]? = some s → (Ct.flat E.reg (.arr U xs))[i * E.reg.sz U + j]? = some s := fun j s hs => by
              have hj := (List.getElem?_eq_some_iff.1 hs).1
              rw [← hs]; exact flat_get (E.reg.len U) xs i j x hx (by omega)
            obtain ⟨v, g1, g2, g3⟩ := rowVal_run (E := E) ht hsv h1 (off := base + i * E.reg.sz U) (fun j => c.getD (base + (i * E.reg.sz U + j)) undef)
              (fun j hj => by rw [Nat.add_assoc]; exact h4 _ (by omega)) (fun j s hs => h5 _ s (hget j s hs)) (u := st.u) (fun j s hs => h6 _ s (hget j s hs))
            exact ⟨v, hload v (by rw [← Nat.add_assoc]; exact g1), g2, g3⟩
          · split
            · rename_i ni elem hk
              refine .vc fun ⟨hn1, hn2⟩ => ?_
              have hfl : (Ct.flat E.reg (.arr U xs)).length = ti.size := by rw [hn2, ← hn1]; exact flat_len (E.reg.len U) xs
              have hag : ti.k.isAgg = true := by rw [hk]; rfl
              have hrun := run_loadVar_sx ht h1 (off := base + (0 * sz + 0)) (fun j => c.getD (base + j) undef) (fun j hj => by
                rw [hag] at hj
                simpa using h4 j (by rw [hfl]; simpa using hj))
              rw [hag] at hrun
              refine .ret hI hd (hload _ hrun) (.aggl U xs _ (.agg _ _ ?_ fun j s v hs hv => ?_)) rfl
              · rw [show xs.flatMap (E.reg.enc U) = Ct.flat E.reg (.arr U xs) from rfl, hfl]; simp
              · have hj : j < ti.size := by have := (List.getElem?_eq_some_iff.1 hs).1; rw [← hfl]; exact this
                simp [hj] at hv
                subst hv
                simpa using h5 j s hs
            · rename_i i k _ _ _ _
              split
              · rename_i hz
                have hz := ble_true hz
                refine .all fun x hx => .opt hI hd fun sv hsv => ?_
                have hlen : (E.reg.enc U x).length = E.reg.sz U := E.reg.len U x
                have hq : (i * sz + k) / E.reg.sz U < xs.length := (List.getElem?_eq_some_iff.1 hx).1
                have hdm : (i * sz + k) / E.reg.sz U * E.reg.sz U + (i * sz + k) % E.reg.sz U = i * sz + k := Nat.div_add_mod' _ _
                have hle : (i * sz + k) / E.reg.sz U * E.reg.sz U + E.reg.sz U ≤ xs.length * E.reg.sz U := by
                  have : ((i * sz + k) / E.reg.sz U + 1) * E.reg.sz U ≤ xs.length * E.reg.sz U := Nat.mul_le_mul_right _ hq
                  rwa [Nat.add_mul, Nat.one_mul] at this
                have hfl : (Ct.flat E.reg (.arr U xs)).length = xs.length * E.reg.sz U := flat_len (E.reg.len U) xs
                have hget : ∀ (j : Nat) s, (E.reg.enc U x)[j]? = some s → (Ct.flat E.reg (.arr U xs))[(i * sz + k) / E.reg.sz U * E.reg.sz U + j]? = some s := fun j s hs => by
                  have hj := (List.getElem?_eq_some_iff.1 hs).1
                  rw [← hs]; exact flat_get (E.reg.len U) xs _ j x hx (by omega)
                obtain ⟨v, g1, g2, g3⟩ := rowVal_run (E := E) ht hsv h1 (off := base + (i * sz + k) / E.reg.sz U * E.reg.sz U) (fun j => c.getD (base + ((i * sz + k) / E.reg.sz U * E.reg.sz U + j)) undef)
                  (fun j hj => by rw [Nat.add_assoc]; exact h4 _ (by omega)) (fun j s hs => h5 _ s (hget j s hs)) (u := st.u) (fun j s hs => h6 _ s (hget j s hs))
                exact ⟨v, hload v (by rw [Nat.add_assoc, hdm] at g1; exact g1), g2, g3⟩
              · exact .no
    · exact .no
end
end Go.Sx
