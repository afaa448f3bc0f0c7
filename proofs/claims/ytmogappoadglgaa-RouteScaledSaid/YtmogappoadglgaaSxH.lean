/-
  Own tool 'Sx', part H: comparisons, lengths, slicing, append; all operations that call no Go function.
-/
import Derived.Test.YtmogappoadglgaaSxG
import Derived.Laws.StructEq
namespace Go.Sx
open Go
variable {A : Nat → Type}
section
variable {P : Program} {E : Env A} {n : Nat} {X E0 : Nat → Prop} {ρ0 : Rho} {w0 : World} {st : St A} {ρ : Rho} {a : Act} {w : World} {d : Option Tmp}

/-! ### '==' -/
theorem val_inv {R : Reg A} {O : Nat → Prop} {u v : Value} (h : Den R ρ O w (.val u) v) : v = u := by cases h; rfl
theorem eq1_run {O : Nat → Prop} {T : TypeId} {ti : TI} (ht : tiOf P T = some ti) {c e : SV A} {b : Bool} (h : eq1 ti.k c e = some b)
    {u v : Value} (hu : Den E.reg ρ O w c u) (hv : Den E.reg ρ O w e v) (dd : Nat) : (Op.equalIn (dd + 1) T u v).run P w = .ok b w ∧ ti.k.isAgg = false := by
  obtain ⟨d, i, hd, hi, hkd, _⟩ := tiOf_inv ht
  generalize hk : ti.k = kk at h hkd
  unfold eq1 at h
  split at h
  · rename_i k0 k x j y
    obtain rfl := val_inv hu
    obtain rfl := val_inv hv
    split at h
    · rename_i he
      obtain rfl := kEq_spec he
      cases h
      exact ⟨run_equalIn_int w dd T k k0 x y (kind_int hkd ▸ hd), rfl⟩
    · cases h
  · obtain rfl := val_inv hu
    obtain rfl := val_inv hv
    cases h
    exact ⟨run_equalIn_bool w dd T _ _ (kind_bool hkd ▸ hd), rfl⟩
  · obtain rfl := val_inv hu
    obtain rfl := val_inv hv
    cases h
    exact ⟨run_equalIn_string w dd T _ _ (kind_str hkd ▸ hd), rfl⟩
  · cases h
theorem part_one {T : TypeId} {ti : TI} (ht : tiOf P T = some ti) (hk : ti.k.isAgg = false) {c : Array Value} {off : Nat} {u : Value} (hu : c[off]? = some u) : (part T c off).run P w = .ok u w := by
  simp [part, run_isAgg_sx ht, hk, hu]
theorem eqParts_fields (hE : E.Ok P) {O : Nat → Prop} {cs ds : List (SV A)} {c1 c2 : Array Value} (h1 : cs.length = c1.size) (d1 : ∀ (j : Nat) s u, cs[j]? = some s → c1[j]? = some u → Den E.reg ρ O w s u)
    (h2 : ds.length = c2.size) (d2 : ∀ (j : Nat) s u, ds[j]? = some s → c2[j]? = some u → Den E.reg ρ O w s u) (dd : Nat) : ∀ (fs : List Field) (b : Bool), fs.all (fun f => f.name != "_") = true → eqParts E.tt cs ds (fs.map fun f => (f.offset, f.type)) = some b →
    (Op.eqFields (dd + 1) c1 c2 fs).run P w = .ok b w
  | [], b, _, h => by simp [eqParts] at h; subst h; simp [Op.eqFields]
  | f :: fs, b, hn, h => by
    simp only [List.all_cons, Bool.and_eq_true, bne_iff_ne] at hn
    simp only [List.map_cons, eqParts] at h
    split at h
    · rename_i ti c e hti hc he
      split at h
      · rename_i b1 r hb1 hr
        cases h
        rw [nth_eq] at hc he
        have l1 := (List.getElem?_eq_some_iff.1 hc).1
        have l2 := (List.getElem?_eq_some_iff.1 he).1
        have u1 : c1[f.offset]? = some c1[f.offset] := Array.getElem?_eq_getElem (by omega)
        have u2 : c2[f.offset]? = some c2[f.offset] := Array.getElem?_eq_getElem (by omega)
        obtain ⟨g1, g2⟩ := eq1_run (hE.tt _ _ hti) hb1 (d1 _ _ _ hc u1) (d2 _ _ _ he u2) dd
        have ih := eqParts_fields hE h1 d1 h2 d2 dd fs r hn.2 hr
        simp only [Op.eqFields, if_pos hn.1, Sem.run_bind, part_one (hE.tt _ _ hti) g2 u1, part_one (hE.tt _ _ hti) g2 u2, Result.andThen_ok, g1]
        cases b1 with
        | false => simp
        | true => simpa using ih
      · cases h
    · cases h
theorem eqParts_arr (hE : E.Ok P) {O : Nat → Prop} {cs ds : List (SV A)} {c1 c2 : Array Value} (h1 : cs.length = c1.size) (d1 : ∀ (j : Nat) s u, cs[j]? = some s → c1[j]? = some u → Den E.reg ρ O w s u)
    (h2 : ds.length = c2.size) (d2 : ∀ (j : Nat) s u, ds[j]? = some s → c2[j]? = some u → Den E.reg ρ O w s u) {T elem : TypeId} {len : Nat} (hu : P.underlying T = some (.array len elem)) {te : TI} (hte : E.tt elem = some te) (hsz : te.size = 1) (dd : Nat) (b : Bool)
    (h : eqParts E.tt cs ds (rng elem 0 len) = some b) : (Op.equalIn (dd + 2) T (.agg c1) (.agg c2)).run P w = .ok b w := by
  have key : ∀ (k i : Nat) (b : Bool), eqParts E.tt cs ds (rng elem i k) = some b →
      (forIn (m := Sem) (List.range' i k) ((none, ()) : Option Bool × Unit) fun i _ => do
        if !(← Op.equalIn (dd + 1) elem (← part elem c1 (i * 1)) (← part elem c2 (i * 1))) then pure (ForInStep.done (some false, ())) else pure (ForInStep.yield (none, ()))).run P w = .ok (if b then (none, ()) else (some false, ())) w := by
    intro k
    induction k with
    | zero => intro i b h; simp [rng, eqParts] at h; subst h; simp
    | succ k ih =>
      intro i b h
      simp only [rng, eqParts] at h
      split at h
      · rename_i ti c e hti hc he
        split at h
        · rename_i b1 r hb1 hr
          cases h
          rw [nth_eq] at hc he
          have l1 := (List.getElem?_eq_some_iff.1 hc).1
          have l2 := (List.getElem?_eq_some_iff.1 he).1
          have u1 : c1[i]? = some c1[i] := Array.getElem?_eq_getElem (by omega)
          have u2 : c2[i]? = some c2[i] := Array.getElem?_eq_getElem (by omega)
          obtain ⟨g1, g2⟩ := eq1_run (hE.tt _ _ hti) hb1 (d1 _ _ _ hc u1) (d2 _ _ _ he u2) dd
          have ih := ih (i + 1) r hr
          simp only [List.range'_succ, List.forIn_cons, Sem.run_bind, Nat.mul_one, part_one (hE.tt _ _ hti) g2 u1, part_one (hE.tt _ _ hti) g2 u2, Result.andThen_ok, g1]
          cases b1 with
          | false => simp
          | true => simpa using ih
        · cases h
      · cases h
  have hk := key len 0 b h
  have hs := run_sizeOf_sx (hE.tt elem te hte)
  rw [Op.equalIn]
  simp only [Sem.run_bind, run_underlying hu, Result.andThen_ok, hs, hsz]
  simp only [Std.Legacy.Range.forIn_eq_forIn_range', Std.Legacy.Range.size, Nat.sub_zero, Nat.add_sub_cancel, Nat.div_one] at *
  rw [hk]
  cases b <;> simp
theorem snd_xeq_nil (hE : E.Ok P) {T : TypeId} {ti : TI} (hti : E.tt T = some ti) {e : TypeId} (hk : ti.k = .ptr e) {x : SV A} {v : Value} {O : Nat → Prop} (hv : Den E.reg ρ O w x v) (hn : notNil x = true) :
    (Op.equal T v (.pointer none)).run P w = .ok false w := by
  obtain ⟨d, i, hd, hi, hkd, _⟩ := tiOf_inv (hE.tt T ti hti)
  rw [hk] at hkd
  obtain rfl := kind_ptr hkd
  have : ∃ b, v = .pointer (some b) := by
    cases hv <;> first | exact ⟨_, rfl⟩ | cases hn
  obtain ⟨b, rfl⟩ := this
  have : ∀ k, (Op.equalIn (k + 1) T (.pointer (some b)) (.pointer none)).run P w = .ok false w := fun k => by
    rw [Op.equalIn, Sem.run_bind, run_underlying hd]
    rfl
  exact this 9999

theorem snd_eqAgg (hE : E.Ok P) {O : Nat → Prop} {T : TypeId} {x y : SV A} {b : Bool} (h : eqAgg E T x y = some b) {u v : Value} (hu : Den E.reg ρ O w x u) (hv : Den E.reg ρ O w y v) :
    ∃ c1 c2, u = .agg c1 ∧ v = .agg c2 ∧ P.eqGuardType P.depth T = false ∧ (Op.equalIn 10000 T (.agg c1) (.agg c2)).run P w = .ok b w := by
  unfold eqAgg at h
  split at h
  · rename_i ti hti ha1 ha2
    obtain ⟨c1, rfl⟩ := agg_inv hu ha1
    obtain ⟨c2, rfl⟩ := agg_inv hv ha2
    obtain ⟨h1, d1⟩ := hu.cells
    obtain ⟨h2, d2⟩ := hv.cells
    obtain ⟨d, i, hd, hi, hkd, _, _, _, he, hnb⟩ := tiOf_inv (hE.tt T ti hti)
    split at h
    · rename_i fs heq hk
      rw [hk] at hkd
      obtain ⟨fields, rfl, rfl⟩ := kind_struct hkd
      rw [heq] at he
      simp only [Bool.and_eq_true, Bool.not_eq_true'] at he
      refine ⟨c1, c2, rfl, rfl, he.2, ?_⟩
      have hf : P.fieldsOf T = fields := by simp [Program.fieldsOf, hd]
      rw [run_equalIn_struct w 9999 T c1 c2 (by rw [hf]; exact hd) he.1.2, hf]
      exact eqParts_fields hE h1 d1 h2 d2 9998 fields.toList b hnb h
    · rename_i len elem heq hk
      rw [hk] at hkd
      obtain rfl := kind_arr hkd
      rw [heq] at he
      simp only [Bool.and_eq_true, Bool.not_eq_true'] at he
      split at h
      · rename_i te hte
        split at h
        · rename_i hsz
          exact ⟨c1, c2, rfl, rfl, he.2, eqParts_arr hE h1 d1 h2 d2 hd hte (beq_true hsz) 9998 b h⟩
        · cases h
      · cases h
    · cases h
  · cases h
theorem Snd.told (hI : SInv E.reg n X E0 ρ0 w0 st ρ a w) (hd : okDst n d = true) {p : Prop} [Decidable p] {s : Sem Value} (hs : s.run P w = .ok (.bool (decide p)) w) : Snd P E.reg n X E0 ρ0 w0 st a w d (Sx.told p) s :=
  .all fun c hc => by subst hc; exact .ret hI hd hs (.val _) rfl
theorem snd_xnilS (hE : E.Ok P) (hI : SInv E.reg n X E0 ρ0 w0 st ρ a w) (hd : okDst n d = true) {neg : Bool} {T : TypeId} {ox oy : Operand} {x : SV A} {u : Value}
    (hu : Den E.reg ρ (fun b => X b ∨ OwnB st.h ρ b) w x u) :
    Snd P E.reg n X E0 ρ0 w0 st a w d (xnilS E neg T x) (do eqGuard (if neg then .neq else .eql) T ox oy u (.slice none 0 0); binOp (if neg then .neq else .eql) T u (.slice none 0 0)) := by
  unfold xnilS
  split
  · rename_i ti hti
    obtain ⟨dd, i, hdd, hi, hkd, _⟩ := tiOf_inv (hE.tt T ti hti)
    split
    · rename_i e hk
      rw [hk] at hkd
      obtain rfl := kind_slice hkd
      have hsome : ∀ (p : Addr) (l c : Nat), (Op.equal T (.slice (some p) l c) (.slice none 0 0)).run P w = .ok false w := fun p l c => by
        have : ∀ k, (Op.equalIn (k + 1) T (.slice (some p) l c) (.slice none 0 0)).run P w = .ok false w := fun k => by
          rw [Op.equalIn, Sem.run_bind, run_underlying hdd]; rfl
        exact this 9999
      have hnone : (Op.equal T (.slice none 0 0) (.slice none 0 0)).run P w = .ok true w := by
        have : ∀ k, (Op.equalIn (k + 1) T (.slice none 0 0) (.slice none 0 0)).run P w = .ok true w := fun k => by
          rw [Op.equalIn, Sem.run_bind, run_underlying hdd]; rfl
        exact this 9999
      have sm : ∀ (p : Addr) (l c : Nat), Snd P E.reg n X E0 ρ0 w0 st a w d (.fin [] [] (.ret (.val (.bool neg)) [])) (do eqGuard (if neg then .neq else .eql) T ox oy (.slice (some p) l c) (.slice none 0 0); binOp (if neg then .neq else .eql) T (.slice (some p) l c) (.slice none 0 0)) := fun p l c => by
        cases neg with
        | true => exact .pure hI hd (v := .bool true) (by simp [eqGuard, binOp, hsome]) (.val _) rfl
        | false => exact .pure hI hd (v := .bool false) (by simp [eqGuard, binOp, hsome]) (.val _) rfl
      split
      · obtain rfl := val_inv hu
        cases neg with
        | true => exact .pure hI hd (v := .bool false) (by simp [eqGuard, binOp, hnone]) (.val _) rfl
        | false => exact .pure hI hd (v := .bool true) (by simp [eqGuard, binOp, hnone]) (.val _) rfl
      · refine .vc fun hl => ?_
        cases hu with
        | slnil _ _ _ => exact absurd hl (Nat.lt_irrefl _)
        | sl _ _ _ _ cap b base o c F fz _ _ _ _ _ => exact sm _ _ _
      · refine .vc fun hl => ?_
        cases hu with
        | lnil _ _ _ => exact absurd hl (Nat.lt_irrefl _)
        | lempty _ _ _ _ => exact absurd hl (Nat.lt_irrefl _)
        | lst _ _ b off cap c F fz g _ _ _ _ _ => exact sm _ _ _
      · exact .no
    · exact .no
  · exact .no
theorem snd_xeq (hE : E.Ok P) (hI : SInv E.reg n X E0 ρ0 w0 st ρ a w) (hd : okDst n d = true) {neg : Bool} {T : TypeId} {ox oy : Operand} {x y : SV A} {u v : Value}
    (hu : Den E.reg ρ (fun b => X b ∨ OwnB st.h ρ b) w x u) (hv : Den E.reg ρ (fun b => X b ∨ OwnB st.h ρ b) w y v) :
    Snd P E.reg n X E0 ρ0 w0 st a w d (xeq E neg T x y) (do eqGuard (if neg then .neq else .eql) T ox oy u v; binOp (if neg then .neq else .eql) T u v) := by
  unfold xeq
  split
  · obtain rfl := val_inv hv
    exact snd_xnilS hE hI hd hu
  · obtain rfl := val_inv hv
    split
    · rename_i ti hti
      split
      · rename_i e hk hn
        have hr := snd_xeq_nil hE hti hk hu hn
        have hb : ∃ b, u = .pointer (some b) := by cases hu <;> first | exact ⟨_, rfl⟩ | cases hn
        obtain ⟨b, rfl⟩ := hb
        cases neg with
        | true => exact .pure hI hd (v := .bool true) (by simp [eqGuard, binOp, hr]) (.val _) rfl
        | false => exact .pure hI hd (v := .bool false) (by simp [eqGuard, binOp, hr]) (.val _) rfl
      · exact .no
    · exact .no
  · split
    · rename_i b hb
      obtain ⟨c1, c2, rfl, rfl, hg, hr⟩ := snd_eqAgg hE hb hu hv
      split
      · refine .told hI hd ?_
        rw [show decide (b = false) = !b by cases b <;> rfl]
        simp only [if_true, Sem.run_bind, run_eqGuard_agg w _ T ox oy c1 c2 hg, Result.andThen_ok, run_neq_struct, hr]
      · refine .told hI hd ?_
        rw [show decide (b = true) = b by cases b <;> rfl]
        simp only [Bool.false_eq_true, if_false, Sem.run_bind, run_eqGuard_agg w _ T ox oy c1 c2 hg, Result.andThen_ok, run_eql_struct, hr]
    · exact .no

theorem bne_eq (a b : Int) : (a != b) = decide (¬ a = b) := by by_cases h : a = b <;> simp [h]
theorem beq_dec {α : Type} [DecidableEq α] (a b : List α) : (a == b) = decide (a = b) := by
  by_cases h : a = b
  · subst h; simp
  · simp [h]
theorem snd_bin (hE : E.Ok P) (hI : SInv E.reg n X E0 ρ0 w0 st ρ a w) (hd : okDst n d = true) {wr : Bool} {op : BinOp} {T : TypeId} {ox oy : Operand} {x y : SV A} {u v : Value}
    (hu : Den E.reg ρ (fun b => X b ∨ OwnB st.h ρ b) w x u) (hv : Den E.reg ρ (fun b => X b ∨ OwnB st.h ρ b) w y v) :
    Snd P E.reg n X E0 ρ0 w0 st a w d (xbin E wr op T x y) (do eqGuard op T ox oy u v; binOp op T u v) := by
  unfold xbin
  split
  · rename_i k p j q
    obtain rfl := val_inv hu
    obtain rfl := val_inv hv
    split
    · exact .no
    · rename_i he
      obtain rfl := kEq_spec he
      split
      · exact snd_arith hI hd (by simp [eqGuard, binOp, Op.intArith])
      · exact snd_arith hI hd (by simp [eqGuard, binOp, Op.intArith])
      · exact snd_arith hI hd (by simp [eqGuard, binOp, Op.intArith])
      · refine .vc fun h0 => .vc fun hr => .ret hI hd (v := .int k (p.tdiv q)) ?_ (.val _) rfl
        simp [eqGuard, binOp, Op.intDiv, h0, inR_wrap hr]
      · refine .vc fun h0 => .ret hI hd (v := .int k (p.tmod q)) ?_ (.val _) rfl
        simp [eqGuard, binOp, Op.intDiv, h0]
      · exact .told hI hd (by simp [eqGuard, binOp, Op.intCmp]; rfl)
      · exact .told hI hd (by simp [eqGuard, binOp, Op.intCmp, bne_eq])
      · exact .told hI hd (by simp [eqGuard, binOp, Op.intCmp])
      · exact .told hI hd (by simp [eqGuard, binOp, Op.intCmp])
      · exact .told hI hd (by simp [eqGuard, binOp, Op.intCmp])
      · exact .told hI hd (by simp [eqGuard, binOp, Op.intCmp])
      · exact .no
  · rename_i p q
    obtain rfl := val_inv hu
    obtain rfl := val_inv hv
    split
    · rename_i ti hti
      obtain ⟨dd, i, hdd, hi, hkd, _⟩ := tiOf_inv (hE.tt T ti hti)
      split
      · rename_i hk
        rw [hk] at hkd
        obtain rfl := kind_bool hkd
        exact .told hI hd (by rw [show decide (p = q) = (p == q) by cases p <;> cases q <;> rfl]; simp [eqGuard, binOp, Op.equal, Op.maxDepth, run_equalIn_bool w 9999 T p q hdd])
      · rename_i hk
        rw [hk] at hkd
        obtain rfl := kind_bool hkd
        exact .told hI hd (by rw [show decide (¬ p = q) = !(p == q) by cases p <;> cases q <;> rfl]; simp [eqGuard, binOp, Op.equal, Op.maxDepth, run_equalIn_bool w 9999 T p q hdd])
      · exact .no
    · exact .no
  · rename_i p q
    obtain rfl := val_inv hu
    obtain rfl := val_inv hv
    split
    · exact .told hI hd (by rw [← beq_dec]; simp [eqGuard, binOp, Op.stringOp])
    · exact .told hI hd (by rw [decide_not, ← beq_dec]; simp [eqGuard, binOp, Op.stringOp])
    · refine .vc fun h => .ret hI hd (v := .string (p ++ q)) ?_ (.val _) rfl
      have : ¬ (((p.size + q.size : Nat) : Int) > IntKind.i64.max) := by
        have : IntKind.i64.max = 9223372036854775807 := by decide
        omega
      simp only [eqGuard, binOp, Op.stringOp]
      simp at this
      simp [this]
    · exact .no
  · split
    · exact snd_xeq hE hI hd hu hv
    · exact snd_xeq hE hI hd hu hv
    · exact .no

theorem snd_un (hI : SInv E.reg n X E0 ρ0 w0 st ρ a w) (hd : okDst n d = true) {wr : Bool} {op : UnOp} {x : SV A} {u : Value}
    (hu : Den E.reg ρ (fun b => X b ∨ OwnB st.h ρ b) w x u) : Snd P E.reg n X E0 ρ0 w0 st a w d (xun wr op x) (Op.unary op u) := by
  unfold xun
  split
  · obtain rfl := val_inv hu
    exact .pure hI hd (by simp [Op.unary]) (.val _) rfl
  · obtain rfl := val_inv hu
    exact snd_arith hI hd (by simp [Op.unary, Op.intArith])
  · exact .no

theorem snd_len (hE : E.Ok P) (hI : SInv E.reg n X E0 ρ0 w0 st ρ a w) (hd : okDst n d = true) {T : TypeId} {ats : Array TypeId} (hat : ats[0]? = some T) {ty : TypeId} {x : SV A} {u : Value}
    (hu : Den E.reg ρ (fun b => X b ∨ OwnB st.h ρ b) w x u) : Snd P E.reg n X E0 ρ0 w0 st a w d (xlen E T x) (Builtin.len_ ats ty #[u]) := by
  unfold xlen
  split
  · rename_i ti hti
    obtain ⟨dd, i, hdd, hi, hkd, _⟩ := tiOf_inv (hE.tt T ti hti)
    split
    · rename_i el hk
      rw [hk] at hkd
      obtain rfl := kind_slice hkd
      have hrun : ∀ b len cap, (Builtin.len_ ats ty #[.slice b len cap]).run P w = .ok (.int .i64 len) w := fun b len cap => by
        simp [Builtin.len_, hat, run_underlying hdd, goInt]
      split
      · cases hu with
        | slnil => exact .pure hI hd (hrun _ _ _) (.val _) rfl
        | sl _ _ _ len cap => exact .pure hI hd (hrun _ _ _) (.val _) rfl
      · cases hu with
        | lnil => exact .pure hI hd (hrun _ _ _) (.val _) rfl
        | lempty => exact .pure hI hd (hrun _ _ _) (.val _) rfl
        | lst => exact .pure hI hd (hrun _ _ _) (.val _) rfl
      · obtain rfl := val_inv hu
        exact .pure hI hd (hrun _ _ _) (.val _) rfl
      · exact .no
    · rename_i hk
      rw [hk] at hkd
      obtain rfl := kind_str hkd
      split
      · obtain rfl := val_inv hu
        exact .pure hI hd (by simp [Builtin.len_, hat, run_underlying hdd, goInt]) (.val _) rfl
      · exact .no
    · exact .no
  · exact .no

theorem snd_minmax (hI : SInv E.reg n X E0 ρ0 w0 st ρ a w) (hd : okDst n d = true) {mx : Bool} {vs : List (SV A)} {us : List Value} {ats : Array TypeId} {ty : TypeId}
    (hl : vs.length = us.length) (hu : ∀ (j : Nat) s v, vs[j]? = some s → us[j]? = some v → Den E.reg ρ (fun b => X b ∨ OwnB st.h ρ b) w s v) :
    Snd P E.reg n X E0 ρ0 w0 st a w d (xminmax mx vs) (if mx then Builtin.max_ ats ty us.toArray else Builtin.min_ ats ty us.toArray) := by
  unfold xminmax
  split
  · rename_i k p j q
    match us, hl with
    | [u, v], _ =>
      obtain rfl := val_inv (hu 0 _ _ rfl rfl)
      obtain rfl := val_inv (hu 1 _ _ rfl rfl)
      split
      · rename_i he
        obtain rfl := kEq_spec he
        split
        · refine .pure hI hd (v := .int k (max p q)) ?_ (.val _) rfl
          simp only [if_true, Builtin.max_, List.foldlM, Builtin.max2]
          have : (if q > p then q else p) = max p q := by split <;> omega
          simp [this]
        · refine .pure hI hd (v := .int k (min p q)) ?_ (.val _) rfl
          simp only [Bool.false_eq_true, if_false, Builtin.min_, List.foldlM, Builtin.min2]
          have : (if q < p then q else p) = min p q := by split <;> omega
          simp [this]
      · exact .no
  · exact .no

/-! ### Slicing -/
theorem bnd_spec {O : Nat → Prop} {R : Reg A} {lo : Option (SV A)} {l : Option Int} (h : bnd lo = some l) {v : Option Value} (hv : match lo, v with | none, none => True | some s, some u => Den R ρ O w s u | _, _ => False) :
    match l, v with | none, none => True | some z, some u => ∃ k, u = .int k z | _, _ => False := by
  unfold bnd at h
  split at h
  · cases h; cases v <;> simp_all
  · cases h
    cases v with
    | none => exact hv
    | some u => obtain rfl := val_inv hv; exact ⟨_, rfl⟩
  · cases h
theorem run_bound (k : IntKind) (z : Int) (y : Nat) (code : BoundsCode) (h : 0 ≤ z ∧ z ≤ y) : (Instr.sliceBound (.int k z) y code).run P w = .ok z.toNat w := by
  simp [Instr.sliceBound, asIntOf, h]
def LowIs (l : Int) : Option Value → Prop
  | none => l = 0
  | some u => ∃ k, u = .int k l
def HiIs (m len : Int) : Option Value → Prop
  | none => m = len
  | some u => ∃ k, u = .int k m
theorem run_bounds {isSlice : Bool} {len cap : Nat} {lo hi : Option Value} {l m : Int} (hlo : LowIs l lo) (hhi : HiIs m len hi) (h0 : 0 ≤ l) (h1 : l ≤ m) (h2 : m ≤ cap) (_h3 : len ≤ cap) :
    (Instr.sliceBounds isSlice len cap lo hi none).run P w = .ok (l.toNat, m.toNat, cap) w := by
  cases lo with
  | none =>
    have hlo : l = 0 := hlo; subst hlo
    cases hi with
    | none => have hhi : m = len := hhi; subst hhi; simp [Instr.sliceBounds]
    | some u => obtain ⟨k, rfl⟩ := hhi; simp [Instr.sliceBounds, run_bound (P := P) (w := w) k m cap _ ⟨by omega, h2⟩]
  | some v =>
    obtain ⟨j, rfl⟩ := hlo
    cases hi with
    | none =>
      have hhi : m = len := hhi; subst hhi
      simp [Instr.sliceBounds, run_bound (P := P) (w := w) j l len _ ⟨h0, h1⟩]
    | some u =>
      obtain ⟨k, rfl⟩ := hhi
      simp [Instr.sliceBounds, run_bound (P := P) (w := w) k m cap _ ⟨by omega, h2⟩, run_bound (P := P) (w := w) j l m.toNat _ ⟨h0, by omega⟩]
end
end Go.Sx
