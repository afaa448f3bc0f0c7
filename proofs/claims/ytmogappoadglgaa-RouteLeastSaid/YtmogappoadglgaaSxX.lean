/-
  Own tool 'Sx', part X: from what a function meets to a given statement: what came in, read.
-/
import Derived.Test.YtmogappoadglgaaSxW
import Derived.ProofKit
import Derived.Below
import Derived.ChangeSame
import Derived.ChangeOld
import Derived.OpenShut
import Derived.SizedLaws
import Derived.Deep.Slices
namespace Go.Sx
open Go Go.Proofs Go.Proofs.Ytmogappoadglgaa
open Go.ChangeShapes Go.WideShapes Go.RowKit
section
variable {H : Type} {enc : TypeId × Value → H} {P : Program}
theorem trodAll_stays (hl : laidOutB P = true) {W W' : World} {sp : Nat → Bool} : ∀ {ts : List TypeId} {vs : List Value} {ds : List (DataW H)} {ps : List MemPlace},
    (ts.all fun t => P.readableRec t && decide (t < P.types.size)) = true → DataW.TrodAll enc P W 0 (fun _ => true) true ts vs ds ps →
    (∀ p ∈ ps, W.sameAt W' p) → (∀ p ∈ ps, sp p.block = true) → DataW.TrodAll enc P W' 0 sp true ts vs ds ps
  | [], [], [], _, _, h, _, _ => h
  | t :: ts, v :: vs, d :: ds, ps, hr, h, hs, hp => by
    obtain ⟨p, q, h1, h2, rfl⟩ := h
    simp only [List.all_cons, Bool.and_eq_true, decide_eq_true_eq] at hr
    exact ⟨p, q, WideElems.Trod_stays hl hr.1.1 hr.1.2 h1 (fun x hx => hs x (List.mem_append_left _ hx)) (fun x hx => hp x (List.mem_append_left _ hx)),
      trodAll_stays hl (by simpa using hr.2) h2 (fun x hx => hs x (List.mem_append_right _ hx)) (fun x hx => hp x (List.mem_append_right _ hx)), rfl⟩
  | [], _ :: _, _, _, _, h, _, _ => h.elim
  | [], [], _ :: _, _, _, h, _, _ => h.elim
  | _ :: _, [], _, _, _, h, _, _ => h.elim
  | _ :: _, _ :: _, [], _, _, h, _, _ => h.elim
/-- What is read at a value's cells is this; whatever names stand for, and whatever is somebody's. -/
def Says (w : World) (s : SV AF) (v : Value) : Prop := ∀ (ρ : Rho) (O : Nat → Prop), (∀ b, ¬ O b) → Den regF ρ O w s v
def SaysL (w : World) (ss : List (SV AF)) (cs : List Value) : Prop := ss.length = cs.length ∧ ∀ (j : Nat) s v, ss[j]? = some s → cs[j]? = some v → Says w s v
/-- Elements of a type that read as data. -/
def Rd (P : Program) (e : TypeId) (good : AF e → Prop) : Prop := ∀ {H : Type} {enc : TypeId × Value → H} {w : World} {sp : Nat → Bool} {n : Nat} {cs : List Value} {x : DataW H × List MemPlace},
  DataW.trod enc P w 0 sp true n e cs = some x → ∃ y : AF e, good y ∧ SaysL w (regF.enc e y) cs
/-- A parameter that reads as data. -/
def RdA (P : Program) {α : Type} (t : TypeId) (f : α → SV AF) (good : α → Prop) : Prop := ∀ {H : Type} {enc : TypeId × Value → H} {w : World} {sp : Nat → Bool} {base : Nat} {v : Value} {d : DataW H} {ps : List MemPlace},
  DataW.Trod enc P w 0 sp true t v d ps → Value.okWide P w .any base t v → ∃ y : α, good y ∧ Says w (f y) v
theorem saysL_nil {w : World} : SaysL w [] [] := ⟨rfl, fun j s v h => by simp at h⟩
theorem saysL_cons {w : World} {s : SV AF} {v : Value} {ss : List (SV AF)} {cs : List Value} (h : Says w s v) (h2 : SaysL w ss cs) : SaysL w (s :: ss) (v :: cs) :=
  ⟨by simp [h2.1], fun j t u ht hu => by
    cases j with
    | zero => simp at ht hu; subst ht; subst hu; exact h
    | succ j => exact h2.2 j t u (by simpa using ht) (by simpa using hu)⟩
theorem saysL_append {w : World} {ss ts : List (SV AF)} {cs ds : List Value} (h : SaysL w ss cs) (h2 : SaysL w ts ds) : SaysL w (ss ++ ts) (cs ++ ds) :=
  ⟨by simp [h.1, h2.1], fun j t u ht hu => by
    by_cases hj : j < ss.length
    · rw [List.getElem?_append_left hj] at ht
      rw [List.getElem?_append_left (by rw [← h.1]; exact hj)] at hu
      exact h.2 j t u ht hu
    · rw [List.getElem?_append_right (by omega)] at ht
      rw [List.getElem?_append_right (by rw [← h.1]; omega), ← h.1] at hu
      exact h2.2 _ t u ht hu⟩
theorem says_val {w : World} (v : Value) : Says w (.val v) v := fun _ _ _ => .val v
theorem wf_i64 {n : Int} (h : (Lit.int .i64 n).wf = true) : InI n := by
  simp [Lit.wf, IntKind.min, IntKind.max, IntKind.bits, IntKind.signed] at h
  exact ⟨by omega, by omega⟩
/-- A slice that came in: its length is what the reading has. -/
def RdS (P : Program) {α : Type} (t : TypeId) (f : List α → SV AF) (good : List α → Prop) : Prop := ∀ {H : Type} {enc : TypeId × Value → H} {w : World} {sp : Nat → Bool} {base : Nat} {v : Value} {d : DataW H} {ps : List MemPlace},
  DataW.Trod enc P w 0 sp true t v d ps → Value.okWide P w .any base t v → ∃ y : List α, good y ∧ Says w (f y) v ∧ (y = [] ∨ ∃ elems spare, d = .slice elems spare ∧ y.length = elems.length)
/-- A slice that reads as data is a list in memory that nobody writes. -/
theorem rd_slice {t e : TypeId} {good : AF e → Prop} (ht : P.underlying t = some (.slice e)) (hsz : P.cellsOf e = regF.sz e) (hpos : 1 ≤ regF.sz e) (hr : Rd P e good) :
    ∀ {H : Type} {enc : TypeId × Value → H} {w : World} {sp : Nat → Bool} {n : Nat} {cs : List Value} {x : DataW H × List MemPlace}, DataW.trod enc P w 0 sp true n t cs = some x →
      ∃ xs : List (AF e), (xs.length ≤ 9223372036854775807 ∧ ∀ y ∈ xs, good y) ∧ SaysL w [.lst e xs] cs ∧ (xs = [] ∨ ∃ elems spare, x.1 = .slice elems spare ∧ xs.length = elems.length) := by
  intro H enc w sp n cs x h
  rcases Deep.open_slice ht h with ⟨rfl, _⟩ | ⟨⟨b, off, spot⟩, len, cap, m, k, D, Pl, rfl, _, hl, hcap, hm, hxe, hx⟩
  · exact ⟨[], ⟨Nat.zero_le _, fun _ h => by simp at h⟩, saysL_cons (fun _ _ _ => .lnil e 0 rfl) saysL_nil, .inl rfl⟩
  have hlm : len ≤ m := by rw [hm]; split <;> omega
  rw [hsz] at hx
  have each : ∀ i, i < len → ∃ y : AF e, good y ∧ ∃ cs' : List Value, SaysL w (regF.enc e y) cs' ∧ ∀ j, j < regF.sz e → w.cell? ((⟨b, off, spot⟩ : Addr).add (i * regF.sz e + j)) = cs'[j]? := fun i hi => by
    obtain ⟨cs', h1, h2⟩ := hx i (by omega)
    obtain ⟨_, hlen, hc⟩ := World.cells?_some h1
    obtain ⟨y, g1, g2⟩ := hr h2
    exact ⟨y, g1, cs', g2, fun j hj => by rw [← hc j hj, Deep.add_add]⟩
  by_cases h0 : len = 0
  · subst h0
    exact ⟨[], ⟨Nat.zero_le _, fun _ h => by simp at h⟩, saysL_cons (fun _ _ _ => .lempty e _ cap (by simp)) saysL_nil, .inl rfl⟩
  obtain ⟨y0, _, cs0, hs0, hc0⟩ := each 0 (by omega)
  haveI : Nonempty (AF e) := ⟨y0⟩
  obtain ⟨F, hF⟩ : ∃ F : Nat → AF e, ∀ i, i < len → good (F i) ∧ ∃ cs' : List Value, SaysL w (regF.enc e (F i)) cs' ∧ ∀ j, j < regF.sz e → w.cell? ((⟨b, off, spot⟩ : Addr).add (i * regF.sz e + j)) = cs'[j]? := by
    classical
    exact ⟨fun i => if hi : i < len then Classical.choose (each i hi) else y0, fun i hi => by simp only [dif_pos hi]; exact Classical.choose_spec (each i hi)⟩
  have hlen0 : cs0.length = regF.sz e := by rw [← hs0.1]; exact regF.len e y0
  have hcell0 : w.cell? ((⟨b, off, spot⟩ : Addr).add 0) = some cs0[0] := by
    have := hc0 0 hpos
    rw [Nat.zero_mul, Nat.zero_add] at this
    rw [this]; exact List.getElem?_eq_getElem (by omega)
  have hspot : spot = none := by simpa [Addr.add] using World.cell?_spot hcell0
  subst hspot
  rw [add_off, Nat.add_zero] at hcell0
  unfold World.cell? at hcell0
  dsimp only at hcell0
  split at hcell0
  · rename_i c T fz hb
    have hcell : ∀ i, i < len → ∀ j, j < regF.sz e → ∀ v, w.cell? ((⟨b, off, none⟩ : Addr).add (i * regF.sz e + j)) = some v → c[off + i * regF.sz e + j]? = some v := fun i hi j hj v hv => by
      rw [add_off, cell_at hb] at hv
      rw [Nat.add_assoc]; exact hv
    have hxs : ∀ (i : Nat) y, ((List.range len).map F)[i]? = some y → i < len ∧ y = F i := fun i y hy => by
      have hlt : i < len := by simpa using (List.getElem?_eq_some_iff.1 hy).1
      simp [hlt] at hy
      exact ⟨hlt, hy.symm⟩
    refine ⟨(List.range len).map F, ⟨by simp only [List.length_map, List.length_range]; simp only [maxLen] at hcap; omega, fun y hy => ?_⟩, saysL_cons (fun ρ O hO => ?_) saysL_nil, .inr ⟨(List.range len).map D, _, by rw [hxe], by simp⟩⟩
    · obtain ⟨i, hi, rfl⟩ := List.mem_map.1 hy
      exact (hF i (by simpa using hi)).1
    · have key := Den.lst (R := regF) (ρ := ρ) (O := O) (w := w) e ((List.range len).map F) b off cap c T fz (fun i j => c.getD (off + i * regF.sz e + j) undef) (hO b) hb (by simpa using hl)
        (fun i y hy j hj => by
          obtain ⟨hi, rfl⟩ := hxs i y hy
          obtain ⟨_, cs', g1, g2⟩ := hF i hi
          have hlen : cs'.length = regF.sz e := by rw [← g1.1]; exact regF.len e (F i)
          have := hcell i hi j hj cs'[j] (by rw [g2 j hj]; exact List.getElem?_eq_getElem (by omega))
          simp [this])
        (fun i y hy j s hs => by
          obtain ⟨hi, rfl⟩ := hxs i y hy
          obtain ⟨_, cs', g1, g2⟩ := hF i hi
          have hlen : cs'.length = regF.sz e := by rw [← g1.1]; exact regF.len e (F i)
          have hj : j < regF.sz e := by rw [← regF.len e (F i)]; exact (List.getElem?_eq_some_iff.1 hs).1
          have := hcell i hi j hj cs'[j] (by rw [g2 j hj]; exact List.getElem?_eq_getElem (by omega))
          have e2 : c.getD (off + i * regF.sz e + j) undef = cs'[j] := by simp [this]
          rw [e2]
          exact g1.2 j s _ hs (List.getElem?_eq_getElem (by omega)) ρ O hO)
      simpa using key
  · cases hcell0
theorem rdN_slice {t e : TypeId} {good : AF e → Prop} (ht : P.underlying t = some (.slice e)) (hsz : P.cellsOf e = regF.sz e) (hpos : 1 ≤ regF.sz e) (hr : Rd P e good) : RdA P t (fun xs : List (AF e) => .lst e xs) (fun xs => xs.length ≤ 9223372036854775807 ∧ ∀ y ∈ xs, good y) := by
  intro H enc w sp base v d ps h hv
  obtain ⟨n, hn⟩ := h
  obtain ⟨a, len, cap, rfl⟩ := okWide_slice ht hv
  obtain ⟨xs, h1, h2, _⟩ := rd_slice ht hsz hpos hr hn
  exact ⟨xs, h1, h2.2 0 _ _ rfl rfl⟩
theorem rdS_slice {t e : TypeId} {good : AF e → Prop} (ht : P.underlying t = some (.slice e)) (hsz : P.cellsOf e = regF.sz e) (hpos : 1 ≤ regF.sz e) (hr : Rd P e good) : RdS P t (fun xs : List (AF e) => .lst e xs) (fun xs => xs.length ≤ 9223372036854775807 ∧ ∀ y ∈ xs, good y) := by
  intro H enc w sp base v d ps h hv
  obtain ⟨n, hn⟩ := h
  obtain ⟨a, len, cap, rfl⟩ := okWide_slice ht hv
  obtain ⟨xs, h1, h2, h3⟩ := rd_slice ht hsz hpos hr hn
  exact ⟨xs, h1, h2.2 0 _ _ rfl rfl, h3⟩
theorem rdA_slice {t e : TypeId} {good : AF e → Prop} (ht : P.underlying t = some (.slice e)) (hsz : P.cellsOf e = regF.sz e) (hpos : 1 ≤ regF.sz e) (hr : Rd P e good) : RdA P t (fun xs : List (AF e) => .lst e xs) (fun xs => ∀ y ∈ xs, good y) := by
  intro H enc w sp base v d ps h hv
  obtain ⟨n, hn⟩ := h
  obtain ⟨a, len, cap, rfl⟩ := okWide_slice ht hv
  obtain ⟨xs, h1, h2, _⟩ := rd_slice ht hsz hpos hr hn
  exact ⟨xs, h1.2, h2.2 0 _ _ rfl rfl⟩
theorem rd_int_of {e : TypeId} (he : P.underlying e = some (.int .i64)) {H : Type} {enc : TypeId × Value → H} {w : World} {sp : Nat → Bool} {n : Nat} {cs : List Value} {x : DataW H × List MemPlace}
    (h : DataW.trod enc P w 0 sp true n e cs = some x) : ∃ z : Int, InI z ∧ cs = [.int .i64 z] := by
  obtain ⟨z, h1, _, h3⟩ := DataW.trod_int he h
  exact ⟨z, wf_i64 h3, h1⟩
/-- A row of integers. -/
theorem rd_ints_of {t e : TypeId} {k : Nat} (ht : P.underlying t = some (.array k e)) (he : P.underlying e = some (.int .i64)) (hc : P.cellsOf t = k) (hce : P.cellsOf e = 1) {H : Type} {enc : TypeId × Value → H} {w : World} {sp : Nat → Bool} {n : Nat} {cs : List Value} {x : DataW H × List MemPlace}
    (h : DataW.trod enc P w 0 sp true n t cs = some x) : cs.length = k ∧ ∀ i, i < k → ∃ z : Int, InI z ∧ cs[i]? = some (.int .i64 z) := by
  obtain ⟨xs, m, rfl, rfl, hl, hxl, hx⟩ := DataW.trod_array ht h
  refine ⟨by omega, fun i hi => ?_⟩
  have h2 := hx i hi
  rw [hce, Nat.mul_one, List.getElem?_eq_getElem (by omega : i < xs.length)] at h2
  obtain ⟨z, h3, h4⟩ := rd_int_of he h2
  refine ⟨z, h3, ?_⟩
  have h5 : ((cs.drop i).take 1)[0]? = some (.int .i64 z) := by rw [h4]; rfl
  rw [List.getElem?_take, if_pos (by omega), List.getElem?_drop] at h5
  exact h5
/-- A law, as a function that meets this. -/
def spLaw {γ : Type} (args : γ → List (SV AF)) (pre : γ → Prop) : Spec AF where
  γ := γ
  δ := Unit
  args := args
  own := fun _ => []
  pre := pre
  nnew := 0
  res := fun _ _ => vB true
  own' := fun _ _ => []
  post := fun _ _ => True
theorem post_of_below {f : Func} {s : ChangeSpec} {apart fresh handsOn again : Bool} {W W' : World} {args : Array Value} {v : Value} {ds gs : List (DataW H)} {before pa pv : List MemPlace}
    (hW : DataW.Whole enc P f.params.toList s.vars apart W args.toList ds gs before)
    (hres : ∀ (b : Nat) (sp : Nat → Bool) (hd : Bool), DataW.TrodAll enc P W' b sp hd f.resultTypes.toList (v.resultList f.resultTypes.size) (s.fn H (ds ++ gs)).results [])
    (hargs : ∀ sp : Nat → Bool, (∀ p ∈ before, sp p.block = true) → DataW.TrodAll enc P W' 0 sp true f.params.toList args.toList (s.fn H (ds ++ gs)).args pa)
    (hvars : ∀ sp : Nat → Bool, (∀ p ∈ before, sp p.block = true) → DataW.TrodVars enc P W' sp s.vars (s.fn H (ds ++ gs)).vars pv)
    (hps : before = pa ++ pv) (hb : Below W.heap.size W W')
    (hok : ∀ (j : Nat) (t : TypeId) (r : Value), f.resultTypes[j]? = some t → (v.resultList f.resultTypes.size)[j]? = some r → Value.okWide P W' .any 0 t r) :
    s.post enc P f apart fresh handsOn again W args v W' := by
  have hlt : ∀ p ∈ before, p.block < W.heap.size := fun p hp => hW.lt p hp
  have hold : ∀ p ∈ before, (fun b => decide (b < W.heap.size)) p.block = true := fun p hp => by simpa using hlt p hp
  refine ⟨ds, gs, before, [], pa, pv, hW, hres _ _ _, hargs _ hold, hvars _ hold, World.keptBut_mono (fun p hp => ⟨hp, ?_⟩) (hb.frame (· ∈ before)), fun _ => ?_⟩
  · rw [hps, List.mem_append] at hp
    exact Or.inr hp
  · obtain ⟨_, _, _, _, _, hz, hn⟩ := hW
    refine ⟨hok, _, _, ([] ++ pa) ++ pv, ⟨[] ++ pa, pv, trodAll_append (hargs _ (fun _ _ => rfl)) (hres _ _ _), hvars _ (fun _ _ => rfl), rfl, ?_, ?_⟩, ?_⟩
    · intro b off hp
      have hin : MemPlace.cell b off ∈ before := by rw [hps]; simpa using hp
      rw [hb.frozen (hlt _ hin)]
      exact hz b off hin
    · intro ha
      have := hn ha
      rw [hps] at this
      simpa using this
    · intro p hp _
      rw [hps]
      simpa using hp
/-- A law that meets 'spLaw' does what its row asks of a call, where what came in is read. -/
theorem law_contract_at (hl : laidOutB P = true) {f : FuncId} {fn : Func} {γ : Type} {args : γ → List (SV AF)} {pre : γ → Prop} (hm : Meets P regF f (spLaw args pre)) {s : ChangeSpec} (hv : s.vars = [])
    (hs : ∀ (H : Type) (ds : List (DataW H)), ds.length = fn.params.toList.length → s.fn H ds = { results := [.lit (.bool true)], args := ds }) {T : TypeId} (hrt : fn.resultTypes = #[T]) (hT : P.underlying T = some .bool)
    (hr : (fn.params.toList.all fun t => P.readableRec t && decide (t < P.types.size)) = true)
    {apart fresh handsOn again : Bool} (W : World) (xs : Array Value) (ds gs : List (DataW H)) (before : List MemPlace) (hg0 : ∃ g, pre g ∧ SaysL W (args g) xs.toList)
    (hW : DataW.Whole enc P fn.params.toList s.vars apart W xs.toList ds gs before) :
    Calls P f xs W fun e W' => ∃ v, e = .returned v ∧ s.post enc P fn apart fresh handsOn again W xs v W' := by
  have hW0 := hW
  obtain ⟨p, q, hA, hV, rfl, _, _⟩ := hW
  obtain ⟨g, hg, h1, h2⟩ := hg0
  rw [hv] at hV
  have hgs : gs = [] ∧ q = [] := by
    cases gs with
    | nil => exact ⟨rfl, hV⟩
    | cons d gs => exact hV.elim
  obtain ⟨rfl, rfl⟩ := hgs
  have hnb : ∀ (ρ : Rho) b, ¬ (False ∨ Blk (((spLaw args pre).own g).map some) ρ b) := fun ρ b h => by
    rcases h with h | ⟨n, ct, k, h, _⟩
    · exact h
    · simp [spLaw] at h
  have hc := hm.2 g hg (fun _ => False) (fun _ => none) W xs (fun _ h => h.elim) (fun _ h => h.elim) ⟨h1, fun j s v hs hv => h2 j s v hs hv _ _ (hnb _)⟩ ⟨fun n ct h => by simp [spLaw] at h, fun n _ _ _ _ _ _ h => by simp [spLaw] at h⟩
  have hlen : ∀ {ts : List TypeId} {vs : List Value} {ds : List (DataW H)} {ps : List MemPlace}, DataW.TrodAll enc P W 0 (fun _ => true) true ts vs ds ps → ds.length = ts.length := by
    intro ts
    induction ts with
    | nil => intro vs ds ps h; cases vs <;> cases ds <;> first | rfl | exact h.elim
    | cons t ts ih =>
      intro vs ds ps h
      cases vs with
      | nil => cases ds <;> exact h.elim
      | cons v vs =>
        cases ds with
        | nil => exact h.elim
        | cons d ds => obtain ⟨_, _, _, h, _⟩ := h; simp [ih h]
  have hfn := hs H (ds ++ []) (by rw [List.append_nil]; exact hlen hA)
  refine hc.mono fun e W' hp => ?_
  obtain ⟨_, ρ', v, _, rfl, _, hres, _, _, _, _, _, hrel⟩ := hp
  have hv2 : v = .bool true := by
    have hres : Den regF ρ' _ W' (.val (.bool true)) v := hres
    cases hres; rfl
  subst hv2
  have hb : Below W.heap.size W W' := ⟨hrel.os, hrel.tape, hrel.output, hrel.size, fun k hk => hrel.block k hk fun h => by
    obtain ⟨n, ct, j, h, _⟩ := h
    simp [spLaw] at h⟩
  have hlt : ∀ x ∈ p ++ [], x.block < W.heap.size := fun x hx => hW0.lt x hx
  refine ⟨_, rfl, post_of_below (pa := p) (pv := []) hW0 (fun b sp hd => ?_) (fun sp hsp => ?_) (fun sp hsp => ?_) rfl hb ?_⟩
  · rw [hfn, hrt]
    exact trodAll_mk1 (RowKit.shut_bool hT true)
  · rw [hfn, List.append_nil]
    exact trodAll_stays hl hr hA (fun x hx => hb.same (hlt x (by simpa using hx))) (fun x hx => hsp x (by simpa using hx))
  · rw [hfn, hv]; rfl
  · exact RowKit.ok_one hrt rfl (RowKit.okWide_bool_mk hT true)
/-- A law that meets 'spLaw' does what its row asks of a call. -/
theorem law_contract (hl : laidOutB P = true) {f : FuncId} {fn : Func} {γ : Type} {args : γ → List (SV AF)} {pre : γ → Prop} (hm : Meets P regF f (spLaw args pre)) {s : ChangeSpec} (hv : s.vars = [])
    (hs : ∀ (H : Type) (ds : List (DataW H)), ds.length = fn.params.toList.length → s.fn H ds = { results := [.lit (.bool true)], args := ds }) {T : TypeId} (hrt : fn.resultTypes = #[T]) (hT : P.underlying T = some .bool)
    (hr : (fn.params.toList.all fun t => P.readableRec t && decide (t < P.types.size)) = true)
    (rd : ∀ {H : Type} {enc : TypeId × Value → H} {w : World} {vs : List Value} {ds : List (DataW H)} {ps : List MemPlace} {base : Nat}, DataW.TrodAll enc P w 0 (fun _ => true) true fn.params.toList vs ds ps →
      (∀ (j : Nat) t v, fn.params[j]? = some t → vs[j]? = some v → Value.okWide P w .any base t v) → ∃ g, pre g ∧ SaysL w (args g) vs)
    {apart fresh handsOn again : Bool} (W : World) (base : Nat) (xs : Array Value) (ds gs : List (DataW H)) (before : List MemPlace)
    (hval : ∀ (j : Nat) t v, fn.params[j]? = some t → xs[j]? = some v → Value.okWide P W .any base t v) (hW : DataW.Whole enc P fn.params.toList s.vars apart W xs.toList ds gs before) :
    Calls P f xs W fun e W' => ∃ v, e = .returned v ∧ s.post enc P fn apart fresh handsOn again W xs v W' := by
  have hW0 := hW
  obtain ⟨p, q, hA, hV, rfl, _, _⟩ := hW
  exact law_contract_at hl hm hv hs hrt hT hr W xs ds gs _ (rd hA (fun j t v ht hv => hval j t v ht (by simpa using hv))) hW0
/-- Where the bytes of what came in are bounded, too. -/
theorem law_contract_sized (hl : laidOutB P = true) {f : FuncId} {fn : Func} {γ : Type} {args : γ → List (SV AF)} {pre : γ → Prop} (hm : Meets P regF f (spLaw args pre)) {s : ChangeSpec} (hv : s.vars = [])
    (hs : ∀ (H : Type) (ds : List (DataW H)), ds.length = fn.params.toList.length → s.fn H ds = { results := [.lit (.bool true)], args := ds }) {T : TypeId} (hrt : fn.resultTypes = #[T]) (hT : P.underlying T = some .bool)
    (hr : (fn.params.toList.all fun t => P.readableRec t && decide (t < P.types.size)) = true)
    (rd : ∀ {H : Type} {enc : TypeId × Value → H} {w : World} {vs : List Value} {ds : List (DataW H)} {ps : List MemPlace} {base : Nat}, DataW.TrodAll enc P w 0 (fun _ => true) true fn.params.toList vs ds ps →
      (∀ (j : Nat) t v, fn.params[j]? = some t → vs[j]? = some v → Value.okWide P w .any base t v) →
      (DataW.weightsEach P fn.params.toList ds).all (· ≤ reachBytes) = true → ∃ g, pre g ∧ SaysL w (args g) vs)
    {apart fresh handsOn again : Bool} (W : World) (base : Nat) (xs : Array Value) (ds gs : List (DataW H)) (before : List MemPlace)
    (hval : ∀ (j : Nat) t v, fn.params[j]? = some t → xs[j]? = some v → Value.okWide P W .any base t v) (hwt : (DataW.weightsEach P (fn.params.toList ++ s.plain.varTypes P) (ds ++ gs)).all (· ≤ reachBytes) = true) (hW : DataW.Whole enc P fn.params.toList s.vars apart W xs.toList ds gs before) :
    Calls P f xs W fun e W' => ∃ v, e = .returned v ∧ s.post enc P fn apart fresh handsOn again W xs v W' := by
  have hW0 := hW
  obtain ⟨p, q, hA, hV, rfl, _, _⟩ := hW
  refine law_contract_at hl hm hv hs hrt hT hr W xs ds gs _ (rd hA (fun j t v ht hv => hval j t v ht (by simpa using hv)) ?_) hW0
  rw [hv] at hV
  have hgs : gs = [] := by
    cases gs with
    | nil => rfl
    | cons d gs => exact hV.elim
  have hvt : s.plain.varTypes P = [] := by simp [ChangeSpec.plain, DataSpec.varTypes, hv]
  rw [hgs, hvt, List.append_nil, List.append_nil] at hwt
  exact hwt
end
theorem own_knob : ownKnob Try.prog.godebug = none := by kernel_rfl
theorem laid_out : laidOutB Try.prog = true := by kernel_rfl
end Go.Sx

