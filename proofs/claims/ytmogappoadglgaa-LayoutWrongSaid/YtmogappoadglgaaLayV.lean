/-
  Layer 11, part V: the document's Reach and Strong.
-/
import Derived.Test.YtmogappoadglgaaLayU
namespace Go.Sx
open Go Go.Proofs Go.Proofs.Ytmogappoadglgaa
structure RBits (es : List Edge) (bl : List Int) (s n : Int) (bits : List Bool) : Prop where
  len : bits.length = n.toNat
  sound : ∀ v : Nat, bits[v]? = some true → ReachI es bl false s v
  start : bits[s.toNat]? = some true
def ClosedB (es : List Edge) (bl : List Int) (bits : List Bool) : Prop := ∀ e ∈ es, bits[e.1.toNat]? = some true → e.2.1 ∉ bl → bits[e.2.1.toNat]? = some true
theorem rbits_new {es : List Edge} {bl : List Int} {s n : Int} {bits : List Bool} {e : Edge} (h : RBits es bl s n bits) (hr : RightL n es) (he : e ∈ es) (h1 : bits[e.1.toNat]? = some true) (hb : e.2.1 ∉ bl) : RBits es bl s n (bits.set e.2.1.toNat true) := by
  obtain ⟨a, b, c, d, _⟩ := hr.each e he
  have hk : e.2.1.toNat < bits.length := by rw [h.len]; omega
  refine ⟨by simp [h.len], fun v hv => ?_, (bit_set hk).2 (.inr h.start)⟩
  rcases (bit_set hk).1 hv with rfl | hv
  · have hs := h.sound _ h1
    rw [Int.toNat_of_nonneg a] at hs
    rw [Int.toNat_of_nonneg c]
    exact ReachI.step (back := false) (e := e) hs he hb
  · exact h.sound v hv
theorem closed_skip {es : List Edge} {bl : List Int} {bits : List Bool} {i : Nat} {e : Edge} (he : es[i]? = some e) (h : ClosedB (es.take i) bl bits) (hn : bits[e.1.toNat]? = some true → e.2.1 ∉ bl → bits[e.2.1.toNat]? = some true) : ClosedB (es.take (i + 1)) bl bits := fun x hx => by
  rw [take_snocI he] at hx
  rcases List.mem_append.1 hx with hx | hx
  · exact h x hx
  · simp at hx; subst hx; exact hn
theorem rbits_iff {es : List Edge} {bl : List Int} {s n : Int} {bits : List Bool} (h : RBits es bl s n bits) (hc : ClosedB es bl bits) (hr : RightL n es) (h0 : 0 ≤ s) (v : Nat) : bits[v]? = some true ↔ ReachI es bl false s v := by
  refine ⟨h.sound v, fun hv => ?_⟩
  have key : ∀ {x : Int}, ReachI es bl false s x → bits[x.toNat]? = some true := fun hx => by
    induction hx with
    | refl => exact h.start
    | step h1 h2 h3 ih => exact hc _ h2 ih h3
  have := key hv
  simpa using this
theorem reachN_stop {es : List Edge} {bl : List Int} {s n : Int} (hr : RightL n es) (h0 : 0 ≤ s) (hs : s < n) : ∀ k, reachN es bl s (n.toNat + k) = reachN es bl s n.toNat
  | 0 => rfl
  | k + 1 => by
    have h := reachN_succ es bl s (n.toNat + k)
    have hb : inB es bl false s (n.toNat + k) = false := by
      cases e : inB es bl false s (n.toNat + k) with
      | false => rfl
      | true => have := reachI_bd hr h0 hs (inB_iff.1 e); omega
    rw [hb, if_neg (by simp), List.append_nil] at h
    exact h.trans (reachN_stop hr h0 hs k)
theorem reachF_to {es : List Edge} {bl : List Int} {s n : Int} (hr : RightL n es) (h0 : 0 ≤ s) (hs : s < n) : reachF n es bl s = reachN es bl s n.toNat := by
  rw [reachF_is hr h0 hs]
  have := hr.most
  have h := reachN_stop (bl := bl) hr h0 hs (40 - n.toNat)
  rw [show n.toNat + (40 - n.toNat) = 40 by omega] at h
  exact h
theorem repl_get {k n : Nat} (h : k < n) : (List.replicate n false)[k]? = some false := by rw [List.getElem?_replicate, if_pos h]
theorem m_rreach : Meets Try.prog regF 45 spReach := by
  refine meets Try.func45 88 noWr rfl (by kernel_rfl) (by kernel_rfl) ?_
  rintro ⟨⟨(n : Int), (es : List Edge)⟩, (bl : List Int), (s : Int)⟩ ⟨(hg : GoodL es), (hbl : bl.length ≤ 9223372036854775807)⟩
  conv => whnf
  repeat' (first | (refine tell (fun htest => ?_) (fun htest => ?_) <;> (try dsimp only at htest) <;> first | (exfalso; omega) | (exact absurd rfl htest) | (exact absurd (by decide) htest) | (conv => whnf)) | (refine allG rfl ?_; conv => whnf) | (refine And.intro (by first | omega | assumption | kernel_rfl | exact And.intro rfl rfl | ((try dsimp only [inR, idx, lowOf]); first | omega | (with_reducible decide) | (simp; omega) | fail) | fail) ?_; conv => whnf) | fail)
  refine ⟨_, m_rright, (n, es), [], false, ?_⟩
  conv => whnf
  refine And.intro (vc0 hg.1 (by (repeat' (first | exact trivial | exact rfl | refine And.intro ?_ ?_ | (refine congrArg vI ?_; first | omega | (dsimp only; omega) | fail) | (refine congrArg some ?_) | omega | exact Nat.le_refl _ | exact congrArg (SV.lst _) (List.take_of_length_le (Nat.le_refl _)).symm))) (by repeat' (first | exact trivial | exact rfl | refine And.intro ?_ ?_ | (refine congrArg vI ?_; first | omega | (dsimp only; omega) | fail) | (refine congrArg some ?_) | omega | exact Nat.le_refl _ | exact congrArg (SV.lst _) (List.take_of_length_le (Nat.le_refl _)).symm)) trivial trivial) ?_
  refine And.intro (right_ex n es) ?_
  intro (c : Bool) (hc : c = true ↔ RightL n es)
  by_cases hok : RightL n es ∧ 0 ≤ s ∧ s < n
  · obtain ⟨hr, h0, hsn⟩ := hok
    have hn40 := hr.most
    have hel := hr.len
    have hF : reachF n es bl s = reachN es bl s n.toNat := reachF_to hr h0 hsn
    have hb0 : (List.replicate n.toNat false)[s.toNat]? = some false := repl_get (by omega)
    cases c
    · have := hc.2 hr; cases this
    conv => whnf
    repeat' (first | (refine tell (fun htest => ?_) (fun htest => ?_) <;> (try dsimp only at htest) <;> first | (exfalso; omega) | (exact absurd rfl htest) | (exact absurd (by decide) htest) | (conv => whnf)) | (refine allG (x := false) (by first | exact hb0 | simpa [List.getElem?_append_right, lowOf] using hb0 | fail) ?_; conv => whnf) | (refine allLst (x := false) (by first | omega | assumption | fail) (by first | exact hb0 | simpa using hb0 | fail) ?_; conv => whnf) | (refine allG rfl ?_; conv => whnf) | (refine And.intro (by first | omega | assumption | kernel_rfl | exact And.intro rfl rfl | ((try dsimp only [inR, idx, lowOf]); first | omega | (with_reducible decide) | (simp; omega) | fail) | fail) ?_; conv => whnf) | fail)
    refine ⟨List Bool × Bool, fun p => ⟨[(1, .lst 3 bl), (3, .ptr 1003 0 2 0), (8, .sl 3001 1 0 n.toNat), (9, vB p.2)], [(1003, layC n es), (3001, .arr 4 p.1)]⟩, fun p => RBits es bl s n p.1 ∧ (p.2 = false → ClosedB es bl p.1), fun p => 2 * freeN p.1 + p.2.toNat, fun _ _ => rfl, ⟨((List.replicate n.toNat false).set s.toNat true, true), [(3001, 1031)], ⟨⟨by simp, fun v hv => by rcases (bit_set (by simp; omega)).1 hv with rfl | hv; rw [Int.toNat_of_nonneg h0]; exact .refl; simp [List.getElem?_replicate] at hv, (bit_set (by simp; omega)).2 (.inl rfl)⟩, fun h => by cases h⟩, ?_⟩, ?_⟩
    · refine ⟨rfl, ?_, ?_, rfl⟩
      all_goals (repeat' (first | exact trivial | exact rfl | refine And.intro ?_ ?_ | (refine congrArg vI ?_; first | omega | (dsimp only; omega) | fail) | (refine congrArg some ?_) | omega | exact Nat.le_refl _ | exact congrArg (SV.lst _) (List.take_of_length_le (Nat.le_refl _)).symm))
      all_goals (exact congrArg (Ct.arr (A := AF) 4) (show (List.replicate n.toNat false).set (0 + s.toNat) true = (List.replicate n.toNat false).set s.toNat true by rw [Nat.zero_add]))
    rintro ⟨(bits : List Bool), (ch : Bool)⟩ ⟨(hB : RBits es bl s n bits), (hcl : ch = false → ClosedB es bl bits)⟩
    have hBl := hB.len
    cases ch
    · have hiff := rbits_iff hB (hcl rfl) hr h0
      conv => whnf
      repeat' (first | (refine tell (fun htest => ?_) (fun htest => ?_) <;> (try dsimp only at htest) <;> first | (exfalso; omega) | (exact absurd rfl htest) | (exact absurd (by decide) htest) | (conv => whnf)) | (refine allG rfl ?_; conv => whnf) | (refine And.intro (by first | omega | assumption | kernel_rfl | exact And.intro rfl rfl | ((try dsimp only [inR, idx, lowOf]); first | omega | (with_reducible decide) | (simp; omega) | fail) | fail) ?_; conv => whnf) | fail)
      refine ⟨Nat, fun i => ⟨[(3, .ptr 1003 0 2 0), (8, .sl 3001 1 0 n.toNat), (13, .sl 3000 1 0 (reachN es bl s i).length), (14, vI i)], [(1003, layC n es), (3001, .arr 4 bits), (3000, .arr 3 (reachN es bl s i))]⟩, fun i => (i : Int) ≤ n, fun i => 40 - i, fun _ _ => rfl, ⟨0, [], (by show ((0 : Nat) : Int) ≤ n; omega), ?_⟩, ?_⟩
      · refine ⟨rfl, ?_, ?_, rfl⟩
        all_goals (repeat' (first | exact trivial | exact rfl | refine And.intro ?_ ?_ | (refine congrArg vI ?_; first | omega | (dsimp only; omega) | fail) | (refine congrArg some ?_) | omega | exact Nat.le_refl _ | exact congrArg (SV.lst _) (List.take_of_length_le (Nat.le_refl _)).symm))
      rintro (i : Nat) (hi : (i : Int) ≤ n)
      have hln := reachN_len es bl s i
      have hsu := reachN_succ es bl s i
      by_cases hlt : (i : Int) < n
      · obtain ⟨b, hb⟩ : ∃ b, bits[i]? = some b := ⟨_, List.getElem?_eq_getElem (by omega)⟩
        have hbb : b = inB es bl false s i := by
          cases b
          · cases e : inB es bl false s i with
            | false => rfl
            | true => have := (hiff i).2 (inB_iff.1 e); rw [hb] at this; cases this
          · exact (inB_iff.2 ((hiff i).1 hb)).symm
        cases b
        · rw [← hbb, if_neg (by simp), List.append_nil] at hsu
          conv => whnf
          repeat' (first | (refine tell (fun htest => ?_) (fun htest => ?_) <;> (try dsimp only at htest) <;> first | (exfalso; omega) | (exact absurd rfl htest) | (exact absurd (by decide) htest) | (conv => whnf)) | (refine allG (x := false) (by first | exact hb | simpa [List.getElem?_append_right, lowOf] using hb | fail) ?_; conv => whnf) | (refine allLst (x := false) (by first | omega | assumption | fail) (by first | exact hb | simpa using hb | fail) ?_; conv => whnf) | (refine allG rfl ?_; conv => whnf) | (refine And.intro (by first | omega | assumption | kernel_rfl | exact And.intro rfl rfl | ((try dsimp only [inR, idx, lowOf]); first | omega | (with_reducible decide) | (simp; omega) | fail) | fail) ?_; conv => whnf) | fail)
          refine ⟨i + 1, [], (by show ((i + 1 : Nat) : Int) ≤ n; omega), ?_, rfl, ?_, ?_, rfl⟩
          · dsimp only; first | omega | (simp; done) | (simp; omega)
          all_goals (repeat' (first | exact trivial | exact rfl | refine And.intro ?_ ?_ | (refine congrArg vI ?_; first | omega | (dsimp only; omega) | fail) | (refine congrArg some ?_) | omega | exact Nat.le_refl _ | exact congrArg (SV.lst _) (List.take_of_length_le (Nat.le_refl _)).symm))
          · exact congrArg (SV.sl (A := AF) 3000 1 0) (congrArg List.length hsu.symm)
          · exact congrArg (Ct.arr (A := AF) 3) hsu.symm
        · rw [← hbb, if_pos rfl] at hsu
          conv => whnf
          repeat' (first | (refine tell (fun htest => ?_) (fun htest => ?_) <;> (try dsimp only at htest) <;> first | (exfalso; omega) | (exact absurd rfl htest) | (exact absurd (by decide) htest) | (conv => whnf)) | (refine allG (x := true) (by first | exact hb | simpa [List.getElem?_append_right, lowOf] using hb | fail) ?_; conv => whnf) | (refine allLst (x := true) (by first | omega | assumption | fail) (by first | exact hb | simpa using hb | fail) ?_; conv => whnf) | (refine allG rfl ?_; conv => whnf) | (refine And.intro (by first | omega | assumption | kernel_rfl | exact And.intro rfl rfl | ((try dsimp only [inR, idx, lowOf]); first | omega | (with_reducible decide) | (simp; omega) | fail) | fail) ?_; conv => whnf) | fail)
          refine ⟨i + 1, [(3000, 1086)], (by show ((i + 1 : Nat) : Int) ≤ n; omega), ?_, rfl, ?_, ?_, rfl⟩
          · dsimp only; first | omega | (simp; done) | (simp; omega)
          all_goals (repeat' (first | exact trivial | exact rfl | refine And.intro ?_ ?_ | (refine congrArg vI ?_; first | omega | (dsimp only; omega) | fail) | (refine congrArg some ?_) | omega | exact Nat.le_refl _ | exact congrArg (SV.lst _) (List.take_of_length_le (Nat.le_refl _)).symm))
          · exact congrArg (SV.sl (A := AF) 1086 1 0) (show (reachN es bl s i).length + 1 = (reachN es bl s (i + 1)).length by rw [hsu]; simp)
          · exact congrArg (Ct.arr (A := AF) 3) (show ((reachN es bl s i).drop 0).take (reachN es bl s i).length ++ [(i : Int)] = reachN es bl s (i + 1) by rw [hsu]; simp)
      · obtain rfl : i = n.toNat := by omega
        conv => whnf
        repeat' (first | (refine tell (fun htest => ?_) (fun htest => ?_) <;> (try dsimp only at htest) <;> first | (exfalso; omega) | (exact absurd rfl htest) | (exact absurd (by decide) htest) | (conv => whnf)) | (refine allG rfl ?_; conv => whnf) | (refine And.intro (by first | omega | assumption | kernel_rfl | exact And.intro rfl rfl | ((try dsimp only [inR, idx, lowOf]); first | omega | (with_reducible decide) | (simp; omega) | fail) | fail) ?_; conv => whnf) | fail)
        refine ⟨(), [], trivial, ⟨by simp, rfl, ?_⟩, trivial, trivial⟩
        exact congrArg (SV.lst (A := AF) 3) (show reachF n es bl s = ((reachN es bl s n.toNat).drop 0).take (reachN es bl s n.toNat).length by rw [hF]; simp)
    · clear hcl
      conv => whnf
      repeat' (first | (refine tell (fun htest => ?_) (fun htest => ?_) <;> (try dsimp only at htest) <;> first | (exfalso; omega) | (exact absurd rfl htest) | (exact absurd (by decide) htest) | (conv => whnf)) | (refine allG rfl ?_; conv => whnf) | (refine And.intro (by first | omega | assumption | kernel_rfl | exact And.intro rfl rfl | ((try dsimp only [inR, idx, lowOf]); first | omega | (with_reducible decide) | (simp; omega) | fail) | fail) ?_; conv => whnf) | fail)
      refine ⟨Nat × List Bool × Bool, fun p => ⟨[(1, .lst 3 bl), (3, .ptr 1003 0 2 0), (8, .sl 3001 1 0 n.toNat), (9, vB p.2.2), (10, vI p.1)], [(1003, layC n es), (3001, .arr 4 p.2.1)]⟩, fun p => p.1 ≤ es.length ∧ RBits es bl s n p.2.1 ∧ (p.2.2 = false ∧ p.2.1 = bits ∧ ClosedB (es.take p.1) bl bits ∨ p.2.2 = true ∧ freeN p.2.1 < freeN bits), fun p => es.length - p.1, fun _ _ => rfl, ⟨(0, bits, false), [], ⟨Nat.zero_le _, hB, .inl ⟨rfl, rfl, fun _ h => by simp at h⟩⟩, ?_⟩, ?_⟩
      · refine ⟨rfl, ?_, ?_, rfl⟩
        all_goals (repeat' (first | exact trivial | exact rfl | refine And.intro ?_ ?_ | (refine congrArg vI ?_; first | omega | (dsimp only; omega) | fail) | (refine congrArg some ?_) | omega | exact Nat.le_refl _ | exact congrArg (SV.lst _) (List.take_of_length_le (Nat.le_refl _)).symm))
      rintro ⟨(i : Nat), (bs : List Bool), (ch : Bool)⟩ ⟨(hi : i ≤ es.length), (hA : RBits es bl s n bs), (hor : ch = false ∧ bs = bits ∧ ClosedB (es.take i) bl bits ∨ ch = true ∧ freeN bs < freeN bits)⟩
      have hAl := hA.len
      by_cases hlt : i < es.length
      · obtain ⟨e, he⟩ : ∃ e, es[i]? = some e := ⟨_, List.getElem?_eq_getElem hlt⟩
        have hmem := List.mem_of_getElem? he
        obtain ⟨q1, q2, q3, q4, _⟩ := hr.each e hmem
        obtain ⟨b1, hb1⟩ : ∃ b1, bs[e.1.toNat]? = some b1 := ⟨_, List.getElem?_eq_getElem (by omega)⟩
        obtain ⟨b2, hb2⟩ : ∃ b2, bs[e.2.1.toNat]? = some b2 := ⟨_, List.getElem?_eq_getElem (by omega)⟩
        have skip : (bs[e.1.toNat]? = some true → e.2.1 ∉ bl → bs[e.2.1.toNat]? = some true) → (ch = false ∧ bs = bits ∧ ClosedB (es.take (i + 1)) bl bits ∨ ch = true ∧ freeN bs < freeN bits) := fun hn => by
          rcases hor with ⟨h1, h2, h3⟩ | h
          · subst h2; exact .inl ⟨h1, rfl, closed_skip he h3 hn⟩
          · exact .inr h
        conv => whnf
        repeat' (first | (refine tell (fun htest => ?_) (fun htest => ?_) <;> (try dsimp only at htest) <;> first | (exfalso; omega) | (exact absurd rfl htest) | (exact absurd (by decide) htest) | (conv => whnf)) | (refine allG (x := e) (by first | exact he | simpa [List.getElem?_append_right, lowOf] using he | fail) ?_; conv => whnf) | (refine allLst (x := e) (by first | omega | assumption | fail) (by first | exact he | simpa using he | fail) ?_; conv => whnf) | (refine allG rfl ?_; conv => whnf) | (refine And.intro (by first | omega | assumption | kernel_rfl | exact And.intro rfl rfl | ((try dsimp only [inR, idx, lowOf]); first | omega | (with_reducible decide) | (simp; omega) | fail) | fail) ?_; conv => whnf) | fail)
        refine ⟨_, m_rhas, (bl, e.2.1), [], false, ?_⟩
        conv => whnf
        refine And.intro (vc0 hbl (by (repeat' (first | exact trivial | exact rfl | refine And.intro ?_ ?_ | (refine congrArg vI ?_; first | omega | (dsimp only; omega) | fail) | (refine congrArg some ?_) | omega | exact Nat.le_refl _ | exact congrArg (SV.lst _) (List.take_of_length_le (Nat.le_refl _)).symm))) (by repeat' (first | exact trivial | exact rfl | refine And.intro ?_ ?_ | (refine congrArg vI ?_; first | omega | (dsimp only; omega) | fail) | (refine congrArg some ?_) | omega | exact Nat.le_refl _ | exact congrArg (SV.lst _) (List.take_of_length_le (Nat.le_refl _)).symm)) trivial trivial) ?_
        refine And.intro (has_ex _ _) ?_
        intro (no : Bool) (hno : no = true ↔ e.2.1 ∈ bl)
        cases b1
        · have hk := skip fun h => by rw [hb1] at h; cases h
          conv => whnf
          repeat' (first | (refine tell (fun htest => ?_) (fun htest => ?_) <;> (try dsimp only at htest) <;> first | (exfalso; omega) | (exact absurd rfl htest) | (exact absurd (by decide) htest) | (conv => whnf)) | (refine allG (x := false) (by first | exact hb1 | simpa [List.getElem?_append_right, lowOf] using hb1 | fail) ?_; conv => whnf) | (refine allLst (x := false) (by first | omega | assumption | fail) (by first | exact hb1 | simpa using hb1 | fail) ?_; conv => whnf) | (refine allG rfl ?_; conv => whnf) | (refine And.intro (by first | omega | assumption | kernel_rfl | exact And.intro rfl rfl | ((try dsimp only [inR, idx, lowOf]); first | omega | (with_reducible decide) | (simp; omega) | fail) | fail) ?_; conv => whnf) | fail)
          refine ⟨(i + 1, bs, ch), [], ⟨hlt, hA, hk⟩, ?_, rfl, ?_, ?_, rfl⟩
          · dsimp only; first | omega | (simp; done) | (simp; omega)
          all_goals (repeat' (first | exact trivial | exact rfl | refine And.intro ?_ ?_ | (refine congrArg vI ?_; first | omega | (dsimp only; omega) | fail) | (refine congrArg some ?_) | omega | exact Nat.le_refl _ | exact congrArg (SV.lst _) (List.take_of_length_le (Nat.le_refl _)).symm))
        · cases b2
          · cases no
            · have hfree : freeN (bs.set e.2.1.toNat true) < freeN bits := by
                have h1 := free_set hb2
                rcases hor with ⟨_, h2, _⟩ | ⟨_, h2⟩
                · subst h2; omega
                · omega
              have hnb : e.2.1 ∉ bl := fun h => by have := hno.2 h; cases this
              conv => whnf
              repeat' (first | (refine tell (fun htest => ?_) (fun htest => ?_) <;> (try dsimp only at htest) <;> first | (exfalso; omega) | (exact absurd rfl htest) | (exact absurd (by decide) htest) | (conv => whnf)) | (refine allG (x := true) (by first | exact hb1 | simpa [List.getElem?_append_right, lowOf] using hb1 | fail) ?_; conv => whnf) | (refine allLst (x := true) (by first | omega | assumption | fail) (by first | exact hb1 | simpa using hb1 | fail) ?_; conv => whnf) | (refine allG (x := false) (by first | exact hb2 | simpa [List.getElem?_append_right, lowOf] using hb2 | fail) ?_; conv => whnf) | (refine allLst (x := false) (by first | omega | assumption | fail) (by first | exact hb2 | simpa using hb2 | fail) ?_; conv => whnf) | (refine allG rfl ?_; conv => whnf) | (refine And.intro (by first | omega | assumption | kernel_rfl | exact And.intro rfl rfl | ((try dsimp only [inR, idx, lowOf]); first | omega | (with_reducible decide) | (simp; omega) | fail) | fail) ?_; conv => whnf) | fail)
              refine ⟨(i + 1, bs.set e.2.1.toNat true, true), [], ⟨hlt, rbits_new hA hr hmem hb1 hnb, .inr ⟨rfl, hfree⟩⟩, ?_, rfl, ?_, ?_, rfl⟩
              · dsimp only; first | omega | (simp; done) | (simp; omega)
              all_goals (repeat' (first | exact trivial | exact rfl | refine And.intro ?_ ?_ | (refine congrArg vI ?_; first | omega | (dsimp only; omega) | fail) | (refine congrArg some ?_) | omega | exact Nat.le_refl _ | exact congrArg (SV.lst _) (List.take_of_length_le (Nat.le_refl _)).symm))
              · exact congrArg (Ct.arr (A := AF) 4) (show bs.set (0 + e.2.1.toNat) true = bs.set e.2.1.toNat true by rw [Nat.zero_add])
            · have hk := skip fun _ h => absurd (hno.1 rfl) h
              conv => whnf
              repeat' (first | (refine tell (fun htest => ?_) (fun htest => ?_) <;> (try dsimp only at htest) <;> first | (exfalso; omega) | (exact absurd rfl htest) | (exact absurd (by decide) htest) | (conv => whnf)) | (refine allG (x := true) (by first | exact hb1 | simpa [List.getElem?_append_right, lowOf] using hb1 | fail) ?_; conv => whnf) | (refine allLst (x := true) (by first | omega | assumption | fail) (by first | exact hb1 | simpa using hb1 | fail) ?_; conv => whnf) | (refine allG (x := false) (by first | exact hb2 | simpa [List.getElem?_append_right, lowOf] using hb2 | fail) ?_; conv => whnf) | (refine allLst (x := false) (by first | omega | assumption | fail) (by first | exact hb2 | simpa using hb2 | fail) ?_; conv => whnf) | (refine allG rfl ?_; conv => whnf) | (refine And.intro (by first | omega | assumption | kernel_rfl | exact And.intro rfl rfl | ((try dsimp only [inR, idx, lowOf]); first | omega | (with_reducible decide) | (simp; omega) | fail) | fail) ?_; conv => whnf) | fail)
              refine ⟨(i + 1, bs, ch), [], ⟨hlt, hA, hk⟩, ?_, rfl, ?_, ?_, rfl⟩
              · dsimp only; first | omega | (simp; done) | (simp; omega)
              all_goals (repeat' (first | exact trivial | exact rfl | refine And.intro ?_ ?_ | (refine congrArg vI ?_; first | omega | (dsimp only; omega) | fail) | (refine congrArg some ?_) | omega | exact Nat.le_refl _ | exact congrArg (SV.lst _) (List.take_of_length_le (Nat.le_refl _)).symm))
          · have hk := skip fun _ _ => hb2
            conv => whnf
            repeat' (first | (refine tell (fun htest => ?_) (fun htest => ?_) <;> (try dsimp only at htest) <;> first | (exfalso; omega) | (exact absurd rfl htest) | (exact absurd (by decide) htest) | (conv => whnf)) | (refine allG (x := true) (by first | exact hb1 | simpa [List.getElem?_append_right, lowOf] using hb1 | fail) ?_; conv => whnf) | (refine allLst (x := true) (by first | omega | assumption | fail) (by first | exact hb1 | simpa using hb1 | fail) ?_; conv => whnf) | (refine allG (x := true) (by first | exact hb2 | simpa [List.getElem?_append_right, lowOf] using hb2 | fail) ?_; conv => whnf) | (refine allLst (x := true) (by first | omega | assumption | fail) (by first | exact hb2 | simpa using hb2 | fail) ?_; conv => whnf) | (refine allG rfl ?_; conv => whnf) | (refine And.intro (by first | omega | assumption | kernel_rfl | exact And.intro rfl rfl | ((try dsimp only [inR, idx, lowOf]); first | omega | (with_reducible decide) | (simp; omega) | fail) | fail) ?_; conv => whnf) | fail)
            refine ⟨(i + 1, bs, ch), [], ⟨hlt, hA, hk⟩, ?_, rfl, ?_, ?_, rfl⟩
            · dsimp only; first | omega | (simp; done) | (simp; omega)
            all_goals (repeat' (first | exact trivial | exact rfl | refine And.intro ?_ ?_ | (refine congrArg vI ?_; first | omega | (dsimp only; omega) | fail) | (refine congrArg some ?_) | omega | exact Nat.le_refl _ | exact congrArg (SV.lst _) (List.take_of_length_le (Nat.le_refl _)).symm))
      · obtain rfl : i = es.length := by omega
        rw [List.take_of_length_le (Nat.le_refl _)] at hor
        conv => whnf
        repeat' (first | (refine tell (fun htest => ?_) (fun htest => ?_) <;> (try dsimp only at htest) <;> first | (exfalso; omega) | (exact absurd rfl htest) | (exact absurd (by decide) htest) | (conv => whnf)) | (refine allG rfl ?_; conv => whnf) | (refine And.intro (by first | omega | assumption | kernel_rfl | exact And.intro rfl rfl | ((try dsimp only [inR, idx, lowOf]); first | omega | (with_reducible decide) | (simp; omega) | fail) | fail) ?_; conv => whnf) | fail)
        rcases hor with ⟨rfl, rfl, h3⟩ | ⟨rfl, h3⟩
        · refine ⟨(bs, false), [], ⟨hA, fun _ => h3⟩, ?_, rfl, ?_, ?_, rfl⟩
          · dsimp only; first | omega | (simp; done) | (simp; omega)
          all_goals (repeat' (first | exact trivial | exact rfl | refine And.intro ?_ ?_ | (refine congrArg vI ?_; first | omega | (dsimp only; omega) | fail) | (refine congrArg some ?_) | omega | exact Nat.le_refl _ | exact congrArg (SV.lst _) (List.take_of_length_le (Nat.le_refl _)).symm))
        · refine ⟨(bs, true), [], ⟨hA, fun h => by cases h⟩, ?_, rfl, ?_, ?_, rfl⟩
          · dsimp only; first | omega | (simp; done) | (simp; omega)
          all_goals (repeat' (first | exact trivial | exact rfl | refine And.intro ?_ ?_ | (refine congrArg vI ?_; first | omega | (dsimp only; omega) | fail) | (refine congrArg some ?_) | omega | exact Nat.le_refl _ | exact congrArg (SV.lst _) (List.take_of_length_le (Nat.le_refl _)).symm))
  · have hF : reachF n es bl s = [] := if_neg hok
    cases c
    · conv => whnf
      repeat' (first | (refine tell (fun htest => ?_) (fun htest => ?_) <;> (try dsimp only at htest) <;> first | (exfalso; omega) | (exact absurd rfl htest) | (exact absurd (by decide) htest) | (conv => whnf)) | (refine allG rfl ?_; conv => whnf) | (refine And.intro (by first | omega | assumption | kernel_rfl | exact And.intro rfl rfl | ((try dsimp only [inR, idx, lowOf]); first | omega | (with_reducible decide) | (simp; omega) | fail) | fail) ?_; conv => whnf) | fail)
      exact ⟨(), [], trivial, (by show _ = _; exact hF), trivial, trivial⟩
    · have hr := hc.1 rfl
      have hns : ¬ (0 ≤ s ∧ s < n) := fun h => hok ⟨hr, h⟩
      conv => whnf
      repeat' (first | (refine tell (fun htest => ?_) (fun htest => ?_) <;> (try dsimp only at htest) <;> first | (exfalso; omega) | (exact absurd rfl htest) | (exact absurd (by decide) htest) | (conv => whnf)) | (refine allG rfl ?_; conv => whnf) | (refine And.intro (by first | omega | assumption | kernel_rfl | exact And.intro rfl rfl | ((try dsimp only [inR, idx, lowOf]); first | omega | (with_reducible decide) | (simp; omega) | fail) | fail) ?_; conv => whnf) | fail)
      all_goals exact ⟨(), [], trivial, (by show _ = _; exact hF), trivial, trivial⟩
theorem reachI_trans {es : List Edge} {bl : List Int} {back : Bool} {a b c : Int} (h1 : ReachI es bl back a b) (h2 : ReachI es bl back b c) : ReachI es bl back a c := by
  induction h2 with
  | refl => exact h1
  | step _ h3 h4 ih => exact .step ih h3 h4
theorem strong_all {n : Int} {es : List Edge} (hr : RightL n es) : StrongL n es ↔ ∀ i : Nat, (i : Int) < n → ((reachF n es [] i).length : Int) = n := by
  have hn := hr.pos
  have full : ∀ i : Nat, (i : Int) < n → (((reachF n es [] i).length : Int) = n ↔ ∀ v : Nat, (v : Int) < n → ReachI es [] false i v) := fun i hi => by
    rw [reachF_is hr (by omega) hi]; exact reachN_full hr (by omega) hi
  constructor
  · intro h i hi
    exact (full i hi).2 fun v hv => reachI_trans (reachI_rev.1 (h.2 i hi).2) (h.2 v hv).1
  · intro h
    have h00 := (full 0 (by omega)).1 (h 0 (by omega))
    exact ⟨hr, fun v hv => ⟨h00 v hv, reachI_rev.2 ((full v hv).1 (h v hv) 0 (by omega))⟩⟩
theorem m_rstrong : Meets Try.prog regF 49 spStrong := by
  refine meets Try.func49 24 noWr rfl (by kernel_rfl) (by kernel_rfl) ?_
  rintro ⟨(n : Int), (es : List Edge)⟩ (hg : GoodL es)
  have fin : ∀ {c : Bool}, (c = true ↔ StrongL n es) → spStrong.post (n, es) c := fun h => h
  conv => whnf
  repeat' (first | (refine tell (fun htest => ?_) (fun htest => ?_) <;> (try dsimp only at htest) <;> first | (exfalso; omega) | (exact absurd rfl htest) | (exact absurd (by decide) htest) | (conv => whnf)) | (refine allG rfl ?_; conv => whnf) | (refine And.intro (by first | omega | assumption | kernel_rfl | exact And.intro rfl rfl | ((try dsimp only [inR, idx, lowOf]); first | omega | (with_reducible decide) | (simp; omega) | fail) | fail) ?_; conv => whnf) | fail)
  refine ⟨_, m_rright, (n, es), [], false, ?_⟩
  conv => whnf
  refine And.intro (vc0 hg.1 (by (repeat' (first | exact trivial | exact rfl | refine And.intro ?_ ?_ | (refine congrArg vI ?_; first | omega | (dsimp only; omega) | fail) | (refine congrArg some ?_) | omega | exact Nat.le_refl _ | exact congrArg (SV.lst _) (List.take_of_length_le (Nat.le_refl _)).symm))) (by repeat' (first | exact trivial | exact rfl | refine And.intro ?_ ?_ | (refine congrArg vI ?_; first | omega | (dsimp only; omega) | fail) | (refine congrArg some ?_) | omega | exact Nat.le_refl _ | exact congrArg (SV.lst _) (List.take_of_length_le (Nat.le_refl _)).symm)) trivial trivial) ?_
  refine And.intro (right_ex n es) ?_
  intro (c : Bool) (hc : c = true ↔ RightL n es)
  cases c
  · have hns : ¬ StrongL n es := fun h => by have := hc.2 h.1; cases this
    conv => whnf
    repeat' (first | (refine tell (fun htest => ?_) (fun htest => ?_) <;> (try dsimp only at htest) <;> first | (exfalso; omega) | (exact absurd rfl htest) | (exact absurd (by decide) htest) | (conv => whnf)) | (refine allG rfl ?_; conv => whnf) | (refine And.intro (by first | omega | assumption | kernel_rfl | exact And.intro rfl rfl | ((try dsimp only [inR, idx, lowOf]); first | omega | (with_reducible decide) | (simp; omega) | fail) | fail) ?_; conv => whnf) | fail)
    refine ⟨Unit, fun _ => ⟨[(1, .ptr 1001 0 2 0), (2, vB false), (3, vB false), (4, vI 0)], [(1001, layC n es)]⟩, fun _ => True, fun _ => 0, fun _ _ => rfl, ⟨(), [], trivial, ?_⟩, ?_⟩
    · refine ⟨rfl, ?_, ?_, rfl⟩
      all_goals (repeat' (first | exact trivial | exact rfl | refine And.intro ?_ ?_ | (refine congrArg vI ?_; first | omega | (dsimp only; omega) | fail) | (refine congrArg some ?_) | omega | exact Nat.le_refl _ | exact congrArg (SV.lst _) (List.take_of_length_le (Nat.le_refl _)).symm))
    intro _ _
    conv => whnf
    repeat' (first | (refine tell (fun htest => ?_) (fun htest => ?_) <;> (try dsimp only at htest) <;> first | (exfalso; omega) | (exact absurd rfl htest) | (exact absurd (by decide) htest) | (conv => whnf)) | (refine allG rfl ?_; conv => whnf) | (refine And.intro (by first | omega | assumption | kernel_rfl | exact And.intro rfl rfl | ((try dsimp only [inR, idx, lowOf]); first | omega | (with_reducible decide) | (simp; omega) | fail) | fail) ?_; conv => whnf) | fail)
    all_goals exact ⟨false, [], fin (by simp [hns]), rfl, trivial, trivial⟩
  have hr := hc.1 rfl
  have hn40 := hr.most
  have hn0 := hr.pos
  have hall := strong_all hr
  conv => whnf
  repeat' (first | (refine tell (fun htest => ?_) (fun htest => ?_) <;> (try dsimp only at htest) <;> first | (exfalso; omega) | (exact absurd rfl htest) | (exact absurd (by decide) htest) | (conv => whnf)) | (refine allG rfl ?_; conv => whnf) | (refine And.intro (by first | omega | assumption | kernel_rfl | exact And.intro rfl rfl | ((try dsimp only [inR, idx, lowOf]); first | omega | (with_reducible decide) | (simp; omega) | fail) | fail) ?_; conv => whnf) | fail)
  refine ⟨Nat, fun i => ⟨[(1, .ptr 1001 0 2 0), (2, vB false), (3, vB true), (4, vI i)], [(1001, layC n es)]⟩, fun i => (i : Int) ≤ n ∧ ∀ v : Nat, v < i → ((reachF n es [] v).length : Int) = n, fun i => n.toNat - i, fun _ _ => rfl, ⟨0, [], ⟨(by show ((0 : Nat) : Int) ≤ n; omega), fun v h => absurd h (Nat.not_lt_zero v)⟩, ?_⟩, ?_⟩
  · refine ⟨rfl, ?_, ?_, rfl⟩
    all_goals (repeat' (first | exact trivial | exact rfl | refine And.intro ?_ ?_ | (refine congrArg vI ?_; first | omega | (dsimp only; omega) | fail) | (refine congrArg some ?_) | omega | exact Nat.le_refl _ | exact congrArg (SV.lst _) (List.take_of_length_le (Nat.le_refl _)).symm))
  rintro (i : Nat) ⟨(hi : (i : Int) ≤ n), (hs : ∀ v : Nat, v < i → ((reachF n es [] v).length : Int) = n)⟩
  by_cases hlt : (i : Int) < n
  · conv => whnf
    repeat' (first | (refine tell (fun htest => ?_) (fun htest => ?_) <;> (try dsimp only at htest) <;> first | (exfalso; omega) | (exact absurd rfl htest) | (exact absurd (by decide) htest) | (conv => whnf)) | (refine allG rfl ?_; conv => whnf) | (refine And.intro (by first | omega | assumption | kernel_rfl | exact And.intro rfl rfl | ((try dsimp only [inR, idx, lowOf]); first | omega | (with_reducible decide) | (simp; omega) | fail) | fail) ?_; conv => whnf) | fail)
    refine ⟨_, m_rreach, ((n, es), [], (i : Int)), [], false, ?_⟩
    conv => whnf
    refine And.intro (vc0 ⟨hg, Nat.zero_le _⟩ (by (repeat' (first | exact trivial | exact rfl | refine And.intro ?_ ?_ | (refine congrArg vI ?_; first | omega | (dsimp only; omega) | fail) | (refine congrArg some ?_) | omega | exact Nat.le_refl _ | exact congrArg (SV.lst _) (List.take_of_length_le (Nat.le_refl _)).symm))) (by repeat' (first | exact trivial | exact rfl | refine And.intro ?_ ?_ | (refine congrArg vI ?_; first | omega | (dsimp only; omega) | fail) | (refine congrArg some ?_) | omega | exact Nat.le_refl _ | exact congrArg (SV.lst _) (List.take_of_length_le (Nat.le_refl _)).symm)) trivial trivial) ?_
    refine And.intro ⟨(), trivial⟩ (fun (_ : Unit) _ => ?_)
    conv => whnf
    by_cases hf : ((reachF n es [] i).length : Int) = n
    · have hs2 : ∀ v : Nat, v < i + 1 → ((reachF n es [] v).length : Int) = n := fun v hv => by
        rcases Nat.lt_succ_iff_lt_or_eq.1 hv with h1 | rfl
        · exact hs v h1
        · exact hf
      conv => whnf
      repeat' (first | (refine tell (fun htest => ?_) (fun htest => ?_) <;> (try dsimp only at htest) <;> first | (exfalso; omega) | (exact absurd rfl htest) | (exact absurd (by decide) htest) | (conv => whnf)) | (refine allG rfl ?_; conv => whnf) | (refine And.intro (by first | omega | assumption | kernel_rfl | exact And.intro rfl rfl | ((try dsimp only [inR, idx, lowOf]); first | omega | (with_reducible decide) | (simp; omega) | fail) | fail) ?_; conv => whnf) | fail)
      refine ⟨i + 1, [], ⟨(by show ((i + 1 : Nat) : Int) ≤ n; omega), hs2⟩, ?_, rfl, ?_, ?_, rfl⟩
      · dsimp only; first | omega | (simp; done) | (simp; omega)
      all_goals (repeat' (first | exact trivial | exact rfl | refine And.intro ?_ ?_ | (refine congrArg vI ?_; first | omega | (dsimp only; omega) | fail) | (refine congrArg some ?_) | omega | exact Nat.le_refl _ | exact congrArg (SV.lst _) (List.take_of_length_le (Nat.le_refl _)).symm))
    · have hns : ¬ StrongL n es := fun h => hf (hall.1 h i hlt)
      conv => whnf
      repeat' (first | (refine tell (fun htest => ?_) (fun htest => ?_) <;> (try dsimp only at htest) <;> first | (exfalso; omega) | (exact absurd rfl htest) | (exact absurd (by decide) htest) | (conv => whnf)) | (refine allG rfl ?_; conv => whnf) | (refine And.intro (by first | omega | assumption | kernel_rfl | exact And.intro rfl rfl | ((try dsimp only [inR, idx, lowOf]); first | omega | (with_reducible decide) | (simp; omega) | fail) | fail) ?_; conv => whnf) | fail)
      exact ⟨false, [], fin (by simp [hns]), rfl, trivial, trivial⟩
  · have hst : StrongL n es := hall.2 fun v hv => hs v (by omega)
    conv => whnf
    repeat' (first | (refine tell (fun htest => ?_) (fun htest => ?_) <;> (try dsimp only at htest) <;> first | (exfalso; omega) | (exact absurd rfl htest) | (exact absurd (by decide) htest) | (conv => whnf)) | (refine allG rfl ?_; conv => whnf) | (refine And.intro (by first | omega | assumption | kernel_rfl | exact And.intro rfl rfl | ((try dsimp only [inR, idx, lowOf]); first | omega | (with_reducible decide) | (simp; omega) | fail) | fail) ?_; conv => whnf) | fail)
    exact ⟨true, [], fin (by simp [hst]), rfl, trivial, trivial⟩
end Go.Sx

