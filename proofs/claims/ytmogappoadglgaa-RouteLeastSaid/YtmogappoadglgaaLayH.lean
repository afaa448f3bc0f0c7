/-
  Layer 11, part H: reached.
-/
import Derived.Test.YtmogappoadglgaaLayG
namespace Go.Sx
open Go Go.Proofs Go.Proofs.Ytmogappoadglgaa
def spReached : Spec AF where
  γ := (Int × List Edge) × List Int × Int × Bool
  δ := List Bool
  args := fun g => [layS g.1.1 g.1.2, .lst 3 g.2.1, vI g.2.2.1, vB g.2.2.2]
  own := fun _ => []
  pre := fun g => RightL g.1.1 g.1.2 ∧ 0 ≤ g.2.2.1 ∧ g.2.2.1 < g.1.1 ∧ g.2.1.length ≤ 9223372036854775807
  nnew := 0
  res := fun _ d => .aggl 4 d
  own' := fun _ _ => []
  post := fun g d => d.length = 40 ∧ ∀ v : Nat, d[v]? = some true ↔ ReachI g.1.2 g.2.1 g.2.2.2 g.2.2.1 v
theorem has_ex (a : List Int) (k : Int) : ∃ c : Bool, c = true ↔ k ∈ a := by
  by_cases h : k ∈ a
  · exact ⟨true, by simp [h]⟩
  · exact ⟨false, by simp [h]⟩
theorem m_reached : Meets Try.prog regF 81 spReached := by
  refine meets Try.func81 66 noWr rfl (by kernel_rfl) (by kernel_rfl) ?_
  rintro ⟨⟨(n : Int), (es : List Edge)⟩, (bl : List Int), (s : Int), (back : Bool)⟩ ⟨(hr : RightL n es), (h0 : 0 ≤ s), (hsn : s < n), (hbl : bl.length ≤ 9223372036854775807)⟩
  have hn40 := hr.most
  have hel := hr.len
  have hb0 : (List.replicate 40 false)[s.toNat]? = some false := by rw [List.getElem?_replicate, if_pos (by omega)]
  have hinit : BfsOk es bl back s n ((List.replicate 40 false).set s.toNat true) [s] (fun _ _ => False) := by
    have hk : s.toNat < (List.replicate 40 false).length := by simp; omega
    refine ⟨by simp, fun v hv => ?_, (bit_set hk).2 (.inl rfl), fun u hu => ?_, fun e _ u hu _ _ => ?_⟩
    · rcases (bit_set hk).1 hv with rfl | hv
      · rw [Int.toNat_of_nonneg h0]; exact ⟨.refl, hsn⟩
      · rw [List.getElem?_replicate] at hv; split at hv <;> simp at hv
    · simp at hu; subst hu; exact ⟨h0, hsn, (bit_set hk).2 (.inl rfl)⟩
    · rcases (bit_set hk).1 hu with rfl | hv
      · exact .inr (.inl (by rw [Int.toNat_of_nonneg h0]; simp))
      · rw [List.getElem?_replicate] at hv; split at hv <;> simp at hv
  have hf0 : freeN ((List.replicate 40 false).set s.toNat true) + 1 = 40 := by rw [free_set hb0]; simp [freeN]
  conv => whnf
  repeat' (first | (refine tell (fun htest => ?_) (fun htest => ?_) <;> (try dsimp only at htest) <;> first | (exfalso; omega) | (exact absurd rfl htest) | (exact absurd (by decide) htest) | (conv => whnf)) | (refine allG (x := false) (by first | exact hb0 | simpa [List.getElem?_append_right, lowOf] using hb0 | fail) ?_; conv => whnf) | (refine allLst (x := false) (by first | omega | assumption | fail) (by first | exact hb0 | simpa using hb0 | fail) ?_; conv => whnf) | (refine allG rfl ?_; conv => whnf) | (refine And.intro (by first | omega | assumption | kernel_rfl | exact And.intro rfl rfl | ((try dsimp only [inR, idx, lowOf]); first | omega | (with_reducible decide) | (simp; omega) | fail) | fail) ?_; conv => whnf) | fail)
  refine ⟨List Bool × List Int × List Int, fun p => ⟨[(1, .lst 3 bl), (3, vB back), (4, .ptr 1004 0 2 0), (8, .ptr 1008 0 40 0), (9, .sl 3000 1 p.2.1.length p.2.2.length)], [(1004, layC n es), (1008, .arr 4 p.1), (3000, .arr 3 (p.2.1 ++ p.2.2))]⟩, fun p => BfsOk es bl back s n p.1 p.2.2 (fun _ _ => False) ∧ freeN p.1 + p.2.2.length ≤ 40, fun p => 2 * freeN p.1 + p.2.2.length, fun _ _ => rfl, ⟨((List.replicate 40 false).set s.toNat true, [], [s]), [(3000, 1016)], ⟨hinit, Nat.le_of_eq hf0⟩, ?_⟩, ?_⟩
  · refine ⟨rfl, ?_, ?_, rfl⟩
    all_goals (repeat' (first | exact trivial | exact rfl | refine And.intro ?_ ?_ | (refine congrArg vI ?_; first | omega | (dsimp only; omega) | fail) | (refine congrArg some ?_) | omega | exact Nat.le_refl _ | exact congrArg (SV.lst _) (List.take_of_length_le (Nat.le_refl _)).symm))
  rintro ⟨(bits : List Bool), (pre : List Int), (q : List Int)⟩ ⟨(hq : BfsOk es bl back s n bits q (fun _ _ => False)), (hfq : freeN bits + q.length ≤ 40)⟩
  cases q with
  | nil =>
    have hl0 : ([] : List Int).length = 0 := rfl
    conv => whnf
    repeat' (first | (refine tell (fun htest => ?_) (fun htest => ?_) <;> (try dsimp only at htest) <;> first | (exfalso; omega) | (exact absurd rfl htest) | (exact absurd (by decide) htest) | (conv => whnf)) | (refine allG rfl ?_; conv => whnf) | (refine And.intro (by first | omega | assumption | kernel_rfl | exact And.intro rfl rfl | ((try dsimp only [inR, idx, lowOf]); first | omega | (with_reducible decide) | (simp; omega) | fail) | fail) ?_; conv => whnf) | fail)
    refine And.intro ⟨hq.len, rfl⟩ ?_
    refine ⟨bits, [], ⟨hq.len, fun v => ⟨fun h => (hq.sound v h).1, fun h => ?_⟩⟩, rfl, trivial, trivial⟩
    have := (bfs_end h0 hr.each hq h).2
    simpa using this
  | cons u q =>
    have hu := hq.queue u (by simp)
    have hlq : (u :: q).length = q.length + 1 := rfl
    have hgu : (pre ++ u :: q)[pre.length + Int.toNat 0]? = some u := by simp
    have hpop := bfs_pop hq
    conv => whnf
    repeat' (first | (refine tell (fun htest => ?_) (fun htest => ?_) <;> (try dsimp only at htest) <;> first | (exfalso; omega) | (exact absurd rfl htest) | (exact absurd (by decide) htest) | (conv => whnf)) | (refine allG (x := u) (by first | exact hgu | simpa [List.getElem?_append_right, lowOf] using hgu | fail) ?_; conv => whnf) | (refine allLst (x := u) (by first | omega | assumption | fail) (by first | exact hgu | simpa using hgu | fail) ?_; conv => whnf) | (refine allG rfl ?_; conv => whnf) | (refine And.intro (by first | omega | assumption | kernel_rfl | exact And.intro rfl rfl | ((try dsimp only [inR, idx, lowOf]); first | omega | (with_reducible decide) | (simp; omega) | fail) | fail) ?_; conv => whnf) | fail)
    refine ⟨List Bool × List Int × List Int × Nat, fun p => ⟨[(1, .lst 3 bl), (3, vB back), (4, .ptr 1004 0 2 0), (8, .ptr 1008 0 40 0), (9, .sl 3001 1 p.2.1.length p.2.2.1.length), (10, vI u), (26, .lst 54 es), (27, vI es.length), (28, vI p.2.2.2)], [(1004, layC n es), (1008, .arr 4 p.1), (3001, .arr 3 (p.2.1 ++ p.2.2.1))]⟩, fun p => p.2.2.2 ≤ es.length ∧ BfsOk es bl back s n p.1 p.2.2.1 (fun x e => x = u ∧ e ∈ es.drop p.2.2.2) ∧ freeN p.1 + p.2.2.1.length ≤ 39 ∧ 2 * freeN p.1 + p.2.2.1.length ≤ 2 * freeN bits + q.length ∧ p.1[u.toNat]? = some true, fun p => es.length - p.2.2.2, fun _ _ => rfl, ⟨(bits, pre ++ [u], q, 0), [(3001, 3000)], ⟨Nat.zero_le _, hpop, by dsimp only; omega, Nat.le_refl _, hu.2.2⟩, ?_⟩, ?_⟩
    · refine ⟨rfl, ?_, ?_, rfl⟩
      all_goals (repeat' (first | exact trivial | exact rfl | refine And.intro ?_ ?_ | (refine congrArg vI ?_; first | omega | (dsimp only; omega) | fail) | (refine congrArg some ?_) | omega | exact Nat.le_refl _ | exact congrArg (SV.lst _) (List.take_of_length_le (Nat.le_refl _)).symm))
      all_goals (first | exact congrArg (Ct.arr (A := AF) 3) (by simp) | exact (show SV.sl (A := AF) 3000 1 (pre.length + 1) ((u :: q).length - 1) = SV.sl 3000 1 (pre ++ [u]).length q.length by simp))
    rintro ⟨(bits2 : List Bool), (pre2 : List Int), (q2 : List Int), (j : Nat)⟩ ⟨(hj : j ≤ es.length), (hB : BfsOk es bl back s n bits2 q2 (fun x e => x = u ∧ e ∈ es.drop j)), (hf1 : freeN bits2 + q2.length ≤ 39), (hf2 : 2 * freeN bits2 + q2.length ≤ 2 * freeN bits + q.length), (hub : bits2[u.toNat]? = some true)⟩
    by_cases hjl : j < es.length
    · obtain ⟨e, he⟩ : ∃ e, es[j]? = some e := ⟨_, List.getElem?_eq_getElem hjl⟩
      obtain ⟨d1, d2, d3, d4, _⟩ := hr.each e (List.mem_of_getElem? he)
      have hdd : 0 ≤ dstE back e ∧ dstE back e < n := by cases back <;> simp only [dstE] <;> omega
      obtain ⟨b, hb⟩ : ∃ b, bits2[(dstE back e).toNat]? = some b := ⟨_, List.getElem?_eq_getElem (by rw [hB.len]; omega)⟩
      have hskip := bfs_skip he hB
      have hnew := bfs_new he hn40 hdd.1 hdd.2 hub hu.1 hB
      cases back
      · have hnsrc : ∀ {K : Prop}, srcE false e = u → ¬ e.1 = u → K := fun h1 h2 => absurd h1 h2
        cases b
        · conv => whnf
          repeat' (first | (refine tell (fun htest => ?_) (fun htest => ?_) <;> (try dsimp only at htest) <;> first | (exfalso; omega) | (exact absurd rfl htest) | (exact absurd (by decide) htest) | (conv => whnf)) | (refine allG (x := e) (by first | exact he | simpa [List.getElem?_append_right, lowOf] using he | fail) ?_; conv => whnf) | (refine allLst (x := e) (by first | omega | assumption | fail) (by first | exact he | simpa using he | fail) ?_; conv => whnf) | (refine allG (x := false) (by first | exact hb | simpa [List.getElem?_append_right, lowOf] using hb | fail) ?_; conv => whnf) | (refine allLst (x := false) (by first | omega | assumption | fail) (by first | exact hb | simpa using hb | fail) ?_; conv => whnf) | (refine allG rfl ?_; conv => whnf) | (refine And.intro (by first | omega | assumption | kernel_rfl | exact And.intro rfl rfl | ((try dsimp only [inR, idx, lowOf]); first | omega | (with_reducible decide) | (simp; omega) | fail) | fail) ?_; conv => whnf) | fail)
          · refine ⟨_, m_contains, (bl, e.2.1), [], false, ?_⟩
            conv => whnf
            refine And.intro (vc0 hbl (by (repeat' (first | exact trivial | exact rfl | refine And.intro ?_ ?_ | (refine congrArg vI ?_; first | omega | (dsimp only; omega) | fail) | (refine congrArg some ?_) | omega | exact Nat.le_refl _ | exact congrArg (SV.lst _) (List.take_of_length_le (Nat.le_refl _)).symm))) (by repeat' (first | exact trivial | exact rfl | refine And.intro ?_ ?_ | (refine congrArg vI ?_; first | omega | (dsimp only; omega) | fail) | (refine congrArg some ?_) | omega | exact Nat.le_refl _ | exact congrArg (SV.lst _) (List.take_of_length_le (Nat.le_refl _)).symm)) trivial trivial) ?_
            refine And.intro (has_ex bl (e.2.1)) ?_
            intro (c : Bool) (hc : c = true ↔ e.2.1 ∈ bl)
            cases c
            · have hnb : dstE false e ∉ bl := fun h => by have := hc.2 h; cases this
              have hB2 := hnew (by assumption) hnb
              have hfr := free_set hb
              have hq2 : (q2 ++ [dstE false e]).length = q2.length + 1 := by simp
              conv => whnf
              repeat' (first | (refine tell (fun htest => ?_) (fun htest => ?_) <;> (try dsimp only at htest) <;> first | (exfalso; omega) | (exact absurd rfl htest) | (exact absurd (by decide) htest) | (conv => whnf)) | (refine allG (x := false) (by first | exact hb | simpa [List.getElem?_append_right, lowOf] using hb | fail) ?_; conv => whnf) | (refine allLst (x := false) (by first | omega | assumption | fail) (by first | exact hb | simpa using hb | fail) ?_; conv => whnf) | (refine allG rfl ?_; conv => whnf) | (refine And.intro (by first | omega | assumption | kernel_rfl | exact And.intro rfl rfl | ((try dsimp only [inR, idx, lowOf]); first | omega | (with_reducible decide) | (simp; omega) | fail) | fail) ?_; conv => whnf) | fail)
              refine ⟨(bits2.set (dstE false e).toNat true, [], q2 ++ [dstE false e], j + 1), [(3001, 1064)], ⟨hjl, hB2, by dsimp only; omega, by dsimp only; omega, (bit_set (by rw [hB.len]; show (e.2.1).toNat < 40; omega)).2 (.inr hub)⟩, ?_, rfl, ?_, ?_, rfl⟩
              · dsimp only; first | omega | (simp; done) | (simp; omega)
              all_goals (repeat' (first | exact trivial | exact rfl | refine And.intro ?_ ?_ | (refine congrArg vI ?_; first | omega | (dsimp only; omega) | fail) | (refine congrArg some ?_) | omega | exact Nat.le_refl _ | exact congrArg (SV.lst _) (List.take_of_length_le (Nat.le_refl _)).symm))
              · exact (show SV.sl (A := AF) 1064 1 0 (q2.length + 1) = SV.sl 1064 1 0 (q2 ++ [dstE false e]).length by rw [hq2])
              · exact congrArg (Ct.arr (A := AF) 3) (show ((pre2 ++ q2).drop pre2.length).take q2.length ++ [e.2.1] = [] ++ (q2 ++ [dstE false e]) by simp [dstE])
            · have hB2 := hskip fun _ h => absurd (hc.1 rfl) h
              conv => whnf
              repeat' (first | (refine tell (fun htest => ?_) (fun htest => ?_) <;> (try dsimp only at htest) <;> first | (exfalso; omega) | (exact absurd rfl htest) | (exact absurd (by decide) htest) | (conv => whnf)) | (refine allG rfl ?_; conv => whnf) | (refine And.intro (by first | omega | assumption | kernel_rfl | exact And.intro rfl rfl | ((try dsimp only [inR, idx, lowOf]); first | omega | (with_reducible decide) | (simp; omega) | fail) | fail) ?_; conv => whnf) | fail)
              refine ⟨(bits2, pre2, q2, j + 1), [], ⟨hjl, hB2, hf1, hf2, hub⟩, ?_, rfl, ?_, ?_, rfl⟩
              · dsimp only; first | omega | (simp; done) | (simp; omega)
              all_goals (repeat' (first | exact trivial | exact rfl | refine And.intro ?_ ?_ | (refine congrArg vI ?_; first | omega | (dsimp only; omega) | fail) | (refine congrArg some ?_) | omega | exact Nat.le_refl _ | exact congrArg (SV.lst _) (List.take_of_length_le (Nat.le_refl _)).symm))
          · have hB2 := hskip fun h => hnsrc h (by assumption)
            refine ⟨(bits2, pre2, q2, j + 1), [], ⟨hjl, hB2, hf1, hf2, hub⟩, ?_, rfl, ?_, ?_, rfl⟩
            · dsimp only; first | omega | (simp; done) | (simp; omega)
            all_goals (repeat' (first | exact trivial | exact rfl | refine And.intro ?_ ?_ | (refine congrArg vI ?_; first | omega | (dsimp only; omega) | fail) | (refine congrArg some ?_) | omega | exact Nat.le_refl _ | exact congrArg (SV.lst _) (List.take_of_length_le (Nat.le_refl _)).symm))
        · have hB2 := hskip fun _ _ => hb
          conv => whnf
          repeat' (first | (refine tell (fun htest => ?_) (fun htest => ?_) <;> (try dsimp only at htest) <;> first | (exfalso; omega) | (exact absurd rfl htest) | (exact absurd (by decide) htest) | (conv => whnf)) | (refine allG (x := e) (by first | exact he | simpa [List.getElem?_append_right, lowOf] using he | fail) ?_; conv => whnf) | (refine allLst (x := e) (by first | omega | assumption | fail) (by first | exact he | simpa using he | fail) ?_; conv => whnf) | (refine allG (x := true) (by first | exact hb | simpa [List.getElem?_append_right, lowOf] using hb | fail) ?_; conv => whnf) | (refine allLst (x := true) (by first | omega | assumption | fail) (by first | exact hb | simpa using hb | fail) ?_; conv => whnf) | (refine allG rfl ?_; conv => whnf) | (refine And.intro (by first | omega | assumption | kernel_rfl | exact And.intro rfl rfl | ((try dsimp only [inR, idx, lowOf]); first | omega | (with_reducible decide) | (simp; omega) | fail) | fail) ?_; conv => whnf) | fail)
          all_goals
            refine ⟨(bits2, pre2, q2, j + 1), [], ⟨hjl, hB2, hf1, hf2, hub⟩, ?_, rfl, ?_, ?_, rfl⟩
            · dsimp only; first | omega | (simp; done) | (simp; omega)
            all_goals (repeat' (first | exact trivial | exact rfl | refine And.intro ?_ ?_ | (refine congrArg vI ?_; first | omega | (dsimp only; omega) | fail) | (refine congrArg some ?_) | omega | exact Nat.le_refl _ | exact congrArg (SV.lst _) (List.take_of_length_le (Nat.le_refl _)).symm))
      · have hnsrc : ∀ {K : Prop}, srcE true e = u → ¬ e.2.1 = u → K := fun h1 h2 => absurd h1 h2
        cases b
        · conv => whnf
          repeat' (first | (refine tell (fun htest => ?_) (fun htest => ?_) <;> (try dsimp only at htest) <;> first | (exfalso; omega) | (exact absurd rfl htest) | (exact absurd (by decide) htest) | (conv => whnf)) | (refine allG (x := e) (by first | exact he | simpa [List.getElem?_append_right, lowOf] using he | fail) ?_; conv => whnf) | (refine allLst (x := e) (by first | omega | assumption | fail) (by first | exact he | simpa using he | fail) ?_; conv => whnf) | (refine allG (x := false) (by first | exact hb | simpa [List.getElem?_append_right, lowOf] using hb | fail) ?_; conv => whnf) | (refine allLst (x := false) (by first | omega | assumption | fail) (by first | exact hb | simpa using hb | fail) ?_; conv => whnf) | (refine allG rfl ?_; conv => whnf) | (refine And.intro (by first | omega | assumption | kernel_rfl | exact And.intro rfl rfl | ((try dsimp only [inR, idx, lowOf]); first | omega | (with_reducible decide) | (simp; omega) | fail) | fail) ?_; conv => whnf) | fail)
          · refine ⟨_, m_contains, (bl, e.1), [], false, ?_⟩
            conv => whnf
            refine And.intro (vc0 hbl (by (repeat' (first | exact trivial | exact rfl | refine And.intro ?_ ?_ | (refine congrArg vI ?_; first | omega | (dsimp only; omega) | fail) | (refine congrArg some ?_) | omega | exact Nat.le_refl _ | exact congrArg (SV.lst _) (List.take_of_length_le (Nat.le_refl _)).symm))) (by repeat' (first | exact trivial | exact rfl | refine And.intro ?_ ?_ | (refine congrArg vI ?_; first | omega | (dsimp only; omega) | fail) | (refine congrArg some ?_) | omega | exact Nat.le_refl _ | exact congrArg (SV.lst _) (List.take_of_length_le (Nat.le_refl _)).symm)) trivial trivial) ?_
            refine And.intro (has_ex bl (e.1)) ?_
            intro (c : Bool) (hc : c = true ↔ e.1 ∈ bl)
            cases c
            · have hnb : dstE true e ∉ bl := fun h => by have := hc.2 h; cases this
              have hB2 := hnew (by assumption) hnb
              have hfr := free_set hb
              have hq2 : (q2 ++ [dstE true e]).length = q2.length + 1 := by simp
              conv => whnf
              repeat' (first | (refine tell (fun htest => ?_) (fun htest => ?_) <;> (try dsimp only at htest) <;> first | (exfalso; omega) | (exact absurd rfl htest) | (exact absurd (by decide) htest) | (conv => whnf)) | (refine allG (x := false) (by first | exact hb | simpa [List.getElem?_append_right, lowOf] using hb | fail) ?_; conv => whnf) | (refine allLst (x := false) (by first | omega | assumption | fail) (by first | exact hb | simpa using hb | fail) ?_; conv => whnf) | (refine allG rfl ?_; conv => whnf) | (refine And.intro (by first | omega | assumption | kernel_rfl | exact And.intro rfl rfl | ((try dsimp only [inR, idx, lowOf]); first | omega | (with_reducible decide) | (simp; omega) | fail) | fail) ?_; conv => whnf) | fail)
              refine ⟨(bits2.set (dstE true e).toNat true, [], q2 ++ [dstE true e], j + 1), [(3001, 1064)], ⟨hjl, hB2, by dsimp only; omega, by dsimp only; omega, (bit_set (by rw [hB.len]; show (e.1).toNat < 40; omega)).2 (.inr hub)⟩, ?_, rfl, ?_, ?_, rfl⟩
              · dsimp only; first | omega | (simp; done) | (simp; omega)
              all_goals (repeat' (first | exact trivial | exact rfl | refine And.intro ?_ ?_ | (refine congrArg vI ?_; first | omega | (dsimp only; omega) | fail) | (refine congrArg some ?_) | omega | exact Nat.le_refl _ | exact congrArg (SV.lst _) (List.take_of_length_le (Nat.le_refl _)).symm))
              · exact (show SV.sl (A := AF) 1064 1 0 (q2.length + 1) = SV.sl 1064 1 0 (q2 ++ [dstE true e]).length by rw [hq2])
              · exact congrArg (Ct.arr (A := AF) 3) (show ((pre2 ++ q2).drop pre2.length).take q2.length ++ [e.1] = [] ++ (q2 ++ [dstE true e]) by simp [dstE])
            · have hB2 := hskip fun _ h => absurd (hc.1 rfl) h
              conv => whnf
              repeat' (first | (refine tell (fun htest => ?_) (fun htest => ?_) <;> (try dsimp only at htest) <;> first | (exfalso; omega) | (exact absurd rfl htest) | (exact absurd (by decide) htest) | (conv => whnf)) | (refine allG rfl ?_; conv => whnf) | (refine And.intro (by first | omega | assumption | kernel_rfl | exact And.intro rfl rfl | ((try dsimp only [inR, idx, lowOf]); first | omega | (with_reducible decide) | (simp; omega) | fail) | fail) ?_; conv => whnf) | fail)
              refine ⟨(bits2, pre2, q2, j + 1), [], ⟨hjl, hB2, hf1, hf2, hub⟩, ?_, rfl, ?_, ?_, rfl⟩
              · dsimp only; first | omega | (simp; done) | (simp; omega)
              all_goals (repeat' (first | exact trivial | exact rfl | refine And.intro ?_ ?_ | (refine congrArg vI ?_; first | omega | (dsimp only; omega) | fail) | (refine congrArg some ?_) | omega | exact Nat.le_refl _ | exact congrArg (SV.lst _) (List.take_of_length_le (Nat.le_refl _)).symm))
          · have hB2 := hskip fun h => hnsrc h (by assumption)
            refine ⟨(bits2, pre2, q2, j + 1), [], ⟨hjl, hB2, hf1, hf2, hub⟩, ?_, rfl, ?_, ?_, rfl⟩
            · dsimp only; first | omega | (simp; done) | (simp; omega)
            all_goals (repeat' (first | exact trivial | exact rfl | refine And.intro ?_ ?_ | (refine congrArg vI ?_; first | omega | (dsimp only; omega) | fail) | (refine congrArg some ?_) | omega | exact Nat.le_refl _ | exact congrArg (SV.lst _) (List.take_of_length_le (Nat.le_refl _)).symm))
        · have hB2 := hskip fun _ _ => hb
          conv => whnf
          repeat' (first | (refine tell (fun htest => ?_) (fun htest => ?_) <;> (try dsimp only at htest) <;> first | (exfalso; omega) | (exact absurd rfl htest) | (exact absurd (by decide) htest) | (conv => whnf)) | (refine allG (x := e) (by first | exact he | simpa [List.getElem?_append_right, lowOf] using he | fail) ?_; conv => whnf) | (refine allLst (x := e) (by first | omega | assumption | fail) (by first | exact he | simpa using he | fail) ?_; conv => whnf) | (refine allG (x := true) (by first | exact hb | simpa [List.getElem?_append_right, lowOf] using hb | fail) ?_; conv => whnf) | (refine allLst (x := true) (by first | omega | assumption | fail) (by first | exact hb | simpa using hb | fail) ?_; conv => whnf) | (refine allG rfl ?_; conv => whnf) | (refine And.intro (by first | omega | assumption | kernel_rfl | exact And.intro rfl rfl | ((try dsimp only [inR, idx, lowOf]); first | omega | (with_reducible decide) | (simp; omega) | fail) | fail) ?_; conv => whnf) | fail)
          all_goals
            refine ⟨(bits2, pre2, q2, j + 1), [], ⟨hjl, hB2, hf1, hf2, hub⟩, ?_, rfl, ?_, ?_, rfl⟩
            · dsimp only; first | omega | (simp; done) | (simp; omega)
            all_goals (repeat' (first | exact trivial | exact rfl | refine And.intro ?_ ?_ | (refine congrArg vI ?_; first | omega | (dsimp only; omega) | fail) | (refine congrArg some ?_) | omega | exact Nat.le_refl _ | exact congrArg (SV.lst _) (List.take_of_length_le (Nat.le_refl _)).symm))
    · have hj : j = es.length := by omega
      subst hj
      have hB' : BfsOk es bl back s n bits2 q2 (fun _ _ => False) := ⟨hB.len, hB.sound, hB.start, hB.queue, fun e he x hx h1 h2 => by
        rcases hB.closed e he x hx h1 h2 with h3 | h3 | h3
        · exact .inl h3
        · exact .inr (.inl h3)
        · simp at h3⟩
      conv => whnf
      repeat' (first | (refine tell (fun htest => ?_) (fun htest => ?_) <;> (try dsimp only at htest) <;> first | (exfalso; omega) | (exact absurd rfl htest) | (exact absurd (by decide) htest) | (conv => whnf)) | (refine allG rfl ?_; conv => whnf) | (refine And.intro (by first | omega | assumption | kernel_rfl | exact And.intro rfl rfl | ((try dsimp only [inR, idx, lowOf]); first | omega | (with_reducible decide) | (simp; omega) | fail) | fail) ?_; conv => whnf) | fail)
      refine ⟨(bits2, pre2, q2), [(3000, 3001)], ⟨hB', by dsimp only; omega⟩, ?_, rfl, ?_, ?_, rfl⟩
      · dsimp only; first | omega | (simp; done) | (simp; omega)
      all_goals (repeat' (first | exact trivial | exact rfl | refine And.intro ?_ ?_ | (refine congrArg vI ?_; first | omega | (dsimp only; omega) | fail) | (refine congrArg some ?_) | omega | exact Nat.le_refl _ | exact congrArg (SV.lst _) (List.take_of_length_le (Nat.le_refl _)).symm))
end Go.Sx

