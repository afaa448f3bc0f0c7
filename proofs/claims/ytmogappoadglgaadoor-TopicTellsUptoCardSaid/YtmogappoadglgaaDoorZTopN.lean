/-
  Layer 7, part N: the document's Parse and Match. (printed by mkTopN.py)
-/
import Derived.Test.YtmogappoadglgaaDoorZTopM
import Derived.Test.YtmogappoadglgaaDoorZTopH
set_option linter.unusedVariables false
set_option linter.unusedSimpArgs false
namespace Go.Sx
open Go Go.Proofs Go.Proofs.YtmogappoadglgaaDoor
theorem part_len : ∀ (l : Txt), ∀ p ∈ partsN l, p.length ≤ l.length
  | [], p, hp => by simp [partsN] at hp; subst hp; simp
  | b :: l, p, hp => by
    have hobt := partsN_eq l
    obtain ⟨q, qs, hq⟩ := hobt
    have ih := part_len l
    rw [hq] at ih
    rw [partsN, hq] at hp
    split at hp
    · rcases List.mem_cons.1 hp with rfl | hp
      · simp
      · have := ih p hp; rw [List.length_cons]; omega
    · rcases List.mem_cons.1 hp with rfl | hp
      · have := ih q (List.mem_cons_self ..)
        simp only [List.headD_cons, List.length_cons]; omega
      · have := ih p (List.mem_cons_of_mem _ hp); rw [List.length_cons]; omega
theorem parse_five {s a b m x k : Txt} (hp : partsN s = [a, b, m, x, k]) : parseN s = if okT (m, x, k) = true ∧ textT (m, x, k) = s then some (m, x, k) else none := by
  unfold parseN
  rw [hp]
  dsimp only
  by_cases h : okT (m, x, k) = true ∧ textT (m, x, k) = s
  · have h1 := parts_text h.1
    rw [h.2, hp] at h1
    simp only [partsT, List.cons.injEq, and_true] at h1
    rw [if_pos h, if_pos ⟨h1.1, h1.2, h.1⟩]
  · rw [if_neg h, if_neg]
    rintro ⟨rfl, rfl, h3⟩
    refine h ⟨h3, ?_⟩
    show joinN [uagvL, v2L, m, x, k] = s
    rw [← hp, joinN_parts]
theorem parse_other {s : Txt} (h : (partsN s).length ≠ 5) : parseN s = none := by
  unfold parseN
  split
  · rename_i hp; rw [hp] at h; exact absurd rfl h
  · rfl
abbrev spParse07 : Spec AF := { spParse with pre := fun l => l.length ≤ 4000000000000 }
theorem at_print07 {t : Topic} (h1 : t.1.length ≤ 9223372036854775807) (h2 : t.2.1.length ≤ 9223372036854775807) {u : Txt} {e : Int} (hu : printS t = u) (he : printE t = e) : Meets Tryd.prog regF 42 (spAt spPrint07 t (.tup [vS u, vI e])) := meets_at m_print07 t ⟨h1, h2⟩ _ fun _ => by
  show SV.tup [vS (printS t), vI (printE t)] = _
  rw [hu, he]
set_option maxRecDepth 100000 in
set_option maxHeartbeats 1600000 in
theorem m_parse07 : Meets Tryd.prog regF 48 spParse07 := by
  refine meets Tryd.func48 38 noWr rfl (by kernel_rfl) (by kernel_rfl) ?_
  rintro (l : Txt) (hl : l.length ≤ 4000000000000)
  have bad : parseN l = none → parseT l = ([], [], []) ∧ parseE l = 70 := fun h => by unfold parseT parseE; rw [h]; exact ⟨rfl, rfl⟩
  have good : ∀ t, parseN l = some t → parseT l = t ∧ parseE l = 0 := fun t h => by unfold parseT parseE; rw [h]; exact ⟨rfl, rfl⟩
  have hml : ((partsN l).map bS).length = (partsN l).length := List.length_map ..
  conv => whnf
  repeat' (first | (refine tell (fun hQ => ?_) (fun hQ => ?_) <;> (try dsimp only at hQ) <;> first | (exfalso; omega) | (exact absurd rfl hQ) | (exact absurd hQ hne) | (exact absurd hne hQ) | (exact absurd hQ hcne) | (exact absurd hQ t1) | (exact absurd t1 hQ) | (exact absurd (by decide) hQ) | (conv => whnf)) | (refine allG rfl ?_; conv => whnf) | (refine And.intro (by first | omega | assumption | kernel_rfl | exact And.intro rfl rfl | ((try dsimp only [inR, idx, lowOf]); first | omega | (with_reducible decide) | (simp; omega) | (simp; done) | fail) | fail) ?_; conv => whnf) | fail)
  refine ⟨_, m_parts07, l, [], false, ?_⟩
  conv => whnf
  refine And.intro (vc0 hl (by (repeat' (first | exact trivial | exact rfl | refine And.intro ?_ ?_ | (refine congrArg vI ?_; first | omega | (dsimp only; omega) | fail) | (refine congrArg some ?_) | omega | exact Nat.le_refl _ | exact congrArg (SV.lst _) (List.take_of_length_le (Nat.le_refl _)).symm))) (by repeat' (first | exact trivial | exact rfl | refine And.intro ?_ ?_ | (refine congrArg vI ?_; first | omega | (dsimp only; omega) | fail) | (refine congrArg some ?_) | omega | exact Nat.le_refl _ | exact congrArg (SV.lst _) (List.take_of_length_le (Nat.le_refl _)).symm)) trivial trivial) ?_
  refine And.intro ⟨(), trivial⟩ (fun (_ : Unit) _ => ?_)
  conv => whnf
  by_cases h5 : (partsN l).length = 5
  · obtain ⟨a, b, m, x, k, hp⟩ : ∃ a b m x k, partsN l = [a, b, m, x, k] := by
      match hq : partsN l, h5 with
      | [a, b, m, x, k], _ => exact ⟨a, b, m, x, k, rfl⟩
    have g2 : ((partsN l).map bS)[2]? = some (bS m) := by rw [hp]; rfl
    have g3 : ((partsN l).map bS)[3]? = some (bS x) := by rw [hp]; rfl
    have g4 : ((partsN l).map bS)[4]? = some (bS k) := by rw [hp]; rfl
    have hpf := parse_five hp
    have lm := part_len l m (by rw [hp]; simp)
    have lx := part_len l x (by rw [hp]; simp)
    cases hok : okT (m, x, k)
    · have hobt := bad (by rw [hpf, if_neg (fun h => by rw [hok] at h; exact Bool.false_ne_true h.1)])
      obtain ⟨e1, e2⟩ := hobt
      have hpr := at_print07 (t := (m, x, k)) (by show m.length ≤ _; omega) (by show x.length ≤ _; omega) (print_no hok).1 (print_no hok).2
      conv => whnf
      repeat' (first | (refine tell (fun hQ => ?_) (fun hQ => ?_) <;> (try dsimp only at hQ) <;> first | (exfalso; omega) | (exact absurd rfl hQ) | (exact absurd hQ hne) | (exact absurd hne hQ) | (exact absurd hQ hcne) | (exact absurd hQ t1) | (exact absurd t1 hQ) | (exact absurd (by decide) hQ) | (conv => whnf)) | (refine allG (x := _) (by first | exact g2 | simpa [List.getElem?_append_right, lowOf] using g2 | fail) ?_; conv => whnf) | (refine allLst (x := _) (by first | omega | assumption | fail) (by first | exact g2 | simpa using g2 | fail) ?_; conv => whnf) | (refine allG (x := _) (by first | exact g3 | simpa [List.getElem?_append_right, lowOf] using g3 | fail) ?_; conv => whnf) | (refine allLst (x := _) (by first | omega | assumption | fail) (by first | exact g3 | simpa using g3 | fail) ?_; conv => whnf) | (refine allG (x := _) (by first | exact g4 | simpa [List.getElem?_append_right, lowOf] using g4 | fail) ?_; conv => whnf) | (refine allLst (x := _) (by first | omega | assumption | fail) (by first | exact g4 | simpa using g4 | fail) ?_; conv => whnf) | (refine allG rfl ?_; conv => whnf) | (refine And.intro (by first | omega | assumption | kernel_rfl | exact And.intro rfl rfl | ((try dsimp only [inR, idx, lowOf]); first | omega | (with_reducible decide) | (simp; omega) | (simp; done) | fail) | fail) ?_; conv => whnf) | fail)
      refine ⟨_, hpr, (), [], false, ?_⟩
      conv => whnf
      refine And.intro (vc0 trivial (by (repeat' (first | exact trivial | exact rfl | refine And.intro ?_ ?_ | (refine congrArg vI ?_; first | omega | (dsimp only; omega) | fail) | (refine congrArg some ?_) | omega | exact Nat.le_refl _ | exact congrArg (SV.lst _) (List.take_of_length_le (Nat.le_refl _)).symm))) (by repeat' (first | exact trivial | exact rfl | refine And.intro ?_ ?_ | (refine congrArg vI ?_; first | omega | (dsimp only; omega) | fail) | (refine congrArg some ?_) | omega | exact Nat.le_refl _ | exact congrArg (SV.lst _) (List.take_of_length_le (Nat.le_refl _)).symm)) trivial trivial) ?_
      refine And.intro ⟨(), trivial⟩ (fun (_ : Unit) _ => ?_)
      conv => whnf
      conv => whnf
      repeat' (first | (refine tell (fun hQ => ?_) (fun hQ => ?_) <;> (try dsimp only at hQ) <;> first | (exfalso; omega) | (exact absurd rfl hQ) | (exact absurd hQ hne) | (exact absurd hne hQ) | (exact absurd hQ hcne) | (exact absurd hQ t1) | (exact absurd t1 hQ) | (exact absurd (by decide) hQ) | (conv => whnf)) | (refine allG rfl ?_; conv => whnf) | (refine And.intro (by first | omega | assumption | kernel_rfl | exact And.intro rfl rfl | ((try dsimp only [inR, idx, lowOf]); first | omega | (with_reducible decide) | (simp; omega) | (simp; done) | fail) | fail) ?_; conv => whnf) | fail)
      exact ⟨(), [], trivial, ⟨⟨congrArg (fun t : Topic => vS t.1) e1.symm, congrArg (fun t : Topic => vS t.2.1) e1.symm, congrArg (fun t : Topic => vS t.2.2) e1.symm, trivial⟩, eIA e2.symm, trivial⟩, trivial, trivial⟩
    · have hpr := at_print07 (t := (m, x, k)) (by show m.length ≤ _; omega) (by show x.length ≤ _; omega) (print_ok hok).1 (print_ok hok).2
      by_cases heq : textT (m, x, k) = l
      · have t1 : ByteArray.toList ⟨(textT (m, x, k)).toArray⟩ = ByteArray.toList ⟨l.toArray⟩ := bS_inj.2 heq
        have hobt := good _ (by rw [hpf, if_pos ⟨hok, heq⟩])
        obtain ⟨e1, e2⟩ := hobt
        conv => whnf
        repeat' (first | (refine tell (fun hQ => ?_) (fun hQ => ?_) <;> (try dsimp only at hQ) <;> first | (exfalso; omega) | (exact absurd rfl hQ) | (exact absurd hQ hne) | (exact absurd hne hQ) | (exact absurd hQ hcne) | (exact absurd hQ t1) | (exact absurd t1 hQ) | (exact absurd (by decide) hQ) | (conv => whnf)) | (refine allG (x := _) (by first | exact g2 | simpa [List.getElem?_append_right, lowOf] using g2 | fail) ?_; conv => whnf) | (refine allLst (x := _) (by first | omega | assumption | fail) (by first | exact g2 | simpa using g2 | fail) ?_; conv => whnf) | (refine allG (x := _) (by first | exact g3 | simpa [List.getElem?_append_right, lowOf] using g3 | fail) ?_; conv => whnf) | (refine allLst (x := _) (by first | omega | assumption | fail) (by first | exact g3 | simpa using g3 | fail) ?_; conv => whnf) | (refine allG (x := _) (by first | exact g4 | simpa [List.getElem?_append_right, lowOf] using g4 | fail) ?_; conv => whnf) | (refine allLst (x := _) (by first | omega | assumption | fail) (by first | exact g4 | simpa using g4 | fail) ?_; conv => whnf) | (refine allG rfl ?_; conv => whnf) | (refine And.intro (by first | omega | assumption | kernel_rfl | exact And.intro rfl rfl | ((try dsimp only [inR, idx, lowOf]); first | omega | (with_reducible decide) | (simp; omega) | (simp; done) | fail) | fail) ?_; conv => whnf) | fail)
        refine ⟨_, hpr, (), [], false, ?_⟩
        conv => whnf
        refine And.intro (vc0 trivial (by (repeat' (first | exact trivial | exact rfl | refine And.intro ?_ ?_ | (refine congrArg vI ?_; first | omega | (dsimp only; omega) | fail) | (refine congrArg some ?_) | omega | exact Nat.le_refl _ | exact congrArg (SV.lst _) (List.take_of_length_le (Nat.le_refl _)).symm))) (by repeat' (first | exact trivial | exact rfl | refine And.intro ?_ ?_ | (refine congrArg vI ?_; first | omega | (dsimp only; omega) | fail) | (refine congrArg some ?_) | omega | exact Nat.le_refl _ | exact congrArg (SV.lst _) (List.take_of_length_le (Nat.le_refl _)).symm)) trivial trivial) ?_
        refine And.intro ⟨(), trivial⟩ (fun (_ : Unit) _ => ?_)
        conv => whnf
        conv => whnf
        repeat' (first | (refine tell (fun hQ => ?_) (fun hQ => ?_) <;> (try dsimp only at hQ) <;> first | (exfalso; omega) | (exact absurd rfl hQ) | (exact absurd hQ hne) | (exact absurd hne hQ) | (exact absurd hQ hcne) | (exact absurd hQ t1) | (exact absurd t1 hQ) | (exact absurd (by decide) hQ) | (conv => whnf)) | (refine allG rfl ?_; conv => whnf) | (refine And.intro (by first | omega | assumption | kernel_rfl | exact And.intro rfl rfl | ((try dsimp only [inR, idx, lowOf]); first | omega | (with_reducible decide) | (simp; omega) | (simp; done) | fail) | fail) ?_; conv => whnf) | fail)
        exact ⟨(), [], trivial, ⟨⟨congrArg (fun t : Topic => vS t.1) e1.symm, congrArg (fun t : Topic => vS t.2.1) e1.symm, congrArg (fun t : Topic => vS t.2.2) e1.symm, trivial⟩, eIA e2.symm, trivial⟩, trivial, trivial⟩
      · have hne : ¬ (ByteArray.toList ⟨(textT (m, x, k)).toArray⟩ = ByteArray.toList ⟨l.toArray⟩) := fun e => heq (bS_inj.1 e)
        have hobt := bad (by rw [hpf, if_neg (fun h => heq h.2)])
        obtain ⟨e1, e2⟩ := hobt
        conv => whnf
        repeat' (first | (refine tell (fun hQ => ?_) (fun hQ => ?_) <;> (try dsimp only at hQ) <;> first | (exfalso; omega) | (exact absurd rfl hQ) | (exact absurd hQ hne) | (exact absurd hne hQ) | (exact absurd hQ hcne) | (exact absurd hQ t1) | (exact absurd t1 hQ) | (exact absurd (by decide) hQ) | (conv => whnf)) | (refine allG (x := _) (by first | exact g2 | simpa [List.getElem?_append_right, lowOf] using g2 | fail) ?_; conv => whnf) | (refine allLst (x := _) (by first | omega | assumption | fail) (by first | exact g2 | simpa using g2 | fail) ?_; conv => whnf) | (refine allG (x := _) (by first | exact g3 | simpa [List.getElem?_append_right, lowOf] using g3 | fail) ?_; conv => whnf) | (refine allLst (x := _) (by first | omega | assumption | fail) (by first | exact g3 | simpa using g3 | fail) ?_; conv => whnf) | (refine allG (x := _) (by first | exact g4 | simpa [List.getElem?_append_right, lowOf] using g4 | fail) ?_; conv => whnf) | (refine allLst (x := _) (by first | omega | assumption | fail) (by first | exact g4 | simpa using g4 | fail) ?_; conv => whnf) | (refine allG rfl ?_; conv => whnf) | (refine And.intro (by first | omega | assumption | kernel_rfl | exact And.intro rfl rfl | ((try dsimp only [inR, idx, lowOf]); first | omega | (with_reducible decide) | (simp; omega) | (simp; done) | fail) | fail) ?_; conv => whnf) | fail)
        refine ⟨_, hpr, (), [], false, ?_⟩
        conv => whnf
        refine And.intro (vc0 trivial (by (repeat' (first | exact trivial | exact rfl | refine And.intro ?_ ?_ | (refine congrArg vI ?_; first | omega | (dsimp only; omega) | fail) | (refine congrArg some ?_) | omega | exact Nat.le_refl _ | exact congrArg (SV.lst _) (List.take_of_length_le (Nat.le_refl _)).symm))) (by repeat' (first | exact trivial | exact rfl | refine And.intro ?_ ?_ | (refine congrArg vI ?_; first | omega | (dsimp only; omega) | fail) | (refine congrArg some ?_) | omega | exact Nat.le_refl _ | exact congrArg (SV.lst _) (List.take_of_length_le (Nat.le_refl _)).symm)) trivial trivial) ?_
        refine And.intro ⟨(), trivial⟩ (fun (_ : Unit) _ => ?_)
        conv => whnf
        conv => whnf
        repeat' (first | (refine tell (fun hQ => ?_) (fun hQ => ?_) <;> (try dsimp only at hQ) <;> first | (exfalso; omega) | (exact absurd rfl hQ) | (exact absurd hQ hne) | (exact absurd hne hQ) | (exact absurd hQ hcne) | (exact absurd hQ t1) | (exact absurd t1 hQ) | (exact absurd (by decide) hQ) | (conv => whnf)) | (refine allG rfl ?_; conv => whnf) | (refine And.intro (by first | omega | assumption | kernel_rfl | exact And.intro rfl rfl | ((try dsimp only [inR, idx, lowOf]); first | omega | (with_reducible decide) | (simp; omega) | (simp; done) | fail) | fail) ?_; conv => whnf) | fail)
        exact ⟨(), [], trivial, ⟨⟨congrArg (fun t : Topic => vS t.1) e1.symm, congrArg (fun t : Topic => vS t.2.1) e1.symm, congrArg (fun t : Topic => vS t.2.2) e1.symm, trivial⟩, eIA e2.symm, trivial⟩, trivial, trivial⟩
  · have hobt := bad (parse_other h5)
    obtain ⟨e1, e2⟩ := hobt
    conv => whnf
    repeat' (first | (refine tell (fun hQ => ?_) (fun hQ => ?_) <;> (try dsimp only at hQ) <;> first | (exfalso; omega) | (exact absurd rfl hQ) | (exact absurd hQ hne) | (exact absurd hne hQ) | (exact absurd hQ hcne) | (exact absurd hQ t1) | (exact absurd t1 hQ) | (exact absurd (by decide) hQ) | (conv => whnf)) | (refine allG rfl ?_; conv => whnf) | (refine And.intro (by first | omega | assumption | kernel_rfl | exact And.intro rfl rfl | ((try dsimp only [inR, idx, lowOf]); first | omega | (with_reducible decide) | (simp; omega) | (simp; done) | fail) | fail) ?_; conv => whnf) | fail)
    exact ⟨(), [], trivial, ⟨⟨congrArg (fun t : Topic => vS t.1) e1.symm, congrArg (fun t : Topic => vS t.2.1) e1.symm, congrArg (fun t : Topic => vS t.2.2) e1.symm, trivial⟩, eIA e2.symm, trivial⟩, trivial, trivial⟩
set_option maxRecDepth 100000 in
set_option maxHeartbeats 1600000 in
theorem m_match07 : Meets Tryd.prog regF 50 spMatch := by
  refine meets Tryd.func50 57 noWr rfl (by kernel_rfl) (by kernel_rfl) ?_
  rintro ⟨(fl : Txt), (nm : Txt)⟩ ⟨(hl1 : fl.length ≤ 4000000000000), (hl2 : nm.length ≤ 4000000000000)⟩
  have hp1 := partsN_lenle fl
  have hp2 := partsN_lenle nm
  have hobt : ∃ ns, partsN nm = ns := ⟨_, rfl⟩
  obtain ⟨ns, hns⟩ := hobt
  have hq1 := meets_at m_parts07 fl hl1 (.lst 9 ((partsN fl).map bS)) fun _ => rfl
  have hq2 := meets_at m_parts07 nm hl2 (.lst 9 (ns.map bS)) fun _ => congrArg (fun x : List Txt => SV.lst (A := AF) 9 (x.map bS)) hns
  have fin : ∀ {c : Bool}, matchP (partsN fl) ns = c → c = matchP (partsN (fl, nm).1) (partsN (fl, nm).2) := fun h => by
    show _ = matchP (partsN fl) (partsN nm)
    rw [hns]; exact h.symm
  rw [hns] at hp2
  have hml : (ns.map bS).length = ns.length := List.length_map ..
  have hfl : ((partsN fl).map bS).length = (partsN fl).length := List.length_map ..
  conv => whnf
  repeat' (first | (refine tell (fun hQ => ?_) (fun hQ => ?_) <;> (try dsimp only at hQ) <;> first | (exfalso; omega) | (exact absurd rfl hQ) | (exact absurd hQ hne) | (exact absurd hne hQ) | (exact absurd hQ hcne) | (exact absurd hQ t1) | (exact absurd t1 hQ) | (exact absurd (by decide) hQ) | (conv => whnf)) | (refine allG rfl ?_; conv => whnf) | (refine And.intro (by first | omega | assumption | kernel_rfl | exact And.intro rfl rfl | ((try dsimp only [inR, idx, lowOf]); first | omega | (with_reducible decide) | (simp; omega) | (simp; done) | fail) | fail) ?_; conv => whnf) | fail)
  refine ⟨_, hq1, (), [], false, ?_⟩
  conv => whnf
  refine And.intro (vc0 trivial (by (repeat' (first | exact trivial | exact rfl | refine And.intro ?_ ?_ | (refine congrArg vI ?_; first | omega | (dsimp only; omega) | fail) | (refine congrArg some ?_) | omega | exact Nat.le_refl _ | exact congrArg (SV.lst _) (List.take_of_length_le (Nat.le_refl _)).symm))) (by repeat' (first | exact trivial | exact rfl | refine And.intro ?_ ?_ | (refine congrArg vI ?_; first | omega | (dsimp only; omega) | fail) | (refine congrArg some ?_) | omega | exact Nat.le_refl _ | exact congrArg (SV.lst _) (List.take_of_length_le (Nat.le_refl _)).symm)) trivial trivial) ?_
  refine And.intro ⟨(), trivial⟩ (fun (_ : Unit) _ => ?_)
  conv => whnf
  conv => whnf
  repeat' (first | (refine tell (fun hQ => ?_) (fun hQ => ?_) <;> (try dsimp only at hQ) <;> first | (exfalso; omega) | (exact absurd rfl hQ) | (exact absurd hQ hne) | (exact absurd hne hQ) | (exact absurd hQ hcne) | (exact absurd hQ t1) | (exact absurd t1 hQ) | (exact absurd (by decide) hQ) | (conv => whnf)) | (refine allG rfl ?_; conv => whnf) | (refine And.intro (by first | omega | assumption | kernel_rfl | exact And.intro rfl rfl | ((try dsimp only [inR, idx, lowOf]); first | omega | (with_reducible decide) | (simp; omega) | (simp; done) | fail) | fail) ?_; conv => whnf) | fail)
  refine ⟨_, hq2, (), [], false, ?_⟩
  conv => whnf
  refine And.intro (vc0 trivial (by (repeat' (first | exact trivial | exact rfl | refine And.intro ?_ ?_ | (refine congrArg vI ?_; first | omega | (dsimp only; omega) | fail) | (refine congrArg some ?_) | omega | exact Nat.le_refl _ | exact congrArg (SV.lst _) (List.take_of_length_le (Nat.le_refl _)).symm))) (by repeat' (first | exact trivial | exact rfl | refine And.intro ?_ ?_ | (refine congrArg vI ?_; first | omega | (dsimp only; omega) | fail) | (refine congrArg some ?_) | omega | exact Nat.le_refl _ | exact congrArg (SV.lst _) (List.take_of_length_le (Nat.le_refl _)).symm)) trivial trivial) ?_
  refine And.intro ⟨(), trivial⟩ (fun (_ : Unit) _ => ?_)
  conv => whnf
  conv => whnf
  repeat' (first | (refine tell (fun hQ => ?_) (fun hQ => ?_) <;> (try dsimp only at hQ) <;> first | (exfalso; omega) | (exact absurd rfl hQ) | (exact absurd hQ hne) | (exact absurd hne hQ) | (exact absurd hQ hcne) | (exact absurd hQ t1) | (exact absurd t1 hQ) | (exact absurd (by decide) hQ) | (conv => whnf)) | (refine allG rfl ?_; conv => whnf) | (refine And.intro (by first | omega | assumption | kernel_rfl | exact And.intro rfl rfl | ((try dsimp only [inR, idx, lowOf]); first | omega | (with_reducible decide) | (simp; omega) | (simp; done) | fail) | fail) ?_; conv => whnf) | fail)
  refine ⟨Nat, fun i => ⟨[(5, .lst 9 ((partsN fl).map bS)), (6, .lst 9 (ns.map bS)), (7, vI i)], []⟩, fun i => i ≤ (partsN fl).length ∧ i ≤ ns.length ∧ matchP (partsN fl) ns = matchP ((partsN fl).drop i) (ns.drop i), fun i => (partsN fl).length - i, fun _ _ => rfl, ⟨0, [], ⟨Nat.zero_le _, Nat.zero_le _, rfl⟩, ?_⟩, ?_⟩
  · refine ⟨rfl, ?_, ?_, rfl⟩
    all_goals (repeat' (first | exact trivial | exact rfl | refine And.intro ?_ ?_ | (refine congrArg vI ?_; first | omega | (dsimp only; omega) | fail) | (refine congrArg some ?_) | omega | exact Nat.le_refl _ | exact congrArg (SV.lst _) (List.take_of_length_le (Nat.le_refl _)).symm))
  rintro (i : Nat) ⟨(hi : i ≤ (partsN fl).length), (hin : i ≤ ns.length), (hmt : matchP (partsN fl) ns = matchP ((partsN fl).drop i) (ns.drop i))⟩
  by_cases hlt : i < (partsN fl).length
  · have hobt : ∃ f, (partsN fl)[i]? = some f := ⟨_, List.getElem?_eq_getElem hlt⟩
    obtain ⟨f, hf⟩ := hobt
    have hfm : ((partsN fl).map bS)[i]? = some (bS f) := by rw [List.getElem?_map, hf]; rfl
    by_cases h35 : f = [35]
    · subst h35
      by_cases hlast : i + 1 = (partsN fl).length
      · have hyes := match_hash (ns := ns) hf hlast
        conv => whnf
        repeat' (first | (refine tell (fun hQ => ?_) (fun hQ => ?_) <;> (try dsimp only at hQ) <;> first | (exfalso; omega) | (exact absurd rfl hQ) | (exact absurd hQ hne) | (exact absurd hne hQ) | (exact absurd hQ hcne) | (exact absurd hQ t1) | (exact absurd t1 hQ) | (exact absurd (by decide) hQ) | (conv => whnf)) | (refine allG (x := _) (by first | exact hfm | simpa [List.getElem?_append_right, lowOf] using hfm | fail) ?_; conv => whnf) | (refine allLst (x := _) (by first | omega | assumption | fail) (by first | exact hfm | simpa using hfm | fail) ?_; conv => whnf) | (refine allG rfl ?_; conv => whnf) | (refine And.intro (by first | omega | assumption | kernel_rfl | exact And.intro rfl rfl | ((try dsimp only [inR, idx, lowOf]); first | omega | (with_reducible decide) | (simp; omega) | (simp; done) | fail) | fail) ?_; conv => whnf) | fail)
        exact ⟨(), [], trivial, eB (fin (hmt.trans hyes)), trivial, trivial⟩
      · have hno : ¬ (([35] : Txt) = [35] ∧ i + 1 = (partsN fl).length) := fun h => hlast h.2
        have h43 : ¬ (([35] : Txt) = [43]) := by decide
        have hne : ¬ (ByteArray.toList ⟨([35] : Txt).toArray⟩ = ByteArray.toList ⟨#[43]⟩) := fun e => absurd ((bS_inj (a := [35]) (b := [43])).1 e) (by decide)
        by_cases hin2 : i < ns.length
        · have hobt : ∃ n, ns[i]? = some n := ⟨_, List.getElem?_eq_getElem hin2⟩
          obtain ⟨n, hn⟩ := hobt
          have hnm : (ns.map bS)[i]? = some (bS n) := by rw [List.getElem?_map, hn]; rfl
          have hgo := match_go hf hn hno
          by_cases hfn : ([35] : Txt) = n
          · subst hfn
            rw [if_pos (.inr rfl)] at hgo
            conv => whnf
            repeat' (first | (refine tell (fun hQ => ?_) (fun hQ => ?_) <;> (try dsimp only at hQ) <;> first | (exfalso; omega) | (exact absurd rfl hQ) | (exact absurd hQ hne) | (exact absurd hne hQ) | (exact absurd hQ hcne) | (exact absurd hQ t1) | (exact absurd t1 hQ) | (exact absurd (by decide) hQ) | (conv => whnf)) | (refine allG (x := _) (by first | exact hfm | simpa [List.getElem?_append_right, lowOf] using hfm | fail) ?_; conv => whnf) | (refine allLst (x := _) (by first | omega | assumption | fail) (by first | exact hfm | simpa using hfm | fail) ?_; conv => whnf) | (refine allG (x := _) (by first | exact hnm | simpa [List.getElem?_append_right, lowOf] using hnm | fail) ?_; conv => whnf) | (refine allLst (x := _) (by first | omega | assumption | fail) (by first | exact hnm | simpa using hnm | fail) ?_; conv => whnf) | (refine allG rfl ?_; conv => whnf) | (refine And.intro (by first | omega | assumption | kernel_rfl | exact And.intro rfl rfl | ((try dsimp only [inR, idx, lowOf]); first | omega | (with_reducible decide) | (simp; omega) | (simp; done) | fail) | fail) ?_; conv => whnf) | fail)
            refine ⟨i + 1, [], ⟨hlt, hin2, hmt.trans (hgo)⟩, ?_, rfl, ?_, ?_, rfl⟩
            · dsimp only; first | omega | (simp; done) | (simp; omega)
            all_goals (repeat' (first | exact trivial | exact rfl | refine And.intro ?_ ?_ | (refine congrArg vI ?_; first | omega | (dsimp only; omega) | fail) | (refine congrArg some ?_) | omega | exact Nat.le_refl _ | exact congrArg (SV.lst _) (List.take_of_length_le (Nat.le_refl _)).symm))
          · have t1 : ¬ (ByteArray.toList ⟨(([35] : Txt)).toArray⟩ = ByteArray.toList ⟨n.toArray⟩) := fun e => hfn (bS_inj.1 e)
            rw [if_neg (by rintro (h | h); exact h43 h; exact hfn h)] at hgo
            conv => whnf
            repeat' (first | (refine tell (fun hQ => ?_) (fun hQ => ?_) <;> (try dsimp only at hQ) <;> first | (exfalso; omega) | (exact absurd rfl hQ) | (exact absurd hQ hne) | (exact absurd hne hQ) | (exact absurd hQ hcne) | (exact absurd hQ t1) | (exact absurd t1 hQ) | (exact absurd (by decide) hQ) | (conv => whnf)) | (refine allG (x := _) (by first | exact hfm | simpa [List.getElem?_append_right, lowOf] using hfm | fail) ?_; conv => whnf) | (refine allLst (x := _) (by first | omega | assumption | fail) (by first | exact hfm | simpa using hfm | fail) ?_; conv => whnf) | (refine allG (x := _) (by first | exact hnm | simpa [List.getElem?_append_right, lowOf] using hnm | fail) ?_; conv => whnf) | (refine allLst (x := _) (by first | omega | assumption | fail) (by first | exact hnm | simpa using hnm | fail) ?_; conv => whnf) | (refine allG rfl ?_; conv => whnf) | (refine And.intro (by first | omega | assumption | kernel_rfl | exact And.intro rfl rfl | ((try dsimp only [inR, idx, lowOf]); first | omega | (with_reducible decide) | (simp; omega) | (simp; done) | fail) | fail) ?_; conv => whnf) | fail)
            exact ⟨(), [], trivial, eB (fin (hmt.trans hgo)), trivial, trivial⟩
        · have hfa := match_end (ns := ns) hf (by omega) hno
          conv => whnf
          repeat' (first | (refine tell (fun hQ => ?_) (fun hQ => ?_) <;> (try dsimp only at hQ) <;> first | (exfalso; omega) | (exact absurd rfl hQ) | (exact absurd hQ hne) | (exact absurd hne hQ) | (exact absurd hQ hcne) | (exact absurd hQ t1) | (exact absurd t1 hQ) | (exact absurd (by decide) hQ) | (conv => whnf)) | (refine allG (x := _) (by first | exact hfm | simpa [List.getElem?_append_right, lowOf] using hfm | fail) ?_; conv => whnf) | (refine allLst (x := _) (by first | omega | assumption | fail) (by first | exact hfm | simpa using hfm | fail) ?_; conv => whnf) | (refine allG rfl ?_; conv => whnf) | (refine And.intro (by first | omega | assumption | kernel_rfl | exact And.intro rfl rfl | ((try dsimp only [inR, idx, lowOf]); first | omega | (with_reducible decide) | (simp; omega) | (simp; done) | fail) | fail) ?_; conv => whnf) | fail)
          exact ⟨(), [], trivial, eB (fin (hmt.trans hfa)), trivial, trivial⟩
    · have hno : ¬ (f = [35] ∧ i + 1 = (partsN fl).length) := fun h => h35 h.1
      have hcne : ¬ (ByteArray.toList ⟨f.toArray⟩ = ByteArray.toList ⟨#[35]⟩) := fun e => h35 ((bS_inj (b := [35])).1 e)
      by_cases h43 : f = [43]
      · subst h43
        by_cases hin2 : i < ns.length
        · have hobt : ∃ n, ns[i]? = some n := ⟨_, List.getElem?_eq_getElem hin2⟩
          obtain ⟨n, hn⟩ := hobt
          have hgo := match_go hf hn hno
          rw [if_pos (.inl rfl)] at hgo
          conv => whnf
          repeat' (first | (refine tell (fun hQ => ?_) (fun hQ => ?_) <;> (try dsimp only at hQ) <;> first | (exfalso; omega) | (exact absurd rfl hQ) | (exact absurd hQ hne) | (exact absurd hne hQ) | (exact absurd hQ hcne) | (exact absurd hQ t1) | (exact absurd t1 hQ) | (exact absurd (by decide) hQ) | (conv => whnf)) | (refine allG (x := _) (by first | exact hfm | simpa [List.getElem?_append_right, lowOf] using hfm | fail) ?_; conv => whnf) | (refine allLst (x := _) (by first | omega | assumption | fail) (by first | exact hfm | simpa using hfm | fail) ?_; conv => whnf) | (refine allG rfl ?_; conv => whnf) | (refine And.intro (by first | omega | assumption | kernel_rfl | exact And.intro rfl rfl | ((try dsimp only [inR, idx, lowOf]); first | omega | (with_reducible decide) | (simp; omega) | (simp; done) | fail) | fail) ?_; conv => whnf) | fail)
          refine ⟨i + 1, [], ⟨hlt, hin2, hmt.trans (hgo)⟩, ?_, rfl, ?_, ?_, rfl⟩
          · dsimp only; first | omega | (simp; done) | (simp; omega)
          all_goals (repeat' (first | exact trivial | exact rfl | refine And.intro ?_ ?_ | (refine congrArg vI ?_; first | omega | (dsimp only; omega) | fail) | (refine congrArg some ?_) | omega | exact Nat.le_refl _ | exact congrArg (SV.lst _) (List.take_of_length_le (Nat.le_refl _)).symm))
        · have hfa := match_end (ns := ns) hf (by omega) hno
          conv => whnf
          repeat' (first | (refine tell (fun hQ => ?_) (fun hQ => ?_) <;> (try dsimp only at hQ) <;> first | (exfalso; omega) | (exact absurd rfl hQ) | (exact absurd hQ hne) | (exact absurd hne hQ) | (exact absurd hQ hcne) | (exact absurd hQ t1) | (exact absurd t1 hQ) | (exact absurd (by decide) hQ) | (conv => whnf)) | (refine allG (x := _) (by first | exact hfm | simpa [List.getElem?_append_right, lowOf] using hfm | fail) ?_; conv => whnf) | (refine allLst (x := _) (by first | omega | assumption | fail) (by first | exact hfm | simpa using hfm | fail) ?_; conv => whnf) | (refine allG rfl ?_; conv => whnf) | (refine And.intro (by first | omega | assumption | kernel_rfl | exact And.intro rfl rfl | ((try dsimp only [inR, idx, lowOf]); first | omega | (with_reducible decide) | (simp; omega) | (simp; done) | fail) | fail) ?_; conv => whnf) | fail)
          exact ⟨(), [], trivial, eB (fin (hmt.trans hfa)), trivial, trivial⟩
      · have hne : ¬ (ByteArray.toList ⟨f.toArray⟩ = ByteArray.toList ⟨#[43]⟩) := fun e => h43 ((bS_inj (b := [43])).1 e)
        by_cases hin2 : i < ns.length
        · have hobt : ∃ n, ns[i]? = some n := ⟨_, List.getElem?_eq_getElem hin2⟩
          obtain ⟨n, hn⟩ := hobt
          have hnm : (ns.map bS)[i]? = some (bS n) := by rw [List.getElem?_map, hn]; rfl
          have hgo := match_go hf hn hno
          by_cases hfn : f = n
          · subst hfn
            rw [if_pos (.inr rfl)] at hgo
            conv => whnf
            repeat' (first | (refine tell (fun hQ => ?_) (fun hQ => ?_) <;> (try dsimp only at hQ) <;> first | (exfalso; omega) | (exact absurd rfl hQ) | (exact absurd hQ hne) | (exact absurd hne hQ) | (exact absurd hQ hcne) | (exact absurd hQ t1) | (exact absurd t1 hQ) | (exact absurd (by decide) hQ) | (conv => whnf)) | (refine allG (x := _) (by first | exact hfm | simpa [List.getElem?_append_right, lowOf] using hfm | fail) ?_; conv => whnf) | (refine allLst (x := _) (by first | omega | assumption | fail) (by first | exact hfm | simpa using hfm | fail) ?_; conv => whnf) | (refine allG (x := _) (by first | exact hnm | simpa [List.getElem?_append_right, lowOf] using hnm | fail) ?_; conv => whnf) | (refine allLst (x := _) (by first | omega | assumption | fail) (by first | exact hnm | simpa using hnm | fail) ?_; conv => whnf) | (refine allG rfl ?_; conv => whnf) | (refine And.intro (by first | omega | assumption | kernel_rfl | exact And.intro rfl rfl | ((try dsimp only [inR, idx, lowOf]); first | omega | (with_reducible decide) | (simp; omega) | (simp; done) | fail) | fail) ?_; conv => whnf) | fail)
            refine ⟨i + 1, [], ⟨hlt, hin2, hmt.trans (hgo)⟩, ?_, rfl, ?_, ?_, rfl⟩
            · dsimp only; first | omega | (simp; done) | (simp; omega)
            all_goals (repeat' (first | exact trivial | exact rfl | refine And.intro ?_ ?_ | (refine congrArg vI ?_; first | omega | (dsimp only; omega) | fail) | (refine congrArg some ?_) | omega | exact Nat.le_refl _ | exact congrArg (SV.lst _) (List.take_of_length_le (Nat.le_refl _)).symm))
          · have t1 : ¬ (ByteArray.toList ⟨(f).toArray⟩ = ByteArray.toList ⟨n.toArray⟩) := fun e => hfn (bS_inj.1 e)
            rw [if_neg (by rintro (h | h); exact h43 h; exact hfn h)] at hgo
            conv => whnf
            repeat' (first | (refine tell (fun hQ => ?_) (fun hQ => ?_) <;> (try dsimp only at hQ) <;> first | (exfalso; omega) | (exact absurd rfl hQ) | (exact absurd hQ hne) | (exact absurd hne hQ) | (exact absurd hQ hcne) | (exact absurd hQ t1) | (exact absurd t1 hQ) | (exact absurd (by decide) hQ) | (conv => whnf)) | (refine allG (x := _) (by first | exact hfm | simpa [List.getElem?_append_right, lowOf] using hfm | fail) ?_; conv => whnf) | (refine allLst (x := _) (by first | omega | assumption | fail) (by first | exact hfm | simpa using hfm | fail) ?_; conv => whnf) | (refine allG (x := _) (by first | exact hnm | simpa [List.getElem?_append_right, lowOf] using hnm | fail) ?_; conv => whnf) | (refine allLst (x := _) (by first | omega | assumption | fail) (by first | exact hnm | simpa using hnm | fail) ?_; conv => whnf) | (refine allG rfl ?_; conv => whnf) | (refine And.intro (by first | omega | assumption | kernel_rfl | exact And.intro rfl rfl | ((try dsimp only [inR, idx, lowOf]); first | omega | (with_reducible decide) | (simp; omega) | (simp; done) | fail) | fail) ?_; conv => whnf) | fail)
            exact ⟨(), [], trivial, eB (fin (hmt.trans hgo)), trivial, trivial⟩
        · have hfa := match_end (ns := ns) hf (by omega) hno
          conv => whnf
          repeat' (first | (refine tell (fun hQ => ?_) (fun hQ => ?_) <;> (try dsimp only at hQ) <;> first | (exfalso; omega) | (exact absurd rfl hQ) | (exact absurd hQ hne) | (exact absurd hne hQ) | (exact absurd hQ hcne) | (exact absurd hQ t1) | (exact absurd t1 hQ) | (exact absurd (by decide) hQ) | (conv => whnf)) | (refine allG (x := _) (by first | exact hfm | simpa [List.getElem?_append_right, lowOf] using hfm | fail) ?_; conv => whnf) | (refine allLst (x := _) (by first | omega | assumption | fail) (by first | exact hfm | simpa using hfm | fail) ?_; conv => whnf) | (refine allG rfl ?_; conv => whnf) | (refine And.intro (by first | omega | assumption | kernel_rfl | exact And.intro rfl rfl | ((try dsimp only [inR, idx, lowOf]); first | omega | (with_reducible decide) | (simp; omega) | (simp; done) | fail) | fail) ?_; conv => whnf) | fail)
          exact ⟨(), [], trivial, eB (fin (hmt.trans hfa)), trivial, trivial⟩
  · have hie : i = (partsN fl).length := by omega
    have hend : matchP (partsN fl) ns = decide (i = ns.length) := by
      rw [hmt, ← match_nil hin, hie, List.drop_length]
    by_cases he : i = ns.length
    · conv => whnf
      repeat' (first | (refine tell (fun hQ => ?_) (fun hQ => ?_) <;> (try dsimp only at hQ) <;> first | (exfalso; omega) | (exact absurd rfl hQ) | (exact absurd hQ hne) | (exact absurd hne hQ) | (exact absurd hQ hcne) | (exact absurd hQ t1) | (exact absurd t1 hQ) | (exact absurd (by decide) hQ) | (conv => whnf)) | (refine allG rfl ?_; conv => whnf) | (refine And.intro (by first | omega | assumption | kernel_rfl | exact And.intro rfl rfl | ((try dsimp only [inR, idx, lowOf]); first | omega | (with_reducible decide) | (simp; omega) | (simp; done) | fail) | fail) ?_; conv => whnf) | fail)
      exact ⟨(), [], trivial, eB (fin (hend.trans (decide_eq_true he))), trivial, trivial⟩
    · conv => whnf
      repeat' (first | (refine tell (fun hQ => ?_) (fun hQ => ?_) <;> (try dsimp only at hQ) <;> first | (exfalso; omega) | (exact absurd rfl hQ) | (exact absurd hQ hne) | (exact absurd hne hQ) | (exact absurd hQ hcne) | (exact absurd hQ t1) | (exact absurd t1 hQ) | (exact absurd (by decide) hQ) | (conv => whnf)) | (refine allG rfl ?_; conv => whnf) | (refine And.intro (by first | omega | assumption | kernel_rfl | exact And.intro rfl rfl | ((try dsimp only [inR, idx, lowOf]); first | omega | (with_reducible decide) | (simp; omega) | (simp; done) | fail) | fail) ?_; conv => whnf) | fail)
      exact ⟨(), [], trivial, eB (fin (hend.trans (decide_eq_false he))), trivial, trivial⟩
end Go.Sx

