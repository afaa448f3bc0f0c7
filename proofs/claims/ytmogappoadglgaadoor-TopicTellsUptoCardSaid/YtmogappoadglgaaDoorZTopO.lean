/-
  Layer 7, part O: TopicTells (where what came in is not too long).
-/
import Derived.Test.YtmogappoadglgaaDoorZTopN
import Derived.Test.YtmogappoadglgaaDoorZTopJ0
set_option linter.unusedVariables false
set_option linter.unusedSimpArgs false
namespace Go.Sx
open Go Go.Proofs Go.Proofs.YtmogappoadglgaaDoor
theorem at_match07 {f n : Txt} {b : Bool} (hf : f.length ≤ 4000000000000) (hn : n.length ≤ 4000000000000) (h : matchP (partsN f) (partsN n) = b) : Meets Tryd.prog regF 50 (spAt spMatch (f, n) (vB b)) := meets_at m_match07 (f, n) ⟨hf, hn⟩ _ fun _ => congrArg vB h
abbrev TellsG := Topic × Txt × Txt × Txt × Int × Int × Txt
abbrev pTells (g : TellsG) : Prop := (g.1.1.length ≤ 9223372036854775807 ∧ g.1.2.1.length ≤ 9223372036854775807) ∧ g.2.1.length ≤ 2000000 ∧ g.2.2.1.length ≤ 2000000 ∧ InI g.2.2.2.2.1 ∧ InI g.2.2.2.2.2.1 ∧ g.2.2.2.2.2.2.length ≤ 2000000
set_option maxRecDepth 100000 in
set_option maxHeartbeats 3200000 in
theorem m_topicTells : Meets Tryd.prog regF 12 (spLaw (fun g : TellsG => [topS g.1, vS g.2.1, vS g.2.2.1, vS g.2.2.2.1, vI g.2.2.2.2.1, vI g.2.2.2.2.2.1, vS g.2.2.2.2.2.2]) pTells) := by
  refine meetsC Tryd.func12 140 noWr rfl (by kernel_rfl) (by kernel_rfl) ?_
  rintro ⟨(t : Topic), (s : Txt), (fl : Txt), (mk : Txt), (c : Int), (at_ : Int), (more : Txt)⟩ ⟨⟨(ht1 : t.1.length ≤ 9223372036854775807), (ht2 : t.2.1.length ≤ 9223372036854775807)⟩, (hs : s.length ≤ 2000000), (hf : fl.length ≤ 2000000), (hc : InI c), (hat : InI at_), (hmo : more.length ≤ 2000000)⟩
  have hobt : ∃ x, topicF mk s c = x := ⟨_, rfl⟩
  obtain ⟨x, hxe⟩ := hobt
  have hx := topicF_ok mk s c
  rw [hxe] at hx
  have hp0 := at_topic hc hxe
  clear hxe
  have hxn := okT_iff.1 hx
  have hp1 := at_print07 (t := x) (Nat.le_trans (nameF_len hxn.1) (by decide)) (Nat.le_trans (nameF_len hxn.2.1) (by decide)) (print_ok hx).1 (print_ok hx).2
  have lp := textT_len hx
  clear hxn
  obtain ⟨x1, x2, x3⟩ := x
  generalize textT (x1, x2, x3) = p at *
  have hobt : ∃ u, printS t = u := ⟨_, rfl⟩
  obtain ⟨u, hu⟩ := hobt
  have hobt : ∃ e, printE t = e := ⟨_, rfl⟩
  obtain ⟨e, he⟩ := hobt
  have hA1 := meets_at m_print t trivial (.tup [vS u, vI e]) fun _ => by
    show SV.tup [vS (printS t), vI (printE t)] = _
    rw [hu, he]
  have hA2 := at_print07 ht1 ht2 hu he
  clear hu he
  have hobt : ∃ nb, nameF s = nb := ⟨_, rfl⟩
  obtain ⟨nb, hnb⟩ := hobt
  have hN1 := at_name hnb
  have hN2 := at_name07 (show s.length ≤ 9223372036854775807 by omega) hnb
  clear hnb
  have zp := size_bS p
  have zm := size_bS more
  have hkb := pickF_bd (c := at_) (n := (p.length : Int) + 1) (by omega)
  have hobt : ∃ k : Nat, pickF at_ ((p.length : Int) + 1) = k := ⟨(pickF at_ ((p.length : Int) + 1)).toNat, by omega⟩
  obtain ⟨k, hk⟩ := hobt
  have hpk := meets_at m_pick07 (at_, (p.length : Int) + 1) ⟨hat, by show (0 : Int) < (p.length : Int) + 1; omega⟩ (vI k) fun _ => congrArg vI hk
  obtain ⟨t1', t2', t3'⟩ := t
  conv => whnf
  repeat' (first | (refine tell (fun hQ => ?_) (fun hQ => ?_) <;> (try dsimp only at hQ) <;> first | (exfalso; omega) | (exact absurd rfl hQ) | (exact absurd hQ hne) | (exact absurd hne hQ) | (exact absurd hQ t1) | (exact absurd t1 hQ) | (exact absurd (by decide) hQ) | (conv => whnf)) | (refine allG rfl ?_; conv => whnf) | (refine ⟨none, ?_⟩; conv => whnf) | (refine And.intro (by first | omega | assumption | kernel_rfl | exact And.intro rfl rfl | ((try dsimp only [inR, idx, lowOf]); first | omega | (with_reducible decide) | (simp; omega) | (simp; done) | fail) | fail) ?_; conv => whnf) | fail)
  refine ⟨_, m_awake07, (), [], false, ?_⟩
  conv => whnf
  refine And.intro (vc0 trivial (by (repeat' (first | exact trivial | exact rfl | refine And.intro ?_ ?_ | (refine congrArg vI ?_; first | omega | (dsimp only; omega) | fail) | (refine congrArg some ?_) | omega | exact Nat.le_refl _ | exact congrArg (SV.lst _) (List.take_of_length_le (Nat.le_refl _)).symm))) (by repeat' (first | exact trivial | exact rfl | refine And.intro ?_ ?_ | (refine congrArg vI ?_; first | omega | (dsimp only; omega) | fail) | (refine congrArg some ?_) | omega | exact Nat.le_refl _ | exact congrArg (SV.lst _) (List.take_of_length_le (Nat.le_refl _)).symm)) trivial trivial) ?_
  refine And.intro ⟨(), trivial⟩ (fun (_ : Unit) _ => ?_)
  conv => whnf
  conv => whnf
  repeat' (first | (refine tell (fun hQ => ?_) (fun hQ => ?_) <;> (try dsimp only at hQ) <;> first | (exfalso; omega) | (exact absurd rfl hQ) | (exact absurd hQ hne) | (exact absurd hne hQ) | (exact absurd hQ t1) | (exact absurd t1 hQ) | (exact absurd (by decide) hQ) | (conv => whnf)) | (refine allG rfl ?_; conv => whnf) | (refine ⟨none, ?_⟩; conv => whnf) | (refine And.intro (by first | omega | assumption | kernel_rfl | exact And.intro rfl rfl | ((try dsimp only [inR, idx, lowOf]); first | omega | (with_reducible decide) | (simp; omega) | (simp; done) | fail) | fail) ?_; conv => whnf) | fail)
  refine ⟨_, hp0, (), [], false, ?_⟩
  conv => whnf
  refine And.intro (vc0 trivial (by (repeat' (first | exact trivial | exact rfl | refine And.intro ?_ ?_ | (refine congrArg vI ?_; first | omega | (dsimp only; omega) | fail) | (refine congrArg some ?_) | omega | exact Nat.le_refl _ | exact congrArg (SV.lst _) (List.take_of_length_le (Nat.le_refl _)).symm))) (by repeat' (first | exact trivial | exact rfl | refine And.intro ?_ ?_ | (refine congrArg vI ?_; first | omega | (dsimp only; omega) | fail) | (refine congrArg some ?_) | omega | exact Nat.le_refl _ | exact congrArg (SV.lst _) (List.take_of_length_le (Nat.le_refl _)).symm)) trivial trivial) ?_
  refine And.intro ⟨(), trivial⟩ (fun (_ : Unit) _ => ?_)
  conv => whnf
  conv => whnf
  repeat' (first | (refine tell (fun hQ => ?_) (fun hQ => ?_) <;> (try dsimp only at hQ) <;> first | (exfalso; omega) | (exact absurd rfl hQ) | (exact absurd hQ hne) | (exact absurd hne hQ) | (exact absurd hQ t1) | (exact absurd t1 hQ) | (exact absurd (by decide) hQ) | (conv => whnf)) | (refine allG rfl ?_; conv => whnf) | (refine ⟨none, ?_⟩; conv => whnf) | (refine And.intro (by first | omega | assumption | kernel_rfl | exact And.intro rfl rfl | ((try dsimp only [inR, idx, lowOf]); first | omega | (with_reducible decide) | (simp; omega) | (simp; done) | fail) | fail) ?_; conv => whnf) | fail)
  refine ⟨_, hp1, (), [], false, ?_⟩
  conv => whnf
  refine And.intro (vc0 trivial (by (repeat' (first | exact trivial | exact rfl | refine And.intro ?_ ?_ | (refine congrArg vI ?_; first | omega | (dsimp only; omega) | fail) | (refine congrArg some ?_) | omega | exact Nat.le_refl _ | exact congrArg (SV.lst _) (List.take_of_length_le (Nat.le_refl _)).symm))) (by repeat' (first | exact trivial | exact rfl | refine And.intro ?_ ?_ | (refine congrArg vI ?_; first | omega | (dsimp only; omega) | fail) | (refine congrArg some ?_) | omega | exact Nat.le_refl _ | exact congrArg (SV.lst _) (List.take_of_length_le (Nat.le_refl _)).symm)) trivial trivial) ?_
  refine And.intro ⟨(), trivial⟩ (fun (_ : Unit) _ => ?_)
  conv => whnf
  conv => whnf
  repeat' (first | (refine tell (fun hQ => ?_) (fun hQ => ?_) <;> (try dsimp only at hQ) <;> first | (exfalso; omega) | (exact absurd rfl hQ) | (exact absurd hQ hne) | (exact absurd hne hQ) | (exact absurd hQ t1) | (exact absurd t1 hQ) | (exact absurd (by decide) hQ) | (conv => whnf)) | (refine allG rfl ?_; conv => whnf) | (refine ⟨none, ?_⟩; conv => whnf) | (refine And.intro (by first | omega | assumption | kernel_rfl | exact And.intro rfl rfl | ((try dsimp only [inR, idx, lowOf]); first | omega | (with_reducible decide) | (simp; omega) | (simp; done) | fail) | fail) ?_; conv => whnf) | fail)
  refine ⟨_, hpk, (), [], false, ?_⟩
  conv => whnf
  refine And.intro (vc0 trivial (by (repeat' (first | exact trivial | exact rfl | refine And.intro ?_ ?_ | (refine congrArg vI ?_; first | omega | (dsimp only; omega) | fail) | (refine congrArg some ?_) | omega | exact Nat.le_refl _ | exact congrArg (SV.lst _) (List.take_of_length_le (Nat.le_refl _)).symm)); all_goals (refine congrArg vI ?_; omega)) (by repeat' (first | exact trivial | exact rfl | refine And.intro ?_ ?_ | (refine congrArg vI ?_; first | omega | (dsimp only; omega) | fail) | (refine congrArg some ?_) | omega | exact Nat.le_refl _ | exact congrArg (SV.lst _) (List.take_of_length_le (Nat.le_refl _)).symm)) trivial trivial) ?_
  refine And.intro ⟨(), trivial⟩ (fun (_ : Unit) _ => ?_)
  conv => whnf
  conv => whnf
  repeat' (first | (refine tell (fun hQ => ?_) (fun hQ => ?_) <;> (try dsimp only at hQ) <;> first | (exfalso; omega) | (exact absurd rfl hQ) | (exact absurd hQ hne) | (exact absurd hne hQ) | (exact absurd hQ t1) | (exact absurd t1 hQ) | (exact absurd (by decide) hQ) | (conv => whnf)) | (refine allG rfl ?_; conv => whnf) | (refine ⟨none, ?_⟩; conv => whnf) | (refine And.intro (by first | omega | assumption | kernel_rfl | exact And.intro rfl rfl | ((try dsimp only [inR, idx, lowOf]); first | omega | (with_reducible decide) | (simp; omega) | (simp; done) | fail) | fail) ?_; conv => whnf) | fail)
  refine ⟨_, hA1, (), [], false, ?_⟩
  conv => whnf
  refine And.intro (vc0 trivial (by (repeat' (first | exact trivial | exact rfl | refine And.intro ?_ ?_ | (refine congrArg vI ?_; first | omega | (dsimp only; omega) | fail) | (refine congrArg some ?_) | omega | exact Nat.le_refl _ | exact congrArg (SV.lst _) (List.take_of_length_le (Nat.le_refl _)).symm))) (by repeat' (first | exact trivial | exact rfl | refine And.intro ?_ ?_ | (refine congrArg vI ?_; first | omega | (dsimp only; omega) | fail) | (refine congrArg some ?_) | omega | exact Nat.le_refl _ | exact congrArg (SV.lst _) (List.take_of_length_le (Nat.le_refl _)).symm)) trivial trivial) ?_
  refine And.intro ⟨(), trivial⟩ (fun (_ : Unit) _ => ?_)
  conv => whnf
  conv => whnf
  repeat' (first | (refine tell (fun hQ => ?_) (fun hQ => ?_) <;> (try dsimp only at hQ) <;> first | (exfalso; omega) | (exact absurd rfl hQ) | (exact absurd hQ hne) | (exact absurd hne hQ) | (exact absurd hQ t1) | (exact absurd t1 hQ) | (exact absurd (by decide) hQ) | (conv => whnf)) | (refine allG rfl ?_; conv => whnf) | (refine ⟨none, ?_⟩; conv => whnf) | (refine And.intro (by first | omega | assumption | kernel_rfl | exact And.intro rfl rfl | ((try dsimp only [inR, idx, lowOf]); first | omega | (with_reducible decide) | (simp; omega) | (simp; done) | fail) | fail) ?_; conv => whnf) | fail)
  refine ⟨_, hA2, (), [], false, ?_⟩
  conv => whnf
  refine And.intro (vc0 trivial (by (repeat' (first | exact trivial | exact rfl | refine And.intro ?_ ?_ | (refine congrArg vI ?_; first | omega | (dsimp only; omega) | fail) | (refine congrArg some ?_) | omega | exact Nat.le_refl _ | exact congrArg (SV.lst _) (List.take_of_length_le (Nat.le_refl _)).symm))) (by repeat' (first | exact trivial | exact rfl | refine And.intro ?_ ?_ | (refine congrArg vI ?_; first | omega | (dsimp only; omega) | fail) | (refine congrArg some ?_) | omega | exact Nat.le_refl _ | exact congrArg (SV.lst _) (List.take_of_length_le (Nat.le_refl _)).symm)) trivial trivial) ?_
  refine And.intro ⟨(), trivial⟩ (fun (_ : Unit) _ => ?_)
  conv => whnf
  conv => whnf
  repeat' (first | (refine tell (fun hQ => ?_) (fun hQ => ?_) <;> (try dsimp only at hQ) <;> first | (exfalso; omega) | (exact absurd rfl hQ) | (exact absurd hQ hne) | (exact absurd hne hQ) | (exact absurd hQ t1) | (exact absurd t1 hQ) | (exact absurd (by decide) hQ) | (conv => whnf)) | (refine allG rfl ?_; conv => whnf) | (refine ⟨none, ?_⟩; conv => whnf) | (refine And.intro (by first | omega | assumption | kernel_rfl | exact And.intro rfl rfl | ((try dsimp only [inR, idx, lowOf]); first | omega | (with_reducible decide) | (simp; omega) | (simp; done) | fail) | fail) ?_; conv => whnf) | fail)
  refine ⟨_, hN1, (), [], false, ?_⟩
  conv => whnf
  refine And.intro (vc0 trivial (by (repeat' (first | exact trivial | exact rfl | refine And.intro ?_ ?_ | (refine congrArg vI ?_; first | omega | (dsimp only; omega) | fail) | (refine congrArg some ?_) | omega | exact Nat.le_refl _ | exact congrArg (SV.lst _) (List.take_of_length_le (Nat.le_refl _)).symm))) (by repeat' (first | exact trivial | exact rfl | refine And.intro ?_ ?_ | (refine congrArg vI ?_; first | omega | (dsimp only; omega) | fail) | (refine congrArg some ?_) | omega | exact Nat.le_refl _ | exact congrArg (SV.lst _) (List.take_of_length_le (Nat.le_refl _)).symm)) trivial trivial) ?_
  refine And.intro ⟨(), trivial⟩ (fun (_ : Unit) _ => ?_)
  conv => whnf
  conv => whnf
  repeat' (first | (refine tell (fun hQ => ?_) (fun hQ => ?_) <;> (try dsimp only at hQ) <;> first | (exfalso; omega) | (exact absurd rfl hQ) | (exact absurd hQ hne) | (exact absurd hne hQ) | (exact absurd hQ t1) | (exact absurd t1 hQ) | (exact absurd (by decide) hQ) | (conv => whnf)) | (refine allG rfl ?_; conv => whnf) | (refine ⟨none, ?_⟩; conv => whnf) | (refine And.intro (by first | omega | assumption | kernel_rfl | exact And.intro rfl rfl | ((try dsimp only [inR, idx, lowOf]); first | omega | (with_reducible decide) | (simp; omega) | (simp; done) | fail) | fail) ?_; conv => whnf) | fail)
  refine ⟨_, hN2, (), [], false, ?_⟩
  conv => whnf
  refine And.intro (vc0 trivial (by (repeat' (first | exact trivial | exact rfl | refine And.intro ?_ ?_ | (refine congrArg vI ?_; first | omega | (dsimp only; omega) | fail) | (refine congrArg some ?_) | omega | exact Nat.le_refl _ | exact congrArg (SV.lst _) (List.take_of_length_le (Nat.le_refl _)).symm))) (by repeat' (first | exact trivial | exact rfl | refine And.intro ?_ ?_ | (refine congrArg vI ?_; first | omega | (dsimp only; omega) | fail) | (refine congrArg some ?_) | omega | exact Nat.le_refl _ | exact congrArg (SV.lst _) (List.take_of_length_le (Nat.le_refl _)).symm)) trivial trivial) ?_
  refine And.intro ⟨(), trivial⟩ (fun (_ : Unit) _ => ?_)
  conv => whnf
  have hcont : [(⟨s.toArray⟩ : ByteArray), (⟨p.toArray⟩ : ByteArray), (⟨p.toArray⟩ : ByteArray).extract 0 ((k : Nat) : Int).toNat ++ ⟨more.toArray⟩ ++ (⟨p.toArray⟩ : ByteArray).extract (min (((k : Nat) : Int) + (((⟨more.toArray⟩ : ByteArray).size : Nat) : Int)) (((⟨p.toArray⟩ : ByteArray).size : Nat) : Int)).toNat (⟨p.toArray⟩ : ByteArray).size,
      (⟨p.toArray⟩ : ByteArray).extract 0 ((k : Nat) : Int).toNat ++ ⟨more.toArray⟩ ++ (⟨p.toArray⟩ : ByteArray).extract ((k : Nat) : Int).toNat (⟨p.toArray⟩ : ByteArray).size] = [s, p, p.take k ++ more ++ p.drop (min (k + more.length) p.length), p.take k ++ more ++ p.drop k].map bS := by
    have h1 : (⟨p.toArray⟩ : ByteArray).extract 0 k = ⟨(p.take k).toArray⟩ := by rw [bS_cut, List.drop_zero]
    have h2 : (min (((k : Nat) : Int) + (((⟨more.toArray⟩ : ByteArray).size : Nat) : Int)) (((⟨p.toArray⟩ : ByteArray).size : Nat) : Int)).toNat = min (k + more.length) p.length := by omega
    rw [h2, show ((k : Nat) : Int).toNat = k from rfl, h1, bS_drop, bS_drop, bS_append, bS_append, bS_append]
    rfl
  have hobt : ∃ zs : List Txt, zs = [s, p, p.take k ++ more ++ p.drop (min (k + more.length) p.length), p.take k ++ more ++ p.drop k] := ⟨_, rfl⟩
  obtain ⟨zs, hzs⟩ := hobt
  have hz4 : zs.length = 4 := by rw [hzs]; rfl
  have hall : ∀ z ∈ zs, z.length ≤ 4000000000000 := by
    rw [hzs]
    intro z hz
    simp only [List.mem_cons, List.not_mem_nil, or_false] at hz
    rcases hz with rfl | rfl | rfl | rfl
    · omega
    · omega
    · rw [List.length_append, List.length_append, List.length_take, List.length_drop]; omega
    · rw [List.length_append, List.length_append, List.length_take, List.length_drop]; omega
  rw [← hzs] at hcont
  clear hzs
  clear hp0 hp1 hpk hA1 hA2 hN1 hN2
  cases nb
  all_goals
    conv => whnf
    repeat' (first | (refine tell (fun hQ => ?_) (fun hQ => ?_) <;> (try dsimp only at hQ) <;> first | (exfalso; omega) | (exact absurd rfl hQ) | (exact absurd hQ hne) | (exact absurd hne hQ) | (exact absurd hQ t1) | (exact absurd t1 hQ) | (exact absurd (by decide) hQ) | (conv => whnf)) | (refine allG rfl ?_; conv => whnf) | (refine And.intro (by first | omega | assumption | kernel_rfl | exact And.intro rfl rfl | ((try dsimp only [inR, idx, lowOf]); first | omega | (with_reducible decide) | (simp; omega) | (simp; done) | fail) | fail) ?_; conv => whnf) | fail)
    refine ⟨none, ?_⟩
    conv => whnf
    conv => whnf
    repeat' (first | (refine tell (fun hQ => ?_) (fun hQ => ?_) <;> (try dsimp only at hQ) <;> first | (exfalso; omega) | (exact absurd rfl hQ) | (exact absurd hQ hne) | (exact absurd hne hQ) | (exact absurd hQ t1) | (exact absurd t1 hQ) | (exact absurd (by decide) hQ) | (conv => whnf)) | (refine allG rfl ?_; conv => whnf) | (refine And.intro (by first | omega | assumption | kernel_rfl | exact And.intro rfl rfl | ((try dsimp only [inR, idx, lowOf]); first | omega | (with_reducible decide) | (simp; omega) | (simp; done) | fail) | fail) ?_; conv => whnf) | fail)
    refine ⟨some (⟨[(1, vS s), (2, vS fl), (6, vS more), (15, vB true), (17, vS p), (19, vI k)], []⟩, []), ?_⟩
    conv => whnf
    refine And.intro rfl (And.intro ?_ ?_)
    · refine ⟨rfl, ?_, ?_, rfl⟩
      all_goals (repeat' (first | exact trivial | exact rfl | refine And.intro ?_ ?_ | (refine congrArg vI ?_; first | omega | (dsimp only; omega) | fail) | (refine congrArg some ?_) | omega | exact Nat.le_refl _ | exact congrArg (SV.lst _) (List.take_of_length_le (Nat.le_refl _)).symm))
  all_goals as_aux_lemma =>
    conv => whnf
    repeat' (first | (refine tell (fun hQ => ?_) (fun hQ => ?_) <;> (try dsimp only at hQ) <;> first | (exfalso; omega) | (exact absurd rfl hQ) | (exact absurd hQ hne) | (exact absurd hne hQ) | (exact absurd hQ t1) | (exact absurd t1 hQ) | (exact absurd (by decide) hQ) | (conv => whnf)) | (refine allG rfl ?_; conv => whnf) | (refine ⟨none, ?_⟩; conv => whnf) | (refine And.intro (by first | omega | assumption | kernel_rfl | exact And.intro rfl rfl | ((try dsimp only [inR, idx, lowOf]); first | omega | (with_reducible decide) | (simp; omega) | (simp; done) | fail) | fail) ?_; conv => whnf) | fail)
    refine ⟨Nat, fun i => ⟨[(2, vS fl), (15, vB true), (96, .sl 1096 1 0 4), (97, vI 4), (98, vI i)], [(1096, .arr 9 (zs.map bS))]⟩, fun i => i ≤ 4, fun i => 4 - i, fun _ _ => rfl, ⟨0, [], Nat.zero_le _, ?_⟩, ?_⟩
    · refine ⟨rfl, ?_, ?_, rfl⟩
      all_goals (repeat' (first | exact trivial | exact rfl | refine And.intro ?_ ?_ | (refine congrArg vI ?_; first | omega | (dsimp only; omega) | fail) | (refine congrArg some ?_) | omega | exact Nat.le_refl _ | exact congrArg (SV.lst _) (List.take_of_length_le (Nat.le_refl _)).symm))
      all_goals (exact congrArg (Ct.arr (A := AF) 9) hcont)
    clear hcont
    rintro (i : Nat) (hi : i ≤ 4)
    by_cases hlt : i < 4
    · as_aux_lemma =>
      have hobt : ∃ z, zs[i]? = some z := ⟨_, List.getElem?_eq_getElem (by omega)⟩
      obtain ⟨z, hz⟩ := hobt
      have hzl := hall z (List.mem_of_getElem? hz)
      have hzm : (zs.map bS)[0 + ((i : Nat) : Int).toNat]? = some (bS z) := by rw [Nat.zero_add, show ((i : Nat) : Int).toNat = i from rfl, List.getElem?_map, hz]; rfl
      have hfl : fl.length ≤ 4000000000000 := by omega
      have hobt : ∃ q, parseT z = q := ⟨_, rfl⟩
      obtain ⟨q, hq⟩ := hobt
      have hobt : ∃ pe, parseE z = pe := ⟨_, rfl⟩
      obtain ⟨pe, hpe⟩ := hobt
      have hobt : ∃ b, matchP (partsN fl) (partsN z) = b := ⟨_, rfl⟩
      obtain ⟨b1, hb1⟩ := hobt
      have hobt : ∃ b, matchP (partsN z) (partsN fl) = b := ⟨_, rfl⟩
      obtain ⟨b2, hb2⟩ := hobt
      have hP1 := meets_at m_parse z hzl (.tup [topS q, vI pe]) fun _ => by
        show SV.tup [topS (parseT z), vI (parseE z)] = _
        rw [hq, hpe]
      have hP2 := meets_at m_parse07 z hzl (.tup [topS q, vI pe]) fun _ => by
        show SV.tup [topS (parseT z), vI (parseE z)] = _
        rw [hq, hpe]
      have hM1 := at_match hfl hzl hb1
      have hM2 := at_match07 hfl hzl hb1
      have hM3 := at_match hzl hfl hb2
      have hM4 := at_match07 hzl hfl hb2
      clear hq hpe hb1 hb2
      obtain ⟨q1, q2, q3⟩ := q
      have hne : ¬ ((((⟨q1.toArray⟩ : ByteArray).toList == (⟨q1.toArray⟩ : ByteArray).toList) && (((⟨q2.toArray⟩ : ByteArray).toList == (⟨q2.toArray⟩ : ByteArray).toList) && (((⟨q3.toArray⟩ : ByteArray).toList == (⟨q3.toArray⟩ : ByteArray).toList) && true))) = false) := by rw [eq_top]; decide
      conv => whnf
      repeat' (first | (refine tell (fun hQ => ?_) (fun hQ => ?_) <;> (try dsimp only at hQ) <;> first | (exfalso; omega) | (exact absurd rfl hQ) | (exact absurd hQ hne) | (exact absurd hne hQ) | (exact absurd hQ t1) | (exact absurd t1 hQ) | (exact absurd (by decide) hQ) | (conv => whnf)) | (refine allG (x := _) (by first | exact hzm | simpa [List.getElem?_append_right, lowOf] using hzm | fail) ?_; conv => whnf) | (refine allLst (x := _) (by first | omega | assumption | fail) (by first | exact hzm | simpa using hzm | fail) ?_; conv => whnf) | (refine allG rfl ?_; conv => whnf) | (refine ⟨none, ?_⟩; conv => whnf) | (refine And.intro (by first | omega | assumption | kernel_rfl | exact And.intro rfl rfl | ((try dsimp only [inR, idx, lowOf]); first | omega | (with_reducible decide) | (simp; omega) | (simp; done) | fail) | fail) ?_; conv => whnf) | fail)
      refine ⟨_, hP1, (), [], false, ?_⟩
      conv => whnf
      refine And.intro (vc0 trivial (by (repeat' (first | exact trivial | exact rfl | refine And.intro ?_ ?_ | (refine congrArg vI ?_; first | omega | (dsimp only; omega) | fail) | (refine congrArg some ?_) | omega | exact Nat.le_refl _ | exact congrArg (SV.lst _) (List.take_of_length_le (Nat.le_refl _)).symm))) (by repeat' (first | exact trivial | exact rfl | refine And.intro ?_ ?_ | (refine congrArg vI ?_; first | omega | (dsimp only; omega) | fail) | (refine congrArg some ?_) | omega | exact Nat.le_refl _ | exact congrArg (SV.lst _) (List.take_of_length_le (Nat.le_refl _)).symm)) trivial trivial) ?_
      refine And.intro ⟨(), trivial⟩ (fun (_ : Unit) _ => ?_)
      conv => whnf
      conv => whnf
      repeat' (first | (refine tell (fun hQ => ?_) (fun hQ => ?_) <;> (try dsimp only at hQ) <;> first | (exfalso; omega) | (exact absurd rfl hQ) | (exact absurd hQ hne) | (exact absurd hne hQ) | (exact absurd hQ t1) | (exact absurd t1 hQ) | (exact absurd (by decide) hQ) | (conv => whnf)) | (refine allG rfl ?_; conv => whnf) | (refine ⟨none, ?_⟩; conv => whnf) | (refine And.intro (by first | omega | assumption | kernel_rfl | exact And.intro rfl rfl | ((try dsimp only [inR, idx, lowOf]); first | omega | (with_reducible decide) | (simp; omega) | (simp; done) | fail) | fail) ?_; conv => whnf) | fail)
      refine ⟨_, hP2, (), [], false, ?_⟩
      conv => whnf
      refine And.intro (vc0 trivial (by (repeat' (first | exact trivial | exact rfl | refine And.intro ?_ ?_ | (refine congrArg vI ?_; first | omega | (dsimp only; omega) | fail) | (refine congrArg some ?_) | omega | exact Nat.le_refl _ | exact congrArg (SV.lst _) (List.take_of_length_le (Nat.le_refl _)).symm))) (by repeat' (first | exact trivial | exact rfl | refine And.intro ?_ ?_ | (refine congrArg vI ?_; first | omega | (dsimp only; omega) | fail) | (refine congrArg some ?_) | omega | exact Nat.le_refl _ | exact congrArg (SV.lst _) (List.take_of_length_le (Nat.le_refl _)).symm)) trivial trivial) ?_
      refine And.intro ⟨(), trivial⟩ (fun (_ : Unit) _ => ?_)
      conv => whnf
      conv => whnf
      repeat' (first | (refine tell (fun hQ => ?_) (fun hQ => ?_) <;> (try dsimp only at hQ) <;> first | (exfalso; omega) | (exact absurd rfl hQ) | (exact absurd hQ hne) | (exact absurd hne hQ) | (exact absurd hQ t1) | (exact absurd t1 hQ) | (exact absurd (by decide) hQ) | (conv => whnf)) | (refine allG rfl ?_; conv => whnf) | (refine ⟨none, ?_⟩; conv => whnf) | (refine And.intro (by first | omega | assumption | kernel_rfl | exact And.intro rfl rfl | ((try dsimp only [inR, idx, lowOf]); first | omega | (with_reducible decide) | (simp; omega) | (simp; done) | fail) | fail) ?_; conv => whnf) | fail)
      refine ⟨_, hM1, (), [], false, ?_⟩
      conv => whnf
      refine And.intro (vc0 trivial (by (repeat' (first | exact trivial | exact rfl | refine And.intro ?_ ?_ | (refine congrArg vI ?_; first | omega | (dsimp only; omega) | fail) | (refine congrArg some ?_) | omega | exact Nat.le_refl _ | exact congrArg (SV.lst _) (List.take_of_length_le (Nat.le_refl _)).symm))) (by repeat' (first | exact trivial | exact rfl | refine And.intro ?_ ?_ | (refine congrArg vI ?_; first | omega | (dsimp only; omega) | fail) | (refine congrArg some ?_) | omega | exact Nat.le_refl _ | exact congrArg (SV.lst _) (List.take_of_length_le (Nat.le_refl _)).symm)) trivial trivial) ?_
      refine And.intro ⟨(), trivial⟩ (fun (_ : Unit) _ => ?_)
      conv => whnf
      conv => whnf
      repeat' (first | (refine tell (fun hQ => ?_) (fun hQ => ?_) <;> (try dsimp only at hQ) <;> first | (exfalso; omega) | (exact absurd rfl hQ) | (exact absurd hQ hne) | (exact absurd hne hQ) | (exact absurd hQ t1) | (exact absurd t1 hQ) | (exact absurd (by decide) hQ) | (conv => whnf)) | (refine allG rfl ?_; conv => whnf) | (refine ⟨none, ?_⟩; conv => whnf) | (refine And.intro (by first | omega | assumption | kernel_rfl | exact And.intro rfl rfl | ((try dsimp only [inR, idx, lowOf]); first | omega | (with_reducible decide) | (simp; omega) | (simp; done) | fail) | fail) ?_; conv => whnf) | fail)
      refine ⟨_, hM2, (), [], false, ?_⟩
      conv => whnf
      refine And.intro (vc0 trivial (by (repeat' (first | exact trivial | exact rfl | refine And.intro ?_ ?_ | (refine congrArg vI ?_; first | omega | (dsimp only; omega) | fail) | (refine congrArg some ?_) | omega | exact Nat.le_refl _ | exact congrArg (SV.lst _) (List.take_of_length_le (Nat.le_refl _)).symm))) (by repeat' (first | exact trivial | exact rfl | refine And.intro ?_ ?_ | (refine congrArg vI ?_; first | omega | (dsimp only; omega) | fail) | (refine congrArg some ?_) | omega | exact Nat.le_refl _ | exact congrArg (SV.lst _) (List.take_of_length_le (Nat.le_refl _)).symm)) trivial trivial) ?_
      refine And.intro ⟨(), trivial⟩ (fun (_ : Unit) _ => ?_)
      conv => whnf
      cases b1
      all_goals
        conv => whnf
        repeat' (first | (refine tell (fun hQ => ?_) (fun hQ => ?_) <;> (try dsimp only at hQ) <;> first | (exfalso; omega) | (exact absurd rfl hQ) | (exact absurd hQ hne) | (exact absurd hne hQ) | (exact absurd hQ t1) | (exact absurd t1 hQ) | (exact absurd (by decide) hQ) | (conv => whnf)) | (refine allG rfl ?_; conv => whnf) | (refine ⟨none, ?_⟩; conv => whnf) | (refine And.intro (by first | omega | assumption | kernel_rfl | exact And.intro rfl rfl | ((try dsimp only [inR, idx, lowOf]); first | omega | (with_reducible decide) | (simp; omega) | (simp; done) | fail) | fail) ?_; conv => whnf) | fail)
        refine ⟨_, hM3, (), [], false, ?_⟩
        conv => whnf
        refine And.intro (vc0 trivial (by (repeat' (first | exact trivial | exact rfl | refine And.intro ?_ ?_ | (refine congrArg vI ?_; first | omega | (dsimp only; omega) | fail) | (refine congrArg some ?_) | omega | exact Nat.le_refl _ | exact congrArg (SV.lst _) (List.take_of_length_le (Nat.le_refl _)).symm))) (by repeat' (first | exact trivial | exact rfl | refine And.intro ?_ ?_ | (refine congrArg vI ?_; first | omega | (dsimp only; omega) | fail) | (refine congrArg some ?_) | omega | exact Nat.le_refl _ | exact congrArg (SV.lst _) (List.take_of_length_le (Nat.le_refl _)).symm)) trivial trivial) ?_
        refine And.intro ⟨(), trivial⟩ (fun (_ : Unit) _ => ?_)
        conv => whnf
        conv => whnf
        repeat' (first | (refine tell (fun hQ => ?_) (fun hQ => ?_) <;> (try dsimp only at hQ) <;> first | (exfalso; omega) | (exact absurd rfl hQ) | (exact absurd hQ hne) | (exact absurd hne hQ) | (exact absurd hQ t1) | (exact absurd t1 hQ) | (exact absurd (by decide) hQ) | (conv => whnf)) | (refine allG rfl ?_; conv => whnf) | (refine ⟨none, ?_⟩; conv => whnf) | (refine And.intro (by first | omega | assumption | kernel_rfl | exact And.intro rfl rfl | ((try dsimp only [inR, idx, lowOf]); first | omega | (with_reducible decide) | (simp; omega) | (simp; done) | fail) | fail) ?_; conv => whnf) | fail)
        refine ⟨_, hM4, (), [], false, ?_⟩
        conv => whnf
        refine And.intro (vc0 trivial (by (repeat' (first | exact trivial | exact rfl | refine And.intro ?_ ?_ | (refine congrArg vI ?_; first | omega | (dsimp only; omega) | fail) | (refine congrArg some ?_) | omega | exact Nat.le_refl _ | exact congrArg (SV.lst _) (List.take_of_length_le (Nat.le_refl _)).symm))) (by repeat' (first | exact trivial | exact rfl | refine And.intro ?_ ?_ | (refine congrArg vI ?_; first | omega | (dsimp only; omega) | fail) | (refine congrArg some ?_) | omega | exact Nat.le_refl _ | exact congrArg (SV.lst _) (List.take_of_length_le (Nat.le_refl _)).symm)) trivial trivial) ?_
        refine And.intro ⟨(), trivial⟩ (fun (_ : Unit) _ => ?_)
        conv => whnf
      all_goals cases b2
      all_goals
        conv => whnf
        repeat' (first | (refine tell (fun hQ => ?_) (fun hQ => ?_) <;> (try dsimp only at hQ) <;> first | (exfalso; omega) | (exact absurd rfl hQ) | (exact absurd hQ hne) | (exact absurd hne hQ) | (exact absurd hQ t1) | (exact absurd t1 hQ) | (exact absurd (by decide) hQ) | (conv => whnf)) | (refine allG rfl ?_; conv => whnf) | (refine ⟨none, ?_⟩; conv => whnf) | (refine And.intro (by first | omega | assumption | kernel_rfl | exact And.intro rfl rfl | ((try dsimp only [inR, idx, lowOf]); first | omega | (with_reducible decide) | (simp; omega) | (simp; done) | fail) | fail) ?_; conv => whnf) | fail)
        refine ⟨i + 1, [], hlt, ?_, rfl, ?_, ?_, rfl⟩
        · dsimp only; first | omega | (simp; done) | (simp; omega)
        all_goals (repeat' (first | exact trivial | exact rfl | refine And.intro ?_ ?_ | (refine congrArg vI ?_; first | omega | (dsimp only; omega) | fail) | (refine congrArg some ?_) | omega | exact Nat.le_refl _ | exact congrArg (SV.lst _) (List.take_of_length_le (Nat.le_refl _)).symm))
    · have hobt : i = 4 := by omega
      obtain rfl := hobt
      conv => whnf
      repeat' (first | (refine tell (fun hQ => ?_) (fun hQ => ?_) <;> (try dsimp only at hQ) <;> first | (exfalso; omega) | (exact absurd rfl hQ) | (exact absurd hQ hne) | (exact absurd hne hQ) | (exact absurd hQ t1) | (exact absurd t1 hQ) | (exact absurd (by decide) hQ) | (conv => whnf)) | (refine allG rfl ?_; conv => whnf) | (refine ⟨none, ?_⟩; conv => whnf) | (refine And.intro (by first | omega | assumption | kernel_rfl | exact And.intro rfl rfl | ((try dsimp only [inR, idx, lowOf]); first | omega | (with_reducible decide) | (simp; omega) | (simp; done) | fail) | fail) ?_; conv => whnf) | fail)
      exact ⟨(), [], trivial, rfl, trivial, trivial⟩
end Go.Sx

