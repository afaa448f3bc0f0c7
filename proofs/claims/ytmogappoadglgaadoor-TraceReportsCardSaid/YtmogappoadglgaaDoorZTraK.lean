/-
  Layer 21, part K: TraceReports.
-/
import Derived.Test.YtmogappoadglgaaDoorZBldt
set_option linter.unusedVariables false
set_option linter.unusedSimpArgs false
namespace Go.Sx
open Go Go.Proofs Go.Proofs.YtmogappoadglgaaDoor
def nlN (l : List UInt8) : Nat := l.countP (· == 10)
theorem nlN_append (a b : List UInt8) : nlN (a ++ b) = nlN a + nlN b := List.countP_append ..
theorem nlN_snoc {l : List UInt8} {i : Nat} {x : UInt8} (h : l[i]? = some x) : nlN (l.take (i + 1)) = nlN (l.take i) + (if x = 10 then 1 else 0) := by
  rw [take_snocI h, nlN_append]
  by_cases e : x = 10
  · subst e; rfl
  · rw [if_neg e]
    show _ + List.countP (· == 10) [x] = _
    rw [List.countP_cons]
    simp [e]
theorem ite_nl {c : Prop} [Decidable c] {a b : ByteArray} (ha : nlN a.data.toList = 0) (hb : nlN b.data.toList = 0) : nlN (if c then a else b).data.toList = 0 := by
  split
  · exact ha
  · exact hb
theorem itoaF_nl (i : Int) : nlN (itoaF i).data.toList = 0 := by
  unfold itoaF
  repeat' (refine ite_nl ?_ ?_)
  all_goals exact (by decide)
theorem wordF_nl (i : Int) : nlN (wordF i).data.toList = 0 := by
  unfold wordF
  repeat' (refine ite_nl ?_ ?_)
  all_goals exact (by decide)
theorem restL_nl {sep : ByteArray} (hs : nlN sep.data.toList = 0) : ∀ {l : List ByteArray}, (∀ s ∈ l, nlN s.data.toList = 0) → nlN (restL sep l) = 0
  | [], _ => rfl
  | x :: l, h => by
    have h1 := restL_nl hs (l := l) fun s hs => h s (List.mem_cons_of_mem _ hs)
    have h2 := h x (List.mem_cons_self ..)
    unfold restL at h1 ⊢
    rw [List.flatMap_cons, nlN_append, nlN_append, h1, h2, hs]
theorem joinL_nl {sep : ByteArray} (hs : nlN sep.data.toList = 0) {l : List ByteArray} (h : ∀ s ∈ l, nlN s.data.toList = 0) : nlN (joinL sep l) = 0 := by
  cases l with
  | nil => rfl
  | cons x l =>
    unfold joinL
    rw [nlN_append, h x (List.mem_cons_self ..), restL_nl hs fun s hs => h s (List.mem_cons_of_mem _ hs)]
theorem lineL_nl {ps : List Post} (hp : ∀ p ∈ ps, nlN p.1.data.toList = 0) (j : Job) : nlN (lineL ps j) = 1 := by
  unfold lineL
  rw [nlN_append, joinL_nl (by decide) fun s hs => ?_]
  · decide
  · unfold wordsP at hs
    rcases List.mem_append.1 hs with hs | hs
    · simp at hs
      rcases hs with rfl | rfl | rfl
      · exact itoaF_nl _
      · exact itoaF_nl _
      · exact wordF_nl _
    · unfold nameP at hs
      split at hs
      · split at hs
        · rename_i p hq
          rw [List.mem_singleton.1 hs]
          exact hp p (List.mem_of_getElem? hq)
        · cases hs
      · cases hs
theorem repL_nl {ps : List Post} (hp : ∀ p ∈ ps, nlN p.1.data.toList = 0) : ∀ js : List Job, nlN (repL ps js) = js.length
  | [] => rfl
  | j :: js => by
    have h1 := repL_nl hp js
    unfold repL at h1 ⊢
    rw [List.flatMap_cons, nlN_append, lineL_nl hp, h1, List.length_cons, Nat.add_comm]
abbrev xyz : List Post := [(⟨#[120]⟩, 0), (⟨#[121]⟩, 0), (⟨#[122]⟩, 0)]
theorem xyz_ok : ∀ p ∈ xyz, nlN p.1.data.toList = 0 ∧ p.1.size ≤ 1000 := by
  intro p hp
  simp at hp
  rcases hp with rfl | rfl | rfl <;> exact ⟨by decide, by decide⟩
theorem repL_append (ps : List Post) (a b : List Job) : repL ps (a ++ b) = repL ps a ++ repL ps b := List.flatMap_append ..
theorem rep_str (a b : List Job) : (⟨(repL xyz (a ++ b)).toArray⟩ : ByteArray) = ⟨(repL xyz a).toArray⟩ ++ ⟨(repL xyz b).toArray⟩ := by
  apply ByteArray.ext
  rw [ByteArray.data_append, repL_append]
  simp
theorem small_rep {js : List Job} (h : SmallJs js) : ∀ j ∈ js, (0 ≤ j.1 ∧ j.1 ≤ 12) ∧ (0 ≤ j.2.1 ∧ j.2.1 ≤ 12) ∧ InI j.2.2.2 := fun j hj => by
  have hobt := h.2 j hj
  obtain ⟨h1, h2, h3, h4⟩ := hobt
  exact ⟨⟨by omega, by omega⟩, ⟨by omega, by omega⟩, ⟨by omega, by omega⟩⟩
theorem small_app {a b : List Job} (ha : SmallJs a) (hb : SmallJs b) : ∀ j ∈ a ++ b, (0 ≤ j.1 ∧ j.1 ≤ 12) ∧ (0 ≤ j.2.1 ∧ j.2.1 ≤ 12) ∧ InI j.2.2.2 := fun j hj => by
  rcases List.mem_append.1 hj with hj | hj
  · exact small_rep ha j hj
  · exact small_rep hb j hj
set_option maxHeartbeats 3200000 in
set_option maxRecDepth 100000 in
theorem m_reportsR : Meets Tryd.prog regF 10 (spLaw (fun g : List Job × List Job => [.lst 107 g.1, .lst 107 g.2]) (fun g => (g.1.length ≤ 9223372036854775807 ∧ ∀ j ∈ g.1, InI j.1 ∧ InI j.2.1 ∧ InI j.2.2.1 ∧ InI j.2.2.2) ∧ (g.2.length ≤ 9223372036854775807 ∧ ∀ j ∈ g.2, InI j.1 ∧ InI j.2.1 ∧ InI j.2.2.1 ∧ InI j.2.2.2))) := by
  refine meets Tryd.func10 57 noWr rfl (by kernel_rfl) (by kernel_rfl) ?_
  rintro ⟨(one : List Job), (two : List Job)⟩ ⟨h1, h2⟩
  conv => whnf
  repeat' (first | (refine tell (fun htest => ?_) (fun htest => ?_) <;> (try dsimp only at htest) <;> first | (exfalso; omega) | (exact absurd rfl htest) | (exact absurd (by decide) htest) | (conv => whnf)) | (refine allG rfl ?_; conv => whnf) | (refine And.intro (by first | omega | assumption | kernel_rfl | exact And.intro rfl rfl | ((try dsimp only [inR, idx, lowOf]); first | omega | (with_reducible decide) | (simp; omega) | (simp; done) | fail) | fail) ?_; conv => whnf) | fail)
  refine ⟨_, m_awakeT, (), [], false, ?_⟩
  conv => whnf
  refine And.intro (vc0 trivial (by (repeat' (first | exact trivial | exact rfl | refine And.intro ?_ ?_ | (refine congrArg vI ?_; first | omega | (dsimp only; omega) | fail) | (refine congrArg some ?_) | omega | exact Nat.le_refl _ | exact congrArg (SV.lst _) (List.take_of_length_le (Nat.le_refl _)).symm))) (by repeat' (first | exact trivial | exact rfl | refine And.intro ?_ ?_ | (refine congrArg vI ?_; first | omega | (dsimp only; omega) | fail) | (refine congrArg some ?_) | omega | exact Nat.le_refl _ | exact congrArg (SV.lst _) (List.take_of_length_le (Nat.le_refl _)).symm)) trivial trivial) ?_
  refine And.intro ⟨(), trivial⟩ (fun (_ : Unit) _ => ?_)
  conv => whnf
  conv => whnf
  repeat' (first | (refine tell (fun htest => ?_) (fun htest => ?_) <;> (try dsimp only at htest) <;> first | (exfalso; omega) | (exact absurd rfl htest) | (exact absurd (by decide) htest) | (conv => whnf)) | (refine allG rfl ?_; conv => whnf) | (refine And.intro (by first | omega | assumption | kernel_rfl | exact And.intro rfl rfl | ((try dsimp only [inR, idx, lowOf]); first | omega | (with_reducible decide) | (simp; omega) | (simp; done) | fail) | fail) ?_; conv => whnf) | fail)
  refine ⟨_, m_jobs, one, [], false, ?_⟩
  conv => whnf
  refine And.intro (vc0 h1 (by (repeat' (first | exact trivial | exact rfl | refine And.intro ?_ ?_ | (refine congrArg vI ?_; first | omega | (dsimp only; omega) | fail) | (refine congrArg some ?_) | omega | exact Nat.le_refl _ | exact congrArg (SV.lst _) (List.take_of_length_le (Nat.le_refl _)).symm))) (by repeat' (first | exact trivial | exact rfl | refine And.intro ?_ ?_ | (refine congrArg vI ?_; first | omega | (dsimp only; omega) | fail) | (refine congrArg some ?_) | omega | exact Nat.le_refl _ | exact congrArg (SV.lst _) (List.take_of_length_le (Nat.le_refl _)).symm)) trivial trivial) ?_
  refine And.intro ⟨[], ⟨Nat.zero_le _, fun _ h => by cases h⟩⟩ ?_
  intro (a : List Job) (ha : SmallJs a)
  conv => whnf
  repeat' (first | (refine tell (fun htest => ?_) (fun htest => ?_) <;> (try dsimp only at htest) <;> first | (exfalso; omega) | (exact absurd rfl htest) | (exact absurd (by decide) htest) | (conv => whnf)) | (refine allG rfl ?_; conv => whnf) | (refine And.intro (by first | omega | assumption | kernel_rfl | exact And.intro rfl rfl | ((try dsimp only [inR, idx, lowOf]); first | omega | (with_reducible decide) | (simp; omega) | (simp; done) | fail) | fail) ?_; conv => whnf) | fail)
  refine ⟨_, m_jobs, two, [], false, ?_⟩
  conv => whnf
  refine And.intro (vc0 h2 (by (repeat' (first | exact trivial | exact rfl | refine And.intro ?_ ?_ | (refine congrArg vI ?_; first | omega | (dsimp only; omega) | fail) | (refine congrArg some ?_) | omega | exact Nat.le_refl _ | exact congrArg (SV.lst _) (List.take_of_length_le (Nat.le_refl _)).symm))) (by repeat' (first | exact trivial | exact rfl | refine And.intro ?_ ?_ | (refine congrArg vI ?_; first | omega | (dsimp only; omega) | fail) | (refine congrArg some ?_) | omega | exact Nat.le_refl _ | exact congrArg (SV.lst _) (List.take_of_length_le (Nat.le_refl _)).symm)) trivial trivial) ?_
  refine And.intro ⟨[], ⟨Nat.zero_le _, fun _ h => by cases h⟩⟩ ?_
  intro (b : List Job) (hb : SmallJs b)
  have hal := ha.1
  have hbl := hb.1
  have hra := repL_len (fun p hp => (xyz_ok p hp).2) a
  have hrb := repL_len (fun p hp => (xyz_ok p hp).2) b
  have hsa := size_mk (repL xyz a)
  have hsb := size_mk (repL xyz b)
  have hna := repL_nl (fun p hp => (xyz_ok p hp).1) a
  have hma : a.length * 5000000 ≤ 12 * 5000000 := Nat.mul_le_mul_right 5000000 hal
  have hmb : b.length * 5000000 ≤ 12 * 5000000 := Nat.mul_le_mul_right 5000000 hbl
  conv => whnf
  repeat' (first | (refine tell (fun htest => ?_) (fun htest => ?_) <;> (try dsimp only at htest) <;> first | (exfalso; omega) | (exact absurd rfl htest) | (exact absurd (by decide) htest) | (conv => whnf)) | (refine allG rfl ?_; conv => whnf) | (refine And.intro (by first | omega | assumption | kernel_rfl | exact And.intro rfl rfl | ((try dsimp only [inR, idx, lowOf]); first | omega | (with_reducible decide) | (simp; omega) | (simp; done) | fail) | fail) ?_; conv => whnf) | fail)
  refine ⟨_, m_report, (a, xyz), [], true, ?_⟩
  conv => whnf
  refine And.intro (vc0 ⟨⟨(show a.length ≤ 1000 by omega), small_rep ha⟩, (show (3 : Nat) ≤ 1000 by decide), fun p hp => (xyz_ok p hp).2⟩ (by (repeat' (first | exact trivial | exact rfl | refine And.intro ?_ ?_ | (refine congrArg vI ?_; first | omega | (dsimp only; omega) | fail) | (refine congrArg some ?_) | omega | exact Nat.le_refl _ | exact congrArg (SV.lst _) (List.take_of_length_le (Nat.le_refl _)).symm))) (by repeat' (first | exact trivial | exact rfl | refine And.intro ?_ ?_ | (refine congrArg vI ?_; first | omega | (dsimp only; omega) | fail) | (refine congrArg some ?_) | omega | exact Nat.le_refl _ | exact congrArg (SV.lst _) (List.take_of_length_le (Nat.le_refl _)).symm)) trivial (.inr (fun _ => ⟨rfl, fun h ct he => by rcases h with _ | _ | h <;> first | (cases he; done) | (cases he; rfl)⟩))) ?_
  refine And.intro ⟨(), trivial⟩ (fun (_ : Unit) _ => ?_)
  conv => whnf
  conv => whnf
  repeat' (first | (refine tell (fun htest => ?_) (fun htest => ?_) <;> (try dsimp only at htest) <;> first | (exfalso; omega) | (exact absurd rfl htest) | (exact absurd (by decide) htest) | (conv => whnf)) | (refine allG rfl ?_; conv => whnf) | (refine And.intro (by first | omega | assumption | kernel_rfl | exact And.intro rfl rfl | ((try dsimp only [inR, idx, lowOf]); first | omega | (with_reducible decide) | (simp; omega) | (simp; done) | fail) | fail) ?_; conv => whnf) | fail)
  refine ⟨Nat, fun i => ⟨[(5, vB true), (6, .sl 1016 2 0 3), (7, .sl 1018 4 0 a.length), (8, .sl 1020 4 0 b.length), (9, .val (.string ⟨(repL xyz a).toArray⟩)), (10, vI (nlN ((repL xyz a).take i))), (11, vI i)], [(1016, .arr 66 xyz), (1018, .arr 107 a), (1020, .arr 107 b)]⟩, fun i => i ≤ (repL xyz a).length, fun i => (repL xyz a).length - i, fun _ _ => rfl, ⟨0, [], Nat.zero_le _, ?_⟩, ?_⟩
  · refine ⟨rfl, ?_, ?_, rfl⟩
    all_goals (repeat' (first | exact trivial | exact rfl | refine And.intro ?_ ?_ | (refine congrArg vI ?_; first | omega | (dsimp only; omega) | fail) | (refine congrArg some ?_) | omega | exact Nat.le_refl _ | exact congrArg (SV.lst _) (List.take_of_length_le (Nat.le_refl _)).symm))
  rintro (i : Nat) (hi : i ≤ (repL xyz a).length)
  by_cases hlt : i < (repL xyz a).length
  · have hobt : ∃ y, (repL xyz a)[i]? = some y := ⟨_, List.getElem?_eq_getElem hlt⟩
    obtain ⟨x, hx⟩ := hobt
    have hc := nlN_snoc hx
    have hv : ((((repL xyz a).getD (i : Int).toNat 0).toNat : Nat) : Int) = (x.toNat : Int) := by
      rw [List.getD_eq_getElem?_getD]
      simp [hx]
    have hnb : nlN ((repL xyz a).take i) ≤ 60000000 := Nat.le_trans (List.countP_le_length ..) (by rw [List.length_take]; omega)
    by_cases hx10 : x = 10
    · rw [if_pos hx10] at hc
      have hv10 : ((((repL xyz a).getD (i : Int).toNat 0).toNat : Nat) : Int) = 10 := by rw [hv, hx10]; rfl
      conv => whnf
      repeat' (first | (refine tell (fun htest => ?_) (fun htest => ?_) <;> (try dsimp only at htest) <;> first | (exfalso; omega) | (exact absurd rfl htest) | (exact absurd (by decide) htest) | (conv => whnf)) | (refine allG rfl ?_; conv => whnf) | (refine And.intro (by first | omega | assumption | kernel_rfl | exact And.intro rfl rfl | ((try dsimp only [inR, idx, lowOf]); first | omega | (with_reducible decide) | (simp; omega) | (simp; done) | fail) | fail) ?_; conv => whnf) | fail)
      refine ⟨i + 1, [], hlt, ?_, rfl, ?_, ?_, rfl⟩
      · dsimp only; first | omega | (simp; done) | (simp; omega)
      all_goals (repeat' (first | exact trivial | exact rfl | refine And.intro ?_ ?_ | (refine congrArg vI ?_; first | omega | (dsimp only; omega) | fail) | (refine congrArg some ?_) | omega | exact Nat.le_refl _ | exact congrArg (SV.lst _) (List.take_of_length_le (Nat.le_refl _)).symm))
    · rw [if_neg hx10] at hc
      have hv10 : ¬ ((((repL xyz a).getD (i : Int).toNat 0).toNat : Nat) : Int) = 10 := by
        rw [hv]
        intro e
        exact hx10 (UInt8.toNat_inj.1 (by show x.toNat = 10; omega))
      conv => whnf
      repeat' (first | (refine tell (fun htest => ?_) (fun htest => ?_) <;> (try dsimp only at htest) <;> first | (exfalso; omega) | (exact absurd rfl htest) | (exact absurd (by decide) htest) | (conv => whnf)) | (refine allG rfl ?_; conv => whnf) | (refine And.intro (by first | omega | assumption | kernel_rfl | exact And.intro rfl rfl | ((try dsimp only [inR, idx, lowOf]); first | omega | (with_reducible decide) | (simp; omega) | (simp; done) | fail) | fail) ?_; conv => whnf) | fail)
      refine ⟨i + 1, [], hlt, ?_, rfl, ?_, ?_, rfl⟩
      · dsimp only; first | omega | (simp; done) | (simp; omega)
      all_goals (repeat' (first | exact trivial | exact rfl | refine And.intro ?_ ?_ | (refine congrArg vI ?_; first | omega | (dsimp only; omega) | fail) | (refine congrArg some ?_) | omega | exact Nat.le_refl _ | exact congrArg (SV.lst _) (List.take_of_length_le (Nat.le_refl _)).symm))
  · have hfull : nlN ((repL xyz a).take i) = a.length := by rw [List.take_of_length_le (by omega), hna]
    have hX : a ++ b = ((((((a.drop 0).take a.length).drop 0).take a.length ++ (b.drop 0).take b.length).drop 0).take (a.length + b.length)) := by
      simp only [List.drop_zero, List.take_length]
      rw [← List.length_append, List.take_length]
    have hXl : (a ++ b).length = a.length + b.length := List.length_append
    conv => whnf
    repeat' (first | (refine tell (fun htest => ?_) (fun htest => ?_) <;> (try dsimp only at htest) <;> first | (exfalso; omega) | (exact absurd rfl htest) | (exact absurd (by decide) htest) | (conv => whnf)) | (refine allG rfl ?_; conv => whnf) | (refine And.intro (by first | omega | assumption | kernel_rfl | exact And.intro rfl rfl | ((try dsimp only [inR, idx, lowOf]); first | omega | (with_reducible decide) | (simp; omega) | (simp; done) | fail) | fail) ?_; conv => whnf) | fail)
    refine ⟨_, m_report, (a ++ b, xyz), [], true, ?_⟩
    conv => whnf
    refine And.intro (vc0 ⟨⟨(show (a ++ b).length ≤ 1000 by omega), small_app ha hb⟩, (show (3 : Nat) ≤ 1000 by decide), fun p hp => (xyz_ok p hp).2⟩ (by (repeat' (first | exact trivial | exact rfl | refine And.intro ?_ ?_ | (refine congrArg vI ?_; first | omega | (dsimp only; omega) | fail) | (refine congrArg some ?_) | omega | exact Nat.le_refl _ | exact congrArg (SV.lst _) (List.take_of_length_le (Nat.le_refl _)).symm)); all_goals (first | exact congrArg (SV.lst (A := AF) 107) hX | (simp; omega) | (simp; done) | fail)) (by repeat' (first | exact trivial | exact rfl | refine And.intro ?_ ?_ | (refine congrArg vI ?_; first | omega | (dsimp only; omega) | fail) | (refine congrArg some ?_) | omega | exact Nat.le_refl _ | exact congrArg (SV.lst _) (List.take_of_length_le (Nat.le_refl _)).symm)) trivial (.inr (fun _ => ⟨rfl, fun h ct he => by rcases h with _ | _ | h <;> first | (cases he; done) | (cases he; rfl)⟩))) ?_
    refine And.intro ⟨(), trivial⟩ (fun (_ : Unit) _ => ?_)
    conv => whnf
    conv => whnf
    repeat' (first | (refine tell (fun htest => ?_) (fun htest => ?_) <;> (try dsimp only at htest) <;> first | (exfalso; omega) | (exact absurd rfl htest) | (exact absurd (by decide) htest) | (conv => whnf)) | (refine allG rfl ?_; conv => whnf) | (refine And.intro (by first | omega | assumption | kernel_rfl | exact And.intro rfl rfl | ((try dsimp only [inR, idx, lowOf]); first | omega | (with_reducible decide) | (simp; omega) | (simp; done) | fail) | fail) ?_; conv => whnf) | fail)
    refine ⟨_, m_report, (b, xyz), [], false, ?_⟩
    conv => whnf
    refine And.intro (vc0 ⟨⟨(show b.length ≤ 1000 by omega), small_rep hb⟩, (show (3 : Nat) ≤ 1000 by decide), fun p hp => (xyz_ok p hp).2⟩ (by (repeat' (first | exact trivial | exact rfl | refine And.intro ?_ ?_ | (refine congrArg vI ?_; first | omega | (dsimp only; omega) | fail) | (refine congrArg some ?_) | omega | exact Nat.le_refl _ | exact congrArg (SV.lst _) (List.take_of_length_le (Nat.le_refl _)).symm))) (by repeat' (first | exact trivial | exact rfl | refine And.intro ?_ ?_ | (refine congrArg vI ?_; first | omega | (dsimp only; omega) | fail) | (refine congrArg some ?_) | omega | exact Nat.le_refl _ | exact congrArg (SV.lst _) (List.take_of_length_le (Nat.le_refl _)).symm)) trivial trivial) ?_
    refine And.intro ⟨(), trivial⟩ (fun (_ : Unit) _ => ?_)
    conv => whnf
    have hr := rep_str a b
    conv => whnf
    repeat' (first | (refine tell (fun htest => ?_) (fun htest => ?_) <;> (try dsimp only at htest) <;> first | (exfalso; omega) | (exact absurd rfl htest) | (exact absurd (by decide) htest) | (conv => whnf)) | (refine allG rfl ?_; conv => whnf) | (refine And.intro (by first | omega | assumption | kernel_rfl | exact And.intro rfl rfl | ((try dsimp only [inR, idx, lowOf]); first | omega | (with_reducible decide) | (simp; omega) | (simp; done) | fail) | fail) ?_; conv => whnf) | fail)
    · exact ⟨(), [], trivial, rfl, trivial, trivial⟩
    · exact absurd (congrArg ByteArray.toList hr) (by assumption)
end Go.Sx

