/-
  Layer 13 at the door: Check.
-/
import Derived.Test.YtmogappoadglgaaDoorZWalP
set_option linter.unusedVariables false
set_option linter.unusedSimpArgs false
namespace Go.Sx
open Go Go.Proofs Go.Proofs.YtmogappoadglgaaDoor
def FineAt (n : Int) (el : List Edge) (ol : List OrdT) (i : Nat) : Prop := ∃ o : OrdT, ol[i]? = some o ∧ FitsP n el o ∧ (i = 0 → o.2.2.2.1 = 0) ∧ ∀ p : OrdT, 1 ≤ i → ol[i - 1]? = some p → FollowsP p o ∧ (o.2.2.1 = p.2.2.1 ∨ FromP (ol.take i) (n0O o))
def CheckR (n : Int) (el : List Edge) (ol : List OrdT) (r : Int) : Prop := (r = -1 ∧ ∀ i, i < ol.length → FineAt n el ol i) ∨ ∃ k : Nat, r = k ∧ k < ol.length ∧ ¬ FineAt n el ol k ∧ ∀ j, j < k → FineAt n el ol j
theorem check_ex (n : Int) (el : List Edge) (ol : List OrdT) : ∃ r, CheckR n el ol r := by
  by_cases h : ∀ i, i < ol.length → FineAt n el ol i
  · exact ⟨-1, .inl ⟨rfl, h⟩⟩
  · have : ∃ k, k < ol.length ∧ ¬ FineAt n el ol k := Classical.byContradiction fun hn => h fun i hi => Classical.byContradiction fun hf => hn ⟨i, hi, hf⟩
    obtain ⟨k, hk⟩ := this
    have key : ∀ m k, k ≤ m → k < ol.length ∧ ¬ FineAt n el ol k → ∃ k', (k' < ol.length ∧ ¬ FineAt n el ol k') ∧ ∀ j, j < k' → FineAt n el ol j := by
      intro m
      induction m with
      | zero =>
        intro k hk h
        exact ⟨k, h, fun j hj => absurd hj (by omega)⟩
      | succ m ih =>
        intro k hk h
        by_cases hall : ∀ j, j < k → FineAt n el ol j
        · exact ⟨k, h, hall⟩
        · have : ∃ j, j < k ∧ ¬ FineAt n el ol j := Classical.byContradiction fun hn => hall fun j hj => Classical.byContradiction fun hf => hn ⟨j, hj, hf⟩
          obtain ⟨j, hj, hf⟩ := this
          exact ih j (by omega) ⟨by omega, hf⟩
    have hobt := key k k (Nat.le_refl _) hk
    obtain ⟨k', h1, h2⟩ := hobt
    exact ⟨k', .inr ⟨k', rfl, h1.1, h1.2, h2⟩⟩
def spCheck : Spec AF where
  γ := (Int × List Edge) × List OrdT
  δ := Int
  args := fun g => [layS g.1.1 g.1.2, .lst 34 (g.2.map toE)]
  own := fun _ => []
  pre := fun g => RightL g.1.1 g.1.2 ∧ (∀ o ∈ g.2, RightO o) ∧ g.2.length ≤ 1000
  nnew := 0
  res := fun _ r => vI r
  own' := fun _ _ => []
  post := fun g r => CheckR g.1.1 g.1.2 g.2 r
set_option maxHeartbeats 6400000 in
set_option maxRecDepth 100000 in
theorem m_check : Meets Tryd.prog regF 29 spCheck := by
  refine meets Tryd.func29 57 noWr rfl (by kernel_rfl) (by kernel_rfl) ?_
  rintro ⟨⟨(n : Int), (el : List Edge)⟩, (ol : List OrdT)⟩ ⟨(hR : RightL n el), (hall : ∀ o ∈ ol, RightO o), (hl2 : ol.length ≤ 1000)⟩
  have hml : (ol.map toE).length = ol.length := List.length_map ..
  conv => whnf
  repeat' (first | (refine tell (fun hQ => ?_) (fun hQ => ?_) <;> (try dsimp only at hQ) <;> first | (exfalso; omega) | (exact absurd rfl hQ) | (exact absurd (by decide) hQ) | (conv => whnf)) | (refine allG rfl ?_; conv => whnf) | (refine And.intro (by first | omega | assumption | kernel_rfl | exact And.intro rfl rfl | ((try dsimp only [inR, idx, lowOf]); first | omega | (with_reducible decide) | (simp; omega) | (simp; done) | fail) | fail) ?_; conv => whnf) | fail)
  refine ⟨Nat, fun i => ⟨[(1, .lst 34 (ol.map toE)), (2, .ptr 1002 0 2 0), (9, .lst 34 (ol.map toE)), (10, vI ol.length), (11, vI i)], [(1002, layC n el)]⟩, fun i => i ≤ ol.length ∧ ∀ j, j < i → FineAt n el ol j, fun i => ol.length - i, fun _ _ => rfl, ⟨0, [], ⟨Nat.zero_le _, fun j h => absurd h (Nat.not_lt_zero _)⟩, ?_⟩, ?_⟩
  · refine ⟨rfl, ?_, ?_, rfl⟩
    all_goals (repeat' (first | exact trivial | exact rfl | refine And.intro ?_ ?_ | (refine congrArg vI ?_; first | omega | (dsimp only; omega) | fail) | (refine congrArg some ?_) | omega | exact Nat.le_refl _ | exact congrArg (SV.lst _) (List.take_of_length_le (Nat.le_refl _)).symm))
  rintro (i : Nat) ⟨(hi : i ≤ ol.length), (hf : ∀ j, j < i → FineAt n el ol j)⟩
  by_cases hlt : i < ol.length
  · have hobt : ∃ y, ol[i]? = some y := ⟨_, List.getElem?_eq_getElem hlt⟩
    obtain ⟨o, ho⟩ := hobt
    have hr := hall o (List.mem_of_getElem? ho)
    have hom : (ol.map toE)[i]? = some (toE o) := by rw [List.getElem?_map, ho]; rfl
    have fine : FineAt n el ol i → ∀ j, j < i + 1 → FineAt n el ol j := fun h j hj => by
      by_cases e : j = i
      · subst e; exact h
      · exact hf j (by omega)
    have bad : ¬ FineAt n el ol i → CheckR n el ol i := fun h => .inr ⟨i, rfl, hlt, h, hf⟩
    have nofit : ¬ FitsP n el o → ¬ FineAt n el ol i := fun h ⟨o', h1, h2, _⟩ => by rw [ho] at h1; cases h1; exact h h2
    conv => whnf
    repeat' (first | (refine tell (fun hQ => ?_) (fun hQ => ?_) <;> (try dsimp only at hQ) <;> first | (exfalso; omega) | (exact absurd rfl hQ) | (exact absurd (by decide) hQ) | (conv => whnf)) | (refine allG (x := _) (by first | exact hom | simpa [List.getElem?_append_right, lowOf] using hom | fail) ?_; conv => whnf) | (refine allLst (x := _) (by first | omega | assumption | fail) (by first | exact hom | simpa using hom | fail) ?_; conv => whnf) | (refine allG rfl ?_; conv => whnf) | (refine And.intro (by first | omega | assumption | kernel_rfl | exact And.intro rfl rfl | ((try dsimp only [inR, idx, lowOf]); first | omega | (with_reducible decide) | (simp; omega) | (simp; done) | fail) | fail) ?_; conv => whnf) | fail)
    refine ⟨_, m_fits, ((n, el), o), [], false, ?_⟩
    conv => whnf
    refine And.intro (vc0 ⟨hR, hr⟩ (by (repeat' (first | exact trivial | exact rfl | refine And.intro ?_ ?_ | (refine congrArg vI ?_; first | omega | (dsimp only; omega) | fail) | (refine congrArg some ?_) | omega | exact Nat.le_refl _ | exact congrArg (SV.lst _) (List.take_of_length_le (Nat.le_refl _)).symm))) (by repeat' (first | exact trivial | exact rfl | refine And.intro ?_ ?_ | (refine congrArg vI ?_; first | omega | (dsimp only; omega) | fail) | (refine congrArg some ?_) | omega | exact Nat.le_refl _ | exact congrArg (SV.lst _) (List.take_of_length_le (Nat.le_refl _)).symm)) trivial trivial) ?_
    refine And.intro (prop_ex _) ?_
    intro (c1 : Bool) (hc1 : c1 = true ↔ FitsP n el o)
    by_cases hi0 : i = 0
    · subst hi0
      cases c1
      · have hno : ¬ FineAt n el ol 0 := nofit fun h => (by have := hc1.2 h; cases this)
        conv => whnf
        repeat' (first | (refine tell (fun hQ => ?_) (fun hQ => ?_) <;> (try dsimp only at hQ) <;> first | (exfalso; omega) | (exact absurd rfl hQ) | (exact absurd (by decide) hQ) | (conv => whnf)) | (refine allG rfl ?_; conv => whnf) | (refine And.intro (by first | omega | assumption | kernel_rfl | exact And.intro rfl rfl | ((try dsimp only [inR, idx, lowOf]); first | omega | (with_reducible decide) | (simp; omega) | (simp; done) | fail) | fail) ?_; conv => whnf) | fail)
        exact ⟨(0 : Int), [], bad hno, rfl, trivial, trivial⟩
      · by_cases hu : o.2.2.2.1 = 0
        · have hu2 : (toE o).2.2.2.1 = 0 := hu
          have hyes : FineAt n el ol 0 := ⟨o, ho, hc1.1 rfl, fun _ => hu, fun p h => absurd h (by omega)⟩
          conv => whnf
          repeat' (first | (refine tell (fun hQ => ?_) (fun hQ => ?_) <;> (try dsimp only at hQ) <;> first | (exfalso; omega) | (exact absurd rfl hQ) | (exact absurd (by decide) hQ) | (conv => whnf)) | (refine allG rfl ?_; conv => whnf) | (refine And.intro (by first | omega | assumption | kernel_rfl | exact And.intro rfl rfl | ((try dsimp only [inR, idx, lowOf]); first | omega | (with_reducible decide) | (simp; omega) | (simp; done) | fail) | fail) ?_; conv => whnf) | fail)
          refine ⟨0 + 1, [], ⟨hlt, fine hyes⟩, ?_, rfl, ?_, ?_, rfl⟩
          · dsimp only; first | omega | (simp; done) | (simp; omega)
          all_goals (repeat' (first | exact trivial | exact rfl | refine And.intro ?_ ?_ | (refine congrArg vI ?_; first | omega | (dsimp only; omega) | fail) | (refine congrArg some ?_) | omega | exact Nat.le_refl _ | exact congrArg (SV.lst _) (List.take_of_length_le (Nat.le_refl _)).symm))
        · have hu2 : ¬ (toE o).2.2.2.1 = 0 := hu
          have hno : ¬ FineAt n el ol 0 := fun ⟨o', h1, _, h3, _⟩ => by rw [ho] at h1; cases h1; exact hu (h3 rfl)
          conv => whnf
          repeat' (first | (refine tell (fun hQ => ?_) (fun hQ => ?_) <;> (try dsimp only at hQ) <;> first | (exfalso; omega) | (exact absurd rfl hQ) | (exact absurd (by decide) hQ) | (conv => whnf)) | (refine allG rfl ?_; conv => whnf) | (refine And.intro (by first | omega | assumption | kernel_rfl | exact And.intro rfl rfl | ((try dsimp only [inR, idx, lowOf]); first | omega | (with_reducible decide) | (simp; omega) | (simp; done) | fail) | fail) ?_; conv => whnf) | fail)
          exact ⟨(0 : Int), [], bad hno, rfl, trivial, trivial⟩
    · have hobt : ∃ y, ol[i - 1]? = some y := ⟨_, List.getElem?_eq_getElem (by omega)⟩
      obtain ⟨p, hp⟩ := hobt
      have hrp := hall p (List.mem_of_getElem? hp)
      have hpm0 : 0 ≤ ((i : Nat) : Int) - 1 := by omega
      have hpm : (ol.map toE)[(((i : Nat) : Int) - 1).toNat]? = some (toE p) := by rw [show (((i : Nat) : Int) - 1).toNat = i - 1 by omega, List.getElem?_map, hp]; rfl
      cases c1
      · have hno : ¬ FineAt n el ol i := nofit fun h => (by have := hc1.2 h; cases this)
        conv => whnf
        repeat' (first | (refine tell (fun hQ => ?_) (fun hQ => ?_) <;> (try dsimp only at hQ) <;> first | (exfalso; omega) | (exact absurd rfl hQ) | (exact absurd (by decide) hQ) | (conv => whnf)) | (refine allLst (x := _) hpm0 hpm ?_; conv => whnf) | (refine allG rfl ?_; conv => whnf) | (refine And.intro (by first | omega | assumption | kernel_rfl | exact And.intro rfl rfl | ((try dsimp only [inR, idx, lowOf]); first | omega | (with_reducible decide) | (simp; omega) | (simp; done) | fail) | fail) ?_; conv => whnf) | fail)
        refine ⟨_, m_fits, ((n, el), o), [], false, ?_⟩
        conv => whnf
        refine And.intro (vc0 ⟨hR, hr⟩ (by (repeat' (first | exact trivial | exact rfl | refine And.intro ?_ ?_ | (refine congrArg vI ?_; first | omega | (dsimp only; omega) | fail) | (refine congrArg some ?_) | omega | exact Nat.le_refl _ | exact congrArg (SV.lst _) (List.take_of_length_le (Nat.le_refl _)).symm))) (by repeat' (first | exact trivial | exact rfl | refine And.intro ?_ ?_ | (refine congrArg vI ?_; first | omega | (dsimp only; omega) | fail) | (refine congrArg some ?_) | omega | exact Nat.le_refl _ | exact congrArg (SV.lst _) (List.take_of_length_le (Nat.le_refl _)).symm)) trivial trivial) ?_
        refine And.intro (prop_ex _) ?_
        intro (c2 : Bool) (hc2 : c2 = true ↔ FitsP n el o)
        cases c2
        · conv => whnf
          repeat' (first | (refine tell (fun hQ => ?_) (fun hQ => ?_) <;> (try dsimp only at hQ) <;> first | (exfalso; omega) | (exact absurd rfl hQ) | (exact absurd (by decide) hQ) | (conv => whnf)) | (refine allG rfl ?_; conv => whnf) | (refine And.intro (by first | omega | assumption | kernel_rfl | exact And.intro rfl rfl | ((try dsimp only [inR, idx, lowOf]); first | omega | (with_reducible decide) | (simp; omega) | (simp; done) | fail) | fail) ?_; conv => whnf) | fail)
          exact ⟨(i : Int), [], bad hno, rfl, trivial, trivial⟩
        · exact absurd (hc1.2 (hc2.1 rfl)) (by simp)
      · by_cases hu : o.2.2.2.1 = 0
        · have hu2 : (toE o).2.2.2.1 = 0 := hu
          conv => whnf
          repeat' (first | (refine tell (fun hQ => ?_) (fun hQ => ?_) <;> (try dsimp only at hQ) <;> first | (exfalso; omega) | (exact absurd rfl hQ) | (exact absurd (by decide) hQ) | (conv => whnf)) | (refine allLst (x := _) hpm0 hpm ?_; conv => whnf) | (refine allG rfl ?_; conv => whnf) | (refine And.intro (by first | omega | assumption | kernel_rfl | exact And.intro rfl rfl | ((try dsimp only [inR, idx, lowOf]); first | omega | (with_reducible decide) | (simp; omega) | (simp; done) | fail) | fail) ?_; conv => whnf) | fail)
          refine ⟨_, m_fits, ((n, el), o), [], false, ?_⟩
          conv => whnf
          refine And.intro (vc0 ⟨hR, hr⟩ (by (repeat' (first | exact trivial | exact rfl | refine And.intro ?_ ?_ | (refine congrArg vI ?_; first | omega | (dsimp only; omega) | fail) | (refine congrArg some ?_) | omega | exact Nat.le_refl _ | exact congrArg (SV.lst _) (List.take_of_length_le (Nat.le_refl _)).symm))) (by repeat' (first | exact trivial | exact rfl | refine And.intro ?_ ?_ | (refine congrArg vI ?_; first | omega | (dsimp only; omega) | fail) | (refine congrArg some ?_) | omega | exact Nat.le_refl _ | exact congrArg (SV.lst _) (List.take_of_length_le (Nat.le_refl _)).symm)) trivial trivial) ?_
          refine And.intro (prop_ex _) ?_
          intro (c2 : Bool) (hc2 : c2 = true ↔ FitsP n el o)
          have hobt := hc2.2 (hc1.1 rfl)
          obtain rfl := hobt
          conv => whnf
          repeat' (first | (refine tell (fun hQ => ?_) (fun hQ => ?_) <;> (try dsimp only at hQ) <;> first | (exfalso; omega) | (exact absurd rfl hQ) | (exact absurd (by decide) hQ) | (conv => whnf)) | (refine allG rfl ?_; conv => whnf) | (refine And.intro (by first | omega | assumption | kernel_rfl | exact And.intro rfl rfl | ((try dsimp only [inR, idx, lowOf]); first | omega | (with_reducible decide) | (simp; omega) | (simp; done) | fail) | fail) ?_; conv => whnf) | fail)
          refine ⟨_, m_follows, (p, o), [], false, ?_⟩
          conv => whnf
          refine And.intro (vc0 ⟨hrp, hr⟩ (by (repeat' (first | exact trivial | exact rfl | refine And.intro ?_ ?_ | (refine congrArg vI ?_; first | omega | (dsimp only; omega) | fail) | (refine congrArg some ?_) | omega | exact Nat.le_refl _ | exact congrArg (SV.lst _) (List.take_of_length_le (Nat.le_refl _)).symm))) (by repeat' (first | exact trivial | exact rfl | refine And.intro ?_ ?_ | (refine congrArg vI ?_; first | omega | (dsimp only; omega) | fail) | (refine congrArg some ?_) | omega | exact Nat.le_refl _ | exact congrArg (SV.lst _) (List.take_of_length_le (Nat.le_refl _)).symm)) trivial trivial) ?_
          refine And.intro (prop_ex _) ?_
          intro (c3 : Bool) (hc3 : c3 = true ↔ FollowsP p o)
          cases c3
          · have hno : ¬ FineAt n el ol i := fun ⟨o', h1, _, _, h4⟩ => by
              rw [ho] at h1; cases h1
              have := hc3.2 (h4 p (by omega) hp).1
              cases this
            conv => whnf
            repeat' (first | (refine tell (fun hQ => ?_) (fun hQ => ?_) <;> (try dsimp only at hQ) <;> first | (exfalso; omega) | (exact absurd rfl hQ) | (exact absurd (by decide) hQ) | (conv => whnf)) | (refine allG rfl ?_; conv => whnf) | (refine And.intro (by first | omega | assumption | kernel_rfl | exact And.intro rfl rfl | ((try dsimp only [inR, idx, lowOf]); first | omega | (with_reducible decide) | (simp; omega) | (simp; done) | fail) | fail) ?_; conv => whnf) | fail)
            exact ⟨(i : Int), [], bad hno, rfl, trivial, trivial⟩
          · by_cases hod : o.2.2.1 = p.2.2.1
            · have hod2 : (toE o).2.2.1 = (toE p).2.2.1 := hod
              have hyes : FineAt n el ol i := ⟨o, ho, hc1.1 rfl, fun e => absurd e hi0, fun q _ hq => by rw [hp] at hq; cases hq; exact ⟨hc3.1 rfl, .inl hod⟩⟩
              conv => whnf
              repeat' (first | (refine tell (fun hQ => ?_) (fun hQ => ?_) <;> (try dsimp only at hQ) <;> first | (exfalso; omega) | (exact absurd rfl hQ) | (exact absurd (by decide) hQ) | (conv => whnf)) | (refine allG rfl ?_; conv => whnf) | (refine And.intro (by first | omega | assumption | kernel_rfl | exact And.intro rfl rfl | ((try dsimp only [inR, idx, lowOf]); first | omega | (with_reducible decide) | (simp; omega) | (simp; done) | fail) | fail) ?_; conv => whnf) | fail)
              refine ⟨i + 1, [], ⟨hlt, fine hyes⟩, ?_, rfl, ?_, ?_, rfl⟩
              · dsimp only; first | omega | (simp; done) | (simp; omega)
              all_goals (repeat' (first | exact trivial | exact rfl | refine And.intro ?_ ?_ | (refine congrArg vI ?_; first | omega | (dsimp only; omega) | fail) | (refine congrArg some ?_) | omega | exact Nat.le_refl _ | exact congrArg (SV.lst _) (List.take_of_length_le (Nat.le_refl _)).symm))
            · have hod2 : ¬ (toE o).2.2.1 = (toE p).2.2.1 := hod
              conv => whnf
              repeat' (first | (refine tell (fun hQ => ?_) (fun hQ => ?_) <;> (try dsimp only at hQ) <;> first | (exfalso; omega) | (exact absurd rfl hQ) | (exact absurd (by decide) hQ) | (conv => whnf)) | (refine allG rfl ?_; conv => whnf) | (refine And.intro (by first | omega | assumption | kernel_rfl | exact And.intro rfl rfl | ((try dsimp only [inR, idx, lowOf]); first | omega | (with_reducible decide) | (simp; omega) | (simp; done) | fail) | fail) ?_; conv => whnf) | fail)
              refine ⟨_, m_from, (ol.take i, o), [], false, ?_⟩
              conv => whnf
              refine And.intro (vc0 ⟨fun x hx => hall x (List.mem_of_mem_take hx), hr, by show 1 ≤ (ol.take i).length; rw [List.length_take]; omega, by show (ol.take i).length ≤ 1000; rw [List.length_take]; omega⟩ (by (repeat' (first | exact trivial | exact rfl | refine And.intro ?_ ?_ | (refine congrArg vI ?_; first | omega | (dsimp only; omega) | fail) | (refine congrArg some ?_) | omega | exact Nat.le_refl _ | exact congrArg (SV.lst _) (List.take_of_length_le (Nat.le_refl _)).symm)); all_goals (exact congrArg (SV.lst (A := AF) 34) List.map_take.symm)) (by repeat' (first | exact trivial | exact rfl | refine And.intro ?_ ?_ | (refine congrArg vI ?_; first | omega | (dsimp only; omega) | fail) | (refine congrArg some ?_) | omega | exact Nat.le_refl _ | exact congrArg (SV.lst _) (List.take_of_length_le (Nat.le_refl _)).symm)) trivial trivial) ?_
              refine And.intro (prop_ex _) ?_
              intro (c4 : Bool) (hc4 : c4 = true ↔ FromP (ol.take i) (n0O o))
              cases c4
              · have hno : ¬ FineAt n el ol i := fun ⟨o', h1, _, _, h4⟩ => by
                  rw [ho] at h1; cases h1
                  rcases (h4 p (by omega) hp).2 with h | h
                  · exact hod h
                  · have := hc4.2 h
                    cases this
                conv => whnf
                repeat' (first | (refine tell (fun hQ => ?_) (fun hQ => ?_) <;> (try dsimp only at hQ) <;> first | (exfalso; omega) | (exact absurd rfl hQ) | (exact absurd (by decide) hQ) | (conv => whnf)) | (refine allG rfl ?_; conv => whnf) | (refine And.intro (by first | omega | assumption | kernel_rfl | exact And.intro rfl rfl | ((try dsimp only [inR, idx, lowOf]); first | omega | (with_reducible decide) | (simp; omega) | (simp; done) | fail) | fail) ?_; conv => whnf) | fail)
                exact ⟨(i : Int), [], bad hno, rfl, trivial, trivial⟩
              · have hyes : FineAt n el ol i := ⟨o, ho, hc1.1 rfl, fun e => absurd e hi0, fun q _ hq => by rw [hp] at hq; cases hq; exact ⟨hc3.1 rfl, .inr (hc4.1 rfl)⟩⟩
                conv => whnf
                repeat' (first | (refine tell (fun hQ => ?_) (fun hQ => ?_) <;> (try dsimp only at hQ) <;> first | (exfalso; omega) | (exact absurd rfl hQ) | (exact absurd (by decide) hQ) | (conv => whnf)) | (refine allG rfl ?_; conv => whnf) | (refine And.intro (by first | omega | assumption | kernel_rfl | exact And.intro rfl rfl | ((try dsimp only [inR, idx, lowOf]); first | omega | (with_reducible decide) | (simp; omega) | (simp; done) | fail) | fail) ?_; conv => whnf) | fail)
                refine ⟨i + 1, [], ⟨hlt, fine hyes⟩, ?_, rfl, ?_, ?_, rfl⟩
                · dsimp only; first | omega | (simp; done) | (simp; omega)
                all_goals (repeat' (first | exact trivial | exact rfl | refine And.intro ?_ ?_ | (refine congrArg vI ?_; first | omega | (dsimp only; omega) | fail) | (refine congrArg some ?_) | omega | exact Nat.le_refl _ | exact congrArg (SV.lst _) (List.take_of_length_le (Nat.le_refl _)).symm))
        · have hu2 : ¬ (toE o).2.2.2.1 = 0 := hu
          conv => whnf
          repeat' (first | (refine tell (fun hQ => ?_) (fun hQ => ?_) <;> (try dsimp only at hQ) <;> first | (exfalso; omega) | (exact absurd rfl hQ) | (exact absurd (by decide) hQ) | (conv => whnf)) | (refine allLst (x := _) hpm0 hpm ?_; conv => whnf) | (refine allG rfl ?_; conv => whnf) | (refine And.intro (by first | omega | assumption | kernel_rfl | exact And.intro rfl rfl | ((try dsimp only [inR, idx, lowOf]); first | omega | (with_reducible decide) | (simp; omega) | (simp; done) | fail) | fail) ?_; conv => whnf) | fail)
          refine ⟨_, m_fits, ((n, el), o), [], false, ?_⟩
          conv => whnf
          refine And.intro (vc0 ⟨hR, hr⟩ (by (repeat' (first | exact trivial | exact rfl | refine And.intro ?_ ?_ | (refine congrArg vI ?_; first | omega | (dsimp only; omega) | fail) | (refine congrArg some ?_) | omega | exact Nat.le_refl _ | exact congrArg (SV.lst _) (List.take_of_length_le (Nat.le_refl _)).symm))) (by repeat' (first | exact trivial | exact rfl | refine And.intro ?_ ?_ | (refine congrArg vI ?_; first | omega | (dsimp only; omega) | fail) | (refine congrArg some ?_) | omega | exact Nat.le_refl _ | exact congrArg (SV.lst _) (List.take_of_length_le (Nat.le_refl _)).symm)) trivial trivial) ?_
          refine And.intro (prop_ex _) ?_
          intro (c2 : Bool) (hc2 : c2 = true ↔ FitsP n el o)
          have hobt := hc2.2 (hc1.1 rfl)
          obtain rfl := hobt
          conv => whnf
          repeat' (first | (refine tell (fun hQ => ?_) (fun hQ => ?_) <;> (try dsimp only at hQ) <;> first | (exfalso; omega) | (exact absurd rfl hQ) | (exact absurd (by decide) hQ) | (conv => whnf)) | (refine allG rfl ?_; conv => whnf) | (refine And.intro (by first | omega | assumption | kernel_rfl | exact And.intro rfl rfl | ((try dsimp only [inR, idx, lowOf]); first | omega | (with_reducible decide) | (simp; omega) | (simp; done) | fail) | fail) ?_; conv => whnf) | fail)
          refine ⟨_, m_follows, (p, o), [], false, ?_⟩
          conv => whnf
          refine And.intro (vc0 ⟨hrp, hr⟩ (by (repeat' (first | exact trivial | exact rfl | refine And.intro ?_ ?_ | (refine congrArg vI ?_; first | omega | (dsimp only; omega) | fail) | (refine congrArg some ?_) | omega | exact Nat.le_refl _ | exact congrArg (SV.lst _) (List.take_of_length_le (Nat.le_refl _)).symm))) (by repeat' (first | exact trivial | exact rfl | refine And.intro ?_ ?_ | (refine congrArg vI ?_; first | omega | (dsimp only; omega) | fail) | (refine congrArg some ?_) | omega | exact Nat.le_refl _ | exact congrArg (SV.lst _) (List.take_of_length_le (Nat.le_refl _)).symm)) trivial trivial) ?_
          refine And.intro (prop_ex _) ?_
          intro (c3 : Bool) (hc3 : c3 = true ↔ FollowsP p o)
          cases c3
          · have hno : ¬ FineAt n el ol i := fun ⟨o', h1, _, _, h4⟩ => by
              rw [ho] at h1; cases h1
              have := hc3.2 (h4 p (by omega) hp).1
              cases this
            conv => whnf
            repeat' (first | (refine tell (fun hQ => ?_) (fun hQ => ?_) <;> (try dsimp only at hQ) <;> first | (exfalso; omega) | (exact absurd rfl hQ) | (exact absurd (by decide) hQ) | (conv => whnf)) | (refine allG rfl ?_; conv => whnf) | (refine And.intro (by first | omega | assumption | kernel_rfl | exact And.intro rfl rfl | ((try dsimp only [inR, idx, lowOf]); first | omega | (with_reducible decide) | (simp; omega) | (simp; done) | fail) | fail) ?_; conv => whnf) | fail)
            exact ⟨(i : Int), [], bad hno, rfl, trivial, trivial⟩
          · by_cases hod : o.2.2.1 = p.2.2.1
            · have hod2 : (toE o).2.2.1 = (toE p).2.2.1 := hod
              have hyes : FineAt n el ol i := ⟨o, ho, hc1.1 rfl, fun e => absurd e hi0, fun q _ hq => by rw [hp] at hq; cases hq; exact ⟨hc3.1 rfl, .inl hod⟩⟩
              conv => whnf
              repeat' (first | (refine tell (fun hQ => ?_) (fun hQ => ?_) <;> (try dsimp only at hQ) <;> first | (exfalso; omega) | (exact absurd rfl hQ) | (exact absurd (by decide) hQ) | (conv => whnf)) | (refine allG rfl ?_; conv => whnf) | (refine And.intro (by first | omega | assumption | kernel_rfl | exact And.intro rfl rfl | ((try dsimp only [inR, idx, lowOf]); first | omega | (with_reducible decide) | (simp; omega) | (simp; done) | fail) | fail) ?_; conv => whnf) | fail)
              refine ⟨i + 1, [], ⟨hlt, fine hyes⟩, ?_, rfl, ?_, ?_, rfl⟩
              · dsimp only; first | omega | (simp; done) | (simp; omega)
              all_goals (repeat' (first | exact trivial | exact rfl | refine And.intro ?_ ?_ | (refine congrArg vI ?_; first | omega | (dsimp only; omega) | fail) | (refine congrArg some ?_) | omega | exact Nat.le_refl _ | exact congrArg (SV.lst _) (List.take_of_length_le (Nat.le_refl _)).symm))
            · have hod2 : ¬ (toE o).2.2.1 = (toE p).2.2.1 := hod
              conv => whnf
              repeat' (first | (refine tell (fun hQ => ?_) (fun hQ => ?_) <;> (try dsimp only at hQ) <;> first | (exfalso; omega) | (exact absurd rfl hQ) | (exact absurd (by decide) hQ) | (conv => whnf)) | (refine allG rfl ?_; conv => whnf) | (refine And.intro (by first | omega | assumption | kernel_rfl | exact And.intro rfl rfl | ((try dsimp only [inR, idx, lowOf]); first | omega | (with_reducible decide) | (simp; omega) | (simp; done) | fail) | fail) ?_; conv => whnf) | fail)
              refine ⟨_, m_from, (ol.take i, o), [], false, ?_⟩
              conv => whnf
              refine And.intro (vc0 ⟨fun x hx => hall x (List.mem_of_mem_take hx), hr, by show 1 ≤ (ol.take i).length; rw [List.length_take]; omega, by show (ol.take i).length ≤ 1000; rw [List.length_take]; omega⟩ (by (repeat' (first | exact trivial | exact rfl | refine And.intro ?_ ?_ | (refine congrArg vI ?_; first | omega | (dsimp only; omega) | fail) | (refine congrArg some ?_) | omega | exact Nat.le_refl _ | exact congrArg (SV.lst _) (List.take_of_length_le (Nat.le_refl _)).symm)); all_goals (exact congrArg (SV.lst (A := AF) 34) List.map_take.symm)) (by repeat' (first | exact trivial | exact rfl | refine And.intro ?_ ?_ | (refine congrArg vI ?_; first | omega | (dsimp only; omega) | fail) | (refine congrArg some ?_) | omega | exact Nat.le_refl _ | exact congrArg (SV.lst _) (List.take_of_length_le (Nat.le_refl _)).symm)) trivial trivial) ?_
              refine And.intro (prop_ex _) ?_
              intro (c4 : Bool) (hc4 : c4 = true ↔ FromP (ol.take i) (n0O o))
              cases c4
              · have hno : ¬ FineAt n el ol i := fun ⟨o', h1, _, _, h4⟩ => by
                  rw [ho] at h1; cases h1
                  rcases (h4 p (by omega) hp).2 with h | h
                  · exact hod h
                  · have := hc4.2 h
                    cases this
                conv => whnf
                repeat' (first | (refine tell (fun hQ => ?_) (fun hQ => ?_) <;> (try dsimp only at hQ) <;> first | (exfalso; omega) | (exact absurd rfl hQ) | (exact absurd (by decide) hQ) | (conv => whnf)) | (refine allG rfl ?_; conv => whnf) | (refine And.intro (by first | omega | assumption | kernel_rfl | exact And.intro rfl rfl | ((try dsimp only [inR, idx, lowOf]); first | omega | (with_reducible decide) | (simp; omega) | (simp; done) | fail) | fail) ?_; conv => whnf) | fail)
                exact ⟨(i : Int), [], bad hno, rfl, trivial, trivial⟩
              · have hyes : FineAt n el ol i := ⟨o, ho, hc1.1 rfl, fun e => absurd e hi0, fun q _ hq => by rw [hp] at hq; cases hq; exact ⟨hc3.1 rfl, .inr (hc4.1 rfl)⟩⟩
                conv => whnf
                repeat' (first | (refine tell (fun hQ => ?_) (fun hQ => ?_) <;> (try dsimp only at hQ) <;> first | (exfalso; omega) | (exact absurd rfl hQ) | (exact absurd (by decide) hQ) | (conv => whnf)) | (refine allG rfl ?_; conv => whnf) | (refine And.intro (by first | omega | assumption | kernel_rfl | exact And.intro rfl rfl | ((try dsimp only [inR, idx, lowOf]); first | omega | (with_reducible decide) | (simp; omega) | (simp; done) | fail) | fail) ?_; conv => whnf) | fail)
                refine ⟨i + 1, [], ⟨hlt, fine hyes⟩, ?_, rfl, ?_, ?_, rfl⟩
                · dsimp only; first | omega | (simp; done) | (simp; omega)
                all_goals (repeat' (first | exact trivial | exact rfl | refine And.intro ?_ ?_ | (refine congrArg vI ?_; first | omega | (dsimp only; omega) | fail) | (refine congrArg some ?_) | omega | exact Nat.le_refl _ | exact congrArg (SV.lst _) (List.take_of_length_le (Nat.le_refl _)).symm))
  · have hie : i = ol.length := by omega
    subst hie
    conv => whnf
    repeat' (first | (refine tell (fun hQ => ?_) (fun hQ => ?_) <;> (try dsimp only at hQ) <;> first | (exfalso; omega) | (exact absurd rfl hQ) | (exact absurd (by decide) hQ) | (conv => whnf)) | (refine allG rfl ?_; conv => whnf) | (refine And.intro (by first | omega | assumption | kernel_rfl | exact And.intro rfl rfl | ((try dsimp only [inR, idx, lowOf]); first | omega | (with_reducible decide) | (simp; omega) | (simp; done) | fail) | fail) ?_; conv => whnf) | fail)
    exact ⟨(-1 : Int), [], .inl ⟨rfl, hf⟩, rfl, trivial, trivial⟩
end Go.Sx

