/-
  Layer 14, part C: the table's functions.
-/
import Derived.Test.YtmogappoadglgaaTabB
import Derived.Test.YtmogappoadglgaaLayC
namespace Go.Sx
open Go Go.Proofs Go.Proofs.Ytmogappoadglgaa
abbrev TM := List (Int × Int)
abbrev tabC : Ct AF := .cells [.mp 1]
def lookT (es : TM) (x : Int) : Option Int := look regF 3 3 es x
def insT (es : TM) (x w : Int) : TM := ins regF 3 3 es x w
def delT (es : TM) (x : Int) : TM := del regF 3 3 es x
def InL (l : List Int) : Prop := l.length ≤ 9223372036854775807 ∧ ∀ x ∈ l, InI x
theorem m_pick14 : Meets Try.prog regF 68 spPick := by
  refine meets Try.func68 13 noWr rfl (by kernel_rfl) (by kernel_rfl) ?_
  rintro ⟨(c : Int), (n : Int)⟩ ⟨⟨hc1, hc2⟩, (hn : 0 < n)⟩
  conv => whnf
  repeat' (first | (refine tell (fun htest => ?_) (fun htest => ?_) <;> (try dsimp only at htest) <;> first | (exfalso; omega) | (exact absurd rfl htest) | (exact absurd (by decide) htest) | (conv => whnf)) | (refine allG rfl ?_; conv => whnf) | (refine And.intro (by first | omega | assumption | kernel_rfl | exact And.intro rfl rfl | ((try dsimp only [inR, idx, lowOf]); first | omega | (with_reducible decide) | (simp; omega) | fail) | fail) ?_; conv => whnf) | fail)
  all_goals exact ⟨(), [], trivial, eI (by unfold pickF; first | rw [if_pos (by assumption)] | rw [if_neg (by assumption)]), trivial, trivial⟩
def spTNew : Spec AF where
  γ := Unit
  δ := Unit
  args := fun _ => []
  own := fun _ => []
  pre := fun _ => True
  nnew := 2
  res := fun _ _ => .ptr 0 0 1 0
  own' := fun _ _ => [some tabC, some (.map 3 3 [])]
  post := fun _ _ => True
theorem m_tnew : Meets Try.prog regF 64 spTNew := by
  refine meets Try.func64 4 noWr rfl (by kernel_rfl) (by kernel_rfl) ?_
  intro (g : Unit) hg
  conv => whnf
  repeat' (first | (refine tell (fun htest => ?_) (fun htest => ?_) <;> (try dsimp only at htest) <;> first | (exfalso; omega) | (exact absurd rfl htest) | (exact absurd (by decide) htest) | (conv => whnf)) | (refine allG rfl ?_; conv => whnf) | (refine And.intro (by first | omega | assumption | kernel_rfl | exact And.intro rfl rfl | ((try dsimp only [inR, idx, lowOf]); first | omega | (with_reducible decide) | (simp; omega) | fail) | fail) ?_; conv => whnf) | fail)
  exact ⟨(), [1003, 1001], trivial, rfl, ⟨⟨rfl, trivial⟩, rfl, trivial⟩, trivial⟩
def spOwner : Spec AF where
  γ := TM × Int
  δ := Unit
  args := fun g => [.ptr 0 0 1 0, vI g.2]
  own := fun g => [tabC, .map 3 3 g.1]
  pre := fun g => InI g.2
  nnew := 0
  res := fun g _ => .tup [vI ((lookT g.1 g.2).getD 0), vB (lookT g.1 g.2).isSome]
  own' := fun g _ => [some tabC, some (.map 3 3 g.1)]
  post := fun _ _ => True
theorem m_owner : Meets Try.prog regF 74 spOwner := by
  refine meets Try.func74 19 noWr rfl (by kernel_rfl) (by kernel_rfl) ?_
  rintro ⟨(es : TM), (x : Int)⟩ (hx : InI x)
  conv => whnf
  repeat' (first | (refine tell (fun htest => ?_) (fun htest => ?_) <;> (try dsimp only at htest) <;> first | (exfalso; omega) | (exact absurd rfl htest) | (exact absurd (by decide) htest) | (conv => whnf)) | (refine allG rfl ?_; conv => whnf) | (refine And.intro (by first | omega | assumption | kernel_rfl | exact And.intro rfl rfl | ((try dsimp only [inR, idx, lowOf]); first | omega | (with_reducible decide) | (simp; omega) | fail) | fail) ?_; conv => whnf) | fail)
  refine allEqB ?_
  intro (o : Option Int) (ho : o = lookT es x)
  cases o with
  | none =>
    conv => whnf
    repeat' (first | (refine tell (fun htest => ?_) (fun htest => ?_) <;> (try dsimp only at htest) <;> first | (exfalso; omega) | (exact absurd rfl htest) | (exact absurd (by decide) htest) | (conv => whnf)) | (refine allG rfl ?_; conv => whnf) | (refine And.intro (by first | omega | assumption | kernel_rfl | exact And.intro rfl rfl | ((try dsimp only [inR, idx, lowOf]); first | omega | (with_reducible decide) | (simp; omega) | fail) | fail) ?_; conv => whnf) | fail)
    exact ⟨(), [], trivial, ⟨congrArg vI (show (0 : Int) = (lookT es x).getD 0 by rw [← ho]; rfl), congrArg vB (show false = (lookT es x).isSome by rw [← ho]; rfl), trivial⟩, ⟨⟨rfl, trivial⟩, rfl, trivial⟩, trivial⟩
  | some w =>
    conv => whnf
    repeat' (first | (refine tell (fun htest => ?_) (fun htest => ?_) <;> (try dsimp only at htest) <;> first | (exfalso; omega) | (exact absurd rfl htest) | (exact absurd (by decide) htest) | (conv => whnf)) | (refine allG rfl ?_; conv => whnf) | (refine And.intro (by first | omega | assumption | kernel_rfl | exact And.intro rfl rfl | ((try dsimp only [inR, idx, lowOf]); first | omega | (with_reducible decide) | (simp; omega) | fail) | fail) ?_; conv => whnf) | fail)
    exact ⟨(), [], trivial, ⟨congrArg vI (show w = (lookT es x).getD 0 by rw [← ho]; rfl), congrArg vB (show true = (lookT es x).isSome by rw [← ho]; rfl), trivial⟩, ⟨⟨rfl, trivial⟩, rfl, trivial⟩, trivial⟩
def ClaimOk (es : TM) (who : Int) (l : List Int) : Prop := ∀ x ∈ l, ∀ w, lookT es x = some w → w = who
def claimL (who : Int) (es : TM) (l : List Int) : TM := l.foldl (fun es x => insT es x who) es
def spClaim : Spec AF where
  γ := TM × Int × List Int
  δ := Bool
  args := fun g => [.ptr 0 0 1 0, vI g.2.1, .lst 3 g.2.2]
  own := fun g => [tabC, .map 3 3 g.1]
  pre := fun g => InL g.2.2
  nnew := 0
  res := fun _ c => vB c
  own' := fun g c => [some tabC, some (.map 3 3 (if c then claimL g.2.1 g.1 g.2.2 else g.1))]
  post := fun g c => c = true ↔ ClaimOk g.1 g.2.1 g.2.2
theorem m_claim : Meets Try.prog regF 66 spClaim := by
  refine meets Try.func66 48 noWr rfl (by kernel_rfl) (by kernel_rfl) ?_
  rintro ⟨(es : TM), (who : Int), (l : List Int)⟩ ⟨(hl : l.length ≤ 9223372036854775807), (hI : ∀ x ∈ l, InI x)⟩
  have fin : ∀ {c : Bool}, (c = true ↔ ClaimOk es who l) → spClaim.post (es, who, l) c := fun h => h
  conv => whnf
  repeat' (first | (refine tell (fun htest => ?_) (fun htest => ?_) <;> (try dsimp only at htest) <;> first | (exfalso; omega) | (exact absurd rfl htest) | (exact absurd (by decide) htest) | (conv => whnf)) | (refine allG rfl ?_; conv => whnf) | (refine And.intro (by first | omega | assumption | kernel_rfl | exact And.intro rfl rfl | ((try dsimp only [inR, idx, lowOf]); first | omega | (with_reducible decide) | (simp; omega) | fail) | fail) ?_; conv => whnf) | fail)
  refine ⟨Nat, fun i => ⟨[(0, .ptr 0 0 1 0), (1, vI who), (2, .lst 3 l), (13, .lst 3 l), (14, vI l.length), (15, vI i)], [(0, tabC), (1, .map 3 3 es)]⟩, fun i => i ≤ l.length ∧ ClaimOk es who (l.take i), fun i => l.length - i, fun _ _ => rfl, ⟨0, [], ⟨Nat.zero_le _, fun _ h => by simp at h⟩, ?_⟩, ?_⟩
  · refine ⟨rfl, ?_, ?_, rfl⟩
    all_goals (repeat' (first | exact trivial | exact rfl | refine And.intro ?_ ?_ | (refine congrArg vI ?_; first | omega | (dsimp only; omega) | fail) | (refine congrArg some ?_) | omega | exact Nat.le_refl _ | exact congrArg (SV.lst _) (List.take_of_length_le (Nat.le_refl _)).symm))
  rintro (i : Nat) ⟨(hi : i ≤ l.length), (hs : ClaimOk es who (l.take i))⟩
  by_cases hlt : i < l.length
  · obtain ⟨x, hx⟩ : ∃ x, l[i]? = some x := ⟨_, List.getElem?_eq_getElem hlt⟩
    have hm := List.mem_of_getElem? hx
    conv => whnf
    repeat' (first | (refine tell (fun htest => ?_) (fun htest => ?_) <;> (try dsimp only at htest) <;> first | (exfalso; omega) | (exact absurd rfl htest) | (exact absurd (by decide) htest) | (conv => whnf)) | (refine allG (x := x) (by first | exact hx | simpa [List.getElem?_append_right, lowOf] using hx | fail) ?_; conv => whnf) | (refine allLst (x := x) (by first | omega | assumption | fail) (by first | exact hx | simpa using hx | fail) ?_; conv => whnf) | (refine allG rfl ?_; conv => whnf) | (refine And.intro (by first | omega | assumption | kernel_rfl | exact And.intro rfl rfl | ((try dsimp only [inR, idx, lowOf]); first | omega | (with_reducible decide) | (simp; omega) | fail) | fail) ?_; conv => whnf) | fail)
    refine And.intro (hI x hm) ?_
    conv => whnf
    refine allEqB ?_
    intro (o : Option Int) (ho : o = lookT es x)
    have skip : (∀ w, lookT es x = some w → w = who) → ClaimOk es who (l.take (i + 1)) := fun h y hy => by
      rw [take_snocI hx] at hy
      rcases List.mem_append.1 hy with hy | hy
      · exact hs y hy
      · simp at hy; subst hy; exact h
    cases o with
    | none =>
      have hk := skip fun w hw => by rw [← ho] at hw; cases hw
      conv => whnf
      repeat' (first | (refine tell (fun htest => ?_) (fun htest => ?_) <;> (try dsimp only at htest) <;> first | (exfalso; omega) | (exact absurd rfl htest) | (exact absurd (by decide) htest) | (conv => whnf)) | (refine allG rfl ?_; conv => whnf) | (refine And.intro (by first | omega | assumption | kernel_rfl | exact And.intro rfl rfl | ((try dsimp only [inR, idx, lowOf]); first | omega | (with_reducible decide) | (simp; omega) | fail) | fail) ?_; conv => whnf) | fail)
      refine ⟨i + 1, [], ⟨hlt, hk⟩, ?_, rfl, ?_, ?_, rfl⟩
      · dsimp only; first | omega | (simp; done) | (simp; omega)
      all_goals (repeat' (first | exact trivial | exact rfl | refine And.intro ?_ ?_ | (refine congrArg vI ?_; first | omega | (dsimp only; omega) | fail) | (refine congrArg some ?_) | omega | exact Nat.le_refl _ | exact congrArg (SV.lst _) (List.take_of_length_le (Nat.le_refl _)).symm))
    | some w =>
      by_cases hw : w = who
      · have hk := skip fun w' hw' => by rw [← ho] at hw'; cases hw'; exact hw
        conv => whnf
        repeat' (first | (refine tell (fun htest => ?_) (fun htest => ?_) <;> (try dsimp only at htest) <;> first | (exfalso; omega) | (exact absurd rfl htest) | (exact absurd (by decide) htest) | (conv => whnf)) | (refine allG rfl ?_; conv => whnf) | (refine And.intro (by first | omega | assumption | kernel_rfl | exact And.intro rfl rfl | ((try dsimp only [inR, idx, lowOf]); first | omega | (with_reducible decide) | (simp; omega) | fail) | fail) ?_; conv => whnf) | fail)
        refine ⟨i + 1, [], ⟨hlt, hk⟩, ?_, rfl, ?_, ?_, rfl⟩
        · dsimp only; first | omega | (simp; done) | (simp; omega)
        all_goals (repeat' (first | exact trivial | exact rfl | refine And.intro ?_ ?_ | (refine congrArg vI ?_; first | omega | (dsimp only; omega) | fail) | (refine congrArg some ?_) | omega | exact Nat.le_refl _ | exact congrArg (SV.lst _) (List.take_of_length_le (Nat.le_refl _)).symm))
      · have hno : ¬ ClaimOk es who l := fun h => hw (h x hm w ho.symm)
        conv => whnf
        repeat' (first | (refine tell (fun htest => ?_) (fun htest => ?_) <;> (try dsimp only at htest) <;> first | (exfalso; omega) | (exact absurd rfl htest) | (exact absurd (by decide) htest) | (conv => whnf)) | (refine allG rfl ?_; conv => whnf) | (refine And.intro (by first | omega | assumption | kernel_rfl | exact And.intro rfl rfl | ((try dsimp only [inR, idx, lowOf]); first | omega | (with_reducible decide) | (simp; omega) | fail) | fail) ?_; conv => whnf) | fail)
        exact ⟨false, [], fin (by simp [hno]), rfl, ⟨⟨rfl, trivial⟩, rfl, trivial⟩, trivial⟩
  · rw [List.take_of_length_le (by omega)] at hs
    conv => whnf
    repeat' (first | (refine tell (fun htest => ?_) (fun htest => ?_) <;> (try dsimp only at htest) <;> first | (exfalso; omega) | (exact absurd rfl htest) | (exact absurd (by decide) htest) | (conv => whnf)) | (refine allG rfl ?_; conv => whnf) | (refine And.intro (by first | omega | assumption | kernel_rfl | exact And.intro rfl rfl | ((try dsimp only [inR, idx, lowOf]); first | omega | (with_reducible decide) | (simp; omega) | fail) | fail) ?_; conv => whnf) | fail)
    refine ⟨Nat, fun i => ⟨[(0, .ptr 0 0 1 0), (1, vI who), (35, .lst 3 l), (36, vI l.length), (37, vI i)], [(0, tabC), (1, .map 3 3 (claimL who es (l.take i)))]⟩, fun i => i ≤ l.length, fun i => l.length - i, fun _ _ => rfl, ⟨0, [], Nat.zero_le _, ?_⟩, ?_⟩
    · refine ⟨rfl, ?_, ?_, rfl⟩
      all_goals (repeat' (first | exact trivial | exact rfl | refine And.intro ?_ ?_ | (refine congrArg vI ?_; first | omega | (dsimp only; omega) | fail) | (refine congrArg some ?_) | omega | exact Nat.le_refl _ | exact congrArg (SV.lst _) (List.take_of_length_le (Nat.le_refl _)).symm))
    rintro (i : Nat) (hi : i ≤ l.length)
    by_cases hlt : i < l.length
    · obtain ⟨x, hx⟩ : ∃ x, l[i]? = some x := ⟨_, List.getElem?_eq_getElem hlt⟩
      have hm := List.mem_of_getElem? hx
      have hsn : claimL who es (l.take (i + 1)) = insT (claimL who es (l.take i)) x who := by unfold claimL; rw [take_snocI hx, List.foldl_append]; rfl
      conv => whnf
      repeat' (first | (refine tell (fun htest => ?_) (fun htest => ?_) <;> (try dsimp only at htest) <;> first | (exfalso; omega) | (exact absurd rfl htest) | (exact absurd (by decide) htest) | (conv => whnf)) | (refine allG (x := x) (by first | exact hx | simpa [List.getElem?_append_right, lowOf] using hx | fail) ?_; conv => whnf) | (refine allLst (x := x) (by first | omega | assumption | fail) (by first | exact hx | simpa using hx | fail) ?_; conv => whnf) | (refine allG rfl ?_; conv => whnf) | (refine And.intro (by first | omega | assumption | kernel_rfl | exact And.intro rfl rfl | ((try dsimp only [inR, idx, lowOf]); first | omega | (with_reducible decide) | (simp; omega) | fail) | fail) ?_; conv => whnf) | fail)
      refine And.intro (hI x hm) ?_
      conv => whnf
      repeat' (first | (refine tell (fun htest => ?_) (fun htest => ?_) <;> (try dsimp only at htest) <;> first | (exfalso; omega) | (exact absurd rfl htest) | (exact absurd (by decide) htest) | (conv => whnf)) | (refine allG rfl ?_; conv => whnf) | (refine And.intro (by first | omega | assumption | kernel_rfl | exact And.intro rfl rfl | ((try dsimp only [inR, idx, lowOf]); first | omega | (with_reducible decide) | (simp; omega) | fail) | fail) ?_; conv => whnf) | fail)
      refine ⟨i + 1, [], hlt, ?_, rfl, ?_, ?_, rfl⟩
      · dsimp only; first | omega | (simp; done) | (simp; omega)
      all_goals (repeat' (first | exact trivial | exact rfl | refine And.intro ?_ ?_ | (refine congrArg vI ?_; first | omega | (dsimp only; omega) | fail) | (refine congrArg some ?_) | omega | exact Nat.le_refl _ | exact congrArg (SV.lst _) (List.take_of_length_le (Nat.le_refl _)).symm))
      exact congrArg (Ct.map (A := AF) 3 3) hsn.symm
    · have hi : i = l.length := by omega
      subst hi
      conv => whnf
      repeat' (first | (refine tell (fun htest => ?_) (fun htest => ?_) <;> (try dsimp only at htest) <;> first | (exfalso; omega) | (exact absurd rfl htest) | (exact absurd (by decide) htest) | (conv => whnf)) | (refine allG rfl ?_; conv => whnf) | (refine And.intro (by first | omega | assumption | kernel_rfl | exact And.intro rfl rfl | ((try dsimp only [inR, idx, lowOf]); first | omega | (with_reducible decide) | (simp; omega) | fail) | fail) ?_; conv => whnf) | fail)
      refine ⟨true, [], fin (by simp [hs]), rfl, ⟨⟨rfl, trivial⟩, ?_, trivial⟩, trivial⟩
      exact congrArg (Ct.map (A := AF) 3 3) (show claimL who es (l.take l.length) = claimL who es l by rw [List.take_of_length_le (Nat.le_refl _)])
/-- What is freed, and how much. -/
def freeS (who : Int) (s : TM × Nat) (x : Int) : TM × Nat := if lookT s.1 x = some who then (delT s.1 x, s.2 + 1) else s
def freeL (who : Int) (es : TM) (l : List Int) : TM × Nat := l.foldl (freeS who) (es, 0)
theorem freeL_snoc {who : Int} {es : TM} {l : List Int} {i : Nat} {x : Int} (hx : l[i]? = some x) : freeL who es (l.take (i + 1)) = freeS who (freeL who es (l.take i)) x := by
  unfold freeL; rw [take_snocI hx, List.foldl_append]; rfl
def spFree : Spec AF where
  γ := TM × Int × List Int
  δ := Unit
  args := fun g => [.ptr 0 0 1 0, vI g.2.1, .lst 3 g.2.2]
  own := fun g => [tabC, .map 3 3 g.1]
  pre := fun g => InL g.2.2
  nnew := 0
  res := fun g _ => vI (freeL g.2.1 g.1 g.2.2).2
  own' := fun g _ => [some tabC, some (.map 3 3 (freeL g.2.1 g.1 g.2.2).1)]
  post := fun _ _ => True
theorem m_free : Meets Try.prog regF 70 spFree := by
  refine meets Try.func70 40 noWr rfl (by kernel_rfl) (by kernel_rfl) ?_
  rintro ⟨(es : TM), (who : Int), (l : List Int)⟩ ⟨(hl : l.length ≤ 9223372036854775807), (hI : ∀ x ∈ l, InI x)⟩
  conv => whnf
  repeat' (first | (refine tell (fun htest => ?_) (fun htest => ?_) <;> (try dsimp only at htest) <;> first | (exfalso; omega) | (exact absurd rfl htest) | (exact absurd (by decide) htest) | (conv => whnf)) | (refine allG rfl ?_; conv => whnf) | (refine And.intro (by first | omega | assumption | kernel_rfl | exact And.intro rfl rfl | ((try dsimp only [inR, idx, lowOf]); first | omega | (with_reducible decide) | (simp; omega) | fail) | fail) ?_; conv => whnf) | fail)
  refine ⟨Nat × TM × Nat, fun p => ⟨[(0, .ptr 0 0 1 0), (1, vI who), (6, vI p.2.2), (11, .lst 3 l), (12, vI l.length), (13, vI p.1)], [(0, tabC), (1, .map 3 3 p.2.1)]⟩, fun p => p.1 ≤ l.length ∧ p.2.2 ≤ p.1 ∧ p.2 = freeL who es (l.take p.1), fun p => l.length - p.1, fun _ _ => rfl, ⟨(0, es, 0), [], ⟨Nat.zero_le _, Nat.zero_le _, rfl⟩, ?_⟩, ?_⟩
  · refine ⟨rfl, ?_, ?_, rfl⟩
    all_goals (repeat' (first | exact trivial | exact rfl | refine And.intro ?_ ?_ | (refine congrArg vI ?_; first | omega | (dsimp only; omega) | fail) | (refine congrArg some ?_) | omega | exact Nat.le_refl _ | exact congrArg (SV.lst _) (List.take_of_length_le (Nat.le_refl _)).symm))
  rintro ⟨(i : Nat), (m : TM), (n : Nat)⟩ ⟨(hi : i ≤ l.length), (hn : n ≤ i), (hs : (m, n) = freeL who es (l.take i))⟩
  by_cases hlt : i < l.length
  · obtain ⟨x, hx⟩ : ∃ x, l[i]? = some x := ⟨_, List.getElem?_eq_getElem hlt⟩
    have hxI := hI x (List.mem_of_getElem? hx)
    have hsn := freeL_snoc (who := who) (es := es) hx
    rw [← hs] at hsn
    conv => whnf
    repeat' (first | (refine tell (fun htest => ?_) (fun htest => ?_) <;> (try dsimp only at htest) <;> first | (exfalso; omega) | (exact absurd rfl htest) | (exact absurd (by decide) htest) | (conv => whnf)) | (refine allG (x := x) (by first | exact hx | simpa [List.getElem?_append_right, lowOf] using hx | fail) ?_; conv => whnf) | (refine allLst (x := x) (by first | omega | assumption | fail) (by first | exact hx | simpa using hx | fail) ?_; conv => whnf) | (refine allG rfl ?_; conv => whnf) | (refine And.intro (by first | omega | assumption | kernel_rfl | exact And.intro rfl rfl | ((try dsimp only [inR, idx, lowOf]); first | omega | (with_reducible decide) | (simp; omega) | fail) | fail) ?_; conv => whnf) | fail)
    refine allEqB ?_
    intro (o : Option Int) (ho : o = lookT m x)
    cases o with
    | none =>
      have hk : (m, n) = freeL who es (l.take (i + 1)) := by
        rw [hsn]; unfold freeS; rw [if_neg (by dsimp only; rw [← ho]; simp)]
      conv => whnf
      repeat' (first | (refine tell (fun htest => ?_) (fun htest => ?_) <;> (try dsimp only at htest) <;> first | (exfalso; omega) | (exact absurd rfl htest) | (exact absurd (by decide) htest) | (conv => whnf)) | (refine allG rfl ?_; conv => whnf) | (refine And.intro (by first | omega | assumption | kernel_rfl | exact And.intro rfl rfl | ((try dsimp only [inR, idx, lowOf]); first | omega | (with_reducible decide) | (simp; omega) | fail) | fail) ?_; conv => whnf) | fail)
      refine ⟨(i + 1, m, n), [], ⟨hlt, Nat.le_succ_of_le hn, hk⟩, ?_, rfl, ?_, ?_, rfl⟩
      · dsimp only; first | omega | (simp; done) | (simp; omega)
      all_goals (repeat' (first | exact trivial | exact rfl | refine And.intro ?_ ?_ | (refine congrArg vI ?_; first | omega | (dsimp only; omega) | fail) | (refine congrArg some ?_) | omega | exact Nat.le_refl _ | exact congrArg (SV.lst _) (List.take_of_length_le (Nat.le_refl _)).symm))
    | some w =>
      by_cases hw : w = who
      · have hk : (delT m x, n + 1) = freeL who es (l.take (i + 1)) := by
          rw [hsn]; unfold freeS; rw [if_pos (by dsimp only; rw [← ho, hw])]
        conv => whnf
        repeat' (first | (refine tell (fun htest => ?_) (fun htest => ?_) <;> (try dsimp only at htest) <;> first | (exfalso; omega) | (exact absurd rfl htest) | (exact absurd (by decide) htest) | (conv => whnf)) | (refine allG rfl ?_; conv => whnf) | (refine And.intro (by first | omega | assumption | kernel_rfl | exact And.intro rfl rfl | ((try dsimp only [inR, idx, lowOf]); first | omega | (with_reducible decide) | (simp; omega) | fail) | fail) ?_; conv => whnf) | fail)
        refine ⟨(i + 1, delT m x, n + 1), [], ⟨hlt, Nat.succ_le_succ hn, hk⟩, ?_, rfl, ?_, ?_, rfl⟩
        · dsimp only; first | omega | (simp; done) | (simp; omega)
        all_goals (repeat' (first | exact trivial | exact rfl | refine And.intro ?_ ?_ | (refine congrArg vI ?_; first | omega | (dsimp only; omega) | fail) | (refine congrArg some ?_) | omega | exact Nat.le_refl _ | exact congrArg (SV.lst _) (List.take_of_length_le (Nat.le_refl _)).symm))
      · have hk : (m, n) = freeL who es (l.take (i + 1)) := by
          rw [hsn]; unfold freeS; rw [if_neg (by dsimp only; rw [← ho]; simpa using hw)]
        conv => whnf
        repeat' (first | (refine tell (fun htest => ?_) (fun htest => ?_) <;> (try dsimp only at htest) <;> first | (exfalso; omega) | (exact absurd rfl htest) | (exact absurd (by decide) htest) | (conv => whnf)) | (refine allG rfl ?_; conv => whnf) | (refine And.intro (by first | omega | assumption | kernel_rfl | exact And.intro rfl rfl | ((try dsimp only [inR, idx, lowOf]); first | omega | (with_reducible decide) | (simp; omega) | fail) | fail) ?_; conv => whnf) | fail)
        refine ⟨(i + 1, m, n), [], ⟨hlt, Nat.le_succ_of_le hn, hk⟩, ?_, rfl, ?_, ?_, rfl⟩
        · dsimp only; first | omega | (simp; done) | (simp; omega)
        all_goals (repeat' (first | exact trivial | exact rfl | refine And.intro ?_ ?_ | (refine congrArg vI ?_; first | omega | (dsimp only; omega) | fail) | (refine congrArg some ?_) | omega | exact Nat.le_refl _ | exact congrArg (SV.lst _) (List.take_of_length_le (Nat.le_refl _)).symm))
  · rw [List.take_of_length_le (by omega)] at hs
    conv => whnf
    repeat' (first | (refine tell (fun htest => ?_) (fun htest => ?_) <;> (try dsimp only at htest) <;> first | (exfalso; omega) | (exact absurd rfl htest) | (exact absurd (by decide) htest) | (conv => whnf)) | (refine allG rfl ?_; conv => whnf) | (refine And.intro (by first | omega | assumption | kernel_rfl | exact And.intro rfl rfl | ((try dsimp only [inR, idx, lowOf]); first | omega | (with_reducible decide) | (simp; omega) | fail) | fail) ?_; conv => whnf) | fail)
    exact ⟨(), [], trivial, eI (by rw [← hs]), ⟨⟨rfl, trivial⟩, congrArg (Ct.map (A := AF) 3 3) (show m = (freeL who es l).1 by rw [← hs]), trivial⟩, trivial⟩
/-- Somebody's elements. -/
def ofL (es : TM) (who : Int) : List Int := (sortK es).filter fun x => decide (lookT es x = some who)
theorem sortK_mem {es : TM} {x : Int} : x ∈ sortK es ↔ ∃ p ∈ es, p.1 = x := by
  unfold sortK
  rw [List.mem_mergeSort, List.mem_map]
theorem lookT_some {es : TM} {x : Int} (h : ∃ p ∈ es, p.1 = x) : ∃ w, lookT es x = some w := by
  obtain ⟨p, hp, rfl⟩ := h
  unfold lookT look
  have : (es.find? fun q => regF.beq 3 q.1 p.1).isSome = true := List.find?_isSome.2 ⟨p, hp, (regF.same 3 _ _).2 rfl⟩
  obtain ⟨q, hq⟩ := Option.isSome_iff_exists.1 this
  rw [hq]
  exact ⟨q.2, rfl⟩
theorem filter_snoc {α : Type} {p : α → Bool} {l : List α} {i : Nat} {x : α} (hx : l[i]? = some x) : (l.take (i + 1)).filter p = (l.take i).filter p ++ if p x = true then [x] else [] := by
  rw [take_snocI hx, List.filter_append]
  simp only [List.filter_cons, List.filter_nil]
def ofP (es : TM) (who : Int) (i : Nat) : List Int := ((sortK es).take i).filter fun x => decide (lookT es x = some who)
def spOf : Spec AF where
  γ := TM × Int
  δ := Unit
  args := fun g => [.ptr 0 0 1 0, vI g.2]
  own := fun g => [tabC, .map 3 3 g.1]
  pre := fun g => g.1.length ≤ 17592186044416 ∧ ∀ p ∈ g.1, InI p.1
  nnew := 0
  res := fun g _ => .lst 3 (ofL g.1 g.2)
  own' := fun g _ => [some tabC, some (.map 3 3 g.1)]
  post := fun _ _ => True
theorem m_of : Meets Try.prog regF 72 spOf := by
  refine meets Try.func72 31 noWr rfl (by kernel_rfl) (by kernel_rfl) ?_
  rintro ⟨(es : TM), (who : Int)⟩ ⟨(hl : es.length ≤ 17592186044416), (hI : ∀ p ∈ es, InI p.1)⟩
  have hkl := sortK_len es
  conv => whnf
  repeat' (first | (refine tell (fun htest => ?_) (fun htest => ?_) <;> (try dsimp only at htest) <;> first | (exfalso; omega) | (exact absurd rfl htest) | (exact absurd (by decide) htest) | (conv => whnf)) | (refine allG rfl ?_; conv => whnf) | (refine And.intro (by first | omega | assumption | kernel_rfl | exact And.intro rfl rfl | ((try dsimp only [inR, idx, lowOf]); first | omega | (with_reducible decide) | (simp; omega) | fail) | fail) ?_; conv => whnf) | fail)
  refine ⟨_, m_keys, es, [1], false, ?_⟩
  conv => whnf
  refine And.intro (vc0 trivial (by (repeat' (first | exact trivial | exact rfl | refine And.intro ?_ ?_ | (refine congrArg vI ?_; first | omega | (dsimp only; omega) | fail) | (refine congrArg some ?_) | omega | exact Nat.le_refl _ | exact congrArg (SV.lst _) (List.take_of_length_le (Nat.le_refl _)).symm))) (by repeat' (first | exact trivial | exact rfl | refine And.intro ?_ ?_ | (refine congrArg vI ?_; first | omega | (dsimp only; omega) | fail) | (refine congrArg some ?_) | omega | exact Nat.le_refl _ | exact congrArg (SV.lst _) (List.take_of_length_le (Nat.le_refl _)).symm)) trivial trivial) ?_
  refine And.intro ⟨(), trivial⟩ (fun (_ : Unit) _ => ?_)
  conv => whnf
  conv => whnf
  repeat' (first | (refine tell (fun htest => ?_) (fun htest => ?_) <;> (try dsimp only at htest) <;> first | (exfalso; omega) | (exact absurd rfl htest) | (exact absurd (by decide) htest) | (conv => whnf)) | (refine allG rfl ?_; conv => whnf) | (refine And.intro (by first | omega | assumption | kernel_rfl | exact And.intro rfl rfl | ((try dsimp only [inR, idx, lowOf]); first | omega | (with_reducible decide) | (simp; omega) | fail) | fail) ?_; conv => whnf) | fail)
  refine ⟨_, m_sorted, es, [1, 1011], false, ?_⟩
  conv => whnf
  refine And.intro (vc0 hl (by (repeat' (first | exact trivial | exact rfl | refine And.intro ?_ ?_ | (refine congrArg vI ?_; first | omega | (dsimp only; omega) | fail) | (refine congrArg some ?_) | omega | exact Nat.le_refl _ | exact congrArg (SV.lst _) (List.take_of_length_le (Nat.le_refl _)).symm))) (by repeat' (first | exact trivial | exact rfl | refine And.intro ?_ ?_ | (refine congrArg vI ?_; first | omega | (dsimp only; omega) | fail) | (refine congrArg some ?_) | omega | exact Nat.le_refl _ | exact congrArg (SV.lst _) (List.take_of_length_le (Nat.le_refl _)).symm)) trivial trivial) ?_
  refine And.intro ⟨(), trivial⟩ (fun (_ : Unit) _ => ?_)
  conv => whnf
  conv => whnf
  repeat' (first | (refine tell (fun htest => ?_) (fun htest => ?_) <;> (try dsimp only at htest) <;> first | (exfalso; omega) | (exact absurd rfl htest) | (exact absurd (by decide) htest) | (conv => whnf)) | (refine allG rfl ?_; conv => whnf) | (refine And.intro (by first | omega | assumption | kernel_rfl | exact And.intro rfl rfl | ((try dsimp only [inR, idx, lowOf]); first | omega | (with_reducible decide) | (simp; omega) | fail) | fail) ?_; conv => whnf) | fail)
  refine ⟨Nat, fun i => ⟨[(0, .ptr 0 0 1 0), (1, vI who), (4, .sl 3000 1 0 (ofP es who i).length), (12, .lst 3 (sortK es)), (13, vI (sortK es).length), (14, vI i)], [(0, tabC), (1, .map 3 3 es), (3000, .arr 3 (ofP es who i))]⟩, fun i => i ≤ (sortK es).length, fun i => (sortK es).length - i, fun _ _ => rfl, ⟨0, [], Nat.zero_le _, ?_⟩, ?_⟩
  · refine ⟨rfl, ?_, ?_, rfl⟩
    all_goals (repeat' (first | exact trivial | exact rfl | refine And.intro ?_ ?_ | (refine congrArg vI ?_; first | omega | (dsimp only; omega) | fail) | (refine congrArg some ?_) | omega | exact Nat.le_refl _ | exact congrArg (SV.lst _) (List.take_of_length_le (Nat.le_refl _)).symm))
  rintro (i : Nat) (hi : i ≤ (sortK es).length)
  have hol : (ofP es who i).length ≤ i := Nat.le_trans (List.length_filter_le _ _) (by rw [List.length_take]; omega)
  by_cases hlt : i < (sortK es).length
  · obtain ⟨x, hx⟩ : ∃ x, (sortK es)[i]? = some x := ⟨_, List.getElem?_eq_getElem hlt⟩
    have hxm := sortK_mem.1 (List.mem_of_getElem? hx)
    have hxI : InI x := by obtain ⟨p, hp, rfl⟩ := hxm; exact hI p hp
    obtain ⟨w, hw⟩ := lookT_some hxm
    have hsn : ofP es who (i + 1) = ofP es who i ++ if decide (lookT es x = some who) = true then [x] else [] := filter_snoc hx
    conv => whnf
    repeat' (first | (refine tell (fun htest => ?_) (fun htest => ?_) <;> (try dsimp only at htest) <;> first | (exfalso; omega) | (exact absurd rfl htest) | (exact absurd (by decide) htest) | (conv => whnf)) | (refine allG (x := x) (by first | exact hx | simpa [List.getElem?_append_right, lowOf] using hx | fail) ?_; conv => whnf) | (refine allLst (x := x) (by first | omega | assumption | fail) (by first | exact hx | simpa using hx | fail) ?_; conv => whnf) | (refine allG rfl ?_; conv => whnf) | (refine And.intro (by first | omega | assumption | kernel_rfl | exact And.intro rfl rfl | ((try dsimp only [inR, idx, lowOf]); first | omega | (with_reducible decide) | (simp; omega) | fail) | fail) ?_; conv => whnf) | fail)
    refine allEqB ?_
    intro (y : Int) (hy : y = (lookT es x).getD 0)
    rw [hw] at hy
    have hy : y = w := hy
    by_cases hyw : y = who
    · rw [if_pos (decide_eq_true (by rw [hw, ← hy, hyw]))] at hsn
      conv => whnf
      repeat' (first | (refine tell (fun htest => ?_) (fun htest => ?_) <;> (try dsimp only at htest) <;> first | (exfalso; omega) | (exact absurd rfl htest) | (exact absurd (by decide) htest) | (conv => whnf)) | (refine allG rfl ?_; conv => whnf) | (refine And.intro (by first | omega | assumption | kernel_rfl | exact And.intro rfl rfl | ((try dsimp only [inR, idx, lowOf]); first | omega | (with_reducible decide) | (simp; omega) | fail) | fail) ?_; conv => whnf) | fail)
      refine ⟨i + 1, [(3000, 1029)], hlt, ?_, rfl, ?_, ?_, rfl⟩
      · dsimp only; first | omega | (simp; done) | (simp; omega)
      all_goals (repeat' (first | exact trivial | exact rfl | refine And.intro ?_ ?_ | (refine congrArg vI ?_; first | omega | (dsimp only; omega) | fail) | (refine congrArg some ?_) | omega | exact Nat.le_refl _ | exact congrArg (SV.lst _) (List.take_of_length_le (Nat.le_refl _)).symm))
      · exact congrArg (SV.sl (A := AF) 1029 1 0) (show (ofP es who i).length + 1 = (ofP es who (i + 1)).length by rw [hsn]; simp)
      · exact congrArg (Ct.arr (A := AF) 3) (show ((ofP es who i).drop 0).take (ofP es who i).length ++ [x] = ofP es who (i + 1) by rw [hsn]; simp)
    · rw [if_neg (by rw [hw, decide_eq_true_iff]; intro h; cases h; exact hyw hy), List.append_nil] at hsn
      conv => whnf
      repeat' (first | (refine tell (fun htest => ?_) (fun htest => ?_) <;> (try dsimp only at htest) <;> first | (exfalso; omega) | (exact absurd rfl htest) | (exact absurd (by decide) htest) | (conv => whnf)) | (refine allG rfl ?_; conv => whnf) | (refine And.intro (by first | omega | assumption | kernel_rfl | exact And.intro rfl rfl | ((try dsimp only [inR, idx, lowOf]); first | omega | (with_reducible decide) | (simp; omega) | fail) | fail) ?_; conv => whnf) | fail)
      refine ⟨i + 1, [], hlt, ?_, rfl, ?_, ?_, rfl⟩
      · dsimp only; first | omega | (simp; done) | (simp; omega)
      all_goals (repeat' (first | exact trivial | exact rfl | refine And.intro ?_ ?_ | (refine congrArg vI ?_; first | omega | (dsimp only; omega) | fail) | (refine congrArg some ?_) | omega | exact Nat.le_refl _ | exact congrArg (SV.lst _) (List.take_of_length_le (Nat.le_refl _)).symm))
      · exact congrArg (SV.sl (A := AF) 3000 1 0) (congrArg List.length hsn.symm)
      · exact congrArg (Ct.arr (A := AF) 3) hsn.symm
  · have hi : i = (sortK es).length := by omega
    subst hi
    have hend : ofP es who (sortK es).length = ofL es who := by unfold ofP ofL; rw [List.take_of_length_le (Nat.le_refl _)]
    conv => whnf
    repeat' (first | (refine tell (fun htest => ?_) (fun htest => ?_) <;> (try dsimp only at htest) <;> first | (exfalso; omega) | (exact absurd rfl htest) | (exact absurd (by decide) htest) | (conv => whnf)) | (refine allG rfl ?_; conv => whnf) | (refine And.intro (by first | omega | assumption | kernel_rfl | exact And.intro rfl rfl | ((try dsimp only [inR, idx, lowOf]); first | omega | (with_reducible decide) | (simp; omega) | fail) | fail) ?_; conv => whnf) | fail)
    refine ⟨(), [], trivial, ⟨by simp, rfl, ?_⟩, ⟨⟨rfl, trivial⟩, rfl, trivial⟩, trivial⟩
    exact congrArg (SV.lst (A := AF) 3) (show ofL es who = ((ofP es who (sortK es).length).drop 0).take (ofP es who (sortK es).length).length by rw [hend]; simp)
end Go.Sx

