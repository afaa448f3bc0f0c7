/-
  Layer 21, part D: Allowed at the two cases that awake asks.
-/
import Derived.Test.YtmogappoadglgaaDoorZTra
set_option linter.unusedVariables false
set_option linter.unusedSimpArgs false
namespace Go.Sx
open Go Go.Proofs Go.Proofs.YtmogappoadglgaaDoor
def spAllowA : Spec AF where
  γ := Unit
  δ := Unit
  args := fun _ => [.lst 107 [], .lst 107 [((1, 0, 1, 0) : Job)]]
  own := fun _ => []
  pre := fun _ => True
  nnew := 0
  res := fun _ _ => vB true
  own' := fun _ _ => []
  post := fun _ _ => True
def spAllowB : Spec AF where
  γ := Unit
  δ := Unit
  args := fun _ => [.lst 107 [((1, 0, 1, 0) : Job)], .lst 107 []]
  own := fun _ => []
  pre := fun _ => True
  nnew := 0
  res := fun _ _ => vB false
  own' := fun _ _ => []
  post := fun _ _ => True
theorem m_allowB : Meets Tryd.prog regF 61 spAllowB := by
  refine meets Tryd.func61 91 noWr rfl (by kernel_rfl) (by kernel_rfl) ?_
  rintro ⟨⟩ _
  conv => whnf
  repeat' (first | (refine tell (fun hQ => ?_) (fun hQ => ?_) <;> (try dsimp only at hQ) <;> first | (exfalso; omega) | (exact absurd rfl hQ) | (exact absurd (by decide) hQ) | (conv => whnf)) | (refine allG rfl ?_; conv => whnf) | (refine And.intro (by first | omega | assumption | kernel_rfl | exact And.intro rfl rfl | ((try dsimp only [inR, idx, lowOf]); first | omega | (with_reducible decide) | (simp; omega) | (simp; done) | fail) | fail) ?_; conv => whnf) | fail)
  exact ⟨(), [], trivial, rfl, trivial, trivial⟩
theorem m_allowA : Meets Tryd.prog regF 61 spAllowA := by
  refine meets Tryd.func61 91 noWr rfl (by kernel_rfl) (by kernel_rfl) ?_
  rintro ⟨⟩ _
  have e0 : (List.length ([] : List (AF 107))) = 0 := rfl
  have e1 : (List.length ([((1, 0, 1, 0) : Job)] : List (AF 107))) = 1 := rfl
  conv => whnf
  repeat' (first | (refine tell (fun hQ => ?_) (fun hQ => ?_) <;> (try dsimp only at hQ) <;> first | (exfalso; omega) | (exact absurd rfl hQ) | (exact absurd (by decide) hQ) | (conv => whnf)) | (refine allG rfl ?_; conv => whnf) | (refine And.intro (by first | omega | assumption | kernel_rfl | exact And.intro rfl rfl | ((try dsimp only [inR, idx, lowOf]); first | omega | (with_reducible decide) | (simp; omega) | (simp; done) | fail) | fail) ?_; conv => whnf) | fail)
  refine ⟨Nat, fun i => ⟨[(0, .lst 107 []), (1, .lst 107 [((1, 0, 1, 0) : Job)]), (5, .mp 1016), (17, .lst 107 [((1, 0, 1, 0) : Job)]), (18, vI 1), (19, vI i)], [(1016, .map 3 4 [])]⟩, fun i => i ≤ 1, fun i => 1 - i, fun _ _ => rfl, ⟨0, [], Nat.zero_le _, ?_⟩, ?_⟩
  · refine ⟨rfl, ?_, ?_, rfl⟩
    all_goals (repeat' (first | exact trivial | exact rfl | refine And.intro ?_ ?_ | (refine congrArg vI ?_; first | omega | (dsimp only; omega) | fail) | (refine congrArg some ?_) | omega | exact Nat.le_refl _ | exact congrArg (SV.lst _) (List.take_of_length_le (Nat.le_refl _)).symm))
  rintro (i : Nat) (hi : i ≤ 1)
  by_cases hlt : i < 1
  · have h0 : i = 0 := by omega
    subst h0
    have hx : ([((1, 0, 1, 0) : Job)])[0]? = some (1, 0, 1, 0) := rfl
    conv => whnf
    repeat' (first | (refine tell (fun hQ => ?_) (fun hQ => ?_) <;> (try dsimp only at hQ) <;> first | (exfalso; omega) | (exact absurd rfl hQ) | (exact absurd (by decide) hQ) | (conv => whnf)) | (refine allG (x := _) (by first | exact hx | simpa [List.getElem?_append_right, lowOf] using hx | fail) ?_; conv => whnf) | (refine allLst (x := _) (by first | omega | assumption | fail) (by first | exact hx | simpa using hx | fail) ?_; conv => whnf) | (refine allG rfl ?_; conv => whnf) | (refine And.intro (by first | omega | assumption | kernel_rfl | exact And.intro rfl rfl | ((try dsimp only [inR, idx, lowOf]); first | omega | (with_reducible decide) | (simp; omega) | (simp; done) | fail) | fail) ?_; conv => whnf) | fail)
    refine ⟨1, [], Nat.le_refl _, ?_, rfl, ?_, ?_, rfl⟩
    · dsimp only; first | omega | (simp; done) | (simp; omega)
    all_goals (repeat' (first | exact trivial | exact rfl | refine And.intro ?_ ?_ | (refine congrArg vI ?_; first | omega | (dsimp only; omega) | fail) | (refine congrArg some ?_) | omega | exact Nat.le_refl _ | exact congrArg (SV.lst _) (List.take_of_length_le (Nat.le_refl _)).symm))
  · have h0 : i = 1 := by omega
    subst h0
    conv => whnf
    repeat' (first | (refine tell (fun hQ => ?_) (fun hQ => ?_) <;> (try dsimp only at hQ) <;> first | (exfalso; omega) | (exact absurd rfl hQ) | (exact absurd (by decide) hQ) | (conv => whnf)) | (refine allG rfl ?_; conv => whnf) | (refine And.intro (by first | omega | assumption | kernel_rfl | exact And.intro rfl rfl | ((try dsimp only [inR, idx, lowOf]); first | omega | (with_reducible decide) | (simp; omega) | (simp; done) | fail) | fail) ?_; conv => whnf) | fail)
    exact ⟨(), [], trivial, rfl, trivial, trivial⟩
end Go.Sx


/-
  Layer 21, part E: word; TraceCounts, over what awake tells.
-/
namespace Go.Sx
open Go Go.Proofs Go.Proofs.YtmogappoadglgaaDoor
/-- The word of a state. -/
def wordF (n : Int) : ByteArray := if n = 1 then (⟨#[119, 97, 105, 116, 115]⟩ : ByteArray) else if n = 2 then (⟨#[103, 111, 101, 115]⟩ : ByteArray) else if n = 3 then (⟨#[100, 111, 110, 101]⟩ : ByteArray) else if n = 4 then (⟨#[102, 97, 105, 108, 101, 100]⟩ : ByteArray) else (⟨#[111, 100, 100]⟩ : ByteArray)
def spWord : Spec AF where
  γ := Int
  δ := Unit
  args := fun g => [vI g]
  own := fun _ => []
  pre := fun _ => True
  nnew := 0
  res := fun g _ => .val (.string (wordF g))
  own' := fun _ _ => []
  post := fun _ _ => True
theorem eS {R : Reg AF} {st : St AF} {a b : ByteArray} (h : a = b) : EntR R st (.val (.string a)) (.val (.string b)) := congrArg (fun x => SV.val (.string x)) h
theorem m_word : Meets Tryd.prog regF 70 spWord := by
  refine meets Tryd.func70 12 noWr rfl (by kernel_rfl) (by kernel_rfl) ?_
  rintro (n : Int) _
  by_cases h1 : n = 1
  · subst h1
    conv => whnf
    repeat' (first | (refine tell (fun hQ => ?_) (fun hQ => ?_) <;> (try dsimp only at hQ) <;> first | (exfalso; omega) | (exact absurd rfl hQ) | (exact absurd (by decide) hQ) | (conv => whnf)) | (refine allG rfl ?_; conv => whnf) | (refine And.intro (by first | omega | assumption | kernel_rfl | exact And.intro rfl rfl | ((try dsimp only [inR, idx, lowOf]); first | omega | (with_reducible decide) | (simp; omega) | (simp; done) | fail) | fail) ?_; conv => whnf) | fail)
    exact ⟨(), [], trivial, rfl, trivial, trivial⟩
  · skip
    by_cases h2 : n = 2
    · subst h2
      conv => whnf
      repeat' (first | (refine tell (fun hQ => ?_) (fun hQ => ?_) <;> (try dsimp only at hQ) <;> first | (exfalso; omega) | (exact absurd rfl hQ) | (exact absurd (by decide) hQ) | (conv => whnf)) | (refine allG rfl ?_; conv => whnf) | (refine And.intro (by first | omega | assumption | kernel_rfl | exact And.intro rfl rfl | ((try dsimp only [inR, idx, lowOf]); first | omega | (with_reducible decide) | (simp; omega) | (simp; done) | fail) | fail) ?_; conv => whnf) | fail)
      exact ⟨(), [], trivial, rfl, trivial, trivial⟩
    · skip
      by_cases h3 : n = 3
      · subst h3
        conv => whnf
        repeat' (first | (refine tell (fun hQ => ?_) (fun hQ => ?_) <;> (try dsimp only at hQ) <;> first | (exfalso; omega) | (exact absurd rfl hQ) | (exact absurd (by decide) hQ) | (conv => whnf)) | (refine allG rfl ?_; conv => whnf) | (refine And.intro (by first | omega | assumption | kernel_rfl | exact And.intro rfl rfl | ((try dsimp only [inR, idx, lowOf]); first | omega | (with_reducible decide) | (simp; omega) | (simp; done) | fail) | fail) ?_; conv => whnf) | fail)
        exact ⟨(), [], trivial, rfl, trivial, trivial⟩
      · skip
        by_cases h4 : n = 4
        · subst h4
          conv => whnf
          repeat' (first | (refine tell (fun hQ => ?_) (fun hQ => ?_) <;> (try dsimp only at hQ) <;> first | (exfalso; omega) | (exact absurd rfl hQ) | (exact absurd (by decide) hQ) | (conv => whnf)) | (refine allG rfl ?_; conv => whnf) | (refine And.intro (by first | omega | assumption | kernel_rfl | exact And.intro rfl rfl | ((try dsimp only [inR, idx, lowOf]); first | omega | (with_reducible decide) | (simp; omega) | (simp; done) | fail) | fail) ?_; conv => whnf) | fail)
          exact ⟨(), [], trivial, rfl, trivial, trivial⟩
        · skip
          conv => whnf
          repeat' (first | (refine tell (fun hQ => ?_) (fun hQ => ?_) <;> (try dsimp only at hQ) <;> first | (exfalso; omega) | (exact absurd rfl hQ) | (exact absurd (by decide) hQ) | (conv => whnf)) | (refine allG rfl ?_; conv => whnf) | (refine And.intro (by first | omega | assumption | kernel_rfl | exact And.intro rfl rfl | ((try dsimp only [inR, idx, lowOf]); first | omega | (with_reducible decide) | (simp; omega) | (simp; done) | fail) | fail) ?_; conv => whnf) | fail)
          exact ⟨(), [], trivial, eS (show (⟨#[111, 100, 100]⟩ : ByteArray) = wordF n by unfold wordF; rw [if_neg h1, if_neg h2, if_neg h3, if_neg h4]), trivial, trivial⟩
/-- What awake tells. -/
def spAwake : Spec AF where
  γ := Unit
  δ := Unit
  args := fun _ => []
  own := fun _ => []
  pre := fun _ => True
  nnew := 0
  res := fun _ _ => vB true
  own' := fun _ _ => []
  post := fun _ _ => True
theorem foldl_add (js : List Job) : ∀ (l : List Int) (k : Nat), l.length = 5 → (js.foldl (fun l j => bumpF l (stF j.2.2.1)) l).getD k 0 = l.getD k 0 + (cntF js).getD k 0 := by
  induction js with
  | nil =>
    intro l k h
    have : (cntF []).getD k 0 = 0 := by
      match k with
      | 0 | 1 | 2 | 3 | 4 => rfl
      | k + 5 => rfl
    rw [this, Int.add_zero]; rfl
  | cons j js ih =>
    intro l k h
    have hb : ∀ l : List Int, l.length = 5 → (bumpF l (stF j.2.2.1)).length = 5 := fun l h => by unfold bumpF; rw [List.length_set, h]
    have h0 := ih (bumpF [0, 0, 0, 0, 0] (stF j.2.2.1)) k (hb _ rfl)
    have h1 := ih (bumpF l (stF j.2.2.1)) k (hb _ h)
    have e : (cntF (j :: js)) = js.foldl (fun l j => bumpF l (stF j.2.2.1)) (bumpF [0, 0, 0, 0, 0] (stF j.2.2.1)) := rfl
    rw [e, h0, List.foldl_cons, h1]
    have hs := stF_lt j.2.2.1
    have hz : ∀ k : Nat, ([0, 0, 0, 0, 0] : List Int).getD k 0 = 0 := fun k => by
      match k with
      | 0 | 1 | 2 | 3 | 4 => rfl
      | k + 5 => rfl
    have hbump : ∀ l : List Int, l.length = 5 → (bumpF l (stF j.2.2.1)).getD k 0 = l.getD k 0 + (if stF j.2.2.1 = k then 1 else 0) := fun l h => by
      unfold bumpF
      simp only [List.getD_eq_getElem?_getD, List.getElem?_set]
      split
      · rename_i e
        subst e
        rw [if_pos (by omega)]; simp
      · simp
    rw [hbump l h, hbump _ rfl, hz]
    omega
theorem cntF_append (a b : List Job) (k : Nat) : (cntF (a ++ b)).getD k 0 = (cntF a).getD k 0 + (cntF b).getD k 0 := by
  have : cntF (a ++ b) = b.foldl (fun l j => bumpF l (stF j.2.2.1)) (cntF a) := by unfold cntF; rw [List.foldl_append]
  rw [this, foldl_add b _ k (cntF_len a)]
def sum5 (l : List Int) : Int := l.getD 0 0 + l.getD 1 0 + l.getD 2 0 + l.getD 3 0 + l.getD 4 0
theorem sum5_bump (l : List Int) (h : l.length = 5) (k : Nat) (hk : k < 5) : sum5 (bumpF l k) = sum5 l + 1 := by
  match l, h with
  | [a, b, c, d, e], _ =>
    match k, hk with
    | 0, _ => show (a + 1) + b + c + d + e = a + b + c + d + e + 1; omega
    | 1, _ => show a + (b + 1) + c + d + e = a + b + c + d + e + 1; omega
    | 2, _ => show a + b + (c + 1) + d + e = a + b + c + d + e + 1; omega
    | 3, _ => show a + b + c + (d + 1) + e = a + b + c + d + e + 1; omega
    | 4, _ => show a + b + c + d + (e + 1) = a + b + c + d + e + 1; omega
theorem sum5_cnt (js : List Job) : sum5 (cntF js) = js.length := by
  suffices h : ∀ (js : List Job) (l : List Int), l.length = 5 → sum5 (js.foldl (fun l j => bumpF l (stF j.2.2.1)) l) = sum5 l + js.length from (h js _ rfl).trans (by show (0 : Int) + 0 + 0 + 0 + 0 + _ = _; omega)
  intro js
  induction js with
  | nil => exact fun l h => (Int.add_zero _).symm
  | cons j js ih =>
    intro l h
    have := ih (bumpF l (stF j.2.2.1)) (by unfold bumpF; rw [List.length_set, h])
    rw [List.foldl_cons, this, sum5_bump l h _ (stF_lt _), List.length_cons]
    omega
theorem m_countsR (hA : Meets Tryd.prog regF 32 spAwake) : Meets Tryd.prog regF 11 (spLaw (fun g : List Job × List Job => [.lst 107 g.1, .lst 107 g.2]) (fun g => g.1.length ≤ 9223372036854775807 ∧ g.2.length ≤ 9223372036854775807)) := by
  refine meets Tryd.func11 67 noWr rfl (by kernel_rfl) (by kernel_rfl) ?_
  rintro ⟨(a : List Job), (b : List Job)⟩ ⟨(ha : a.length ≤ 9223372036854775807), (hb : b.length ≤ 9223372036854775807)⟩
  conv => whnf
  repeat' (first | (refine tell (fun hQ => ?_) (fun hQ => ?_) <;> (try dsimp only at hQ) <;> first | (exfalso; omega) | (exact absurd rfl hQ) | (exact absurd (by decide) hQ) | (conv => whnf)) | (refine allG rfl ?_; conv => whnf) | (refine And.intro (by first | omega | assumption | kernel_rfl | exact And.intro rfl rfl | ((try dsimp only [inR, idx, lowOf]); first | omega | (with_reducible decide) | (simp; omega) | (simp; done) | fail) | fail) ?_; conv => whnf) | fail)
  refine ⟨_, hA, (), [], false, ?_⟩
  conv => whnf
  refine And.intro (vc0 trivial (by (repeat' (first | exact trivial | exact rfl | refine And.intro ?_ ?_ | (refine congrArg vI ?_; first | omega | (dsimp only; omega) | fail) | (refine congrArg some ?_) | omega | exact Nat.le_refl _ | exact congrArg (SV.lst _) (List.take_of_length_le (Nat.le_refl _)).symm))) (by repeat' (first | exact trivial | exact rfl | refine And.intro ?_ ?_ | (refine congrArg vI ?_; first | omega | (dsimp only; omega) | fail) | (refine congrArg some ?_) | omega | exact Nat.le_refl _ | exact congrArg (SV.lst _) (List.take_of_length_le (Nat.le_refl _)).symm)) trivial trivial) ?_
  refine And.intro ⟨(), trivial⟩ (fun (_ : Unit) _ => ?_)
  conv => whnf
  have hca : (((a.take (min (a.length : Int) 12).toNat).drop 0)).length ≤ 12 := by simp; omega
  have hcb : (((b.take (min (b.length : Int) 12).toNat).drop 0)).length ≤ 12 := by simp; omega
  conv => whnf
  repeat' (first | (refine tell (fun hQ => ?_) (fun hQ => ?_) <;> (try dsimp only at hQ) <;> first | (exfalso; omega) | (exact absurd rfl hQ) | (exact absurd (by decide) hQ) | (conv => whnf)) | (refine allG rfl ?_; conv => whnf) | (refine And.intro (by first | omega | assumption | kernel_rfl | exact And.intro rfl rfl | ((try dsimp only [inR, idx, lowOf]); first | omega | (with_reducible decide) | (simp; omega) | (simp; done) | fail) | fail) ?_; conv => whnf) | fail)
  refine ⟨_, m_count, (((a.take (min (a.length : Int) 12).toNat).drop 0)), [], false, ?_⟩
  conv => whnf
  refine And.intro (vc0 (show (((a.take (min (a.length : Int) 12).toNat).drop 0)).length ≤ 9223372036854775806 by omega) (by (repeat' (first | exact trivial | exact rfl | refine And.intro ?_ ?_ | (refine congrArg vI ?_; first | omega | (dsimp only; omega) | fail) | (refine congrArg some ?_) | omega | exact Nat.le_refl _ | exact congrArg (SV.lst _) (List.take_of_length_le (Nat.le_refl _)).symm))) (by repeat' (first | exact trivial | exact rfl | refine And.intro ?_ ?_ | (refine congrArg vI ?_; first | omega | (dsimp only; omega) | fail) | (refine congrArg some ?_) | omega | exact Nat.le_refl _ | exact congrArg (SV.lst _) (List.take_of_length_le (Nat.le_refl _)).symm)) trivial trivial) ?_
  refine And.intro ⟨(), trivial⟩ (fun (_ : Unit) _ => ?_)
  conv => whnf
  have h5a := cntF_len (((a.take (min (a.length : Int) 12).toNat).drop 0))
  have h5b := cntF_len (((b.take (min (b.length : Int) 12).toNat).drop 0))
  refine And.intro ⟨rfl, h5a, rfl⟩ ?_
  conv => whnf
  conv => whnf
  repeat' (first | (refine tell (fun hQ => ?_) (fun hQ => ?_) <;> (try dsimp only at hQ) <;> first | (exfalso; omega) | (exact absurd rfl hQ) | (exact absurd (by decide) hQ) | (conv => whnf)) | (refine allG rfl ?_; conv => whnf) | (refine And.intro (by first | omega | assumption | kernel_rfl | exact And.intro rfl rfl | ((try dsimp only [inR, idx, lowOf]); first | omega | (with_reducible decide) | (simp; omega) | (simp; done) | fail) | fail) ?_; conv => whnf) | fail)
  refine ⟨_, m_count, (((b.take (min (b.length : Int) 12).toNat).drop 0)), [], false, ?_⟩
  conv => whnf
  refine And.intro (vc0 (show (((b.take (min (b.length : Int) 12).toNat).drop 0)).length ≤ 9223372036854775806 by omega) (by (repeat' (first | exact trivial | exact rfl | refine And.intro ?_ ?_ | (refine congrArg vI ?_; first | omega | (dsimp only; omega) | fail) | (refine congrArg some ?_) | omega | exact Nat.le_refl _ | exact congrArg (SV.lst _) (List.take_of_length_le (Nat.le_refl _)).symm))) (by repeat' (first | exact trivial | exact rfl | refine And.intro ?_ ?_ | (refine congrArg vI ?_; first | omega | (dsimp only; omega) | fail) | (refine congrArg some ?_) | omega | exact Nat.le_refl _ | exact congrArg (SV.lst _) (List.take_of_length_le (Nat.le_refl _)).symm)) trivial trivial) ?_
  refine And.intro ⟨(), trivial⟩ (fun (_ : Unit) _ => ?_)
  conv => whnf
  refine And.intro ⟨rfl, h5b, rfl⟩ ?_
  conv => whnf
  conv => whnf
  repeat' (first | (refine tell (fun hQ => ?_) (fun hQ => ?_) <;> (try dsimp only at hQ) <;> first | (exfalso; omega) | (exact absurd rfl hQ) | (exact absurd (by decide) hQ) | (conv => whnf)) | (refine allG rfl ?_; conv => whnf) | (refine And.intro (by first | omega | assumption | kernel_rfl | exact And.intro rfl rfl | ((try dsimp only [inR, idx, lowOf]); first | omega | (with_reducible decide) | (simp; omega) | (simp; done) | fail) | fail) ?_; conv => whnf) | fail)
  have hX : ((((((a.take (min (a.length : Int) 12).toNat).drop 0)).drop 0).take (((a.take (min (a.length : Int) 12).toNat).drop 0)).length ++ (((b.take (min (b.length : Int) 12).toNat).drop 0)))) = (((a.take (min (a.length : Int) 12).toNat).drop 0)) ++ (((b.take (min (b.length : Int) 12).toNat).drop 0)) := by show List.take (((a.take (min (a.length : Int) 12).toNat).drop 0)).length (((a.take (min (a.length : Int) 12).toNat).drop 0)) ++ (((b.take (min (b.length : Int) 12).toNat).drop 0)) = _; rw [List.take_length]
  have hXl : ((((((a.take (min (a.length : Int) 12).toNat).drop 0)).drop 0).take (((a.take (min (a.length : Int) 12).toNat).drop 0)).length ++ (((b.take (min (b.length : Int) 12).toNat).drop 0)))).length = (((a.take (min (a.length : Int) 12).toNat).drop 0)).length + (((b.take (min (b.length : Int) 12).toNat).drop 0)).length := by rw [hX, List.length_append]
  refine ⟨_, m_count, ((((((a.take (min (a.length : Int) 12).toNat).drop 0)).drop 0).take (((a.take (min (a.length : Int) 12).toNat).drop 0)).length ++ (((b.take (min (b.length : Int) 12).toNat).drop 0)))), [], false, ?_⟩
  conv => whnf
  refine And.intro (vc0 (show ((((((a.take (min (a.length : Int) 12).toNat).drop 0)).drop 0).take (((a.take (min (a.length : Int) 12).toNat).drop 0)).length ++ (((b.take (min (b.length : Int) 12).toNat).drop 0)))).length ≤ 9223372036854775806 by omega) (by (repeat' (first | exact trivial | exact rfl | refine And.intro ?_ ?_ | (refine congrArg vI ?_; first | omega | (dsimp only; omega) | fail) | (refine congrArg some ?_) | omega | exact Nat.le_refl _ | exact congrArg (SV.lst _) (List.take_of_length_le (Nat.le_refl _)).symm)); all_goals (first | (show 0 + ((((a.take (min (a.length : Int) 12).toNat).drop 0)).length + (((b.take (min (b.length : Int) 12).toNat).drop 0)).length) ≤ ((((((a.take (min (a.length : Int) 12).toNat).drop 0)).drop 0).take (((a.take (min (a.length : Int) 12).toNat).drop 0)).length ++ (((b.take (min (b.length : Int) 12).toNat).drop 0)))).length; omega) | exact congrArg (SV.lst (A := AF) 107) (List.take_of_length_le (Nat.le_of_eq hXl)).symm | fail)) (by repeat' (first | exact trivial | exact rfl | refine And.intro ?_ ?_ | (refine congrArg vI ?_; first | omega | (dsimp only; omega) | fail) | (refine congrArg some ?_) | omega | exact Nat.le_refl _ | exact congrArg (SV.lst _) (List.take_of_length_le (Nat.le_refl _)).symm)) trivial trivial) ?_
  refine And.intro ⟨(), trivial⟩ (fun (_ : Unit) _ => ?_)
  conv => whnf
  have h5c := cntF_len ((((((a.take (min (a.length : Int) 12).toNat).drop 0)).drop 0).take (((a.take (min (a.length : Int) 12).toNat).drop 0)).length ++ (((b.take (min (b.length : Int) 12).toNat).drop 0))))
  refine And.intro ⟨rfl, h5c, rfl⟩ ?_
  conv => whnf
  conv => whnf
  repeat' (first | (refine tell (fun hQ => ?_) (fun hQ => ?_) <;> (try dsimp only at hQ) <;> first | (exfalso; omega) | (exact absurd rfl hQ) | (exact absurd (by decide) hQ) | (conv => whnf)) | (refine allG rfl ?_; conv => whnf) | (refine And.intro (by first | omega | assumption | kernel_rfl | exact And.intro rfl rfl | ((try dsimp only [inR, idx, lowOf]); first | omega | (with_reducible decide) | (simp; omega) | (simp; done) | fail) | fail) ?_; conv => whnf) | fail)
  refine ⟨Nat, fun k => ⟨[(5, vB true), (6, .lst 107 (((a.take (min (a.length : Int) 12).toNat).drop 0))), (8, .ptr 1008 0 5 0), (9, .ptr 1009 0 5 0), (10, .ptr 1010 0 5 0), (11, vI k)], [(1008, .arr 3 (cntF (((a.take (min (a.length : Int) 12).toNat).drop 0)))), (1009, .arr 3 (cntF (((b.take (min (b.length : Int) 12).toNat).drop 0)))), (1010, .arr 3 (cntF ((((((a.take (min (a.length : Int) 12).toNat).drop 0)).drop 0).take (((a.take (min (a.length : Int) 12).toNat).drop 0)).length ++ (((b.take (min (b.length : Int) 12).toNat).drop 0))))))]⟩, fun k => k ≤ 5, fun k => 5 - k, fun _ _ => rfl, ⟨0, [], Nat.zero_le _, ?_⟩, ?_⟩
  · refine ⟨rfl, ?_, ?_, rfl⟩
    all_goals (repeat' (first | exact trivial | exact rfl | refine And.intro ?_ ?_ | (refine congrArg vI ?_; first | omega | (dsimp only; omega) | fail) | (refine congrArg some ?_) | omega | exact Nat.le_refl _ | exact congrArg (SV.lst _) (List.take_of_length_le (Nat.le_refl _)).symm))
  rintro (k : Nat) (hk : k ≤ 5)
  by_cases hlt : k < 5
  · have hobt : ∃ y, (cntF (((a.take (min (a.length : Int) 12).toNat).drop 0)))[k]? = some y := ⟨_, List.getElem?_eq_getElem (by omega)⟩
    obtain ⟨u, hu⟩ := hobt
    have hobt : ∃ y, (cntF (((b.take (min (b.length : Int) 12).toNat).drop 0)))[k]? = some y := ⟨_, List.getElem?_eq_getElem (by omega)⟩
    obtain ⟨v, hv⟩ := hobt
    have hobt : ∃ y, (cntF ((((((a.take (min (a.length : Int) 12).toNat).drop 0)).drop 0).take (((a.take (min (a.length : Int) 12).toNat).drop 0)).length ++ (((b.take (min (b.length : Int) 12).toNat).drop 0)))))[k]? = some y := ⟨_, List.getElem?_eq_getElem (by omega)⟩
    obtain ⟨w, hw⟩ := hobt
    have hs := cntF_append (((a.take (min (a.length : Int) 12).toNat).drop 0)) (((b.take (min (b.length : Int) 12).toNat).drop 0)) k
    rw [← hX] at hs
    have hm := cntF_most (((a.take (min (a.length : Int) 12).toNat).drop 0)) k
    have hn := cntF_most (((b.take (min (b.length : Int) 12).toNat).drop 0)) k
    rw [List.getD_eq_getElem?_getD, List.getD_eq_getElem?_getD, List.getD_eq_getElem?_getD, hu, hv, hw] at hs
    rw [List.getD_eq_getElem?_getD, hu] at hm
    rw [List.getD_eq_getElem?_getD, hv] at hn
    have hs : w = u + v := hs
    have hm : 0 ≤ u ∧ u ≤ (((a.take (min (a.length : Int) 12).toNat).drop 0)).length := hm
    have hn : 0 ≤ v ∧ v ≤ (((b.take (min (b.length : Int) 12).toNat).drop 0)).length := hn
    conv => whnf
    repeat' (first | (refine tell (fun hQ => ?_) (fun hQ => ?_) <;> (try dsimp only at hQ) <;> first | (exfalso; omega) | (exact absurd rfl hQ) | (exact absurd (by decide) hQ) | (conv => whnf)) | (refine allG (x := w) (by first | exact hw | simpa [List.getElem?_append_right, lowOf] using hw | fail) ?_; conv => whnf) | (refine allLst (x := w) (by first | omega | assumption | fail) (by first | exact hw | simpa using hw | fail) ?_; conv => whnf) | (refine allG (x := u) (by first | exact hu | simpa [List.getElem?_append_right, lowOf] using hu | fail) ?_; conv => whnf) | (refine allLst (x := u) (by first | omega | assumption | fail) (by first | exact hu | simpa using hu | fail) ?_; conv => whnf) | (refine allG (x := v) (by first | exact hv | simpa [List.getElem?_append_right, lowOf] using hv | fail) ?_; conv => whnf) | (refine allLst (x := v) (by first | omega | assumption | fail) (by first | exact hv | simpa using hv | fail) ?_; conv => whnf) | (refine allG rfl ?_; conv => whnf) | (refine And.intro (by first | omega | assumption | kernel_rfl | exact And.intro rfl rfl | ((try dsimp only [inR, idx, lowOf]); first | omega | (with_reducible decide) | (simp; omega) | (simp; done) | fail) | fail) ?_; conv => whnf) | fail)
    refine ⟨k + 1, [], hlt, ?_, rfl, ?_, ?_, rfl⟩
    · dsimp only; first | omega | (simp; done) | (simp; omega)
    all_goals (repeat' (first | exact trivial | exact rfl | refine And.intro ?_ ?_ | (refine congrArg vI ?_; first | omega | (dsimp only; omega) | fail) | (refine congrArg some ?_) | omega | exact Nat.le_refl _ | exact congrArg (SV.lst _) (List.take_of_length_le (Nat.le_refl _)).symm))
  · have hg5 : ∀ k < 5, ∃ u, (cntF (((a.take (min (a.length : Int) 12).toNat).drop 0)))[k]? = some u ∧ (cntF (((a.take (min (a.length : Int) 12).toNat).drop 0))).getD k 0 = u := fun k h => ⟨_, List.getElem?_eq_getElem (by omega), by rw [List.getD_eq_getElem?_getD, List.getElem?_eq_getElem (by omega)]; rfl⟩
    have hobt := hg5 0 (by omega)
    obtain ⟨u0, hu0, e0⟩ := hobt
    have hobt := hg5 1 (by omega)
    obtain ⟨u1, hu1, e1⟩ := hobt
    have hobt := hg5 2 (by omega)
    obtain ⟨u2, hu2, e2⟩ := hobt
    have hobt := hg5 3 (by omega)
    obtain ⟨u3, hu3, e3⟩ := hobt
    have hobt := hg5 4 (by omega)
    obtain ⟨u4, hu4, e4⟩ := hobt
    have hsum : u0 + u1 + u2 + u3 + u4 = (((a.take (min (a.length : Int) 12).toNat).drop 0)).length := by rw [← sum5_cnt, ← e0, ← e1, ← e2, ← e3, ← e4]; rfl
    have m0 := cntF_most (((a.take (min (a.length : Int) 12).toNat).drop 0)) 0
    have m1 := cntF_most (((a.take (min (a.length : Int) 12).toNat).drop 0)) 1
    have m2 := cntF_most (((a.take (min (a.length : Int) 12).toNat).drop 0)) 2
    have m3 := cntF_most (((a.take (min (a.length : Int) 12).toNat).drop 0)) 3
    have m4 := cntF_most (((a.take (min (a.length : Int) 12).toNat).drop 0)) 4
    rw [e0] at m0; rw [e1] at m1; rw [e2] at m2; rw [e3] at m3; rw [e4] at m4
    conv => whnf
    repeat' (first | (refine tell (fun hQ => ?_) (fun hQ => ?_) <;> (try dsimp only at hQ) <;> first | (exfalso; omega) | (exact absurd rfl hQ) | (exact absurd (by decide) hQ) | (conv => whnf)) | (refine allG (x := u0) (by first | exact hu0 | simpa [List.getElem?_append_right, lowOf] using hu0 | fail) ?_; conv => whnf) | (refine allLst (x := u0) (by first | omega | assumption | fail) (by first | exact hu0 | simpa using hu0 | fail) ?_; conv => whnf) | (refine allG (x := u1) (by first | exact hu1 | simpa [List.getElem?_append_right, lowOf] using hu1 | fail) ?_; conv => whnf) | (refine allLst (x := u1) (by first | omega | assumption | fail) (by first | exact hu1 | simpa using hu1 | fail) ?_; conv => whnf) | (refine allG (x := u2) (by first | exact hu2 | simpa [List.getElem?_append_right, lowOf] using hu2 | fail) ?_; conv => whnf) | (refine allLst (x := u2) (by first | omega | assumption | fail) (by first | exact hu2 | simpa using hu2 | fail) ?_; conv => whnf) | (refine allG (x := u3) (by first | exact hu3 | simpa [List.getElem?_append_right, lowOf] using hu3 | fail) ?_; conv => whnf) | (refine allLst (x := u3) (by first | omega | assumption | fail) (by first | exact hu3 | simpa using hu3 | fail) ?_; conv => whnf) | (refine allG (x := u4) (by first | exact hu4 | simpa [List.getElem?_append_right, lowOf] using hu4 | fail) ?_; conv => whnf) | (refine allLst (x := u4) (by first | omega | assumption | fail) (by first | exact hu4 | simpa using hu4 | fail) ?_; conv => whnf) | (refine allG rfl ?_; conv => whnf) | (refine And.intro (by first | omega | assumption | kernel_rfl | exact And.intro rfl rfl | ((try dsimp only [inR, idx, lowOf]); first | omega | (with_reducible decide) | (simp; omega) | (simp; done) | fail) | fail) ?_; conv => whnf) | fail)
    exact ⟨(), [], trivial, rfl, trivial, trivial⟩
end Go.Sx


/-
  Layer 21, part F: TraceShares, over what awake tells.
-/
namespace Go.Sx
open Go Go.Proofs Go.Proofs.YtmogappoadglgaaDoor
def spHas21 : Spec AF where
  γ := List Int × Int
  δ := Bool
  args := fun g => [.lst 3 g.1, vI g.2]
  own := fun _ => []
  pre := fun g => g.1.length ≤ 9223372036854775807
  nnew := 0
  res := fun _ c => vB c
  own' := fun _ _ => []
  post := fun g c => (c = true ↔ g.2 ∈ g.1)
theorem notin_snoc {l : List Int} {i : Nat} {x y : Int} (hy : l[i]? = some y) (hno : ¬ x ∈ l.take i) (he : ¬ y = x) : ¬ x ∈ l.take (i + 1) := by
  rw [take_snocI hy]
  intro h
  rcases List.mem_append.1 h with h | h
  · exact hno h
  · exact he (List.mem_singleton.1 h).symm
theorem m_has21 : Meets Tryd.prog regF 34 spHas21 := by
  refine meets Tryd.func34 18 noWr rfl (by kernel_rfl) (by kernel_rfl) ?_
  rintro ⟨(l : List Int), (x : Int)⟩ (hl : l.length ≤ 9223372036854775807)
  conv => whnf
  repeat' (first | (refine tell (fun hQ => ?_) (fun hQ => ?_) <;> (try dsimp only at hQ) <;> first | (exfalso; omega) | (exact absurd rfl hQ) | (exact absurd hQ hne) | (exact absurd hne hQ) | (exact absurd (by decide) hQ) | (conv => whnf)) | (refine allG rfl ?_; conv => whnf) | (refine And.intro (by first | omega | assumption | kernel_rfl | exact And.intro rfl rfl | ((try dsimp only [inR, idx, lowOf]); first | omega | (with_reducible decide) | (simp; omega) | (simp; done) | fail) | fail) ?_; conv => whnf) | fail)
  refine ⟨Nat, fun i => ⟨[(0, .lst 3 l), (1, vI x), (5, vI i)], []⟩, fun i => i ≤ l.length ∧ ¬ x ∈ l.take i, fun i => l.length - i, fun _ _ => rfl, ⟨0, [], ⟨Nat.zero_le _, by simp⟩, ?_⟩, ?_⟩
  · refine ⟨rfl, ?_, ?_, rfl⟩
    all_goals (repeat' (first | exact trivial | exact rfl | refine And.intro ?_ ?_ | (refine congrArg vI ?_; first | omega | (dsimp only; omega) | fail) | (refine congrArg some ?_) | omega | exact Nat.le_refl _ | exact congrArg (SV.lst _) (List.take_of_length_le (Nat.le_refl _)).symm))
  rintro (i : Nat) ⟨(hi : i ≤ l.length), (hno : ¬ x ∈ l.take i)⟩
  by_cases hlt : i < l.length
  · have hobt : ∃ y, l[i]? = some y := ⟨_, List.getElem?_eq_getElem hlt⟩
    obtain ⟨y, hy⟩ := hobt
    by_cases he : y = x
    · subst he
      conv => whnf
      repeat' (first | (refine tell (fun hQ => ?_) (fun hQ => ?_) <;> (try dsimp only at hQ) <;> first | (exfalso; omega) | (exact absurd rfl hQ) | (exact absurd hQ hne) | (exact absurd hne hQ) | (exact absurd (by decide) hQ) | (conv => whnf)) | (refine allG (x := y) (by first | exact hy | simpa [List.getElem?_append_right, lowOf] using hy | fail) ?_; conv => whnf) | (refine allLst (x := y) (by first | omega | assumption | fail) (by first | exact hy | simpa using hy | fail) ?_; conv => whnf) | (refine allG rfl ?_; conv => whnf) | (refine And.intro (by first | omega | assumption | kernel_rfl | exact And.intro rfl rfl | ((try dsimp only [inR, idx, lowOf]); first | omega | (with_reducible decide) | (simp; omega) | (simp; done) | fail) | fail) ?_; conv => whnf) | fail)
      exact ⟨true, [], ⟨fun _ => List.mem_of_getElem? hy, fun _ => rfl⟩, rfl, trivial, trivial⟩
    · conv => whnf
      repeat' (first | (refine tell (fun hQ => ?_) (fun hQ => ?_) <;> (try dsimp only at hQ) <;> first | (exfalso; omega) | (exact absurd rfl hQ) | (exact absurd hQ hne) | (exact absurd hne hQ) | (exact absurd (by decide) hQ) | (conv => whnf)) | (refine allG (x := y) (by first | exact hy | simpa [List.getElem?_append_right, lowOf] using hy | fail) ?_; conv => whnf) | (refine allLst (x := y) (by first | omega | assumption | fail) (by first | exact hy | simpa using hy | fail) ?_; conv => whnf) | (refine allG rfl ?_; conv => whnf) | (refine And.intro (by first | omega | assumption | kernel_rfl | exact And.intro rfl rfl | ((try dsimp only [inR, idx, lowOf]); first | omega | (with_reducible decide) | (simp; omega) | (simp; done) | fail) | fail) ?_; conv => whnf) | fail)
      refine ⟨i + 1, [], ⟨hlt, notin_snoc hy hno he⟩, ?_, rfl, ?_, ?_, rfl⟩
      · dsimp only; first | omega | (simp; done) | (simp; omega)
      all_goals (repeat' (first | exact trivial | exact rfl | refine And.intro ?_ ?_ | (refine congrArg vI ?_; first | omega | (dsimp only; omega) | fail) | (refine congrArg some ?_) | omega | exact Nat.le_refl _ | exact congrArg (SV.lst _) (List.take_of_length_le (Nat.le_refl _)).symm))
  · conv => whnf
    repeat' (first | (refine tell (fun hQ => ?_) (fun hQ => ?_) <;> (try dsimp only at hQ) <;> first | (exfalso; omega) | (exact absurd rfl hQ) | (exact absurd hQ hne) | (exact absurd hne hQ) | (exact absurd (by decide) hQ) | (conv => whnf)) | (refine allG rfl ?_; conv => whnf) | (refine And.intro (by first | omega | assumption | kernel_rfl | exact And.intro rfl rfl | ((try dsimp only [inR, idx, lowOf]); first | omega | (with_reducible decide) | (simp; omega) | (simp; done) | fail) | fail) ?_; conv => whnf) | fail)
    have hn : ¬ x ∈ l := by rw [List.take_of_length_le (by omega)] at hno; exact hno
    exact ⟨false, [], ⟨fun h => (by cases h), fun h => absurd h hn⟩, rfl, trivial, trivial⟩
theorem has21_ex (l : List Int) (x : Int) : ∃ c : Bool, (c = true ↔ x ∈ l) := pred_ex _
set_option maxHeartbeats 3200000 in
theorem m_sharesR (hA : Meets Tryd.prog regF 32 spAwake) : Meets Tryd.prog regF 8 (spLaw (fun l : LL => [.lst 23 l]) (fun l => l.length ≤ 9223372036854775807 ∧ ∀ xs ∈ l, xs.length ≤ 17592186044416)) := by
  refine meets Tryd.func8 145 noWr rfl (by kernel_rfl) (by kernel_rfl) ?_
  rintro (l : LL) ⟨(hl : l.length ≤ 9223372036854775807), (hls : ∀ xs ∈ l, xs.length ≤ 17592186044416)⟩
  have hc8 : (((l.take (min (l.length : Int) 8).toNat).drop 0)).length ≤ 8 := by simp; omega
  have hcs : ∀ xs ∈ (((l.take (min (l.length : Int) 8).toNat).drop 0)), xs.length ≤ 17592186044416 := fun xs h => hls xs (List.mem_of_mem_take h)
  conv => whnf
  repeat' (first | (refine tell (fun hQ => ?_) (fun hQ => ?_) <;> (try dsimp only at hQ) <;> first | (exfalso; omega) | (exact absurd rfl hQ) | (exact absurd hQ hne) | (exact absurd hne hQ) | (exact absurd (by decide) hQ) | (conv => whnf)) | (refine allG rfl ?_; conv => whnf) | (refine And.intro (by first | omega | assumption | kernel_rfl | exact And.intro rfl rfl | ((try dsimp only [inR, idx, lowOf]); first | omega | (with_reducible decide) | (simp; omega) | (simp; done) | fail) | fail) ?_; conv => whnf) | fail)
  refine ⟨_, hA, (), [], false, ?_⟩
  conv => whnf
  refine And.intro (vc0 trivial (by (repeat' (first | exact trivial | exact rfl | refine And.intro ?_ ?_ | (refine congrArg vI ?_; first | omega | (dsimp only; omega) | fail) | (refine congrArg some ?_) | omega | exact Nat.le_refl _ | exact congrArg (SV.lst _) (List.take_of_length_le (Nat.le_refl _)).symm))) (by repeat' (first | exact trivial | exact rfl | refine And.intro ?_ ?_ | (refine congrArg vI ?_; first | omega | (dsimp only; omega) | fail) | (refine congrArg some ?_) | omega | exact Nat.le_refl _ | exact congrArg (SV.lst _) (List.take_of_length_le (Nat.le_refl _)).symm)) trivial trivial) ?_
  refine And.intro ⟨(), trivial⟩ (fun (_ : Unit) _ => ?_)
  conv => whnf
  conv => whnf
  repeat' (first | (refine tell (fun hQ => ?_) (fun hQ => ?_) <;> (try dsimp only at hQ) <;> first | (exfalso; omega) | (exact absurd rfl hQ) | (exact absurd hQ hne) | (exact absurd hne hQ) | (exact absurd (by decide) hQ) | (conv => whnf)) | (refine allG rfl ?_; conv => whnf) | (refine And.intro (by first | omega | assumption | kernel_rfl | exact And.intro rfl rfl | ((try dsimp only [inR, idx, lowOf]); first | omega | (with_reducible decide) | (simp; omega) | (simp; done) | fail) | fail) ?_; conv => whnf) | fail)
  refine ⟨_, m_shared, (((l.take (min (l.length : Int) 8).toNat).drop 0)), [], false, ?_⟩
  conv => whnf
  refine And.intro (vc0 ⟨(show (((l.take (min (l.length : Int) 8).toNat).drop 0)).length ≤ 1000000 by omega), hcs⟩ (by (repeat' (first | exact trivial | exact rfl | refine And.intro ?_ ?_ | (refine congrArg vI ?_; first | omega | (dsimp only; omega) | fail) | (refine congrArg some ?_) | omega | exact Nat.le_refl _ | exact congrArg (SV.lst _) (List.take_of_length_le (Nat.le_refl _)).symm))) (by repeat' (first | exact trivial | exact rfl | refine And.intro ?_ ?_ | (refine congrArg vI ?_; first | omega | (dsimp only; omega) | fail) | (refine congrArg some ?_) | omega | exact Nat.le_refl _ | exact congrArg (SV.lst _) (List.take_of_length_le (Nat.le_refl _)).symm)) trivial trivial) ?_
  refine And.intro (sharedR_ex _) ?_
  rintro ⟨(pa : Int), (pb : Int), (px : Int), (pc : Bool)⟩ (hS : SharedR (((l.take (min (l.length : Int) 8).toNat).drop 0)) (pa, pb, px, pc))
  have hS2 := hS
  rcases hS2 with ⟨he, hno⟩ | ⟨a, b, x, xs, ys, he, hab, hxs, hys, hx, hmin, hfst⟩
  · obtain ⟨rfl, rfl, rfl, rfl⟩ : pa = 0 ∧ pb = 0 ∧ px = 0 ∧ pc = false := by
      have := Prod.mk.inj he; have h2 := Prod.mk.inj this.2; have h3 := Prod.mk.inj h2.2; exact ⟨this.1, h2.1, h3.1, h3.2⟩
    conv => whnf
    repeat' (first | (refine tell (fun hQ => ?_) (fun hQ => ?_) <;> (try dsimp only at hQ) <;> first | (exfalso; omega) | (exact absurd rfl hQ) | (exact absurd hQ hne) | (exact absurd hne hQ) | (exact absurd (by decide) hQ) | (conv => whnf)) | (refine allG rfl ?_; conv => whnf) | (refine And.intro (by first | omega | assumption | kernel_rfl | exact And.intro rfl rfl | ((try dsimp only [inR, idx, lowOf]); first | omega | (with_reducible decide) | (simp; omega) | (simp; done) | fail) | fail) ?_; conv => whnf) | fail)
    refine ⟨Nat, fun i => ⟨[(0, .lst 23 (((l.take (min (l.length : Int) 8).toNat).drop 0))), (3, vB true), (4, vI 0), (5, vI 0), (6, vI 0), (7, vB false), (8, .val (.func (.func 34) #[] #[])), (9, vI i)], []⟩, fun i => i ≤ (((l.take (min (l.length : Int) 8).toNat).drop 0)).length, fun i => (((l.take (min (l.length : Int) 8).toNat).drop 0)).length - i, fun _ _ => rfl, ⟨0, [], Nat.zero_le _, ?_⟩, ?_⟩
    · refine ⟨rfl, ?_, ?_, rfl⟩
      all_goals (repeat' (first | exact trivial | exact rfl | refine And.intro ?_ ?_ | (refine congrArg vI ?_; first | omega | (dsimp only; omega) | fail) | (refine congrArg some ?_) | omega | exact Nat.le_refl _ | exact congrArg (SV.lst _) (List.take_of_length_le (Nat.le_refl _)).symm))
    rintro (i : Nat) (hi : i ≤ (((l.take (min (l.length : Int) 8).toNat).drop 0)).length)
    by_cases hlt : i < (((l.take (min (l.length : Int) 8).toNat).drop 0)).length
    · have hobt : ∃ us, (((l.take (min (l.length : Int) 8).toNat).drop 0))[i]? = some us := ⟨_, List.getElem?_eq_getElem hlt⟩
      obtain ⟨us, hus⟩ := hobt
      have hul := hcs us (List.mem_of_getElem? hus)
      conv => whnf
      repeat' (first | (refine tell (fun hQ => ?_) (fun hQ => ?_) <;> (try dsimp only at hQ) <;> first | (exfalso; omega) | (exact absurd rfl hQ) | (exact absurd hQ hne) | (exact absurd hne hQ) | (exact absurd (by decide) hQ) | (conv => whnf)) | (refine allG rfl ?_; conv => whnf) | (refine And.intro (by first | omega | assumption | kernel_rfl | exact And.intro rfl rfl | ((try dsimp only [inR, idx, lowOf]); first | omega | (with_reducible decide) | (simp; omega) | (simp; done) | fail) | fail) ?_; conv => whnf) | fail)
      refine ⟨Nat, fun j => ⟨[(0, .lst 23 (((l.take (min (l.length : Int) 8).toNat).drop 0))), (3, vB true), (4, vI 0), (5, vI 0), (6, vI 0), (7, vB false), (8, .val (.func (.func 34) #[] #[])), (9, vI i), (10, vI j)], []⟩, fun j => i + 1 ≤ j ∧ j ≤ (((l.take (min (l.length : Int) 8).toNat).drop 0)).length, fun j => (((l.take (min (l.length : Int) 8).toNat).drop 0)).length - j, fun _ _ => rfl, ⟨i + 1, [], ⟨Nat.le_refl _, hlt⟩, ?_⟩, ?_⟩
      · refine ⟨rfl, ?_, ?_, rfl⟩
        all_goals (repeat' (first | exact trivial | exact rfl | refine And.intro ?_ ?_ | (refine congrArg vI ?_; first | omega | (dsimp only; omega) | fail) | (refine congrArg some ?_) | omega | exact Nat.le_refl _ | exact congrArg (SV.lst _) (List.take_of_length_le (Nat.le_refl _)).symm))
      rintro (j : Nat) ⟨(hj1 : i + 1 ≤ j), (hj : j ≤ (((l.take (min (l.length : Int) 8).toNat).drop 0)).length)⟩
      by_cases hjl : j < (((l.take (min (l.length : Int) 8).toNat).drop 0)).length
      · have hobt : ∃ vs, (((l.take (min (l.length : Int) 8).toNat).drop 0))[j]? = some vs := ⟨_, List.getElem?_eq_getElem hjl⟩
        obtain ⟨vs, hvs⟩ := hobt
        have hvl := hcs vs (List.mem_of_getElem? hvs)
        conv => whnf
        repeat' (first | (refine tell (fun hQ => ?_) (fun hQ => ?_) <;> (try dsimp only at hQ) <;> first | (exfalso; omega) | (exact absurd rfl hQ) | (exact absurd hQ hne) | (exact absurd hne hQ) | (exact absurd (by decide) hQ) | (conv => whnf)) | (refine allG rfl ?_; conv => whnf) | (refine And.intro (by first | omega | assumption | kernel_rfl | exact And.intro rfl rfl | ((try dsimp only [inR, idx, lowOf]); first | omega | (with_reducible decide) | (simp; omega) | (simp; done) | fail) | fail) ?_; conv => whnf) | fail)
        refine ⟨Nat, fun k => ⟨[(0, .lst 23 (((l.take (min (l.length : Int) 8).toNat).drop 0))), (3, vB true), (4, vI 0), (5, vI 0), (6, vI 0), (7, vB false), (8, .val (.func (.func 34) #[] #[])), (9, vI i), (10, vI j), (11, vI k)], []⟩, fun k => k ≤ us.length, fun k => us.length - k, fun _ _ => rfl, ⟨0, [], Nat.zero_le _, ?_⟩, ?_⟩
        · refine ⟨rfl, ?_, ?_, rfl⟩
          all_goals (repeat' (first | exact trivial | exact rfl | refine And.intro ?_ ?_ | (refine congrArg vI ?_; first | omega | (dsimp only; omega) | fail) | (refine congrArg some ?_) | omega | exact Nat.le_refl _ | exact congrArg (SV.lst _) (List.take_of_length_le (Nat.le_refl _)).symm))
        rintro (k : Nat) (hk : k ≤ us.length)
        by_cases hkl : k < us.length
        · have hobt : ∃ y, us[k]? = some y := ⟨_, List.getElem?_eq_getElem hkl⟩
          obtain ⟨y, hy⟩ := hobt
          conv => whnf
          repeat' (first | (refine tell (fun hQ => ?_) (fun hQ => ?_) <;> (try dsimp only at hQ) <;> first | (exfalso; omega) | (exact absurd rfl hQ) | (exact absurd hQ hne) | (exact absurd hne hQ) | (exact absurd (by decide) hQ) | (conv => whnf)) | (refine allG (x := us) (by first | exact hus | simpa [List.getElem?_append_right, lowOf] using hus | fail) ?_; conv => whnf) | (refine allLst (x := us) (by first | omega | assumption | fail) (by first | exact hus | simpa using hus | fail) ?_; conv => whnf) | (refine allG (x := vs) (by first | exact hvs | simpa [List.getElem?_append_right, lowOf] using hvs | fail) ?_; conv => whnf) | (refine allLst (x := vs) (by first | omega | assumption | fail) (by first | exact hvs | simpa using hvs | fail) ?_; conv => whnf) | (refine allG (x := y) (by first | exact hy | simpa [List.getElem?_append_right, lowOf] using hy | fail) ?_; conv => whnf) | (refine allLst (x := y) (by first | omega | assumption | fail) (by first | exact hy | simpa using hy | fail) ?_; conv => whnf) | (refine allG rfl ?_; conv => whnf) | (refine And.intro (by first | omega | assumption | kernel_rfl | exact And.intro rfl rfl | ((try dsimp only [inR, idx, lowOf]); first | omega | (with_reducible decide) | (simp; omega) | (simp; done) | fail) | fail) ?_; conv => whnf) | fail)
          refine ⟨_, m_has21, (vs, y), [], false, ?_⟩
          conv => whnf
          refine And.intro (vc0 (show vs.length ≤ 9223372036854775807 by omega) (by (repeat' (first | exact trivial | exact rfl | refine And.intro ?_ ?_ | (refine congrArg vI ?_; first | omega | (dsimp only; omega) | fail) | (refine congrArg some ?_) | omega | exact Nat.le_refl _ | exact congrArg (SV.lst _) (List.take_of_length_le (Nat.le_refl _)).symm))) (by repeat' (first | exact trivial | exact rfl | refine And.intro ?_ ?_ | (refine congrArg vI ?_; first | omega | (dsimp only; omega) | fail) | (refine congrArg some ?_) | omega | exact Nat.le_refl _ | exact congrArg (SV.lst _) (List.take_of_length_le (Nat.le_refl _)).symm)) trivial trivial) ?_
          refine And.intro (has21_ex _ _) ?_
          intro (q : Bool) (hq : q = true ↔ y ∈ vs)
          cases q
          · conv => whnf
            repeat' (first | (refine tell (fun hQ => ?_) (fun hQ => ?_) <;> (try dsimp only at hQ) <;> first | (exfalso; omega) | (exact absurd rfl hQ) | (exact absurd hQ hne) | (exact absurd hne hQ) | (exact absurd (by decide) hQ) | (conv => whnf)) | (refine allG (x := us) (by first | exact hus | simpa [List.getElem?_append_right, lowOf] using hus | fail) ?_; conv => whnf) | (refine allLst (x := us) (by first | omega | assumption | fail) (by first | exact hus | simpa using hus | fail) ?_; conv => whnf) | (refine allG rfl ?_; conv => whnf) | (refine And.intro (by first | omega | assumption | kernel_rfl | exact And.intro rfl rfl | ((try dsimp only [inR, idx, lowOf]); first | omega | (with_reducible decide) | (simp; omega) | (simp; done) | fail) | fail) ?_; conv => whnf) | fail)
            refine ⟨k + 1, [], hkl, ?_, rfl, ?_, ?_, rfl⟩
            · dsimp only; first | omega | (simp; done) | (simp; omega)
            all_goals (repeat' (first | exact trivial | exact rfl | refine And.intro ?_ ?_ | (refine congrArg vI ?_; first | omega | (dsimp only; omega) | fail) | (refine congrArg some ?_) | omega | exact Nat.le_refl _ | exact congrArg (SV.lst _) (List.take_of_length_le (Nat.le_refl _)).symm))
          · have hmem : y ∈ comm us vs := mem_comm.2 ⟨List.mem_of_getElem? hy, hq.1 rfl⟩
            have h0 := hno i j us vs (by omega) hus hvs
            rw [h0] at hmem; cases hmem
        · conv => whnf
          repeat' (first | (refine tell (fun hQ => ?_) (fun hQ => ?_) <;> (try dsimp only at hQ) <;> first | (exfalso; omega) | (exact absurd rfl hQ) | (exact absurd hQ hne) | (exact absurd hne hQ) | (exact absurd (by decide) hQ) | (conv => whnf)) | (refine allG (x := us) (by first | exact hus | simpa [List.getElem?_append_right, lowOf] using hus | fail) ?_; conv => whnf) | (refine allLst (x := us) (by first | omega | assumption | fail) (by first | exact hus | simpa using hus | fail) ?_; conv => whnf) | (refine allG rfl ?_; conv => whnf) | (refine And.intro (by first | omega | assumption | kernel_rfl | exact And.intro rfl rfl | ((try dsimp only [inR, idx, lowOf]); first | omega | (with_reducible decide) | (simp; omega) | (simp; done) | fail) | fail) ?_; conv => whnf) | fail)
          refine ⟨j + 1, [], ⟨by omega, hjl⟩, ?_, rfl, ?_, ?_, rfl⟩
          · dsimp only; first | omega | (simp; done) | (simp; omega)
          all_goals (repeat' (first | exact trivial | exact rfl | refine And.intro ?_ ?_ | (refine congrArg vI ?_; first | omega | (dsimp only; omega) | fail) | (refine congrArg some ?_) | omega | exact Nat.le_refl _ | exact congrArg (SV.lst _) (List.take_of_length_le (Nat.le_refl _)).symm))
      · conv => whnf
        repeat' (first | (refine tell (fun hQ => ?_) (fun hQ => ?_) <;> (try dsimp only at hQ) <;> first | (exfalso; omega) | (exact absurd rfl hQ) | (exact absurd hQ hne) | (exact absurd hne hQ) | (exact absurd (by decide) hQ) | (conv => whnf)) | (refine allG rfl ?_; conv => whnf) | (refine And.intro (by first | omega | assumption | kernel_rfl | exact And.intro rfl rfl | ((try dsimp only [inR, idx, lowOf]); first | omega | (with_reducible decide) | (simp; omega) | (simp; done) | fail) | fail) ?_; conv => whnf) | fail)
        refine ⟨i + 1, [], hlt, ?_, rfl, ?_, ?_, rfl⟩
        · dsimp only; first | omega | (simp; done) | (simp; omega)
        all_goals (repeat' (first | exact trivial | exact rfl | refine And.intro ?_ ?_ | (refine congrArg vI ?_; first | omega | (dsimp only; omega) | fail) | (refine congrArg some ?_) | omega | exact Nat.le_refl _ | exact congrArg (SV.lst _) (List.take_of_length_le (Nat.le_refl _)).symm))
    · conv => whnf
      repeat' (first | (refine tell (fun hQ => ?_) (fun hQ => ?_) <;> (try dsimp only at hQ) <;> first | (exfalso; omega) | (exact absurd rfl hQ) | (exact absurd hQ hne) | (exact absurd hne hQ) | (exact absurd (by decide) hQ) | (conv => whnf)) | (refine allG rfl ?_; conv => whnf) | (refine And.intro (by first | omega | assumption | kernel_rfl | exact And.intro rfl rfl | ((try dsimp only [inR, idx, lowOf]); first | omega | (with_reducible decide) | (simp; omega) | (simp; done) | fail) | fail) ?_; conv => whnf) | fail)
      exact ⟨(), [], trivial, rfl, trivial, trivial⟩
  · obtain ⟨rfl, rfl, rfl, rfl⟩ : pa = a ∧ pb = b ∧ px = x ∧ pc = true := by
      have := Prod.mk.inj he; have h2 := Prod.mk.inj this.2; have h3 := Prod.mk.inj h2.2; exact ⟨this.1, h2.1, h3.1, h3.2⟩
    have hbl : b < (((l.take (min (l.length : Int) 8).toNat).drop 0)).length := (List.getElem?_eq_some_iff.1 hys).1
    conv => whnf
    repeat' (first | (refine tell (fun hQ => ?_) (fun hQ => ?_) <;> (try dsimp only at hQ) <;> first | (exfalso; omega) | (exact absurd rfl hQ) | (exact absurd hQ hne) | (exact absurd hne hQ) | (exact absurd (by decide) hQ) | (conv => whnf)) | (refine allG rfl ?_; conv => whnf) | (refine And.intro (by first | omega | assumption | kernel_rfl | exact And.intro rfl rfl | ((try dsimp only [inR, idx, lowOf]); first | omega | (with_reducible decide) | (simp; omega) | (simp; done) | fail) | fail) ?_; conv => whnf) | fail)
    refine ⟨Nat, fun i => ⟨[(0, .lst 23 (((l.take (min (l.length : Int) 8).toNat).drop 0))), (3, vB true), (4, vI a), (5, vI b), (6, vI px), (7, vB true), (8, .val (.func (.func 34) #[] #[])), (9, vI i)], []⟩, fun i => i ≤ (((l.take (min (l.length : Int) 8).toNat).drop 0)).length, fun i => (((l.take (min (l.length : Int) 8).toNat).drop 0)).length - i, fun _ _ => rfl, ⟨0, [], Nat.zero_le _, ?_⟩, ?_⟩
    · refine ⟨rfl, ?_, ?_, rfl⟩
      all_goals (repeat' (first | exact trivial | exact rfl | refine And.intro ?_ ?_ | (refine congrArg vI ?_; first | omega | (dsimp only; omega) | fail) | (refine congrArg some ?_) | omega | exact Nat.le_refl _ | exact congrArg (SV.lst _) (List.take_of_length_le (Nat.le_refl _)).symm))
    rintro (i : Nat) (hi : i ≤ (((l.take (min (l.length : Int) 8).toNat).drop 0)).length)
    by_cases hlt : i < (((l.take (min (l.length : Int) 8).toNat).drop 0)).length
    · have hobt : ∃ us, (((l.take (min (l.length : Int) 8).toNat).drop 0))[i]? = some us := ⟨_, List.getElem?_eq_getElem hlt⟩
      obtain ⟨us, hus⟩ := hobt
      have hul := hcs us (List.mem_of_getElem? hus)
      conv => whnf
      repeat' (first | (refine tell (fun hQ => ?_) (fun hQ => ?_) <;> (try dsimp only at hQ) <;> first | (exfalso; omega) | (exact absurd rfl hQ) | (exact absurd hQ hne) | (exact absurd hne hQ) | (exact absurd (by decide) hQ) | (conv => whnf)) | (refine allG rfl ?_; conv => whnf) | (refine And.intro (by first | omega | assumption | kernel_rfl | exact And.intro rfl rfl | ((try dsimp only [inR, idx, lowOf]); first | omega | (with_reducible decide) | (simp; omega) | (simp; done) | fail) | fail) ?_; conv => whnf) | fail)
      refine ⟨Nat, fun j => ⟨[(0, .lst 23 (((l.take (min (l.length : Int) 8).toNat).drop 0))), (3, vB true), (4, vI a), (5, vI b), (6, vI px), (7, vB true), (8, .val (.func (.func 34) #[] #[])), (9, vI i), (10, vI j)], []⟩, fun j => i + 1 ≤ j ∧ j ≤ (((l.take (min (l.length : Int) 8).toNat).drop 0)).length, fun j => (((l.take (min (l.length : Int) 8).toNat).drop 0)).length - j, fun _ _ => rfl, ⟨i + 1, [], ⟨Nat.le_refl _, hlt⟩, ?_⟩, ?_⟩
      · refine ⟨rfl, ?_, ?_, rfl⟩
        all_goals (repeat' (first | exact trivial | exact rfl | refine And.intro ?_ ?_ | (refine congrArg vI ?_; first | omega | (dsimp only; omega) | fail) | (refine congrArg some ?_) | omega | exact Nat.le_refl _ | exact congrArg (SV.lst _) (List.take_of_length_le (Nat.le_refl _)).symm))
      rintro (j : Nat) ⟨(hj1 : i + 1 ≤ j), (hj : j ≤ (((l.take (min (l.length : Int) 8).toNat).drop 0)).length)⟩
      by_cases hjl : j < (((l.take (min (l.length : Int) 8).toNat).drop 0)).length
      · have hobt : ∃ vs, (((l.take (min (l.length : Int) 8).toNat).drop 0))[j]? = some vs := ⟨_, List.getElem?_eq_getElem hjl⟩
        obtain ⟨vs, hvs⟩ := hobt
        have hvl := hcs vs (List.mem_of_getElem? hvs)
        conv => whnf
        repeat' (first | (refine tell (fun hQ => ?_) (fun hQ => ?_) <;> (try dsimp only at hQ) <;> first | (exfalso; omega) | (exact absurd rfl hQ) | (exact absurd hQ hne) | (exact absurd hne hQ) | (exact absurd (by decide) hQ) | (conv => whnf)) | (refine allG rfl ?_; conv => whnf) | (refine And.intro (by first | omega | assumption | kernel_rfl | exact And.intro rfl rfl | ((try dsimp only [inR, idx, lowOf]); first | omega | (with_reducible decide) | (simp; omega) | (simp; done) | fail) | fail) ?_; conv => whnf) | fail)
        refine ⟨Nat, fun k => ⟨[(0, .lst 23 (((l.take (min (l.length : Int) 8).toNat).drop 0))), (3, vB true), (4, vI a), (5, vI b), (6, vI px), (7, vB true), (8, .val (.func (.func 34) #[] #[])), (9, vI i), (10, vI j), (11, vI k)], []⟩, fun k => k ≤ us.length, fun k => us.length - k, fun _ _ => rfl, ⟨0, [], Nat.zero_le _, ?_⟩, ?_⟩
        · refine ⟨rfl, ?_, ?_, rfl⟩
          all_goals (repeat' (first | exact trivial | exact rfl | refine And.intro ?_ ?_ | (refine congrArg vI ?_; first | omega | (dsimp only; omega) | fail) | (refine congrArg some ?_) | omega | exact Nat.le_refl _ | exact congrArg (SV.lst _) (List.take_of_length_le (Nat.le_refl _)).symm))
        rintro (k : Nat) (hk : k ≤ us.length)
        by_cases hkl : k < us.length
        · have hobt : ∃ y, us[k]? = some y := ⟨_, List.getElem?_eq_getElem hkl⟩
          obtain ⟨y, hy⟩ := hobt
          conv => whnf
          repeat' (first | (refine tell (fun hQ => ?_) (fun hQ => ?_) <;> (try dsimp only at hQ) <;> first | (exfalso; omega) | (exact absurd rfl hQ) | (exact absurd hQ hne) | (exact absurd hne hQ) | (exact absurd (by decide) hQ) | (conv => whnf)) | (refine allG (x := us) (by first | exact hus | simpa [List.getElem?_append_right, lowOf] using hus | fail) ?_; conv => whnf) | (refine allLst (x := us) (by first | omega | assumption | fail) (by first | exact hus | simpa using hus | fail) ?_; conv => whnf) | (refine allG (x := vs) (by first | exact hvs | simpa [List.getElem?_append_right, lowOf] using hvs | fail) ?_; conv => whnf) | (refine allLst (x := vs) (by first | omega | assumption | fail) (by first | exact hvs | simpa using hvs | fail) ?_; conv => whnf) | (refine allG (x := y) (by first | exact hy | simpa [List.getElem?_append_right, lowOf] using hy | fail) ?_; conv => whnf) | (refine allLst (x := y) (by first | omega | assumption | fail) (by first | exact hy | simpa using hy | fail) ?_; conv => whnf) | (refine allG rfl ?_; conv => whnf) | (refine And.intro (by first | omega | assumption | kernel_rfl | exact And.intro rfl rfl | ((try dsimp only [inR, idx, lowOf]); first | omega | (with_reducible decide) | (simp; omega) | (simp; done) | fail) | fail) ?_; conv => whnf) | fail)
          refine ⟨_, m_has21, (vs, y), [], false, ?_⟩
          conv => whnf
          refine And.intro (vc0 (show vs.length ≤ 9223372036854775807 by omega) (by (repeat' (first | exact trivial | exact rfl | refine And.intro ?_ ?_ | (refine congrArg vI ?_; first | omega | (dsimp only; omega) | fail) | (refine congrArg some ?_) | omega | exact Nat.le_refl _ | exact congrArg (SV.lst _) (List.take_of_length_le (Nat.le_refl _)).symm))) (by repeat' (first | exact trivial | exact rfl | refine And.intro ?_ ?_ | (refine congrArg vI ?_; first | omega | (dsimp only; omega) | fail) | (refine congrArg some ?_) | omega | exact Nat.le_refl _ | exact congrArg (SV.lst _) (List.take_of_length_le (Nat.le_refl _)).symm)) trivial trivial) ?_
          refine And.intro (has21_ex _ _) ?_
          intro (q : Bool) (hq : q = true ↔ y ∈ vs)
          cases q
          · conv => whnf
            repeat' (first | (refine tell (fun hQ => ?_) (fun hQ => ?_) <;> (try dsimp only at hQ) <;> first | (exfalso; omega) | (exact absurd rfl hQ) | (exact absurd hQ hne) | (exact absurd hne hQ) | (exact absurd (by decide) hQ) | (conv => whnf)) | (refine allG (x := us) (by first | exact hus | simpa [List.getElem?_append_right, lowOf] using hus | fail) ?_; conv => whnf) | (refine allLst (x := us) (by first | omega | assumption | fail) (by first | exact hus | simpa using hus | fail) ?_; conv => whnf) | (refine allG rfl ?_; conv => whnf) | (refine And.intro (by first | omega | assumption | kernel_rfl | exact And.intro rfl rfl | ((try dsimp only [inR, idx, lowOf]); first | omega | (with_reducible decide) | (simp; omega) | (simp; done) | fail) | fail) ?_; conv => whnf) | fail)
            refine ⟨k + 1, [], hkl, ?_, rfl, ?_, ?_, rfl⟩
            · dsimp only; first | omega | (simp; done) | (simp; omega)
            all_goals (repeat' (first | exact trivial | exact rfl | refine And.intro ?_ ?_ | (refine congrArg vI ?_; first | omega | (dsimp only; omega) | fail) | (refine congrArg some ?_) | omega | exact Nat.le_refl _ | exact congrArg (SV.lst _) (List.take_of_length_le (Nat.le_refl _)).symm))
          · have hmem : y ∈ comm us vs := mem_comm.2 ⟨List.mem_of_getElem? hy, hq.1 rfl⟩
            have hne : ¬ comm us vs = [] := fun h => by rw [h] at hmem; cases hmem
            have hA1 : ¬ i < a := fun h => hne (hfst i j us vs (by omega) (.inl h) hus hvs)
            have hA2 : ¬ (i = a ∧ j < b) := fun h => hne (hfst i j us vs (by omega) (.inr h) hus hvs)
            have hA3 : ¬ (i = a ∧ j = b ∧ y < px) := fun ⟨h1, h2, h3⟩ => by
              subst h1; subst h2
              rw [hxs] at hus; cases hus
              rw [hys] at hvs; cases hvs
              have := hmin y hmem; omega
            by_cases e1 : i = a
            · by_cases e2 : j = b
              · conv => whnf
                repeat' (first | (refine tell (fun hQ => ?_) (fun hQ => ?_) <;> (try dsimp only at hQ) <;> first | (exfalso; omega) | (exact absurd rfl hQ) | (exact absurd hQ hne) | (exact absurd hne hQ) | (exact absurd (by decide) hQ) | (conv => whnf)) | (refine allG (x := us) (by first | exact hus | simpa [List.getElem?_append_right, lowOf] using hus | fail) ?_; conv => whnf) | (refine allLst (x := us) (by first | omega | assumption | fail) (by first | exact hus | simpa using hus | fail) ?_; conv => whnf) | (refine allG (x := y) (by first | exact hy | simpa [List.getElem?_append_right, lowOf] using hy | fail) ?_; conv => whnf) | (refine allLst (x := y) (by first | omega | assumption | fail) (by first | exact hy | simpa using hy | fail) ?_; conv => whnf) | (refine allG rfl ?_; conv => whnf) | (refine And.intro (by first | omega | assumption | kernel_rfl | exact And.intro rfl rfl | ((try dsimp only [inR, idx, lowOf]); first | omega | (with_reducible decide) | (simp; omega) | (simp; done) | fail) | fail) ?_; conv => whnf) | fail)
                refine ⟨k + 1, [], hkl, ?_, rfl, ?_, ?_, rfl⟩
                · dsimp only; first | omega | (simp; done) | (simp; omega)
                all_goals (repeat' (first | exact trivial | exact rfl | refine And.intro ?_ ?_ | (refine congrArg vI ?_; first | omega | (dsimp only; omega) | fail) | (refine congrArg some ?_) | omega | exact Nat.le_refl _ | exact congrArg (SV.lst _) (List.take_of_length_le (Nat.le_refl _)).symm))
              · conv => whnf
                repeat' (first | (refine tell (fun hQ => ?_) (fun hQ => ?_) <;> (try dsimp only at hQ) <;> first | (exfalso; omega) | (exact absurd rfl hQ) | (exact absurd hQ hne) | (exact absurd hne hQ) | (exact absurd (by decide) hQ) | (conv => whnf)) | (refine allG (x := us) (by first | exact hus | simpa [List.getElem?_append_right, lowOf] using hus | fail) ?_; conv => whnf) | (refine allLst (x := us) (by first | omega | assumption | fail) (by first | exact hus | simpa using hus | fail) ?_; conv => whnf) | (refine allG (x := y) (by first | exact hy | simpa [List.getElem?_append_right, lowOf] using hy | fail) ?_; conv => whnf) | (refine allLst (x := y) (by first | omega | assumption | fail) (by first | exact hy | simpa using hy | fail) ?_; conv => whnf) | (refine allG rfl ?_; conv => whnf) | (refine And.intro (by first | omega | assumption | kernel_rfl | exact And.intro rfl rfl | ((try dsimp only [inR, idx, lowOf]); first | omega | (with_reducible decide) | (simp; omega) | (simp; done) | fail) | fail) ?_; conv => whnf) | fail)
                refine ⟨k + 1, [], hkl, ?_, rfl, ?_, ?_, rfl⟩
                · dsimp only; first | omega | (simp; done) | (simp; omega)
                all_goals (repeat' (first | exact trivial | exact rfl | refine And.intro ?_ ?_ | (refine congrArg vI ?_; first | omega | (dsimp only; omega) | fail) | (refine congrArg some ?_) | omega | exact Nat.le_refl _ | exact congrArg (SV.lst _) (List.take_of_length_le (Nat.le_refl _)).symm))
            · conv => whnf
              repeat' (first | (refine tell (fun hQ => ?_) (fun hQ => ?_) <;> (try dsimp only at hQ) <;> first | (exfalso; omega) | (exact absurd rfl hQ) | (exact absurd hQ hne) | (exact absurd hne hQ) | (exact absurd (by decide) hQ) | (conv => whnf)) | (refine allG (x := us) (by first | exact hus | simpa [List.getElem?_append_right, lowOf] using hus | fail) ?_; conv => whnf) | (refine allLst (x := us) (by first | omega | assumption | fail) (by first | exact hus | simpa using hus | fail) ?_; conv => whnf) | (refine allG (x := y) (by first | exact hy | simpa [List.getElem?_append_right, lowOf] using hy | fail) ?_; conv => whnf) | (refine allLst (x := y) (by first | omega | assumption | fail) (by first | exact hy | simpa using hy | fail) ?_; conv => whnf) | (refine allG rfl ?_; conv => whnf) | (refine And.intro (by first | omega | assumption | kernel_rfl | exact And.intro rfl rfl | ((try dsimp only [inR, idx, lowOf]); first | omega | (with_reducible decide) | (simp; omega) | (simp; done) | fail) | fail) ?_; conv => whnf) | fail)
              refine ⟨k + 1, [], hkl, ?_, rfl, ?_, ?_, rfl⟩
              · dsimp only; first | omega | (simp; done) | (simp; omega)
              all_goals (repeat' (first | exact trivial | exact rfl | refine And.intro ?_ ?_ | (refine congrArg vI ?_; first | omega | (dsimp only; omega) | fail) | (refine congrArg some ?_) | omega | exact Nat.le_refl _ | exact congrArg (SV.lst _) (List.take_of_length_le (Nat.le_refl _)).symm))
        · conv => whnf
          repeat' (first | (refine tell (fun hQ => ?_) (fun hQ => ?_) <;> (try dsimp only at hQ) <;> first | (exfalso; omega) | (exact absurd rfl hQ) | (exact absurd hQ hne) | (exact absurd hne hQ) | (exact absurd (by decide) hQ) | (conv => whnf)) | (refine allG (x := us) (by first | exact hus | simpa [List.getElem?_append_right, lowOf] using hus | fail) ?_; conv => whnf) | (refine allLst (x := us) (by first | omega | assumption | fail) (by first | exact hus | simpa using hus | fail) ?_; conv => whnf) | (refine allG rfl ?_; conv => whnf) | (refine And.intro (by first | omega | assumption | kernel_rfl | exact And.intro rfl rfl | ((try dsimp only [inR, idx, lowOf]); first | omega | (with_reducible decide) | (simp; omega) | (simp; done) | fail) | fail) ?_; conv => whnf) | fail)
          refine ⟨j + 1, [], ⟨by omega, hjl⟩, ?_, rfl, ?_, ?_, rfl⟩
          · dsimp only; first | omega | (simp; done) | (simp; omega)
          all_goals (repeat' (first | exact trivial | exact rfl | refine And.intro ?_ ?_ | (refine congrArg vI ?_; first | omega | (dsimp only; omega) | fail) | (refine congrArg some ?_) | omega | exact Nat.le_refl _ | exact congrArg (SV.lst _) (List.take_of_length_le (Nat.le_refl _)).symm))
      · conv => whnf
        repeat' (first | (refine tell (fun hQ => ?_) (fun hQ => ?_) <;> (try dsimp only at hQ) <;> first | (exfalso; omega) | (exact absurd rfl hQ) | (exact absurd hQ hne) | (exact absurd hne hQ) | (exact absurd (by decide) hQ) | (conv => whnf)) | (refine allG rfl ?_; conv => whnf) | (refine And.intro (by first | omega | assumption | kernel_rfl | exact And.intro rfl rfl | ((try dsimp only [inR, idx, lowOf]); first | omega | (with_reducible decide) | (simp; omega) | (simp; done) | fail) | fail) ?_; conv => whnf) | fail)
        refine ⟨i + 1, [], hlt, ?_, rfl, ?_, ?_, rfl⟩
        · dsimp only; first | omega | (simp; done) | (simp; omega)
        all_goals (repeat' (first | exact trivial | exact rfl | refine And.intro ?_ ?_ | (refine congrArg vI ?_; first | omega | (dsimp only; omega) | fail) | (refine congrArg some ?_) | omega | exact Nat.le_refl _ | exact congrArg (SV.lst _) (List.take_of_length_le (Nat.le_refl _)).symm))
    · conv => whnf
      repeat' (first | (refine tell (fun hQ => ?_) (fun hQ => ?_) <;> (try dsimp only at hQ) <;> first | (exfalso; omega) | (exact absurd rfl hQ) | (exact absurd hQ hne) | (exact absurd hne hQ) | (exact absurd (by decide) hQ) | (conv => whnf)) | (refine allG rfl ?_; conv => whnf) | (refine And.intro (by first | omega | assumption | kernel_rfl | exact And.intro rfl rfl | ((try dsimp only [inR, idx, lowOf]); first | omega | (with_reducible decide) | (simp; omega) | (simp; done) | fail) | fail) ?_; conv => whnf) | fail)
      have hxl := hcs xs (List.mem_of_getElem? hxs)
      have hyl := hcs ys (List.mem_of_getElem? hys)
      conv => whnf
      repeat' (first | (refine tell (fun hQ => ?_) (fun hQ => ?_) <;> (try dsimp only at hQ) <;> first | (exfalso; omega) | (exact absurd rfl hQ) | (exact absurd hQ hne) | (exact absurd hne hQ) | (exact absurd (by decide) hQ) | (conv => whnf)) | (refine allG (x := xs) (by first | exact hxs | simpa [List.getElem?_append_right, lowOf] using hxs | fail) ?_; conv => whnf) | (refine allLst (x := xs) (by first | omega | assumption | fail) (by first | exact hxs | simpa using hxs | fail) ?_; conv => whnf) | (refine allG rfl ?_; conv => whnf) | (refine And.intro (by first | omega | assumption | kernel_rfl | exact And.intro rfl rfl | ((try dsimp only [inR, idx, lowOf]); first | omega | (with_reducible decide) | (simp; omega) | (simp; done) | fail) | fail) ?_; conv => whnf) | fail)
      refine ⟨_, m_has21, (xs, px), [], false, ?_⟩
      conv => whnf
      refine And.intro (vc0 (show xs.length ≤ 9223372036854775807 by omega) (by (repeat' (first | exact trivial | exact rfl | refine And.intro ?_ ?_ | (refine congrArg vI ?_; first | omega | (dsimp only; omega) | fail) | (refine congrArg some ?_) | omega | exact Nat.le_refl _ | exact congrArg (SV.lst _) (List.take_of_length_le (Nat.le_refl _)).symm))) (by repeat' (first | exact trivial | exact rfl | refine And.intro ?_ ?_ | (refine congrArg vI ?_; first | omega | (dsimp only; omega) | fail) | (refine congrArg some ?_) | omega | exact Nat.le_refl _ | exact congrArg (SV.lst _) (List.take_of_length_le (Nat.le_refl _)).symm)) trivial trivial) ?_
      refine And.intro (has21_ex _ _) ?_
      intro (q : Bool) (hq : q = true ↔ px ∈ xs)
      have hobt := hq.2 (mem_comm.1 hx).1
      obtain rfl := hobt
      conv => whnf
      repeat' (first | (refine tell (fun hQ => ?_) (fun hQ => ?_) <;> (try dsimp only at hQ) <;> first | (exfalso; omega) | (exact absurd rfl hQ) | (exact absurd hQ hne) | (exact absurd hne hQ) | (exact absurd (by decide) hQ) | (conv => whnf)) | (refine allG (x := ys) (by first | exact hys | simpa [List.getElem?_append_right, lowOf] using hys | fail) ?_; conv => whnf) | (refine allLst (x := ys) (by first | omega | assumption | fail) (by first | exact hys | simpa using hys | fail) ?_; conv => whnf) | (refine allG rfl ?_; conv => whnf) | (refine And.intro (by first | omega | assumption | kernel_rfl | exact And.intro rfl rfl | ((try dsimp only [inR, idx, lowOf]); first | omega | (with_reducible decide) | (simp; omega) | (simp; done) | fail) | fail) ?_; conv => whnf) | fail)
      refine ⟨_, m_has21, (ys, px), [], false, ?_⟩
      conv => whnf
      refine And.intro (vc0 (show ys.length ≤ 9223372036854775807 by omega) (by (repeat' (first | exact trivial | exact rfl | refine And.intro ?_ ?_ | (refine congrArg vI ?_; first | omega | (dsimp only; omega) | fail) | (refine congrArg some ?_) | omega | exact Nat.le_refl _ | exact congrArg (SV.lst _) (List.take_of_length_le (Nat.le_refl _)).symm))) (by repeat' (first | exact trivial | exact rfl | refine And.intro ?_ ?_ | (refine congrArg vI ?_; first | omega | (dsimp only; omega) | fail) | (refine congrArg some ?_) | omega | exact Nat.le_refl _ | exact congrArg (SV.lst _) (List.take_of_length_le (Nat.le_refl _)).symm)) trivial trivial) ?_
      refine And.intro (has21_ex _ _) ?_
      intro (q : Bool) (hq : q = true ↔ px ∈ ys)
      have hobt := hq.2 (mem_comm.1 hx).2
      obtain rfl := hobt
      conv => whnf
      repeat' (first | (refine tell (fun hQ => ?_) (fun hQ => ?_) <;> (try dsimp only at hQ) <;> first | (exfalso; omega) | (exact absurd rfl hQ) | (exact absurd hQ hne) | (exact absurd hne hQ) | (exact absurd (by decide) hQ) | (conv => whnf)) | (refine allG rfl ?_; conv => whnf) | (refine And.intro (by first | omega | assumption | kernel_rfl | exact And.intro rfl rfl | ((try dsimp only [inR, idx, lowOf]); first | omega | (with_reducible decide) | (simp; omega) | (simp; done) | fail) | fail) ?_; conv => whnf) | fail)
      exact ⟨(), [], trivial, rfl, trivial, trivial⟩
end Go.Sx


/-
  Layer 21, part G: TraceKinds, over what awake tells.
-/
namespace Go.Sx
open Go Go.Proofs Go.Proofs.YtmogappoadglgaaDoor
theorem m_pick21 : Meets Tryd.prog regF 35 spPick := by
  refine meets Tryd.func35 13 noWr rfl (by kernel_rfl) (by kernel_rfl) ?_
  rintro ⟨(c : Int), (n : Int)⟩ ⟨⟨hc1, hc2⟩, (hn : 0 < n)⟩
  conv => whnf
  repeat' (first | (refine tell (fun hQ => ?_) (fun hQ => ?_) <;> (try dsimp only at hQ) <;> first | (exfalso; omega) | (exact absurd rfl hQ) | (exact absurd hQ hne) | (exact absurd hne hQ) | (exact absurd (by decide) hQ) | (conv => whnf)) | (refine allG rfl ?_; conv => whnf) | (refine And.intro (by first | omega | assumption | kernel_rfl | exact And.intro rfl rfl | ((try dsimp only [inR, idx, lowOf]); first | omega | (with_reducible decide) | (simp; omega) | (simp; done) | fail) | fail) ?_; conv => whnf) | fail)
  all_goals exact ⟨(), [], trivial, eI (by unfold pickF; first | rw [if_pos (by assumption)] | rw [if_neg (by assumption)]), trivial, trivial⟩
/-- C, C+1, .. -/
def upF (c : Int) (n : Nat) : List Int := (List.range n).map fun (i : Nat) => c + (i : Int)
theorem upF_succ (c : Int) (n : Nat) : upF c (n + 1) = upF c n ++ [c + (n : Int)] := by unfold upF; rw [List.range_succ, List.map_append]; rfl
theorem upF_len (c : Int) (n : Nat) : (upF c n).length = n := by simp [upF]
theorem upF_get (c : Int) (n i : Nat) (h : i < n) : (upF c n)[i]? = some (c + (i : Int)) := by simp [upF, h]
theorem kind_same (a : List Int) : kindF a a = 1 := if_pos rfl
theorem kind_tail {a : List Int} (h : 1 < a.length) : kindF a (a.drop 1) = 2 := by
  unfold kindF
  rw [if_neg (fun e => by have := congrArg List.length e; simp at this; omega), if_pos ⟨h, rfl⟩]
theorem kind_more {a b : List Int} (h : a <+: b) (hl : a.length < b.length) : kindF a b = 3 := by
  unfold kindF
  rw [if_neg (fun e => by rw [e] at hl; omega), if_neg (fun e => by have := congrArg List.length e.2; simp at this; omega), if_pos h]
theorem kind_first {a b : List Int} (h : b <+: a) (hb : b.length = 1) (hl : 2 < a.length) : kindF a b = 4 := by
  unfold kindF
  rw [if_neg (fun e => by rw [e] at hl; omega), if_neg (fun e => by have := congrArg List.length e.2; simp at this; omega), if_neg (fun e => by have := e.length_le; omega), if_pos ⟨hb, h⟩]
theorem kind_none {a b : List Int} (h1 : a ≠ b) (h2 : a.drop 1 ≠ b) (h3 : b.length < a.length) (h4 : ¬ (b.length = 1 ∧ b <+: a)) : kindF a b = 0 := by
  unfold kindF
  rw [if_neg h1, if_neg (fun e => h2 e.2), if_neg (fun e => by have := e.length_le; omega), if_neg h4]
theorem two_cons {l : List Int} {x y : Int} (h0 : l[0]? = some x) (h1 : l[1]? = some y) : ∃ r, l = x :: y :: r := by
  match l, h0, h1 with
  | p :: q :: r, h0, h1 => cases h0; cases h1; exact ⟨r, rfl⟩
theorem kB {x y z : Int} {r : List Int} (h : x ≠ y) : kindF ((x :: y :: r) ++ [z]) (x :: y :: r) = 0 :=
  kind_none (fun e => by have := congrArg List.length e; simp at this) (fun e => by simp at e; exact h e.1.symm) (by simp) (fun e => by simp at e)
theorem kC {x y : Int} {r : List Int} (hr : 0 < r.length) : kindF (x :: y :: r) [x] = 4 :=
  kind_first ⟨y :: r, rfl⟩ rfl (by simp; omega)
theorem kD {x y : Int} {r : List Int} (h : x ≠ y) (hr : 0 < r.length) : kindF (x :: y :: r) [y] = 0 :=
  kind_none (fun e => by cases e) (fun e => by simp at e; rw [e] at hr; cases hr) (by simp) (fun e => by obtain ⟨_, t, ht⟩ := e; simp at ht; exact h ht.1.symm)
theorem kE {x y : Int} {r : List Int} : kindF (x :: y :: r) [] = 0 :=
  kind_none (fun e => by cases e) (fun e => by cases e) (by simp) (fun e => by cases e.1)
theorem kF {x y : Int} {r : List Int} : kindF [] (x :: y :: r) = 3 := kind_more ⟨_, rfl⟩ (by simp)
set_option maxHeartbeats 3200000 in
theorem m_kindsR (hA : Meets Tryd.prog regF 32 spAwake) : Meets Tryd.prog regF 9 (spLaw (fun g : Int × Int => [vI g.1, vI g.2]) (fun g => InI g.1 ∧ InI g.2)) := by
  refine meets Tryd.func9 93 noWr rfl (by kernel_rfl) (by kernel_rfl) ?_
  rintro ⟨(a : Int), (b : Int)⟩ ⟨(ha : InI a), (hb : InI b)⟩
  have h18 := pickF_bd (c := a) (n := 18) (by decide)
  have hC := pickF_bd (c := b) (n := 1000) (by decide)
  have hobt : ∃ N : Nat, (N : Int) = 3 + pickF a 18 := ⟨(3 + pickF a 18).toNat, by omega⟩
  obtain ⟨N, hN⟩ := hobt
  conv => whnf
  repeat' (first | (refine tell (fun hQ => ?_) (fun hQ => ?_) <;> (try dsimp only at hQ) <;> first | (exfalso; omega) | (exact absurd rfl hQ) | (exact absurd hQ hne) | (exact absurd hne hQ) | (exact absurd (by decide) hQ) | (conv => whnf)) | (refine allG rfl ?_; conv => whnf) | (refine And.intro (by first | omega | assumption | kernel_rfl | exact And.intro rfl rfl | ((try dsimp only [inR, idx, lowOf]); first | omega | (with_reducible decide) | (simp; omega) | (simp; done) | fail) | fail) ?_; conv => whnf) | fail)
  refine ⟨_, hA, (), [], false, ?_⟩
  conv => whnf
  refine And.intro (vc0 trivial (by (repeat' (first | exact trivial | exact rfl | refine And.intro ?_ ?_ | (refine congrArg vI ?_; first | omega | (dsimp only; omega) | fail) | (refine congrArg some ?_) | omega | exact Nat.le_refl _ | exact congrArg (SV.lst _) (List.take_of_length_le (Nat.le_refl _)).symm))) (by repeat' (first | exact trivial | exact rfl | refine And.intro ?_ ?_ | (refine congrArg vI ?_; first | omega | (dsimp only; omega) | fail) | (refine congrArg some ?_) | omega | exact Nat.le_refl _ | exact congrArg (SV.lst _) (List.take_of_length_le (Nat.le_refl _)).symm)) trivial trivial) ?_
  refine And.intro ⟨(), trivial⟩ (fun (_ : Unit) _ => ?_)
  conv => whnf
  conv => whnf
  repeat' (first | (refine tell (fun hQ => ?_) (fun hQ => ?_) <;> (try dsimp only at hQ) <;> first | (exfalso; omega) | (exact absurd rfl hQ) | (exact absurd hQ hne) | (exact absurd hne hQ) | (exact absurd (by decide) hQ) | (conv => whnf)) | (refine allG rfl ?_; conv => whnf) | (refine And.intro (by first | omega | assumption | kernel_rfl | exact And.intro rfl rfl | ((try dsimp only [inR, idx, lowOf]); first | omega | (with_reducible decide) | (simp; omega) | (simp; done) | fail) | fail) ?_; conv => whnf) | fail)
  refine ⟨_, m_pick21, (a, 18), [], false, ?_⟩
  conv => whnf
  refine And.intro (vc0 ⟨ha, (by decide : (0 : Int) < 18)⟩ (by (repeat' (first | exact trivial | exact rfl | refine And.intro ?_ ?_ | (refine congrArg vI ?_; first | omega | (dsimp only; omega) | fail) | (refine congrArg some ?_) | omega | exact Nat.le_refl _ | exact congrArg (SV.lst _) (List.take_of_length_le (Nat.le_refl _)).symm))) (by repeat' (first | exact trivial | exact rfl | refine And.intro ?_ ?_ | (refine congrArg vI ?_; first | omega | (dsimp only; omega) | fail) | (refine congrArg some ?_) | omega | exact Nat.le_refl _ | exact congrArg (SV.lst _) (List.take_of_length_le (Nat.le_refl _)).symm)) trivial trivial) ?_
  refine And.intro ⟨(), trivial⟩ (fun (_ : Unit) _ => ?_)
  conv => whnf
  conv => whnf
  repeat' (first | (refine tell (fun hQ => ?_) (fun hQ => ?_) <;> (try dsimp only at hQ) <;> first | (exfalso; omega) | (exact absurd rfl hQ) | (exact absurd hQ hne) | (exact absurd hne hQ) | (exact absurd (by decide) hQ) | (conv => whnf)) | (refine allG rfl ?_; conv => whnf) | (refine And.intro (by first | omega | assumption | kernel_rfl | exact And.intro rfl rfl | ((try dsimp only [inR, idx, lowOf]); first | omega | (with_reducible decide) | (simp; omega) | (simp; done) | fail) | fail) ?_; conv => whnf) | fail)
  refine ⟨_, m_pick21, (b, 1000), [], false, ?_⟩
  conv => whnf
  refine And.intro (vc0 ⟨hb, (by decide : (0 : Int) < 1000)⟩ (by (repeat' (first | exact trivial | exact rfl | refine And.intro ?_ ?_ | (refine congrArg vI ?_; first | omega | (dsimp only; omega) | fail) | (refine congrArg some ?_) | omega | exact Nat.le_refl _ | exact congrArg (SV.lst _) (List.take_of_length_le (Nat.le_refl _)).symm))) (by repeat' (first | exact trivial | exact rfl | refine And.intro ?_ ?_ | (refine congrArg vI ?_; first | omega | (dsimp only; omega) | fail) | (refine congrArg some ?_) | omega | exact Nat.le_refl _ | exact congrArg (SV.lst _) (List.take_of_length_le (Nat.le_refl _)).symm)) trivial trivial) ?_
  refine And.intro ⟨(), trivial⟩ (fun (_ : Unit) _ => ?_)
  conv => whnf
  conv => whnf
  repeat' (first | (refine tell (fun hQ => ?_) (fun hQ => ?_) <;> (try dsimp only at hQ) <;> first | (exfalso; omega) | (exact absurd rfl hQ) | (exact absurd hQ hne) | (exact absurd hne hQ) | (exact absurd (by decide) hQ) | (conv => whnf)) | (refine allG rfl ?_; conv => whnf) | (refine And.intro (by first | omega | assumption | kernel_rfl | exact And.intro rfl rfl | ((try dsimp only [inR, idx, lowOf]); first | omega | (with_reducible decide) | (simp; omega) | (simp; done) | fail) | fail) ?_; conv => whnf) | fail)
  refine ⟨Nat, fun i => ⟨[(5, vB true), (6, vI N), (7, vI (pickF b 1000)), (8, .sl 3000 1 0 i), (9, vI i)], [(3000, .arr 3 (upF (pickF b 1000) i))]⟩, fun i => i ≤ N, fun i => N - i, fun _ _ => rfl, ⟨0, [], Nat.zero_le _, ?_⟩, ?_⟩
  · refine ⟨rfl, ?_, ?_, rfl⟩
    all_goals (repeat' (first | exact trivial | exact rfl | refine And.intro ?_ ?_ | (refine congrArg vI ?_; first | omega | (dsimp only; omega) | fail) | (refine congrArg some ?_) | omega | exact Nat.le_refl _ | exact congrArg (SV.lst _) (List.take_of_length_le (Nat.le_refl _)).symm))
  rintro (i : Nat) (hi : i ≤ N)
  have hli := upF_len (pickF b 1000) i
  have hsu := upF_succ (pickF b 1000) i
  by_cases hlt : i < N
  · conv => whnf
    repeat' (first | (refine tell (fun hQ => ?_) (fun hQ => ?_) <;> (try dsimp only at hQ) <;> first | (exfalso; omega) | (exact absurd rfl hQ) | (exact absurd hQ hne) | (exact absurd hne hQ) | (exact absurd (by decide) hQ) | (conv => whnf)) | (refine allG rfl ?_; conv => whnf) | (refine And.intro (by first | omega | assumption | kernel_rfl | exact And.intro rfl rfl | ((try dsimp only [inR, idx, lowOf]); first | omega | (with_reducible decide) | (simp; omega) | (simp; done) | fail) | fail) ?_; conv => whnf) | fail)
    refine ⟨i + 1, [(3000, 1028)], hlt, ?_, rfl, ?_, ?_, rfl⟩
    · dsimp only; first | omega | (simp; done) | (simp; omega)
    all_goals (repeat' (first | exact trivial | exact rfl | refine And.intro ?_ ?_ | (refine congrArg vI ?_; first | omega | (dsimp only; omega) | fail) | (refine congrArg some ?_) | omega | exact Nat.le_refl _ | exact congrArg (SV.lst _) (List.take_of_length_le (Nat.le_refl _)).symm))
    exact congrArg (Ct.arr (A := AF) 3) (show ((upF (pickF b 1000) i).drop 0).take i ++ [pickF b 1000 + (i : Int)] = upF (pickF b 1000) (i + 1) by rw [hsu, List.drop_zero, List.take_of_length_le (by omega)])
  · have hiN : i = N := by omega
    subst hiN
    have hx0 := upF_get (pickF b 1000) i 0 (by omega)
    have hx1 := upF_get (pickF b 1000) i 1 (by omega)
    conv => whnf
    repeat' (first | (refine tell (fun hQ => ?_) (fun hQ => ?_) <;> (try dsimp only at hQ) <;> first | (exfalso; omega) | (exact absurd rfl hQ) | (exact absurd hQ hne) | (exact absurd hne hQ) | (exact absurd (by decide) hQ) | (conv => whnf)) | (refine allG rfl ?_; conv => whnf) | (refine And.intro (by first | omega | assumption | kernel_rfl | exact And.intro rfl rfl | ((try dsimp only [inR, idx, lowOf]); first | omega | (with_reducible decide) | (simp; omega) | (simp; done) | fail) | fail) ?_; conv => whnf) | fail)
    refine ⟨Nat, fun j => ⟨[(5, vB true), (6, vI i), (7, vI (pickF b 1000)), (8, .sl 3000 1 0 i), (10, vI j)], [(3000, .arr 3 ((upF (pickF b 1000) i)))]⟩, fun j => j + 1 ≤ i, fun j => i - j, fun _ _ => rfl, ⟨0, [], (show 0 + 1 ≤ i by omega), ?_⟩, ?_⟩
    · refine ⟨rfl, ?_, ?_, rfl⟩
      all_goals (repeat' (first | exact trivial | exact rfl | refine And.intro ?_ ?_ | (refine congrArg vI ?_; first | omega | (dsimp only; omega) | fail) | (refine congrArg some ?_) | omega | exact Nat.le_refl _ | exact congrArg (SV.lst _) (List.take_of_length_le (Nat.le_refl _)).symm))
    rintro (j : Nat) (hj : j + 1 ≤ i)
    by_cases hjl : j + 1 < i
    · have hk2 : kindF (((((upF (pickF b 1000) i)).drop (0 + j)).take (i - j))) (((((upF (pickF b 1000) i)).drop (0 + (j + 1))).take (i - (j + 1)))) = 2 := by
        rw [List.take_of_length_le (by rw [List.length_drop]; omega), List.take_of_length_le (by rw [List.length_drop]; omega), Nat.zero_add, Nat.zero_add, ← List.drop_drop]
        exact kind_tail (by rw [List.length_drop]; omega)
      conv => whnf
      repeat' (first | (refine tell (fun hQ => ?_) (fun hQ => ?_) <;> (try dsimp only at hQ) <;> first | (exfalso; omega) | (exact absurd rfl hQ) | (exact absurd hQ hne) | (exact absurd hne hQ) | (exact absurd (by decide) hQ) | (conv => whnf)) | (refine allG rfl ?_; conv => whnf) | (refine And.intro (by first | omega | assumption | kernel_rfl | exact And.intro rfl rfl | ((try dsimp only [inR, idx, lowOf]); first | omega | (with_reducible decide) | (simp; omega) | (simp; done) | fail) | fail) ?_; conv => whnf) | fail)
      refine ⟨_, m_kind, ((((((upF (pickF b 1000) i)).drop (0 + j)).take (i - j))), (((((upF (pickF b 1000) i)).drop (0 + (j + 1))).take (i - (j + 1))))), [], true, ?_⟩
      conv => whnf
      refine And.intro (vc0 ⟨(show (((((upF (pickF b 1000) i)).drop (0 + j)).take (i - j))).length ≤ 9223372036854775807 by rw [List.length_take]; omega), (show (((((upF (pickF b 1000) i)).drop (0 + (j + 1))).take (i - (j + 1)))).length ≤ 9223372036854775807 by rw [List.length_take]; omega)⟩ (by (repeat' (first | exact trivial | exact rfl | refine And.intro ?_ ?_ | (refine congrArg vI ?_; first | omega | (dsimp only; omega) | fail) | (refine congrArg some ?_) | omega | exact Nat.le_refl _ | exact congrArg (SV.lst _) (List.take_of_length_le (Nat.le_refl _)).symm)); all_goals (first | (show 0 + j + (i - j) ≤ ((upF (pickF b 1000) i)).length; omega) | (show 0 + (j + 1) + (i - (j + 1)) ≤ ((upF (pickF b 1000) i)).length; omega) | fail)) (by repeat' (first | exact trivial | exact rfl | refine And.intro ?_ ?_ | (refine congrArg vI ?_; first | omega | (dsimp only; omega) | fail) | (refine congrArg some ?_) | omega | exact Nat.le_refl _ | exact congrArg (SV.lst _) (List.take_of_length_le (Nat.le_refl _)).symm)) trivial (.inr (fun _ => ⟨rfl, fun h ct he => by rcases h with _ | _ | h <;> first | (cases he; done) | (cases he; rfl)⟩))) ?_
      refine And.intro ⟨(), trivial⟩ (fun (_ : Unit) _ => ?_)
      conv => whnf
      skip
      conv => whnf
      repeat' (first | (refine tell (fun hQ => ?_) (fun hQ => ?_) <;> (try dsimp only at hQ) <;> first | (exfalso; omega) | (exact absurd rfl hQ) | (exact absurd hQ hne) | (exact absurd hne hQ) | (exact absurd (by decide) hQ) | (conv => whnf)) | (refine allG rfl ?_; conv => whnf) | (refine And.intro (by first | omega | assumption | kernel_rfl | exact And.intro rfl rfl | ((try dsimp only [inR, idx, lowOf]); first | omega | (with_reducible decide) | (simp; omega) | (simp; done) | fail) | fail) ?_; conv => whnf) | fail)
      refine ⟨j + 1, [], (by omega), ?_, rfl, ?_, ?_, rfl⟩
      · dsimp only; first | omega | (simp; done) | (simp; omega)
      all_goals (repeat' (first | exact trivial | exact rfl | refine And.intro ?_ ?_ | (refine congrArg vI ?_; first | omega | (dsimp only; omega) | fail) | (refine congrArg some ?_) | omega | exact Nat.le_refl _ | exact congrArg (SV.lst _) (List.take_of_length_le (Nat.le_refl _)).symm))
    · have hL0 : (((((upF (pickF b 1000) i)).drop 0).take i)) = ((upF (pickF b 1000) i)) := by rw [List.drop_zero, List.take_of_length_le (by omega)]
      have hLl : (((((upF (pickF b 1000) i)).drop 0).take i)).length = i := by rw [hL0]; exact hli
      have hk1 : kindF (((((upF (pickF b 1000) i)).drop 0).take i)) (((((upF (pickF b 1000) i)).drop 0).take i)) = 1 := kind_same _
      conv => whnf
      repeat' (first | (refine tell (fun hQ => ?_) (fun hQ => ?_) <;> (try dsimp only at hQ) <;> first | (exfalso; omega) | (exact absurd rfl hQ) | (exact absurd hQ hne) | (exact absurd hne hQ) | (exact absurd (by decide) hQ) | (conv => whnf)) | (refine allG rfl ?_; conv => whnf) | (refine And.intro (by first | omega | assumption | kernel_rfl | exact And.intro rfl rfl | ((try dsimp only [inR, idx, lowOf]); first | omega | (with_reducible decide) | (simp; omega) | (simp; done) | fail) | fail) ?_; conv => whnf) | fail)
      refine ⟨_, m_kind, ((((((upF (pickF b 1000) i)).drop 0).take i)), (((((upF (pickF b 1000) i)).drop 0).take i))), [], true, ?_⟩
      conv => whnf
      refine And.intro (vc0 ⟨(show (((((upF (pickF b 1000) i)).drop 0).take i)).length ≤ 9223372036854775807 by omega), (show (((((upF (pickF b 1000) i)).drop 0).take i)).length ≤ 9223372036854775807 by omega)⟩ (by (repeat' (first | exact trivial | exact rfl | refine And.intro ?_ ?_ | (refine congrArg vI ?_; first | omega | (dsimp only; omega) | fail) | (refine congrArg some ?_) | omega | exact Nat.le_refl _ | exact congrArg (SV.lst _) (List.take_of_length_le (Nat.le_refl _)).symm)); all_goals (first | (show 0 + i ≤ ((upF (pickF b 1000) i)).length; omega) | fail)) (by repeat' (first | exact trivial | exact rfl | refine And.intro ?_ ?_ | (refine congrArg vI ?_; first | omega | (dsimp only; omega) | fail) | (refine congrArg some ?_) | omega | exact Nat.le_refl _ | exact congrArg (SV.lst _) (List.take_of_length_le (Nat.le_refl _)).symm)) trivial (.inr (fun _ => ⟨rfl, fun h ct he => by rcases h with _ | _ | h <;> first | (cases he; done) | (cases he; rfl)⟩))) ?_
      refine And.intro ⟨(), trivial⟩ (fun (_ : Unit) _ => ?_)
      conv => whnf
      have hm : ((((((upF (pickF b 1000) i)).drop 0).take i)).drop 0).take i = ((upF (pickF b 1000) i)) := by rw [hL0, List.drop_zero, List.take_of_length_le (by omega)]
      have hY : (((((((((((upF (pickF b 1000) i)).drop 0).take i)).drop 0).take i ++ (([((pickF b 1000)) - 1] : List Int).drop 0).take 1)).drop 0).take (i + 1))) = ((upF (pickF b 1000) i)) ++ [((pickF b 1000)) - 1] := by rw [hm, List.drop_zero, List.take_of_length_le (by rw [List.length_append, hli]; exact Nat.le_refl _)]; rfl
      have hYY : ((((((((upF (pickF b 1000) i)).drop 0).take i)).drop 0).take i ++ (([((pickF b 1000)) - 1] : List Int).drop 0).take 1)).length = i + 1 := by rw [hm, List.length_append, hli]; rfl
      have hYl : (((((((((((upF (pickF b 1000) i)).drop 0).take i)).drop 0).take i ++ (([((pickF b 1000)) - 1] : List Int).drop 0).take 1)).drop 0).take (i + 1))).length = i + 1 := by rw [hY, List.length_append, hli]; rfl
      have hobt := two_cons hx0 hx1
      obtain ⟨r, hX⟩ := hobt
      have hrl : 0 < r.length := by have h := hli; rw [hX] at h; simp at h; omega
      have hne : (((pickF b 1000)) + ((0 : Nat) : Int)) ≠ ((pickF b 1000)) + ((1 : Nat) : Int) := by omega
      have hT1 : (((((upF (pickF b 1000) i)).drop 0).take 1)) = [((pickF b 1000)) + ((0 : Nat) : Int)] := by rw [hX]; rfl
      have hT2 : (((((upF (pickF b 1000) i)).drop 1).take 1)) = [((pickF b 1000)) + ((1 : Nat) : Int)] := by rw [hX]; rfl
      have f2 : kindF (((((upF (pickF b 1000) i)).drop 0).take i)) (((((((((((upF (pickF b 1000) i)).drop 0).take i)).drop 0).take i ++ (([((pickF b 1000)) - 1] : List Int).drop 0).take 1)).drop 0).take (i + 1))) = 3 := by rw [hY, hL0]; exact kind_more ⟨_, rfl⟩ (by simp)
      have f3 : kindF (((((((((((upF (pickF b 1000) i)).drop 0).take i)).drop 0).take i ++ (([((pickF b 1000)) - 1] : List Int).drop 0).take 1)).drop 0).take (i + 1))) (((((upF (pickF b 1000) i)).drop 0).take i)) = 0 := by rw [hY, hL0, hX]; exact kB hne
      have f4 : kindF (((((upF (pickF b 1000) i)).drop 0).take i)) (((((upF (pickF b 1000) i)).drop 0).take 1)) = 4 := by rw [hT1, hL0, hX]; exact kC hrl
      have f5 : kindF (((((upF (pickF b 1000) i)).drop 0).take i)) (((((upF (pickF b 1000) i)).drop 1).take 1)) = 0 := by rw [hT2, hL0, hX]; exact kD hne hrl
      have f6 : kindF (((((upF (pickF b 1000) i)).drop 0).take i)) [] = 0 := by rw [hL0, hX]; exact kE
      have f7 : kindF [] (((((upF (pickF b 1000) i)).drop 0).take i)) = 3 := by rw [hL0, hX]; exact kF
      clear hX hY hT1 hT2 hm
      have l1 : (((((upF (pickF b 1000) i)).drop 0).take 1)).length ≤ 1 := List.length_take_le _ _
      have l2 : (((((upF (pickF b 1000) i)).drop 1).take 1)).length ≤ 1 := List.length_take_le _ _
      conv => whnf
      repeat' (first | (refine tell (fun hQ => ?_) (fun hQ => ?_) <;> (try dsimp only at hQ) <;> first | (exfalso; omega) | (exact absurd rfl hQ) | (exact absurd hQ hne) | (exact absurd hne hQ) | (exact absurd (by decide) hQ) | (conv => whnf)) | (refine allG rfl ?_; conv => whnf) | (refine And.intro (by first | omega | assumption | kernel_rfl | exact And.intro rfl rfl | ((try dsimp only [inR, idx, lowOf]); first | omega | (with_reducible decide) | (simp; omega) | (simp; done) | fail) | fail) ?_; conv => whnf) | fail)
      refine ⟨_, m_kind, ((((((upF (pickF b 1000) i)).drop 0).take i)), (((((((((((upF (pickF b 1000) i)).drop 0).take i)).drop 0).take i ++ (([((pickF b 1000)) - 1] : List Int).drop 0).take 1)).drop 0).take (i + 1)))), [], true, ?_⟩
      conv => whnf
      refine And.intro (vc0 ⟨(show (((((upF (pickF b 1000) i)).drop 0).take i)).length ≤ 9223372036854775807 by omega), (show (((((((((((upF (pickF b 1000) i)).drop 0).take i)).drop 0).take i ++ (([((pickF b 1000)) - 1] : List Int).drop 0).take 1)).drop 0).take (i + 1))).length ≤ 9223372036854775807 by omega)⟩ (by (repeat' (first | exact trivial | exact rfl | refine And.intro ?_ ?_ | (refine congrArg vI ?_; first | omega | (dsimp only; omega) | fail) | (refine congrArg some ?_) | omega | exact Nat.le_refl _ | exact congrArg (SV.lst _) (List.take_of_length_le (Nat.le_refl _)).symm)); all_goals (first | (show 0 + i ≤ ((upF (pickF b 1000) i)).length; omega) | (show 0 + (i + 1) ≤ ((((((((upF (pickF b 1000) i)).drop 0).take i)).drop 0).take i ++ (([((pickF b 1000)) - 1] : List Int).drop 0).take 1)).length; omega) | fail)) (by repeat' (first | exact trivial | exact rfl | refine And.intro ?_ ?_ | (refine congrArg vI ?_; first | omega | (dsimp only; omega) | fail) | (refine congrArg some ?_) | omega | exact Nat.le_refl _ | exact congrArg (SV.lst _) (List.take_of_length_le (Nat.le_refl _)).symm)) trivial (.inr (fun _ => ⟨rfl, fun h ct he => by rcases h with _ | _ | h <;> first | (cases he; done) | (cases he; rfl)⟩))) ?_
      refine And.intro ⟨(), trivial⟩ (fun (_ : Unit) _ => ?_)
      conv => whnf
      conv => whnf
      repeat' (first | (refine tell (fun hQ => ?_) (fun hQ => ?_) <;> (try dsimp only at hQ) <;> first | (exfalso; omega) | (exact absurd rfl hQ) | (exact absurd hQ hne) | (exact absurd hne hQ) | (exact absurd (by decide) hQ) | (conv => whnf)) | (refine allG rfl ?_; conv => whnf) | (refine And.intro (by first | omega | assumption | kernel_rfl | exact And.intro rfl rfl | ((try dsimp only [inR, idx, lowOf]); first | omega | (with_reducible decide) | (simp; omega) | (simp; done) | fail) | fail) ?_; conv => whnf) | fail)
      refine ⟨_, m_kind, ((((((((((((upF (pickF b 1000) i)).drop 0).take i)).drop 0).take i ++ (([((pickF b 1000)) - 1] : List Int).drop 0).take 1)).drop 0).take (i + 1))), (((((upF (pickF b 1000) i)).drop 0).take i))), [], true, ?_⟩
      conv => whnf
      refine And.intro (vc0 ⟨(show (((((((((((upF (pickF b 1000) i)).drop 0).take i)).drop 0).take i ++ (([((pickF b 1000)) - 1] : List Int).drop 0).take 1)).drop 0).take (i + 1))).length ≤ 9223372036854775807 by omega), (show (((((upF (pickF b 1000) i)).drop 0).take i)).length ≤ 9223372036854775807 by omega)⟩ (by (repeat' (first | exact trivial | exact rfl | refine And.intro ?_ ?_ | (refine congrArg vI ?_; first | omega | (dsimp only; omega) | fail) | (refine congrArg some ?_) | omega | exact Nat.le_refl _ | exact congrArg (SV.lst _) (List.take_of_length_le (Nat.le_refl _)).symm)); all_goals (first | (show 0 + i ≤ ((upF (pickF b 1000) i)).length; omega) | (show 0 + (i + 1) ≤ ((((((((upF (pickF b 1000) i)).drop 0).take i)).drop 0).take i ++ (([((pickF b 1000)) - 1] : List Int).drop 0).take 1)).length; omega) | fail)) (by repeat' (first | exact trivial | exact rfl | refine And.intro ?_ ?_ | (refine congrArg vI ?_; first | omega | (dsimp only; omega) | fail) | (refine congrArg some ?_) | omega | exact Nat.le_refl _ | exact congrArg (SV.lst _) (List.take_of_length_le (Nat.le_refl _)).symm)) trivial (.inr (fun _ => ⟨rfl, fun h ct he => by rcases h with _ | _ | h <;> first | (cases he; done) | (cases he; rfl)⟩))) ?_
      refine And.intro ⟨(), trivial⟩ (fun (_ : Unit) _ => ?_)
      conv => whnf
      conv => whnf
      repeat' (first | (refine tell (fun hQ => ?_) (fun hQ => ?_) <;> (try dsimp only at hQ) <;> first | (exfalso; omega) | (exact absurd rfl hQ) | (exact absurd hQ hne) | (exact absurd hne hQ) | (exact absurd (by decide) hQ) | (conv => whnf)) | (refine allG rfl ?_; conv => whnf) | (refine And.intro (by first | omega | assumption | kernel_rfl | exact And.intro rfl rfl | ((try dsimp only [inR, idx, lowOf]); first | omega | (with_reducible decide) | (simp; omega) | (simp; done) | fail) | fail) ?_; conv => whnf) | fail)
      refine ⟨_, m_kind, ((((((upF (pickF b 1000) i)).drop 0).take i)), (((((upF (pickF b 1000) i)).drop 0).take 1))), [], true, ?_⟩
      conv => whnf
      refine And.intro (vc0 ⟨(show (((((upF (pickF b 1000) i)).drop 0).take i)).length ≤ 9223372036854775807 by omega), (show (((((upF (pickF b 1000) i)).drop 0).take 1)).length ≤ 9223372036854775807 by omega)⟩ (by (repeat' (first | exact trivial | exact rfl | refine And.intro ?_ ?_ | (refine congrArg vI ?_; first | omega | (dsimp only; omega) | fail) | (refine congrArg some ?_) | omega | exact Nat.le_refl _ | exact congrArg (SV.lst _) (List.take_of_length_le (Nat.le_refl _)).symm)); all_goals (first | (show 0 + i ≤ ((upF (pickF b 1000) i)).length; omega) | (show 0 + 1 ≤ ((upF (pickF b 1000) i)).length; omega) | fail)) (by repeat' (first | exact trivial | exact rfl | refine And.intro ?_ ?_ | (refine congrArg vI ?_; first | omega | (dsimp only; omega) | fail) | (refine congrArg some ?_) | omega | exact Nat.le_refl _ | exact congrArg (SV.lst _) (List.take_of_length_le (Nat.le_refl _)).symm)) trivial (.inr (fun _ => ⟨rfl, fun h ct he => by rcases h with _ | _ | h <;> first | (cases he; done) | (cases he; rfl)⟩))) ?_
      refine And.intro ⟨(), trivial⟩ (fun (_ : Unit) _ => ?_)
      conv => whnf
      conv => whnf
      repeat' (first | (refine tell (fun hQ => ?_) (fun hQ => ?_) <;> (try dsimp only at hQ) <;> first | (exfalso; omega) | (exact absurd rfl hQ) | (exact absurd hQ hne) | (exact absurd hne hQ) | (exact absurd (by decide) hQ) | (conv => whnf)) | (refine allG rfl ?_; conv => whnf) | (refine And.intro (by first | omega | assumption | kernel_rfl | exact And.intro rfl rfl | ((try dsimp only [inR, idx, lowOf]); first | omega | (with_reducible decide) | (simp; omega) | (simp; done) | fail) | fail) ?_; conv => whnf) | fail)
      refine ⟨_, m_kind, ((((((upF (pickF b 1000) i)).drop 0).take i)), (((((upF (pickF b 1000) i)).drop 1).take 1))), [], true, ?_⟩
      conv => whnf
      refine And.intro (vc0 ⟨(show (((((upF (pickF b 1000) i)).drop 0).take i)).length ≤ 9223372036854775807 by omega), (show (((((upF (pickF b 1000) i)).drop 1).take 1)).length ≤ 9223372036854775807 by omega)⟩ (by (repeat' (first | exact trivial | exact rfl | refine And.intro ?_ ?_ | (refine congrArg vI ?_; first | omega | (dsimp only; omega) | fail) | (refine congrArg some ?_) | omega | exact Nat.le_refl _ | exact congrArg (SV.lst _) (List.take_of_length_le (Nat.le_refl _)).symm)); all_goals (first | (show 0 + i ≤ ((upF (pickF b 1000) i)).length; omega) | (show 0 + 1 + 1 ≤ ((upF (pickF b 1000) i)).length; omega) | fail)) (by repeat' (first | exact trivial | exact rfl | refine And.intro ?_ ?_ | (refine congrArg vI ?_; first | omega | (dsimp only; omega) | fail) | (refine congrArg some ?_) | omega | exact Nat.le_refl _ | exact congrArg (SV.lst _) (List.take_of_length_le (Nat.le_refl _)).symm)) trivial (.inr (fun _ => ⟨rfl, fun h ct he => by rcases h with _ | _ | h <;> first | (cases he; done) | (cases he; rfl)⟩))) ?_
      refine And.intro ⟨(), trivial⟩ (fun (_ : Unit) _ => ?_)
      conv => whnf
      conv => whnf
      repeat' (first | (refine tell (fun hQ => ?_) (fun hQ => ?_) <;> (try dsimp only at hQ) <;> first | (exfalso; omega) | (exact absurd rfl hQ) | (exact absurd hQ hne) | (exact absurd hne hQ) | (exact absurd (by decide) hQ) | (conv => whnf)) | (refine allG rfl ?_; conv => whnf) | (refine And.intro (by first | omega | assumption | kernel_rfl | exact And.intro rfl rfl | ((try dsimp only [inR, idx, lowOf]); first | omega | (with_reducible decide) | (simp; omega) | (simp; done) | fail) | fail) ?_; conv => whnf) | fail)
      refine ⟨_, m_kind, ((((((upF (pickF b 1000) i)).drop 0).take i)), []), [], true, ?_⟩
      conv => whnf
      refine And.intro (vc0 ⟨(show (((((upF (pickF b 1000) i)).drop 0).take i)).length ≤ 9223372036854775807 by omega), (by simp)⟩ (by (repeat' (first | exact trivial | exact rfl | refine And.intro ?_ ?_ | (refine congrArg vI ?_; first | omega | (dsimp only; omega) | fail) | (refine congrArg some ?_) | omega | exact Nat.le_refl _ | exact congrArg (SV.lst _) (List.take_of_length_le (Nat.le_refl _)).symm)); all_goals (first | (show 0 + i ≤ ((upF (pickF b 1000) i)).length; omega) | fail)) (by repeat' (first | exact trivial | exact rfl | refine And.intro ?_ ?_ | (refine congrArg vI ?_; first | omega | (dsimp only; omega) | fail) | (refine congrArg some ?_) | omega | exact Nat.le_refl _ | exact congrArg (SV.lst _) (List.take_of_length_le (Nat.le_refl _)).symm)) trivial (.inr (fun _ => ⟨rfl, fun h ct he => by rcases h with _ | _ | h <;> first | (cases he; done) | (cases he; rfl)⟩))) ?_
      refine And.intro ⟨(), trivial⟩ (fun (_ : Unit) _ => ?_)
      conv => whnf
      conv => whnf
      repeat' (first | (refine tell (fun hQ => ?_) (fun hQ => ?_) <;> (try dsimp only at hQ) <;> first | (exfalso; omega) | (exact absurd rfl hQ) | (exact absurd hQ hne) | (exact absurd hne hQ) | (exact absurd (by decide) hQ) | (conv => whnf)) | (refine allG rfl ?_; conv => whnf) | (refine And.intro (by first | omega | assumption | kernel_rfl | exact And.intro rfl rfl | ((try dsimp only [inR, idx, lowOf]); first | omega | (with_reducible decide) | (simp; omega) | (simp; done) | fail) | fail) ?_; conv => whnf) | fail)
      refine ⟨_, m_kind, ([], (((((upF (pickF b 1000) i)).drop 0).take i))), [], true, ?_⟩
      conv => whnf
      refine And.intro (vc0 ⟨(by simp), (show (((((upF (pickF b 1000) i)).drop 0).take i)).length ≤ 9223372036854775807 by omega)⟩ (by (repeat' (first | exact trivial | exact rfl | refine And.intro ?_ ?_ | (refine congrArg vI ?_; first | omega | (dsimp only; omega) | fail) | (refine congrArg some ?_) | omega | exact Nat.le_refl _ | exact congrArg (SV.lst _) (List.take_of_length_le (Nat.le_refl _)).symm)); all_goals (first | (show 0 + i ≤ ((upF (pickF b 1000) i)).length; omega) | fail)) (by repeat' (first | exact trivial | exact rfl | refine And.intro ?_ ?_ | (refine congrArg vI ?_; first | omega | (dsimp only; omega) | fail) | (refine congrArg some ?_) | omega | exact Nat.le_refl _ | exact congrArg (SV.lst _) (List.take_of_length_le (Nat.le_refl _)).symm)) trivial (.inr (fun _ => ⟨rfl, fun h ct he => by rcases h with _ | _ | h <;> first | (cases he; done) | (cases he; rfl)⟩))) ?_
      refine And.intro ⟨(), trivial⟩ (fun (_ : Unit) _ => ?_)
      conv => whnf
      conv => whnf
      repeat' (first | (refine tell (fun hQ => ?_) (fun hQ => ?_) <;> (try dsimp only at hQ) <;> first | (exfalso; omega) | (exact absurd rfl hQ) | (exact absurd hQ hne) | (exact absurd hne hQ) | (exact absurd (by decide) hQ) | (conv => whnf)) | (refine allG rfl ?_; conv => whnf) | (refine And.intro (by first | omega | assumption | kernel_rfl | exact And.intro rfl rfl | ((try dsimp only [inR, idx, lowOf]); first | omega | (with_reducible decide) | (simp; omega) | (simp; done) | fail) | fail) ?_; conv => whnf) | fail)
      exact ⟨(), [], trivial, rfl, trivial, trivial⟩
end Go.Sx


/-
  Layer 21, part H: Jobs.
-/
namespace Go.Sx
open Go Go.Proofs Go.Proofs.YtmogappoadglgaaDoor
/-- A job of the law's. -/
def SmallJ (j : Job) : Prop := (1 ≤ j.1 ∧ j.1 ≤ 12) ∧ (0 ≤ j.2.1 ∧ j.2.1 ≤ 4) ∧ (1 ≤ j.2.2.1 ∧ j.2.2.1 ≤ 4) ∧ (-1 ≤ j.2.2.2 ∧ j.2.2.2 ≤ 2)
def SmallJs (js : List Job) : Prop := js.length ≤ 12 ∧ ∀ j ∈ js, SmallJ j
theorem small_snoc {js : List Job} {j : Job} (h : ∀ j ∈ js, SmallJ j) (hj : SmallJ j) : ∀ x ∈ js ++ [j], SmallJ x := fun x hx => by
  rcases List.mem_append.1 hx with hx | hx
  · exact h x hx
  · rw [List.mem_singleton.1 hx]; exact hj
def spJobs : Spec AF where
  γ := List Job
  δ := List Job
  args := fun js => [.lst 107 js]
  own := fun _ => []
  pre := fun js => js.length ≤ 9223372036854775807 ∧ ∀ j ∈ js, InI j.1 ∧ InI j.2.1 ∧ InI j.2.2.1 ∧ InI j.2.2.2
  nnew := 1
  res := fun _ js => .sl 0 4 0 js.length
  own' := fun _ js => [some (.arr 107 js)]
  post := fun _ js => SmallJs js
set_option maxHeartbeats 3200000 in
theorem m_jobs : Meets Tryd.prog regF 37 spJobs := by
  refine meets Tryd.func37 65 noWr rfl (by kernel_rfl) (by kernel_rfl) ?_
  rintro (l : List Job) ⟨(hl : l.length ≤ 9223372036854775807), (hg : ∀ j ∈ l, InI j.1 ∧ InI j.2.1 ∧ InI j.2.2.1 ∧ InI j.2.2.2)⟩
  conv => whnf
  repeat' (first | (refine tell (fun hQ => ?_) (fun hQ => ?_) <;> (try dsimp only at hQ) <;> first | (exfalso; omega) | (exact absurd rfl hQ) | (exact absurd (by decide) hQ) | (conv => whnf)) | (refine allG rfl ?_; conv => whnf) | (refine And.intro (by first | omega | assumption | kernel_rfl | exact And.intro rfl rfl | ((try dsimp only [inR, idx, lowOf]); first | omega | (with_reducible decide) | (simp; omega) | (simp; done) | fail) | fail) ?_; conv => whnf) | fail)
  refine ⟨List Job × List Bool, fun p => ⟨[(0, .lst 107 l), (3, .sl 3000 4 0 p.1.length), (4, .ptr 1004 0 3 0), (5, vI p.1.length)], [(3000, .arr 107 p.1), (1004, .arr 4 p.2)]⟩, fun p => p.2.length = 3 ∧ p.1.length ≤ l.length ∧ SmallJs p.1, fun p => l.length - p.1.length, fun _ _ => rfl, ⟨([], [false, false, false]), [], ⟨rfl, Nat.zero_le _, Nat.zero_le _, fun _ h => by cases h⟩, ?_⟩, ?_⟩
  · refine ⟨rfl, ?_, ?_, rfl⟩
    all_goals (repeat' (first | exact trivial | exact rfl | refine And.intro ?_ ?_ | (refine congrArg vI ?_; first | omega | (dsimp only; omega) | fail) | (refine congrArg some ?_) | omega | exact Nat.le_refl _ | exact congrArg (SV.lst _) (List.take_of_length_le (Nat.le_refl _)).symm))
  rintro ⟨(js : List Job), (d : List Bool)⟩ ⟨(hd3 : d.length = 3), (hi : js.length ≤ l.length), (hj12 : js.length ≤ 12), (hjs : ∀ j ∈ js, SmallJ j)⟩
  by_cases hlt : js.length < l.length
  · by_cases h12 : js.length < 12
    · have hobt : ∃ y, l[js.length]? = some y := ⟨_, List.getElem?_eq_getElem hlt⟩
      obtain ⟨⟨(r1 : Int), (r2 : Int), (r3 : Int), (r4 : Int)⟩, hr⟩ := hobt
      have hgr := hg _ (List.mem_of_getElem? hr)
      have hg2 : InI r2 := hgr.2.1
      have hg3 : InI r3 := hgr.2.2.1
      have hg4 : InI r4 := hgr.2.2.2
      have b2 := pickF_bd (c := r2) (n := 5) (by decide)
      have b3 := pickF_bd (c := r3) (n := 4) (by decide)
      have b4 := pickF_bd (c := r4) (n := 3) (by decide)
      conv => whnf
      repeat' (first | (refine tell (fun hQ => ?_) (fun hQ => ?_) <;> (try dsimp only at hQ) <;> first | (exfalso; omega) | (exact absurd rfl hQ) | (exact absurd (by decide) hQ) | (conv => whnf)) | (refine allG (x := _) (by first | exact hr | simpa [List.getElem?_append_right, lowOf] using hr | fail) ?_; conv => whnf) | (refine allLst (x := _) (by first | omega | assumption | fail) (by first | exact hr | simpa using hr | fail) ?_; conv => whnf) | (refine allG rfl ?_; conv => whnf) | (refine And.intro (by first | omega | assumption | kernel_rfl | exact And.intro rfl rfl | ((try dsimp only [inR, idx, lowOf]); first | omega | (with_reducible decide) | (simp; omega) | (simp; done) | fail) | fail) ?_; conv => whnf) | fail)
      refine ⟨_, m_pick21, (r2, 5), [], false, ?_⟩
      conv => whnf
      refine And.intro (vc0 ⟨hg2, (by decide : (0 : Int) < 5)⟩ (by (repeat' (first | exact trivial | exact rfl | refine And.intro ?_ ?_ | (refine congrArg vI ?_; first | omega | (dsimp only; omega) | fail) | (refine congrArg some ?_) | omega | exact Nat.le_refl _ | exact congrArg (SV.lst _) (List.take_of_length_le (Nat.le_refl _)).symm))) (by repeat' (first | exact trivial | exact rfl | refine And.intro ?_ ?_ | (refine congrArg vI ?_; first | omega | (dsimp only; omega) | fail) | (refine congrArg some ?_) | omega | exact Nat.le_refl _ | exact congrArg (SV.lst _) (List.take_of_length_le (Nat.le_refl _)).symm)) trivial trivial) ?_
      refine And.intro ⟨(), trivial⟩ (fun (_ : Unit) _ => ?_)
      conv => whnf
      conv => whnf
      repeat' (first | (refine tell (fun hQ => ?_) (fun hQ => ?_) <;> (try dsimp only at hQ) <;> first | (exfalso; omega) | (exact absurd rfl hQ) | (exact absurd (by decide) hQ) | (conv => whnf)) | (refine allG (x := _) (by first | exact hr | simpa [List.getElem?_append_right, lowOf] using hr | fail) ?_; conv => whnf) | (refine allLst (x := _) (by first | omega | assumption | fail) (by first | exact hr | simpa using hr | fail) ?_; conv => whnf) | (refine allG rfl ?_; conv => whnf) | (refine And.intro (by first | omega | assumption | kernel_rfl | exact And.intro rfl rfl | ((try dsimp only [inR, idx, lowOf]); first | omega | (with_reducible decide) | (simp; omega) | (simp; done) | fail) | fail) ?_; conv => whnf) | fail)
      refine ⟨_, m_pick21, (r3, 4), [], false, ?_⟩
      conv => whnf
      refine And.intro (vc0 ⟨hg3, (by decide : (0 : Int) < 4)⟩ (by (repeat' (first | exact trivial | exact rfl | refine And.intro ?_ ?_ | (refine congrArg vI ?_; first | omega | (dsimp only; omega) | fail) | (refine congrArg some ?_) | omega | exact Nat.le_refl _ | exact congrArg (SV.lst _) (List.take_of_length_le (Nat.le_refl _)).symm))) (by repeat' (first | exact trivial | exact rfl | refine And.intro ?_ ?_ | (refine congrArg vI ?_; first | omega | (dsimp only; omega) | fail) | (refine congrArg some ?_) | omega | exact Nat.le_refl _ | exact congrArg (SV.lst _) (List.take_of_length_le (Nat.le_refl _)).symm)) trivial trivial) ?_
      refine And.intro ⟨(), trivial⟩ (fun (_ : Unit) _ => ?_)
      conv => whnf
      by_cases e2 : 1 + pickF r3 4 = 2
      · have hobt : ∃ v, d[(pickF r4 3).toNat]? = some v := ⟨_, List.getElem?_eq_getElem (by omega)⟩
        obtain ⟨v, hv⟩ := hobt
        conv => whnf
        repeat' (first | (refine tell (fun hQ => ?_) (fun hQ => ?_) <;> (try dsimp only at hQ) <;> first | (exfalso; omega) | (exact absurd rfl hQ) | (exact absurd (by decide) hQ) | (conv => whnf)) | (refine allG (x := _) (by first | exact hr | simpa [List.getElem?_append_right, lowOf] using hr | fail) ?_; conv => whnf) | (refine allLst (x := _) (by first | omega | assumption | fail) (by first | exact hr | simpa using hr | fail) ?_; conv => whnf) | (refine allG rfl ?_; conv => whnf) | (refine And.intro (by first | omega | assumption | kernel_rfl | exact And.intro rfl rfl | ((try dsimp only [inR, idx, lowOf]); first | omega | (with_reducible decide) | (simp; omega) | (simp; done) | fail) | fail) ?_; conv => whnf) | fail)
        refine ⟨_, m_pick21, (r4, 3), [], false, ?_⟩
        conv => whnf
        refine And.intro (vc0 ⟨hg4, (by decide : (0 : Int) < 3)⟩ (by (repeat' (first | exact trivial | exact rfl | refine And.intro ?_ ?_ | (refine congrArg vI ?_; first | omega | (dsimp only; omega) | fail) | (refine congrArg some ?_) | omega | exact Nat.le_refl _ | exact congrArg (SV.lst _) (List.take_of_length_le (Nat.le_refl _)).symm))) (by repeat' (first | exact trivial | exact rfl | refine And.intro ?_ ?_ | (refine congrArg vI ?_; first | omega | (dsimp only; omega) | fail) | (refine congrArg some ?_) | omega | exact Nat.le_refl _ | exact congrArg (SV.lst _) (List.take_of_length_le (Nat.le_refl _)).symm)) trivial trivial) ?_
        refine And.intro ⟨(), trivial⟩ (fun (_ : Unit) _ => ?_)
        conv => whnf
        cases v
        · have hlen : (js ++ [(((js.length : Int) + 1, pickF r2 5, 1 + pickF r3 4, pickF r4 3) : Job)]).length = js.length + 1 := by rw [List.length_append]; rfl
          have hsm := small_snoc (j := ((js.length : Int) + 1, pickF r2 5, 1 + pickF r3 4, pickF r4 3)) hjs ⟨⟨by dsimp only; omega, by dsimp only; omega⟩, ⟨by dsimp only; omega, by dsimp only; omega⟩, ⟨by dsimp only; omega, by dsimp only; omega⟩, ⟨by dsimp only; omega, by dsimp only; omega⟩⟩
          conv => whnf
          repeat' (first | (refine tell (fun hQ => ?_) (fun hQ => ?_) <;> (try dsimp only at hQ) <;> first | (exfalso; omega) | (exact absurd rfl hQ) | (exact absurd (by decide) hQ) | (conv => whnf)) | (refine allG (x := false) (by first | exact hv | simpa [List.getElem?_append_right, lowOf] using hv | fail) ?_; conv => whnf) | (refine allLst (x := false) (by first | omega | assumption | fail) (by first | exact hv | simpa using hv | fail) ?_; conv => whnf) | (refine allG rfl ?_; conv => whnf) | (refine And.intro (by first | omega | assumption | kernel_rfl | exact And.intro rfl rfl | ((try dsimp only [inR, idx, lowOf]); first | omega | (with_reducible decide) | (simp; omega) | (simp; done) | fail) | fail) ?_; conv => whnf) | fail)
          refine ⟨(js ++ [(((js.length : Int) + 1, pickF r2 5, 1 + pickF r3 4, pickF r4 3) : Job)], d.set (pickF r4 3).toNat true), [(3000, 1063)], ⟨(show (d.set (pickF r4 3).toNat true).length = 3 by rw [List.length_set, hd3]), (show (js ++ [(((js.length : Int) + 1, pickF r2 5, 1 + pickF r3 4, pickF r4 3) : Job)]).length ≤ l.length by omega), (show (js ++ [(((js.length : Int) + 1, pickF r2 5, 1 + pickF r3 4, pickF r4 3) : Job)]).length ≤ 12 by omega), hsm⟩, ?_, rfl, ?_, ?_, rfl⟩
          · dsimp only; first | omega | (simp; done) | (simp; omega)
          all_goals (repeat' (first | exact trivial | exact rfl | refine And.intro ?_ ?_ | (refine congrArg vI ?_; first | omega | (dsimp only; omega) | fail) | (refine congrArg some ?_) | omega | exact Nat.le_refl _ | exact congrArg (SV.lst _) (List.take_of_length_le (Nat.le_refl _)).symm))
          all_goals first | exact congrArg (SV.sl (A := AF) 1063 4 0) hlen.symm | exact congrArg (Ct.arr (A := AF) 107) (by rw [List.drop_zero, List.take_of_length_le (Nat.le_refl _)]; rfl) | fail
        · have hlen : (js ++ [(((js.length : Int) + 1, pickF r2 5, 3, pickF r4 3) : Job)]).length = js.length + 1 := by rw [List.length_append]; rfl
          have hsm := small_snoc (j := ((js.length : Int) + 1, pickF r2 5, 3, pickF r4 3)) hjs ⟨⟨by dsimp only; omega, by dsimp only; omega⟩, ⟨by dsimp only; omega, by dsimp only; omega⟩, ⟨by dsimp only; omega, by dsimp only; omega⟩, ⟨by dsimp only; omega, by dsimp only; omega⟩⟩
          conv => whnf
          repeat' (first | (refine tell (fun hQ => ?_) (fun hQ => ?_) <;> (try dsimp only at hQ) <;> first | (exfalso; omega) | (exact absurd rfl hQ) | (exact absurd (by decide) hQ) | (conv => whnf)) | (refine allG (x := true) (by first | exact hv | simpa [List.getElem?_append_right, lowOf] using hv | fail) ?_; conv => whnf) | (refine allLst (x := true) (by first | omega | assumption | fail) (by first | exact hv | simpa using hv | fail) ?_; conv => whnf) | (refine allG rfl ?_; conv => whnf) | (refine And.intro (by first | omega | assumption | kernel_rfl | exact And.intro rfl rfl | ((try dsimp only [inR, idx, lowOf]); first | omega | (with_reducible decide) | (simp; omega) | (simp; done) | fail) | fail) ?_; conv => whnf) | fail)
          refine ⟨(js ++ [(((js.length : Int) + 1, pickF r2 5, 3, pickF r4 3) : Job)], d), [(3000, 1063)], ⟨hd3, (show (js ++ [(((js.length : Int) + 1, pickF r2 5, 3, pickF r4 3) : Job)]).length ≤ l.length by omega), (show (js ++ [(((js.length : Int) + 1, pickF r2 5, 3, pickF r4 3) : Job)]).length ≤ 12 by omega), hsm⟩, ?_, rfl, ?_, ?_, rfl⟩
          · dsimp only; first | omega | (simp; done) | (simp; omega)
          all_goals (repeat' (first | exact trivial | exact rfl | refine And.intro ?_ ?_ | (refine congrArg vI ?_; first | omega | (dsimp only; omega) | fail) | (refine congrArg some ?_) | omega | exact Nat.le_refl _ | exact congrArg (SV.lst _) (List.take_of_length_le (Nat.le_refl _)).symm))
          all_goals first | exact congrArg (SV.sl (A := AF) 1063 4 0) hlen.symm | exact congrArg (Ct.arr (A := AF) 107) (by rw [List.drop_zero, List.take_of_length_le (Nat.le_refl _)]; rfl) | fail
      · by_cases e3 : 1 + pickF r3 4 = 3
        · conv => whnf
          repeat' (first | (refine tell (fun hQ => ?_) (fun hQ => ?_) <;> (try dsimp only at hQ) <;> first | (exfalso; omega) | (exact absurd rfl hQ) | (exact absurd (by decide) hQ) | (conv => whnf)) | (refine allG (x := _) (by first | exact hr | simpa [List.getElem?_append_right, lowOf] using hr | fail) ?_; conv => whnf) | (refine allLst (x := _) (by first | omega | assumption | fail) (by first | exact hr | simpa using hr | fail) ?_; conv => whnf) | (refine allG rfl ?_; conv => whnf) | (refine And.intro (by first | omega | assumption | kernel_rfl | exact And.intro rfl rfl | ((try dsimp only [inR, idx, lowOf]); first | omega | (with_reducible decide) | (simp; omega) | (simp; done) | fail) | fail) ?_; conv => whnf) | fail)
          refine ⟨_, m_pick21, (r4, 3), [], false, ?_⟩
          conv => whnf
          refine And.intro (vc0 ⟨hg4, (by decide : (0 : Int) < 3)⟩ (by (repeat' (first | exact trivial | exact rfl | refine And.intro ?_ ?_ | (refine congrArg vI ?_; first | omega | (dsimp only; omega) | fail) | (refine congrArg some ?_) | omega | exact Nat.le_refl _ | exact congrArg (SV.lst _) (List.take_of_length_le (Nat.le_refl _)).symm))) (by repeat' (first | exact trivial | exact rfl | refine And.intro ?_ ?_ | (refine congrArg vI ?_; first | omega | (dsimp only; omega) | fail) | (refine congrArg some ?_) | omega | exact Nat.le_refl _ | exact congrArg (SV.lst _) (List.take_of_length_le (Nat.le_refl _)).symm)) trivial trivial) ?_
          refine And.intro ⟨(), trivial⟩ (fun (_ : Unit) _ => ?_)
          conv => whnf
          have hlen : (js ++ [(((js.length : Int) + 1, pickF r2 5, 1 + pickF r3 4, pickF r4 3) : Job)]).length = js.length + 1 := by rw [List.length_append]; rfl
          have hsm := small_snoc (j := ((js.length : Int) + 1, pickF r2 5, 1 + pickF r3 4, pickF r4 3)) hjs ⟨⟨by dsimp only; omega, by dsimp only; omega⟩, ⟨by dsimp only; omega, by dsimp only; omega⟩, ⟨by dsimp only; omega, by dsimp only; omega⟩, ⟨by dsimp only; omega, by dsimp only; omega⟩⟩
          conv => whnf
          repeat' (first | (refine tell (fun hQ => ?_) (fun hQ => ?_) <;> (try dsimp only at hQ) <;> first | (exfalso; omega) | (exact absurd rfl hQ) | (exact absurd (by decide) hQ) | (conv => whnf)) | (refine allG rfl ?_; conv => whnf) | (refine And.intro (by first | omega | assumption | kernel_rfl | exact And.intro rfl rfl | ((try dsimp only [inR, idx, lowOf]); first | omega | (with_reducible decide) | (simp; omega) | (simp; done) | fail) | fail) ?_; conv => whnf) | fail)
          refine ⟨(js ++ [(((js.length : Int) + 1, pickF r2 5, 1 + pickF r3 4, pickF r4 3) : Job)], d), [(3000, 1063)], ⟨hd3, (show (js ++ [(((js.length : Int) + 1, pickF r2 5, 1 + pickF r3 4, pickF r4 3) : Job)]).length ≤ l.length by omega), (show (js ++ [(((js.length : Int) + 1, pickF r2 5, 1 + pickF r3 4, pickF r4 3) : Job)]).length ≤ 12 by omega), hsm⟩, ?_, rfl, ?_, ?_, rfl⟩
          · dsimp only; first | omega | (simp; done) | (simp; omega)
          all_goals (repeat' (first | exact trivial | exact rfl | refine And.intro ?_ ?_ | (refine congrArg vI ?_; first | omega | (dsimp only; omega) | fail) | (refine congrArg some ?_) | omega | exact Nat.le_refl _ | exact congrArg (SV.lst _) (List.take_of_length_le (Nat.le_refl _)).symm))
          all_goals first | exact congrArg (SV.sl (A := AF) 1063 4 0) hlen.symm | exact congrArg (Ct.arr (A := AF) 107) (by rw [List.drop_zero, List.take_of_length_le (Nat.le_refl _)]; rfl) | fail
        · have hlen : (js ++ [(((js.length : Int) + 1, pickF r2 5, 1 + pickF r3 4, -1) : Job)]).length = js.length + 1 := by rw [List.length_append]; rfl
          have hsm := small_snoc (j := ((js.length : Int) + 1, pickF r2 5, 1 + pickF r3 4, -1)) hjs ⟨⟨by dsimp only; omega, by dsimp only; omega⟩, ⟨by dsimp only; omega, by dsimp only; omega⟩, ⟨by dsimp only; omega, by dsimp only; omega⟩, ⟨by dsimp only; omega, by dsimp only; omega⟩⟩
          conv => whnf
          repeat' (first | (refine tell (fun hQ => ?_) (fun hQ => ?_) <;> (try dsimp only at hQ) <;> first | (exfalso; omega) | (exact absurd rfl hQ) | (exact absurd (by decide) hQ) | (conv => whnf)) | (refine allG rfl ?_; conv => whnf) | (refine And.intro (by first | omega | assumption | kernel_rfl | exact And.intro rfl rfl | ((try dsimp only [inR, idx, lowOf]); first | omega | (with_reducible decide) | (simp; omega) | (simp; done) | fail) | fail) ?_; conv => whnf) | fail)
          refine ⟨(js ++ [(((js.length : Int) + 1, pickF r2 5, 1 + pickF r3 4, -1) : Job)], d), [(3000, 1063)], ⟨hd3, (show (js ++ [(((js.length : Int) + 1, pickF r2 5, 1 + pickF r3 4, -1) : Job)]).length ≤ l.length by omega), (show (js ++ [(((js.length : Int) + 1, pickF r2 5, 1 + pickF r3 4, -1) : Job)]).length ≤ 12 by omega), hsm⟩, ?_, rfl, ?_, ?_, rfl⟩
          · dsimp only; first | omega | (simp; done) | (simp; omega)
          all_goals (repeat' (first | exact trivial | exact rfl | refine And.intro ?_ ?_ | (refine congrArg vI ?_; first | omega | (dsimp only; omega) | fail) | (refine congrArg some ?_) | omega | exact Nat.le_refl _ | exact congrArg (SV.lst _) (List.take_of_length_le (Nat.le_refl _)).symm))
          all_goals first | exact congrArg (SV.sl (A := AF) 1063 4 0) hlen.symm | exact congrArg (Ct.arr (A := AF) 107) (by rw [List.drop_zero, List.take_of_length_le (Nat.le_refl _)]; rfl) | fail
    · conv => whnf
      repeat' (first | (refine tell (fun hQ => ?_) (fun hQ => ?_) <;> (try dsimp only at hQ) <;> first | (exfalso; omega) | (exact absurd rfl hQ) | (exact absurd (by decide) hQ) | (conv => whnf)) | (refine allG rfl ?_; conv => whnf) | (refine And.intro (by first | omega | assumption | kernel_rfl | exact And.intro rfl rfl | ((try dsimp only [inR, idx, lowOf]); first | omega | (with_reducible decide) | (simp; omega) | (simp; done) | fail) | fail) ?_; conv => whnf) | fail)
      refine ⟨js, [3000], ⟨hj12, hjs⟩, ?_, ?_, ?_⟩
      all_goals (repeat' (first | exact trivial | exact rfl | refine And.intro ?_ ?_ | (refine congrArg vI ?_; first | omega | (dsimp only; omega) | fail) | (refine congrArg some ?_) | omega | exact Nat.le_refl _ | exact congrArg (SV.lst _) (List.take_of_length_le (Nat.le_refl _)).symm))
  · conv => whnf
    repeat' (first | (refine tell (fun hQ => ?_) (fun hQ => ?_) <;> (try dsimp only at hQ) <;> first | (exfalso; omega) | (exact absurd rfl hQ) | (exact absurd (by decide) hQ) | (conv => whnf)) | (refine allG rfl ?_; conv => whnf) | (refine And.intro (by first | omega | assumption | kernel_rfl | exact And.intro rfl rfl | ((try dsimp only [inR, idx, lowOf]); first | omega | (with_reducible decide) | (simp; omega) | (simp; done) | fail) | fail) ?_; conv => whnf) | fail)
    refine ⟨js, [3000], ⟨hj12, hjs⟩, ?_, ?_, ?_⟩
    all_goals (repeat' (first | exact trivial | exact rfl | refine And.intro ?_ ?_ | (refine congrArg vI ?_; first | omega | (dsimp only; omega) | fail) | (refine congrArg some ?_) | omega | exact Nat.le_refl _ | exact congrArg (SV.lst _) (List.take_of_length_le (Nat.le_refl _)).symm))
end Go.Sx


/-
  Layer 21, part I: Itoa of small numbers.
-/
namespace Go.Sx
open Go Go.Proofs Go.Proofs.YtmogappoadglgaaDoor
/-- The decimal digits of a number up to 12. -/
def itoaF (i : Int) : ByteArray := if i = 0 then ⟨#[48]⟩ else if i = 1 then ⟨#[49]⟩ else if i = 2 then ⟨#[50]⟩ else if i = 3 then ⟨#[51]⟩ else if i = 4 then ⟨#[52]⟩ else if i = 5 then ⟨#[53]⟩ else if i = 6 then ⟨#[54]⟩ else if i = 7 then ⟨#[55]⟩ else if i = 8 then ⟨#[56]⟩ else if i = 9 then ⟨#[57]⟩ else if i = 10 then ⟨#[49, 48]⟩ else if i = 11 then ⟨#[49, 49]⟩ else if i = 12 then ⟨#[49, 50]⟩ else ⟨#[]⟩
def spItoa : Spec AF where
  γ := Int
  δ := Unit
  args := fun i => [vI i]
  own := fun _ => []
  pre := fun i => 0 ≤ i ∧ i ≤ 12
  nnew := 0
  res := fun i _ => .val (.string (itoaF i))
  own' := fun _ _ => []
  post := fun _ _ => True
set_option maxRecDepth 100000 in
theorem m_small : Meets Tryd.prog regF 118 spItoa := by
  refine meets Tryd.func118 15 noWr rfl (by kernel_rfl) (by kernel_rfl) ?_
  rintro (i : Int) ⟨(h0 : 0 ≤ i), (h1 : i ≤ 12)⟩
  have hi : i = 0 ∨ i = 1 ∨ i = 2 ∨ i = 3 ∨ i = 4 ∨ i = 5 ∨ i = 6 ∨ i = 7 ∨ i = 8 ∨ i = 9 ∨ i = 10 ∨ i = 11 ∨ i = 12 := by omega
  rcases hi with rfl | rfl | rfl | rfl | rfl | rfl | rfl | rfl | rfl | rfl | rfl | rfl | rfl
  · conv => whnf
    repeat' (first | (refine tell (fun hQ => ?_) (fun hQ => ?_) <;> (try dsimp only at hQ) <;> first | (exfalso; omega) | (exact absurd rfl hQ) | (exact absurd (by decide) hQ) | (conv => whnf)) | (refine allG rfl ?_; conv => whnf) | (refine And.intro (by first | omega | assumption | kernel_rfl | exact And.intro rfl rfl | ((try dsimp only [inR, idx, lowOf]); first | omega | (with_reducible decide) | (simp; omega) | (simp; done) | fail) | fail) ?_; conv => whnf) | fail)
    exact ⟨(), [], trivial, eS (by kernel_rfl), trivial, trivial⟩
  · conv => whnf
    repeat' (first | (refine tell (fun hQ => ?_) (fun hQ => ?_) <;> (try dsimp only at hQ) <;> first | (exfalso; omega) | (exact absurd rfl hQ) | (exact absurd (by decide) hQ) | (conv => whnf)) | (refine allG rfl ?_; conv => whnf) | (refine And.intro (by first | omega | assumption | kernel_rfl | exact And.intro rfl rfl | ((try dsimp only [inR, idx, lowOf]); first | omega | (with_reducible decide) | (simp; omega) | (simp; done) | fail) | fail) ?_; conv => whnf) | fail)
    exact ⟨(), [], trivial, eS (by kernel_rfl), trivial, trivial⟩
  · conv => whnf
    repeat' (first | (refine tell (fun hQ => ?_) (fun hQ => ?_) <;> (try dsimp only at hQ) <;> first | (exfalso; omega) | (exact absurd rfl hQ) | (exact absurd (by decide) hQ) | (conv => whnf)) | (refine allG rfl ?_; conv => whnf) | (refine And.intro (by first | omega | assumption | kernel_rfl | exact And.intro rfl rfl | ((try dsimp only [inR, idx, lowOf]); first | omega | (with_reducible decide) | (simp; omega) | (simp; done) | fail) | fail) ?_; conv => whnf) | fail)
    exact ⟨(), [], trivial, eS (by kernel_rfl), trivial, trivial⟩
  · conv => whnf
    repeat' (first | (refine tell (fun hQ => ?_) (fun hQ => ?_) <;> (try dsimp only at hQ) <;> first | (exfalso; omega) | (exact absurd rfl hQ) | (exact absurd (by decide) hQ) | (conv => whnf)) | (refine allG rfl ?_; conv => whnf) | (refine And.intro (by first | omega | assumption | kernel_rfl | exact And.intro rfl rfl | ((try dsimp only [inR, idx, lowOf]); first | omega | (with_reducible decide) | (simp; omega) | (simp; done) | fail) | fail) ?_; conv => whnf) | fail)
    exact ⟨(), [], trivial, eS (by kernel_rfl), trivial, trivial⟩
  · conv => whnf
    repeat' (first | (refine tell (fun hQ => ?_) (fun hQ => ?_) <;> (try dsimp only at hQ) <;> first | (exfalso; omega) | (exact absurd rfl hQ) | (exact absurd (by decide) hQ) | (conv => whnf)) | (refine allG rfl ?_; conv => whnf) | (refine And.intro (by first | omega | assumption | kernel_rfl | exact And.intro rfl rfl | ((try dsimp only [inR, idx, lowOf]); first | omega | (with_reducible decide) | (simp; omega) | (simp; done) | fail) | fail) ?_; conv => whnf) | fail)
    exact ⟨(), [], trivial, eS (by kernel_rfl), trivial, trivial⟩
  · conv => whnf
    repeat' (first | (refine tell (fun hQ => ?_) (fun hQ => ?_) <;> (try dsimp only at hQ) <;> first | (exfalso; omega) | (exact absurd rfl hQ) | (exact absurd (by decide) hQ) | (conv => whnf)) | (refine allG rfl ?_; conv => whnf) | (refine And.intro (by first | omega | assumption | kernel_rfl | exact And.intro rfl rfl | ((try dsimp only [inR, idx, lowOf]); first | omega | (with_reducible decide) | (simp; omega) | (simp; done) | fail) | fail) ?_; conv => whnf) | fail)
    exact ⟨(), [], trivial, eS (by kernel_rfl), trivial, trivial⟩
  · conv => whnf
    repeat' (first | (refine tell (fun hQ => ?_) (fun hQ => ?_) <;> (try dsimp only at hQ) <;> first | (exfalso; omega) | (exact absurd rfl hQ) | (exact absurd (by decide) hQ) | (conv => whnf)) | (refine allG rfl ?_; conv => whnf) | (refine And.intro (by first | omega | assumption | kernel_rfl | exact And.intro rfl rfl | ((try dsimp only [inR, idx, lowOf]); first | omega | (with_reducible decide) | (simp; omega) | (simp; done) | fail) | fail) ?_; conv => whnf) | fail)
    exact ⟨(), [], trivial, eS (by kernel_rfl), trivial, trivial⟩
  · conv => whnf
    repeat' (first | (refine tell (fun hQ => ?_) (fun hQ => ?_) <;> (try dsimp only at hQ) <;> first | (exfalso; omega) | (exact absurd rfl hQ) | (exact absurd (by decide) hQ) | (conv => whnf)) | (refine allG rfl ?_; conv => whnf) | (refine And.intro (by first | omega | assumption | kernel_rfl | exact And.intro rfl rfl | ((try dsimp only [inR, idx, lowOf]); first | omega | (with_reducible decide) | (simp; omega) | (simp; done) | fail) | fail) ?_; conv => whnf) | fail)
    exact ⟨(), [], trivial, eS (by kernel_rfl), trivial, trivial⟩
  · conv => whnf
    repeat' (first | (refine tell (fun hQ => ?_) (fun hQ => ?_) <;> (try dsimp only at hQ) <;> first | (exfalso; omega) | (exact absurd rfl hQ) | (exact absurd (by decide) hQ) | (conv => whnf)) | (refine allG rfl ?_; conv => whnf) | (refine And.intro (by first | omega | assumption | kernel_rfl | exact And.intro rfl rfl | ((try dsimp only [inR, idx, lowOf]); first | omega | (with_reducible decide) | (simp; omega) | (simp; done) | fail) | fail) ?_; conv => whnf) | fail)
    exact ⟨(), [], trivial, eS (by kernel_rfl), trivial, trivial⟩
  · conv => whnf
    repeat' (first | (refine tell (fun hQ => ?_) (fun hQ => ?_) <;> (try dsimp only at hQ) <;> first | (exfalso; omega) | (exact absurd rfl hQ) | (exact absurd (by decide) hQ) | (conv => whnf)) | (refine allG rfl ?_; conv => whnf) | (refine And.intro (by first | omega | assumption | kernel_rfl | exact And.intro rfl rfl | ((try dsimp only [inR, idx, lowOf]); first | omega | (with_reducible decide) | (simp; omega) | (simp; done) | fail) | fail) ?_; conv => whnf) | fail)
    exact ⟨(), [], trivial, eS (by kernel_rfl), trivial, trivial⟩
  · conv => whnf
    repeat' (first | (refine tell (fun hQ => ?_) (fun hQ => ?_) <;> (try dsimp only at hQ) <;> first | (exfalso; omega) | (exact absurd rfl hQ) | (exact absurd (by decide) hQ) | (conv => whnf)) | (refine allG rfl ?_; conv => whnf) | (refine And.intro (by first | omega | assumption | kernel_rfl | exact And.intro rfl rfl | ((try dsimp only [inR, idx, lowOf]); first | omega | (with_reducible decide) | (simp; omega) | (simp; done) | fail) | fail) ?_; conv => whnf) | fail)
    exact ⟨(), [], trivial, eS (by kernel_rfl), trivial, trivial⟩
  · conv => whnf
    repeat' (first | (refine tell (fun hQ => ?_) (fun hQ => ?_) <;> (try dsimp only at hQ) <;> first | (exfalso; omega) | (exact absurd rfl hQ) | (exact absurd (by decide) hQ) | (conv => whnf)) | (refine allG rfl ?_; conv => whnf) | (refine And.intro (by first | omega | assumption | kernel_rfl | exact And.intro rfl rfl | ((try dsimp only [inR, idx, lowOf]); first | omega | (with_reducible decide) | (simp; omega) | (simp; done) | fail) | fail) ?_; conv => whnf) | fail)
    exact ⟨(), [], trivial, eS (by kernel_rfl), trivial, trivial⟩
  · conv => whnf
    repeat' (first | (refine tell (fun hQ => ?_) (fun hQ => ?_) <;> (try dsimp only at hQ) <;> first | (exfalso; omega) | (exact absurd rfl hQ) | (exact absurd (by decide) hQ) | (conv => whnf)) | (refine allG rfl ?_; conv => whnf) | (refine And.intro (by first | omega | assumption | kernel_rfl | exact And.intro rfl rfl | ((try dsimp only [inR, idx, lowOf]); first | omega | (with_reducible decide) | (simp; omega) | (simp; done) | fail) | fail) ?_; conv => whnf) | fail)
    exact ⟨(), [], trivial, eS (by kernel_rfl), trivial, trivial⟩
def spFmt : Spec AF where
  γ := Int
  δ := Unit
  args := fun i => [vI i, vI 10]
  own := fun _ => []
  pre := fun i => 0 ≤ i ∧ i ≤ 12
  nnew := 0
  res := fun i _ => .val (.string (itoaF i))
  own' := fun _ _ => []
  post := fun _ _ => True
theorem m_fmt : Meets Tryd.prog regF 108 spFmt := by
  refine meets Tryd.func108 54 noWr rfl (by kernel_rfl) (by kernel_rfl) ?_
  rintro (i : Int) ⟨(h0 : 0 ≤ i), (h1 : i ≤ 12)⟩
  conv => whnf
  repeat' (first | (refine tell (fun hQ => ?_) (fun hQ => ?_) <;> (try dsimp only at hQ) <;> first | (exfalso; omega) | (exact absurd rfl hQ) | (exact absurd (by decide) hQ) | (conv => whnf)) | (refine allG rfl ?_; conv => whnf) | (refine And.intro (by first | omega | assumption | kernel_rfl | exact And.intro rfl rfl | ((try dsimp only [inR, idx, lowOf]); first | omega | (with_reducible decide) | (simp; omega) | (simp; done) | fail) | fail) ?_; conv => whnf) | fail)
  refine ⟨_, m_small, i, [], false, ?_⟩
  conv => whnf
  refine And.intro (vc0 ⟨h0, h1⟩ (by (repeat' (first | exact trivial | exact rfl | refine And.intro ?_ ?_ | (refine congrArg vI ?_; first | omega | (dsimp only; omega) | fail) | (refine congrArg some ?_) | omega | exact Nat.le_refl _ | exact congrArg (SV.lst _) (List.take_of_length_le (Nat.le_refl _)).symm))) (by repeat' (first | exact trivial | exact rfl | refine And.intro ?_ ?_ | (refine congrArg vI ?_; first | omega | (dsimp only; omega) | fail) | (refine congrArg some ?_) | omega | exact Nat.le_refl _ | exact congrArg (SV.lst _) (List.take_of_length_le (Nat.le_refl _)).symm)) trivial trivial) ?_
  refine And.intro ⟨(), trivial⟩ (fun (_ : Unit) _ => ?_)
  conv => whnf
  conv => whnf
  repeat' (first | (refine tell (fun hQ => ?_) (fun hQ => ?_) <;> (try dsimp only at hQ) <;> first | (exfalso; omega) | (exact absurd rfl hQ) | (exact absurd (by decide) hQ) | (conv => whnf)) | (refine allG rfl ?_; conv => whnf) | (refine And.intro (by first | omega | assumption | kernel_rfl | exact And.intro rfl rfl | ((try dsimp only [inR, idx, lowOf]); first | omega | (with_reducible decide) | (simp; omega) | (simp; done) | fail) | fail) ?_; conv => whnf) | fail)
  exact ⟨(), [], trivial, rfl, trivial, trivial⟩
theorem m_itoa0 : Meets Tryd.prog regF 89 spItoa := by
  refine meets Tryd.func89 5 noWr rfl (by kernel_rfl) (by kernel_rfl) ?_
  rintro (i : Int) ⟨(h0 : 0 ≤ i), (h1 : i ≤ 12)⟩
  conv => whnf
  repeat' (first | (refine tell (fun hQ => ?_) (fun hQ => ?_) <;> (try dsimp only at hQ) <;> first | (exfalso; omega) | (exact absurd rfl hQ) | (exact absurd (by decide) hQ) | (conv => whnf)) | (refine allG rfl ?_; conv => whnf) | (refine And.intro (by first | omega | assumption | kernel_rfl | exact And.intro rfl rfl | ((try dsimp only [inR, idx, lowOf]); first | omega | (with_reducible decide) | (simp; omega) | (simp; done) | fail) | fail) ?_; conv => whnf) | fail)
  refine ⟨_, m_fmt, i, [], false, ?_⟩
  conv => whnf
  refine And.intro (vc0 ⟨h0, h1⟩ (by (repeat' (first | exact trivial | exact rfl | refine And.intro ?_ ?_ | (refine congrArg vI ?_; first | omega | (dsimp only; omega) | fail) | (refine congrArg some ?_) | omega | exact Nat.le_refl _ | exact congrArg (SV.lst _) (List.take_of_length_le (Nat.le_refl _)).symm))) (by repeat' (first | exact trivial | exact rfl | refine And.intro ?_ ?_ | (refine congrArg vI ?_; first | omega | (dsimp only; omega) | fail) | (refine congrArg some ?_) | omega | exact Nat.le_refl _ | exact congrArg (SV.lst _) (List.take_of_length_le (Nat.le_refl _)).symm)) trivial trivial) ?_
  refine And.intro ⟨(), trivial⟩ (fun (_ : Unit) _ => ?_)
  conv => whnf
  conv => whnf
  repeat' (first | (refine tell (fun hQ => ?_) (fun hQ => ?_) <;> (try dsimp only at hQ) <;> first | (exfalso; omega) | (exact absurd rfl hQ) | (exact absurd (by decide) hQ) | (conv => whnf)) | (refine allG rfl ?_; conv => whnf) | (refine And.intro (by first | omega | assumption | kernel_rfl | exact And.intro rfl rfl | ((try dsimp only [inR, idx, lowOf]); first | omega | (with_reducible decide) | (simp; omega) | (simp; done) | fail) | fail) ?_; conv => whnf) | fail)
  exact ⟨(), [], trivial, rfl, trivial, trivial⟩
theorem m_itoa : Meets Tryd.prog regF 69 spItoa := by
  refine meets Tryd.func69 5 noWr rfl (by kernel_rfl) (by kernel_rfl) ?_
  rintro (i : Int) ⟨(h0 : 0 ≤ i), (h1 : i ≤ 12)⟩
  conv => whnf
  repeat' (first | (refine tell (fun hQ => ?_) (fun hQ => ?_) <;> (try dsimp only at hQ) <;> first | (exfalso; omega) | (exact absurd rfl hQ) | (exact absurd (by decide) hQ) | (conv => whnf)) | (refine allG rfl ?_; conv => whnf) | (refine And.intro (by first | omega | assumption | kernel_rfl | exact And.intro rfl rfl | ((try dsimp only [inR, idx, lowOf]); first | omega | (with_reducible decide) | (simp; omega) | (simp; done) | fail) | fail) ?_; conv => whnf) | fail)
  refine ⟨_, m_itoa0, i, [], false, ?_⟩
  conv => whnf
  refine And.intro (vc0 ⟨h0, h1⟩ (by (repeat' (first | exact trivial | exact rfl | refine And.intro ?_ ?_ | (refine congrArg vI ?_; first | omega | (dsimp only; omega) | fail) | (refine congrArg some ?_) | omega | exact Nat.le_refl _ | exact congrArg (SV.lst _) (List.take_of_length_le (Nat.le_refl _)).symm))) (by repeat' (first | exact trivial | exact rfl | refine And.intro ?_ ?_ | (refine congrArg vI ?_; first | omega | (dsimp only; omega) | fail) | (refine congrArg some ?_) | omega | exact Nat.le_refl _ | exact congrArg (SV.lst _) (List.take_of_length_le (Nat.le_refl _)).symm)) trivial trivial) ?_
  refine And.intro ⟨(), trivial⟩ (fun (_ : Unit) _ => ?_)
  conv => whnf
  conv => whnf
  repeat' (first | (refine tell (fun hQ => ?_) (fun hQ => ?_) <;> (try dsimp only at hQ) <;> first | (exfalso; omega) | (exact absurd rfl hQ) | (exact absurd (by decide) hQ) | (conv => whnf)) | (refine allG rfl ?_; conv => whnf) | (refine And.intro (by first | omega | assumption | kernel_rfl | exact And.intro rfl rfl | ((try dsimp only [inR, idx, lowOf]); first | omega | (with_reducible decide) | (simp; omega) | (simp; done) | fail) | fail) ?_; conv => whnf) | fail)
  exact ⟨(), [], trivial, rfl, trivial, trivial⟩
end Go.Sx

