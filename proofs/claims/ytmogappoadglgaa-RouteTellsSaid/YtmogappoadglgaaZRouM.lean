/-
  Layer 12, part M: the document's Far, as it is reckoned.
-/
import Derived.Test.YtmogappoadglgaaZRouK
import Derived.Test.YtmogappoadglgaaZLay
set_option linter.unusedVariables false
set_option linter.unusedSimpArgs false
namespace Go.Sx
open Go Go.Proofs Go.Proofs.Ytmogappoadglgaa
theorem sum_set {f : Int → Nat} {l : List Int} {i : Nat} {x c : Int} (h : l[i]? = some x) : ((l.set i c).map f).sum + f x = (l.map f).sum + f c := by
  induction l generalizing i with
  | nil => simp at h
  | cons a l ih =>
    cases i with
    | zero => simp at h; subst h; simp; omega
    | succ i => have := ih (i := i) (by simpa using h); simp only [List.set_cons_succ, List.map_cons, List.sum_cons]; omega
def knownN (l : List Int) : Nat := (l.map fun x => if 0 ≤ x then 1 else 0).sum
def measN (l : List Int) : Nat := (l.map fun x => if 0 ≤ x then x.toNat else 50000).sum
theorem knownN_le : ∀ l : List Int, knownN l ≤ l.length
  | [] => Nat.le_refl _
  | x :: l => by
    have := knownN_le l
    unfold knownN at *
    simp only [List.map_cons, List.sum_cons, List.length_cons]
    split <;> omega
/-- What is known so far. -/
structure BF (n : Int) (es : List Edge) (bl : List Int) (t : Int) (out : List Int) : Prop where
  len : out.length = n.toNat
  home : out[t.toNat]? = some 0
  way : ∀ (v : Nat) x, out[v]? = some x → x = -1 ∨ (0 ≤ x ∧ WayC es bl t v x ∧ x + 1000 ≤ 1000 * (knownN out : Int))
/-- An edge that makes nothing cheaper. -/
def Settled (es : List Edge) (bl : List Int) (out : List Int) (k : Nat) : Prop :=
  ∀ (j : Nat) e, j < k → es[j]? = some e → e.2.1 ∉ bl → ∀ y, out[e.2.1.toNat]? = some y → 0 ≤ y → ∃ x, out[e.1.toNat]? = some x ∧ 0 ≤ x ∧ x ≤ y + e.2.2
section
variable {n : Int} {es : List Edge} {bl out : List Int} {t : Int}
theorem bf_start (hR : RightL n es) (h0 : 0 ≤ t) (ht : t < n) : BF n es bl t ((List.replicate n.toNat (-1)).set t.toNat 0) := by
  have hr : ∀ i, i < n.toNat → (List.replicate n.toNat (-1 : Int))[i]? = some (-1) := fun i hi => by rw [List.getElem?_replicate, if_pos hi]
  have hk : knownN ((List.replicate n.toNat (-1)).set t.toNat 0) = 1 := by
    have h1 := sum_set (f := fun x => if 0 ≤ x then 1 else 0) (c := 0) (hr t.toNat (by omega))
    have h2 : ((List.replicate n.toNat (-1 : Int)).map fun x => if 0 ≤ x then 1 else 0).sum = 0 := by
      rw [List.map_replicate]; simp
    unfold knownN
    rw [h2] at h1
    simpa using h1
  refine ⟨by simp, ?_, fun v x h => ?_⟩
  · rw [List.getElem?_set_self (by simp; omega)]
  · rw [hk]
    by_cases e : t.toNat = v
    · subst e
      rw [List.getElem?_set_self (by simp; omega)] at h
      cases h
      refine .inr ⟨Int.le_refl _, ?_, by omega⟩
      rw [Int.toNat_of_nonneg h0]; exact .refl
    · rw [List.getElem?_set_ne e] at h
      have hl := (List.getElem?_eq_some_iff.1 h).1
      rw [hr v (by simpa using hl)] at h
      cases h; exact .inl rfl
theorem bf_relax (hR : RightL n es) (h0 : 0 ≤ t) (hB : BF n es bl t out) {e : Edge} (he : e ∈ es) (hb : e.2.1 ∉ bl) {x y : Int} (hy : out[e.2.1.toNat]? = some y) (hy0 : 0 ≤ y) (hx : out[e.1.toNat]? = some x) (hxy : x < 0 ∨ y + e.2.2 < x) :
    BF n es bl t (out.set e.1.toNat (y + e.2.2)) ∧ measN (out.set e.1.toNat (y + e.2.2)) < measN out := by
  obtain ⟨o1, o2, o3, o4, _, o6, o7⟩ := hR.each e he
  have hk := knownN_le out
  have hn := hR.most
  have hlen := hB.len
  rcases hB.way _ _ hy with hyn | ⟨_, hyw, hyb⟩
  · omega
  rw [Int.toNat_of_nonneg o3] at hyw
  have hxl := (List.getElem?_eq_some_iff.1 hx).1
  have hw : WayC es bl t e.1 (y + e.2.2) := by have := WayC.step he hb hyw; rwa [Int.add_comm] at this
  have hne : e.1.toNat ≠ t.toNat := fun h => by
    rw [h, hB.home] at hx; cases hx
    rcases hxy with h | h <;> omega
  have hset := sum_set (f := fun x => if 0 ≤ x then 1 else 0) (c := y + e.2.2) hx
  have hms := sum_set (f := fun x => if 0 ≤ x then x.toNat else 50000) (c := y + e.2.2) hx
  have hkn : knownN (out.set e.1.toNat (y + e.2.2)) + (if 0 ≤ x then 1 else 0) = knownN out + 1 := by
    unfold knownN; simp only [if_pos (show 0 ≤ y + e.2.2 by omega)] at hset; exact hset
  have hmn : measN (out.set e.1.toNat (y + e.2.2)) + (if 0 ≤ x then x.toNat else 50000) = measN out + (y + e.2.2).toNat := by
    unfold measN; simp only [if_pos (show 0 ≤ y + e.2.2 by omega)] at hms; exact hms
  have hkl := knownN_le (out.set e.1.toNat (y + e.2.2))
  rw [List.length_set] at hkl
  have hcb : y + e.2.2 + 1000 ≤ 1000 * (knownN (out.set e.1.toNat (y + e.2.2)) : Int) := by
    rcases hB.way _ _ hx with hxn | ⟨hx0, _, hxb⟩
    · rw [if_neg (by omega)] at hkn; omega
    · rw [if_pos hx0] at hkn; omega
  have hkm : knownN out ≤ knownN (out.set e.1.toNat (y + e.2.2)) := by split at hkn <;> omega
  refine ⟨⟨by rw [List.length_set]; exact hlen, ?_, fun v z hz => ?_⟩, ?_⟩
  · rw [List.getElem?_set_ne hne]; exact hB.home
  · by_cases ev : e.1.toNat = v
    · subst ev
      rw [List.getElem?_set_self hxl] at hz
      cases hz
      rw [Int.toNat_of_nonneg o1]
      exact .inr ⟨by omega, hw, hcb⟩
    · rw [List.getElem?_set_ne ev] at hz
      rcases hB.way v z hz with h | ⟨h1, h2, h3⟩
      · exact .inl h
      · exact .inr ⟨h1, h2, by omega⟩
  · split at hmn
    · have hx0 : 0 ≤ x := by assumption
      omega
    · omega
theorem bf_end (hR : RightL n es) (h0 : 0 ≤ t) (ht : t < n) (hB : BF n es bl t out) (hS : Settled es bl out es.length) : out = farF n es bl t := by
  have key : ∀ {v c : Int}, WayC es bl t v c → 0 ≤ v → v < n → ∃ x, out[v.toNat]? = some x ∧ 0 ≤ x ∧ x ≤ c := by
    intro v c h
    induction h with
    | refl => intro _ _; exact ⟨0, hB.home, Int.le_refl _, Int.le_refl _⟩
    | @step e c he hb _ ih =>
      intro h1 h2
      obtain ⟨o1, o2, o3, o4, _, o6, o7⟩ := hR.each e he
      obtain ⟨y, hy, hy0, hyc⟩ := ih o3 o4
      obtain ⟨j, hj⟩ := List.getElem?_of_mem he
      obtain ⟨x, hx, hx0, hxy⟩ := hS j e (List.getElem?_eq_some_iff.1 hj).1 hj hb y hy hy0
      exact ⟨x, hx, hx0, by omega⟩
  apply List.ext_getElem?
  intro i
  by_cases hi : i < n.toNat
  · rw [farF_get (by omega)]
    obtain ⟨x, hx⟩ : ∃ x, out[i]? = some x := ⟨_, List.getElem?_eq_getElem (by rw [hB.len]; exact hi)⟩
    rw [hx]
    congr 1
    rcases hB.way i x hx with rfl | ⟨hx0, hw, _⟩
    · refine (farV_none fun c hc => ?_).symm
      obtain ⟨x, h1, h2, _⟩ := key hc (by omega) (by omega)
      rw [Int.toNat_natCast, hx] at h1; cases h1; omega
    · refine (farV_eq hR hw fun c hc => ?_).symm
      obtain ⟨x', h1, h2, h3⟩ := key hc (by omega) (by omega)
      rw [Int.toNat_natCast, hx] at h1; cases h1; exact h3
  · rw [List.getElem?_eq_none (by rw [hB.len]; omega), List.getElem?_eq_none (by rw [farF_len]; omega)]
end
def spMay : Spec AF where
  γ := Edge × List Int
  δ := Bool
  args := fun g => [.agg [vI g.1.1, vI g.1.2.1, vI g.1.2.2], .lst 3 g.2]
  own := fun _ => []
  pre := fun g => g.2.length ≤ 9223372036854775807
  nnew := 0
  res := fun _ c => vB c
  own' := fun _ _ => []
  post := fun g c => (c = true ↔ g.1.2.1 ∉ g.2)
theorem m_may : Meets Try.prog regF 89 spMay := by
  refine meets Try.func89 19 noWr rfl (by kernel_rfl) (by kernel_rfl) ?_
  rintro ⟨⟨(e0 : Int), (k : Int), (e2 : Int)⟩, (a : List Int)⟩ (hl : a.length ≤ 9223372036854775807)
  conv => whnf
  repeat' (first | (refine tell (fun htest => ?_) (fun htest => ?_) <;> (try dsimp only at htest) <;> first | (exfalso; omega) | (exact absurd rfl htest) | (exact absurd (by decide) htest) | (conv => whnf)) | (refine allG rfl ?_; conv => whnf) | (refine And.intro (by first | omega | assumption | kernel_rfl | exact And.intro rfl rfl | ((try dsimp only [inR, idx, lowOf]); first | omega | (with_reducible decide) | (simp; omega) | fail) | fail) ?_; conv => whnf) | fail)
  refine ⟨Nat, fun i => ⟨[(1, .lst 3 a), (2, .ptr 1002 0 3 0), (5, vI i)], [(1002, .cells [vI e0, vI k, vI e2])]⟩, fun i => i ≤ a.length ∧ k ∉ a.take i, fun i => a.length - i, fun _ _ => rfl, ⟨0, [], ⟨Nat.zero_le _, by simp⟩, ?_⟩, ?_⟩
  · refine ⟨rfl, ?_, ?_, rfl⟩
    all_goals (repeat' (first | exact trivial | exact rfl | refine And.intro ?_ ?_ | (refine congrArg vI ?_; first | omega | (dsimp only; omega) | fail) | (refine congrArg some ?_) | omega | exact Nat.le_refl _ | exact congrArg (SV.lst _) (List.take_of_length_le (Nat.le_refl _)).symm))
  rintro (i : Nat) ⟨(hi : i ≤ a.length), (hs : k ∉ a.take i)⟩
  by_cases hlt : i < a.length
  · obtain ⟨x, hx⟩ : ∃ x, a[i]? = some x := ⟨_, List.getElem?_eq_getElem hlt⟩
    have hm := List.mem_of_getElem? hx
    by_cases hxk : x = k
    · conv => whnf
      repeat' (first | (refine tell (fun htest => ?_) (fun htest => ?_) <;> (try dsimp only at htest) <;> first | (exfalso; omega) | (exact absurd rfl htest) | (exact absurd (by decide) htest) | (conv => whnf)) | (refine allG (x := x) (by first | exact hx | simpa [List.getElem?_append_right, lowOf] using hx | fail) ?_; conv => whnf) | (refine allLst (x := x) (by first | omega | assumption | fail) (by first | exact hx | simpa using hx | fail) ?_; conv => whnf) | (refine allG rfl ?_; conv => whnf) | (refine And.intro (by first | omega | assumption | kernel_rfl | exact And.intro rfl rfl | ((try dsimp only [inR, idx, lowOf]); first | omega | (with_reducible decide) | (simp; omega) | fail) | fail) ?_; conv => whnf) | fail)
      exact ⟨false, [], ⟨fun h => (by cases h), fun h => absurd (hxk ▸ hm) h⟩, rfl, trivial, trivial⟩
    · conv => whnf
      repeat' (first | (refine tell (fun htest => ?_) (fun htest => ?_) <;> (try dsimp only at htest) <;> first | (exfalso; omega) | (exact absurd rfl htest) | (exact absurd (by decide) htest) | (conv => whnf)) | (refine allG (x := x) (by first | exact hx | simpa [List.getElem?_append_right, lowOf] using hx | fail) ?_; conv => whnf) | (refine allLst (x := x) (by first | omega | assumption | fail) (by first | exact hx | simpa using hx | fail) ?_; conv => whnf) | (refine allG rfl ?_; conv => whnf) | (refine And.intro (by first | omega | assumption | kernel_rfl | exact And.intro rfl rfl | ((try dsimp only [inR, idx, lowOf]); first | omega | (with_reducible decide) | (simp; omega) | fail) | fail) ?_; conv => whnf) | fail)
      refine ⟨i + 1, [], ⟨hlt, by rw [take_snocI hx]; simp; exact ⟨hs, fun h => hxk h.symm⟩⟩, ?_, rfl, ?_, ?_, rfl⟩
      · dsimp only; first | omega | (simp; done) | (simp; omega)
      all_goals (repeat' (first | exact trivial | exact rfl | refine And.intro ?_ ?_ | (refine congrArg vI ?_; first | omega | (dsimp only; omega) | fail) | (refine congrArg some ?_) | omega | exact Nat.le_refl _ | exact congrArg (SV.lst _) (List.take_of_length_le (Nat.le_refl _)).symm))
  · rw [List.take_of_length_le (by omega)] at hs
    conv => whnf
    repeat' (first | (refine tell (fun htest => ?_) (fun htest => ?_) <;> (try dsimp only at htest) <;> first | (exfalso; omega) | (exact absurd rfl htest) | (exact absurd (by decide) htest) | (conv => whnf)) | (refine allG rfl ?_; conv => whnf) | (refine And.intro (by first | omega | assumption | kernel_rfl | exact And.intro rfl rfl | ((try dsimp only [inR, idx, lowOf]); first | omega | (with_reducible decide) | (simp; omega) | fail) | fail) ?_; conv => whnf) | fail)
    exact ⟨true, [], ⟨fun _ => hs, fun _ => rfl⟩, rfl, trivial, trivial⟩
def initL (n i : Nat) : List Int := List.replicate i (-1) ++ List.replicate (n - i) 0
theorem initL_get {n i : Nat} (h : i < n) : (initL n i)[i]? = some 0 := by
  unfold initL
  rw [List.getElem?_append_right (by simp), List.length_replicate, Nat.sub_self, List.getElem?_replicate, if_pos (by omega)]
theorem initL_set {n i : Nat} (h : i < n) : (initL n i).set i (-1) = initL n (i + 1) := by
  unfold initL
  obtain ⟨m, hm⟩ : ∃ m, n - i = m + 1 := ⟨n - i - 1, by omega⟩
  rw [List.set_append_right _ _ (by simp), List.length_replicate, Nat.sub_self, hm, List.replicate_succ, List.set_cons_zero, List.replicate_succ', List.append_assoc, show n - (i + 1) = m by omega]
  rfl
theorem initL_end (n : Nat) : initL n n = List.replicate n (-1) := by unfold initL; simp
theorem initL_start (n : Nat) : initL n 0 = List.replicate n 0 := by unfold initL; simp
theorem initL_len {n i : Nat} (h : i ≤ n) : (initL n i).length = n := by unfold initL; simp; omega
/-- Far's answer, whatever is asked. -/
noncomputable def farU (n : Int) (es : List Edge) (bl : List Int) (t : Int) : List Int := open Classical in if RightL n es ∧ 0 ≤ t ∧ t < n then farF n es bl t else []
noncomputable def spFarU : Spec AF where
  γ := (Int × List Edge) × List Int × Int
  δ := Unit
  args := fun g => [layS g.1.1 g.1.2, .lst 3 g.2.1, vI g.2.2]
  own := fun _ => []
  pre := fun g => GoodL g.1.2 ∧ g.2.1.length ≤ 9223372036854775807
  nnew := 0
  res := fun g _ => .lst 3 (farU g.1.1 g.1.2 g.2.1 g.2.2)
  own' := fun _ _ => []
  post := fun _ _ => True
theorem m_farU : Meets Try.prog regF 53 spFarU := by
  refine meets_told m_far.1 fun g hg => ?_
  obtain ⟨⟨(n : Int), (es : List Edge)⟩, (bl : List Int), (t : Int)⟩ := g
  obtain ⟨(hg : GoodL es), (hbl : bl.length ≤ 9223372036854775807)⟩ := hg
  by_cases h : RightL n es ∧ 0 ≤ t ∧ t < n
  · refine ⟨spFar, m_far, ((n, es), bl, t), ⟨h.1, h.2.1, h.2.2, hg, hbl⟩, rfl, rfl, rfl, fun d hd => ⟨(), trivial, rfl, fun ρ O w v hv => ?_, fun _ _ => rfl⟩⟩
    show Den regF ρ O w (.lst 3 (farU n es bl t)) v
    unfold farU; rw [if_pos h]; exact hv
  · refine ⟨spFarN, m_farN, ((n, es), bl, t), ⟨h, hg⟩, rfl, rfl, rfl, fun d hd => ⟨(), trivial, rfl, fun ρ O w v hv => ?_, fun _ _ => rfl⟩⟩
    show Den regF ρ O w (.lst 3 (farU n es bl t)) v
    unfold farU; rw [if_neg h]; exact den_nil 3 hv
set_option maxHeartbeats 1600000 in
theorem m_farX : Meets Try.prog regF 61 spFarU := by
  refine meets Try.func61 99 noWr rfl (by kernel_rfl) (by kernel_rfl) ?_
  rintro ⟨⟨(n : Int), (es : List Edge)⟩, (bl : List Int), (t : Int)⟩ ⟨(hg : GoodL es), (hbl : bl.length ≤ 9223372036854775807)⟩
  conv => whnf
  repeat' (first | (refine tell (fun htest => ?_) (fun htest => ?_) <;> (try dsimp only at htest) <;> first | (exfalso; omega) | (exact absurd rfl htest) | (exact absurd (by decide) htest) | (conv => whnf)) | (refine allG rfl ?_; conv => whnf) | (refine And.intro (by first | omega | assumption | kernel_rfl | exact And.intro rfl rfl | ((try dsimp only [inR, idx, lowOf]); first | omega | (with_reducible decide) | (simp; omega) | fail) | fail) ?_; conv => whnf) | fail)
  refine ⟨_, m_rright, (n, es), [], false, ?_⟩
  conv => whnf
  refine And.intro (vc0 hg.1 (by (repeat' (first | exact trivial | exact rfl | refine And.intro ?_ ?_ | (refine congrArg vI ?_; first | omega | (dsimp only; omega) | fail) | (refine congrArg some ?_) | omega | exact Nat.le_refl _ | exact congrArg (SV.lst _) (List.take_of_length_le (Nat.le_refl _)).symm))) (by repeat' (first | exact trivial | exact rfl | refine And.intro ?_ ?_ | (refine congrArg vI ?_; first | omega | (dsimp only; omega) | fail) | (refine congrArg some ?_) | omega | exact Nat.le_refl _ | exact congrArg (SV.lst _) (List.take_of_length_le (Nat.le_refl _)).symm)) trivial trivial) ?_
  refine And.intro (right_ex n es) ?_
  intro (c : Bool) (hc : c = true ↔ RightL n es)
  by_cases hF : RightL n es ∧ 0 ≤ t ∧ t < n
  · obtain ⟨hR, h0, ht⟩ := hF
    have hfu : farU n es bl t = farF n es bl t := if_pos ⟨hR, h0, ht⟩
    obtain rfl := hc.2 hR
    have hm := hR.most
    have hp := hR.pos
    have hl := hR.len
    conv => whnf
    repeat' (first | (refine tell (fun htest => ?_) (fun htest => ?_) <;> (try dsimp only at htest) <;> first | (exfalso; omega) | (exact absurd rfl htest) | (exact absurd (by decide) htest) | (conv => whnf)) | (refine allG rfl ?_; conv => whnf) | (refine And.intro (by first | omega | assumption | kernel_rfl | exact And.intro rfl rfl | ((try dsimp only [inR, idx, lowOf]); first | omega | (with_reducible decide) | (simp; omega) | fail) | fail) ?_; conv => whnf) | fail)
    refine ⟨Nat, fun i => ⟨[(1, .lst 3 bl), (2, vI t), (3, .ptr 1003 0 2 0), (8, .sl 3001 1 0 n.toNat), (9, vI i)], [(1003, layC n es), (3001, .arr 3 (initL n.toNat i))]⟩, fun i => i ≤ n.toNat, fun i => n.toNat - i, fun _ _ => rfl, ⟨0, [(3001, 1031)], Nat.zero_le _, ?_⟩, ?_⟩
    · refine ⟨rfl, ?_, ?_, rfl⟩
      all_goals (repeat' (first | exact trivial | exact rfl | refine And.intro ?_ ?_ | (refine congrArg vI ?_; first | omega | (dsimp only; omega) | fail) | (refine congrArg some ?_) | omega | exact Nat.le_refl _ | exact congrArg (SV.lst _) (List.take_of_length_le (Nat.le_refl _)).symm))
      all_goals (exact congrArg (Ct.arr (A := AF) 3) (initL_start _).symm)
    rintro (i : Nat) (hi : i ≤ n.toNat)
    by_cases hlt : i < n.toNat
    · have hx := initL_get hlt
      conv => whnf
      repeat' (first | (refine tell (fun htest => ?_) (fun htest => ?_) <;> (try dsimp only at htest) <;> first | (exfalso; omega) | (exact absurd rfl htest) | (exact absurd (by decide) htest) | (conv => whnf)) | (refine allG (x := x) (by first | exact hx | simpa [List.getElem?_append_right, lowOf] using hx | fail) ?_; conv => whnf) | (refine allLst (x := x) (by first | omega | assumption | fail) (by first | exact hx | simpa using hx | fail) ?_; conv => whnf) | (refine allG rfl ?_; conv => whnf) | (refine And.intro (by first | omega | assumption | kernel_rfl | exact And.intro rfl rfl | ((try dsimp only [inR, idx, lowOf]); first | omega | (with_reducible decide) | (simp; omega) | fail) | fail) ?_; conv => whnf) | fail)
      refine allG (x := 0) (by simpa using hx) ?_
      conv => whnf
      repeat' (first | (refine tell (fun htest => ?_) (fun htest => ?_) <;> (try dsimp only at htest) <;> first | (exfalso; omega) | (exact absurd rfl htest) | (exact absurd (by decide) htest) | (conv => whnf)) | (refine allG rfl ?_; conv => whnf) | (refine And.intro (by first | omega | assumption | kernel_rfl | exact And.intro rfl rfl | ((try dsimp only [inR, idx, lowOf]); first | omega | (with_reducible decide) | (simp; omega) | fail) | fail) ?_; conv => whnf) | fail)
      refine ⟨i + 1, [], hlt, ?_, rfl, ?_, ?_, rfl⟩
      · dsimp only; first | omega | (simp; done) | (simp; omega)
      all_goals (repeat' (first | exact trivial | exact rfl | refine And.intro ?_ ?_ | (refine congrArg vI ?_; first | omega | (dsimp only; omega) | fail) | (refine congrArg some ?_) | omega | exact Nat.le_refl _ | exact congrArg (SV.lst _) (List.take_of_length_le (Nat.le_refl _)).symm))
      exact congrArg (Ct.arr (A := AF) 3) (show (initL n.toNat i).set (0 + i) (-1) = initL n.toNat (i + 1) by rw [Nat.zero_add]; exact initL_set hlt)
    · have hie : i = n.toNat := by omega
      subst hie
      have hx : (initL n.toNat n.toNat)[t.toNat]? = some (-1) := by rw [initL_end, List.getElem?_replicate, if_pos (by omega)]
      conv => whnf
      repeat' (first | (refine tell (fun htest => ?_) (fun htest => ?_) <;> (try dsimp only at htest) <;> first | (exfalso; omega) | (exact absurd rfl htest) | (exact absurd (by decide) htest) | (conv => whnf)) | (refine allG rfl ?_; conv => whnf) | (refine And.intro (by first | omega | assumption | kernel_rfl | exact And.intro rfl rfl | ((try dsimp only [inR, idx, lowOf]); first | omega | (with_reducible decide) | (simp; omega) | fail) | fail) ?_; conv => whnf) | fail)
      refine allG (x := -1) (by simpa using hx) ?_
      conv => whnf
      repeat' (first | (refine tell (fun htest => ?_) (fun htest => ?_) <;> (try dsimp only at htest) <;> first | (exfalso; omega) | (exact absurd rfl htest) | (exact absurd (by decide) htest) | (conv => whnf)) | (refine allG rfl ?_; conv => whnf) | (refine And.intro (by first | omega | assumption | kernel_rfl | exact And.intro rfl rfl | ((try dsimp only [inR, idx, lowOf]); first | omega | (with_reducible decide) | (simp; omega) | fail) | fail) ?_; conv => whnf) | fail)
      have hB := bf_start (bl := bl) hR h0 ht
      refine ⟨List Int × Bool, fun p => ⟨[(1, .lst 3 bl), (2, vI t), (3, .ptr 1003 0 2 0), (8, .sl 3001 1 0 n.toNat), (10, vB p.2)], [(1003, layC n es), (3001, .arr 3 p.1)]⟩, fun p => BF n es bl t p.1 ∧ (p.2 = false → Settled es bl p.1 es.length), fun p => 2 * measN p.1 + p.2.toNat, fun _ _ => rfl, ⟨((List.replicate n.toNat (-1)).set t.toNat 0, true), [], ⟨hB, fun h => by cases h⟩, ?_⟩, ?_⟩
      · refine ⟨rfl, ?_, ?_, rfl⟩
        all_goals (repeat' (first | exact trivial | exact rfl | refine And.intro ?_ ?_ | (refine congrArg vI ?_; first | omega | (dsimp only; omega) | fail) | (refine congrArg some ?_) | omega | exact Nat.le_refl _ | exact congrArg (SV.lst _) (List.take_of_length_le (Nat.le_refl _)).symm))
        all_goals (exact congrArg (Ct.arr (A := AF) 3) (show (initL n.toNat n.toNat).set (0 + t.toNat) 0 = (List.replicate n.toNat (-1)).set t.toNat 0 by rw [Nat.zero_add, initL_end]))
      rintro ⟨(out : List Int), (ch : Bool)⟩ ⟨(hB : BF n es bl t out), (hS : ch = false → Settled es bl out es.length)⟩
      cases ch
      · have hend := bf_end hR h0 ht hB (hS rfl)
        conv => whnf
        repeat' (first | (refine tell (fun htest => ?_) (fun htest => ?_) <;> (try dsimp only at htest) <;> first | (exfalso; omega) | (exact absurd rfl htest) | (exact absurd (by decide) htest) | (conv => whnf)) | (refine allG rfl ?_; conv => whnf) | (refine And.intro (by first | omega | assumption | kernel_rfl | exact And.intro rfl rfl | ((try dsimp only [inR, idx, lowOf]); first | omega | (with_reducible decide) | (simp; omega) | fail) | fail) ?_; conv => whnf) | fail)
        refine ⟨(), [], trivial, ⟨?_, rfl, ?_⟩, trivial, trivial⟩
        · show 0 + n.toNat ≤ out.length
          rw [hB.len]; omega
        · exact congrArg (SV.lst (A := AF) 3) (show farU n es bl t = (out.drop 0).take n.toNat by rw [hfu, ← hend, List.drop_zero, List.take_of_length_le (by rw [hB.len]; exact Nat.le_refl _)])
      · conv => whnf
        repeat' (first | (refine tell (fun htest => ?_) (fun htest => ?_) <;> (try dsimp only at htest) <;> first | (exfalso; omega) | (exact absurd rfl htest) | (exact absurd (by decide) htest) | (conv => whnf)) | (refine allG rfl ?_; conv => whnf) | (refine And.intro (by first | omega | assumption | kernel_rfl | exact And.intro rfl rfl | ((try dsimp only [inR, idx, lowOf]); first | omega | (with_reducible decide) | (simp; omega) | fail) | fail) ?_; conv => whnf) | fail)
        refine ⟨Nat × List Int × Bool, fun p => ⟨[(1, .lst 3 bl), (2, vI t), (3, .ptr 1003 0 2 0), (8, .sl 3001 1 0 n.toNat), (10, vB p.2.2), (11, vI p.1)], [(1003, layC n es), (3001, .arr 3 p.2.1)]⟩, fun p => p.1 ≤ es.length ∧ BF n es bl t p.2.1 ∧ (p.2.2 = false → Settled es bl p.2.1 p.1) ∧ 2 * measN p.2.1 + p.2.2.toNat < 2 * measN out + 1, fun p => es.length - p.1, fun _ _ => rfl, ⟨(0, out, false), [], ⟨Nat.zero_le _, hB, fun _ j e h => absurd h (Nat.not_lt_zero _), by show 2 * measN out + 0 < _; omega⟩, ?_⟩, ?_⟩
        · refine ⟨rfl, ?_, ?_, rfl⟩
          all_goals (repeat' (first | exact trivial | exact rfl | refine And.intro ?_ ?_ | (refine congrArg vI ?_; first | omega | (dsimp only; omega) | fail) | (refine congrArg some ?_) | omega | exact Nat.le_refl _ | exact congrArg (SV.lst _) (List.take_of_length_le (Nat.le_refl _)).symm))
        rintro ⟨(i : Nat), (o : List Int), (ch : Bool)⟩ ⟨(hi : i ≤ es.length), (hBo : BF n es bl t o), (hSo : ch = false → Settled es bl o i), (hmo : 2 * measN o + ch.toNat < 2 * measN out + 1)⟩
        have hol := hBo.len
        by_cases hlt : i < es.length
        · obtain ⟨e, he⟩ : ∃ e, es[i]? = some e := ⟨_, List.getElem?_eq_getElem hlt⟩
          have hmem := List.mem_of_getElem? he
          obtain ⟨o1, o2, o3, o4, _, o6, o7⟩ := hR.each e hmem
          obtain ⟨y, hy⟩ : ∃ y, o[e.2.1.toNat]? = some y := ⟨_, List.getElem?_eq_getElem (by omega)⟩
          obtain ⟨x, hx⟩ : ∃ x, o[e.1.toNat]? = some x := ⟨_, List.getElem?_eq_getElem (by omega)⟩
          have hkn := knownN_le o
          have hyb : y ≤ 40000 := by rcases hBo.way _ _ hy with h | ⟨_, _, h⟩ <;> omega
          have hx2 : o[0 + e.1.toNat]? = some x := by rw [Nat.zero_add]; exact hx
          have hy2 : o[0 + e.2.1.toNat]? = some y := by rw [Nat.zero_add]; exact hy
          have skip : ∀ {ch : Bool}, (ch = false → Settled es bl o i) → (e.2.1 ∉ bl → 0 ≤ y → 0 ≤ x ∧ x ≤ y + e.2.2) → (ch = false → Settled es bl o (i + 1)) := fun hS h hc j e' hj he' hb' y' hy' h0' => by
            by_cases hji : j = i
            · subst hji
              rw [he] at he'; cases he'
              rw [hy] at hy'; cases hy'
              obtain ⟨q1, q2⟩ := h hb' h0'
              exact ⟨x, hx, q1, q2⟩
            · exact hS hc j e' (by omega) he' hb' y' hy' h0'
          conv => whnf
          repeat' (first | (refine tell (fun htest => ?_) (fun htest => ?_) <;> (try dsimp only at htest) <;> first | (exfalso; omega) | (exact absurd rfl htest) | (exact absurd (by decide) htest) | (conv => whnf)) | (refine allG (x := e) (by first | exact he | simpa [List.getElem?_append_right, lowOf] using he | fail) ?_; conv => whnf) | (refine allLst (x := e) (by first | omega | assumption | fail) (by first | exact he | simpa using he | fail) ?_; conv => whnf) | (refine allG rfl ?_; conv => whnf) | (refine And.intro (by first | omega | assumption | kernel_rfl | exact And.intro rfl rfl | ((try dsimp only [inR, idx, lowOf]); first | omega | (with_reducible decide) | (simp; omega) | fail) | fail) ?_; conv => whnf) | fail)
          refine ⟨_, m_may, (e, bl), [], false, ?_⟩
          conv => whnf
          refine And.intro (vc0 hbl (by (repeat' (first | exact trivial | exact rfl | refine And.intro ?_ ?_ | (refine congrArg vI ?_; first | omega | (dsimp only; omega) | fail) | (refine congrArg some ?_) | omega | exact Nat.le_refl _ | exact congrArg (SV.lst _) (List.take_of_length_le (Nat.le_refl _)).symm))) (by repeat' (first | exact trivial | exact rfl | refine And.intro ?_ ?_ | (refine congrArg vI ?_; first | omega | (dsimp only; omega) | fail) | (refine congrArg some ?_) | omega | exact Nat.le_refl _ | exact congrArg (SV.lst _) (List.take_of_length_le (Nat.le_refl _)).symm)) trivial trivial) ?_
          refine And.intro (pred_ex _) ?_
          intro (b : Bool) (hb : b = true ↔ e.2.1 ∉ bl)
          cases b
          · conv => whnf
            repeat' (first | (refine tell (fun htest => ?_) (fun htest => ?_) <;> (try dsimp only at htest) <;> first | (exfalso; omega) | (exact absurd rfl htest) | (exact absurd (by decide) htest) | (conv => whnf)) | (refine allG (x := e) (by first | exact he | simpa [List.getElem?_append_right, lowOf] using he | fail) ?_; conv => whnf) | (refine allLst (x := e) (by first | omega | assumption | fail) (by first | exact he | simpa using he | fail) ?_; conv => whnf) | (refine allG rfl ?_; conv => whnf) | (refine And.intro (by first | omega | assumption | kernel_rfl | exact And.intro rfl rfl | ((try dsimp only [inR, idx, lowOf]); first | omega | (with_reducible decide) | (simp; omega) | fail) | fail) ?_; conv => whnf) | fail)
            refine ⟨(i + 1, o, ch), [], ⟨hlt, hBo, skip hSo (fun h => by have := hb.2 h; cases this), hmo⟩, ?_, rfl, ?_, ?_, rfl⟩
            · dsimp only; first | omega | (simp; done) | (simp; omega)
            all_goals (repeat' (first | exact trivial | exact rfl | refine And.intro ?_ ?_ | (refine congrArg vI ?_; first | omega | (dsimp only; omega) | fail) | (refine congrArg some ?_) | omega | exact Nat.le_refl _ | exact congrArg (SV.lst _) (List.take_of_length_le (Nat.le_refl _)).symm))
          · have hbe := hb.1 rfl
            by_cases hy0 : y < 0
            · conv => whnf
              repeat' (first | (refine tell (fun htest => ?_) (fun htest => ?_) <;> (try dsimp only at htest) <;> first | (exfalso; omega) | (exact absurd rfl htest) | (exact absurd (by decide) htest) | (conv => whnf)) | (refine allG (x := e) (by first | exact he | simpa [List.getElem?_append_right, lowOf] using he | fail) ?_; conv => whnf) | (refine allLst (x := e) (by first | omega | assumption | fail) (by first | exact he | simpa using he | fail) ?_; conv => whnf) | (refine allG (x := y) (by first | exact hy2 | simpa [List.getElem?_append_right, lowOf] using hy2 | fail) ?_; conv => whnf) | (refine allLst (x := y) (by first | omega | assumption | fail) (by first | exact hy2 | simpa using hy2 | fail) ?_; conv => whnf) | (refine allG rfl ?_; conv => whnf) | (refine And.intro (by first | omega | assumption | kernel_rfl | exact And.intro rfl rfl | ((try dsimp only [inR, idx, lowOf]); first | omega | (with_reducible decide) | (simp; omega) | fail) | fail) ?_; conv => whnf) | fail)
              refine ⟨(i + 1, o, ch), [], ⟨hlt, hBo, skip hSo (fun _ h => by omega), hmo⟩, ?_, rfl, ?_, ?_, rfl⟩
              · dsimp only; first | omega | (simp; done) | (simp; omega)
              all_goals (repeat' (first | exact trivial | exact rfl | refine And.intro ?_ ?_ | (refine congrArg vI ?_; first | omega | (dsimp only; omega) | fail) | (refine congrArg some ?_) | omega | exact Nat.le_refl _ | exact congrArg (SV.lst _) (List.take_of_length_le (Nat.le_refl _)).symm))
            · by_cases hxy : x < 0 ∨ y + e.2.2 < x
              · obtain ⟨hB2, hm2⟩ := bf_relax hR h0 hBo hmem hbe hy (by omega) hx hxy
                by_cases hx0 : x < 0
                · conv => whnf
                  repeat' (first | (refine tell (fun htest => ?_) (fun htest => ?_) <;> (try dsimp only at htest) <;> first | (exfalso; omega) | (exact absurd rfl htest) | (exact absurd (by decide) htest) | (conv => whnf)) | (refine allG (x := e) (by first | exact he | simpa [List.getElem?_append_right, lowOf] using he | fail) ?_; conv => whnf) | (refine allLst (x := e) (by first | omega | assumption | fail) (by first | exact he | simpa using he | fail) ?_; conv => whnf) | (refine allG (x := y) (by first | exact hy2 | simpa [List.getElem?_append_right, lowOf] using hy2 | fail) ?_; conv => whnf) | (refine allLst (x := y) (by first | omega | assumption | fail) (by first | exact hy2 | simpa using hy2 | fail) ?_; conv => whnf) | (refine allG (x := x) (by first | exact hx2 | simpa [List.getElem?_append_right, lowOf] using hx2 | fail) ?_; conv => whnf) | (refine allLst (x := x) (by first | omega | assumption | fail) (by first | exact hx2 | simpa using hx2 | fail) ?_; conv => whnf) | (refine allG rfl ?_; conv => whnf) | (refine And.intro (by first | omega | assumption | kernel_rfl | exact And.intro rfl rfl | ((try dsimp only [inR, idx, lowOf]); first | omega | (with_reducible decide) | (simp; omega) | fail) | fail) ?_; conv => whnf) | fail)
                  refine ⟨(i + 1, o.set e.1.toNat (y + e.2.2), true), [], ⟨hlt, hB2, fun h => (by cases h), by show 2 * measN (o.set e.1.toNat (y + e.2.2)) + 1 < 2 * measN out + 1; omega⟩, ?_, rfl, ?_, ?_, rfl⟩
                  · dsimp only; first | omega | (simp; done) | (simp; omega)
                  all_goals (repeat' (first | exact trivial | exact rfl | refine And.intro ?_ ?_ | (refine congrArg vI ?_; first | omega | (dsimp only; omega) | fail) | (refine congrArg some ?_) | omega | exact Nat.le_refl _ | exact congrArg (SV.lst _) (List.take_of_length_le (Nat.le_refl _)).symm))
                  exact congrArg (Ct.arr (A := AF) 3) (show o.set (0 + e.1.toNat) (y + e.2.2) = o.set e.1.toNat (y + e.2.2) by rw [Nat.zero_add])
                · conv => whnf
                  repeat' (first | (refine tell (fun htest => ?_) (fun htest => ?_) <;> (try dsimp only at htest) <;> first | (exfalso; omega) | (exact absurd rfl htest) | (exact absurd (by decide) htest) | (conv => whnf)) | (refine allG (x := e) (by first | exact he | simpa [List.getElem?_append_right, lowOf] using he | fail) ?_; conv => whnf) | (refine allLst (x := e) (by first | omega | assumption | fail) (by first | exact he | simpa using he | fail) ?_; conv => whnf) | (refine allG (x := y) (by first | exact hy2 | simpa [List.getElem?_append_right, lowOf] using hy2 | fail) ?_; conv => whnf) | (refine allLst (x := y) (by first | omega | assumption | fail) (by first | exact hy2 | simpa using hy2 | fail) ?_; conv => whnf) | (refine allG (x := x) (by first | exact hx2 | simpa [List.getElem?_append_right, lowOf] using hx2 | fail) ?_; conv => whnf) | (refine allLst (x := x) (by first | omega | assumption | fail) (by first | exact hx2 | simpa using hx2 | fail) ?_; conv => whnf) | (refine allG rfl ?_; conv => whnf) | (refine And.intro (by first | omega | assumption | kernel_rfl | exact And.intro rfl rfl | ((try dsimp only [inR, idx, lowOf]); first | omega | (with_reducible decide) | (simp; omega) | fail) | fail) ?_; conv => whnf) | fail)
                  refine ⟨(i + 1, o.set e.1.toNat (y + e.2.2), true), [], ⟨hlt, hB2, fun h => (by cases h), by show 2 * measN (o.set e.1.toNat (y + e.2.2)) + 1 < 2 * measN out + 1; omega⟩, ?_, rfl, ?_, ?_, rfl⟩
                  · dsimp only; first | omega | (simp; done) | (simp; omega)
                  all_goals (repeat' (first | exact trivial | exact rfl | refine And.intro ?_ ?_ | (refine congrArg vI ?_; first | omega | (dsimp only; omega) | fail) | (refine congrArg some ?_) | omega | exact Nat.le_refl _ | exact congrArg (SV.lst _) (List.take_of_length_le (Nat.le_refl _)).symm))
                  exact congrArg (Ct.arr (A := AF) 3) (show o.set (0 + e.1.toNat) (y + e.2.2) = o.set e.1.toNat (y + e.2.2) by rw [Nat.zero_add])
              · conv => whnf
                repeat' (first | (refine tell (fun htest => ?_) (fun htest => ?_) <;> (try dsimp only at htest) <;> first | (exfalso; omega) | (exact absurd rfl htest) | (exact absurd (by decide) htest) | (conv => whnf)) | (refine allG (x := e) (by first | exact he | simpa [List.getElem?_append_right, lowOf] using he | fail) ?_; conv => whnf) | (refine allLst (x := e) (by first | omega | assumption | fail) (by first | exact he | simpa using he | fail) ?_; conv => whnf) | (refine allG (x := y) (by first | exact hy2 | simpa [List.getElem?_append_right, lowOf] using hy2 | fail) ?_; conv => whnf) | (refine allLst (x := y) (by first | omega | assumption | fail) (by first | exact hy2 | simpa using hy2 | fail) ?_; conv => whnf) | (refine allG (x := x) (by first | exact hx2 | simpa [List.getElem?_append_right, lowOf] using hx2 | fail) ?_; conv => whnf) | (refine allLst (x := x) (by first | omega | assumption | fail) (by first | exact hx2 | simpa using hx2 | fail) ?_; conv => whnf) | (refine allG rfl ?_; conv => whnf) | (refine And.intro (by first | omega | assumption | kernel_rfl | exact And.intro rfl rfl | ((try dsimp only [inR, idx, lowOf]); first | omega | (with_reducible decide) | (simp; omega) | fail) | fail) ?_; conv => whnf) | fail)
                refine ⟨(i + 1, o, ch), [], ⟨hlt, hBo, skip hSo (fun _ _ => by omega), hmo⟩, ?_, rfl, ?_, ?_, rfl⟩
                · dsimp only; first | omega | (simp; done) | (simp; omega)
                all_goals (repeat' (first | exact trivial | exact rfl | refine And.intro ?_ ?_ | (refine congrArg vI ?_; first | omega | (dsimp only; omega) | fail) | (refine congrArg some ?_) | omega | exact Nat.le_refl _ | exact congrArg (SV.lst _) (List.take_of_length_le (Nat.le_refl _)).symm))
        · have hie : i = es.length := by omega
          subst hie
          conv => whnf
          repeat' (first | (refine tell (fun htest => ?_) (fun htest => ?_) <;> (try dsimp only at htest) <;> first | (exfalso; omega) | (exact absurd rfl htest) | (exact absurd (by decide) htest) | (conv => whnf)) | (refine allG rfl ?_; conv => whnf) | (refine And.intro (by first | omega | assumption | kernel_rfl | exact And.intro rfl rfl | ((try dsimp only [inR, idx, lowOf]); first | omega | (with_reducible decide) | (simp; omega) | fail) | fail) ?_; conv => whnf) | fail)
          refine ⟨(o, ch), [], ⟨hBo, hSo⟩, ?_, rfl, ?_, ?_, rfl⟩
          · dsimp only; first | omega | (simp; done) | (simp; omega)
          all_goals (repeat' (first | exact trivial | exact rfl | refine And.intro ?_ ?_ | (refine congrArg vI ?_; first | omega | (dsimp only; omega) | fail) | (refine congrArg some ?_) | omega | exact Nat.le_refl _ | exact congrArg (SV.lst _) (List.take_of_length_le (Nat.le_refl _)).symm))
  · have hfu : farU n es bl t = [] := if_neg hF
    have fin : ∀ v, v = vI 0 → True := fun _ _ => trivial
    cases c
    · conv => whnf
      repeat' (first | (refine tell (fun htest => ?_) (fun htest => ?_) <;> (try dsimp only at htest) <;> first | (exfalso; omega) | (exact absurd rfl htest) | (exact absurd (by decide) htest) | (conv => whnf)) | (refine allG rfl ?_; conv => whnf) | (refine And.intro (by first | omega | assumption | kernel_rfl | exact And.intro rfl rfl | ((try dsimp only [inR, idx, lowOf]); first | omega | (with_reducible decide) | (simp; omega) | fail) | fail) ?_; conv => whnf) | fail)
      exact ⟨(), [], trivial, hfu, trivial, trivial⟩
    · have hr := hc.1 rfl
      by_cases h0 : t < 0
      · conv => whnf
        repeat' (first | (refine tell (fun htest => ?_) (fun htest => ?_) <;> (try dsimp only at htest) <;> first | (exfalso; omega) | (exact absurd rfl htest) | (exact absurd (by decide) htest) | (conv => whnf)) | (refine allG rfl ?_; conv => whnf) | (refine And.intro (by first | omega | assumption | kernel_rfl | exact And.intro rfl rfl | ((try dsimp only [inR, idx, lowOf]); first | omega | (with_reducible decide) | (simp; omega) | fail) | fail) ?_; conv => whnf) | fail)
        exact ⟨(), [], trivial, hfu, trivial, trivial⟩
      · have hn : ¬ t < n := fun h => hF ⟨hr, by omega, h⟩
        conv => whnf
        repeat' (first | (refine tell (fun htest => ?_) (fun htest => ?_) <;> (try dsimp only at htest) <;> first | (exfalso; omega) | (exact absurd rfl htest) | (exact absurd (by decide) htest) | (conv => whnf)) | (refine allG rfl ?_; conv => whnf) | (refine And.intro (by first | omega | assumption | kernel_rfl | exact And.intro rfl rfl | ((try dsimp only [inR, idx, lowOf]); first | omega | (with_reducible decide) | (simp; omega) | fail) | fail) ?_; conv => whnf) | fail)
        exact ⟨(), [], trivial, hfu, trivial, trivial⟩
end Go.Sx

