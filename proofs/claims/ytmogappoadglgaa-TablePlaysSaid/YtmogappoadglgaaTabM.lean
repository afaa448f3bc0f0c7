/-
  Layer 14, part M: TablePlays.
-/
import Derived.Test.YtmogappoadglgaaTabL
namespace Go.Sx
open Go Go.Proofs Go.Proofs.Ytmogappoadglgaa
/-- The table, and the document's, tell the same. -/
structure Same (m r : TM) (N : Nat) : Prop where
  nd : (m.map (·.1)).Nodup
  key : ∀ p ∈ m, InI p.1
  lm : m.length ≤ N
  up : Rises r
  lr : r.length ≤ N
  look : ∀ y, lookT m y = lookT r y
theorem free_raw {w : Int} : ∀ {l : List Int} {s : TM × Nat}, (s.1.map (·.1)).Nodup → (∀ p ∈ s.1, InI p.1) → ((l.foldl (freeS w) s).1.map (·.1)).Nodup ∧ (l.foldl (freeS w) s).1.length ≤ s.1.length ∧ ∀ p ∈ (l.foldl (freeS w) s).1, InI p.1
  | [], s, hn, hk => ⟨hn, Nat.le_refl _, hk⟩
  | x :: l, s, hn, hk => by
    rw [List.foldl_cons]
    have h1 : ((freeS w s x).1.map (·.1)).Nodup ∧ (freeS w s x).1.length ≤ s.1.length ∧ ∀ p ∈ (freeS w s x).1, InI p.1 := by
      unfold freeS
      split
      · exact ⟨hn.sublist (List.Sublist.map _ List.filter_sublist), List.length_filter_le _ _, fun p hp => hk p (List.mem_filter.1 hp).1⟩
      · exact ⟨hn, Nat.le_refl _, hk⟩
    obtain ⟨a, b, c⟩ := free_raw (l := l) (w := w) h1.1 h1.2.2
    exact ⟨a, Nat.le_trans b h1.2.1, c⟩
theorem free_same {w : Int} : ∀ {l : List Int} {s t : TM × Nat}, (∀ y, lookT s.1 y = lookT t.1 y) → s.2 = t.2 → (∀ y, lookT (l.foldl (freeS w) s).1 y = lookT (l.foldl (freeS w) t).1 y) ∧ (l.foldl (freeS w) s).2 = (l.foldl (freeS w) t).2
  | [], _, _, h, hn => ⟨h, hn⟩
  | x :: l, s, t, h, hn => by
    rw [List.foldl_cons, List.foldl_cons]
    refine free_same (l := l) (fun y => ?_) ?_
    · unfold freeS
      rw [h x]
      split
      · show lookT (delT s.1 x) y = lookT (delT t.1 x) y
        rw [lookT_del, lookT_del, h]
      · exact h y
    · unfold freeS
      rw [h x]
      split
      · show s.2 + 1 = t.2 + 1
        rw [hn]
      · exact hn
theorem Same.free {m r m' r' : TM} {n n' N : Nat} {w : Int} {l : List Int} (h : Same m r N) (hm : (m', n) = freeL w m l) (hr : (r', n') = freeL w r l) (hu : Rises r') (hl : r'.length ≤ r.length) : Same m' r' N ∧ n = n' := by
  obtain ⟨a, b, c⟩ := free_raw (w := w) (l := l) (s := (m, 0)) h.nd h.key
  obtain ⟨e, f⟩ := free_same (w := w) (l := l) (s := (m, 0)) (t := (r, 0)) h.look rfl
  have e1 : m' = (freeL w m l).1 := congrArg Prod.fst hm
  have e2 : r' = (freeL w r l).1 := congrArg Prod.fst hr
  refine ⟨⟨by rw [e1]; exact a, by rw [e1]; exact c, by rw [e1]; exact Nat.le_trans b h.lm, hu, Nat.le_trans hl h.lr, fun y => by rw [e1, e2]; exact e y⟩, ?_⟩
  have e3 : n = (freeL w m l).2 := congrArg Prod.snd hm
  have e4 : n' = (freeL w r l).2 := congrArg Prod.snd hr
  rw [e3, e4]; exact f
theorem claimOk_same {m r : TM} (h : ∀ y, lookT m y = lookT r y) (w : Int) (l : List Int) : ClaimOk m w l ↔ ClaimOk r w l := by
  unfold ClaimOk
  exact forall_congr' fun x => imp_congr_right fun _ => by rw [h x]
theorem Same.claim {m r m' r' : TM} {c c' : Bool} {N k : Nat} {w : Int} {l : List Int} (h : Same m r N) (hI : ∀ x ∈ l, InI x) (hk : l.length ≤ k) (hc : c = true ↔ ClaimOk m w l) (hm : m' = if c then claimL w m l else m)
    (hr : ClaimPost (r, w, l) (c', r')) : Same m' r' (N + k) ∧ c = c' := by
  obtain ⟨hc', hu, hl, hlk⟩ := hr
  have hcc : c = c' := bool_eqT (hc.trans (claimOk_same h.look w l)) hc'
  subst hcc
  have hl : r'.length ≤ r.length + l.length := hl
  have hlk : ∀ y, lookT r' y = if c = true ∧ y ∈ l then some w else lookT r y := hlk
  have hlr := h.lr
  have hlm := h.lm
  cases c
  · have hm : m' = m := hm
    subst hm
    exact ⟨⟨h.nd, h.key, by omega, hu, by omega, fun y => by rw [hlk, if_neg (by simp), h.look]⟩, rfl⟩
  · have hm : m' = claimL w m l := hm
    obtain ⟨a, b, d⟩ := claim_raw (who := w) h.nd h.key hI
    subst hm
    exact ⟨⟨a, d, by omega, hu, by omega, fun y => by
      rw [lookT_claim, hlk]
      by_cases hy : y ∈ l
      · rw [if_pos hy, if_pos ⟨rfl, hy⟩]
      · rw [if_neg hy, if_neg fun h => hy h.2, h.look]⟩, rfl⟩
theorem ofR_mem {r : TM} (hr : Rises r) {who x : Int} : x ∈ ofR r who ↔ lookT r x = some who := by
  unfold ofR
  rw [List.mem_map]
  constructor
  · rintro ⟨p, hp, rfl⟩
    obtain ⟨h1, h2⟩ := List.mem_filter.1 hp
    have h2 := of_decide_eq_true h2
    exact lookT_of_mem hr.nd (by rw [← h2]; exact h1)
  · intro h
    exact ⟨(x, who), List.mem_filter.2 ⟨lookT_mem h, decide_eq_true rfl⟩, rfl⟩
theorem ofR_sorted {r : TM} (hr : Rises r) (who : Int) : (ofR r who).Pairwise (· < ·) := List.pairwise_map.2 (List.Pairwise.filter _ hr)
theorem Same.of {m r : TM} {N : Nat} (h : Same m r N) (who : Int) : ofL m who = ofR r who :=
  sorted_ext (ofL_sorted h.nd who) (ofR_sorted h.up who) fun x => by rw [ofL_mem, ofR_mem h.up, h.look]
theorem Same.pre {m r : TM} {N : Nat} (h : Same m r N) (hN : N ≤ 17592186044416) : (m.length ≤ 17592186044416 ∧ ∀ p ∈ m, InI p.1) ∧ r.length ≤ 17592186044416 := ⟨⟨Nat.le_trans h.lm hN, h.key⟩, Nat.le_trans h.lr hN⟩
/-- Some outcome of the document's Claim exists; of its Free, likewise. -/
theorem insAll : ∀ (l : List Int) {r : TM} (w : Int), Rises r → (∀ x ∈ l, ∀ v, lookT r x = some v → v = w) → ∃ r', Rises r' ∧ r'.length ≤ r.length + l.length ∧ ∀ y, lookT r' y = if y ∈ l then some w else lookT r y
  | [], r, w, hr, _ => ⟨r, hr, Nat.le_refl _, fun y => by simp⟩
  | x :: l, r, w, hr, h => by
    cases e : lookT r x with
    | none =>
      have hl := insR_look (w := w) hr e
      obtain ⟨r', h1, h2, h3⟩ := insAll l w (insR_rises (w := w) hr e) fun y hy v hv => by
        rw [hl] at hv
        split at hv
        · exact (Option.some.inj hv).symm
        · exact h y (by simp [hy]) v hv
      refine ⟨r', h1, ?_, fun y => ?_⟩
      · rw [insR_len] at h2; simp; omega
      · rw [h3, hl]
        simp only [List.mem_cons]
        by_cases hy : y ∈ l <;> by_cases hyx : y = x <;> simp [hy, hyx]
    | some v =>
      have hv := h x (by simp) v e
      subst hv
      obtain ⟨r', h1, h2, h3⟩ := insAll l v hr fun y hy => h y (by simp [hy])
      refine ⟨r', h1, by simp; omega, fun y => ?_⟩
      rw [h3]
      simp only [List.mem_cons]
      by_cases hy : y ∈ l
      · simp [hy]
      · by_cases hyx : y = x
        · subst hyx; simp [hy, e]
        · simp [hy, hyx]
theorem rclaim_ex {r : TM} (hr : Rises r) (w : Int) (l : List Int) : ∃ d, ClaimPost (r, w, l) d := by
  by_cases h : ClaimOk r w l
  · obtain ⟨r', h1, h2, h3⟩ := insAll l w hr h
    exact ⟨(true, r'), by simp [h], h1, h2, fun y => by rw [h3]; simp⟩
  · exact ⟨(false, r), by simp [h], hr, Nat.le_add_right _ _, fun y => by simp⟩
theorem rfree_rises {w : Int} : ∀ {l : List Int} {s : TM × Nat}, Rises s.1 → Rises (l.foldl (freeS w) s).1 ∧ (l.foldl (freeS w) s).1.length ≤ s.1.length
  | [], _, h => ⟨h, Nat.le_refl _⟩
  | x :: l, s, h => by
    rw [List.foldl_cons]
    have h1 : Rises (freeS w s x).1 ∧ (freeS w s x).1.length ≤ s.1.length := by
      unfold freeS
      split
      · exact ⟨h.sublist List.filter_sublist, List.length_filter_le _ _⟩
      · exact ⟨h, Nat.le_refl _⟩
    obtain ⟨a, b⟩ := rfree_rises (l := l) (w := w) h1.1
    exact ⟨a, Nat.le_trans b h1.2⟩
theorem rfree_ex {r : TM} (hr : Rises r) (w : Int) (l : List Int) : ∃ d : TM × Nat, d = freeL w r l ∧ Rises d.1 ∧ d.1.length ≤ r.length :=
  ⟨freeL w r l, rfl, rfree_rises (s := (r, 0)) hr⟩
set_option maxHeartbeats 6400000 in
theorem m_playsT : Meets Try.prog regF 21 (spLaw (fun g : List Int × Int × List OpT => [.lst 3 g.1, vI g.2.1, .lst 77 g.2.2]) (fun g => (g.1.length ≤ (17592186043904) ∧ ∀ x ∈ g.1, InI x) ∧ InI g.2.1 ∧ OpsOk g.2.2)) := by
  refine meets Try.func21 135 noWr rfl (by kernel_rfl) (by kernel_rfl) ?_
  rintro ⟨(a : List Int), (who : Int), (l : List OpT)⟩ ⟨⟨(ha : a.length ≤ (17592186043904)), (haI : ∀ x ∈ a, InI x)⟩, (hwho : InI who), (hl : l.length ≤ 9223372036854775807), (hI : ∀ o ∈ l, InI o.1 ∧ InL o.2.2)⟩
  have hs0 : Same [] [] 0 := ⟨by simp, fun p h => by simp at h, Nat.le_refl _, List.Pairwise.nil, Nat.le_refl _, fun _ => rfl⟩
  conv => whnf
  repeat' (first | (refine tell (fun htest => ?_) (fun htest => ?_) <;> (try dsimp only at htest) <;> first | (exfalso; omega) | (exact absurd rfl htest) | (exact absurd (by decide) htest) | (conv => whnf)) | (refine allG rfl ?_; conv => whnf) | (refine And.intro (by first | omega | assumption | kernel_rfl | exact And.intro rfl rfl | ((try dsimp only [inR, idx, lowOf]); first | omega | (with_reducible decide) | (simp; omega) | fail) | fail) ?_; conv => whnf) | fail)
  refine ⟨_, m_awakeT, (), [], false, ?_⟩
  conv => whnf
  refine And.intro (vc0 trivial (by (repeat' (first | exact trivial | exact rfl | refine And.intro ?_ ?_ | (refine congrArg vI ?_; first | omega | (dsimp only; omega) | fail) | (refine congrArg some ?_) | omega | exact Nat.le_refl _ | exact congrArg (SV.lst _) (List.take_of_length_le (Nat.le_refl _)).symm))) (by repeat' (first | exact trivial | exact rfl | refine And.intro ?_ ?_ | (refine congrArg vI ?_; first | omega | (dsimp only; omega) | fail) | (refine congrArg some ?_) | omega | exact Nat.le_refl _ | exact congrArg (SV.lst _) (List.take_of_length_le (Nat.le_refl _)).symm)) trivial trivial) ?_
  refine And.intro ⟨(), trivial⟩ (fun (_ : Unit) _ => ?_)
  conv => whnf
  conv => whnf
  repeat' (first | (refine tell (fun htest => ?_) (fun htest => ?_) <;> (try dsimp only at htest) <;> first | (exfalso; omega) | (exact absurd rfl htest) | (exact absurd (by decide) htest) | (conv => whnf)) | (refine allG rfl ?_; conv => whnf) | (refine And.intro (by first | omega | assumption | kernel_rfl | exact And.intro rfl rfl | ((try dsimp only [inR, idx, lowOf]); first | omega | (with_reducible decide) | (simp; omega) | fail) | fail) ?_; conv => whnf) | fail)
  refine ⟨_, m_tnew, (), [], false, ?_⟩
  conv => whnf
  refine And.intro (vc0 trivial (by (repeat' (first | exact trivial | exact rfl | refine And.intro ?_ ?_ | (refine congrArg vI ?_; first | omega | (dsimp only; omega) | fail) | (refine congrArg some ?_) | omega | exact Nat.le_refl _ | exact congrArg (SV.lst _) (List.take_of_length_le (Nat.le_refl _)).symm))) (by repeat' (first | exact trivial | exact rfl | refine And.intro ?_ ?_ | (refine congrArg vI ?_; first | omega | (dsimp only; omega) | fail) | (refine congrArg some ?_) | omega | exact Nat.le_refl _ | exact congrArg (SV.lst _) (List.take_of_length_le (Nat.le_refl _)).symm)) trivial trivial) ?_
  refine And.intro ⟨(), trivial⟩ (fun (_ : Unit) _ => ?_)
  conv => whnf
  conv => whnf
  repeat' (first | (refine tell (fun htest => ?_) (fun htest => ?_) <;> (try dsimp only at htest) <;> first | (exfalso; omega) | (exact absurd rfl htest) | (exact absurd (by decide) htest) | (conv => whnf)) | (refine allG rfl ?_; conv => whnf) | (refine And.intro (by first | omega | assumption | kernel_rfl | exact And.intro rfl rfl | ((try dsimp only [inR, idx, lowOf]); first | omega | (with_reducible decide) | (simp; omega) | fail) | fail) ?_; conv => whnf) | fail)
  refine ⟨_, m_rtnew, (), [], false, ?_⟩
  conv => whnf
  refine And.intro (vc0 trivial (by (repeat' (first | exact trivial | exact rfl | refine And.intro ?_ ?_ | (refine congrArg vI ?_; first | omega | (dsimp only; omega) | fail) | (refine congrArg some ?_) | omega | exact Nat.le_refl _ | exact congrArg (SV.lst _) (List.take_of_length_le (Nat.le_refl _)).symm))) (by repeat' (first | exact trivial | exact rfl | refine And.intro ?_ ?_ | (refine congrArg vI ?_; first | omega | (dsimp only; omega) | fail) | (refine congrArg some ?_) | omega | exact Nat.le_refl _ | exact congrArg (SV.lst _) (List.take_of_length_le (Nat.le_refl _)).symm)) trivial trivial) ?_
  refine And.intro ⟨(), trivial⟩ (fun (_ : Unit) _ => ?_)
  conv => whnf
  conv => whnf
  repeat' (first | (refine tell (fun htest => ?_) (fun htest => ?_) <;> (try dsimp only at htest) <;> first | (exfalso; omega) | (exact absurd rfl htest) | (exact absurd (by decide) htest) | (conv => whnf)) | (refine allG rfl ?_; conv => whnf) | (refine And.intro (by first | omega | assumption | kernel_rfl | exact And.intro rfl rfl | ((try dsimp only [inR, idx, lowOf]); first | omega | (with_reducible decide) | (simp; omega) | fail) | fail) ?_; conv => whnf) | fail)
  refine ⟨_, m_claimD, ([], who, a), [1020, 2020], false, ?_⟩
  conv => whnf
  refine And.intro (vc0 ⟨by show a.length ≤ 9223372036854775807; omega, haI⟩ (by (repeat' (first | exact trivial | exact rfl | refine And.intro ?_ ?_ | (refine congrArg vI ?_; first | omega | (dsimp only; omega) | fail) | (refine congrArg some ?_) | omega | exact Nat.le_refl _ | exact congrArg (SV.lst _) (List.take_of_length_le (Nat.le_refl _)).symm))) (by repeat' (first | exact trivial | exact rfl | refine And.intro ?_ ?_ | (refine congrArg vI ?_; first | omega | (dsimp only; omega) | fail) | (refine congrArg some ?_) | omega | exact Nat.le_refl _ | exact congrArg (SV.lst _) (List.take_of_length_le (Nat.le_refl _)).symm)) trivial trivial) ?_
  refine And.intro (claimD_ex _ _ _) ?_
  rintro ⟨(c : Bool), (m : TM)⟩ ⟨(hc : c = true ↔ ClaimOk [] who a), (hm : m = if c then claimL who [] a else [])⟩
  conv => whnf
  repeat' (first | (refine tell (fun htest => ?_) (fun htest => ?_) <;> (try dsimp only at htest) <;> first | (exfalso; omega) | (exact absurd rfl htest) | (exact absurd (by decide) htest) | (conv => whnf)) | (refine allG rfl ?_; conv => whnf) | (refine And.intro (by first | omega | assumption | kernel_rfl | exact And.intro rfl rfl | ((try dsimp only [inR, idx, lowOf]); first | omega | (with_reducible decide) | (simp; omega) | fail) | fail) ?_; conv => whnf) | fail)
  refine ⟨_, m_rclaim, ([], who, a), [1021, 2021, 3021], false, ?_⟩
  conv => whnf
  refine And.intro (vc0 ⟨by show ([] : TM).length + a.length ≤ 17592186044416; simp; omega, List.Pairwise.nil⟩ (by (repeat' (first | exact trivial | exact rfl | refine And.intro ?_ ?_ | (refine congrArg vI ?_; first | omega | (dsimp only; omega) | fail) | (refine congrArg some ?_) | omega | exact Nat.le_refl _ | exact congrArg (SV.lst _) (List.take_of_length_le (Nat.le_refl _)).symm))) (by repeat' (first | exact trivial | exact rfl | refine And.intro ?_ ?_ | (refine congrArg vI ?_; first | omega | (dsimp only; omega) | fail) | (refine congrArg some ?_) | omega | exact Nat.le_refl _ | exact congrArg (SV.lst _) (List.take_of_length_le (Nat.le_refl _)).symm)) trivial trivial) ?_
  refine And.intro (rclaim_ex List.Pairwise.nil who a) ?_
  rintro ⟨(c' : Bool), (r : TM)⟩ (hr : ClaimPost ([], who, a) (c', r))
  obtain ⟨hS, rfl⟩ := hs0.claim haI ha hc hm hr
  clear hm hr hc
  conv => whnf
  repeat' (first | (refine tell (fun htest => ?_) (fun htest => ?_) <;> (try dsimp only at htest) <;> first | (exfalso; omega) | (exact absurd rfl htest) | (exact absurd (by decide) htest) | (conv => whnf)) | (refine allG rfl ?_; conv => whnf) | (refine And.intro (by first | omega | assumption | kernel_rfl | exact And.intro rfl rfl | ((try dsimp only [inR, idx, lowOf]); first | omega | (with_reducible decide) | (simp; omega) | fail) | fail) ?_; conv => whnf) | fail)
  refine ⟨Nat × TM × TM, fun p => ⟨[(1, vI who), (2, .lst 77 l), (8, .ptr 1020 0 1 0), (9, .ptr 1021 0 2 0), (10, vI p.1)], [(1020, .cells [.mp 2020]), (2020, .map 3 3 p.2.1), (1021, refT 3001 3002 p.2.2.length), (3001, .arr 3 (keysR p.2.2)), (3002, .arr 3 (whosR p.2.2))]⟩, fun p => p.1 ≤ l.length ∧ p.1 ≤ 60 ∧ Same p.2.1 p.2.2 ((17592186043904) + 8 * p.1), fun p => 60 - p.1, fun _ _ => rfl, ⟨(0, m, r), [(3001, 1036), (3002, 2036)], ⟨Nat.zero_le _, Nat.zero_le _, by simpa using hS⟩, ?_⟩, ?_⟩
  · refine ⟨rfl, ?_, ?_, rfl⟩
    all_goals (repeat' (first | exact trivial | exact rfl | refine And.intro ?_ ?_ | (refine congrArg vI ?_; first | omega | (dsimp only; omega) | fail) | (refine congrArg some ?_) | omega | exact Nat.le_refl _ | exact congrArg (SV.lst _) (List.take_of_length_le (Nat.le_refl _)).symm))
  clear hS
  rintro ⟨(i : Nat), (m : TM), (r : TM)⟩ ⟨(hi : i ≤ l.length), (hi60 : i ≤ 60), (hS : Same m r ((17592186043904) + 8 * i))⟩
  have hpre := hS.pre (by omega)
  by_cases hlt : i < l.length ∧ i < 60
  · obtain ⟨hl1, hl2⟩ := hlt
    obtain ⟨⟨wh, fr, L⟩, ho⟩ : ∃ o, l[i]? = some o := ⟨_, List.getElem?_eq_getElem hl1⟩
    obtain ⟨(hwh : InI wh), (hL : InL L)⟩ := hI _ (List.mem_of_getElem? ho)
    have hXl := elemsL_len L
    have hXI := elemsL_in L
    cases fr
    · conv => whnf
      repeat' (first | (refine tell (fun htest => ?_) (fun htest => ?_) <;> (try dsimp only at htest) <;> first | (exfalso; omega) | (exact absurd rfl htest) | (exact absurd (by decide) htest) | (conv => whnf)) | (refine allG (x := (wh,false,L)) (by first | exact ho | simpa [List.getElem?_append_right, lowOf] using ho | fail) ?_; conv => whnf) | (refine allLst (x := (wh,false,L)) (by first | omega | assumption | fail) (by first | exact ho | simpa using ho | fail) ?_; conv => whnf) | (refine allG rfl ?_; conv => whnf) | (refine And.intro (by first | omega | assumption | kernel_rfl | exact And.intro rfl rfl | ((try dsimp only [inR, idx, lowOf]); first | omega | (with_reducible decide) | (simp; omega) | fail) | fail) ?_; conv => whnf) | fail)
      refine ⟨_, m_pick14, (wh, 3), [], false, ?_⟩
      conv => whnf
      refine And.intro (vc0 ⟨hwh, by show (0 : Int) < 3; decide⟩ (by (repeat' (first | exact trivial | exact rfl | refine And.intro ?_ ?_ | (refine congrArg vI ?_; first | omega | (dsimp only; omega) | fail) | (refine congrArg some ?_) | omega | exact Nat.le_refl _ | exact congrArg (SV.lst _) (List.take_of_length_le (Nat.le_refl _)).symm))) (by repeat' (first | exact trivial | exact rfl | refine And.intro ?_ ?_ | (refine congrArg vI ?_; first | omega | (dsimp only; omega) | fail) | (refine congrArg some ?_) | omega | exact Nat.le_refl _ | exact congrArg (SV.lst _) (List.take_of_length_le (Nat.le_refl _)).symm)) trivial trivial) ?_
      refine And.intro ⟨(), trivial⟩ (fun (_ : Unit) _ => ?_)
      conv => whnf
      conv => whnf
      repeat' (first | (refine tell (fun htest => ?_) (fun htest => ?_) <;> (try dsimp only at htest) <;> first | (exfalso; omega) | (exact absurd rfl htest) | (exact absurd (by decide) htest) | (conv => whnf)) | (refine allG (x := (wh,false,L)) (by first | exact ho | simpa [List.getElem?_append_right, lowOf] using ho | fail) ?_; conv => whnf) | (refine allLst (x := (wh,false,L)) (by first | omega | assumption | fail) (by first | exact ho | simpa using ho | fail) ?_; conv => whnf) | (refine allG rfl ?_; conv => whnf) | (refine And.intro (by first | omega | assumption | kernel_rfl | exact And.intro rfl rfl | ((try dsimp only [inR, idx, lowOf]); first | omega | (with_reducible decide) | (simp; omega) | fail) | fail) ?_; conv => whnf) | fail)
      refine ⟨_, m_elems, L, [], false, ?_⟩
      conv => whnf
      refine And.intro (vc0 hL (by (repeat' (first | exact trivial | exact rfl | refine And.intro ?_ ?_ | (refine congrArg vI ?_; first | omega | (dsimp only; omega) | fail) | (refine congrArg some ?_) | omega | exact Nat.le_refl _ | exact congrArg (SV.lst _) (List.take_of_length_le (Nat.le_refl _)).symm))) (by repeat' (first | exact trivial | exact rfl | refine And.intro ?_ ?_ | (refine congrArg vI ?_; first | omega | (dsimp only; omega) | fail) | (refine congrArg some ?_) | omega | exact Nat.le_refl _ | exact congrArg (SV.lst _) (List.take_of_length_le (Nat.le_refl _)).symm)) trivial trivial) ?_
      refine And.intro ⟨(), trivial⟩ (fun (_ : Unit) _ => ?_)
      conv => whnf
      conv => whnf
      repeat' (first | (refine tell (fun htest => ?_) (fun htest => ?_) <;> (try dsimp only at htest) <;> first | (exfalso; omega) | (exact absurd rfl htest) | (exact absurd (by decide) htest) | (conv => whnf)) | (refine allG (x := (wh,false,L)) (by first | exact ho | simpa [List.getElem?_append_right, lowOf] using ho | fail) ?_; conv => whnf) | (refine allLst (x := (wh,false,L)) (by first | omega | assumption | fail) (by first | exact ho | simpa using ho | fail) ?_; conv => whnf) | (refine allG rfl ?_; conv => whnf) | (refine And.intro (by first | omega | assumption | kernel_rfl | exact And.intro rfl rfl | ((try dsimp only [inR, idx, lowOf]); first | omega | (with_reducible decide) | (simp; omega) | fail) | fail) ?_; conv => whnf) | fail)
      refine ⟨_, m_claimD, (m, pickF wh 3, elemsL L), [1020, 2020], false, ?_⟩
      conv => whnf
      refine And.intro (vc0 (elemsL_ok L) (by (repeat' (first | exact trivial | exact rfl | refine And.intro ?_ ?_ | (refine congrArg vI ?_; first | omega | (dsimp only; omega) | fail) | (refine congrArg some ?_) | omega | exact Nat.le_refl _ | exact congrArg (SV.lst _) (List.take_of_length_le (Nat.le_refl _)).symm))) (by repeat' (first | exact trivial | exact rfl | refine And.intro ?_ ?_ | (refine congrArg vI ?_; first | omega | (dsimp only; omega) | fail) | (refine congrArg some ?_) | omega | exact Nat.le_refl _ | exact congrArg (SV.lst _) (List.take_of_length_le (Nat.le_refl _)).symm)) trivial trivial) ?_
      refine And.intro (claimD_ex _ _ _) ?_
      rintro ⟨(c : Bool), (m2 : TM)⟩ ⟨(hc : c = true ↔ ClaimOk m (pickF wh 3) (elemsL L)), (hm : m2 = if c then claimL (pickF wh 3) m (elemsL L) else m)⟩
      conv => whnf
      repeat' (first | (refine tell (fun htest => ?_) (fun htest => ?_) <;> (try dsimp only at htest) <;> first | (exfalso; omega) | (exact absurd rfl htest) | (exact absurd (by decide) htest) | (conv => whnf)) | (refine allG rfl ?_; conv => whnf) | (refine And.intro (by first | omega | assumption | kernel_rfl | exact And.intro rfl rfl | ((try dsimp only [inR, idx, lowOf]); first | omega | (with_reducible decide) | (simp; omega) | fail) | fail) ?_; conv => whnf) | fail)
      refine ⟨_, m_rclaim, (r, pickF wh 3, elemsL L), [1021, 3001, 3002], false, ?_⟩
      conv => whnf
      refine And.intro (vc0 ⟨by show r.length + (elemsL L).length ≤ 17592186044416; have := hS.lr; omega, hS.up⟩ (by (repeat' (first | exact trivial | exact rfl | refine And.intro ?_ ?_ | (refine congrArg vI ?_; first | omega | (dsimp only; omega) | fail) | (refine congrArg some ?_) | omega | exact Nat.le_refl _ | exact congrArg (SV.lst _) (List.take_of_length_le (Nat.le_refl _)).symm))) (by repeat' (first | exact trivial | exact rfl | refine And.intro ?_ ?_ | (refine congrArg vI ?_; first | omega | (dsimp only; omega) | fail) | (refine congrArg some ?_) | omega | exact Nat.le_refl _ | exact congrArg (SV.lst _) (List.take_of_length_le (Nat.le_refl _)).symm)) trivial trivial) ?_
      refine And.intro (rclaim_ex hS.up (pickF wh 3) (elemsL L)) ?_
      rintro ⟨(c' : Bool), (r2 : TM)⟩ (hr : ClaimPost (r, pickF wh 3, elemsL L) (c', r2))
      obtain ⟨hS2, rfl⟩ := hS.claim hXI hXl hc hm hr
      have hS2 : Same m2 r2 ((17592186043904) + 8 * (i + 1)) := hS2
      have hp2 := hS2.pre (by omega)
      conv => whnf
      repeat' (first | (refine tell (fun htest => ?_) (fun htest => ?_) <;> (try dsimp only at htest) <;> first | (exfalso; omega) | (exact absurd rfl htest) | (exact absurd (by decide) htest) | (conv => whnf)) | (refine allG rfl ?_; conv => whnf) | (refine And.intro (by first | omega | assumption | kernel_rfl | exact And.intro rfl rfl | ((try dsimp only [inR, idx, lowOf]); first | omega | (with_reducible decide) | (simp; omega) | fail) | fail) ?_; conv => whnf) | fail)
      refine ⟨Nat, fun k => ⟨[(1, vI who), (2, .lst 77 l), (8, .ptr 1020 0 1 0), (9, .ptr 1021 0 2 0), (10, vI i), (12, .lst 3 (elemsL L)), (13, vI k)], [(1020, .cells [.mp 2020]), (2020, .map 3 3 m2), (1021, refT 3001 3002 r2.length), (3001, .arr 3 (keysR r2)), (3002, .arr 3 (whosR r2))]⟩, fun k => k ≤ 3, fun k => 3 - k, fun _ _ => rfl, ⟨0, [(3001, 1082), (3002, 2082)], Nat.zero_le _, ?_⟩, ?_⟩
      · refine ⟨rfl, ?_, ?_, rfl⟩
        all_goals (repeat' (first | exact trivial | exact rfl | refine And.intro ?_ ?_ | (refine congrArg vI ?_; first | omega | (dsimp only; omega) | fail) | (refine congrArg some ?_) | omega | exact Nat.le_refl _ | exact congrArg (SV.lst _) (List.take_of_length_le (Nat.le_refl _)).symm))
      rintro (k : Nat) (hk : k ≤ 3)
      by_cases hk3 : k < 3
      · have he := hS2.of (k : Int)
        conv => whnf
        repeat' (first | (refine tell (fun htest => ?_) (fun htest => ?_) <;> (try dsimp only at htest) <;> first | (exfalso; omega) | (exact absurd rfl htest) | (exact absurd (by decide) htest) | (conv => whnf)) | (refine allG rfl ?_; conv => whnf) | (refine And.intro (by first | omega | assumption | kernel_rfl | exact And.intro rfl rfl | ((try dsimp only [inR, idx, lowOf]); first | omega | (with_reducible decide) | (simp; omega) | fail) | fail) ?_; conv => whnf) | fail)
        refine ⟨_, m_of, (m2, (k : Int)), [1020, 2020], false, ?_⟩
        conv => whnf
        refine And.intro (vc0 hp2.1 (by (repeat' (first | exact trivial | exact rfl | refine And.intro ?_ ?_ | (refine congrArg vI ?_; first | omega | (dsimp only; omega) | fail) | (refine congrArg some ?_) | omega | exact Nat.le_refl _ | exact congrArg (SV.lst _) (List.take_of_length_le (Nat.le_refl _)).symm))) (by repeat' (first | exact trivial | exact rfl | refine And.intro ?_ ?_ | (refine congrArg vI ?_; first | omega | (dsimp only; omega) | fail) | (refine congrArg some ?_) | omega | exact Nat.le_refl _ | exact congrArg (SV.lst _) (List.take_of_length_le (Nat.le_refl _)).symm)) trivial trivial) ?_
        refine And.intro ⟨(), trivial⟩ (fun (_ : Unit) _ => ?_)
        conv => whnf
        conv => whnf
        repeat' (first | (refine tell (fun htest => ?_) (fun htest => ?_) <;> (try dsimp only at htest) <;> first | (exfalso; omega) | (exact absurd rfl htest) | (exact absurd (by decide) htest) | (conv => whnf)) | (refine allG rfl ?_; conv => whnf) | (refine And.intro (by first | omega | assumption | kernel_rfl | exact And.intro rfl rfl | ((try dsimp only [inR, idx, lowOf]); first | omega | (with_reducible decide) | (simp; omega) | fail) | fail) ?_; conv => whnf) | fail)
        refine ⟨_, m_rof, (r2, (k : Int)), [1021, 3001, 3002], false, ?_⟩
        conv => whnf
        refine And.intro (vc0 hp2.2 (by (repeat' (first | exact trivial | exact rfl | refine And.intro ?_ ?_ | (refine congrArg vI ?_; first | omega | (dsimp only; omega) | fail) | (refine congrArg some ?_) | omega | exact Nat.le_refl _ | exact congrArg (SV.lst _) (List.take_of_length_le (Nat.le_refl _)).symm))) (by repeat' (first | exact trivial | exact rfl | refine And.intro ?_ ?_ | (refine congrArg vI ?_; first | omega | (dsimp only; omega) | fail) | (refine congrArg some ?_) | omega | exact Nat.le_refl _ | exact congrArg (SV.lst _) (List.take_of_length_le (Nat.le_refl _)).symm)) trivial trivial) ?_
        refine And.intro ⟨(), trivial⟩ (fun (_ : Unit) _ => ?_)
        conv => whnf
        conv => whnf
        repeat' (first | (refine tell (fun htest => ?_) (fun htest => ?_) <;> (try dsimp only at htest) <;> first | (exfalso; omega) | (exact absurd rfl htest) | (exact absurd (by decide) htest) | (conv => whnf)) | (refine allG rfl ?_; conv => whnf) | (refine And.intro (by first | omega | assumption | kernel_rfl | exact And.intro rfl rfl | ((try dsimp only [inR, idx, lowOf]); first | omega | (with_reducible decide) | (simp; omega) | fail) | fail) ?_; conv => whnf) | fail)
        refine ⟨_, m_ints, (ofL m2 (k : Int), ofR r2 (k : Int)), [], false, ?_⟩
        conv => whnf
        refine And.intro (vc0 (show (ofL m2 (k : Int)).length ≤ 9223372036854775807 by have h1 := ofL_len m2 (k : Int); have h2 := hp2.1.1; omega) (by (repeat' (first | exact trivial | exact rfl | refine And.intro ?_ ?_ | (refine congrArg vI ?_; first | omega | (dsimp only; omega) | fail) | (refine congrArg some ?_) | omega | exact Nat.le_refl _ | exact congrArg (SV.lst _) (List.take_of_length_le (Nat.le_refl _)).symm))) (by repeat' (first | exact trivial | exact rfl | refine And.intro ?_ ?_ | (refine congrArg vI ?_; first | omega | (dsimp only; omega) | fail) | (refine congrArg some ?_) | omega | exact Nat.le_refl _ | exact congrArg (SV.lst _) (List.take_of_length_le (Nat.le_refl _)).symm)) trivial trivial) ?_
        refine And.intro ⟨true, ⟨fun _ => he, fun _ => rfl⟩⟩ ?_
        intro (d : Bool) (hd : d = true ↔ ofL m2 (k : Int) = ofR r2 (k : Int))
        cases d
        · have := hd.2 he; cases this
        conv => whnf
        repeat' (first | (refine tell (fun htest => ?_) (fun htest => ?_) <;> (try dsimp only at htest) <;> first | (exfalso; omega) | (exact absurd rfl htest) | (exact absurd (by decide) htest) | (conv => whnf)) | (refine allG rfl ?_; conv => whnf) | (refine And.intro (by first | omega | assumption | kernel_rfl | exact And.intro rfl rfl | ((try dsimp only [inR, idx, lowOf]); first | omega | (with_reducible decide) | (simp; omega) | fail) | fail) ?_; conv => whnf) | fail)
        refine ⟨k + 1, [], hk3, ?_, rfl, ?_, ?_, rfl⟩
        · dsimp only; first | omega | (simp; done) | (simp; omega)
        all_goals (repeat' (first | exact trivial | exact rfl | refine And.intro ?_ ?_ | (refine congrArg vI ?_; first | omega | (dsimp only; omega) | fail) | (refine congrArg some ?_) | omega | exact Nat.le_refl _ | exact congrArg (SV.lst _) (List.take_of_length_le (Nat.le_refl _)).symm))
      · conv => whnf
        repeat' (first | (refine tell (fun htest => ?_) (fun htest => ?_) <;> (try dsimp only at htest) <;> first | (exfalso; omega) | (exact absurd rfl htest) | (exact absurd (by decide) htest) | (conv => whnf)) | (refine allG rfl ?_; conv => whnf) | (refine And.intro (by first | omega | assumption | kernel_rfl | exact And.intro rfl rfl | ((try dsimp only [inR, idx, lowOf]); first | omega | (with_reducible decide) | (simp; omega) | fail) | fail) ?_; conv => whnf) | fail)
        refine ⟨Nat, fun j => ⟨[(1, vI who), (2, .lst 77 l), (8, .ptr 1020 0 1 0), (9, .ptr 1021 0 2 0), (10, vI i), (12, .lst 3 (elemsL L)), (14, vI j)], [(1020, .cells [.mp 2020]), (2020, .map 3 3 m2), (1021, refT 3001 3002 r2.length), (3001, .arr 3 (keysR r2)), (3002, .arr 3 (whosR r2))]⟩, fun j => j ≤ (elemsL L).length, fun j => 8 - j, fun _ _ => rfl, ⟨0, [], Nat.zero_le _, ?_⟩, ?_⟩
        · refine ⟨rfl, ?_, ?_, rfl⟩
          all_goals (repeat' (first | exact trivial | exact rfl | refine And.intro ?_ ?_ | (refine congrArg vI ?_; first | omega | (dsimp only; omega) | fail) | (refine congrArg some ?_) | omega | exact Nat.le_refl _ | exact congrArg (SV.lst _) (List.take_of_length_le (Nat.le_refl _)).symm))
        rintro (j : Nat) (hj : j ≤ (elemsL L).length)
        by_cases hjl : j < (elemsL L).length
        · obtain ⟨x, hx⟩ : ∃ x, (elemsL L)[j]? = some x := ⟨_, List.getElem?_eq_getElem hjl⟩
          have hxI := hXI x (List.mem_of_getElem? hx)
          conv => whnf
          repeat' (first | (refine tell (fun htest => ?_) (fun htest => ?_) <;> (try dsimp only at htest) <;> first | (exfalso; omega) | (exact absurd rfl htest) | (exact absurd (by decide) htest) | (conv => whnf)) | (refine allG (x := x) (by first | exact hx | simpa [List.getElem?_append_right, lowOf] using hx | fail) ?_; conv => whnf) | (refine allLst (x := x) (by first | omega | assumption | fail) (by first | exact hx | simpa using hx | fail) ?_; conv => whnf) | (refine allG rfl ?_; conv => whnf) | (refine And.intro (by first | omega | assumption | kernel_rfl | exact And.intro rfl rfl | ((try dsimp only [inR, idx, lowOf]); first | omega | (with_reducible decide) | (simp; omega) | fail) | fail) ?_; conv => whnf) | fail)
          refine ⟨_, m_ownerD, (m2, x), [1020, 2020], false, ?_⟩
          conv => whnf
          refine And.intro (vc0 hxI (by (repeat' (first | exact trivial | exact rfl | refine And.intro ?_ ?_ | (refine congrArg vI ?_; first | omega | (dsimp only; omega) | fail) | (refine congrArg some ?_) | omega | exact Nat.le_refl _ | exact congrArg (SV.lst _) (List.take_of_length_le (Nat.le_refl _)).symm))) (by repeat' (first | exact trivial | exact rfl | refine And.intro ?_ ?_ | (refine congrArg vI ?_; first | omega | (dsimp only; omega) | fail) | (refine congrArg some ?_) | omega | exact Nat.le_refl _ | exact congrArg (SV.lst _) (List.take_of_length_le (Nat.le_refl _)).symm)) trivial trivial) ?_
          refine And.intro ⟨_, rfl⟩ ?_
          rintro ⟨(v : Int), (is : Bool)⟩ (hv : (v, is) = ((lookT m2 x).getD 0, (lookT m2 x).isSome))
          conv => whnf
          repeat' (first | (refine tell (fun htest => ?_) (fun htest => ?_) <;> (try dsimp only at htest) <;> first | (exfalso; omega) | (exact absurd rfl htest) | (exact absurd (by decide) htest) | (conv => whnf)) | (refine allG (x := x) (by first | exact hx | simpa [List.getElem?_append_right, lowOf] using hx | fail) ?_; conv => whnf) | (refine allLst (x := x) (by first | omega | assumption | fail) (by first | exact hx | simpa using hx | fail) ?_; conv => whnf) | (refine allG rfl ?_; conv => whnf) | (refine And.intro (by first | omega | assumption | kernel_rfl | exact And.intro rfl rfl | ((try dsimp only [inR, idx, lowOf]); first | omega | (with_reducible decide) | (simp; omega) | fail) | fail) ?_; conv => whnf) | fail)
          refine ⟨_, m_rowner, (r2, x), [1021, 3001, 3002], false, ?_⟩
          conv => whnf
          refine And.intro (vc0 ⟨by show r2.length ≤ 9223372036854775807; have := hp2.2; omega, hS2.up⟩ (by (repeat' (first | exact trivial | exact rfl | refine And.intro ?_ ?_ | (refine congrArg vI ?_; first | omega | (dsimp only; omega) | fail) | (refine congrArg some ?_) | omega | exact Nat.le_refl _ | exact congrArg (SV.lst _) (List.take_of_length_le (Nat.le_refl _)).symm))) (by repeat' (first | exact trivial | exact rfl | refine And.intro ?_ ?_ | (refine congrArg vI ?_; first | omega | (dsimp only; omega) | fail) | (refine congrArg some ?_) | omega | exact Nat.le_refl _ | exact congrArg (SV.lst _) (List.take_of_length_le (Nat.le_refl _)).symm)) trivial trivial) ?_
          refine And.intro ⟨_, rfl⟩ ?_
          rintro ⟨(v2 : Int), (is2 : Bool)⟩ (hv2 : (v2, is2) = ((lookT r2 x).getD 0, (lookT r2 x).isSome))
          rw [← hS2.look x, ← hv] at hv2
          cases hv2
          conv => whnf
          repeat' (first | (refine tell (fun htest => ?_) (fun htest => ?_) <;> (try dsimp only at htest) <;> first | (exfalso; omega) | (exact absurd rfl htest) | (exact absurd (by decide) htest) | (conv => whnf)) | (refine allG rfl ?_; conv => whnf) | (refine And.intro (by first | omega | assumption | kernel_rfl | exact And.intro rfl rfl | ((try dsimp only [inR, idx, lowOf]); first | omega | (with_reducible decide) | (simp; omega) | fail) | fail) ?_; conv => whnf) | fail)
          refine ⟨j + 1, [], hjl, ?_, rfl, ?_, ?_, rfl⟩
          · dsimp only; first | omega | (simp; done) | (simp; omega)
          all_goals (repeat' (first | exact trivial | exact rfl | refine And.intro ?_ ?_ | (refine congrArg vI ?_; first | omega | (dsimp only; omega) | fail) | (refine congrArg some ?_) | omega | exact Nat.le_refl _ | exact congrArg (SV.lst _) (List.take_of_length_le (Nat.le_refl _)).symm))
        · conv => whnf
          repeat' (first | (refine tell (fun htest => ?_) (fun htest => ?_) <;> (try dsimp only at htest) <;> first | (exfalso; omega) | (exact absurd rfl htest) | (exact absurd (by decide) htest) | (conv => whnf)) | (refine allG rfl ?_; conv => whnf) | (refine And.intro (by first | omega | assumption | kernel_rfl | exact And.intro rfl rfl | ((try dsimp only [inR, idx, lowOf]); first | omega | (with_reducible decide) | (simp; omega) | fail) | fail) ?_; conv => whnf) | fail)
          refine ⟨(i + 1, m2, r2), [], ⟨hl1, hl2, hS2⟩, ?_, rfl, ?_, ?_, rfl⟩
          · dsimp only; first | omega | (simp; done) | (simp; omega)
          all_goals (repeat' (first | exact trivial | exact rfl | refine And.intro ?_ ?_ | (refine congrArg vI ?_; first | omega | (dsimp only; omega) | fail) | (refine congrArg some ?_) | omega | exact Nat.le_refl _ | exact congrArg (SV.lst _) (List.take_of_length_le (Nat.le_refl _)).symm))
    · conv => whnf
      repeat' (first | (refine tell (fun htest => ?_) (fun htest => ?_) <;> (try dsimp only at htest) <;> first | (exfalso; omega) | (exact absurd rfl htest) | (exact absurd (by decide) htest) | (conv => whnf)) | (refine allG (x := (wh,true,L)) (by first | exact ho | simpa [List.getElem?_append_right, lowOf] using ho | fail) ?_; conv => whnf) | (refine allLst (x := (wh,true,L)) (by first | omega | assumption | fail) (by first | exact ho | simpa using ho | fail) ?_; conv => whnf) | (refine allG rfl ?_; conv => whnf) | (refine And.intro (by first | omega | assumption | kernel_rfl | exact And.intro rfl rfl | ((try dsimp only [inR, idx, lowOf]); first | omega | (with_reducible decide) | (simp; omega) | fail) | fail) ?_; conv => whnf) | fail)
      refine ⟨_, m_pick14, (wh, 3), [], false, ?_⟩
      conv => whnf
      refine And.intro (vc0 ⟨hwh, by show (0 : Int) < 3; decide⟩ (by (repeat' (first | exact trivial | exact rfl | refine And.intro ?_ ?_ | (refine congrArg vI ?_; first | omega | (dsimp only; omega) | fail) | (refine congrArg some ?_) | omega | exact Nat.le_refl _ | exact congrArg (SV.lst _) (List.take_of_length_le (Nat.le_refl _)).symm))) (by repeat' (first | exact trivial | exact rfl | refine And.intro ?_ ?_ | (refine congrArg vI ?_; first | omega | (dsimp only; omega) | fail) | (refine congrArg some ?_) | omega | exact Nat.le_refl _ | exact congrArg (SV.lst _) (List.take_of_length_le (Nat.le_refl _)).symm)) trivial trivial) ?_
      refine And.intro ⟨(), trivial⟩ (fun (_ : Unit) _ => ?_)
      conv => whnf
      conv => whnf
      repeat' (first | (refine tell (fun htest => ?_) (fun htest => ?_) <;> (try dsimp only at htest) <;> first | (exfalso; omega) | (exact absurd rfl htest) | (exact absurd (by decide) htest) | (conv => whnf)) | (refine allG (x := (wh,true,L)) (by first | exact ho | simpa [List.getElem?_append_right, lowOf] using ho | fail) ?_; conv => whnf) | (refine allLst (x := (wh,true,L)) (by first | omega | assumption | fail) (by first | exact ho | simpa using ho | fail) ?_; conv => whnf) | (refine allG rfl ?_; conv => whnf) | (refine And.intro (by first | omega | assumption | kernel_rfl | exact And.intro rfl rfl | ((try dsimp only [inR, idx, lowOf]); first | omega | (with_reducible decide) | (simp; omega) | fail) | fail) ?_; conv => whnf) | fail)
      refine ⟨_, m_elems, L, [], false, ?_⟩
      conv => whnf
      refine And.intro (vc0 hL (by (repeat' (first | exact trivial | exact rfl | refine And.intro ?_ ?_ | (refine congrArg vI ?_; first | omega | (dsimp only; omega) | fail) | (refine congrArg some ?_) | omega | exact Nat.le_refl _ | exact congrArg (SV.lst _) (List.take_of_length_le (Nat.le_refl _)).symm))) (by repeat' (first | exact trivial | exact rfl | refine And.intro ?_ ?_ | (refine congrArg vI ?_; first | omega | (dsimp only; omega) | fail) | (refine congrArg some ?_) | omega | exact Nat.le_refl _ | exact congrArg (SV.lst _) (List.take_of_length_le (Nat.le_refl _)).symm)) trivial trivial) ?_
      refine And.intro ⟨(), trivial⟩ (fun (_ : Unit) _ => ?_)
      conv => whnf
      conv => whnf
      repeat' (first | (refine tell (fun htest => ?_) (fun htest => ?_) <;> (try dsimp only at htest) <;> first | (exfalso; omega) | (exact absurd rfl htest) | (exact absurd (by decide) htest) | (conv => whnf)) | (refine allG (x := (wh,true,L)) (by first | exact ho | simpa [List.getElem?_append_right, lowOf] using ho | fail) ?_; conv => whnf) | (refine allLst (x := (wh,true,L)) (by first | omega | assumption | fail) (by first | exact ho | simpa using ho | fail) ?_; conv => whnf) | (refine allG rfl ?_; conv => whnf) | (refine And.intro (by first | omega | assumption | kernel_rfl | exact And.intro rfl rfl | ((try dsimp only [inR, idx, lowOf]); first | omega | (with_reducible decide) | (simp; omega) | fail) | fail) ?_; conv => whnf) | fail)
      refine ⟨_, m_freeD, (m, pickF wh 3, elemsL L), [1020, 2020], false, ?_⟩
      conv => whnf
      refine And.intro (vc0 (elemsL_ok L) (by (repeat' (first | exact trivial | exact rfl | refine And.intro ?_ ?_ | (refine congrArg vI ?_; first | omega | (dsimp only; omega) | fail) | (refine congrArg some ?_) | omega | exact Nat.le_refl _ | exact congrArg (SV.lst _) (List.take_of_length_le (Nat.le_refl _)).symm))) (by repeat' (first | exact trivial | exact rfl | refine And.intro ?_ ?_ | (refine congrArg vI ?_; first | omega | (dsimp only; omega) | fail) | (refine congrArg some ?_) | omega | exact Nat.le_refl _ | exact congrArg (SV.lst _) (List.take_of_length_le (Nat.le_refl _)).symm)) trivial trivial) ?_
      refine And.intro ⟨_, rfl⟩ ?_
      rintro ⟨(m2 : TM), (n : Nat)⟩ (hf : (m2, n) = freeL (pickF wh 3) m (elemsL L))
      conv => whnf
      repeat' (first | (refine tell (fun htest => ?_) (fun htest => ?_) <;> (try dsimp only at htest) <;> first | (exfalso; omega) | (exact absurd rfl htest) | (exact absurd (by decide) htest) | (conv => whnf)) | (refine allG rfl ?_; conv => whnf) | (refine And.intro (by first | omega | assumption | kernel_rfl | exact And.intro rfl rfl | ((try dsimp only [inR, idx, lowOf]); first | omega | (with_reducible decide) | (simp; omega) | fail) | fail) ?_; conv => whnf) | fail)
      refine ⟨_, m_rfree, (r, pickF wh 3, elemsL L), [1021, 3001, 3002], false, ?_⟩
      conv => whnf
      refine And.intro (vc0 ⟨hpre.2, by show (elemsL L).length ≤ 9223372036854775807; omega, hS.up⟩ (by (repeat' (first | exact trivial | exact rfl | refine And.intro ?_ ?_ | (refine congrArg vI ?_; first | omega | (dsimp only; omega) | fail) | (refine congrArg some ?_) | omega | exact Nat.le_refl _ | exact congrArg (SV.lst _) (List.take_of_length_le (Nat.le_refl _)).symm))) (by repeat' (first | exact trivial | exact rfl | refine And.intro ?_ ?_ | (refine congrArg vI ?_; first | omega | (dsimp only; omega) | fail) | (refine congrArg some ?_) | omega | exact Nat.le_refl _ | exact congrArg (SV.lst _) (List.take_of_length_le (Nat.le_refl _)).symm)) trivial trivial) ?_
      refine And.intro (rfree_ex hS.up (pickF wh 3) (elemsL L)) ?_
      rintro ⟨(r2 : TM), (n2 : Nat)⟩ ⟨(hf2 : (r2, n2) = freeL (pickF wh 3) r (elemsL L)), (hu2 : Rises r2), (hl2' : r2.length ≤ r.length)⟩
      obtain ⟨hS2, rfl⟩ := hS.free hf hf2 hu2 hl2'
      have hS2 : Same m2 r2 ((17592186043904) + 8 * (i + 1)) := ⟨hS2.nd, hS2.key, Nat.le_trans hS2.lm (by omega), hS2.up, Nat.le_trans hS2.lr (by omega), hS2.look⟩
      have hp2 := hS2.pre (by omega)
      conv => whnf
      repeat' (first | (refine tell (fun htest => ?_) (fun htest => ?_) <;> (try dsimp only at htest) <;> first | (exfalso; omega) | (exact absurd rfl htest) | (exact absurd (by decide) htest) | (conv => whnf)) | (refine allG rfl ?_; conv => whnf) | (refine And.intro (by first | omega | assumption | kernel_rfl | exact And.intro rfl rfl | ((try dsimp only [inR, idx, lowOf]); first | omega | (with_reducible decide) | (simp; omega) | fail) | fail) ?_; conv => whnf) | fail)
      refine ⟨Nat, fun k => ⟨[(1, vI who), (2, .lst 77 l), (8, .ptr 1020 0 1 0), (9, .ptr 1021 0 2 0), (10, vI i), (12, .lst 3 (elemsL L)), (13, vI k)], [(1020, .cells [.mp 2020]), (2020, .map 3 3 m2), (1021, refT 3001 3002 r2.length), (3001, .arr 3 (keysR r2)), (3002, .arr 3 (whosR r2))]⟩, fun k => k ≤ 3, fun k => 3 - k, fun _ _ => rfl, ⟨0, [(3001, 1073), (3002, 2073)], Nat.zero_le _, ?_⟩, ?_⟩
      · refine ⟨rfl, ?_, ?_, rfl⟩
        all_goals (repeat' (first | exact trivial | exact rfl | refine And.intro ?_ ?_ | (refine congrArg vI ?_; first | omega | (dsimp only; omega) | fail) | (refine congrArg some ?_) | omega | exact Nat.le_refl _ | exact congrArg (SV.lst _) (List.take_of_length_le (Nat.le_refl _)).symm))
      rintro (k : Nat) (hk : k ≤ 3)
      by_cases hk3 : k < 3
      · have he := hS2.of (k : Int)
        conv => whnf
        repeat' (first | (refine tell (fun htest => ?_) (fun htest => ?_) <;> (try dsimp only at htest) <;> first | (exfalso; omega) | (exact absurd rfl htest) | (exact absurd (by decide) htest) | (conv => whnf)) | (refine allG rfl ?_; conv => whnf) | (refine And.intro (by first | omega | assumption | kernel_rfl | exact And.intro rfl rfl | ((try dsimp only [inR, idx, lowOf]); first | omega | (with_reducible decide) | (simp; omega) | fail) | fail) ?_; conv => whnf) | fail)
        refine ⟨_, m_of, (m2, (k : Int)), [1020, 2020], false, ?_⟩
        conv => whnf
        refine And.intro (vc0 hp2.1 (by (repeat' (first | exact trivial | exact rfl | refine And.intro ?_ ?_ | (refine congrArg vI ?_; first | omega | (dsimp only; omega) | fail) | (refine congrArg some ?_) | omega | exact Nat.le_refl _ | exact congrArg (SV.lst _) (List.take_of_length_le (Nat.le_refl _)).symm))) (by repeat' (first | exact trivial | exact rfl | refine And.intro ?_ ?_ | (refine congrArg vI ?_; first | omega | (dsimp only; omega) | fail) | (refine congrArg some ?_) | omega | exact Nat.le_refl _ | exact congrArg (SV.lst _) (List.take_of_length_le (Nat.le_refl _)).symm)) trivial trivial) ?_
        refine And.intro ⟨(), trivial⟩ (fun (_ : Unit) _ => ?_)
        conv => whnf
        conv => whnf
        repeat' (first | (refine tell (fun htest => ?_) (fun htest => ?_) <;> (try dsimp only at htest) <;> first | (exfalso; omega) | (exact absurd rfl htest) | (exact absurd (by decide) htest) | (conv => whnf)) | (refine allG rfl ?_; conv => whnf) | (refine And.intro (by first | omega | assumption | kernel_rfl | exact And.intro rfl rfl | ((try dsimp only [inR, idx, lowOf]); first | omega | (with_reducible decide) | (simp; omega) | fail) | fail) ?_; conv => whnf) | fail)
        refine ⟨_, m_rof, (r2, (k : Int)), [1021, 3001, 3002], false, ?_⟩
        conv => whnf
        refine And.intro (vc0 hp2.2 (by (repeat' (first | exact trivial | exact rfl | refine And.intro ?_ ?_ | (refine congrArg vI ?_; first | omega | (dsimp only; omega) | fail) | (refine congrArg some ?_) | omega | exact Nat.le_refl _ | exact congrArg (SV.lst _) (List.take_of_length_le (Nat.le_refl _)).symm))) (by repeat' (first | exact trivial | exact rfl | refine And.intro ?_ ?_ | (refine congrArg vI ?_; first | omega | (dsimp only; omega) | fail) | (refine congrArg some ?_) | omega | exact Nat.le_refl _ | exact congrArg (SV.lst _) (List.take_of_length_le (Nat.le_refl _)).symm)) trivial trivial) ?_
        refine And.intro ⟨(), trivial⟩ (fun (_ : Unit) _ => ?_)
        conv => whnf
        conv => whnf
        repeat' (first | (refine tell (fun htest => ?_) (fun htest => ?_) <;> (try dsimp only at htest) <;> first | (exfalso; omega) | (exact absurd rfl htest) | (exact absurd (by decide) htest) | (conv => whnf)) | (refine allG rfl ?_; conv => whnf) | (refine And.intro (by first | omega | assumption | kernel_rfl | exact And.intro rfl rfl | ((try dsimp only [inR, idx, lowOf]); first | omega | (with_reducible decide) | (simp; omega) | fail) | fail) ?_; conv => whnf) | fail)
        refine ⟨_, m_ints, (ofL m2 (k : Int), ofR r2 (k : Int)), [], false, ?_⟩
        conv => whnf
        refine And.intro (vc0 (show (ofL m2 (k : Int)).length ≤ 9223372036854775807 by have h1 := ofL_len m2 (k : Int); have h2 := hp2.1.1; omega) (by (repeat' (first | exact trivial | exact rfl | refine And.intro ?_ ?_ | (refine congrArg vI ?_; first | omega | (dsimp only; omega) | fail) | (refine congrArg some ?_) | omega | exact Nat.le_refl _ | exact congrArg (SV.lst _) (List.take_of_length_le (Nat.le_refl _)).symm))) (by repeat' (first | exact trivial | exact rfl | refine And.intro ?_ ?_ | (refine congrArg vI ?_; first | omega | (dsimp only; omega) | fail) | (refine congrArg some ?_) | omega | exact Nat.le_refl _ | exact congrArg (SV.lst _) (List.take_of_length_le (Nat.le_refl _)).symm)) trivial trivial) ?_
        refine And.intro ⟨true, ⟨fun _ => he, fun _ => rfl⟩⟩ ?_
        intro (d : Bool) (hd : d = true ↔ ofL m2 (k : Int) = ofR r2 (k : Int))
        cases d
        · have := hd.2 he; cases this
        conv => whnf
        repeat' (first | (refine tell (fun htest => ?_) (fun htest => ?_) <;> (try dsimp only at htest) <;> first | (exfalso; omega) | (exact absurd rfl htest) | (exact absurd (by decide) htest) | (conv => whnf)) | (refine allG rfl ?_; conv => whnf) | (refine And.intro (by first | omega | assumption | kernel_rfl | exact And.intro rfl rfl | ((try dsimp only [inR, idx, lowOf]); first | omega | (with_reducible decide) | (simp; omega) | fail) | fail) ?_; conv => whnf) | fail)
        refine ⟨k + 1, [], hk3, ?_, rfl, ?_, ?_, rfl⟩
        · dsimp only; first | omega | (simp; done) | (simp; omega)
        all_goals (repeat' (first | exact trivial | exact rfl | refine And.intro ?_ ?_ | (refine congrArg vI ?_; first | omega | (dsimp only; omega) | fail) | (refine congrArg some ?_) | omega | exact Nat.le_refl _ | exact congrArg (SV.lst _) (List.take_of_length_le (Nat.le_refl _)).symm))
      · conv => whnf
        repeat' (first | (refine tell (fun htest => ?_) (fun htest => ?_) <;> (try dsimp only at htest) <;> first | (exfalso; omega) | (exact absurd rfl htest) | (exact absurd (by decide) htest) | (conv => whnf)) | (refine allG rfl ?_; conv => whnf) | (refine And.intro (by first | omega | assumption | kernel_rfl | exact And.intro rfl rfl | ((try dsimp only [inR, idx, lowOf]); first | omega | (with_reducible decide) | (simp; omega) | fail) | fail) ?_; conv => whnf) | fail)
        refine ⟨Nat, fun j => ⟨[(1, vI who), (2, .lst 77 l), (8, .ptr 1020 0 1 0), (9, .ptr 1021 0 2 0), (10, vI i), (12, .lst 3 (elemsL L)), (14, vI j)], [(1020, .cells [.mp 2020]), (2020, .map 3 3 m2), (1021, refT 3001 3002 r2.length), (3001, .arr 3 (keysR r2)), (3002, .arr 3 (whosR r2))]⟩, fun j => j ≤ (elemsL L).length, fun j => 8 - j, fun _ _ => rfl, ⟨0, [], Nat.zero_le _, ?_⟩, ?_⟩
        · refine ⟨rfl, ?_, ?_, rfl⟩
          all_goals (repeat' (first | exact trivial | exact rfl | refine And.intro ?_ ?_ | (refine congrArg vI ?_; first | omega | (dsimp only; omega) | fail) | (refine congrArg some ?_) | omega | exact Nat.le_refl _ | exact congrArg (SV.lst _) (List.take_of_length_le (Nat.le_refl _)).symm))
        rintro (j : Nat) (hj : j ≤ (elemsL L).length)
        by_cases hjl : j < (elemsL L).length
        · obtain ⟨x, hx⟩ : ∃ x, (elemsL L)[j]? = some x := ⟨_, List.getElem?_eq_getElem hjl⟩
          have hxI := hXI x (List.mem_of_getElem? hx)
          conv => whnf
          repeat' (first | (refine tell (fun htest => ?_) (fun htest => ?_) <;> (try dsimp only at htest) <;> first | (exfalso; omega) | (exact absurd rfl htest) | (exact absurd (by decide) htest) | (conv => whnf)) | (refine allG (x := x) (by first | exact hx | simpa [List.getElem?_append_right, lowOf] using hx | fail) ?_; conv => whnf) | (refine allLst (x := x) (by first | omega | assumption | fail) (by first | exact hx | simpa using hx | fail) ?_; conv => whnf) | (refine allG rfl ?_; conv => whnf) | (refine And.intro (by first | omega | assumption | kernel_rfl | exact And.intro rfl rfl | ((try dsimp only [inR, idx, lowOf]); first | omega | (with_reducible decide) | (simp; omega) | fail) | fail) ?_; conv => whnf) | fail)
          refine ⟨_, m_ownerD, (m2, x), [1020, 2020], false, ?_⟩
          conv => whnf
          refine And.intro (vc0 hxI (by (repeat' (first | exact trivial | exact rfl | refine And.intro ?_ ?_ | (refine congrArg vI ?_; first | omega | (dsimp only; omega) | fail) | (refine congrArg some ?_) | omega | exact Nat.le_refl _ | exact congrArg (SV.lst _) (List.take_of_length_le (Nat.le_refl _)).symm))) (by repeat' (first | exact trivial | exact rfl | refine And.intro ?_ ?_ | (refine congrArg vI ?_; first | omega | (dsimp only; omega) | fail) | (refine congrArg some ?_) | omega | exact Nat.le_refl _ | exact congrArg (SV.lst _) (List.take_of_length_le (Nat.le_refl _)).symm)) trivial trivial) ?_
          refine And.intro ⟨_, rfl⟩ ?_
          rintro ⟨(v : Int), (is : Bool)⟩ (hv : (v, is) = ((lookT m2 x).getD 0, (lookT m2 x).isSome))
          conv => whnf
          repeat' (first | (refine tell (fun htest => ?_) (fun htest => ?_) <;> (try dsimp only at htest) <;> first | (exfalso; omega) | (exact absurd rfl htest) | (exact absurd (by decide) htest) | (conv => whnf)) | (refine allG (x := x) (by first | exact hx | simpa [List.getElem?_append_right, lowOf] using hx | fail) ?_; conv => whnf) | (refine allLst (x := x) (by first | omega | assumption | fail) (by first | exact hx | simpa using hx | fail) ?_; conv => whnf) | (refine allG rfl ?_; conv => whnf) | (refine And.intro (by first | omega | assumption | kernel_rfl | exact And.intro rfl rfl | ((try dsimp only [inR, idx, lowOf]); first | omega | (with_reducible decide) | (simp; omega) | fail) | fail) ?_; conv => whnf) | fail)
          refine ⟨_, m_rowner, (r2, x), [1021, 3001, 3002], false, ?_⟩
          conv => whnf
          refine And.intro (vc0 ⟨by show r2.length ≤ 9223372036854775807; have := hp2.2; omega, hS2.up⟩ (by (repeat' (first | exact trivial | exact rfl | refine And.intro ?_ ?_ | (refine congrArg vI ?_; first | omega | (dsimp only; omega) | fail) | (refine congrArg some ?_) | omega | exact Nat.le_refl _ | exact congrArg (SV.lst _) (List.take_of_length_le (Nat.le_refl _)).symm))) (by repeat' (first | exact trivial | exact rfl | refine And.intro ?_ ?_ | (refine congrArg vI ?_; first | omega | (dsimp only; omega) | fail) | (refine congrArg some ?_) | omega | exact Nat.le_refl _ | exact congrArg (SV.lst _) (List.take_of_length_le (Nat.le_refl _)).symm)) trivial trivial) ?_
          refine And.intro ⟨_, rfl⟩ ?_
          rintro ⟨(v2 : Int), (is2 : Bool)⟩ (hv2 : (v2, is2) = ((lookT r2 x).getD 0, (lookT r2 x).isSome))
          rw [← hS2.look x, ← hv] at hv2
          cases hv2
          conv => whnf
          repeat' (first | (refine tell (fun htest => ?_) (fun htest => ?_) <;> (try dsimp only at htest) <;> first | (exfalso; omega) | (exact absurd rfl htest) | (exact absurd (by decide) htest) | (conv => whnf)) | (refine allG rfl ?_; conv => whnf) | (refine And.intro (by first | omega | assumption | kernel_rfl | exact And.intro rfl rfl | ((try dsimp only [inR, idx, lowOf]); first | omega | (with_reducible decide) | (simp; omega) | fail) | fail) ?_; conv => whnf) | fail)
          refine ⟨j + 1, [], hjl, ?_, rfl, ?_, ?_, rfl⟩
          · dsimp only; first | omega | (simp; done) | (simp; omega)
          all_goals (repeat' (first | exact trivial | exact rfl | refine And.intro ?_ ?_ | (refine congrArg vI ?_; first | omega | (dsimp only; omega) | fail) | (refine congrArg some ?_) | omega | exact Nat.le_refl _ | exact congrArg (SV.lst _) (List.take_of_length_le (Nat.le_refl _)).symm))
        · conv => whnf
          repeat' (first | (refine tell (fun htest => ?_) (fun htest => ?_) <;> (try dsimp only at htest) <;> first | (exfalso; omega) | (exact absurd rfl htest) | (exact absurd (by decide) htest) | (conv => whnf)) | (refine allG rfl ?_; conv => whnf) | (refine And.intro (by first | omega | assumption | kernel_rfl | exact And.intro rfl rfl | ((try dsimp only [inR, idx, lowOf]); first | omega | (with_reducible decide) | (simp; omega) | fail) | fail) ?_; conv => whnf) | fail)
          refine ⟨(i + 1, m2, r2), [], ⟨hl1, hl2, hS2⟩, ?_, rfl, ?_, ?_, rfl⟩
          · dsimp only; first | omega | (simp; done) | (simp; omega)
          all_goals (repeat' (first | exact trivial | exact rfl | refine And.intro ?_ ?_ | (refine congrArg vI ?_; first | omega | (dsimp only; omega) | fail) | (refine congrArg some ?_) | omega | exact Nat.le_refl _ | exact congrArg (SV.lst _) (List.take_of_length_le (Nat.le_refl _)).symm))
  · have he := hS.of who
    conv => whnf
    repeat' (first | (refine tell (fun htest => ?_) (fun htest => ?_) <;> (try dsimp only at htest) <;> first | (exfalso; omega) | (exact absurd rfl htest) | (exact absurd (by decide) htest) | (conv => whnf)) | (refine allG rfl ?_; conv => whnf) | (refine And.intro (by first | omega | assumption | kernel_rfl | exact And.intro rfl rfl | ((try dsimp only [inR, idx, lowOf]); first | omega | (with_reducible decide) | (simp; omega) | fail) | fail) ?_; conv => whnf) | fail)
    all_goals
      refine ⟨_, m_of, (m, who), [1020, 2020], false, ?_⟩
      conv => whnf
      refine And.intro (vc0 hpre.1 (by (repeat' (first | exact trivial | exact rfl | refine And.intro ?_ ?_ | (refine congrArg vI ?_; first | omega | (dsimp only; omega) | fail) | (refine congrArg some ?_) | omega | exact Nat.le_refl _ | exact congrArg (SV.lst _) (List.take_of_length_le (Nat.le_refl _)).symm))) (by repeat' (first | exact trivial | exact rfl | refine And.intro ?_ ?_ | (refine congrArg vI ?_; first | omega | (dsimp only; omega) | fail) | (refine congrArg some ?_) | omega | exact Nat.le_refl _ | exact congrArg (SV.lst _) (List.take_of_length_le (Nat.le_refl _)).symm)) trivial trivial) ?_
      refine And.intro ⟨(), trivial⟩ (fun (_ : Unit) _ => ?_)
      conv => whnf
      conv => whnf
      repeat' (first | (refine tell (fun htest => ?_) (fun htest => ?_) <;> (try dsimp only at htest) <;> first | (exfalso; omega) | (exact absurd rfl htest) | (exact absurd (by decide) htest) | (conv => whnf)) | (refine allG rfl ?_; conv => whnf) | (refine And.intro (by first | omega | assumption | kernel_rfl | exact And.intro rfl rfl | ((try dsimp only [inR, idx, lowOf]); first | omega | (with_reducible decide) | (simp; omega) | fail) | fail) ?_; conv => whnf) | fail)
      refine ⟨_, m_rof, (r, who), [1021, 3001, 3002], false, ?_⟩
      conv => whnf
      refine And.intro (vc0 hpre.2 (by (repeat' (first | exact trivial | exact rfl | refine And.intro ?_ ?_ | (refine congrArg vI ?_; first | omega | (dsimp only; omega) | fail) | (refine congrArg some ?_) | omega | exact Nat.le_refl _ | exact congrArg (SV.lst _) (List.take_of_length_le (Nat.le_refl _)).symm))) (by repeat' (first | exact trivial | exact rfl | refine And.intro ?_ ?_ | (refine congrArg vI ?_; first | omega | (dsimp only; omega) | fail) | (refine congrArg some ?_) | omega | exact Nat.le_refl _ | exact congrArg (SV.lst _) (List.take_of_length_le (Nat.le_refl _)).symm)) trivial trivial) ?_
      refine And.intro ⟨(), trivial⟩ (fun (_ : Unit) _ => ?_)
      conv => whnf
      conv => whnf
      repeat' (first | (refine tell (fun htest => ?_) (fun htest => ?_) <;> (try dsimp only at htest) <;> first | (exfalso; omega) | (exact absurd rfl htest) | (exact absurd (by decide) htest) | (conv => whnf)) | (refine allG rfl ?_; conv => whnf) | (refine And.intro (by first | omega | assumption | kernel_rfl | exact And.intro rfl rfl | ((try dsimp only [inR, idx, lowOf]); first | omega | (with_reducible decide) | (simp; omega) | fail) | fail) ?_; conv => whnf) | fail)
      refine ⟨_, m_ints, (ofL m who, ofR r who), [], false, ?_⟩
      conv => whnf
      refine And.intro (vc0 (show (ofL m who).length ≤ 9223372036854775807 by have h1 := ofL_len m who; have h2 := hpre.1.1; omega) (by (repeat' (first | exact trivial | exact rfl | refine And.intro ?_ ?_ | (refine congrArg vI ?_; first | omega | (dsimp only; omega) | fail) | (refine congrArg some ?_) | omega | exact Nat.le_refl _ | exact congrArg (SV.lst _) (List.take_of_length_le (Nat.le_refl _)).symm))) (by repeat' (first | exact trivial | exact rfl | refine And.intro ?_ ?_ | (refine congrArg vI ?_; first | omega | (dsimp only; omega) | fail) | (refine congrArg some ?_) | omega | exact Nat.le_refl _ | exact congrArg (SV.lst _) (List.take_of_length_le (Nat.le_refl _)).symm)) trivial trivial) ?_
      refine And.intro ⟨true, ⟨fun _ => he, fun _ => rfl⟩⟩ ?_
      intro (d : Bool) (hd : d = true ↔ ofL m who = ofR r who)
      cases d
      · have := hd.2 he; cases this
      conv => whnf
      repeat' (first | (refine tell (fun htest => ?_) (fun htest => ?_) <;> (try dsimp only at htest) <;> first | (exfalso; omega) | (exact absurd rfl htest) | (exact absurd (by decide) htest) | (conv => whnf)) | (refine allG rfl ?_; conv => whnf) | (refine And.intro (by first | omega | assumption | kernel_rfl | exact And.intro rfl rfl | ((try dsimp only [inR, idx, lowOf]); first | omega | (with_reducible decide) | (simp; omega) | fail) | fail) ?_; conv => whnf) | fail)
      exact ⟨(), [], trivial, rfl, trivial, trivial⟩
end Go.Sx

