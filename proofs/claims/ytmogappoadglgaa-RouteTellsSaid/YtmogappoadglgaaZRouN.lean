/-
  Layer 12, part N: the document's Route, Tour, Cost.
-/
import Derived.Test.YtmogappoadglgaaZRouM
set_option linter.unusedVariables false
set_option linter.unusedSimpArgs false
namespace Go.Sx
open Go Go.Proofs Go.Proofs.Ytmogappoadglgaa
set_option maxHeartbeats 3200000 in
theorem m_routeX : Meets Try.prog regF 58 spRouteU := by
  refine meets Try.func58 94 noWr rfl (by kernel_rfl) (by kernel_rfl) ?_
  rintro ⟨⟨(n : Int), (es : List Edge)⟩, (bl : List Int), (a : Int), (t : Int)⟩ ⟨(hg : GoodL es), (hbl : bl.length ≤ 9223372036854775807)⟩
  conv => whnf
  repeat' (first | (refine tell (fun htest => ?_) (fun htest => ?_) <;> (try dsimp only at htest) <;> first | (exfalso; omega) | (exact absurd rfl htest) | (exact absurd (by decide) htest) | (conv => whnf)) | (refine allG rfl ?_; conv => whnf) | (refine And.intro (by first | omega | assumption | kernel_rfl | exact And.intro rfl rfl | ((try dsimp only [inR, idx, lowOf]); first | omega | (with_reducible decide) | (simp; omega) | fail) | fail) ?_; conv => whnf) | fail)
  refine ⟨_, m_farX, ((n, es), bl, t), [], false, ?_⟩
  conv => whnf
  refine And.intro (vc0 ⟨hg, hbl⟩ (by (repeat' (first | exact trivial | exact rfl | refine And.intro ?_ ?_ | (refine congrArg vI ?_; first | omega | (dsimp only; omega) | fail) | (refine congrArg some ?_) | omega | exact Nat.le_refl _ | exact congrArg (SV.lst _) (List.take_of_length_le (Nat.le_refl _)).symm))) (by repeat' (first | exact trivial | exact rfl | refine And.intro ?_ ?_ | (refine congrArg vI ?_; first | omega | (dsimp only; omega) | fail) | (refine congrArg some ?_) | omega | exact Nat.le_refl _ | exact congrArg (SV.lst _) (List.take_of_length_le (Nat.le_refl _)).symm)) trivial trivial) ?_
  refine And.intro ⟨(), trivial⟩ (fun (_ : Unit) _ => ?_)
  conv => whnf
  by_cases hF : RightL n es ∧ 0 ≤ t ∧ t < n
  · have hfu : farU n es bl t = farF n es bl t := if_pos hF
    have hR := hF.1
    have hp := hR.pos
    have hfl : (farU n es bl t).length = n.toNat := by rw [hfu, farF_len]
    by_cases hA : 0 ≤ a ∧ a < n
    · obtain ⟨ha0, han⟩ := hA
      have hI : InR n es a t := ⟨hR, ⟨ha0, han⟩, hF.2⟩
      have haa := farF_at (es := es) (bl := bl) (t := t) ha0 han
      rw [← hfu] at haa
      have hba := farV_bd hR hF.2.1 hF.2.2 (bl := bl) a
      rcases farV_ge (bl := bl) (t := t) hR a with hfa | hfa
      · conv => whnf
        repeat' (first | (refine tell (fun htest => ?_) (fun htest => ?_) <;> (try dsimp only at htest) <;> first | (exfalso; omega) | (exact absurd rfl htest) | (exact absurd (by decide) htest) | (conv => whnf)) | (refine allLst (x := _) ha0 haa ?_; conv => whnf) | (refine allG rfl ?_; conv => whnf) | (refine And.intro (by first | omega | assumption | kernel_rfl | exact And.intro rfl rfl | ((try dsimp only [inR, idx, lowOf]); first | omega | (with_reducible decide) | (simp; omega) | fail) | fail) ?_; conv => whnf) | fail)
        exact ⟨([], 120), [], .inr (.inl ⟨hI, hfa, rfl⟩), ⟨rfl, rfl, trivial⟩, trivial, trivial⟩
      · conv => whnf
        repeat' (first | (refine tell (fun htest => ?_) (fun htest => ?_) <;> (try dsimp only at htest) <;> first | (exfalso; omega) | (exact absurd rfl htest) | (exact absurd (by decide) htest) | (conv => whnf)) | (refine allLst (x := _) ha0 haa ?_; conv => whnf) | (refine allG rfl ?_; conv => whnf) | (refine And.intro (by first | omega | assumption | kernel_rfl | exact And.intro rfl rfl | ((try dsimp only [inR, idx, lowOf]); first | omega | (with_reducible decide) | (simp; omega) | fail) | fail) ?_; conv => whnf) | fail)
        refine ⟨Int × List Int, fun p => ⟨[(1, .lst 3 bl), (3, vI t), (4, .ptr 1004 0 2 0), (10, .lst 3 (farU n es bl t)), (11, .sl 3003 1 0 p.2.length), (12, vI p.1)], [(1004, layC n es), (3003, .arr 3 p.2)]⟩, fun p => (0 ≤ p.1 ∧ p.1 < n) ∧ 0 ≤ farV es bl t p.1 ∧ (p.2.length : Int) + farV es bl t p.1 ≤ 40000 ∧ ∀ l, RouteP es bl t p.1 l → RouteP es bl t a (p.2 ++ l), fun p => (farV es bl t p.1).toNat, fun _ _ => rfl, ⟨(a, []), [], ⟨⟨ha0, han⟩, hfa, by simpa using hba, fun l h => h⟩, ?_⟩, ?_⟩
        · refine ⟨rfl, ?_, ?_, rfl⟩
          all_goals (repeat' (first | exact trivial | exact rfl | refine And.intro ?_ ?_ | (refine congrArg vI ?_; first | omega | (dsimp only; omega) | fail) | (refine congrArg some ?_) | omega | exact Nat.le_refl _ | exact congrArg (SV.lst _) (List.take_of_length_le (Nat.le_refl _)).symm))
        rintro ⟨(v : Int), (out : List Int)⟩ ⟨⟨(hv0 : 0 ≤ v), (hvn : v < n)⟩, (hfv : 0 ≤ farV es bl t v), (hol : (out.length : Int) + farV es bl t v ≤ 40000), (hcont : ∀ l, RouteP es bl t v l → RouteP es bl t a (out ++ l))⟩
        by_cases hvt : v = t
        · subst hvt
          conv => whnf
          repeat' (first | (refine tell (fun htest => ?_) (fun htest => ?_) <;> (try dsimp only at htest) <;> first | (exfalso; omega) | (exact absurd rfl htest) | (exact absurd (by decide) htest) | (conv => whnf)) | (refine allG rfl ?_; conv => whnf) | (refine And.intro (by first | omega | assumption | kernel_rfl | exact And.intro rfl rfl | ((try dsimp only [inR, idx, lowOf]); first | omega | (with_reducible decide) | (simp; omega) | fail) | fail) ?_; conv => whnf) | fail)
          refine ⟨(out, 0), [], .inr (.inr ⟨hI, hfa, by have := hcont [] .nil; rwa [List.append_nil] at this, rfl⟩), ⟨⟨?_, rfl, ?_⟩, rfl, trivial⟩, trivial, trivial⟩
          · show 0 + out.length ≤ out.length
            omega
          · exact congrArg (SV.lst (A := AF) 3) (show out = (out.drop 0).take out.length by rw [List.drop_zero, List.take_of_length_le (Nat.le_refl _)])
        · obtain ⟨i0, e0, he0, h10, h20, _⟩ := okE_ex hR hvt hfv
          have hav := farF_at (es := es) (bl := bl) (t := t) hv0 hvn
          rw [← hfu] at hav
          have hbv := farV_bd hR hF.2.1 hF.2.2 (bl := bl) v
          have hi0l := (List.getElem?_eq_some_iff.1 he0).1
          have hes := hR.len
          conv => whnf
          repeat' (first | (refine tell (fun htest => ?_) (fun htest => ?_) <;> (try dsimp only at htest) <;> first | (exfalso; omega) | (exact absurd rfl htest) | (exact absurd (by decide) htest) | (conv => whnf)) | (refine allG rfl ?_; conv => whnf) | (refine And.intro (by first | omega | assumption | kernel_rfl | exact And.intro rfl rfl | ((try dsimp only [inR, idx, lowOf]); first | omega | (with_reducible decide) | (simp; omega) | fail) | fail) ?_; conv => whnf) | fail)
          refine ⟨Nat, fun i => ⟨[(1, .lst 3 bl), (3, vI t), (4, .ptr 1004 0 2 0), (10, .lst 3 (farU n es bl t)), (11, .sl 3003 1 0 out.length), (12, vI v), (13, vI i)], [(1004, layC n es), (3003, .arr 3 out)]⟩, fun i => i ≤ es.length ∧ ∀ (j : Nat) x, j < i → es[j]? = some x → x.1 = v → ¬ OkE es bl t v x, fun i => es.length - i, fun _ _ => rfl, ⟨0, [], ⟨Nat.zero_le _, fun j x h => absurd h (Nat.not_lt_zero _)⟩, ?_⟩, ?_⟩
          · refine ⟨rfl, ?_, ?_, rfl⟩
            all_goals (repeat' (first | exact trivial | exact rfl | refine And.intro ?_ ?_ | (refine congrArg vI ?_; first | omega | (dsimp only; omega) | fail) | (refine congrArg some ?_) | omega | exact Nat.le_refl _ | exact congrArg (SV.lst _) (List.take_of_length_le (Nat.le_refl _)).symm))
          rintro (i : Nat) ⟨(hi : i ≤ es.length), (hno : ∀ (j : Nat) x, j < i → es[j]? = some x → x.1 = v → ¬ OkE es bl t v x)⟩
          by_cases hlt : i < es.length
          · obtain ⟨e, he⟩ : ∃ e, es[i]? = some e := ⟨_, List.getElem?_eq_getElem hlt⟩
            have hmem := List.mem_of_getElem? he
            obtain ⟨o1, o2, o3, o4, _, o6, o7⟩ := hR.each e hmem
            have hat := farF_at (es := es) (bl := bl) (t := t) o3 o4
            rw [← hfu] at hat
            have hbd := farV_bd hR hF.2.1 hF.2.2 (bl := bl) e.2.1
            have skip : (e.1 = v → ¬ OkE es bl t v e) → ∀ (j : Nat) x, j < i + 1 → es[j]? = some x → x.1 = v → ¬ OkE es bl t v x := fun h j x hj hx h1 => by
              by_cases hji : j = i
              · subst hji
                rw [he] at hx; cases hx
                exact h h1
              · exact hno j x (by omega) hx h1
            conv => whnf
            repeat' (first | (refine tell (fun htest => ?_) (fun htest => ?_) <;> (try dsimp only at htest) <;> first | (exfalso; omega) | (exact absurd rfl htest) | (exact absurd (by decide) htest) | (conv => whnf)) | (refine allG (x := e) (by first | exact he | simpa [List.getElem?_append_right, lowOf] using he | fail) ?_; conv => whnf) | (refine allLst (x := e) (by first | omega | assumption | fail) (by first | exact he | simpa using he | fail) ?_; conv => whnf) | (refine allG rfl ?_; conv => whnf) | (refine And.intro (by first | omega | assumption | kernel_rfl | exact And.intro rfl rfl | ((try dsimp only [inR, idx, lowOf]); first | omega | (with_reducible decide) | (simp; omega) | fail) | fail) ?_; conv => whnf) | fail)
            refine ⟨_, m_may, (e, bl), [], false, ?_⟩
            conv => whnf
            refine And.intro (vc0 hbl (by (repeat' (first | exact trivial | exact rfl | refine And.intro ?_ ?_ | (refine congrArg vI ?_; first | omega | (dsimp only; omega) | fail) | (refine congrArg some ?_) | omega | exact Nat.le_refl _ | exact congrArg (SV.lst _) (List.take_of_length_le (Nat.le_refl _)).symm))) (by repeat' (first | exact trivial | exact rfl | refine And.intro ?_ ?_ | (refine congrArg vI ?_; first | omega | (dsimp only; omega) | fail) | (refine congrArg some ?_) | omega | exact Nat.le_refl _ | exact congrArg (SV.lst _) (List.take_of_length_le (Nat.le_refl _)).symm)) trivial trivial) ?_
            refine And.intro (pred_ex _) ?_
            intro (b : Bool) (hb : b = true ↔ e.2.1 ∉ bl)
            by_cases h1 : e.1 = v
            · cases b
              · conv => whnf
                repeat' (first | (refine tell (fun htest => ?_) (fun htest => ?_) <;> (try dsimp only at htest) <;> first | (exfalso; omega) | (exact absurd rfl htest) | (exact absurd (by decide) htest) | (conv => whnf)) | (refine allG (x := e) (by first | exact he | simpa [List.getElem?_append_right, lowOf] using he | fail) ?_; conv => whnf) | (refine allLst (x := e) (by first | omega | assumption | fail) (by first | exact he | simpa using he | fail) ?_; conv => whnf) | (refine allG rfl ?_; conv => whnf) | (refine And.intro (by first | omega | assumption | kernel_rfl | exact And.intro rfl rfl | ((try dsimp only [inR, idx, lowOf]); first | omega | (with_reducible decide) | (simp; omega) | fail) | fail) ?_; conv => whnf) | fail)
                refine ⟨i + 1, [], ⟨hlt, skip fun _ h => by have := hb.2 h.2.2; cases this⟩, ?_, rfl, ?_, ?_, rfl⟩
                · dsimp only; first | omega | (simp; done) | (simp; omega)
                all_goals (repeat' (first | exact trivial | exact rfl | refine And.intro ?_ ?_ | (refine congrArg vI ?_; first | omega | (dsimp only; omega) | fail) | (refine congrArg some ?_) | omega | exact Nat.le_refl _ | exact congrArg (SV.lst _) (List.take_of_length_le (Nat.le_refl _)).symm))
              · by_cases h2 : 0 ≤ farV es bl t e.2.1
                · by_cases h3 : farV es bl t e.2.1 + e.2.2 = farV es bl t v
                  · have hok : OkE es bl t v e := ⟨h2, h3, hb.1 rfl⟩
                    have hless := okE_less hR hmem hok
                    conv => whnf
                    repeat' (first | (refine tell (fun htest => ?_) (fun htest => ?_) <;> (try dsimp only at htest) <;> first | (exfalso; omega) | (exact absurd rfl htest) | (exact absurd (by decide) htest) | (conv => whnf)) | (refine allG (x := e) (by first | exact he | simpa [List.getElem?_append_right, lowOf] using he | fail) ?_; conv => whnf) | (refine allLst (x := e) (by first | omega | assumption | fail) (by first | exact he | simpa using he | fail) ?_; conv => whnf) | (refine allLst (x := _) o3 hat ?_; conv => whnf) | (refine allLst (x := _) hv0 hav ?_; conv => whnf) | (refine allG rfl ?_; conv => whnf) | (refine And.intro (by first | omega | assumption | kernel_rfl | exact And.intro rfl rfl | ((try dsimp only [inR, idx, lowOf]); first | omega | (with_reducible decide) | (simp; omega) | fail) | fail) ?_; conv => whnf) | fail)
                    refine ⟨(e.2.1, out ++ [(i : Int)]), [(3003, 1090)], ⟨⟨o3, o4⟩, hless.1, (by show ((out ++ [(i : Int)]).length : Int) + farV es bl t e.2.1 ≤ 40000; rw [List.length_append]; simp; omega), fun l hl => (by show RouteP es bl t a ((out ++ [(i : Int)]) ++ l); rw [List.append_assoc]; exact hcont _ (.cons hvt he h1 hok hno hl))⟩, ?_, rfl, ?_, ?_, rfl⟩
                    · dsimp only; first | omega | (simp; done) | (simp; omega)
                    all_goals (repeat' (first | exact trivial | exact rfl | refine And.intro ?_ ?_ | (refine congrArg vI ?_; first | omega | (dsimp only; omega) | fail) | (refine congrArg some ?_) | omega | exact Nat.le_refl _ | exact congrArg (SV.lst _) (List.take_of_length_le (Nat.le_refl _)).symm))
                    all_goals first | exact congrArg (SV.sl (A := AF) 1090 1 0) (show out.length + 1 = (out ++ [(i : Int)]).length by simp) | exact congrArg (Ct.arr (A := AF) 3) (show (out.drop 0).take out.length ++ [(i : Int)] = out ++ [(i : Int)] by simp) | fail
                  · conv => whnf
                    repeat' (first | (refine tell (fun htest => ?_) (fun htest => ?_) <;> (try dsimp only at htest) <;> first | (exfalso; omega) | (exact absurd rfl htest) | (exact absurd (by decide) htest) | (conv => whnf)) | (refine allG (x := e) (by first | exact he | simpa [List.getElem?_append_right, lowOf] using he | fail) ?_; conv => whnf) | (refine allLst (x := e) (by first | omega | assumption | fail) (by first | exact he | simpa using he | fail) ?_; conv => whnf) | (refine allLst (x := _) o3 hat ?_; conv => whnf) | (refine allLst (x := _) hv0 hav ?_; conv => whnf) | (refine allG rfl ?_; conv => whnf) | (refine And.intro (by first | omega | assumption | kernel_rfl | exact And.intro rfl rfl | ((try dsimp only [inR, idx, lowOf]); first | omega | (with_reducible decide) | (simp; omega) | fail) | fail) ?_; conv => whnf) | fail)
                    refine ⟨i + 1, [], ⟨hlt, skip fun _ h => h3 h.2.1⟩, ?_, rfl, ?_, ?_, rfl⟩
                    · dsimp only; first | omega | (simp; done) | (simp; omega)
                    all_goals (repeat' (first | exact trivial | exact rfl | refine And.intro ?_ ?_ | (refine congrArg vI ?_; first | omega | (dsimp only; omega) | fail) | (refine congrArg some ?_) | omega | exact Nat.le_refl _ | exact congrArg (SV.lst _) (List.take_of_length_le (Nat.le_refl _)).symm))
                · conv => whnf
                  repeat' (first | (refine tell (fun htest => ?_) (fun htest => ?_) <;> (try dsimp only at htest) <;> first | (exfalso; omega) | (exact absurd rfl htest) | (exact absurd (by decide) htest) | (conv => whnf)) | (refine allG (x := e) (by first | exact he | simpa [List.getElem?_append_right, lowOf] using he | fail) ?_; conv => whnf) | (refine allLst (x := e) (by first | omega | assumption | fail) (by first | exact he | simpa using he | fail) ?_; conv => whnf) | (refine allLst (x := _) o3 hat ?_; conv => whnf) | (refine allG rfl ?_; conv => whnf) | (refine And.intro (by first | omega | assumption | kernel_rfl | exact And.intro rfl rfl | ((try dsimp only [inR, idx, lowOf]); first | omega | (with_reducible decide) | (simp; omega) | fail) | fail) ?_; conv => whnf) | fail)
                  refine ⟨i + 1, [], ⟨hlt, skip fun _ h => h2 h.1⟩, ?_, rfl, ?_, ?_, rfl⟩
                  · dsimp only; first | omega | (simp; done) | (simp; omega)
                  all_goals (repeat' (first | exact trivial | exact rfl | refine And.intro ?_ ?_ | (refine congrArg vI ?_; first | omega | (dsimp only; omega) | fail) | (refine congrArg some ?_) | omega | exact Nat.le_refl _ | exact congrArg (SV.lst _) (List.take_of_length_le (Nat.le_refl _)).symm))
            · conv => whnf
              repeat' (first | (refine tell (fun htest => ?_) (fun htest => ?_) <;> (try dsimp only at htest) <;> first | (exfalso; omega) | (exact absurd rfl htest) | (exact absurd (by decide) htest) | (conv => whnf)) | (refine allG (x := e) (by first | exact he | simpa [List.getElem?_append_right, lowOf] using he | fail) ?_; conv => whnf) | (refine allLst (x := e) (by first | omega | assumption | fail) (by first | exact he | simpa using he | fail) ?_; conv => whnf) | (refine allG rfl ?_; conv => whnf) | (refine And.intro (by first | omega | assumption | kernel_rfl | exact And.intro rfl rfl | ((try dsimp only [inR, idx, lowOf]); first | omega | (with_reducible decide) | (simp; omega) | fail) | fail) ?_; conv => whnf) | fail)
              refine ⟨i + 1, [], ⟨hlt, skip fun h => absurd h h1⟩, ?_, rfl, ?_, ?_, rfl⟩
              · dsimp only; first | omega | (simp; done) | (simp; omega)
              all_goals (repeat' (first | exact trivial | exact rfl | refine And.intro ?_ ?_ | (refine congrArg vI ?_; first | omega | (dsimp only; omega) | fail) | (refine congrArg some ?_) | omega | exact Nat.le_refl _ | exact congrArg (SV.lst _) (List.take_of_length_le (Nat.le_refl _)).symm))
          · exact absurd h20 (hno i0 e0 (by omega) he0 h10)
    · have hI : ¬ InR n es a t := fun h => hA h.2.1
      by_cases h0 : a < 0
      · conv => whnf
        repeat' (first | (refine tell (fun htest => ?_) (fun htest => ?_) <;> (try dsimp only at htest) <;> first | (exfalso; omega) | (exact absurd rfl htest) | (exact absurd (by decide) htest) | (conv => whnf)) | (refine allG rfl ?_; conv => whnf) | (refine And.intro (by first | omega | assumption | kernel_rfl | exact And.intro rfl rfl | ((try dsimp only [inR, idx, lowOf]); first | omega | (with_reducible decide) | (simp; omega) | fail) | fail) ?_; conv => whnf) | fail)
        exact ⟨([], 1), [], .inl ⟨hI, rfl⟩, ⟨rfl, rfl, trivial⟩, trivial, trivial⟩
      · have h1 : n ≤ a := by omega
        conv => whnf
        repeat' (first | (refine tell (fun htest => ?_) (fun htest => ?_) <;> (try dsimp only at htest) <;> first | (exfalso; omega) | (exact absurd rfl htest) | (exact absurd (by decide) htest) | (conv => whnf)) | (refine allG rfl ?_; conv => whnf) | (refine And.intro (by first | omega | assumption | kernel_rfl | exact And.intro rfl rfl | ((try dsimp only [inR, idx, lowOf]); first | omega | (with_reducible decide) | (simp; omega) | fail) | fail) ?_; conv => whnf) | fail)
        exact ⟨([], 1), [], .inl ⟨hI, rfl⟩, ⟨rfl, rfl, trivial⟩, trivial, trivial⟩
  · have hfl : (farU n es bl t).length = 0 := by rw [show farU n es bl t = [] from if_neg hF]; rfl
    have hI : ¬ InR n es a t := fun h => hF ⟨h.1, h.2.2⟩
    conv => whnf
    repeat' (first | (refine tell (fun htest => ?_) (fun htest => ?_) <;> (try dsimp only at htest) <;> first | (exfalso; omega) | (exact absurd rfl htest) | (exact absurd (by decide) htest) | (conv => whnf)) | (refine allG rfl ?_; conv => whnf) | (refine And.intro (by first | omega | assumption | kernel_rfl | exact And.intro rfl rfl | ((try dsimp only [inR, idx, lowOf]); first | omega | (with_reducible decide) | (simp; omega) | fail) | fail) ?_; conv => whnf) | fail)
    exact ⟨([], 1), [], .inl ⟨hI, rfl⟩, ⟨rfl, rfl, trivial⟩, trivial, trivial⟩
set_option maxHeartbeats 3200000 in
theorem m_routeX2 : Meets Try.prog regF 58 spRoute2 := by
  refine meets Try.func58 94 noWr rfl (by kernel_rfl) (by kernel_rfl) ?_
  rintro ⟨⟨(n : Int), (es : List Edge)⟩, (bl : List Int), (a : Int), (t : Int)⟩ ⟨(hR : RightL n es), ⟨(ha0 : 0 ≤ a), (han : a < n)⟩, ⟨(ht0 : 0 ≤ t), (htn : t < n)⟩, (hg : GoodL es), (hbl : bl.length ≤ 9223372036854775807), (hfa : 0 ≤ farV es bl t a)⟩
  have hF : RightL n es ∧ 0 ≤ t ∧ t < n := ⟨hR, ht0, htn⟩
  conv => whnf
  repeat' (first | (refine tell (fun htest => ?_) (fun htest => ?_) <;> (try dsimp only at htest) <;> first | (exfalso; omega) | (exact absurd rfl htest) | (exact absurd (by decide) htest) | (conv => whnf)) | (refine allG rfl ?_; conv => whnf) | (refine And.intro (by first | omega | assumption | kernel_rfl | exact And.intro rfl rfl | ((try dsimp only [inR, idx, lowOf]); first | omega | (with_reducible decide) | (simp; omega) | fail) | fail) ?_; conv => whnf) | fail)
  refine ⟨_, m_farX, ((n, es), bl, t), [], false, ?_⟩
  conv => whnf
  refine And.intro (vc0 ⟨hg, hbl⟩ (by (repeat' (first | exact trivial | exact rfl | refine And.intro ?_ ?_ | (refine congrArg vI ?_; first | omega | (dsimp only; omega) | fail) | (refine congrArg some ?_) | omega | exact Nat.le_refl _ | exact congrArg (SV.lst _) (List.take_of_length_le (Nat.le_refl _)).symm))) (by repeat' (first | exact trivial | exact rfl | refine And.intro ?_ ?_ | (refine congrArg vI ?_; first | omega | (dsimp only; omega) | fail) | (refine congrArg some ?_) | omega | exact Nat.le_refl _ | exact congrArg (SV.lst _) (List.take_of_length_le (Nat.le_refl _)).symm)) trivial trivial) ?_
  refine And.intro ⟨(), trivial⟩ (fun (_ : Unit) _ => ?_)
  conv => whnf
  have hfu : farU n es bl t = farF n es bl t := if_pos hF
  have hp := hR.pos
  have hfl : (farU n es bl t).length = n.toNat := by rw [hfu, farF_len]
  have haa := farF_at (es := es) (bl := bl) (t := t) ha0 han
  rw [← hfu] at haa
  have hba := farV_bd hR hF.2.1 hF.2.2 (bl := bl) a
  conv => whnf
  repeat' (first | (refine tell (fun htest => ?_) (fun htest => ?_) <;> (try dsimp only at htest) <;> first | (exfalso; omega) | (exact absurd rfl htest) | (exact absurd (by decide) htest) | (conv => whnf)) | (refine allLst (x := _) ha0 haa ?_; conv => whnf) | (refine allG rfl ?_; conv => whnf) | (refine And.intro (by first | omega | assumption | kernel_rfl | exact And.intro rfl rfl | ((try dsimp only [inR, idx, lowOf]); first | omega | (with_reducible decide) | (simp; omega) | fail) | fail) ?_; conv => whnf) | fail)
  refine ⟨Int × List Int, fun p => ⟨[(1, .lst 3 bl), (3, vI t), (4, .ptr 1004 0 2 0), (10, .lst 3 (farU n es bl t)), (11, .sl 3003 1 0 p.2.length), (12, vI p.1)], [(1004, layC n es), (3003, .arr 3 p.2)]⟩, fun p => (0 ≤ p.1 ∧ p.1 < n) ∧ 0 ≤ farV es bl t p.1 ∧ (p.2.length : Int) + farV es bl t p.1 ≤ 40000 ∧ ∀ l, RouteP es bl t p.1 l → RouteP es bl t a (p.2 ++ l), fun p => (farV es bl t p.1).toNat, fun _ _ => rfl, ⟨(a, []), [], ⟨⟨ha0, han⟩, hfa, by simpa using hba, fun l h => h⟩, ?_⟩, ?_⟩
  · refine ⟨rfl, ?_, ?_, rfl⟩
    all_goals (repeat' (first | exact trivial | exact rfl | refine And.intro ?_ ?_ | (refine congrArg vI ?_; first | omega | (dsimp only; omega) | fail) | (refine congrArg some ?_) | omega | exact Nat.le_refl _ | exact congrArg (SV.lst _) (List.take_of_length_le (Nat.le_refl _)).symm))
  rintro ⟨(v : Int), (out : List Int)⟩ ⟨⟨(hv0 : 0 ≤ v), (hvn : v < n)⟩, (hfv : 0 ≤ farV es bl t v), (hol : (out.length : Int) + farV es bl t v ≤ 40000), (hcont : ∀ l, RouteP es bl t v l → RouteP es bl t a (out ++ l))⟩
  by_cases hvt : v = t
  · subst hvt
    conv => whnf
    repeat' (first | (refine tell (fun htest => ?_) (fun htest => ?_) <;> (try dsimp only at htest) <;> first | (exfalso; omega) | (exact absurd rfl htest) | (exact absurd (by decide) htest) | (conv => whnf)) | (refine allG rfl ?_; conv => whnf) | (refine And.intro (by first | omega | assumption | kernel_rfl | exact And.intro rfl rfl | ((try dsimp only [inR, idx, lowOf]); first | omega | (with_reducible decide) | (simp; omega) | fail) | fail) ?_; conv => whnf) | fail)
    exact ⟨out, [3003], (by have := hcont [] .nil; rwa [List.append_nil] at this), ⟨rfl, rfl, trivial⟩, ⟨rfl, trivial⟩, trivial⟩
  · obtain ⟨i0, e0, he0, h10, h20, _⟩ := okE_ex hR hvt hfv
    have hav := farF_at (es := es) (bl := bl) (t := t) hv0 hvn
    rw [← hfu] at hav
    have hbv := farV_bd hR hF.2.1 hF.2.2 (bl := bl) v
    have hi0l := (List.getElem?_eq_some_iff.1 he0).1
    have hes := hR.len
    conv => whnf
    repeat' (first | (refine tell (fun htest => ?_) (fun htest => ?_) <;> (try dsimp only at htest) <;> first | (exfalso; omega) | (exact absurd rfl htest) | (exact absurd (by decide) htest) | (conv => whnf)) | (refine allG rfl ?_; conv => whnf) | (refine And.intro (by first | omega | assumption | kernel_rfl | exact And.intro rfl rfl | ((try dsimp only [inR, idx, lowOf]); first | omega | (with_reducible decide) | (simp; omega) | fail) | fail) ?_; conv => whnf) | fail)
    refine ⟨Nat, fun i => ⟨[(1, .lst 3 bl), (3, vI t), (4, .ptr 1004 0 2 0), (10, .lst 3 (farU n es bl t)), (11, .sl 3003 1 0 out.length), (12, vI v), (13, vI i)], [(1004, layC n es), (3003, .arr 3 out)]⟩, fun i => i ≤ es.length ∧ ∀ (j : Nat) x, j < i → es[j]? = some x → x.1 = v → ¬ OkE es bl t v x, fun i => es.length - i, fun _ _ => rfl, ⟨0, [], ⟨Nat.zero_le _, fun j x h => absurd h (Nat.not_lt_zero _)⟩, ?_⟩, ?_⟩
    · refine ⟨rfl, ?_, ?_, rfl⟩
      all_goals (repeat' (first | exact trivial | exact rfl | refine And.intro ?_ ?_ | (refine congrArg vI ?_; first | omega | (dsimp only; omega) | fail) | (refine congrArg some ?_) | omega | exact Nat.le_refl _ | exact congrArg (SV.lst _) (List.take_of_length_le (Nat.le_refl _)).symm))
    rintro (i : Nat) ⟨(hi : i ≤ es.length), (hno : ∀ (j : Nat) x, j < i → es[j]? = some x → x.1 = v → ¬ OkE es bl t v x)⟩
    by_cases hlt : i < es.length
    · obtain ⟨e, he⟩ : ∃ e, es[i]? = some e := ⟨_, List.getElem?_eq_getElem hlt⟩
      have hmem := List.mem_of_getElem? he
      obtain ⟨o1, o2, o3, o4, _, o6, o7⟩ := hR.each e hmem
      have hat := farF_at (es := es) (bl := bl) (t := t) o3 o4
      rw [← hfu] at hat
      have hbd := farV_bd hR hF.2.1 hF.2.2 (bl := bl) e.2.1
      have skip : (e.1 = v → ¬ OkE es bl t v e) → ∀ (j : Nat) x, j < i + 1 → es[j]? = some x → x.1 = v → ¬ OkE es bl t v x := fun h j x hj hx h1 => by
        by_cases hji : j = i
        · subst hji
          rw [he] at hx; cases hx
          exact h h1
        · exact hno j x (by omega) hx h1
      conv => whnf
      repeat' (first | (refine tell (fun htest => ?_) (fun htest => ?_) <;> (try dsimp only at htest) <;> first | (exfalso; omega) | (exact absurd rfl htest) | (exact absurd (by decide) htest) | (conv => whnf)) | (refine allG (x := e) (by first | exact he | simpa [List.getElem?_append_right, lowOf] using he | fail) ?_; conv => whnf) | (refine allLst (x := e) (by first | omega | assumption | fail) (by first | exact he | simpa using he | fail) ?_; conv => whnf) | (refine allG rfl ?_; conv => whnf) | (refine And.intro (by first | omega | assumption | kernel_rfl | exact And.intro rfl rfl | ((try dsimp only [inR, idx, lowOf]); first | omega | (with_reducible decide) | (simp; omega) | fail) | fail) ?_; conv => whnf) | fail)
      refine ⟨_, m_may, (e, bl), [], false, ?_⟩
      conv => whnf
      refine And.intro (vc0 hbl (by (repeat' (first | exact trivial | exact rfl | refine And.intro ?_ ?_ | (refine congrArg vI ?_; first | omega | (dsimp only; omega) | fail) | (refine congrArg some ?_) | omega | exact Nat.le_refl _ | exact congrArg (SV.lst _) (List.take_of_length_le (Nat.le_refl _)).symm))) (by repeat' (first | exact trivial | exact rfl | refine And.intro ?_ ?_ | (refine congrArg vI ?_; first | omega | (dsimp only; omega) | fail) | (refine congrArg some ?_) | omega | exact Nat.le_refl _ | exact congrArg (SV.lst _) (List.take_of_length_le (Nat.le_refl _)).symm)) trivial trivial) ?_
      refine And.intro (pred_ex _) ?_
      intro (b : Bool) (hb : b = true ↔ e.2.1 ∉ bl)
      by_cases h1 : e.1 = v
      · cases b
        · conv => whnf
          repeat' (first | (refine tell (fun htest => ?_) (fun htest => ?_) <;> (try dsimp only at htest) <;> first | (exfalso; omega) | (exact absurd rfl htest) | (exact absurd (by decide) htest) | (conv => whnf)) | (refine allG (x := e) (by first | exact he | simpa [List.getElem?_append_right, lowOf] using he | fail) ?_; conv => whnf) | (refine allLst (x := e) (by first | omega | assumption | fail) (by first | exact he | simpa using he | fail) ?_; conv => whnf) | (refine allG rfl ?_; conv => whnf) | (refine And.intro (by first | omega | assumption | kernel_rfl | exact And.intro rfl rfl | ((try dsimp only [inR, idx, lowOf]); first | omega | (with_reducible decide) | (simp; omega) | fail) | fail) ?_; conv => whnf) | fail)
          refine ⟨i + 1, [], ⟨hlt, skip fun _ h => by have := hb.2 h.2.2; cases this⟩, ?_, rfl, ?_, ?_, rfl⟩
          · dsimp only; first | omega | (simp; done) | (simp; omega)
          all_goals (repeat' (first | exact trivial | exact rfl | refine And.intro ?_ ?_ | (refine congrArg vI ?_; first | omega | (dsimp only; omega) | fail) | (refine congrArg some ?_) | omega | exact Nat.le_refl _ | exact congrArg (SV.lst _) (List.take_of_length_le (Nat.le_refl _)).symm))
        · by_cases h2 : 0 ≤ farV es bl t e.2.1
          · by_cases h3 : farV es bl t e.2.1 + e.2.2 = farV es bl t v
            · have hok : OkE es bl t v e := ⟨h2, h3, hb.1 rfl⟩
              have hless := okE_less hR hmem hok
              conv => whnf
              repeat' (first | (refine tell (fun htest => ?_) (fun htest => ?_) <;> (try dsimp only at htest) <;> first | (exfalso; omega) | (exact absurd rfl htest) | (exact absurd (by decide) htest) | (conv => whnf)) | (refine allG (x := e) (by first | exact he | simpa [List.getElem?_append_right, lowOf] using he | fail) ?_; conv => whnf) | (refine allLst (x := e) (by first | omega | assumption | fail) (by first | exact he | simpa using he | fail) ?_; conv => whnf) | (refine allLst (x := _) o3 hat ?_; conv => whnf) | (refine allLst (x := _) hv0 hav ?_; conv => whnf) | (refine allG rfl ?_; conv => whnf) | (refine And.intro (by first | omega | assumption | kernel_rfl | exact And.intro rfl rfl | ((try dsimp only [inR, idx, lowOf]); first | omega | (with_reducible decide) | (simp; omega) | fail) | fail) ?_; conv => whnf) | fail)
              refine ⟨(e.2.1, out ++ [(i : Int)]), [(3003, 1090)], ⟨⟨o3, o4⟩, hless.1, (by show ((out ++ [(i : Int)]).length : Int) + farV es bl t e.2.1 ≤ 40000; rw [List.length_append]; simp; omega), fun l hl => (by show RouteP es bl t a ((out ++ [(i : Int)]) ++ l); rw [List.append_assoc]; exact hcont _ (.cons hvt he h1 hok hno hl))⟩, ?_, rfl, ?_, ?_, rfl⟩
              · dsimp only; first | omega | (simp; done) | (simp; omega)
              all_goals (repeat' (first | exact trivial | exact rfl | refine And.intro ?_ ?_ | (refine congrArg vI ?_; first | omega | (dsimp only; omega) | fail) | (refine congrArg some ?_) | omega | exact Nat.le_refl _ | exact congrArg (SV.lst _) (List.take_of_length_le (Nat.le_refl _)).symm))
              all_goals first | exact congrArg (SV.sl (A := AF) 1090 1 0) (show out.length + 1 = (out ++ [(i : Int)]).length by simp) | exact congrArg (Ct.arr (A := AF) 3) (show (out.drop 0).take out.length ++ [(i : Int)] = out ++ [(i : Int)] by simp) | fail
            · conv => whnf
              repeat' (first | (refine tell (fun htest => ?_) (fun htest => ?_) <;> (try dsimp only at htest) <;> first | (exfalso; omega) | (exact absurd rfl htest) | (exact absurd (by decide) htest) | (conv => whnf)) | (refine allG (x := e) (by first | exact he | simpa [List.getElem?_append_right, lowOf] using he | fail) ?_; conv => whnf) | (refine allLst (x := e) (by first | omega | assumption | fail) (by first | exact he | simpa using he | fail) ?_; conv => whnf) | (refine allLst (x := _) o3 hat ?_; conv => whnf) | (refine allLst (x := _) hv0 hav ?_; conv => whnf) | (refine allG rfl ?_; conv => whnf) | (refine And.intro (by first | omega | assumption | kernel_rfl | exact And.intro rfl rfl | ((try dsimp only [inR, idx, lowOf]); first | omega | (with_reducible decide) | (simp; omega) | fail) | fail) ?_; conv => whnf) | fail)
              refine ⟨i + 1, [], ⟨hlt, skip fun _ h => h3 h.2.1⟩, ?_, rfl, ?_, ?_, rfl⟩
              · dsimp only; first | omega | (simp; done) | (simp; omega)
              all_goals (repeat' (first | exact trivial | exact rfl | refine And.intro ?_ ?_ | (refine congrArg vI ?_; first | omega | (dsimp only; omega) | fail) | (refine congrArg some ?_) | omega | exact Nat.le_refl _ | exact congrArg (SV.lst _) (List.take_of_length_le (Nat.le_refl _)).symm))
          · conv => whnf
            repeat' (first | (refine tell (fun htest => ?_) (fun htest => ?_) <;> (try dsimp only at htest) <;> first | (exfalso; omega) | (exact absurd rfl htest) | (exact absurd (by decide) htest) | (conv => whnf)) | (refine allG (x := e) (by first | exact he | simpa [List.getElem?_append_right, lowOf] using he | fail) ?_; conv => whnf) | (refine allLst (x := e) (by first | omega | assumption | fail) (by first | exact he | simpa using he | fail) ?_; conv => whnf) | (refine allLst (x := _) o3 hat ?_; conv => whnf) | (refine allG rfl ?_; conv => whnf) | (refine And.intro (by first | omega | assumption | kernel_rfl | exact And.intro rfl rfl | ((try dsimp only [inR, idx, lowOf]); first | omega | (with_reducible decide) | (simp; omega) | fail) | fail) ?_; conv => whnf) | fail)
            refine ⟨i + 1, [], ⟨hlt, skip fun _ h => h2 h.1⟩, ?_, rfl, ?_, ?_, rfl⟩
            · dsimp only; first | omega | (simp; done) | (simp; omega)
            all_goals (repeat' (first | exact trivial | exact rfl | refine And.intro ?_ ?_ | (refine congrArg vI ?_; first | omega | (dsimp only; omega) | fail) | (refine congrArg some ?_) | omega | exact Nat.le_refl _ | exact congrArg (SV.lst _) (List.take_of_length_le (Nat.le_refl _)).symm))
      · conv => whnf
        repeat' (first | (refine tell (fun htest => ?_) (fun htest => ?_) <;> (try dsimp only at htest) <;> first | (exfalso; omega) | (exact absurd rfl htest) | (exact absurd (by decide) htest) | (conv => whnf)) | (refine allG (x := e) (by first | exact he | simpa [List.getElem?_append_right, lowOf] using he | fail) ?_; conv => whnf) | (refine allLst (x := e) (by first | omega | assumption | fail) (by first | exact he | simpa using he | fail) ?_; conv => whnf) | (refine allG rfl ?_; conv => whnf) | (refine And.intro (by first | omega | assumption | kernel_rfl | exact And.intro rfl rfl | ((try dsimp only [inR, idx, lowOf]); first | omega | (with_reducible decide) | (simp; omega) | fail) | fail) ?_; conv => whnf) | fail)
        refine ⟨i + 1, [], ⟨hlt, skip fun h => absurd h h1⟩, ?_, rfl, ?_, ?_, rfl⟩
        · dsimp only; first | omega | (simp; done) | (simp; omega)
        all_goals (repeat' (first | exact trivial | exact rfl | refine And.intro ?_ ?_ | (refine congrArg vI ?_; first | omega | (dsimp only; omega) | fail) | (refine congrArg some ?_) | omega | exact Nat.le_refl _ | exact congrArg (SV.lst _) (List.take_of_length_le (Nat.le_refl _)).symm))
    · exact absurd h20 (hno i0 e0 (by omega) he0 h10)
theorem m_tourX : Meets Try.prog regF 60 spTour := by
  refine meets Try.func60 40 noWr rfl (by kernel_rfl) (by kernel_rfl) ?_
  rintro ⟨⟨(n : Int), (es : List Edge)⟩, (bl : List Int), (a : Int), (b : Int), (c : Int)⟩ ⟨(hg : GoodL es), (hbl : bl.length ≤ 9223372036854775807)⟩
  conv => whnf
  repeat' (first | (refine tell (fun htest => ?_) (fun htest => ?_) <;> (try dsimp only at htest) <;> first | (exfalso; omega) | (exact absurd rfl htest) | (exact absurd (by decide) htest) | (conv => whnf)) | (refine allG rfl ?_; conv => whnf) | (refine And.intro (by first | omega | assumption | kernel_rfl | exact And.intro rfl rfl | ((try dsimp only [inR, idx, lowOf]); first | omega | (with_reducible decide) | (simp; omega) | fail) | fail) ?_; conv => whnf) | fail)
  by_cases hI : InR n es a b ∧ 0 ≤ farV es bl b a
  · obtain ⟨r0, hr0⟩ := route_ex hI.1.1 _ _ hI.2 (Int.le_of_eq (Int.toNat_of_nonneg hI.2).symm)
    refine ⟨_, m_routeX2, ((n, es), bl, a, b), [], false, ?_⟩
    conv => whnf
    refine And.intro (vc0 ⟨hI.1.1, hI.1.2.1, hI.1.2.2, hg, hbl, hI.2⟩ (by (repeat' (first | exact trivial | exact rfl | refine And.intro ?_ ?_ | (refine congrArg vI ?_; first | omega | (dsimp only; omega) | fail) | (refine congrArg some ?_) | omega | exact Nat.le_refl _ | exact congrArg (SV.lst _) (List.take_of_length_le (Nat.le_refl _)).symm))) (by repeat' (first | exact trivial | exact rfl | refine And.intro ?_ ?_ | (refine congrArg vI ?_; first | omega | (dsimp only; omega) | fail) | (refine congrArg some ?_) | omega | exact Nat.le_refl _ | exact congrArg (SV.lst _) (List.take_of_length_le (Nat.le_refl _)).symm)) trivial trivial) ?_
    refine And.intro ⟨r0, hr0⟩ ?_
    intro (x : List Int) (hx : RouteP es bl b a x)
    have hxr : RouteR n es bl a b (x, 0) := .inr (.inr ⟨hI.1, hI.2, hx, rfl⟩)
    have hxl : x.length ≤ 40000 := routeR_len hxr
    conv => whnf
    repeat' (first | (refine tell (fun htest => ?_) (fun htest => ?_) <;> (try dsimp only at htest) <;> first | (exfalso; omega) | (exact absurd rfl htest) | (exact absurd (by decide) htest) | (conv => whnf)) | (refine allG rfl ?_; conv => whnf) | (refine And.intro (by first | omega | assumption | kernel_rfl | exact And.intro rfl rfl | ((try dsimp only [inR, idx, lowOf]); first | omega | (with_reducible decide) | (simp; omega) | fail) | fail) ?_; conv => whnf) | fail)
    refine ⟨_, m_routeX, ((n, es), bl, b, c), [], false, ?_⟩
    conv => whnf
    refine And.intro (vc0 ⟨hg, hbl⟩ (by (repeat' (first | exact trivial | exact rfl | refine And.intro ?_ ?_ | (refine congrArg vI ?_; first | omega | (dsimp only; omega) | fail) | (refine congrArg some ?_) | omega | exact Nat.le_refl _ | exact congrArg (SV.lst _) (List.take_of_length_le (Nat.le_refl _)).symm))) (by repeat' (first | exact trivial | exact rfl | refine And.intro ?_ ?_ | (refine congrArg vI ?_; first | omega | (dsimp only; omega) | fail) | (refine congrArg some ?_) | omega | exact Nat.le_refl _ | exact congrArg (SV.lst _) (List.take_of_length_le (Nat.le_refl _)).symm)) trivial trivial) ?_
    refine And.intro (routeR_ex _ _ _ _ _) ?_
    rintro ⟨(y : List Int), (f : Int)⟩ (hy : RouteR n es bl b c (y, f))
    have hyl : y.length ≤ 40000 := routeR_len hy
    by_cases hf : f = 0
    · conv => whnf
      repeat' (first | (refine tell (fun htest => ?_) (fun htest => ?_) <;> (try dsimp only at htest) <;> first | (exfalso; omega) | (exact absurd rfl htest) | (exact absurd (by decide) htest) | (conv => whnf)) | (refine allG rfl ?_; conv => whnf) | (refine And.intro (by first | omega | assumption | kernel_rfl | exact And.intro rfl rfl | ((try dsimp only [inR, idx, lowOf]); first | omega | (with_reducible decide) | (simp; omega) | fail) | fail) ?_; conv => whnf) | fail)
      refine ⟨(x ++ y, 0), [], ⟨_, hxr, .inr ⟨rfl, _, hy, .inr ⟨hf, rfl⟩⟩⟩, ⟨⟨?_, rfl, ?_⟩, rfl, trivial⟩, trivial, trivial⟩
      · show 0 + (x.length + y.length) ≤ ((x.drop 0).take x.length ++ y).length
        simp
      · exact congrArg (SV.lst (A := AF) 3) (show x ++ y = ((((x.drop 0).take x.length) ++ y).drop 0).take (x.length + y.length) by rw [List.drop_zero, List.drop_zero, List.take_of_length_le (Nat.le_refl x.length), List.take_of_length_le (by simp)])
    · conv => whnf
      repeat' (first | (refine tell (fun htest => ?_) (fun htest => ?_) <;> (try dsimp only at htest) <;> first | (exfalso; omega) | (exact absurd rfl htest) | (exact absurd (by decide) htest) | (conv => whnf)) | (refine allG rfl ?_; conv => whnf) | (refine And.intro (by first | omega | assumption | kernel_rfl | exact And.intro rfl rfl | ((try dsimp only [inR, idx, lowOf]); first | omega | (with_reducible decide) | (simp; omega) | fail) | fail) ?_; conv => whnf) | fail)
      exact ⟨([], f), [], ⟨_, hxr, .inr ⟨rfl, _, hy, .inl ⟨hf, rfl⟩⟩⟩, ⟨rfl, rfl, trivial⟩, trivial, trivial⟩
  · refine ⟨_, m_routeX, ((n, es), bl, a, b), [], false, ?_⟩
    conv => whnf
    refine And.intro (vc0 ⟨hg, hbl⟩ (by (repeat' (first | exact trivial | exact rfl | refine And.intro ?_ ?_ | (refine congrArg vI ?_; first | omega | (dsimp only; omega) | fail) | (refine congrArg some ?_) | omega | exact Nat.le_refl _ | exact congrArg (SV.lst _) (List.take_of_length_le (Nat.le_refl _)).symm))) (by repeat' (first | exact trivial | exact rfl | refine And.intro ?_ ?_ | (refine congrArg vI ?_; first | omega | (dsimp only; omega) | fail) | (refine congrArg some ?_) | omega | exact Nat.le_refl _ | exact congrArg (SV.lst _) (List.take_of_length_le (Nat.le_refl _)).symm)) trivial trivial) ?_
    refine And.intro (routeR_ex _ _ _ _ _) ?_
    rintro ⟨(x : List Int), (e : Int)⟩ (hx : RouteR n es bl a b (x, e))
    have he : e ≠ 0 := fun h => by
      rcases hx with ⟨_, hx⟩ | ⟨_, _, hx⟩ | ⟨h1, h2, _, _⟩
      · have := (Prod.mk.inj hx).2; omega
      · have := (Prod.mk.inj hx).2; omega
      · exact hI ⟨h1, h2⟩
    conv => whnf
    repeat' (first | (refine tell (fun htest => ?_) (fun htest => ?_) <;> (try dsimp only at htest) <;> first | (exfalso; omega) | (exact absurd rfl htest) | (exact absurd (by decide) htest) | (conv => whnf)) | (refine allG rfl ?_; conv => whnf) | (refine And.intro (by first | omega | assumption | kernel_rfl | exact And.intro rfl rfl | ((try dsimp only [inR, idx, lowOf]); first | omega | (with_reducible decide) | (simp; omega) | fail) | fail) ?_; conv => whnf) | fail)
    exact ⟨([], e), [], ⟨_, hx, .inl ⟨he, rfl⟩⟩, ⟨rfl, rfl, trivial⟩, trivial, trivial⟩
theorem m_costX : Meets Try.prog regF 62 spCost := by
  refine meets Try.func62 40 noWr rfl (by kernel_rfl) (by kernel_rfl) ?_
  rintro ⟨⟨(n : Int), (es : List Edge)⟩, (is : List Int)⟩ ⟨(hc : ∀ e ∈ es, 0 ≤ e.2.2 ∧ e.2.2 ≤ 1000), (hel : es.length ≤ 9223372036854775807), (hil : is.length ≤ 17592186044416)⟩
  conv => whnf
  repeat' (first | (refine tell (fun htest => ?_) (fun htest => ?_) <;> (try dsimp only at htest) <;> first | (exfalso; omega) | (exact absurd rfl htest) | (exact absurd (by decide) htest) | (conv => whnf)) | (refine allG rfl ?_; conv => whnf) | (refine And.intro (by first | omega | assumption | kernel_rfl | exact And.intro rfl rfl | ((try dsimp only [inR, idx, lowOf]); first | omega | (with_reducible decide) | (simp; omega) | fail) | fail) ?_; conv => whnf) | fail)
  refine ⟨Nat, fun i => ⟨[(1, .lst 3 is), (2, .ptr 1002 0 2 0), (5, vI (costF es (is.take i))), (6, vI i)], [(1002, layC n es)]⟩, fun i => i ≤ is.length, fun i => is.length - i, fun _ _ => rfl, ⟨0, [], Nat.zero_le _, ?_⟩, ?_⟩
  · refine ⟨rfl, ?_, ?_, rfl⟩
    all_goals (repeat' (first | exact trivial | exact rfl | refine And.intro ?_ ?_ | (refine congrArg vI ?_; first | omega | (dsimp only; omega) | fail) | (refine congrArg some ?_) | omega | exact Nat.le_refl _ | exact congrArg (SV.lst _) (List.take_of_length_le (Nat.le_refl _)).symm))
  rintro (i : Nat) (hi : i ≤ is.length)
  by_cases hlt : i < is.length
  · obtain ⟨x, hx⟩ : ∃ x, is[i]? = some x := ⟨_, List.getElem?_eq_getElem hlt⟩
    have hs := costF_snoc (es := es) hx
    have hb := costF_bd hc (is.take i)
    rw [List.length_take] at hb
    by_cases h0 : 0 ≤ x
    · by_cases h1 : x < es.length
      · obtain ⟨e, he⟩ : ∃ e, es[x.toNat]? = some e := ⟨_, List.getElem?_eq_getElem (by omega)⟩
        have hce := hc e (List.mem_of_getElem? he)
        rw [cost_in h0 h1 he] at hs
        conv => whnf
        repeat' (first | (refine tell (fun htest => ?_) (fun htest => ?_) <;> (try dsimp only at htest) <;> first | (exfalso; omega) | (exact absurd rfl htest) | (exact absurd (by decide) htest) | (conv => whnf)) | (refine allG (x := x) (by first | exact hx | simpa [List.getElem?_append_right, lowOf] using hx | fail) ?_; conv => whnf) | (refine allLst (x := x) (by first | omega | assumption | fail) (by first | exact hx | simpa using hx | fail) ?_; conv => whnf) | (refine allLst (x := e) h0 he ?_; conv => whnf) | (refine allG rfl ?_; conv => whnf) | (refine And.intro (by first | omega | assumption | kernel_rfl | exact And.intro rfl rfl | ((try dsimp only [inR, idx, lowOf]); first | omega | (with_reducible decide) | (simp; omega) | fail) | fail) ?_; conv => whnf) | fail)
        refine ⟨i + 1, [], hlt, ?_, rfl, ?_, ?_, rfl⟩
        · dsimp only; first | omega | (simp; done) | (simp; omega)
        all_goals (repeat' (first | exact trivial | exact rfl | refine And.intro ?_ ?_ | (refine congrArg vI ?_; first | omega | (dsimp only; omega) | fail) | (refine congrArg some ?_) | omega | exact Nat.le_refl _ | exact congrArg (SV.lst _) (List.take_of_length_le (Nat.le_refl _)).symm))
      · rw [cost_out (by omega)] at hs
        conv => whnf
        repeat' (first | (refine tell (fun htest => ?_) (fun htest => ?_) <;> (try dsimp only at htest) <;> first | (exfalso; omega) | (exact absurd rfl htest) | (exact absurd (by decide) htest) | (conv => whnf)) | (refine allG (x := x) (by first | exact hx | simpa [List.getElem?_append_right, lowOf] using hx | fail) ?_; conv => whnf) | (refine allLst (x := x) (by first | omega | assumption | fail) (by first | exact hx | simpa using hx | fail) ?_; conv => whnf) | (refine allG rfl ?_; conv => whnf) | (refine And.intro (by first | omega | assumption | kernel_rfl | exact And.intro rfl rfl | ((try dsimp only [inR, idx, lowOf]); first | omega | (with_reducible decide) | (simp; omega) | fail) | fail) ?_; conv => whnf) | fail)
        refine ⟨i + 1, [], hlt, ?_, rfl, ?_, ?_, rfl⟩
        · dsimp only; first | omega | (simp; done) | (simp; omega)
        all_goals (repeat' (first | exact trivial | exact rfl | refine And.intro ?_ ?_ | (refine congrArg vI ?_; first | omega | (dsimp only; omega) | fail) | (refine congrArg some ?_) | omega | exact Nat.le_refl _ | exact congrArg (SV.lst _) (List.take_of_length_le (Nat.le_refl _)).symm))
    · rw [cost_out (by omega)] at hs
      conv => whnf
      repeat' (first | (refine tell (fun htest => ?_) (fun htest => ?_) <;> (try dsimp only at htest) <;> first | (exfalso; omega) | (exact absurd rfl htest) | (exact absurd (by decide) htest) | (conv => whnf)) | (refine allG (x := x) (by first | exact hx | simpa [List.getElem?_append_right, lowOf] using hx | fail) ?_; conv => whnf) | (refine allLst (x := x) (by first | omega | assumption | fail) (by first | exact hx | simpa using hx | fail) ?_; conv => whnf) | (refine allG rfl ?_; conv => whnf) | (refine And.intro (by first | omega | assumption | kernel_rfl | exact And.intro rfl rfl | ((try dsimp only [inR, idx, lowOf]); first | omega | (with_reducible decide) | (simp; omega) | fail) | fail) ?_; conv => whnf) | fail)
      refine ⟨i + 1, [], hlt, ?_, rfl, ?_, ?_, rfl⟩
      · dsimp only; first | omega | (simp; done) | (simp; omega)
      all_goals (repeat' (first | exact trivial | exact rfl | refine And.intro ?_ ?_ | (refine congrArg vI ?_; first | omega | (dsimp only; omega) | fail) | (refine congrArg some ?_) | omega | exact Nat.le_refl _ | exact congrArg (SV.lst _) (List.take_of_length_le (Nat.le_refl _)).symm))
  · conv => whnf
    repeat' (first | (refine tell (fun htest => ?_) (fun htest => ?_) <;> (try dsimp only at htest) <;> first | (exfalso; omega) | (exact absurd rfl htest) | (exact absurd (by decide) htest) | (conv => whnf)) | (refine allG rfl ?_; conv => whnf) | (refine And.intro (by first | omega | assumption | kernel_rfl | exact And.intro rfl rfl | ((try dsimp only [inR, idx, lowOf]); first | omega | (with_reducible decide) | (simp; omega) | fail) | fail) ?_; conv => whnf) | fail)
    exact ⟨(), [], trivial, congrArg vI (show costF es (is.take i) = costF es is by rw [List.take_of_length_le (by omega)]), trivial, trivial⟩
end Go.Sx

