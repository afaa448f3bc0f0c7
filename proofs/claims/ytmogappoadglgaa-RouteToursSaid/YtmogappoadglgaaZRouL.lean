/-
  Layer 12, part L: RouteTours.
-/
import Derived.Test.YtmogappoadglgaaZRouK
import Derived.Test.YtmogappoadglgaaZRouJ
set_option linter.unusedVariables false
set_option linter.unusedSimpArgs false
namespace Go.Sx
open Go Go.Proofs Go.Proofs.Ytmogappoadglgaa
theorem wayL_app {es : List Edge} {bl : List Int} {a b c : Int} {x y : List Int} (h : WayL es bl b a x) (g : WayL es bl c b y) : WayL es bl c a (x ++ y) := by
  induction h with
  | nil => exact g
  | cons he hb _ ih => exact .cons he hb ih
set_option maxHeartbeats 3200000 in
theorem m_toursR : Meets Try.prog regF 20 (spLaw (fun g : Int × List (Int × Int × Int) × List Int × Int × Int × Int => [vI g.1, .lst 66 g.2.1, .lst 3 g.2.2.1, .agg [vI g.2.2.2.1, vI g.2.2.2.2.1, vI g.2.2.2.2.2]]) (fun g => InI g.1 ∧ Triples g.2.1 ∧ g.2.2.1.length ≤ 9223372036854775807 ∧ InI g.2.2.2.1 ∧ InI g.2.2.2.2.1 ∧ InI g.2.2.2.2.2)) := by
  refine meets Try.func20 101 noWr rfl (by kernel_rfl) (by kernel_rfl) ?_
  rintro ⟨(c : Int), (l : List (Int × Int × Int)), (bl : List Int), (n0 : Int), (n1 : Int), (n2 : Int)⟩ ⟨(hc : InI c), (hl : Triples l), (hbl : bl.length ≤ 9223372036854775807), (h0 : InI n0), (h1 : InI n1), (h2 : InI n2)⟩
  obtain ⟨hR, h24⟩ := fit_right c l
  obtain ⟨ha0, han⟩ := pickF_bd (c := n0) hR.pos
  obtain ⟨hb0, hbn⟩ := pickF_bd (c := n1) hR.pos
  obtain ⟨hc0, hcn⟩ := pickF_bd (c := n2) hR.pos
  have hIab : InR (fitN c) (fitL c l) (pickF n0 (fitN c)) (pickF n1 (fitN c)) := ⟨hR, ⟨ha0, han⟩, hb0, hbn⟩
  have hIbc : InR (fitN c) (fitL c l) (pickF n1 (fitN c)) (pickF n2 (fitN c)) := ⟨hR, ⟨hb0, hbn⟩, hc0, hcn⟩
  have hlL : (fitL c l).length ≤ 9223372036854775807 := by omega
  conv => whnf
  repeat' (first | (refine tell (fun htest => ?_) (fun htest => ?_) <;> (try dsimp only at htest) <;> first | (exfalso; omega) | (exact absurd rfl htest) | (exact absurd (by decide) htest) | (conv => whnf)) | (refine allG rfl ?_; conv => whnf) | (refine And.intro (by first | omega | assumption | kernel_rfl | exact And.intro rfl rfl | ((try dsimp only [inR, idx, lowOf]); first | omega | (with_reducible decide) | (simp; omega) | fail) | fail) ?_; conv => whnf) | fail)
  refine ⟨_, m_awakeR, (), [], false, ?_⟩
  conv => whnf
  refine And.intro (vc0 trivial (by (repeat' (first | exact trivial | exact rfl | refine And.intro ?_ ?_ | (refine congrArg vI ?_; first | omega | (dsimp only; omega) | fail) | (refine congrArg some ?_) | omega | exact Nat.le_refl _ | exact congrArg (SV.lst _) (List.take_of_length_le (Nat.le_refl _)).symm))) (by repeat' (first | exact trivial | exact rfl | refine And.intro ?_ ?_ | (refine congrArg vI ?_; first | omega | (dsimp only; omega) | fail) | (refine congrArg some ?_) | omega | exact Nat.le_refl _ | exact congrArg (SV.lst _) (List.take_of_length_le (Nat.le_refl _)).symm)) trivial trivial) ?_
  refine And.intro ⟨(), trivial⟩ (fun (_ : Unit) _ => ?_)
  conv => whnf
  conv => whnf
  repeat' (first | (refine tell (fun htest => ?_) (fun htest => ?_) <;> (try dsimp only at htest) <;> first | (exfalso; omega) | (exact absurd rfl htest) | (exact absurd (by decide) htest) | (conv => whnf)) | (refine allG rfl ?_; conv => whnf) | (refine And.intro (by first | omega | assumption | kernel_rfl | exact And.intro rfl rfl | ((try dsimp only [inR, idx, lowOf]); first | omega | (with_reducible decide) | (simp; omega) | fail) | fail) ?_; conv => whnf) | fail)
  refine ⟨_, m_fit, (c, l), [], false, ?_⟩
  conv => whnf
  refine And.intro (vc0 ⟨hc, hl⟩ (by (repeat' (first | exact trivial | exact rfl | refine And.intro ?_ ?_ | (refine congrArg vI ?_; first | omega | (dsimp only; omega) | fail) | (refine congrArg some ?_) | omega | exact Nat.le_refl _ | exact congrArg (SV.lst _) (List.take_of_length_le (Nat.le_refl _)).symm))) (by repeat' (first | exact trivial | exact rfl | refine And.intro ?_ ?_ | (refine congrArg vI ?_; first | omega | (dsimp only; omega) | fail) | (refine congrArg some ?_) | omega | exact Nat.le_refl _ | exact congrArg (SV.lst _) (List.take_of_length_le (Nat.le_refl _)).symm)) trivial trivial) ?_
  refine And.intro ⟨(), trivial⟩ (fun (_ : Unit) _ => ?_)
  conv => whnf
  conv => whnf
  repeat' (first | (refine tell (fun htest => ?_) (fun htest => ?_) <;> (try dsimp only at htest) <;> first | (exfalso; omega) | (exact absurd rfl htest) | (exact absurd (by decide) htest) | (conv => whnf)) | (refine allG rfl ?_; conv => whnf) | (refine And.intro (by first | omega | assumption | kernel_rfl | exact And.intro rfl rfl | ((try dsimp only [inR, idx, lowOf]); first | omega | (with_reducible decide) | (simp; omega) | fail) | fail) ?_; conv => whnf) | fail)
  refine ⟨_, m_pick12, (n0, (fitN c)), [], false, ?_⟩
  conv => whnf
  refine And.intro (vc0 ⟨h0, hR.pos⟩ (by (repeat' (first | exact trivial | exact rfl | refine And.intro ?_ ?_ | (refine congrArg vI ?_; first | omega | (dsimp only; omega) | fail) | (refine congrArg some ?_) | omega | exact Nat.le_refl _ | exact congrArg (SV.lst _) (List.take_of_length_le (Nat.le_refl _)).symm))) (by repeat' (first | exact trivial | exact rfl | refine And.intro ?_ ?_ | (refine congrArg vI ?_; first | omega | (dsimp only; omega) | fail) | (refine congrArg some ?_) | omega | exact Nat.le_refl _ | exact congrArg (SV.lst _) (List.take_of_length_le (Nat.le_refl _)).symm)) trivial trivial) ?_
  refine And.intro ⟨(), trivial⟩ (fun (_ : Unit) _ => ?_)
  conv => whnf
  conv => whnf
  repeat' (first | (refine tell (fun htest => ?_) (fun htest => ?_) <;> (try dsimp only at htest) <;> first | (exfalso; omega) | (exact absurd rfl htest) | (exact absurd (by decide) htest) | (conv => whnf)) | (refine allG rfl ?_; conv => whnf) | (refine And.intro (by first | omega | assumption | kernel_rfl | exact And.intro rfl rfl | ((try dsimp only [inR, idx, lowOf]); first | omega | (with_reducible decide) | (simp; omega) | fail) | fail) ?_; conv => whnf) | fail)
  refine ⟨_, m_pick12, (n1, (fitN c)), [], false, ?_⟩
  conv => whnf
  refine And.intro (vc0 ⟨h1, hR.pos⟩ (by (repeat' (first | exact trivial | exact rfl | refine And.intro ?_ ?_ | (refine congrArg vI ?_; first | omega | (dsimp only; omega) | fail) | (refine congrArg some ?_) | omega | exact Nat.le_refl _ | exact congrArg (SV.lst _) (List.take_of_length_le (Nat.le_refl _)).symm))) (by repeat' (first | exact trivial | exact rfl | refine And.intro ?_ ?_ | (refine congrArg vI ?_; first | omega | (dsimp only; omega) | fail) | (refine congrArg some ?_) | omega | exact Nat.le_refl _ | exact congrArg (SV.lst _) (List.take_of_length_le (Nat.le_refl _)).symm)) trivial trivial) ?_
  refine And.intro ⟨(), trivial⟩ (fun (_ : Unit) _ => ?_)
  conv => whnf
  conv => whnf
  repeat' (first | (refine tell (fun htest => ?_) (fun htest => ?_) <;> (try dsimp only at htest) <;> first | (exfalso; omega) | (exact absurd rfl htest) | (exact absurd (by decide) htest) | (conv => whnf)) | (refine allG rfl ?_; conv => whnf) | (refine And.intro (by first | omega | assumption | kernel_rfl | exact And.intro rfl rfl | ((try dsimp only [inR, idx, lowOf]); first | omega | (with_reducible decide) | (simp; omega) | fail) | fail) ?_; conv => whnf) | fail)
  refine ⟨_, m_pick12, (n2, (fitN c)), [], false, ?_⟩
  conv => whnf
  refine And.intro (vc0 ⟨h2, hR.pos⟩ (by (repeat' (first | exact trivial | exact rfl | refine And.intro ?_ ?_ | (refine congrArg vI ?_; first | omega | (dsimp only; omega) | fail) | (refine congrArg some ?_) | omega | exact Nat.le_refl _ | exact congrArg (SV.lst _) (List.take_of_length_le (Nat.le_refl _)).symm))) (by repeat' (first | exact trivial | exact rfl | refine And.intro ?_ ?_ | (refine congrArg vI ?_; first | omega | (dsimp only; omega) | fail) | (refine congrArg some ?_) | omega | exact Nat.le_refl _ | exact congrArg (SV.lst _) (List.take_of_length_le (Nat.le_refl _)).symm)) trivial trivial) ?_
  refine And.intro ⟨(), trivial⟩ (fun (_ : Unit) _ => ?_)
  conv => whnf
  conv => whnf
  repeat' (first | (refine tell (fun htest => ?_) (fun htest => ?_) <;> (try dsimp only at htest) <;> first | (exfalso; omega) | (exact absurd rfl htest) | (exact absurd (by decide) htest) | (conv => whnf)) | (refine allG rfl ?_; conv => whnf) | (refine And.intro (by first | omega | assumption | kernel_rfl | exact And.intro rfl rfl | ((try dsimp only [inR, idx, lowOf]); first | omega | (with_reducible decide) | (simp; omega) | fail) | fail) ?_; conv => whnf) | fail)
  refine ⟨_, m_routeU, (((fitN c), (fitL c l)), bl, (pickF n0 (fitN c)), (pickF n1 (fitN c))), [], false, ?_⟩
  conv => whnf
  refine And.intro (vc0 ⟨hR.good, hbl⟩ (by (repeat' (first | exact trivial | exact rfl | refine And.intro ?_ ?_ | (refine congrArg vI ?_; first | omega | (dsimp only; omega) | fail) | (refine congrArg some ?_) | omega | exact Nat.le_refl _ | exact congrArg (SV.lst _) (List.take_of_length_le (Nat.le_refl _)).symm))) (by repeat' (first | exact trivial | exact rfl | refine And.intro ?_ ?_ | (refine congrArg vI ?_; first | omega | (dsimp only; omega) | fail) | (refine congrArg some ?_) | omega | exact Nat.le_refl _ | exact congrArg (SV.lst _) (List.take_of_length_le (Nat.le_refl _)).symm)) trivial trivial) ?_
  refine And.intro (routeR_ex _ _ _ _ _) ?_
  rintro ⟨(x : List Int), (e : Int)⟩ (hx : RouteR (fitN c) (fitL c l) bl (pickF n0 (fitN c)) (pickF n1 (fitN c)) (x, e))
  have hxl : x.length ≤ 40000 := routeR_len hx
  conv => whnf
  repeat' (first | (refine tell (fun htest => ?_) (fun htest => ?_) <;> (try dsimp only at htest) <;> first | (exfalso; omega) | (exact absurd rfl htest) | (exact absurd (by decide) htest) | (conv => whnf)) | (refine allG rfl ?_; conv => whnf) | (refine And.intro (by first | omega | assumption | kernel_rfl | exact And.intro rfl rfl | ((try dsimp only [inR, idx, lowOf]); first | omega | (with_reducible decide) | (simp; omega) | fail) | fail) ?_; conv => whnf) | fail)
  refine ⟨_, m_routeU, (((fitN c), (fitL c l)), bl, (pickF n1 (fitN c)), (pickF n2 (fitN c))), [], false, ?_⟩
  conv => whnf
  refine And.intro (vc0 ⟨hR.good, hbl⟩ (by (repeat' (first | exact trivial | exact rfl | refine And.intro ?_ ?_ | (refine congrArg vI ?_; first | omega | (dsimp only; omega) | fail) | (refine congrArg some ?_) | omega | exact Nat.le_refl _ | exact congrArg (SV.lst _) (List.take_of_length_le (Nat.le_refl _)).symm))) (by repeat' (first | exact trivial | exact rfl | refine And.intro ?_ ?_ | (refine congrArg vI ?_; first | omega | (dsimp only; omega) | fail) | (refine congrArg some ?_) | omega | exact Nat.le_refl _ | exact congrArg (SV.lst _) (List.take_of_length_le (Nat.le_refl _)).symm)) trivial trivial) ?_
  refine And.intro (routeR_ex _ _ _ _ _) ?_
  rintro ⟨(y : List Int), (f : Int)⟩ (hy : RouteR (fitN c) (fitL c l) bl (pickF n1 (fitN c)) (pickF n2 (fitN c)) (y, f))
  have hyl : y.length ≤ 40000 := routeR_len hy
  conv => whnf
  repeat' (first | (refine tell (fun htest => ?_) (fun htest => ?_) <;> (try dsimp only at htest) <;> first | (exfalso; omega) | (exact absurd rfl htest) | (exact absurd (by decide) htest) | (conv => whnf)) | (refine allG rfl ?_; conv => whnf) | (refine And.intro (by first | omega | assumption | kernel_rfl | exact And.intro rfl rfl | ((try dsimp only [inR, idx, lowOf]); first | omega | (with_reducible decide) | (simp; omega) | fail) | fail) ?_; conv => whnf) | fail)
  refine ⟨_, m_tour, (((fitN c), (fitL c l)), bl, (pickF n0 (fitN c)), (pickF n1 (fitN c)), (pickF n2 (fitN c))), [], false, ?_⟩
  conv => whnf
  refine And.intro (vc0 ⟨hR.good, hbl⟩ (by (repeat' (first | exact trivial | exact rfl | refine And.intro ?_ ?_ | (refine congrArg vI ?_; first | omega | (dsimp only; omega) | fail) | (refine congrArg some ?_) | omega | exact Nat.le_refl _ | exact congrArg (SV.lst _) (List.take_of_length_le (Nat.le_refl _)).symm))) (by repeat' (first | exact trivial | exact rfl | refine And.intro ?_ ?_ | (refine congrArg vI ?_; first | omega | (dsimp only; omega) | fail) | (refine congrArg some ?_) | omega | exact Nat.le_refl _ | exact congrArg (SV.lst _) (List.take_of_length_le (Nat.le_refl _)).symm)) trivial trivial) ?_
  refine And.intro (tourR_ex _ _ _ _ _ _) ?_
  rintro ⟨(z : List Int), (g : Int)⟩ (hz : TourR (fitN c) (fitL c l) bl (pickF n0 (fitN c)) (pickF n1 (fitN c)) (pickF n2 (fitN c)) (z, g))
  have hzl : z.length ≤ 80000 := tourR_len hz
  rcases hx with ⟨h, _⟩ | ⟨_, hf1, hx⟩ | ⟨_, hf1, hx, he⟩
  · exact absurd hIab h
  · obtain ⟨rfl, rfl⟩ := Prod.mk.inj hx
    obtain ⟨rfl, rfl⟩ : z = [] ∧ g = 120 := by
      obtain ⟨x', hx', hz⟩ := hz
      obtain rfl : x' = ([], 120) := routeR_one hx' (.inr (.inl ⟨hIab, hf1, rfl⟩))
      rcases hz with ⟨_, hz⟩ | ⟨hz, _⟩
      · exact Prod.mk.inj hz
      · cases hz
    conv => whnf
    repeat' (first | (refine tell (fun htest => ?_) (fun htest => ?_) <;> (try dsimp only at htest) <;> first | (exfalso; omega) | (exact absurd rfl htest) | (exact absurd (by decide) htest) | (conv => whnf)) | (refine allG rfl ?_; conv => whnf) | (refine And.intro (by first | omega | assumption | kernel_rfl | exact And.intro rfl rfl | ((try dsimp only [inR, idx, lowOf]); first | omega | (with_reducible decide) | (simp; omega) | fail) | fail) ?_; conv => whnf) | fail)
    exact ⟨(), [], trivial, rfl, trivial, trivial⟩
  · have he : e = 0 := he
    subst he
    rcases hy with ⟨h, _⟩ | ⟨_, hf2, hy⟩ | ⟨_, hf2, hy, he2⟩
    · exact absurd hIbc h
    · obtain ⟨rfl, rfl⟩ := Prod.mk.inj hy
      obtain ⟨rfl, rfl⟩ : z = [] ∧ g = 120 := by
        obtain ⟨x', hx', hz⟩ := hz
        obtain rfl : x' = (x, 0) := routeR_one hx' (.inr (.inr ⟨hIab, hf1, hx, rfl⟩))
        rcases hz with ⟨hz, _⟩ | ⟨_, y', hy', hz⟩
        · exact absurd rfl hz
        · obtain rfl : y' = ([], 120) := routeR_one hy' (.inr (.inl ⟨hIbc, hf2, rfl⟩))
          rcases hz with ⟨_, hz⟩ | ⟨hz, _⟩
          · exact Prod.mk.inj hz
          · cases hz
      conv => whnf
      repeat' (first | (refine tell (fun htest => ?_) (fun htest => ?_) <;> (try dsimp only at htest) <;> first | (exfalso; omega) | (exact absurd rfl htest) | (exact absurd (by decide) htest) | (conv => whnf)) | (refine allG rfl ?_; conv => whnf) | (refine And.intro (by first | omega | assumption | kernel_rfl | exact And.intro rfl rfl | ((try dsimp only [inR, idx, lowOf]); first | omega | (with_reducible decide) | (simp; omega) | fail) | fail) ?_; conv => whnf) | fail)
      exact ⟨(), [], trivial, rfl, trivial, trivial⟩
    · have he2 : f = 0 := he2
      subst he2
      obtain ⟨rfl, rfl⟩ : z = x ++ y ∧ g = 0 := by
        obtain ⟨x', hx', hz⟩ := hz
        obtain rfl : x' = (x, 0) := routeR_one hx' (.inr (.inr ⟨hIab, hf1, hx, rfl⟩))
        rcases hz with ⟨hz, _⟩ | ⟨_, y', hy', hz⟩
        · exact absurd rfl hz
        · obtain rfl : y' = (y, 0) := routeR_one hy' (.inr (.inr ⟨hIbc, hf2, hy, rfl⟩))
          rcases hz with ⟨hz, _⟩ | ⟨_, hz⟩
          · exact absurd rfl hz
          · exact Prod.mk.inj hz
      have hYY : (List.take (x.length + y.length) (List.drop 0 (List.take x.length (List.drop 0 x) ++ y))) = x ++ y := by rw [List.drop_zero, List.drop_zero, List.take_of_length_le (Nat.le_refl x.length), List.take_of_length_le (by simp)]
      have hIf : ∃ b : Bool, (b = true ↔ x ++ y = (List.take (x.length + y.length) (List.drop 0 (List.take x.length (List.drop 0 x) ++ y)))) := pred_ex _
      conv => whnf
      repeat' (first | (refine tell (fun htest => ?_) (fun htest => ?_) <;> (try dsimp only at htest) <;> first | (exfalso; omega) | (exact absurd rfl htest) | (exact absurd (by decide) htest) | (conv => whnf)) | (refine allG rfl ?_; conv => whnf) | (refine And.intro (by first | omega | assumption | kernel_rfl | exact And.intro rfl rfl | ((try dsimp only [inR, idx, lowOf]); first | omega | (with_reducible decide) | (simp; omega) | fail) | fail) ?_; conv => whnf) | fail)
      refine ⟨_, m_ints, (x ++ y, (List.take (x.length + y.length) (List.drop 0 (List.take x.length (List.drop 0 x) ++ y)))), [], false, ?_⟩
      conv => whnf
      refine And.intro (vc0 (show (x ++ y).length ≤ 9223372036854775807 by simp; omega) (by (repeat' (first | exact trivial | exact rfl | refine And.intro ?_ ?_ | (refine congrArg vI ?_; first | omega | (dsimp only; omega) | fail) | (refine congrArg some ?_) | omega | exact Nat.le_refl _ | exact congrArg (SV.lst _) (List.take_of_length_le (Nat.le_refl _)).symm)); all_goals ((show 0 + (x.length + y.length) ≤ (List.take x.length (List.drop 0 x) ++ y).length; simp))) (by repeat' (first | exact trivial | exact rfl | refine And.intro ?_ ?_ | (refine congrArg vI ?_; first | omega | (dsimp only; omega) | fail) | (refine congrArg some ?_) | omega | exact Nat.le_refl _ | exact congrArg (SV.lst _) (List.take_of_length_le (Nat.le_refl _)).symm)) trivial trivial) ?_
      refine And.intro hIf ?_
      intro (b : Bool) (hb : b = true ↔ x ++ y = (List.take (x.length + y.length) (List.drop 0 (List.take x.length (List.drop 0 x) ++ y))))
      cases b
      · have := hb.2 hYY.symm; cases this
      · conv => whnf
        repeat' (first | (refine tell (fun htest => ?_) (fun htest => ?_) <;> (try dsimp only at htest) <;> first | (exfalso; omega) | (exact absurd rfl htest) | (exact absurd (by decide) htest) | (conv => whnf)) | (refine allG rfl ?_; conv => whnf) | (refine And.intro (by first | omega | assumption | kernel_rfl | exact And.intro rfl rfl | ((try dsimp only [inR, idx, lowOf]); first | omega | (with_reducible decide) | (simp; omega) | fail) | fail) ?_; conv => whnf) | fail)
        refine ⟨_, m_way, (((fitN c), (fitL c l)), bl, x ++ y, (pickF n0 (fitN c)), (pickF n2 (fitN c))), [], false, ?_⟩
        conv => whnf
        refine And.intro (vc0 ⟨wayL_app (route_wayL hx) (route_wayL hy), hlL, hbl, (show (x ++ y).length ≤ 1000000 by simp; omega)⟩ (by (repeat' (first | exact trivial | exact rfl | refine And.intro ?_ ?_ | (refine congrArg vI ?_; first | omega | (dsimp only; omega) | fail) | (refine congrArg some ?_) | omega | exact Nat.le_refl _ | exact congrArg (SV.lst _) (List.take_of_length_le (Nat.le_refl _)).symm))) (by repeat' (first | exact trivial | exact rfl | refine And.intro ?_ ?_ | (refine congrArg vI ?_; first | omega | (dsimp only; omega) | fail) | (refine congrArg some ?_) | omega | exact Nat.le_refl _ | exact congrArg (SV.lst _) (List.take_of_length_le (Nat.le_refl _)).symm)) trivial trivial) ?_
        refine And.intro ⟨(), trivial⟩ (fun (_ : Unit) _ => ?_)
        conv => whnf
        conv => whnf
        repeat' (first | (refine tell (fun htest => ?_) (fun htest => ?_) <;> (try dsimp only at htest) <;> first | (exfalso; omega) | (exact absurd rfl htest) | (exact absurd (by decide) htest) | (conv => whnf)) | (refine allG rfl ?_; conv => whnf) | (refine And.intro (by first | omega | assumption | kernel_rfl | exact And.intro rfl rfl | ((try dsimp only [inR, idx, lowOf]); first | omega | (with_reducible decide) | (simp; omega) | fail) | fail) ?_; conv => whnf) | fail)
        exact ⟨(), [], trivial, rfl, trivial, trivial⟩
end Go.Sx

