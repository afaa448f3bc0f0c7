/-
  Layer 10, part E: the example of its chapter.
-/
import Derived.Test.YtmogappoadglgaaHeapD
namespace Go.Sx
open Go Go.Proofs Go.Proofs.Ytmogappoadglgaa
def PopPost (xs : List Item) (d : List Item × List Item × Item × Bool) : Prop :=
  HeapL d.1 ∧ (∃ ys, d.2.1 = d.1 ++ ys) ∧ ((xs = [] ∧ d.1 = [] ∧ d.2.2.1 = (0, 0) ∧ d.2.2.2 = false) ∨ (List.Perm (d.2.2.1 :: d.1) xs ∧ (∀ b ∈ xs, leP d.2.2.1 b) ∧ d.2.2.2 = true))
theorem popS {xs ys d zs : List Item} {y a : Item} {ok : Bool} (h : PopPost xs (d, zs, a, ok)) (hp : List.Perm xs (y :: ys)) (hs : ∀ b ∈ ys, leP y b) : a = y ∧ ok = true ∧ List.Perm d ys ∧ HeapL d ∧ ∃ ws, zs = d ++ ws := by
  obtain ⟨h1, h2, h3⟩ := h
  rcases h3 with ⟨rfl, _⟩ | ⟨h4, h5, h6⟩
  · exact absurd hp.length_eq (by simp)
  · have ha : a ∈ y :: ys := (hp.mem_iff (a := a)).1 (h4.mem_iff.1 (by simp))
    have hy : leP a y := h5 y (hp.mem_iff.2 (by simp))
    have e : a = y := by
      rcases List.mem_cons.1 ha with e | e
      · exact e
      · exact leP_antisymm hy (hs a e)
    subst e
    exact ⟨rfl, h6, List.Perm.cons_inv (h4.trans hp), h1, h2⟩
theorem popE {d zs : List Item} {a : Item} {ok : Bool} {xs : List Item} (h : PopPost xs (d, zs, a, ok)) (hx : xs = []) : a = (0, 0) ∧ ok = false ∧ d = [] := by
  obtain ⟨_, _, h3⟩ := h
  rcases h3 with ⟨_, h4, h5, h6⟩ | ⟨h4, _⟩
  · exact ⟨h5, h6, h4⟩
  · subst hx; exact absurd h4.length_eq (by simp)
theorem heap_nil : HeapL [] := fun j a b _ hb => by simp at hb
def spAwake : Spec AF where
  γ := Unit
  δ := Unit
  args := fun _ => []
  own := fun _ => []
  pre := fun _ => True
  nnew := 0
  res := fun _ _ => vB true
  own' := fun _ _ => []
  post := fun _ _ => True
theorem m_awake : Meets Try.prog regF 26 spAwake := by
  refine meets Try.func26 89 noWr rfl (by kernel_rfl) (by kernel_rfl) ?_
  intro (g : Unit) hg
  refine xseq (fun K hK => ?_)
  conv => whnf
  refine hK _ ?_
  clear hK K
  refine xseq (fun K hK => ?_)
  conv => whnf
  refine ⟨_, m_new, (), [], false, ?_⟩
  conv => whnf
  refine ⟨vc0 trivial trivial trivial trivial trivial, ⟨(), trivial⟩, ?_⟩
  intro (_ : Unit) _
  conv => whnf
  refine hK _ ?_
  clear hK K
  refine xseq (fun K hK => ?_)
  conv => whnf
  refine hK _ ?_
  clear hK K
  refine xseq (fun K hK => ?_)
  conv => whnf
  refine ⟨_, m_push, ([], [], (5, 1)), [1015, 2015], false, ?_⟩
  conv => whnf
  refine ⟨vc0 ⟨heap_nil, (by decide), ⟨[], rfl⟩⟩ (And.intro rfl (And.intro rfl (And.intro rfl trivial))) (And.intro rfl (And.intro rfl trivial)) trivial trivial, heap_ex _, ?_⟩
  rintro (d1 : List Item) ⟨(hp1 : List.Perm d1 ((5, 1) :: [])), (hh1 : HeapL d1)⟩
  conv => whnf
  refine hK _ ?_
  clear hK K
  refine xseq (fun K hK => ?_)
  conv => whnf
  refine ⟨_, m_push, (d1, d1, (3, 9)), [1015, 1019], false, ?_⟩
  conv => whnf
  refine ⟨vc0 ⟨hh1, (by show d1.length < 1000000; rw [hp1.length_eq]; decide), ⟨[], (List.append_nil _).symm⟩⟩ (And.intro rfl (And.intro rfl (And.intro rfl trivial))) (And.intro rfl (And.intro rfl trivial)) trivial trivial, heap_ex _, ?_⟩
  rintro (d2 : List Item) ⟨(hp2 : List.Perm d2 ((3, 9) :: d1)), (hh2 : HeapL d2)⟩
  conv => whnf
  refine hK _ ?_
  clear hK K
  refine xseq (fun K hK => ?_)
  conv => whnf
  refine ⟨_, m_push, (d2, d2, (3, 2)), [1015, 1021], false, ?_⟩
  conv => whnf
  refine ⟨vc0 ⟨hh2, (by show d2.length < 1000000; rw [hp2.length_eq, List.length_cons, hp1.length_eq]; decide), ⟨[], (List.append_nil _).symm⟩⟩ (And.intro rfl (And.intro rfl (And.intro rfl trivial))) (And.intro rfl (And.intro rfl trivial)) trivial trivial, heap_ex _, ?_⟩
  rintro (d3 : List Item) ⟨(hp3 : List.Perm d3 ((3, 2) :: d2)), (hh3 : HeapL d3)⟩
  conv => whnf
  refine hK _ ?_
  clear hK K
  have hS : List.Perm d3 [((3 : Int), (2 : Int)), (3, 9), (5, 1)] := hp3.trans ((hp2.trans (hp1.cons _)).cons _)
  have hlen : d3.length = 3 := hS.length_eq
  refine xseq (fun K hK => ?_)
  conv => whnf
  refine ⟨_, m_len, (d3, d3), [1015, 1023], false, ?_⟩
  conv => whnf
  refine ⟨vc0 trivial (And.intro rfl trivial) (And.intro rfl (And.intro rfl trivial)) trivial trivial, ⟨(), trivial⟩, ?_⟩
  intro (_ : Unit) _
  conv => whnf
  refine hK _ ?_
  clear hK K
  refine xseq (fun K hK => ?_)
  conv => whnf
  refine ⟨_, m_pop, (d3, d3), [1015, 1023], false, ?_⟩
  conv => whnf
  refine ⟨vc0 ⟨hh3, (by show d3.length ≤ 1000000; omega), ⟨[], (List.append_nil _).symm⟩⟩ (And.intro rfl trivial) (And.intro rfl (And.intro rfl trivial)) trivial trivial, pop_ex hh3, ?_⟩
  rintro ⟨(e0 : List Item), (z0 : List Item), (a0 : Item), (o0 : Bool)⟩ hq
  obtain ⟨rfl, rfl, pp0, ph0, pz0⟩ := popS hq hS (by simp [leP_iff])
  conv => whnf
  refine hK _ ?_
  clear hK K
  refine xseq (fun K hK => ?_)
  conv => whnf
  refine ⟨_, m_pop, (e0, z0), [1015, 1023], false, ?_⟩
  conv => whnf
  refine ⟨vc0 ⟨ph0, (by show e0.length ≤ 1000000; rw [pp0.length_eq]; decide), pz0⟩ (And.intro rfl trivial) (And.intro rfl (And.intro rfl trivial)) trivial trivial, pop_ex ph0, ?_⟩
  rintro ⟨(e1 : List Item), (z1 : List Item), (a1 : Item), (o1 : Bool)⟩ hq
  obtain ⟨rfl, rfl, pp1, ph1, pz1⟩ := popS hq pp0 (by simp [leP_iff])
  conv => whnf
  refine hK _ ?_
  clear hK K
  refine xseq (fun K hK => ?_)
  conv => whnf
  refine ⟨_, m_pop, (e1, z1), [1015, 1023], false, ?_⟩
  conv => whnf
  refine ⟨vc0 ⟨ph1, (by show e1.length ≤ 1000000; rw [pp1.length_eq]; decide), pz1⟩ (And.intro rfl trivial) (And.intro rfl (And.intro rfl trivial)) trivial trivial, pop_ex ph1, ?_⟩
  rintro ⟨(e2 : List Item), (z2 : List Item), (a2 : Item), (o2 : Bool)⟩ hq
  obtain ⟨rfl, rfl, pp2, ph2, pz2⟩ := popS hq pp1 (by simp [leP_iff])
  conv => whnf
  refine hK _ ?_
  clear hK K
  refine xseq (fun K hK => ?_)
  conv => whnf
  refine ⟨_, m_pop, (e2, z2), [1015, 1023], false, ?_⟩
  conv => whnf
  refine ⟨vc0 ⟨ph2, (by show e2.length ≤ 1000000; rw [pp2.length_eq]; decide), pz2⟩ (And.intro rfl trivial) (And.intro rfl (And.intro rfl trivial)) trivial trivial, pop_ex ph2, ?_⟩
  rintro ⟨(e3 : List Item), (z3 : List Item), (a3 : Item), (o3 : Bool)⟩ hq
  obtain ⟨rfl, rfl, rfl⟩ := popE hq (List.Perm.eq_nil pp2)
  conv => whnf
  refine hK _ ?_
  clear hK K
  refine xseq (fun K hK => ?_)
  conv => whnf
  refine tell (fun _ => ?_) (fun h => absurd (show (d3.length : Int) = 3 by omega) h)
  conv => whnf
  refine tell (fun _ => ?_) (fun h => absurd rfl h)
  conv => whnf
  refine tell (fun _ => ?_) (fun h => absurd rfl h)
  conv => whnf
  refine tell (fun _ => ?_) (fun h => absurd rfl h)
  conv => whnf
  refine tell (fun _ => ?_) (fun h => absurd rfl h)
  conv => whnf
  refine tell (fun _ => ?_) (fun h => absurd rfl h)
  conv => whnf
  refine tell (fun _ => ?_) (fun h => absurd rfl h)
  conv => whnf
  refine hK _ ?_
  clear hK K
  conv => whnf
  exact ⟨(), [], trivial, rfl, trivial, trivial⟩
end Go.Sx
