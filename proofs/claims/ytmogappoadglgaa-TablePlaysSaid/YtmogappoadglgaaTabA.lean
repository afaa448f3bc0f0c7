/-
  Layer 14, part A: slices.Sorted over maps.Keys, at this program's int keys: the kit's contracts, laid (the three tables as the kit's own program prints them), and what they come to in this tool's words.
-/
import Derived.Shelf.SlGeneric
import Derived.Shelf.SlIterI.Nil
import Derived.Shelf.SortM.Plain
import Derived.Shelf.SortM.SortNone
import Derived.Ground.GgzProg
import Derived.Ground.SlgmProg
import Derived.Test.YtmogappoadglgaaPickA
namespace Go.Proofs
open Go.Shelf
def TabK.keysA_ren : Go.Shelf.Ren := ⟨fun | 7 => 93 | 10 => 104 | n => n, fun | 23 => 114 | 26 => 3 | 3 => 3 | 28 => 121 | 0 => 0 | 27 => 120 | 33 => 105 | 4 => 4 | n => n, fun | n => n⟩
theorem TabK.keysA : Go.Proofs.SlLaysZI.n7 Try.prog TabK.keysA_ren := {
  mixed := by kernel_rfl
  f7 := ⟨Try.f93.name, by decide, Try.func93.trans (congrArg some (by kernel_rfl))⟩
  f10 := ⟨Try.f104.name, by decide, Try.func104.trans (congrArg some (by kernel_rfl))⟩
  t0 := Try.underlying0
  a0 := Try.isAgg0
  z0 := Try.sizeOf0
  v0 := Try.zeroValue0
  t4 := Try.underlying4
  a4 := Try.isAgg4
  z4 := Try.sizeOf4
  v4 := Try.zeroValue4
  t23 := Try.underlying114
  a23 := Try.isAgg114
  z23 := Try.sizeOf114
  v23 := Try.zeroValue114
  t26 := Try.underlying3
  a26 := Try.isAgg3
  z26 := Try.sizeOf3
  v26 := Try.zeroValue3
  t27 := Try.underlying120
  a27 := Try.isAgg120
  z27 := Try.sizeOf120
  v27 := Try.zeroValue120
  t28 := Try.underlying121
  a28 := Try.isAgg121
  z28 := Try.sizeOf121
  v28 := Try.zeroValue121
  t33 := Try.underlying105
  a33 := Try.isAgg105
  z33 := Try.sizeOf105
  v33 := Try.zeroValue105 }
def TabK.sortedA_ren : Go.Shelf.Ren := ⟨fun | 6 => 92 | 8 => 102 | 9 => 103 | 11 => 108 | 13 => 110 | 12 => 109 | 23 => 120 | 24 => 121 | 14 => 111 | 15 => 112 | 16 => 113 | 17 => 114 | 18 => 115 | 19 => 116 | 20 => 117 | 21 => 118 | 22 => 119 | 25 => 122 | 26 => 123 | 27 => 124 | 28 => 125 | 29 => 126 | 30 => 105 | 31 => 127 | n => n, fun | 26 => 3 | 28 => 121 | 24 => 42 | 0 => 0 | 3 => 3 | 37 => 126 | 48 => 132 | 50 => 135 | 4 => 4 | 40 => 143 | 39 => 142 | 45 => 45 | 5 => 5 | 9 => 9 | 51 => 150 | 55 => 154 | 57 => 156 | 58 => 157 | 33 => 105 | n => n, fun | n => n⟩
theorem TabK.sortedA : Go.Proofs.SlLaysZI.n6 Try.prog TabK.sortedA_ren := {
  mixed := by kernel_rfl
  f6 := ⟨Try.f92.name, by decide, Try.func92.trans (congrArg some (by kernel_rfl))⟩
  f8 := ⟨Try.f102.name, by decide, Try.func102.trans (congrArg some (by kernel_rfl))⟩
  f11 := ⟨Try.f108.name, by decide, Try.func108.trans (congrArg some (by kernel_rfl))⟩
  t0 := Try.underlying0
  a0 := Try.isAgg0
  z0 := Try.sizeOf0
  v0 := Try.zeroValue0
  t24 := Try.underlying42
  a24 := Try.isAgg42
  z24 := Try.sizeOf42
  v24 := Try.zeroValue42
  t26 := Try.underlying3
  a26 := Try.isAgg3
  z26 := Try.sizeOf3
  v26 := Try.zeroValue3
  t28 := Try.underlying121
  a28 := Try.isAgg121
  z28 := Try.sizeOf121
  v28 := Try.zeroValue121
  i26 := by kernel_rfl }
def TabK.sortA_ren : Go.Shelf.Ren := ⟨fun | 5 => 103 | 8 => 110 | 7 => 109 | 19 => 120 | 20 => 121 | 10 => 111 | 11 => 112 | 12 => 113 | 13 => 114 | 14 => 115 | 15 => 116 | 16 => 117 | 17 => 118 | 18 => 119 | 30 => 122 | 31 => 123 | 32 => 124 | 33 => 125 | 34 => 126 | 35 => 105 | 40 => 127 | n => n, fun | 23 => 42 | 25 => 3 | 3 => 3 | 32 => 126 | 22 => 42 | 0 => 0 | 44 => 132 | 46 => 135 | 4 => 4 | 36 => 143 | 35 => 142 | 41 => 45 | 5 => 5 | 9 => 9 | 53 => 150 | 57 => 154 | 63 => 156 | 64 => 157 | n => n, fun | n => n⟩
theorem TabK.sortA : Go.Proofs.SlLaysM.n5 Try.prog TabK.sortA_ren := {
  mixed := by kernel_rfl
  f5 := ⟨Try.f103.name, by decide, Try.func103.trans (congrArg some (by kernel_rfl))⟩
  f7 := ⟨Try.f109.name, by decide, Try.func109.trans (congrArg some (by kernel_rfl))⟩
  f8 := Try.func110.trans (congrArg some (by kernel_rfl))
  f10 := ⟨Try.f111.name, by decide, Try.func111.trans (congrArg some (by kernel_rfl))⟩
  f11 := ⟨Try.f112.name, by decide, Try.func112.trans (congrArg some (by kernel_rfl))⟩
  f12 := ⟨Try.f113.name, by decide, Try.func113.trans (congrArg some (by kernel_rfl))⟩
  f13 := ⟨Try.f114.name, by decide, Try.func114.trans (congrArg some (by kernel_rfl))⟩
  f14 := ⟨Try.f115.name, by decide, Try.func115.trans (congrArg some (by kernel_rfl))⟩
  f15 := ⟨Try.f116.name, by decide, Try.func116.trans (congrArg some (by kernel_rfl))⟩
  f16 := ⟨Try.f117.name, by decide, Try.func117.trans (congrArg some (by kernel_rfl))⟩
  f17 := ⟨Try.f118.name, by decide, Try.func118.trans (congrArg some (by kernel_rfl))⟩
  f18 := ⟨Try.f119.name, by decide, Try.func119.trans (congrArg some (by kernel_rfl))⟩
  f19 := Try.func120.trans (congrArg some (by kernel_rfl))
  f20 := Try.func121.trans (congrArg some (by kernel_rfl))
  f30 := ⟨Try.f122.name, by decide, Try.func122.trans (congrArg some (by kernel_rfl))⟩
  f31 := Try.func123.trans (congrArg some (by kernel_rfl))
  f32 := Try.func124.trans (congrArg some (by kernel_rfl))
  f33 := ⟨Try.f125.name, by decide, Try.func125.trans (congrArg some (by kernel_rfl))⟩
  f34 := ⟨Try.f126.name, by decide, Try.func126.trans (congrArg some (by kernel_rfl))⟩
  f35 := ⟨Try.f105.name, by decide, Try.func105.trans (congrArg some (by kernel_rfl))⟩
  f40 := ⟨Try.f127.name, by decide, Try.func127.trans (congrArg some (by kernel_rfl))⟩
  t0 := Try.underlying0
  a0 := Try.isAgg0
  z0 := Try.sizeOf0
  v0 := Try.zeroValue0
  t3 := Try.underlying3
  a3 := Try.isAgg3
  z3 := Try.sizeOf3
  v3 := Try.zeroValue3
  t4 := Try.underlying4
  a4 := Try.isAgg4
  z4 := Try.sizeOf4
  v4 := Try.zeroValue4
  t5 := Try.underlying5
  a5 := Try.isAgg5
  z5 := Try.sizeOf5
  v5 := Try.zeroValue5
  t9 := Try.underlying9
  a9 := Try.isAgg9
  z9 := Try.sizeOf9
  v9 := Try.zeroValue9
  t22 := Try.underlying42
  a22 := Try.isAgg42
  z22 := Try.sizeOf42
  v22 := Try.zeroValue42
  t23 := Try.underlying42
  a23 := Try.isAgg42
  z23 := Try.sizeOf42
  v23 := Try.zeroValue42
  t25 := Try.underlying3
  a25 := Try.isAgg3
  z25 := Try.sizeOf3
  v25 := Try.zeroValue3
  t32 := Try.underlying126
  a32 := Try.isAgg126
  z32 := Try.sizeOf126
  v32 := Try.zeroValue126
  t35 := Try.underlying142
  a35 := Try.isAgg142
  z35 := Try.sizeOf142
  v35 := Try.zeroValue142
  t36 := Try.underlying143
  a36 := Try.isAgg143
  z36 := Try.sizeOf143
  v36 := Try.zeroValue143
  t41 := Try.underlying45
  a41 := Try.isAgg45
  z41 := Try.sizeOf45
  v41 := Try.zeroValue45
  t44 := Try.underlying132
  a44 := Try.isAgg132
  z44 := Try.sizeOf132
  v44 := Try.zeroValue132
  t46 := Try.underlying135
  a46 := Try.isAgg135
  z46 := Try.sizeOf135
  v46 := Try.zeroValue135
  t53 := Try.underlying150
  a53 := Try.isAgg150
  z53 := Try.sizeOf150
  v53 := Try.zeroValue150
  t57 := Try.underlying154
  a57 := Try.isAgg154
  z57 := Try.sizeOf154
  v57 := Try.zeroValue154
  t63 := Try.underlying156
  a63 := Try.isAgg156
  z63 := Try.sizeOf156
  v63 := Try.zeroValue156
  t64 := Try.underlying157
  a64 := Try.isAgg157
  z64 := Try.sizeOf157
  v64 := Try.zeroValue157 }
end Go.Proofs
namespace Go.Sx
open Go Go.Proofs Go.Proofs.Ytmogappoadglgaa
open Go.RowKit Go.Maps Go.Sort Go.Shelf Go.WideElems
/-- slices.Sort's two contracts at this program. -/
theorem sorts_in (m : Nat) : AnyZI.SortsIn Try.prog TabK.sortedA_ren Fence.wide m :=
  ⟨fun blk off cap ss W hH hblk hsz => callsIn_wide.2 (AnyM.slices_Sort_int TabK.sortA blk off cap ss W hH hblk hsz),
   fun p cap W => callsIn_wide.2 (AnyM.slices_Sort_int_none TabK.sortA p cap W)⟩
set_option maxRecDepth 100000 in
set_option maxHeartbeats 1000000 in
/-- The function that maps.Keys hands back, over a map that lies in any cell: its keys come, each once. -/
theorem keysOff {H : Type} (n : Nat) (hn : 1 ≤ n) (l Bm off b nn : Nat) (D0 : DataW H) {R : Value → Option (DataW H × List MemPlace)} (J : List Int → World → Prop)
    (hY : ∀ pre x W, J pre W → pre.length < Maps.size D0 → YieldAt Fence.wide (n - 1) Try.prog l #[encZ x] W fun e W' => e = .returned (.bool true) ∧ J (pre ++ [x]) W' ∧ KeepsWalks W W')
    (W : World) (hJ : AbidesFrom W.heap.size J) (hm : W.cell? ⟨Bm, off, none⟩ = some (.map (some b))) (hown : W.ownsMap Try.prog 3 R b nn D0) (h0 : J [] W) :
    CallsIn Fence.wide n Try.prog 104 #[.func (.yield l) #[] #[], .pointer (some ⟨Bm, off, none⟩)] W fun e W' => (∃ v, e = .returned v) ∧ ∃ ss : List Int, ss.Perm (intKeys D0) ∧ J ss W' := by
  have und3T := Try.underlying3
  have und114T := Try.underlying114
  refine callsIn_of_wp Try.func104 rfl trivial ?_ rfl
  simp only [Try.ntmps104, List.size_toArray, List.length_cons, List.length_nil, Nat.reduceAdd, Nat.reduceSub, Array.replicate_succ, Array.replicate_zero, List.push_toArray, List.append_toArray, List.nil_append, List.cons_append]
  gi_wp2_with (first
    | (gi_at_range; refine wpListIn_range_own _ rfl _ 114 rfl 3 3 (int_keyed und3T) und114T _ b nn _ rfl hown ?_; intro w0 hrg0 hg0 hs0)
    | gi_in)
  go_frame
  gi_loopw [3] (fun _ wr => ∃ (left : Lit → Bool) (cnt : Nat) (ss : List Int), wr.ranges Try.prog 3 R b W.heap.size nn D0 left cnt ∧ ss.length + cnt ≤ Maps.size D0 ∧ CollectedI D0 left ss ∧ J ss wr)
    (fun _ wr => wr.rangeLeft b W.heap.size)
  case atStart =>
    exact ⟨_, _, [], hrg0, by simp, CollectedI.start D0, hJ [] W w0 none h0 hg0 (fun r e => by cases e)⟩
  case round =>
    obtain ⟨left, cnt, ss, hrg, hcs, hC, hJs⟩ := hrel
    gi_wp2_with (first
      | (gi_at_next; refine wpListIn_next_ranges _ rfl _ rfl 3 (int_keyed und3T) R encZ id (fun key kl hk => by obtain ⟨x, hx, _⟩ := Maps.keyOf_i64 und3T hk; exact ⟨x, hx⟩) (fun v _ _ => ⟨v, rfl⟩) b W.heap.size nn _ _ _ rfl hrg ?_ ?_)
      | gi_in)
    · intro hc0 hl0
      gi_wp2
      go_end0
      exact ⟨⟨_, rfl⟩, ss, hC.perm hown (int_keyed und3T) und3T hl0, hJs⟩
    · intro x c kl yd yp w2 cnt2 hkey hlk hv hat hrg2 hlt hg2 hs2 hen
      obtain ⟨x', ex, rfl, _⟩ := Maps.keyOf_i64 und3T hkey
      obtain rfl : x = x' := encZ_inj ex
      have hJ2 : J ss w2 := hJ ss wr w2 (some W.heap.size) hJs hg2 (fun r e => by cases e; exact ⟨Nat.le_refl _, hrg.iter_walk⟩)
      obtain ⟨fn, tmps, assign, body, hy, hR⟩ := hY ss x w2 hJ2 (by omega)
      clear hs2
      gi_wp2
      refine hR.mono ?_
      rintro e W3 ⟨rfl, hJ3, hk3⟩
      gi_wp2
      have hrg3 := hrg2.of_walks hk3
      go_roundw
      case rel => exact ⟨_, cnt2, ss ++ [x], hrg3, by simp; omega, hC.step hlk hat, hJ3⟩
      case measure => rw [hrg3.left_eq, hrg.left_eq]; exact hlt
end Go.Sx

