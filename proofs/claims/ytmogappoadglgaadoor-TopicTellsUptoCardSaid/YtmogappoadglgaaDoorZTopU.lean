/-
  Layer 7, the kit's tables for strings.Index, strings.Count, strings.CutPrefix (as the kit's own program prints them).
-/
import Derived.Shelf.Strings.Search3
import Derived.Shelf.Strings.Count
import Derived.Shelf.Small.Wraps
import Derived.Test.YtmogappoadglgaaDoorProg
set_option linter.unusedVariables false
set_option linter.unusedSimpArgs false
namespace Go.Proofs
open Go.Shelf
def TopT.idx_ren : Go.Shelf.Ren := ⟨fun | 143 => 102 | 219 => 117 | 217 => 126 | 225 => 127 | 224 => 128 | 267 => 129 | 266 => 137 | 314 => 138 | n => n, fun | 9 => 9 | 3 => 3 | 4 => 4 | 5 => 5 | 46 => 176 | 146 => 187 | 51 => 179 | n => n, fun | 1 => 0 | n => n⟩
theorem TopT.idx : Go.Proofs.Lays.n143 Tryd.prog TopT.idx_ren := {
  mixed := by kernel_rfl
  f143 := Tryd.func102.trans (congrArg some (by kernel_rfl))
  f217 := Tryd.func126.trans (congrArg some (by kernel_rfl))
  f219 := Tryd.func117.trans (congrArg some (by kernel_rfl))
  f224 := Tryd.func128.trans (congrArg some (by kernel_rfl))
  f225 := Tryd.func127.trans (congrArg some (by kernel_rfl))
  f266 := Tryd.func137.trans (congrArg some (by kernel_rfl))
  f267 := Tryd.func129.trans (congrArg some (by kernel_rfl))
  f314 := Tryd.func138.trans (congrArg some (by kernel_rfl))
  t3 := Tryd.underlying3
  a3 := Tryd.isAgg3
  z3 := Tryd.sizeOf3
  v3 := Tryd.zeroValue3
  t4 := Tryd.underlying4
  a4 := Tryd.isAgg4
  z4 := Tryd.sizeOf4
  v4 := Tryd.zeroValue4
  t5 := Tryd.underlying5
  a5 := Tryd.isAgg5
  z5 := Tryd.sizeOf5
  v5 := Tryd.zeroValue5
  t9 := Tryd.underlying9
  a9 := Tryd.isAgg9
  z9 := Tryd.sizeOf9
  v9 := Tryd.zeroValue9
  t46 := Tryd.underlying176
  a46 := Tryd.isAgg176
  z46 := Tryd.sizeOf176
  v46 := Tryd.zeroValue176
  t51 := Tryd.underlying179
  a51 := Tryd.isAgg179
  z51 := Tryd.sizeOf179
  v51 := Tryd.zeroValue179
  t146 := Tryd.underlying187
  a146 := Tryd.isAgg187
  z146 := Tryd.sizeOf187
  v146 := Tryd.zeroValue187
  g1 := by kernel_rfl }
def TopT.cnt_ren : Go.Shelf.Ren := ⟨fun | 138 => 80 | 195 => 100 | 218 => 101 | 143 => 102 | 219 => 117 | 217 => 126 | 225 => 127 | 224 => 128 | 267 => 129 | 266 => 137 | 314 => 138 | n => n, fun | 9 => 9 | 3 => 3 | 4 => 4 | 5 => 5 | 0 => 0 | 46 => 176 | 146 => 187 | 51 => 179 | n => n, fun | 1 => 0 | n => n⟩
theorem TopT.cnt : Go.Proofs.Lays.n138 Tryd.prog TopT.cnt_ren := {
  mixed := by kernel_rfl
  f138 := Tryd.func80.trans (congrArg some (by kernel_rfl))
  f143 := Tryd.func102.trans (congrArg some (by kernel_rfl))
  f195 := Tryd.func100.trans (congrArg some (by kernel_rfl))
  f217 := Tryd.func126.trans (congrArg some (by kernel_rfl))
  f218 := Tryd.func101.trans (congrArg some (by kernel_rfl))
  f219 := Tryd.func117.trans (congrArg some (by kernel_rfl))
  f224 := Tryd.func128.trans (congrArg some (by kernel_rfl))
  f225 := Tryd.func127.trans (congrArg some (by kernel_rfl))
  f266 := Tryd.func137.trans (congrArg some (by kernel_rfl))
  f267 := Tryd.func129.trans (congrArg some (by kernel_rfl))
  f314 := Tryd.func138.trans (congrArg some (by kernel_rfl))
  t0 := Tryd.underlying0
  a0 := Tryd.isAgg0
  z0 := Tryd.sizeOf0
  v0 := Tryd.zeroValue0
  t3 := Tryd.underlying3
  a3 := Tryd.isAgg3
  z3 := Tryd.sizeOf3
  v3 := Tryd.zeroValue3
  t4 := Tryd.underlying4
  a4 := Tryd.isAgg4
  z4 := Tryd.sizeOf4
  v4 := Tryd.zeroValue4
  t5 := Tryd.underlying5
  a5 := Tryd.isAgg5
  z5 := Tryd.sizeOf5
  v5 := Tryd.zeroValue5
  t9 := Tryd.underlying9
  a9 := Tryd.isAgg9
  z9 := Tryd.sizeOf9
  v9 := Tryd.zeroValue9
  t46 := Tryd.underlying176
  a46 := Tryd.isAgg176
  z46 := Tryd.sizeOf176
  v46 := Tryd.zeroValue176
  t51 := Tryd.underlying179
  a51 := Tryd.isAgg179
  z51 := Tryd.sizeOf179
  v51 := Tryd.zeroValue179
  t146 := Tryd.underlying187
  a146 := Tryd.isAgg187
  z146 := Tryd.sizeOf187
  v146 := Tryd.zeroValue187
  g1 := by kernel_rfl }
def TopT.cut_ren : Go.Shelf.Ren := ⟨fun | 103 => 76 | 210 => 97 | 206 => 115 | n => n, fun | 9 => 9 | 4 => 4 | 24 => 123 | 3 => 3 | n => n, fun | n => n⟩
theorem TopT.cut : Go.Proofs.Lays.n103 Tryd.prog TopT.cut_ren := {
  mixed := by kernel_rfl
  f103 := Tryd.func76.trans (congrArg some (by kernel_rfl))
  f206 := Tryd.func115.trans (congrArg some (by kernel_rfl))
  f210 := Tryd.func97.trans (congrArg some (by kernel_rfl))
  t3 := Tryd.underlying3
  a3 := Tryd.isAgg3
  z3 := Tryd.sizeOf3
  v3 := Tryd.zeroValue3
  t4 := Tryd.underlying4
  a4 := Tryd.isAgg4
  z4 := Tryd.sizeOf4
  v4 := Tryd.zeroValue4
  t9 := Tryd.underlying9
  a9 := Tryd.isAgg9
  z9 := Tryd.sizeOf9
  v9 := Tryd.zeroValue9
  t24 := Tryd.underlying123
  a24 := Tryd.isAgg123
  z24 := Tryd.sizeOf123
  v24 := Tryd.zeroValue123 }
end Go.Proofs
