/- The library's contracts at this program, laid by the kit's own command. -/
import Derived.Shelf.Spec.DecodeRune
import Derived.Shelf.Spec.NilArms
import Derived.Shelf.Unicode.ValidAny
import Derived.Shelf.SlIter.Sorted
import Derived.Ground.Names7Prog
import Derived.Ground.NamesProg
import Derived.Ground.GgzProg
import Derived.Test.YthjcolehccbihaaGreatDoorProg
namespace Go.Proofs
open Go.Shelf
def Tryz.laysDecode_ren : Go.Shelf.Ren := ⟨fun | 32 => 101 | 49 => 122 | n => n, fun | 30 => 26 | 21 => 21 | 3 => 3 | 0 => 0 | 5 => 5 | 4 => 4 | 33 => 137 | 66 => 123 | 25 => 127 | 69 => 126 | 68 => 125 | n => n, fun | 2 => 0 | 3 => 1 | n => n⟩
theorem Tryz.laysDecode : Go.Proofs.Lays7.n32 Tryz.prog Tryz.laysDecode_ren := {
  mixed := by kernel_rfl
  f32 := Tryz.func101.trans (congrArg some (by kernel_rfl))
  f49 := Tryz.func122.trans (congrArg some (by kernel_rfl))
  t0 := Tryz.underlying0
  a0 := Tryz.isAgg0
  z0 := Tryz.sizeOf0
  v0 := Tryz.zeroValue0
  i0 := by kernel_rfl
  t3 := Tryz.underlying3
  a3 := Tryz.isAgg3
  z3 := Tryz.sizeOf3
  v3 := Tryz.zeroValue3
  i3 := by kernel_rfl
  t4 := Tryz.underlying4
  a4 := Tryz.isAgg4
  z4 := Tryz.sizeOf4
  v4 := Tryz.zeroValue4
  i4 := by kernel_rfl
  t5 := Tryz.underlying5
  a5 := Tryz.isAgg5
  z5 := Tryz.sizeOf5
  v5 := Tryz.zeroValue5
  i5 := by kernel_rfl
  t21 := Tryz.underlying21
  a21 := Tryz.isAgg21
  z21 := Tryz.sizeOf21
  v21 := Tryz.zeroValue21
  i21 := by kernel_rfl
  t25 := Tryz.underlying127
  a25 := Tryz.isAgg127
  z25 := Tryz.sizeOf127
  v25 := Tryz.zeroValue127
  i25 := by kernel_rfl
  t30 := Tryz.underlying26
  a30 := Tryz.isAgg26
  z30 := Tryz.sizeOf26
  v30 := Tryz.zeroValue26
  i30 := by kernel_rfl
  t33 := Tryz.underlying137
  a33 := Tryz.isAgg137
  z33 := Tryz.sizeOf137
  v33 := Tryz.zeroValue137
  i33 := by kernel_rfl
  t66 := Tryz.underlying123
  a66 := Tryz.isAgg123
  z66 := Tryz.sizeOf123
  t68 := Tryz.underlying125
  a68 := Tryz.isAgg125
  z68 := Tryz.sizeOf125
  v68 := Tryz.zeroValue125
  i68 := by kernel_rfl
  t69 := Tryz.underlying126
  a69 := Tryz.isAgg126
  z69 := Tryz.sizeOf126
  v69 := Tryz.zeroValue126
  i69 := by kernel_rfl
  g2 := by kernel_rfl
  g3 := by kernel_rfl }
def Tryz.laysValid_ren : Go.Shelf.Ren := ⟨fun | 196 => 61 | 259 => 88 | n => n, fun | 9 => 9 | 4 => 4 | 3 => 3 | 5 => 5 | 12 => 12 | 119 => 123 | 0 => 0 | 46 => 127 | 139 => 126 | 138 => 125 | 53 => 154 | n => n, fun | 3 => 0 | 4 => 1 | n => n⟩
theorem Tryz.laysValid : Go.Proofs.Lays.n196 Tryz.prog Tryz.laysValid_ren := {
  mixed := by kernel_rfl
  f196 := Tryz.func61.trans (congrArg some (by kernel_rfl))
  f259 := Tryz.func88.trans (congrArg some (by kernel_rfl))
  t0 := Tryz.underlying0
  a0 := Tryz.isAgg0
  z0 := Tryz.sizeOf0
  v0 := Tryz.zeroValue0
  t3 := Tryz.underlying3
  a3 := Tryz.isAgg3
  z3 := Tryz.sizeOf3
  v3 := Tryz.zeroValue3
  t4 := Tryz.underlying4
  a4 := Tryz.isAgg4
  z4 := Tryz.sizeOf4
  v4 := Tryz.zeroValue4
  t5 := Tryz.underlying5
  a5 := Tryz.isAgg5
  z5 := Tryz.sizeOf5
  v5 := Tryz.zeroValue5
  t9 := Tryz.underlying9
  a9 := Tryz.isAgg9
  z9 := Tryz.sizeOf9
  v9 := Tryz.zeroValue9
  t12 := Tryz.underlying12
  a12 := Tryz.isAgg12
  z12 := Tryz.sizeOf12
  v12 := Tryz.zeroValue12
  t46 := Tryz.underlying127
  a46 := Tryz.isAgg127
  z46 := Tryz.sizeOf127
  v46 := Tryz.zeroValue127
  t53 := Tryz.underlying154
  a53 := Tryz.isAgg154
  z53 := Tryz.sizeOf154
  v53 := Tryz.zeroValue154
  t119 := Tryz.underlying123
  a119 := Tryz.isAgg123
  z119 := Tryz.sizeOf123
  t138 := Tryz.underlying125
  a138 := Tryz.isAgg125
  z138 := Tryz.sizeOf125
  v138 := Tryz.zeroValue125
  t139 := Tryz.underlying126
  a139 := Tryz.isAgg126
  z139 := Tryz.sizeOf126
  v139 := Tryz.zeroValue126
  g3 := by kernel_rfl
  g4 := by kernel_rfl }
def Tryz.sortedS_ren : Go.Shelf.Ren := ⟨fun | 6 => 64 | 8 => 90 | 9 => 91 | 11 => 114 | 13 => 116 | 12 => 115 | 23 => 142 | 24 => 143 | 14 => 133 | 15 => 134 | 16 => 135 | 17 => 136 | 18 => 137 | 19 => 138 | 20 => 139 | 21 => 140 | 22 => 141 | 25 => 161 | 26 => 162 | 27 => 163 | 28 => 164 | 29 => 165 | 30 => 166 | 31 => 172 | n => n, fun | 26 => 9 | 28 => 111 | 24 => 23 | 0 => 0 | 3 => 3 | 37 => 127 | 48 => 159 | 50 => 154 | 4 => 4 | 40 => 174 | 39 => 173 | 45 => 104 | 5 => 5 | 9 => 9 | 51 => 194 | 55 => 198 | 57 => 202 | 58 => 62 | 33 => 103 | n => n, fun | n => n⟩
theorem Tryz.sortedS : Go.Proofs.SlLaysZ.n6 Tryz.prog Tryz.sortedS_ren := {
  mixed := by kernel_rfl
  f6 := ⟨Tryz.f64.name, by decide, Tryz.func64.trans (congrArg some (by kernel_rfl))⟩
  f8 := ⟨Tryz.f90.name, by decide, Tryz.func90.trans (congrArg some (by kernel_rfl))⟩
  f11 := ⟨Tryz.f114.name, by decide, Tryz.func114.trans (congrArg some (by kernel_rfl))⟩
  t0 := Tryz.underlying0
  a0 := Tryz.isAgg0
  z0 := Tryz.sizeOf0
  v0 := Tryz.zeroValue0
  t24 := Tryz.underlying23
  a24 := Tryz.isAgg23
  z24 := Tryz.sizeOf23
  v24 := Tryz.zeroValue23
  t26 := Tryz.underlying9
  a26 := Tryz.isAgg9
  z26 := Tryz.sizeOf9
  v26 := Tryz.zeroValue9
  t28 := Tryz.underlying111
  a28 := Tryz.isAgg111
  z28 := Tryz.sizeOf111
  v28 := Tryz.zeroValue111
  i26 := by kernel_rfl }
end Go.Proofs
