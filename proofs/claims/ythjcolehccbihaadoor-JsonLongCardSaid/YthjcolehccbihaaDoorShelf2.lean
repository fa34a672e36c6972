/- The library's contracts at this program, laid by the kit's own command. -/
import Derived.Shelf.Spec.DecodeRune
import Derived.Shelf.Spec.NilArms
import Derived.Shelf.Unicode.ValidAny
import Derived.Shelf.SlIter.Sorted
import Derived.Ground.Names7Prog
import Derived.Ground.NamesProg
import Derived.Ground.GgzProg
import Derived.Test.YthjcolehccbihaaDoorProg
namespace Go.Proofs
open Go.Shelf
def Tryd.laysDecode_ren : Go.Shelf.Ren := ⟨fun | 32 => 48 | 49 => 63 | n => n, fun | 30 => 23 | 21 => 21 | 3 => 3 | 0 => 0 | 5 => 5 | 4 => 4 | 33 => 79 | 66 => 84 | 25 => 88 | 69 => 87 | 68 => 86 | n => n, fun | 2 => 0 | 3 => 1 | n => n⟩
theorem Tryd.laysDecode : Go.Proofs.Lays7.n32 Tryd.prog Tryd.laysDecode_ren := {
  mixed := by kernel_rfl
  f32 := Tryd.func48.trans (congrArg some (by kernel_rfl))
  f49 := Tryd.func63.trans (congrArg some (by kernel_rfl))
  t0 := Tryd.underlying0
  a0 := Tryd.isAgg0
  z0 := Tryd.sizeOf0
  v0 := Tryd.zeroValue0
  i0 := by kernel_rfl
  t3 := Tryd.underlying3
  a3 := Tryd.isAgg3
  z3 := Tryd.sizeOf3
  v3 := Tryd.zeroValue3
  i3 := by kernel_rfl
  t4 := Tryd.underlying4
  a4 := Tryd.isAgg4
  z4 := Tryd.sizeOf4
  v4 := Tryd.zeroValue4
  i4 := by kernel_rfl
  t5 := Tryd.underlying5
  a5 := Tryd.isAgg5
  z5 := Tryd.sizeOf5
  v5 := Tryd.zeroValue5
  i5 := by kernel_rfl
  t21 := Tryd.underlying21
  a21 := Tryd.isAgg21
  z21 := Tryd.sizeOf21
  v21 := Tryd.zeroValue21
  i21 := by kernel_rfl
  t25 := Tryd.underlying88
  a25 := Tryd.isAgg88
  z25 := Tryd.sizeOf88
  v25 := Tryd.zeroValue88
  i25 := by kernel_rfl
  t30 := Tryd.underlying23
  a30 := Tryd.isAgg23
  z30 := Tryd.sizeOf23
  v30 := Tryd.zeroValue23
  i30 := by kernel_rfl
  t33 := Tryd.underlying79
  a33 := Tryd.isAgg79
  z33 := Tryd.sizeOf79
  v33 := Tryd.zeroValue79
  i33 := by kernel_rfl
  t66 := Tryd.underlying84
  a66 := Tryd.isAgg84
  z66 := Tryd.sizeOf84
  t68 := Tryd.underlying86
  a68 := Tryd.isAgg86
  z68 := Tryd.sizeOf86
  v68 := Tryd.zeroValue86
  i68 := by kernel_rfl
  t69 := Tryd.underlying87
  a69 := Tryd.isAgg87
  z69 := Tryd.sizeOf87
  v69 := Tryd.zeroValue87
  i69 := by kernel_rfl
  g2 := by kernel_rfl
  g3 := by kernel_rfl }
def Tryd.laysValid_ren : Go.Shelf.Ren := ⟨fun | 196 => 36 | 259 => 52 | n => n, fun | 9 => 9 | 4 => 4 | 3 => 3 | 5 => 5 | 12 => 12 | 119 => 84 | 0 => 0 | 46 => 88 | 139 => 87 | 138 => 86 | 53 => 97 | n => n, fun | 3 => 0 | 4 => 1 | n => n⟩
theorem Tryd.laysValid : Go.Proofs.Lays.n196 Tryd.prog Tryd.laysValid_ren := {
  mixed := by kernel_rfl
  f196 := Tryd.func36.trans (congrArg some (by kernel_rfl))
  f259 := Tryd.func52.trans (congrArg some (by kernel_rfl))
  t0 := Tryd.underlying0
  a0 := Tryd.isAgg0
  z0 := Tryd.sizeOf0
  v0 := Tryd.zeroValue0
  t3 := Tryd.underlying3
  a3 := Tryd.isAgg3
  z3 := Tryd.sizeOf3
  v3 := Tryd.zeroValue3
  t4 := Tryd.underlying4
  a4 := Tryd.isAgg4
  z4 := Tryd.sizeOf4
  v4 := Tryd.zeroValue4
  t5 := Tryd.underlying5
  a5 := Tryd.isAgg5
  z5 := Tryd.sizeOf5
  v5 := Tryd.zeroValue5
  t9 := Tryd.underlying9
  a9 := Tryd.isAgg9
  z9 := Tryd.sizeOf9
  v9 := Tryd.zeroValue9
  t12 := Tryd.underlying12
  a12 := Tryd.isAgg12
  z12 := Tryd.sizeOf12
  v12 := Tryd.zeroValue12
  t46 := Tryd.underlying88
  a46 := Tryd.isAgg88
  z46 := Tryd.sizeOf88
  v46 := Tryd.zeroValue88
  t53 := Tryd.underlying97
  a53 := Tryd.isAgg97
  z53 := Tryd.sizeOf97
  v53 := Tryd.zeroValue97
  t119 := Tryd.underlying84
  a119 := Tryd.isAgg84
  z119 := Tryd.sizeOf84
  t138 := Tryd.underlying86
  a138 := Tryd.isAgg86
  z138 := Tryd.sizeOf86
  v138 := Tryd.zeroValue86
  t139 := Tryd.underlying87
  a139 := Tryd.isAgg87
  z139 := Tryd.sizeOf87
  v139 := Tryd.zeroValue87
  g3 := by kernel_rfl
  g4 := by kernel_rfl }
def Tryd.sortedS_ren : Go.Shelf.Ren := ⟨fun | 6 => 39 | 8 => 54 | 9 => 55 | 11 => 64 | 13 => 66 | 12 => 65 | 23 => 79 | 24 => 80 | 14 => 70 | 15 => 71 | 16 => 72 | 17 => 73 | 18 => 74 | 19 => 75 | 20 => 76 | 21 => 77 | 22 => 78 | 25 => 90 | 26 => 91 | 27 => 92 | 28 => 93 | 29 => 94 | 30 => 95 | 31 => 99 | n => n, fun | 26 => 9 | 28 => 71 | 24 => 25 | 0 => 0 | 3 => 3 | 37 => 88 | 48 => 95 | 50 => 97 | 4 => 4 | 40 => 104 | 39 => 103 | 45 => 109 | 5 => 5 | 9 => 9 | 51 => 118 | 55 => 122 | 57 => 126 | 58 => 127 | 33 => 37 | n => n, fun | n => n⟩
theorem Tryd.sortedS : Go.Proofs.SlLaysZ.n6 Tryd.prog Tryd.sortedS_ren := {
  mixed := by kernel_rfl
  f6 := ⟨Tryd.f39.name, by decide, Tryd.func39.trans (congrArg some (by kernel_rfl))⟩
  f8 := ⟨Tryd.f54.name, by decide, Tryd.func54.trans (congrArg some (by kernel_rfl))⟩
  f11 := ⟨Tryd.f64.name, by decide, Tryd.func64.trans (congrArg some (by kernel_rfl))⟩
  t0 := Tryd.underlying0
  a0 := Tryd.isAgg0
  z0 := Tryd.sizeOf0
  v0 := Tryd.zeroValue0
  t24 := Tryd.underlying25
  a24 := Tryd.isAgg25
  z24 := Tryd.sizeOf25
  v24 := Tryd.zeroValue25
  t26 := Tryd.underlying9
  a26 := Tryd.isAgg9
  z26 := Tryd.sizeOf9
  v26 := Tryd.zeroValue9
  t28 := Tryd.underlying71
  a28 := Tryd.isAgg71
  z28 := Tryd.sizeOf71
  v28 := Tryd.zeroValue71
  i26 := by kernel_rfl }
end Go.Proofs
