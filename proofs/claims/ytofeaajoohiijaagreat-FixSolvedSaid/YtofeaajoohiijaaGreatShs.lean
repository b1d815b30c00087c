/-
  DERIVED: THE SHELF's CONTRACTS AT THIS DUMP, IN PLAIN WORDS (tools/lay-plain.mjs out of 'YtofeaajoohiijaaGreatShs0.lean', which tools/lay-shelf.mjs wrote): THE SAME DECLARATIONS UNDER THE SAME NAMES: 'import', 'namespace', 'open', 'def', 'theorem' AND NOTHING ELSE: no command of the shelf's: FOR A HAND-IN. Each laying: the table of numbers ('.._ren') and one theorem, a field a fact of the dump's own or the kernel's comparison; each contract: ONE APPLICATION.
-/
import Derived.Shelf.SortG.Plain
import Derived.Shelf.SortG.SortNone
import Derived.Shelf.SlIterI.Sorted
import Derived.Ground.SlgnProg
import Derived.Ground.GgzProg
import Derived.Test.YtofeaajoohiijaaGreatProg
namespace Go.Proofs
open Go.Shelf
def Tryz.sortI_ren : Go.Shelf.Ren := ⟨fun | 53 => 74 | 64 => 104 | 63 => 103 | 78 => 121 | 79 => 122 | 70 => 112 | 71 => 113 | 72 => 114 | 73 => 115 | 74 => 116 | 75 => 117 | 59 => 118 | 76 => 119 | 77 => 120 | 88 => 134 | 89 => 135 | 90 => 136 | 91 => 137 | 92 => 138 | 68 => 139 | 96 => 143 | n => n, fun | 22 => 24 | 23 => 3 | 3 => 3 | 51 => 132 | 0 => 0 | 67 => 145 | 69 => 147 | 4 => 4 | 61 => 139 | 60 => 138 | 44 => 59 | 5 => 5 | 9 => 9 | 75 => 157 | 79 => 161 | 83 => 165 | 84 => 166 | n => n, fun | n => n⟩
theorem Tryz.sortI : Go.Proofs.SlLaysN.n53 Tryz.prog Tryz.sortI_ren := {
  mixed := by kernel_rfl
  f53 := ⟨Tryz.f74.name, by decide, Tryz.func74.trans (congrArg some (by kernel_rfl))⟩
  f59 := ⟨Tryz.f118.name, by decide, Tryz.func118.trans (congrArg some (by kernel_rfl))⟩
  f63 := ⟨Tryz.f103.name, by decide, Tryz.func103.trans (congrArg some (by kernel_rfl))⟩
  f64 := Tryz.func104.trans (congrArg some (by kernel_rfl))
  f68 := ⟨Tryz.f139.name, by decide, Tryz.func139.trans (congrArg some (by kernel_rfl))⟩
  f70 := ⟨Tryz.f112.name, by decide, Tryz.func112.trans (congrArg some (by kernel_rfl))⟩
  f71 := ⟨Tryz.f113.name, by decide, Tryz.func113.trans (congrArg some (by kernel_rfl))⟩
  f72 := ⟨Tryz.f114.name, by decide, Tryz.func114.trans (congrArg some (by kernel_rfl))⟩
  f73 := ⟨Tryz.f115.name, by decide, Tryz.func115.trans (congrArg some (by kernel_rfl))⟩
  f74 := ⟨Tryz.f116.name, by decide, Tryz.func116.trans (congrArg some (by kernel_rfl))⟩
  f75 := ⟨Tryz.f117.name, by decide, Tryz.func117.trans (congrArg some (by kernel_rfl))⟩
  f76 := ⟨Tryz.f119.name, by decide, Tryz.func119.trans (congrArg some (by kernel_rfl))⟩
  f77 := ⟨Tryz.f120.name, by decide, Tryz.func120.trans (congrArg some (by kernel_rfl))⟩
  f78 := Tryz.func121.trans (congrArg some (by kernel_rfl))
  f79 := Tryz.func122.trans (congrArg some (by kernel_rfl))
  f88 := ⟨Tryz.f134.name, by decide, Tryz.func134.trans (congrArg some (by kernel_rfl))⟩
  f89 := Tryz.func135.trans (congrArg some (by kernel_rfl))
  f90 := Tryz.func136.trans (congrArg some (by kernel_rfl))
  f91 := ⟨Tryz.f137.name, by decide, Tryz.func137.trans (congrArg some (by kernel_rfl))⟩
  f92 := ⟨Tryz.f138.name, by decide, Tryz.func138.trans (congrArg some (by kernel_rfl))⟩
  f96 := ⟨Tryz.f143.name, by decide, Tryz.func143.trans (congrArg some (by kernel_rfl))⟩
  t0 := Tryz.underlying0
  a0 := Tryz.isAgg0
  z0 := Tryz.sizeOf0
  v0 := Tryz.zeroValue0
  t3 := Tryz.underlying3
  a3 := Tryz.isAgg3
  z3 := Tryz.sizeOf3
  v3 := Tryz.zeroValue3
  t4 := Tryz.underlying4
  a4 := Tryz.isAgg4
  z4 := Tryz.sizeOf4
  v4 := Tryz.zeroValue4
  t5 := Tryz.underlying5
  a5 := Tryz.isAgg5
  z5 := Tryz.sizeOf5
  v5 := Tryz.zeroValue5
  t9 := Tryz.underlying9
  a9 := Tryz.isAgg9
  z9 := Tryz.sizeOf9
  v9 := Tryz.zeroValue9
  t22 := Tryz.underlying24
  a22 := Tryz.isAgg24
  z22 := Tryz.sizeOf24
  v22 := Tryz.zeroValue24
  t23 := Tryz.underlying3
  a23 := Tryz.isAgg3
  z23 := Tryz.sizeOf3
  v23 := Tryz.zeroValue3
  t44 := Tryz.underlying59
  a44 := Tryz.isAgg59
  z44 := Tryz.sizeOf59
  v44 := Tryz.zeroValue59
  t51 := Tryz.underlying132
  a51 := Tryz.isAgg132
  z51 := Tryz.sizeOf132
  v51 := Tryz.zeroValue132
  t60 := Tryz.underlying138
  a60 := Tryz.isAgg138
  z60 := Tryz.sizeOf138
  v60 := Tryz.zeroValue138
  t61 := Tryz.underlying139
  a61 := Tryz.isAgg139
  z61 := Tryz.sizeOf139
  v61 := Tryz.zeroValue139
  t67 := Tryz.underlying145
  a67 := Tryz.isAgg145
  z67 := Tryz.sizeOf145
  v67 := Tryz.zeroValue145
  t69 := Tryz.underlying147
  a69 := Tryz.isAgg147
  z69 := Tryz.sizeOf147
  v69 := Tryz.zeroValue147
  t75 := Tryz.underlying157
  a75 := Tryz.isAgg157
  z75 := Tryz.sizeOf157
  v75 := Tryz.zeroValue157
  t79 := Tryz.underlying161
  a79 := Tryz.isAgg161
  z79 := Tryz.sizeOf161
  v79 := Tryz.zeroValue161
  t83 := Tryz.underlying165
  a83 := Tryz.isAgg165
  z83 := Tryz.sizeOf165
  v83 := Tryz.zeroValue165
  t84 := Tryz.underlying166
  a84 := Tryz.isAgg166
  z84 := Tryz.sizeOf166
  v84 := Tryz.zeroValue166 }
def Tryz.sortedA_ren : Go.Shelf.Ren := ⟨fun | 6 => 81 | 8 => 84 | 9 => 74 | 11 => 107 | 13 => 104 | 12 => 103 | 23 => 121 | 24 => 122 | 14 => 112 | 15 => 113 | 16 => 114 | 17 => 115 | 18 => 116 | 19 => 117 | 20 => 118 | 21 => 119 | 22 => 120 | 25 => 134 | 26 => 135 | 27 => 136 | 28 => 137 | 29 => 138 | 30 => 139 | 31 => 143 | n => n, fun | 26 => 3 | 28 => 114 | 24 => 24 | 0 => 0 | 3 => 3 | 37 => 132 | 48 => 145 | 50 => 147 | 4 => 4 | 40 => 139 | 39 => 138 | 45 => 59 | 5 => 5 | 9 => 9 | 51 => 157 | 55 => 161 | 57 => 165 | 58 => 166 | 33 => 87 | n => n, fun | n => n⟩
theorem Tryz.sortedA : Go.Proofs.SlLaysZI.n6 Tryz.prog Tryz.sortedA_ren := {
  mixed := by kernel_rfl
  f6 := ⟨Tryz.f81.name, by decide, Tryz.func81.trans (congrArg some (by kernel_rfl))⟩
  f8 := ⟨Tryz.f84.name, by decide, Tryz.func84.trans (congrArg some (by kernel_rfl))⟩
  f11 := ⟨Tryz.f107.name, by decide, Tryz.func107.trans (congrArg some (by kernel_rfl))⟩
  t0 := Tryz.underlying0
  a0 := Tryz.isAgg0
  z0 := Tryz.sizeOf0
  v0 := Tryz.zeroValue0
  t24 := Tryz.underlying24
  a24 := Tryz.isAgg24
  z24 := Tryz.sizeOf24
  v24 := Tryz.zeroValue24
  t26 := Tryz.underlying3
  a26 := Tryz.isAgg3
  z26 := Tryz.sizeOf3
  v26 := Tryz.zeroValue3
  t28 := Tryz.underlying114
  a28 := Tryz.isAgg114
  z28 := Tryz.sizeOf114
  v28 := Tryz.zeroValue114
  i26 := by kernel_rfl }
end Go.Proofs
