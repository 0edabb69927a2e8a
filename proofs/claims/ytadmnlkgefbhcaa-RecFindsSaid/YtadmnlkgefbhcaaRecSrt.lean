/- slices.Sort and slices.Compact at []int, by the shelf's contracts, laid in plain words (by the kit's lay-plain.mjs). -/
import Derived.Test.YtadmnlkgefbhcaaB1
import Derived.Ground.NamesProg
import Derived.Ground.Names2Prog
import Derived.Shelf.Sort.Plain
import Derived.Shelf.Slices.CompactI
import Derived.Sort.OwnSortedInts
namespace Go.Proofs
open Go.Shelf
def Ytadmnlkgefbhcaa.laysSort_ren : Go.Shelf.Ren := ⟨fun | 189 => 90 | 125 => 118 | 257 => 117 | 128 => 143 | 129 => 144 | 294 => 134 | 295 => 135 | 296 => 136 | 297 => 137 | 298 => 138 | 299 => 139 | 216 => 140 | 300 => 141 | 301 => 142 | 328 => 146 | 329 => 147 | 330 => 148 | 331 => 149 | 332 => 150 | 215 => 151 | 343 => 152 | n => n, fun | 28 => 53 | 3 => 3 | 46 => 151 | 0 => 0 | 51 => 165 | 53 => 167 | 4 => 4 | 183 => 159 | 182 => 158 | 131 => 72 | 5 => 5 | 9 => 9 | 218 => 169 | 222 => 173 | 228 => 175 | 229 => 176 | n => n, fun | n => n⟩
theorem Ytadmnlkgefbhcaa.laysSort : Go.Proofs.Lays.n189 Try.prog Ytadmnlkgefbhcaa.laysSort_ren := {
  mixed := by kernel_rfl
  f125 := Try.func118.trans (congrArg some (by kernel_rfl))
  f128 := Try.func143.trans (congrArg some (by kernel_rfl))
  f129 := Try.func144.trans (congrArg some (by kernel_rfl))
  f189 := Try.func90.trans (congrArg some (by kernel_rfl))
  f215 := Try.func151.trans (congrArg some (by kernel_rfl))
  f216 := Try.func140.trans (congrArg some (by kernel_rfl))
  f257 := Try.func117.trans (congrArg some (by kernel_rfl))
  f294 := Try.func134.trans (congrArg some (by kernel_rfl))
  f295 := Try.func135.trans (congrArg some (by kernel_rfl))
  f296 := Try.func136.trans (congrArg some (by kernel_rfl))
  f297 := Try.func137.trans (congrArg some (by kernel_rfl))
  f298 := Try.func138.trans (congrArg some (by kernel_rfl))
  f299 := Try.func139.trans (congrArg some (by kernel_rfl))
  f300 := Try.func141.trans (congrArg some (by kernel_rfl))
  f301 := Try.func142.trans (congrArg some (by kernel_rfl))
  f328 := Try.func146.trans (congrArg some (by kernel_rfl))
  f329 := Try.func147.trans (congrArg some (by kernel_rfl))
  f330 := Try.func148.trans (congrArg some (by kernel_rfl))
  f331 := Try.func149.trans (congrArg some (by kernel_rfl))
  f332 := Try.func150.trans (congrArg some (by kernel_rfl))
  f343 := Try.func152.trans (congrArg some (by kernel_rfl))
  t0 := Try.underlying0
  a0 := Try.isAgg0
  z0 := Try.sizeOf0
  v0 := Try.zeroValue0
  t3 := Try.underlying3
  a3 := Try.isAgg3
  z3 := Try.sizeOf3
  v3 := Try.zeroValue3
  t4 := Try.underlying4
  a4 := Try.isAgg4
  z4 := Try.sizeOf4
  v4 := Try.zeroValue4
  t5 := Try.underlying5
  a5 := Try.isAgg5
  z5 := Try.sizeOf5
  v5 := Try.zeroValue5
  t9 := Try.underlying9
  a9 := Try.isAgg9
  z9 := Try.sizeOf9
  v9 := Try.zeroValue9
  t28 := Try.underlying53
  a28 := Try.isAgg53
  z28 := Try.sizeOf53
  v28 := Try.zeroValue53
  t46 := Try.underlying151
  a46 := Try.isAgg151
  z46 := Try.sizeOf151
  v46 := Try.zeroValue151
  t51 := Try.underlying165
  a51 := Try.isAgg165
  z51 := Try.sizeOf165
  v51 := Try.zeroValue165
  t53 := Try.underlying167
  a53 := Try.isAgg167
  z53 := Try.sizeOf167
  v53 := Try.zeroValue167
  t131 := Try.underlying72
  a131 := Try.isAgg72
  z131 := Try.sizeOf72
  v131 := Try.zeroValue72
  t182 := Try.underlying158
  a182 := Try.isAgg158
  z182 := Try.sizeOf158
  v182 := Try.zeroValue158
  t183 := Try.underlying159
  a183 := Try.isAgg159
  z183 := Try.sizeOf159
  v183 := Try.zeroValue159
  t218 := Try.underlying169
  a218 := Try.isAgg169
  z218 := Try.sizeOf169
  v218 := Try.zeroValue169
  t222 := Try.underlying173
  a222 := Try.isAgg173
  z222 := Try.sizeOf173
  v222 := Try.zeroValue173
  t228 := Try.underlying175
  a228 := Try.isAgg175
  z228 := Try.sizeOf175
  v228 := Try.zeroValue175
  t229 := Try.underlying176
  a229 := Try.isAgg176
  z229 := Try.sizeOf176
  v229 := Try.zeroValue176 }
def Ytadmnlkgefbhcaa.laysCompact_ren : Go.Shelf.Ren := ⟨fun | 20 => 91 | n => n, fun | 22 => 53 | 3 => 3 | 4 => 4 | 0 => 0 | n => n, fun | n => n⟩
theorem Ytadmnlkgefbhcaa.laysCompact : Go.Proofs.Lays2.n20 Try.prog Ytadmnlkgefbhcaa.laysCompact_ren := {
  mixed := by kernel_rfl
  f20 := Try.func91.trans (congrArg some (by kernel_rfl))
  t0 := Try.underlying0
  a0 := Try.isAgg0
  z0 := Try.sizeOf0
  v0 := Try.zeroValue0
  t3 := Try.underlying3
  a3 := Try.isAgg3
  z3 := Try.sizeOf3
  v3 := Try.zeroValue3
  t4 := Try.underlying4
  a4 := Try.isAgg4
  z4 := Try.sizeOf4
  v4 := Try.zeroValue4
  t22 := Try.underlying53
  a22 := Try.isAgg53
  z22 := Try.sizeOf53
  v22 := Try.zeroValue53
  i3 := by kernel_rfl }
end Go.Proofs
