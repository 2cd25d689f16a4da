/-
  The kit's contracts of slices.Sort, Compact, IsSorted, laid at this program (printed by the kit's lay-plain).
-/
import Derived.Shelf.Lays
import Derived.Shelf.Lays2
import Derived.Shelf.SlLaysO
import Derived.Shelf.Sort.Plain
import Derived.Shelf.Slices.CompactI
import Derived.Shelf.SlSorted.IsSorted
import Derived.Ground.NamesProg
import Derived.Ground.Names2Prog
import Derived.Ground.SlsoProg
import Derived.Test.YtpcomfnianamgaaProg
namespace Go.Proofs
open Go.Shelf
def Try.laysort_ren : Go.Shelf.Ren := ⟨fun | 189 => 79 | 125 => 106 | 257 => 105 | 128 => 122 | 129 => 123 | 294 => 114 | 295 => 115 | 296 => 116 | 297 => 117 | 298 => 118 | 299 => 119 | 216 => 112 | 300 => 120 | 301 => 121 | 328 => 127 | 329 => 128 | 330 => 129 | 331 => 130 | 332 => 131 | 215 => 126 | 343 => 132 | n => n, fun | 28 => 41 | 3 => 3 | 46 => 64 | 0 => 0 | 51 => 165 | 53 => 167 | 4 => 4 | 183 => 159 | 182 => 158 | 131 => 162 | 5 => 5 | 9 => 9 | 218 => 172 | 222 => 176 | 228 => 178 | 229 => 179 | n => n, fun | n => n⟩
theorem Try.laysort : Go.Proofs.Lays.n189 Try.prog Try.laysort_ren := {
  mixed := by kernel_rfl
  f125 := Try.func106.trans (congrArg some (by kernel_rfl))
  f128 := Try.func122.trans (congrArg some (by kernel_rfl))
  f129 := Try.func123.trans (congrArg some (by kernel_rfl))
  f189 := Try.func79.trans (congrArg some (by kernel_rfl))
  f215 := Try.func126.trans (congrArg some (by kernel_rfl))
  f216 := Try.func112.trans (congrArg some (by kernel_rfl))
  f257 := Try.func105.trans (congrArg some (by kernel_rfl))
  f294 := Try.func114.trans (congrArg some (by kernel_rfl))
  f295 := Try.func115.trans (congrArg some (by kernel_rfl))
  f296 := Try.func116.trans (congrArg some (by kernel_rfl))
  f297 := Try.func117.trans (congrArg some (by kernel_rfl))
  f298 := Try.func118.trans (congrArg some (by kernel_rfl))
  f299 := Try.func119.trans (congrArg some (by kernel_rfl))
  f300 := Try.func120.trans (congrArg some (by kernel_rfl))
  f301 := Try.func121.trans (congrArg some (by kernel_rfl))
  f328 := Try.func127.trans (congrArg some (by kernel_rfl))
  f329 := Try.func128.trans (congrArg some (by kernel_rfl))
  f330 := Try.func129.trans (congrArg some (by kernel_rfl))
  f331 := Try.func130.trans (congrArg some (by kernel_rfl))
  f332 := Try.func131.trans (congrArg some (by kernel_rfl))
  f343 := Try.func132.trans (congrArg some (by kernel_rfl))
  t0 := Try.underlying0
  a0 := Try.isAgg0
  z0 := Try.sizeOf0
  v0 := Try.zeroValue0
  t3 := Try.underlying3
  a3 := Try.isAgg3
  z3 := Try.sizeOf3
  v3 := Try.zeroValue3
  t4 := Try.underlying4
  a4 := Try.isAgg4
  z4 := Try.sizeOf4
  v4 := Try.zeroValue4
  t5 := Try.underlying5
  a5 := Try.isAgg5
  z5 := Try.sizeOf5
  v5 := Try.zeroValue5
  t9 := Try.underlying9
  a9 := Try.isAgg9
  z9 := Try.sizeOf9
  v9 := Try.zeroValue9
  t28 := Try.underlying41
  a28 := Try.isAgg41
  z28 := Try.sizeOf41
  v28 := Try.zeroValue41
  t46 := Try.underlying64
  a46 := Try.isAgg64
  z46 := Try.sizeOf64
  v46 := Try.zeroValue64
  t51 := Try.underlying165
  a51 := Try.isAgg165
  z51 := Try.sizeOf165
  v51 := Try.zeroValue165
  t53 := Try.underlying167
  a53 := Try.isAgg167
  z53 := Try.sizeOf167
  v53 := Try.zeroValue167
  t131 := Try.underlying162
  a131 := Try.isAgg162
  z131 := Try.sizeOf162
  v131 := Try.zeroValue162
  t182 := Try.underlying158
  a182 := Try.isAgg158
  z182 := Try.sizeOf158
  v182 := Try.zeroValue158
  t183 := Try.underlying159
  a183 := Try.isAgg159
  z183 := Try.sizeOf159
  v183 := Try.zeroValue159
  t218 := Try.underlying172
  a218 := Try.isAgg172
  z218 := Try.sizeOf172
  v218 := Try.zeroValue172
  t222 := Try.underlying176
  a222 := Try.isAgg176
  z222 := Try.sizeOf176
  v222 := Try.zeroValue176
  t228 := Try.underlying178
  a228 := Try.isAgg178
  z228 := Try.sizeOf178
  v228 := Try.zeroValue178
  t229 := Try.underlying179
  a229 := Try.isAgg179
  z229 := Try.sizeOf179
  v229 := Try.zeroValue179 }
def Try.laycomp_ren : Go.Shelf.Ren := ⟨fun | 20 => 81 | n => n, fun | 22 => 41 | 3 => 3 | 4 => 4 | 0 => 0 | n => n, fun | n => n⟩
theorem Try.laycomp : Go.Proofs.Lays2.n20 Try.prog Try.laycomp_ren := {
  mixed := by kernel_rfl
  f20 := Try.func81.trans (congrArg some (by kernel_rfl))
  t0 := Try.underlying0
  a0 := Try.isAgg0
  z0 := Try.sizeOf0
  v0 := Try.zeroValue0
  t3 := Try.underlying3
  a3 := Try.isAgg3
  z3 := Try.sizeOf3
  v3 := Try.zeroValue3
  t4 := Try.underlying4
  a4 := Try.isAgg4
  z4 := Try.sizeOf4
  v4 := Try.zeroValue4
  t22 := Try.underlying41
  a22 := Try.isAgg41
  z22 := Try.sizeOf41
  v22 := Try.zeroValue41
  i3 := by kernel_rfl }
def Try.layiss_ren : Go.Shelf.Ren := ⟨fun | 10 => 97 | 18 => 112 | 24 => 126 | n => n, fun | 22 => 41 | 24 => 3 | 4 => 4 | 3 => 3 | 0 => 0 | n => n, fun | n => n⟩
theorem Try.layiss : Go.Proofs.SlLaysO.n10 Try.prog Try.layiss_ren := {
  mixed := by kernel_rfl
  f10 := ⟨Try.f97.name, by decide, Try.func97.trans (congrArg some (by kernel_rfl))⟩
  f18 := ⟨Try.f112.name, by decide, Try.func112.trans (congrArg some (by kernel_rfl))⟩
  f24 := ⟨Try.f126.name, by decide, Try.func126.trans (congrArg some (by kernel_rfl))⟩
  t0 := Try.underlying0
  a0 := Try.isAgg0
  z0 := Try.sizeOf0
  v0 := Try.zeroValue0
  t3 := Try.underlying3
  a3 := Try.isAgg3
  z3 := Try.sizeOf3
  v3 := Try.zeroValue3
  t4 := Try.underlying4
  a4 := Try.isAgg4
  z4 := Try.sizeOf4
  v4 := Try.zeroValue4
  t22 := Try.underlying41
  a22 := Try.isAgg41
  z22 := Try.sizeOf41
  v22 := Try.zeroValue41
  t24 := Try.underlying3
  a24 := Try.isAgg3
  z24 := Try.sizeOf3
  v24 := Try.zeroValue3 }
end Go.Proofs
