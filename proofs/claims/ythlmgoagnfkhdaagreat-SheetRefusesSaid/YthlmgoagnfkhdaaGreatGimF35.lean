/- The kit's contracts on maps.Keys, slices.Sorted, slices.Sort at numbers, maps.Clone, as the kit's tool lay-plain.mjs prints them for this seat. Conditions: none. -/
import Derived.Shelf.SlIterI.Nil
import Derived.Shelf.SortM.Plain
import Derived.Shelf.SortM.SortNone
import Derived.Shelf.SlMaps.Clone
import Derived.Test.YthlmgoagnfkhdaaGreatProg
set_option maxHeartbeats 6400000
set_option maxRecDepth 1000000
set_option linter.unusedVariables false
set_option linter.unusedSimpArgs false
namespace Go.Proofs
open Go.Shelf
def Tryz.keysA_ren : Go.Shelf.Ren := ⟨fun | 7 => 70 | 10 => 103 | n => n, fun | 23 => 118 | 26 => 3 | 3 => 66 | 28 => 134 | 0 => 0 | 27 => 133 | 33 => 167 | 4 => 4 | n => n, fun | n => n⟩
theorem Tryz.keysA : Go.Proofs.SlLaysZI.n7 Tryz.prog Tryz.keysA_ren := {
 mixed := by kernel_rfl
 f7 := ⟨Tryz.f70.name, by decide, Tryz.func70.trans (congrArg some (by kernel_rfl))⟩
 f10 := ⟨Tryz.f103.name, by decide, Tryz.func103.trans (congrArg some (by kernel_rfl))⟩
 t0 := Tryz.underlying0
 a0 := Tryz.isAgg0
 z0 := Tryz.sizeOf0
 v0 := Tryz.zeroValue0
 t4 := Tryz.underlying4
 a4 := Tryz.isAgg4
 z4 := Tryz.sizeOf4
 v4 := Tryz.zeroValue4
 t23 := Tryz.underlying118
 a23 := Tryz.isAgg118
 z23 := Tryz.sizeOf118
 v23 := Tryz.zeroValue118
 t26 := Tryz.underlying3
 a26 := Tryz.isAgg3
 z26 := Tryz.sizeOf3
 v26 := Tryz.zeroValue3
 t27 := Tryz.underlying133
 a27 := Tryz.isAgg133
 z27 := Tryz.sizeOf133
 v27 := Tryz.zeroValue133
 t28 := Tryz.underlying134
 a28 := Tryz.isAgg134
 z28 := Tryz.sizeOf134
 v28 := Tryz.zeroValue134
 t33 := Tryz.underlying167
 a33 := Tryz.isAgg167
 z33 := Tryz.sizeOf167
 v33 := Tryz.zeroValue167 }
def Tryz.sortedA_ren : Go.Shelf.Ren := ⟨fun | 6 => 69 | 8 => 101 | 9 => 102 | 11 => 138 | 13 => 140 | 12 => 139 | 23 => 178 | 24 => 179 | 14 => 169 | 15 => 170 | 16 => 171 | 17 => 172 | 18 => 173 | 19 => 174 | 20 => 175 | 21 => 176 | 22 => 177 | 25 => 190 | 26 => 191 | 27 => 192 | 28 => 193 | 29 => 194 | 30 => 111 | 31 => 198 | n => n, fun | 26 => 3 | 28 => 134 | 24 => 52 | 0 => 0 | 3 => 3 | 37 => 113 | 48 => 30 | 50 => 218 | 4 => 4 | 40 => 210 | 39 => 209 | 45 => 214 | 5 => 5 | 9 => 9 | 51 => 223 | 55 => 227 | 57 => 229 | 58 => 230 | 33 => 167 | n => n, fun | n => n⟩
theorem Tryz.sortedA : Go.Proofs.SlLaysZI.n6 Tryz.prog Tryz.sortedA_ren := {
 mixed := by kernel_rfl
 f6 := ⟨Tryz.f69.name, by decide, Tryz.func69.trans (congrArg some (by kernel_rfl))⟩
 f8 := ⟨Tryz.f101.name, by decide, Tryz.func101.trans (congrArg some (by kernel_rfl))⟩
 f11 := ⟨Tryz.f138.name, by decide, Tryz.func138.trans (congrArg some (by kernel_rfl))⟩
 t0 := Tryz.underlying0
 a0 := Tryz.isAgg0
 z0 := Tryz.sizeOf0
 v0 := Tryz.zeroValue0
 t24 := Tryz.underlying52
 a24 := Tryz.isAgg52
 z24 := Tryz.sizeOf52
 v24 := Tryz.zeroValue52
 t26 := Tryz.underlying3
 a26 := Tryz.isAgg3
 z26 := Tryz.sizeOf3
 v26 := Tryz.zeroValue3
 t28 := Tryz.underlying134
 a28 := Tryz.isAgg134
 z28 := Tryz.sizeOf134
 v28 := Tryz.zeroValue134
 i26 := by kernel_rfl }
def Tryz.sortA_ren : Go.Shelf.Ren := ⟨fun | 5 => 102 | 8 => 140 | 7 => 139 | 19 => 178 | 20 => 179 | 10 => 169 | 11 => 170 | 12 => 171 | 13 => 172 | 14 => 173 | 15 => 174 | 16 => 175 | 17 => 176 | 18 => 177 | 30 => 190 | 31 => 191 | 32 => 192 | 33 => 193 | 34 => 194 | 35 => 111 | 40 => 198 | n => n, fun | 23 => 52 | 25 => 3 | 3 => 3 | 32 => 113 | 22 => 52 | 0 => 0 | 44 => 30 | 46 => 218 | 4 => 4 | 36 => 210 | 35 => 209 | 41 => 214 | 5 => 5 | 9 => 9 | 53 => 223 | 57 => 227 | 63 => 229 | 64 => 230 | n => n, fun | n => n⟩
theorem Tryz.sortA : Go.Proofs.SlLaysM.n5 Tryz.prog Tryz.sortA_ren := {
 mixed := by kernel_rfl
 f5 := ⟨Tryz.f102.name, by decide, Tryz.func102.trans (congrArg some (by kernel_rfl))⟩
 f7 := ⟨Tryz.f139.name, by decide, Tryz.func139.trans (congrArg some (by kernel_rfl))⟩
 f8 := Tryz.func140.trans (congrArg some (by kernel_rfl))
 f10 := ⟨Tryz.f169.name, by decide, Tryz.func169.trans (congrArg some (by kernel_rfl))⟩
 f11 := ⟨Tryz.f170.name, by decide, Tryz.func170.trans (congrArg some (by kernel_rfl))⟩
 f12 := ⟨Tryz.f171.name, by decide, Tryz.func171.trans (congrArg some (by kernel_rfl))⟩
 f13 := ⟨Tryz.f172.name, by decide, Tryz.func172.trans (congrArg some (by kernel_rfl))⟩
 f14 := ⟨Tryz.f173.name, by decide, Tryz.func173.trans (congrArg some (by kernel_rfl))⟩
 f15 := ⟨Tryz.f174.name, by decide, Tryz.func174.trans (congrArg some (by kernel_rfl))⟩
 f16 := ⟨Tryz.f175.name, by decide, Tryz.func175.trans (congrArg some (by kernel_rfl))⟩
 f17 := ⟨Tryz.f176.name, by decide, Tryz.func176.trans (congrArg some (by kernel_rfl))⟩
 f18 := ⟨Tryz.f177.name, by decide, Tryz.func177.trans (congrArg some (by kernel_rfl))⟩
 f19 := Tryz.func178.trans (congrArg some (by kernel_rfl))
 f20 := Tryz.func179.trans (congrArg some (by kernel_rfl))
 f30 := ⟨Tryz.f190.name, by decide, Tryz.func190.trans (congrArg some (by kernel_rfl))⟩
 f31 := Tryz.func191.trans (congrArg some (by kernel_rfl))
 f32 := Tryz.func192.trans (congrArg some (by kernel_rfl))
 f33 := ⟨Tryz.f193.name, by decide, Tryz.func193.trans (congrArg some (by kernel_rfl))⟩
 f34 := ⟨Tryz.f194.name, by decide, Tryz.func194.trans (congrArg some (by kernel_rfl))⟩
 f35 := ⟨Tryz.f111.name, by decide, Tryz.func111.trans (congrArg some (by kernel_rfl))⟩
 f40 := ⟨Tryz.f198.name, by decide, Tryz.func198.trans (congrArg some (by kernel_rfl))⟩
 t0 := Tryz.underlying0
 a0 := Tryz.isAgg0
 z0 := Tryz.sizeOf0
 v0 := Tryz.zeroValue0
 t3 := Tryz.underlying3
 a3 := Tryz.isAgg3
 z3 := Tryz.sizeOf3
 v3 := Tryz.zeroValue3
 t4 := Tryz.underlying4
 a4 := Tryz.isAgg4
 z4 := Tryz.sizeOf4
 v4 := Tryz.zeroValue4
 t5 := Tryz.underlying5
 a5 := Tryz.isAgg5
 z5 := Tryz.sizeOf5
 v5 := Tryz.zeroValue5
 t9 := Tryz.underlying9
 a9 := Tryz.isAgg9
 z9 := Tryz.sizeOf9
 v9 := Tryz.zeroValue9
 t22 := Tryz.underlying52
 a22 := Tryz.isAgg52
 z22 := Tryz.sizeOf52
 v22 := Tryz.zeroValue52
 t23 := Tryz.underlying52
 a23 := Tryz.isAgg52
 z23 := Tryz.sizeOf52
 v23 := Tryz.zeroValue52
 t25 := Tryz.underlying3
 a25 := Tryz.isAgg3
 z25 := Tryz.sizeOf3
 v25 := Tryz.zeroValue3
 t32 := Tryz.underlying113
 a32 := Tryz.isAgg113
 z32 := Tryz.sizeOf113
 v32 := Tryz.zeroValue113
 t35 := Tryz.underlying209
 a35 := Tryz.isAgg209
 z35 := Tryz.sizeOf209
 v35 := Tryz.zeroValue209
 t36 := Tryz.underlying210
 a36 := Tryz.isAgg210
 z36 := Tryz.sizeOf210
 v36 := Tryz.zeroValue210
 t41 := Tryz.underlying214
 a41 := Tryz.isAgg214
 z41 := Tryz.sizeOf214
 v41 := Tryz.zeroValue214
 t44 := Tryz.underlying30
 a44 := Tryz.isAgg30
 z44 := Tryz.sizeOf30
 v44 := Tryz.zeroValue30
 t46 := Tryz.underlying218
 a46 := Tryz.isAgg218
 z46 := Tryz.sizeOf218
 v46 := Tryz.zeroValue218
 t53 := Tryz.underlying223
 a53 := Tryz.isAgg223
 z53 := Tryz.sizeOf223
 v53 := Tryz.zeroValue223
 t57 := Tryz.underlying227
 a57 := Tryz.isAgg227
 z57 := Tryz.sizeOf227
 v57 := Tryz.zeroValue227
 t63 := Tryz.underlying229
 a63 := Tryz.isAgg229
 z63 := Tryz.sizeOf229
 v63 := Tryz.zeroValue229
 t64 := Tryz.underlying230
 a64 := Tryz.isAgg230
 z64 := Tryz.sizeOf230
 v64 := Tryz.zeroValue230 }
end Go.Proofs
