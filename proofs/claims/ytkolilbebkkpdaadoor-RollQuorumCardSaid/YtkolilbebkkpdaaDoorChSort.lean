/-
  slices.Sort for signed numbers, at this program: laid by the kit's tools.
-/
import Derived.Shelf.Sort.Plain
import Derived.Shelf.Slices.In.SortNone
import Derived.Ground.Names2Prog
import Derived.Test.YtkolilbebkkpdaaDoorProg
namespace Go.Proofs
open Go.Shelf
def Tryd.lays189_ren : Go.Shelf.Ren := ⟨fun | 189 => 68 | 125 => 80 | 257 => 79 | 128 => 95 | 129 => 96 | 294 => 86 | 295 => 87 | 296 => 88 | 297 => 89 | 298 => 90 | 299 => 91 | 216 => 92 | 300 => 93 | 301 => 94 | 328 => 97 | 329 => 98 | 330 => 99 | 331 => 100 | 332 => 101 | 215 => 102 | 343 => 103 | n => n, fun | 28 => 22 | 3 => 3 | 46 => 134 | 0 => 0 | 51 => 149 | 53 => 32 | 4 => 4 | 183 => 142 | 182 => 141 | 131 => 94 | 5 => 5 | 9 => 9 | 218 => 151 | 222 => 155 | 228 => 157 | 229 => 158 | n => n, fun | n => n⟩
theorem Tryd.lays189 : Go.Proofs.Lays.n189 Tryd.prog Tryd.lays189_ren := {
  mixed := by kernel_rfl
  f125 := Tryd.func80.trans (congrArg some (by kernel_rfl))
  f128 := Tryd.func95.trans (congrArg some (by kernel_rfl))
  f129 := Tryd.func96.trans (congrArg some (by kernel_rfl))
  f189 := Tryd.func68.trans (congrArg some (by kernel_rfl))
  f215 := Tryd.func102.trans (congrArg some (by kernel_rfl))
  f216 := Tryd.func92.trans (congrArg some (by kernel_rfl))
  f257 := Tryd.func79.trans (congrArg some (by kernel_rfl))
  f294 := Tryd.func86.trans (congrArg some (by kernel_rfl))
  f295 := Tryd.func87.trans (congrArg some (by kernel_rfl))
  f296 := Tryd.func88.trans (congrArg some (by kernel_rfl))
  f297 := Tryd.func89.trans (congrArg some (by kernel_rfl))
  f298 := Tryd.func90.trans (congrArg some (by kernel_rfl))
  f299 := Tryd.func91.trans (congrArg some (by kernel_rfl))
  f300 := Tryd.func93.trans (congrArg some (by kernel_rfl))
  f301 := Tryd.func94.trans (congrArg some (by kernel_rfl))
  f328 := Tryd.func97.trans (congrArg some (by kernel_rfl))
  f329 := Tryd.func98.trans (congrArg some (by kernel_rfl))
  f330 := Tryd.func99.trans (congrArg some (by kernel_rfl))
  f331 := Tryd.func100.trans (congrArg some (by kernel_rfl))
  f332 := Tryd.func101.trans (congrArg some (by kernel_rfl))
  f343 := Tryd.func103.trans (congrArg some (by kernel_rfl))
  t0 := Tryd.underlying0
  a0 := Tryd.isAgg0
  z0 := Tryd.sizeOf0
  v0 := Tryd.zeroValue0
  t3 := Tryd.underlying3
  a3 := Tryd.isAgg3
  z3 := Tryd.sizeOf3
  v3 := Tryd.zeroValue3
  t4 := Tryd.underlying4
  a4 := Tryd.isAgg4
  z4 := Tryd.sizeOf4
  v4 := Tryd.zeroValue4
  t5 := Tryd.underlying5
  a5 := Tryd.isAgg5
  z5 := Tryd.sizeOf5
  v5 := Tryd.zeroValue5
  t9 := Tryd.underlying9
  a9 := Tryd.isAgg9
  z9 := Tryd.sizeOf9
  v9 := Tryd.zeroValue9
  t28 := Tryd.underlying22
  a28 := Tryd.isAgg22
  z28 := Tryd.sizeOf22
  v28 := Tryd.zeroValue22
  t46 := Tryd.underlying134
  a46 := Tryd.isAgg134
  z46 := Tryd.sizeOf134
  v46 := Tryd.zeroValue134
  t51 := Tryd.underlying149
  a51 := Tryd.isAgg149
  z51 := Tryd.sizeOf149
  v51 := Tryd.zeroValue149
  t53 := Tryd.underlying32
  a53 := Tryd.isAgg32
  z53 := Tryd.sizeOf32
  v53 := Tryd.zeroValue32
  t131 := Tryd.underlying94
  a131 := Tryd.isAgg94
  z131 := Tryd.sizeOf94
  v131 := Tryd.zeroValue94
  t182 := Tryd.underlying141
  a182 := Tryd.isAgg141
  z182 := Tryd.sizeOf141
  v182 := Tryd.zeroValue141
  t183 := Tryd.underlying142
  a183 := Tryd.isAgg142
  z183 := Tryd.sizeOf142
  v183 := Tryd.zeroValue142
  t218 := Tryd.underlying151
  a218 := Tryd.isAgg151
  z218 := Tryd.sizeOf151
  v218 := Tryd.zeroValue151
  t222 := Tryd.underlying155
  a222 := Tryd.isAgg155
  z222 := Tryd.sizeOf155
  v222 := Tryd.zeroValue155
  t228 := Tryd.underlying157
  a228 := Tryd.isAgg157
  z228 := Tryd.sizeOf157
  v228 := Tryd.zeroValue157
  t229 := Tryd.underlying158
  a229 := Tryd.isAgg158
  z229 := Tryd.sizeOf158
  v229 := Tryd.zeroValue158 }
open Go.Sort Go.RowKit in
theorem Tryd.slices_Sort_int (blk off cap : Nat) (zs : List Int) (w : World) (hH : Holds (Value.int .i64) w blk off zs.toArray) (hblk : blk < w.heap.size) (hsz : zs.length < 4611686018427387904) :
    Calls Tryd.prog 68 #[.slice (some ⟨blk, off, none⟩) zs.length cap] w fun e w' =>
      e = .returned (.tuple #[]) ∧ ∃ n os, w' = grow (putRow (Value.int .i64) (Sort.ahead w n) blk off (zs.mergeSort fun x y => decide (x ≤ y)).toArray) os := Any.slices_Sort_int Tryd.lays189 blk off cap zs w hH hblk hsz
open Go.RowKit Go.Sort in
/-- .. and plain. (LAID: no walk: one application.) -/
theorem Tryd.slices_Sort_int_none (p : Option Addr) (cap : Nat) (w : World) :
    Calls Tryd.prog 68 #[.slice p 0 cap] w fun e w' => e = .returned (.tuple #[]) ∧ w' = w := Any.slices_Sort_int_none Tryd.lays189 p cap w

end Go.Proofs
