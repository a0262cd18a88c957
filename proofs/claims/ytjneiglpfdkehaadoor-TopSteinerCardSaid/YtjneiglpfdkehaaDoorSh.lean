/-
  DERIVED: THE SHELF's CONTRACTS AT THIS DUMP, IN PLAIN WORDS (tools/lay-plain.mjs out of 'YtjneiglpfdkehaaDoorSh0.lean', which tools/lay-shelf.mjs wrote): THE SAME DECLARATIONS UNDER THE SAME NAMES: 'import', 'namespace', 'open', 'def', 'theorem' AND NOTHING ELSE: no command of the shelf's: FOR A HAND-IN. Each laying: the table of numbers ('.._ren') and one theorem, a field a fact of the dump's own or the kernel's comparison; each contract: ONE APPLICATION.
-/
import Derived.Shelf.Sort.Plain
import Derived.Shelf.Slices.In.SortNone
import Derived.Shelf.SlSortCmp.Whole1
import Derived.Shelf.SlSortCmp.NoneTotal
import Derived.Ground.SlsfProg
import Derived.Ground.Names2Prog
import Derived.Shelf.Slices.Delete
import Derived.Test.YtjneiglpfdkehaaDoorProg
namespace Go.Proofs
open Go.Shelf
def Tryd.lays189_ren : Go.Shelf.Ren := ⟨fun | 189 => 85 | 125 => 117 | 257 => 116 | 128 => 132 | 129 => 133 | 294 => 123 | 295 => 124 | 296 => 125 | 297 => 126 | 298 => 127 | 299 => 128 | 216 => 129 | 300 => 130 | 301 => 131 | 328 => 144 | 329 => 145 | 330 => 146 | 331 => 147 | 332 => 148 | 215 => 143 | 343 => 152 | n => n, fun | 28 => 22 | 3 => 3 | 46 => 162 | 0 => 0 | 51 => 176 | 53 => 76 | 4 => 4 | 183 => 169 | 182 => 168 | 131 => 128 | 5 => 5 | 9 => 9 | 218 => 182 | 222 => 186 | 228 => 190 | 229 => 191 | n => n, fun | n => n⟩
theorem Tryd.lays189 : Go.Proofs.Lays.n189 Tryd.prog Tryd.lays189_ren := {
  mixed := by kernel_rfl
  f125 := Tryd.func117.trans (congrArg some (by kernel_rfl))
  f128 := Tryd.func132.trans (congrArg some (by kernel_rfl))
  f129 := Tryd.func133.trans (congrArg some (by kernel_rfl))
  f189 := Tryd.func85.trans (congrArg some (by kernel_rfl))
  f215 := Tryd.func143.trans (congrArg some (by kernel_rfl))
  f216 := Tryd.func129.trans (congrArg some (by kernel_rfl))
  f257 := Tryd.func116.trans (congrArg some (by kernel_rfl))
  f294 := Tryd.func123.trans (congrArg some (by kernel_rfl))
  f295 := Tryd.func124.trans (congrArg some (by kernel_rfl))
  f296 := Tryd.func125.trans (congrArg some (by kernel_rfl))
  f297 := Tryd.func126.trans (congrArg some (by kernel_rfl))
  f298 := Tryd.func127.trans (congrArg some (by kernel_rfl))
  f299 := Tryd.func128.trans (congrArg some (by kernel_rfl))
  f300 := Tryd.func130.trans (congrArg some (by kernel_rfl))
  f301 := Tryd.func131.trans (congrArg some (by kernel_rfl))
  f328 := Tryd.func144.trans (congrArg some (by kernel_rfl))
  f329 := Tryd.func145.trans (congrArg some (by kernel_rfl))
  f330 := Tryd.func146.trans (congrArg some (by kernel_rfl))
  f331 := Tryd.func147.trans (congrArg some (by kernel_rfl))
  f332 := Tryd.func148.trans (congrArg some (by kernel_rfl))
  f343 := Tryd.func152.trans (congrArg some (by kernel_rfl))
  t0 := Tryd.underlying0
  a0 := Tryd.isAgg0
  z0 := Tryd.sizeOf0
  v0 := Tryd.zeroValue0
  t3 := Tryd.underlying3
  a3 := Tryd.isAgg3
  z3 := Tryd.sizeOf3
  v3 := Tryd.zeroValue3
  t4 := Tryd.underlying4
  a4 := Tryd.isAgg4
  z4 := Tryd.sizeOf4
  v4 := Tryd.zeroValue4
  t5 := Tryd.underlying5
  a5 := Tryd.isAgg5
  z5 := Tryd.sizeOf5
  v5 := Tryd.zeroValue5
  t9 := Tryd.underlying9
  a9 := Tryd.isAgg9
  z9 := Tryd.sizeOf9
  v9 := Tryd.zeroValue9
  t28 := Tryd.underlying22
  a28 := Tryd.isAgg22
  z28 := Tryd.sizeOf22
  v28 := Tryd.zeroValue22
  t46 := Tryd.underlying162
  a46 := Tryd.isAgg162
  z46 := Tryd.sizeOf162
  v46 := Tryd.zeroValue162
  t51 := Tryd.underlying176
  a51 := Tryd.isAgg176
  z51 := Tryd.sizeOf176
  v51 := Tryd.zeroValue176
  t53 := Tryd.underlying76
  a53 := Tryd.isAgg76
  z53 := Tryd.sizeOf76
  v53 := Tryd.zeroValue76
  t131 := Tryd.underlying128
  a131 := Tryd.isAgg128
  z131 := Tryd.sizeOf128
  v131 := Tryd.zeroValue128
  t182 := Tryd.underlying168
  a182 := Tryd.isAgg168
  z182 := Tryd.sizeOf168
  v182 := Tryd.zeroValue168
  t183 := Tryd.underlying169
  a183 := Tryd.isAgg169
  z183 := Tryd.sizeOf169
  v183 := Tryd.zeroValue169
  t218 := Tryd.underlying182
  a218 := Tryd.isAgg182
  z218 := Tryd.sizeOf182
  v218 := Tryd.zeroValue182
  t222 := Tryd.underlying186
  a222 := Tryd.isAgg186
  z222 := Tryd.sizeOf186
  v222 := Tryd.zeroValue186
  t228 := Tryd.underlying190
  a228 := Tryd.isAgg190
  z228 := Tryd.sizeOf190
  v228 := Tryd.zeroValue190
  t229 := Tryd.underlying191
  a229 := Tryd.isAgg191
  z229 := Tryd.sizeOf191
  v229 := Tryd.zeroValue191 }
def Tryd.sortL_ren : Go.Shelf.Ren := ⟨fun | 6 => 102 | 15 => 117 | 14 => 121 | 28 => 132 | 29 => 133 | 20 => 135 | 21 => 136 | 22 => 137 | 23 => 138 | 24 => 139 | 25 => 140 | 26 => 141 | 27 => 142 | 46 => 149 | 47 => 145 | 48 => 146 | 49 => 150 | 50 => 151 | 57 => 153 | n => n, fun | 22 => 31 | 24 => 22 | 25 => 62 | 3 => 3 | 39 => 162 | 0 => 0 | 53 => 176 | 55 => 76 | 4 => 4 | 46 => 169 | 45 => 168 | 50 => 128 | 5 => 5 | 9 => 9 | 66 => 182 | 70 => 186 | 76 => 190 | 77 => 191 | n => n, fun | n => n⟩
theorem Tryd.sortL : Go.Proofs.SlLaysF.n6 Tryd.prog Tryd.sortL_ren := {
  mixed := by kernel_rfl
  f6 := ⟨Tryd.f102.name, by decide, Tryd.func102.trans (congrArg some (by kernel_rfl))⟩
  f14 := ⟨Tryd.f121.name, by decide, Tryd.func121.trans (congrArg some (by kernel_rfl))⟩
  f15 := Tryd.func117.trans (congrArg some (by kernel_rfl))
  f20 := ⟨Tryd.f135.name, by decide, Tryd.func135.trans (congrArg some (by kernel_rfl))⟩
  f21 := ⟨Tryd.f136.name, by decide, Tryd.func136.trans (congrArg some (by kernel_rfl))⟩
  f22 := ⟨Tryd.f137.name, by decide, Tryd.func137.trans (congrArg some (by kernel_rfl))⟩
  f23 := ⟨Tryd.f138.name, by decide, Tryd.func138.trans (congrArg some (by kernel_rfl))⟩
  f24 := ⟨Tryd.f139.name, by decide, Tryd.func139.trans (congrArg some (by kernel_rfl))⟩
  f25 := ⟨Tryd.f140.name, by decide, Tryd.func140.trans (congrArg some (by kernel_rfl))⟩
  f26 := ⟨Tryd.f141.name, by decide, Tryd.func141.trans (congrArg some (by kernel_rfl))⟩
  f27 := ⟨Tryd.f142.name, by decide, Tryd.func142.trans (congrArg some (by kernel_rfl))⟩
  f28 := Tryd.func132.trans (congrArg some (by kernel_rfl))
  f29 := Tryd.func133.trans (congrArg some (by kernel_rfl))
  f46 := ⟨Tryd.f149.name, by decide, Tryd.func149.trans (congrArg some (by kernel_rfl))⟩
  f47 := Tryd.func145.trans (congrArg some (by kernel_rfl))
  f48 := Tryd.func146.trans (congrArg some (by kernel_rfl))
  f49 := ⟨Tryd.f150.name, by decide, Tryd.func150.trans (congrArg some (by kernel_rfl))⟩
  f50 := ⟨Tryd.f151.name, by decide, Tryd.func151.trans (congrArg some (by kernel_rfl))⟩
  f57 := ⟨Tryd.f153.name, by decide, Tryd.func153.trans (congrArg some (by kernel_rfl))⟩
  t0 := Tryd.underlying0
  a0 := Tryd.isAgg0
  z0 := Tryd.sizeOf0
  v0 := Tryd.zeroValue0
  t3 := Tryd.underlying3
  a3 := Tryd.isAgg3
  z3 := Tryd.sizeOf3
  v3 := Tryd.zeroValue3
  t4 := Tryd.underlying4
  a4 := Tryd.isAgg4
  z4 := Tryd.sizeOf4
  v4 := Tryd.zeroValue4
  t5 := Tryd.underlying5
  a5 := Tryd.isAgg5
  z5 := Tryd.sizeOf5
  v5 := Tryd.zeroValue5
  t9 := Tryd.underlying9
  a9 := Tryd.isAgg9
  z9 := Tryd.sizeOf9
  v9 := Tryd.zeroValue9
  t22 := Tryd.underlying31
  a22 := Tryd.isAgg31
  z22 := Tryd.sizeOf31
  v22 := Tryd.zeroValue31
  a24 := Tryd.isAgg22
  z24 := Tryd.sizeOf22
  t25 := Tryd.underlying62
  a25 := Tryd.isAgg62
  z25 := Tryd.sizeOf62
  v25 := Tryd.zeroValue62
  t39 := Tryd.underlying162
  a39 := Tryd.isAgg162
  z39 := Tryd.sizeOf162
  v39 := Tryd.zeroValue162
  t45 := Tryd.underlying168
  a45 := Tryd.isAgg168
  z45 := Tryd.sizeOf168
  v45 := Tryd.zeroValue168
  t46 := Tryd.underlying169
  a46 := Tryd.isAgg169
  z46 := Tryd.sizeOf169
  v46 := Tryd.zeroValue169
  t50 := Tryd.underlying128
  a50 := Tryd.isAgg128
  z50 := Tryd.sizeOf128
  v50 := Tryd.zeroValue128
  t53 := Tryd.underlying176
  a53 := Tryd.isAgg176
  z53 := Tryd.sizeOf176
  v53 := Tryd.zeroValue176
  t55 := Tryd.underlying76
  a55 := Tryd.isAgg76
  z55 := Tryd.sizeOf76
  v55 := Tryd.zeroValue76
  t66 := Tryd.underlying182
  a66 := Tryd.isAgg182
  z66 := Tryd.sizeOf182
  v66 := Tryd.zeroValue182
  t70 := Tryd.underlying186
  a70 := Tryd.isAgg186
  z70 := Tryd.sizeOf186
  v70 := Tryd.zeroValue186
  t76 := Tryd.underlying190
  a76 := Tryd.isAgg190
  z76 := Tryd.sizeOf190
  v76 := Tryd.zeroValue190
  t77 := Tryd.underlying191
  a77 := Tryd.isAgg191
  z77 := Tryd.sizeOf191
  v77 := Tryd.zeroValue191 }
open Go.Sort Go.RowKit in
theorem Tryd.slices_Sort_int (blk off cap : Nat) (zs : List Int) (w : World) (hH : Holds (Value.int .i64) w blk off zs.toArray) (hblk : blk < w.heap.size) (hsz : zs.length < 4611686018427387904) :
    Calls Tryd.prog 85 #[.slice (some ⟨blk, off, none⟩) zs.length cap] w fun e w' =>
      e = .returned (.tuple #[]) ∧ ∃ n os, w' = grow (putRow (Value.int .i64) (Sort.ahead w n) blk off (zs.mergeSort fun x y => decide (x ≤ y)).toArray) os := Any.slices_Sort_int Tryd.lays189 blk off cap zs w hH hblk hsz
def Tryd.lays23_ren : Go.Shelf.Ren := ⟨fun | 23 => 61 | n => n, fun | 22 => 22 | 3 => 3 | 4 => 4 | 0 => 0 | n => n, fun | n => n⟩
theorem Tryd.lays23 : Go.Proofs.Lays2.n23 Tryd.prog Tryd.lays23_ren := {
  mixed := by kernel_rfl
  f23 := Tryd.func61.trans (congrArg some (by kernel_rfl))
  t0 := Tryd.underlying0
  a0 := Tryd.isAgg0
  z0 := Tryd.sizeOf0
  v0 := Tryd.zeroValue0
  t3 := Tryd.underlying3
  a3 := Tryd.isAgg3
  z3 := Tryd.sizeOf3
  v3 := Tryd.zeroValue3
  t4 := Tryd.underlying4
  a4 := Tryd.isAgg4
  z4 := Tryd.sizeOf4
  v4 := Tryd.zeroValue4
  t22 := Tryd.underlying22
  a22 := Tryd.isAgg22
  z22 := Tryd.sizeOf22
  v22 := Tryd.zeroValue22
  i3 := by kernel_rfl }
open Go.Sort Go.RowKit in
theorem Tryd.slices_Delete_int (blk off cap i j : Nat) (zs : List Int) (w : World) (hH : Holds (Value.int .i64) w blk off zs.toArray) (hcap : zs.length ≤ cap) (hm : cap ≤ 9223372036854775807) (hij : i ≤ j) (hj : j ≤ zs.length) :
    Calls Tryd.prog 61 #[.slice (some ⟨blk, off, none⟩) zs.length cap, .int .i64 i, .int .i64 j] w fun e w' => e = .returned (.slice (some ⟨blk, off, none⟩) (zs.length - (j - i)) cap) ∧ ∃ q, w' = putRow (Value.int .i64) (Sort.ahead w q) blk off (zs.take i ++ zs.drop j ++ List.replicate (j - i) 0).toArray := Any.slices_Delete_int Tryd.lays23 blk off cap i j zs w hH hcap hm hij hj
end Go.Proofs
