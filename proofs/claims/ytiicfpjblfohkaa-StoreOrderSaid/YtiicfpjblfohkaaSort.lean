/-
  DERIVED: THE SHELF's CONTRACTS AT THIS DUMP, IN PLAIN WORDS (tools/lay-plain.mjs out of 'TrySort.lean', which tools/lay-shelf.mjs wrote): THE SAME DECLARATIONS UNDER THE SAME NAMES: 'import', 'namespace', 'open', 'def', 'theorem' AND NOTHING ELSE: no command of the shelf's: FOR A HAND-IN. Each laying: the table of numbers ('.._ren') and one theorem, a field a fact of the dump's own or the kernel's comparison; each contract: ONE APPLICATION.
-/
import Derived.Shelf.SlSortCmp.WholeK
import Derived.Shelf.Sort.Plain
import Derived.Shelf.Slices.In.SortNone
import Derived.Ground.SlsfProg
import Derived.Ground.NamesProg
import Derived.Test.YtiicfpjblfohkaaProg
namespace Go.Proofs
open Go.Shelf
def Try.sortL_ren : Go.Shelf.Ren := ⟨fun | 6 => 37 | 15 => 63 | 14 => 62 | 28 => 80 | 29 => 81 | 20 => 72 | 21 => 73 | 22 => 74 | 23 => 75 | 24 => 76 | 25 => 77 | 26 => 78 | 27 => 79 | 46 => 91 | 47 => 92 | 48 => 93 | 49 => 94 | 50 => 95 | 57 => 100 | n => n, fun | 22 => 22 | 24 => 40 | 25 => 87 | 3 => 3 | 39 => 107 | 0 => 0 | 53 => 122 | 55 => 124 | 4 => 4 | 46 => 115 | 45 => 114 | 50 => 119 | 5 => 5 | 9 => 9 | 66 => 131 | 70 => 135 | 76 => 140 | 77 => 141 | n => n, fun | n => n⟩
theorem Try.sortL : Go.Proofs.SlLaysF0.n6 Try.prog Try.sortL_ren := {
  mixed := by kernel_rfl
  f6 := ⟨Try.f37.name, by decide, Try.func37.trans (congrArg some (by kernel_rfl))⟩
  f14 := ⟨Try.f62.name, by decide, Try.func62.trans (congrArg some (by kernel_rfl))⟩
  f15 := Try.func63.trans (congrArg some (by kernel_rfl))
  f20 := ⟨Try.f72.name, by decide, Try.func72.trans (congrArg some (by kernel_rfl))⟩
  f21 := ⟨Try.f73.name, by decide, Try.func73.trans (congrArg some (by kernel_rfl))⟩
  f22 := ⟨Try.f74.name, by decide, Try.func74.trans (congrArg some (by kernel_rfl))⟩
  f23 := ⟨Try.f75.name, by decide, Try.func75.trans (congrArg some (by kernel_rfl))⟩
  f24 := ⟨Try.f76.name, by decide, Try.func76.trans (congrArg some (by kernel_rfl))⟩
  f25 := ⟨Try.f77.name, by decide, Try.func77.trans (congrArg some (by kernel_rfl))⟩
  f26 := ⟨Try.f78.name, by decide, Try.func78.trans (congrArg some (by kernel_rfl))⟩
  f27 := ⟨Try.f79.name, by decide, Try.func79.trans (congrArg some (by kernel_rfl))⟩
  f28 := Try.func80.trans (congrArg some (by kernel_rfl))
  f29 := Try.func81.trans (congrArg some (by kernel_rfl))
  f46 := ⟨Try.f91.name, by decide, Try.func91.trans (congrArg some (by kernel_rfl))⟩
  f47 := Try.func92.trans (congrArg some (by kernel_rfl))
  f48 := Try.func93.trans (congrArg some (by kernel_rfl))
  f49 := ⟨Try.f94.name, by decide, Try.func94.trans (congrArg some (by kernel_rfl))⟩
  f50 := ⟨Try.f95.name, by decide, Try.func95.trans (congrArg some (by kernel_rfl))⟩
  f57 := ⟨Try.f100.name, by decide, Try.func100.trans (congrArg some (by kernel_rfl))⟩
  t0 := Try.underlying0
  a0 := Try.isAgg0
  z0 := Try.sizeOf0
  v0 := Try.zeroValue0
  t3 := Try.underlying3
  a3 := Try.isAgg3
  z3 := Try.sizeOf3
  v3 := Try.zeroValue3
  t4 := Try.underlying4
  a4 := Try.isAgg4
  z4 := Try.sizeOf4
  v4 := Try.zeroValue4
  t5 := Try.underlying5
  a5 := Try.isAgg5
  z5 := Try.sizeOf5
  v5 := Try.zeroValue5
  t9 := Try.underlying9
  a9 := Try.isAgg9
  z9 := Try.sizeOf9
  v9 := Try.zeroValue9
  t22 := Try.underlying22
  a22 := Try.isAgg22
  z22 := Try.sizeOf22
  v22 := Try.zeroValue22
  t25 := Try.underlying87
  a25 := Try.isAgg87
  z25 := Try.sizeOf87
  v25 := Try.zeroValue87
  t39 := Try.underlying107
  a39 := Try.isAgg107
  z39 := Try.sizeOf107
  v39 := Try.zeroValue107
  t45 := Try.underlying114
  a45 := Try.isAgg114
  z45 := Try.sizeOf114
  v45 := Try.zeroValue114
  t46 := Try.underlying115
  a46 := Try.isAgg115
  z46 := Try.sizeOf115
  v46 := Try.zeroValue115
  t50 := Try.underlying119
  a50 := Try.isAgg119
  z50 := Try.sizeOf119
  v50 := Try.zeroValue119
  t53 := Try.underlying122
  a53 := Try.isAgg122
  z53 := Try.sizeOf122
  v53 := Try.zeroValue122
  t55 := Try.underlying124
  a55 := Try.isAgg124
  z55 := Try.sizeOf124
  v55 := Try.zeroValue124
  t66 := Try.underlying131
  a66 := Try.isAgg131
  z66 := Try.sizeOf131
  v66 := Try.zeroValue131
  t70 := Try.underlying135
  a70 := Try.isAgg135
  z70 := Try.sizeOf135
  v70 := Try.zeroValue135
  t76 := Try.underlying140
  a76 := Try.isAgg140
  z76 := Try.sizeOf140
  v76 := Try.zeroValue140
  t77 := Try.underlying141
  a77 := Try.isAgg141
  z77 := Try.sizeOf141
  v77 := Try.zeroValue141 }
def Try.lays190_ren : Go.Shelf.Ren := ⟨fun | 190 => 52 | 125 => 63 | 258 => 66 | 128 => 80 | 129 => 81 | 302 => 82 | 303 => 83 | 304 => 84 | 305 => 85 | 306 => 86 | 307 => 87 | 308 => 88 | 309 => 89 | 310 => 90 | 333 => 96 | 329 => 92 | 330 => 93 | 334 => 97 | 335 => 98 | 336 => 99 | 344 => 101 | n => n, fun | 31 => 61 | 9 => 9 | 3 => 3 | 46 => 107 | 0 => 0 | 51 => 122 | 53 => 124 | 4 => 4 | 183 => 115 | 182 => 114 | 131 => 119 | 5 => 5 | 218 => 131 | 222 => 135 | 228 => 140 | 229 => 141 | n => n, fun | n => n⟩
theorem Try.lays190 : Go.Proofs.Lays.n190 Try.prog Try.lays190_ren := {
  mixed := by kernel_rfl
  f125 := Try.func63.trans (congrArg some (by kernel_rfl))
  f128 := Try.func80.trans (congrArg some (by kernel_rfl))
  f129 := Try.func81.trans (congrArg some (by kernel_rfl))
  f190 := Try.func52.trans (congrArg some (by kernel_rfl))
  f258 := Try.func66.trans (congrArg some (by kernel_rfl))
  f302 := Try.func82.trans (congrArg some (by kernel_rfl))
  f303 := Try.func83.trans (congrArg some (by kernel_rfl))
  f304 := Try.func84.trans (congrArg some (by kernel_rfl))
  f305 := Try.func85.trans (congrArg some (by kernel_rfl))
  f306 := Try.func86.trans (congrArg some (by kernel_rfl))
  f307 := Try.func87.trans (congrArg some (by kernel_rfl))
  f308 := Try.func88.trans (congrArg some (by kernel_rfl))
  f309 := Try.func89.trans (congrArg some (by kernel_rfl))
  f310 := Try.func90.trans (congrArg some (by kernel_rfl))
  f329 := Try.func92.trans (congrArg some (by kernel_rfl))
  f330 := Try.func93.trans (congrArg some (by kernel_rfl))
  f333 := Try.func96.trans (congrArg some (by kernel_rfl))
  f334 := Try.func97.trans (congrArg some (by kernel_rfl))
  f335 := Try.func98.trans (congrArg some (by kernel_rfl))
  f336 := Try.func99.trans (congrArg some (by kernel_rfl))
  f344 := Try.func101.trans (congrArg some (by kernel_rfl))
  t0 := Try.underlying0
  a0 := Try.isAgg0
  z0 := Try.sizeOf0
  v0 := Try.zeroValue0
  t3 := Try.underlying3
  a3 := Try.isAgg3
  z3 := Try.sizeOf3
  v3 := Try.zeroValue3
  t4 := Try.underlying4
  a4 := Try.isAgg4
  z4 := Try.sizeOf4
  v4 := Try.zeroValue4
  t5 := Try.underlying5
  a5 := Try.isAgg5
  z5 := Try.sizeOf5
  v5 := Try.zeroValue5
  t9 := Try.underlying9
  a9 := Try.isAgg9
  z9 := Try.sizeOf9
  v9 := Try.zeroValue9
  t31 := Try.underlying61
  a31 := Try.isAgg61
  z31 := Try.sizeOf61
  v31 := Try.zeroValue61
  t46 := Try.underlying107
  a46 := Try.isAgg107
  z46 := Try.sizeOf107
  v46 := Try.zeroValue107
  t51 := Try.underlying122
  a51 := Try.isAgg122
  z51 := Try.sizeOf122
  v51 := Try.zeroValue122
  t53 := Try.underlying124
  a53 := Try.isAgg124
  z53 := Try.sizeOf124
  v53 := Try.zeroValue124
  t131 := Try.underlying119
  a131 := Try.isAgg119
  z131 := Try.sizeOf119
  v131 := Try.zeroValue119
  t182 := Try.underlying114
  a182 := Try.isAgg114
  z182 := Try.sizeOf114
  v182 := Try.zeroValue114
  t183 := Try.underlying115
  a183 := Try.isAgg115
  z183 := Try.sizeOf115
  v183 := Try.zeroValue115
  t218 := Try.underlying131
  a218 := Try.isAgg131
  z218 := Try.sizeOf131
  v218 := Try.zeroValue131
  t222 := Try.underlying135
  a222 := Try.isAgg135
  z222 := Try.sizeOf135
  v222 := Try.zeroValue135
  t228 := Try.underlying140
  a228 := Try.isAgg140
  z228 := Try.sizeOf140
  v228 := Try.zeroValue140
  t229 := Try.underlying141
  a229 := Try.isAgg141
  z229 := Try.sizeOf141
  v229 := Try.zeroValue141 }
open Go.Sort Go.RowKit in
theorem Try.slices_Sort_string (blk off cap : Nat) (ss : List (List UInt8)) (w : World) (hH : Holds encStr w blk off ss.toArray) (hblk : blk < w.heap.size) (hsz : ss.length < 4611686018427387904) :
    Calls Try.prog 52 #[.slice (some ⟨blk, off, none⟩) ss.length cap] w fun e w' =>
      e = .returned (.tuple #[]) ∧ ∃ n os, w' = grow (putRow encStr (Sort.ahead w n) blk off (ss.mergeSort fun x y => decide (x ≤ y)).toArray) os := Any.slices_Sort_string Try.lays190 blk off cap ss w hH hblk hsz
open Go.RowKit Go.Sort in
/-- .. and plain. (LAID: no walk: one application.) -/
theorem Try.slices_Sort_string_none (p : Option Addr) (cap : Nat) (w : World) :
    Calls Try.prog 52 #[.slice p 0 cap] w fun e w' => e = .returned (.tuple #[]) ∧ w' = w := Any.slices_Sort_string_none Try.lays190 p cap w
end Go.Proofs
