/-
  slices.Sort of ints: laid off the library's shelf by the kit's tools lay-shelf and lay-plain (the rows of slices.Sort alone).
-/
import Derived.Shelf.Sort.Plain
import Derived.Shelf.Slices.In.SortNone
import Derived.Sort.OwnSortedInts
import Derived.Test.YtnoocdannfeidaaW41
namespace Go.Proofs.Ytnoocdannfeidaa
open Go.Shelf Go.Sort Go.RowKit
def lays189_ren : Go.Shelf.Ren := ⟨fun | 189 => 90 | 125 => 104 | 257 => 103 | 128 => 116 | 129 => 117 | 294 => 107 | 295 => 108 | 296 => 109 | 297 => 110 | 298 => 111 | 299 => 112 | 216 => 113 | 300 => 114 | 301 => 115 | 328 => 120 | 329 => 121 | 330 => 122 | 331 => 123 | 332 => 124 | 215 => 125 | 343 => 126 | n => n, fun | 28 => 22 | 3 => 3 | 46 => 91 | 0 => 0 | 51 => 103 | 53 => 105 | 4 => 4 | 183 => 96 | 182 => 95 | 131 => 100 | 5 => 5 | 9 => 9 | 218 => 110 | 222 => 114 | 228 => 116 | 229 => 117 | n => n, fun | n => n⟩
theorem lays189 : Lays.n189 Try.prog lays189_ren := {
  mixed := by kernel_rfl
  f125 := Try.func104.trans (congrArg some (by kernel_rfl))
  f128 := Try.func116.trans (congrArg some (by kernel_rfl))
  f129 := Try.func117.trans (congrArg some (by kernel_rfl))
  f189 := Try.func90.trans (congrArg some (by kernel_rfl))
  f215 := Try.func125.trans (congrArg some (by kernel_rfl))
  f216 := Try.func113.trans (congrArg some (by kernel_rfl))
  f257 := Try.func103.trans (congrArg some (by kernel_rfl))
  f294 := Try.func107.trans (congrArg some (by kernel_rfl))
  f295 := Try.func108.trans (congrArg some (by kernel_rfl))
  f296 := Try.func109.trans (congrArg some (by kernel_rfl))
  f297 := Try.func110.trans (congrArg some (by kernel_rfl))
  f298 := Try.func111.trans (congrArg some (by kernel_rfl))
  f299 := Try.func112.trans (congrArg some (by kernel_rfl))
  f300 := Try.func114.trans (congrArg some (by kernel_rfl))
  f301 := Try.func115.trans (congrArg some (by kernel_rfl))
  f328 := Try.func120.trans (congrArg some (by kernel_rfl))
  f329 := Try.func121.trans (congrArg some (by kernel_rfl))
  f330 := Try.func122.trans (congrArg some (by kernel_rfl))
  f331 := Try.func123.trans (congrArg some (by kernel_rfl))
  f332 := Try.func124.trans (congrArg some (by kernel_rfl))
  f343 := Try.func126.trans (congrArg some (by kernel_rfl))
  t0 := Try.underlying0
  a0 := Try.isAgg0
  z0 := Try.sizeOf0
  v0 := Try.zeroValue0
  t3 := Try.underlying3
  a3 := Try.isAgg3
  z3 := Try.sizeOf3
  v3 := Try.zeroValue3
  t4 := Try.underlying4
  a4 := Try.isAgg4
  z4 := Try.sizeOf4
  v4 := Try.zeroValue4
  t5 := Try.underlying5
  a5 := Try.isAgg5
  z5 := Try.sizeOf5
  v5 := Try.zeroValue5
  t9 := Try.underlying9
  a9 := Try.isAgg9
  z9 := Try.sizeOf9
  v9 := Try.zeroValue9
  t28 := Try.underlying22
  a28 := Try.isAgg22
  z28 := Try.sizeOf22
  v28 := Try.zeroValue22
  t46 := Try.underlying91
  a46 := Try.isAgg91
  z46 := Try.sizeOf91
  v46 := Try.zeroValue91
  t51 := Try.underlying103
  a51 := Try.isAgg103
  z51 := Try.sizeOf103
  v51 := Try.zeroValue103
  t53 := Try.underlying105
  a53 := Try.isAgg105
  z53 := Try.sizeOf105
  v53 := Try.zeroValue105
  t131 := Try.underlying100
  a131 := Try.isAgg100
  z131 := Try.sizeOf100
  v131 := Try.zeroValue100
  t182 := Try.underlying95
  a182 := Try.isAgg95
  z182 := Try.sizeOf95
  v182 := Try.zeroValue95
  t183 := Try.underlying96
  a183 := Try.isAgg96
  z183 := Try.sizeOf96
  v183 := Try.zeroValue96
  t218 := Try.underlying110
  a218 := Try.isAgg110
  z218 := Try.sizeOf110
  v218 := Try.zeroValue110
  t222 := Try.underlying114
  a222 := Try.isAgg114
  z222 := Try.sizeOf114
  v222 := Try.zeroValue114
  t228 := Try.underlying116
  a228 := Try.isAgg116
  z228 := Try.sizeOf116
  v228 := Try.zeroValue116
  t229 := Try.underlying117
  a229 := Try.isAgg117
  z229 := Try.sizeOf117
  v229 := Try.zeroValue117 }

theorem sortI (blk off cap : Nat) (zs : List Int) (w : World) (hH : Holds (Value.int .i64) w blk off zs.toArray) (hblk : blk < w.heap.size) (hsz : zs.length < 4611686018427387904) :
    Calls Try.prog 90 #[.slice (some ⟨blk, off, none⟩) zs.length cap] w fun e w' =>
      e = .returned (.tuple #[]) ∧ ∃ n os, w' = grow (putRow (Value.int .i64) (Sort.ahead w n) blk off (zs.mergeSort fun x y => decide (x ≤ y)).toArray) os := Any.slices_Sort_int lays189 blk off cap zs w hH hblk hsz
theorem sortI_none (p : Option Addr) (cap : Nat) (w : World) :
    Calls Try.prog 90 #[.slice p 0 cap] w fun e w' => e = .returned (.tuple #[]) ∧ w' = w := Any.slices_Sort_int_none lays189 p cap w

/-- A row of the call's own, sorted. -/
theorem pSort (v : Value) (l : List Int) (base : Nat) (w : World) (hl : l.length ≤ 100000) (hown : w.ownsRow base 3 1 v l.length (ints l)) :
    Calls Try.prog 90 #[v] w fun e w' => e = .returned (.tuple #[]) ∧ w'.ownsRow base 3 1 v l.length (ints (l.mergeSort fun x y => decide (x ≤ y))) ∧ w.grownBy w' v.ownBlock := by
  rcases hown.2 with ⟨rfl, h0⟩ | ⟨g, cap, cur, rfl, hg, hh, h1, h2, h3, h4⟩
  · have hl0 : l = [] := by simpa [ints] using h0
    subst hl0
    refine (sortI_none none 0 w).mono ?_
    rintro e w' ⟨rfl, rfl⟩
    exact ⟨rfl, by simpa using hown, World.grownBy.refl _ _⟩
  · refine (sortI g 0 cap l w (holds_of_blockI hh (by simpa [ints] using h4)) (blk_lt hh) (by omega)).mono ?_
    rintro e w' ⟨rfl, n, os, rfl⟩
    refine ⟨rfl, ?_, grownBy_sortedI _⟩
    exact ownsRow_sortedI (by simp) hg hh h1 h2 h3
end Go.Proofs.Ytnoocdannfeidaa
