/- The contracts of the library functions that this program calls, laid at its dump. -/
import Derived.Shelf.Small.Bits
import Derived.Shelf.Small.Wraps
import Derived.Shelf.Strconv.Itoa0
import Derived.Shelf.Sort.Plain
import Derived.Shelf.Slices.Turned
import Derived.Ground.Names2Prog
import Derived.Shelf.Slices.Clone
import Derived.Shelf.Slices.CompactI
import Derived.Shelf.Slices.SearchI
import Derived.Shelf.Slices.Cells
import Derived.Shelf.Slices.In.SortNone
import Derived.Test.YtfpjfogddepbkaaProg
import Derived.Test.YtfpjfogddepbkaaHa11
import Derived.Sort.OwnSortedInts
import Derived.Lib.RowBridge
import Derived.Test.YtfpjfogddepbkaaChecked
import Derived.Test.YtfpjfogddepbkaaHa01
import Derived.BigQuiet
import Derived.Lib.Hide
import Derived.Test.YtfpjfogddepbkaaHa02
import Derived.Lib.SlicesCompact
set_option linter.unusedSimpArgs false
set_option linter.unusedVariables false
namespace Go.Proofs
open Go.Shelf
def Try.lays128_ren : Go.Shelf.Ren := ⟨fun | 128 => 76 | n => n, fun | 51 => 100 | 3 => 3 | 4 => 4 | 46 => 70 | 5 => 5 | 9 => 9 | n => n, fun | n => n⟩
theorem Try.lays128 : Go.Proofs.Lays.n128 Try.prog Try.lays128_ren := {
  mixed := by kernel_rfl
  f128 := Try.func76.trans (congrArg some (by kernel_rfl))
  t3 := Try.underlying3
  a3 := Try.isAgg3
  z3 := Try.sizeOf3
  v3 := Try.zeroValue3
  t4 := Try.underlying4
  a4 := Try.isAgg4
  z4 := Try.sizeOf4
  v4 := Try.zeroValue4
  t5 := Try.underlying5
  a5 := Try.isAgg5
  z5 := Try.sizeOf5
  v5 := Try.zeroValue5
  t9 := Try.underlying9
  a9 := Try.isAgg9
  z9 := Try.sizeOf9
  v9 := Try.zeroValue9
  t46 := Try.underlying70
  a46 := Try.isAgg70
  z46 := Try.sizeOf70
  v46 := Try.zeroValue70
  t51 := Try.underlying100
  a51 := Try.isAgg100
  z51 := Try.sizeOf100
  v51 := Try.zeroValue100 }
theorem Try.bits_Len32 (x : Int) (w : World) (h0 : 0 ≤ x) (h1 : x ≤ 4294967295) :
    Calls Try.prog 76 #[.int .u32 x] w fun e w' => e = .returned (.int .i64 (Lib.bitLen x.toNat)) ∧ w' = w := Any.bits_Len32 Try.lays128 x w h0 h1
def Try.lays125_ren : Go.Shelf.Ren := ⟨fun | 125 => 61 | 128 => 76 | 129 => 77 | n => n, fun | 46 => 70 | 3 => 3 | 51 => 100 | 53 => 102 | 4 => 4 | 5 => 5 | 9 => 9 | n => n, fun | n => n⟩
theorem Try.lays125 : Go.Proofs.Lays.n125 Try.prog Try.lays125_ren := {
  mixed := by kernel_rfl
  f125 := Try.func61.trans (congrArg some (by kernel_rfl))
  f128 := Try.func76.trans (congrArg some (by kernel_rfl))
  f129 := Try.func77.trans (congrArg some (by kernel_rfl))
  t3 := Try.underlying3
  a3 := Try.isAgg3
  z3 := Try.sizeOf3
  v3 := Try.zeroValue3
  t4 := Try.underlying4
  a4 := Try.isAgg4
  z4 := Try.sizeOf4
  v4 := Try.zeroValue4
  t5 := Try.underlying5
  a5 := Try.isAgg5
  z5 := Try.sizeOf5
  v5 := Try.zeroValue5
  t9 := Try.underlying9
  a9 := Try.isAgg9
  z9 := Try.sizeOf9
  v9 := Try.zeroValue9
  t46 := Try.underlying70
  a46 := Try.isAgg70
  z46 := Try.sizeOf70
  v46 := Try.zeroValue70
  t51 := Try.underlying100
  a51 := Try.isAgg100
  z51 := Try.sizeOf100
  v51 := Try.zeroValue100
  t53 := Try.underlying102
  a53 := Try.isAgg102
  z53 := Try.sizeOf102
  v53 := Try.zeroValue102 }
theorem Try.bits_Len (x : Int) (w : World) (h0 : 0 ≤ x) (h1 : x ≤ 18446744073709551615) :
    Calls Try.prog 61 #[.int .u64 x] w fun e w' => e = .returned (.int .i64 (Lib.bitLen x.toNat)) ∧ w' = w := Any.bits_Len Try.lays125 x w h0 h1
def Try.lays215_ren : Go.Shelf.Ren := ⟨fun | 215 => 86 | n => n, fun | 3 => 3 | 4 => 4 | n => n, fun | n => n⟩
theorem Try.lays215 : Go.Proofs.Lays.n215 Try.prog Try.lays215_ren := {
  mixed := by kernel_rfl
  f215 := Try.func86.trans (congrArg some (by kernel_rfl))
  t3 := Try.underlying3
  a3 := Try.isAgg3
  z3 := Try.sizeOf3
  v3 := Try.zeroValue3
  t4 := Try.underlying4
  a4 := Try.isAgg4
  z4 := Try.sizeOf4
  v4 := Try.zeroValue4 }
open Go.RowKit in
theorem Try.cmp_isNaN_int (x : Int) (w : World) :
    Calls Try.prog 86 #[.int .i64 x] w fun e w' => e = .returned (.bool false) ∧ w' = w := Any.cmp_isNaN_int Try.lays215 x w
def Try.lays129_ren : Go.Shelf.Ren := ⟨fun | 129 => 77 | n => n, fun | 53 => 102 | 3 => 3 | 4 => 4 | 46 => 70 | 5 => 5 | 9 => 9 | n => n, fun | n => n⟩
theorem Try.lays129 : Go.Proofs.Lays.n129 Try.prog Try.lays129_ren := {
  mixed := by kernel_rfl
  f129 := Try.func77.trans (congrArg some (by kernel_rfl))
  t3 := Try.underlying3
  a3 := Try.isAgg3
  z3 := Try.sizeOf3
  v3 := Try.zeroValue3
  t4 := Try.underlying4
  a4 := Try.isAgg4
  z4 := Try.sizeOf4
  v4 := Try.zeroValue4
  t5 := Try.underlying5
  a5 := Try.isAgg5
  z5 := Try.sizeOf5
  v5 := Try.zeroValue5
  t9 := Try.underlying9
  a9 := Try.isAgg9
  z9 := Try.sizeOf9
  v9 := Try.zeroValue9
  t46 := Try.underlying70
  a46 := Try.isAgg70
  z46 := Try.sizeOf70
  v46 := Try.zeroValue70
  t53 := Try.underlying102
  a53 := Try.isAgg102
  z53 := Try.sizeOf102
  v53 := Try.zeroValue102 }
theorem Try.bits_Len64 (x : Int) (w : World) (h0 : 0 ≤ x) (h1 : x ≤ 18446744073709551615) :
    Calls Try.prog 77 #[.int .u64 x] w fun e w' => e = .returned (.int .i64 (Lib.bitLen x.toNat)) ∧ w' = w := Any.bits_Len64 Try.lays129 x w h0 h1
def Try.lays189_ren : Go.Shelf.Ren := ⟨fun | 189 => 47 | 125 => 61 | 257 => 60 | 128 => 76 | 129 => 77 | 294 => 67 | 295 => 68 | 296 => 69 | 297 => 70 | 298 => 71 | 299 => 72 | 216 => 73 | 300 => 74 | 301 => 75 | 328 => 81 | 329 => 82 | 330 => 83 | 331 => 84 | 332 => 85 | 215 => 86 | 343 => 88 | n => n, fun | 28 => 26 | 3 => 3 | 46 => 70 | 0 => 0 | 51 => 100 | 53 => 102 | 4 => 4 | 183 => 94 | 182 => 93 | 131 => 66 | 5 => 5 | 9 => 9 | 218 => 105 | 222 => 109 | 228 => 111 | 229 => 112 | n => n, fun | n => n⟩
theorem Try.lays189 : Go.Proofs.Lays.n189 Try.prog Try.lays189_ren := {
  mixed := by kernel_rfl
  f125 := Try.func61.trans (congrArg some (by kernel_rfl))
  f128 := Try.func76.trans (congrArg some (by kernel_rfl))
  f129 := Try.func77.trans (congrArg some (by kernel_rfl))
  f189 := Try.func47.trans (congrArg some (by kernel_rfl))
  f215 := Try.func86.trans (congrArg some (by kernel_rfl))
  f216 := Try.func73.trans (congrArg some (by kernel_rfl))
  f257 := Try.func60.trans (congrArg some (by kernel_rfl))
  f294 := Try.func67.trans (congrArg some (by kernel_rfl))
  f295 := Try.func68.trans (congrArg some (by kernel_rfl))
  f296 := Try.func69.trans (congrArg some (by kernel_rfl))
  f297 := Try.func70.trans (congrArg some (by kernel_rfl))
  f298 := Try.func71.trans (congrArg some (by kernel_rfl))
  f299 := Try.func72.trans (congrArg some (by kernel_rfl))
  f300 := Try.func74.trans (congrArg some (by kernel_rfl))
  f301 := Try.func75.trans (congrArg some (by kernel_rfl))
  f328 := Try.func81.trans (congrArg some (by kernel_rfl))
  f329 := Try.func82.trans (congrArg some (by kernel_rfl))
  f330 := Try.func83.trans (congrArg some (by kernel_rfl))
  f331 := Try.func84.trans (congrArg some (by kernel_rfl))
  f332 := Try.func85.trans (congrArg some (by kernel_rfl))
  f343 := Try.func88.trans (congrArg some (by kernel_rfl))
  t0 := Try.underlying0
  a0 := Try.isAgg0
  z0 := Try.sizeOf0
  v0 := Try.zeroValue0
  t3 := Try.underlying3
  a3 := Try.isAgg3
  z3 := Try.sizeOf3
  v3 := Try.zeroValue3
  t4 := Try.underlying4
  a4 := Try.isAgg4
  z4 := Try.sizeOf4
  v4 := Try.zeroValue4
  t5 := Try.underlying5
  a5 := Try.isAgg5
  z5 := Try.sizeOf5
  v5 := Try.zeroValue5
  t9 := Try.underlying9
  a9 := Try.isAgg9
  z9 := Try.sizeOf9
  v9 := Try.zeroValue9
  t28 := Try.underlying26
  a28 := Try.isAgg26
  z28 := Try.sizeOf26
  v28 := Try.zeroValue26
  t46 := Try.underlying70
  a46 := Try.isAgg70
  z46 := Try.sizeOf70
  v46 := Try.zeroValue70
  t51 := Try.underlying100
  a51 := Try.isAgg100
  z51 := Try.sizeOf100
  v51 := Try.zeroValue100
  t53 := Try.underlying102
  a53 := Try.isAgg102
  z53 := Try.sizeOf102
  v53 := Try.zeroValue102
  t131 := Try.underlying66
  a131 := Try.isAgg66
  z131 := Try.sizeOf66
  v131 := Try.zeroValue66
  t182 := Try.underlying93
  a182 := Try.isAgg93
  z182 := Try.sizeOf93
  v182 := Try.zeroValue93
  t183 := Try.underlying94
  a183 := Try.isAgg94
  z183 := Try.sizeOf94
  v183 := Try.zeroValue94
  t218 := Try.underlying105
  a218 := Try.isAgg105
  z218 := Try.sizeOf105
  v218 := Try.zeroValue105
  t222 := Try.underlying109
  a222 := Try.isAgg109
  z222 := Try.sizeOf109
  v222 := Try.zeroValue109
  t228 := Try.underlying111
  a228 := Try.isAgg111
  z228 := Try.sizeOf111
  v228 := Try.zeroValue111
  t229 := Try.underlying112
  a229 := Try.isAgg112
  z229 := Try.sizeOf112
  v229 := Try.zeroValue112 }
open Go.Sort Go.RowKit in
theorem Try.slices_Sort_int (blk off cap : Nat) (zs : List Int) (w : World) (hH : Holds (Value.int .i64) w blk off zs.toArray) (hblk : blk < w.heap.size) (hsz : zs.length < 4611686018427387904) :
    Calls Try.prog 47 #[.slice (some ⟨blk, off, none⟩) zs.length cap] w fun e w' =>
      e = .returned (.tuple #[]) ∧ ∃ n os, w' = grow (putRow (Value.int .i64) (Sort.ahead w n) blk off (zs.mergeSort fun x y => decide (x ≤ y)).toArray) os := Any.slices_Sort_int Try.lays189 blk off cap zs w hH hblk hsz
def Try.lays108_ren : Go.Shelf.Ren := ⟨fun | 108 => 62 | n => n, fun | 28 => 26 | 3 => 3 | 0 => 0 | 4 => 4 | n => n, fun | n => n⟩
theorem Try.lays108 : Go.Proofs.Lays.n108 Try.prog Try.lays108_ren := {
  mixed := by kernel_rfl
  f108 := Try.func62.trans (congrArg some (by kernel_rfl))
  t0 := Try.underlying0
  a0 := Try.isAgg0
  z0 := Try.sizeOf0
  v0 := Try.zeroValue0
  t3 := Try.underlying3
  a3 := Try.isAgg3
  z3 := Try.sizeOf3
  v3 := Try.zeroValue3
  t4 := Try.underlying4
  a4 := Try.isAgg4
  z4 := Try.sizeOf4
  v4 := Try.zeroValue4
  t28 := Try.underlying26
  a28 := Try.isAgg26
  z28 := Try.sizeOf26
  v28 := Try.zeroValue26 }
open Go.Lib in
theorem Try.slices_Index_int (b off n c : Nat) (zs : List Int) (x : Int) (w : World) (hz : n ≤ zs.length) (hbig : n ≤ 9223372036854775807) (hc : ∀ j, j < zs.length → w.cell? ⟨b, off + j, none⟩ = some (.int .i64 (zs.getD j 0))) :
    Calls Try.prog 62 #[.slice (some ⟨b, off, none⟩) n c, .int .i64 x] w fun e w' => e = .returned (.int .i64 (Lib.idxOf (zs.take n) x)) ∧ w' = w := Any.slices_Index_int Try.lays108 b off n c zs x w hz hbig hc
open Go.Lib in
theorem Try.slices_Index_int_empty (a : Option Addr) (c : Nat) (x : Int) (w : World) :
    Calls Try.prog 62 #[.slice a 0 c, .int .i64 x] w fun e w' => e = .returned (.int .i64 (Lib.idxOf [] x)) ∧ w' = w := Any.slices_Index_int_empty Try.lays108 a c x w
def Try.lays107_ren : Go.Shelf.Ren := ⟨fun | 107 => 49 | 108 => 62 | n => n, fun | 28 => 26 | 3 => 3 | 4 => 4 | 0 => 0 | n => n, fun | n => n⟩
theorem Try.lays107 : Go.Proofs.Lays.n107 Try.prog Try.lays107_ren := {
  mixed := by kernel_rfl
  f107 := Try.func49.trans (congrArg some (by kernel_rfl))
  f108 := Try.func62.trans (congrArg some (by kernel_rfl))
  t0 := Try.underlying0
  a0 := Try.isAgg0
  z0 := Try.sizeOf0
  v0 := Try.zeroValue0
  t3 := Try.underlying3
  a3 := Try.isAgg3
  z3 := Try.sizeOf3
  v3 := Try.zeroValue3
  t4 := Try.underlying4
  a4 := Try.isAgg4
  z4 := Try.sizeOf4
  v4 := Try.zeroValue4
  t28 := Try.underlying26
  a28 := Try.isAgg26
  z28 := Try.sizeOf26
  v28 := Try.zeroValue26 }
open Go.Lib in
theorem Try.slices_Contains_int (b off n c : Nat) (zs : List Int) (x : Int) (w : World) (hz : n ≤ zs.length) (hbig : n ≤ 9223372036854775807) (hc : ∀ j, j < zs.length → w.cell? ⟨b, off + j, none⟩ = some (.int .i64 (zs.getD j 0))) :
    Calls Try.prog 49 #[.slice (some ⟨b, off, none⟩) n c, .int .i64 x] w fun e w' => e = .returned (.bool ((zs.take n).contains x)) ∧ w' = w := Any.slices_Contains_int Try.lays107 b off n c zs x w hz hbig hc
open Go.Lib in
theorem Try.slices_Contains_int_empty (a : Option Addr) (c : Nat) (x : Int) (w : World) :
    Calls Try.prog 49 #[.slice a 0 c, .int .i64 x] w fun e w' => e = .returned (.bool false) ∧ w' = w := Any.slices_Contains_int_empty Try.lays107 a c x w
def Try.laysNm215_ren : Go.Shelf.Ren := ⟨fun | 15 => 46 | n => n, fun | 22 => 26 | 3 => 3 | 4 => 4 | n => n, fun | n => n⟩
theorem Try.laysNm215 : Go.Proofs.Lays2.n15 Try.prog Try.laysNm215_ren := {
  mixed := by kernel_rfl
  f15 := Try.func46.trans (congrArg some (by kernel_rfl))
  t3 := Try.underlying3
  a3 := Try.isAgg3
  z3 := Try.sizeOf3
  v3 := Try.zeroValue3
  t4 := Try.underlying4
  a4 := Try.isAgg4
  z4 := Try.sizeOf4
  v4 := Try.zeroValue4
  t22 := Try.underlying26
  a22 := Try.isAgg26
  z22 := Try.sizeOf26
  v22 := Try.zeroValue26
  i3 := by kernel_rfl }
open Go.RowKit Go.Lib in
theorem Try.slices_Clone_int (b off n c : Nat) (zs : List Int) (w : World) (hz : n ≤ zs.length) (hbig : n * 8 ≤ 140737488355328) (hc : ∀ j, j < zs.length → w.cell? ⟨b, off + j, none⟩ = some (.int .i64 (zs.getD j 0))) :
    Calls Try.prog 46 #[.slice (some ⟨b, off, none⟩) n c] w fun e w' => ∃ v', e = .returned v' ∧ w'.ownsRow w.heap.size 3 1 v' n ((zs.take n).map (Value.int .i64)) ∧ v' ≠ .slice none 0 0 ∧ Below w.heap.size w w' := Any.slices_Clone_int Try.laysNm215 b off n c zs w hz hbig hc
open Go.RowKit Go.Lib in
theorem Try.slices_Clone_int_nil (n c : Nat) (w : World) :
    Calls Try.prog 46 #[.slice none n c] w fun e w' => e = .returned (.slice none 0 0) ∧ w' = w := Any.slices_Clone_int_nil Try.laysNm215 n c w
open Go.RowKit Go.Lib in
theorem Try.slices_Clone_int_zero (a : Addr) (c : Nat) (w : World) :
    Calls Try.prog 46 #[.slice (some a) 0 c] w fun e w' => ∃ v', e = .returned v' ∧ w'.ownsRow w.heap.size 3 1 v' 0 [] ∧ v' ≠ .slice none 0 0 ∧ Below w.heap.size w w' := Any.slices_Clone_int_zero Try.laysNm215 a c w
def Try.laysNm220_ren : Go.Shelf.Ren := ⟨fun | 20 => 48 | n => n, fun | 22 => 26 | 3 => 3 | 4 => 4 | 0 => 0 | n => n, fun | n => n⟩
theorem Try.laysNm220 : Go.Proofs.Lays2.n20 Try.prog Try.laysNm220_ren := {
  mixed := by kernel_rfl
  f20 := Try.func48.trans (congrArg some (by kernel_rfl))
  t0 := Try.underlying0
  a0 := Try.isAgg0
  z0 := Try.sizeOf0
  v0 := Try.zeroValue0
  t3 := Try.underlying3
  a3 := Try.isAgg3
  z3 := Try.sizeOf3
  v3 := Try.zeroValue3
  t4 := Try.underlying4
  a4 := Try.isAgg4
  z4 := Try.sizeOf4
  v4 := Try.zeroValue4
  t22 := Try.underlying26
  a22 := Try.isAgg26
  z22 := Try.sizeOf26
  v22 := Try.zeroValue26
  i3 := by kernel_rfl }
open Go.RowKit Go.Lib Go.Sort in
theorem Try.slices_Compact_int_arr (blk off cap : Nat) (d : Array Int) (w : World) (hH : Holds encI w blk off d) (hsz : d.size ≤ 9223372036854775807) (hcap : d.size ≤ cap) :
    Calls Try.prog 48 #[.slice (some ⟨blk, off, none⟩) d.size cap] w fun e w' => e = .returned (.slice (some ⟨blk, off, none⟩) (compactUpTo d d.size).length cap) ∧ ∃ q, w' = putRow encI (Sort.ahead w q) blk off (compactUpTo d d.size ++ List.replicate (d.size - (compactUpTo d d.size).length) 0).toArray := Any.slices_Compact_int_arr Try.laysNm220 blk off cap d w hH hsz hcap
open Go.RowKit Go.Lib Go.Sort in
theorem Try.slices_Compact_int (blk off cap : Nat) (zs : List Int) (w : World) (hH : Holds (Value.int .i64) w blk off zs.toArray) (hsz : zs.length ≤ 9223372036854775807) (hcap : zs.length ≤ cap) :
    Calls Try.prog 48 #[.slice (some ⟨blk, off, none⟩) zs.length cap] w fun e w' => e = .returned (.slice (some ⟨blk, off, none⟩) (Lib.compact zs).length cap) ∧ ∃ q, w' = putRow (Value.int .i64) (Sort.ahead w q) blk off (Lib.compact zs ++ List.replicate (zs.length - (Lib.compact zs).length) 0).toArray := Any.slices_Compact_int Try.laysNm220 blk off cap zs w hH hsz hcap
open Go.RowKit Go.Lib Go.Sort in
theorem Try.slices_Compact_int_empty (a : Option Addr) (cap : Nat) (w : World) :
    Calls Try.prog 48 #[.slice a 0 cap] w fun e w' => e = .returned (.slice a 0 cap) ∧ w' = w := Any.slices_Compact_int_empty Try.laysNm220 a cap w
def Try.laysNm237_ren : Go.Shelf.Ren := ⟨fun | 37 => 86 | n => n, fun | 3 => 3 | 4 => 4 | n => n, fun | n => n⟩
theorem Try.laysNm237 : Go.Proofs.Lays2.n37 Try.prog Try.laysNm237_ren := {
  mixed := by kernel_rfl
  f37 := Try.func86.trans (congrArg some (by kernel_rfl))
  t3 := Try.underlying3
  a3 := Try.isAgg3
  z3 := Try.sizeOf3
  v3 := Try.zeroValue3
  t4 := Try.underlying4
  a4 := Try.isAgg4
  z4 := Try.sizeOf4
  v4 := Try.zeroValue4 }
open Go.RowKit Go.Lib in
theorem Try.cmp_isNaN_int2 (x : Int) (w : World) :
    Calls Try.prog 86 #[.int .i64 x] w fun e w' => e = .returned (.bool false) ∧ w' = w := Any.cmp_isNaN_int2 Try.laysNm237 x w
def Try.laysNm231_ren : Go.Shelf.Ren := ⟨fun | 31 => 73 | 37 => 86 | n => n, fun | 3 => 3 | 4 => 4 | n => n, fun | n => n⟩
theorem Try.laysNm231 : Go.Proofs.Lays2.n31 Try.prog Try.laysNm231_ren := {
  mixed := by kernel_rfl
  f31 := Try.func73.trans (congrArg some (by kernel_rfl))
  f37 := Try.func86.trans (congrArg some (by kernel_rfl))
  t3 := Try.underlying3
  a3 := Try.isAgg3
  z3 := Try.sizeOf3
  v3 := Try.zeroValue3
  t4 := Try.underlying4
  a4 := Try.isAgg4
  z4 := Try.sizeOf4
  v4 := Try.zeroValue4 }
open Go.RowKit Go.Lib in
theorem Try.cmp_Less_int2 (x y : Int) (w : World) :
    Calls Try.prog 73 #[.int .i64 x, .int .i64 y] w fun e w' => e = .returned (.bool (decide (x < y))) ∧ w' = w := Any.cmp_Less_int2 Try.laysNm231 x y w
open Go.RowKit Go.Lib Go.Sort in
theorem Try.slices_Compact_int_cells (b off n c : Nat) (zs : List Int) (w : World) (hz : n ≤ zs.length) (hbig : n ≤ 9223372036854775807) (hcap : n ≤ c) (hc : ∀ j, j < zs.length → w.cell? ⟨b, off + j, none⟩ = some (.int .i64 (zs.getD j 0))) (hf : ∀ j, j < n → w.frozen? ⟨b, off + j, none⟩ = false) :
    Calls Try.prog 48 #[.slice (some ⟨b, off, none⟩) n c] w fun e w' => e = .returned (.slice (some ⟨b, off, none⟩) (Lib.compact (zs.take n)).length c) ∧ ∃ q, w' = (w.drewN q).setCells b off ((Lib.compact (zs.take n) ++ List.replicate (n - (Lib.compact (zs.take n)).length) 0).map (Value.int .i64)) := Any.slices_Compact_int_cells Try.laysNm220 b off n c zs w hz hbig hcap hc hf
open Go.RowKit Go.Sort in
theorem Try.slices_Sort_int_none (p : Option Addr) (cap : Nat) (w : World) :
    Calls Try.prog 47 #[.slice p 0 cap] w fun e w' => e = .returned (.tuple #[]) ∧ w' = w := Any.slices_Sort_int_none Try.lays189 p cap w
end Go.Proofs
/- slices' functions at whole numbers, as rows: Sort, Compact, Clone, Contains; sorted and each once, plainly. -/
namespace Go.Proofs.Ytfpjfogddepbkaa
open Go.RowKit Go.Mem Go.Sat
namespace SaW
def msort (l : List Int) : List Int := l.mergeSort fun x y => decide (x ≤ y)
theorem msort_len (l : List Int) : (msort l).length = l.length := List.length_mergeSort _
theorem row_holds {w : World} {g n c : Nat} {l : List Int} (h : Row w 3 iI (.slice (some ⟨g, 0, none⟩) n c) l) : Sort.Holds (Value.int .i64) w g 0 l.toArray := by
  obtain ⟨h1, ⟨h2, _⟩ | ⟨g', cap, cur, e1, hb, hg, hn, hm, hs, ht⟩⟩ := h
  · cases h2
  · cases e1
    exact holds_of_blockI hg (by simpa using ht)
theorem row_written {w : World} {g n c k : Nat} {os : Array Obj} {l l' : List Int} (h : Row w 3 iI (.slice (some ⟨g, 0, none⟩) n c) l) (hl : l'.length = l.length) :
    Row (Sort.grow (Sort.putRow (Value.int .i64) (Sort.ahead w k) g 0 l'.toArray) os) 3 iI (.slice (some ⟨g, 0, none⟩) n c) l' ∧ Frm (fun b => b = g) w (Sort.grow (Sort.putRow (Value.int .i64) (Sort.ahead w k) g 0 l'.toArray) os) := by
  refine ⟨?_, (Frm.of_grown (grownBy_sortedI _)).mono fun b _ e => (Option.some.inj e).symm⟩
  obtain ⟨h1, ⟨h2, _⟩ | ⟨g', cap, cur, e1, hb, hg, hn, hm, hs, ht⟩⟩ := h
  · cases h2
  · cases e1
    have := ownsRow_sortedI (os := os) (n := k) hl (Nat.zero_le g) hg hn hm hs
    unfold Row
    rw [hl]
    exact this
theorem sort_calls (w : World) (v : Value) (l : List Int) (hrow : Row w 3 iI v l) (hn : l.length ≤ 1099511627776) : Calls Try.prog 47 #[v] w fun e w' => e = .returned (.tuple #[]) ∧ Row w' 3 iI v (msort l) ∧ Frm (fun b => v.ownBlock = some b) w w' := by
  have hlt := hrow.lt
  rcases hrow.shape with ⟨rfl, rfl⟩ | ⟨g, c, rfl, ho, _⟩
  · refine (Try.slices_Sort_int_none none 0 w).mono ?_
    rintro e w' ⟨rfl, rfl⟩
    exact ⟨rfl, by rw [show msort [] = [] from List.mergeSort_nil]; exact hrow, Frm.refl _ _⟩
  · refine (Try.slices_Sort_int g 0 c l w (row_holds hrow) (hlt g ho) (by omega)).mono ?_
    rintro e w' ⟨rfl, k, os, rfl⟩
    obtain ⟨h1, h2⟩ := row_written (k := k) (os := os) hrow (l' := msort l) (msort_len l)
    exact ⟨rfl, h1, h2.mono fun b _ e => by rw [e]; rfl⟩
theorem compact_calls (w : World) (v : Value) (l : List Int) (hrow : Row w 3 iI v l) : Calls Try.prog 48 #[v] w fun e w' => ∃ v', e = .returned v' ∧ Row w' 3 iI v' (Lib.compact l) ∧ Frm (fun b => v.ownBlock = some b) w w' ∧ v'.ownBlock = v.ownBlock := by
  have hcl : (Lib.compact l).length ≤ l.length := Lib.compact_length_le l
  rcases hrow.shape with ⟨rfl, rfl⟩ | ⟨g, c, rfl, ho, h1, h2, _⟩
  · refine (Try.slices_Compact_int_empty none 0 w).mono ?_
    rintro e w' ⟨rfl, rfl⟩
    exact ⟨_, rfl, hrow, Frm.refl _ _, rfl⟩
  · refine (Try.slices_Compact_int g 0 c l w (row_holds hrow) (by have : maxLen = 9223372036854775807 := rfl; omega) h1).mono ?_
    rintro e w' ⟨rfl, k, rfl⟩
    have hl : (Lib.compact l ++ List.replicate (l.length - (Lib.compact l).length) 0).length = l.length := by simp; omega
    obtain ⟨h3, h4⟩ := row_written (k := k) (os := #[]) hrow (l' := Lib.compact l ++ List.replicate (l.length - (Lib.compact l).length) 0) hl
    rw [Sort.grow_empty] at h3 h4
    have h5 := Row.first h3 (k := (Lib.compact l).length) (by rw [hl]; exact hcl)
    rw [List.take_left] at h5
    exact ⟨_, rfl, h5, h4.mono fun b _ e => by rw [e]; rfl, rfl⟩
theorem getD_get {l : List Int} {j : Nat} (h : j < l.length) : l[j]? = some (l.getD j 0) := by
  rw [List.getD_eq_getElem?_getD, List.getElem?_eq_getElem h]
  rfl
theorem clone_calls (w : World) (v : Value) (l : List Int) (hv : Sees w iI v l) (hn : l.length ≤ 1099511627776) : Calls Try.prog 46 #[v] w fun e w' => ∃ v', e = .returned v' ∧ Row w' 3 iI v' l ∧ Frm (fun _ => False) w w' ∧ ∀ g, v'.ownBlock = some g → w.heap.size ≤ g := by
  rcases hv with ⟨rfl, rfl⟩ | ⟨g, o, c, rfl, _, _, hc⟩
  · refine (Try.slices_Clone_int_nil 0 0 w).mono ?_
    rintro e w' ⟨rfl, rfl⟩
    exact ⟨_, rfl, Row.nil _ _ _, Frm.refl _ _, fun g e => by cases e⟩
  · refine (Try.slices_Clone_int g o l.length c l w (Nat.le_refl _) (by omega) (fun j hj => hc j _ (getD_get hj))).mono ?_
    rintro e w' ⟨v', rfl, h1, _, h2⟩
    rw [List.take_length] at h1
    refine ⟨v', rfl, own_base h1, Frm.of_below h2, fun g e => ?_⟩
    exact (World.ownsRow.lt h1 g e).1
theorem contains_calls (w : World) (v : Value) (l : List Int) (x : Int) (hv : Sees w iI v l) : Calls Try.prog 49 #[v, .int .i64 x] w fun e w' => e = .returned (.bool (decide (x ∈ l))) ∧ w' = w := by
  rcases hv with ⟨rfl, rfl⟩ | ⟨g, o, c, rfl, h1, h2, hc⟩
  · refine (Try.slices_Contains_int_empty none 0 x w).mono ?_
    rintro e w' ⟨rfl, rfl⟩
    exact ⟨by simp, rfl⟩
  · refine (Try.slices_Contains_int g o l.length c l x w (Nat.le_refl _) (by have : maxLen = 9223372036854775807 := rfl; omega) (fun j hj => hc j _ (getD_get hj))).mono ?_
    rintro e w' ⟨rfl, rfl⟩
    rw [List.take_length]
    exact ⟨by simp, rfl⟩
end SaW
end Go.Proofs.Ytfpjfogddepbkaa
/- Package slices at whole numbers, walked: Index, Contains, IndexFunc, ContainsFunc. -/
namespace Go.Proofs.Ytfpjfogddepbkaa
open Go.RowKit Go.Mem
namespace Sl

/-- The first index at which q is true; below 0: none. -/
def idx {α : Type} (q : α → Bool) (xs : List α) : Int := match xs.findIdx? q with | some i => i | none => -1
theorem idx_any {α : Type} (q : α → Bool) (xs : List α) : decide (idx q xs ≥ 0) = xs.any q := by
  unfold idx
  cases h : xs.findIdx? q with
  | none =>
    have := List.findIdx?_eq_none_iff.1 h
    simp only [ge_iff_le, show ¬ ((0 : Int) ≤ -1) from by decide, decide_false]
    symm
    simpa using this
  | some i =>
    have := (List.findIdx?_eq_some_iff_findIdx_eq.1 h)
    simp only [ge_iff_le, Int.natCast_nonneg, decide_true]
    symm
    rw [List.any_eq_true]
    have h2 := List.findIdx?_eq_some_iff_getElem.1 h
    obtain ⟨hi, hq, _⟩ := h2
    exact ⟨xs[i], List.getElem_mem hi, hq⟩
theorem idx_hit {α : Type} {q : α → Bool} {xs : List α} {k : Nat} {x : α} (hx : xs[k]? = some x) (hq : q x = true) (hb : ∀ j y, j < k → xs[j]? = some y → q y = false) : idx q xs = k := by
  have hk := (List.getElem?_eq_some_iff.1 hx)
  obtain ⟨hk, rfl⟩ := hk
  have : xs.findIdx? q = some k := List.findIdx?_eq_some_iff_getElem.2 ⟨hk, hq, fun j hj => by have := hb j _ hj (List.getElem?_eq_getElem (by omega)); simp [this]⟩
  unfold idx
  rw [this]
theorem idx_miss {α : Type} {q : α → Bool} {xs : List α} (hb : ∀ j y, j < xs.length → xs[j]? = some y → q y = false) : idx q xs = -1 := by
  have : xs.findIdx? q = none := List.findIdx?_eq_none_iff.2 fun x hx => by
    obtain ⟨i, hi, rfl⟩ := List.getElem_of_mem hx
    exact hb i _ hi (List.getElem?_eq_getElem hi)
  unfold idx
  rw [this]

def Before {α : Type} (q : α → Bool) (xs : List α) (k : Nat) : Prop := ∀ j y, j < k → xs[j]? = some y → q y = false
theorem Before.zero {α : Type} (q : α → Bool) (xs : List α) : Before q xs 0 := fun j y h => by omega
theorem Before.succ {α : Type} {q : α → Bool} {xs : List α} {k : Nat} {x : α} (h : Before q xs k) (hx : xs[k]? = some x) (hq : q x = false) : Before q xs (k + 1) := fun j y hj hy => by
  by_cases e : j = k
  · subst e; rw [hx] at hy; cases hy; exact hq
  · exact h j y (by omega) hy

set_option maxHeartbeats 1000000 in
theorem indexFunc_calls (fid : FuncId) (cap : Array Value) (q : Int → Bool) (v : Value) (xs : List Int) (w : World) (hv : Sees w (Value.int .i64) v xs)
    (hcf : ∀ (x : Int) (w : World), (callFunc fid (#[.int .i64 x] ++ cap)).run Try.prog w = .ok (.enter fid (#[.int .i64 x] ++ cap)) w)
    (hq : ∀ x : Int, Calls Try.prog fid (#[.int .i64 x] ++ cap) w fun e w' => e = .returned (.bool (q x)) ∧ w = w') :
    Calls Try.prog 50 #[v, .func (.func fid) #[] cap] w fun e w' => e = .returned (.int .i64 (idx q xs)) ∧ w = w' := by
  have Hq := Lib.hid hq
  clear hq
  have hlen : (xs.length : Int) ≤ 9223372036854775807 := by have := hv.len; have h : maxLen = 9223372036854775807 := rfl; omega
  obtain ⟨A, c, rfl, hc⟩ : ∃ A c, v = .slice A xs.length c ∧ ∀ i x, xs[i]? = some x → ∃ g o, A = some ⟨g, o, none⟩ ∧ w.cell? ⟨g, o + i, none⟩ = some (.int .i64 x) := by
    rcases hv with ⟨rfl, rfl⟩ | ⟨g, o, c, rfl, _, _, h⟩
    · exact ⟨none, 0, rfl, fun i x h => by simp at h⟩
    · exact ⟨some ⟨g, o, none⟩, c, rfl, fun i x hx => ⟨g, o, rfl, h i x hx⟩⟩
  have Hc := Lib.hid hc
  clear hc hv
  go_enter Try.func50, Try.ntmps50
  go_wp2
  go_loop [5, 8] (fun _ v8 => ∃ k : Nat, k ≤ xs.length ∧ v8 = .int .i64 k ∧ Before q xs k) (fun _ v8 => xs.length - (intOf v8).toNat)
  case atStart => exact ⟨0, Nat.zero_le _, rfl, .zero _ _⟩
  case round =>
    obtain ⟨k, hk, rfl, hB⟩ := hrel
    by_cases hlt : k < xs.length
    · have hx : xs[k]? = some xs[k] := List.getElem?_eq_getElem hlt
      obtain ⟨g, o, rfl, hcell⟩ := Hc.out k _ hx
      generalize xs[k] = x at *
      have Hx := Lib.hid hx
      clear hx
      have HB := Lib.hid hB
      clear hB
      go_wp2_with fail
      refine (Hq.out x).mono ?_
      cases hqx : q x with
      | true =>
        rintro e w' ⟨rfl, rfl⟩
        have hfin := Lib.hid (idx_hit Hx.out hqx HB.out)
        clear hqx
        go_wp2
        go_ret
        exact ⟨by rw [hfin.out]; rfl, rfl⟩
      | false =>
        rintro e w' ⟨rfl, rfl⟩
        have hfin := Lib.hid (HB.out.succ Hx.out hqx)
        clear hqx
        go_wp2
        go_round
        case rel => exact ⟨k + 1, by omega, by go_num, hfin.out⟩
        case measure => simp [intOf]; omega
    · have hke : k = xs.length := by omega
      have hfin := Lib.hid (idx_miss (q := q) (xs := xs) (by rw [← hke]; exact hB))
      clear hke
      have HB := Lib.hid hB
      clear hB
      go_wp2
      go_ret
      exact ⟨by rw [hfin.out]; rfl, rfl⟩

theorem containsFunc_calls (fid : FuncId) (cap : Array Value) (q : Int → Bool) (v : Value) (xs : List Int) (w : World) (hv : Sees w (Value.int .i64) v xs)
    (hcf : ∀ (x : Int) (w : World), (callFunc fid (#[.int .i64 x] ++ cap)).run Try.prog w = .ok (.enter fid (#[.int .i64 x] ++ cap)) w)
    (hq : ∀ x : Int, Calls Try.prog fid (#[.int .i64 x] ++ cap) w fun e w' => e = .returned (.bool (q x)) ∧ w = w') :
    Calls Try.prog 25 #[v, .func (.func fid) #[] cap] w fun e w' => e = .returned (.bool (xs.any q)) ∧ w = w' := by
  have Hi := Lib.hid (indexFunc_calls fid cap q v xs w hv hcf hq)
  have hfin := Lib.hid (idx_any q xs)
  clear hv hcf hq
  generalize idx q xs = r at *
  go_enter Try.func25, Try.ntmps25
  go_wp2_with fail
  refine Hi.out.mono ?_
  rintro e w' ⟨rfl, rfl⟩
  go_wp2
  go_ret
  exact ⟨by rw [← hfin.out]; rfl, rfl⟩

end Sl
end Go.Proofs.Ytfpjfogddepbkaa
/- Sorted, each once: what slices.Sort and slices.Compact make is sortedF. Plain. -/
namespace Go.Sat
theorem upTo_ok (d : Array Int) (hs : ∀ i j, i ≤ j → j < d.size → d[i]! ≤ d[j]!) : ∀ m, m ≤ d.size → (Lib.compactUpTo d m).Pairwise (· < ·) ∧ ∀ x, x ∈ Lib.compactUpTo d m ↔ ∃ j, j < m ∧ d[j]! = x
  | 0, _ => by simp [Lib.compactUpTo]
  | m + 1, hm => by
    obtain ⟨h1, h2⟩ := upTo_ok d hs m (by omega)
    rw [Lib.compactUpTo_succ]
    by_cases hk : Lib.keeps d m = true
    · rw [if_pos hk]
      have hlt : ∀ x ∈ Lib.compactUpTo d m, x < d[m]! := fun x hx => by
        obtain ⟨j, hj, rfl⟩ := (h2 x).1 hx
        have h3 := hs j (m - 1) (by omega) (by omega)
        have h4 := hs (m - 1) m (by omega) (by omega)
        have h5 : d[m - 1]! ≠ d[m]! := by
          intro e
          unfold Lib.keeps at hk
          simp at hk
          rcases hk with hk | hk
          · omega
          · exact hk (by first | exact e.symm | exact e)
        omega
      refine ⟨List.pairwise_append.2 ⟨h1, by simp, fun x hx y hy => by rw [List.mem_singleton.1 hy]; exact hlt x hx⟩, fun x => ?_⟩
      rw [List.mem_append, List.mem_singleton, h2]
      constructor
      · rintro (⟨j, hj, e⟩ | e)
        · exact ⟨j, by omega, e⟩
        · exact ⟨m, by omega, e.symm⟩
      · rintro ⟨j, hj, e⟩
        by_cases hjm : j = m
        · subst hjm; exact .inr e.symm
        · exact .inl ⟨j, by omega, e⟩
    · rw [if_neg hk, List.append_nil]
      refine ⟨h1, fun x => ?_⟩
      rw [h2]
      unfold Lib.keeps at hk
      simp at hk
      constructor
      · rintro ⟨j, hj, e⟩
        exact ⟨j, by omega, e⟩
      · rintro ⟨j, hj, e⟩
        by_cases hjm : j = m
        · subst hjm
          exact ⟨j - 1, by omega, by rw [← e]; first | exact hk.2 | exact hk.2.symm⟩
        · exact ⟨j, by omega, e⟩
theorem insert_mem (x : Int) : ∀ (l : List Int) (y : Int), y ∈ insertF x l ↔ y = x ∨ y ∈ l
  | [], y => by simp [insertF]
  | a :: l, y => by
    unfold insertF
    split
    · simp
    · split
      · rename_i h1 h2
        subst h2
        simp
      · simp only [List.mem_cons, insert_mem x l y]
        constructor
        · rintro (h | h | h) <;> simp [h]
        · rintro (h | h | h) <;> simp [h]
theorem insert_sorted (x : Int) : ∀ {l : List Int}, l.Pairwise (· < ·) → (insertF x l).Pairwise (· < ·)
  | [], _ => by simp [insertF]
  | a :: l, h => by
    have h' := List.pairwise_cons.1 h
    unfold insertF
    split
    · rename_i h1
      refine List.pairwise_cons.2 ⟨fun y hy => ?_, h⟩
      rcases List.mem_cons.1 hy with rfl | hy
      · exact h1
      · have := h'.1 y hy; omega
    · split
      · exact h
      · refine List.pairwise_cons.2 ⟨fun y hy => ?_, insert_sorted x h'.2⟩
        rcases (insert_mem x l y).1 hy with rfl | hy
        · omega
        · exact h'.1 y hy
theorem sortedF_mem : ∀ (l : List Int) (y : Int), y ∈ sortedF l ↔ y ∈ l
  | [], y => by simp [sortedF]
  | x :: l, y => by simp [sortedF, insert_mem, sortedF_mem l y]
theorem sortedF_sorted : ∀ (l : List Int), (sortedF l).Pairwise (· < ·)
  | [] => by simp [sortedF]
  | x :: l => insert_sorted x (sortedF_sorted l)
theorem sorted_ext : ∀ {a b : List Int}, a.Pairwise (· < ·) → b.Pairwise (· < ·) → (∀ x, x ∈ a ↔ x ∈ b) → a = b
  | [], [], _, _, _ => rfl
  | [], y :: b, _, _, h => by have := (h y).2 List.mem_cons_self; simp at this
  | x :: a, [], _, _, h => by have := (h x).1 List.mem_cons_self; simp at this
  | x :: a, y :: b, ha, hb, h => by
    have ha' := List.pairwise_cons.1 ha
    have hb' := List.pairwise_cons.1 hb
    have hxy : x = y := by
      rcases List.mem_cons.1 ((h x).1 List.mem_cons_self) with h1 | h1
      · exact h1
      · rcases List.mem_cons.1 ((h y).2 List.mem_cons_self) with h2 | h2
        · exact h2.symm
        · have := ha'.1 y h2; have := hb'.1 x h1; omega
    subst hxy
    congr 1
    refine sorted_ext ha'.2 hb'.2 fun z => ⟨fun hz => ?_, fun hz => ?_⟩
    · rcases List.mem_cons.1 ((h z).1 (List.mem_cons_of_mem _ hz)) with h1 | h1
      · have := ha'.1 z hz; omega
      · exact h1
    · rcases List.mem_cons.1 ((h z).2 (List.mem_cons_of_mem _ hz)) with h1 | h1
      · have := hb'.1 z hz; omega
      · exact h1
theorem compact_msort (l : List Int) : Lib.compact (l.mergeSort fun x y => decide (x ≤ y)) = sortedF l := by
  have hsort : (l.mergeSort fun x y => decide (x ≤ y)).Pairwise fun x y => decide (x ≤ y) = true := List.pairwise_mergeSort (fun a b c h1 h2 => by simp at *; omega) (fun a b => by simp; omega) l
  have hperm : ∀ x, x ∈ (l.mergeSort fun x y => decide (x ≤ y)) ↔ x ∈ l := fun x => (List.mergeSort_perm l _).mem_iff
  generalize (l.mergeSort fun x y => decide (x ≤ y)) = m at hsort hperm
  unfold Lib.compact
  have hget : ∀ j, j < m.length → m.toArray[j]! = m.getD j 0 := fun j hj => by simp [hj]
  obtain ⟨h1, h2⟩ := upTo_ok m.toArray (fun i j hij hj => by
    simp at hj
    by_cases e : i = j
    · subst e; exact Int.le_refl _
    · have := List.pairwise_iff_getElem.1 hsort i j (by omega) hj (by omega)
      simp at this
      simpa [show i < m.length by omega, hj] using this) m.length (by simp)
  refine sorted_ext h1 (sortedF_sorted l) fun x => ?_
  rw [h2, sortedF_mem, ← hperm x, List.mem_iff_getElem]
  constructor
  · rintro ⟨j, hj, e⟩
    exact ⟨j, hj, by simpa [hj] using e⟩
  · rintro ⟨j, hj, e⟩
    exact ⟨j, hj, by simpa [hj] using e⟩
end Go.Sat
/- cnf.right, cnf.Check at one clause, walked. -/
namespace Go.Proofs.Ytfpjfogddepbkaa
open Go.RowKit Go.Mem Go.Sat
namespace SaW
set_option maxRecDepth 100000 in
theorem right_calls (w : World) (n : Int) : Calls Try.prog 43 #[.int .i64 n] w fun e w' => e = .returned (.bool (rightF n)) ∧ w = w' := by
  by_cases h0 : n = 0
  · subst h0
    go_enter Try.func43, Try.ntmps43
    go_wp2
    go_ret
    exact ⟨rfl, rfl⟩
  · have e0 : (n != 0) = true := by simpa using h0
    by_cases h1 : -1048576 ≤ n
    · have e1 : decide (-1048576 ≤ n) = true := by simpa using h1
      have hr : Hid (rightF n = decide (n ≤ 1048576)) := Lib.hid (by unfold rightF; simp [h0, h1])
      clear h0 h1
      go_enter Try.func43, Try.ntmps43
      go_wp2
      go_ret
      exact ⟨by rw [hr.out]; rfl, rfl⟩
    · have e1 : decide (-1048576 ≤ n) = false := by simpa using h1
      have hr : Hid (rightF n = false) := Lib.hid (by unfold rightF; simp [h1])
      clear h0 h1
      go_enter Try.func43, Try.ntmps43
      go_wp2
      go_ret
      exact ⟨by rw [hr.out]; rfl, rfl⟩
set_option maxRecDepth 100000 in
theorem wrong_calls (w : World) (n : Int) : Calls Try.prog 42 #[.int .i64 n] w fun e w' => e = .returned (.bool (!rightF n)) ∧ w = w' := by
  have HR := Lib.hid (right_calls w n)
  go_enter Try.func42, Try.ntmps42
  go_wp2_with fail
  refine HR.out.mono ?_
  rintro e w1 ⟨rfl, rfl⟩
  dsimp only
  go_wp2
  go_ret
  exact ⟨rfl, rfl⟩
theorem any_check (l : List Int) : (l.any fun n => !rightF n) = !checkF l := by
  unfold checkF
  induction l with
  | nil => rfl
  | cons a l ih => simp only [List.any_cons, List.all_cons, ih]; cases rightF a <;> rfl
set_option maxRecDepth 100000 in
set_option maxHeartbeats 1000000 in
theorem check_calls (w : World) (g : Nat) (v : Value) (l : List Int) (hv : Sees w iI v l) (hg : w.cell? ⟨g, 0, none⟩ = some v) : Calls Try.prog 21 #[.slice (some ⟨g, 0, none⟩) 1 1] w fun e w' => e = .returned (.int .i64 (if checkF l then 0 else 60)) ∧ w = w' := by
  have HC := Lib.hid (Sl.containsFunc_calls 42 #[] (fun n => !rightF n) v l w hv (fun x w => rfl) (fun x => wrong_calls w x))
  rw [any_check] at HC
  obtain ⟨VA, vc, hvs, _⟩ := sees_slice hv
  clear hv
  obtain ⟨b, hb⟩ : ∃ b, b = checkF l := ⟨_, rfl⟩
  rw [← hb] at HC ⊢
  subst hvs
  clear hb
  go_enter Try.func21, Try.ntmps21
  go_wp2_with fail
  go_loopw [7] (fun v7 w' => w' = w ∧ ((v7 = .int .i64 0) ∨ (v7 = .int .i64 1 ∧ Hid (b = true)))) (fun v7 _ => 2 - (intOf v7).toNat)
  case atStart => exact ⟨rfl, .inl rfl⟩
  case round =>
    obtain ⟨rfl, rfl | ⟨rfl, hb⟩⟩ := hrel
    · go_wp2_with fail
      refine HC.out.mono ?_
      rintro e w1 ⟨rfl, rfl⟩
      dsimp only
      cases b with
      | true =>
        simp only [Bool.not_true]
        go_wp2
        go_roundw
        case rel => exact ⟨trivial, .inr ⟨rfl, Lib.hid trivial⟩⟩
        case measure => simp only [intOf]; omega
      | false =>
        simp only [Bool.not_false]
        go_wp2
        go_ret
        exact ⟨rfl, rfl⟩
    · go_wp2
      go_ret
      first | exact ⟨rfl, rfl⟩ | exact ⟨by rw [hb.out]; rfl, rfl⟩
end SaW
end Go.Proofs.Ytfpjfogddepbkaa
/- Maps with strings for keys; insertions of a map literal. No program in sight. -/
namespace Go.Mem
open Go.RowKit
theorem bytes_beqd (a b : ByteArray) : (a == b) = decide (a = b) := by
  rw [Bool.eq_iff_iff, decide_eq_true_iff]
  obtain ⟨x⟩ := a
  obtain ⟨y⟩ := b
  constructor
  · intro h
    have e : x = y := by simpa using (show (x == y) = true from h)
    rw [e]
  · intro h
    cases h
    show (x == x) = true
    simp
theorem checkKey_str {P : Program} {t : TypeId} (hu : P.underlying t = some .string) (b : Bool) (n : Nat) (k : ByteArray) (w : World) : (Instr.checkKey b (n + 1) t (.string k)).run P w = .ok () w := by
  rw [Instr.checkKey]
  simp [run_underlying hu]
theorem keyEnc_str {P : Program} {kt : TypeId} (hu : P.underlying kt = some .string) : KeyEnc P kt Value.string :=
  keyEnc_now hu (fun w k b => checkKey_str hu b 9999 k w) (fun a b => by simp [Instr.sameNow]; exact bytes_beqd a b) (fun k => by simp [Instr.sameBits]; rw [bytes_beqd]; simp)
/-- A map literal's entry, at the operation. -/
theorem wpList_insert {P : Program} {w : World} {ops : Array Oper} {rest : List Oper} {o : Oper} {a : Act} {Q : Exit → Act → World → Prop}
    (hg : o.guard = none) (mo x vo : Operand) (t : TypeId) (hop : o.op = Op.insert t mo x vo) {kt et : TypeId} {K V : Type} [DecidableEq K] {enc : K → Value} {ev : V → Value} {r : Nat} {m : List (K × V)} (hk : KeyEnc P kt enc) (hT : P.underlying t = some (.map kt et))
    (k : K) (v : V) (hm : a.eval mo = .map (some r)) (hx : a.eval x = enc k) (hv : a.eval vo = ev v) (h : MapAt w r enc ev m)
    (hK : ∀ w', MapAt w' r enc ev (mput m k v) → w.grownBy w' (some r) → wpList P ops Q rest (a.put o.dst undef) w') : wpList P ops Q (o :: rest) a w := by
  refine wpList_plain hg fun K' hK' => ?_
  obtain ⟨w', hrun, r1, r2⟩ := update_run hk hT h k v
  unfold Oper.wp
  simp [execOp, hop, hm, hx, hv, hrun, Result.andThen]
  exact hK' _ _ (hK w' r1 r2)
end Go.Mem
