/-
The disk in memory: files by name in a map, each a block with bytes of its own.
-/
import Derived.Shelf.Small.Bits
import Derived.Shelf.Strconv.Itoa0
import Derived.Shelf.Sort.Plain
import Derived.Shelf.GgClosure.StringsIndexFunc
import Derived.Ground.GgwProg
import Derived.Shelf.GgClosure.StringsIndexFuncTop
import Derived.Ground.Names2Prog
import Derived.Shelf.Slices.Clone
import Derived.Shelf.Slices.In.SortNone
import Derived.Ground.SlgnProg
import Derived.Shelf.SlicesE.Clone
import Derived.Ground.SlgfProg
import Derived.Shelf.SlicesE.IndexFunc
import Derived.Test.YtcmjoaepihbodaaProg
import Derived.Test.YtcmjoaepihbodaaQPOwnU0
import Derived.Laws.RangeAny
import Derived.Sort.KeysCollected
import Derived.Maps.OwnSet
import Derived.Maps.Ext
section
namespace Go.Proofs
open Go.Shelf
def Try.lays128_ren : Go.Shelf.Ren := ⟨fun | 128 => 74 | n => n, fun | 51 => 116 | 3 => 3 | 4 => 4 | 46 => 53 | 5 => 5 | 9 => 9 | n => n, fun | n => n⟩
theorem Try.lays128 : Go.Proofs.Lays.n128 Try.prog Try.lays128_ren := {
  mixed := by kernel_rfl
  f128 := Try.func74.trans (congrArg some (by kernel_rfl))
  t3 := Try.underlying3
  a3 := Try.isAgg3
  z3 := Try.sizeOf3
  v3 := Try.zeroValue3
  t4 := Try.underlying4
  a4 := Try.isAgg4
  z4 := Try.sizeOf4
  v4 := Try.zeroValue4
  t5 := Try.underlying5
  a5 := Try.isAgg5
  z5 := Try.sizeOf5
  v5 := Try.zeroValue5
  t9 := Try.underlying9
  a9 := Try.isAgg9
  z9 := Try.sizeOf9
  v9 := Try.zeroValue9
  t46 := Try.underlying53
  a46 := Try.isAgg53
  z46 := Try.sizeOf53
  v46 := Try.zeroValue53
  t51 := Try.underlying116
  a51 := Try.isAgg116
  z51 := Try.sizeOf116
  v51 := Try.zeroValue116 }
theorem Try.bits_Len32 (x : Int) (w : World) (h0 : 0 ≤ x) (h1 : x ≤ 4294967295) :
    Calls Try.prog 74 #[.int .u32 x] w fun e w' => e = .returned (.int .i64 (Lib.bitLen x.toNat)) ∧ w' = w := Any.bits_Len32 Try.lays128 x w h0 h1
def Try.lays125_ren : Go.Shelf.Ren := ⟨fun | 125 => 64 | 128 => 74 | 129 => 75 | n => n, fun | 46 => 53 | 3 => 3 | 51 => 116 | 53 => 118 | 4 => 4 | 5 => 5 | 9 => 9 | n => n, fun | n => n⟩
theorem Try.lays125 : Go.Proofs.Lays.n125 Try.prog Try.lays125_ren := {
  mixed := by kernel_rfl
  f125 := Try.func64.trans (congrArg some (by kernel_rfl))
  f128 := Try.func74.trans (congrArg some (by kernel_rfl))
  f129 := Try.func75.trans (congrArg some (by kernel_rfl))
  t3 := Try.underlying3
  a3 := Try.isAgg3
  z3 := Try.sizeOf3
  v3 := Try.zeroValue3
  t4 := Try.underlying4
  a4 := Try.isAgg4
  z4 := Try.sizeOf4
  v4 := Try.zeroValue4
  t5 := Try.underlying5
  a5 := Try.isAgg5
  z5 := Try.sizeOf5
  v5 := Try.zeroValue5
  t9 := Try.underlying9
  a9 := Try.isAgg9
  z9 := Try.sizeOf9
  v9 := Try.zeroValue9
  t46 := Try.underlying53
  a46 := Try.isAgg53
  z46 := Try.sizeOf53
  v46 := Try.zeroValue53
  t51 := Try.underlying116
  a51 := Try.isAgg116
  z51 := Try.sizeOf116
  v51 := Try.zeroValue116
  t53 := Try.underlying118
  a53 := Try.isAgg118
  z53 := Try.sizeOf118
  v53 := Try.zeroValue118 }
theorem Try.bits_Len (x : Int) (w : World) (h0 : 0 ≤ x) (h1 : x ≤ 18446744073709551615) :
    Calls Try.prog 64 #[.int .u64 x] w fun e w' => e = .returned (.int .i64 (Lib.bitLen x.toNat)) ∧ w' = w := Any.bits_Len Try.lays125 x w h0 h1
def Try.lays129_ren : Go.Shelf.Ren := ⟨fun | 129 => 75 | n => n, fun | 53 => 118 | 3 => 3 | 4 => 4 | 46 => 53 | 5 => 5 | 9 => 9 | n => n, fun | n => n⟩
theorem Try.lays129 : Go.Proofs.Lays.n129 Try.prog Try.lays129_ren := {
  mixed := by kernel_rfl
  f129 := Try.func75.trans (congrArg some (by kernel_rfl))
  t3 := Try.underlying3
  a3 := Try.isAgg3
  z3 := Try.sizeOf3
  v3 := Try.zeroValue3
  t4 := Try.underlying4
  a4 := Try.isAgg4
  z4 := Try.sizeOf4
  v4 := Try.zeroValue4
  t5 := Try.underlying5
  a5 := Try.isAgg5
  z5 := Try.sizeOf5
  v5 := Try.zeroValue5
  t9 := Try.underlying9
  a9 := Try.isAgg9
  z9 := Try.sizeOf9
  v9 := Try.zeroValue9
  t46 := Try.underlying53
  a46 := Try.isAgg53
  z46 := Try.sizeOf53
  v46 := Try.zeroValue53
  t53 := Try.underlying118
  a53 := Try.isAgg118
  z53 := Try.sizeOf118
  v53 := Try.zeroValue118 }
theorem Try.bits_Len64 (x : Int) (w : World) (h0 : 0 ≤ x) (h1 : x ≤ 18446744073709551615) :
    Calls Try.prog 75 #[.int .u64 x] w fun e w' => e = .returned (.int .i64 (Lib.bitLen x.toNat)) ∧ w' = w := Any.bits_Len64 Try.lays129 x w h0 h1
def Try.lays190_ren : Go.Shelf.Ren := ⟨fun | 190 => 58 | 125 => 64 | 258 => 63 | 128 => 74 | 129 => 75 | 302 => 65 | 303 => 66 | 304 => 67 | 305 => 68 | 306 => 69 | 307 => 70 | 308 => 71 | 309 => 72 | 310 => 73 | 333 => 76 | 329 => 77 | 330 => 78 | 334 => 79 | 335 => 80 | 336 => 81 | 344 => 82 | n => n, fun | 31 => 59 | 9 => 9 | 3 => 3 | 46 => 53 | 0 => 0 | 51 => 116 | 53 => 118 | 4 => 4 | 183 => 108 | 182 => 107 | 131 => 113 | 5 => 5 | 218 => 119 | 222 => 123 | 228 => 125 | 229 => 126 | n => n, fun | n => n⟩
theorem Try.lays190 : Go.Proofs.Lays.n190 Try.prog Try.lays190_ren := {
  mixed := by kernel_rfl
  f125 := Try.func64.trans (congrArg some (by kernel_rfl))
  f128 := Try.func74.trans (congrArg some (by kernel_rfl))
  f129 := Try.func75.trans (congrArg some (by kernel_rfl))
  f190 := Try.func58.trans (congrArg some (by kernel_rfl))
  f258 := Try.func63.trans (congrArg some (by kernel_rfl))
  f302 := Try.func65.trans (congrArg some (by kernel_rfl))
  f303 := Try.func66.trans (congrArg some (by kernel_rfl))
  f304 := Try.func67.trans (congrArg some (by kernel_rfl))
  f305 := Try.func68.trans (congrArg some (by kernel_rfl))
  f306 := Try.func69.trans (congrArg some (by kernel_rfl))
  f307 := Try.func70.trans (congrArg some (by kernel_rfl))
  f308 := Try.func71.trans (congrArg some (by kernel_rfl))
  f309 := Try.func72.trans (congrArg some (by kernel_rfl))
  f310 := Try.func73.trans (congrArg some (by kernel_rfl))
  f329 := Try.func77.trans (congrArg some (by kernel_rfl))
  f330 := Try.func78.trans (congrArg some (by kernel_rfl))
  f333 := Try.func76.trans (congrArg some (by kernel_rfl))
  f334 := Try.func79.trans (congrArg some (by kernel_rfl))
  f335 := Try.func80.trans (congrArg some (by kernel_rfl))
  f336 := Try.func81.trans (congrArg some (by kernel_rfl))
  f344 := Try.func82.trans (congrArg some (by kernel_rfl))
  t0 := Try.underlying0
  a0 := Try.isAgg0
  z0 := Try.sizeOf0
  v0 := Try.zeroValue0
  t3 := Try.underlying3
  a3 := Try.isAgg3
  z3 := Try.sizeOf3
  v3 := Try.zeroValue3
  t4 := Try.underlying4
  a4 := Try.isAgg4
  z4 := Try.sizeOf4
  v4 := Try.zeroValue4
  t5 := Try.underlying5
  a5 := Try.isAgg5
  z5 := Try.sizeOf5
  v5 := Try.zeroValue5
  t9 := Try.underlying9
  a9 := Try.isAgg9
  z9 := Try.sizeOf9
  v9 := Try.zeroValue9
  t31 := Try.underlying59
  a31 := Try.isAgg59
  z31 := Try.sizeOf59
  v31 := Try.zeroValue59
  t46 := Try.underlying53
  a46 := Try.isAgg53
  z46 := Try.sizeOf53
  v46 := Try.zeroValue53
  t51 := Try.underlying116
  a51 := Try.isAgg116
  z51 := Try.sizeOf116
  v51 := Try.zeroValue116
  t53 := Try.underlying118
  a53 := Try.isAgg118
  z53 := Try.sizeOf118
  v53 := Try.zeroValue118
  t131 := Try.underlying113
  a131 := Try.isAgg113
  z131 := Try.sizeOf113
  v131 := Try.zeroValue113
  t182 := Try.underlying107
  a182 := Try.isAgg107
  z182 := Try.sizeOf107
  v182 := Try.zeroValue107
  t183 := Try.underlying108
  a183 := Try.isAgg108
  z183 := Try.sizeOf108
  v183 := Try.zeroValue108
  t218 := Try.underlying119
  a218 := Try.isAgg119
  z218 := Try.sizeOf119
  v218 := Try.zeroValue119
  t222 := Try.underlying123
  a222 := Try.isAgg123
  z222 := Try.sizeOf123
  v222 := Try.zeroValue123
  t228 := Try.underlying125
  a228 := Try.isAgg125
  z228 := Try.sizeOf125
  v228 := Try.zeroValue125
  t229 := Try.underlying126
  a229 := Try.isAgg126
  z229 := Try.sizeOf126
  v229 := Try.zeroValue126 }
open Go.Sort Go.RowKit in
theorem Try.slices_Sort_string (blk off cap : Nat) (ss : List (List UInt8)) (w : World) (hH : Holds encStr w blk off ss.toArray) (hblk : blk < w.heap.size) (hsz : ss.length < 4611686018427387904) :
    Calls Try.prog 58 #[.slice (some ⟨blk, off, none⟩) ss.length cap] w fun e w' =>
      e = .returned (.tuple #[]) ∧ ∃ n os, w' = grow (putRow encStr (Sort.ahead w n) blk off (ss.mergeSort fun x y => decide (x ≤ y)).toArray) os := Any.slices_Sort_string Try.lays190 blk off cap ss w hH hblk hsz
def Try.lays315_ren : Go.Shelf.Ren := ⟨fun | 315 => 61 | n => n, fun | 9 => 9 | 40 => 91 | 4 => 4 | 3 => 3 | 0 => 0 | 21 => 21 | n => n, fun | n => n⟩
theorem Try.lays315 : Go.Proofs.Lays.n315 Try.prog Try.lays315_ren := {
  mixed := by kernel_rfl
  f315 := Try.func61.trans (congrArg some (by kernel_rfl))
  t0 := Try.underlying0
  a0 := Try.isAgg0
  z0 := Try.sizeOf0
  v0 := Try.zeroValue0
  t3 := Try.underlying3
  a3 := Try.isAgg3
  z3 := Try.sizeOf3
  v3 := Try.zeroValue3
  t4 := Try.underlying4
  a4 := Try.isAgg4
  z4 := Try.sizeOf4
  v4 := Try.zeroValue4
  t9 := Try.underlying9
  a9 := Try.isAgg9
  z9 := Try.sizeOf9
  v9 := Try.zeroValue9
  t21 := Try.underlying21
  a21 := Try.isAgg21
  z21 := Try.sizeOf21
  v21 := Try.zeroValue21
  t40 := Try.underlying91
  a40 := Try.isAgg91
  z40 := Try.sizeOf91
  v40 := Try.zeroValue91 }
open Go.RowKit Go.Lib in
theorem Try.strings_indexFunc (g : Nat) (lb : Array Value) (eg : ∀ args w, (callFunc g args).run Try.prog w = .ok (.enter g args) w) (p : Nat → Bool) (truth : Bool) (s : ByteArray) (w : World) (hp : PredAt Try.prog g lb encR p w) :
    Calls Try.prog 61 #[.string s, .func (.func g) #[] lb, .bool truth] w fun e w' => e = .returned (.int .i64 (Lib.idxFunc p truth s)) ∧ Below w.heap.size w w' := Any.strings_indexFunc Try.lays315 g lb eg p truth s w hp
def Try.laysGw15_ren : Go.Shelf.Ren := ⟨fun | 15 => 56 | 20 => 61 | n => n, fun | 9 => 9 | 23 => 91 | 3 => 3 | 4 => 4 | 0 => 0 | 21 => 21 | n => n, fun | n => n⟩
theorem Try.laysGw15 : Go.Proofs.LaysGw.n15 Try.prog Try.laysGw15_ren := {
  mixed := by kernel_rfl
  f15 := Try.func56.trans (congrArg some (by kernel_rfl))
  f20 := Try.func61.trans (congrArg some (by kernel_rfl))
  t0 := Try.underlying0
  a0 := Try.isAgg0
  z0 := Try.sizeOf0
  v0 := Try.zeroValue0
  i0 := by kernel_rfl
  t3 := Try.underlying3
  a3 := Try.isAgg3
  z3 := Try.sizeOf3
  v3 := Try.zeroValue3
  i3 := by kernel_rfl
  t4 := Try.underlying4
  a4 := Try.isAgg4
  z4 := Try.sizeOf4
  v4 := Try.zeroValue4
  i4 := by kernel_rfl
  t9 := Try.underlying9
  a9 := Try.isAgg9
  z9 := Try.sizeOf9
  v9 := Try.zeroValue9
  i9 := by kernel_rfl
  t21 := Try.underlying21
  a21 := Try.isAgg21
  z21 := Try.sizeOf21
  v21 := Try.zeroValue21
  i21 := by kernel_rfl
  t23 := Try.underlying91
  a23 := Try.isAgg91
  z23 := Try.sizeOf91
  v23 := Try.zeroValue91
  i23 := by kernel_rfl }
open Go.RowKit Go.Lib in
theorem Try.strings_IndexFunc (g : Nat) (lb : Array Value) (eg : ∀ args w, (callFunc g args).run Try.prog w = .ok (.enter g args) w) (p : Nat → Bool) (s : ByteArray) (w : World) (hp : PredAt Try.prog g lb encR p w) :
    Calls Try.prog 56 #[.string s, .func (.func g) #[] lb] w fun e w' => e = .returned (.int .i64 (Lib.idxFunc p true s)) ∧ Below w.heap.size w w' := Any.strings_IndexFunc Try.laysGw15 g lb eg p s w hp
def Try.laysGw17_ren : Go.Shelf.Ren := ⟨fun | 17 => 47 | 15 => 56 | 20 => 61 | n => n, fun | 9 => 9 | 23 => 91 | 4 => 4 | 3 => 3 | 0 => 0 | 21 => 21 | n => n, fun | n => n⟩
theorem Try.laysGw17 : Go.Proofs.LaysGw.n17 Try.prog Try.laysGw17_ren := {
  mixed := by kernel_rfl
  f15 := Try.func56.trans (congrArg some (by kernel_rfl))
  f17 := Try.func47.trans (congrArg some (by kernel_rfl))
  f20 := Try.func61.trans (congrArg some (by kernel_rfl))
  t0 := Try.underlying0
  a0 := Try.isAgg0
  z0 := Try.sizeOf0
  v0 := Try.zeroValue0
  i0 := by kernel_rfl
  t3 := Try.underlying3
  a3 := Try.isAgg3
  z3 := Try.sizeOf3
  v3 := Try.zeroValue3
  i3 := by kernel_rfl
  t4 := Try.underlying4
  a4 := Try.isAgg4
  z4 := Try.sizeOf4
  v4 := Try.zeroValue4
  i4 := by kernel_rfl
  t9 := Try.underlying9
  a9 := Try.isAgg9
  z9 := Try.sizeOf9
  v9 := Try.zeroValue9
  i9 := by kernel_rfl
  t21 := Try.underlying21
  a21 := Try.isAgg21
  z21 := Try.sizeOf21
  v21 := Try.zeroValue21
  i21 := by kernel_rfl
  t23 := Try.underlying91
  a23 := Try.isAgg91
  z23 := Try.sizeOf91
  v23 := Try.zeroValue91
  i23 := by kernel_rfl }
open Go.RowKit Go.Lib in
theorem Try.strings_ContainsFunc (g : Nat) (lb : Array Value) (eg : ∀ args w, (callFunc g args).run Try.prog w = .ok (.enter g args) w) (p : Nat → Bool) (s : ByteArray) (w : World) (hp : PredAt Try.prog g lb encR p w) :
    Calls Try.prog 47 #[.string s, .func (.func g) #[] lb] w fun e w' => e = .returned (.bool (decide (0 ≤ Lib.idxFunc p true s))) ∧ Below w.heap.size w w' := Any.strings_ContainsFunc Try.laysGw17 g lb eg p s w hp
def Try.laysNm215_ren : Go.Shelf.Ren := ⟨fun | 15 => 51 | n => n, fun | 22 => 23 | 3 => 3 | 4 => 4 | n => n, fun | n => n⟩
theorem Try.laysNm215 : Go.Proofs.Lays2.n15 Try.prog Try.laysNm215_ren := {
  mixed := by kernel_rfl
  f15 := Try.func51.trans (congrArg some (by kernel_rfl))
  t3 := Try.underlying3
  a3 := Try.isAgg3
  z3 := Try.sizeOf3
  v3 := Try.zeroValue3
  t4 := Try.underlying4
  a4 := Try.isAgg4
  z4 := Try.sizeOf4
  v4 := Try.zeroValue4
  t22 := Try.underlying23
  a22 := Try.isAgg23
  z22 := Try.sizeOf23
  v22 := Try.zeroValue23
  i3 := by kernel_rfl }
open Go.RowKit Go.Lib in
theorem Try.slices_Clone_int (b off n c : Nat) (zs : List Int) (w : World) (hz : n ≤ zs.length) (hbig : n * 8 ≤ 140737488355328) (hc : ∀ j, j < zs.length → w.cell? ⟨b, off + j, none⟩ = some (.int .i64 (zs.getD j 0))) :
    Calls Try.prog 51 #[.slice (some ⟨b, off, none⟩) n c] w fun e w' => ∃ v', e = .returned v' ∧ w'.ownsRow w.heap.size 3 1 v' n ((zs.take n).map (Value.int .i64)) ∧ v' ≠ .slice none 0 0 ∧ Below w.heap.size w w' := Any.slices_Clone_int Try.laysNm215 b off n c zs w hz hbig hc
open Go.RowKit Go.Lib in
theorem Try.slices_Clone_int_nil (n c : Nat) (w : World) :
    Calls Try.prog 51 #[.slice none n c] w fun e w' => e = .returned (.slice none 0 0) ∧ w' = w := Any.slices_Clone_int_nil Try.laysNm215 n c w
open Go.RowKit Go.Lib in
theorem Try.slices_Clone_int_zero (a : Addr) (c : Nat) (w : World) :
    Calls Try.prog 51 #[.slice (some a) 0 c] w fun e w' => ∃ v', e = .returned v' ∧ w'.ownsRow w.heap.size 3 1 v' 0 [] ∧ v' ≠ .slice none 0 0 ∧ Below w.heap.size w w' := Any.slices_Clone_int_zero Try.laysNm215 a c w
open Go.RowKit Go.Sort in
theorem Try.slices_Sort_string_none (p : Option Addr) (cap : Nat) (w : World) :
    Calls Try.prog 58 #[.slice p 0 cap] w fun e w' => e = .returned (.tuple #[]) ∧ w' = w := Any.slices_Sort_string_none Try.lays190 p cap w
def Try.laysSlE041_f51_ren : Go.Shelf.Ren := ⟨fun | 41 => 51 | n => n, fun | 22 => 23 | 23 => 3 | 4 => 4 | n => n, fun | n => n⟩
theorem Try.laysSlE041_f51 : Go.Proofs.SlLaysE0.n41 Try.prog Try.laysSlE041_f51_ren := {
  mixed := by kernel_rfl
  f41 := ⟨Try.f51.name, by decide, Try.func51.trans (congrArg some (by kernel_rfl))⟩
  t4 := Try.underlying4
  a4 := Try.isAgg4
  z4 := Try.sizeOf4
  v4 := Try.zeroValue4
  t22 := Try.underlying23
  a22 := Try.isAgg23
  z22 := Try.sizeOf23
  v22 := Try.zeroValue23 }
open Go.RowKit Go.Lib in
theorem Try.slices_Clone (i0 : TypeInfo) (z : Value) (size bytes : Nat) (hi : Try.prog.info? 3 = some i0) (hz0 : i0.zero = some z) (hz1 : i0.size = size) (hz2 : i0.bytes = bytes) (hzs : z.cells.size = size) (hsz : 0 < size) (z23 : ∀ w, (Go.sizeOf 3).run Try.prog w = .ok size w) (b off n c : Nat) (news : List Value) (w : World) (hl : news.length = n * size) (hn : n ≤ maxLen) (hbig : n * bytes ≤ 140737488355328) (hc : ∀ j u, news[j]? = some u → w.cell? ⟨b, off + j, none⟩ = some u) (h1 : ∀ u ∈ news, u.oneCell' = true) :
    Calls Try.prog 51 #[.slice (some ⟨b, off, none⟩) n c] w fun e w' => ∃ v', e = .returned v' ∧ w'.ownsRow w.heap.size 3 size v' n news ∧ v' ≠ .slice none 0 0 ∧ Below w.heap.size w w' := AnyE.slices_Clone Try.laysSlE041_f51 i0 z size bytes hi hz0 hz1 hz2 hzs hsz z23 b off n c news w hl hn hbig hc h1
open Go.RowKit Go.Lib in
theorem Try.slices_Clone_nil (n c : Nat) (w : World) :
    Calls Try.prog 51 #[.slice none n c] w fun e w' => e = .returned (.slice none 0 0) ∧ w' = w := AnyE.slices_Clone_nil Try.laysSlE041_f51 n c w
def Try.laysSlH6_f60_ren : Go.Shelf.Ren := ⟨fun | 6 => 60 | n => n, fun | 22 => 59 | 23 => 9 | 25 => 67 | 3 => 3 | 0 => 0 | 4 => 4 | n => n, fun | n => n⟩
theorem Try.laysSlH6_f60 : Go.Proofs.SlLaysH.n6 Try.prog Try.laysSlH6_f60_ren := {
  mixed := by kernel_rfl
  f6 := ⟨Try.f60.name, by decide, Try.func60.trans (congrArg some (by kernel_rfl))⟩
  t0 := Try.underlying0
  a0 := Try.isAgg0
  z0 := Try.sizeOf0
  v0 := Try.zeroValue0
  t3 := Try.underlying3
  a3 := Try.isAgg3
  z3 := Try.sizeOf3
  v3 := Try.zeroValue3
  t4 := Try.underlying4
  a4 := Try.isAgg4
  z4 := Try.sizeOf4
  v4 := Try.zeroValue4
  t22 := Try.underlying59
  a22 := Try.isAgg59
  z22 := Try.sizeOf59
  v22 := Try.zeroValue59
  a23 := Try.isAgg9
  z23 := Try.sizeOf9
  t25 := Try.underlying67
  a25 := Try.isAgg67
  z25 := Try.sizeOf67
  v25 := Try.zeroValue67 }
open Go.RowKit Go.Lib in
theorem Try.slices_IndexFunc {α : Type} [Inhabited α] (enc : α → Value) (p : α → Bool) (g : Nat) (lb : Array Value) (eg : ∀ args w, (callFunc g args).run Try.prog w = .ok (.enter g args) w) (b off n c : Nat) (zs : List α) (w : World) (hp : PredAt Try.prog g lb enc p w) (hz : n ≤ zs.length) (hbig : n ≤ 9223372036854775807) (hc : ∀ j, j < zs.length → w.cell? ⟨b, off + j, none⟩ = some (enc zs[j]!)) :
    Calls Try.prog 60 #[.slice (some ⟨b, off, none⟩) n c, .func (.func g) #[] lb] w fun e w' => e = .returned (.int .i64 (Lib.idxBy (fun _ y => p y) (zs.take n) default)) ∧ ∃ q, w' = w.drewN q := AnyE.slices_IndexFunc Try.laysSlH6_f60 enc p g lb eg b off n c zs w hp hz hbig hc
open Go.RowKit Go.Lib in
theorem Try.slices_IndexFunc_empty {α : Type} [Inhabited α] (a : Option Addr) (c : Nat) (fv : Value) (w : World) :
    Calls Try.prog 60 #[.slice a 0 c, fv] w fun e w' => e = .returned (.int .i64 (-1)) ∧ w' = w := AnyE.slices_IndexFunc_empty Try.laysSlH6_f60 a c fv w
def Try.laysSlH8_f52_ren : Go.Shelf.Ren := ⟨fun | 8 => 52 | 6 => 60 | n => n, fun | 22 => 59 | 23 => 9 | 25 => 67 | 4 => 4 | 3 => 3 | 0 => 0 | n => n, fun | n => n⟩
theorem Try.laysSlH8_f52 : Go.Proofs.SlLaysH.n8 Try.prog Try.laysSlH8_f52_ren := {
  mixed := by kernel_rfl
  f6 := ⟨Try.f60.name, by decide, Try.func60.trans (congrArg some (by kernel_rfl))⟩
  f8 := ⟨Try.f52.name, by decide, Try.func52.trans (congrArg some (by kernel_rfl))⟩
  t0 := Try.underlying0
  a0 := Try.isAgg0
  z0 := Try.sizeOf0
  v0 := Try.zeroValue0
  t3 := Try.underlying3
  a3 := Try.isAgg3
  z3 := Try.sizeOf3
  v3 := Try.zeroValue3
  t4 := Try.underlying4
  a4 := Try.isAgg4
  z4 := Try.sizeOf4
  v4 := Try.zeroValue4
  t22 := Try.underlying59
  a22 := Try.isAgg59
  z22 := Try.sizeOf59
  v22 := Try.zeroValue59
  a23 := Try.isAgg9
  z23 := Try.sizeOf9
  t25 := Try.underlying67
  a25 := Try.isAgg67
  z25 := Try.sizeOf67
  v25 := Try.zeroValue67 }
open Go.RowKit Go.Lib in
theorem Try.slices_ContainsFunc {α : Type} [Inhabited α] (enc : α → Value) (p : α → Bool) (g : Nat) (lb : Array Value) (eg : ∀ args w, (callFunc g args).run Try.prog w = .ok (.enter g args) w) (b off n c : Nat) (zs : List α) (w : World) (hp : PredAt Try.prog g lb enc p w) (hz : n ≤ zs.length) (hbig : n ≤ 9223372036854775807) (hc : ∀ j, j < zs.length → w.cell? ⟨b, off + j, none⟩ = some (enc zs[j]!)) :
    Calls Try.prog 52 #[.slice (some ⟨b, off, none⟩) n c, .func (.func g) #[] lb] w fun e w' => e = .returned (.bool ((zs.take n).any p)) ∧ ∃ q, w' = w.drewN q := AnyE.slices_ContainsFunc Try.laysSlH8_f52 enc p g lb eg b off n c zs w hp hz hbig hc
open Go.RowKit Go.Lib in
theorem Try.slices_ContainsFunc_empty {α : Type} [Inhabited α] (a : Option Addr) (c : Nat) (fv : Value) (w : World) :
    Calls Try.prog 52 #[.slice a 0 c, fv] w fun e w' => e = .returned (.bool false) ∧ w' = w := AnyE.slices_ContainsFunc_empty Try.laysSlH8_f52 a c fv w
end Go.Proofs
end
section
namespace Go.Proofs.Ytcmjoaepihbodaa
open Go.RowKit Go.BigFrame Go.Sort Go.Shelf Go.Lib
attribute [local go_sem ↓] Go.wp_at_zero Go.wp_at_succ
def okByte (b : UInt8) : Bool := (decide (97 ≤ b.toNat) && decide (b.toNat ≤ 122)) || (decide (48 ≤ b.toNat) && decide (b.toNat ≤ 57)) || b.toNat == 46 || b.toNat == 45
def badRune (r : Nat) : Bool := !((decide (97 ≤ r) && decide (r ≤ 122)) || (decide (48 ≤ r) && decide (r ≤ 57)) || r == 46 || r == 45)
def nameB (s : List UInt8) : Bool := !s.isEmpty && decide (s.length ≤ 32) && s.all okByte
theorem badRune_high {r : Nat} (h : 128 ≤ r) : badRune r = true := by
  unfold badRune
  simp
  omega
theorem badRune_byte (b : UInt8) : badRune b.toNat = !okByte b := rfl
theorem idx_bad (l : List UInt8) : ∀ (f pos : Nat), l.length ≤ pos + f → (0 ≤ Lib.idxFuncFrom badRune true ⟨l.toArray⟩ f pos ↔ ∃ b ∈ l.drop pos, okByte b = false)
  | 0, pos, h => by
    rw [List.drop_eq_nil_of_le (by omega)]
    simp [Lib.idxFuncFrom]
  | f + 1, pos, h => by
    unfold Lib.idxFuncFrom
    by_cases hp : pos < l.length
    · have hs : pos < (⟨l.toArray⟩ : ByteArray).size := by rw [ba_size]; exact hp
      rw [if_pos hs]
      have hd : l.drop pos = l[pos] :: l.drop (pos + 1) := List.drop_eq_getElem_cons hp
      have hb : (⟨l.toArray⟩ : ByteArray)[pos]'hs = l[pos] := rfl
      by_cases ha : l[pos].toNat < 128
      · rw [decode_ascii _ _ hs (by rw [hb]; exact ha), hb]
        dsimp only
        by_cases ho : okByte l[pos] = true
        · have := idx_bad l f (pos + 1) (by omega)
          rw [if_neg (by rw [badRune_byte, ho]; simp), this, hd]
          refine ⟨fun ⟨b, h1, h2⟩ => ⟨b, List.mem_cons_of_mem _ h1, h2⟩, fun ⟨b, h1, h2⟩ => ?_⟩
          rcases List.mem_cons.1 h1 with rfl | h1
          · rw [ho] at h2; cases h2
          · exact ⟨b, h1, h2⟩
        · have ho' : okByte l[pos] = false := by simpa using ho
          rw [if_pos (by rw [badRune_byte, ho']; rfl), hd]
          refine ⟨fun _ => ⟨l[pos], List.mem_cons_self, ho'⟩, fun _ => by omega⟩
      · have hh := decode_high _ _ hs (by rw [hb]; omega)
        rw [if_pos (badRune_high hh.1)]
        refine ⟨fun _ => ⟨l[pos], by rw [hd]; exact List.mem_cons_self, ?_⟩, fun _ => by omega⟩
        unfold okByte
        simp
        omega
    · rw [if_neg (by rw [ba_size]; exact hp), List.drop_eq_nil_of_le (by omega)]
      simp
theorem idx_name (l : List UInt8) : decide (0 ≤ Lib.idxFunc badRune true ⟨l.toArray⟩) = !l.all okByte := by
  have h := idx_bad l (⟨l.toArray⟩ : ByteArray).size 0 (by rw [ba_size]; omega)
  rw [List.drop_zero] at h
  unfold Lib.idxFunc
  rw [Bool.eq_iff_iff, decide_eq_true_iff, h]
  simp
set_option maxHeartbeats 2000000 in
theorem named1 (w : World) : PredAt Try.prog 48 #[] encR badRune w := fun W r _ => by
  unfold FnGives
  rcases (by omega : r < 45 ∨ r = 45 ∨ r = 46 ∨ r = 47 ∨ (48 ≤ r ∧ r ≤ 57) ∨ (58 ≤ r ∧ r < 97) ∨ (97 ≤ r ∧ r ≤ 122) ∨ 122 < r) with h | h | h | h | h | h | h | h
  all_goals
    have z1 : ((r : Int) < 97) ↔ r < 97 := by omega
    have z2 : (122 < (r : Int)) ↔ 122 < r := by omega
    have z3 : ((r : Int) < 48) ↔ r < 48 := by omega
    have z4 : (57 < (r : Int)) ↔ 57 < r := by omega
    have z5 : ((r : Int) = 46) ↔ r = 46 := by omega
    have z6 : ((r : Int) = 45) ↔ r = 45 := by omega
    go_enter Try.func48, Try.ntmps48
    go_wp2
    all_goals first | (exfalso; omega) | (go_ret; exact ⟨ret_bool (by rw [Bool.eq_iff_iff]; simp [badRune]; omega), 0, rfl⟩)
set_option maxHeartbeats 2000000 in
theorem named_any (s : List UInt8) (w : World) (hl : s.length ≤ 140737488355328) :
    Calls Try.prog 29 #[.string ⟨s.toArray⟩] w fun r w' => r = .returned (.bool (nameB s)) ∧ Below w.heap.size w w' := by
  have HC := fun W => Try.strings_ContainsFunc 48 #[] (enters_of Try.func48 (by kernel_rfl) rfl) badRune ⟨s.toArray⟩ W (named1 W)
  simp only [idx_name] at HC
  have hsz : (⟨s.toArray⟩ : ByteArray).size = s.length := ba_size s
  cases s with
  | nil =>
    go_enter Try.func29, Try.ntmps29
    go_wp2
    go_ret
    exact ⟨rfl, Below.refl _ _⟩
  | cons b l =>
    have hb : nameB (b :: l) = (decide ((b :: l).length ≤ 32) && (b :: l).all okByte) := rfl
    by_cases h32 : l.length + 1 ≤ 32
    · go_enter Try.func29, Try.ntmps29
      go_wp2_with (go_at_call 47; refine (HC _).mono ?_; rintro r w1 ⟨rfl, hb1⟩)
      all_goals first | (exfalso; omega) | skip
      go_ret
      exact ⟨ret_bool (by rw [hb]; simp [h32]), hb1⟩
    · go_enter Try.func29, Try.ntmps29
      go_wp2
      all_goals first | (exfalso; omega) | skip
      go_ret
      exact ⟨rfl, Below.refl _ _⟩
end Go.Proofs.Ytcmjoaepihbodaa
end
section
namespace Go.Proofs.Ytcmjoaepihbodaa
open Go.RowKit Go.BigFrame Go.Sort Go.Shelf Go.Lib Go.Maps
abbrev Nm := List UInt8
/-- a file of the disk, with the block of its struct and the slice that holds its bytes. -/
structure Fd where
  name : Nm
  data : List UInt8
  synced : Int
  blk : Nat
  sl : Value
structure Dk where
  ns : List Fd
  ops : Int
  room : Int
  keep : List Int
  done : Int
  bytes : Int
  down : Bool
def findF (x : Nm) : List Fd → Option Fd
  | [] => none
  | f :: l => if f.name = x then some f else findF x l
def insF (f : Fd) : List Fd → List Fd
  | [] => [f]
  | g :: l => if f.name < g.name then f :: g :: l else if f.name = g.name then f :: l else g :: insF f l
def delF (x : Nm) : List Fd → List Fd
  | [] => []
  | f :: l => if f.name = x then delF x l else f :: delF x l
def updF (x : Nm) (g : Fd → Fd) (ns : List Fd) : List Fd := ns.map fun f => if f.name = x then g f else f
def sortedF (ns : List Fd) : Prop := ns.Pairwise fun a b => a.name < b.name
def ptrF (o : Option Fd) : Value := .pointer (o.map fun f => (⟨f.blk, 0, none⟩ : Addr))
/-- how a pointer to a file reads in the map's datum. -/
def ptrR : Value → Option (DataW Unit × List MemPlace)
  | .pointer none => some (.lit (.bool false), [])
  | .pointer (some ⟨b, 0, none⟩) => some (.lit (.int .i64 b), [])
  | _ => none
def datF (o : Option Fd) : DataW Unit := match o with | some f => .lit (.int .i64 f.blk) | none => .lit (.bool false)
theorem ptrR_ptrF (o : Option Fd) : ptrR (ptrF o) = some (datF o, []) := by cases o <;> rfl
theorem ptrR_inv {v : Value} {o : Option Fd} {ps : List MemPlace} (h : ptrR v = some (datF o, ps)) : v = ptrF o := by
  unfold ptrR at h
  split at h
  · cases o with
    | none => rfl
    | some f => simp [datF] at h
  · cases o with
    | none => simp [datF] at h
    | some f =>
      simp only [datF, Option.some.injEq, Prod.mk.injEq, DataW.lit.injEq, Lit.int.injEq, true_and] at h
      obtain ⟨h, _⟩ := h
      have h : _ = f.blk := Int.ofNat.inj h
      subst h
      rfl
  · cases h
/-- the datum of the map reads as these files. -/
structure MapIs (D : DataW Unit) (ns : List Fd) : Prop where
  at_ : ∀ x, D.atKey (.string x) (.lit (.bool false)) = datF (findF x ns)
  has : ∀ x, Maps.has D (.string x) = (findF x ns).isSome
  size : Maps.size D = ns.length
theorem find_ins (x : Nm) (f : Fd) (ns : List Fd) : findF x (insF f ns) = if f.name = x then some f else findF x ns := by
  induction ns with
  | nil => rfl
  | cons g l ih =>
    unfold insF
    split
    · rfl
    · split
      · rename_i h1 h2
        simp only [findF, h2]
        split <;> rfl
      · rename_i h1 h2
        simp only [findF, ih]
        by_cases hg : g.name = x
        · have : ¬ f.name = x := fun e => h2 (e.trans hg.symm)
          simp only [if_pos hg, if_neg this]
        · simp only [if_neg hg]
theorem find_del (x y : Nm) (ns : List Fd) : findF x (delF y ns) = if x = y then none else findF x ns := by
  induction ns with
  | nil => simp [delF, findF]
  | cons g l ih =>
    unfold delF
    split
    · rename_i h
      rw [ih]
      by_cases hx : x = y
      · simp only [if_pos hx]
      · have : ¬ g.name = x := fun e => hx (e.symm.trans h)
        simp only [if_neg hx, findF, if_neg this]
    · rename_i h
      simp only [findF, ih]
      by_cases hg : g.name = x
      · have : ¬ x = y := fun e => h (hg.trans e)
        simp only [if_pos hg, if_neg this]
      · simp only [if_neg hg]
theorem find_upd (x y : Nm) (g : Fd → Fd) (hg : ∀ f, (g f).name = f.name) (ns : List Fd) : findF x (updF y g ns) = if x = y then (findF x ns).map g else findF x ns := by
  induction ns with
  | nil => simp [updF, findF]
  | cons f l ih =>
    have e : updF y g (f :: l) = (if f.name = y then g f else f) :: updF y g l := rfl
    rw [e]
    simp only [findF, ih]
    by_cases hf : f.name = y
    · simp only [if_pos hf, hg]
      by_cases hx : f.name = x
      · simp [hx, hf.symm.trans hx]
      · simp only [if_neg hx]
    · simp only [if_neg hf]
      by_cases hx : f.name = x
      · have : ¬ x = y := fun e => hf (hx.trans e)
        simp only [if_pos hx, if_neg this]
      · simp only [if_neg hx]
theorem find_name {x : Nm} {ns : List Fd} {f : Fd} (h : findF x ns = some f) : f.name = x ∧ f ∈ ns := by
  induction ns with
  | nil => cases h
  | cons g l ih =>
    unfold findF at h
    split at h
    · injection h with h
      subst h
      exact ⟨by assumption, List.mem_cons_self⟩
    · exact ⟨(ih h).1, List.mem_cons_of_mem _ (ih h).2⟩
theorem find_none {x : Nm} {ns : List Fd} : findF x ns = none ↔ ∀ f ∈ ns, f.name ≠ x := by
  induction ns with
  | nil => simp [findF]
  | cons g l ih =>
    unfold findF
    split
    · rename_i h
      simp [h]
    · rename_i h
      simp [ih, h]
theorem mem_ins {f g : Fd} {ns : List Fd} (h : g ∈ insF f ns) : g = f ∨ g ∈ ns := by
  induction ns with
  | nil => simpa [insF] using h
  | cons a l ih =>
    unfold insF at h
    split at h
    · simpa using h
    · split at h
      · rcases List.mem_cons.1 h with h | h
        · exact .inl h
        · exact .inr (List.mem_cons_of_mem _ h)
      · rcases List.mem_cons.1 h with h | h
        · exact .inr (by rw [h]; exact List.mem_cons_self)
        · rcases ih h with h | h
          · exact .inl h
          · exact .inr (List.mem_cons_of_mem _ h)
theorem mem_del {y : Nm} {g : Fd} {ns : List Fd} : g ∈ delF y ns ↔ g ∈ ns ∧ g.name ≠ y := by
  induction ns with
  | nil => simp [delF]
  | cons a l ih =>
    unfold delF
    split
    · rename_i h
      simp only [ih, List.mem_cons]
      exact ⟨fun ⟨h1, h2⟩ => ⟨.inr h1, h2⟩, fun ⟨h1, h2⟩ => ⟨h1.resolve_left (fun e => h2 (e ▸ h)), h2⟩⟩
    · rename_i h
      simp only [List.mem_cons, ih]
      exact ⟨fun h1 => h1.elim (fun e => ⟨.inl e, e ▸ h⟩) (fun h => ⟨.inr h.1, h.2⟩), fun ⟨h1, h2⟩ => h1.elim .inl (fun h => .inr ⟨h, h2⟩)⟩
theorem sub_del (y : Nm) (ns : List Fd) : (delF y ns).Sublist ns := by
  induction ns with
  | nil => exact .slnil
  | cons a l ih => unfold delF; split; exact .cons _ ih; exact .cons_cons _ ih
theorem lt_tri (a b : Nm) (h1 : ¬ a < b) (h2 : ¬ a = b) : b < a := by
  rcases Std.lt_trichotomy a b with h | h | h
  · exact absurd h h1
  · exact absurd h h2
  · exact h
theorem sorted_ins {f : Fd} {ns : List Fd} (h : sortedF ns) : sortedF (insF f ns) := by
  induction ns with
  | nil => exact List.pairwise_singleton _ _
  | cons a l ih =>
    have ha := (List.pairwise_cons.1 h).1
    have hl := (List.pairwise_cons.1 h).2
    unfold insF
    split
    · rename_i h1
      refine List.pairwise_cons.2 ⟨fun x hx => ?_, h⟩
      rcases List.mem_cons.1 hx with rfl | hx
      · exact h1
      · exact List.lt_trans h1 (ha x hx)
    · split
      · rename_i h1 h2
        exact List.pairwise_cons.2 ⟨fun x hx => by show f.name < x.name; rw [h2]; exact ha x hx, hl⟩
      · rename_i h1 h2
        refine List.pairwise_cons.2 ⟨fun x hx => ?_, ih hl⟩
        rcases mem_ins hx with rfl | hx
        · exact lt_tri _ _ h1 h2
        · exact ha x hx
theorem sorted_del {y : Nm} {ns : List Fd} (h : sortedF ns) : sortedF (delF y ns) := h.sublist (sub_del y ns)
theorem sorted_upd {y : Nm} {g : Fd → Fd} (hg : ∀ f, (g f).name = f.name) {ns : List Fd} (h : sortedF ns) : sortedF (updF y g ns) := by
  unfold sortedF updF
  rw [List.pairwise_map]
  refine h.imp fun {a b} hab => ?_
  show (if a.name = y then g a else a).name < (if b.name = y then g b else b).name
  have e : ∀ f : Fd, (if f.name = y then g f else f).name = f.name := fun f => by split <;> simp [hg]
  rw [e, e]
  exact hab
end Go.Proofs.Ytcmjoaepihbodaa
end
