/-
usanceref10.One: a copy of an entry.
-/
import Derived.Shelf.Small.Wraps
import Derived.Shelf.GgClosure.StringsIndexFunc
import Derived.Ground.GgwProg
import Derived.Shelf.GgClosure.StringsIndexFuncTop
import Derived.Ground.Names2Prog
import Derived.Shelf.Slices.Clone
import Derived.Shelf.Slices.SearchI
import Derived.Ground.SlgnProg
import Derived.Shelf.SlicesE.Clone
import Derived.Ground.SlgfProg
import Derived.Shelf.SlicesE.IndexFunc
import Derived.Shelf.Bytes.SlEqualAll
import Derived.Shelf.Bytes.Small
import Derived.Test.YtiffgjodbcploaaProg
import Derived.Test.YtiffgjodbcploaaQPOwnUpto0
import Derived.Lib.BytesEntry
import Derived.Shelf.Bytes.SlSmallAll
import Derived.Laws.IdiomStrings
import Derived.Laws.Externs
import Derived.LoopTactic
import Derived.Deep.LoopGhost
import Derived.Laws.AppendOwn
import Derived.Maps.AppendAt
import Derived.Deep.RegionHeld3
import Derived.Deep.DrawnRows
import Derived.StillTactics
import Derived.Laws.Pointers
import Derived.Deep.RegionWith
import Derived.Deep.RegionLaw
import Derived.OwnWalk
import Derived.Laws.Rows
section
namespace Go.Proofs
open Go.Shelf
def Try.lays215_ren : Go.Shelf.Ren := ⟨fun | 215 => 87 | n => n, fun | 3 => 3 | 4 => 4 | n => n, fun | n => n⟩
theorem Try.lays215 : Go.Proofs.Lays.n215 Try.prog Try.lays215_ren := {
  mixed := by kernel_rfl
  f215 := Try.func87.trans (congrArg some (by kernel_rfl))
  t3 := Try.underlying3
  a3 := Try.isAgg3
  z3 := Try.sizeOf3
  v3 := Try.zeroValue3
  t4 := Try.underlying4
  a4 := Try.isAgg4
  z4 := Try.sizeOf4
  v4 := Try.zeroValue4 }
open Go.RowKit in
theorem Try.cmp_isNaN_int (x : Int) (w : World) :
    Calls Try.prog 87 #[.int .i64 x] w fun e w' => e = .returned (.bool false) ∧ w' = w := Any.cmp_isNaN_int Try.lays215 x w
def Try.lays122_ren : Go.Shelf.Ren := ⟨fun | 122 => 77 | 215 => 87 | n => n, fun | 3 => 3 | 4 => 4 | n => n, fun | n => n⟩
theorem Try.lays122 : Go.Proofs.Lays.n122 Try.prog Try.lays122_ren := {
  mixed := by kernel_rfl
  f122 := Try.func77.trans (congrArg some (by kernel_rfl))
  f215 := Try.func87.trans (congrArg some (by kernel_rfl))
  t3 := Try.underlying3
  a3 := Try.isAgg3
  z3 := Try.sizeOf3
  v3 := Try.zeroValue3
  t4 := Try.underlying4
  a4 := Try.isAgg4
  z4 := Try.sizeOf4
  v4 := Try.zeroValue4 }
open Go.RowKit in
theorem Try.cmp_Compare_int (x y : Int) (w : World) :
    Calls Try.prog 77 #[.int .i64 x, .int .i64 y] w fun e w' => e = .returned (.int .i64 (Lib.compareInt x y)) ∧ w' = w := Any.cmp_Compare_int Try.lays122 x y w
def Try.lays315_ren : Go.Shelf.Ren := ⟨fun | 315 => 92 | n => n, fun | 9 => 9 | 40 => 147 | 4 => 4 | 3 => 3 | 0 => 0 | 21 => 21 | n => n, fun | n => n⟩
theorem Try.lays315 : Go.Proofs.Lays.n315 Try.prog Try.lays315_ren := {
  mixed := by kernel_rfl
  f315 := Try.func92.trans (congrArg some (by kernel_rfl))
  t0 := Try.underlying0
  a0 := Try.isAgg0
  z0 := Try.sizeOf0
  v0 := Try.zeroValue0
  t3 := Try.underlying3
  a3 := Try.isAgg3
  z3 := Try.sizeOf3
  v3 := Try.zeroValue3
  t4 := Try.underlying4
  a4 := Try.isAgg4
  z4 := Try.sizeOf4
  v4 := Try.zeroValue4
  t9 := Try.underlying9
  a9 := Try.isAgg9
  z9 := Try.sizeOf9
  v9 := Try.zeroValue9
  t21 := Try.underlying21
  a21 := Try.isAgg21
  z21 := Try.sizeOf21
  v21 := Try.zeroValue21
  t40 := Try.underlying147
  a40 := Try.isAgg147
  z40 := Try.sizeOf147
  v40 := Try.zeroValue147 }
open Go.RowKit Go.Lib in
theorem Try.strings_indexFunc (g : Nat) (lb : Array Value) (eg : ∀ args w, (callFunc g args).run Try.prog w = .ok (.enter g args) w) (p : Nat → Bool) (truth : Bool) (s : ByteArray) (w : World) (hp : PredAt Try.prog g lb encR p w) :
    Calls Try.prog 92 #[.string s, .func (.func g) #[] lb, .bool truth] w fun e w' => e = .returned (.int .i64 (Lib.idxFunc p truth s)) ∧ Below w.heap.size w w' := Any.strings_indexFunc Try.lays315 g lb eg p truth s w hp
def Try.laysGw15_ren : Go.Shelf.Ren := ⟨fun | 15 => 91 | 20 => 92 | n => n, fun | 9 => 9 | 23 => 147 | 3 => 3 | 4 => 4 | 0 => 0 | 21 => 21 | n => n, fun | n => n⟩
theorem Try.laysGw15 : Go.Proofs.LaysGw.n15 Try.prog Try.laysGw15_ren := {
  mixed := by kernel_rfl
  f15 := Try.func91.trans (congrArg some (by kernel_rfl))
  f20 := Try.func92.trans (congrArg some (by kernel_rfl))
  t0 := Try.underlying0
  a0 := Try.isAgg0
  z0 := Try.sizeOf0
  v0 := Try.zeroValue0
  i0 := by kernel_rfl
  t3 := Try.underlying3
  a3 := Try.isAgg3
  z3 := Try.sizeOf3
  v3 := Try.zeroValue3
  i3 := by kernel_rfl
  t4 := Try.underlying4
  a4 := Try.isAgg4
  z4 := Try.sizeOf4
  v4 := Try.zeroValue4
  i4 := by kernel_rfl
  t9 := Try.underlying9
  a9 := Try.isAgg9
  z9 := Try.sizeOf9
  v9 := Try.zeroValue9
  i9 := by kernel_rfl
  t21 := Try.underlying21
  a21 := Try.isAgg21
  z21 := Try.sizeOf21
  v21 := Try.zeroValue21
  i21 := by kernel_rfl
  t23 := Try.underlying147
  a23 := Try.isAgg147
  z23 := Try.sizeOf147
  v23 := Try.zeroValue147
  i23 := by kernel_rfl }
open Go.RowKit Go.Lib in
theorem Try.strings_IndexFunc (g : Nat) (lb : Array Value) (eg : ∀ args w, (callFunc g args).run Try.prog w = .ok (.enter g args) w) (p : Nat → Bool) (s : ByteArray) (w : World) (hp : PredAt Try.prog g lb encR p w) :
    Calls Try.prog 91 #[.string s, .func (.func g) #[] lb] w fun e w' => e = .returned (.int .i64 (Lib.idxFunc p true s)) ∧ Below w.heap.size w w' := Any.strings_IndexFunc Try.laysGw15 g lb eg p s w hp
def Try.laysGw17_ren : Go.Shelf.Ren := ⟨fun | 17 => 85 | 15 => 91 | 20 => 92 | n => n, fun | 9 => 9 | 23 => 147 | 4 => 4 | 3 => 3 | 0 => 0 | 21 => 21 | n => n, fun | n => n⟩
theorem Try.laysGw17 : Go.Proofs.LaysGw.n17 Try.prog Try.laysGw17_ren := {
  mixed := by kernel_rfl
  f15 := Try.func91.trans (congrArg some (by kernel_rfl))
  f17 := Try.func85.trans (congrArg some (by kernel_rfl))
  f20 := Try.func92.trans (congrArg some (by kernel_rfl))
  t0 := Try.underlying0
  a0 := Try.isAgg0
  z0 := Try.sizeOf0
  v0 := Try.zeroValue0
  i0 := by kernel_rfl
  t3 := Try.underlying3
  a3 := Try.isAgg3
  z3 := Try.sizeOf3
  v3 := Try.zeroValue3
  i3 := by kernel_rfl
  t4 := Try.underlying4
  a4 := Try.isAgg4
  z4 := Try.sizeOf4
  v4 := Try.zeroValue4
  i4 := by kernel_rfl
  t9 := Try.underlying9
  a9 := Try.isAgg9
  z9 := Try.sizeOf9
  v9 := Try.zeroValue9
  i9 := by kernel_rfl
  t21 := Try.underlying21
  a21 := Try.isAgg21
  z21 := Try.sizeOf21
  v21 := Try.zeroValue21
  i21 := by kernel_rfl
  t23 := Try.underlying147
  a23 := Try.isAgg147
  z23 := Try.sizeOf147
  v23 := Try.zeroValue147
  i23 := by kernel_rfl }
open Go.RowKit Go.Lib in
theorem Try.strings_ContainsFunc (g : Nat) (lb : Array Value) (eg : ∀ args w, (callFunc g args).run Try.prog w = .ok (.enter g args) w) (p : Nat → Bool) (s : ByteArray) (w : World) (hp : PredAt Try.prog g lb encR p w) :
    Calls Try.prog 85 #[.string s, .func (.func g) #[] lb] w fun e w' => e = .returned (.bool (decide (0 ≤ Lib.idxFunc p true s))) ∧ Below w.heap.size w w' := Any.strings_ContainsFunc Try.laysGw17 g lb eg p s w hp
def Try.laysNm215_ren : Go.Shelf.Ren := ⟨fun | 15 => 67 | n => n, fun | 22 => 55 | 3 => 3 | 4 => 4 | n => n, fun | n => n⟩
theorem Try.laysNm215 : Go.Proofs.Lays2.n15 Try.prog Try.laysNm215_ren := {
  mixed := by kernel_rfl
  f15 := Try.func67.trans (congrArg some (by kernel_rfl))
  t3 := Try.underlying3
  a3 := Try.isAgg3
  z3 := Try.sizeOf3
  v3 := Try.zeroValue3
  t4 := Try.underlying4
  a4 := Try.isAgg4
  z4 := Try.sizeOf4
  v4 := Try.zeroValue4
  t22 := Try.underlying55
  a22 := Try.isAgg55
  z22 := Try.sizeOf55
  v22 := Try.zeroValue55
  i3 := by kernel_rfl }
open Go.RowKit Go.Lib in
theorem Try.slices_Clone_int (b off n c : Nat) (zs : List Int) (w : World) (hz : n ≤ zs.length) (hbig : n * 8 ≤ 140737488355328) (hc : ∀ j, j < zs.length → w.cell? ⟨b, off + j, none⟩ = some (.int .i64 (zs.getD j 0))) :
    Calls Try.prog 67 #[.slice (some ⟨b, off, none⟩) n c] w fun e w' => ∃ v', e = .returned v' ∧ w'.ownsRow w.heap.size 3 1 v' n ((zs.take n).map (Value.int .i64)) ∧ v' ≠ .slice none 0 0 ∧ Below w.heap.size w w' := Any.slices_Clone_int Try.laysNm215 b off n c zs w hz hbig hc
open Go.RowKit Go.Lib in
theorem Try.slices_Clone_int_nil (n c : Nat) (w : World) :
    Calls Try.prog 67 #[.slice none n c] w fun e w' => e = .returned (.slice none 0 0) ∧ w' = w := Any.slices_Clone_int_nil Try.laysNm215 n c w
open Go.RowKit Go.Lib in
theorem Try.slices_Clone_int_zero (a : Addr) (c : Nat) (w : World) :
    Calls Try.prog 67 #[.slice (some a) 0 c] w fun e w' => ∃ v', e = .returned v' ∧ w'.ownsRow w.heap.size 3 1 v' 0 [] ∧ v' ≠ .slice none 0 0 ∧ Below w.heap.size w w' := Any.slices_Clone_int_zero Try.laysNm215 a c w
def Try.laysNm237_ren : Go.Shelf.Ren := ⟨fun | 37 => 87 | n => n, fun | 3 => 3 | 4 => 4 | n => n, fun | n => n⟩
theorem Try.laysNm237 : Go.Proofs.Lays2.n37 Try.prog Try.laysNm237_ren := {
  mixed := by kernel_rfl
  f37 := Try.func87.trans (congrArg some (by kernel_rfl))
  t3 := Try.underlying3
  a3 := Try.isAgg3
  z3 := Try.sizeOf3
  v3 := Try.zeroValue3
  t4 := Try.underlying4
  a4 := Try.isAgg4
  z4 := Try.sizeOf4
  v4 := Try.zeroValue4 }
open Go.RowKit Go.Lib in
theorem Try.cmp_isNaN_int2 (x : Int) (w : World) :
    Calls Try.prog 87 #[.int .i64 x] w fun e w' => e = .returned (.bool false) ∧ w' = w := Any.cmp_isNaN_int2 Try.laysNm237 x w
def Try.laysSlE041_f67_ren : Go.Shelf.Ren := ⟨fun | 41 => 67 | n => n, fun | 22 => 55 | 23 => 3 | 4 => 4 | n => n, fun | n => n⟩
theorem Try.laysSlE041_f67 : Go.Proofs.SlLaysE0.n41 Try.prog Try.laysSlE041_f67_ren := {
  mixed := by kernel_rfl
  f41 := ⟨Try.f67.name, by decide, Try.func67.trans (congrArg some (by kernel_rfl))⟩
  t4 := Try.underlying4
  a4 := Try.isAgg4
  z4 := Try.sizeOf4
  v4 := Try.zeroValue4
  t22 := Try.underlying55
  a22 := Try.isAgg55
  z22 := Try.sizeOf55
  v22 := Try.zeroValue55 }
open Go.RowKit Go.Lib in
theorem Try.slices_Clone (i0 : TypeInfo) (z : Value) (size bytes : Nat) (hi : Try.prog.info? 3 = some i0) (hz0 : i0.zero = some z) (hz1 : i0.size = size) (hz2 : i0.bytes = bytes) (hzs : z.cells.size = size) (hsz : 0 < size) (z23 : ∀ w, (Go.sizeOf 3).run Try.prog w = .ok size w) (b off n c : Nat) (news : List Value) (w : World) (hl : news.length = n * size) (hn : n ≤ maxLen) (hbig : n * bytes ≤ 140737488355328) (hc : ∀ j u, news[j]? = some u → w.cell? ⟨b, off + j, none⟩ = some u) (h1 : ∀ u ∈ news, u.oneCell' = true) :
    Calls Try.prog 67 #[.slice (some ⟨b, off, none⟩) n c] w fun e w' => ∃ v', e = .returned v' ∧ w'.ownsRow w.heap.size 3 size v' n news ∧ v' ≠ .slice none 0 0 ∧ Below w.heap.size w w' := AnyE.slices_Clone Try.laysSlE041_f67 i0 z size bytes hi hz0 hz1 hz2 hzs hsz z23 b off n c news w hl hn hbig hc h1
open Go.RowKit Go.Lib in
theorem Try.slices_Clone_nil (n c : Nat) (w : World) :
    Calls Try.prog 67 #[.slice none n c] w fun e w' => e = .returned (.slice none 0 0) ∧ w' = w := AnyE.slices_Clone_nil Try.laysSlE041_f67 n c w
def Try.laysSlH6_f84_ren : Go.Shelf.Ren := ⟨fun | 6 => 84 | n => n, fun | 22 => 129 | 23 => 9 | 25 => 131 | 3 => 3 | 0 => 0 | 4 => 4 | n => n, fun | n => n⟩
theorem Try.laysSlH6_f84 : Go.Proofs.SlLaysH.n6 Try.prog Try.laysSlH6_f84_ren := {
  mixed := by kernel_rfl
  f6 := ⟨Try.f84.name, by decide, Try.func84.trans (congrArg some (by kernel_rfl))⟩
  t0 := Try.underlying0
  a0 := Try.isAgg0
  z0 := Try.sizeOf0
  v0 := Try.zeroValue0
  t3 := Try.underlying3
  a3 := Try.isAgg3
  z3 := Try.sizeOf3
  v3 := Try.zeroValue3
  t4 := Try.underlying4
  a4 := Try.isAgg4
  z4 := Try.sizeOf4
  v4 := Try.zeroValue4
  t22 := Try.underlying129
  a22 := Try.isAgg129
  z22 := Try.sizeOf129
  v22 := Try.zeroValue129
  a23 := Try.isAgg9
  z23 := Try.sizeOf9
  t25 := Try.underlying131
  a25 := Try.isAgg131
  z25 := Try.sizeOf131
  v25 := Try.zeroValue131 }
open Go.RowKit Go.Lib in
theorem Try.slices_IndexFunc {α : Type} [Inhabited α] (enc : α → Value) (p : α → Bool) (g : Nat) (lb : Array Value) (eg : ∀ args w, (callFunc g args).run Try.prog w = .ok (.enter g args) w) (b off n c : Nat) (zs : List α) (w : World) (hp : PredAt Try.prog g lb enc p w) (hz : n ≤ zs.length) (hbig : n ≤ 9223372036854775807) (hc : ∀ j, j < zs.length → w.cell? ⟨b, off + j, none⟩ = some (enc zs[j]!)) :
    Calls Try.prog 84 #[.slice (some ⟨b, off, none⟩) n c, .func (.func g) #[] lb] w fun e w' => e = .returned (.int .i64 (Lib.idxBy (fun _ y => p y) (zs.take n) default)) ∧ ∃ q, w' = w.drewN q := AnyE.slices_IndexFunc Try.laysSlH6_f84 enc p g lb eg b off n c zs w hp hz hbig hc
open Go.RowKit Go.Lib in
theorem Try.slices_IndexFunc_empty {α : Type} [Inhabited α] (a : Option Addr) (c : Nat) (fv : Value) (w : World) :
    Calls Try.prog 84 #[.slice a 0 c, fv] w fun e w' => e = .returned (.int .i64 (-1)) ∧ w' = w := AnyE.slices_IndexFunc_empty Try.laysSlH6_f84 a c fv w
def Try.laysSlH8_f72_ren : Go.Shelf.Ren := ⟨fun | 8 => 72 | 6 => 84 | n => n, fun | 22 => 129 | 23 => 9 | 25 => 131 | 4 => 4 | 3 => 3 | 0 => 0 | n => n, fun | n => n⟩
theorem Try.laysSlH8_f72 : Go.Proofs.SlLaysH.n8 Try.prog Try.laysSlH8_f72_ren := {
  mixed := by kernel_rfl
  f6 := ⟨Try.f84.name, by decide, Try.func84.trans (congrArg some (by kernel_rfl))⟩
  f8 := ⟨Try.f72.name, by decide, Try.func72.trans (congrArg some (by kernel_rfl))⟩
  t0 := Try.underlying0
  a0 := Try.isAgg0
  z0 := Try.sizeOf0
  v0 := Try.zeroValue0
  t3 := Try.underlying3
  a3 := Try.isAgg3
  z3 := Try.sizeOf3
  v3 := Try.zeroValue3
  t4 := Try.underlying4
  a4 := Try.isAgg4
  z4 := Try.sizeOf4
  v4 := Try.zeroValue4
  t22 := Try.underlying129
  a22 := Try.isAgg129
  z22 := Try.sizeOf129
  v22 := Try.zeroValue129
  a23 := Try.isAgg9
  z23 := Try.sizeOf9
  t25 := Try.underlying131
  a25 := Try.isAgg131
  z25 := Try.sizeOf131
  v25 := Try.zeroValue131 }
open Go.RowKit Go.Lib in
theorem Try.slices_ContainsFunc {α : Type} [Inhabited α] (enc : α → Value) (p : α → Bool) (g : Nat) (lb : Array Value) (eg : ∀ args w, (callFunc g args).run Try.prog w = .ok (.enter g args) w) (b off n c : Nat) (zs : List α) (w : World) (hp : PredAt Try.prog g lb enc p w) (hz : n ≤ zs.length) (hbig : n ≤ 9223372036854775807) (hc : ∀ j, j < zs.length → w.cell? ⟨b, off + j, none⟩ = some (enc zs[j]!)) :
    Calls Try.prog 72 #[.slice (some ⟨b, off, none⟩) n c, .func (.func g) #[] lb] w fun e w' => e = .returned (.bool ((zs.take n).any p)) ∧ ∃ q, w' = w.drewN q := AnyE.slices_ContainsFunc Try.laysSlH8_f72 enc p g lb eg b off n c zs w hp hz hbig hc
open Go.RowKit Go.Lib in
theorem Try.slices_ContainsFunc_empty {α : Type} [Inhabited α] (a : Option Addr) (c : Nat) (fv : Value) (w : World) :
    Calls Try.prog 72 #[.slice a 0 c, fv] w fun e w' => e = .returned (.bool false) ∧ w' = w := AnyE.slices_ContainsFunc_empty Try.laysSlH8_f72 a c fv w
def Try.laysnb115_ren : Go.Shelf.Ren := ⟨fun | 115 => 27 | n => n, fun | 37 => 23 | 4 => 4 | 9 => 9 | 5 => 5 | n => n, fun | n => n⟩
theorem Try.laysnb115 : Go.Proofs.Lays.nb115 Try.prog Try.laysnb115_ren := {
  mixed := by kernel_rfl
  f115 := Try.func27.trans (congrArg some (by kernel_rfl))
  t4 := Try.underlying4
  a4 := Try.isAgg4
  z4 := Try.sizeOf4
  v4 := Try.zeroValue4
  t9 := Try.underlying9
  a9 := Try.isAgg9
  z9 := Try.sizeOf9
  v9 := Try.zeroValue9
  t37 := Try.underlying23
  a37 := Try.isAgg23
  z37 := Try.sizeOf23
  v37 := Try.zeroValue23
  t5 := Try.underlying5
  a5 := Try.isAgg5
  z5 := Try.sizeOf5
  v5 := Try.zeroValue5 }
theorem Try.bytes_Equal_all (p1 p2 : Option Addr) (n c m d : Nat) (xs ys : List Int) (w : World) (hx : xs.length = n) (hy : ys.length = m) (h1 : Lib.BytesIn w p1 n xs) (h2 : Lib.BytesIn w p2 m ys) :
    Calls Try.prog 27 #[.slice p1 n c, .slice p2 m d] w fun e w' => e = .returned (.bool (Lib.bytesOf xs == Lib.bytesOf ys)) ∧ w' = w := Any.bytes_Equal_all Try.laysnb115 p1 p2 n c m d xs ys w hx hy h1 h2
def Try.lays115_ren : Go.Shelf.Ren := ⟨fun | 115 => 27 | n => n, fun | 37 => 23 | 4 => 4 | 9 => 9 | 5 => 5 | n => n, fun | n => n⟩
theorem Try.lays115 : Go.Proofs.Lays.n115 Try.prog Try.lays115_ren := {
  mixed := by kernel_rfl
  f115 := Try.func27.trans (congrArg some (by kernel_rfl))
  t4 := Try.underlying4
  a4 := Try.isAgg4
  z4 := Try.sizeOf4
  v4 := Try.zeroValue4
  t9 := Try.underlying9
  a9 := Try.isAgg9
  z9 := Try.sizeOf9
  v9 := Try.zeroValue9
  t37 := Try.underlying23
  a37 := Try.isAgg23
  z37 := Try.sizeOf23
  v37 := Try.zeroValue23 }
theorem Try.bytes_Equal (v1 v2 : Value) (xs ys : List Int) (w : World) (h1 : (convert 23 9 v1).run Try.prog w = .ok (.string (strOfNums xs)) w) (h2 : (convert 23 9 v2).run Try.prog w = .ok (.string (strOfNums ys)) w) :
    Calls Try.prog 27 #[v1, v2] w fun e w' => e = .returned (.bool (Lib.bytesOf xs == Lib.bytesOf ys)) ∧ w' = w := Any.bytes_Equal Try.lays115 v1 v2 xs ys w h1 h2
end Go.Proofs
end
section
namespace Go.Proofs.Ytiffgjodbcploaa
open Go.RowKit
theorem cmp_lists (l m : List UInt8) : Extern.BytealgCompare.cmp ⟨l.toArray⟩ ⟨m.toArray⟩ = cmpB l m := by
  unfold Extern.BytealgCompare.cmp
  simp only [ba_get, ba_size]
  induction l generalizing m with
  | nil => cases m <;> simp [cmpB]
  | cons x l ih =>
    cases m with
    | nil => simp [cmpB]
    | cons y m =>
      have ih := ih m
      have e : min (x :: l).length (y :: m).length = min l.length m.length + 1 := by simp
      rw [e, List.range_succ_eq_map, List.find?_cons]
      by_cases hxy : x = y
      · subst hxy
        have h0 : ((x :: l).getD 0 default != (x :: m).getD 0 default) = false := by simp
        rw [h0]
        simp only [List.find?_map, Function.comp_def, Nat.succ_eq_add_one, List.getD_cons_succ]
        simp only [cmpB, UInt8.lt_irrefl, if_false]
        rw [← ih]
        rcases (List.range (min l.length m.length)).find? (fun i => l.getD i default != m.getD i default) with _ | i
        · simp
        · simp
      · have h0 : ((x :: l).getD 0 default != (y :: m).getD 0 default) = true := by simpa using hxy
        rw [h0]
        simp only [cmpB, List.getD_cons_zero]
        by_cases h1 : x < y
        · simp [h1]
        · have h2 : y < x := by
            rcases UInt8.lt_or_lt_of_ne hxy with h | h
            · exact absurd h h1
            · exact h
          simp [h1, h2]
set_option maxHeartbeats 1000000 in
theorem bcompare_any (S S' : Nat → Prop) (v v' : Value) (xs ys : List UInt8) (w : World) (hx : Byt w S v xs) (hy : Byt w S' v' ys) :
    Calls Try.prog 45 #[v, v'] w fun e w' => e = .returned (.int .i64 (cmpB xs ys)) ∧ w = w' := by
  have h1 := hx.bytesOf
  have h2 := hy.bytesOf
  have hrun : (Extern.BytealgCompare.compare #[v, v']).run Try.prog w = .ok (.int .i64 (cmpB xs ys)) w := by
    show Sem.run Try.prog (do pure (goInt (Extern.BytealgCompare.cmp (← Extern.Bytes.bytesOf v) (← Extern.Bytes.bytesOf v')))) w = _
    simp only [Sem.run_bind, h1, h2, Result.andThen, Sem.run_pure, cmp_lists]
    rfl
  have HR := Lib.hid hrun
  clear hrun h1 h2 hx hy
  go_enter Try.func45, Try.ntmps45
  go_wp2
  rw [run_callFunc_extern Try.func68 (by kernel_rfl) (by kernel_rfl) (by kernel_rfl) (e := Extern.BytealgCompare.compare) (by kernel_rfl), HR.out]
  simp only [Result.andThen]
  rw [Oper.upon_value]
  go_wp2
  go_ret
  exact ⟨rfl, rfl⟩
theorem compareInt_eq (x y : Int) : Lib.compareInt x y = cmpI x y := by
  unfold Lib.compareInt cmpI
  split <;> (try split) <;> (try split) <;> (try split) <;> omega
/-- cmp.Or at two numbers -/
theorem info3 : (Try.prog.info? 3).map (fun i => (i.zero, i.size, i.bytes)) = some (some (.int .i64 0), 1, 8) := by kernel_rfl
def orI (a b : Int) : Int := if a = 0 then b else a
set_option maxHeartbeats 1000000 in
theorem or2_any (a b : Int) (g : Nat) (w : World) (h0 : w.cell? ⟨g, 0, none⟩ = some (.int .i64 a)) (h1 : w.cell? ⟨g, 1, none⟩ = some (.int .i64 b)) :
    Calls Try.prog 76 #[.slice (some ⟨g, 0, none⟩) 2 2] w fun e w' => e = .returned (.int .i64 (orI a b)) ∧ w = w' := by
  rcases ha : (a != 0) with _ | _
  · have e : a = 0 := by simpa using ha
    subst e
    rcases hb : (b != 0) with _ | _
    · have e : b = 0 := by simpa using hb
      subst e
      go_enter Try.func76, Try.ntmps76
      go_wp2
      refine wp_loop_rounds 3 ?_
      rw [rounds_succ]
      go_wp2
      rw [rounds_succ]
      go_wp2
      rw [rounds_succ]
      go_wp2
      go_ret
      exact ⟨rfl, rfl⟩
    · go_enter Try.func76, Try.ntmps76
      go_wp2
      refine wp_loop_rounds 2 ?_
      rw [rounds_succ]
      go_wp2
      rw [rounds_succ]
      go_wp2
      go_ret
      exact ⟨rfl, rfl⟩
  · have hn : ¬ a = 0 := by simpa using ha
    rw [show orI a b = a from if_neg hn]
    clear hn
    go_enter Try.func76, Try.ntmps76
    go_wp2
    refine wp_loop_rounds 1 ?_
    rw [rounds_succ]
    go_wp2
    go_ret
    exact ⟨rfl, rfl⟩
set_option maxHeartbeats 1000000 in
theorem less_ba (A B : ByteArray) (w : World) (hx : A.size ≤ 140737488355328) (hy : B.size ≤ 140737488355328) :
    Calls Try.prog 23 #[.string A, .string B] w fun e w' => e = .returned (.int .i64 (cmpB A.data.toList B.data.toList)) ∧ ∃ q, w' = w.drewN q := by
  go_enter Try.func23, Try.ntmps23
  go_wp2
  go_loopw [5] (fun t wr => ∃ k q : Nat, k ≤ A.size ∧ k ≤ B.size ∧ t = .int .i64 k ∧ cmpB A.data.toList B.data.toList = cmpB (A.data.toList.drop k) (B.data.toList.drop k) ∧ wr = w.drewN q) (fun t _ => A.size - (intOf t).toNat)
  case atStart => exact ⟨0, 0, by omega, by omega, rfl, rfl, rfl⟩
  case round =>
    obtain ⟨k, q, hk, hk', rfl, hpre, rfl⟩ := hrel
    have hp := Lib.hid hpre
    clear hpre
    by_cases h1 : k < A.size
    · by_cases h2 : k < B.size
      · have ea := Lib.hid (drop_at A k h1)
        have eb := Lib.hid (drop_at B k h2)
        by_cases h3 : (A[k].toNat : Int) < (B[k].toNat : Int)
        · go_wp2
          go_quiet (fail)
          go_wp2
          go_ret
          refine ⟨ret_int ?_, _, World.drewN_drewN _ _ _⟩
          rw [hp.out, ea.out, eb.out]
          simp only [cmpB]
          rw [if_pos (UInt8.lt_iff_toNat_lt.2 (by omega))]
        · by_cases h4 : (B[k].toNat : Int) < (A[k].toNat : Int)
          · go_wp2
            go_quiet (fail)
            go_wp2
            go_quiet (fail)
            go_wp2
            go_ret
            refine ⟨ret_int ?_, _, (World.drewN_drewN _ _ _).trans (World.drewN_drewN _ _ _)⟩
            rw [hp.out, ea.out, eb.out]
            simp only [cmpB]
            rw [if_neg (fun h => by have := UInt8.lt_iff_toNat_lt.1 h; omega), if_pos (UInt8.lt_iff_toNat_lt.2 (by omega))]
          · go_wp2
            go_quiet (fail)
            go_wp2
            go_quiet (fail)
            go_wp2
            refine ⟨⟨k + 1, _, by omega, by omega, by go_num, ?_, rfl⟩, by simp [intOf]; omega⟩
            rw [hp.out, ea.out, eb.out]
            simp only [cmpB]
            rw [if_neg (fun h => by have := UInt8.lt_iff_toNat_lt.1 h; omega), if_neg (fun h => by have := UInt8.lt_iff_toNat_lt.1 h; omega)]
      · have h2' : B.size = k := by omega
        have eb : B.data.toList.drop k = [] := List.drop_eq_nil_of_le (by simp; omega)
        have ea := Lib.hid (drop_at A k h1)
        have EB := Lib.hid eb
        clear eb h2'
        go_wp2
        go_ret
        refine ⟨ret_int ?_, q, rfl⟩
        rw [hp.out, ea.out, EB.out]
        rfl
    · have h1' : k = A.size := by omega
      have ea : A.data.toList.drop k = [] := List.drop_eq_nil_of_le (by simp; omega)
      have EA := Lib.hid ea
      clear ea h1'
      by_cases h2 : k < B.size
      · have eb := Lib.hid (drop_at B k h2)
        go_wp2
        go_ret
        refine ⟨ret_int ?_, q, rfl⟩
        rw [hp.out, EA.out, eb.out]
        rfl
      · have eb : B.data.toList.drop k = [] := List.drop_eq_nil_of_le (by simp; omega)
        have EB := Lib.hid eb
        clear eb
        go_wp2
        go_ret
        refine ⟨ret_int ?_, q, rfl⟩
        rw [hp.out, EA.out, EB.out]
        rfl
theorem less_any (xs ys : List UInt8) (w : World) (hx : xs.length ≤ 140737488355328) (hy : ys.length ≤ 140737488355328) :
    Calls Try.prog 23 #[.string ⟨xs.toArray⟩, .string ⟨ys.toArray⟩] w fun e w' => e = .returned (.int .i64 (cmpB xs ys)) ∧ ∃ q, w' = w.drewN q := by
  have h := less_ba ⟨xs.toArray⟩ ⟨ys.toArray⟩ w (by rw [ba_size]; exact hx) (by rw [ba_size]; exact hy)
  simpa using h
end Go.Proofs.Ytiffgjodbcploaa
end
section
namespace Go.Proofs.Ytiffgjodbcploaa
open Go.RowKit
attribute [local go_sem ↓] Go.wp_at_zero Go.wp_at_succ
/-- an entry by value -/
def EntV (w : World) (S : Nat → Prop) (v : Value) (e : Ent) : Prop :=
  ∃ k u, v = .agg #[k, .int .i64 e.seq, .bool e.dead, u] ∧ Byt w S k e.key ∧ Byt w S u e.val
theorem EntV.below {w w' : World} {S : Nat → Prop} {v : Value} {e : Ent} (h : EntV w S v e) (hb : Below w.heap.size w w') : EntV w' S v e := by
  obtain ⟨k, u, rfl, h1, h2⟩ := h
  exact ⟨k, u, rfl, h1.below hb, h2.below hb⟩
theorem EntV.mono {w : World} {S S' : Nat → Prop} {v : Value} {e : Ent} (h : EntV w S v e) (hS : ∀ i, S i → S' i) : EntV w S' v e := by
  obtain ⟨k, u, rfl, h1, h2⟩ := h
  exact ⟨k, u, rfl, h1.mono hS, h2.mono hS⟩
set_option maxHeartbeats 2000000 in
theorem good_raw (A A' : Option Addr) (n c m c' : Nat) (seq : Int) (dead : Bool) (w : World) (hn : n ≤ 140737488355328) (hm : m ≤ 140737488355328) :
    Calls Try.prog 55 #[.agg #[.slice A n c, .int .i64 seq, .bool dead, .slice A' m c']] w fun r w' => r = .returned (.bool (goodR n seq dead m)) ∧ w' = w.alloc (.cells #[.slice A n c, .int .i64 seq, .bool dead, .slice A' m c'] 34) := by
  rcases (by omega : n = 0 ∨ 200 < n ∨ (0 < n ∧ n ≤ 200)) with h1 | h1 | ⟨h1, h1'⟩
  · subst h1
    rw [goodR_f (by omega)]
    go_enter Try.func55, Try.ntmps55
    go_wp2
    go_ret
    exact ⟨rfl, rfl⟩
  · rw [goodR_f (by omega)]
    go_enter Try.func55, Try.ntmps55
    go_wp2
    go_ret
    exact ⟨rfl, rfl⟩
  · rcases (by omega : seq ≤ 0 ∨ 1099511627776 < seq ∨ (0 < seq ∧ seq ≤ 1099511627776)) with h2 | h2 | ⟨h2, h2'⟩
    · rw [goodR_f (by omega)]
      go_enter Try.func55, Try.ntmps55
      go_wp2
      go_ret
      exact ⟨rfl, rfl⟩
    · rw [goodR_f (by omega)]
      go_enter Try.func55, Try.ntmps55
      go_wp2
      go_ret
      exact ⟨rfl, rfl⟩
    · rcases (by omega : 4096 < m ∨ m ≤ 4096) with h3 | h3
      · rw [goodR_f (by omega)]
        go_enter Try.func55, Try.ntmps55
        go_wp2
        go_ret
        exact ⟨rfl, rfl⟩
      · cases dead
        · rw [goodR_t.2 ⟨h1, h1', h2, h2', h3, by simp⟩]
          go_enter Try.func55, Try.ntmps55
          go_wp2
          go_ret
          exact ⟨rfl, rfl⟩
        · rcases (by omega : m = 0 ∨ 0 < m) with h4 | h4
          · subst h4
            rw [goodR_t.2 ⟨h1, h1', h2, h2', h3, by simp⟩]
            go_enter Try.func55, Try.ntmps55
            go_wp2
            go_ret
            exact ⟨rfl, rfl⟩
          · rw [goodR_f (by simp; omega)]
            go_enter Try.func55, Try.ntmps55
            go_wp2
            go_ret
            exact ⟨rfl, rfl⟩
theorem good_any (S : Nat → Prop) (v : Value) (e : Ent) (w : World) (hv : EntV w S v e) :
    Calls Try.prog 55 #[v] w fun r w' => r = .returned (.bool (goodE e)) ∧ Below w.heap.size w w' := by
  obtain ⟨k, u, rfl, h1, h2⟩ := hv
  obtain ⟨A, c, rfl, _, _, hl1, _⟩ := h1
  obtain ⟨A', c', rfl, _, _, hl2, _⟩ := h2
  exact (good_raw A A' _ c _ c' e.seq e.dead w hl1 hl2).mono fun r w' ⟨h, h'⟩ => ⟨h, h' ▸ (Below.refl _ _).alloc (Nat.le_refl _) _⟩
set_option maxHeartbeats 2000000 in
theorem rgood_raw (A A' : Option Addr) (n c m c' : Nat) (seq : Int) (dead : Bool) (w : World) (hn : n ≤ 140737488355328) (hm : m ≤ 140737488355328) :
    Calls Try.prog 24 #[.agg #[.slice A n c, .int .i64 seq, .bool dead, .slice A' m c']] w fun r w' => r = .returned (.bool (goodR n seq dead m)) ∧ w' = w.alloc (.cells #[.slice A n c, .int .i64 seq, .bool dead, .slice A' m c'] 34) := by
  rcases (by omega : n = 0 ∨ 200 < n ∨ (0 < n ∧ n ≤ 200)) with h1 | h1 | ⟨h1, h1'⟩
  · subst h1
    rw [goodR_f (by omega)]
    go_enter Try.func24, Try.ntmps24
    go_wp2
    go_ret
    exact ⟨rfl, rfl⟩
  · rw [goodR_f (by omega)]
    go_enter Try.func24, Try.ntmps24
    go_wp2
    go_ret
    exact ⟨rfl, rfl⟩
  · rcases (by omega : seq ≤ 0 ∨ 1099511627776 < seq ∨ (0 < seq ∧ seq ≤ 1099511627776)) with h2 | h2 | ⟨h2, h2'⟩
    · rw [goodR_f (by omega)]
      go_enter Try.func24, Try.ntmps24
      go_wp2
      go_ret
      exact ⟨rfl, rfl⟩
    · rw [goodR_f (by omega)]
      go_enter Try.func24, Try.ntmps24
      go_wp2
      go_ret
      exact ⟨rfl, rfl⟩
    · rcases (by omega : 4096 < m ∨ m ≤ 4096) with h3 | h3
      · rw [goodR_f (by omega)]
        go_enter Try.func24, Try.ntmps24
        go_wp2
        go_ret
        exact ⟨rfl, rfl⟩
      · cases dead
        · rw [goodR_t.2 ⟨h1, h1', h2, h2', h3, by simp⟩]
          go_enter Try.func24, Try.ntmps24
          go_wp2
          go_ret
          exact ⟨rfl, rfl⟩
        · rcases (by omega : m = 0 ∨ 0 < m) with h4 | h4
          · subst h4
            rw [goodR_t.2 ⟨h1, h1', h2, h2', h3, by simp⟩]
            go_enter Try.func24, Try.ntmps24
            go_wp2
            go_ret
            exact ⟨rfl, rfl⟩
          · rw [goodR_f (by simp; omega)]
            have hm0 : ((m : Int) == 0) = false := by simp; omega
            go_enter Try.func24, Try.ntmps24
            go_wp2
            go_ret
            exact ⟨rfl, rfl⟩
theorem rgood_any (S : Nat → Prop) (v : Value) (e : Ent) (w : World) (hv : EntV w S v e) :
    Calls Try.prog 24 #[v] w fun r w' => r = .returned (.bool (goodE e)) ∧ Below w.heap.size w w' := by
  obtain ⟨k, u, rfl, h1, h2⟩ := hv
  obtain ⟨A, c, rfl, _, _, hl1, _⟩ := h1
  obtain ⟨A', c', rfl, _, _, hl2, _⟩ := h2
  exact (rgood_raw A A' _ c _ c' e.seq e.dead w hl1 hl2).mono fun r w' ⟨h, h'⟩ => ⟨h, h' ▸ (Below.refl _ _).alloc (Nat.le_refl _) _⟩
end Go.Proofs.Ytiffgjodbcploaa
end
section
namespace Go.Proofs.Ytiffgjodbcploaa
open Go.RowKit
attribute [local go_sem ↓] Go.wp_at_zero Go.wp_at_succ
theorem cmpc_any (x y : Int) (w : World) : Calls Try.prog 77 #[.int .i64 x, .int .i64 y] w fun e w' => e = .returned (.int .i64 (cmpI x y)) ∧ w = w' :=
  (Try.cmp_Compare_int x y w).mono fun _ _ ⟨h, h'⟩ => ⟨by rw [h, compareInt_eq], h'.symm⟩
set_option maxRecDepth 100000 in
set_option maxHeartbeats 4000000 in
theorem compare_any (S S' : Nat → Prop) (v v' : Value) (a b : Ent) (w : World) (hv : EntV w S v a) (hv' : EntV w S' v' b) :
    Calls Try.prog 54 #[v, v'] w fun r w' => r = .returned (.int .i64 (cmpE a b)) ∧ Below w.heap.size w w' := by
  obtain ⟨k1, u1, rfl, h1, _⟩ := hv
  obtain ⟨k2, u2, rfl, h2, _⟩ := hv'
  have hA : Below w.heap.size w ((w.alloc (.cells #[k1, .int .i64 a.seq, .bool a.dead, u1] 34)).alloc (.cells #[k2, .int .i64 b.seq, .bool b.dead, u2] 34)) := ((Below.refl _ _).alloc (Nat.le_refl _) _).alloc (by simp) _
  have HA := Lib.hid hA
  have H1 := Lib.hid (h1.below hA)
  have H2 := Lib.hid (h2.below hA)
  clear hA h1 h2
  go_enter Try.func54, Try.ntmps54
  go_wp2
  go_region_held3 (fun w' => w'.cell? ⟨w.heap.size, 0, none⟩ = some k1 ∧ w'.cell? ⟨w.heap.size, 1, none⟩ = some (.int .i64 a.seq) ∧ w'.cell? ⟨w.heap.size + 1, 0, none⟩ = some k2 ∧ w'.cell? ⟨w.heap.size + 1, 1, none⟩ = some (.int .i64 b.seq)) (go_keep)
    (first
      | (go_at_call 45; refine (bcompare_any S S' _ _ a.key b.key _ (by exact H1.out) (by exact H2.out)).mono ?_; rintro r w' ⟨rfl, rfl⟩)
      | (go_at_call 77; refine (cmpc_any _ _ _).mono ?_; rintro r w' ⟨rfl, rfl⟩)
      | (go_at_call 76; refine (or2_any (cmpB a.key b.key) (cmpI b.seq a.seq) _ _ ?_ ?_).mono ?_; (simp [go_sem]); (simp [go_sem]); rintro r w' ⟨rfl, rfl⟩))
  all_goals go_wp2
  go_ret
  refine ⟨rfl, ?_⟩
  have h1 := HA.out
  exact (h1.alloc h1.size _).drew
end Go.Proofs.Ytiffgjodbcploaa
end
section
namespace Go.Proofs.Ytiffgjodbcploaa
open Go.RowKit
attribute [local go_sem ↓] Go.wp_at_zero Go.wp_at_succ
set_option maxRecDepth 100000 in
set_option maxHeartbeats 2000000 in
theorem rcmp_any (S S' : Nat → Prop) (v v' : Value) (a b : Ent) (w : World) (hv : EntV w S v a) (hv' : EntV w S' v' b) :
    Calls Try.prog 25 #[v, v'] w fun r w' => r = .returned (.int .i64 (cmpE a b)) ∧ Below w.heap.size w w' := by
  obtain ⟨k1, u1, rfl, h1, _⟩ := hv
  obtain ⟨k2, u2, rfl, h2, _⟩ := hv'
  have hA : Below w.heap.size w ((w.alloc (.cells #[k1, .int .i64 a.seq, .bool a.dead, u1] 34)).alloc (.cells #[k2, .int .i64 b.seq, .bool b.dead, u2] 34)) := ((Below.refl _ _).alloc (Nat.le_refl _) _).alloc (by simp) _
  have HA := Lib.hid hA
  have c1 := (h1.below hA).convert
  have c2 := (h2.below hA).convert
  have l1 := h1.len
  have l2 := h2.len
  clear h1 h2
  clear hA
  have cases_ : (cmpB a.key b.key = 0 ∧ b.seq < a.seq) ∨ (cmpB a.key b.key = 0 ∧ a.seq < b.seq) ∨ (cmpB a.key b.key = 0 ∧ a.seq = b.seq) ∨ ¬ cmpB a.key b.key = 0 := by omega
  rcases cases_ with ⟨e1, e2⟩ | ⟨e1, e2⟩ | ⟨e1, e2⟩ | e1
  · have hres : cmpE a b = -1 := by unfold cmpE cmpI; rw [if_pos e1, if_pos e2]
    rw [hres]
    have e1' : (cmpB a.key b.key == 0) = true := by rw [e1]; rfl
    clear hres e1
    go_enter Try.func25, Try.ntmps25
    go_wp2_with (go_at_call 23; refine (less_any a.key b.key _ l1 l2).mono ?_; rintro r w' ⟨rfl, q, rfl⟩)
    go_ret
    exact ⟨rfl, below_drewN HA.out _⟩
  · have hres : cmpE a b = 1 := by unfold cmpE cmpI; rw [if_pos e1, if_neg (by omega), if_pos e2]
    rw [hres]
    have e1' : (cmpB a.key b.key == 0) = true := by rw [e1]; rfl
    clear hres e1
    go_enter Try.func25, Try.ntmps25
    go_wp2_with (go_at_call 23; refine (less_any a.key b.key _ l1 l2).mono ?_; rintro r w' ⟨rfl, q, rfl⟩)
    go_ret
    exact ⟨rfl, below_drewN HA.out _⟩
  · have hres : cmpE a b = cmpB a.key b.key := by unfold cmpE cmpI; rw [if_pos e1, e2, if_neg (by omega), if_neg (by omega), e1]
    rw [hres]
    have e3 : ¬ b.seq < a.seq := by omega
    have e4 : ¬ a.seq < b.seq := by omega
    have e1' : (cmpB a.key b.key == 0) = true := by rw [e1]; rfl
    clear hres e1 e2
    go_enter Try.func25, Try.ntmps25
    go_wp2_with (go_at_call 23; refine (less_any a.key b.key _ l1 l2).mono ?_; rintro r w' ⟨rfl, q, rfl⟩)
    go_ret
    exact ⟨rfl, below_drewN HA.out _⟩
  · have hres : cmpE a b = cmpB a.key b.key := by unfold cmpE; rw [if_neg e1]
    rw [hres]
    have e1' : (cmpB a.key b.key == 0) = false := by simpa using e1
    clear hres e1
    go_enter Try.func25, Try.ntmps25
    go_wp2_with (go_at_call 23; refine (less_any a.key b.key _ l1 l2).mono ?_; rintro r w' ⟨rfl, q, rfl⟩)
    go_ret
    exact ⟨rfl, below_drewN HA.out _⟩
theorem ent_ne {a b : Ent} (h : ¬ (a.key = b.key ∧ a.seq = b.seq ∧ a.dead = b.dead ∧ a.val = b.val)) : false = decide (a = b) := by
  rw [decide_eq_false]
  rintro rfl
  exact h ⟨rfl, rfl, rfl, rfl⟩
set_option maxRecDepth 100000 in
set_option maxHeartbeats 2000000 in
theorem sameone_any (S S' : Nat → Prop) (v v' : Value) (a b : Ent) (w : World) (hv : EntV w S v a) (hv' : EntV w S' v' b) :
    Calls Try.prog 12 #[v, v'] w fun r w' => r = .returned (.bool (decide (a = b))) ∧ Below w.heap.size w w' := by
  obtain ⟨k1, u1, rfl, h1, g1⟩ := hv
  obtain ⟨k2, u2, rfl, h2, g2⟩ := hv'
  have hA : Below w.heap.size w ((w.alloc (.cells #[k1, .int .i64 a.seq, .bool a.dead, u1] 34)).alloc (.cells #[k2, .int .i64 b.seq, .bool b.dead, u2] 34)) := ((Below.refl _ _).alloc (Nat.le_refl _) _).alloc (by simp) _
  have c1 := (h1.below hA).convert
  have c2 := (h2.below hA).convert
  have d1 := (g1.below hA).convert
  have d2 := (g2.below hA).convert
  have HA := Lib.hid hA
  clear hA h1 h2 g1 g2
  by_cases e1 : a.key = b.key
  · by_cases e2 : a.seq = b.seq
    · by_cases e3 : a.dead = b.dead
      · by_cases e4 : a.val = b.val
        · have e : a = b := by cases a; cases b; simp_all
          subst e
          clear e1 e2 e3 e4
          go_enter Try.func12, Try.ntmps12
          go_wp2
          go_ret
          exact ⟨ret_bool (by simp), HA.out⟩
        · rw [← ent_ne (fun h => e4 h.2.2.2)]
          rcases a with ⟨ak, as', ad, av⟩
          rcases b with ⟨bk, bs', bd, bv⟩
          simp only at e1 e2 e3 e4 c1 c2 d1 d2 HA ⊢
          subst e1 e2 e3
          go_enter Try.func12, Try.ntmps12
          go_wp2
          go_ret
          exact ⟨ret_bool (by simpa using e4), HA.out⟩
      · rw [← ent_ne (fun h => e3 h.2.2.1)]
        rcases a with ⟨ak, as', ad, av⟩
        rcases b with ⟨bk, bs', bd, bv⟩
        simp only at e1 e2 e3 c1 c2 d1 d2 HA ⊢
        subst e1 e2
        have e3' : (ad == bd) = false := by simpa using e3
        clear e3
        go_enter Try.func12, Try.ntmps12
        go_wp2
        go_ret
        exact ⟨rfl, HA.out⟩
    · rw [← ent_ne (fun h => e2 h.2.1)]
      rcases a with ⟨ak, as', ad, av⟩
      rcases b with ⟨bk, bs', bd, bv⟩
      simp only at e1 e2 c1 c2 d1 d2 HA ⊢
      subst e1
      have e2' : (as' == bs') = false := by simpa using e2
      clear e2
      go_enter Try.func12, Try.ntmps12
      go_wp2
      go_ret
      exact ⟨rfl, HA.out⟩
  · rw [← ent_ne (fun h => e1 h.1)]
    go_enter Try.func12, Try.ntmps12
    go_wp2
    go_ret
    exact ⟨rfl, HA.out⟩
end Go.Proofs.Ytiffgjodbcploaa
end
section
namespace Go.Proofs.Ytiffgjodbcploaa
open Go.RowKit
attribute [local go_sem ↓] Go.wp_at_zero Go.wp_at_succ
end Go.Proofs.Ytiffgjodbcploaa
end
section
namespace Go.Proofs.Ytiffgjodbcploaa
open Go.RowKit
theorem EntV.only {w w' : World} {T S : Nat → Prop} {v : Value} {e : Ent} (h : EntV w T v e) (ho : Only S w w') (hd : ∀ i, i < w.heap.size → T i → ¬ S i) : EntV w' T v e := by
  obtain ⟨k, u, rfl, h1, h2⟩ := h
  exact ⟨k, u, rfl, h1.only ho hd, h2.only ho hd⟩
end Go.Proofs.Ytiffgjodbcploaa
end
section
namespace Go.Proofs.Ytiffgjodbcploaa
open Go.RowKit
attribute [local go_sem ↓] Go.wp_at_zero Go.wp_at_succ
/-- a new block of four cells under one more: what its cells hold later. -/
theorem box4 {w w' : World} {a b c d : Value} {t : TypeId} {o : Obj} (hb : Below (w.heap.size + 2) ((w.alloc (.cells #[a, b, c, d] t)).alloc o) w') :
    (w'.cell? ⟨w.heap.size, 0, none⟩ = some a ∧ w'.cell? ⟨w.heap.size, 1, none⟩ = some b ∧ w'.cell? ⟨w.heap.size, 2, none⟩ = some c ∧ w'.cell? ⟨w.heap.size, 3, none⟩ = some d) ∧ (∀ i, w'.frozen? ⟨w.heap.size, i, none⟩ = false) := by
  refine ⟨⟨?_, ?_, ?_, ?_⟩, fun i => ?_⟩
  iterate 4 (rw [hb.cell (by simp), World.cell?_alloc_lt _ _ _ (by simp), World.cell?_alloc_at _ _ _ _ rfl]; rfl)
  rw [hb.frozen (by simp), World.frozen?_alloc_past _ _ _ (by simp), World.frozen?_alloc_at _ _ _ _ rfl]
theorem box4' {w w' : World} {a b c d : Value} {t : TypeId} {o : Obj} (hb : Below (w.heap.size + 2) ((w.alloc o).alloc (.cells #[a, b, c, d] t)) w') :
    (w'.cell? ⟨w.heap.size + 1, 0, none⟩ = some a ∧ w'.cell? ⟨w.heap.size + 1, 1, none⟩ = some b ∧ w'.cell? ⟨w.heap.size + 1, 2, none⟩ = some c ∧ w'.cell? ⟨w.heap.size + 1, 3, none⟩ = some d) ∧ (∀ i, w'.frozen? ⟨w.heap.size + 1, i, none⟩ = false) := by
  refine ⟨⟨?_, ?_, ?_, ?_⟩, fun i => ?_⟩
  iterate 4 (rw [hb.cell (by simp), World.cell?_alloc_at _ _ _ _ (by simp)]; rfl)
  rw [hb.frozen (by simp), World.frozen?_alloc_at _ _ _ _ (by simp)]
end Go.Proofs.Ytiffgjodbcploaa
end
section
namespace Go.Proofs.Ytiffgjodbcploaa
open Go.RowKit
attribute [local go_sem ↓] Go.wp_at_zero Go.wp_at_succ
/-- append onto a []byte literal without an element: new memory. -/
theorem run_append_byt0 (w : World) (ty : TypeId) (g : Nat) (src : Value) (S : Nat → Prop) (bs : List UInt8) (h : Byt w S src bs) :
    ∃ v' w', (Builtin.append_ #[23, 23] ty #[.slice (some ⟨g, 0, none⟩) 0 0, src]).run Try.prog w = .ok v' w' ∧ Byt w' (fun i => w.heap.size ≤ i) v' bs ∧ Below w.heap.size w w' := by
  obtain ⟨i0, hi, hz0, hz1, hz2⟩ := info_parts info5
  have hl := h.len
  obtain ⟨A, c, rfl, h1, h2, h3, hr⟩ := h
  rcases Nat.eq_zero_or_pos bs.length with h0 | h0
  · have : bs = [] := List.eq_nil_of_length_eq_zero h0
    subst this
    refine ⟨.slice (some ⟨g, 0, none⟩) 0 0, w, ?_, ⟨_, _, rfl, by simp, by simp, by simp, Row.nil _ _ _ _⟩, Below.refl _ _⟩
    rcases A with _ | a
    · simp [Builtin.append_, run_underlying Try.underlying23, sizeOf, typeInfo, hi, Builtin.lenOf, Builtin.firstCells, storeCells]
    · simp [Builtin.append_, run_underlying Try.underlying23, sizeOf, typeInfo, hi, Builtin.lenOf, Builtin.firstCells, storeCells, loadCells, loadCellsFrom]
  · obtain ⟨b, o, rfl, _, _, hc⟩ := hr.2 h0
    have hrun := run_append_grow (P := Try.prog) w 23 ty 5 i0 (.int .u8 0) Try.underlying23 hi hz0 ⟨g, 0, none⟩ 0 0 [] (by simp) (fun j u hu => by simp at hu) ⟨b, o, none⟩ bs.length c (bs.map bcell) (by simp [hz1])
      (fun j u hu => by rw [Addr.add_lit]; exact hc j u hu) (by omega) (by omega) (growslice_fits (by omega) (by rw [hz2]; omega))
    have hge := grownCap_ge w (0 + bs.length) 0 5
    have hcm : grownCap w (0 + bs.length) 0 5 ≤ maxLen := grownCap_le_maxLen w (0 + bs.length) 0 5 (by unfold maxLen; omega)
    refine ⟨_, _, hrun, ?_, ((Below.refl w.heap.size w).drew).alloc (by simp) _⟩
    have e0 : 0 + bs.length = bs.length := by omega
    rw [e0] at hge hcm ⊢
    refine ⟨_, _, rfl, hge, by unfold maxLen at hcm; omega, hl, by simp, fun _ => ⟨w.heap.size, 0, rfl, Nat.le_refl _, by simp, fun j u hu => ?_⟩⟩
    rw [World.cell?_alloc_at _ _ _ _ (by simp)]
    have hj : j < bs.length := by
      have := (List.getElem?_eq_some_iff.1 hu).1
      simpa using this
    simp [Array.getElem?_append, hj]
    rw [List.getElem?_map, List.getElem?_eq_getElem hj] at hu
    simpa using hu
theorem step_append_byt0 {w : World} {ops : Array Oper} {o : Oper} {a : Act} {K : Act → World → Prop} {Q : Exit → Act → World → Prop} {E : Prop} (hgd : o.guard = none) (s x : Operand)
    (ho : o.op = .call { callee := .builtin .append, args := #[s, x], argTypes := #[23, 23] }) (g : Nat) (src : Value) (hs : a.eval s = .slice (some ⟨g, 0, none⟩) 0 0) (hx : a.eval x = src)
    (S : Nat → Prop) (bs : List UInt8) (h : Byt w S src bs)
    (hK : ∀ v' w', Byt w' (fun i => w.heap.size ≤ i) v' bs → Below w.heap.size w w' → K (a.put o.dst v') w') :
    if Region.wanted o (yielded ops a.tmps) = true then Oper.wp Try.prog o a w K Q else E := by
  have hw : Region.wanted o (yielded ops a.tmps) = true := by simp [Region.wanted, hgd]
  rw [if_pos hw]
  obtain ⟨v', w', hrun, h2, h3⟩ := run_append_byt0 w o.type g src S bs h
  unfold Oper.wp execOp
  simp only [ho, resolve, invoke, builtin, Sem.run_bind, Sem.run_pure, Result.andThen_ok, List.map_toArray, List.map_cons, List.map_nil, hs, hx, hrun]
  exact hK v' w' h2 h3
theorem one_end (w w2 : World) (e : Ent) (k u a b c d : Value) (hb : Below w.heap.size w w2) (hk : Byt w2 (fun i => w.heap.size + 2 ≤ i) k e.key) (hu : Byt w2 (fun i => w.heap.size + 2 ≤ i) u e.val) :
    ∃ v', Ending.returned (.agg #[k, .int .i64 e.seq, .bool e.dead, u]) = .returned v' ∧
      EntV ((((w2.setCell ⟨w.heap.size + 1, 0, none⟩ a).setCell ⟨w.heap.size + 1, 1, none⟩ b).setCell ⟨w.heap.size + 1, 2, none⟩ c).setCell ⟨w.heap.size + 1, 3, none⟩ d) (fun i => w.heap.size ≤ i) v' e ∧
      Below w.heap.size w ((((w2.setCell ⟨w.heap.size + 1, 0, none⟩ a).setCell ⟨w.heap.size + 1, 1, none⟩ b).setCell ⟨w.heap.size + 1, 2, none⟩ c).setCell ⟨w.heap.size + 1, 3, none⟩ d) := by
  have ho : Only (fun i => i = w.heap.size + 1 ∨ i = w.heap.size + 1) w2 ((((w2.setCell ⟨w.heap.size + 1, 0, none⟩ a).setCell ⟨w.heap.size + 1, 1, none⟩ b).setCell ⟨w.heap.size + 1, 2, none⟩ c).setCell ⟨w.heap.size + 1, 3, none⟩ d) :=
    ((((Only.refl _ w2).setCell (p := ⟨w.heap.size + 1, 0, none⟩) (.inl rfl) _).setCell (p := ⟨w.heap.size + 1, 1, none⟩) (.inl rfl) _).setCell (p := ⟨w.heap.size + 1, 2, none⟩) (.inl rfl) _).setCell (p := ⟨w.heap.size + 1, 3, none⟩) (.inl rfl) _
  exact ⟨_, rfl, ⟨k, u, rfl, (hk.only ho (fun i _ h => by omega)).mono (fun i hi => by omega), (hu.only ho (fun i _ h => by omega)).mono (fun i hi => by omega)⟩, hb.trans (ho.below hb.size (fun i h => by omega))⟩
theorem undrewR {B : Nat} {a w : World} (h : Below B a w.drew) : Below B a w := ⟨h.os, h.tape, h.output, h.size, h.block⟩
/-- the frame of a function that has boxed one entry and laid a block of four cells for its result: the box stands, the result's block is there. -/
structure frame1 (w : World) (c0 c1 c2 c3 : Value) (t : TypeId) (w' : World) : Prop where
  box : Below (w.heap.size + 1) (w.alloc (.cells #[c0, c1, c2, c3] t)) w'
  res : ∃ a b c d, w'.heap[w.heap.size + 1]? = some (.cells #[a, b, c, d] t (0, 0))
section
variable {w w' w2 : World} {c0 c1 c2 c3 : Value} {t : TypeId}
theorem frame1.start {a b c d : Value} : frame1 w c0 c1 c2 c3 t ((w.alloc (.cells #[c0, c1, c2, c3] t)).alloc (.cells #[a, b, c, d] t)) :=
  ⟨(Below.refl _ _).alloc (by simp) _, a, b, c, d, by simpa using heap_alloc_new (w.alloc (.cells #[c0, c1, c2, c3] t)) (.cells #[a, b, c, d] t)⟩
theorem frame1.lt (h : frame1 w c0 c1 c2 c3 t w') : w.heap.size + 1 < w'.heap.size := by
  obtain ⟨a, b, c, d, h⟩ := h.res
  exact (Array.getElem?_eq_some_iff.1 h).1
theorem frame1.drew (h : frame1 w c0 c1 c2 c3 t w') : frame1 w c0 c1 c2 c3 t w'.drew := ⟨h.box.drew, h.res⟩
theorem frame1.undrew (h : frame1 w c0 c1 c2 c3 t w'.drew) : frame1 w c0 c1 c2 c3 t w' := ⟨undrewR h.box, h.res⟩
theorem frame1.step (h : frame1 w c0 c1 c2 c3 t w') (hb : Below w'.heap.size w' w2) : frame1 w c0 c1 c2 c3 t w2 := by
  have hl := h.lt
  obtain ⟨a, b, c, d, hr⟩ := h.res
  exact ⟨h.box.trans (hb.mono (by omega)), a, b, c, d, by rw [hb.block _ hl]; exact hr⟩
theorem frame1.alloc (h : frame1 w c0 c1 c2 c3 t w') (o' : Obj) : frame1 w c0 c1 c2 c3 t (w'.alloc o') := h.step ((Below.refl _ _).alloc (Nat.le_refl _) _)
theorem frame1.setRes (h : frame1 w c0 c1 c2 c3 t w') (i : Nat) (v : Value) : frame1 w c0 c1 c2 c3 t (w'.setCell ⟨w.heap.size + 1, i, none⟩ v) := by
  obtain ⟨a, b, c, d, hr⟩ := h.res
  refine ⟨h.box.setCell (p := ⟨w.heap.size + 1, i, none⟩) (Nat.le_refl _) _, ?_⟩
  rw [heap_setCell_same w' (w.heap.size + 1) i #[a, b, c, d] t v hr]
  rcases (by omega : i = 0 ∨ i = 1 ∨ i = 2 ∨ i = 3 ∨ 4 ≤ i) with rfl | rfl | rfl | rfl | h4
  · exact ⟨v, b, c, d, rfl⟩
  · exact ⟨a, v, c, d, rfl⟩
  · exact ⟨a, b, v, d, rfl⟩
  · exact ⟨a, b, c, v, rfl⟩
  · exact ⟨a, b, c, d, by rw [Array.setIfInBounds_eq_of_size_le (by simpa using h4)]⟩
theorem frame1.cell (h : frame1 w c0 c1 c2 c3 t w') : w'.cell? ⟨w.heap.size, 0, none⟩ = some c0 ∧ w'.cell? ⟨w.heap.size, 1, none⟩ = some c1 ∧ w'.cell? ⟨w.heap.size, 2, none⟩ = some c2 ∧ w'.cell? ⟨w.heap.size, 3, none⟩ = some c3 := by
  refine ⟨?_, ?_, ?_, ?_⟩ <;> (rw [h.box.cell (by simp), World.cell?_alloc_at _ _ _ _ rfl]; rfl)
theorem frame1.below (h : frame1 w c0 c1 c2 c3 t w') : Below w.heap.size w w' := ((Below.refl w.heap.size w).alloc (Nat.le_refl _) _).trans (h.box.mono (by omega))
theorem frame1.byt (h : frame1 w c0 c1 c2 c3 t w') {S : Nat → Prop} {v : Value} {bs : List UInt8} (hv : Byt w S v bs) : Byt w' S v bs := hv.below h.below
theorem frame1.all (h : frame1 w c0 c1 c2 c3 t w') : w'.cell? ⟨w.heap.size, 0, none⟩ = some c0 ∧ w'.cell? ⟨w.heap.size, 1, none⟩ = some c1 ∧ w'.cell? ⟨w.heap.size, 2, none⟩ = some c2 ∧ w'.cell? ⟨w.heap.size, 3, none⟩ = some c3 ∧ frame1 w c0 c1 c2 c3 t w' :=
  ⟨h.cell.1, h.cell.2.1, h.cell.2.2.1, h.cell.2.2.2, h⟩
theorem frame1.resCells (h : frame1 w c0 c1 c2 c3 t w') : ∃ a b c d, w'.cell? ⟨w.heap.size + 1, 0, none⟩ = some a ∧ w'.cell? ⟨w.heap.size + 1, 1, none⟩ = some b ∧ w'.cell? ⟨w.heap.size + 1, 2, none⟩ = some c ∧ w'.cell? ⟨w.heap.size + 1, 3, none⟩ = some d ∧ ∀ i, w'.frozen? ⟨w.heap.size + 1, i, none⟩ = false := by
  obtain ⟨a, b, c, d, hr⟩ := h.res
  exact ⟨a, b, c, d, by rw [cell_of_row w' _ 0 _ t _ hr]; rfl, by rw [cell_of_row w' _ 1 _ t _ hr]; rfl, by rw [cell_of_row w' _ 2 _ t _ hr]; rfl, by rw [cell_of_row w' _ 3 _ t _ hr]; rfl, fun i => frozen_of_row w' _ i _ t hr⟩
end
set_option maxRecDepth 100000 in
set_option maxHeartbeats 4000000 in
theorem one_any (S : Nat → Prop) (v : Value) (e : Ent) (w : World) (hv : EntV w S v e) :
    Calls Try.prog 41 #[v] w fun r w' => ∃ v', r = .returned v' ∧ EntV w' (fun i => w.heap.size ≤ i) v' e ∧ Below w.heap.size w w' := by
  obtain ⟨k, u, rfl, h1, h2⟩ := hv
  have H1 := Lib.hid h1
  have H2 := Lib.hid h2
  obtain ⟨Ak, ck, rfl⟩ := slice_form h1
  obtain ⟨Au, cu, rfl⟩ := slice_form h2
  clear h1 h2
  go_enter Try.func41, Try.ntmps41
  go_wp2
  go_region_held3 (fun w' => w'.cell? ⟨w.heap.size, 0, none⟩ = some (.slice Ak e.key.length ck) ∧ w'.cell? ⟨w.heap.size, 1, none⟩ = some (.int .i64 e.seq) ∧ w'.cell? ⟨w.heap.size, 2, none⟩ = some (.bool e.dead) ∧ w'.cell? ⟨w.heap.size, 3, none⟩ = some (.slice Au e.val.length cu) ∧
      frame1 w (.slice Ak e.key.length ck) (.int .i64 e.seq) (.bool e.dead) (.slice Au e.val.length cu) 34 w')
    (first
      | with_reducible exact frame1.start.drew.all
      | with_reducible exact hf2.all
      | with_reducible exact hf1.all
      | with_reducible exact (frame1.alloc hf1 _).all
      | with_reducible exact (frame1.alloc hf2 _).all
      | with_reducible exact ((((hf2.setRes 0 _).setRes 1 _).setRes 2 _).setRes 3 _).all
      | with_reducible exact ((((hf1.setRes 0 _).setRes 1 _).setRes 2 _).setRes 3 _).all
      | (go_split_ands; with_reducible (refine (frame1.alloc (frame1.undrew ?_) _).drew.all); with_reducible assumption)
      | (go_split_ands; with_reducible (refine (frame1.alloc ?_ _).all); with_reducible assumption))
    (first
      | (go_split_ands; refine step_append_byt0 (by rfl) _ _ (by rfl) _ (.slice Ak e.key.length ck) (by rfl) (by rfl) S e.key ?_ ?_; (with_reducible exact frame1.byt (by with_reducible assumption) H1.out); intro k' w1 hk' hb1; obtain ⟨Ak', ck', rfl⟩ := slice_form hk'; have hf1 := frame1.step (by with_reducible assumption) hb1; obtain ⟨x0, x1, x2, x3, e0, e1, e2, e3, ef⟩ := hf1.resCells)
      | (go_split_ands; refine step_append_byt0 (by rfl) _ _ (by rfl) _ (.slice Au e.val.length cu) (by rfl) (by rfl) S e.val ?_ ?_; (with_reducible exact frame1.byt (by with_reducible assumption) H2.out); intro u' w2 hu' hb2; obtain ⟨Au', cu', rfl⟩ := slice_form hu'; have hf2 := frame1.step (by with_reducible assumption) hb2; obtain ⟨x0, x1, x2, x3, e0, e1, e2, e3, ef⟩ := hf2.resCells))
  all_goals
    first
      | (have hk2 := hk'.below hb2; have hu2 := hu'; have hf := hf2)
      | (have hk2 := (hk'.below ((Below.refl _ _).alloc (Nat.le_refl _) _)).below hb2; have hu2 := hu'; have hf := hf2)
      | (have hu2 := hu'.below hb1; have hk2 := hk'; have hf := hf1)
      | (have hu2 := (hu'.below ((Below.refl _ _).alloc (Nat.le_refl _) _)).below hb1; have hk2 := hk'; have hf := hf1)
    have hl1 := hf1.lt
    have hl2 := hf2.lt
    simp only [World.size_alloc, World.size_drew] at hk2 hu2
    go_wp2
    refine bodyPost_ret (v := .agg #[.slice Ak' e.key.length ck', .int .i64 e.seq, .bool e.dead, .slice Au' e.val.length cu']) (by simp [results, Try.results41, go_sem, e0, e1, e2, e3]) rfl ?_
    exact one_end w _ e _ _ _ _ _ _ hf.below (hk2.mono (fun i hi => by omega)) (hu2.mono (fun i hi => by omega))
end Go.Proofs.Ytiffgjodbcploaa
end
