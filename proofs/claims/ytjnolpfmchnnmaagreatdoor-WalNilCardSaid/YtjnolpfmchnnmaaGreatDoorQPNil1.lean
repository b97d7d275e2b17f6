/-
The disk in memory: files by name in a map, each a block with bytes of its own.
-/
import Derived.Shelf.Small.Bits
import Derived.Shelf.Small.Wraps
import Derived.Shelf.Strconv.Atoi
import Derived.Shelf.Strconv.Itoa0
import Derived.Shelf.Strconv.Itoa1
import Derived.Shelf.LaysM
import Derived.Shelf.Strconv.Itoa2
import Derived.Shelf.Strconv.Itoa3
import Derived.Shelf.Strconv.AtoiErrFast
import Derived.Shelf.Strconv.ParseIntEmpty
import Derived.Shelf.Strconv.AtoiFail
import Derived.Shelf.Strconv.Clone
import Derived.Shelf.Strconv.SyntaxError
import Derived.Shelf.Strconv.Lower
import Derived.Shelf.Strconv.ParseUint10
import Derived.Shelf.Strconv.ParseUint10Empty
import Derived.Shelf.Strconv.RangeError
import Derived.Shelf.Strconv.ParseUintEmpty
import Derived.Shelf.Strconv.ParseUint10b64
import Derived.Shelf.Strconv.ParseUint10b32
import Derived.Shelf.Strconv.ParseUint10b16
import Derived.Shelf.Strconv.ParseUint10b8
import Derived.Shelf.Sort.Plain
import Derived.Shelf.GgClosure.StringsIndexFunc
import Derived.Ground.GgwProg
import Derived.Shelf.GgClosure.StringsIndexFuncTop
import Derived.Shelf.Strings.Prefix
import Derived.Ground.Names2Prog
import Derived.Shelf.Slices.Clone
import Derived.Shelf.Slices.SearchI
import Derived.Shelf.Slices.In.SortNone
import Derived.Ground.SlgnProg
import Derived.Shelf.SlicesE.Clone
import Derived.Ground.SlgfProg
import Derived.Shelf.SlicesE.IndexFunc
import Derived.Shelf.Bytes.SlEqualAll
import Derived.Shelf.Bytes.Small
import Derived.Test.YtjnolpfmchnnmaaGreatDoorProg
import Derived.Test.YtjnolpfmchnnmaaGreatDoorQPNil0
import Derived.Laws.RangeAny
import Derived.Sort.KeysCollected
import Derived.Maps.OwnSet
import Derived.Maps.Ext
section
namespace Go.Proofs
open Go.Shelf
def Tryz.lays103_ren : Go.Shelf.Ren := ⟨fun | 103 => 87 | 210 => 144 | 206 => 205 | n => n, fun | 9 => 9 | 4 => 4 | 24 => 155 | 3 => 3 | n => n, fun | n => n⟩
theorem Tryz.lays103 : Go.Proofs.Lays.n103 Tryz.prog Tryz.lays103_ren := {
  mixed := by kernel_rfl
  f103 := Tryz.func87.trans (congrArg some (by kernel_rfl))
  f206 := Tryz.func205.trans (congrArg some (by kernel_rfl))
  f210 := Tryz.func144.trans (congrArg some (by kernel_rfl))
  t3 := Tryz.underlying3
  a3 := Tryz.isAgg3
  z3 := Tryz.sizeOf3
  v3 := Tryz.zeroValue3
  t4 := Tryz.underlying4
  a4 := Tryz.isAgg4
  z4 := Tryz.sizeOf4
  v4 := Tryz.zeroValue4
  t9 := Tryz.underlying9
  a9 := Tryz.isAgg9
  z9 := Tryz.sizeOf9
  v9 := Tryz.zeroValue9
  t24 := Tryz.underlying155
  a24 := Tryz.isAgg155
  z24 := Tryz.sizeOf155
  v24 := Tryz.zeroValue155 }
open Go.RowKit in
theorem Tryz.strings_CutPrefix (s p : ByteArray) (w : World) :
    Calls Tryz.prog 87 #[.string s, .string p] w fun e w' => e = .returned (.tuple #[.string ⟨(Lib.trimPrefix s.data.toList p.data.toList).toArray⟩, .bool (Lib.hasPrefix s.data.toList p.data.toList)]) ∧ w' = w := Any.strings_CutPrefix Tryz.lays103 s p w
def Tryz.lays104_ren : Go.Shelf.Ren := ⟨fun | 104 => 88 | 211 => 145 | 207 => 206 | n => n, fun | 9 => 9 | 4 => 4 | 24 => 155 | 3 => 3 | n => n, fun | n => n⟩
theorem Tryz.lays104 : Go.Proofs.Lays.n104 Tryz.prog Tryz.lays104_ren := {
  mixed := by kernel_rfl
  f104 := Tryz.func88.trans (congrArg some (by kernel_rfl))
  f207 := Tryz.func206.trans (congrArg some (by kernel_rfl))
  f211 := Tryz.func145.trans (congrArg some (by kernel_rfl))
  t3 := Tryz.underlying3
  a3 := Tryz.isAgg3
  z3 := Tryz.sizeOf3
  v3 := Tryz.zeroValue3
  t4 := Tryz.underlying4
  a4 := Tryz.isAgg4
  z4 := Tryz.sizeOf4
  v4 := Tryz.zeroValue4
  t9 := Tryz.underlying9
  a9 := Tryz.isAgg9
  z9 := Tryz.sizeOf9
  v9 := Tryz.zeroValue9
  t24 := Tryz.underlying155
  a24 := Tryz.isAgg155
  z24 := Tryz.sizeOf155
  v24 := Tryz.zeroValue155 }
open Go.RowKit in
theorem Tryz.strings_CutSuffix (s p : ByteArray) (w : World) (hs : s.size ≤ 9223372036854775807) :
    Calls Tryz.prog 88 #[.string s, .string p] w fun e w' => e = .returned (.tuple #[.string ⟨(Lib.trimSuffix s.data.toList p.data.toList).toArray⟩, .bool (Lib.hasSuffix s.data.toList p.data.toList)]) ∧ w' = w := Any.strings_CutSuffix Tryz.lays104 s p w hs
def Tryz.lays172_ren : Go.Shelf.Ren := ⟨fun | 172 => 76 | 244 => 129 | 245 => 130 | 247 => 197 | 279 => 198 | 280 => 199 | 281 => 200 | 282 => 201 | 287 => 240 | 316 => 241 | 171 => 119 | 205 => 242 | 321 => 274 | 322 => 275 | 243 => 190 | 246 => 236 | 283 => 269 | 284 => 270 | 285 => 271 | 286 => 272 | 129 => 263 | 317 => 294 | 318 => 295 | 319 => 296 | 320 => 297 | 337 => 307 | 338 => 308 | n => n, fun | 9 => 9 | 3 => 3 | 75 => 141 | 76 => 142 | 4 => 4 | 5 => 5 | 167 => 285 | 37 => 35 | 0 => 0 | 85 => 286 | 2 => 2 | 168 => 288 | 53 => 240 | 175 => 322 | 46 => 34 | 210 => 326 | 127 => 357 | 145 => 360 | 143 => 358 | 21 => 21 | 171 => 352 | 173 => 354 | 212 => 380 | 51 => 209 | 20 => 20 | 213 => 381 | 232 => 394 | 233 => 395 | 80 => 396 | n => n, fun | 15 => 1 | 16 => 2 | 17 => 3 | 18 => 4 | 19 => 5 | n => n⟩
theorem Tryz.lays172 : Go.Proofs.Lays.n172 Tryz.prog Tryz.lays172_ren := {
  mixed := by kernel_rfl
  f129 := Tryz.func263.trans (congrArg some (by kernel_rfl))
  f171 := Tryz.func119.trans (congrArg some (by kernel_rfl))
  f172 := Tryz.func76.trans (congrArg some (by kernel_rfl))
  f205 := Tryz.func242.trans (congrArg some (by kernel_rfl))
  f243 := Tryz.func190.trans (congrArg some (by kernel_rfl))
  f244 := Tryz.func129.trans (congrArg some (by kernel_rfl))
  f245 := Tryz.func130.trans (congrArg some (by kernel_rfl))
  f246 := Tryz.func236.trans (congrArg some (by kernel_rfl))
  f247 := Tryz.func197.trans (congrArg some (by kernel_rfl))
  f279 := Tryz.func198.trans (congrArg some (by kernel_rfl))
  f280 := Tryz.func199.trans (congrArg some (by kernel_rfl))
  f281 := Tryz.func200.trans (congrArg some (by kernel_rfl))
  f282 := Tryz.func201.trans (congrArg some (by kernel_rfl))
  f283 := Tryz.func269.trans (congrArg some (by kernel_rfl))
  f284 := Tryz.func270.trans (congrArg some (by kernel_rfl))
  f285 := Tryz.func271.trans (congrArg some (by kernel_rfl))
  f286 := Tryz.func272.trans (congrArg some (by kernel_rfl))
  f287 := Tryz.func240.trans (congrArg some (by kernel_rfl))
  f316 := Tryz.func241.trans (congrArg some (by kernel_rfl))
  f317 := Tryz.func294.trans (congrArg some (by kernel_rfl))
  f318 := Tryz.func295.trans (congrArg some (by kernel_rfl))
  f319 := Tryz.func296.trans (congrArg some (by kernel_rfl))
  f320 := Tryz.func297.trans (congrArg some (by kernel_rfl))
  f321 := Tryz.func274.trans (congrArg some (by kernel_rfl))
  f322 := Tryz.func275.trans (congrArg some (by kernel_rfl))
  f337 := Tryz.func307.trans (congrArg some (by kernel_rfl))
  f338 := Tryz.func308.trans (congrArg some (by kernel_rfl))
  t0 := Tryz.underlying0
  a0 := Tryz.isAgg0
  z0 := Tryz.sizeOf0
  v0 := Tryz.zeroValue0
  t2 := Tryz.underlying2
  a2 := Tryz.isAgg2
  z2 := Tryz.sizeOf2
  v2 := Tryz.zeroValue2
  t3 := Tryz.underlying3
  a3 := Tryz.isAgg3
  z3 := Tryz.sizeOf3
  v3 := Tryz.zeroValue3
  t4 := Tryz.underlying4
  a4 := Tryz.isAgg4
  z4 := Tryz.sizeOf4
  v4 := Tryz.zeroValue4
  t5 := Tryz.underlying5
  a5 := Tryz.isAgg5
  z5 := Tryz.sizeOf5
  v5 := Tryz.zeroValue5
  t9 := Tryz.underlying9
  a9 := Tryz.isAgg9
  z9 := Tryz.sizeOf9
  v9 := Tryz.zeroValue9
  t20 := Tryz.underlying20
  a20 := Tryz.isAgg20
  z20 := Tryz.sizeOf20
  v20 := Tryz.zeroValue20
  t21 := Tryz.underlying21
  a21 := Tryz.isAgg21
  z21 := Tryz.sizeOf21
  v21 := Tryz.zeroValue21
  t37 := Tryz.underlying35
  a37 := Tryz.isAgg35
  z37 := Tryz.sizeOf35
  v37 := Tryz.zeroValue35
  t46 := Tryz.underlying34
  a46 := Tryz.isAgg34
  z46 := Tryz.sizeOf34
  v46 := Tryz.zeroValue34
  t51 := Tryz.underlying209
  a51 := Tryz.isAgg209
  z51 := Tryz.sizeOf209
  v51 := Tryz.zeroValue209
  t53 := Tryz.underlying240
  a53 := Tryz.isAgg240
  z53 := Tryz.sizeOf240
  v53 := Tryz.zeroValue240
  t75 := Tryz.underlying141
  a75 := Tryz.isAgg141
  z75 := Tryz.sizeOf141
  v75 := Tryz.zeroValue141
  t76 := Tryz.underlying142
  a76 := Tryz.isAgg142
  z76 := Tryz.sizeOf142
  v76 := Tryz.zeroValue142
  t85 := Tryz.underlying286
  a85 := Tryz.isAgg286
  z85 := Tryz.sizeOf286
  v85 := Tryz.zeroValue286
  t127 := Tryz.underlying357
  a127 := Tryz.isAgg357
  z127 := Tryz.sizeOf357
  v127 := Tryz.zeroValue357
  t143 := Tryz.underlying358
  a143 := Tryz.isAgg358
  z143 := Tryz.sizeOf358
  v143 := Tryz.zeroValue358
  t145 := Tryz.underlying360
  a145 := Tryz.isAgg360
  z145 := Tryz.sizeOf360
  v145 := Tryz.zeroValue360
  t167 := Tryz.underlying285
  a167 := Tryz.isAgg285
  z167 := Tryz.sizeOf285
  v167 := Tryz.zeroValue285
  t168 := Tryz.underlying288
  a168 := Tryz.isAgg288
  z168 := Tryz.sizeOf288
  v168 := Tryz.zeroValue288
  t171 := Tryz.underlying352
  a171 := Tryz.isAgg352
  z171 := Tryz.sizeOf352
  v171 := Tryz.zeroValue352
  t173 := Tryz.underlying354
  a173 := Tryz.isAgg354
  z173 := Tryz.sizeOf354
  v173 := Tryz.zeroValue354
  t175 := Tryz.underlying322
  a175 := Tryz.isAgg322
  z175 := Tryz.sizeOf322
  v175 := Tryz.zeroValue322
  t210 := Tryz.underlying326
  a210 := Tryz.isAgg326
  z210 := Tryz.sizeOf326
  v210 := Tryz.zeroValue326
  t212 := Tryz.underlying380
  a212 := Tryz.isAgg380
  z212 := Tryz.sizeOf380
  v212 := Tryz.zeroValue380
  t213 := Tryz.underlying381
  a213 := Tryz.isAgg381
  z213 := Tryz.sizeOf381
  t232 := Tryz.underlying394
  a232 := Tryz.isAgg394
  z232 := Tryz.sizeOf394
  v232 := Tryz.zeroValue394
  t233 := Tryz.underlying395
  a233 := Tryz.isAgg395
  z233 := Tryz.sizeOf395
  v233 := Tryz.zeroValue395
  g15 := by kernel_rfl
  g16 := by kernel_rfl
  g17 := by kernel_rfl
  g18 := by kernel_rfl
  g19 := by kernel_rfl }
open Go.RowKit in
theorem Tryz.strconv_Atoi (s : ByteArray) (n : Int) (hl : s.size ≤ 18) (h : Lib.atoi s.data.toList = some n) (w : World) :
    Calls Tryz.prog 76 #[.string s] w fun e w' => e = .returned (.tuple #[.int .i64 n, .nilIface]) ∧ ∃ t, w' = Lib.bytesWorld w 5 t := Any.strconv_Atoi Tryz.lays172 s n hl h w
def Tryz.laysM246_ren : Go.Shelf.Ren := ⟨fun | 246 => 236 | 283 => 269 | 284 => 270 | 285 => 271 | 286 => 272 | 129 => 263 | 317 => 294 | 318 => 295 | 319 => 296 | 320 => 297 | 337 => 307 | 338 => 308 | n => n, fun | 2 => 2 | 3 => 3 | 9 => 9 | 4 => 4 | 171 => 352 | 0 => 0 | 53 => 240 | 37 => 35 | 5 => 5 | 173 => 354 | 212 => 380 | 51 => 209 | 20 => 20 | 213 => 381 | 46 => 34 | 232 => 394 | 233 => 395 | n => n, fun | 17 => 3 | 18 => 4 | 19 => 5 | n => n⟩
def Tryz.laysM243_ren : Go.Shelf.Ren := ⟨fun | 243 => 190 | 246 => 236 | 283 => 269 | 284 => 270 | 285 => 271 | 286 => 272 | 129 => 263 | 317 => 294 | 318 => 295 | 319 => 296 | 320 => 297 | 337 => 307 | 338 => 308 | n => n, fun | 3 => 3 | 9 => 9 | 2 => 2 | 4 => 4 | 171 => 352 | 0 => 0 | 53 => 240 | 37 => 35 | 5 => 5 | 173 => 354 | 212 => 380 | 51 => 209 | 20 => 20 | 213 => 381 | 46 => 34 | 232 => 394 | 233 => 395 | n => n, fun | 17 => 3 | 18 => 4 | 19 => 5 | n => n⟩
def Tryz.laysM171_ren : Go.Shelf.Ren := ⟨fun | 171 => 119 | 243 => 190 | 246 => 236 | 283 => 269 | 284 => 270 | 285 => 271 | 286 => 272 | 129 => 263 | 317 => 294 | 318 => 295 | 319 => 296 | 320 => 297 | 337 => 307 | 338 => 308 | n => n, fun | 3 => 3 | 9 => 9 | 2 => 2 | 4 => 4 | 171 => 352 | 0 => 0 | 53 => 240 | 37 => 35 | 5 => 5 | 173 => 354 | 212 => 380 | 51 => 209 | 20 => 20 | 213 => 381 | 46 => 34 | 232 => 394 | 233 => 395 | n => n, fun | 17 => 3 | 18 => 4 | 19 => 5 | n => n⟩
theorem Tryz.laysM171 : Go.Proofs.LaysM.n171 Tryz.prog Tryz.laysM171_ren := {
  mixed := by kernel_rfl
  f129 := Tryz.func263.trans (congrArg some (by kernel_rfl))
  f171 := Tryz.func119.trans (congrArg some (by kernel_rfl))
  f243 := Tryz.func190.trans (congrArg some (by kernel_rfl))
  f246 := Tryz.func236.trans (congrArg some (by kernel_rfl))
  f283 := Tryz.func269.trans (congrArg some (by kernel_rfl))
  f284 := Tryz.func270.trans (congrArg some (by kernel_rfl))
  f285 := Tryz.func271.trans (congrArg some (by kernel_rfl))
  f286 := Tryz.func272.trans (congrArg some (by kernel_rfl))
  f317 := Tryz.func294.trans (congrArg some (by kernel_rfl))
  f318 := Tryz.func295.trans (congrArg some (by kernel_rfl))
  f319 := Tryz.func296.trans (congrArg some (by kernel_rfl))
  f320 := Tryz.func297.trans (congrArg some (by kernel_rfl))
  f337 := Tryz.func307.trans (congrArg some (by kernel_rfl))
  f338 := Tryz.func308.trans (congrArg some (by kernel_rfl))
  t0 := Tryz.underlying0
  a0 := Tryz.isAgg0
  z0 := Tryz.sizeOf0
  v0 := Tryz.zeroValue0
  t2 := Tryz.underlying2
  a2 := Tryz.isAgg2
  z2 := Tryz.sizeOf2
  v2 := Tryz.zeroValue2
  t3 := Tryz.underlying3
  a3 := Tryz.isAgg3
  z3 := Tryz.sizeOf3
  v3 := Tryz.zeroValue3
  t4 := Tryz.underlying4
  a4 := Tryz.isAgg4
  z4 := Tryz.sizeOf4
  v4 := Tryz.zeroValue4
  t5 := Tryz.underlying5
  a5 := Tryz.isAgg5
  z5 := Tryz.sizeOf5
  v5 := Tryz.zeroValue5
  t9 := Tryz.underlying9
  a9 := Tryz.isAgg9
  z9 := Tryz.sizeOf9
  v9 := Tryz.zeroValue9
  t20 := Tryz.underlying20
  a20 := Tryz.isAgg20
  z20 := Tryz.sizeOf20
  v20 := Tryz.zeroValue20
  t37 := Tryz.underlying35
  a37 := Tryz.isAgg35
  z37 := Tryz.sizeOf35
  v37 := Tryz.zeroValue35
  t46 := Tryz.underlying34
  a46 := Tryz.isAgg34
  z46 := Tryz.sizeOf34
  v46 := Tryz.zeroValue34
  t51 := Tryz.underlying209
  a51 := Tryz.isAgg209
  z51 := Tryz.sizeOf209
  v51 := Tryz.zeroValue209
  t53 := Tryz.underlying240
  a53 := Tryz.isAgg240
  z53 := Tryz.sizeOf240
  v53 := Tryz.zeroValue240
  t171 := Tryz.underlying352
  a171 := Tryz.isAgg352
  z171 := Tryz.sizeOf352
  v171 := Tryz.zeroValue352
  t173 := Tryz.underlying354
  a173 := Tryz.isAgg354
  z173 := Tryz.sizeOf354
  v173 := Tryz.zeroValue354
  t212 := Tryz.underlying380
  a212 := Tryz.isAgg380
  z212 := Tryz.sizeOf380
  v212 := Tryz.zeroValue380
  t213 := Tryz.underlying381
  a213 := Tryz.isAgg381
  z213 := Tryz.sizeOf381
  t232 := Tryz.underlying394
  a232 := Tryz.isAgg394
  z232 := Tryz.sizeOf394
  v232 := Tryz.zeroValue394
  t233 := Tryz.underlying395
  a233 := Tryz.isAgg395
  z233 := Tryz.sizeOf395
  v233 := Tryz.zeroValue395
  g17 := by kernel_rfl
  g18 := by kernel_rfl
  g19 := by kernel_rfl
  i0 := by kernel_rfl
  i2 := by kernel_rfl
  i3 := by kernel_rfl
  i4 := by kernel_rfl
  i5 := by kernel_rfl
  i9 := by kernel_rfl
  i20 := by kernel_rfl
  i37 := by kernel_rfl
  i46 := by kernel_rfl
  i51 := by kernel_rfl
  i53 := by kernel_rfl
  i171 := by kernel_rfl
  i173 := by kernel_rfl
  i212 := by kernel_rfl
  i232 := by kernel_rfl
  i233 := by kernel_rfl
  m17 := by kernel_rfl
  m18 := by kernel_rfl
  m19 := by kernel_rfl }
open Go.RowKit Go.Sort Go.Lib in
theorem Tryz.strconv_Itoa (n : Int) (h0 : -9223372036854775808 ≤ n) (h1 : n ≤ 9223372036854775807) (w : World) (htab : Lib.TabIs Tryz.prog w "internal/strconv.uint64pow10" .u64 Lib.pow10Tab) :
    Calls Tryz.prog 119 #[.int .i64 n] w fun e w' => e = .returned (.string ⟨(Lib.itoa n).toArray⟩) ∧ ∃ k os, w' = grow (w.drewN k) os := Any.strconv_Itoa Tryz.laysM171 n h0 h1 w htab
def Tryz.laysGw17_ren : Go.Shelf.Ren := ⟨fun | 17 => 60 | 15 => 117 | 20 => 189 | n => n, fun | 9 => 9 | 23 => 119 | 4 => 4 | 3 => 3 | 0 => 0 | 21 => 21 | n => n, fun | n => n⟩
theorem Tryz.laysGw17 : Go.Proofs.LaysGw.n17 Tryz.prog Tryz.laysGw17_ren := {
  mixed := by kernel_rfl
  f15 := Tryz.func117.trans (congrArg some (by kernel_rfl))
  f17 := Tryz.func60.trans (congrArg some (by kernel_rfl))
  f20 := Tryz.func189.trans (congrArg some (by kernel_rfl))
  t0 := Tryz.underlying0
  a0 := Tryz.isAgg0
  z0 := Tryz.sizeOf0
  v0 := Tryz.zeroValue0
  i0 := by kernel_rfl
  t3 := Tryz.underlying3
  a3 := Tryz.isAgg3
  z3 := Tryz.sizeOf3
  v3 := Tryz.zeroValue3
  i3 := by kernel_rfl
  t4 := Tryz.underlying4
  a4 := Tryz.isAgg4
  z4 := Tryz.sizeOf4
  v4 := Tryz.zeroValue4
  i4 := by kernel_rfl
  t9 := Tryz.underlying9
  a9 := Tryz.isAgg9
  z9 := Tryz.sizeOf9
  v9 := Tryz.zeroValue9
  i9 := by kernel_rfl
  t21 := Tryz.underlying21
  a21 := Tryz.isAgg21
  z21 := Tryz.sizeOf21
  v21 := Tryz.zeroValue21
  i21 := by kernel_rfl
  t23 := Tryz.underlying119
  a23 := Tryz.isAgg119
  z23 := Tryz.sizeOf119
  v23 := Tryz.zeroValue119
  i23 := by kernel_rfl }
open Go.RowKit Go.Lib in
theorem Tryz.strings_ContainsFunc (g : Nat) (lb : Array Value) (eg : ∀ args w, (callFunc g args).run Tryz.prog w = .ok (.enter g args) w) (p : Nat → Bool) (s : ByteArray) (w : World) (hp : PredAt Tryz.prog g lb encR p w) :
    Calls Tryz.prog 60 #[.string s, .func (.func g) #[] lb] w fun e w' => e = .returned (.bool (decide (0 ≤ Lib.idxFunc p true s))) ∧ Below w.heap.size w w' := Any.strings_ContainsFunc Tryz.laysGw17 g lb eg p s w hp
def Tryz.laysNm215_ren : Go.Shelf.Ren := ⟨fun | 15 => 93 | n => n, fun | 22 => 26 | 3 => 3 | 4 => 4 | n => n, fun | n => n⟩
theorem Tryz.laysNm215 : Go.Proofs.Lays2.n15 Tryz.prog Tryz.laysNm215_ren := {
  mixed := by kernel_rfl
  f15 := Tryz.func93.trans (congrArg some (by kernel_rfl))
  t3 := Tryz.underlying3
  a3 := Tryz.isAgg3
  z3 := Tryz.sizeOf3
  v3 := Tryz.zeroValue3
  t4 := Tryz.underlying4
  a4 := Tryz.isAgg4
  z4 := Tryz.sizeOf4
  v4 := Tryz.zeroValue4
  t22 := Tryz.underlying26
  a22 := Tryz.isAgg26
  z22 := Tryz.sizeOf26
  v22 := Tryz.zeroValue26
  i3 := by kernel_rfl }
open Go.RowKit Go.Lib in
theorem Tryz.slices_Clone_int (b off n c : Nat) (zs : List Int) (w : World) (hz : n ≤ zs.length) (hbig : n * 8 ≤ 140737488355328) (hc : ∀ j, j < zs.length → w.cell? ⟨b, off + j, none⟩ = some (.int .i64 (zs.getD j 0))) :
    Calls Tryz.prog 93 #[.slice (some ⟨b, off, none⟩) n c] w fun e w' => ∃ v', e = .returned v' ∧ w'.ownsRow w.heap.size 3 1 v' n ((zs.take n).map (Value.int .i64)) ∧ v' ≠ .slice none 0 0 ∧ Below w.heap.size w w' := Any.slices_Clone_int Tryz.laysNm215 b off n c zs w hz hbig hc
open Go.RowKit Go.Lib in
theorem Tryz.slices_Clone_int_nil (n c : Nat) (w : World) :
    Calls Tryz.prog 93 #[.slice none n c] w fun e w' => e = .returned (.slice none 0 0) ∧ w' = w := Any.slices_Clone_int_nil Tryz.laysNm215 n c w
open Go.RowKit Go.Lib in
theorem Tryz.slices_Clone_int_zero (a : Addr) (c : Nat) (w : World) :
    Calls Tryz.prog 93 #[.slice (some a) 0 c] w fun e w' => ∃ v', e = .returned v' ∧ w'.ownsRow w.heap.size 3 1 v' 0 [] ∧ v' ≠ .slice none 0 0 ∧ Below w.heap.size w w' := Any.slices_Clone_int_zero Tryz.laysNm215 a c w
end Go.Proofs
end
section
namespace Go.Proofs.YtjnolpfmchnnmaaGreatDoor
set_option maxRecDepth 100000
open Go.RowKit Go.BigFrame Go.Sort Go.Shelf Go.Lib
attribute [local go_sem ↓] Go.wp_at_zero Go.wp_at_succ
def okByte (b : UInt8) : Bool := (decide (97 ≤ b.toNat) && decide (b.toNat ≤ 122)) || (decide (48 ≤ b.toNat) && decide (b.toNat ≤ 57)) || b.toNat == 46 || b.toNat == 45
def badRune (r : Nat) : Bool := !((decide (97 ≤ r) && decide (r ≤ 122)) || (decide (48 ≤ r) && decide (r ≤ 57)) || r == 46 || r == 45)
def nameB (s : List UInt8) : Bool := !s.isEmpty && decide (s.length ≤ 32) && s.all okByte
theorem badRune_high {r : Nat} (h : 128 ≤ r) : badRune r = true := by
  unfold badRune
  simp
  omega
theorem badRune_byte (b : UInt8) : badRune b.toNat = !okByte b := rfl
theorem idx_bad (l : List UInt8) : ∀ (f pos : Nat), l.length ≤ pos + f → (0 ≤ Lib.idxFuncFrom badRune true ⟨l.toArray⟩ f pos ↔ ∃ b ∈ l.drop pos, okByte b = false)
  | 0, pos, h => by
    rw [List.drop_eq_nil_of_le (by omega)]
    simp [Lib.idxFuncFrom]
  | f + 1, pos, h => by
    unfold Lib.idxFuncFrom
    by_cases hp : pos < l.length
    · have hs : pos < (⟨l.toArray⟩ : ByteArray).size := by rw [ba_size]; exact hp
      rw [if_pos hs]
      have hd : l.drop pos = l[pos] :: l.drop (pos + 1) := List.drop_eq_getElem_cons hp
      have hb : (⟨l.toArray⟩ : ByteArray)[pos]'hs = l[pos] := rfl
      by_cases ha : l[pos].toNat < 128
      · rw [decode_ascii _ _ hs (by rw [hb]; exact ha), hb]
        dsimp only
        by_cases ho : okByte l[pos] = true
        · have := idx_bad l f (pos + 1) (by omega)
          rw [if_neg (by rw [badRune_byte, ho]; simp), this, hd]
          refine ⟨fun ⟨b, h1, h2⟩ => ⟨b, List.mem_cons_of_mem _ h1, h2⟩, fun ⟨b, h1, h2⟩ => ?_⟩
          rcases List.mem_cons.1 h1 with rfl | h1
          · rw [ho] at h2; cases h2
          · exact ⟨b, h1, h2⟩
        · have ho' : okByte l[pos] = false := by simpa using ho
          rw [if_pos (by rw [badRune_byte, ho']; rfl), hd]
          refine ⟨fun _ => ⟨l[pos], List.mem_cons_self, ho'⟩, fun _ => by omega⟩
      · have hh := decode_high _ _ hs (by rw [hb]; omega)
        rw [if_pos (badRune_high hh.1)]
        refine ⟨fun _ => ⟨l[pos], by rw [hd]; exact List.mem_cons_self, ?_⟩, fun _ => by omega⟩
        unfold okByte
        simp
        omega
    · rw [if_neg (by rw [ba_size]; exact hp), List.drop_eq_nil_of_le (by omega)]
      simp
theorem idx_name (l : List UInt8) : decide (0 ≤ Lib.idxFunc badRune true ⟨l.toArray⟩) = !l.all okByte := by
  have h := idx_bad l (⟨l.toArray⟩ : ByteArray).size 0 (by rw [ba_size]; omega)
  rw [List.drop_zero] at h
  unfold Lib.idxFunc
  rw [Bool.eq_iff_iff, decide_eq_true_iff, h]
  simp
set_option maxHeartbeats 2000000 in
theorem named1 (w : World) : PredAt Tryz.prog 213 #[] encR badRune w := fun W r _ => by
  unfold FnGives
  rcases (by omega : r < 45 ∨ r = 45 ∨ r = 46 ∨ r = 47 ∨ (48 ≤ r ∧ r ≤ 57) ∨ (58 ≤ r ∧ r < 97) ∨ (97 ≤ r ∧ r ≤ 122) ∨ 122 < r) with h | h | h | h | h | h | h | h
  all_goals
    have z1 : ((r : Int) < 97) ↔ r < 97 := by omega
    have z2 : (122 < (r : Int)) ↔ 122 < r := by omega
    have z3 : ((r : Int) < 48) ↔ r < 48 := by omega
    have z4 : (57 < (r : Int)) ↔ 57 < r := by omega
    have z5 : ((r : Int) = 46) ↔ r = 46 := by omega
    have z6 : ((r : Int) = 45) ↔ r = 45 := by omega
    go_enter Tryz.func213, Tryz.ntmps213
    go_wp2
    all_goals first | (exfalso; omega) | (go_ret; exact ⟨ret_bool (by rw [Bool.eq_iff_iff]; simp [badRune]; omega), 0, rfl⟩)
set_option maxHeartbeats 2000000 in
theorem named_any (s : List UInt8) (w : World) (hl : s.length ≤ 140737488355328) :
    Calls Tryz.prog 148 #[.string ⟨s.toArray⟩] w fun r w' => r = .returned (.bool (nameB s)) ∧ Below w.heap.size w w' := by
  have HC := fun W => Tryz.strings_ContainsFunc 213 #[] (enters_of Tryz.func213 (by kernel_rfl) rfl) badRune ⟨s.toArray⟩ W (named1 W)
  simp only [idx_name] at HC
  have hsz : (⟨s.toArray⟩ : ByteArray).size = s.length := ba_size s
  cases s with
  | nil =>
    go_enter Tryz.func148, Tryz.ntmps148
    go_wp2
    go_ret
    exact ⟨rfl, Below.refl _ _⟩
  | cons b l =>
    have hb : nameB (b :: l) = (decide ((b :: l).length ≤ 32) && (b :: l).all okByte) := rfl
    by_cases h32 : l.length + 1 ≤ 32
    · go_enter Tryz.func148, Tryz.ntmps148
      go_wp2_with (go_at_call 60; refine (HC _).mono ?_; rintro r w1 ⟨rfl, hb1⟩)
      all_goals first | (exfalso; omega) | skip
      go_ret
      exact ⟨ret_bool (by rw [hb]; simp [h32]), hb1⟩
    · go_enter Tryz.func148, Tryz.ntmps148
      go_wp2
      all_goals first | (exfalso; omega) | skip
      go_ret
      exact ⟨rfl, Below.refl _ _⟩
end Go.Proofs.YtjnolpfmchnnmaaGreatDoor
end
section
namespace Go.Proofs.YtjnolpfmchnnmaaGreatDoor
set_option maxRecDepth 100000
open Go.RowKit Go.BigFrame Go.Sort Go.Shelf Go.Lib Go.Maps
abbrev Nm := List UInt8
structure Fd where
  name : Nm
  data : List UInt8
  synced : Int
  blk : Nat
  sl : Value
structure Dk where
  ns : List Fd
  ops : Int
  room : Int
  keep : List Int
  done : Int
  bytes : Int
  down : Bool
def findF (x : Nm) : List Fd → Option Fd
  | [] => none
  | f :: l => if f.name = x then some f else findF x l
def insF (f : Fd) : List Fd → List Fd
  | [] => [f]
  | g :: l => if f.name < g.name then f :: g :: l else if f.name = g.name then f :: l else g :: insF f l
def delF (x : Nm) : List Fd → List Fd
  | [] => []
  | f :: l => if f.name = x then delF x l else f :: delF x l
def updF (x : Nm) (g : Fd → Fd) (ns : List Fd) : List Fd := ns.map fun f => if f.name = x then g f else f
def sortedF (ns : List Fd) : Prop := ns.Pairwise fun a b => a.name < b.name
def ptrF (o : Option Fd) : Value := .pointer (o.map fun f => (⟨f.blk, 0, none⟩ : Addr))
def ptrR : Value → Option (DataW Unit × List MemPlace)
  | .pointer none => some (.lit (.bool false), [])
  | .pointer (some ⟨b, 0, none⟩) => some (.lit (.int .i64 b), [])
  | _ => none
def datF (o : Option Fd) : DataW Unit := match o with | some f => .lit (.int .i64 f.blk) | none => .lit (.bool false)
theorem ptrR_inv {v : Value} {o : Option Fd} {ps : List MemPlace} (h : ptrR v = some (datF o, ps)) : v = ptrF o := by
  unfold ptrR at h
  split at h
  · cases o with
    | none => rfl
    | some f => simp [datF] at h
  · cases o with
    | none => simp [datF] at h
    | some f =>
      simp only [datF, Option.some.injEq, Prod.mk.injEq, DataW.lit.injEq, Lit.int.injEq, true_and] at h
      obtain ⟨h, _⟩ := h
      have h : _ = f.blk := Int.ofNat.inj h
      subst h
      rfl
  · cases h
structure MapIs (D : DataW Unit) (ns : List Fd) : Prop where
  at_ : ∀ x, D.atKey (.string x) (.lit (.bool false)) = datF (findF x ns)
  has : ∀ x, Maps.has D (.string x) = (findF x ns).isSome
  size : Maps.size D = ns.length
theorem find_ins (x : Nm) (f : Fd) (ns : List Fd) : findF x (insF f ns) = if f.name = x then some f else findF x ns := by
  induction ns with
  | nil => rfl
  | cons g l ih =>
    unfold insF
    split
    · rfl
    · split
      · rename_i h1 h2
        simp only [findF, h2]
        split <;> rfl
      · rename_i h1 h2
        simp only [findF, ih]
        by_cases hg : g.name = x
        · have : ¬ f.name = x := fun e => h2 (e.trans hg.symm)
          simp only [if_pos hg, if_neg this]
        · simp only [if_neg hg]
theorem find_del (x y : Nm) (ns : List Fd) : findF x (delF y ns) = if x = y then none else findF x ns := by
  induction ns with
  | nil => simp [delF, findF]
  | cons g l ih =>
    unfold delF
    split
    · rename_i h
      rw [ih]
      by_cases hx : x = y
      · simp only [if_pos hx]
      · have : ¬ g.name = x := fun e => hx (e.symm.trans h)
        simp only [if_neg hx, findF, if_neg this]
    · rename_i h
      simp only [findF, ih]
      by_cases hg : g.name = x
      · have : ¬ x = y := fun e => h (hg.trans e)
        simp only [if_pos hg, if_neg this]
      · simp only [if_neg hg]
theorem find_upd (x y : Nm) (g : Fd → Fd) (hg : ∀ f, (g f).name = f.name) (ns : List Fd) : findF x (updF y g ns) = if x = y then (findF x ns).map g else findF x ns := by
  induction ns with
  | nil => simp [updF, findF]
  | cons f l ih =>
    have e : updF y g (f :: l) = (if f.name = y then g f else f) :: updF y g l := rfl
    rw [e]
    simp only [findF, ih]
    by_cases hf : f.name = y
    · simp only [if_pos hf, hg]
      by_cases hx : f.name = x
      · simp [hx, hf.symm.trans hx]
      · simp only [if_neg hx]
    · simp only [if_neg hf]
      by_cases hx : f.name = x
      · have : ¬ x = y := fun e => hf (hx.trans e)
        simp only [if_pos hx, if_neg this]
      · simp only [if_neg hx]
theorem find_name {x : Nm} {ns : List Fd} {f : Fd} (h : findF x ns = some f) : f.name = x ∧ f ∈ ns := by
  induction ns with
  | nil => cases h
  | cons g l ih =>
    unfold findF at h
    split at h
    · injection h with h
      subst h
      exact ⟨by assumption, List.mem_cons_self⟩
    · exact ⟨(ih h).1, List.mem_cons_of_mem _ (ih h).2⟩
theorem find_none {x : Nm} {ns : List Fd} : findF x ns = none ↔ ∀ f ∈ ns, f.name ≠ x := by
  induction ns with
  | nil => simp [findF]
  | cons g l ih =>
    unfold findF
    split
    · rename_i h
      simp [h]
    · rename_i h
      simp [ih, h]
theorem mem_ins {f g : Fd} {ns : List Fd} (h : g ∈ insF f ns) : g = f ∨ g ∈ ns := by
  induction ns with
  | nil => simpa [insF] using h
  | cons a l ih =>
    unfold insF at h
    split at h
    · simpa using h
    · split at h
      · rcases List.mem_cons.1 h with h | h
        · exact .inl h
        · exact .inr (List.mem_cons_of_mem _ h)
      · rcases List.mem_cons.1 h with h | h
        · exact .inr (by rw [h]; exact List.mem_cons_self)
        · rcases ih h with h | h
          · exact .inl h
          · exact .inr (List.mem_cons_of_mem _ h)
theorem mem_del {y : Nm} {g : Fd} {ns : List Fd} : g ∈ delF y ns ↔ g ∈ ns ∧ g.name ≠ y := by
  induction ns with
  | nil => simp [delF]
  | cons a l ih =>
    unfold delF
    split
    · rename_i h
      simp only [ih, List.mem_cons]
      exact ⟨fun ⟨h1, h2⟩ => ⟨.inr h1, h2⟩, fun ⟨h1, h2⟩ => ⟨h1.resolve_left (fun e => h2 (e ▸ h)), h2⟩⟩
    · rename_i h
      simp only [List.mem_cons, ih]
      exact ⟨fun h1 => h1.elim (fun e => ⟨.inl e, e ▸ h⟩) (fun h => ⟨.inr h.1, h.2⟩), fun ⟨h1, h2⟩ => h1.elim .inl (fun h => .inr ⟨h, h2⟩)⟩
theorem sub_del (y : Nm) (ns : List Fd) : (delF y ns).Sublist ns := by
  induction ns with
  | nil => exact .slnil
  | cons a l ih => unfold delF; split; exact .cons _ ih; exact .cons_cons _ ih
theorem lt_tri (a b : Nm) (h1 : ¬ a < b) (h2 : ¬ a = b) : b < a := by
  rcases Std.lt_trichotomy a b with h | h | h
  · exact absurd h h1
  · exact absurd h h2
  · exact h
theorem sorted_ins {f : Fd} {ns : List Fd} (h : sortedF ns) : sortedF (insF f ns) := by
  induction ns with
  | nil => exact List.pairwise_singleton _ _
  | cons a l ih =>
    have ha := (List.pairwise_cons.1 h).1
    have hl := (List.pairwise_cons.1 h).2
    unfold insF
    split
    · rename_i h1
      refine List.pairwise_cons.2 ⟨fun x hx => ?_, h⟩
      rcases List.mem_cons.1 hx with rfl | hx
      · exact h1
      · exact List.lt_trans h1 (ha x hx)
    · split
      · rename_i h1 h2
        exact List.pairwise_cons.2 ⟨fun x hx => by show f.name < x.name; rw [h2]; exact ha x hx, hl⟩
      · rename_i h1 h2
        refine List.pairwise_cons.2 ⟨fun x hx => ?_, ih hl⟩
        rcases mem_ins hx with rfl | hx
        · exact lt_tri _ _ h1 h2
        · exact ha x hx
theorem sorted_del {y : Nm} {ns : List Fd} (h : sortedF ns) : sortedF (delF y ns) := h.sublist (sub_del y ns)
theorem sorted_upd {y : Nm} {g : Fd → Fd} (hg : ∀ f, (g f).name = f.name) {ns : List Fd} (h : sortedF ns) : sortedF (updF y g ns) := by
  unfold sortedF updF
  rw [List.pairwise_map]
  refine h.imp fun {a b} hab => ?_
  show (if a.name = y then g a else a).name < (if b.name = y then g b else b).name
  have e : ∀ f : Fd, (if f.name = y then g f else f).name = f.name := fun f => by split <;> simp [hg]
  rw [e, e]
  exact hab
end Go.Proofs.YtjnolpfmchnnmaaGreatDoor
end
