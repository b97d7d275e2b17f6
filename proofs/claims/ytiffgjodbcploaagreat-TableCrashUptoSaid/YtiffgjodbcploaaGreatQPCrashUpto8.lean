/-
The library's contracts on slices.Sorted(maps.Keys(m)) at this seat's numbers, laid by the kit's tools. Conditions: each theorem's own.
-/
import Derived.Test.YtiffgjodbcploaaGreatQPCrashUpto2
import Derived.Deep.Cut
import Derived.Deep.CutRange
import Derived.Deep.DeepCutAuto
import Derived.Shelf.SlGeneric
import Derived.Shelf.SlIter.Nil
import Derived.Shelf.SortM.Plain
import Derived.Shelf.SortM.SortNone
import Derived.Ground.GgzProg
import Derived.Ground.SlgmProg
import Derived.Test.YtiffgjodbcploaaGreatProg
section
namespace Go.Proofs.YtiffgjodbcploaaGreat
set_option maxRecDepth 100000
open Go.RowKit
structure Fl where
  name : Nm
  data : List UInt8
  synced : Int
structure Pk where
  fs : List Fl
  ops : Int
  room : Int
  keep : List Int
  done : Int
  bytes : Int
  down : Bool
def Fd.fl (f : Fd) : Fl := ⟨f.name, f.data, f.synced⟩
def Dk.pk (d : Dk) : Pk := ⟨d.ns.map Fd.fl, d.ops, d.room, d.keep, d.done, d.bytes, d.down⟩
def findP (x : Nm) : List Fl → Option Fl
  | [] => none
  | f :: l => if f.name = x then some f else findP x l
def insP (f : Fl) : List Fl → List Fl
  | [] => [f]
  | g :: l => if f.name < g.name then f :: g :: l else if f.name = g.name then f :: l else g :: insP f l
def delP (x : Nm) : List Fl → List Fl
  | [] => []
  | f :: l => if f.name = x then delP x l else f :: delP x l
def updP (x : Nm) (g : Fl → Fl) (ns : List Fl) : List Fl := ns.map fun f => if f.name = x then g f else f
theorem findP_map (x : Nm) (ns : List Fd) : findP x (ns.map Fd.fl) = (findF x ns).map Fd.fl := by
  induction ns with
  | nil => rfl
  | cons f l ih =>
    show (if f.name = x then some f.fl else findP x (l.map Fd.fl)) = _
    unfold findF
    split
    · rfl
    · exact ih
theorem insP_map (f : Fd) (ns : List Fd) : insP f.fl (ns.map Fd.fl) = (insF f ns).map Fd.fl := by
  induction ns with
  | nil => rfl
  | cons g l ih =>
    show (if f.name < g.name then f.fl :: g.fl :: l.map Fd.fl else if f.name = g.name then f.fl :: l.map Fd.fl else g.fl :: insP f.fl (l.map Fd.fl)) = _
    unfold insF
    split
    · rfl
    · split
      · rfl
      · rw [ih]; rfl
theorem delP_map (x : Nm) (ns : List Fd) : delP x (ns.map Fd.fl) = (delF x ns).map Fd.fl := by
  induction ns with
  | nil => rfl
  | cons g l ih =>
    show (if g.name = x then delP x (l.map Fd.fl) else g.fl :: delP x (l.map Fd.fl)) = _
    unfold delF
    split
    · exact ih
    · rw [ih]; rfl
theorem updP_map (x : Nm) (g : Fd → Fd) (g' : Fl → Fl) (h : ∀ f, (g f).fl = g' f.fl) (ns : List Fd) : updP x g' (ns.map Fd.fl) = (updF x g ns).map Fd.fl := by
  unfold updP updF
  rw [List.map_map, List.map_map]
  refine List.map_congr_left fun f _ => ?_
  show (if f.name = x then g' f.fl else f.fl) = (if f.name = x then g f else f).fl
  split
  · rw [h]
  · rfl
/-- ready's answer. -/
def readyE (k : Pk) (ss : List Nm) : Int :=
  if k.down = true then 20 else if ss.all nameB = false then 23 else match ss with
    | [] => 0
    | x :: _ => if (findP x k.fs).isNone then 22 else 0
def crashes (k : Pk) : Bool := decide (0 ≤ k.ops) && decide (k.ops ≤ k.done)
def changeE (k : Pk) : Int := if crashes k = true then 20 else 0
def changeK (k : Pk) : Pk := if crashes k = true then { k with down := true } else { k with done := k.done + 1 }
def updK (k : Pk) (x : Nm) (g : Fl → Fl) : Pk := { k with fs := updP x g k.fs }
def syncE (k : Pk) (x : Nm) : Int := if readyE k [x] = 0 then changeE k else readyE k [x]
def syncK (k : Pk) (x : Nm) : Pk := if readyE k [x] = 0 then (if crashes k = true then changeK k else updK (changeK k) x fun f => { f with synced := f.data.length }) else k
def lenP (k : Pk) (x : Nm) : Nat := match findP x k.fs with | some f => f.data.length | none => 0
def deleteK (k : Pk) (x : Nm) : Pk := if readyE k [x] = 0 then (if crashes k = true then changeK k else { changeK k with fs := delP x k.fs, bytes := wrap64 (k.bytes - lenP k x) }) else k
def renameE (k : Pk) (x y : Nm) : Int := if readyE k [x, y] = 0 then changeE k else readyE k [x, y]
/-- the files behind a renaming. -/
def renFs (x y : Nm) (fs : List Fl) : List Fl := match findP x fs with | some f => insP { f with name := y } (delP x fs) | none => fs
def renameK (k : Pk) (x y : Nm) : Pk := if readyE k [x, y] = 0 then (if crashes k = true then changeK k else if x = y then changeK k else { changeK k with fs := renFs x y k.fs, bytes := if (findP y (delP x k.fs)).isSome = true then wrap64 (k.bytes - lenP k y) else k.bytes }) else k
def fullP (k : Pk) (n : Nat) : Bool := decide (0 ≤ k.room) && decide (wrap64 (k.room - k.bytes) < (n : Int))
/-- the files behind an Append. -/
def appFs (x : Nm) (b : List UInt8) (fs : List Fl) : List Fl := updP x (fun f => { f with data := f.data ++ b }) (if (findP x fs).isSome = true then fs else insP ⟨x, [], 0⟩ fs)
def appendE (k : Pk) (x : Nm) (b : List UInt8) : Int := if readyE k [x] = 0 ∨ readyE k [x] = 22 then (if fullP k b.length = true then 21 else changeE k) else readyE k [x]
def appendK (k : Pk) (x : Nm) (b : List UInt8) : Pk := if readyE k [x] = 0 ∨ readyE k [x] = 22 then (if fullP k b.length = true then k else if crashes k = true then changeK k else { changeK k with fs := appFs x b k.fs, bytes := wrap64 (k.bytes + b.length) }) else k
end Go.Proofs.YtiffgjodbcploaaGreat
end
section
namespace Go.Proofs.YtiffgjodbcploaaGreat
set_option maxRecDepth 100000
open Go.RowKit Go.BigFrame Go.Sort Go.Shelf Go.Lib Go.Maps
attribute [local go_sem ↓] Go.wp_at_zero Go.wp_at_succ
structure FileV (w : World) (F : Nat → Prop) (f : Fd) : Prop where
  cells : w.heap[f.blk]? = some (.cells #[f.sl, .int .i64 f.synced] 91 (0, 0))
  own : OwnB w F f.sl f.data
  lo : F f.blk
/-- the plan's own copy of the numbers. -/
def KeepV (w : World) (F : Nat → Prop) (kv : Value) (keep : List Int) : Prop :=
  ∃ A c, kv = .slice A keep.length c ∧ keep.length ≤ c ∧ keep.length ≤ 140737488355328 ∧ (0 < keep.length → ∃ (g o : Nat) (cs : Array Value), A = some ⟨g, o, none⟩ ∧ F g ∧ w.heap[g]? = some (.cells cs 3 (0, 0)) ∧ ∀ j z, keep[j]? = some z → cs[o + j]? = some (.int .i64 z))
structure DiskV (w : World) (F : Nat → Prop) (p mb : Nat) (kv : Value) (d : Dk) : Prop where
  head : w.heap[p]? = some (.cells #[.map (some mb), .int .i64 d.ops, .int .i64 d.room, kv, .int .i64 d.done, .int .i64 d.bytes, .bool d.down] 68 (0, 0))
  map : ∃ D, w.ownsMap Tryz.prog 9 ptrR mb d.ns.length D ∧ MapIs D d.ns
  files : ∀ f ∈ d.ns, FileV w F f
  keep : KeepV w F kv d.keep
  names : ∀ f ∈ d.ns, nameB f.name = true
  sorted : sortedF d.ns
  blks : d.ns.Pairwise fun a b => a.blk ≠ b.blk
  sls : d.ns.Pairwise fun a b => ∀ g, blkB a.sl = some g → blkB b.sl ≠ some g
  loP : F p
  loM : F mb
/-- a disk at p that is k. -/
def DiskP (w : World) (F : Nat → Prop) (p : Nat) (k : Pk) : Prop := ∃ mb kv d, DiskV w F p mb kv d ∧ d.pk = k
section
variable {w w' : World} {F : Nat → Prop} {p mb : Nat} {kv : Value} {d : Dk}
theorem KeepV.kept {keep : List Int} (h : KeepV w F kv keep) (hk : ∀ g cs, F g → w.heap[g]? = some (.cells cs 3 (0, 0)) → w'.heap[g]? = w.heap[g]?) : KeepV w' F kv keep := by
  obtain ⟨A, c, e, h1, h2, h3⟩ := h
  refine ⟨A, c, e, h1, h2, fun hn => ?_⟩
  obtain ⟨g, o, cs, e1, e2, e3, e4⟩ := h3 hn
  exact ⟨g, o, cs, e1, e2, (hk g cs e2 e3).trans e3, e4⟩
theorem FileV.below {f : Fd} (h : FileV w F f) (hb : Below w.heap.size w w') : FileV w' F f :=
  ⟨(hb.block _ (Array.getElem?_eq_some_iff.1 h.cells).1).trans h.cells, h.own.below hb, h.lo⟩
theorem DiskV.ltP (h : DiskV w F p mb kv d) : p < w.heap.size := (Array.getElem?_eq_some_iff.1 h.head).1
theorem DiskV.ltM (h : DiskV w F p mb kv d) : mb < w.heap.size := by obtain ⟨D, h, _⟩ := h.map; exact h.lt
theorem ownsMap_block {D : DataW Unit} {n : Nat} (h : w.ownsMap Tryz.prog 9 ptrR mb n D) (he : w'.heap[mb]? = w.heap[mb]?) : w'.ownsMap Tryz.prog 9 ptrR mb n D := by
  obtain ⟨es, clock, hb, r⟩ := h
  exact ⟨es, clock, he.trans hb, r⟩
/-- the disk stands where none of its blocks turns. -/
theorem DiskV.kept (h : DiskV w F p mb kv d) (hk : ∀ i, F i → i < w.heap.size → w'.heap[i]? = w.heap[i]?) : DiskV w' F p mb kv d := by
  obtain ⟨D, hm, hD⟩ := h.map
  refine ⟨(hk p h.loP h.ltP).trans h.head, ⟨D, ownsMap_block hm (hk mb h.loM h.ltM), hD⟩, fun f hf => ?_, h.keep.kept fun g cs hg hc => hk g hg (Array.getElem?_eq_some_iff.1 hc).1, h.names, h.sorted, h.blks, h.sls, h.loP, h.loM⟩
  have hv := h.files f hf
  exact ⟨(hk _ hv.lo (Array.getElem?_eq_some_iff.1 hv.cells).1).trans hv.cells, hv.own.kept fun g hg => hk g (hv.own.blk hg).1 (hv.own.blk hg).2.2, hv.lo⟩
theorem DiskV.below (h : DiskV w F p mb kv d) (hb : Below w.heap.size w w') : DiskV w' F p mb kv d := h.kept fun i _ hi => hb.block i hi
theorem DiskV.only {S : Nat → Prop} (h : DiskV w F p mb kv d) (ho : Only S w w') (hS : ∀ i, S i → ¬ F i) : DiskV w' F p mb kv d := h.kept fun i hb hi => ho.block i hi fun hs => hS i hs hb
theorem DiskP.below {k : Pk} (h : DiskP w F p k) (hb : Below w.heap.size w w') : DiskP w' F p k := by
  obtain ⟨mb, kv, d, h, e⟩ := h
  exact ⟨mb, kv, d, h.below hb, e⟩
theorem DiskP.only {S : Nat → Prop} {k : Pk} (h : DiskP w F p k) (ho : Only S w w') (hS : ∀ i, S i → ¬ F i) : DiskP w' F p k := by
  obtain ⟨mb, kv, d, h, e⟩ := h
  exact ⟨mb, kv, d, h.only ho hS, e⟩
theorem FileV.mono {F' : Nat → Prop} {f : Fd} (h : FileV w F f) (hF : ∀ i, F i → i < w.heap.size → F' i) : FileV w F' f := by
  refine ⟨h.cells, ?_, hF _ h.lo (Array.getElem?_eq_some_iff.1 h.cells).1⟩
  obtain ⟨A, c, e, h1, h2, h3, h4⟩ := h.own
  exact ⟨A, c, e, h1, h2, h3, h4.imp id fun ⟨g, cur, a, b, e1, r⟩ => ⟨g, cur, a, hF g b (Array.getElem?_eq_some_iff.1 e1).1, e1, r⟩⟩
theorem KeepV.mono {F' : Nat → Prop} {keep : List Int} (h : KeepV w F kv keep) (hF : ∀ i, F i → i < w.heap.size → F' i) : KeepV w F' kv keep := by
  obtain ⟨A, c, e, h1, h2, h3⟩ := h
  refine ⟨A, c, e, h1, h2, fun hn => ?_⟩
  obtain ⟨g, o, cs, e1, e2, e3, e4⟩ := h3 hn
  exact ⟨g, o, cs, e1, hF g e2 (Array.getElem?_eq_some_iff.1 e3).1, e3, e4⟩
/-- another set that holds the disk's blocks. -/
theorem DiskV.mono {F' : Nat → Prop} (h : DiskV w F p mb kv d) (hF : ∀ i, F i → i < w.heap.size → F' i) : DiskV w F' p mb kv d :=
  ⟨h.head, h.map, fun f hf => (h.files f hf).mono hF, h.keep.mono hF, h.names, h.sorted, h.blks, h.sls, hF p h.loP h.ltP, hF mb h.loM h.ltM⟩
theorem DiskP.mono {F' : Nat → Prop} {k : Pk} (h : DiskP w F p k) (hF : ∀ i, F i → i < w.heap.size → F' i) : DiskP w F' p k := by
  obtain ⟨mb, kv, d, h, e⟩ := h
  exact ⟨mb, kv, d, h.mono hF, e⟩
/-- the blocks of F and whatever is laid from n on. -/
def orNew (F : Nat → Prop) (n i : Nat) : Prop := F i ∨ n ≤ i
/-- the head's cells. -/
theorem DiskV.cell (h : DiskV w F p mb kv d) : w.cell? ⟨p, 0, none⟩ = some (.map (some mb)) ∧ w.cell? ⟨p, 1, none⟩ = some (.int .i64 d.ops) ∧ w.cell? ⟨p, 2, none⟩ = some (.int .i64 d.room) ∧ w.cell? ⟨p, 3, none⟩ = some kv ∧ w.cell? ⟨p, 4, none⟩ = some (.int .i64 d.done) ∧ w.cell? ⟨p, 5, none⟩ = some (.int .i64 d.bytes) ∧ w.cell? ⟨p, 6, none⟩ = some (.bool d.down) := by
  refine ⟨?_, ?_, ?_, ?_, ?_, ?_, ?_⟩ <;> (rw [cell_of_row w p _ _ _ _ h.head]; rfl)
theorem DiskV.frozen (h : DiskV w F p mb kv d) (i : Nat) : w.frozen? ⟨p, i, none⟩ = false := frozen_of_row w p i _ _ h.head
/-- a store into the head. -/
theorem DiskV.store (h : DiskV w F p mb kv d) (i : Nat) (v : Value) (d' : Dk) (kv' : Value) (hn : d'.ns = d.ns) (hkp : KeepV w F kv' d'.keep)
    (hc : #[Value.map (some mb), .int .i64 d'.ops, .int .i64 d'.room, kv', .int .i64 d'.done, .int .i64 d'.bytes, .bool d'.down] = (#[Value.map (some mb), .int .i64 d.ops, .int .i64 d.room, kv, .int .i64 d.done, .int .i64 d.bytes, .bool d.down] : Array Value).setIfInBounds i v) : DiskV (w.setCell ⟨p, i, none⟩ v) F p mb kv' d' := by
  obtain ⟨D, hm, hD⟩ := h.map
  have hne : ∀ j, j ≠ p → (w.setCell ⟨p, i, none⟩ v).heap[j]? = w.heap[j]? := fun j hj => heap_setCell_other w ⟨p, i, none⟩ j v hj
  have hty : ∀ j cs (t : TypeId), w.heap[j]? = some (.cells cs t (0, 0)) → t ≠ 68 → j ≠ p := fun j cs t hj ht e => by
    subst e
    rw [h.head] at hj
    injection hj with hj
    injection hj with _ hj
    exact ht hj.symm
  have hmp : mb ≠ p := by
    rintro rfl
    obtain ⟨es, clock, hb, _⟩ := hm
    rw [h.head] at hb
    cases hb
  refine ⟨?_, ⟨D, by rw [hn]; exact ownsMap_block hm (hne mb hmp), by rw [hn]; exact hD⟩, fun f hf => ?_, hkp.kept fun g cs hg hcs => hne g (hty g cs _ hcs (by decide)), by rw [hn]; exact h.names, by rw [hn]; exact h.sorted, by rw [hn]; exact h.blks, by rw [hn]; exact h.sls, h.loP, h.loM⟩
  · rw [hc]
    exact heap_setCell_same w p i _ _ v h.head
  · rw [hn] at hf
    have hv := h.files f hf
    exact ⟨(hne _ (hty _ _ _ hv.cells (by decide))).trans hv.cells, hv.own.kept fun g hg => hne g (by obtain ⟨cs, hL⟩ := (hv.own.blk hg).2.1; exact hty g cs _ hL (by decide)), hv.lo⟩
end
theorem law_str : Keyed Tryz.prog 9 := string_keyed Tryz.underlying9
theorem zero_ptr (w : World) : (zeroValue 89).run Tryz.prog w = .ok (.pointer none) w := by kernel_rfl
theorem key_str (x : Nm) (hl : x.length ≤ 140737488355328) : keyOf Tryz.prog 9 (.string ⟨x.toArray⟩) = some (.string x) := by
  have := WideMaps.keyOf_string_mk (P := Tryz.prog) (k := 9) Tryz.underlying9 (s := ⟨x.toArray⟩) (by simp [ByteArray.size, maxLen]; omega)
  simpa using this
/-- the look-up of a name. -/
theorem DiskV.look {w : World} {F : Nat → Prop} {p mb : Nat} {kv : Value} {d : Dk} (h : DiskV w F p mb kv d) (x : Nm) (hl : x.length ≤ 140737488355328) :
    (Instr.lookup 66 (.map (some mb)) (.string ⟨x.toArray⟩) false).run Tryz.prog w = .ok (ptrF (findF x d.ns)) w := by
  obtain ⟨D, hm, hD⟩ := h.map
  obtain ⟨v, ps, hrun, hR⟩ := hm.lookup law_str Tryz.underlying66 (zero_ptr w) (zd := .lit (.bool false)) (zp := []) rfl (key_str x hl)
  rw [hD.at_] at hR
  rw [hrun, ptrR_inv hR]
end Go.Proofs.YtiffgjodbcploaaGreat
end
section
namespace Go.Proofs.YtiffgjodbcploaaGreat
set_option maxRecDepth 100000
open Go.RowKit Go.BigFrame Go.Sort Go.Shelf Go.Lib Go.Maps
attribute [local go_sem ↓] Go.wp_at_zero Go.wp_at_succ
set_option maxRecDepth 100000 in
set_option maxHeartbeats 2000000 in
theorem change_any (F : Nat → Prop) (p : Nat) (k : Pk) (w : World) (h : DiskP w F p k) (hd : 0 ≤ k.done) (hd' : k.done < 4611686018427387904) :
    Calls Tryz.prog 63 #[.pointer (some ⟨p, 0, none⟩)] w fun r w' => r = .returned (.int .i64 (changeE k)) ∧ DiskP w' F p (changeK k) ∧ Only F w w' := by
  obtain ⟨mb, kv, d, h, rfl⟩ := h
  have H := Lib.hid h
  have hbp : F p := h.loP
  obtain ⟨c0, c1, c2, c3, c4, c5, c6⟩ := h.cell
  have hfz := h.frozen
  have hd1 : 0 ≤ d.done := hd
  have hd2 : d.done < 4611686018427387904 := hd'
  have C1 : ∀ q : Ext w, q.w.cell? { block := p, off := 1 } = _ := fun q => q.h.cell c1
  have C4 : ∀ q : Ext w, q.w.cell? { block := p, off := 4 } = _ := fun q => q.h.cell c4
  clear h hd hd'
  by_cases h1 : 0 ≤ d.ops
  · by_cases h2 : d.ops ≤ d.done
    · have hc : crashes d.pk = true := by show (decide (0 ≤ d.ops) && decide (d.ops ≤ d.done)) = true; simp [h1, h2]
      have HC := Lib.hid hc
      clear hc
      go_enter Tryz.func63, Tryz.ntmps63
      go_wp2
      (refine wp_region_quiet_ext (by kernel_rfl) (by kernel_rfl) ?_; (repeat (go_big_quiet_step (fail))); refine wpQuiet_nil ?_; intro wq hw'; obtain ⟨⟨_, hq⟩, hw''⟩ := hw'; subst hw'')
      have hv := H.out.below hq
      obtain ⟨_, _, _, _, _, _, x6⟩ := hv.cell
      have x6f := hv.frozen 6
      have HV := Lib.hid hv
      clear hv
      go_wp2
      refine bodyPost_ret (v := .int .i64 20) (by simp [results, Tryz.results63, go_sem]) rfl ?_
      refine ⟨ret_int (by rw [changeE, if_pos HC.out]), ⟨mb, kv, { d with down := true }, ?_, by rw [changeK, if_pos HC.out]; rfl⟩, (Only.of_below hq).setCell (p := ⟨p, 6, none⟩) hbp _⟩
      exact HV.out.store 6 (.bool true) { d with down := true } kv rfl HV.out.keep rfl
    · have hc : crashes d.pk = false := by show (decide (0 ≤ d.ops) && decide (d.ops ≤ d.done)) = false; simp [h2]
      have HC := Lib.hid hc
      clear hc
      go_enter Tryz.func63, Tryz.ntmps63
      go_wp2
      (refine wp_region_quiet_ext (by kernel_rfl) (by kernel_rfl) ?_; (repeat (go_big_quiet_step (fail))); refine wpQuiet_nil ?_; intro wq hw'; obtain ⟨⟨_, hq⟩, hw''⟩ := hw'; subst hw'')
      have hv := H.out.below hq
      obtain ⟨_, _, _, _, x4, _, _⟩ := hv.cell
      have x4f := hv.frozen 4
      have HV := Lib.hid hv
      clear hv
      go_wp2
      refine bodyPost_ret (v := .int .i64 0) (by simp [results, Tryz.results63, go_sem]) rfl ?_
      refine ⟨ret_int (by rw [changeE, if_neg (by rw [HC.out]; simp)]), ⟨mb, kv, { d with done := d.done + 1 }, ?_, by rw [changeK, if_neg (by rw [HC.out]; simp)]; rfl⟩, (Only.of_below hq).setCell (p := ⟨p, 4, none⟩) hbp _⟩
      exact HV.out.store 4 (.int .i64 (d.done + 1)) { d with done := d.done + 1 } kv rfl HV.out.keep rfl
  · have hc : crashes d.pk = false := by show (decide (0 ≤ d.ops) && decide (d.ops ≤ d.done)) = false; simp [h1]
    have HC := Lib.hid hc
    have g1 : decide (0 ≤ d.ops) = false := decide_eq_false h1
    clear hc h1
    go_enter Tryz.func63, Tryz.ntmps63
    go_wp2
    (refine wp_region_quiet_ext (by kernel_rfl) (by kernel_rfl) ?_; (repeat (go_big_quiet_step (fail))); refine wpQuiet_nil ?_; intro wq hw'; obtain ⟨⟨_, hq⟩, hw''⟩ := hw'; subst hw'')
    have hv := H.out.below hq
    obtain ⟨_, _, _, _, x4, _, _⟩ := hv.cell
    have x4f := hv.frozen 4
    have HV := Lib.hid hv
    clear hv
    go_wp2
    refine bodyPost_ret (v := .int .i64 0) (by simp [results, Tryz.results63, go_sem]) rfl ?_
    refine ⟨ret_int (by rw [changeE, if_neg (by rw [HC.out]; simp)]), ⟨mb, kv, { d with done := d.done + 1 }, ?_, by rw [changeK, if_neg (by rw [HC.out]; simp)]; rfl⟩, (Only.of_below hq).setCell (p := ⟨p, 4, none⟩) hbp _⟩
    exact HV.out.store 4 (.int .i64 (d.done + 1)) { d with done := d.done + 1 } kv rfl HV.out.keep rfl
/-- a slice of strings. -/
def Strs (w : World) (S : Nat → Prop) (v : Value) (ss : List Nm) : Prop :=
  ∃ A c, v = .slice A ss.length c ∧ ss.length ≤ c ∧ c ≤ 9223372036854775807 ∧ Row w S A ss.length 1 (ss.map encStr)
theorem Strs.below {w w' : World} {S : Nat → Prop} {v : Value} {ss : List Nm} (h : Strs w S v ss) (hb : Below w.heap.size w w') : Strs w' S v ss := by
  obtain ⟨A, c, e, h1, h2, h3⟩ := h
  exact ⟨A, c, e, h1, h2, h3.below hb⟩
set_option maxHeartbeats 2000000 in
theorem ready1_any (x : Nm) (w : World) (hl : x.length ≤ 140737488355328) :
    Calls Tryz.prog 80 #[.string ⟨x.toArray⟩] w fun r w' => r = .returned (.bool (!nameB x)) ∧ Below w.heap.size w w' := by
  go_enter Tryz.func80, Tryz.ntmps80
  go_wp2_with (go_at_call 45; refine (named_any x _ hl).mono ?_; rintro r w1 ⟨rfl, hb1⟩)
  go_ret
  exact ⟨rfl, hb1⟩
set_option maxRecDepth 100000 in
set_option maxHeartbeats 2000000 in
theorem idxNames (S : Nat → Prop) (v : Value) (ss : List Nm) (w : World) (hv : Strs w S v ss) (hl : ∀ x ∈ ss, x.length ≤ 140737488355328) :
    Calls Tryz.prog 95 #[v, .func (.func 80) #[] #[]] w fun r w' => ∃ i : Int, r = .returned (.int .i64 i) ∧ (0 ≤ i ↔ ss.all nameB = false) ∧ Below w.heap.size w w' := by
  obtain ⟨A, c, rfl, hc, hcm, hr⟩ := hv
  obtain ⟨n, hn⟩ : ∃ n, ss.length = n := ⟨_, rfl⟩
  rw [hn] at hr hc ⊢
  have HN := Lib.hid hn
  have HL := Lib.hid hl
  have HR := Lib.hid hr
  clear hn hl hr
  go_enter Tryz.func95, Tryz.ntmps95
  go_wp2
  go_loopw [8] (fun t wr => ∃ k : Nat, k ≤ n ∧ t = .int .i64 k ∧ (ss.take k).all nameB = true ∧ Below w.heap.size w wr) (fun t _ => n - (intOf t).toNat)
  case atStart => exact ⟨0, Nat.zero_le _, rfl, rfl, Below.refl _ _⟩
  case round =>
    obtain ⟨k, hk, rfl, hall, hbel⟩ := hrel
    have HA := Lib.hid hall
    have HB := Lib.hid hbel
    clear hall hbel
    by_cases hkn : k < n
    · obtain ⟨x, hx⟩ : ∃ x, ss[k]? = some x := ⟨_, List.getElem?_eq_getElem (by rw [HN.out]; exact hkn)⟩
      obtain ⟨b, o, u, rfl, _, _, hu, hcell⟩ := (HR.out.below HB.out).at_ hkn
      obtain rfl : u = encStr x := by rw [List.getElem?_map, hx] at hu; injection hu with hu; exact hu.symm
      have hxl := HL.out x (List.mem_of_getElem? hx)
      have HX := Lib.hid hx
      unfold encStr at hcell
      clear hu hx
      cases hb : nameB x with
      | true =>
        have HNB := Lib.hid hb
        clear hb
        go_wp2_with (go_at_call 80; refine (ready1_any x _ hxl).mono ?_; rintro r w1 ⟨rfl, hb1⟩; rw [HNB.out])
        refine ⟨⟨k + 1, by omega, by go_num, ?_, HB.out.trans (hb1.mono HB.out.size)⟩, by simp [intOf]; omega⟩
        rw [take_snoc HX.out, List.all_append, HA.out]
        simp [HNB.out]
      | false =>
        have HNB := Lib.hid hb
        clear hb
        go_wp2_with (go_at_call 80; refine (ready1_any x _ hxl).mono ?_; rintro r w1 ⟨rfl, hb1⟩; rw [HNB.out])
        go_ret
        refine ⟨_, rfl, ⟨fun _ => ?_, fun _ => by omega⟩, HB.out.trans (hb1.mono HB.out.size)⟩
        rw [List.all_eq_false]
        exact ⟨x, List.mem_of_getElem? HX.out, by rw [HNB.out]; simp⟩
    · obtain rfl : k = n := by omega
      go_wp2
      go_ret
      refine ⟨-1, rfl, ⟨fun h => by omega, fun h => ?_⟩, HB.out⟩
      have := HA.out
      rw [List.take_of_length_le (by rw [HN.out]; exact Nat.le_refl _), h] at this
      cases this
set_option maxHeartbeats 2000000 in
theorem anyNames (S : Nat → Prop) (v : Value) (ss : List Nm) (w : World) (hv : Strs w S v ss) (hl : ∀ x ∈ ss, x.length ≤ 140737488355328) :
    Calls Tryz.prog 79 #[v, .func (.func 80) #[] #[]] w fun r w' => r = .returned (.bool (!ss.all nameB)) ∧ Below w.heap.size w w' := by
  have HC := Lib.hid (idxNames S v ss w hv hl)
  obtain ⟨A, c, rfl, _⟩ := hv
  go_enter Tryz.func79, Tryz.ntmps79
  go_wp2_with (go_at_call 95; refine HC.out.mono ?_; rintro r w1 ⟨i, rfl, hi, hb⟩)
  go_ret
  refine ⟨ret_bool ?_, hb⟩
  rw [Bool.eq_iff_iff, decide_eq_true_iff]
  simp
theorem ready_nil (v : Value) (w : World) : Calls Tryz.prog 48 #[.pointer none, v] w fun r w' => r = .returned (.int .i64 1) ∧ w = w' := by
  go_enter Tryz.func48, Tryz.ntmps48
  go_wp2
  go_ret
  exact ⟨rfl, rfl⟩
set_option maxRecDepth 100000 in
set_option maxHeartbeats 4000000 in
theorem ready_any (F : Nat → Prop) (p : Nat) (k : Pk) (S : Nat → Prop) (v : Value) (ss : List Nm) (w : World) (h : DiskP w F p k) (hv : Strs w S v ss) (hl : ∀ x ∈ ss, x.length ≤ 140737488355328) :
    Calls Tryz.prog 48 #[.pointer (some ⟨p, 0, none⟩), v] w fun r w' => r = .returned (.int .i64 (readyE k ss)) ∧ Below w.heap.size w w' := by
  obtain ⟨mb, kv, d, h, rfl⟩ := h
  have H := Lib.hid h
  obtain ⟨c0, _, _, _, _, _, c6⟩ := h.cell
  have HV := Lib.hid hv
  have HL := Lib.hid hl
  have hln : ss.length ≤ 9223372036854775807 := by obtain ⟨_, _, _, h1, h2, _⟩ := hv; omega
  obtain ⟨A, c, rfl, _⟩ := hv
  clear h hl
  cases hd : d.down with
  | true =>
    rw [hd] at c6
    have e1 : readyE d.pk ss = 20 := by show (if d.down = true then _ else _) = _; rw [hd]; rfl
    rw [e1]
    clear e1 hd
    go_enter Tryz.func48, Tryz.ntmps48
    go_wp2
    go_ret
    exact ⟨rfl, Below.refl _ _⟩
  | false =>
    rw [hd] at c6
    cases hb : ss.all nameB with
    | false =>
      have e1 : readyE d.pk ss = 23 := by show (if d.down = true then _ else _) = _; rw [hd, hb]; rfl
      rw [e1]
      have HB := Lib.hid hb
      clear e1 hd hb
      go_enter Tryz.func48, Tryz.ntmps48
      go_wp2_with (go_at_call 79; refine (anyNames S _ ss _ HV.out HL.out).mono ?_; rintro r w1 ⟨rfl, hb1⟩; rw [HB.out])
      go_ret
      exact ⟨rfl, hb1⟩
    | true =>
      have HB := Lib.hid hb
      cases ss with
      | nil =>
        have e1 : readyE d.pk [] = 0 := by show (if d.down = true then _ else _) = _; rw [hd, hb]; rfl
        rw [e1]
        clear e1 hd hb
        go_enter Tryz.func48, Tryz.ntmps48
        go_wp2_with (go_at_call 79; refine (anyNames S _ [] _ HV.out HL.out).mono ?_; rintro r w1 ⟨rfl, hb1⟩; rw [HB.out])
        (refine wp_region_quiet_ext (by kernel_rfl) (by kernel_rfl) ?_; (repeat (go_big_quiet_step (fail))); refine wpQuiet_nil ?_; intro wq hw'; obtain ⟨⟨_, hq⟩, hw''⟩ := hw'; subst hw'')
        go_wp2
        go_ret
        exact ⟨rfl, hb1.trans (Below.mono hq hb1.size)⟩
      | cons x l =>
        have e1 : readyE d.pk (x :: l) = if (findF x d.ns).isNone then 22 else 0 := by
          show (if d.down = true then _ else _) = _
          rw [hd, hb]
          show (if (findP x (d.ns.map Fd.fl)).isNone = true then _ else _) = _
          rw [findP_map]
          cases findF x d.ns <;> rfl
        rw [e1]
        obtain ⟨res, hres⟩ : ∃ res : Int, (if (findF x d.ns).isNone then (22 : Int) else 0) = res := ⟨_, rfl⟩
        rw [hres]
        have HRES := Lib.hid hres
        clear e1 hd hb hres
        obtain ⟨n, hn⟩ : ∃ n, (x :: l).length = n := ⟨_, rfl⟩
        have hn0 : 0 < n := by rw [← hn]; simp
        have HN := Lib.hid hn
        rw [hn] at hln ⊢
        obtain ⟨b, o, hA, hcell⟩ : ∃ b o, A = some ⟨b, o, none⟩ ∧ w.cell? ⟨b, o, none⟩ = some (.string ⟨x.toArray⟩) := by
          obtain ⟨A', c', hE, _, _, hr⟩ := HV.out
          injection hE with e1 e2 e3
          subst e1
          obtain ⟨b, o, u, hA, _, _, hu, hc⟩ := hr.at_ (k := 0) (by simp)
          simp [encStr] at hu
          exact ⟨b, o, hA, by rw [hu]; simpa using hc⟩
        subst hA
        have HX := Lib.hid hcell
        have hg : decide (0 < n) = true := decide_eq_true hn0
        have hxl := HL.out x List.mem_cons_self
        have HV' : Hid (Strs w S (.slice (some ⟨b, o, none⟩) n c) (x :: l)) := Lib.hid (hn ▸ HV.out)
        clear hcell hn
        go_enter Tryz.func48, Tryz.ntmps48
        go_upto_region 7 with (go_at_call 79; refine (anyNames S _ (x :: l) _ HV'.out HL.out).mono ?_; rintro r w1 ⟨rfl, hb1⟩; rw [HB.out])
        have hv1 := H.out.below hb1
        obtain ⟨x0, _⟩ := hv1.cell
        have hx1 := (World.cell?_of_block (a := ⟨b, o, none⟩) (hb1.block b (World.block_lt_of_cell? w _ HX.out))).trans HX.out
        have F0 : ∀ q : Ext w1, q.w.cell? { block := p, off := 0 } = _ := fun q => q.h.cell x0
        have F1 : ∀ q : Ext w1, q.w.cell? { block := b, off := o } = _ := fun q => q.h.cell hx1
        have F2 : ∀ q : Ext w1, (Instr.lookup 66 (.map (some mb)) (.string ⟨x.toArray⟩) false).run Tryz.prog q.w = .ok (ptrF (findF x d.ns)) q.w := fun q => (hv1.below q.h).look x hxl
        clear hv1
        cases hfx : findF x d.ns with
        | none =>
          have hr := HRES.out
          rw [hfx] at F2 hr
          obtain rfl : _ = res := hr
          unfold ptrF at F2
          clear hfx
          (refine wp_region_quiet_ext (by kernel_rfl) (by kernel_rfl) ?_; (repeat (go_big_quiet_step (fail))); refine wpQuiet_nil ?_; intro wq hw'; obtain ⟨⟨_, hq⟩, hw''⟩ := hw'; subst hw'')
          go_wp2
          go_ret
          exact ⟨rfl, hb1.trans (Below.mono hq hb1.size)⟩
        | some f =>
          have hr := HRES.out
          rw [hfx] at F2 hr
          obtain rfl : _ = res := hr
          unfold ptrF at F2
          clear hfx
          (refine wp_region_quiet_ext (by kernel_rfl) (by kernel_rfl) ?_; (repeat (go_big_quiet_step (fail))); refine wpQuiet_nil ?_; intro wq hw'; obtain ⟨⟨_, hq⟩, hw''⟩ := hw'; subst hw'')
          go_wp2
          go_ret
          exact ⟨rfl, hb1.trans (Below.mono hq hb1.size)⟩
end Go.Proofs.YtiffgjodbcploaaGreat
end
section
namespace Go.Proofs.YtiffgjodbcploaaGreat
set_option maxRecDepth 100000
open Go.RowKit Go.BigFrame Go.Sort Go.Shelf Go.Lib Go.Maps
def setF (data' : List UInt8) (synced' : Int) (sl' : Value) (a : Fd) : Fd := ⟨a.name, data', synced', a.blk, sl'⟩
theorem pair_mem {R : Fd → Fd → Prop} (hs : ∀ {a b}, R a b → R b a) {l : List Fd} (h : l.Pairwise R) {a b : Fd} (ha : a ∈ l) (hb : b ∈ l) (hne : a ≠ b) : R a b := by
  induction l with
  | nil => cases ha
  | cons c l ih =>
    have hc := (List.pairwise_cons.1 h).1
    rcases List.mem_cons.1 ha with e1 | h1 <;> rcases List.mem_cons.1 hb with e2 | h2
    · exact absurd (e1.trans e2.symm) hne
    · rw [e1]; exact hc b h2
    · rw [e2]; exact hs (hc a h1)
    · exact ih (List.pairwise_cons.1 h).2 h1 h2
theorem upd_same {x : Nm} {g : Fd → Fd} {ns : List Fd} (h : findF x ns = none) : updF x g ns = ns := by
  have := find_none.1 h
  unfold updF
  rw [show ns = ns.map id from by simp]
  rw [List.map_map]
  refine List.map_congr_left fun f hf => ?_
  simp [this f hf]
theorem mem_upd {x : Nm} {g : Fd → Fd} {ns : List Fd} {a : Fd} (h : a ∈ updF x g ns) : (a ∈ ns ∧ a.name ≠ x) ∨ ∃ f ∈ ns, f.name = x ∧ a = g f := by
  unfold updF at h
  obtain ⟨f, hf, rfl⟩ := List.mem_map.1 h
  by_cases hx : f.name = x
  · rw [if_pos hx]; exact .inr ⟨f, hf, hx, rfl⟩
  · rw [if_neg hx]; exact .inl ⟨hf, hx⟩
theorem sorted_name {ns : List Fd} (h : sortedF ns) {f g : Fd} (hf : f ∈ ns) (hg : g ∈ ns) (he : f.name = g.name) : f = g := by
  induction ns with
  | nil => cases hf
  | cons a l ih =>
    have ha := (List.pairwise_cons.1 h).1
    rcases List.mem_cons.1 hf with e1 | h1 <;> rcases List.mem_cons.1 hg with e2 | h2
    · rw [e1, e2]
    · exact absurd (ha g h2) (by rw [← e1, he]; exact List.lt_irrefl _)
    · exact absurd (ha f h1) (by rw [← e2, he]; exact List.lt_irrefl _)
    · exact ih (List.pairwise_cons.1 h).2 h1 h2
theorem find_mem {ns : List Fd} (h : sortedF ns) {f : Fd} (hf : f ∈ ns) : findF f.name ns = some f := by
  cases hx : findF f.name ns with
  | none => exact absurd rfl (find_none.1 hx f hf)
  | some g =>
    obtain ⟨h1, h2⟩ := find_name hx
    rw [sorted_name h h2 hf h1]
theorem pair_ins {R : Fd → Fd → Prop} (hs : ∀ {a b}, R a b → R b a) {f : Fd} {ns : List Fd} (hp : ns.Pairwise R) (hf : ∀ g ∈ ns, g.name ≠ f.name → R f g) (ho : sortedF ns) : (insF f ns).Pairwise R := by
  induction ns with
  | nil => exact List.pairwise_singleton _ _
  | cons a l ih =>
    have ha := (List.pairwise_cons.1 hp).1
    have hla := (List.pairwise_cons.1 ho).1
    have hne : ∀ g ∈ l, g.name ≠ a.name := fun g hg e => absurd (hla g hg) (by rw [e]; exact List.lt_irrefl _)
    unfold insF
    split
    · rename_i h1
      refine List.pairwise_cons.2 ⟨fun g hg => hf g hg fun e => ?_, hp⟩
      rcases List.mem_cons.1 hg with rfl | hg
      · rw [e] at h1; exact absurd h1 (List.lt_irrefl _)
      · have := List.lt_trans h1 (hla g hg); rw [e] at this; exact absurd this (List.lt_irrefl _)
    · split
      · rename_i h1 h2
        exact List.pairwise_cons.2 ⟨fun g hg => hf g (List.mem_cons_of_mem _ hg) (by rw [h2]; exact hne g hg), (List.pairwise_cons.1 hp).2⟩
      · rename_i h1 h2
        refine List.pairwise_cons.2 ⟨fun g hg => ?_, ih (List.pairwise_cons.1 hp).2 (fun g hg => hf g (List.mem_cons_of_mem _ hg)) (List.pairwise_cons.1 ho).2⟩
        rcases mem_ins hg with rfl | hg
        · exact hs (hf a List.mem_cons_self fun e => h2 e.symm)
        · exact ha g hg
theorem len_ins {f : Fd} {ns : List Fd} (ho : sortedF ns) : (insF f ns).length = if (findF f.name ns).isSome then ns.length else ns.length + 1 := by
  induction ns with
  | nil => rfl
  | cons a l ih =>
    have hla := (List.pairwise_cons.1 ho).1
    unfold insF
    split
    · rename_i h1
      have : findF f.name (a :: l) = none := find_none.2 fun g hg e => by
        rcases List.mem_cons.1 hg with rfl | hg
        · rw [e] at h1; exact absurd h1 (List.lt_irrefl _)
        · have := List.lt_trans h1 (hla g hg); rw [e] at this; exact absurd this (List.lt_irrefl _)
      rw [this]; rfl
    · split
      · rename_i h1 h2
        have : findF f.name (a :: l) = some a := by unfold findF; rw [if_pos h2.symm]
        rw [this]; rfl
      · rename_i h1 h2
        have : findF f.name (a :: l) = findF f.name l := by rw [findF, if_neg fun e => h2 e.symm]
        rw [this, List.length_cons, ih (List.pairwise_cons.1 ho).2]
        split <;> simp
theorem len_del {x : Nm} {ns : List Fd} (ho : sortedF ns) : (delF x ns).length + (if (findF x ns).isSome then 1 else 0) = ns.length := by
  induction ns with
  | nil => rfl
  | cons a l ih =>
    have hla := (List.pairwise_cons.1 ho).1
    have h2 := ih (List.pairwise_cons.1 ho).2
    unfold delF findF
    split
    · rename_i h
      have : findF x l = none := find_none.2 fun g hg e => absurd (hla g hg) (by rw [e, h]; exact List.lt_irrefl _)
      rw [this] at h2
      simp at h2 ⊢
      exact h2
    · rw [List.length_cons, List.length_cons]
      omega
theorem MapIs.put {D : DataW Unit} {ns : List Fd} (h : MapIs D ns) (hT : Tidy D) (ho : sortedF ns) (f : Fd) : MapIs (D.put (.string f.name) (.lit (.int .i64 f.blk))) (insF f ns) := by
  refine ⟨fun x => ?_, fun x => ?_, ?_⟩
  · rw [find_ins]
    by_cases hx : f.name = x
    · rw [if_pos hx, ← hx, atKey_put_same (k := .string f.name) hT.isMap trivial]; rfl
    · rw [if_neg hx, atKey_put_other (fun e => hx (by injection e with e; exact e.symm)), h.at_]
  · rw [find_ins]
    by_cases hx : f.name = x
    · rw [if_pos hx, ← hx, has_put_same (k := .string f.name) hT.isMap trivial]; rfl
    · rw [if_neg hx, has_put_other (fun e => hx (by injection e with e; exact e.symm)), h.has]
  · rw [size_put hT, len_ins ho, h.has, h.size]
theorem MapIs.del {D : DataW Unit} {ns : List Fd} (h : MapIs D ns) (hT : Tidy D) (ho : sortedF ns) (y : Nm) : MapIs (D.del (.string y)) (delF y ns) := by
  refine ⟨fun x => ?_, fun x => ?_, ?_⟩
  · rw [find_del]
    by_cases hx : x = y
    · rw [if_pos hx, hx, atKey_del_same]; rfl
    · rw [if_neg hx, atKey_del_other (fun e => hx (by injection e)), h.at_]
  · rw [find_del]
    by_cases hx : x = y
    · rw [if_pos hx, hx, has_del_same]; rfl
    · rw [if_neg hx, has_del_other (fun e => hx (by injection e)), h.has]
  · have h1 := size_del (k := .string y) hT
    have h2 := len_del (x := y) ho
    rw [h.has, h.size] at h1
    omega
theorem MapIs.upd {D : DataW Unit} {ns : List Fd} (h : MapIs D ns) (x : Nm) (g : Fd → Fd) (hn : ∀ f, (g f).name = f.name) (hb : ∀ f, (g f).blk = f.blk) : MapIs D (updF x g ns) := by
  have hd : ∀ y, datF (findF y (updF x g ns)) = datF (findF y ns) ∧ (findF y (updF x g ns)).isSome = (findF y ns).isSome := fun y => by
    rw [find_upd _ _ _ hn]
    split
    · cases findF y ns with
      | none => exact ⟨rfl, rfl⟩
      | some f => exact ⟨by show DataW.lit (.int .i64 (g f).blk) = _; rw [hb]; rfl, rfl⟩
    · exact ⟨rfl, rfl⟩
  exact ⟨fun y => by rw [(hd y).1]; exact h.at_ y, fun y => by rw [(hd y).2]; exact h.has y, by unfold updF; rw [List.length_map]; exact h.size⟩
section
variable {w w' : World} {F F' : Nat → Prop} {p mb : Nat} {kv : Value} {d : Dk}
/-- blocks of other kinds than a file's struct or its bytes stand. -/
theorem cells_ne {i j : Nat} {cs cs' : Array Value} {t t' : TypeId} (h : w.heap[i]? = some (.cells cs t (0, 0))) (h' : w.heap[j]? = some (.cells cs' t' (0, 0))) (ht : t ≠ t') : i ≠ j := by
  rintro rfl
  rw [h] at h'
  injection h' with h'
  injection h' with _ h'
  exact ht h'
theorem map_ne {i mb : Nat} {cs : Array Value} {t : TypeId} {D : DataW Unit} {n : Nat} (h : w.heap[i]? = some (.cells cs t (0, 0))) (hm : w.ownsMap Tryz.prog 9 ptrR mb n D) : i ≠ mb := by
  rintro rfl
  obtain ⟨es, clock, hb, _⟩ := hm
  rw [h] at hb
  cases hb
/-- a file is written. -/
theorem DiskV.upd (h : DiskV w F p mb kv d) (hF : ∀ i, F i → F' i) {f : Fd} (hf : f ∈ d.ns) {data' : List UInt8} {synced' : Int} {sl' : Value} (ho : Only (fun i => i = f.blk ∨ blkB f.sl = some i) w w')
    (hc : w'.heap[f.blk]? = some (.cells #[sl', .int .i64 synced'] 91 (0, 0))) (hown : OwnB w' F' sl' data') (hb : ∀ g, blkB sl' = some g → blkB f.sl = some g ∨ w.heap.size ≤ g) :
    DiskV w' F' p mb kv { d with ns := updF f.name (setF data' synced' sl') d.ns } := by
  obtain ⟨D, hm, hD⟩ := h.map
  have hfv := h.files f hf
  have hL : ∀ g, blkB f.sl = some g → ∃ cs : Array Value, w.heap[g]? = some (.cells cs 5 (0, 0)) := fun g hg => (hfv.own.blk hg).2.1
  have keep : ∀ (i : Nat) (cs : Array Value) (t : TypeId), w.heap[i]? = some (.cells cs t (0, 0)) → t ≠ 91 → t ≠ 5 → w'.heap[i]? = w.heap[i]? := fun i cs t hi h1 h2 => ho.block i (Array.getElem?_eq_some_iff.1 hi).1 fun hS => by
    rcases hS with e | e
    · exact cells_ne hi hfv.cells h1 e
    · obtain ⟨cs', hg⟩ := hL i e
      exact cells_ne hi hg h2 rfl
  have hkm : w'.heap[mb]? = w.heap[mb]? := ho.block mb hm.lt fun hS => by
    rcases hS with e | e
    · exact map_ne hfv.cells hm e.symm
    · obtain ⟨cs', hg⟩ := hL mb e
      exact map_ne hg hm rfl
  have hoth : ∀ a ∈ d.ns, a.name ≠ f.name → FileV w' F' a := fun a ha hne => by
    have hav := h.files a ha
    have hab : a.blk ≠ f.blk ∧ ∀ g, blkB a.sl = some g → blkB f.sl ≠ some g := by
      exact pair_mem (R := fun a b : Fd => a.blk ≠ b.blk ∧ ∀ g, blkB a.sl = some g → blkB b.sl ≠ some g) (fun e => ⟨e.1.symm, fun g h1 h2 => e.2 g h2 h1⟩) (h.blks.and h.sls) ha hf (fun e => hne (by rw [e]))
    refine ⟨(ho.block _ (Array.getElem?_eq_some_iff.1 hav.cells).1 fun hS => ?_).trans hav.cells, (hav.own.only ho fun g hg hS => ?_).mono hF, hF _ hav.lo⟩
    · rcases hS with e | e
      · exact hab.1 e
      · obtain ⟨cs', hg⟩ := hL _ e
        exact cells_ne hav.cells hg (by decide) rfl
    · rcases hS with e | e
      · obtain ⟨_, ⟨cs, hLo⟩, _⟩ := hav.own.blk hg
        exact cells_ne hLo hfv.cells (by decide) e
      · exact hab.2 g hg e
  refine ⟨(keep p _ _ h.head (by decide) (by decide)).trans h.head, ⟨D, by rw [show (updF f.name _ d.ns).length = d.ns.length from by unfold updF; simp]; exact ownsMap_block hm hkm, hD.upd _ _ (fun _ => rfl) (fun _ => rfl)⟩, fun a ha => ?_, (h.keep.kept fun g cs _ hg => keep g cs _ hg (by decide) (by decide)).mono fun i hi _ => hF i hi, fun a ha => ?_, sorted_upd (g := setF data' synced' sl') (fun _ => rfl) h.sorted, ?_, ?_, hF p h.loP, hF mb h.loM⟩
  · rcases mem_upd ha with ⟨h1, h2⟩ | ⟨g, hg, h1, rfl⟩
    · exact hoth a h1 h2
    · have : g = f := sorted_name h.sorted hg hf h1
      subst this
      exact ⟨hc, hown, hF _ hfv.lo⟩
  · rcases mem_upd ha with ⟨h1, h2⟩ | ⟨g, hg, h1, rfl⟩
    · exact h.names a h1
    · exact h.names g hg
  · show (updF f.name _ d.ns).Pairwise _
    unfold updF
    rw [List.pairwise_map]
    refine h.blks.imp fun {a b} hab => ?_
    split <;> split <;> exact hab
  · show (updF f.name _ d.ns).Pairwise _
    unfold updF
    rw [List.pairwise_map]
    have h2 : d.ns.Pairwise fun a b => a.name ≠ b.name := h.sorted.imp fun {a b} hab e => by rw [e] at hab; exact List.lt_irrefl _ hab
    refine ((List.pairwise_iff_forall_sublist.2 fun {a b} hs => ?_))
    have ha := hs.subset (List.mem_cons_self)
    have hb' := hs.subset (List.mem_cons_of_mem _ List.mem_cons_self)
    have hab := List.pairwise_iff_forall_sublist.1 h.sls hs
    have hne := List.pairwise_iff_forall_sublist.1 h2 hs
    have new : ∀ a ∈ d.ns, a.name ≠ f.name → (∀ g, blkB a.sl = some g → blkB f.sl ≠ some g) → ∀ g, blkB sl' = some g → blkB a.sl ≠ some g := fun a ha _ hd g hg e => by
      rcases hb g hg with h1 | h1
      · exact hd g e h1
      · have := ((h.files a ha).own.blk e).2.2; omega
    by_cases ea : a.name = f.name
    · have e1 : a = f := sorted_name h.sorted ha hf ea
      subst e1
      have eb : ¬ b.name = a.name := fun e => hne e.symm
      rw [if_pos rfl, if_neg eb]
      exact fun g hg e => new b hb' eb (fun g h1 h2 => hab g h2 h1) g hg e
    · by_cases eb : b.name = f.name
      · have e1 : b = f := sorted_name h.sorted hb' hf eb
        subst e1
        rw [if_neg ea, if_pos rfl]
        exact fun g hg e => new a ha ea hab g e hg
      · rw [if_neg ea, if_neg eb]
        exact hab
/-- a map's size bound is the map's size. -/
theorem owns_tight {D : DataW Unit} {n : Nat} (h : w.ownsMap Tryz.prog 9 ptrR mb n D) : w.ownsMap Tryz.prog 9 ptrR mb (Maps.size D) D := by
  obtain ⟨es, clock, hb, F, hs, rfl⟩ := h
  exact ⟨es, clock, hb, F, Nat.le_of_eq (by simp [Maps.size, length_sorted]), rfl⟩
/-- what a change of the map's entries leaves. -/
theorem DiskV.mapped (h : DiskV w F p mb kv d) (hF : ∀ i, F i → F' i) (hg : w.grownBy w' (some mb)) {D : DataW Unit} {n : Nat} (hm : w'.ownsMap Tryz.prog 9 ptrR mb n D) {ns : List Fd} (hD : MapIs D ns) (hf : ∀ f ∈ ns, FileV w F' f) (hn : ∀ f ∈ ns, nameB f.name = true) (hs : sortedF ns)
    (hb : ns.Pairwise fun a b => a.blk ≠ b.blk) (hsl : ns.Pairwise fun a b => ∀ g, blkB a.sl = some g → blkB b.sl ≠ some g) : DiskV w' F' p mb kv { d with ns := ns } := by
  obtain ⟨D0, hm0, _⟩ := h.map
  have keep : ∀ (i : Nat) (cs : Array Value) (t : TypeId), w.heap[i]? = some (.cells cs t (0, 0)) → w'.heap[i]? = w.heap[i]? := fun i cs t hi => hg.block i (Array.getElem?_eq_some_iff.1 hi).1 fun e => by
    injection e with e
    exact map_ne hi hm0 e
  refine ⟨(keep p _ _ h.head).trans h.head, ⟨D, by rw [← hD.size]; exact owns_tight hm, hD⟩, fun f hx => ?_, (h.keep.kept fun g cs _ hc => keep g cs _ hc).mono fun i hi _ => hF i hi, hn, hs, hb, hsl, hF p h.loP, hF mb h.loM⟩
  have hv := hf f hx
  exact ⟨(keep _ _ _ hv.cells).trans hv.cells, hv.own.kept fun g hg => by obtain ⟨_, ⟨cs, hc⟩, _⟩ := hv.own.blk hg; exact keep g cs _ hc, hv.lo⟩
theorem DiskV.tidy (h : DiskV w F p mb kv d) : ∃ D, w.ownsMap Tryz.prog 9 ptrR mb d.ns.length D ∧ MapIs D d.ns ∧ Tidy D := by
  obtain ⟨D, hm, hD⟩ := h.map
  exact ⟨D, hm, hD, hm.tidy law_str⟩
/-- a file is laid into the map. -/
theorem DiskV.ins (h : DiskV w F p mb kv d) (hF : ∀ i, F i → F' i) {D : DataW Unit} {n : Nat} {f : Fd} (hD : MapIs D d.ns) (hT : Tidy D) (hg : w.grownBy w' (some mb)) (hm : w'.ownsMap Tryz.prog 9 ptrR mb n (D.put (.string f.name) (.lit (.int .i64 f.blk)))) (hf : FileV w F' f) (hn : nameB f.name = true)
    (hb : ∀ g ∈ d.ns, g.name ≠ f.name → f.blk ≠ g.blk) (hsl : ∀ g ∈ d.ns, g.name ≠ f.name → ∀ i, blkB f.sl = some i → blkB g.sl ≠ some i) : DiskV w' F' p mb kv { d with ns := insF f d.ns } :=
  h.mapped hF hg hm (hD.put hT h.sorted f) (fun a ha => (mem_ins ha).elim (fun e => e ▸ hf) (fun ha => (h.files a ha).mono fun i hi _ => hF i hi)) (fun a ha => (mem_ins ha).elim (fun e => e ▸ hn) (h.names a)) (sorted_ins h.sorted)
    (pair_ins (R := fun a b => a.blk ≠ b.blk) (fun e => Ne.symm e) h.blks hb h.sorted) (pair_ins (R := fun a b => ∀ g, blkB a.sl = some g → blkB b.sl ≠ some g) (fun e g h1 h2 => e g h2 h1) h.sls hsl h.sorted)
/-- a name is taken out. -/
theorem DiskV.del (h : DiskV w F p mb kv d) {D : DataW Unit} {n : Nat} {y : Nm} (hD : MapIs D d.ns) (hT : Tidy D) (hg : w.grownBy w' (some mb)) (hm : w'.ownsMap Tryz.prog 9 ptrR mb n (D.del (.string y))) : DiskV w' F p mb kv { d with ns := delF y d.ns } :=
  h.mapped (fun _ hi => hi) hg hm (hD.del hT h.sorted y) (fun a ha => h.files a (mem_del.1 ha).1) (fun a ha => h.names a (mem_del.1 ha).1) (sorted_del h.sorted) (h.blks.sublist (sub_del y d.ns)) (h.sls.sublist (sub_del y d.ns))
end
end Go.Proofs.YtiffgjodbcploaaGreat
end
section
namespace Go.Proofs
open Go.Shelf
def Tryz.keys67_ren : Go.Shelf.Ren := ⟨fun | 7 => 67 | 10 => 89 | n => n, fun | 23 => 66 | 26 => 9 | 3 => 89 | 28 => 120 | 0 => 0 | 27 => 119 | 33 => 34 | 4 => 4 | n => n, fun | n => n⟩
theorem Tryz.keys67 : Go.Proofs.SlLaysZ.n7 Tryz.prog Tryz.keys67_ren := {
  mixed := by kernel_rfl
  f7 := ⟨Tryz.f67.name, by decide, Tryz.func67.trans (congrArg some (by kernel_rfl))⟩
  f10 := ⟨Tryz.f89.name, by decide, Tryz.func89.trans (congrArg some (by kernel_rfl))⟩
  t0 := Tryz.underlying0
  a0 := Tryz.isAgg0
  z0 := Tryz.sizeOf0
  v0 := Tryz.zeroValue0
  t4 := Tryz.underlying4
  a4 := Tryz.isAgg4
  z4 := Tryz.sizeOf4
  v4 := Tryz.zeroValue4
  t23 := Tryz.underlying66
  a23 := Tryz.isAgg66
  z23 := Tryz.sizeOf66
  v23 := Tryz.zeroValue66
  t26 := Tryz.underlying9
  a26 := Tryz.isAgg9
  z26 := Tryz.sizeOf9
  v26 := Tryz.zeroValue9
  t27 := Tryz.underlying119
  a27 := Tryz.isAgg119
  z27 := Tryz.sizeOf119
  v27 := Tryz.zeroValue119
  t28 := Tryz.underlying120
  a28 := Tryz.isAgg120
  z28 := Tryz.sizeOf120
  v28 := Tryz.zeroValue120
  t33 := Tryz.underlying34
  a33 := Tryz.isAgg34
  z33 := Tryz.sizeOf34
  v33 := Tryz.zeroValue34 }
def Tryz.sorted66_ren : Go.Shelf.Ren := ⟨fun | 6 => 66 | 8 => 87 | 9 => 88 | 11 => 98 | 13 => 100 | 12 => 99 | 23 => 114 | 24 => 115 | 14 => 105 | 15 => 106 | 16 => 107 | 17 => 108 | 18 => 109 | 19 => 110 | 20 => 111 | 21 => 112 | 22 => 113 | 25 => 118 | 26 => 119 | 27 => 120 | 28 => 121 | 29 => 122 | 30 => 123 | 31 => 124 | n => n, fun | 26 => 9 | 28 => 120 | 24 => 87 | 0 => 0 | 3 => 3 | 37 => 53 | 48 => 107 | 50 => 72 | 4 => 4 | 40 => 167 | 39 => 166 | 45 => 172 | 5 => 5 | 9 => 9 | 51 => 178 | 55 => 182 | 57 => 184 | 58 => 185 | 33 => 34 | n => n, fun | n => n⟩
theorem Tryz.sorted66 : Go.Proofs.SlLaysZ.n6 Tryz.prog Tryz.sorted66_ren := {
  mixed := by kernel_rfl
  f6 := ⟨Tryz.f66.name, by decide, Tryz.func66.trans (congrArg some (by kernel_rfl))⟩
  f8 := ⟨Tryz.f87.name, by decide, Tryz.func87.trans (congrArg some (by kernel_rfl))⟩
  f11 := ⟨Tryz.f98.name, by decide, Tryz.func98.trans (congrArg some (by kernel_rfl))⟩
  t0 := Tryz.underlying0
  a0 := Tryz.isAgg0
  z0 := Tryz.sizeOf0
  v0 := Tryz.zeroValue0
  t24 := Tryz.underlying87
  a24 := Tryz.isAgg87
  z24 := Tryz.sizeOf87
  v24 := Tryz.zeroValue87
  t26 := Tryz.underlying9
  a26 := Tryz.isAgg9
  z26 := Tryz.sizeOf9
  v26 := Tryz.zeroValue9
  t28 := Tryz.underlying120
  a28 := Tryz.isAgg120
  z28 := Tryz.sizeOf120
  v28 := Tryz.zeroValue120
  i26 := by kernel_rfl }
def Tryz.sort88_ren : Go.Shelf.Ren := ⟨fun | 6 => 88 | 8 => 100 | 9 => 99 | 19 => 114 | 20 => 115 | 21 => 105 | 22 => 106 | 23 => 107 | 24 => 108 | 25 => 109 | 26 => 110 | 27 => 111 | 28 => 112 | 29 => 113 | 36 => 118 | 31 => 119 | 32 => 120 | 37 => 121 | 38 => 122 | 39 => 123 | 41 => 124 | n => n, fun | 27 => 87 | 29 => 9 | 3 => 3 | 32 => 53 | 26 => 87 | 0 => 0 | 44 => 107 | 46 => 72 | 4 => 4 | 36 => 167 | 35 => 166 | 41 => 172 | 5 => 5 | 9 => 9 | 53 => 178 | 57 => 182 | 63 => 184 | 64 => 185 | n => n, fun | n => n⟩
theorem Tryz.sort88 : Go.Proofs.SlLaysM.n6 Tryz.prog Tryz.sort88_ren := {
  mixed := by kernel_rfl
  f6 := ⟨Tryz.f88.name, by decide, Tryz.func88.trans (congrArg some (by kernel_rfl))⟩
  f8 := Tryz.func100.trans (congrArg some (by kernel_rfl))
  f9 := ⟨Tryz.f99.name, by decide, Tryz.func99.trans (congrArg some (by kernel_rfl))⟩
  f19 := Tryz.func114.trans (congrArg some (by kernel_rfl))
  f20 := Tryz.func115.trans (congrArg some (by kernel_rfl))
  f21 := ⟨Tryz.f105.name, by decide, Tryz.func105.trans (congrArg some (by kernel_rfl))⟩
  f22 := ⟨Tryz.f106.name, by decide, Tryz.func106.trans (congrArg some (by kernel_rfl))⟩
  f23 := ⟨Tryz.f107.name, by decide, Tryz.func107.trans (congrArg some (by kernel_rfl))⟩
  f24 := ⟨Tryz.f108.name, by decide, Tryz.func108.trans (congrArg some (by kernel_rfl))⟩
  f25 := ⟨Tryz.f109.name, by decide, Tryz.func109.trans (congrArg some (by kernel_rfl))⟩
  f26 := ⟨Tryz.f110.name, by decide, Tryz.func110.trans (congrArg some (by kernel_rfl))⟩
  f27 := ⟨Tryz.f111.name, by decide, Tryz.func111.trans (congrArg some (by kernel_rfl))⟩
  f28 := ⟨Tryz.f112.name, by decide, Tryz.func112.trans (congrArg some (by kernel_rfl))⟩
  f29 := ⟨Tryz.f113.name, by decide, Tryz.func113.trans (congrArg some (by kernel_rfl))⟩
  f31 := Tryz.func119.trans (congrArg some (by kernel_rfl))
  f32 := Tryz.func120.trans (congrArg some (by kernel_rfl))
  f36 := ⟨Tryz.f118.name, by decide, Tryz.func118.trans (congrArg some (by kernel_rfl))⟩
  f37 := ⟨Tryz.f121.name, by decide, Tryz.func121.trans (congrArg some (by kernel_rfl))⟩
  f38 := ⟨Tryz.f122.name, by decide, Tryz.func122.trans (congrArg some (by kernel_rfl))⟩
  f39 := ⟨Tryz.f123.name, by decide, Tryz.func123.trans (congrArg some (by kernel_rfl))⟩
  f41 := ⟨Tryz.f124.name, by decide, Tryz.func124.trans (congrArg some (by kernel_rfl))⟩
  t0 := Tryz.underlying0
  a0 := Tryz.isAgg0
  z0 := Tryz.sizeOf0
  v0 := Tryz.zeroValue0
  t3 := Tryz.underlying3
  a3 := Tryz.isAgg3
  z3 := Tryz.sizeOf3
  v3 := Tryz.zeroValue3
  t4 := Tryz.underlying4
  a4 := Tryz.isAgg4
  z4 := Tryz.sizeOf4
  v4 := Tryz.zeroValue4
  t5 := Tryz.underlying5
  a5 := Tryz.isAgg5
  z5 := Tryz.sizeOf5
  v5 := Tryz.zeroValue5
  t9 := Tryz.underlying9
  a9 := Tryz.isAgg9
  z9 := Tryz.sizeOf9
  v9 := Tryz.zeroValue9
  t26 := Tryz.underlying87
  a26 := Tryz.isAgg87
  z26 := Tryz.sizeOf87
  v26 := Tryz.zeroValue87
  t27 := Tryz.underlying87
  a27 := Tryz.isAgg87
  z27 := Tryz.sizeOf87
  v27 := Tryz.zeroValue87
  t29 := Tryz.underlying9
  a29 := Tryz.isAgg9
  z29 := Tryz.sizeOf9
  v29 := Tryz.zeroValue9
  t32 := Tryz.underlying53
  a32 := Tryz.isAgg53
  z32 := Tryz.sizeOf53
  v32 := Tryz.zeroValue53
  t35 := Tryz.underlying166
  a35 := Tryz.isAgg166
  z35 := Tryz.sizeOf166
  v35 := Tryz.zeroValue166
  t36 := Tryz.underlying167
  a36 := Tryz.isAgg167
  z36 := Tryz.sizeOf167
  v36 := Tryz.zeroValue167
  t41 := Tryz.underlying172
  a41 := Tryz.isAgg172
  z41 := Tryz.sizeOf172
  v41 := Tryz.zeroValue172
  t44 := Tryz.underlying107
  a44 := Tryz.isAgg107
  z44 := Tryz.sizeOf107
  v44 := Tryz.zeroValue107
  t46 := Tryz.underlying72
  a46 := Tryz.isAgg72
  z46 := Tryz.sizeOf72
  v46 := Tryz.zeroValue72
  t53 := Tryz.underlying178
  a53 := Tryz.isAgg178
  z53 := Tryz.sizeOf178
  v53 := Tryz.zeroValue178
  t57 := Tryz.underlying182
  a57 := Tryz.isAgg182
  z57 := Tryz.sizeOf182
  v57 := Tryz.zeroValue182
  t63 := Tryz.underlying184
  a63 := Tryz.isAgg184
  z63 := Tryz.sizeOf184
  v63 := Tryz.zeroValue184
  t64 := Tryz.underlying185
  a64 := Tryz.isAgg185
  z64 := Tryz.sizeOf185
  v64 := Tryz.zeroValue185 }
end Go.Proofs
namespace Go.Proofs
open Go.RowKit Go.Maps Go.Sort Go.Shelf
theorem Tryz.sorts66 (m : Nat) : AnyZ.SortsIn Tryz.prog Tryz.sorted66_ren Fence.wide m :=
  ⟨fun blk off cap ss W hH hblk hsz => callsIn_wide.2 (AnyM.slices_Sort_string Tryz.sort88 blk off cap ss W hH hblk hsz),
   fun p cap W => callsIn_wide.2 (AnyM.slices_Sort_string_none Tryz.sort88 p cap W)⟩
theorem Tryz.maps_Keys_67 (mb : Option Nat) (W : World) : CallsIn Fence.wide 5 Tryz.prog 67 #[.map mb] W fun e w' => e = .returned (.func (.func 89) #[] #[.pointer (some ⟨W.heap.size, 0, none⟩)]) ∧ w' = W.alloc (.cells #[.map mb] 66) :=
  AnyZ.keys_in Tryz.keys67 Fence.wide 5 trivial rfl mb W
set_option maxHeartbeats 1000000 in
theorem Tryz.slices_Sorted_keys_66_67 {H : Type} (b nn : Nat) (D0 : DataW H) (R : Value → Option (DataW H × List MemPlace)) (w : World) (hown : w.ownsMap Tryz.prog 9 R b nn D0) (hmax : Maps.size D0 ≤ maxLen) (hbytes : Maps.size D0 * 16 ≤ 140737488355328) :
    CallsIn Fence.wide 5 Tryz.prog 66 #[.func (.func 89) #[] #[.pointer (some ⟨w.heap.size, 0, none⟩)]] (w.alloc (.cells #[.map (some b)] 66)) fun e w' => ∃ (v : Value) (ss : List (List UInt8)), e = .returned v ∧ ss.Perm (strKeys D0) ∧
      w'.ownsRow (w.alloc (.cells #[.map (some b)] 66)).heap.size 9 1 v ss.length ((ss.mergeSort (fun x y => decide (x ≤ y))).map encStr) ∧ (v = .slice none 0 0 ↔ ss = []) ∧ Below (w.alloc (.cells #[.map (some b)] 66)).heap.size (w.alloc (.cells #[.map (some b)] 66)) w' := by
  have hbl := hown.lt
  have hseq : SeqGives Fence.wide 2 Tryz.prog 89 #[.pointer (some ⟨w.heap.size, 0, none⟩)] encStr (fun ss => ss.Perm (strKeys D0)) (Maps.size D0) (w.alloc (.cells #[.map (some b)] 66)) :=
    AnyZ.keys_gives (ρ := Tryz.keys67_ren) { Tryz.keys67 with } Fence.wide _ trivial rfl (by omega) w.heap.size b nn D0 _ (by simp) (by simp) (by
      obtain ⟨es, clock, hb, Ft, hs, hD⟩ := hown
      exact ⟨es, clock, (Below.heap_alloc _ _ b hbl).trans hb, Ft, hs, hD⟩)
  exact AnyZ.sorted_in Tryz.sorted66 Fence.wide 5 trivial trivial trivial trivial rfl (by omega) (Tryz.sorts66 _) (enters_of Tryz.func88 (by kernel_rfl) rfl) 89 #[.pointer (some ⟨w.heap.size, 0, none⟩)] trivial (enters_of Tryz.func89 (by kernel_rfl) rfl) _ _ hmax hbytes _ hseq
set_option maxHeartbeats 1000000 in
theorem Tryz.slices_Sorted_keys_nil_66_67 (w : World) :
    CallsIn Fence.wide 5 Tryz.prog 66 #[.func (.func 89) #[] #[.pointer (some ⟨w.heap.size, 0, none⟩)]] (w.alloc (.cells #[.map none] 66)) fun e w' => ∃ (v : Value) (ss : List (List UInt8)), e = .returned v ∧ ss = [] ∧
      w'.ownsRow (w.alloc (.cells #[.map none] 66)).heap.size 9 1 v ss.length ((ss.mergeSort (fun x y => decide (x ≤ y))).map encStr) ∧ (v = .slice none 0 0 ↔ ss = []) ∧ Below (w.alloc (.cells #[.map none] 66)).heap.size (w.alloc (.cells #[.map none] 66)) w' := by
  have hseq : SeqGives Fence.wide 2 Tryz.prog 89 #[.pointer (some ⟨w.heap.size, 0, none⟩)] encStr (fun ss : List (List UInt8) => ss = []) 0 (w.alloc (.cells #[.map none] 66)) :=
    AnyZ.keys_gives_nil (ρ := Tryz.keys67_ren) { Tryz.keys67 with } Fence.wide _ trivial rfl w.heap.size _ (by simp) (by simp)
  exact AnyZ.sorted_in Tryz.sorted66 Fence.wide 5 trivial trivial trivial trivial rfl (by omega) (Tryz.sorts66 _) (enters_of Tryz.func88 (by kernel_rfl) rfl) 89 #[.pointer (some ⟨w.heap.size, 0, none⟩)] trivial (enters_of Tryz.func89 (by kernel_rfl) rfl) _ 0 (Nat.zero_le _) (by omega) _ hseq
end Go.Proofs
end
