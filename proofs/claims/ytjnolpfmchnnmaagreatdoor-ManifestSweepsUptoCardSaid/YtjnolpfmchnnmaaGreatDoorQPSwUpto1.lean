/-
vdisk's Sync, Delete.
-/
import Derived.Test.YtjnolpfmchnnmaaGreatDoorQPSwUpto0
import Derived.Deep.Cut
import Derived.Deep.CutRange
import Derived.Deep.DeepCutAuto
import Derived.Shelf.SlGeneric
import Derived.Shelf.SlIter.Nil
import Derived.Shelf.SortM.Plain
import Derived.Shelf.SortM.SortNone
import Derived.Ground.GgzProg
import Derived.Ground.SlgmProg
import Derived.Test.YtjnolpfmchnnmaaGreatDoorProg
section
namespace Go.Proofs.YtjnolpfmchnnmaaGreatDoor
set_option maxRecDepth 100000
open Go.RowKit Go.BigFrame Go.Sort Go.Shelf Go.Lib Go.Maps
attribute [local go_sem ↓] Go.wp_at_zero Go.wp_at_succ
structure FileV (w : World) (F : Nat → Prop) (f : Fd) : Prop where
  cells : w.heap[f.blk]? = some (.cells #[f.sl, .int .i64 f.synced] 153 (0, 0))
  own : OwnB w F f.sl f.data
  lo : F f.blk
def KeepV (w : World) (F : Nat → Prop) (kv : Value) (keep : List Int) : Prop :=
  ∃ A c, kv = .slice A keep.length c ∧ keep.length ≤ c ∧ keep.length ≤ 140737488355328 ∧ (0 < keep.length → ∃ (g o : Nat) (cs : Array Value), A = some ⟨g, o, none⟩ ∧ F g ∧ w.heap[g]? = some (.cells cs 3 (0, 0)) ∧ ∀ j z, keep[j]? = some z → cs[o + j]? = some (.int .i64 z))
structure DiskV (w : World) (F : Nat → Prop) (p mb : Nat) (kv : Value) (d : Dk) : Prop where
  head : w.heap[p]? = some (.cells #[.map (some mb), .int .i64 d.ops, .int .i64 d.room, kv, .int .i64 d.done, .int .i64 d.bytes, .bool d.down] 116 (0, 0))
  map : ∃ D, w.ownsMap Tryz.prog 9 ptrR mb d.ns.length D ∧ MapIs D d.ns
  files : ∀ f ∈ d.ns, FileV w F f
  keep : KeepV w F kv d.keep
  names : ∀ f ∈ d.ns, nameB f.name = true
  sorted : sortedF d.ns
  blks : d.ns.Pairwise fun a b => a.blk ≠ b.blk
  sls : d.ns.Pairwise fun a b => ∀ g, blkB a.sl = some g → blkB b.sl ≠ some g
  loP : F p
  loM : F mb
def DiskP (w : World) (F : Nat → Prop) (p : Nat) (k : Pk) : Prop := ∃ mb kv d, DiskV w F p mb kv d ∧ d.pk = k
section
variable {w w' : World} {F : Nat → Prop} {p mb : Nat} {kv : Value} {d : Dk}
theorem KeepV.kept {keep : List Int} (h : KeepV w F kv keep) (hk : ∀ g cs, F g → w.heap[g]? = some (.cells cs 3 (0, 0)) → w'.heap[g]? = w.heap[g]?) : KeepV w' F kv keep := by
  obtain ⟨A, c, e, h1, h2, h3⟩ := h
  refine ⟨A, c, e, h1, h2, fun hn => ?_⟩
  obtain ⟨g, o, cs, e1, e2, e3, e4⟩ := h3 hn
  exact ⟨g, o, cs, e1, e2, (hk g cs e2 e3).trans e3, e4⟩
theorem DiskV.ltP (h : DiskV w F p mb kv d) : p < w.heap.size := (Array.getElem?_eq_some_iff.1 h.head).1
theorem DiskV.ltM (h : DiskV w F p mb kv d) : mb < w.heap.size := by obtain ⟨D, h, _⟩ := h.map; exact h.lt
theorem ownsMap_block {D : DataW Unit} {n : Nat} (h : w.ownsMap Tryz.prog 9 ptrR mb n D) (he : w'.heap[mb]? = w.heap[mb]?) : w'.ownsMap Tryz.prog 9 ptrR mb n D := by
  obtain ⟨es, clock, hb, r⟩ := h
  exact ⟨es, clock, he.trans hb, r⟩
theorem DiskV.kept (h : DiskV w F p mb kv d) (hk : ∀ i, F i → i < w.heap.size → w'.heap[i]? = w.heap[i]?) : DiskV w' F p mb kv d := by
  obtain ⟨D, hm, hD⟩ := h.map
  refine ⟨(hk p h.loP h.ltP).trans h.head, ⟨D, ownsMap_block hm (hk mb h.loM h.ltM), hD⟩, fun f hf => ?_, h.keep.kept fun g cs hg hc => hk g hg (Array.getElem?_eq_some_iff.1 hc).1, h.names, h.sorted, h.blks, h.sls, h.loP, h.loM⟩
  have hv := h.files f hf
  exact ⟨(hk _ hv.lo (Array.getElem?_eq_some_iff.1 hv.cells).1).trans hv.cells, hv.own.kept fun g hg => hk g (hv.own.blk hg).1 (hv.own.blk hg).2.2, hv.lo⟩
theorem DiskV.below (h : DiskV w F p mb kv d) (hb : Below w.heap.size w w') : DiskV w' F p mb kv d := h.kept fun i _ hi => hb.block i hi
theorem DiskV.only {S : Nat → Prop} (h : DiskV w F p mb kv d) (ho : Only S w w') (hS : ∀ i, S i → ¬ F i) : DiskV w' F p mb kv d := h.kept fun i hb hi => ho.block i hi fun hs => hS i hs hb
theorem DiskP.below {k : Pk} (h : DiskP w F p k) (hb : Below w.heap.size w w') : DiskP w' F p k := by
  obtain ⟨mb, kv, d, h, e⟩ := h
  exact ⟨mb, kv, d, h.below hb, e⟩
theorem DiskP.only {S : Nat → Prop} {k : Pk} (h : DiskP w F p k) (ho : Only S w w') (hS : ∀ i, S i → ¬ F i) : DiskP w' F p k := by
  obtain ⟨mb, kv, d, h, e⟩ := h
  exact ⟨mb, kv, d, h.only ho hS, e⟩
theorem FileV.mono {F' : Nat → Prop} {f : Fd} (h : FileV w F f) (hF : ∀ i, F i → i < w.heap.size → F' i) : FileV w F' f := by
  refine ⟨h.cells, ?_, hF _ h.lo (Array.getElem?_eq_some_iff.1 h.cells).1⟩
  obtain ⟨A, c, e, h1, h2, h3, h4⟩ := h.own
  exact ⟨A, c, e, h1, h2, h3, h4.imp id fun ⟨g, cur, a, b, e1, r⟩ => ⟨g, cur, a, hF g b (Array.getElem?_eq_some_iff.1 e1).1, e1, r⟩⟩
theorem KeepV.mono {F' : Nat → Prop} {keep : List Int} (h : KeepV w F kv keep) (hF : ∀ i, F i → i < w.heap.size → F' i) : KeepV w F' kv keep := by
  obtain ⟨A, c, e, h1, h2, h3⟩ := h
  refine ⟨A, c, e, h1, h2, fun hn => ?_⟩
  obtain ⟨g, o, cs, e1, e2, e3, e4⟩ := h3 hn
  exact ⟨g, o, cs, e1, hF g e2 (Array.getElem?_eq_some_iff.1 e3).1, e3, e4⟩
theorem DiskV.mono {F' : Nat → Prop} (h : DiskV w F p mb kv d) (hF : ∀ i, F i → i < w.heap.size → F' i) : DiskV w F' p mb kv d :=
  ⟨h.head, h.map, fun f hf => (h.files f hf).mono hF, h.keep.mono hF, h.names, h.sorted, h.blks, h.sls, hF p h.loP h.ltP, hF mb h.loM h.ltM⟩
theorem DiskP.mono {F' : Nat → Prop} {k : Pk} (h : DiskP w F p k) (hF : ∀ i, F i → i < w.heap.size → F' i) : DiskP w F' p k := by
  obtain ⟨mb, kv, d, h, e⟩ := h
  exact ⟨mb, kv, d, h.mono hF, e⟩
def orNew (F : Nat → Prop) (n i : Nat) : Prop := F i ∨ n ≤ i
theorem DiskV.cell (h : DiskV w F p mb kv d) : w.cell? ⟨p, 0, none⟩ = some (.map (some mb)) ∧ w.cell? ⟨p, 1, none⟩ = some (.int .i64 d.ops) ∧ w.cell? ⟨p, 2, none⟩ = some (.int .i64 d.room) ∧ w.cell? ⟨p, 3, none⟩ = some kv ∧ w.cell? ⟨p, 4, none⟩ = some (.int .i64 d.done) ∧ w.cell? ⟨p, 5, none⟩ = some (.int .i64 d.bytes) ∧ w.cell? ⟨p, 6, none⟩ = some (.bool d.down) := by
  refine ⟨?_, ?_, ?_, ?_, ?_, ?_, ?_⟩ <;> (rw [cell_of_row w p _ _ _ _ h.head]; rfl)
theorem DiskV.frozen (h : DiskV w F p mb kv d) (i : Nat) : w.frozen? ⟨p, i, none⟩ = false := frozen_of_row w p i _ _ h.head
theorem DiskV.store (h : DiskV w F p mb kv d) (i : Nat) (v : Value) (d' : Dk) (kv' : Value) (hn : d'.ns = d.ns) (hkp : KeepV w F kv' d'.keep)
    (hc : #[Value.map (some mb), .int .i64 d'.ops, .int .i64 d'.room, kv', .int .i64 d'.done, .int .i64 d'.bytes, .bool d'.down] = (#[Value.map (some mb), .int .i64 d.ops, .int .i64 d.room, kv, .int .i64 d.done, .int .i64 d.bytes, .bool d.down] : Array Value).setIfInBounds i v) : DiskV (w.setCell ⟨p, i, none⟩ v) F p mb kv' d' := by
  obtain ⟨D, hm, hD⟩ := h.map
  have hne : ∀ j, j ≠ p → (w.setCell ⟨p, i, none⟩ v).heap[j]? = w.heap[j]? := fun j hj => heap_setCell_other w ⟨p, i, none⟩ j v hj
  have hty : ∀ j cs (t : TypeId), w.heap[j]? = some (.cells cs t (0, 0)) → t ≠ 116 → j ≠ p := fun j cs t hj ht e => by
    subst e
    rw [h.head] at hj
    injection hj with hj
    injection hj with _ hj
    exact ht hj.symm
  have hmp : mb ≠ p := by
    rintro rfl
    obtain ⟨es, clock, hb, _⟩ := hm
    rw [h.head] at hb
    cases hb
  refine ⟨?_, ⟨D, by rw [hn]; exact ownsMap_block hm (hne mb hmp), by rw [hn]; exact hD⟩, fun f hf => ?_, hkp.kept fun g cs hg hcs => hne g (hty g cs _ hcs (by decide)), by rw [hn]; exact h.names, by rw [hn]; exact h.sorted, by rw [hn]; exact h.blks, by rw [hn]; exact h.sls, h.loP, h.loM⟩
  · rw [hc]
    exact heap_setCell_same w p i _ _ v h.head
  · rw [hn] at hf
    have hv := h.files f hf
    exact ⟨(hne _ (hty _ _ _ hv.cells (by decide))).trans hv.cells, hv.own.kept fun g hg => hne g (by obtain ⟨cs, hL⟩ := (hv.own.blk hg).2.1; exact hty g cs _ hL (by decide)), hv.lo⟩
end
theorem law_str : Keyed Tryz.prog 9 := string_keyed Tryz.underlying9
theorem zero_ptr (w : World) : (zeroValue 151).run Tryz.prog w = .ok (.pointer none) w := by kernel_rfl
theorem key_str (x : Nm) (hl : x.length ≤ 140737488355328) : keyOf Tryz.prog 9 (.string ⟨x.toArray⟩) = some (.string x) := by
  have := WideMaps.keyOf_string_mk (P := Tryz.prog) (k := 9) Tryz.underlying9 (s := ⟨x.toArray⟩) (by simp [ByteArray.size, maxLen]; omega)
  simpa using this
theorem DiskV.look {w : World} {F : Nat → Prop} {p mb : Nat} {kv : Value} {d : Dk} (h : DiskV w F p mb kv d) (x : Nm) (hl : x.length ≤ 140737488355328) :
    (Instr.lookup 114 (.map (some mb)) (.string ⟨x.toArray⟩) false).run Tryz.prog w = .ok (ptrF (findF x d.ns)) w := by
  obtain ⟨D, hm, hD⟩ := h.map
  obtain ⟨v, ps, hrun, hR⟩ := hm.lookup law_str Tryz.underlying114 (zero_ptr w) (zd := .lit (.bool false)) (zp := []) rfl (key_str x hl)
  rw [hD.at_] at hR
  rw [hrun, ptrR_inv hR]
end Go.Proofs.YtjnolpfmchnnmaaGreatDoor
end
section
namespace Go.Proofs.YtjnolpfmchnnmaaGreatDoor
set_option maxRecDepth 100000
open Go.RowKit Go.BigFrame Go.Sort Go.Shelf Go.Lib Go.Maps
attribute [local go_sem ↓] Go.wp_at_zero Go.wp_at_succ
set_option maxRecDepth 100000 in
set_option maxHeartbeats 2000000 in
theorem change_any (F : Nat → Prop) (p : Nat) (k : Pk) (w : World) (h : DiskP w F p k) (hd : 0 ≤ k.done) (hd' : k.done < 4611686018427387904) :
    Calls Tryz.prog 91 #[.pointer (some ⟨p, 0, none⟩)] w fun r w' => r = .returned (.int .i64 (changeE k)) ∧ DiskP w' F p (changeK k) ∧ Only F w w' := by
  obtain ⟨mb, kv, d, h, rfl⟩ := h
  have H := Lib.hid h
  have hbp : F p := h.loP
  obtain ⟨c0, c1, c2, c3, c4, c5, c6⟩ := h.cell
  have hfz := h.frozen
  have hd1 : 0 ≤ d.done := hd
  have hd2 : d.done < 4611686018427387904 := hd'
  have C1 : ∀ q : Ext w, q.w.cell? { block := p, off := 1 } = _ := fun q => q.h.cell c1
  have C4 : ∀ q : Ext w, q.w.cell? { block := p, off := 4 } = _ := fun q => q.h.cell c4
  clear h hd hd'
  by_cases h1 : 0 ≤ d.ops
  · by_cases h2 : d.ops ≤ d.done
    · have hc : crashes d.pk = true := by show (decide (0 ≤ d.ops) && decide (d.ops ≤ d.done)) = true; simp [h1, h2]
      have HC := Lib.hid hc
      clear hc
      go_enter Tryz.func91, Tryz.ntmps91
      go_wp2
      (refine wp_region_quiet_ext (by kernel_rfl) (by kernel_rfl) ?_; (repeat (go_big_quiet_step (fail))); refine wpQuiet_nil ?_; intro wq hw'; obtain ⟨⟨_, hq⟩, hw''⟩ := hw'; subst hw'')
      have hv := H.out.below hq
      obtain ⟨_, _, _, _, _, _, x6⟩ := hv.cell
      have x6f := hv.frozen 6
      have HV := Lib.hid hv
      clear hv
      go_wp2
      refine bodyPost_ret (v := .int .i64 20) (by simp [results, Tryz.results91, go_sem]) rfl ?_
      refine ⟨ret_int (by rw [changeE, if_pos HC.out]), ⟨mb, kv, { d with down := true }, ?_, by rw [changeK, if_pos HC.out]; rfl⟩, (Only.of_below hq).setCell (p := ⟨p, 6, none⟩) hbp _⟩
      exact HV.out.store 6 (.bool true) { d with down := true } kv rfl HV.out.keep rfl
    · have hc : crashes d.pk = false := by show (decide (0 ≤ d.ops) && decide (d.ops ≤ d.done)) = false; simp [h2]
      have HC := Lib.hid hc
      clear hc
      go_enter Tryz.func91, Tryz.ntmps91
      go_wp2
      (refine wp_region_quiet_ext (by kernel_rfl) (by kernel_rfl) ?_; (repeat (go_big_quiet_step (fail))); refine wpQuiet_nil ?_; intro wq hw'; obtain ⟨⟨_, hq⟩, hw''⟩ := hw'; subst hw'')
      have hv := H.out.below hq
      obtain ⟨_, _, _, _, x4, _, _⟩ := hv.cell
      have x4f := hv.frozen 4
      have HV := Lib.hid hv
      clear hv
      go_wp2
      refine bodyPost_ret (v := .int .i64 0) (by simp [results, Tryz.results91, go_sem]) rfl ?_
      refine ⟨ret_int (by rw [changeE, if_neg (by rw [HC.out]; simp)]), ⟨mb, kv, { d with done := d.done + 1 }, ?_, by rw [changeK, if_neg (by rw [HC.out]; simp)]; rfl⟩, (Only.of_below hq).setCell (p := ⟨p, 4, none⟩) hbp _⟩
      exact HV.out.store 4 (.int .i64 (d.done + 1)) { d with done := d.done + 1 } kv rfl HV.out.keep rfl
  · have hc : crashes d.pk = false := by show (decide (0 ≤ d.ops) && decide (d.ops ≤ d.done)) = false; simp [h1]
    have HC := Lib.hid hc
    have g1 : decide (0 ≤ d.ops) = false := decide_eq_false h1
    clear hc h1
    go_enter Tryz.func91, Tryz.ntmps91
    go_wp2
    (refine wp_region_quiet_ext (by kernel_rfl) (by kernel_rfl) ?_; (repeat (go_big_quiet_step (fail))); refine wpQuiet_nil ?_; intro wq hw'; obtain ⟨⟨_, hq⟩, hw''⟩ := hw'; subst hw'')
    have hv := H.out.below hq
    obtain ⟨_, _, _, _, x4, _, _⟩ := hv.cell
    have x4f := hv.frozen 4
    have HV := Lib.hid hv
    clear hv
    go_wp2
    refine bodyPost_ret (v := .int .i64 0) (by simp [results, Tryz.results91, go_sem]) rfl ?_
    refine ⟨ret_int (by rw [changeE, if_neg (by rw [HC.out]; simp)]), ⟨mb, kv, { d with done := d.done + 1 }, ?_, by rw [changeK, if_neg (by rw [HC.out]; simp)]; rfl⟩, (Only.of_below hq).setCell (p := ⟨p, 4, none⟩) hbp _⟩
    exact HV.out.store 4 (.int .i64 (d.done + 1)) { d with done := d.done + 1 } kv rfl HV.out.keep rfl
def Strs (w : World) (S : Nat → Prop) (v : Value) (ss : List Nm) : Prop :=
  ∃ A c, v = .slice A ss.length c ∧ ss.length ≤ c ∧ c ≤ 9223372036854775807 ∧ Row w S A ss.length 1 (ss.map encStr)
theorem Strs.below {w w' : World} {S : Nat → Prop} {v : Value} {ss : List Nm} (h : Strs w S v ss) (hb : Below w.heap.size w w') : Strs w' S v ss := by
  obtain ⟨A, c, e, h1, h2, h3⟩ := h
  exact ⟨A, c, e, h1, h2, h3.below hb⟩
set_option maxHeartbeats 2000000 in
theorem ready1_any (x : Nm) (w : World) (hl : x.length ≤ 140737488355328) :
    Calls Tryz.prog 147 #[.string ⟨x.toArray⟩] w fun r w' => r = .returned (.bool (!nameB x)) ∧ Below w.heap.size w w' := by
  go_enter Tryz.func147, Tryz.ntmps147
  go_wp2_with (go_at_call 148; refine (named_any x _ hl).mono ?_; rintro r w1 ⟨rfl, hb1⟩)
  go_ret
  exact ⟨rfl, hb1⟩
set_option maxRecDepth 100000 in
set_option maxHeartbeats 2000000 in
theorem idxNames (S : Nat → Prop) (v : Value) (ss : List Nm) (w : World) (hv : Strs w S v ss) (hl : ∀ x ∈ ss, x.length ≤ 140737488355328) :
    Calls Tryz.prog 212 #[v, .func (.func 147) #[] #[]] w fun r w' => ∃ i : Int, r = .returned (.int .i64 i) ∧ (0 ≤ i ↔ ss.all nameB = false) ∧ Below w.heap.size w w' := by
  obtain ⟨A, c, rfl, hc, hcm, hr⟩ := hv
  obtain ⟨n, hn⟩ : ∃ n, ss.length = n := ⟨_, rfl⟩
  rw [hn] at hr hc ⊢
  have HN := Lib.hid hn
  have HL := Lib.hid hl
  have HR := Lib.hid hr
  clear hn hl hr
  go_enter Tryz.func212, Tryz.ntmps212
  go_wp2
  go_loopw [8] (fun t wr => ∃ k : Nat, k ≤ n ∧ t = .int .i64 k ∧ (ss.take k).all nameB = true ∧ Below w.heap.size w wr) (fun t _ => n - (intOf t).toNat)
  case atStart => exact ⟨0, Nat.zero_le _, rfl, rfl, Below.refl _ _⟩
  case round =>
    obtain ⟨k, hk, rfl, hall, hbel⟩ := hrel
    have HA := Lib.hid hall
    have HB := Lib.hid hbel
    clear hall hbel
    by_cases hkn : k < n
    · obtain ⟨x, hx⟩ : ∃ x, ss[k]? = some x := ⟨_, List.getElem?_eq_getElem (by rw [HN.out]; exact hkn)⟩
      obtain ⟨b, o, u, rfl, _, _, hu, hcell⟩ := (HR.out.below HB.out).at_ hkn
      obtain rfl : u = encStr x := by rw [List.getElem?_map, hx] at hu; injection hu with hu; exact hu.symm
      have hxl := HL.out x (List.mem_of_getElem? hx)
      have HX := Lib.hid hx
      unfold encStr at hcell
      clear hu hx
      cases hb : nameB x with
      | true =>
        have HNB := Lib.hid hb
        clear hb
        go_wp2_with (go_at_call 147; refine (ready1_any x _ hxl).mono ?_; rintro r w1 ⟨rfl, hb1⟩; rw [HNB.out])
        refine ⟨⟨k + 1, by omega, by go_num, ?_, HB.out.trans (hb1.mono HB.out.size)⟩, by simp [intOf]; omega⟩
        rw [take_snoc HX.out, List.all_append, HA.out]
        simp [HNB.out]
      | false =>
        have HNB := Lib.hid hb
        clear hb
        go_wp2_with (go_at_call 147; refine (ready1_any x _ hxl).mono ?_; rintro r w1 ⟨rfl, hb1⟩; rw [HNB.out])
        go_ret
        refine ⟨_, rfl, ⟨fun _ => ?_, fun _ => by omega⟩, HB.out.trans (hb1.mono HB.out.size)⟩
        rw [List.all_eq_false]
        exact ⟨x, List.mem_of_getElem? HX.out, by rw [HNB.out]; simp⟩
    · obtain rfl : k = n := by omega
      go_wp2
      go_ret
      refine ⟨-1, rfl, ⟨fun h => by omega, fun h => ?_⟩, HB.out⟩
      have := HA.out
      rw [List.take_of_length_le (by rw [HN.out]; exact Nat.le_refl _), h] at this
      cases this
set_option maxHeartbeats 2000000 in
theorem anyNames (S : Nat → Prop) (v : Value) (ss : List Nm) (w : World) (hv : Strs w S v ss) (hl : ∀ x ∈ ss, x.length ≤ 140737488355328) :
    Calls Tryz.prog 146 #[v, .func (.func 147) #[] #[]] w fun r w' => r = .returned (.bool (!ss.all nameB)) ∧ Below w.heap.size w w' := by
  have HC := Lib.hid (idxNames S v ss w hv hl)
  obtain ⟨A, c, rfl, _⟩ := hv
  go_enter Tryz.func146, Tryz.ntmps146
  go_wp2_with (go_at_call 212; refine HC.out.mono ?_; rintro r w1 ⟨i, rfl, hi, hb⟩)
  go_ret
  refine ⟨ret_bool ?_, hb⟩
  rw [Bool.eq_iff_iff, decide_eq_true_iff]
  simp
set_option maxRecDepth 100000 in
set_option maxHeartbeats 4000000 in
theorem ready_any (F : Nat → Prop) (p : Nat) (k : Pk) (S : Nat → Prop) (v : Value) (ss : List Nm) (w : World) (h : DiskP w F p k) (hv : Strs w S v ss) (hl : ∀ x ∈ ss, x.length ≤ 140737488355328) :
    Calls Tryz.prog 90 #[.pointer (some ⟨p, 0, none⟩), v] w fun r w' => r = .returned (.int .i64 (readyE k ss)) ∧ Below w.heap.size w w' := by
  obtain ⟨mb, kv, d, h, rfl⟩ := h
  have H := Lib.hid h
  obtain ⟨c0, _, _, _, _, _, c6⟩ := h.cell
  have HV := Lib.hid hv
  have HL := Lib.hid hl
  have hln : ss.length ≤ 9223372036854775807 := by obtain ⟨_, _, _, h1, h2, _⟩ := hv; omega
  obtain ⟨A, c, rfl, _⟩ := hv
  clear h hl
  cases hd : d.down with
  | true =>
    rw [hd] at c6
    have e1 : readyE d.pk ss = 20 := by show (if d.down = true then _ else _) = _; rw [hd]; rfl
    rw [e1]
    clear e1 hd
    go_enter Tryz.func90, Tryz.ntmps90
    go_wp2
    go_ret
    exact ⟨rfl, Below.refl _ _⟩
  | false =>
    rw [hd] at c6
    cases hb : ss.all nameB with
    | false =>
      have e1 : readyE d.pk ss = 23 := by show (if d.down = true then _ else _) = _; rw [hd, hb]; rfl
      rw [e1]
      have HB := Lib.hid hb
      clear e1 hd hb
      go_enter Tryz.func90, Tryz.ntmps90
      go_wp2_with (go_at_call 146; refine (anyNames S _ ss _ HV.out HL.out).mono ?_; rintro r w1 ⟨rfl, hb1⟩; rw [HB.out])
      go_ret
      exact ⟨rfl, hb1⟩
    | true =>
      have HB := Lib.hid hb
      cases ss with
      | nil =>
        have e1 : readyE d.pk [] = 0 := by show (if d.down = true then _ else _) = _; rw [hd, hb]; rfl
        rw [e1]
        clear e1 hd hb
        go_enter Tryz.func90, Tryz.ntmps90
        go_wp2_with (go_at_call 146; refine (anyNames S _ [] _ HV.out HL.out).mono ?_; rintro r w1 ⟨rfl, hb1⟩; rw [HB.out])
        (refine wp_region_quiet_ext (by kernel_rfl) (by kernel_rfl) ?_; (repeat (go_big_quiet_step (fail))); refine wpQuiet_nil ?_; intro wq hw'; obtain ⟨⟨_, hq⟩, hw''⟩ := hw'; subst hw'')
        go_wp2
        go_ret
        exact ⟨rfl, hb1.trans (Below.mono hq hb1.size)⟩
      | cons x l =>
        have e1 : readyE d.pk (x :: l) = if (findF x d.ns).isNone then 22 else 0 := by
          show (if d.down = true then _ else _) = _
          rw [hd, hb]
          show (if (findP x (d.ns.map Fd.fl)).isNone = true then _ else _) = _
          rw [findP_map]
          cases findF x d.ns <;> rfl
        rw [e1]
        obtain ⟨res, hres⟩ : ∃ res : Int, (if (findF x d.ns).isNone then (22 : Int) else 0) = res := ⟨_, rfl⟩
        rw [hres]
        have HRES := Lib.hid hres
        clear e1 hd hb hres
        obtain ⟨n, hn⟩ : ∃ n, (x :: l).length = n := ⟨_, rfl⟩
        have hn0 : 0 < n := by rw [← hn]; simp
        have HN := Lib.hid hn
        rw [hn] at hln ⊢
        obtain ⟨b, o, hA, hcell⟩ : ∃ b o, A = some ⟨b, o, none⟩ ∧ w.cell? ⟨b, o, none⟩ = some (.string ⟨x.toArray⟩) := by
          obtain ⟨A', c', hE, _, _, hr⟩ := HV.out
          injection hE with e1 e2 e3
          subst e1
          obtain ⟨b, o, u, hA, _, _, hu, hc⟩ := hr.at_ (k := 0) (by simp)
          simp [encStr] at hu
          exact ⟨b, o, hA, by rw [hu]; simpa using hc⟩
        subst hA
        have HX := Lib.hid hcell
        have hg : decide (0 < n) = true := decide_eq_true hn0
        have hxl := HL.out x List.mem_cons_self
        have HV' : Hid (Strs w S (.slice (some ⟨b, o, none⟩) n c) (x :: l)) := Lib.hid (hn ▸ HV.out)
        clear hcell hn
        go_enter Tryz.func90, Tryz.ntmps90
        go_upto_region 7 with (go_at_call 146; refine (anyNames S _ (x :: l) _ HV'.out HL.out).mono ?_; rintro r w1 ⟨rfl, hb1⟩; rw [HB.out])
        have hv1 := H.out.below hb1
        obtain ⟨x0, _⟩ := hv1.cell
        have hx1 := (World.cell?_of_block (a := ⟨b, o, none⟩) (hb1.block b (World.block_lt_of_cell? w _ HX.out))).trans HX.out
        have F0 : ∀ q : Ext w1, q.w.cell? { block := p, off := 0 } = _ := fun q => q.h.cell x0
        have F1 : ∀ q : Ext w1, q.w.cell? { block := b, off := o } = _ := fun q => q.h.cell hx1
        have F2 : ∀ q : Ext w1, (Instr.lookup 114 (.map (some mb)) (.string ⟨x.toArray⟩) false).run Tryz.prog q.w = .ok (ptrF (findF x d.ns)) q.w := fun q => (hv1.below q.h).look x hxl
        clear hv1
        cases hfx : findF x d.ns with
        | none =>
          have hr := HRES.out
          rw [hfx] at F2 hr
          obtain rfl : _ = res := hr
          unfold ptrF at F2
          clear hfx
          (refine wp_region_quiet_ext (by kernel_rfl) (by kernel_rfl) ?_; (repeat (go_big_quiet_step (fail))); refine wpQuiet_nil ?_; intro wq hw'; obtain ⟨⟨_, hq⟩, hw''⟩ := hw'; subst hw'')
          go_wp2
          go_ret
          exact ⟨rfl, hb1.trans (Below.mono hq hb1.size)⟩
        | some f =>
          have hr := HRES.out
          rw [hfx] at F2 hr
          obtain rfl : _ = res := hr
          unfold ptrF at F2
          clear hfx
          (refine wp_region_quiet_ext (by kernel_rfl) (by kernel_rfl) ?_; (repeat (go_big_quiet_step (fail))); refine wpQuiet_nil ?_; intro wq hw'; obtain ⟨⟨_, hq⟩, hw''⟩ := hw'; subst hw'')
          go_wp2
          go_ret
          exact ⟨rfl, hb1.trans (Below.mono hq hb1.size)⟩
end Go.Proofs.YtjnolpfmchnnmaaGreatDoor
end
section
namespace Go.Proofs.YtjnolpfmchnnmaaGreatDoor
set_option maxRecDepth 100000
open Go.RowKit Go.BigFrame Go.Sort Go.Shelf Go.Lib Go.Maps
def setF (data' : List UInt8) (synced' : Int) (sl' : Value) (a : Fd) : Fd := ⟨a.name, data', synced', a.blk, sl'⟩
theorem pair_mem {R : Fd → Fd → Prop} (hs : ∀ {a b}, R a b → R b a) {l : List Fd} (h : l.Pairwise R) {a b : Fd} (ha : a ∈ l) (hb : b ∈ l) (hne : a ≠ b) : R a b := by
  induction l with
  | nil => cases ha
  | cons c l ih =>
    have hc := (List.pairwise_cons.1 h).1
    rcases List.mem_cons.1 ha with e1 | h1 <;> rcases List.mem_cons.1 hb with e2 | h2
    · exact absurd (e1.trans e2.symm) hne
    · rw [e1]; exact hc b h2
    · rw [e2]; exact hs (hc a h1)
    · exact ih (List.pairwise_cons.1 h).2 h1 h2
theorem mem_upd {x : Nm} {g : Fd → Fd} {ns : List Fd} {a : Fd} (h : a ∈ updF x g ns) : (a ∈ ns ∧ a.name ≠ x) ∨ ∃ f ∈ ns, f.name = x ∧ a = g f := by
  unfold updF at h
  obtain ⟨f, hf, rfl⟩ := List.mem_map.1 h
  by_cases hx : f.name = x
  · rw [if_pos hx]; exact .inr ⟨f, hf, hx, rfl⟩
  · rw [if_neg hx]; exact .inl ⟨hf, hx⟩
theorem sorted_name {ns : List Fd} (h : sortedF ns) {f g : Fd} (hf : f ∈ ns) (hg : g ∈ ns) (he : f.name = g.name) : f = g := by
  induction ns with
  | nil => cases hf
  | cons a l ih =>
    have ha := (List.pairwise_cons.1 h).1
    rcases List.mem_cons.1 hf with e1 | h1 <;> rcases List.mem_cons.1 hg with e2 | h2
    · rw [e1, e2]
    · exact absurd (ha g h2) (by rw [← e1, he]; exact List.lt_irrefl _)
    · exact absurd (ha f h1) (by rw [← e2, he]; exact List.lt_irrefl _)
    · exact ih (List.pairwise_cons.1 h).2 h1 h2
theorem find_mem {ns : List Fd} (h : sortedF ns) {f : Fd} (hf : f ∈ ns) : findF f.name ns = some f := by
  cases hx : findF f.name ns with
  | none => exact absurd rfl (find_none.1 hx f hf)
  | some g =>
    obtain ⟨h1, h2⟩ := find_name hx
    rw [sorted_name h h2 hf h1]
theorem pair_ins {R : Fd → Fd → Prop} (hs : ∀ {a b}, R a b → R b a) {f : Fd} {ns : List Fd} (hp : ns.Pairwise R) (hf : ∀ g ∈ ns, g.name ≠ f.name → R f g) (ho : sortedF ns) : (insF f ns).Pairwise R := by
  induction ns with
  | nil => exact List.pairwise_singleton _ _
  | cons a l ih =>
    have ha := (List.pairwise_cons.1 hp).1
    have hla := (List.pairwise_cons.1 ho).1
    have hne : ∀ g ∈ l, g.name ≠ a.name := fun g hg e => absurd (hla g hg) (by rw [e]; exact List.lt_irrefl _)
    unfold insF
    split
    · rename_i h1
      refine List.pairwise_cons.2 ⟨fun g hg => hf g hg fun e => ?_, hp⟩
      rcases List.mem_cons.1 hg with rfl | hg
      · rw [e] at h1; exact absurd h1 (List.lt_irrefl _)
      · have := List.lt_trans h1 (hla g hg); rw [e] at this; exact absurd this (List.lt_irrefl _)
    · split
      · rename_i h1 h2
        exact List.pairwise_cons.2 ⟨fun g hg => hf g (List.mem_cons_of_mem _ hg) (by rw [h2]; exact hne g hg), (List.pairwise_cons.1 hp).2⟩
      · rename_i h1 h2
        refine List.pairwise_cons.2 ⟨fun g hg => ?_, ih (List.pairwise_cons.1 hp).2 (fun g hg => hf g (List.mem_cons_of_mem _ hg)) (List.pairwise_cons.1 ho).2⟩
        rcases mem_ins hg with rfl | hg
        · exact hs (hf a List.mem_cons_self fun e => h2 e.symm)
        · exact ha g hg
theorem len_ins {f : Fd} {ns : List Fd} (ho : sortedF ns) : (insF f ns).length = if (findF f.name ns).isSome then ns.length else ns.length + 1 := by
  induction ns with
  | nil => rfl
  | cons a l ih =>
    have hla := (List.pairwise_cons.1 ho).1
    unfold insF
    split
    · rename_i h1
      have : findF f.name (a :: l) = none := find_none.2 fun g hg e => by
        rcases List.mem_cons.1 hg with rfl | hg
        · rw [e] at h1; exact absurd h1 (List.lt_irrefl _)
        · have := List.lt_trans h1 (hla g hg); rw [e] at this; exact absurd this (List.lt_irrefl _)
      rw [this]; rfl
    · split
      · rename_i h1 h2
        have : findF f.name (a :: l) = some a := by unfold findF; rw [if_pos h2.symm]
        rw [this]; rfl
      · rename_i h1 h2
        have : findF f.name (a :: l) = findF f.name l := by rw [findF, if_neg fun e => h2 e.symm]
        rw [this, List.length_cons, ih (List.pairwise_cons.1 ho).2]
        split <;> simp
theorem len_del {x : Nm} {ns : List Fd} (ho : sortedF ns) : (delF x ns).length + (if (findF x ns).isSome then 1 else 0) = ns.length := by
  induction ns with
  | nil => rfl
  | cons a l ih =>
    have hla := (List.pairwise_cons.1 ho).1
    have h2 := ih (List.pairwise_cons.1 ho).2
    unfold delF findF
    split
    · rename_i h
      have : findF x l = none := find_none.2 fun g hg e => absurd (hla g hg) (by rw [e, h]; exact List.lt_irrefl _)
      rw [this] at h2
      simp at h2 ⊢
      exact h2
    · rw [List.length_cons, List.length_cons]
      omega
theorem MapIs.put {D : DataW Unit} {ns : List Fd} (h : MapIs D ns) (hT : Tidy D) (ho : sortedF ns) (f : Fd) : MapIs (D.put (.string f.name) (.lit (.int .i64 f.blk))) (insF f ns) := by
  refine ⟨fun x => ?_, fun x => ?_, ?_⟩
  · rw [find_ins]
    by_cases hx : f.name = x
    · rw [if_pos hx, ← hx, atKey_put_same (k := .string f.name) hT.isMap trivial]; rfl
    · rw [if_neg hx, atKey_put_other (fun e => hx (by injection e with e; exact e.symm)), h.at_]
  · rw [find_ins]
    by_cases hx : f.name = x
    · rw [if_pos hx, ← hx, has_put_same (k := .string f.name) hT.isMap trivial]; rfl
    · rw [if_neg hx, has_put_other (fun e => hx (by injection e with e; exact e.symm)), h.has]
  · rw [size_put hT, len_ins ho, h.has, h.size]
theorem MapIs.del {D : DataW Unit} {ns : List Fd} (h : MapIs D ns) (hT : Tidy D) (ho : sortedF ns) (y : Nm) : MapIs (D.del (.string y)) (delF y ns) := by
  refine ⟨fun x => ?_, fun x => ?_, ?_⟩
  · rw [find_del]
    by_cases hx : x = y
    · rw [if_pos hx, hx, atKey_del_same]; rfl
    · rw [if_neg hx, atKey_del_other (fun e => hx (by injection e)), h.at_]
  · rw [find_del]
    by_cases hx : x = y
    · rw [if_pos hx, hx, has_del_same]; rfl
    · rw [if_neg hx, has_del_other (fun e => hx (by injection e)), h.has]
  · have h1 := size_del (k := .string y) hT
    have h2 := len_del (x := y) ho
    rw [h.has, h.size] at h1
    omega
theorem MapIs.upd {D : DataW Unit} {ns : List Fd} (h : MapIs D ns) (x : Nm) (g : Fd → Fd) (hn : ∀ f, (g f).name = f.name) (hb : ∀ f, (g f).blk = f.blk) : MapIs D (updF x g ns) := by
  have hd : ∀ y, datF (findF y (updF x g ns)) = datF (findF y ns) ∧ (findF y (updF x g ns)).isSome = (findF y ns).isSome := fun y => by
    rw [find_upd _ _ _ hn]
    split
    · cases findF y ns with
      | none => exact ⟨rfl, rfl⟩
      | some f => exact ⟨by show DataW.lit (.int .i64 (g f).blk) = _; rw [hb]; rfl, rfl⟩
    · exact ⟨rfl, rfl⟩
  exact ⟨fun y => by rw [(hd y).1]; exact h.at_ y, fun y => by rw [(hd y).2]; exact h.has y, by unfold updF; rw [List.length_map]; exact h.size⟩
section
variable {w w' : World} {F F' : Nat → Prop} {p mb : Nat} {kv : Value} {d : Dk}
theorem cells_ne {i j : Nat} {cs cs' : Array Value} {t t' : TypeId} (h : w.heap[i]? = some (.cells cs t (0, 0))) (h' : w.heap[j]? = some (.cells cs' t' (0, 0))) (ht : t ≠ t') : i ≠ j := by
  rintro rfl
  rw [h] at h'
  injection h' with h'
  injection h' with _ h'
  exact ht h'
theorem map_ne {i mb : Nat} {cs : Array Value} {t : TypeId} {D : DataW Unit} {n : Nat} (h : w.heap[i]? = some (.cells cs t (0, 0))) (hm : w.ownsMap Tryz.prog 9 ptrR mb n D) : i ≠ mb := by
  rintro rfl
  obtain ⟨es, clock, hb, _⟩ := hm
  rw [h] at hb
  cases hb
theorem DiskV.upd (h : DiskV w F p mb kv d) (hF : ∀ i, F i → F' i) {f : Fd} (hf : f ∈ d.ns) {data' : List UInt8} {synced' : Int} {sl' : Value} (ho : Only (fun i => i = f.blk ∨ blkB f.sl = some i) w w')
    (hc : w'.heap[f.blk]? = some (.cells #[sl', .int .i64 synced'] 153 (0, 0))) (hown : OwnB w' F' sl' data') (hb : ∀ g, blkB sl' = some g → blkB f.sl = some g ∨ w.heap.size ≤ g) :
    DiskV w' F' p mb kv { d with ns := updF f.name (setF data' synced' sl') d.ns } := by
  obtain ⟨D, hm, hD⟩ := h.map
  have hfv := h.files f hf
  have hL : ∀ g, blkB f.sl = some g → ∃ cs : Array Value, w.heap[g]? = some (.cells cs 5 (0, 0)) := fun g hg => (hfv.own.blk hg).2.1
  have keep : ∀ (i : Nat) (cs : Array Value) (t : TypeId), w.heap[i]? = some (.cells cs t (0, 0)) → t ≠ 153 → t ≠ 5 → w'.heap[i]? = w.heap[i]? := fun i cs t hi h1 h2 => ho.block i (Array.getElem?_eq_some_iff.1 hi).1 fun hS => by
    rcases hS with e | e
    · exact cells_ne hi hfv.cells h1 e
    · obtain ⟨cs', hg⟩ := hL i e
      exact cells_ne hi hg h2 rfl
  have hkm : w'.heap[mb]? = w.heap[mb]? := ho.block mb hm.lt fun hS => by
    rcases hS with e | e
    · exact map_ne hfv.cells hm e.symm
    · obtain ⟨cs', hg⟩ := hL mb e
      exact map_ne hg hm rfl
  have hoth : ∀ a ∈ d.ns, a.name ≠ f.name → FileV w' F' a := fun a ha hne => by
    have hav := h.files a ha
    have hab : a.blk ≠ f.blk ∧ ∀ g, blkB a.sl = some g → blkB f.sl ≠ some g := by
      exact pair_mem (R := fun a b : Fd => a.blk ≠ b.blk ∧ ∀ g, blkB a.sl = some g → blkB b.sl ≠ some g) (fun e => ⟨e.1.symm, fun g h1 h2 => e.2 g h2 h1⟩) (h.blks.and h.sls) ha hf (fun e => hne (by rw [e]))
    refine ⟨(ho.block _ (Array.getElem?_eq_some_iff.1 hav.cells).1 fun hS => ?_).trans hav.cells, (hav.own.only ho fun g hg hS => ?_).mono hF, hF _ hav.lo⟩
    · rcases hS with e | e
      · exact hab.1 e
      · obtain ⟨cs', hg⟩ := hL _ e
        exact cells_ne hav.cells hg (by decide) rfl
    · rcases hS with e | e
      · obtain ⟨_, ⟨cs, hLo⟩, _⟩ := hav.own.blk hg
        exact cells_ne hLo hfv.cells (by decide) e
      · exact hab.2 g hg e
  refine ⟨(keep p _ _ h.head (by decide) (by decide)).trans h.head, ⟨D, by rw [show (updF f.name _ d.ns).length = d.ns.length from by unfold updF; simp]; exact ownsMap_block hm hkm, hD.upd _ _ (fun _ => rfl) (fun _ => rfl)⟩, fun a ha => ?_, (h.keep.kept fun g cs _ hg => keep g cs _ hg (by decide) (by decide)).mono fun i hi _ => hF i hi, fun a ha => ?_, sorted_upd (g := setF data' synced' sl') (fun _ => rfl) h.sorted, ?_, ?_, hF p h.loP, hF mb h.loM⟩
  · rcases mem_upd ha with ⟨h1, h2⟩ | ⟨g, hg, h1, rfl⟩
    · exact hoth a h1 h2
    · have : g = f := sorted_name h.sorted hg hf h1
      subst this
      exact ⟨hc, hown, hF _ hfv.lo⟩
  · rcases mem_upd ha with ⟨h1, h2⟩ | ⟨g, hg, h1, rfl⟩
    · exact h.names a h1
    · exact h.names g hg
  · show (updF f.name _ d.ns).Pairwise _
    unfold updF
    rw [List.pairwise_map]
    refine h.blks.imp fun {a b} hab => ?_
    split <;> split <;> exact hab
  · show (updF f.name _ d.ns).Pairwise _
    unfold updF
    rw [List.pairwise_map]
    have h2 : d.ns.Pairwise fun a b => a.name ≠ b.name := h.sorted.imp fun {a b} hab e => by rw [e] at hab; exact List.lt_irrefl _ hab
    refine ((List.pairwise_iff_forall_sublist.2 fun {a b} hs => ?_))
    have ha := hs.subset (List.mem_cons_self)
    have hb' := hs.subset (List.mem_cons_of_mem _ List.mem_cons_self)
    have hab := List.pairwise_iff_forall_sublist.1 h.sls hs
    have hne := List.pairwise_iff_forall_sublist.1 h2 hs
    have new : ∀ a ∈ d.ns, a.name ≠ f.name → (∀ g, blkB a.sl = some g → blkB f.sl ≠ some g) → ∀ g, blkB sl' = some g → blkB a.sl ≠ some g := fun a ha _ hd g hg e => by
      rcases hb g hg with h1 | h1
      · exact hd g e h1
      · have := ((h.files a ha).own.blk e).2.2; omega
    by_cases ea : a.name = f.name
    · have e1 : a = f := sorted_name h.sorted ha hf ea
      subst e1
      have eb : ¬ b.name = a.name := fun e => hne e.symm
      rw [if_pos rfl, if_neg eb]
      exact fun g hg e => new b hb' eb (fun g h1 h2 => hab g h2 h1) g hg e
    · by_cases eb : b.name = f.name
      · have e1 : b = f := sorted_name h.sorted hb' hf eb
        subst e1
        rw [if_neg ea, if_pos rfl]
        exact fun g hg e => new a ha ea hab g e hg
      · rw [if_neg ea, if_neg eb]
        exact hab
theorem owns_tight {D : DataW Unit} {n : Nat} (h : w.ownsMap Tryz.prog 9 ptrR mb n D) : w.ownsMap Tryz.prog 9 ptrR mb (Maps.size D) D := by
  obtain ⟨es, clock, hb, F, hs, rfl⟩ := h
  exact ⟨es, clock, hb, F, Nat.le_of_eq (by simp [Maps.size, length_sorted]), rfl⟩
theorem DiskV.mapped (h : DiskV w F p mb kv d) (hF : ∀ i, F i → F' i) (hg : w.grownBy w' (some mb)) {D : DataW Unit} {n : Nat} (hm : w'.ownsMap Tryz.prog 9 ptrR mb n D) {ns : List Fd} (hD : MapIs D ns) (hf : ∀ f ∈ ns, FileV w F' f) (hn : ∀ f ∈ ns, nameB f.name = true) (hs : sortedF ns)
    (hb : ns.Pairwise fun a b => a.blk ≠ b.blk) (hsl : ns.Pairwise fun a b => ∀ g, blkB a.sl = some g → blkB b.sl ≠ some g) : DiskV w' F' p mb kv { d with ns := ns } := by
  obtain ⟨D0, hm0, _⟩ := h.map
  have keep : ∀ (i : Nat) (cs : Array Value) (t : TypeId), w.heap[i]? = some (.cells cs t (0, 0)) → w'.heap[i]? = w.heap[i]? := fun i cs t hi => hg.block i (Array.getElem?_eq_some_iff.1 hi).1 fun e => by
    injection e with e
    exact map_ne hi hm0 e
  refine ⟨(keep p _ _ h.head).trans h.head, ⟨D, by rw [← hD.size]; exact owns_tight hm, hD⟩, fun f hx => ?_, (h.keep.kept fun g cs _ hc => keep g cs _ hc).mono fun i hi _ => hF i hi, hn, hs, hb, hsl, hF p h.loP, hF mb h.loM⟩
  have hv := hf f hx
  exact ⟨(keep _ _ _ hv.cells).trans hv.cells, hv.own.kept fun g hg => by obtain ⟨_, ⟨cs, hc⟩, _⟩ := hv.own.blk hg; exact keep g cs _ hc, hv.lo⟩
theorem DiskV.tidy (h : DiskV w F p mb kv d) : ∃ D, w.ownsMap Tryz.prog 9 ptrR mb d.ns.length D ∧ MapIs D d.ns ∧ Tidy D := by
  obtain ⟨D, hm, hD⟩ := h.map
  exact ⟨D, hm, hD, hm.tidy law_str⟩
theorem DiskV.ins (h : DiskV w F p mb kv d) (hF : ∀ i, F i → F' i) {D : DataW Unit} {n : Nat} {f : Fd} (hD : MapIs D d.ns) (hT : Tidy D) (hg : w.grownBy w' (some mb)) (hm : w'.ownsMap Tryz.prog 9 ptrR mb n (D.put (.string f.name) (.lit (.int .i64 f.blk)))) (hf : FileV w F' f) (hn : nameB f.name = true)
    (hb : ∀ g ∈ d.ns, g.name ≠ f.name → f.blk ≠ g.blk) (hsl : ∀ g ∈ d.ns, g.name ≠ f.name → ∀ i, blkB f.sl = some i → blkB g.sl ≠ some i) : DiskV w' F' p mb kv { d with ns := insF f d.ns } :=
  h.mapped hF hg hm (hD.put hT h.sorted f) (fun a ha => (mem_ins ha).elim (fun e => e ▸ hf) (fun ha => (h.files a ha).mono fun i hi _ => hF i hi)) (fun a ha => (mem_ins ha).elim (fun e => e ▸ hn) (h.names a)) (sorted_ins h.sorted)
    (pair_ins (R := fun a b => a.blk ≠ b.blk) (fun e => Ne.symm e) h.blks hb h.sorted) (pair_ins (R := fun a b => ∀ g, blkB a.sl = some g → blkB b.sl ≠ some g) (fun e g h1 h2 => e g h2 h1) h.sls hsl h.sorted)
theorem DiskV.del (h : DiskV w F p mb kv d) {D : DataW Unit} {n : Nat} {y : Nm} (hD : MapIs D d.ns) (hT : Tidy D) (hg : w.grownBy w' (some mb)) (hm : w'.ownsMap Tryz.prog 9 ptrR mb n (D.del (.string y))) : DiskV w' F p mb kv { d with ns := delF y d.ns } :=
  h.mapped (fun _ hi => hi) hg hm (hD.del hT h.sorted y) (fun a ha => h.files a (mem_del.1 ha).1) (fun a ha => h.names a (mem_del.1 ha).1) (sorted_del h.sorted) (h.blks.sublist (sub_del y d.ns)) (h.sls.sublist (sub_del y d.ns))
end
end Go.Proofs.YtjnolpfmchnnmaaGreatDoor
end
section
namespace Go.Proofs
open Go.Shelf
def Tryz.keys143_ren : Go.Shelf.Ren := ⟨fun | 7 => 143 | 10 => 211 | n => n, fun | 23 => 114 | 26 => 9 | 3 => 151 | 28 => 227 | 0 => 0 | 27 => 226 | 33 => 70 | 4 => 4 | n => n, fun | n => n⟩
theorem Tryz.keys143 : Go.Proofs.SlLaysZ.n7 Tryz.prog Tryz.keys143_ren := {
  mixed := by kernel_rfl
  f7 := ⟨Tryz.f143.name, by decide, Tryz.func143.trans (congrArg some (by kernel_rfl))⟩
  f10 := ⟨Tryz.f211.name, by decide, Tryz.func211.trans (congrArg some (by kernel_rfl))⟩
  t0 := Tryz.underlying0
  a0 := Tryz.isAgg0
  z0 := Tryz.sizeOf0
  v0 := Tryz.zeroValue0
  t4 := Tryz.underlying4
  a4 := Tryz.isAgg4
  z4 := Tryz.sizeOf4
  v4 := Tryz.zeroValue4
  t23 := Tryz.underlying114
  a23 := Tryz.isAgg114
  z23 := Tryz.sizeOf114
  v23 := Tryz.zeroValue114
  t26 := Tryz.underlying9
  a26 := Tryz.isAgg9
  z26 := Tryz.sizeOf9
  v26 := Tryz.zeroValue9
  t27 := Tryz.underlying226
  a27 := Tryz.isAgg226
  z27 := Tryz.sizeOf226
  v27 := Tryz.zeroValue226
  t28 := Tryz.underlying227
  a28 := Tryz.isAgg227
  z28 := Tryz.sizeOf227
  v28 := Tryz.zeroValue227
  t33 := Tryz.underlying70
  a33 := Tryz.isAgg70
  z33 := Tryz.sizeOf70
  v33 := Tryz.zeroValue70 }
def Tryz.sorted142_ren : Go.Shelf.Ren := ⟨fun | 6 => 142 | 8 => 209 | 9 => 210 | 11 => 244 | 13 => 230 | 12 => 245 | 23 => 262 | 24 => 263 | 14 => 276 | 15 => 277 | 16 => 278 | 17 => 279 | 18 => 280 | 19 => 281 | 20 => 282 | 21 => 283 | 22 => 284 | 25 => 299 | 26 => 289 | 27 => 290 | 28 => 300 | 29 => 301 | 30 => 302 | 31 => 309 | n => n, fun | 26 => 9 | 28 => 227 | 24 => 64 | 0 => 0 | 3 => 3 | 37 => 34 | 48 => 209 | 50 => 240 | 4 => 4 | 40 => 342 | 39 => 341 | 45 => 346 | 5 => 5 | 9 => 9 | 51 => 371 | 55 => 375 | 57 => 389 | 58 => 93 | 33 => 70 | n => n, fun | n => n⟩
theorem Tryz.sorted142 : Go.Proofs.SlLaysZ.n6 Tryz.prog Tryz.sorted142_ren := {
  mixed := by kernel_rfl
  f6 := ⟨Tryz.f142.name, by decide, Tryz.func142.trans (congrArg some (by kernel_rfl))⟩
  f8 := ⟨Tryz.f209.name, by decide, Tryz.func209.trans (congrArg some (by kernel_rfl))⟩
  f11 := ⟨Tryz.f244.name, by decide, Tryz.func244.trans (congrArg some (by kernel_rfl))⟩
  t0 := Tryz.underlying0
  a0 := Tryz.isAgg0
  z0 := Tryz.sizeOf0
  v0 := Tryz.zeroValue0
  t24 := Tryz.underlying64
  a24 := Tryz.isAgg64
  z24 := Tryz.sizeOf64
  v24 := Tryz.zeroValue64
  t26 := Tryz.underlying9
  a26 := Tryz.isAgg9
  z26 := Tryz.sizeOf9
  v26 := Tryz.zeroValue9
  t28 := Tryz.underlying227
  a28 := Tryz.isAgg227
  z28 := Tryz.sizeOf227
  v28 := Tryz.zeroValue227
  i26 := by kernel_rfl }
def Tryz.sort210_ren : Go.Shelf.Ren := ⟨fun | 6 => 210 | 8 => 230 | 9 => 245 | 19 => 262 | 20 => 263 | 21 => 276 | 22 => 277 | 23 => 278 | 24 => 279 | 25 => 280 | 26 => 281 | 27 => 282 | 28 => 283 | 29 => 284 | 36 => 299 | 31 => 289 | 32 => 290 | 37 => 300 | 38 => 301 | 39 => 302 | 41 => 309 | n => n, fun | 27 => 64 | 29 => 9 | 3 => 3 | 32 => 34 | 26 => 64 | 0 => 0 | 44 => 209 | 46 => 240 | 4 => 4 | 36 => 342 | 35 => 341 | 41 => 346 | 5 => 5 | 9 => 9 | 53 => 371 | 57 => 375 | 63 => 389 | 64 => 93 | n => n, fun | n => n⟩
theorem Tryz.sort210 : Go.Proofs.SlLaysM.n6 Tryz.prog Tryz.sort210_ren := {
  mixed := by kernel_rfl
  f6 := ⟨Tryz.f210.name, by decide, Tryz.func210.trans (congrArg some (by kernel_rfl))⟩
  f8 := Tryz.func230.trans (congrArg some (by kernel_rfl))
  f9 := ⟨Tryz.f245.name, by decide, Tryz.func245.trans (congrArg some (by kernel_rfl))⟩
  f19 := Tryz.func262.trans (congrArg some (by kernel_rfl))
  f20 := Tryz.func263.trans (congrArg some (by kernel_rfl))
  f21 := ⟨Tryz.f276.name, by decide, Tryz.func276.trans (congrArg some (by kernel_rfl))⟩
  f22 := ⟨Tryz.f277.name, by decide, Tryz.func277.trans (congrArg some (by kernel_rfl))⟩
  f23 := ⟨Tryz.f278.name, by decide, Tryz.func278.trans (congrArg some (by kernel_rfl))⟩
  f24 := ⟨Tryz.f279.name, by decide, Tryz.func279.trans (congrArg some (by kernel_rfl))⟩
  f25 := ⟨Tryz.f280.name, by decide, Tryz.func280.trans (congrArg some (by kernel_rfl))⟩
  f26 := ⟨Tryz.f281.name, by decide, Tryz.func281.trans (congrArg some (by kernel_rfl))⟩
  f27 := ⟨Tryz.f282.name, by decide, Tryz.func282.trans (congrArg some (by kernel_rfl))⟩
  f28 := ⟨Tryz.f283.name, by decide, Tryz.func283.trans (congrArg some (by kernel_rfl))⟩
  f29 := ⟨Tryz.f284.name, by decide, Tryz.func284.trans (congrArg some (by kernel_rfl))⟩
  f31 := Tryz.func289.trans (congrArg some (by kernel_rfl))
  f32 := Tryz.func290.trans (congrArg some (by kernel_rfl))
  f36 := ⟨Tryz.f299.name, by decide, Tryz.func299.trans (congrArg some (by kernel_rfl))⟩
  f37 := ⟨Tryz.f300.name, by decide, Tryz.func300.trans (congrArg some (by kernel_rfl))⟩
  f38 := ⟨Tryz.f301.name, by decide, Tryz.func301.trans (congrArg some (by kernel_rfl))⟩
  f39 := ⟨Tryz.f302.name, by decide, Tryz.func302.trans (congrArg some (by kernel_rfl))⟩
  f41 := ⟨Tryz.f309.name, by decide, Tryz.func309.trans (congrArg some (by kernel_rfl))⟩
  t0 := Tryz.underlying0
  a0 := Tryz.isAgg0
  z0 := Tryz.sizeOf0
  v0 := Tryz.zeroValue0
  t3 := Tryz.underlying3
  a3 := Tryz.isAgg3
  z3 := Tryz.sizeOf3
  v3 := Tryz.zeroValue3
  t4 := Tryz.underlying4
  a4 := Tryz.isAgg4
  z4 := Tryz.sizeOf4
  v4 := Tryz.zeroValue4
  t5 := Tryz.underlying5
  a5 := Tryz.isAgg5
  z5 := Tryz.sizeOf5
  v5 := Tryz.zeroValue5
  t9 := Tryz.underlying9
  a9 := Tryz.isAgg9
  z9 := Tryz.sizeOf9
  v9 := Tryz.zeroValue9
  t26 := Tryz.underlying64
  a26 := Tryz.isAgg64
  z26 := Tryz.sizeOf64
  v26 := Tryz.zeroValue64
  t27 := Tryz.underlying64
  a27 := Tryz.isAgg64
  z27 := Tryz.sizeOf64
  v27 := Tryz.zeroValue64
  t29 := Tryz.underlying9
  a29 := Tryz.isAgg9
  z29 := Tryz.sizeOf9
  v29 := Tryz.zeroValue9
  t32 := Tryz.underlying34
  a32 := Tryz.isAgg34
  z32 := Tryz.sizeOf34
  v32 := Tryz.zeroValue34
  t35 := Tryz.underlying341
  a35 := Tryz.isAgg341
  z35 := Tryz.sizeOf341
  v35 := Tryz.zeroValue341
  t36 := Tryz.underlying342
  a36 := Tryz.isAgg342
  z36 := Tryz.sizeOf342
  v36 := Tryz.zeroValue342
  t41 := Tryz.underlying346
  a41 := Tryz.isAgg346
  z41 := Tryz.sizeOf346
  v41 := Tryz.zeroValue346
  t44 := Tryz.underlying209
  a44 := Tryz.isAgg209
  z44 := Tryz.sizeOf209
  v44 := Tryz.zeroValue209
  t46 := Tryz.underlying240
  a46 := Tryz.isAgg240
  z46 := Tryz.sizeOf240
  v46 := Tryz.zeroValue240
  t53 := Tryz.underlying371
  a53 := Tryz.isAgg371
  z53 := Tryz.sizeOf371
  v53 := Tryz.zeroValue371
  t57 := Tryz.underlying375
  a57 := Tryz.isAgg375
  z57 := Tryz.sizeOf375
  v57 := Tryz.zeroValue375
  t63 := Tryz.underlying389
  a63 := Tryz.isAgg389
  z63 := Tryz.sizeOf389
  v63 := Tryz.zeroValue389
  t64 := Tryz.underlying93
  a64 := Tryz.isAgg93
  z64 := Tryz.sizeOf93
  v64 := Tryz.zeroValue93 }
end Go.Proofs
namespace Go.Proofs
open Go.RowKit Go.Maps Go.Sort Go.Shelf
theorem Tryz.sorts142 (m : Nat) : AnyZ.SortsIn Tryz.prog Tryz.sorted142_ren Fence.wide m :=
  ⟨fun blk off cap ss W hH hblk hsz => callsIn_wide.2 (AnyM.slices_Sort_string Tryz.sort210 blk off cap ss W hH hblk hsz),
   fun p cap W => callsIn_wide.2 (AnyM.slices_Sort_string_none Tryz.sort210 p cap W)⟩
theorem Tryz.maps_Keys_143 (mb : Option Nat) (W : World) : CallsIn Fence.wide 5 Tryz.prog 143 #[.map mb] W fun e w' => e = .returned (.func (.func 211) #[] #[.pointer (some ⟨W.heap.size, 0, none⟩)]) ∧ w' = W.alloc (.cells #[.map mb] 114) :=
  AnyZ.keys_in Tryz.keys143 Fence.wide 5 trivial rfl mb W
set_option maxHeartbeats 1000000 in
theorem Tryz.slices_Sorted_keys_142_143 {H : Type} (b nn : Nat) (D0 : DataW H) (R : Value → Option (DataW H × List MemPlace)) (w : World) (hown : w.ownsMap Tryz.prog 9 R b nn D0) (hmax : Maps.size D0 ≤ maxLen) (hbytes : Maps.size D0 * 16 ≤ 140737488355328) :
    CallsIn Fence.wide 5 Tryz.prog 142 #[.func (.func 211) #[] #[.pointer (some ⟨w.heap.size, 0, none⟩)]] (w.alloc (.cells #[.map (some b)] 114)) fun e w' => ∃ (v : Value) (ss : List (List UInt8)), e = .returned v ∧ ss.Perm (strKeys D0) ∧
      w'.ownsRow (w.alloc (.cells #[.map (some b)] 114)).heap.size 9 1 v ss.length ((ss.mergeSort (fun x y => decide (x ≤ y))).map encStr) ∧ (v = .slice none 0 0 ↔ ss = []) ∧ Below (w.alloc (.cells #[.map (some b)] 114)).heap.size (w.alloc (.cells #[.map (some b)] 114)) w' := by
  have hbl := hown.lt
  have hseq : SeqGives Fence.wide 2 Tryz.prog 211 #[.pointer (some ⟨w.heap.size, 0, none⟩)] encStr (fun ss => ss.Perm (strKeys D0)) (Maps.size D0) (w.alloc (.cells #[.map (some b)] 114)) :=
    AnyZ.keys_gives (ρ := Tryz.keys143_ren) { Tryz.keys143 with } Fence.wide _ trivial rfl (by omega) w.heap.size b nn D0 _ (by simp) (by simp) (by
      obtain ⟨es, clock, hb, Ft, hs, hD⟩ := hown
      exact ⟨es, clock, (Below.heap_alloc _ _ b hbl).trans hb, Ft, hs, hD⟩)
  exact AnyZ.sorted_in Tryz.sorted142 Fence.wide 5 trivial trivial trivial trivial rfl (by omega) (Tryz.sorts142 _) (enters_of Tryz.func210 (by kernel_rfl) rfl) 211 #[.pointer (some ⟨w.heap.size, 0, none⟩)] trivial (enters_of Tryz.func211 (by kernel_rfl) rfl) _ _ hmax hbytes _ hseq
end Go.Proofs
end
section
namespace Go.Proofs.YtjnolpfmchnnmaaGreatDoor
set_option maxRecDepth 100000
open Go.RowKit Go.BigFrame Go.Sort Go.Shelf Go.Lib Go.Maps
attribute [local go_sem ↓] Go.wp_at_zero Go.wp_at_succ
theorem box_at {w w1 : World} {cs : Array Value} {t : TypeId} (hb : Below (w.alloc (.cells cs t)).heap.size (w.alloc (.cells cs t)) w1) : w1.heap[w.heap.size]? = some (.cells cs t (0, 0)) :=
  (hb.block w.heap.size (by simp)).trans (heap_alloc_new w _)
theorem box3 {w w1 : World} {a b c : Value} {t : TypeId} (hb : Below (w.alloc (.cells #[a, b, c] t)).heap.size (w.alloc (.cells #[a, b, c] t)) w1) : w1.cell? ⟨w.heap.size, 0, none⟩ = some a ∧ w1.cell? ⟨w.heap.size, 1, none⟩ = some b ∧ w1.cell? ⟨w.heap.size, 2, none⟩ = some c ∧ ∀ i, w1.frozen? ⟨w.heap.size, i, none⟩ = false := by
  have h := box_at hb
  refine ⟨?_, ?_, ?_, fun i => frozen_of_row w1 _ i _ _ h⟩ <;> (rw [cell_of_row w1 _ _ _ _ _ h]; rfl)
theorem KeepV.nil (w : World) (F : Nat → Prop) : KeepV w F (.slice none 0 0) [] := ⟨none, 0, rfl, Nat.le_refl _, by simp, fun h => absurd h (by simp)⟩
theorem KeepV.of_own {w : World} {base : Nat} {F : Nat → Prop} {v : Value} {zs : List Int} (h : w.ownsRow base 3 1 v zs.length (zs.map (Value.int .i64))) (hl : zs.length ≤ 140737488355328) (hF : ∀ i, base ≤ i → F i) : KeepV w F v zs := by
  rcases h.2 with ⟨rfl, h0⟩ | ⟨g, cap, cur, rfl, hbg, hh, hcap, hcm, hcs, ht⟩
  · have : zs = [] := List.eq_nil_of_length_eq_zero h0
    subst this
    exact KeepV.nil _ _
  · refine ⟨_, _, rfl, hcap, hl, fun _ => ⟨g, 0, cur, rfl, hF g hbg, hh, fun j z hj => ?_⟩⟩
    have h2 : (zs.map (Value.int .i64))[j]? = some (.int .i64 z) := by rw [List.getElem?_map, hj]; rfl
    rw [← ht, List.getElem?_take] at h2
    split at h2
    · rw [Nat.zero_add]; simpa using h2
    · cases h2
theorem KeepV.setHead {w : World} {F : Nat → Prop} {p : Nat} {kv : Value} {keep : List Int} {cs : Array Value} (h : KeepV w F kv keep) (hp : w.heap[p]? = some (.cells cs 116 (0, 0))) (i : Nat) (v : Value) : KeepV (w.setCell ⟨p, i, none⟩ v) F kv keep :=
  h.kept fun g cs' _ hg => heap_setCell_other w ⟨p, i, none⟩ g v (cells_ne hg hp (by decide))
theorem iclone_any (S : Nat → Prop) (v : Value) (zs : List Int) (w : World) (h : IntsIn w S v zs) (hl : zs.length * 8 ≤ 140737488355328) :
    Calls Tryz.prog 93 #[v] w fun r w' => ∃ v', r = .returned v' ∧ KeepV w' (fun i => w.heap.size ≤ i) v' zs ∧ Below w.heap.size w w' := by
  obtain ⟨A, c, rfl, _, _, hr⟩ := h
  rcases Nat.eq_zero_or_pos zs.length with h0 | h0
  · have hz : zs = [] := List.eq_nil_of_length_eq_zero h0
    subst hz
    cases A with
    | none =>
      refine (Tryz.slices_Clone_int_nil 0 c w).mono ?_
      rintro r w' ⟨rfl, rfl⟩
      exact ⟨_, rfl, KeepV.nil _ _, Below.refl _ _⟩
    | some a =>
      refine (Tryz.slices_Clone_int_zero a c w).mono ?_
      rintro r w' ⟨v', rfl, ho, _, hb⟩
      exact ⟨_, rfl, KeepV.of_own (zs := []) ho (by simp) (fun _ hi => hi), hb⟩
  · obtain ⟨b, o, rfl, _, _, hc⟩ := hr.2 h0
    refine (Tryz.slices_Clone_int b o zs.length c zs w (Nat.le_refl _) hl (fun j hj => ?_)).mono ?_
    · rw [hc j (.int .i64 zs[j]) (by simp [hj])]
      simp [hj]
    · rintro r w' ⟨v', rfl, ho, _, hb⟩
      rw [List.take_length] at ho
      exact ⟨_, rfl, KeepV.of_own ho (by omega) (fun _ hi => hi), hb⟩
set_option maxRecDepth 100000 in
set_option maxHeartbeats 2000000 in
theorem begin_any (F : Nat → Prop) (p mb : Nat) (kv : Value) (d : Dk) (S : Nat → Prop) (ops room : Int) (v : Value) (zs : List Int) (w : World) (h : DiskV w F p mb kv d) (hz : IntsIn w S v zs) (hl : zs.length * 8 ≤ 140737488355328) :
    Calls Tryz.prog 59 #[.pointer (some ⟨p, 0, none⟩), .agg #[.int .i64 ops, .int .i64 room, v]] w fun r w' => r = .returned (.tuple #[]) ∧ (∃ kv', DiskV w' (orNew F w.heap.size) p mb kv' { d with ops := ops, room := room, keep := zs, done := 0, down := false }) ∧ Only F w w' := by
  have H := Lib.hid h
  have hA : Below w.heap.size w (w.alloc (.cells #[.int .i64 ops, .int .i64 room, v] 28)) := (Below.refl _ _).alloc (Nat.le_refl _) _
  have HA := Lib.hid hA
  have HZ := Lib.hid (hz.below hA)
  obtain ⟨A, c, rfl, _⟩ := hz
  clear h hA
  go_enter Tryz.func59, Tryz.ntmps59
  go_upto_region 2 with (go_at_call 93; refine (iclone_any S _ zs _ HZ.out hl).mono ?_; rintro r w1 ⟨v', rfl, hk, hb1⟩; obtain ⟨A', c', rfl, hkr⟩ := hk; obtain ⟨b0, b1, b2, bf⟩ := box3 hb1)
  have hs1 : w1.heap.size ≤ (w1.setCell ⟨w.heap.size, 2, none⟩ (.slice A' zs.length c')).heap.size := by simp [World.setCell]
  have hp : p < w.heap.size := H.out.ltP
  have hbx := heap_setCell_same w1 w.heap.size 2 _ _ (.slice A' zs.length c') (box_at hb1)
  have hoth : ∀ i, i ≠ w.heap.size → (w1.setCell ⟨w.heap.size, 2, none⟩ (.slice A' zs.length c')).heap[i]? = w1.heap[i]? := fun i hi => heap_setCell_other w1 ⟨w.heap.size, 2, none⟩ i _ hi
  have hkk : KeepV (w1.setCell ⟨w.heap.size, 2, none⟩ (.slice A' zs.length c')) (orNew F w.heap.size) (.slice A' zs.length c') zs := by
    refine KeepV.kept (w := w1) ⟨A', c', rfl, hkr.1, hkr.2.1, fun hn => ?_⟩ fun g cs hg hc => hoth g ?_
    · obtain ⟨g, o, cs, e1, e2, e3, e4⟩ := hkr.2.2 hn
      exact ⟨g, o, cs, e1, .inr (by simp at e2; omega), e3, e4⟩
    · rintro rfl
      rw [box_at hb1] at hc
      injection hc with hc
      injection hc with _ hc
      exact absurd hc (by decide)
  have hBW : Below w.heap.size w (w1.setCell ⟨w.heap.size, 2, none⟩ (.slice A' zs.length c')) := (HA.out.trans (hb1.mono HA.out.size)).setCell (p := ⟨w.heap.size, 2, none⟩) (Nat.le_refl _) _
  obtain ⟨W, hW⟩ : ∃ W, W = w1.setCell ⟨w.heap.size, 2, none⟩ (.slice A' zs.length c') := ⟨_, rfl⟩
  rw [← hW] at hbx hkk hBW ⊢
  have hv := (H.out.below hBW).mono (F' := orNew F w.heap.size) fun i hi _ => .inl hi
  have HKK := Lib.hid hkk
  have HBW := Lib.hid hBW
  have y0 := cell_of_row W w.heap.size 0 _ _ _ hbx
  have y1 := cell_of_row W w.heap.size 1 _ _ _ hbx
  have y2 := cell_of_row W w.heap.size 2 _ _ _ hbx
  have yf : ∀ i, W.frozen? ⟨w.heap.size, i, none⟩ = false := fun i => frozen_of_row W _ i _ _ hbx
  obtain ⟨_, x1, x2, x3, x4, _, x6⟩ := hv.cell
  have xf := hv.frozen
  have HVW := Lib.hid hv
  have hbp : F p := H.out.loP
  simp only [Array.setIfInBounds, List.size_toArray, List.length_cons, List.length_nil] at y0 y1 y2
  clear hs1 hbx hoth hkk hBW hW hv hkr b0 b1 b2 bf hb1
  go_wp2
  refine bodyPost_end (v := .tuple #[]) (by simp [results, Tryz.results59, go_sem]) rfl ?_
  have s1 := HVW.out.store 1 (.int .i64 ops) { d with ops := ops } kv rfl HVW.out.keep rfl
  have s2 := s1.store 2 (.int .i64 room) { d with ops := ops, room := room } kv rfl s1.keep rfl
  have k2 := (HKK.out.setHead HVW.out.head 1 (.int .i64 ops)).setHead s1.head 2 (.int .i64 room)
  have s3 := s2.store 3 (.slice A' zs.length c') { d with ops := ops, room := room, keep := zs } _ rfl k2 rfl
  have s4 := s3.store 4 (.int .i64 0) { d with ops := ops, room := room, keep := zs, done := 0 } _ rfl s3.keep rfl
  have s5 := s4.store 6 (.bool false) { d with ops := ops, room := room, keep := zs, done := 0, down := false } _ rfl s4.keep rfl
  exact ⟨rfl, ⟨_, s5⟩, (((((Only.of_below HBW.out).setCell (p := ⟨p, 1, none⟩) hbp _).setCell (p := ⟨p, 2, none⟩) hbp _).setCell (p := ⟨p, 3, none⟩) hbp _).setCell (p := ⟨p, 4, none⟩) hbp _).setCell (p := ⟨p, 6, none⟩) hbp _⟩
theorem disk_start (w : World) (o : Obj) (W : World) (hW : W = ((w.alloc o).alloc (.map #[] 0)).alloc (.cells #[.map (some (w.heap.size + 1)), .int .i64 0, .int .i64 0, .slice none 0 0, .int .i64 0, .int .i64 0, .bool false] 116)) : DiskV W (fun i => w.heap.size ≤ i) (w.heap.size + 1 + 1) (w.heap.size + 1) (.slice none 0 0) ⟨[], 0, 0, [], 0, 0, false⟩ := by
  subst hW
  have hm := World.ownsMap_made (H := Unit) (w.alloc o) Tryz.prog 9 ptrR
  have hh := heap_alloc_new ((w.alloc o).alloc (.map #[] 0)) (.cells #[.map (some (w.heap.size + 1)), .int .i64 0, .int .i64 0, .slice none 0 0, .int .i64 0, .int .i64 0, .bool false] 116)
  simp only [World.size_alloc] at hm hh
  refine ⟨hh, ⟨_, ownsMap_block hm (Below.heap_alloc _ _ _ (by simp)), ⟨fun x => rfl, fun x => rfl, rfl⟩⟩, fun f hf => by simp at hf, KeepV.nil _ _, fun f hf => by simp at hf, List.Pairwise.nil, List.Pairwise.nil, List.Pairwise.nil, by omega, by omega⟩
set_option maxRecDepth 100000 in
set_option maxHeartbeats 2000000 in
theorem new_any (S : Nat → Prop) (ops room : Int) (v : Value) (zs : List Int) (w : World) (hz : IntsIn w S v zs) (hl : zs.length * 8 ≤ 140737488355328) :
    Calls Tryz.prog 15 #[.agg #[.int .i64 ops, .int .i64 room, v]] w fun r w' => ∃ p, r = .returned (.pointer (some ⟨p, 0, none⟩)) ∧ DiskP w' (fun i => w.heap.size ≤ i) p ⟨[], ops, room, zs, 0, 0, false⟩ ∧ Below w.heap.size w w' := by
  have hmm := @run_makeMap Tryz.prog
  have hA : Below w.heap.size w (w.alloc (.cells #[.int .i64 ops, .int .i64 room, v] 28)) := (Below.refl _ _).alloc (Nat.le_refl _) _
  have HZ := Lib.hid hz
  obtain ⟨A, c, rfl, _⟩ := hz
  go_enter Tryz.func15, Tryz.ntmps15
  go_wp2_with fail
  refine (begin_any (fun i => w.heap.size ≤ i) _ _ _ _ S ops room _ zs _ (disk_start w _ _ rfl) ((HZ.out.below hA).below (((Below.refl _ _).alloc (Nat.le_refl _) _).alloc (by simp) _)) hl).mono ?_
  rintro r w1 ⟨rfl, ⟨kv', hd⟩, hb⟩
  go_wp2
  refine bodyPost_ret (v := .pointer (some ⟨w.heap.size + 1 + 1, 0, none⟩)) (by simp [results, Tryz.results15, go_sem]) rfl ?_
  exact ⟨_, rfl, ⟨_, _, _, hd.mono fun i hi _ => hi.elim id (fun h => by simp at h; omega), rfl⟩, ((hA.alloc (by simp) _).alloc (by simp; omega) _).trans (hb.below (by simp; omega) fun i hi => hi)⟩
theorem names_strKeys {w : World} {mb : Nat} {D : DataW Unit} {ns : List Fd} {n : Nat} (hm : w.ownsMap Tryz.prog 9 ptrR mb n D) (hD : MapIs D ns) (hs : sortedF ns) {ss : List Nm} (hp : ss.Perm (strKeys D)) : ss.mergeSort (fun x y => decide (x ≤ y)) = ns.map Fd.name := by
  obtain ⟨es, rfl, hpw⟩ := hm.tidy law_str
  obtain ⟨es', he', hk⟩ := hm.keysOf
  injection he' with he'
  subst he'
  have hstr : ∀ q ∈ es, ∃ x, q.1 = .string x := fun q hq => by
    obtain ⟨v, hv⟩ := hk q hq
    obtain ⟨x, _, h2, _⟩ := Maps.keyOf_str Tryz.underlying9 hv
    exact ⟨x, h2⟩
  have hlt : (ns.map Fd.name).Pairwise (· < ·) := List.pairwise_map.2 hs
  have hnd : (ns.map Fd.name).Nodup := hlt.imp fun {a b} h e => by rw [e] at h; exact List.lt_irrefl _ h
  have hmem : ∀ x, x ∈ ns.map Fd.name ↔ Maps.has (.map es) (.string x) = true := fun x => by
    rw [hD.has]
    constructor
    · intro h
      obtain ⟨f, hf, rfl⟩ := List.mem_map.1 h
      rw [find_mem hs hf]; rfl
    · intro h
      cases hx : findF x ns with
      | none => rw [hx] at h; cases h
      | some f => exact List.mem_map.2 ⟨f, (find_name hx).2, (find_name hx).1⟩
  have hpm : (ns.map Fd.name).Perm (strKeys (.map es)) := perm_strKeys hpw hstr hnd hmem
  rw [mergeSort_of_perm (hp.trans hpm.symm)]
  exact List.mergeSort_of_pairwise (hlt.imp fun {a b} h => by simpa using List.le_of_lt h)
set_option maxHeartbeats 1000000 in
theorem names_any (F : Nat → Prop) (p mb : Nat) (kv : Value) (d : Dk) (w : World) (h : DiskV w F p mb kv d) (hl : d.ns.length * 16 ≤ 140737488355328) :
    Calls Tryz.prog 86 #[.pointer (some ⟨p, 0, none⟩)] w fun r w' => ∃ v, r = .returned v ∧ w'.ownsRow w.heap.size 9 1 v d.ns.length ((d.ns.map Fd.name).map encStr) ∧ Below w.heap.size w w' := by
  obtain ⟨D, hm, hD⟩ := h.map
  obtain ⟨x0, _⟩ := h.cell
  have hs := h.sorted
  refine (callsIn_wide (n := 6)).1 ?_
  have hfK : Fence.wide.fn 143 := trivial
  have hfS : Fence.wide.fn 142 := trivial
  refine callsIn_of_wp Tryz.func86 rfl trivial ?_ rfl
  simp only [Tryz.ntmps86, List.size_toArray, List.length_cons, List.length_nil, Nat.reduceAdd, Nat.reduceSub, Array.replicate_succ, Array.replicate_zero, List.push_toArray, List.append_toArray, List.nil_append, List.cons_append]
  gi_wp2_with (first
    | (gi_at_call 143; refine (Tryz.maps_Keys_143 _ _).mono ?_; rintro e w' ⟨rfl, rfl⟩)
    | (gi_at_call 142; refine (Tryz.slices_Sorted_keys_142_143 mb _ D ptrR w hm (by rw [hD.size]; unfold maxLen; omega) (by rw [hD.size]; exact hl)).mono ?_; rintro e w' ⟨v, ss, rfl, hS, hrow, hnil, hb⟩))
  go_ret
  have e1 := names_strKeys hm hD hs hS
  have e2 : ss.length = d.ns.length := by
    have := congrArg List.length e1
    simpa using this
  rw [e1, e2] at hrow
  exact ⟨v, rfl, ownsRow_base_a hrow (by simp), ((Below.refl _ w).alloc (Nat.le_refl _) _).trans (hb.mono (by simp))⟩
end Go.Proofs.YtjnolpfmchnnmaaGreatDoor
end
section
namespace Go.Proofs.YtjnolpfmchnnmaaGreatDoor
set_option maxRecDepth 100000
open Go.RowKit Go.BigFrame Go.Sort Go.Shelf Go.Lib Go.Maps
attribute [local go_sem ↓] Go.wp_at_zero Go.wp_at_succ
theorem strs1 (w : World) (x : Nm) : Strs (w.alloc (.cells #[.string ⟨x.toArray⟩] 9)) (fun _ => True) (.slice (some ⟨w.heap.size, 0, none⟩) 1 1) [x] := by
  refine ⟨_, _, rfl, Nat.le_refl _, by omega, by simp, fun _ => ⟨w.heap.size, 0, rfl, trivial, by simp, fun j u hu => ?_⟩⟩
  rw [World.cell?_alloc_at _ _ _ _ rfl]
  simpa [encStr] using hu
theorem strs2 (w : World) (x y : Nm) : Strs (w.alloc (.cells #[.string ⟨x.toArray⟩, .string ⟨y.toArray⟩] 9)) (fun _ => True) (.slice (some ⟨w.heap.size, 0, none⟩) 2 2) [x, y] := by
  refine ⟨_, _, rfl, Nat.le_refl _, by omega, by simp, fun _ => ⟨w.heap.size, 0, rfl, trivial, by simp, fun j u hu => ?_⟩⟩
  rw [World.cell?_alloc_at _ _ _ _ rfl]
  simpa [encStr] using hu
theorem readyE_zero {d : Dk} {x : Nm} {l : List Nm} (h : readyE d.pk (x :: l) = 0) : d.down = false ∧ (x :: l).all nameB = true ∧ ∃ f, findF x d.ns = some f := by
  unfold readyE at h
  split at h
  · cases h
  · rename_i h1
    split at h
    · cases h
    · rename_i h2
      dsimp only at h
      refine ⟨by simpa [Dk.pk] using h1, by simpa using h2, ?_⟩
      have e : findP x d.pk.fs = (findF x d.ns).map Fd.fl := findP_map x d.ns
      rw [e] at h
      cases hx : findF x d.ns with
      | none => rw [hx] at h; cases h
      | some f => exact ⟨f, rfl⟩
def readD (k : Pk) (x : Nm) : List UInt8 := match findP x k.fs with | some f => f.data | none => []
theorem readD_some {d : Dk} {x : Nm} {f : Fd} (h : findF x d.ns = some f) : readD d.pk x = f.data := by
  unfold readD
  rw [show findP x d.pk.fs = (findF x d.ns).map Fd.fl from findP_map x d.ns, h]
  rfl
theorem DiskV.file {w : World} {F : Nat → Prop} {p mb : Nat} {kv : Value} {d : Dk} (h : DiskV w F p mb kv d) {x : Nm} {f : Fd} (hf : findF x d.ns = some f) : w.cell? ⟨f.blk, 0, none⟩ = some f.sl ∧ w.cell? ⟨f.blk, 1, none⟩ = some (.int .i64 f.synced) ∧ (∀ i, w.frozen? ⟨f.blk, i, none⟩ = false) ∧ FileV w F f := by
  have hv := h.files f (find_name hf).2
  exact ⟨by rw [cell_of_row w _ _ _ _ _ hv.cells]; rfl, by rw [cell_of_row w _ _ _ _ _ hv.cells]; rfl, fun i => frozen_of_row w _ i _ _ hv.cells, hv⟩
set_option maxRecDepth 100000 in
set_option maxHeartbeats 2000000 in
theorem read_any (F : Nat → Prop) (p : Nat) (k : Pk) (x : Nm) (w : World) (h : DiskP w F p k) (hx : x.length ≤ 140737488355328) :
    Calls Tryz.prog 64 #[.pointer (some ⟨p, 0, none⟩), .string ⟨x.toArray⟩] w fun r w' => ∃ v, r = .returned (.tuple #[v, .int .i64 (readyE k [x])]) ∧ BytL w' w.heap.size v (if readyE k [x] = 0 then readD k x else []) ∧ Below w.heap.size w w' := by
  obtain ⟨mb, kv, d, h, rfl⟩ := h
  have H := Lib.hid h
  have hA : Below w.heap.size w (w.alloc (.cells #[.string ⟨x.toArray⟩] 9)) := (Below.refl _ _).alloc (Nat.le_refl _) _
  have HR := Lib.hid (ready_any F p d.pk (fun _ => True) _ [x] _ (DiskP.below ⟨mb, kv, d, h, rfl⟩ hA) (strs1 w x) (fun y hy => by simp at hy; rw [hy]; exact hx))
  have HZ := Lib.hid (fun hz : readyE d.pk [x] = 0 => readyE_zero hz)
  obtain ⟨e, he⟩ : ∃ e, readyE d.pk [x] = e := ⟨_, rfl⟩
  rw [he] at HR HZ ⊢
  have HA := Lib.hid hA
  clear h hA he
  by_cases h0 : e = 0
  · subst h0
    obtain ⟨_, _, f, hf⟩ := HZ.out rfl
    rw [if_pos rfl, readD_some hf]
    have HF := Lib.hid hf
    clear hf HZ
    go_enter Tryz.func64, Tryz.ntmps64
    go_upto_region 4 with (go_at_call 90; refine HR.out.mono ?_; rintro r w1 ⟨rfl, hb1⟩)
    have hv := (H.out.below HA.out).below hb1
    obtain ⟨x0, _⟩ := hv.cell
    have hlk := hv.look x hx
    rw [HF.out] at hlk
    obtain ⟨f0, f1, ff, hfv⟩ := hv.file HF.out
    have HFV := Lib.hid hfv.own.byt
    obtain ⟨Af, cf, hfs⟩ := hfv.own.form
    rw [hfs] at f0 HFV
    unfold ptrF at hlk
    have HB1 := Lib.hid (HA.out.trans (hb1.mono HA.out.size))
    clear hv hfv hb1 hfs
    go_wp2_with (go_at_call 89; refine (bcloneL_any _ _ f.data _ HFV.out).mono ?_; rintro r w2 ⟨v', rfl, hv', hb2⟩)
    refine bodyPost_ret (v := .tuple #[v', .int .i64 0]) (by simp [results, Tryz.results64, go_sem]) rfl ?_
    exact ⟨_, rfl, hv'.mono HB1.out.size, HB1.out.trans (hb2.mono HB1.out.size)⟩
  · rw [if_neg h0]
    have hne : (e != 0) = true := by simpa using h0
    have hne' : (e == 0) = false := by simpa using h0
    clear HZ h0
    go_enter Tryz.func64, Tryz.ntmps64
    go_wp2_with (go_at_call 90; refine HR.out.mono ?_; rintro r w1 ⟨rfl, hb1⟩)
    refine bodyPost_ret (v := .tuple #[.slice none 0 0, .int .i64 e]) (by simp [results, Tryz.results64, go_sem]) rfl ?_
    exact ⟨_, rfl, BytL.nil _ _, HA.out.trans (hb1.mono HA.out.size)⟩
end Go.Proofs.YtjnolpfmchnnmaaGreatDoor
end
section
namespace Go.Proofs.YtjnolpfmchnnmaaGreatDoor
set_option maxRecDepth 100000
open Go.RowKit Go.BigFrame Go.Sort Go.Shelf Go.Lib Go.Maps
attribute [local go_sem ↓] Go.wp_at_zero Go.wp_at_succ
theorem crashes_e {k : Pk} (h : changeE k = 0) : crashes k = false := by
  unfold changeE at h
  split at h
  · cases h
  · rename_i h1; simpa using h1
theorem crashes_n {k : Pk} (h : ¬ changeE k = 0) : crashes k = true := by
  unfold changeE at h
  split at h
  · assumption
  · exact absurd rfl h
theorem changed_find {d d' : Dk} {x : Nm} {f : Fd} (hd : d'.pk = changeK d.pk) (hf : findF x d.ns = some f) : ∃ f', findF x d'.ns = some f' ∧ f'.fl = f.fl := by
  have h1 : findP x d'.pk.fs = findP x d.pk.fs := by rw [hd]; unfold changeK; split <;> rfl
  rw [show findP x d'.pk.fs = (findF x d'.ns).map Fd.fl from findP_map x d'.ns, show findP x d.pk.fs = (findF x d.ns).map Fd.fl from findP_map x d.ns, hf] at h1
  cases hx : findF x d'.ns with
  | none => rw [hx] at h1; cases h1
  | some f' => rw [hx] at h1; exact ⟨f', rfl, by simpa using h1⟩
theorem pk_upd {d : Dk} {x : Nm} {f : Fd} (hs : sortedF d.ns) (hf : findF x d.ns = some f) (G : Fd → Fd) (g : Fl → Fl) (h : (G f).fl = g f.fl) : Dk.pk { d with ns := updF f.name G d.ns } = updK d.pk x g := by
  have hn := (find_name hf).1
  have key : (updF f.name G d.ns).map Fd.fl = updP x g (d.ns.map Fd.fl) := by
    unfold updF updP
    rw [List.map_map, List.map_map, hn]
    refine List.map_congr_left fun a ha => ?_
    show (if a.name = x then G a else a).fl = if a.name = x then g a.fl else a.fl
    split
    · rename_i e
      rw [sorted_name hs ha (find_name hf).2 (e.trans hn.symm), h]
    · rfl
  unfold Dk.pk updK
  rw [key]
set_option maxRecDepth 100000 in
set_option maxHeartbeats 4000000 in
theorem sync_any (F : Nat → Prop) (p : Nat) (k : Pk) (x : Nm) (w : World) (h : DiskP w F p k) (hx : x.length ≤ 140737488355328) (hd : 0 ≤ k.done) (hd' : k.done < 4611686018427387904) :
    Calls Tryz.prog 70 #[.pointer (some ⟨p, 0, none⟩), .string ⟨x.toArray⟩] w fun r w' => r = .returned (.int .i64 (syncE k x)) ∧ DiskP w' F p (syncK k x) ∧ Only F w w' := by
  have hA : Below w.heap.size w (w.alloc (.cells #[.string ⟨x.toArray⟩] 9)) := (Below.refl _ _).alloc (Nat.le_refl _) _
  have HR := Lib.hid (ready_any F p k (fun _ => True) _ [x] _ (h.below hA) (strs1 w x) (fun y hy => by simp at hy; rw [hy]; exact hx))
  have HD := Lib.hid h
  have HA := Lib.hid hA
  by_cases h0 : readyE k [x] = 0
  · have e1 : syncE k x = changeE k := by rw [syncE, if_pos h0]
    have e2 : syncK k x = if crashes k = true then changeK k else updK (changeK k) x fun f => { f with synced := f.data.length } := by rw [syncK, if_pos h0]
    rw [e1, e2]
    rw [h0] at HR
    have HC := Lib.hid fun w1 (hw : DiskP w1 F p k) => change_any F p k w1 hw hd hd'
    have H0 := Lib.hid h0
    clear e1 e2 h hA
    by_cases hc : changeE k = 0
    · rw [if_neg (by rw [crashes_e hc]; simp)]
      have HCE := Lib.hid hc
      rw [hc] at HC ⊢
      clear hc h0
      go_enter Tryz.func70, Tryz.ntmps70
      go_upto_region 7 with (first
        | (go_at_call 90; refine HR.out.mono ?_; rintro r w1 ⟨rfl, hb1⟩)
        | (go_at_call 91; refine (HC.out w1 ((HD.out.below HA.out).below hb1)).mono ?_; rintro r w2 ⟨rfl, hd2, hb2⟩))
      obtain ⟨mb0, kv0, d0, hv0, rfl⟩ := HD.out
      obtain ⟨_, _, f0, hf0⟩ := readyE_zero H0.out
      obtain ⟨mb, kv, d, hv, hpk⟩ := hd2
      obtain ⟨f, hf, hfl⟩ := changed_find hpk hf0
      obtain ⟨x0, _⟩ := hv.cell
      have hlk := hv.look x hx
      rw [hf] at hlk
      obtain ⟨y0, y1, yf, hfv⟩ := hv.file hf
      obtain ⟨Af, cf, hfs⟩ := hfv.own.form
      rw [hfs] at y0
      unfold ptrF at hlk
      have HV := Lib.hid hv
      have HFV := Lib.hid hfv
      have HF := Lib.hid hf
      have HPK := Lib.hid hpk
      have HFS := Lib.hid hfs
      have hlof := hfv.lo
      have HBB : Hid (Only F w w2) := Lib.hid ((Only.of_below (HA.out.trans (hb1.mono HA.out.size))).trans hb2)
      clear hv hfv hf hpk hfs hf0 hfl hv0 hb1 hb2
      go_wp2
      refine bodyPost_ret (v := .int .i64 0) (by simp [results, Tryz.results70, go_sem]) rfl ?_
      have hnm := (find_name HF.out).1
      have hup := HV.out.upd (F' := F) (fun _ hi => hi) (find_name HF.out).2 (data' := f.data) (synced' := f.data.length) (sl' := f.sl) (w' := w2.setCell ⟨f.blk, 1, none⟩ (.int .i64 f.data.length)) ((Only.refl _ _).setCell (p := ⟨f.blk, 1, none⟩) (.inl rfl) _)
        (heap_setCell_same w2 f.blk 1 _ _ _ HFV.out.cells) (HFV.out.own.kept fun g hg => heap_setCell_other w2 ⟨f.blk, 1, none⟩ g _ (by obtain ⟨_, ⟨cs, hL⟩, _⟩ := HFV.out.own.blk hg; exact cells_ne hL HFV.out.cells (by decide))) (fun g hg => .inl hg)
      refine ⟨rfl, ⟨_, _, _, hup, ?_⟩, HBB.out.setCell (p := ⟨f.blk, 1, none⟩) hlof _⟩
      rw [pk_upd HV.out.sorted HF.out _ (fun f => { f with synced := f.data.length }) rfl, HPK.out]
    · have hcr := crashes_n hc
      rw [if_pos hcr]
      have hne : (changeE k == 0) = false := by simpa using hc
      obtain ⟨e, he⟩ : ∃ e, changeE k = e := ⟨_, rfl⟩
      rw [he] at HC hne hc ⊢
      clear h0 hcr he
      go_enter Tryz.func70, Tryz.ntmps70
      go_wp2_with (first
        | (go_at_call 90; refine HR.out.mono ?_; rintro r w1 ⟨rfl, hb1⟩)
        | (go_at_call 91; refine (HC.out w1 ((HD.out.below HA.out).below hb1)).mono ?_; rintro r w2 ⟨rfl, hd2, hb2⟩))
      refine bodyPost_ret (v := .int .i64 e) (by simp [results, Tryz.results70, go_sem]) rfl ?_
      exact ⟨rfl, hd2, (Only.of_below (HA.out.trans (hb1.mono HA.out.size))).trans hb2⟩
  · have e1 : syncE k x = readyE k [x] := by rw [syncE, if_neg h0]
    have e2 : syncK k x = k := by rw [syncK, if_neg h0]
    rw [e1, e2]
    have hne : (readyE k [x] == 0) = false := by simpa using h0
    obtain ⟨e, he⟩ : ∃ e, readyE k [x] = e := ⟨_, rfl⟩
    rw [he] at HR hne h0 ⊢
    clear e1 e2 h hA he
    go_enter Tryz.func70, Tryz.ntmps70
    go_wp2_with (go_at_call 90; refine HR.out.mono ?_; rintro r w1 ⟨rfl, hb1⟩)
    refine bodyPost_ret (v := .int .i64 e) (by simp [results, Tryz.results70, go_sem]) rfl ?_
    exact ⟨rfl, (HD.out.below HA.out).below hb1, Only.of_below (HA.out.trans (hb1.mono HA.out.size))⟩
end Go.Proofs.YtjnolpfmchnnmaaGreatDoor
end
