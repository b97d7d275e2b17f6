/-
vdisk's Sync, Delete.
-/
import Derived.Test.YtjnolpfmchnnmaaGreatDoorQPDrops2
section
namespace Go.Proofs.YtjnolpfmchnnmaaGreatDoor
set_option maxRecDepth 100000
open Go.RowKit Go.BigFrame Go.Sort Go.Shelf Go.Lib Go.Maps
attribute [local go_sem ↓] Go.wp_at_zero Go.wp_at_succ
theorem box_at {w w1 : World} {cs : Array Value} {t : TypeId} (hb : Below (w.alloc (.cells cs t)).heap.size (w.alloc (.cells cs t)) w1) : w1.heap[w.heap.size]? = some (.cells cs t (0, 0)) :=
  (hb.block w.heap.size (by simp)).trans (heap_alloc_new w _)
theorem box3 {w w1 : World} {a b c : Value} {t : TypeId} (hb : Below (w.alloc (.cells #[a, b, c] t)).heap.size (w.alloc (.cells #[a, b, c] t)) w1) : w1.cell? ⟨w.heap.size, 0, none⟩ = some a ∧ w1.cell? ⟨w.heap.size, 1, none⟩ = some b ∧ w1.cell? ⟨w.heap.size, 2, none⟩ = some c ∧ ∀ i, w1.frozen? ⟨w.heap.size, i, none⟩ = false := by
  have h := box_at hb
  refine ⟨?_, ?_, ?_, fun i => frozen_of_row w1 _ i _ _ h⟩ <;> (rw [cell_of_row w1 _ _ _ _ _ h]; rfl)
theorem KeepV.nil (w : World) (F : Nat → Prop) : KeepV w F (.slice none 0 0) [] := ⟨none, 0, rfl, Nat.le_refl _, by simp, fun h => absurd h (by simp)⟩
theorem KeepV.of_own {w : World} {base : Nat} {F : Nat → Prop} {v : Value} {zs : List Int} (h : w.ownsRow base 3 1 v zs.length (zs.map (Value.int .i64))) (hl : zs.length ≤ 140737488355328) (hF : ∀ i, base ≤ i → F i) : KeepV w F v zs := by
  rcases h.2 with ⟨rfl, h0⟩ | ⟨g, cap, cur, rfl, hbg, hh, hcap, hcm, hcs, ht⟩
  · have : zs = [] := List.eq_nil_of_length_eq_zero h0
    subst this
    exact KeepV.nil _ _
  · refine ⟨_, _, rfl, hcap, hl, fun _ => ⟨g, 0, cur, rfl, hF g hbg, hh, fun j z hj => ?_⟩⟩
    have h2 : (zs.map (Value.int .i64))[j]? = some (.int .i64 z) := by rw [List.getElem?_map, hj]; rfl
    rw [← ht, List.getElem?_take] at h2
    split at h2
    · rw [Nat.zero_add]; simpa using h2
    · cases h2
theorem KeepV.setHead {w : World} {F : Nat → Prop} {p : Nat} {kv : Value} {keep : List Int} {cs : Array Value} (h : KeepV w F kv keep) (hp : w.heap[p]? = some (.cells cs 116 (0, 0))) (i : Nat) (v : Value) : KeepV (w.setCell ⟨p, i, none⟩ v) F kv keep :=
  h.kept fun g cs' _ hg => heap_setCell_other w ⟨p, i, none⟩ g v (cells_ne hg hp (by decide))
theorem iclone_any (S : Nat → Prop) (v : Value) (zs : List Int) (w : World) (h : IntsIn w S v zs) (hl : zs.length * 8 ≤ 140737488355328) :
    Calls Tryz.prog 93 #[v] w fun r w' => ∃ v', r = .returned v' ∧ KeepV w' (fun i => w.heap.size ≤ i) v' zs ∧ Below w.heap.size w w' := by
  obtain ⟨A, c, rfl, _, _, hr⟩ := h
  rcases Nat.eq_zero_or_pos zs.length with h0 | h0
  · have hz : zs = [] := List.eq_nil_of_length_eq_zero h0
    subst hz
    cases A with
    | none =>
      refine (Tryz.slices_Clone_int_nil 0 c w).mono ?_
      rintro r w' ⟨rfl, rfl⟩
      exact ⟨_, rfl, KeepV.nil _ _, Below.refl _ _⟩
    | some a =>
      refine (Tryz.slices_Clone_int_zero a c w).mono ?_
      rintro r w' ⟨v', rfl, ho, _, hb⟩
      exact ⟨_, rfl, KeepV.of_own (zs := []) ho (by simp) (fun _ hi => hi), hb⟩
  · obtain ⟨b, o, rfl, _, _, hc⟩ := hr.2 h0
    refine (Tryz.slices_Clone_int b o zs.length c zs w (Nat.le_refl _) hl (fun j hj => ?_)).mono ?_
    · rw [hc j (.int .i64 zs[j]) (by simp [hj])]
      simp [hj]
    · rintro r w' ⟨v', rfl, ho, _, hb⟩
      rw [List.take_length] at ho
      exact ⟨_, rfl, KeepV.of_own ho (by omega) (fun _ hi => hi), hb⟩
set_option maxRecDepth 100000 in
set_option maxHeartbeats 2000000 in
theorem begin_any (F : Nat → Prop) (p mb : Nat) (kv : Value) (d : Dk) (S : Nat → Prop) (ops room : Int) (v : Value) (zs : List Int) (w : World) (h : DiskV w F p mb kv d) (hz : IntsIn w S v zs) (hl : zs.length * 8 ≤ 140737488355328) :
    Calls Tryz.prog 59 #[.pointer (some ⟨p, 0, none⟩), .agg #[.int .i64 ops, .int .i64 room, v]] w fun r w' => r = .returned (.tuple #[]) ∧ (∃ kv', DiskV w' (orNew F w.heap.size) p mb kv' { d with ops := ops, room := room, keep := zs, done := 0, down := false }) ∧ Only F w w' := by
  have H := Lib.hid h
  have hA : Below w.heap.size w (w.alloc (.cells #[.int .i64 ops, .int .i64 room, v] 28)) := (Below.refl _ _).alloc (Nat.le_refl _) _
  have HA := Lib.hid hA
  have HZ := Lib.hid (hz.below hA)
  obtain ⟨A, c, rfl, _⟩ := hz
  clear h hA
  go_enter Tryz.func59, Tryz.ntmps59
  go_upto_region 2 with (go_at_call 93; refine (iclone_any S _ zs _ HZ.out hl).mono ?_; rintro r w1 ⟨v', rfl, hk, hb1⟩; obtain ⟨A', c', rfl, hkr⟩ := hk; obtain ⟨b0, b1, b2, bf⟩ := box3 hb1)
  have hs1 : w1.heap.size ≤ (w1.setCell ⟨w.heap.size, 2, none⟩ (.slice A' zs.length c')).heap.size := by simp [World.setCell]
  have hp : p < w.heap.size := H.out.ltP
  have hbx := heap_setCell_same w1 w.heap.size 2 _ _ (.slice A' zs.length c') (box_at hb1)
  have hoth : ∀ i, i ≠ w.heap.size → (w1.setCell ⟨w.heap.size, 2, none⟩ (.slice A' zs.length c')).heap[i]? = w1.heap[i]? := fun i hi => heap_setCell_other w1 ⟨w.heap.size, 2, none⟩ i _ hi
  have hkk : KeepV (w1.setCell ⟨w.heap.size, 2, none⟩ (.slice A' zs.length c')) (orNew F w.heap.size) (.slice A' zs.length c') zs := by
    refine KeepV.kept (w := w1) ⟨A', c', rfl, hkr.1, hkr.2.1, fun hn => ?_⟩ fun g cs hg hc => hoth g ?_
    · obtain ⟨g, o, cs, e1, e2, e3, e4⟩ := hkr.2.2 hn
      exact ⟨g, o, cs, e1, .inr (by simp at e2; omega), e3, e4⟩
    · rintro rfl
      rw [box_at hb1] at hc
      injection hc with hc
      injection hc with _ hc
      exact absurd hc (by decide)
  have hBW : Below w.heap.size w (w1.setCell ⟨w.heap.size, 2, none⟩ (.slice A' zs.length c')) := (HA.out.trans (hb1.mono HA.out.size)).setCell (p := ⟨w.heap.size, 2, none⟩) (Nat.le_refl _) _
  obtain ⟨W, hW⟩ : ∃ W, W = w1.setCell ⟨w.heap.size, 2, none⟩ (.slice A' zs.length c') := ⟨_, rfl⟩
  rw [← hW] at hbx hkk hBW ⊢
  have hv := (H.out.below hBW).mono (F' := orNew F w.heap.size) fun i hi _ => .inl hi
  have HKK := Lib.hid hkk
  have HBW := Lib.hid hBW
  have y0 := cell_of_row W w.heap.size 0 _ _ _ hbx
  have y1 := cell_of_row W w.heap.size 1 _ _ _ hbx
  have y2 := cell_of_row W w.heap.size 2 _ _ _ hbx
  have yf : ∀ i, W.frozen? ⟨w.heap.size, i, none⟩ = false := fun i => frozen_of_row W _ i _ _ hbx
  obtain ⟨_, x1, x2, x3, x4, _, x6⟩ := hv.cell
  have xf := hv.frozen
  have HVW := Lib.hid hv
  have hbp : F p := H.out.loP
  simp only [Array.setIfInBounds, List.size_toArray, List.length_cons, List.length_nil] at y0 y1 y2
  clear hs1 hbx hoth hkk hBW hW hv hkr b0 b1 b2 bf hb1
  go_wp2
  refine bodyPost_end (v := .tuple #[]) (by simp [results, Tryz.results59, go_sem]) rfl ?_
  have s1 := HVW.out.store 1 (.int .i64 ops) { d with ops := ops } kv rfl HVW.out.keep rfl
  have s2 := s1.store 2 (.int .i64 room) { d with ops := ops, room := room } kv rfl s1.keep rfl
  have k2 := (HKK.out.setHead HVW.out.head 1 (.int .i64 ops)).setHead s1.head 2 (.int .i64 room)
  have s3 := s2.store 3 (.slice A' zs.length c') { d with ops := ops, room := room, keep := zs } _ rfl k2 rfl
  have s4 := s3.store 4 (.int .i64 0) { d with ops := ops, room := room, keep := zs, done := 0 } _ rfl s3.keep rfl
  have s5 := s4.store 6 (.bool false) { d with ops := ops, room := room, keep := zs, done := 0, down := false } _ rfl s4.keep rfl
  exact ⟨rfl, ⟨_, s5⟩, (((((Only.of_below HBW.out).setCell (p := ⟨p, 1, none⟩) hbp _).setCell (p := ⟨p, 2, none⟩) hbp _).setCell (p := ⟨p, 3, none⟩) hbp _).setCell (p := ⟨p, 4, none⟩) hbp _).setCell (p := ⟨p, 6, none⟩) hbp _⟩
theorem disk_start (w : World) (o : Obj) (W : World) (hW : W = ((w.alloc o).alloc (.map #[] 0)).alloc (.cells #[.map (some (w.heap.size + 1)), .int .i64 0, .int .i64 0, .slice none 0 0, .int .i64 0, .int .i64 0, .bool false] 116)) : DiskV W (fun i => w.heap.size ≤ i) (w.heap.size + 1 + 1) (w.heap.size + 1) (.slice none 0 0) ⟨[], 0, 0, [], 0, 0, false⟩ := by
  subst hW
  have hm := World.ownsMap_made (H := Unit) (w.alloc o) Tryz.prog 9 ptrR
  have hh := heap_alloc_new ((w.alloc o).alloc (.map #[] 0)) (.cells #[.map (some (w.heap.size + 1)), .int .i64 0, .int .i64 0, .slice none 0 0, .int .i64 0, .int .i64 0, .bool false] 116)
  simp only [World.size_alloc] at hm hh
  refine ⟨hh, ⟨_, ownsMap_block hm (Below.heap_alloc _ _ _ (by simp)), ⟨fun x => rfl, fun x => rfl, rfl⟩⟩, fun f hf => by simp at hf, KeepV.nil _ _, fun f hf => by simp at hf, List.Pairwise.nil, List.Pairwise.nil, List.Pairwise.nil, by omega, by omega⟩
set_option maxRecDepth 100000 in
set_option maxHeartbeats 2000000 in
theorem new_any (S : Nat → Prop) (ops room : Int) (v : Value) (zs : List Int) (w : World) (hz : IntsIn w S v zs) (hl : zs.length * 8 ≤ 140737488355328) :
    Calls Tryz.prog 15 #[.agg #[.int .i64 ops, .int .i64 room, v]] w fun r w' => ∃ p, r = .returned (.pointer (some ⟨p, 0, none⟩)) ∧ DiskP w' (fun i => w.heap.size ≤ i) p ⟨[], ops, room, zs, 0, 0, false⟩ ∧ Below w.heap.size w w' := by
  have hmm := @run_makeMap Tryz.prog
  have hA : Below w.heap.size w (w.alloc (.cells #[.int .i64 ops, .int .i64 room, v] 28)) := (Below.refl _ _).alloc (Nat.le_refl _) _
  have HZ := Lib.hid hz
  obtain ⟨A, c, rfl, _⟩ := hz
  go_enter Tryz.func15, Tryz.ntmps15
  go_wp2_with fail
  refine (begin_any (fun i => w.heap.size ≤ i) _ _ _ _ S ops room _ zs _ (disk_start w _ _ rfl) ((HZ.out.below hA).below (((Below.refl _ _).alloc (Nat.le_refl _) _).alloc (by simp) _)) hl).mono ?_
  rintro r w1 ⟨rfl, ⟨kv', hd⟩, hb⟩
  go_wp2
  refine bodyPost_ret (v := .pointer (some ⟨w.heap.size + 1 + 1, 0, none⟩)) (by simp [results, Tryz.results15, go_sem]) rfl ?_
  exact ⟨_, rfl, ⟨_, _, _, hd.mono fun i hi _ => hi.elim id (fun h => by simp at h; omega), rfl⟩, ((hA.alloc (by simp) _).alloc (by simp; omega) _).trans (hb.below (by simp; omega) fun i hi => hi)⟩
theorem names_strKeys {w : World} {mb : Nat} {D : DataW Unit} {ns : List Fd} {n : Nat} (hm : w.ownsMap Tryz.prog 9 ptrR mb n D) (hD : MapIs D ns) (hs : sortedF ns) {ss : List Nm} (hp : ss.Perm (strKeys D)) : ss.mergeSort (fun x y => decide (x ≤ y)) = ns.map Fd.name := by
  obtain ⟨es, rfl, hpw⟩ := hm.tidy law_str
  obtain ⟨es', he', hk⟩ := hm.keysOf
  injection he' with he'
  subst he'
  have hstr : ∀ q ∈ es, ∃ x, q.1 = .string x := fun q hq => by
    obtain ⟨v, hv⟩ := hk q hq
    obtain ⟨x, _, h2, _⟩ := Maps.keyOf_str Tryz.underlying9 hv
    exact ⟨x, h2⟩
  have hlt : (ns.map Fd.name).Pairwise (· < ·) := List.pairwise_map.2 hs
  have hnd : (ns.map Fd.name).Nodup := hlt.imp fun {a b} h e => by rw [e] at h; exact List.lt_irrefl _ h
  have hmem : ∀ x, x ∈ ns.map Fd.name ↔ Maps.has (.map es) (.string x) = true := fun x => by
    rw [hD.has]
    constructor
    · intro h
      obtain ⟨f, hf, rfl⟩ := List.mem_map.1 h
      rw [find_mem hs hf]; rfl
    · intro h
      cases hx : findF x ns with
      | none => rw [hx] at h; cases h
      | some f => exact List.mem_map.2 ⟨f, (find_name hx).2, (find_name hx).1⟩
  have hpm : (ns.map Fd.name).Perm (strKeys (.map es)) := perm_strKeys hpw hstr hnd hmem
  rw [mergeSort_of_perm (hp.trans hpm.symm)]
  exact List.mergeSort_of_pairwise (hlt.imp fun {a b} h => by simpa using List.le_of_lt h)
set_option maxHeartbeats 1000000 in
theorem names_any (F : Nat → Prop) (p mb : Nat) (kv : Value) (d : Dk) (w : World) (h : DiskV w F p mb kv d) (hl : d.ns.length * 16 ≤ 140737488355328) :
    Calls Tryz.prog 86 #[.pointer (some ⟨p, 0, none⟩)] w fun r w' => ∃ v, r = .returned v ∧ w'.ownsRow w.heap.size 9 1 v d.ns.length ((d.ns.map Fd.name).map encStr) ∧ Below w.heap.size w w' := by
  obtain ⟨D, hm, hD⟩ := h.map
  obtain ⟨x0, _⟩ := h.cell
  have hs := h.sorted
  refine (callsIn_wide (n := 6)).1 ?_
  have hfK : Fence.wide.fn 143 := trivial
  have hfS : Fence.wide.fn 142 := trivial
  refine callsIn_of_wp Tryz.func86 rfl trivial ?_ rfl
  simp only [Tryz.ntmps86, List.size_toArray, List.length_cons, List.length_nil, Nat.reduceAdd, Nat.reduceSub, Array.replicate_succ, Array.replicate_zero, List.push_toArray, List.append_toArray, List.nil_append, List.cons_append]
  gi_wp2_with (first
    | (gi_at_call 143; refine (Tryz.maps_Keys_143 _ _).mono ?_; rintro e w' ⟨rfl, rfl⟩)
    | (gi_at_call 142; refine (Tryz.slices_Sorted_keys_142_143 mb _ D ptrR w hm (by rw [hD.size]; unfold maxLen; omega) (by rw [hD.size]; exact hl)).mono ?_; rintro e w' ⟨v, ss, rfl, hS, hrow, hnil, hb⟩))
  go_ret
  have e1 := names_strKeys hm hD hs hS
  have e2 : ss.length = d.ns.length := by
    have := congrArg List.length e1
    simpa using this
  rw [e1, e2] at hrow
  exact ⟨v, rfl, ownsRow_base_a hrow (by simp), ((Below.refl _ w).alloc (Nat.le_refl _) _).trans (hb.mono (by simp))⟩
end Go.Proofs.YtjnolpfmchnnmaaGreatDoor
end
section
namespace Go.Proofs.YtjnolpfmchnnmaaGreatDoor
set_option maxRecDepth 100000
open Go.RowKit Go.BigFrame Go.Sort Go.Shelf Go.Lib Go.Maps
attribute [local go_sem ↓] Go.wp_at_zero Go.wp_at_succ
theorem strs1 (w : World) (x : Nm) : Strs (w.alloc (.cells #[.string ⟨x.toArray⟩] 9)) (fun _ => True) (.slice (some ⟨w.heap.size, 0, none⟩) 1 1) [x] := by
  refine ⟨_, _, rfl, Nat.le_refl _, by omega, by simp, fun _ => ⟨w.heap.size, 0, rfl, trivial, by simp, fun j u hu => ?_⟩⟩
  rw [World.cell?_alloc_at _ _ _ _ rfl]
  simpa [encStr] using hu
theorem readyE_zero {d : Dk} {x : Nm} {l : List Nm} (h : readyE d.pk (x :: l) = 0) : d.down = false ∧ (x :: l).all nameB = true ∧ ∃ f, findF x d.ns = some f := by
  unfold readyE at h
  split at h
  · cases h
  · rename_i h1
    split at h
    · cases h
    · rename_i h2
      dsimp only at h
      refine ⟨by simpa [Dk.pk] using h1, by simpa using h2, ?_⟩
      have e : findP x d.pk.fs = (findF x d.ns).map Fd.fl := findP_map x d.ns
      rw [e] at h
      cases hx : findF x d.ns with
      | none => rw [hx] at h; cases h
      | some f => exact ⟨f, rfl⟩
def readD (k : Pk) (x : Nm) : List UInt8 := match findP x k.fs with | some f => f.data | none => []
theorem readD_some {d : Dk} {x : Nm} {f : Fd} (h : findF x d.ns = some f) : readD d.pk x = f.data := by
  unfold readD
  rw [show findP x d.pk.fs = (findF x d.ns).map Fd.fl from findP_map x d.ns, h]
  rfl
theorem DiskV.file {w : World} {F : Nat → Prop} {p mb : Nat} {kv : Value} {d : Dk} (h : DiskV w F p mb kv d) {x : Nm} {f : Fd} (hf : findF x d.ns = some f) : w.cell? ⟨f.blk, 0, none⟩ = some f.sl ∧ w.cell? ⟨f.blk, 1, none⟩ = some (.int .i64 f.synced) ∧ (∀ i, w.frozen? ⟨f.blk, i, none⟩ = false) ∧ FileV w F f := by
  have hv := h.files f (find_name hf).2
  exact ⟨by rw [cell_of_row w _ _ _ _ _ hv.cells]; rfl, by rw [cell_of_row w _ _ _ _ _ hv.cells]; rfl, fun i => frozen_of_row w _ i _ _ hv.cells, hv⟩
set_option maxRecDepth 100000 in
set_option maxHeartbeats 2000000 in
theorem read_any (F : Nat → Prop) (p : Nat) (k : Pk) (x : Nm) (w : World) (h : DiskP w F p k) (hx : x.length ≤ 140737488355328) :
    Calls Tryz.prog 64 #[.pointer (some ⟨p, 0, none⟩), .string ⟨x.toArray⟩] w fun r w' => ∃ v, r = .returned (.tuple #[v, .int .i64 (readyE k [x])]) ∧ BytL w' w.heap.size v (if readyE k [x] = 0 then readD k x else []) ∧ Below w.heap.size w w' := by
  obtain ⟨mb, kv, d, h, rfl⟩ := h
  have H := Lib.hid h
  have hA : Below w.heap.size w (w.alloc (.cells #[.string ⟨x.toArray⟩] 9)) := (Below.refl _ _).alloc (Nat.le_refl _) _
  have HR := Lib.hid (ready_any F p d.pk (fun _ => True) _ [x] _ (DiskP.below ⟨mb, kv, d, h, rfl⟩ hA) (strs1 w x) (fun y hy => by simp at hy; rw [hy]; exact hx))
  have HZ := Lib.hid (fun hz : readyE d.pk [x] = 0 => readyE_zero hz)
  obtain ⟨e, he⟩ : ∃ e, readyE d.pk [x] = e := ⟨_, rfl⟩
  rw [he] at HR HZ ⊢
  have HA := Lib.hid hA
  clear h hA he
  by_cases h0 : e = 0
  · subst h0
    obtain ⟨_, _, f, hf⟩ := HZ.out rfl
    rw [if_pos rfl, readD_some hf]
    have HF := Lib.hid hf
    clear hf HZ
    go_enter Tryz.func64, Tryz.ntmps64
    go_upto_region 4 with (go_at_call 90; refine HR.out.mono ?_; rintro r w1 ⟨rfl, hb1⟩)
    have hv := (H.out.below HA.out).below hb1
    obtain ⟨x0, _⟩ := hv.cell
    have hlk := hv.look x hx
    rw [HF.out] at hlk
    obtain ⟨f0, f1, ff, hfv⟩ := hv.file HF.out
    have HFV := Lib.hid hfv.own.byt
    obtain ⟨Af, cf, hfs⟩ := hfv.own.form
    rw [hfs] at f0 HFV
    unfold ptrF at hlk
    have HB1 := Lib.hid (HA.out.trans (hb1.mono HA.out.size))
    clear hv hfv hb1 hfs
    go_wp2_with (go_at_call 89; refine (bcloneL_any _ _ f.data _ HFV.out).mono ?_; rintro r w2 ⟨v', rfl, hv', hb2⟩)
    refine bodyPost_ret (v := .tuple #[v', .int .i64 0]) (by simp [results, Tryz.results64, go_sem]) rfl ?_
    exact ⟨_, rfl, hv'.mono HB1.out.size, HB1.out.trans (hb2.mono HB1.out.size)⟩
  · rw [if_neg h0]
    have hne : (e != 0) = true := by simpa using h0
    have hne' : (e == 0) = false := by simpa using h0
    clear HZ h0
    go_enter Tryz.func64, Tryz.ntmps64
    go_wp2_with (go_at_call 90; refine HR.out.mono ?_; rintro r w1 ⟨rfl, hb1⟩)
    refine bodyPost_ret (v := .tuple #[.slice none 0 0, .int .i64 e]) (by simp [results, Tryz.results64, go_sem]) rfl ?_
    exact ⟨_, rfl, BytL.nil _ _, HA.out.trans (hb1.mono HA.out.size)⟩
end Go.Proofs.YtjnolpfmchnnmaaGreatDoor
end
section
namespace Go.Proofs.YtjnolpfmchnnmaaGreatDoor
set_option maxRecDepth 100000
open Go.RowKit Go.BigFrame Go.Sort Go.Shelf Go.Lib Go.Maps
attribute [local go_sem ↓] Go.wp_at_zero Go.wp_at_succ
theorem crashes_e {k : Pk} (h : changeE k = 0) : crashes k = false := by
  unfold changeE at h
  split at h
  · cases h
  · rename_i h1; simpa using h1
theorem crashes_n {k : Pk} (h : ¬ changeE k = 0) : crashes k = true := by
  unfold changeE at h
  split at h
  · assumption
  · exact absurd rfl h
theorem changed_find {d d' : Dk} {x : Nm} {f : Fd} (hd : d'.pk = changeK d.pk) (hf : findF x d.ns = some f) : ∃ f', findF x d'.ns = some f' ∧ f'.fl = f.fl := by
  have h1 : findP x d'.pk.fs = findP x d.pk.fs := by rw [hd]; unfold changeK; split <;> rfl
  rw [show findP x d'.pk.fs = (findF x d'.ns).map Fd.fl from findP_map x d'.ns, show findP x d.pk.fs = (findF x d.ns).map Fd.fl from findP_map x d.ns, hf] at h1
  cases hx : findF x d'.ns with
  | none => rw [hx] at h1; cases h1
  | some f' => rw [hx] at h1; exact ⟨f', rfl, by simpa using h1⟩
theorem pk_upd {d : Dk} {x : Nm} {f : Fd} (hs : sortedF d.ns) (hf : findF x d.ns = some f) (G : Fd → Fd) (g : Fl → Fl) (h : (G f).fl = g f.fl) : Dk.pk { d with ns := updF f.name G d.ns } = updK d.pk x g := by
  have hn := (find_name hf).1
  have key : (updF f.name G d.ns).map Fd.fl = updP x g (d.ns.map Fd.fl) := by
    unfold updF updP
    rw [List.map_map, List.map_map, hn]
    refine List.map_congr_left fun a ha => ?_
    show (if a.name = x then G a else a).fl = if a.name = x then g a.fl else a.fl
    split
    · rename_i e
      rw [sorted_name hs ha (find_name hf).2 (e.trans hn.symm), h]
    · rfl
  unfold Dk.pk updK
  rw [key]
set_option maxRecDepth 100000 in
set_option maxHeartbeats 4000000 in
theorem sync_any (F : Nat → Prop) (p : Nat) (k : Pk) (x : Nm) (w : World) (h : DiskP w F p k) (hx : x.length ≤ 140737488355328) (hd : 0 ≤ k.done) (hd' : k.done < 4611686018427387904) :
    Calls Tryz.prog 70 #[.pointer (some ⟨p, 0, none⟩), .string ⟨x.toArray⟩] w fun r w' => r = .returned (.int .i64 (syncE k x)) ∧ DiskP w' F p (syncK k x) ∧ Only F w w' := by
  have hA : Below w.heap.size w (w.alloc (.cells #[.string ⟨x.toArray⟩] 9)) := (Below.refl _ _).alloc (Nat.le_refl _) _
  have HR := Lib.hid (ready_any F p k (fun _ => True) _ [x] _ (h.below hA) (strs1 w x) (fun y hy => by simp at hy; rw [hy]; exact hx))
  have HD := Lib.hid h
  have HA := Lib.hid hA
  by_cases h0 : readyE k [x] = 0
  · have e1 : syncE k x = changeE k := by rw [syncE, if_pos h0]
    have e2 : syncK k x = if crashes k = true then changeK k else updK (changeK k) x fun f => { f with synced := f.data.length } := by rw [syncK, if_pos h0]
    rw [e1, e2]
    rw [h0] at HR
    have HC := Lib.hid fun w1 (hw : DiskP w1 F p k) => change_any F p k w1 hw hd hd'
    have H0 := Lib.hid h0
    clear e1 e2 h hA
    by_cases hc : changeE k = 0
    · rw [if_neg (by rw [crashes_e hc]; simp)]
      have HCE := Lib.hid hc
      rw [hc] at HC ⊢
      clear hc h0
      go_enter Tryz.func70, Tryz.ntmps70
      go_upto_region 7 with (first
        | (go_at_call 90; refine HR.out.mono ?_; rintro r w1 ⟨rfl, hb1⟩)
        | (go_at_call 91; refine (HC.out w1 ((HD.out.below HA.out).below hb1)).mono ?_; rintro r w2 ⟨rfl, hd2, hb2⟩))
      obtain ⟨mb0, kv0, d0, hv0, rfl⟩ := HD.out
      obtain ⟨_, _, f0, hf0⟩ := readyE_zero H0.out
      obtain ⟨mb, kv, d, hv, hpk⟩ := hd2
      obtain ⟨f, hf, hfl⟩ := changed_find hpk hf0
      obtain ⟨x0, _⟩ := hv.cell
      have hlk := hv.look x hx
      rw [hf] at hlk
      obtain ⟨y0, y1, yf, hfv⟩ := hv.file hf
      obtain ⟨Af, cf, hfs⟩ := hfv.own.form
      rw [hfs] at y0
      unfold ptrF at hlk
      have HV := Lib.hid hv
      have HFV := Lib.hid hfv
      have HF := Lib.hid hf
      have HPK := Lib.hid hpk
      have HFS := Lib.hid hfs
      have hlof := hfv.lo
      have HBB : Hid (Only F w w2) := Lib.hid ((Only.of_below (HA.out.trans (hb1.mono HA.out.size))).trans hb2)
      clear hv hfv hf hpk hfs hf0 hfl hv0 hb1 hb2
      go_wp2
      refine bodyPost_ret (v := .int .i64 0) (by simp [results, Tryz.results70, go_sem]) rfl ?_
      have hnm := (find_name HF.out).1
      have hup := HV.out.upd (F' := F) (fun _ hi => hi) (find_name HF.out).2 (data' := f.data) (synced' := f.data.length) (sl' := f.sl) (w' := w2.setCell ⟨f.blk, 1, none⟩ (.int .i64 f.data.length)) ((Only.refl _ _).setCell (p := ⟨f.blk, 1, none⟩) (.inl rfl) _)
        (heap_setCell_same w2 f.blk 1 _ _ _ HFV.out.cells) (HFV.out.own.kept fun g hg => heap_setCell_other w2 ⟨f.blk, 1, none⟩ g _ (by obtain ⟨_, ⟨cs, hL⟩, _⟩ := HFV.out.own.blk hg; exact cells_ne hL HFV.out.cells (by decide))) (fun g hg => .inl hg)
      refine ⟨rfl, ⟨_, _, _, hup, ?_⟩, HBB.out.setCell (p := ⟨f.blk, 1, none⟩) hlof _⟩
      rw [pk_upd HV.out.sorted HF.out _ (fun f => { f with synced := f.data.length }) rfl, HPK.out]
    · have hcr := crashes_n hc
      rw [if_pos hcr]
      have hne : (changeE k == 0) = false := by simpa using hc
      obtain ⟨e, he⟩ : ∃ e, changeE k = e := ⟨_, rfl⟩
      rw [he] at HC hne hc ⊢
      clear h0 hcr he
      go_enter Tryz.func70, Tryz.ntmps70
      go_wp2_with (first
        | (go_at_call 90; refine HR.out.mono ?_; rintro r w1 ⟨rfl, hb1⟩)
        | (go_at_call 91; refine (HC.out w1 ((HD.out.below HA.out).below hb1)).mono ?_; rintro r w2 ⟨rfl, hd2, hb2⟩))
      refine bodyPost_ret (v := .int .i64 e) (by simp [results, Tryz.results70, go_sem]) rfl ?_
      exact ⟨rfl, hd2, (Only.of_below (HA.out.trans (hb1.mono HA.out.size))).trans hb2⟩
  · have e1 : syncE k x = readyE k [x] := by rw [syncE, if_neg h0]
    have e2 : syncK k x = k := by rw [syncK, if_neg h0]
    rw [e1, e2]
    have hne : (readyE k [x] == 0) = false := by simpa using h0
    obtain ⟨e, he⟩ : ∃ e, readyE k [x] = e := ⟨_, rfl⟩
    rw [he] at HR hne h0 ⊢
    clear e1 e2 h hA he
    go_enter Tryz.func70, Tryz.ntmps70
    go_wp2_with (go_at_call 90; refine HR.out.mono ?_; rintro r w1 ⟨rfl, hb1⟩)
    refine bodyPost_ret (v := .int .i64 e) (by simp [results, Tryz.results70, go_sem]) rfl ?_
    exact ⟨rfl, (HD.out.below HA.out).below hb1, Only.of_below (HA.out.trans (hb1.mono HA.out.size))⟩
end Go.Proofs.YtjnolpfmchnnmaaGreatDoor
end
