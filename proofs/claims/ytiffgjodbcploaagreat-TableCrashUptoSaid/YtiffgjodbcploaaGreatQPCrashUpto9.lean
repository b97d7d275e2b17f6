/-
What a crash leaves of the files: as plain data.
-/
import Derived.Test.YtiffgjodbcploaaGreatQPCrashUpto8
section
namespace Go.Proofs.YtiffgjodbcploaaGreat
set_option maxRecDepth 100000
open Go.RowKit Go.BigFrame Go.Sort Go.Shelf Go.Lib Go.Maps
attribute [local go_sem ↓] Go.wp_at_zero Go.wp_at_succ
theorem box_at {w w1 : World} {cs : Array Value} {t : TypeId} (hb : Below (w.alloc (.cells cs t)).heap.size (w.alloc (.cells cs t)) w1) : w1.heap[w.heap.size]? = some (.cells cs t (0, 0)) :=
  (hb.block w.heap.size (by simp)).trans (heap_alloc_new w _)
theorem box3 {w w1 : World} {a b c : Value} {t : TypeId} (hb : Below (w.alloc (.cells #[a, b, c] t)).heap.size (w.alloc (.cells #[a, b, c] t)) w1) : w1.cell? ⟨w.heap.size, 0, none⟩ = some a ∧ w1.cell? ⟨w.heap.size, 1, none⟩ = some b ∧ w1.cell? ⟨w.heap.size, 2, none⟩ = some c ∧ ∀ i, w1.frozen? ⟨w.heap.size, i, none⟩ = false := by
  have h := box_at hb
  refine ⟨?_, ?_, ?_, fun i => frozen_of_row w1 _ i _ _ h⟩ <;> (rw [cell_of_row w1 _ _ _ _ _ h]; rfl)
theorem KeepV.nil (w : World) (F : Nat → Prop) : KeepV w F (.slice none 0 0) [] := ⟨none, 0, rfl, Nat.le_refl _, by simp, fun h => absurd h (by simp)⟩
theorem KeepV.of_own {w : World} {base : Nat} {F : Nat → Prop} {v : Value} {zs : List Int} (h : w.ownsRow base 3 1 v zs.length (zs.map (Value.int .i64))) (hl : zs.length ≤ 140737488355328) (hF : ∀ i, base ≤ i → F i) : KeepV w F v zs := by
  rcases h.2 with ⟨rfl, h0⟩ | ⟨g, cap, cur, rfl, hbg, hh, hcap, hcm, hcs, ht⟩
  · have : zs = [] := List.eq_nil_of_length_eq_zero h0
    subst this
    exact KeepV.nil _ _
  · refine ⟨_, _, rfl, hcap, hl, fun _ => ⟨g, 0, cur, rfl, hF g hbg, hh, fun j z hj => ?_⟩⟩
    have h2 : (zs.map (Value.int .i64))[j]? = some (.int .i64 z) := by rw [List.getElem?_map, hj]; rfl
    rw [← ht, List.getElem?_take] at h2
    split at h2
    · rw [Nat.zero_add]; simpa using h2
    · cases h2
theorem KeepV.setHead {w : World} {F : Nat → Prop} {p : Nat} {kv : Value} {keep : List Int} {cs : Array Value} (h : KeepV w F kv keep) (hp : w.heap[p]? = some (.cells cs 68 (0, 0))) (i : Nat) (v : Value) : KeepV (w.setCell ⟨p, i, none⟩ v) F kv keep :=
  h.kept fun g cs' _ hg => heap_setCell_other w ⟨p, i, none⟩ g v (cells_ne hg hp (by decide))
theorem iclone_any (S : Nat → Prop) (v : Value) (zs : List Int) (w : World) (h : IntsIn w S v zs) (hl : zs.length * 8 ≤ 140737488355328) :
    Calls Tryz.prog 49 #[v] w fun r w' => ∃ v', r = .returned v' ∧ KeepV w' (fun i => w.heap.size ≤ i) v' zs ∧ Below w.heap.size w w' := by
  obtain ⟨A, c, rfl, _, _, hr⟩ := h
  rcases Nat.eq_zero_or_pos zs.length with h0 | h0
  · have hz : zs = [] := List.eq_nil_of_length_eq_zero h0
    subst hz
    cases A with
    | none =>
      refine (Tryz.slices_Clone_int_nil 0 c w).mono ?_
      rintro r w' ⟨rfl, rfl⟩
      exact ⟨_, rfl, KeepV.nil _ _, Below.refl _ _⟩
    | some a =>
      refine (Tryz.slices_Clone_int_zero a c w).mono ?_
      rintro r w' ⟨v', rfl, ho, _, hb⟩
      exact ⟨_, rfl, KeepV.of_own (zs := []) ho (by simp) (fun _ hi => hi), hb⟩
  · obtain ⟨b, o, rfl, _, _, hc⟩ := hr.2 h0
    refine (Tryz.slices_Clone_int b o zs.length c zs w (Nat.le_refl _) hl (fun j hj => ?_)).mono ?_
    · rw [hc j (.int .i64 zs[j]) (by simp [hj])]
      simp [hj]
    · rintro r w' ⟨v', rfl, ho, _, hb⟩
      rw [List.take_length] at ho
      exact ⟨_, rfl, KeepV.of_own ho (by omega) (fun _ hi => hi), hb⟩
set_option maxRecDepth 100000 in
set_option maxHeartbeats 2000000 in
theorem begin_any (F : Nat → Prop) (p mb : Nat) (kv : Value) (d : Dk) (S : Nat → Prop) (ops room : Int) (v : Value) (zs : List Int) (w : World) (h : DiskV w F p mb kv d) (hz : IntsIn w S v zs) (hl : zs.length * 8 ≤ 140737488355328) :
    Calls Tryz.prog 25 #[.pointer (some ⟨p, 0, none⟩), .agg #[.int .i64 ops, .int .i64 room, v]] w fun r w' => r = .returned (.tuple #[]) ∧ (∃ kv', DiskV w' (orNew F w.heap.size) p mb kv' { d with ops := ops, room := room, keep := zs, done := 0, down := false }) ∧ Only F w w' := by
  have H := Lib.hid h
  have hA : Below w.heap.size w (w.alloc (.cells #[.int .i64 ops, .int .i64 room, v] 28)) := (Below.refl _ _).alloc (Nat.le_refl _) _
  have HA := Lib.hid hA
  have HZ := Lib.hid (hz.below hA)
  obtain ⟨A, c, rfl, _⟩ := hz
  clear h hA
  go_enter Tryz.func25, Tryz.ntmps25
  go_upto_region 2 with (go_at_call 49; refine (iclone_any S _ zs _ HZ.out hl).mono ?_; rintro r w1 ⟨v', rfl, hk, hb1⟩; obtain ⟨A', c', rfl, hkr⟩ := hk; obtain ⟨b0, b1, b2, bf⟩ := box3 hb1)
  have hs1 : w1.heap.size ≤ (w1.setCell ⟨w.heap.size, 2, none⟩ (.slice A' zs.length c')).heap.size := by simp [World.setCell]
  have hp : p < w.heap.size := H.out.ltP
  have hbx := heap_setCell_same w1 w.heap.size 2 _ _ (.slice A' zs.length c') (box_at hb1)
  have hoth : ∀ i, i ≠ w.heap.size → (w1.setCell ⟨w.heap.size, 2, none⟩ (.slice A' zs.length c')).heap[i]? = w1.heap[i]? := fun i hi => heap_setCell_other w1 ⟨w.heap.size, 2, none⟩ i _ hi
  have hkk : KeepV (w1.setCell ⟨w.heap.size, 2, none⟩ (.slice A' zs.length c')) (orNew F w.heap.size) (.slice A' zs.length c') zs := by
    refine KeepV.kept (w := w1) ⟨A', c', rfl, hkr.1, hkr.2.1, fun hn => ?_⟩ fun g cs hg hc => hoth g ?_
    · obtain ⟨g, o, cs, e1, e2, e3, e4⟩ := hkr.2.2 hn
      exact ⟨g, o, cs, e1, .inr (by simp at e2; omega), e3, e4⟩
    · rintro rfl
      rw [box_at hb1] at hc
      injection hc with hc
      injection hc with _ hc
      exact absurd hc (by decide)
  have hBW : Below w.heap.size w (w1.setCell ⟨w.heap.size, 2, none⟩ (.slice A' zs.length c')) := (HA.out.trans (hb1.mono HA.out.size)).setCell (p := ⟨w.heap.size, 2, none⟩) (Nat.le_refl _) _
  obtain ⟨W, hW⟩ : ∃ W, W = w1.setCell ⟨w.heap.size, 2, none⟩ (.slice A' zs.length c') := ⟨_, rfl⟩
  rw [← hW] at hbx hkk hBW ⊢
  have hv := (H.out.below hBW).mono (F' := orNew F w.heap.size) fun i hi _ => .inl hi
  have HKK := Lib.hid hkk
  have HBW := Lib.hid hBW
  have y0 := cell_of_row W w.heap.size 0 _ _ _ hbx
  have y1 := cell_of_row W w.heap.size 1 _ _ _ hbx
  have y2 := cell_of_row W w.heap.size 2 _ _ _ hbx
  have yf : ∀ i, W.frozen? ⟨w.heap.size, i, none⟩ = false := fun i => frozen_of_row W _ i _ _ hbx
  obtain ⟨_, x1, x2, x3, x4, _, x6⟩ := hv.cell
  have xf := hv.frozen
  have HVW := Lib.hid hv
  have hbp : F p := H.out.loP
  simp only [Array.setIfInBounds, List.size_toArray, List.length_cons, List.length_nil] at y0 y1 y2
  clear hs1 hbx hoth hkk hBW hW hv hkr b0 b1 b2 bf hb1
  go_wp2
  refine bodyPost_end (v := .tuple #[]) (by simp [results, Tryz.results25, go_sem]) rfl ?_
  have s1 := HVW.out.store 1 (.int .i64 ops) { d with ops := ops } kv rfl HVW.out.keep rfl
  have s2 := s1.store 2 (.int .i64 room) { d with ops := ops, room := room } kv rfl s1.keep rfl
  have k2 := (HKK.out.setHead HVW.out.head 1 (.int .i64 ops)).setHead s1.head 2 (.int .i64 room)
  have s3 := s2.store 3 (.slice A' zs.length c') { d with ops := ops, room := room, keep := zs } _ rfl k2 rfl
  have s4 := s3.store 4 (.int .i64 0) { d with ops := ops, room := room, keep := zs, done := 0 } _ rfl s3.keep rfl
  have s5 := s4.store 6 (.bool false) { d with ops := ops, room := room, keep := zs, done := 0, down := false } _ rfl s4.keep rfl
  exact ⟨rfl, ⟨_, s5⟩, (((((Only.of_below HBW.out).setCell (p := ⟨p, 1, none⟩) hbp _).setCell (p := ⟨p, 2, none⟩) hbp _).setCell (p := ⟨p, 3, none⟩) hbp _).setCell (p := ⟨p, 4, none⟩) hbp _).setCell (p := ⟨p, 6, none⟩) hbp _⟩
theorem disk_start (w : World) (o : Obj) (W : World) (hW : W = ((w.alloc o).alloc (.map #[] 0)).alloc (.cells #[.map (some (w.heap.size + 1)), .int .i64 0, .int .i64 0, .slice none 0 0, .int .i64 0, .int .i64 0, .bool false] 68)) : DiskV W (fun i => w.heap.size ≤ i) (w.heap.size + 1 + 1) (w.heap.size + 1) (.slice none 0 0) ⟨[], 0, 0, [], 0, 0, false⟩ := by
  subst hW
  have hm := World.ownsMap_made (H := Unit) (w.alloc o) Tryz.prog 9 ptrR
  have hh := heap_alloc_new ((w.alloc o).alloc (.map #[] 0)) (.cells #[.map (some (w.heap.size + 1)), .int .i64 0, .int .i64 0, .slice none 0 0, .int .i64 0, .int .i64 0, .bool false] 68)
  simp only [World.size_alloc] at hm hh
  refine ⟨hh, ⟨_, ownsMap_block hm (Below.heap_alloc _ _ _ (by simp)), ⟨fun x => rfl, fun x => rfl, rfl⟩⟩, fun f hf => by simp at hf, KeepV.nil _ _, fun f hf => by simp at hf, List.Pairwise.nil, List.Pairwise.nil, List.Pairwise.nil, by omega, by omega⟩
set_option maxRecDepth 100000 in
set_option maxHeartbeats 2000000 in
theorem new_any (S : Nat → Prop) (ops room : Int) (v : Value) (zs : List Int) (w : World) (hz : IntsIn w S v zs) (hl : zs.length * 8 ≤ 140737488355328) :
    Calls Tryz.prog 7 #[.agg #[.int .i64 ops, .int .i64 room, v]] w fun r w' => ∃ p, r = .returned (.pointer (some ⟨p, 0, none⟩)) ∧ DiskP w' (fun i => w.heap.size ≤ i) p ⟨[], ops, room, zs, 0, 0, false⟩ ∧ Below w.heap.size w w' := by
  have hmm := @run_makeMap Tryz.prog
  have hA : Below w.heap.size w (w.alloc (.cells #[.int .i64 ops, .int .i64 room, v] 28)) := (Below.refl _ _).alloc (Nat.le_refl _) _
  have HZ := Lib.hid hz
  obtain ⟨A, c, rfl, _⟩ := hz
  go_enter Tryz.func7, Tryz.ntmps7
  go_wp2_with fail
  refine (begin_any (fun i => w.heap.size ≤ i) _ _ _ _ S ops room _ zs _ (disk_start w _ _ rfl) ((HZ.out.below hA).below (((Below.refl _ _).alloc (Nat.le_refl _) _).alloc (by simp) _)) hl).mono ?_
  rintro r w1 ⟨rfl, ⟨kv', hd⟩, hb⟩
  go_wp2
  refine bodyPost_ret (v := .pointer (some ⟨w.heap.size + 1 + 1, 0, none⟩)) (by simp [results, Tryz.results7, go_sem]) rfl ?_
  exact ⟨_, rfl, ⟨_, _, _, hd.mono fun i hi _ => hi.elim id (fun h => by simp at h; omega), rfl⟩, ((hA.alloc (by simp) _).alloc (by simp; omega) _).trans (hb.below (by simp; omega) fun i hi => hi)⟩
theorem names_strKeys {w : World} {mb : Nat} {D : DataW Unit} {ns : List Fd} {n : Nat} (hm : w.ownsMap Tryz.prog 9 ptrR mb n D) (hD : MapIs D ns) (hs : sortedF ns) {ss : List Nm} (hp : ss.Perm (strKeys D)) : ss.mergeSort (fun x y => decide (x ≤ y)) = ns.map Fd.name := by
  obtain ⟨es, rfl, hpw⟩ := hm.tidy law_str
  obtain ⟨es', he', hk⟩ := hm.keysOf
  injection he' with he'
  subst he'
  have hstr : ∀ q ∈ es, ∃ x, q.1 = .string x := fun q hq => by
    obtain ⟨v, hv⟩ := hk q hq
    obtain ⟨x, _, h2, _⟩ := Maps.keyOf_str Tryz.underlying9 hv
    exact ⟨x, h2⟩
  have hlt : (ns.map Fd.name).Pairwise (· < ·) := List.pairwise_map.2 hs
  have hnd : (ns.map Fd.name).Nodup := hlt.imp fun {a b} h e => by rw [e] at h; exact List.lt_irrefl _ h
  have hmem : ∀ x, x ∈ ns.map Fd.name ↔ Maps.has (.map es) (.string x) = true := fun x => by
    rw [hD.has]
    constructor
    · intro h
      obtain ⟨f, hf, rfl⟩ := List.mem_map.1 h
      rw [find_mem hs hf]; rfl
    · intro h
      cases hx : findF x ns with
      | none => rw [hx] at h; cases h
      | some f => exact List.mem_map.2 ⟨f, (find_name hx).2, (find_name hx).1⟩
  have hpm : (ns.map Fd.name).Perm (strKeys (.map es)) := perm_strKeys hpw hstr hnd hmem
  rw [mergeSort_of_perm (hp.trans hpm.symm)]
  exact List.mergeSort_of_pairwise (hlt.imp fun {a b} h => by simpa using List.le_of_lt h)
set_option maxHeartbeats 1000000 in
theorem names_any (F : Nat → Prop) (p mb : Nat) (kv : Value) (d : Dk) (w : World) (h : DiskV w F p mb kv d) (hl : d.ns.length * 16 ≤ 140737488355328) :
    Calls Tryz.prog 38 #[.pointer (some ⟨p, 0, none⟩)] w fun r w' => ∃ v, r = .returned v ∧ w'.ownsRow w.heap.size 9 1 v d.ns.length ((d.ns.map Fd.name).map encStr) ∧ Below w.heap.size w w' := by
  obtain ⟨D, hm, hD⟩ := h.map
  obtain ⟨x0, _⟩ := h.cell
  have hs := h.sorted
  refine (callsIn_wide (n := 6)).1 ?_
  have hfK : Fence.wide.fn 67 := trivial
  have hfS : Fence.wide.fn 66 := trivial
  refine callsIn_of_wp Tryz.func38 rfl trivial ?_ rfl
  simp only [Tryz.ntmps38, List.size_toArray, List.length_cons, List.length_nil, Nat.reduceAdd, Nat.reduceSub, Array.replicate_succ, Array.replicate_zero, List.push_toArray, List.append_toArray, List.nil_append, List.cons_append]
  gi_wp2_with (first
    | (gi_at_call 67; refine (Tryz.maps_Keys_67 _ _).mono ?_; rintro e w' ⟨rfl, rfl⟩)
    | (gi_at_call 66; refine (Tryz.slices_Sorted_keys_66_67 mb _ D ptrR w hm (by rw [hD.size]; unfold maxLen; omega) (by rw [hD.size]; exact hl)).mono ?_; rintro e w' ⟨v, ss, rfl, hS, hrow, hnil, hb⟩))
  go_ret
  have e1 := names_strKeys hm hD hs hS
  have e2 : ss.length = d.ns.length := by
    have := congrArg List.length e1
    simpa using this
  rw [e1, e2] at hrow
  exact ⟨v, rfl, ownsRow_base_a hrow (by simp), ((Below.refl _ w).alloc (Nat.le_refl _) _).trans (hb.mono (by simp))⟩
end Go.Proofs.YtiffgjodbcploaaGreat
end
section
namespace Go.Proofs.YtiffgjodbcploaaGreat
set_option maxRecDepth 100000
open Go.RowKit Go.BigFrame Go.Sort Go.Shelf Go.Lib Go.Maps
attribute [local go_sem ↓] Go.wp_at_zero Go.wp_at_succ
theorem strs1 (w : World) (x : Nm) : Strs (w.alloc (.cells #[.string ⟨x.toArray⟩] 9)) (fun _ => True) (.slice (some ⟨w.heap.size, 0, none⟩) 1 1) [x] := by
  refine ⟨_, _, rfl, Nat.le_refl _, by omega, by simp, fun _ => ⟨w.heap.size, 0, rfl, trivial, by simp, fun j u hu => ?_⟩⟩
  rw [World.cell?_alloc_at _ _ _ _ rfl]
  simpa [encStr] using hu
theorem strs2 (w : World) (x y : Nm) : Strs (w.alloc (.cells #[.string ⟨x.toArray⟩, .string ⟨y.toArray⟩] 9)) (fun _ => True) (.slice (some ⟨w.heap.size, 0, none⟩) 2 2) [x, y] := by
  refine ⟨_, _, rfl, Nat.le_refl _, by omega, by simp, fun _ => ⟨w.heap.size, 0, rfl, trivial, by simp, fun j u hu => ?_⟩⟩
  rw [World.cell?_alloc_at _ _ _ _ rfl]
  simpa [encStr] using hu
theorem readyE_zero {d : Dk} {x : Nm} {l : List Nm} (h : readyE d.pk (x :: l) = 0) : d.down = false ∧ (x :: l).all nameB = true ∧ ∃ f, findF x d.ns = some f := by
  unfold readyE at h
  split at h
  · cases h
  · rename_i h1
    split at h
    · cases h
    · rename_i h2
      dsimp only at h
      refine ⟨by simpa [Dk.pk] using h1, by simpa using h2, ?_⟩
      have e : findP x d.pk.fs = (findF x d.ns).map Fd.fl := findP_map x d.ns
      rw [e] at h
      cases hx : findF x d.ns with
      | none => rw [hx] at h; cases h
      | some f => exact ⟨f, rfl⟩
def readD (k : Pk) (x : Nm) : List UInt8 := match findP x k.fs with | some f => f.data | none => []
theorem readD_some {d : Dk} {x : Nm} {f : Fd} (h : findF x d.ns = some f) : readD d.pk x = f.data := by
  unfold readD
  rw [show findP x d.pk.fs = (findF x d.ns).map Fd.fl from findP_map x d.ns, h]
  rfl
theorem DiskV.file {w : World} {F : Nat → Prop} {p mb : Nat} {kv : Value} {d : Dk} (h : DiskV w F p mb kv d) {x : Nm} {f : Fd} (hf : findF x d.ns = some f) : w.cell? ⟨f.blk, 0, none⟩ = some f.sl ∧ w.cell? ⟨f.blk, 1, none⟩ = some (.int .i64 f.synced) ∧ (∀ i, w.frozen? ⟨f.blk, i, none⟩ = false) ∧ FileV w F f := by
  have hv := h.files f (find_name hf).2
  exact ⟨by rw [cell_of_row w _ _ _ _ _ hv.cells]; rfl, by rw [cell_of_row w _ _ _ _ _ hv.cells]; rfl, fun i => frozen_of_row w _ i _ _ hv.cells, hv⟩
set_option maxRecDepth 100000 in
set_option maxHeartbeats 2000000 in
theorem read_nil (x : Nm) (w : World) : Calls Tryz.prog 24 #[.pointer none, .string ⟨x.toArray⟩] w fun r w' => r = .returned (.tuple #[.slice none 0 0, .int .i64 1]) ∧ Below w.heap.size w w' := by
  have hA : Below w.heap.size w (w.alloc (.cells #[.string ⟨x.toArray⟩] 9)) := (Below.refl _ _).alloc (Nat.le_refl _) _
  go_enter Tryz.func24, Tryz.ntmps24
  go_wp2_with (go_at_call 48; refine (ready_nil _ _).mono ?_; rintro r w1 ⟨rfl, rfl⟩)
  refine bodyPost_ret (v := .tuple #[.slice none 0 0, .int .i64 1]) (by simp [results, Tryz.results24, go_sem]) rfl ?_
  exact ⟨rfl, hA⟩
set_option maxRecDepth 100000 in
set_option maxHeartbeats 2000000 in
theorem read_any (F : Nat → Prop) (p : Nat) (k : Pk) (x : Nm) (w : World) (h : DiskP w F p k) (hx : x.length ≤ 140737488355328) :
    Calls Tryz.prog 24 #[.pointer (some ⟨p, 0, none⟩), .string ⟨x.toArray⟩] w fun r w' => ∃ v, r = .returned (.tuple #[v, .int .i64 (readyE k [x])]) ∧ BytL w' w.heap.size v (if readyE k [x] = 0 then readD k x else []) ∧ Below w.heap.size w w' := by
  obtain ⟨mb, kv, d, h, rfl⟩ := h
  have H := Lib.hid h
  have hA : Below w.heap.size w (w.alloc (.cells #[.string ⟨x.toArray⟩] 9)) := (Below.refl _ _).alloc (Nat.le_refl _) _
  have HR := Lib.hid (ready_any F p d.pk (fun _ => True) _ [x] _ (DiskP.below ⟨mb, kv, d, h, rfl⟩ hA) (strs1 w x) (fun y hy => by simp at hy; rw [hy]; exact hx))
  have HZ := Lib.hid (fun hz : readyE d.pk [x] = 0 => readyE_zero hz)
  obtain ⟨e, he⟩ : ∃ e, readyE d.pk [x] = e := ⟨_, rfl⟩
  rw [he] at HR HZ ⊢
  have HA := Lib.hid hA
  clear h hA he
  by_cases h0 : e = 0
  · subst h0
    obtain ⟨_, _, f, hf⟩ := HZ.out rfl
    rw [if_pos rfl, readD_some hf]
    have HF := Lib.hid hf
    clear hf HZ
    go_enter Tryz.func24, Tryz.ntmps24
    go_upto_region 4 with (go_at_call 48; refine HR.out.mono ?_; rintro r w1 ⟨rfl, hb1⟩)
    have hv := (H.out.below HA.out).below hb1
    obtain ⟨x0, _⟩ := hv.cell
    have hlk := hv.look x hx
    rw [HF.out] at hlk
    obtain ⟨f0, f1, ff, hfv⟩ := hv.file HF.out
    have HFV := Lib.hid hfv.own.byt
    obtain ⟨Af, cf, hfs⟩ := hfv.own.form
    rw [hfs] at f0 HFV
    unfold ptrF at hlk
    have HB1 := Lib.hid (HA.out.trans (hb1.mono HA.out.size))
    clear hv hfv hb1 hfs
    go_wp2_with (go_at_call 39; refine (bcloneL_any _ _ f.data _ HFV.out).mono ?_; rintro r w2 ⟨v', rfl, hv', hb2⟩)
    refine bodyPost_ret (v := .tuple #[v', .int .i64 0]) (by simp [results, Tryz.results24, go_sem]) rfl ?_
    exact ⟨_, rfl, hv'.mono HB1.out.size, HB1.out.trans (hb2.mono HB1.out.size)⟩
  · rw [if_neg h0]
    have hne : (e != 0) = true := by simpa using h0
    have hne' : (e == 0) = false := by simpa using h0
    clear HZ h0
    go_enter Tryz.func24, Tryz.ntmps24
    go_wp2_with (go_at_call 48; refine HR.out.mono ?_; rintro r w1 ⟨rfl, hb1⟩)
    refine bodyPost_ret (v := .tuple #[.slice none 0 0, .int .i64 e]) (by simp [results, Tryz.results24, go_sem]) rfl ?_
    exact ⟨_, rfl, BytL.nil _ _, HA.out.trans (hb1.mono HA.out.size)⟩
end Go.Proofs.YtiffgjodbcploaaGreat
end
section
namespace Go.Proofs.YtiffgjodbcploaaGreat
set_option maxRecDepth 100000
open Go.RowKit Go.BigFrame Go.Sort Go.Shelf Go.Lib Go.Maps
attribute [local go_sem ↓] Go.wp_at_zero Go.wp_at_succ
theorem crashes_e {k : Pk} (h : changeE k = 0) : crashes k = false := by
  unfold changeE at h
  split at h
  · cases h
  · rename_i h1; simpa using h1
theorem crashes_n {k : Pk} (h : ¬ changeE k = 0) : crashes k = true := by
  unfold changeE at h
  split at h
  · assumption
  · exact absurd rfl h
theorem changeK_e {k : Pk} (h : changeE k = 0) : changeK k = { k with done := k.done + 1 } := by rw [changeK, if_neg (by rw [crashes_e h]; simp)]
theorem changed_find {d d' : Dk} {x : Nm} {f : Fd} (hd : d'.pk = changeK d.pk) (hf : findF x d.ns = some f) : ∃ f', findF x d'.ns = some f' ∧ f'.fl = f.fl := by
  have h1 : findP x d'.pk.fs = findP x d.pk.fs := by rw [hd]; unfold changeK; split <;> rfl
  rw [show findP x d'.pk.fs = (findF x d'.ns).map Fd.fl from findP_map x d'.ns, show findP x d.pk.fs = (findF x d.ns).map Fd.fl from findP_map x d.ns, hf] at h1
  cases hx : findF x d'.ns with
  | none => rw [hx] at h1; cases h1
  | some f' => rw [hx] at h1; exact ⟨f', rfl, by simpa using h1⟩
theorem pk_upd {d : Dk} {x : Nm} {f : Fd} (hs : sortedF d.ns) (hf : findF x d.ns = some f) (G : Fd → Fd) (g : Fl → Fl) (h : (G f).fl = g f.fl) : Dk.pk { d with ns := updF f.name G d.ns } = updK d.pk x g := by
  have hn := (find_name hf).1
  have key : (updF f.name G d.ns).map Fd.fl = updP x g (d.ns.map Fd.fl) := by
    unfold updF updP
    rw [List.map_map, List.map_map, hn]
    refine List.map_congr_left fun a ha => ?_
    show (if a.name = x then G a else a).fl = if a.name = x then g a.fl else a.fl
    split
    · rename_i e
      rw [sorted_name hs ha (find_name hf).2 (e.trans hn.symm), h]
    · rfl
  unfold Dk.pk updK
  rw [key]
set_option maxRecDepth 100000 in
set_option maxHeartbeats 4000000 in
theorem sync_any (F : Nat → Prop) (p : Nat) (k : Pk) (x : Nm) (w : World) (h : DiskP w F p k) (hx : x.length ≤ 140737488355328) (hd : 0 ≤ k.done) (hd' : k.done < 4611686018427387904) :
    Calls Tryz.prog 34 #[.pointer (some ⟨p, 0, none⟩), .string ⟨x.toArray⟩] w fun r w' => r = .returned (.int .i64 (syncE k x)) ∧ DiskP w' F p (syncK k x) ∧ Only F w w' := by
  have hA : Below w.heap.size w (w.alloc (.cells #[.string ⟨x.toArray⟩] 9)) := (Below.refl _ _).alloc (Nat.le_refl _) _
  have HR := Lib.hid (ready_any F p k (fun _ => True) _ [x] _ (h.below hA) (strs1 w x) (fun y hy => by simp at hy; rw [hy]; exact hx))
  have HD := Lib.hid h
  have HA := Lib.hid hA
  by_cases h0 : readyE k [x] = 0
  · have e1 : syncE k x = changeE k := by rw [syncE, if_pos h0]
    have e2 : syncK k x = if crashes k = true then changeK k else updK (changeK k) x fun f => { f with synced := f.data.length } := by rw [syncK, if_pos h0]
    rw [e1, e2]
    rw [h0] at HR
    have HC := Lib.hid fun w1 (hw : DiskP w1 F p k) => change_any F p k w1 hw hd hd'
    have H0 := Lib.hid h0
    clear e1 e2 h hA
    by_cases hc : changeE k = 0
    · rw [if_neg (by rw [crashes_e hc]; simp)]
      have HCE := Lib.hid hc
      rw [hc] at HC ⊢
      clear hc h0
      go_enter Tryz.func34, Tryz.ntmps34
      go_upto_region 7 with (first
        | (go_at_call 48; refine HR.out.mono ?_; rintro r w1 ⟨rfl, hb1⟩)
        | (go_at_call 63; refine (HC.out w1 ((HD.out.below HA.out).below hb1)).mono ?_; rintro r w2 ⟨rfl, hd2, hb2⟩))
      obtain ⟨mb0, kv0, d0, hv0, rfl⟩ := HD.out
      obtain ⟨_, _, f0, hf0⟩ := readyE_zero H0.out
      obtain ⟨mb, kv, d, hv, hpk⟩ := hd2
      obtain ⟨f, hf, hfl⟩ := changed_find hpk hf0
      obtain ⟨x0, _⟩ := hv.cell
      have hlk := hv.look x hx
      rw [hf] at hlk
      obtain ⟨y0, y1, yf, hfv⟩ := hv.file hf
      obtain ⟨Af, cf, hfs⟩ := hfv.own.form
      rw [hfs] at y0
      unfold ptrF at hlk
      have HV := Lib.hid hv
      have HFV := Lib.hid hfv
      have HF := Lib.hid hf
      have HPK := Lib.hid hpk
      have HFS := Lib.hid hfs
      have hlof := hfv.lo
      have HBB : Hid (Only F w w2) := Lib.hid ((Only.of_below (HA.out.trans (hb1.mono HA.out.size))).trans hb2)
      clear hv hfv hf hpk hfs hf0 hfl hv0 hb1 hb2
      go_wp2
      refine bodyPost_ret (v := .int .i64 0) (by simp [results, Tryz.results34, go_sem]) rfl ?_
      have hnm := (find_name HF.out).1
      have hup := HV.out.upd (F' := F) (fun _ hi => hi) (find_name HF.out).2 (data' := f.data) (synced' := f.data.length) (sl' := f.sl) (w' := w2.setCell ⟨f.blk, 1, none⟩ (.int .i64 f.data.length)) ((Only.refl _ _).setCell (p := ⟨f.blk, 1, none⟩) (.inl rfl) _)
        (heap_setCell_same w2 f.blk 1 _ _ _ HFV.out.cells) (HFV.out.own.kept fun g hg => heap_setCell_other w2 ⟨f.blk, 1, none⟩ g _ (by obtain ⟨_, ⟨cs, hL⟩, _⟩ := HFV.out.own.blk hg; exact cells_ne hL HFV.out.cells (by decide))) (fun g hg => .inl hg)
      refine ⟨rfl, ⟨_, _, _, hup, ?_⟩, HBB.out.setCell (p := ⟨f.blk, 1, none⟩) hlof _⟩
      rw [pk_upd HV.out.sorted HF.out _ (fun f => { f with synced := f.data.length }) rfl, HPK.out]
    · have hcr := crashes_n hc
      rw [if_pos hcr]
      have hne : (changeE k == 0) = false := by simpa using hc
      obtain ⟨e, he⟩ : ∃ e, changeE k = e := ⟨_, rfl⟩
      rw [he] at HC hne hc ⊢
      clear h0 hcr he
      go_enter Tryz.func34, Tryz.ntmps34
      go_wp2_with (first
        | (go_at_call 48; refine HR.out.mono ?_; rintro r w1 ⟨rfl, hb1⟩)
        | (go_at_call 63; refine (HC.out w1 ((HD.out.below HA.out).below hb1)).mono ?_; rintro r w2 ⟨rfl, hd2, hb2⟩))
      refine bodyPost_ret (v := .int .i64 e) (by simp [results, Tryz.results34, go_sem]) rfl ?_
      exact ⟨rfl, hd2, (Only.of_below (HA.out.trans (hb1.mono HA.out.size))).trans hb2⟩
  · have e1 : syncE k x = readyE k [x] := by rw [syncE, if_neg h0]
    have e2 : syncK k x = k := by rw [syncK, if_neg h0]
    rw [e1, e2]
    have hne : (readyE k [x] == 0) = false := by simpa using h0
    obtain ⟨e, he⟩ : ∃ e, readyE k [x] = e := ⟨_, rfl⟩
    rw [he] at HR hne h0 ⊢
    clear e1 e2 h hA he
    go_enter Tryz.func34, Tryz.ntmps34
    go_wp2_with (go_at_call 48; refine HR.out.mono ?_; rintro r w1 ⟨rfl, hb1⟩)
    refine bodyPost_ret (v := .int .i64 e) (by simp [results, Tryz.results34, go_sem]) rfl ?_
    exact ⟨rfl, (HD.out.below HA.out).below hb1, Only.of_below (HA.out.trans (hb1.mono HA.out.size))⟩
theorem sync_nil (x : Nm) (w : World) : Calls Tryz.prog 34 #[.pointer none, .string ⟨x.toArray⟩] w fun r w' => r = .returned (.int .i64 1) ∧ Below w.heap.size w w' := by
  have hA : Below w.heap.size w (w.alloc (.cells #[.string ⟨x.toArray⟩] 9)) := (Below.refl _ _).alloc (Nat.le_refl _) _
  go_enter Tryz.func34, Tryz.ntmps34
  go_wp2_with (go_at_call 48; refine (ready_nil _ _).mono ?_; rintro r w1 ⟨rfl, rfl⟩)
  refine bodyPost_ret (v := .int .i64 1) (by simp [results, Tryz.results34, go_sem]) rfl ?_
  exact ⟨rfl, hA⟩
end Go.Proofs.YtiffgjodbcploaaGreat
end
section
namespace Go.Proofs.YtiffgjodbcploaaGreat
set_option maxRecDepth 100000
open Go.RowKit Go.BigFrame Go.Sort Go.Shelf Go.Lib Go.Maps
attribute [local go_sem ↓] Go.wp_at_zero Go.wp_at_succ
theorem pk_ext {a b : Pk} (h1 : a.fs = b.fs) (h2 : a.ops = b.ops) (h3 : a.room = b.room) (h4 : a.keep = b.keep) (h5 : a.done = b.done) (h6 : a.bytes = b.bytes) (h7 : a.down = b.down) : a = b := by
  cases a; cases b; simp_all
theorem Only.later {F : Nat → Prop} {a b c : World} (h : Only F a b) (k : Only (orNew F a.heap.size) b c) : Only F a c :=
  ⟨k.os.trans h.os, k.tape.trans h.tape, k.output.trans h.output, Nat.le_trans h.size k.size, fun i hi hn => (k.block i (Nat.lt_of_lt_of_le hi h.size) fun e => e.elim hn (fun e => by omega)).trans (h.block i hi hn)⟩
theorem changeK_fs (k : Pk) : (changeK k).fs = k.fs ∧ (changeK k).bytes = k.bytes ∧ (changeK k).room = k.room := by unfold changeK; split <;> exact ⟨rfl, rfl, rfl⟩
theorem map_len (d : Dk) : d.pk.fs.length = d.ns.length := by show (d.ns.map Fd.fl).length = _; simp
theorem nameB_len {x : Nm} (h : nameB x = true) : x.length ≤ 32 := by
  unfold nameB at h
  simp at h
  exact h.1.2
theorem readyE_name {k : Pk} {x : Nm} (h : readyE k [x] = 0 ∨ readyE k [x] = 22) : nameB x = true := by
  unfold readyE at h
  split at h
  · rcases h with h | h <;> cases h
  · split at h
    · rcases h with h | h <;> cases h
    · rename_i h1
      simpa using h1
set_option maxRecDepth 100000 in
set_option maxHeartbeats 4000000 in
/-- Append where a change may be done. -/
theorem append_go (F : Nat → Prop) (p : Nat) (k : Pk) (x : Nm) (S : Nat → Prop) (v : Value) (b : List UInt8) (w : World) (h : DiskP w F p k) (hv : Byt w S v b) (hS : ∀ i, S i → ¬ F i) (hx : x.length ≤ 140737488355328) (hd : 0 ≤ k.done) (hd' : k.done < 4611686018427387904)
    (hlen : ∀ f, findP x k.fs = some f → f.data.length + b.length ≤ 140737488355328) (hmany : k.fs.length < 9223372036854775807) (h0 : readyE k [x] = 0 ∨ readyE k [x] = 22) (hfull : fullP k b.length = false) (hc : changeE k = 0) :
    Calls Tryz.prog 32 #[.pointer (some ⟨p, 0, none⟩), .string ⟨x.toArray⟩, v] w fun r w' => r = .returned (.int .i64 0) ∧ DiskP w' (orNew F w.heap.size) p { changeK k with fs := appFs x b k.fs, bytes := wrap64 (k.bytes + b.length) } ∧ Only F w w' := by
  have hA : Below w.heap.size w (w.alloc (.cells #[.string ⟨x.toArray⟩] 9)) := (Below.refl _ _).alloc (Nat.le_refl _) _
  have HR := Lib.hid (ready_any F p k (fun _ => True) _ [x] _ (h.below hA) (strs1 w x) (fun y hy => by simp at hy; rw [hy]; exact hx))
  have HD := Lib.hid h
  have HA := Lib.hid hA
  have HV := Lib.hid hv
  have HN := Lib.hid (readyE_name h0)
  have HC := Lib.hid fun w1 (hw : DiskP w1 F p k) => change_any F p k w1 hw hd hd'
  have HLE := Lib.hid hlen
  obtain ⟨Av, cv, rfl⟩ := slice_form hv
  have hbl' := hv.len
  rw [hc] at HC
  obtain ⟨e, he⟩ : ∃ e, readyE k [x] = e := ⟨_, rfl⟩
  rw [he] at HR h0
  obtain ⟨mb0, kv0, d0, hv0, rfl⟩ := h
  have hfl : decide (0 ≤ d0.room) = false ∨ (decide (0 ≤ d0.room) = true ∧ ¬ wrap64 (d0.room - d0.bytes) < (b.length : Int)) := by
    have : (decide (0 ≤ d0.room) && decide (wrap64 (d0.room - d0.bytes) < (b.length : Int))) = false := hfull
    cases h1 : decide (0 ≤ d0.room) with
    | false => exact .inl rfl
    | true => rw [h1] at this; simp only [Bool.true_and, decide_eq_false_iff_not] at this; exact .inr ⟨rfl, this⟩
  have HFL := Lib.hid hfl
  have HV0 := Lib.hid hv0
  clear hA hv hlen hfull hfl he
  go_enter Tryz.func32, Tryz.ntmps32
  go_upto_region 2 with (go_at_call 48; refine HR.out.mono ?_; rintro r w1 ⟨rfl, hb1⟩)
  go_cut [20] (fun t wc => t = .bool false ∧ wc = w1)
  case first =>
    rcases h0 with rfl | rfl
    · go_wp2_with fail
      go_meet
      case rel => exact ⟨rfl, rfl⟩
    · go_wp2_with fail
      go_meet
      case rel => exact ⟨rfl, rfl⟩
  case rest =>
    obtain ⟨rfl, hwc⟩ := hcut
    obtain rfl : w1 = wc := hwc.symm
    have hv1 := (HV0.out.below HA.out).below hb1
    obtain ⟨_, _, x2, _, _, x5, _⟩ := hv1.cell
    have HB1 := Lib.hid (HA.out.trans (hb1.mono HA.out.size))
    clear hv1 hb1
    go_upto_region 5 with (fail)
    go_cut [39] (fun t wd => t = .bool false ∧ wd = w1)
    case first =>
      rcases HFL.out with g1 | ⟨g1, g2⟩
      · go_wp2_with fail
        go_meet
        case rel => exact ⟨rfl, rfl⟩
      · go_wp2_with fail
        go_meet
        case rel => exact ⟨congrArg Value.bool (decide_eq_false (by omega)), rfl⟩
    case rest =>
      obtain ⟨rfl, hwc⟩ := hcut
      obtain rfl : w1 = wc := hwc.symm
      clear x2 x5 HFL h0
      go_upto_region 10 with (go_at_call 63; refine (HC.out w1 (HD.out.below HB1.out)).mono ?_; rintro r w2 ⟨rfl, hd2, hb2⟩)
      obtain ⟨mb, kv, d, hv, hpk⟩ := hd2
      obtain ⟨x0, _⟩ := hv.cell
      have hlk := hv.look x hx
      obtain ⟨po, hpo⟩ : ∃ po, (findF x d.ns).map (fun f => (⟨f.blk, 0, none⟩ : Addr)) = po := ⟨_, rfl⟩
      unfold ptrF at hlk
      rw [hpo] at hlk
      have HPO := Lib.hid hpo
      have HB2 : Hid (Only F w w2) := Lib.hid ((Only.of_below HB1.out).trans hb2)
      have HV2 := Lib.hid hv
      have HPK := Lib.hid hpk
      have hns : d.ns.length < 9223372036854775807 := by
        rw [← map_len, hpk, (changeK_fs _).1]
        exact hmany
      clear hv hpk hb2 HD HC HV0 hmany hpo
      go_upto_if 52 with (fail)
      go_cut [10] (fun v wc => ∃ f d3, v = .pointer (some ⟨f.blk, 0, none⟩) ∧ DiskV wc (orNew F w.heap.size) p mb kv d3 ∧ findF x d3.ns = some f ∧ d3.pk = { d.pk with fs := if (findP x d.pk.fs).isSome = true then d.pk.fs else insP ⟨x, [], 0⟩ d.pk.fs } ∧ f.data.length + b.length ≤ 140737488355328 ∧ Only F w wc)
      case first =>
        cases hf : findF x d.ns with
        | some f =>
          have hpo := HPO.out
          rw [hf] at hpo
          obtain rfl : _ = po := hpo
          have HF := Lib.hid hf
          clear hf HPO
          go_wp2_with fail
          go_meet
          case rel =>
            have hff : findP x d.pk.fs = some f.fl := by rw [show findP x d.pk.fs = (findF x d.ns).map Fd.fl from findP_map x d.ns, HF.out]; rfl
            refine ⟨f, d, rfl, HV2.out.mono fun i hi _ => .inl hi, HF.out, by rw [if_pos (by rw [hff]; rfl)], ?_, HB2.out⟩
            rw [HPK.out, (changeK_fs _).1] at hff
            exact HLE.out _ hff
        | none =>
          have hpo := HPO.out
          rw [hf] at hpo
          obtain rfl : _ = po := hpo
          have HF := Lib.hid hf
          obtain ⟨D, hm, hD, hT⟩ := HV2.out.tidy
          have HM := Lib.hid (ownsMap_block hm (Below.heap_alloc w2 (.cells #[.slice none 0 0, .int .i64 0] 91) mb hm.lt))
          have HT := Lib.hid (And.intro hD hT)
          have y0 : (w2.alloc (.cells #[.slice none 0 0, .int .i64 0] 91)).cell? ⟨p, 0, none⟩ = some (.map (some mb)) := (World.cell?_of_block (a := ⟨p, 0, none⟩) (Below.heap_alloc w2 _ p HV2.out.ltP)).trans x0
          clear hf hm hD hT HPO
          go_wp2_with (at_mapUpdate; refine wpList_mapUpdate_own _ rfl _ _ _ 66 rfl 9 89 law_str Tryz.underlying66 ptrR mb d.ns.length D rfl HM.out (by unfold maxLen; omega) _ _ _ rfl rfl (key_str x hx) (.lit (.int .i64 w2.heap.size)) [] rfl ?_; intro w3 hown3 hgrow3; have HO3 := Lib.hid hown3; have HG3 := Lib.hid hgrow3; clear hown3 hgrow3)
          go_meet
          case rel =>
            have hal : Below w2.heap.size w2 (w2.alloc (.cells #[.slice none 0 0, .int .i64 0] 91)) := (Below.refl _ _).alloc (Nat.le_refl _) _
            have hva := HV2.out.below hal
            have hz2 : w.heap.size ≤ w2.heap.size := HB2.out.size
            have hfv : FileV (w2.alloc (.cells #[.slice none 0 0, .int .i64 0] 91)) (orNew F w.heap.size) ⟨x, [], 0, w2.heap.size, .slice none 0 0⟩ := ⟨heap_alloc_new w2 _, OwnB.nil _ _, .inr hz2⟩
            have hins := hva.ins (F' := orNew F w.heap.size) (fun i hi => .inl hi) (f := ⟨x, [], 0, w2.heap.size, .slice none 0 0⟩) HT.out.1 HT.out.2 HG3.out HO3.out hfv HN.out (fun g hg _ e => by have := (Array.getElem?_eq_some_iff.1 (HV2.out.files g hg).cells).1; simp only at e; omega) (fun g hg _ i hi => by simp [blkB] at hi)
            refine ⟨⟨x, [], 0, w2.heap.size, .slice none 0 0⟩, _, rfl, hins, by rw [find_ins, if_pos rfl], ?_, by simpa using hbl', ?_⟩
            · rw [if_neg (by rw [show findP x d.pk.fs = (findF x d.ns).map Fd.fl from findP_map x d.ns, HF.out]; simp)]
              show Dk.pk { d with ns := insF ⟨x, [], 0, w2.heap.size, .slice none 0 0⟩ d.ns } = _
              unfold Dk.pk
              rw [← insP_map]
              rfl
            · exact (HB2.out.alloc _).trans ((Only.of_grown HG3.out).mono fun i hi => by injection hi with hi; rw [← hi]; exact HV2.out.loM)
      case rest =>
        obtain ⟨f, d3, rfl, hv3, hf3, hpk3, hlen3, ho3⟩ := hcut
        obtain ⟨z0, _, _, _, _, z5, _⟩ := hv3.cell
        have zf := hv3.frozen
        obtain ⟨y0, y1, yf, hfv⟩ := hv3.file hf3
        obtain ⟨Af, cf, hfs⟩ := hfv.own.form
        rw [hfs] at y0
        have HV3 := Lib.hid hv3
        have HF3 := Lib.hid hf3
        have HPK3 := Lib.hid hpk3
        have HL3 := Lib.hid hlen3
        have HO3 := Lib.hid ho3
        have HFV := Lib.hid hfv
        have HFS := Lib.hid hfs
        have HOW : Hid (OwnB wc (orNew F w.heap.size) (.slice Af f.data.length cf) f.data) := Lib.hid (hfs ▸ hfv.own)
        have HSRC : Hid (Byt wc S (.slice Av b.length cv) b) := Lib.hid (HV.out.only ho3 fun i _ hi => hS i hi)
        clear hv3 hf3 hpk3 hlen3 ho3 hfv hfs hlk HPO x0
        go_wp2_with (at_builtin; refine wpList_append_ownB rfl _ _ rfl (orNew F w.heap.size) (orNew F w.heap.size) _ _ rfl rfl S f.data b HOW.out HSRC.out HL3.out (fun _ hi => hi) (.inr HO3.out.size) ?_; intro v' w4 hw4 hg4 hb4; obtain ⟨A4, c4, hv4⟩ := hw4.form; rw [List.length_append] at hv4; subst hv4; have hfb := (hg4.block f.blk (Array.getElem?_eq_some_iff.1 HFV.out.cells).1 (fun e => by obtain ⟨_, ⟨cs, hL⟩, _⟩ := HOW.out.blk e.symm; exact cells_ne HFV.out.cells hL (by decide) rfl)).trans HFV.out.cells; have t0 := cell_of_row w4 f.blk 0 _ _ _ hfb; have tf : ∀ i, w4.frozen? ⟨f.blk, i, none⟩ = false := fun i => frozen_of_row w4 _ i _ _ hfb; have hpb := (hg4.block p HV3.out.ltP (fun e => by obtain ⟨_, ⟨cs, hL⟩, _⟩ := HOW.out.blk e.symm; exact cells_ne HV3.out.head hL (by decide) rfl)).trans HV3.out.head; have u5 := cell_of_row w4 p 5 _ _ _ hpb; have uf : ∀ i, w4.frozen? ⟨p, i, none⟩ = false := fun i => frozen_of_row w4 _ i _ _ hpb; have hne : p ≠ f.blk := cells_ne HV3.out.head HFV.out.cells (by decide); have HW4 := Lib.hid hw4; have HG4 : Hid (wc.grownBy w4 (blkB (.slice Af f.data.length cf))) := Lib.hid hg4; have HB4 : Hid (blkB (.slice A4 (f.data.length + b.length) c4) = blkB (.slice Af f.data.length cf) ∨ blkB (.slice A4 (f.data.length + b.length) c4) = some wc.heap.size) := Lib.hid hb4; have HFB := Lib.hid hfb; clear hw4 hg4 hb4 hfb hpb; simp only [List.getElem?_toArray, List.getElem?_cons_zero, List.getElem?_cons_succ] at t0 u5)
        refine bodyPost_ret (v := .int .i64 0) (by simp [results, Tryz.results32, go_sem]) rfl ?_
        have hlo : ∀ i, blkB (.slice Af f.data.length cf) = some i → orNew F w.heap.size i := fun i hi => (HOW.out.blk hi).1
        have hup := HV3.out.upd (F' := orNew F w.heap.size) (fun _ h => h) (find_name HF3.out).2 (data' := f.data ++ b) (synced' := f.synced) (sl' := .slice A4 (f.data.length + b.length) c4) (w' := w4.setCell ⟨f.blk, 0, none⟩ (.slice A4 (f.data.length + b.length) c4))
          (((Only.of_grown HG4.out).mono fun i hi => .inr (by rw [HFS.out]; exact hi)).setCell (p := ⟨f.blk, 0, none⟩) (.inl rfl) _) (heap_setCell_same w4 f.blk 0 _ _ _ HFB.out)
          (HW4.out.kept fun g hg => heap_setCell_other w4 ⟨f.blk, 0, none⟩ g _ (by obtain ⟨_, ⟨cs, hL⟩, _⟩ := HW4.out.blk hg; exact cells_ne hL HFB.out (by decide)))
          (fun g hg => HB4.out.elim (fun e => .inl (by rw [HFS.out, ← e]; exact hg)) (fun e => .inr (by rw [e] at hg; injection hg with hg; omega)))
        have hst := hup.store 5 (.int .i64 (wrap64 (d3.bytes + b.length))) { d3 with ns := updF f.name (setF (f.data ++ b) f.synced (.slice A4 (f.data.length + b.length) c4)) d3.ns, bytes := wrap64 (d3.bytes + b.length) } kv rfl hup.keep rfl
        have e1 := congrArg Pk.fs (pk_upd HV3.out.sorted HF3.out (setF (f.data ++ b) f.synced (.slice A4 (f.data.length + b.length) c4)) (fun a => { a with data := a.data ++ b }) rfl)
        have h3 := HPK3.out
        rw [HPK.out] at h3
        refine ⟨rfl, ⟨_, _, _, hst, ?_⟩, HO3.out.later ((((Only.of_grown HG4.out).mono hlo).setCell (p := ⟨f.blk, 0, none⟩) HFV.out.lo _).setCell (p := ⟨p, 5, none⟩) HV3.out.loP _)⟩
        have o1 : d3.pk.ops = (changeK d0.pk).ops := by rw [h3]
        have o2 : d3.pk.room = (changeK d0.pk).room := by rw [h3]
        have o3 : d3.pk.keep = (changeK d0.pk).keep := by rw [h3]
        have o4 : d3.pk.done = (changeK d0.pk).done := by rw [h3]
        have o5 : d3.pk.bytes = (changeK d0.pk).bytes := by rw [h3]
        have o6 : d3.pk.down = (changeK d0.pk).down := by rw [h3]
        have o7 : d3.pk.fs = if (findP x (changeK d0.pk).fs).isSome = true then (changeK d0.pk).fs else insP ⟨x, [], 0⟩ (changeK d0.pk).fs := by rw [h3]
        refine pk_ext (e1.trans ?_) o1 o2 o3 o4 ?_ o6
        · show updP x _ d3.pk.fs = appFs x b d0.pk.fs
          rw [o7, (changeK_fs _).1]
          rfl
        · show wrap64 (d3.pk.bytes + b.length) = wrap64 (d0.pk.bytes + b.length)
          rw [o5, (changeK_fs _).2.1]
set_option maxRecDepth 100000 in
set_option maxHeartbeats 4000000 in
theorem append_any (F : Nat → Prop) (p : Nat) (k : Pk) (x : Nm) (S : Nat → Prop) (v : Value) (b : List UInt8) (w : World) (h : DiskP w F p k) (hv : Byt w S v b) (hS : ∀ i, S i → ¬ F i) (hx : x.length ≤ 140737488355328) (hd : 0 ≤ k.done) (hd' : k.done < 4611686018427387904)
    (hlen : ∀ f, findP x k.fs = some f → f.data.length + b.length ≤ 140737488355328) (hmany : k.fs.length < 9223372036854775807) :
    Calls Tryz.prog 32 #[.pointer (some ⟨p, 0, none⟩), .string ⟨x.toArray⟩, v] w fun r w' => r = .returned (.int .i64 (appendE k x b)) ∧ DiskP w' (orNew F w.heap.size) p (appendK k x b) ∧ Only F w w' := by
  have hA : Below w.heap.size w (w.alloc (.cells #[.string ⟨x.toArray⟩] 9)) := (Below.refl _ _).alloc (Nat.le_refl _) _
  have HR := Lib.hid (ready_any F p k (fun _ => True) _ [x] _ (h.below hA) (strs1 w x) (fun y hy => by simp at hy; rw [hy]; exact hx))
  have HA := Lib.hid hA
  have hmo : ∀ {w1 : World} {k1 : Pk}, DiskP w1 F p k1 → DiskP w1 (orNew F w.heap.size) p k1 := fun h => h.mono fun i hi _ => .inl hi
  by_cases h0 : readyE k [x] = 0 ∨ readyE k [x] = 22
  · rw [appendE, appendK, if_pos h0, if_pos h0]
    cases hf : fullP k b.length with
    | true =>
      rw [if_pos rfl, if_pos rfl]
      obtain ⟨Av, cv, rfl⟩ := slice_form hv
      have HD := Lib.hid h
      have HMO : Hid (DiskP w F p k) := HD
      obtain ⟨mb0, kv0, d0, hv0, rfl⟩ := h
      obtain ⟨g1, g2⟩ : decide (0 ≤ d0.room) = true ∧ wrap64 (d0.room - d0.bytes) < (b.length : Int) := by
        have : (decide (0 ≤ d0.room) && decide (wrap64 (d0.room - d0.bytes) < (b.length : Int))) = true := hf
        rw [Bool.and_eq_true] at this
        exact ⟨this.1, by simpa using this.2⟩
      have HV0 := Lib.hid hv0
      obtain ⟨e, he⟩ : ∃ e, readyE d0.pk [x] = e := ⟨_, rfl⟩
      rw [he] at HR h0
      have hle := hv.len
      clear hA hv he hv0 hf hlen hmany
      go_enter Tryz.func32, Tryz.ntmps32
      go_upto_region 2 with (go_at_call 48; refine HR.out.mono ?_; rintro r w1 ⟨rfl, hb1⟩)
      go_cut [20] (fun t wc => t = .bool false ∧ wc = w1)
      case first =>
        rcases h0 with rfl | rfl
        · go_wp2_with fail
          go_meet
          case rel => exact ⟨rfl, rfl⟩
        · go_wp2_with fail
          go_meet
          case rel => exact ⟨rfl, rfl⟩
      case rest =>
        obtain ⟨rfl, hwc⟩ := hcut
        obtain rfl : w1 = wc := hwc.symm
        have hv1 := (HV0.out.below HA.out).below hb1
        obtain ⟨_, _, x2, _, _, x5, _⟩ := hv1.cell
        have HB1 := Lib.hid (HA.out.trans (hb1.mono HA.out.size))
        clear hv1 hb1
        go_wp2
        refine bodyPost_ret (v := .int .i64 21) (by simp [results, Tryz.results32, go_sem]) rfl ?_
        exact ⟨rfl, hmo (HD.out.below HB1.out), Only.of_below HB1.out⟩
    | false =>
      rw [if_neg (by simp), if_neg (by simp)]
      by_cases hc : changeE k = 0
      · rw [if_neg (by rw [crashes_e hc]; simp), hc]
        exact append_go F p k x S v b w h hv hS hx hd hd' hlen hmany h0 hf hc
      · rw [if_pos (crashes_n hc)]
        have HC := Lib.hid fun w1 (hw : DiskP w1 F p k) => change_any F p k w1 hw hd hd'
        have hne : (changeE k == 0) = false := by simpa using hc
        obtain ⟨Av, cv, rfl⟩ := slice_form hv
        have HD := Lib.hid h
        obtain ⟨e2, he2⟩ : ∃ e, changeE k = e := ⟨_, rfl⟩
        rw [he2] at HC hne hc ⊢
        obtain ⟨mb0, kv0, d0, hv0, rfl⟩ := h
        have hfl : decide (0 ≤ d0.room) = false ∨ (decide (0 ≤ d0.room) = true ∧ ¬ wrap64 (d0.room - d0.bytes) < (b.length : Int)) := by
          have : (decide (0 ≤ d0.room) && decide (wrap64 (d0.room - d0.bytes) < (b.length : Int))) = false := hf
          cases h1 : decide (0 ≤ d0.room) with
          | false => exact .inl rfl
          | true => rw [h1] at this; simp only [Bool.true_and, decide_eq_false_iff_not] at this; exact .inr ⟨rfl, this⟩
        have HFL := Lib.hid hfl
        have HV0 := Lib.hid hv0
        obtain ⟨e, he⟩ : ∃ e, readyE d0.pk [x] = e := ⟨_, rfl⟩
        rw [he] at HR h0
        have hle := hv.len
        clear hA hv he hv0 hf hlen hmany hfl he2
        go_enter Tryz.func32, Tryz.ntmps32
        go_upto_region 2 with (go_at_call 48; refine HR.out.mono ?_; rintro r w1 ⟨rfl, hb1⟩)
        go_cut [20] (fun t wc => t = .bool false ∧ wc = w1)
        case first =>
          rcases h0 with rfl | rfl
          · go_wp2_with fail
            go_meet
            case rel => exact ⟨rfl, rfl⟩
          · go_wp2_with fail
            go_meet
            case rel => exact ⟨rfl, rfl⟩
        case rest =>
          obtain ⟨rfl, hwc⟩ := hcut
          obtain rfl : w1 = wc := hwc.symm
          have hv1 := (HV0.out.below HA.out).below hb1
          obtain ⟨_, _, x2, _, _, x5, _⟩ := hv1.cell
          have HB1 := Lib.hid (HA.out.trans (hb1.mono HA.out.size))
          clear hv1 hb1
          go_upto_region 5 with (fail)
          go_cut [39] (fun t wd => t = .bool false ∧ wd = w1)
          case first =>
            rcases HFL.out with g1 | ⟨g1, g2⟩
            · go_wp2_with fail
              go_meet
              case rel => exact ⟨rfl, rfl⟩
            · go_wp2_with fail
              go_meet
              case rel => exact ⟨congrArg Value.bool (decide_eq_false (by omega)), rfl⟩
          case rest =>
            obtain ⟨rfl, hwc⟩ := hcut
            obtain rfl : w1 = wc := hwc.symm
            go_wp2_with (go_at_call 63; refine (HC.out w1 (HD.out.below HB1.out)).mono ?_; rintro r w2 ⟨rfl, hd2, hb2⟩)
            refine bodyPost_ret (v := .int .i64 e2) (by simp [results, Tryz.results32, go_sem]) rfl ?_
            exact ⟨rfl, hmo hd2, (Only.of_below HB1.out).trans hb2⟩
  · rw [appendE, appendK, if_neg h0, if_neg h0]
    have hne : (readyE k [x] == 0) = false := by simpa using fun e => h0 (.inl e)
    have hne2 : (readyE k [x] == 22) = false := by simpa using fun e => h0 (.inr e)
    have HD := Lib.hid h
    obtain ⟨e, he⟩ : ∃ e, readyE k [x] = e := ⟨_, rfl⟩
    rw [he] at HR hne hne2 h0 ⊢
    have n1 : (e != 0) = true := by simpa using fun h => h0 (.inl h)
    have n2 : (e != 22) = true := by simpa using fun h => h0 (.inr h)
    clear h hA he h0 hv hlen
    go_enter Tryz.func32, Tryz.ntmps32
    go_wp2_with (go_at_call 48; refine HR.out.mono ?_; rintro r w1 ⟨rfl, hb1⟩)
    refine bodyPost_ret (v := .int .i64 e) (by simp [results, Tryz.results32, go_sem]) rfl ?_
    exact ⟨rfl, hmo ((HD.out.below HA.out).below hb1), Only.of_below (HA.out.trans (hb1.mono HA.out.size))⟩
theorem append_nil (x : Nm) (v : Value) (w : World) : Calls Tryz.prog 32 #[.pointer none, .string ⟨x.toArray⟩, v] w fun r w' => r = .returned (.int .i64 1) ∧ Below w.heap.size w w' := by
  have hA : Below w.heap.size w (w.alloc (.cells #[.string ⟨x.toArray⟩] 9)) := (Below.refl _ _).alloc (Nat.le_refl _) _
  go_enter Tryz.func32, Tryz.ntmps32
  go_wp2_with (go_at_call 48; refine (ready_nil _ _).mono ?_; rintro r w1 ⟨rfl, rfl⟩)
  refine bodyPost_ret (v := .int .i64 1) (by simp [results, Tryz.results32, go_sem]) rfl ?_
  exact ⟨rfl, hA⟩
end Go.Proofs.YtiffgjodbcploaaGreat
end
section
namespace Go.Proofs.YtiffgjodbcploaaGreat
set_option maxRecDepth 100000
open Go.RowKit Go.BigFrame Go.Sort Go.Shelf Go.Lib Go.Maps
attribute [local go_sem ↓] Go.wp_at_zero Go.wp_at_succ
theorem FileV.mapped {w w' : World} {F : Nat → Prop} {mb n : Nat} {D : DataW Unit} {f : Fd} (h : FileV w F f) (hm : w.ownsMap Tryz.prog 9 ptrR mb n D) (hg : w.grownBy w' (some mb)) : FileV w' F f := by
  have keep : ∀ (i : Nat) (cs : Array Value) (t : TypeId), w.heap[i]? = some (.cells cs t (0, 0)) → w'.heap[i]? = w.heap[i]? := fun i cs t hi => hg.block i (Array.getElem?_eq_some_iff.1 hi).1 fun e => by
    injection e with e
    exact map_ne hi hm e
  exact ⟨(keep _ _ _ h.cells).trans h.cells, h.own.kept fun g hg => by obtain ⟨_, ⟨cs, hc⟩, _⟩ := h.own.blk hg; exact keep g cs _ hc, h.lo⟩
theorem Only.mapped {F : Nat → Prop} {a w w' : World} {mb : Nat} (h : Only F a w) (hg : w.grownBy w' (some mb)) (hm : F mb) : Only F a w' :=
  h.trans ((Only.of_grown hg).mono fun i hi => by injection hi with hi; rw [← hi]; exact hm)
theorem lenP_some {d : Dk} {x : Nm} {f : Fd} (h : findF x d.ns = some f) : lenP d.pk x = f.data.length := by
  unfold lenP
  rw [show findP x d.pk.fs = (findF x d.ns).map Fd.fl from findP_map x d.ns, h]
  rfl
theorem changed_len {d : Dk} {k : Pk} (hd : d.pk = changeK k) (x : Nm) : lenP k x = lenP d.pk x := by
  unfold lenP
  rw [hd, (changeK_fs k).1]
end Go.Proofs.YtiffgjodbcploaaGreat
end
section
namespace Go.Proofs.YtiffgjodbcploaaGreat
set_option maxRecDepth 100000
open Go.RowKit
/-- the files' bytes that were not synced. -/
def Fl.loose (f : Fl) : Int := (f.data.length : Int) - f.synced
/-- the rest by the first number, as the plan has it. -/
def modP (z m : Int) : Int := if z.tmod m < 0 then z.tmod m + m else z.tmod m
def keptN (f : Fl) : List Int → Int
  | [] => 0
  | z :: _ => modP z (f.loose + 1)
def cutP (f : Fl) (n : Int) : Fl := { f with data := f.data.take (f.synced + n).toNat, synced := f.synced + n }
/-- behind i files: the files, the numbers left, the count of bytes. -/
def revSt (fs : List Fl) (keep : List Int) (b : Int) : Nat → List Fl × List Int × Int
  | 0 => (fs, keep, b)
  | i + 1 =>
    let s := revSt fs keep b i
    match s.1[i]? with
    | none => s
    | some f => if f.loose = 0 then s else (s.1.set i (cutP f (keptN f s.2.1)), s.2.1.tail, wrap64 (s.2.2 - (f.loose - keptN f s.2.1)))
def okFs (fs : List Fl) : Prop := ∀ f ∈ fs, 0 ≤ f.synced ∧ f.synced ≤ f.data.length
theorem modP_range {z m : Int} (h : 0 < m) : 0 ≤ modP z m ∧ modP z m < m := by
  unfold modP
  have h1 := Int.tmod_lt_of_pos z h
  have h2 : -m < z.tmod m := by
    have := Int.tmod_lt_of_pos (-z) h
    rw [Int.neg_tmod] at this
    omega
  split <;> omega
theorem kept_range {f : Fl} (h1 : f.synced ≤ f.data.length) (ks : List Int) : 0 ≤ keptN f ks ∧ keptN f ks ≤ f.loose := by
  have hl : 0 ≤ f.loose := by unfold Fl.loose; omega
  cases ks with
  | nil => exact ⟨Int.le_refl _, hl⟩
  | cons z ks =>
    have := modP_range (z := z) (m := f.loose + 1) (by omega)
    show 0 ≤ modP z (f.loose + 1) ∧ modP z (f.loose + 1) ≤ f.loose
    omega
theorem rev_len (fs : List Fl) (keep : List Int) (b : Int) (i : Nat) : (revSt fs keep b i).1.length = fs.length := by
  induction i with
  | zero => rfl
  | succ i ih =>
    unfold revSt
    dsimp only
    split
    · exact ih
    · split
      · exact ih
      · rw [List.length_set]; exact ih
theorem rev_later (fs : List Fl) (keep : List Int) (b : Int) (i j : Nat) (h : i ≤ j) : (revSt fs keep b i).1[j]? = fs[j]? := by
  induction i with
  | zero => rfl
  | succ i ih =>
    unfold revSt
    dsimp only
    split
    · exact ih (by omega)
    · split
      · exact ih (by omega)
      · rw [List.getElem?_set_ne (by omega)]; exact ih (by omega)
theorem rev_names (fs : List Fl) (keep : List Int) (b : Int) (i : Nat) : (revSt fs keep b i).1.map Fl.name = fs.map Fl.name := by
  induction i with
  | zero => rfl
  | succ i ih =>
    unfold revSt
    dsimp only
    split
    · exact ih
    · rename_i f hf
      split
      · exact ih
      · rw [List.map_set]
        show ((revSt fs keep b i).1.map Fl.name).set i f.name = _
        rw [ih]
        have h1 := rev_later fs keep b i i (Nat.le_refl _)
        rw [hf] at h1
        have h2 : (fs.map Fl.name)[i]? = some f.name := by rw [List.getElem?_map, ← h1]; rfl
        refine List.ext_getElem? fun j => ?_
        rw [List.getElem?_set]
        split
        · rename_i e
          subst e
          rw [h2, if_pos (List.getElem?_eq_some_iff.1 h2).1]
        · rfl
theorem rev_step {fs : List Fl} {keep : List Int} {b : Int} {i : Nat} {f : Fl} (h : fs[i]? = some f) : revSt fs keep b (i + 1) = if f.loose = 0 then revSt fs keep b i else ((revSt fs keep b i).1.set i (cutP f (keptN f (revSt fs keep b i).2.1)), (revSt fs keep b i).2.1.tail, wrap64 ((revSt fs keep b i).2.2 - (f.loose - keptN f (revSt fs keep b i).2.1))) := by
  have h1 := rev_later fs keep b i i (Nat.le_refl _)
  rw [h] at h1
  show (match (revSt fs keep b i).1[i]? with | none => _ | some f => _) = _
  rw [h1]
/-- what Revive makes of the disk. -/
def reviveK (k : Pk) (ops room : Int) (keep : List Int) : Pk := ⟨(revSt k.fs k.keep k.bytes k.fs.length).1, ops, room, keep, 0, (revSt k.fs k.keep k.bytes k.fs.length).2.2, false⟩
theorem updP_set {fs : List Fl} {i : Nat} {f : Fl} (hd : fs.Pairwise fun a b => a.name ≠ b.name) (h : fs[i]? = some f) (g : Fl → Fl) : updP f.name g fs = fs.set i (g f) := by
  induction fs generalizing i with
  | nil => simp at h
  | cons a l ih =>
    have ha := (List.pairwise_cons.1 hd).1
    cases i with
    | zero =>
      simp at h
      subst h
      show (if a.name = a.name then g a else a) :: updP a.name g l = _
      rw [if_pos rfl]
      show g a :: updP a.name g l = g a :: l
      congr 1
      unfold updP
      conv => rhs; rw [← List.map_id l]
      refine List.map_congr_left fun x hx => ?_
      rw [if_neg fun e => ha x hx e.symm]
      rfl
    | succ i =>
      have h' : l[i]? = some f := by simpa using h
      have hne : ¬ a.name = f.name := ha f (List.mem_of_getElem? h')
      show (if a.name = f.name then g a else a) :: updP f.name g l = _
      rw [if_neg hne, ih (List.pairwise_cons.1 hd).2 h']
      rfl
end Go.Proofs.YtiffgjodbcploaaGreat
end
