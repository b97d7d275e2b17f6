/-
memtable's New; Put where it refuses.
-/
import Derived.Test.YtelbidknefkaiaaQPMemOwn16
import Derived.Deep.Cut
import Derived.Deep.CutRange
import Derived.Deep.DeepCutAuto
section
namespace Go.Proofs.Ytelbidknefkaiaa
open Go.RowKit Go.BigFrame
attribute [local go_sem ↓] Go.wp_at_zero Go.wp_at_succ
/-- the heights: ints in a block of their own. -/
def Hts (w : World) (base : Nat) (hs : Value) : Prop := ∃ A n c, hs = .slice A n c ∧ n ≤ 140737488355328 ∧ (0 < n → ∃ b o, A = some ⟨b, o, none⟩ ∧ base ≤ b ∧ ∃ cs : Array Value, w.heap[b]? = some (.cells cs 3 (0, 0)) ∧ ∀ j, j < n → ∃ z, cs[o + j]? = some (.int .i64 z))
theorem Hts.of_eq {w w' : World} {base : Nat} {hs : Value} (h : Hts w base hs) (he : ∀ b cs, base ≤ b → w.heap[b]? = some (.cells cs 3 (0, 0)) → w'.heap[b]? = w.heap[b]?) : Hts w' base hs := by
  obtain ⟨A, n, c, h1, h2, h3⟩ := h
  refine ⟨A, n, c, h1, h2, fun hn => ?_⟩
  obtain ⟨b, o, e, hb, cs, h4, h5⟩ := h3 hn
  exact ⟨b, o, e, hb, cs, (he b cs hb h4).trans h4, h5⟩
theorem Hts.below {w w' : World} {base : Nat} {hs : Value} (h : Hts w base hs) (hb : Below w.heap.size w w') : Hts w' base hs :=
  h.of_eq fun b _ _ hc => hb.block b (Array.getElem?_eq_some_iff.1 hc).1
theorem Hts.at_ {w : World} {base : Nat} {A : Option Addr} {n c : Nat} (h : Hts w base (.slice A n c)) (hn : 0 < n) : ∃ b o, A = some ⟨b, o, none⟩ ∧ ∀ j, j < n → ∃ z, w.cell? ⟨b, o + j, none⟩ = some (.int .i64 z) := by
  obtain ⟨A', n', c', h1, h2, h3⟩ := h
  injection h1 with e1 e2 e3
  subst e1 e2 e3
  obtain ⟨b, o, e, hb, cs, h4, h5⟩ := h3 hn
  refine ⟨b, o, e, fun j hj => ?_⟩
  obtain ⟨z, hz⟩ := h5 j hj
  exact ⟨z, (cell_of_row w b _ cs _ _ h4).trans hz⟩
theorem ord_ins {e : Ent} {ns : List Nd} (ho : inOrder ns) (hno : ∀ n, ns[cnt e ns]? = some n → cmpE n.ent e ≠ 0) (x : Nd) (hx : x.ent = e) : inOrder (ns.take (cnt e ns) ++ x :: ns.drop (cnt e ns)) := by
  have hlo : ∀ a ∈ ns.take (cnt e ns), cmpE a.ent e < 0 := fun a ha => by
    obtain ⟨i, hi⟩ := List.getElem?_of_mem ha
    rw [List.getElem?_take] at hi
    split at hi
    · rename_i h; exact (cnt_lt ho hi).1 h
    · cases hi
  have hhi : ∀ b ∈ ns.drop (cnt e ns), cmpE e b.ent < 0 := fun b hb => by
    obtain ⟨j, hj⟩ := List.getElem?_of_mem hb
    rw [List.getElem?_drop] at hj
    have h1 : ¬ cmpE b.ent e < 0 := fun h => by have := (cnt_lt ho hj).2 h; omega
    cases j with
    | zero =>
      have h2 := hno b hj
      have := cmpE_swap e b.ent
      omega
    | succ j =>
      obtain ⟨c, hc⟩ : ∃ c, ns[cnt e ns]? = some c := ⟨_, List.getElem?_eq_getElem (by have := (List.getElem?_eq_some_iff.1 hj).1; omega)⟩
      have h2 : ¬ cmpE c.ent e < 0 := fun h => by have := (cnt_lt ho hc).2 h; omega
      have h3 := hno c hc
      have h4 := cmpE_swap e c.ent
      obtain ⟨hl1, he1⟩ := List.getElem?_eq_some_iff.1 hc
      obtain ⟨hl2, he2⟩ := List.getElem?_eq_some_iff.1 hj
      have h5 := List.pairwise_iff_getElem.1 ho _ _ hl1 hl2 (by omega)
      rw [he1, he2] at h5
      exact cmpE_trans (by omega) h5
  unfold inOrder at ho ⊢
  rw [List.pairwise_append, List.pairwise_cons]
  refine ⟨ho.sublist (List.take_sublist _ _), ⟨fun b hb => by rw [hx]; exact hhi b hb, ho.sublist (List.drop_sublist _ _)⟩, fun a ha b hb => ?_⟩
  rcases List.mem_cons.1 hb with rfl | hb
  · rw [hx]; exact hlo a ha
  · exact cmpE_trans (hlo a ha) (hhi b hb)
theorem node_start (w : World) (k u : Value) (e : Ent) (post : List Nd) : NodeC (w.alloc (.cells #[k, .int .i64 e.seq, .bool e.dead, u, .pointer none, .pointer none, .pointer none, .pointer none, .pointer none, .pointer none, .pointer none, .pointer none, .pointer none, .pointer none, .pointer none, .pointer none] 71)) ⟨w.heap.size, e, 0, k, u⟩ post := by
  have hh := heap_alloc_new w (.cells #[k, .int .i64 e.seq, .bool e.dead, u, .pointer none, .pointer none, .pointer none, .pointer none, .pointer none, .pointer none, .pointer none, .pointer none, .pointer none, .pointer none, .pointer none, .pointer none] 71)
  refine ⟨⟨_, hh, rfl⟩, cell_of_row _ _ _ _ _ _ hh, cell_of_row _ _ _ _ _ _ hh, cell_of_row _ _ _ _ _ _ hh, cell_of_row _ _ _ _ _ _ hh, fun f hf => ?_⟩
  show World.cell? _ ⟨w.heap.size, 4 + f, none⟩ = _
  rw [cell_of_row _ _ _ _ _ _ hh]
  rcases (by omega : f = 0 ∨ f = 1 ∨ f = 2 ∨ f = 3 ∨ f = 4 ∨ f = 5 ∨ f = 6 ∨ f = 7 ∨ f = 8 ∨ f = 9 ∨ f = 10 ∨ f = 11) with rfl | rfl | rfl | rfl | rfl | rfl | rfl | rfl | rfl | rfl | rfl | rfl <;> rfl
theorem SkipV.pred_mid {w : World} {base T : Nat} {hs : Value} {many : Int} {pre post : List Nd} {blk f : Nat} {e : Ent} {k u : Value} (h : SkipV w base T (pre ++ ⟨blk, e, f, k, u⟩ :: post) hs many) (hf : f < 12) : w.cell? ⟨blkOf T (lastF f pre), 4 + f, none⟩ = some (ptrN (nextF f post)) := by
  have := h.pred_next (f := f) (m := pre.length) hf (by simp)
  rw [List.take_left, List.drop_left] at this
  rw [this]
  unfold nextF
  rw [List.find?_cons]
  have : up f (⟨blk, e, f, k, u⟩ : Nd) = false := by simp [up]
  rw [this]
theorem path_start (w : World) (T : Nat) (pre : List Nd) (W0 : World) (hW : W0 = w.alloc (.cells #[.pointer (some ⟨blkOf T (lastF 0 pre), 0, none⟩), .pointer (some ⟨blkOf T (lastF 1 pre), 0, none⟩), .pointer (some ⟨blkOf T (lastF 2 pre), 0, none⟩), .pointer (some ⟨blkOf T (lastF 3 pre), 0, none⟩), .pointer (some ⟨blkOf T (lastF 4 pre), 0, none⟩), .pointer (some ⟨blkOf T (lastF 5 pre), 0, none⟩), .pointer (some ⟨blkOf T (lastF 6 pre), 0, none⟩), .pointer (some ⟨blkOf T (lastF 7 pre), 0, none⟩), .pointer (some ⟨blkOf T (lastF 8 pre), 0, none⟩), .pointer (some ⟨blkOf T (lastF 9 pre), 0, none⟩), .pointer (some ⟨blkOf T (lastF 10 pre), 0, none⟩), .pointer (some ⟨blkOf T (lastF 11 pre), 0, none⟩)] 69)) :
    Path W0 w.heap.size T pre 0 ∧ Below w.heap.size w W0 ∧ W0.heap.size = w.heap.size + 1 := by
  subst hW
  refine ⟨⟨_, heap_alloc_new w _, rfl, fun f _ hf => ?_⟩, (Below.refl _ _).alloc (Nat.le_refl _) _, by simp⟩
  rcases (by omega : f = 0 ∨ f = 1 ∨ f = 2 ∨ f = 3 ∨ f = 4 ∨ f = 5 ∨ f = 6 ∨ f = 7 ∨ f = 8 ∨ f = 9 ∨ f = 10 ∨ f = 11) with rfl | rfl | rfl | rfl | rfl | rfl | rfl | rfl | rfl | rfl | rfl | rfl <;> rfl
set_option maxRecDepth 100000 in
set_option maxHeartbeats 4000000 in
theorem put_new (S : Nat → Prop) (base hb T : Nat) (ns : List Nd) (hs : Value) (v : Value) (e : Ent) (w : World) (h : SkipV w base T ns hs ns.length) (hl : ns.length < 1152921504606846976) (hu : allUp ns) (hh : Hts w hb hs) (hv : EntV w S v e) (hg : goodE e = true) (hno : ∀ n, ns[cnt e ns]? = some n → cmpE n.ent e ≠ 0) (hbw : base ≤ w.heap.size) :
    Calls Try.prog 12 #[.pointer (some ⟨T, 0, none⟩), v] w fun r w' => r = .returned (.int .i64 0) ∧ ∃ n : Nd, n.ent = e ∧ 0 < n.h ∧ SkipV w' base T (ns.take (cnt e ns) ++ n :: ns.drop (cnt e ns)) hs (ns.length + 1) ∧ Hts w' hb hs ∧ Only (fun i => i = T ∨ ∃ n ∈ ns, i = n.blk) w w' := by
  obtain ⟨m, hm⟩ : ∃ m, cnt e ns = m := ⟨_, rfl⟩
  obtain ⟨pre, hp⟩ : ∃ pre, ns.take m = pre := ⟨_, rfl⟩
  obtain ⟨post, hq⟩ : ∃ post, ns.drop m = post := ⟨_, rfl⟩
  obtain ⟨k, u, rfl, h1, h2⟩ := hv
  have hA : Below w.heap.size w (w.alloc (.cells #[k, .int .i64 e.seq, .bool e.dead, u] 26)) := (Below.refl _ _).alloc (Nat.le_refl _) _
  have HV := Lib.hid (show EntV w S (.agg #[k, .int .i64 e.seq, .bool e.dead, u]) e from ⟨_, _, rfl, h1, h2⟩)
  have H := Lib.hid h
  have HA := Lib.hid hA
  have HG := Lib.hid hg
  obtain ⟨Ak, ck, rfl⟩ := slice_form h1
  obtain ⟨Au, cu, rfl⟩ := slice_form h2
  rw [hm] at hno
  rw [hm, hp, hq]
  go_enter Try.func12, Try.ntmps12
  go_upto_region 6 with (first
    | (go_at_call 36; refine (good_any S _ e _ (HV.out.below HA.out)).mono ?_; rintro r w1 ⟨rfl, hb1⟩; rw [HG.out]; obtain ⟨⟨z0, z1, z2, z3⟩, zf⟩ := box1 hb1; have HB1 := Lib.hid (HA.out.trans (hb1.mono HA.out.size)); clear hb1)
    | (go_at_call 37; refine (ahead12 S base T ns hs _ _ e w1 (H.out.below HB1.out) (HV.out.below HB1.out) pre (by rw [hm]; exact hp)).mono ?_; rintro r w2 ⟨rfl, hb2⟩; unfold pathV))
  obtain ⟨W0, hW0⟩ : ∃ W0, W0 = w2.alloc (.cells #[.pointer (some ⟨blkOf T (lastF 0 pre), 0, none⟩), .pointer (some ⟨blkOf T (lastF 1 pre), 0, none⟩), .pointer (some ⟨blkOf T (lastF 2 pre), 0, none⟩), .pointer (some ⟨blkOf T (lastF 3 pre), 0, none⟩), .pointer (some ⟨blkOf T (lastF 4 pre), 0, none⟩), .pointer (some ⟨blkOf T (lastF 5 pre), 0, none⟩), .pointer (some ⟨blkOf T (lastF 6 pre), 0, none⟩), .pointer (some ⟨blkOf T (lastF 7 pre), 0, none⟩), .pointer (some ⟨blkOf T (lastF 8 pre), 0, none⟩), .pointer (some ⟨blkOf T (lastF 9 pre), 0, none⟩), .pointer (some ⟨blkOf T (lastF 10 pre), 0, none⟩), .pointer (some ⟨blkOf T (lastF 11 pre), 0, none⟩)] 69) := ⟨_, rfl⟩
  rw [← hW0]
  obtain ⟨hpa, hbp, hzp⟩ := path_start w2 T pre W0 hW0
  have hb12 := hb2.trans (hbp.mono hb2.size)
  have hb02 := HB1.out.trans (hb12.mono HB1.out.size)
  have hzw : w.heap.size < w1.heap.size := by
    have := HA.out.size
    by_cases hlt : w.heap.size < w1.heap.size
    · exact hlt
    · have := z0
      simp [World.cell?, Array.getElem?_eq_none (Nat.not_lt.1 hlt)] at this
  have blk : ∀ i, W0.cell? ⟨w.heap.size, i, none⟩ = w1.cell? ⟨w.heap.size, i, none⟩ := fun i => World.cell?_of_block (a := ⟨w.heap.size, i, none⟩) (hb12.block w.heap.size hzw)
  have y0 := (blk 0).trans z0
  have y1 := (blk 1).trans z1
  have y2 := (blk 2).trans z2
  have y3 := (blk 3).trans z3
  have HPA := Lib.hid hpa
  have HB2 := Lib.hid hb02
  have HS := Lib.hid (H.out.below hb02)
  have HZ : Hid (w.heap.size < w2.heap.size ∧ w1.heap.size ≤ w2.heap.size) := Lib.hid ⟨by have := hb2.size; omega, hb2.size⟩
  have n0 : W0.cell? ⟨blkOf T (lastF 0 pre), 4, none⟩ = some (ptrN (ns[m]?)) := by
    have := HS.out.pred_next (f := 0) (m := m) (by omega) (by rw [← hm]; exact cnt_le e ns)
    rw [hp, next0 hu] at this
    exact this
  have p0 : W0.cell? ⟨w2.heap.size, 0, none⟩ = some (.pointer (some ⟨blkOf T (lastF 0 pre), 0, none⟩)) := hpa.at_ 0 (by omega) (by omega)
  obtain ⟨P, hPe⟩ : ∃ P, w2.heap.size = P := ⟨_, rfl⟩
  rw [hPe] at HPA HZ hzp p0 ⊢
  have HPZ := Lib.hid hzp
  have HNO := Lib.hid hno
  have HM := Lib.hid hm
  have HPR := Lib.hid hp
  have HPO := Lib.hid hq
  have HU := Lib.hid hu
  have HH := Lib.hid hh
  have HBW := Lib.hid hbw
  have HL := Lib.hid hl
  have ZF : Hid (∀ i, W0.frozen? ⟨w.heap.size, i, none⟩ = false) := Lib.hid fun i => (World.frozen?_of_block (a := ⟨w.heap.size, i, none⟩) (hb12.block w.heap.size hzw)).trans (zf i)
  clear hW0 hpa hbp hzp hb12 hb02 hzw blk z0 z1 z2 z3 zf hb2 hPe hno hm hp hq hu hh hbw hl h1 h2 hA h hg
  have hcmp : ∀ n, ns[m]? = some n → ∀ q : Ext W0, Calls Try.prog 38 #[.agg #[n.k, .int .i64 n.ent.seq, .bool n.ent.dead, n.u], .agg #[.slice Ak e.key.length ck, .int .i64 e.seq, .bool e.dead, .slice Au e.val.length cu]] q.w fun r w'' => r = .returned (.int .i64 (cmpE n.ent e)) ∧ ∃ q' : Ext W0, w'' = q'.w := fun n hn q => Ext.calls (compare_any _ _ _ _ n.ent e _ ((HS.out.ent (List.mem_of_getElem? hn)).below q.h) ((HV.out.below HB2.out).below q.h))
  have HC := Lib.hid hcmp
  clear hcmp
  obtain ⟨o, ho⟩ : ∃ o, ns[m]? = o := ⟨_, rfl⟩
  rw [ho] at n0
  have HO := Lib.hid ho
  clear ho
  go_upto_region 7 with (fail)
  go_cut [6, 37] (fun _ t wc => t = .bool false ∧ Below W0.heap.size W0 wc)
  case first =>
    have G0 : ∀ q : Ext W0, q.w.cell? { block := w.heap.size, off := 0 } = _ := fun q => q.h.cell y0
    have G1 : ∀ q : Ext W0, q.w.cell? { block := w.heap.size, off := 1 } = _ := fun q => q.h.cell y1
    have G2 : ∀ q : Ext W0, q.w.cell? { block := w.heap.size, off := 2 } = _ := fun q => q.h.cell y2
    have G3 : ∀ q : Ext W0, q.w.cell? { block := w.heap.size, off := 3 } = _ := fun q => q.h.cell y3
    cases o with
    | none =>
      unfold ptrN
      go_wp2
      (refine wp_region_quiet_ext (by kernel_rfl) (by kernel_rfl) ?_; (repeat (go_big_quiet_step (fail))); refine wpQuiet_nil ?_; intro wq hw'; obtain ⟨⟨_, hq⟩, hw''⟩ := hw'; subst hw'')
      go_wp2_with fail
      go_meet
      case rel => exact ⟨rfl, hq⟩
    | some n =>
      unfold ptrN
      obtain ⟨c0, c1, c2, c3⟩ := HS.out.cells HO.out
      have N0 : ∀ q : Ext W0, q.w.cell? { block := n.blk, off := 0 } = _ := fun q => q.h.cell c0
      have N1 : ∀ q : Ext W0, q.w.cell? { block := n.blk, off := 1 } = _ := fun q => q.h.cell c1
      have N2 : ∀ q : Ext W0, q.w.cell? { block := n.blk, off := 2 } = _ := fun q => q.h.cell c2
      have N3 : ∀ q : Ext W0, q.w.cell? { block := n.blk, off := 3 } = _ := fun q => q.h.cell c3
      have CC := HC.out n HO.out
      have hne := HNO.out n HO.out
      go_wp2
      (refine wp_region_quiet_ext (by kernel_rfl) (by kernel_rfl) ?_; (repeat (go_big_quiet_step ((go_at_call 38; exact CC _)))); refine wpQuiet_nil ?_; intro wq hw'; obtain ⟨⟨_, hq⟩, hw''⟩ := hw'; subst hw'')
      go_wp2_with fail
      go_meet
      case rel => exact ⟨by simp [hne], hq⟩
  case rest =>
    obtain ⟨rfl, hbc⟩ := hcut
    obtain ⟨wo, hwo⟩ : ∃ wo, wo = wc := ⟨_, rfl⟩
    subst hwo
    have blk : ∀ i, wo.cell? ⟨w.heap.size, i, none⟩ = W0.cell? ⟨w.heap.size, i, none⟩ := fun i => World.cell?_of_block (a := ⟨w.heap.size, i, none⟩) (hbc.block w.heap.size (by have := HZ.out.1; have := HPZ.out; omega))
    have x0 := (blk 0).trans y0
    have x1 := (blk 1).trans y1
    have x2 := (blk 2).trans y2
    have x3 := (blk 3).trans y3
    have HSC := Lib.hid (HS.out.below hbc)
    have HPC := Lib.hid (HPA.out.below hbc)
    have HB3 := Lib.hid (HB2.out.trans (hbc.mono HB2.out.size))
    have HZC : Hid (P < wo.heap.size ∧ w.heap.size < P) := Lib.hid ⟨by have := hbc.size; have := HPZ.out; omega, HZ.out.1⟩
    have ZC : Hid (∀ i, wo.frozen? ⟨w.heap.size, i, none⟩ = false) := Lib.hid fun i => (World.frozen?_of_block (a := ⟨w.heap.size, i, none⟩) (hbc.block w.heap.size (by have := HZ.out.1; have := HPZ.out; omega))).trans (ZF.out i)
    obtain ⟨Ah, nh, ch, rfl, hnh, hdata⟩ := HH.out
    have c16 := HSC.out.tabC.c16
    have c17 := HSC.out.tabC.c17
    clear blk y0 y1 y2 y3 hbc n0 p0
    go_upto_if 44 with (fail)
    go_cut [7] (fun t wx => ∃ ht : Int, t = .int .i64 ht ∧ 1 ≤ ht ∧ ht ≤ 12 ∧ Below wo.heap.size wo wx)
    case first =>
      by_cases hn : 0 < nh
      · obtain ⟨b, o', rfl, hcell⟩ := (HH.out.below HB3.out).at_ hn
        have hlt : ns.length % nh < nh := Nat.mod_lt _ hn
        obtain ⟨z, hz⟩ := hcell _ hlt
        obtain ⟨j, hj⟩ : ∃ j, ns.length % nh = j := ⟨_, rfl⟩
        have hjm : (↑ns.length : Int).tmod ↑nh = (j : Int) := by rw [← hj]; exact (Int.ofNat_tmod _ _).symm
        rw [hj] at hz hlt
        have hn' : ¬ ((nh : Int) = 0) := by omega
        have HLN := HL.out
        go_wp2
        go_region
        all_goals go_wp2_with fail
        all_goals go_meet
        all_goals exact ⟨min (max z 1) 12, rfl, by omega, by omega, (Below.refl _ _).drew⟩
      · go_wp2
        go_meet
        case rel => exact ⟨1, rfl, by omega, by omega, Below.refl _ _⟩
    case rest =>
      obtain ⟨ht, rfl, h1, h12, hbx⟩ := hcut
      have blk : ∀ i, wc.cell? ⟨w.heap.size, i, none⟩ = wo.cell? ⟨w.heap.size, i, none⟩ := fun i => World.cell?_of_block (a := ⟨w.heap.size, i, none⟩) (hbx.block w.heap.size (by have := HZC.out; omega))
      have y0 := (blk 0).trans x0
      have y1 := (blk 1).trans x1
      have y2 := (blk 2).trans x2
      have y3 := (blk 3).trans x3
      have HSX := Lib.hid (HSC.out.below hbx)
      have HPX := Lib.hid (HPC.out.below hbx)
      have HBX := Lib.hid (HB3.out.trans (hbx.mono HB3.out.size))
      have HZX : Hid (P < wc.heap.size ∧ w.heap.size < P) := Lib.hid ⟨by have := hbx.size; have := HZC.out; omega, HZC.out.2⟩
      clear blk x0 x1 x2 x3 hbx c16 c17
      go_upto_region 14 with (go_at_call 35; refine (ecloneL_any S _ e wc (HV.out.below HBX.out)).mono ?_; rintro r w3 ⟨v', rfl, ⟨k', u', rfl, hk', hu'⟩, hb3⟩)
      obtain ⟨W1, hW1⟩ : ∃ W1, W1 = w3.alloc (.cells #[k', .int .i64 e.seq, .bool e.dead, u', .pointer none, .pointer none, .pointer none, .pointer none, .pointer none, .pointer none, .pointer none, .pointer none, .pointer none, .pointer none, .pointer none, .pointer none] 71) := ⟨_, rfl⟩
      rw [← hW1]
      have hal : Below w3.heap.size w3 W1 := by rw [hW1]; exact (Below.refl _ _).alloc (Nat.le_refl _) _
      have hN : NodeC W1 ⟨w3.heap.size, e, 0, k', u'⟩ post := by rw [hW1]; exact node_start w3 k' u' e post
      have hz3 : wc.heap.size ≤ w3.heap.size := hb3.size
      have hbc1 : Below wc.heap.size wc W1 := hb3.trans (hal.mono hz3)
      have hsz1 : W1.heap.size = w3.heap.size + 1 := by rw [hW1]; simp
      have hwz : w.heap.size ≤ w3.heap.size := by have := HZX.out; omega
      have hlay : SkipV W1 base T (pre ++ (⟨w3.heap.size, e, 0, k', u'⟩ : Nd) :: post) (.slice Ah nh ch) ns.length := by
        have h0 := HSX.out.below hbc1
        have hsp : ns = pre ++ post := by rw [← HPR.out, ← HPO.out, List.take_append_drop]
        have hord := ord_ins h0.ord (e := e) (by rw [HM.out]; exact HNO.out) (⟨w3.heap.size, e, 0, k', u'⟩ : Nd) rfl
        rw [HM.out, HPR.out, HPO.out] at hord
        have hlt : ∀ n ∈ ns, n.blk < w.heap.size := fun n hn => H.out.ltN hn
        refine SkipV.lay (by rw [← hsp]; exact h0) hord (fun n hn => ?_) (by have := HBW.out; omega) (BytL.below (hk'.mono (by have := HZX.out; have := HBW.out; omega)) hal) (BytL.below (hu'.mono (by have := HZX.out; have := HBW.out; omega)) hal) hN
        rw [← hsp] at hn
        have := hlt n hn
        omega
      have HLY := Lib.hid hlay
      have HB1' := Lib.hid (HBX.out.trans (hbc1.mono HBX.out.size))
      have HP1 := Lib.hid (HPX.out.below hbc1)
      have hPN : w.heap.size < P ∧ P < w3.heap.size := ⟨HZX.out.2, by have := HZX.out.1; omega⟩
      obtain ⟨N, hNe⟩ : ∃ N, w3.heap.size = N := ⟨_, rfl⟩
      rw [hNe] at HLY hPN hsz1 ⊢
      have HPN := Lib.hid hPN
      have HSZ := Lib.hid hsz1
      obtain ⟨hq, hhq⟩ : ∃ hq : Nat, (hq : Int) = ht := ⟨ht.toNat, by omega⟩
      subst hhq
      have h1' : 1 ≤ hq := by omega
      have h12' : hq ≤ 12 := by omega
      clear hW1 hal hN hz3 hbc1 hwz hlay hNe hPN hsz1 hk' hu' hb3 y0 y1 y2 y3 h1 h12
      go_wp2
      go_loopw [10, 64] (fun _ t64 wr => ∃ f : Nat, t64 = .int .i64 f ∧ f ≤ hq ∧ SkipV wr base T (pre ++ (⟨N, e, f, k', u'⟩ : Nd) :: post) (.slice Ah nh ch) ns.length ∧ Only (fun i => i = N ∨ i = T ∨ ∃ n ∈ ns, i = n.blk) W1 wr) (fun _ t _ => (hq - intOf t).toNat)
      case atStart => exact ⟨0, rfl, Nat.zero_le _, HLY.out, Only.refl _ _⟩
      case round =>
        obtain ⟨f, rfl, hfh, hsk, hon⟩ := hrel
        have HSK := Lib.hid hsk
        have HON := Lib.hid hon
        clear hsk hon
        by_cases hlt : f < hq
        · have hf : f < 12 := by omega
          have hltT := H.out.ltT
          have hltN : ∀ n ∈ ns, n.blk < w.heap.size := fun n hn => H.out.ltN hn
          have hPneed : ∀ i, (i = N ∨ i = T ∨ ∃ n ∈ ns, i = n.blk) → i ≠ P := by
            have := HPN.out
            rintro i (rfl | rfl | ⟨n, hn, rfl⟩)
            · omega
            · omega
            · have := hltN n hn; omega
          have HPR' := Lib.hid (show Path wr P T pre 0 by
            obtain ⟨cs, e1, e2⟩ := HP1.out
            exact ⟨cs, (HON.out.block P (Array.getElem?_eq_some_iff.1 e1).1 (fun h => hPneed _ h rfl)).trans e1, e2⟩)
          have g1 : wr.cell? ⟨P, f, none⟩ = some (.pointer (some ⟨blkOf T (lastF f pre), 0, none⟩)) := HPR'.out.at_ f (Nat.zero_le _) hf
          have g2 := HSK.out.pred_mid hf
          have nc := HSK.out.nodeC (mid_at (pre := pre) (post := post) ⟨N, e, f, k', u'⟩)
          obtain ⟨pa, hpa⟩ : ∃ pa, ptrN (nextF f post) = .pointer pa := ⟨_, rfl⟩
          have HPT := Lib.hid hpa
          rw [hpa] at g2
          have g3 : wr.cell? ⟨N, 4 + f, none⟩ = some (.pointer none) := by
            have := nc.next f hf
            rw [nextV, if_neg (Nat.lt_irrefl f)] at this
            exact this
          have g4 := nc.shape.frozen
          obtain ⟨⟨tp, zp, hpS, hzp, htp⟩, hpne⟩ := HSK.out.pred
          have HPS := Lib.hid (And.intro hpS (And.intro hzp htp))
          have HPNE := Lib.hid hpne
          clear hltT hltN hPneed nc hpS hzp htp hpne hpa
          go_wp2
          go_region
          go_upto_region 18 with (fail)
          obtain ⟨WB, hWB⟩ : ∃ WB, WB = (wr.setCell ⟨N, 4 + f, none⟩ (.pointer pa)).drew := ⟨_, rfl⟩
          rw [← hWB]
          have e1 : WB.cell? ⟨P, f, none⟩ = some (.pointer (some ⟨blkOf T (lastF f pre), 0, none⟩)) := by
            rw [hWB]
            exact (World.cell?_setCell_other _ _ _ _ (fun h => by injection h with h _; have := HPN.out; omega)).trans g1
          have e2 : WB.cell? ⟨blkOf T (lastF f pre), 4 + f, none⟩ = some (.pointer pa) := by
            rw [hWB]
            exact (World.cell?_setCell_other _ _ _ _ (fun h => HPNE.out (by injection h with h _; exact h.symm))).trans g2
          have e3 : ∀ i, WB.frozen? ⟨blkOf T (lastF f pre), i, none⟩ = false := fun i => by
            rw [hWB]
            exact (HPS.out.1.setCell N (4 + f) (.pointer pa)).frozen i
          have HWB := Lib.hid hWB
          clear hWB g1 g2 g3 g4
          go_wp2
          refine ⟨⟨f + 1, by simp, by omega, ?_, ?_⟩, ?_⟩
          · have hr := (HSK.out.raise hf).below (Below.refl _ _).drew
            rw [HPT.out] at hr
            rw [HWB.out]
            exact hr
          · rw [HWB.out]
            refine (((HON.out.setCell (p := ⟨N, 4 + f, none⟩) (.inl rfl) _).drew).setCell (p := ⟨blkOf T (lastF f pre), 4 + f, none⟩) ?_ _)
            cases hl : lastF f pre with
            | none => exact .inr (.inl rfl)
            | some n =>
              refine .inr (.inr ⟨n, ?_, rfl⟩)
              have := (lastF_mem hl).1
              rw [← HPR.out] at this
              exact List.mem_of_mem_take this
          · simp [intOf]
            omega
        · obtain rfl : f = hq := by omega
          have tc := HSK.out.tabC
          have c17 := tc.c17
          have c18 := tc.shape.frozen
          have HLL := HL.out
          clear tc
          go_wp2
          refine bodyPost_ret (v := .int .i64 0) (by simp [results, Try.results12, go_sem]) rfl ?_
          have ho1 : Only (fun i => i = N ∨ i = T ∨ ∃ n ∈ ns, i = n.blk) W1 (wr.setCell ⟨T, 17, none⟩ (.int .i64 (↑ns.length + 1))) := HON.out.setCell (p := ⟨T, 17, none⟩) (.inr (.inl rfl)) _
          have hz1 := HB1'.out.size
          have ho2 : Only (fun i => i = T ∨ ∃ n ∈ ns, i = n.blk) w (wr.setCell ⟨T, 17, none⟩ (.int .i64 (↑ns.length + 1))) := by
            refine ⟨ho1.os.trans HB1'.out.os, ho1.tape.trans HB1'.out.tape, ho1.output.trans HB1'.out.output, Nat.le_trans hz1 ho1.size, fun i hi hn => ?_⟩
            rw [ho1.block i (by omega) (by rintro (rfl | h); exact absurd hi (by have := HPN.out; omega); exact hn h)]
            exact HB1'.out.block i hi
          refine ⟨rfl, ⟨N, e, f, k', u'⟩, rfl, by show 0 < f; omega, HSK.out.count _, HH.out.of_eq fun b cs _ hc => ho2.block b (Array.getElem?_eq_some_iff.1 hc).1 ?_, ho2⟩
          rintro (rfl | ⟨n, hn, rfl⟩)
          · have := (H.out.tabC.shape).uniq ⟨cs, hc, rfl⟩
            exact absurd this (by decide)
          · obtain ⟨i, hi⟩ := List.getElem?_of_mem hn
            have := ((H.out.nodeC hi).shape).uniq ⟨cs, hc, rfl⟩
            exact absurd this (by decide)
end Go.Proofs.Ytelbidknefkaiaa
end
section
namespace Go.Proofs.Ytelbidknefkaiaa
open Go.RowKit Go.BigFrame
attribute [local go_sem ↓] Go.wp_at_zero Go.wp_at_succ
theorem hts_of_own {w : World} {base n : Nat} {v : Value} {zs : List Int} (h : w.ownsRow base 3 1 v n (zs.map (Value.int .i64))) (hl : n ≤ 140737488355328) : Hts w base v := by
  have hn : zs.length = n := by have := h.1; simpa using this
  rcases h.2 with ⟨rfl, h0⟩ | ⟨g, cap, cur, rfl, hbg, hh, hcap, _, hsz, htk⟩
  · exact ⟨none, 0, 0, rfl, by omega, fun h => absurd h (by omega)⟩
  · refine ⟨_, n, cap, rfl, hl, fun _ => ⟨g, 0, rfl, hbg, cur, hh, fun j hj => ⟨zs[j], ?_⟩⟩⟩
    have h1 : (cur.toList.take (n * 1))[j]? = (zs.map (Value.int .i64))[j]? := by rw [htk]
    rw [List.getElem?_take, if_pos (by omega), List.getElem?_map, List.getElem?_eq_getElem (l := zs) (by omega)] at h1
    rw [Nat.zero_add, ← Array.getElem?_toList, h1]; rfl
theorem hts_none (w : World) (base : Nat) : Hts w base (.slice none 0 0) := ⟨none, 0, 0, rfl, by omega, fun h => absurd h (by omega)⟩
theorem tab_start (w : World) (base : Nat) (hs : Value) : SkipV (w.alloc (.cells #[.slice none 0 0, .int .i64 0, .bool false, .slice none 0 0, .pointer none, .pointer none, .pointer none, .pointer none, .pointer none, .pointer none, .pointer none, .pointer none, .pointer none, .pointer none, .pointer none, .pointer none, hs, .int .i64 0] 76)) base w.heap.size [] hs 0 := by
  have hh := heap_alloc_new w (.cells #[.slice none 0 0, .int .i64 0, .bool false, .slice none 0 0, .pointer none, .pointer none, .pointer none, .pointer none, .pointer none, .pointer none, .pointer none, .pointer none, .pointer none, .pointer none, .pointer none, .pointer none, hs, .int .i64 0] 76)
  refine SkipV.of_cells List.Pairwise.nil ⟨⟨_, hh, rfl⟩, cell_of_row _ _ _ _ _ _ hh, cell_of_row _ _ _ _ _ _ hh, fun f hf => ?_⟩ (fun i n hn => by simp at hn) (fun n hn => by simp at hn) (fun n hn => by simp at hn) (fun i j n m hn => by simp at hn) (fun n hn => by simp at hn)
  rw [cell_of_row _ _ _ _ _ _ hh]
  rcases (by omega : f = 0 ∨ f = 1 ∨ f = 2 ∨ f = 3 ∨ f = 4 ∨ f = 5 ∨ f = 6 ∨ f = 7 ∨ f = 8 ∨ f = 9 ∨ f = 10 ∨ f = 11) with rfl | rfl | rfl | rfl | rfl | rfl | rfl | rfl | rfl | rfl | rfl | rfl <;> rfl
/-- slices.Clone at []int. -/
theorem iclone_any (S : Nat → Prop) (v : Value) (zs : List Int) (w : World) (h : IntsIn w S v zs) (hl : zs.length * 8 ≤ 140737488355328) :
    Calls Try.prog 40 #[v] w fun r w' => ∃ v', r = .returned v' ∧ Hts w' w.heap.size v' ∧ Below w.heap.size w w' := by
  obtain ⟨A, c, rfl, _, _, hr⟩ := h
  rcases Nat.eq_zero_or_pos zs.length with h0 | h0
  · rw [h0]
    cases A with
    | none =>
      refine (Try.slices_Clone_int_nil 0 c w).mono ?_
      rintro r w' ⟨rfl, rfl⟩
      exact ⟨_, rfl, hts_none _ _, Below.refl _ _⟩
    | some a =>
      refine (Try.slices_Clone_int_zero a c w).mono ?_
      rintro r w' ⟨v', rfl, ho, _, hb⟩
      exact ⟨_, rfl, hts_of_own (zs := []) ho (by omega), hb⟩
  · obtain ⟨b, o, rfl, _, _, hc⟩ := hr.2 h0
    refine (Try.slices_Clone_int b o zs.length c zs w (Nat.le_refl _) hl (fun j hj => ?_)).mono ?_
    · rw [hc j (.int .i64 zs[j]) (by simp [hj])]
      simp [hj]
    · rintro r w' ⟨v', rfl, ho, _, hb⟩
      rw [List.take_length] at ho
      exact ⟨_, rfl, hts_of_own ho (by omega), hb⟩
set_option maxHeartbeats 1000000 in
theorem new_any (S : Nat → Prop) (v : Value) (zs : List Int) (w : World) (h : IntsIn w S v zs) (hl : zs.length * 8 ≤ 140737488355328) :
    Calls Try.prog 18 #[v] w fun r w' => ∃ T hs, r = .returned (.pointer (some ⟨T, 0, none⟩)) ∧ SkipV w' w.heap.size T [] hs 0 ∧ w.heap.size ≤ T ∧ Hts w' w.heap.size hs ∧ Below w.heap.size w w' := by
  have HC := Lib.hid (iclone_any S v zs w h hl)
  obtain ⟨A, c, rfl, _⟩ := h
  go_enter Try.func18, Try.ntmps18
  go_wp2_with (go_at_call 40; refine HC.out.mono ?_; rintro r w1 ⟨v', rfl, hh, hb⟩; have HH := Lib.hid hh; have HB := Lib.hid hb; clear hb; obtain ⟨A', n', c', rfl, _⟩ := hh)
  refine bodyPost_ret (v := .pointer (some ⟨w1.heap.size, 0, none⟩)) (by simp [results, Try.results18, go_sem]) rfl ?_
  have hal : ∀ o, Below w1.heap.size w1 (w1.alloc o) := fun o => (Below.refl _ _).alloc (Nat.le_refl _) o
  exact ⟨_, _, rfl, tab_start _ _ _, HB.out.size, HH.out.below (hal _), HB.out.trans ((hal _).mono HB.out.size)⟩
set_option maxRecDepth 100000 in
set_option maxHeartbeats 2000000 in
theorem put_bad (S : Nat → Prop) (T : Nat) (v : Value) (e : Ent) (w : World) (hv : EntV w S v e) (hg : goodE e = false) :
    Calls Try.prog 12 #[.pointer (some ⟨T, 0, none⟩), v] w fun r w' => r = .returned (.int .i64 30) ∧ Below w.heap.size w w' := by
  have HV := Lib.hid hv
  obtain ⟨k, u, rfl, h1, h2⟩ := hv
  have hA : Below w.heap.size w (w.alloc (.cells #[k, .int .i64 e.seq, .bool e.dead, u] 26)) := (Below.refl _ _).alloc (Nat.le_refl _) _
  have HA := Lib.hid hA
  have HG := Lib.hid hg
  obtain ⟨Ak, ck, rfl⟩ := slice_form h1
  obtain ⟨Au, cu, rfl⟩ := slice_form h2
  clear h1 h2 hA hg
  go_enter Try.func12, Try.ntmps12
  go_wp2_with (go_at_call 36; refine (good_any S _ e _ (HV.out.below HA.out)).mono ?_; rintro r w1 ⟨rfl, hb1⟩; rw [HG.out]; obtain ⟨⟨z0, z1, z2, z3⟩, zf⟩ := box1 hb1; have HB1 := Lib.hid (HA.out.trans (hb1.mono HA.out.size)); clear hb1)
  refine bodyPost_ret (v := .int .i64 30) (by simp [results, Try.results12, go_sem]) rfl ?_
  exact ⟨rfl, HB1.out⟩
set_option maxRecDepth 100000 in
set_option maxHeartbeats 4000000 in
theorem put_twice (S : Nat → Prop) (base T : Nat) (ns : List Nd) (hs : Value) (many : Int) (v : Value) (e : Ent) (w : World) (h : SkipV w base T ns hs many) (hu : allUp ns) (hv : EntV w S v e) (hg : goodE e = true) (n : Nd) (hn : ns[cnt e ns]? = some n) (heq : cmpE n.ent e = 0) :
    Calls Try.prog 12 #[.pointer (some ⟨T, 0, none⟩), v] w fun r w' => r = .returned (.int .i64 31) ∧ Below w.heap.size w w' := by
  obtain ⟨m, hm⟩ : ∃ m, cnt e ns = m := ⟨_, rfl⟩
  obtain ⟨pre, hp⟩ : ∃ pre, ns.take m = pre := ⟨_, rfl⟩
  obtain ⟨k, u, rfl, h1, h2⟩ := hv
  have hA : Below w.heap.size w (w.alloc (.cells #[k, .int .i64 e.seq, .bool e.dead, u] 26)) := (Below.refl _ _).alloc (Nat.le_refl _) _
  have HV := Lib.hid (show EntV w S (.agg #[k, .int .i64 e.seq, .bool e.dead, u]) e from ⟨_, _, rfl, h1, h2⟩)
  have H := Lib.hid h
  have HA := Lib.hid hA
  have HG := Lib.hid hg
  obtain ⟨Ak, ck, rfl⟩ := slice_form h1
  obtain ⟨Au, cu, rfl⟩ := slice_form h2
  rw [hm] at hn
  go_enter Try.func12, Try.ntmps12
  go_upto_region 6 with (first
    | (go_at_call 36; refine (good_any S _ e _ (HV.out.below HA.out)).mono ?_; rintro r w1 ⟨rfl, hb1⟩; rw [HG.out]; obtain ⟨⟨z0, z1, z2, z3⟩, zf⟩ := box1 hb1; have HB1 := Lib.hid (HA.out.trans (hb1.mono HA.out.size)); clear hb1)
    | (go_at_call 37; refine (ahead12 S base T ns hs _ _ e w1 (H.out.below HB1.out) (HV.out.below HB1.out) pre (by rw [hm]; exact hp)).mono ?_; rintro r w2 ⟨rfl, hb2⟩; unfold pathV))
  obtain ⟨W0, hW0⟩ : ∃ W0, W0 = w2.alloc (.cells #[.pointer (some ⟨blkOf T (lastF 0 pre), 0, none⟩), .pointer (some ⟨blkOf T (lastF 1 pre), 0, none⟩), .pointer (some ⟨blkOf T (lastF 2 pre), 0, none⟩), .pointer (some ⟨blkOf T (lastF 3 pre), 0, none⟩), .pointer (some ⟨blkOf T (lastF 4 pre), 0, none⟩), .pointer (some ⟨blkOf T (lastF 5 pre), 0, none⟩), .pointer (some ⟨blkOf T (lastF 6 pre), 0, none⟩), .pointer (some ⟨blkOf T (lastF 7 pre), 0, none⟩), .pointer (some ⟨blkOf T (lastF 8 pre), 0, none⟩), .pointer (some ⟨blkOf T (lastF 9 pre), 0, none⟩), .pointer (some ⟨blkOf T (lastF 10 pre), 0, none⟩), .pointer (some ⟨blkOf T (lastF 11 pre), 0, none⟩)] 69) := ⟨_, rfl⟩
  rw [← hW0]
  obtain ⟨hpa, hbp, hzp⟩ := path_start w2 T pre W0 hW0
  have hb12 := hb2.trans (hbp.mono hb2.size)
  have hb02 := HB1.out.trans (hb12.mono HB1.out.size)
  have hzw : w.heap.size < w1.heap.size := by
    have := HA.out.size
    by_cases hlt : w.heap.size < w1.heap.size
    · exact hlt
    · have := z0
      simp [World.cell?, Array.getElem?_eq_none (Nat.not_lt.1 hlt)] at this
  have blk : ∀ i, W0.cell? ⟨w.heap.size, i, none⟩ = w1.cell? ⟨w.heap.size, i, none⟩ := fun i => World.cell?_of_block (a := ⟨w.heap.size, i, none⟩) (hb12.block w.heap.size hzw)
  have y0 := (blk 0).trans z0
  have y1 := (blk 1).trans z1
  have y2 := (blk 2).trans z2
  have y3 := (blk 3).trans z3
  have HB2 := Lib.hid hb02
  have HS := Lib.hid (H.out.below hb02)
  have n0 : W0.cell? ⟨blkOf T (lastF 0 pre), 4, none⟩ = some (.pointer (some ⟨n.blk, 0, none⟩)) := by
    have := HS.out.pred_next (f := 0) (m := m) (by omega) (by rw [← hm]; exact cnt_le e ns)
    rw [hp, next0 hu, hn] at this
    exact this
  have p0 : W0.cell? ⟨w2.heap.size, 0, none⟩ = some (.pointer (some ⟨blkOf T (lastF 0 pre), 0, none⟩)) := hpa.at_ 0 (by omega) (by omega)
  obtain ⟨P, hPe⟩ : ∃ P, w2.heap.size = P := ⟨_, rfl⟩
  rw [hPe] at p0 ⊢
  obtain ⟨c0, c1, c2, c3⟩ := HS.out.cells hn
  have CC : ∀ q : Ext W0, Calls Try.prog 38 #[.agg #[n.k, .int .i64 n.ent.seq, .bool n.ent.dead, n.u], .agg #[.slice Ak e.key.length ck, .int .i64 e.seq, .bool e.dead, .slice Au e.val.length cu]] q.w fun r w'' => r = .returned (.int .i64 0) ∧ ∃ q' : Ext W0, w'' = q'.w := fun q => by
    have := compare_any _ _ _ _ n.ent e _ ((HS.out.ent (List.mem_of_getElem? hn)).below q.h) ((HV.out.below HB2.out).below q.h)
    rw [heq] at this
    exact Ext.calls this
  have G0 : ∀ q : Ext W0, q.w.cell? { block := w.heap.size, off := 0 } = _ := fun q => q.h.cell y0
  have G1 : ∀ q : Ext W0, q.w.cell? { block := w.heap.size, off := 1 } = _ := fun q => q.h.cell y1
  have G2 : ∀ q : Ext W0, q.w.cell? { block := w.heap.size, off := 2 } = _ := fun q => q.h.cell y2
  have G3 : ∀ q : Ext W0, q.w.cell? { block := w.heap.size, off := 3 } = _ := fun q => q.h.cell y3
  have N0 : ∀ q : Ext W0, q.w.cell? { block := n.blk, off := 0 } = _ := fun q => q.h.cell c0
  have N1 : ∀ q : Ext W0, q.w.cell? { block := n.blk, off := 1 } = _ := fun q => q.h.cell c1
  have N2 : ∀ q : Ext W0, q.w.cell? { block := n.blk, off := 2 } = _ := fun q => q.h.cell c2
  have N3 : ∀ q : Ext W0, q.w.cell? { block := n.blk, off := 3 } = _ := fun q => q.h.cell c3
  clear hW0 hpa hbp hzp hb12 hb02 hzw blk z0 z1 z2 z3 zf hb2 hPe hm hp hu h1 h2 hA h hg heq hn
  go_wp2
  (refine wp_region_quiet_ext (by kernel_rfl) (by kernel_rfl) ?_; (repeat (go_big_quiet_step ((go_at_call 38; exact CC _)))); refine wpQuiet_nil ?_; intro wq hw'; obtain ⟨⟨_, hq⟩, hw''⟩ := hw'; subst hw'')
  have HBQ := Lib.hid (HB2.out.trans (Below.mono (show Below W0.heap.size W0 wq from hq) HB2.out.size))
  clear hq
  go_wp2
  refine bodyPost_ret (v := .int .i64 31) (by simp [results, Try.results12, go_sem]) rfl ?_
  exact ⟨rfl, HBQ.out⟩
end Go.Proofs.Ytelbidknefkaiaa
end
