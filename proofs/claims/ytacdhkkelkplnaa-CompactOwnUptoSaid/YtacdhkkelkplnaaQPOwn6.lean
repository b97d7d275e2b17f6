/-
law 12's spoil: bytes in blocks of a set are turned, and nothing else.
-/
import Derived.Test.YtacdhkkelkplnaaQPOwn5
import Derived.Test.YtacdhkkelkplnaaQPOwn3
section
namespace Go.Proofs.Ytacdhkkelkplnaa
open Go.RowKit Go.BigFrame
attribute [local go_sem ↓] Go.wp_at_zero Go.wp_at_succ
set_option maxRecDepth 100000 in
set_option maxHeartbeats 4000000 in
theorem merge_any (S : Nat → Prop) (v : Value) (ls : List (List Ent)) (w : World) (hv : Lists w S v ls) (hS : ∀ i, S i → i < w.heap.size) (hN : total ls * 64 ≤ 140737488355328) :
    Calls Try.prog 23 #[v] w fun r w' => ∃ v', r = .returned (.tuple #[v', .int .i64 (mergeC ls).2]) ∧ Ents w' (fun i => w.heap.size ≤ i) v' (mergeC ls).1 ∧ Below w.heap.size w w' := by
  obtain ⟨i0, hi, hz0, hz1, hz2⟩ := info_parts info26
  have hby := Lib.hid hz2
  have hz1' := Lib.hid hz1
  clear hz2 hz1
  obtain ⟨A, c, vs, rfl, hc, hcm, hl, hr, he⟩ := hv
  obtain ⟨n, hn⟩ : ∃ n, ls.length = n := ⟨_, rfl⟩
  rw [hn] at hr hl hc ⊢
  have HN := Lib.hid hn
  have HSS := Lib.hid hS
  have HE := Lib.hid he
  have HR := Lib.hid hr
  obtain ⟨R, hR⟩ : ∃ R, mergeC ls = R := ⟨_, rfl⟩
  rw [hR]
  have HRR := Lib.hid hR
  clear hn he hr hS hR
  go_enter Try.func23, Try.ntmps23
  go_wp2
  go_loopw [13] (fun t wr => ∃ (k : Nat) (sl : Value) (ps : List (Value × List Ent)), k ≤ n ∧ t = .int .i64 k ∧ HeapV wr w.heap.size w.heap.size S sl ps ∧ ps.map (·.2) = heapOf (ls.take k) ∧ (ls.take k).all orderedE = true ∧ ps.length ≤ k ∧ Below w.heap.size w wr) (fun t _ => n - (intOf t).toNat)
  case atStart => exact ⟨0, _, [], Nat.zero_le _, rfl, HeapV.init w S HSS.out, rfl, rfl, by simp, (Below.refl _ _).alloc (Nat.le_refl _) _⟩
  case round =>
    obtain ⟨k, sl, ps, hk, rfl, hh, hps, hall, hpl, hbel⟩ := hrel
    have HH := Lib.hid hh
    have HPS := Lib.hid hps
    have HALL := Lib.hid hall
    have HB := Lib.hid hbel
    clear hh hps hall hbel
    by_cases hkn : k < n
    · obtain ⟨l, hlk⟩ : ∃ l, ls[k]? = some l := ⟨_, List.getElem?_eq_getElem (by rw [HN.out]; exact hkn)⟩
      obtain ⟨x, hx, hxe⟩ := HE.out k l hlk
      obtain ⟨b, o, u, rfl, _, _, hu, hcell⟩ := (HR.out.below HB.out).at_ hkn
      obtain rfl : u = x := by rw [hx] at hu; injection hu with hu; exact hu.symm
      replace hxe := hxe.below HB.out
      obtain ⟨Ax, cx, rfl⟩ := ents_form hxe
      have HX := Lib.hid hxe
      have HLK := Lib.hid hlk
      have HORD := Lib.hid (ordered_any S _ l wr hxe)
      clear hx hxe hu hlk
      rcases ho : orderedE l with _ | _
      · rw [ho] at HORD
        have HF := Lib.hid (all_false_at HLK.out ho)
        clear ho
        go_wp2_with (go_at_call 48; refine HORD.out.mono ?_; rintro r w1 ⟨rfl, hb1⟩)
        refine bodyPost_ret (v := .tuple #[_, _]) (by simp [results, Try.results23, go_sem]; exact ⟨rfl, rfl⟩) rfl ?_
        obtain rfl : R = ([], 30) := by rw [← HRR.out]; unfold mergeC; rw [HF.out]; rfl
        exact ⟨_, rfl, Ents.nil _ _, HB.out.trans (hb1.mono HB.out.size)⟩
      · rw [ho] at HORD
        have HT := Lib.hid (all_take_snoc HLK.out HALL.out ho)
        clear ho
        have HSN := Lib.hid (heapOf_snoc (ls.take k) l)
        have HTK := Lib.hid (take_snoc HLK.out)
        cases l with
        | nil =>
          go_wp2_with (go_at_call 48; refine HORD.out.mono ?_; rintro r w1 ⟨rfl, hb1⟩)
          refine ⟨⟨k + 1, sl, ps, by omega, by go_num, HH.out.below hb1, ?_, HT.out, by omega, HB.out.trans (hb1.mono HB.out.size)⟩, by simp [intOf]; omega⟩
          rw [HTK.out, HSN.out, HPS.out]; simp
        | cons e l =>
          go_wp2_with (first
            | (go_at_call 48; refine HORD.out.mono ?_; rintro r w1 ⟨rfl, hb1⟩)
            | (go_at_call 49; refine (push_any w.heap.size w.heap.size S sl _ ps (e :: l) _ (HH.out.below hb1) (HX.out.below hb1) (by simp) (by omega)).mono ?_; rintro r w2 ⟨rfl, hpu⟩))
          have hB := HB.out.size
          have hB1 := hb1.size
          have hbl := hpu.below (Nat.le_refl _) (fun g hg => (HH.out.row.lt g hg).1) (by omega)
          obtain ⟨sl', hh2, _, _⟩ := hpu
          refine ⟨⟨k + 1, sl', _, by omega, by go_num, hh2, ?_, HT.out, ?_, (HB.out.trans (hb1.mono HB.out.size)).trans hbl⟩, by simp [intOf]; omega⟩
          · rw [HTK.out, HSN.out, if_neg (by simp), ← HPS.out]
            exact pushL_map (·.2) id ps (_, e :: l)
          · rw [(siftUp_perm _ _ _).length_eq]; simp; omega
    · obtain rfl : k = n := by omega
      have hmc : R = mergeGo (total ls) (heapOf ls) [] := by
        rw [← HRR.out]
        unfold mergeC
        have := HALL.out
        rw [List.take_of_length_le (by rw [HN.out]; exact Nat.le_refl _)] at this
        rw [if_pos this]
      have hps0 : ps.map (·.2) = heapOf ls := by
        have := HPS.out
        rwa [List.take_of_length_le (by rw [HN.out]; exact Nat.le_refl _)] at this
      have htot : total (ps.map (·.2)) = total ls := by rw [hps0, heapOf_total]
      rw [← hps0] at hmc
      have HMC := Lib.hid hmc
      have HTOT := Lib.hid htot
      obtain ⟨N, hNN⟩ : ∃ N, total ls = N := ⟨_, rfl⟩
      rw [hNN] at hN HTOT HMC
      have HW := Lib.hid HB.out.size
      clear hmc hps0 htot hNN
      go_wp2
      go_loopw [7] (fun v7 wr => ∃ (out : List Ent) (ys : List Value) (sl : Value) (ps : List (Value × List Ent)), HeapV wr w.heap.size w.heap.size S sl ps ∧ wr.ownsRow w.heap.size 46 4 v7 out.length ys ∧ EntCells wr (outT w.heap.size v7 sl) ys out ∧
        (∀ g, v7.ownBlock = some g → g ≠ w.heap.size ∧ sl.ownBlock ≠ some g) ∧ R = mergeGo (N - out.length) (ps.map (·.2)) out ∧ out.length + total (ps.map (·.2)) = N ∧ ps.length ≤ k ∧ Below w.heap.size w wr) (fun v7 _ => N - sliceLen v7)
      case atStart => exact ⟨[], [], sl, ps, HH.out, World.ownsRow_nil _ _ _ _, trivial, (fun g h => by simp [Value.ownBlock] at h), HMC.out, by simpa using HTOT.out, hpl, HB.out⟩
      case round =>
        clear HH HPS HALL HB HTOT HMC hpl
        clear sl ps
        obtain ⟨out, ys, sl, ps, hh, hown, hys, hdis, hgo, htot, hpl, hbel⟩ := hrel
        have HH := Lib.hid hh
        have HOWN := Lib.hid hown
        have HYS := Lib.hid hys
        have HDIS := Lib.hid hdis
        have HGO := Lib.hid hgo
        have HTOT := Lib.hid htot
        have HB := Lib.hid hbel
        clear hh hown hys hdis hgo htot hbel
        cases ps with
        | nil =>
          obtain ⟨A', c', rfl⟩ := own_form HH.out.row
          have c0 : wr.cell? { block := w.heap.size, off := 0 } = some (.slice A' 0 c') := HH.out.box0
          go_wp2
          obtain rfl : R = (out, 0) := by rw [HGO.out]; exact mergeGo_nil _ _
          refine bodyPost_ret (v := .tuple #[_, _]) (by simp [results, Try.results23, go_sem]; exact ⟨rfl, rfl⟩) rfl ?_
          refine ⟨_, rfl, ?_, HB.out⟩
          exact Ents.of_own HOWN.out (HYS.out.mono fun i hi => Nat.le_of_lt hi.1) (fun i hi _ => hi) (show out.length * 64 ≤ 140737488355328 by have := HTOT.out; omega)
        | cons q ps =>
          obtain ⟨v0, l0⟩ := q
          obtain ⟨y0, y0n⟩ := HH.out.vals (v0, l0) (by simp)
          obtain ⟨e, l, rfl⟩ := List.exists_cons_of_ne_nil y0n
          obtain ⟨b0, o0, c00, k0, u0, rfl, x0, x1, x2, x3, z1, z2⟩ := y0.head
          obtain ⟨g, cg, rfl, hbg, hgz, hgc, hgm⟩ := own_pos HH.out.row (by simp)
          obtain ⟨A7, c7, rfl⟩ := own_form HOWN.out
          have c0 : wr.cell? { block := w.heap.size, off := 0 } = some (.slice (some ⟨g, 0, none⟩) (ps.length + 1) cg) := HH.out.box0
          obtain ⟨K, hK⟩ : ∃ K, N - out.length = K + 1 := ⟨N - out.length - 1, by have := HTOT.out; simp [total] at this; omega⟩
          have HGO' := Lib.hid (show R = if twice out e = true then ([], 31) else mergeGo K (if l = [] then popL id ((e :: l) :: ps.map (·.2)) else pushL id (popL id ((e :: l) :: ps.map (·.2))) l) (out ++ [e]) by
            have := HGO.out; rw [hK] at this; exact this)
          have HKK := Lib.hid hK
          have HY0 := Lib.hid y0
          have X0 := Lib.hid x0
          have X1 := Lib.hid x1
          have X2 := Lib.hid x2
          have X3 := Lib.hid x3
          obtain ⟨m, hm⟩ : ∃ m, out.length = m := ⟨_, rfl⟩
          have HM := Lib.hid hm
          rw [hm] at HOWN HYS HDIS HTOT
          rw [hm]
          clear hK y0 y0n x0 x1 x2 x3 HGO hm
          go_wp2_with (go_at_call 50; refine (pop_any w.heap.size w.heap.size S _ _ _ _ HH.out rfl (by simp at hpl ⊢; omega)).mono ?_; rintro r w1 ⟨rfl, hpo⟩)
          obtain ⟨sl1, hh1, ho1, hs1⟩ := hpo
          have hlt := HH.out.row.lt
          have hown1 := own_only HOWN.out ho1 (fun g' hg' t => t.elim (fun e => (HDIS.out g' hg').1 e) (fun e => (HDIS.out g' hg').2 e))
          have hys1 : EntCells w1 (outT w.heap.size (.slice A7 m c7) sl1) ys out := (HYS.out.only ho1 (fun i _ ht t => t.elim (fun e => by have := ht.1; omega) (fun e => ht.2.2 e))).mono (fun i ht => ⟨ht.1, ht.2.1, hs1 ▸ ht.2.2⟩)
          have hy1 := HY0.out.only ho1 (fun i _ hs t => by have := HSS.out i hs; rcases t with t | t; omega; have := (hlt i t).1; omega)
          have hdis1 : ∀ g', (Value.slice A7 m c7).ownBlock = some g' → g' ≠ w.heap.size ∧ sl1.ownBlock ≠ some g' := fun g' hg' => by rw [hs1]; exact HDIS.out g' hg'
          have hbel1 : Below w.heap.size w w1 := HB.out.trans (ho1.below HB.out.size (fun i t => by rcases t with t | t; omega; exact (hlt i t).1))
          obtain ⟨_, hc1, hc2, k0, u0, x0, x1, x2, x3, z1, z2⟩ := hy1.head'
          have HH1 := Lib.hid hh1
          have HOWN1 := Lib.hid hown1
          have HYS1 := Lib.hid hys1
          have HY1 := Lib.hid hy1
          have HDIS1 := Lib.hid hdis1
          have HB1 := Lib.hid hbel1
          have Z1 := Lib.hid z1
          have Z2 := Lib.hid z2
          clear hh1 ho1 hs1 hlt hown1 hys1 hy1 hdis1 hbel1 z1 z2 X0 X1 X2 X3 HOWN HYS HDIS HB HY0 HH hk hkn
          have G0 : ∀ q : Ext w1, q.w.cell? { block := b0, off := o0 } = _ := fun q => q.h.cell x0
          have G1 : ∀ q : Ext w1, q.w.cell? { block := b0, off := o0 + 1 } = _ := fun q => q.h.cell x1
          have G2 : ∀ q : Ext w1, q.w.cell? { block := b0, off := o0 + 2 } = _ := fun q => q.h.cell x2
          have G3 : ∀ q : Ext w1, q.w.cell? { block := b0, off := o0 + 3 } = _ := fun q => q.h.cell x3
          have X0 := Lib.hid x0
          have X1 := Lib.hid x1
          have X2 := Lib.hid x2
          have X3 := Lib.hid x3
          clear x0 x1 x2 x3
          rcases List.eq_nil_or_concat out with hnil | ⟨os, o, hcon⟩
          · have hm0 : m = 0 := by rw [← HM.out, hnil]; rfl
            have hgd : decide (0 < m) = false := by simp [hm0]
            have htw : Hid (twice out e = false) := Lib.hid (by rw [hnil]; rfl)
            have HM0 := Lib.hid hm0
            have HNIL := Lib.hid hnil
            clear hm0 hnil
            (refine wp_region_quiet_ext (by kernel_rfl) (by kernel_rfl) ?_; (repeat (go_big_quiet_step (fail))); refine wpQuiet_nil ?_; intro wq hw'; obtain ⟨⟨_, hq⟩, hw''⟩ := hw'; subst hw'')
            have htw0 := htw.out
            clear htw
            have HHQ := Lib.hid (HH1.out.below hq)
            have HOQ := Lib.hid (own_below HOWN1.out hq)
            have HYQ := Lib.hid (HYS1.out.below hq)
            have HXQ := Lib.hid (HY1.out.below hq)
            have HBQ := Lib.hid (HB1.out.trans (Below.mono hq HB1.out.size))
            have HEV := Lib.hid ((show EntV w1 S (.agg #[k0, .int .i64 e.seq, .bool e.dead, u0]) e from ⟨_, _, rfl, Z1.out, Z2.out⟩).below hq)
            have x0 := fr.cell hq X0.out
            have x1 := fr.cell hq X1.out
            have x2 := fr.cell hq X2.out
            have x3 := fr.cell hq X3.out
            have hmN : m + 1 ≤ N := by have := HKK.out; have := HM.out; omega
            have HD7 : Hid (∀ g', (Value.slice A7 m c7).ownBlock = some g' → w.heap.size ≤ g' ∧ g' ≠ w.heap.size ∧ sl1.ownBlock ≠ some g') := Lib.hid fun g' hg' => ⟨(HOQ.out.lt g' hg').1, HDIS1.out g' hg'⟩
            have hBz : w.heap.size < wq.heap.size := HHQ.out.lt
            have HTW := Lib.hid (HGO'.out.trans (if_neg (by rw [htw0]; simp)))
            have hpl' : ps.length + 1 ≤ k := by simpa using hpl
            clear hq G0 G1 G2 G3 htw0 hpl
            by_cases hl : l = []
            · have hl0 : l.length ≤ 0 := by rw [hl]; simp
              have HL := Lib.hid hl
              clear hl
              go_wp2_with (first
                | (go_at_call 51; refine (eclone_any S _ e _ HEV.out).mono ?_; rintro r w3 ⟨v1, rfl, ⟨k', u', rfl, hk', hu'⟩, hb3⟩; obtain ⟨Ak, ck, rfl⟩ := slice_form hk'; obtain ⟨Au, cu, rfl⟩ := slice_form hu')
                | (at_builtin; refine wpList_append_own_at _ rfl _ _ 41 rfl w.heap.size 46 i0 _ 4 64 Try.underlying41 hi hz0 hz1'.out hby.out rfl (by decide) _ _ _ rfl ((own_below HOQ.out hb3).alloc _) ⟨w3.heap.size, 0, none⟩ 1 1 [.slice Ak e.key.length ck, .int .i64 e.seq, .bool e.dead, .slice Au e.val.length cu] rfl rfl (cell_four_new _ _ _ _ _ _) (by simp [Value.oneCell']) (by unfold maxLen; omega) (by omega) (by have := HBQ.out.size; have := hb3.size; simp; omega) ?_; intro v' w4 hown' hgrow hnn hat; clear hnn))
              obtain ⟨A8, c8, rfl⟩ := own_form hown'
              have hH4 := HHQ.out.thru hb3 hgrow HD7.out
              have hE4 : EntCells w4 (outT w.heap.size (.slice A8 (m + 1) c8) sl1) (ys ++ [.slice Ak e.key.length ck, .int .i64 e.seq, .bool e.dead, .slice Au e.val.length cu]) (out ++ [e]) := EntCells.pushT HOQ.out HYQ.out (fun i h => h.2.1) hb3 hk' hu' hgrow hat (fun i h hn => ⟨h.elim (fun h => h.1) (fun h => by omega), hn, h.elim (fun h => h.2.2) (fun h e => by have := HHQ.out.row.lt i e; omega)⟩)
              have hD4 := dis_grown HDIS1.out hat (by have := hb3.size; omega) (fun g hg => by have := HHQ.out.row.lt g hg; have := hb3.size; omega)
              refine ⟨⟨out ++ [e], _, sl1, _, hH4, (by rw [List.length_append, HM.out]; exact hown'), hE4, hD4, ?_, ?_, ?_, ((HBQ.out.trans (hb3.mono HBQ.out.size)).alloc (by have := HBQ.out.size; have := hb3.size; omega) _).grown hgrow (by have := HBQ.out.size; have := hb3.size; simp; omega) (fun j e => (HOQ.out.lt j e).1)⟩, ?_⟩
              · rw [HTW.out, if_pos HL.out, show N - (out ++ [e]).length = K by have := HKK.out; simp; omega]
                exact congrArg (fun h => mergeGo K h (out ++ [e])) (popV_map ((Value.slice (some ⟨b0, o0, none⟩) (l.length + 1) c00, e :: l) :: ps)).symm
              · have h1 := total_pop e l (ps.map (·.2))
                have h2 : ((popL (·.2) ((Value.slice (some ⟨b0, o0, none⟩) (l.length + 1) c00, e :: l) :: ps)).map (·.2)) = popL id ((e :: l) :: ps.map (·.2)) := popV_map _
                have h3 := HTOT.out
                have h4 := HM.out
                rw [h2]; simp only [List.map_cons] at h3; simp; omega
              · rw [popL_len]; simp; omega
              · simp [sliceLen]; omega
            · have hl0 : 0 < l.length := List.length_pos_iff.2 hl
              have HL := Lib.hid hl
              clear hl
              go_wp2_with (first
                | (go_at_call 51; refine (eclone_any S _ e _ HEV.out).mono ?_; rintro r w3 ⟨v1, rfl, ⟨k', u', rfl, hk', hu'⟩, hb3⟩; obtain ⟨Ak, ck, rfl⟩ := slice_form hk'; obtain ⟨Au, cu, rfl⟩ := slice_form hu')
                | (at_builtin; refine wpList_append_own_at _ rfl _ _ 41 rfl w.heap.size 46 i0 _ 4 64 Try.underlying41 hi hz0 hz1'.out hby.out rfl (by decide) _ _ _ rfl ((own_below HOQ.out hb3).alloc _) ⟨w3.heap.size, 0, none⟩ 1 1 [.slice Ak e.key.length ck, .int .i64 e.seq, .bool e.dead, .slice Au e.val.length cu] rfl rfl (cell_four_new _ _ _ _ _ _) (by simp [Value.oneCell']) (by unfold maxLen; omega) (by omega) (by have := HBQ.out.size; have := hb3.size; simp; omega) ?_; intro v' w4 hown' hgrow hnn hat; clear hnn)
                | ((go_at_call 49; refine (push_any w.heap.size w.heap.size S sl1 _ _ l _ (HHQ.out.thru hb3 hgrow HD7.out) ((HXQ.out.tail HL.out).thru hb3 hgrow (fun g hg hs => by have := HSS.out g hs; have := (HD7.out g hg).1; omega)) HL.out (by rw [popL_len]; simp; omega)).mono ?_; rintro r w5 ⟨rfl, hpu⟩)))
              obtain ⟨A8, c8, rfl⟩ := own_form hown'
              have hH4 := HHQ.out.thru hb3 hgrow HD7.out
              have hE4 : EntCells w4 (outT w.heap.size (.slice A8 (m + 1) c8) sl1) (ys ++ [.slice Ak e.key.length ck, .int .i64 e.seq, .bool e.dead, .slice Au e.val.length cu]) (out ++ [e]) := EntCells.pushT HOQ.out HYQ.out (fun i h => h.2.1) hb3 hk' hu' hgrow hat (fun i h hn => ⟨h.elim (fun h => h.1) (fun h => by omega), hn, h.elim (fun h => h.2.2) (fun h e => by have := HHQ.out.row.lt i e; omega)⟩)
              have hD4 := dis_grown HDIS1.out hat (by have := hb3.size; omega) (fun g hg => by have := HHQ.out.row.lt g hg; have := hb3.size; omega)
              have hB4 := ((HBQ.out.trans (hb3.mono HBQ.out.size)).alloc (by have := HBQ.out.size; have := hb3.size; omega) (.cells #[.slice Ak e.key.length ck, .int .i64 e.seq, .bool e.dead, .slice Au e.val.length cu] 46)).grown hgrow (by have := HBQ.out.size; have := hb3.size; simp; omega) (fun j e => (HOQ.out.lt j e).1)
              have hB5 := hB4.trans (hpu.below (Nat.le_refl _) (fun g hg => (hH4.row.lt g hg).1) hB4.size)
              obtain ⟨sl2, hh5, ho5, hs5⟩ := hpu
              refine ⟨⟨out ++ [e], _, sl2, _, hh5, (by rw [List.length_append, HM.out]; exact own_only hown' ho5 (fun g hg t => t.elim (fun e => (hD4 g hg).1 e) (fun e => (hD4 g hg).2 e))), out_pushed hE4 ho5 hs5, dis_pushed hD4 (fun g hg => (hown'.lt g hg).2) hs5, ?_, ?_, ?_, hB5⟩, ?_⟩
              · rw [HTW.out, if_neg HL.out, show N - (out ++ [e]).length = K by have := HKK.out; simp; omega]
                have h2 : ((popL (·.2) ((Value.slice (some ⟨b0, o0, none⟩) (l.length + 1) c00, e :: l) :: ps)).map (·.2)) = popL id ((e :: l) :: ps.map (·.2)) := popV_map _
                rw [← h2]
                exact congrArg (fun h => mergeGo K h (out ++ [e])) (pushV_map _ (_, l)).symm
              · have h1 := total_pop e l (ps.map (·.2))
                have h2 : ((popL (·.2) ((Value.slice (some ⟨b0, o0, none⟩) (l.length + 1) c00, e :: l) :: ps)).map (·.2)) = popL id ((e :: l) :: ps.map (·.2)) := popV_map _
                have h3 := HTOT.out
                have h4 := HM.out
                have h5 : total ((pushL (·.2) (popL (·.2) ((Value.slice (some ⟨b0, o0, none⟩) (l.length + 1) c00, e :: l) :: ps)) ((Value.slice (some ⟨b0, o0 + 4, none⟩) l.length (c00 - 1), l) : Value × List Ent)).map (·.2)) = total (popL id ((e :: l) :: ps.map (·.2))) + l.length := by
                  rw [← h2, ← total_push]; exact congrArg total (pushV_map _ _)
                refine Eq.trans (congrArg (fun z => (out ++ [e]).length + z) h5) ?_
                simp only [List.map_cons] at h3; simp; omega
              · rw [(siftUp_perm _ _ _).length_eq]; simp [popL_len]; omega
              · simp [sliceLen]; omega
          · have hm1 : m = os.length + 1 := by rw [← HM.out, hcon]; simp
            have hpos : 0 < m := by omega
            have hgd : decide (0 < m) = true := by simp; omega
            rw [List.concat_eq_append] at hcon
            obtain ⟨g7, c7', hA, hb7, hz7, hc7, hc7'⟩ := own_pos HOWN1.out hpos
            injection hA with hA hm' hc'
            subst hA hc'
            obtain ⟨ko, uo, a0, a1, a2, a3, q1, q2⟩ := own_last HOWN1.out (hcon ▸ HYS1.out) hm1
            have F0 : ∀ q : Ext w1, q.w.cell? { block := g7, off := (m - 1) * 4 } = _ := fun q => q.h.cell a0
            have F1 : ∀ q : Ext w1, q.w.cell? { block := g7, off := (m - 1) * 4 + 1 } = _ := fun q => q.h.cell a1
            have F2 : ∀ q : Ext w1, q.w.cell? { block := g7, off := (m - 1) * 4 + 2 } = _ := fun q => q.h.cell a2
            have F3 : ∀ q : Ext w1, q.w.cell? { block := g7, off := (m - 1) * 4 + 3 } = _ := fun q => q.h.cell a3
            have CC : ∀ q : Ext w1, Calls Try.prog 47 #[.agg #[ko, .int .i64 o.seq, .bool o.dead, uo], .agg #[k0, .int .i64 e.seq, .bool e.dead, u0]] q.w fun r w'' => r = .returned (.int .i64 (cmpE o e)) ∧ ∃ q' : Ext w1, w'' = q'.w := fun q => Ext.calls (compare_any _ S _ _ o e _ (q.h.ent ⟨_, _, rfl, q1, q2⟩) (q.h.ent ⟨_, _, rfl, Z1.out, Z2.out⟩))
            have htw : Hid (twice out e = decide (cmpE o e = 0)) := Lib.hid (by rw [hcon]; exact twice_snoc _ _ _)
            have HM1 := Lib.hid hm1
            have HCON := Lib.hid hcon
            clear hm1 hcon a0 a1 a2 a3 q1 q2 hm'
            by_cases heq : cmpE o e = 0
            · have hdq : (cmpE o e == 0) = true := by simp [heq]
              have HEQ := Lib.hid heq
              clear heq
              (refine wp_region_quiet_ext (by kernel_rfl) (by kernel_rfl) ?_; (repeat (go_big_quiet_step ((go_at_call 47; exact CC _)))); refine wpQuiet_nil ?_; intro wq hw'; obtain ⟨⟨_, hq⟩, hw''⟩ := hw'; subst hw'')
              go_wp2
              obtain rfl : R = ([], 31) := HGO'.out.trans (if_pos (by rw [htw.out, HEQ.out]; rfl))
              refine bodyPost_ret (v := .tuple #[_, _]) (by simp [results, Try.results23, go_sem]; exact ⟨rfl, rfl⟩) rfl ?_
              exact ⟨_, rfl, Ents.nil _ _, HB1.out.trans (Below.mono hq HB1.out.size)⟩
            · have hdq : (cmpE o e == 0) = false := by simp [heq]
              have HEQ := Lib.hid heq
              clear heq
              (refine wp_region_quiet_ext (by kernel_rfl) (by kernel_rfl) ?_; (repeat (go_big_quiet_step ((go_at_call 47; exact CC _)))); refine wpQuiet_nil ?_; intro wq hw'; obtain ⟨⟨_, hq⟩, hw''⟩ := hw'; subst hw'')
              have htw0 : twice out e = false := by rw [htw.out]; exact decide_eq_false HEQ.out
              clear htw F0 F1 F2 F3 CC
              have HHQ := Lib.hid (HH1.out.below hq)
              have HOQ := Lib.hid (own_below HOWN1.out hq)
              have HYQ := Lib.hid (HYS1.out.below hq)
              have HXQ := Lib.hid (HY1.out.below hq)
              have HBQ := Lib.hid (HB1.out.trans (Below.mono hq HB1.out.size))
              have HEV := Lib.hid ((show EntV w1 S (.agg #[k0, .int .i64 e.seq, .bool e.dead, u0]) e from ⟨_, _, rfl, Z1.out, Z2.out⟩).below hq)
              have x0 := fr.cell hq X0.out
              have x1 := fr.cell hq X1.out
              have x2 := fr.cell hq X2.out
              have x3 := fr.cell hq X3.out
              have hmN : m + 1 ≤ N := by have := HKK.out; have := HM.out; omega
              have HD7 : Hid (∀ g', (Value.slice (some ⟨g7, 0, none⟩) m c7).ownBlock = some g' → w.heap.size ≤ g' ∧ g' ≠ w.heap.size ∧ sl1.ownBlock ≠ some g') := Lib.hid fun g' hg' => ⟨(HOQ.out.lt g' hg').1, HDIS1.out g' hg'⟩
              have hBz : w.heap.size < wq.heap.size := HHQ.out.lt
              have HTW := Lib.hid (HGO'.out.trans (if_neg (by rw [htw0]; simp)))
              have hpl' : ps.length + 1 ≤ k := by simpa using hpl
              clear hq G0 G1 G2 G3 htw0 hpl
              by_cases hl : l = []
              · have hl0 : l.length ≤ 0 := by rw [hl]; simp
                have HL := Lib.hid hl
                clear hl
                go_wp2_with (first
                  | (go_at_call 51; refine (eclone_any S _ e _ HEV.out).mono ?_; rintro r w3 ⟨v1, rfl, ⟨k', u', rfl, hk', hu'⟩, hb3⟩; obtain ⟨Ak, ck, rfl⟩ := slice_form hk'; obtain ⟨Au, cu, rfl⟩ := slice_form hu')
                  | (at_builtin; refine wpList_append_own_at _ rfl _ _ 41 rfl w.heap.size 46 i0 _ 4 64 Try.underlying41 hi hz0 hz1'.out hby.out rfl (by decide) _ _ _ rfl ((own_below HOQ.out hb3).alloc _) ⟨w3.heap.size, 0, none⟩ 1 1 [.slice Ak e.key.length ck, .int .i64 e.seq, .bool e.dead, .slice Au e.val.length cu] rfl rfl (cell_four_new _ _ _ _ _ _) (by simp [Value.oneCell']) (by unfold maxLen; omega) (by omega) (by have := HBQ.out.size; have := hb3.size; simp; omega) ?_; intro v' w4 hown' hgrow hnn hat; clear hnn))
                obtain ⟨A8, c8, rfl⟩ := own_form hown'
                have hH4 := HHQ.out.thru hb3 hgrow HD7.out
                have hE4 : EntCells w4 (outT w.heap.size (.slice A8 (m + 1) c8) sl1) (ys ++ [.slice Ak e.key.length ck, .int .i64 e.seq, .bool e.dead, .slice Au e.val.length cu]) (out ++ [e]) := EntCells.pushT HOQ.out HYQ.out (fun i h => h.2.1) hb3 hk' hu' hgrow hat (fun i h hn => ⟨h.elim (fun h => h.1) (fun h => by omega), hn, h.elim (fun h => h.2.2) (fun h e => by have := HHQ.out.row.lt i e; omega)⟩)
                have hD4 := dis_grown HDIS1.out hat (by have := hb3.size; omega) (fun g hg => by have := HHQ.out.row.lt g hg; have := hb3.size; omega)
                refine ⟨⟨out ++ [e], _, sl1, _, hH4, (by rw [List.length_append, HM.out]; exact hown'), hE4, hD4, ?_, ?_, ?_, ((HBQ.out.trans (hb3.mono HBQ.out.size)).alloc (by have := HBQ.out.size; have := hb3.size; omega) _).grown hgrow (by have := HBQ.out.size; have := hb3.size; simp; omega) (fun j e => (HOQ.out.lt j e).1)⟩, ?_⟩
                · rw [HTW.out, if_pos HL.out, show N - (out ++ [e]).length = K by have := HKK.out; simp; omega]
                  exact congrArg (fun h => mergeGo K h (out ++ [e])) (popV_map ((Value.slice (some ⟨b0, o0, none⟩) (l.length + 1) c00, e :: l) :: ps)).symm
                · have h1 := total_pop e l (ps.map (·.2))
                  have h2 : ((popL (·.2) ((Value.slice (some ⟨b0, o0, none⟩) (l.length + 1) c00, e :: l) :: ps)).map (·.2)) = popL id ((e :: l) :: ps.map (·.2)) := popV_map _
                  have h3 := HTOT.out
                  have h4 := HM.out
                  rw [h2]; simp only [List.map_cons] at h3; simp; omega
                · rw [popL_len]; simp; omega
                · simp [sliceLen]; omega
              · have hl0 : 0 < l.length := List.length_pos_iff.2 hl
                have HL := Lib.hid hl
                clear hl
                go_wp2_with (first
                  | (go_at_call 51; refine (eclone_any S _ e _ HEV.out).mono ?_; rintro r w3 ⟨v1, rfl, ⟨k', u', rfl, hk', hu'⟩, hb3⟩; obtain ⟨Ak, ck, rfl⟩ := slice_form hk'; obtain ⟨Au, cu, rfl⟩ := slice_form hu')
                  | (at_builtin; refine wpList_append_own_at _ rfl _ _ 41 rfl w.heap.size 46 i0 _ 4 64 Try.underlying41 hi hz0 hz1'.out hby.out rfl (by decide) _ _ _ rfl ((own_below HOQ.out hb3).alloc _) ⟨w3.heap.size, 0, none⟩ 1 1 [.slice Ak e.key.length ck, .int .i64 e.seq, .bool e.dead, .slice Au e.val.length cu] rfl rfl (cell_four_new _ _ _ _ _ _) (by simp [Value.oneCell']) (by unfold maxLen; omega) (by omega) (by have := HBQ.out.size; have := hb3.size; simp; omega) ?_; intro v' w4 hown' hgrow hnn hat; clear hnn)
                  | ((go_at_call 49; refine (push_any w.heap.size w.heap.size S sl1 _ _ l _ (HHQ.out.thru hb3 hgrow HD7.out) ((HXQ.out.tail HL.out).thru hb3 hgrow (fun g hg hs => by have := HSS.out g hs; have := (HD7.out g hg).1; omega)) HL.out (by rw [popL_len]; simp; omega)).mono ?_; rintro r w5 ⟨rfl, hpu⟩)))
                obtain ⟨A8, c8, rfl⟩ := own_form hown'
                have hH4 := HHQ.out.thru hb3 hgrow HD7.out
                have hE4 : EntCells w4 (outT w.heap.size (.slice A8 (m + 1) c8) sl1) (ys ++ [.slice Ak e.key.length ck, .int .i64 e.seq, .bool e.dead, .slice Au e.val.length cu]) (out ++ [e]) := EntCells.pushT HOQ.out HYQ.out (fun i h => h.2.1) hb3 hk' hu' hgrow hat (fun i h hn => ⟨h.elim (fun h => h.1) (fun h => by omega), hn, h.elim (fun h => h.2.2) (fun h e => by have := HHQ.out.row.lt i e; omega)⟩)
                have hD4 := dis_grown HDIS1.out hat (by have := hb3.size; omega) (fun g hg => by have := HHQ.out.row.lt g hg; have := hb3.size; omega)
                have hB4 := ((HBQ.out.trans (hb3.mono HBQ.out.size)).alloc (by have := HBQ.out.size; have := hb3.size; omega) (.cells #[.slice Ak e.key.length ck, .int .i64 e.seq, .bool e.dead, .slice Au e.val.length cu] 46)).grown hgrow (by have := HBQ.out.size; have := hb3.size; simp; omega) (fun j e => (HOQ.out.lt j e).1)
                have hB5 := hB4.trans (hpu.below (Nat.le_refl _) (fun g hg => (hH4.row.lt g hg).1) hB4.size)
                obtain ⟨sl2, hh5, ho5, hs5⟩ := hpu
                refine ⟨⟨out ++ [e], _, sl2, _, hh5, (by rw [List.length_append, HM.out]; exact own_only hown' ho5 (fun g hg t => t.elim (fun e => (hD4 g hg).1 e) (fun e => (hD4 g hg).2 e))), out_pushed hE4 ho5 hs5, dis_pushed hD4 (fun g hg => (hown'.lt g hg).2) hs5, ?_, ?_, ?_, hB5⟩, ?_⟩
                · rw [HTW.out, if_neg HL.out, show N - (out ++ [e]).length = K by have := HKK.out; simp; omega]
                  have h2 : ((popL (·.2) ((Value.slice (some ⟨b0, o0, none⟩) (l.length + 1) c00, e :: l) :: ps)).map (·.2)) = popL id ((e :: l) :: ps.map (·.2)) := popV_map _
                  rw [← h2]
                  exact congrArg (fun h => mergeGo K h (out ++ [e])) (pushV_map _ (_, l)).symm
                · have h1 := total_pop e l (ps.map (·.2))
                  have h2 : ((popL (·.2) ((Value.slice (some ⟨b0, o0, none⟩) (l.length + 1) c00, e :: l) :: ps)).map (·.2)) = popL id ((e :: l) :: ps.map (·.2)) := popV_map _
                  have h3 := HTOT.out
                  have h4 := HM.out
                  have h5 : total ((pushL (·.2) (popL (·.2) ((Value.slice (some ⟨b0, o0, none⟩) (l.length + 1) c00, e :: l) :: ps)) ((Value.slice (some ⟨b0, o0 + 4, none⟩) l.length (c00 - 1), l) : Value × List Ent)).map (·.2)) = total (popL id ((e :: l) :: ps.map (·.2))) + l.length := by
                    rw [← h2, ← total_push]; exact congrArg total (pushV_map _ _)
                  refine Eq.trans (congrArg (fun z => (out ++ [e]).length + z) h5) ?_
                  simp only [List.map_cons] at h3; simp; omega
                · rw [(siftUp_perm _ _ _).length_eq]; simp [popL_len]; omega
                · simp [sliceLen]; omega
end Go.Proofs.Ytacdhkkelkplnaa
end
section
namespace Go.Proofs.Ytacdhkkelkplnaa
open Go.RowKit
def Loose (w : World) (i : Nat) : Prop := ∃ cs, w.heap[i]? = some (.cells cs 5 (0, 0))
theorem Loose.lt {w : World} {i : Nat} (h : Loose w i) : i < w.heap.size := by
  obtain ⟨cs, h⟩ := h
  exact (Array.getElem?_eq_some_iff.1 h).1
theorem Loose.of_eq {w w' : World} {i : Nat} (h : Loose w i) (e : w'.heap[i]? = w.heap[i]?) : Loose w' i := by
  obtain ⟨cs, h⟩ := h
  exact ⟨cs, e.trans h⟩
theorem Loose.below {w w' : World} {i : Nat} (h : Loose w i) (hb : Below w.heap.size w w') : Loose w' i := h.of_eq (hb.block i h.lt)
theorem Loose.alloc {w : World} {i : Nat} (h : Loose w i) (o : Obj) : Loose (w.alloc o) i := h.below ((Below.refl _ _).alloc (Nat.le_refl _) _)
theorem Loose.grown {w w' : World} {i : Nat} {g : Option Nat} (h : Loose w i) (hg : w.grownBy w' g) (hn : g ≠ some i) : Loose w' i := h.of_eq (hg.block i h.lt (fun e => hn e.symm))
theorem Loose.only {w w' : World} {S : Nat → Prop} {i : Nat} (h : Loose w i) (ho : Only S w w') (hn : ¬ S i) : Loose w' i := h.of_eq (ho.block i h.lt hn)
/-- bytes in new blocks that may be written to. -/
def BytL (w : World) (lo : Nat) (v : Value) (bs : List UInt8) : Prop := Byt w (fun i => lo ≤ i ∧ Loose w i) v bs
theorem BytL.byt {w : World} {lo : Nat} {v : Value} {bs : List UInt8} (h : BytL w lo v bs) : Byt w (fun i => lo ≤ i) v bs := Byt.mono (S := fun i => lo ≤ i ∧ Loose w i) h fun _ hi => hi.1
theorem BytL.below {w w' : World} {lo : Nat} {v : Value} {bs : List UInt8} (h : BytL w lo v bs) (hb : Below w.heap.size w w') : BytL w' lo v bs := Byt.mono (S := fun i => lo ≤ i ∧ Loose w i) (Byt.below (S := fun i => lo ≤ i ∧ Loose w i) h hb) fun _ hi => ⟨hi.1, hi.2.below hb⟩
theorem BytL.mono {w : World} {lo lo' : Nat} {v : Value} {bs : List UInt8} (h : BytL w lo v bs) (hl : lo' ≤ lo) : BytL w lo' v bs := Byt.mono (S := fun i => lo ≤ i ∧ Loose w i) h fun _ hi => ⟨by omega, hi.2⟩
theorem BytL.nil (w : World) (lo : Nat) : BytL w lo (.slice none 0 0) [] := Byt.nil _ _
theorem BytL.of_own {w : World} {base : Nat} {v : Value} {bs : List UInt8} (h : w.ownsRow base 5 1 v bs.length (bs.map bcell)) (hl : bs.length ≤ 140737488355328) : BytL w base v bs := by
  rcases h.2 with ⟨rfl, h0⟩ | ⟨g, cap, cur, rfl, hbg, hh, hcap, hcm, _⟩
  · have : bs = [] := List.eq_nil_of_length_eq_zero h0
    subst this
    exact BytL.nil _ _
  · have hlt : g < w.heap.size := (Array.getElem?_eq_some_iff.1 hh).1
    refine ⟨_, _, rfl, hcap, by unfold maxLen at hcm; omega, hl, by simp, fun _ => ⟨g, 0, rfl, ⟨hbg, _, hh⟩, hlt, fun j u hu => ?_⟩⟩
    have := h.cells (g := g) rfl j u hu
    rwa [Addr.add_lit] at this
def EntVL (w : World) (lo : Nat) (v : Value) (e : Ent) : Prop := ∃ k u, v = .agg #[k, .int .i64 e.seq, .bool e.dead, u] ∧ BytL w lo k e.key ∧ BytL w lo u e.val
/-- what a row of the call's own holds: bytes in new blocks that may be written to, none of them the row's. -/
def freshL (w : World) (base : Nat) (v : Value) (i : Nat) : Prop := base ≤ i ∧ v.ownBlock ≠ some i ∧ Loose w i
theorem freshL_push {wr w1 w2 : World} {base : Nat} {v v' : Value} {o : Obj} (hb1 : Below wr.heap.size wr w1) (hg : (w1.alloc o).grownBy w2 v.ownBlock) {i : Nat} (h : freshL wr base v i) (hn : v'.ownBlock ≠ some i) : freshL w2 base v' i :=
  ⟨h.1, hn, ((h.2.2.below hb1).alloc o).grown hg h.2.1⟩
theorem new_push {wr w1 w2 : World} {base : Nat} {v v' : Value} {o : Obj} (hbase : base ≤ wr.heap.size) (hv : ∀ g, v.ownBlock = some g → g < wr.heap.size) (hg : (w1.alloc o).grownBy w2 v.ownBlock) {i : Nat} (h : wr.heap.size ≤ i ∧ Loose w1 i) (hn : v'.ownBlock ≠ some i) : freshL w2 base v' i :=
  ⟨by omega, hn, (h.2.alloc o).grown hg (fun e => by have := hv i e; omega)⟩
def FreshE (w : World) (base : Nat) (v : Value) (ys : List Value) (es : List Ent) : Prop := EntCells w (freshL w base v) ys es
theorem FreshE.below {w w' : World} {base : Nat} {v : Value} {ys : List Value} {es : List Ent} (h : FreshE w base v ys es) (hb : Below w.heap.size w w') : FreshE w' base v ys es :=
  EntCells.mono (S := freshL w base v) (EntCells.below (S := freshL w base v) h hb) fun _ hi => ⟨hi.1, hi.2.1, hi.2.2.below hb⟩
theorem FreshE.push {base : Nat} {wr w1 w2 : World} {v v' k u : Value} {n : Nat} {ys : List Value} {es : List Ent} {e : Ent} {o : Obj} {t : TypeId} (hown : wr.ownsRow base t 4 v n ys) (hys : FreshE wr base v ys es) (hb1 : Below wr.heap.size wr w1)
    (hk : BytL w1 wr.heap.size k e.key) (hu : BytL w1 wr.heap.size u e.val) (hbase : base ≤ wr.heap.size) (hg : (w1.alloc o).grownBy w2 v.ownBlock) (hat : v'.ownBlock = v.ownBlock ∨ v'.ownBlock = some (w1.alloc o).heap.size) :
    FreshE w2 base v' (ys ++ [k, .int .i64 e.seq, .bool e.dead, u]) (es ++ [e]) := by
  have hal : Below w1.heap.size w1 (w1.alloc o) := (Below.refl _ _).alloc (Nat.le_refl _) _
  have hz := hb1.size
  have old : ∀ x bs, Byt wr (freshL wr base v) x bs → Byt w2 (freshL w2 base v') x bs := fun x bs h =>
    ((h.below hb1).below hal).push hg hat (fun i _ hs => hs.2.1) (fun i _ hs hn => freshL_push hb1 hg hs hn)
  have new : ∀ x bs, BytL w1 wr.heap.size x bs → Byt w2 (freshL w2 base v') x bs := fun x bs h =>
    (Byt.below (S := fun i => wr.heap.size ≤ i ∧ Loose w1 i) h hal).push hg hat (fun i _ hs e => by have := hown.lt i e; omega) (fun i _ hs hn => new_push hbase (fun g hg => (hown.lt g hg).2) hg hs hn)
  exact (EntCells.imp (S := freshL wr base v) hys old).append (EntCells.one (new _ _ hk) (new _ _ hu))
def OwnE (w : World) (base : Nat) (v : Value) (es : List Ent) : Prop := ∃ ys, w.ownsRow base 46 4 v es.length ys ∧ FreshE w base v ys es
theorem OwnE.nil (w : World) (base : Nat) : OwnE w base (.slice none 0 0) [] := ⟨[], World.ownsRow_nil _ _ _ _, trivial⟩
def FreshP (w : World) (base : Nat) (v : Value) (ys : List Value) (es : List Pr) : Prop := PrCells w (freshL w base v) ys es
theorem FreshP.below {w w' : World} {base : Nat} {v : Value} {ys : List Value} {es : List Pr} (h : FreshP w base v ys es) (hb : Below w.heap.size w w') : FreshP w' base v ys es :=
  PrCells.imp (S := freshL w base v) h fun _ _ hx => (hx.below hb).mono fun _ hi => ⟨hi.1, hi.2.1, hi.2.2.below hb⟩
theorem FreshP.push {base : Nat} {wr w1 w2 : World} {v v' k u : Value} {n : Nat} {ys : List Value} {es : List Pr} {e : Pr} {o : Obj} {t : TypeId} (hown : wr.ownsRow base t 2 v n ys) (hys : FreshP wr base v ys es) (hb1 : Below wr.heap.size wr w1)
    (hk : BytL w1 wr.heap.size k e.key) (hu : BytL w1 wr.heap.size u e.val) (hbase : base ≤ wr.heap.size) (hg : (w1.alloc o).grownBy w2 v.ownBlock) (hat : v'.ownBlock = v.ownBlock ∨ v'.ownBlock = some (w1.alloc o).heap.size) :
    FreshP w2 base v' (ys ++ [k, u]) (es ++ [e]) := by
  have hal : Below w1.heap.size w1 (w1.alloc o) := (Below.refl _ _).alloc (Nat.le_refl _) _
  have hz := hb1.size
  have old : ∀ x bs, Byt wr (freshL wr base v) x bs → Byt w2 (freshL w2 base v') x bs := fun x bs h =>
    ((h.below hb1).below hal).push hg hat (fun i _ hs => hs.2.1) (fun i _ hs hn => freshL_push hb1 hg hs hn)
  have new : ∀ x bs, BytL w1 wr.heap.size x bs → Byt w2 (freshL w2 base v') x bs := fun x bs h =>
    (Byt.below (S := fun i => wr.heap.size ≤ i ∧ Loose w1 i) h hal).push hg hat (fun i _ hs e => by have := hown.lt i e; omega) (fun i _ hs hn => new_push hbase (fun g hg => (hown.lt g hg).2) hg hs hn)
  exact (PrCells.imp (S := freshL wr base v) hys old).append (PrCells.one (new _ _ hk) (new _ _ hu))
def OwnP (w : World) (base : Nat) (v : Value) (es : List Pr) : Prop := ∃ ys, w.ownsRow base 75 2 v es.length ys ∧ FreshP w base v ys es
theorem OwnP.nil (w : World) (base : Nat) : OwnP w base (.slice none 0 0) [] := ⟨[], World.ownsRow_nil _ _ _ _, trivial⟩
/-- Merge's: besides none of the heap's blocks. -/
def outL (w : World) (base : Nat) (v sl : Value) (i : Nat) : Prop := outT base v sl i ∧ Loose w i
def OutE (w : World) (base : Nat) (v sl : Value) (ys : List Value) (es : List Ent) : Prop := EntCells w (outL w base v sl) ys es
theorem OutE.below {w w' : World} {base : Nat} {v sl : Value} {ys : List Value} {es : List Ent} (h : OutE w base v sl ys es) (hb : Below w.heap.size w w') : OutE w' base v sl ys es :=
  EntCells.mono (S := outL w base v sl) (EntCells.below (S := outL w base v sl) h hb) fun _ hi => ⟨hi.1, hi.2.below hb⟩
theorem OutE.toFresh {w : World} {base : Nat} {v sl : Value} {ys : List Value} {es : List Ent} (h : OutE w base v sl ys es) : FreshE w base v ys es :=
  EntCells.mono (S := outL w base v sl) h fun _ hi => ⟨Nat.le_of_lt hi.1.1, hi.1.2.1, hi.2⟩
theorem OutE.popped {w w1 : World} {B : Nat} {v sl sl1 : Value} {ys : List Value} {es : List Ent} (h : OutE w B v sl ys es) (ho : Only (fun i => i = B ∨ sl.ownBlock = some i) w w1) (hs : sl1.ownBlock = sl.ownBlock) : OutE w1 B v sl1 ys es := by
  have hd : ∀ i, outL w B v sl i → ¬ (i = B ∨ sl.ownBlock = some i) := fun i ht t => t.elim (fun e => by have := ht.1.1; omega) (fun e => ht.1.2.2 e)
  exact EntCells.mono (S := outL w B v sl) (EntCells.only (T := outL w B v sl) h ho (fun i _ ht => hd i ht)) fun i ht => ⟨⟨ht.1.1, ht.1.2.1, hs ▸ ht.1.2.2⟩, ht.2.only ho (hd i ht)⟩
theorem OutE.push {B : Nat} {wr w1 w2 : World} {v v' sl k u : Value} {n : Nat} {ys : List Value} {es : List Ent} {e : Ent} {o : Obj} {t : TypeId} (hown : wr.ownsRow B t 4 v n ys) (hys : OutE wr B v sl ys es) (hb1 : Below wr.heap.size wr w1)
    (hk : BytL w1 wr.heap.size k e.key) (hu : BytL w1 wr.heap.size u e.val) (hB : B < wr.heap.size) (hsl : ∀ g, sl.ownBlock = some g → g < wr.heap.size) (hg : (w1.alloc o).grownBy w2 v.ownBlock) (hat : v'.ownBlock = v.ownBlock ∨ v'.ownBlock = some (w1.alloc o).heap.size) :
    OutE w2 B v' sl (ys ++ [k, .int .i64 e.seq, .bool e.dead, u]) (es ++ [e]) := by
  have hal : Below w1.heap.size w1 (w1.alloc o) := (Below.refl _ _).alloc (Nat.le_refl _) _
  have hz := hb1.size
  have old : ∀ x bs, Byt wr (outL wr B v sl) x bs → Byt w2 (outL w2 B v' sl) x bs := fun x bs h =>
    ((h.below hb1).below hal).push hg hat (fun i _ hs => hs.1.2.1) (fun i _ hs hn => ⟨⟨hs.1.1, hn, hs.1.2.2⟩, ((hs.2.below hb1).alloc o).grown hg hs.1.2.1⟩)
  have new : ∀ x bs, BytL w1 wr.heap.size x bs → Byt w2 (outL w2 B v' sl) x bs := fun x bs h =>
    (Byt.below (S := fun i => wr.heap.size ≤ i ∧ Loose w1 i) h hal).push hg hat (fun i _ hs e => by have := hown.lt i e; omega)
      (fun i _ hs hn => ⟨⟨by have := hs.1; omega, hn, fun e => by have := hsl i e; have := hs.1; omega⟩, (hs.2.alloc o).grown hg (fun e => by have := hown.lt i e; have := hs.1; omega)⟩)
  exact (EntCells.imp (S := outL wr B v sl) hys old).append (EntCells.one (new _ _ hk) (new _ _ hu))
theorem OutE.pushed {w4 w5 : World} {B : Nat} {v sl1 sl2 : Value} {cs : List Value} {os : List Ent} (h : OutE w4 B v sl1 cs os) (ho : Only (fun i => i = B ∨ sl1.ownBlock = some i) w4 w5)
    (hs : sl2.ownBlock = sl1.ownBlock ∨ ∃ g, sl2.ownBlock = some g ∧ w4.heap.size ≤ g) : OutE w5 B v sl2 cs os := by
  have hd : ∀ i, outL w4 B v sl1 i → ¬ (i = B ∨ sl1.ownBlock = some i) := fun i ht t => t.elim (fun e => by have := ht.1.1; omega) (fun e => ht.1.2.2 e)
  refine EntCells.mono (S := outL w4 B v sl1) (EntCells.only (T := outL w4 B v sl1) h ho (fun i _ ht => hd i ht)) fun i ht => ⟨⟨ht.1.1, ht.1.2.1, fun e => ?_⟩, ht.2.only ho (hd i ht)⟩
  rcases hs with hs | ⟨g, hg, hlt⟩
  · exact ht.1.2.2 (hs ▸ e)
  · rw [hg] at e
    injection e with e
    have := ht.2.lt
    omega
end Go.Proofs.Ytacdhkkelkplnaa
end
section
namespace Go.Proofs.Ytacdhkkelkplnaa
open Go.RowKit Go.BigFrame
attribute [local go_sem ↓] Go.wp_at_zero Go.wp_at_succ
/-- blocks of T alone have turned, and bytes there are still xs many bytes. -/
structure Spoil (T : Nat → Prop) (w w' : World) : Prop where
  only : Only T w w'
  byt : ∀ v bs, Byt w T v bs → ∃ bs' : List UInt8, bs'.length = bs.length ∧ Byt w' T v bs'
  loose : ∀ i, Loose w i → Loose w' i
theorem Spoil.refl (T : Nat → Prop) (w : World) : Spoil T w w := ⟨Only.refl _ _, fun _ bs h => ⟨bs, rfl, h⟩, fun _ h => h⟩
theorem Spoil.trans {T : Nat → Prop} {a b c : World} (h : Spoil T a b) (k : Spoil T b c) : Spoil T a c :=
  ⟨h.only.trans k.only, fun v bs hb => by
    obtain ⟨b1, l1, h1⟩ := h.byt v bs hb
    obtain ⟨b2, l2, h2⟩ := k.byt v b1 h1
    exact ⟨b2, by omega, h2⟩, fun i hi => k.loose i (h.loose i hi)⟩
theorem Spoil.drew {T : Nat → Prop} {w : World} : Spoil T w w.drew := ⟨(Only.refl _ _).drew, fun _ bs h => ⟨bs, rfl, h⟩, fun _ h => h⟩
theorem Spoil.store {T : Nat → Prop} {w : World} {b p : Nat} (hT : T b) (hL : Loose w b) (c : UInt8) : Spoil T w (w.setCell ⟨b, p, none⟩ (bcell c)) := by
  obtain ⟨cs, hh⟩ := hL
  have hs := heap_setCell_same w b p cs _ (bcell c) hh
  refine ⟨(only_set w b p (bcell c)).mono fun i hi => hi ▸ hT, fun v bs h => ?_, fun i hi => ?_⟩
  · obtain ⟨A, ca, rfl, h1, h2, h3, hr⟩ := h
    rcases Nat.eq_zero_or_pos bs.length with h0 | h0
    · have : bs = [] := List.eq_nil_of_length_eq_zero h0
      subst this
      exact ⟨[], rfl, A, ca, rfl, h1, h2, h3, Row.nil _ _ _ _⟩
    · obtain ⟨b', o, rfl, hS, hlt, hc⟩ := hr.2 h0
      by_cases hbb : b' = b
      · subst hbb
        refine ⟨if o ≤ p then bs.set (p - o) c else bs, by split <;> simp, some ⟨b', o, none⟩, ca, by split <;> simp, by split <;> simpa using h1, h2, by split <;> simpa using h3, by split <;> simp, fun _ => ⟨b', o, rfl, hS, by simpa [World.setCell] using hlt, fun j u hu => ?_⟩⟩
        rw [cell_of_row _ _ _ _ _ _ hs]
        have key : ∀ j u, (bs.map bcell)[j]? = some u → cs[o + j]? = some u := fun j u hu => by
          have := hc j u hu
          rwa [cell_of_row _ _ _ _ _ _ hh] at this
        by_cases hop : o ≤ p
        · rw [if_pos hop, List.map_set, List.getElem?_set] at hu
          by_cases hj : p - o = j
          · rw [if_pos hj] at hu
            split at hu
            · rename_i hjl
              simp only [Option.some.injEq] at hu
              have hjl' : j < bs.length := by simpa [hj] using hjl
              obtain ⟨u0, hu0⟩ : ∃ u, (bs.map bcell)[j]? = some u := ⟨_, List.getElem?_eq_getElem (by simpa using hjl')⟩
              have h5 := (Array.getElem?_eq_some_iff.1 (key j u0 hu0)).1
              rw [show o + j = p by omega] at h5 ⊢
              rw [Array.getElem?_setIfInBounds_self, if_pos h5, hu]
            · cases hu
          · rw [if_neg hj] at hu
            rw [Array.getElem?_setIfInBounds_ne (by omega)]
            exact key j u hu
        · rw [if_neg hop] at hu
          rw [Array.getElem?_setIfInBounds_ne (by omega)]
          exact key j u hu
      · refine ⟨bs, rfl, some ⟨b', o, none⟩, ca, rfl, h1, h2, h3, hr.1, fun _ => ⟨b', o, rfl, hS, by simpa [World.setCell] using hlt, fun j u hu => ?_⟩⟩
        rw [World.cell?_of_block (w' := w.setCell ⟨b, p, none⟩ (bcell c)) (w := w) (a := ⟨b', o + j, none⟩) (heap_setCell_other w ⟨b, p, none⟩ b' _ hbb)]
        exact hc j u hu
  · by_cases hib : i = b
    · subst hib; exact ⟨_, hs⟩
    · exact hi.of_eq (heap_setCell_other w ⟨b, p, none⟩ i _ hib)
theorem u8_next (c : UInt8) : Value.int .u8 (((c.toNat : Int) + 1) % 256) = bcell (c + 1) := by
  unfold bcell
  have : ((c.toNat : Int) + 1) % 256 = ((c + 1).toNat : Int) := by simp [UInt8.toNat_add]
  rw [this]
theorem Loose.frozen {w : World} {b p : Nat} (h : Loose w b) : w.frozen? ⟨b, p, none⟩ = false := by
  obtain ⟨cs, h⟩ := h
  exact frozen_of_row w b p cs _ h
end Go.Proofs.Ytacdhkkelkplnaa
end
