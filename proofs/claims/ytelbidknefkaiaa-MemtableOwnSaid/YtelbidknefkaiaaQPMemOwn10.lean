/-
Merge: what it answers may be written to.
-/
import Derived.Test.YtelbidknefkaiaaQPMemOwn9
section
namespace Go.Proofs.Ytelbidknefkaiaa
open Go.RowKit
attribute [local go_sem ↓] Go.wp_at_zero Go.wp_at_succ
set_option maxRecDepth 100000 in
set_option maxHeartbeats 4000000 in
theorem visL_any (S : Nat → Prop) (v : Value) (es : List Ent) (seq : Int) (w : World) (hv : Ents w S v es) :
    Calls Try.prog 26 #[v, .int .i64 seq] w fun r w' => ∃ v', r = .returned (.tuple #[v', .int .i64 (if orderedE es then 0 else 30)]) ∧ OwnP w' w.heap.size v' (if orderedE es then visC seq [] es else []) ∧ Below w.heap.size w w' := by
  obtain ⟨i0, hi, hz0, hz1, hz2⟩ := info_parts info65
  have hby := Lib.hid hz2
  have hz1' := Lib.hid hz1
  clear hz2 hz1
  have HORD := Lib.hid (ordered_any S v es w hv)
  replace hv := hv.lt
  obtain ⟨S0, hS0⟩ : ∃ S0 : Nat → Prop, S0 = fun i => i < w.heap.size := ⟨_, rfl⟩
  rw [← hS0] at hv
  have HS0 := Lib.hid hS0
  clear hS0
  obtain ⟨A, c, cs, rfl, hc, hcm, hl, hr, he⟩ := hv
  obtain ⟨n, hn⟩ : ∃ n, es.length = n := ⟨_, rfl⟩
  rw [hn] at hr hl HORD ⊢
  have HN := Lib.hid hn
  clear hn
  rcases ho : orderedE es with _ | _
  · rw [ho] at HORD
    clear ho
    go_enter Try.func26, Try.ntmps26
    go_wp2_with (go_at_call 43; refine HORD.out.mono ?_; rintro r w1 ⟨rfl, hb1⟩)
    refine bodyPost_ret (v := .tuple #[_, _]) (by simp [results, Try.results26, go_sem]; exact ⟨rfl, rfl⟩) rfl ?_
    exact ⟨_, rfl, OwnP.nil _ _, hb1⟩
  · rw [ho] at HORD
    clear ho
    go_enter Try.func26, Try.ntmps26
    go_wp2_with (go_at_call 43; refine HORD.out.mono ?_; rintro r w0 ⟨rfl, hb0⟩)
    go_loopw [6, 7, 9, 15] (fun v8 v9 _ t wr => ∃ k : Nat, ∃ a : List UInt8, ∃ ys : List Value, ∃ os : List Pr, k ≤ n ∧ t = .int .i64 k ∧ wr.ownsRow w.heap.size 65 2 v8 os.length ys ∧ FreshP wr w.heap.size v8 ys os ∧ Byt wr S0 v9 a ∧ visC seq [] es = os ++ visC seq a (es.drop k) ∧ os.length ≤ k ∧ Below w.heap.size w wr) (fun _ _ _ t _ => n - (intOf t).toNat)
    case atStart => exact ⟨0, [], [], [], by omega, rfl, World.ownsRow_nil _ _ _ _, trivial, Byt.nil _ _, rfl, by simp, hb0⟩
    case round =>
      obtain ⟨k, a, ys, os, hk, rfl, hown, hys, hah, hpre, hol, hbel⟩ := hrel
      by_cases hkn : k < n
      · obtain ⟨e, hek⟩ : ∃ e, es[k]? = some e := ⟨_, List.getElem?_eq_getElem (by rw [HN.out]; exact hkn)⟩
        obtain ⟨b, o, kk, uu, rfl, c0, c1, c2, c3, b1, b2, _, _⟩ := (hr.below hbel).ent (he.below hbel) HN.out hek
        obtain ⟨dd, hdd⟩ : ∃ d, e.dead = d := ⟨_, rfl⟩
        rw [hdd] at c2
        have HDD := Lib.hid hdd
        have HO := Lib.hid hown
        have HEK := Lib.hid hek
        have HST := Lib.hid (visC_step (seq := seq) a hek)
        have HPRE := Lib.hid hpre
        have hal : Below wr.heap.size wr (wr.alloc (.cells #[kk, .int .i64 e.seq, .bool dd, uu] 26)) := (Below.refl _ _).alloc (Nat.le_refl _) _
        have HB := Lib.hid (hbel.trans (hal.mono hbel.size))
        have HKA := Lib.hid (b1.below hal)
        have HVA := Lib.hid (b2.below hal)
        have HAH := Lib.hid (hah.below hal)
        have HO1 := Lib.hid (own_below hown hal)
        have HYS := Lib.hid (hys.below hal)
        obtain ⟨Ak, ck, rfl⟩ := slice_form b1
        obtain ⟨Au, cu, rfl⟩ := slice_form b2
        obtain ⟨Aa, ca, rfl⟩ := slice_form hah
        clear hek hdd b1 b2 hown hpre hbel hah hys
        have HEQ := bequal_any S0 S0 _ _ a e.key _ HAH.out HKA.out
        by_cases hs : seq < e.seq
        · have HS := Lib.hid hs
          clear HEQ
          go_wp2
          refine ⟨⟨k + 1, a, ys, os, by omega, by go_num, HO1.out, HYS.out, HAH.out, ?_, by omega, HB.out⟩, by simp [intOf]; omega⟩
          rw [HPRE.out, HST.out, if_pos HS.out]
        · have HS := Lib.hid hs
          by_cases hak : a = e.key
          · rw [decide_eq_true hak] at HEQ
            have HE := Lib.hid HEQ
            have HAK := Lib.hid hak
            clear HEQ hak
            go_wp2_with (go_at_call 34; refine HE.out.mono ?_; rintro r w1 ⟨rfl, rfl⟩)
            refine ⟨⟨k + 1, a, ys, os, by omega, by go_num, HO1.out, HYS.out, HAH.out, ?_, by omega, HB.out⟩, by simp [intOf]; omega⟩
            rw [HPRE.out, HST.out, if_neg (show ¬ seq < e.seq by have := HS.out; omega), if_pos HAK.out]
          · rw [decide_eq_false hak] at HEQ
            have HE := Lib.hid HEQ
            clear HEQ
            rcases dd with _ | _
            · go_wp2_with (go_at_call 34; refine HE.out.mono ?_; rintro r w1 ⟨rfl, rfl⟩)
              have K0 : (wr.alloc (.cells #[.slice Ak e.key.length ck, .int .i64 e.seq, .bool false, .slice Au e.val.length cu] 26)).cell? ⟨wr.heap.size, 0, none⟩ = some (.slice Ak e.key.length ck) := by simp [go_sem]
              have K3 : (wr.alloc (.cells #[.slice Ak e.key.length ck, .int .i64 e.seq, .bool false, .slice Au e.val.length cu] 26)).cell? ⟨wr.heap.size, 3, none⟩ = some (.slice Au e.val.length cu) := by simp [go_sem]
              generalize hW0 : wr.alloc (.cells #[.slice Ak e.key.length ck, .int .i64 e.seq, .bool false, .slice Au e.val.length cu] 26) = W0 at *
              have K0h := Lib.hid K0
              have K3h := Lib.hid K3
              have hW0h := Lib.hid hW0
              clear K0 K3 hW0
              have hf0 : fr W0 W0.drew := fr.refl.drew
              go_region_held3 (fun w' => w'.cell? ⟨wr.heap.size, 0, none⟩ = some (.slice Ak e.key.length ck) ∧ w'.cell? ⟨wr.heap.size, 3, none⟩ = some (.slice Au e.val.length cu))
                (first
                  | with_reducible exact fr.two hf0 K0h.out K3h.out
                  | with_reducible exact hs3
                  | with_reducible exact fr.two hf2 K0h.out K3h.out
                  | with_reducible exact fr.two (fr.alloc hf2 _) K0h.out K3h.out
                  | with_reducible exact fr.two hf1 K0h.out K3h.out)
                (first
                  | (go_split_ands; go_at_call 46; with_reducible (refine (bcloneL_any S0 (.slice Ak e.key.length ck) e.key _ ?_).mono ?_); (with_reducible exact fr.byt hf0 HKA.out); rintro r w1 ⟨v1, rfl, hk', hb1⟩; obtain ⟨Ak', ck', rfl⟩ := slice_form hk'.byt; have hf1 := fr.step hf0 hb1)
                  | (go_split_ands; go_at_call 46; with_reducible (refine (bcloneL_any S0 (.slice Au e.val.length cu) e.val _ ?_).mono ?_); (with_reducible exact fr.byt hf1 HVA.out); rintro r w2 ⟨v1, rfl, hu', hb2⟩; obtain ⟨Au', cu', rfl⟩ := slice_form hu'.byt; have hf2 := fr.step hf1 hb2)
                  | (go_split_ands; refine step_append_own_at (by rfl) _ _ 49 (by rfl) w.heap.size 65 i0 _ 2 48 Try.underlying49 hi hz0 hz1'.out hby.out rfl (by decide) _ _ _ (by rfl) ((own_below HO1.out hf2).alloc _) ⟨w2.heap.size, 0, none⟩ 1 1 [.slice Ak' e.key.length ck', .slice Au' e.val.length cu'] (by rfl) rfl (cell_two_new _ _ _ _) (by simp [Value.oneCell']) (by unfold maxLen; omega) (by omega) (by have := HB.out.size; have := Below.size hf2; simp; omega) ?_; intro v' w3 hown' hgrow hat; have hs3 := fr.grown (fr.alloc hf2 _) K0h.out K3h.out hgrow (fun e => by have := (HO.out.lt _ e).2; omega)))
              have hz1 : W0.heap.size ≤ w1.heap.size := by have := hb1.size; simpa using this
              have hkk := (hk'.below hb2).mono (lo' := W0.heap.size) (by simp)
              have huu := hu'.mono (lo' := W0.heap.size) (by omega)
              go_wp2
              refine ⟨⟨k + 1, e.key, _, os ++ [⟨e.key, e.val⟩], by omega, by go_num, (by rw [List.length_append]; exact hown'), FreshP.push (e := ⟨e.key, e.val⟩) HO1.out HYS.out hf2 hkk huu HB.out.size hgrow hat, ((fr.byt hf2 HKA.out).below ((Below.refl _ _).alloc (Nat.le_refl _) _)).push hgrow hat (fun i _ hs e => by have := HO1.out.lt i e; rw [HS0.out] at hs; omega) (fun i _ hs _ => hs), ?_, by simp; omega, ((HB.out.trans (Below.mono hf2 HB.out.size)).alloc (by have := HB.out.size; have := Below.size hf2; omega) _).grown hgrow (by have := HB.out.size; have := Below.size hf2; simp; omega) (fun j e => (HO1.out.lt j e).1)⟩, by simp [intOf]; omega⟩
              rw [HPRE.out, HST.out, if_neg (show ¬ seq < e.seq by have := HS.out; omega), if_neg hak, HDD.out]; simp
            · go_wp2_with (go_at_call 34; refine HE.out.mono ?_; rintro r w1 ⟨rfl, rfl⟩)
              refine ⟨⟨k + 1, e.key, ys, os, by omega, by go_num, HO1.out, HYS.out, HKA.out, ?_, by omega, HB.out⟩, by simp [intOf]; omega⟩
              rw [HPRE.out, HST.out, if_neg (show ¬ seq < e.seq by have := HS.out; omega), if_neg hak, HDD.out, if_pos rfl]
      · obtain rfl : k = n := by omega
        have HO := Lib.hid hown
        have HP := Lib.hid hpre
        clear hown hpre
        go_wp2
        refine bodyPost_ret (v := .tuple #[_, _]) (by simp [results, Try.results26, go_sem]; exact ⟨rfl, rfl⟩) rfl ?_
        refine ⟨_, rfl, ?_, hbel⟩
        have e1 : es.drop k = [] := List.drop_eq_nil_of_le (by rw [HN.out]; exact Nat.le_refl _)
        rw [HP.out, e1, visC, List.append_nil]
        exact ⟨ys, HO.out, hys⟩
end Go.Proofs.Ytelbidknefkaiaa
end
section
namespace Go.Proofs.Ytelbidknefkaiaa
open Go.RowKit Go.BigFrame
attribute [local go_sem ↓] Go.wp_at_zero Go.wp_at_succ
set_option maxRecDepth 100000 in
set_option maxHeartbeats 4000000 in
theorem mergeL_any (S : Nat → Prop) (v : Value) (ls : List (List Ent)) (w : World) (hv : Lists w S v ls) (hS : ∀ i, S i → i < w.heap.size) (hN : total ls * 64 ≤ 140737488355328) :
    Calls Try.prog 23 #[v] w fun r w' => ∃ v', r = .returned (.tuple #[v', .int .i64 (mergeC ls).2]) ∧ OwnE w' w.heap.size v' (mergeC ls).1 ∧ Below w.heap.size w w' := by
  obtain ⟨i0, hi, hz0, hz1, hz2⟩ := info_parts info26
  have hby := Lib.hid hz2
  have hz1' := Lib.hid hz1
  clear hz2 hz1
  obtain ⟨A, c, vs, rfl, hc, hcm, hl, hr, he⟩ := hv
  obtain ⟨n, hn⟩ : ∃ n, ls.length = n := ⟨_, rfl⟩
  rw [hn] at hr hl hc ⊢
  have HN := Lib.hid hn
  have HSS := Lib.hid hS
  have HE := Lib.hid he
  have HR := Lib.hid hr
  obtain ⟨R, hR⟩ : ∃ R, mergeC ls = R := ⟨_, rfl⟩
  rw [hR]
  have HRR := Lib.hid hR
  clear hn he hr hS hR
  go_enter Try.func23, Try.ntmps23
  go_wp2
  go_loopw [13] (fun t wr => ∃ (k : Nat) (sl : Value) (ps : List (Value × List Ent)), k ≤ n ∧ t = .int .i64 k ∧ HeapV wr w.heap.size w.heap.size S sl ps ∧ ps.map (·.2) = heapOf (ls.take k) ∧ (ls.take k).all orderedE = true ∧ ps.length ≤ k ∧ Below w.heap.size w wr) (fun t _ => n - (intOf t).toNat)
  case atStart => exact ⟨0, _, [], Nat.zero_le _, rfl, HeapV.init w S HSS.out, rfl, rfl, by simp, (Below.refl _ _).alloc (Nat.le_refl _) _⟩
  case round =>
    obtain ⟨k, sl, ps, hk, rfl, hh, hps, hall, hpl, hbel⟩ := hrel
    have HH := Lib.hid hh
    have HPS := Lib.hid hps
    have HALL := Lib.hid hall
    have HB := Lib.hid hbel
    clear hh hps hall hbel
    by_cases hkn : k < n
    · obtain ⟨l, hlk⟩ : ∃ l, ls[k]? = some l := ⟨_, List.getElem?_eq_getElem (by rw [HN.out]; exact hkn)⟩
      obtain ⟨x, hx, hxe⟩ := HE.out k l hlk
      obtain ⟨b, o, u, rfl, _, _, hu, hcell⟩ := (HR.out.below HB.out).at_ hkn
      obtain rfl : u = x := by rw [hx] at hu; injection hu with hu; exact hu.symm
      replace hxe := hxe.below HB.out
      obtain ⟨Ax, cx, rfl⟩ := ents_form hxe
      have HX := Lib.hid hxe
      have HLK := Lib.hid hlk
      have HORD := Lib.hid (ordered_any S _ l wr hxe)
      clear hx hxe hu hlk
      rcases ho : orderedE l with _ | _
      · rw [ho] at HORD
        have HF := Lib.hid (all_false_at HLK.out ho)
        clear ho
        go_wp2_with (go_at_call 43; refine HORD.out.mono ?_; rintro r w1 ⟨rfl, hb1⟩)
        refine bodyPost_ret (v := .tuple #[_, _]) (by simp [results, Try.results23, go_sem]; exact ⟨rfl, rfl⟩) rfl ?_
        obtain rfl : R = ([], 30) := by rw [← HRR.out]; unfold mergeC; rw [HF.out]; rfl
        exact ⟨_, rfl, OwnE.nil _ _, HB.out.trans (hb1.mono HB.out.size)⟩
      · rw [ho] at HORD
        have HT := Lib.hid (all_take_snoc HLK.out HALL.out ho)
        clear ho
        have HSN := Lib.hid (heapOf_snoc (ls.take k) l)
        have HTK := Lib.hid (take_snoc HLK.out)
        cases l with
        | nil =>
          go_wp2_with (go_at_call 43; refine HORD.out.mono ?_; rintro r w1 ⟨rfl, hb1⟩)
          refine ⟨⟨k + 1, sl, ps, by omega, by go_num, HH.out.below hb1, ?_, HT.out, by omega, HB.out.trans (hb1.mono HB.out.size)⟩, by simp [intOf]; omega⟩
          rw [HTK.out, HSN.out, HPS.out]; simp
        | cons e l =>
          go_wp2_with (first
            | (go_at_call 43; refine HORD.out.mono ?_; rintro r w1 ⟨rfl, hb1⟩)
            | (go_at_call 44; refine (push_any w.heap.size w.heap.size S sl _ ps (e :: l) _ (HH.out.below hb1) (HX.out.below hb1) (by simp) (by omega)).mono ?_; rintro r w2 ⟨rfl, hpu⟩))
          have hB := HB.out.size
          have hB1 := hb1.size
          have hbl := hpu.below (Nat.le_refl _) (fun g hg => (HH.out.row.lt g hg).1) (by omega)
          obtain ⟨sl', hh2, _, _⟩ := hpu
          refine ⟨⟨k + 1, sl', _, by omega, by go_num, hh2, ?_, HT.out, ?_, (HB.out.trans (hb1.mono HB.out.size)).trans hbl⟩, by simp [intOf]; omega⟩
          · rw [HTK.out, HSN.out, if_neg (by simp), ← HPS.out]
            exact pushL_map (·.2) id ps (_, e :: l)
          · rw [(siftUp_perm _ _ _).length_eq]; simp; omega
    · obtain rfl : k = n := by omega
      have hmc : R = mergeGo (total ls) (heapOf ls) [] := by
        rw [← HRR.out]
        unfold mergeC
        have := HALL.out
        rw [List.take_of_length_le (by rw [HN.out]; exact Nat.le_refl _)] at this
        rw [if_pos this]
      have hps0 : ps.map (·.2) = heapOf ls := by
        have := HPS.out
        rwa [List.take_of_length_le (by rw [HN.out]; exact Nat.le_refl _)] at this
      have htot : total (ps.map (·.2)) = total ls := by rw [hps0, heapOf_total]
      rw [← hps0] at hmc
      have HMC := Lib.hid hmc
      have HTOT := Lib.hid htot
      obtain ⟨N, hNN⟩ : ∃ N, total ls = N := ⟨_, rfl⟩
      rw [hNN] at hN HTOT HMC
      have HW := Lib.hid HB.out.size
      clear hmc hps0 htot hNN
      go_wp2
      go_loopw [7] (fun v7 wr => ∃ (out : List Ent) (ys : List Value) (sl : Value) (ps : List (Value × List Ent)), HeapV wr w.heap.size w.heap.size S sl ps ∧ wr.ownsRow w.heap.size 26 4 v7 out.length ys ∧ OutE wr w.heap.size v7 sl ys out ∧
        (∀ g, v7.ownBlock = some g → g ≠ w.heap.size ∧ sl.ownBlock ≠ some g) ∧ R = mergeGo (N - out.length) (ps.map (·.2)) out ∧ out.length + total (ps.map (·.2)) = N ∧ ps.length ≤ k ∧ Below w.heap.size w wr) (fun v7 _ => N - sliceLen v7)
      case atStart => exact ⟨[], [], sl, ps, HH.out, World.ownsRow_nil _ _ _ _, trivial, (fun g h => by simp [Value.ownBlock] at h), HMC.out, by simpa using HTOT.out, hpl, HB.out⟩
      case round =>
        clear HH HPS HALL HB HTOT HMC hpl
        clear sl ps
        obtain ⟨out, ys, sl, ps, hh, hown, hys, hdis, hgo, htot, hpl, hbel⟩ := hrel
        have HH := Lib.hid hh
        have HOWN := Lib.hid hown
        have HYS := Lib.hid hys
        have HDIS := Lib.hid hdis
        have HGO := Lib.hid hgo
        have HTOT := Lib.hid htot
        have HB := Lib.hid hbel
        clear hh hown hys hdis hgo htot hbel
        cases ps with
        | nil =>
          obtain ⟨A', c', rfl⟩ := own_form HH.out.row
          have c0 : wr.cell? { block := w.heap.size, off := 0 } = some (.slice A' 0 c') := HH.out.box0
          go_wp2
          obtain rfl : R = (out, 0) := by rw [HGO.out]; exact mergeGo_nil _ _
          refine bodyPost_ret (v := .tuple #[_, _]) (by simp [results, Try.results23, go_sem]; exact ⟨rfl, rfl⟩) rfl ?_
          refine ⟨_, rfl, ?_, HB.out⟩
          exact ⟨ys, HOWN.out, HYS.out.toFresh⟩
        | cons q ps =>
          obtain ⟨v0, l0⟩ := q
          obtain ⟨y0, y0n⟩ := HH.out.vals (v0, l0) (by simp)
          obtain ⟨e, l, rfl⟩ := List.exists_cons_of_ne_nil y0n
          obtain ⟨b0, o0, c00, k0, u0, rfl, x0, x1, x2, x3, z1, z2⟩ := y0.head
          obtain ⟨g, cg, rfl, hbg, hgz, hgc, hgm⟩ := own_pos HH.out.row (by simp)
          obtain ⟨A7, c7, rfl⟩ := own_form HOWN.out
          have c0 : wr.cell? { block := w.heap.size, off := 0 } = some (.slice (some ⟨g, 0, none⟩) (ps.length + 1) cg) := HH.out.box0
          obtain ⟨K, hK⟩ : ∃ K, N - out.length = K + 1 := ⟨N - out.length - 1, by have := HTOT.out; simp [total] at this; omega⟩
          have HGO' := Lib.hid (show R = if twice out e = true then ([], 31) else mergeGo K (if l = [] then popL id ((e :: l) :: ps.map (·.2)) else pushL id (popL id ((e :: l) :: ps.map (·.2))) l) (out ++ [e]) by
            have := HGO.out; rw [hK] at this; exact this)
          have HKK := Lib.hid hK
          have HY0 := Lib.hid y0
          have X0 := Lib.hid x0
          have X1 := Lib.hid x1
          have X2 := Lib.hid x2
          have X3 := Lib.hid x3
          obtain ⟨m, hm⟩ : ∃ m, out.length = m := ⟨_, rfl⟩
          have HM := Lib.hid hm
          rw [hm] at HOWN HYS HDIS HTOT
          rw [hm]
          clear hK y0 y0n x0 x1 x2 x3 HGO hm
          go_wp2_with (go_at_call 45; refine (pop_any w.heap.size w.heap.size S _ _ _ _ HH.out rfl (by simp at hpl ⊢; omega)).mono ?_; rintro r w1 ⟨rfl, hpo⟩)
          obtain ⟨sl1, hh1, ho1, hs1⟩ := hpo
          have hlt := HH.out.row.lt
          have hown1 := own_only HOWN.out ho1 (fun g' hg' t => t.elim (fun e => (HDIS.out g' hg').1 e) (fun e => (HDIS.out g' hg').2 e))
          have hys1 : OutE w1 w.heap.size (.slice A7 m c7) sl1 ys out := HYS.out.popped ho1 hs1
          have hy1 := HY0.out.only ho1 (fun i _ hs t => by have := HSS.out i hs; rcases t with t | t; omega; have := (hlt i t).1; omega)
          have hdis1 : ∀ g', (Value.slice A7 m c7).ownBlock = some g' → g' ≠ w.heap.size ∧ sl1.ownBlock ≠ some g' := fun g' hg' => by rw [hs1]; exact HDIS.out g' hg'
          have hbel1 : Below w.heap.size w w1 := HB.out.trans (ho1.below HB.out.size (fun i t => by rcases t with t | t; omega; exact (hlt i t).1))
          obtain ⟨_, hc1, hc2, k0, u0, x0, x1, x2, x3, z1, z2⟩ := hy1.head'
          have HH1 := Lib.hid hh1
          have HOWN1 := Lib.hid hown1
          have HYS1 := Lib.hid hys1
          have HY1 := Lib.hid hy1
          have HDIS1 := Lib.hid hdis1
          have HB1 := Lib.hid hbel1
          have Z1 := Lib.hid z1
          have Z2 := Lib.hid z2
          clear hh1 ho1 hs1 hlt hown1 hys1 hy1 hdis1 hbel1 z1 z2 X0 X1 X2 X3 HOWN HYS HDIS HB HY0 HH hk hkn
          have G0 : ∀ q : Ext w1, q.w.cell? { block := b0, off := o0 } = _ := fun q => q.h.cell x0
          have G1 : ∀ q : Ext w1, q.w.cell? { block := b0, off := o0 + 1 } = _ := fun q => q.h.cell x1
          have G2 : ∀ q : Ext w1, q.w.cell? { block := b0, off := o0 + 2 } = _ := fun q => q.h.cell x2
          have G3 : ∀ q : Ext w1, q.w.cell? { block := b0, off := o0 + 3 } = _ := fun q => q.h.cell x3
          have X0 := Lib.hid x0
          have X1 := Lib.hid x1
          have X2 := Lib.hid x2
          have X3 := Lib.hid x3
          clear x0 x1 x2 x3
          rcases List.eq_nil_or_concat out with hnil | ⟨os, o, hcon⟩
          · have hm0 : m = 0 := by rw [← HM.out, hnil]; rfl
            have hgd : decide (0 < m) = false := by simp [hm0]
            have htw : Hid (twice out e = false) := Lib.hid (by rw [hnil]; rfl)
            have HM0 := Lib.hid hm0
            have HNIL := Lib.hid hnil
            clear hm0 hnil
            (refine wp_region_quiet_ext (by kernel_rfl) (by kernel_rfl) ?_; (repeat (go_big_quiet_step (fail))); refine wpQuiet_nil ?_; intro wq hw'; obtain ⟨⟨_, hq⟩, hw''⟩ := hw'; subst hw'')
            have htw0 := htw.out
            clear htw
            have HHQ := Lib.hid (HH1.out.below hq)
            have HOQ := Lib.hid (own_below HOWN1.out hq)
            have HYQ := Lib.hid (HYS1.out.below hq)
            have HXQ := Lib.hid (HY1.out.below hq)
            have HBQ := Lib.hid (HB1.out.trans (Below.mono hq HB1.out.size))
            have HEV := Lib.hid ((show EntV w1 S (.agg #[k0, .int .i64 e.seq, .bool e.dead, u0]) e from ⟨_, _, rfl, Z1.out, Z2.out⟩).below hq)
            have x0 := fr.cell hq X0.out
            have x1 := fr.cell hq X1.out
            have x2 := fr.cell hq X2.out
            have x3 := fr.cell hq X3.out
            have hmN : m + 1 ≤ N := by have := HKK.out; have := HM.out; omega
            have HD7 : Hid (∀ g', (Value.slice A7 m c7).ownBlock = some g' → w.heap.size ≤ g' ∧ g' ≠ w.heap.size ∧ sl1.ownBlock ≠ some g') := Lib.hid fun g' hg' => ⟨(HOQ.out.lt g' hg').1, HDIS1.out g' hg'⟩
            have hBz : w.heap.size < wq.heap.size := HHQ.out.lt
            have HTW := Lib.hid (HGO'.out.trans (if_neg (by rw [htw0]; simp)))
            have hpl' : ps.length + 1 ≤ k := by simpa using hpl
            clear hq G0 G1 G2 G3 htw0 hpl
            by_cases hl : l = []
            · have hl0 : l.length ≤ 0 := by rw [hl]; simp
              have HL := Lib.hid hl
              clear hl
              go_wp2_with (first
                | (go_at_call 35; refine (ecloneL_any S _ e _ HEV.out).mono ?_; rintro r w3 ⟨v1, rfl, ⟨k', u', rfl, hk', hu'⟩, hb3⟩; obtain ⟨Ak, ck, rfl⟩ := slice_form hk'; obtain ⟨Au, cu, rfl⟩ := slice_form hu')
                | (at_builtin; refine wpList_append_own_at _ rfl _ _ 22 rfl w.heap.size 26 i0 _ 4 64 Try.underlying22 hi hz0 hz1'.out hby.out rfl (by decide) _ _ _ rfl ((own_below HOQ.out hb3).alloc _) ⟨w3.heap.size, 0, none⟩ 1 1 [.slice Ak e.key.length ck, .int .i64 e.seq, .bool e.dead, .slice Au e.val.length cu] rfl rfl (cell_four_new _ _ _ _ _ _) (by simp [Value.oneCell']) (by unfold maxLen; omega) (by omega) (by have := HBQ.out.size; have := hb3.size; simp; omega) ?_; intro v' w4 hown' hgrow hnn hat; clear hnn))
              obtain ⟨A8, c8, rfl⟩ := own_form hown'
              have hH4 := HHQ.out.thru hb3 hgrow HD7.out
              have hE4 : OutE w4 w.heap.size (.slice A8 (m + 1) c8) sl1 (ys ++ [.slice Ak e.key.length ck, .int .i64 e.seq, .bool e.dead, .slice Au e.val.length cu]) (out ++ [e]) := OutE.push HOQ.out HYQ.out hb3 hk' hu' hBz (fun g hg => (HHQ.out.row.lt g hg).2) hgrow hat
              have hD4 := dis_grown HDIS1.out hat (by have := hb3.size; omega) (fun g hg => by have := HHQ.out.row.lt g hg; have := hb3.size; omega)
              refine ⟨⟨out ++ [e], _, sl1, _, hH4, (by rw [List.length_append, HM.out]; exact hown'), hE4, hD4, ?_, ?_, ?_, ((HBQ.out.trans (hb3.mono HBQ.out.size)).alloc (by have := HBQ.out.size; have := hb3.size; omega) _).grown hgrow (by have := HBQ.out.size; have := hb3.size; simp; omega) (fun j e => (HOQ.out.lt j e).1)⟩, ?_⟩
              · rw [HTW.out, if_pos HL.out, show N - (out ++ [e]).length = K by have := HKK.out; simp; omega]
                exact congrArg (fun h => mergeGo K h (out ++ [e])) (popV_map ((Value.slice (some ⟨b0, o0, none⟩) (l.length + 1) c00, e :: l) :: ps)).symm
              · have h1 := total_pop e l (ps.map (·.2))
                have h2 : ((popL (·.2) ((Value.slice (some ⟨b0, o0, none⟩) (l.length + 1) c00, e :: l) :: ps)).map (·.2)) = popL id ((e :: l) :: ps.map (·.2)) := popV_map _
                have h3 := HTOT.out
                have h4 := HM.out
                rw [h2]; simp only [List.map_cons] at h3; simp; omega
              · rw [popL_len]; simp; omega
              · simp [sliceLen]; omega
            · have hl0 : 0 < l.length := List.length_pos_iff.2 hl
              have HL := Lib.hid hl
              clear hl
              go_wp2_with (first
                | (go_at_call 35; refine (ecloneL_any S _ e _ HEV.out).mono ?_; rintro r w3 ⟨v1, rfl, ⟨k', u', rfl, hk', hu'⟩, hb3⟩; obtain ⟨Ak, ck, rfl⟩ := slice_form hk'; obtain ⟨Au, cu, rfl⟩ := slice_form hu')
                | (at_builtin; refine wpList_append_own_at _ rfl _ _ 22 rfl w.heap.size 26 i0 _ 4 64 Try.underlying22 hi hz0 hz1'.out hby.out rfl (by decide) _ _ _ rfl ((own_below HOQ.out hb3).alloc _) ⟨w3.heap.size, 0, none⟩ 1 1 [.slice Ak e.key.length ck, .int .i64 e.seq, .bool e.dead, .slice Au e.val.length cu] rfl rfl (cell_four_new _ _ _ _ _ _) (by simp [Value.oneCell']) (by unfold maxLen; omega) (by omega) (by have := HBQ.out.size; have := hb3.size; simp; omega) ?_; intro v' w4 hown' hgrow hnn hat; clear hnn)
                | ((go_at_call 44; refine (push_any w.heap.size w.heap.size S sl1 _ _ l _ (HHQ.out.thru hb3 hgrow HD7.out) ((HXQ.out.tail HL.out).thru hb3 hgrow (fun g hg hs => by have := HSS.out g hs; have := (HD7.out g hg).1; omega)) HL.out (by rw [popL_len]; simp; omega)).mono ?_; rintro r w5 ⟨rfl, hpu⟩)))
              obtain ⟨A8, c8, rfl⟩ := own_form hown'
              have hH4 := HHQ.out.thru hb3 hgrow HD7.out
              have hE4 : OutE w4 w.heap.size (.slice A8 (m + 1) c8) sl1 (ys ++ [.slice Ak e.key.length ck, .int .i64 e.seq, .bool e.dead, .slice Au e.val.length cu]) (out ++ [e]) := OutE.push HOQ.out HYQ.out hb3 hk' hu' hBz (fun g hg => (HHQ.out.row.lt g hg).2) hgrow hat
              have hD4 := dis_grown HDIS1.out hat (by have := hb3.size; omega) (fun g hg => by have := HHQ.out.row.lt g hg; have := hb3.size; omega)
              have hB4 := ((HBQ.out.trans (hb3.mono HBQ.out.size)).alloc (by have := HBQ.out.size; have := hb3.size; omega) (.cells #[.slice Ak e.key.length ck, .int .i64 e.seq, .bool e.dead, .slice Au e.val.length cu] 26)).grown hgrow (by have := HBQ.out.size; have := hb3.size; simp; omega) (fun j e => (HOQ.out.lt j e).1)
              have hB5 := hB4.trans (hpu.below (Nat.le_refl _) (fun g hg => (hH4.row.lt g hg).1) hB4.size)
              obtain ⟨sl2, hh5, ho5, hs5⟩ := hpu
              refine ⟨⟨out ++ [e], _, sl2, _, hh5, (by rw [List.length_append, HM.out]; exact own_only hown' ho5 (fun g hg t => t.elim (fun e => (hD4 g hg).1 e) (fun e => (hD4 g hg).2 e))), hE4.pushed ho5 hs5, dis_pushed hD4 (fun g hg => (hown'.lt g hg).2) hs5, ?_, ?_, ?_, hB5⟩, ?_⟩
              · rw [HTW.out, if_neg HL.out, show N - (out ++ [e]).length = K by have := HKK.out; simp; omega]
                have h2 : ((popL (·.2) ((Value.slice (some ⟨b0, o0, none⟩) (l.length + 1) c00, e :: l) :: ps)).map (·.2)) = popL id ((e :: l) :: ps.map (·.2)) := popV_map _
                rw [← h2]
                exact congrArg (fun h => mergeGo K h (out ++ [e])) (pushV_map _ (_, l)).symm
              · have h1 := total_pop e l (ps.map (·.2))
                have h2 : ((popL (·.2) ((Value.slice (some ⟨b0, o0, none⟩) (l.length + 1) c00, e :: l) :: ps)).map (·.2)) = popL id ((e :: l) :: ps.map (·.2)) := popV_map _
                have h3 := HTOT.out
                have h4 := HM.out
                have h5 : total ((pushL (·.2) (popL (·.2) ((Value.slice (some ⟨b0, o0, none⟩) (l.length + 1) c00, e :: l) :: ps)) ((Value.slice (some ⟨b0, o0 + 4, none⟩) l.length (c00 - 1), l) : Value × List Ent)).map (·.2)) = total (popL id ((e :: l) :: ps.map (·.2))) + l.length := by
                  rw [← h2, ← total_push]; exact congrArg total (pushV_map _ _)
                refine Eq.trans (congrArg (fun z => (out ++ [e]).length + z) h5) ?_
                simp only [List.map_cons] at h3; simp; omega
              · rw [(siftUp_perm _ _ _).length_eq]; simp [popL_len]; omega
              · simp [sliceLen]; omega
          · have hm1 : m = os.length + 1 := by rw [← HM.out, hcon]; simp
            have hpos : 0 < m := by omega
            have hgd : decide (0 < m) = true := by simp; omega
            rw [List.concat_eq_append] at hcon
            obtain ⟨g7, c7', hA, hb7, hz7, hc7, hc7'⟩ := own_pos HOWN1.out hpos
            injection hA with hA hm' hc'
            subst hA hc'
            obtain ⟨ko, uo, a0, a1, a2, a3, q1, q2⟩ := own_last HOWN1.out (show EntCells w1 (outL w1 w.heap.size _ sl1) ys (os ++ [o]) from hcon ▸ HYS1.out) hm1
            have F0 : ∀ q : Ext w1, q.w.cell? { block := g7, off := (m - 1) * 4 } = _ := fun q => q.h.cell a0
            have F1 : ∀ q : Ext w1, q.w.cell? { block := g7, off := (m - 1) * 4 + 1 } = _ := fun q => q.h.cell a1
            have F2 : ∀ q : Ext w1, q.w.cell? { block := g7, off := (m - 1) * 4 + 2 } = _ := fun q => q.h.cell a2
            have F3 : ∀ q : Ext w1, q.w.cell? { block := g7, off := (m - 1) * 4 + 3 } = _ := fun q => q.h.cell a3
            have CC : ∀ q : Ext w1, Calls Try.prog 38 #[.agg #[ko, .int .i64 o.seq, .bool o.dead, uo], .agg #[k0, .int .i64 e.seq, .bool e.dead, u0]] q.w fun r w'' => r = .returned (.int .i64 (cmpE o e)) ∧ ∃ q' : Ext w1, w'' = q'.w := fun q => Ext.calls (compare_any _ S _ _ o e _ (q.h.ent ⟨_, _, rfl, q1, q2⟩) (q.h.ent ⟨_, _, rfl, Z1.out, Z2.out⟩))
            have htw : Hid (twice out e = decide (cmpE o e = 0)) := Lib.hid (by rw [hcon]; exact twice_snoc _ _ _)
            have HM1 := Lib.hid hm1
            have HCON := Lib.hid hcon
            clear hm1 hcon a0 a1 a2 a3 q1 q2 hm'
            by_cases heq : cmpE o e = 0
            · have hdq : (cmpE o e == 0) = true := by simp [heq]
              have HEQ := Lib.hid heq
              clear heq
              (refine wp_region_quiet_ext (by kernel_rfl) (by kernel_rfl) ?_; (repeat (go_big_quiet_step ((go_at_call 38; exact CC _)))); refine wpQuiet_nil ?_; intro wq hw'; obtain ⟨⟨_, hq⟩, hw''⟩ := hw'; subst hw'')
              go_wp2
              obtain rfl : R = ([], 31) := HGO'.out.trans (if_pos (by rw [htw.out, HEQ.out]; rfl))
              refine bodyPost_ret (v := .tuple #[_, _]) (by simp [results, Try.results23, go_sem]; exact ⟨rfl, rfl⟩) rfl ?_
              exact ⟨_, rfl, OwnE.nil _ _, HB1.out.trans (Below.mono hq HB1.out.size)⟩
            · have hdq : (cmpE o e == 0) = false := by simp [heq]
              have HEQ := Lib.hid heq
              clear heq
              (refine wp_region_quiet_ext (by kernel_rfl) (by kernel_rfl) ?_; (repeat (go_big_quiet_step ((go_at_call 38; exact CC _)))); refine wpQuiet_nil ?_; intro wq hw'; obtain ⟨⟨_, hq⟩, hw''⟩ := hw'; subst hw'')
              have htw0 : twice out e = false := by rw [htw.out]; exact decide_eq_false HEQ.out
              clear htw F0 F1 F2 F3 CC
              have HHQ := Lib.hid (HH1.out.below hq)
              have HOQ := Lib.hid (own_below HOWN1.out hq)
              have HYQ := Lib.hid (HYS1.out.below hq)
              have HXQ := Lib.hid (HY1.out.below hq)
              have HBQ := Lib.hid (HB1.out.trans (Below.mono hq HB1.out.size))
              have HEV := Lib.hid ((show EntV w1 S (.agg #[k0, .int .i64 e.seq, .bool e.dead, u0]) e from ⟨_, _, rfl, Z1.out, Z2.out⟩).below hq)
              have x0 := fr.cell hq X0.out
              have x1 := fr.cell hq X1.out
              have x2 := fr.cell hq X2.out
              have x3 := fr.cell hq X3.out
              have hmN : m + 1 ≤ N := by have := HKK.out; have := HM.out; omega
              have HD7 : Hid (∀ g', (Value.slice (some ⟨g7, 0, none⟩) m c7).ownBlock = some g' → w.heap.size ≤ g' ∧ g' ≠ w.heap.size ∧ sl1.ownBlock ≠ some g') := Lib.hid fun g' hg' => ⟨(HOQ.out.lt g' hg').1, HDIS1.out g' hg'⟩
              have hBz : w.heap.size < wq.heap.size := HHQ.out.lt
              have HTW := Lib.hid (HGO'.out.trans (if_neg (by rw [htw0]; simp)))
              have hpl' : ps.length + 1 ≤ k := by simpa using hpl
              clear hq G0 G1 G2 G3 htw0 hpl
              by_cases hl : l = []
              · have hl0 : l.length ≤ 0 := by rw [hl]; simp
                have HL := Lib.hid hl
                clear hl
                go_wp2_with (first
                  | (go_at_call 35; refine (ecloneL_any S _ e _ HEV.out).mono ?_; rintro r w3 ⟨v1, rfl, ⟨k', u', rfl, hk', hu'⟩, hb3⟩; obtain ⟨Ak, ck, rfl⟩ := slice_form hk'; obtain ⟨Au, cu, rfl⟩ := slice_form hu')
                  | (at_builtin; refine wpList_append_own_at _ rfl _ _ 22 rfl w.heap.size 26 i0 _ 4 64 Try.underlying22 hi hz0 hz1'.out hby.out rfl (by decide) _ _ _ rfl ((own_below HOQ.out hb3).alloc _) ⟨w3.heap.size, 0, none⟩ 1 1 [.slice Ak e.key.length ck, .int .i64 e.seq, .bool e.dead, .slice Au e.val.length cu] rfl rfl (cell_four_new _ _ _ _ _ _) (by simp [Value.oneCell']) (by unfold maxLen; omega) (by omega) (by have := HBQ.out.size; have := hb3.size; simp; omega) ?_; intro v' w4 hown' hgrow hnn hat; clear hnn))
                obtain ⟨A8, c8, rfl⟩ := own_form hown'
                have hH4 := HHQ.out.thru hb3 hgrow HD7.out
                have hE4 : OutE w4 w.heap.size (.slice A8 (m + 1) c8) sl1 (ys ++ [.slice Ak e.key.length ck, .int .i64 e.seq, .bool e.dead, .slice Au e.val.length cu]) (out ++ [e]) := OutE.push HOQ.out HYQ.out hb3 hk' hu' hBz (fun g hg => (HHQ.out.row.lt g hg).2) hgrow hat
                have hD4 := dis_grown HDIS1.out hat (by have := hb3.size; omega) (fun g hg => by have := HHQ.out.row.lt g hg; have := hb3.size; omega)
                refine ⟨⟨out ++ [e], _, sl1, _, hH4, (by rw [List.length_append, HM.out]; exact hown'), hE4, hD4, ?_, ?_, ?_, ((HBQ.out.trans (hb3.mono HBQ.out.size)).alloc (by have := HBQ.out.size; have := hb3.size; omega) _).grown hgrow (by have := HBQ.out.size; have := hb3.size; simp; omega) (fun j e => (HOQ.out.lt j e).1)⟩, ?_⟩
                · rw [HTW.out, if_pos HL.out, show N - (out ++ [e]).length = K by have := HKK.out; simp; omega]
                  exact congrArg (fun h => mergeGo K h (out ++ [e])) (popV_map ((Value.slice (some ⟨b0, o0, none⟩) (l.length + 1) c00, e :: l) :: ps)).symm
                · have h1 := total_pop e l (ps.map (·.2))
                  have h2 : ((popL (·.2) ((Value.slice (some ⟨b0, o0, none⟩) (l.length + 1) c00, e :: l) :: ps)).map (·.2)) = popL id ((e :: l) :: ps.map (·.2)) := popV_map _
                  have h3 := HTOT.out
                  have h4 := HM.out
                  rw [h2]; simp only [List.map_cons] at h3; simp; omega
                · rw [popL_len]; simp; omega
                · simp [sliceLen]; omega
              · have hl0 : 0 < l.length := List.length_pos_iff.2 hl
                have HL := Lib.hid hl
                clear hl
                go_wp2_with (first
                  | (go_at_call 35; refine (ecloneL_any S _ e _ HEV.out).mono ?_; rintro r w3 ⟨v1, rfl, ⟨k', u', rfl, hk', hu'⟩, hb3⟩; obtain ⟨Ak, ck, rfl⟩ := slice_form hk'; obtain ⟨Au, cu, rfl⟩ := slice_form hu')
                  | (at_builtin; refine wpList_append_own_at _ rfl _ _ 22 rfl w.heap.size 26 i0 _ 4 64 Try.underlying22 hi hz0 hz1'.out hby.out rfl (by decide) _ _ _ rfl ((own_below HOQ.out hb3).alloc _) ⟨w3.heap.size, 0, none⟩ 1 1 [.slice Ak e.key.length ck, .int .i64 e.seq, .bool e.dead, .slice Au e.val.length cu] rfl rfl (cell_four_new _ _ _ _ _ _) (by simp [Value.oneCell']) (by unfold maxLen; omega) (by omega) (by have := HBQ.out.size; have := hb3.size; simp; omega) ?_; intro v' w4 hown' hgrow hnn hat; clear hnn)
                  | ((go_at_call 44; refine (push_any w.heap.size w.heap.size S sl1 _ _ l _ (HHQ.out.thru hb3 hgrow HD7.out) ((HXQ.out.tail HL.out).thru hb3 hgrow (fun g hg hs => by have := HSS.out g hs; have := (HD7.out g hg).1; omega)) HL.out (by rw [popL_len]; simp; omega)).mono ?_; rintro r w5 ⟨rfl, hpu⟩)))
                obtain ⟨A8, c8, rfl⟩ := own_form hown'
                have hH4 := HHQ.out.thru hb3 hgrow HD7.out
                have hE4 : OutE w4 w.heap.size (.slice A8 (m + 1) c8) sl1 (ys ++ [.slice Ak e.key.length ck, .int .i64 e.seq, .bool e.dead, .slice Au e.val.length cu]) (out ++ [e]) := OutE.push HOQ.out HYQ.out hb3 hk' hu' hBz (fun g hg => (HHQ.out.row.lt g hg).2) hgrow hat
                have hD4 := dis_grown HDIS1.out hat (by have := hb3.size; omega) (fun g hg => by have := HHQ.out.row.lt g hg; have := hb3.size; omega)
                have hB4 := ((HBQ.out.trans (hb3.mono HBQ.out.size)).alloc (by have := HBQ.out.size; have := hb3.size; omega) (.cells #[.slice Ak e.key.length ck, .int .i64 e.seq, .bool e.dead, .slice Au e.val.length cu] 26)).grown hgrow (by have := HBQ.out.size; have := hb3.size; simp; omega) (fun j e => (HOQ.out.lt j e).1)
                have hB5 := hB4.trans (hpu.below (Nat.le_refl _) (fun g hg => (hH4.row.lt g hg).1) hB4.size)
                obtain ⟨sl2, hh5, ho5, hs5⟩ := hpu
                refine ⟨⟨out ++ [e], _, sl2, _, hh5, (by rw [List.length_append, HM.out]; exact own_only hown' ho5 (fun g hg t => t.elim (fun e => (hD4 g hg).1 e) (fun e => (hD4 g hg).2 e))), hE4.pushed ho5 hs5, dis_pushed hD4 (fun g hg => (hown'.lt g hg).2) hs5, ?_, ?_, ?_, hB5⟩, ?_⟩
                · rw [HTW.out, if_neg HL.out, show N - (out ++ [e]).length = K by have := HKK.out; simp; omega]
                  have h2 : ((popL (·.2) ((Value.slice (some ⟨b0, o0, none⟩) (l.length + 1) c00, e :: l) :: ps)).map (·.2)) = popL id ((e :: l) :: ps.map (·.2)) := popV_map _
                  rw [← h2]
                  exact congrArg (fun h => mergeGo K h (out ++ [e])) (pushV_map _ (_, l)).symm
                · have h1 := total_pop e l (ps.map (·.2))
                  have h2 : ((popL (·.2) ((Value.slice (some ⟨b0, o0, none⟩) (l.length + 1) c00, e :: l) :: ps)).map (·.2)) = popL id ((e :: l) :: ps.map (·.2)) := popV_map _
                  have h3 := HTOT.out
                  have h4 := HM.out
                  have h5 : total ((pushL (·.2) (popL (·.2) ((Value.slice (some ⟨b0, o0, none⟩) (l.length + 1) c00, e :: l) :: ps)) ((Value.slice (some ⟨b0, o0 + 4, none⟩) l.length (c00 - 1), l) : Value × List Ent)).map (·.2)) = total (popL id ((e :: l) :: ps.map (·.2))) + l.length := by
                    rw [← h2, ← total_push]; exact congrArg total (pushV_map _ _)
                  refine Eq.trans (congrArg (fun z => (out ++ [e]).length + z) h5) ?_
                  simp only [List.map_cons] at h3; simp; omega
                · rw [(siftUp_perm _ _ _).length_eq]; simp [popL_len]; omega
                · simp [sliceLen]; omega
end Go.Proofs.Ytelbidknefkaiaa
end
