/-
Plain: Thin's two answers are one.
-/
import Derived.Test.YtacdhkkelkplnaaQPOwn2
section
namespace Go.Proofs.Ytacdhkkelkplnaa
open Go.RowKit Go.BigFrame
attribute [local go_sem ↓] Go.wp_at_zero Go.wp_at_succ
def seenBy (mark : Int) : Option Ent → Ent → Bool
  | none, _ => false
  | some p, e => decide (p.key = e.key) && decide (p.seq ≤ mark)
def thinR (mark : Int) (bottom : Bool) : Option Ent → List Ent → List Ent
  | _, [] => []
  | p, e :: l => if mark < e.seq then e :: thinR mark bottom (some e) l else if seenBy mark p e = true then thinR mark bottom (some e) l else if (!e.dead || !bottom) = true then e :: thinR mark bottom (some e) l else thinR mark bottom (some e) l
theorem thinR_step {mark : Int} {bottom : Bool} (p : Option Ent) {es : List Ent} {k : Nat} {e : Ent} (h : es[k]? = some e) :
    thinR mark bottom p (es.drop k) = if mark < e.seq then e :: thinR mark bottom (some e) (es.drop (k + 1)) else if seenBy mark p e = true then thinR mark bottom (some e) (es.drop (k + 1)) else if (!e.dead || !bottom) = true then e :: thinR mark bottom (some e) (es.drop (k + 1)) else thinR mark bottom (some e) (es.drop (k + 1)) := by
  rw [List.drop_eq_getElem_cons (List.getElem?_eq_some_iff.1 h).1, (List.getElem?_eq_some_iff.1 h).2]
  rfl
theorem EntCells.pushOld {base : Nat} {wr w1 w2 : World} {S0 : Nat → Prop} {v v' k u : Value} {n : Nat} {ys : List Value} {es : List Ent} {e : Ent} {d : Bool} {o : Obj} {t : TypeId} (hd : e.dead = d) (hown : wr.ownsRow base t 4 v n ys) (hys : EntCells wr S0 ys es) (hb1 : Below wr.heap.size wr w1)
    (hk : Byt wr S0 k e.key) (hu : Byt wr S0 u e.val) (hS0 : ∀ i, S0 i → i < base) (hg : (w1.alloc o).grownBy w2 v.ownBlock) (hat : v'.ownBlock = v.ownBlock ∨ v'.ownBlock = some (w1.alloc o).heap.size) :
    EntCells w2 S0 (ys ++ [k, .int .i64 e.seq, .bool d, u]) (es ++ [e]) := by
  subst hd
  have hal : Below w1.heap.size w1 (w1.alloc o) := (Below.refl _ _).alloc (Nat.le_refl _) _
  have old : ∀ x bs, Byt wr S0 x bs → Byt w2 S0 x bs := fun x bs h =>
    ((h.below hb1).below hal).push hg hat (fun i _ hs e => by have := (hown.lt i e).1; have := hS0 i hs; omega) (fun i _ hs _ => hs)
  exact (hys.imp old).append (EntCells.one (old _ _ hk) (old _ _ hu))
set_option maxRecDepth 100000 in
set_option maxHeartbeats 4000000 in
theorem rthin_any (S : Nat → Prop) (v : Value) (es : List Ent) (mark : Int) (bottom : Bool) (w : World) (hv : Ents w S v es) :
    Calls Try.prog 27 #[v, .int .i64 mark, .bool bottom] w fun r w' => ∃ v', r = .returned (.tuple #[v', .int .i64 (if orderedE es then 0 else 30)]) ∧ Ents w' (fun _ => True) v' (if orderedE es then thinR mark bottom none es else []) ∧ Below w.heap.size w w' := by
  obtain ⟨i0, hi, hz0, hz1, hz2⟩ := info_parts info26
  have hby := Lib.hid hz2
  have hz1' := Lib.hid hz1
  clear hz2 hz1
  have HORD := Lib.hid (rordered_any S v es w hv)
  replace hv := hv.lt
  obtain ⟨S0, hS0⟩ : ∃ S0 : Nat → Prop, S0 = fun i => i < w.heap.size := ⟨_, rfl⟩
  rw [← hS0] at hv
  have HS0 := Lib.hid hS0
  clear hS0
  obtain ⟨A, c, cs, rfl, hc, hcm, hl, hr, he⟩ := hv
  obtain ⟨n, hn⟩ : ∃ n, es.length = n := ⟨_, rfl⟩
  rw [hn] at hr hl HORD ⊢
  have HN := Lib.hid hn
  clear hn
  rcases ho : orderedE es with _ | _
  · rw [ho] at HORD
    clear ho
    go_enter Try.func27, Try.ntmps27
    go_wp2_with (go_at_call 28; refine HORD.out.mono ?_; rintro r w1 ⟨rfl, hb1⟩)
    refine bodyPost_ret (v := .tuple #[_, _]) (by simp [results, Try.results27, go_sem]; exact ⟨rfl, rfl⟩) rfl ?_
    exact ⟨_, rfl, Ents.nil _ _, hb1⟩
  · rw [ho] at HORD
    clear ho
    go_enter Try.func27, Try.ntmps27
    go_wp2_with (go_at_call 28; refine HORD.out.mono ?_; rintro r w0 ⟨rfl, hb0⟩)
    go_loopw [8, 9, 15] (fun v8 _ t wr => ∃ k : Nat, ∃ ys : List Value, ∃ os : List Ent, k ≤ n ∧ t = .int .i64 k ∧ wr.ownsRow w.heap.size 46 4 v8 os.length ys ∧ EntCells wr S0 ys os ∧ thinR mark bottom none es = os ++ thinR mark bottom (if k = 0 then none else es[k - 1]?) (es.drop k) ∧ os.length ≤ k ∧ Below w.heap.size w wr) (fun _ _ t _ => n - (intOf t).toNat)
    case atStart => exact ⟨0, [], [], by omega, rfl, World.ownsRow_nil _ _ _ _, trivial, rfl, by simp, hb0⟩
    case round =>
      obtain ⟨k, ys, os, hk, rfl, hown, hys, hpre, hol, hbel⟩ := hrel
      by_cases hkn : k < n
      · obtain ⟨e, hek⟩ : ∃ e, es[k]? = some e := ⟨_, List.getElem?_eq_getElem (by rw [HN.out]; exact hkn)⟩
        obtain ⟨b, o, kk, uu, rfl, c0, c1, c2, c3, b1, b2, _, _⟩ := (hr.below hbel).ent (he.below hbel) HN.out hek
        obtain ⟨dd, hdd⟩ : ∃ d, e.dead = d := ⟨_, rfl⟩
        rw [hdd] at c2
        have HDD := Lib.hid hdd
        have HO := Lib.hid hown
        have HEK := Lib.hid hek
        have HST := Lib.hid (thinR_step (mark := mark) (bottom := bottom) (if k = 0 then none else es[k - 1]?) hek)
        have HPRE := Lib.hid hpre
        have HB := Lib.hid hbel
        have HKY := Lib.hid b1
        have HVL := Lib.hid b2
        have HYS := Lib.hid hys
        have HHR := Lib.hid (hr.below hbel)
        have HHE := Lib.hid (he.below hbel)
        obtain ⟨Ak, ck, rfl⟩ := slice_form b1
        obtain ⟨Au, cu, rfl⟩ := slice_form b2
        clear hek hdd b1 b2 hown hpre hbel hys
        by_cases hs : mark < e.seq
        · have HS := Lib.hid hs
          have HB1 := Lib.hid (Below.refl wr.heap.size wr)
          go_wp2_with (at_builtin; refine wpList_append_own_at _ rfl _ _ 41 rfl w.heap.size 46 i0 _ 4 64 Try.underlying41 hi hz0 hz1'.out hby.out rfl (by decide) _ _ _ rfl ((own_below HO.out HB1.out).alloc _) ⟨(wr).heap.size, 0, none⟩ 1 1 [.slice Ak e.key.length ck, .int .i64 e.seq, .bool dd, .slice Au e.val.length cu] rfl rfl (cell_four_new _ _ _ _ _ _) (by simp [Value.oneCell']) (by unfold maxLen; omega) (by omega) (by have := HB.out.size; have := HB1.out.size; simp; omega) ?_; intro v' w2 hown' hgrow _ hat)
          refine ⟨⟨k + 1, _, os ++ [e], by omega, by go_num, (by rw [List.length_append]; exact hown'), EntCells.pushOld (e := e) (d := dd) HDD.out HO.out HYS.out HB1.out HKY.out HVL.out (fun i hs => by rw [HS0.out] at hs; exact hs) hgrow hat, ?_, by simp; omega, ((HB.out.trans (HB1.out.mono HB.out.size)).alloc (by have := HB.out.size; have := HB1.out.size; omega) _).grown hgrow (by have := HB.out.size; have := HB1.out.size; simp; omega) (fun j e => (HO.out.lt j e).1)⟩, by simp [intOf]; omega⟩
          rw [HPRE.out, HST.out, if_pos HS.out]; simp [HEK.out]
        · have HS := Lib.hid hs
          have hle : e.seq ≤ mark := by omega
          have F0 : ∀ q : Ext wr, q.w.cell? { block := b, off := o + k * 4 } = _ := fun q => q.h.cell c0
          have HCK : ∀ q : Ext wr, (convert 44 9 (.slice Ak e.key.length ck)).run Try.prog q.w = .ok (.string ⟨e.key.toArray⟩) q.w := fun q => (HKY.out.below q.h).convert
          go_wp2
          rcases Nat.eq_zero_or_pos k with h0 | h0
          · have hd0 : decide ((0:Int) < (k:Int)) = false := by simp; omega
            have HSEEN := Lib.hid (show seenBy mark (if k = 0 then none else es[k - 1]?) e = false by rw [if_pos h0]; rfl)
            (refine wp_region_quiet_ext (by kernel_rfl) (by kernel_rfl) ?_; (repeat (go_big_quiet_step (fail))); refine wpQuiet_nil ?_; intro wq hw'; obtain ⟨⟨_, hq⟩, hw''⟩ := hw'; subst hw'')
            clear hd0 h0
            have HB1 := Lib.hid (show Below wr.heap.size wr wq from hq)
            have C0 := hq.cell c0
            have C1 := hq.cell c1
            have C2 := hq.cell c2
            have C3 := hq.cell c3
            clear hq
            rcases dd with _ | _
            · go_wp2_with (at_builtin; refine wpList_append_own_at _ rfl _ _ 41 rfl w.heap.size 46 i0 _ 4 64 Try.underlying41 hi hz0 hz1'.out hby.out rfl (by decide) _ _ _ rfl ((own_below HO.out HB1.out).alloc _) ⟨(wq).heap.size, 0, none⟩ 1 1 [.slice Ak e.key.length ck, .int .i64 e.seq, .bool false, .slice Au e.val.length cu] rfl rfl (cell_four_new _ _ _ _ _ _) (by simp [Value.oneCell']) (by unfold maxLen; omega) (by omega) (by have := HB.out.size; have := HB1.out.size; simp; omega) ?_; intro v' w2 hown' hgrow _ hat)
              refine ⟨⟨k + 1, _, os ++ [e], by omega, by go_num, (by rw [List.length_append]; exact hown'), EntCells.pushOld (e := e) (d := false) HDD.out HO.out HYS.out HB1.out HKY.out HVL.out (fun i hs => by rw [HS0.out] at hs; exact hs) hgrow hat, ?_, by simp; omega, ((HB.out.trans (HB1.out.mono HB.out.size)).alloc (by have := HB.out.size; have := HB1.out.size; omega) _).grown hgrow (by have := HB.out.size; have := HB1.out.size; simp; omega) (fun j e => (HO.out.lt j e).1)⟩, by simp [intOf]; omega⟩
              rw [HPRE.out, HST.out, if_neg (show ¬ mark < e.seq by have := HS.out; omega), HSEEN.out]; simp [HEK.out, HDD.out]
            · rcases bottom with _ | _
              · go_wp2_with (at_builtin; refine wpList_append_own_at _ rfl _ _ 41 rfl w.heap.size 46 i0 _ 4 64 Try.underlying41 hi hz0 hz1'.out hby.out rfl (by decide) _ _ _ rfl ((own_below HO.out HB1.out).alloc _) ⟨(wq).heap.size, 0, none⟩ 1 1 [.slice Ak e.key.length ck, .int .i64 e.seq, .bool true, .slice Au e.val.length cu] rfl rfl (cell_four_new _ _ _ _ _ _) (by simp [Value.oneCell']) (by unfold maxLen; omega) (by omega) (by have := HB.out.size; have := HB1.out.size; simp; omega) ?_; intro v' w2 hown' hgrow _ hat)
                refine ⟨⟨k + 1, _, os ++ [e], by omega, by go_num, (by rw [List.length_append]; exact hown'), EntCells.pushOld (e := e) (d := true) HDD.out HO.out HYS.out HB1.out HKY.out HVL.out (fun i hs => by rw [HS0.out] at hs; exact hs) hgrow hat, ?_, by simp; omega, ((HB.out.trans (HB1.out.mono HB.out.size)).alloc (by have := HB.out.size; have := HB1.out.size; omega) _).grown hgrow (by have := HB.out.size; have := HB1.out.size; simp; omega) (fun j e => (HO.out.lt j e).1)⟩, by simp [intOf]; omega⟩
                rw [HPRE.out, HST.out, if_neg (show ¬ mark < e.seq by have := HS.out; omega), HSEEN.out]; simp [HEK.out, HDD.out]
              · go_wp2
                refine ⟨⟨k + 1, _, os, by omega, by go_num, own_below HO.out HB1.out, HYS.out.below HB1.out, ?_, by omega, HB.out.trans (HB1.out.mono HB.out.size)⟩, by simp [intOf]; omega⟩
                rw [HPRE.out, HST.out, if_neg (show ¬ mark < e.seq by have := HS.out; omega), HSEEN.out]; simp [HEK.out, HDD.out]
          · obtain ⟨j, rfl⟩ : ∃ j, k = j + 1 := ⟨k - 1, by omega⟩
            obtain ⟨e', hej⟩ : ∃ e, es[j]? = some e := ⟨_, List.getElem?_eq_getElem (by rw [HN.out]; omega)⟩
            obtain ⟨b', o', kk', uu', hE, d0, d1, d2, d3, b1, b2, _, _⟩ := HHR.out.ent HHE.out HN.out hej
            cases hE
            obtain ⟨Ak', ck', rfl⟩ := slice_form b1
            have G0 : ∀ q : Ext wr, q.w.cell? { block := b, off := o + j * 4 } = _ := fun q => q.h.cell d0
            have G1 : ∀ q : Ext wr, q.w.cell? { block := b, off := o + j * 4 + 1 } = _ := fun q => q.h.cell d1
            have GCK : ∀ q : Ext wr, (convert 44 9 (.slice Ak' e'.key.length ck')).run Try.prog q.w = .ok (.string ⟨e'.key.toArray⟩) q.w := fun q => (b1.below q.h).convert
            have hd0 : decide ((0:Int) < (j:Int) + 1) = true := by first | (simp; done) | (simp; omega)
            have HJ := Lib.hid (show (if j + 1 = 0 then none else es[j + 1 - 1]?) = some e' by simpa using hej)
            clear hej b1 b2 d0 d1 d2 d3 h0
            by_cases hke : e'.key = e.key
            · have HKE := Lib.hid hke
              have GCK2 : ∀ q : Ext wr, (convert 44 9 (.slice Ak' e'.key.length ck')).run Try.prog q.w = .ok (.string ⟨e.key.toArray⟩) q.w := fun q => by rw [GCK q, hke]
              clear hke GCK
              by_cases hsq : e'.seq ≤ mark
              · have HSEEN := Lib.hid (show seenBy mark (if j + 1 = 0 then none else es[j + 1 - 1]?) e = true by rw [HJ.out]; simp [seenBy, HKE.out, hsq])
                (refine wp_region_quiet_ext (by kernel_rfl) (by kernel_rfl) ?_; (repeat (go_big_quiet_step (fail))); refine wpQuiet_nil ?_; intro wq hw'; obtain ⟨⟨_, hq⟩, hw''⟩ := hw'; subst hw'')
                have HB1 := Lib.hid (show Below wr.heap.size wr wq from hq)
                clear hq
                go_wp2
                refine ⟨⟨j + 1 + 1, _, os, by omega, by go_num, own_below HO.out HB1.out, HYS.out.below HB1.out, ?_, by omega, HB.out.trans (HB1.out.mono HB.out.size)⟩, by simp [intOf]; omega⟩
                rw [HPRE.out, HST.out, if_neg (show ¬ mark < e.seq by have := HS.out; omega), HSEEN.out]; simp [HEK.out]
              · have HSEEN := Lib.hid (show seenBy mark (if j + 1 = 0 then none else es[j + 1 - 1]?) e = false by rw [HJ.out]; simp [seenBy, HKE.out]; omega)
                (refine wp_region_quiet_ext (by kernel_rfl) (by kernel_rfl) ?_; (repeat (go_big_quiet_step (fail))); refine wpQuiet_nil ?_; intro wq hw'; obtain ⟨⟨_, hq⟩, hw''⟩ := hw'; subst hw'')
                have HB1 := Lib.hid (show Below wr.heap.size wr wq from hq)
                have C0 := hq.cell c0
                have C1 := hq.cell c1
                have C2 := hq.cell c2
                have C3 := hq.cell c3
                clear hq
                rcases dd with _ | _
                · go_wp2_with (at_builtin; refine wpList_append_own_at _ rfl _ _ 41 rfl w.heap.size 46 i0 _ 4 64 Try.underlying41 hi hz0 hz1'.out hby.out rfl (by decide) _ _ _ rfl ((own_below HO.out HB1.out).alloc _) ⟨(wq).heap.size, 0, none⟩ 1 1 [.slice Ak e.key.length ck, .int .i64 e.seq, .bool false, .slice Au e.val.length cu] rfl rfl (cell_four_new _ _ _ _ _ _) (by simp [Value.oneCell']) (by unfold maxLen; omega) (by omega) (by have := HB.out.size; have := HB1.out.size; simp; omega) ?_; intro v' w2 hown' hgrow _ hat)
                  refine ⟨⟨j + 1 + 1, _, os ++ [e], by omega, by go_num, (by rw [List.length_append]; exact hown'), EntCells.pushOld (e := e) (d := false) HDD.out HO.out HYS.out HB1.out HKY.out HVL.out (fun i hs => by rw [HS0.out] at hs; exact hs) hgrow hat, ?_, by simp; omega, ((HB.out.trans (HB1.out.mono HB.out.size)).alloc (by have := HB.out.size; have := HB1.out.size; omega) _).grown hgrow (by have := HB.out.size; have := HB1.out.size; simp; omega) (fun j e => (HO.out.lt j e).1)⟩, by simp [intOf]; omega⟩
                  rw [HPRE.out, HST.out, if_neg (show ¬ mark < e.seq by have := HS.out; omega), HSEEN.out]; simp [HEK.out, HDD.out]
                · rcases bottom with _ | _
                  · go_wp2_with (at_builtin; refine wpList_append_own_at _ rfl _ _ 41 rfl w.heap.size 46 i0 _ 4 64 Try.underlying41 hi hz0 hz1'.out hby.out rfl (by decide) _ _ _ rfl ((own_below HO.out HB1.out).alloc _) ⟨(wq).heap.size, 0, none⟩ 1 1 [.slice Ak e.key.length ck, .int .i64 e.seq, .bool true, .slice Au e.val.length cu] rfl rfl (cell_four_new _ _ _ _ _ _) (by simp [Value.oneCell']) (by unfold maxLen; omega) (by omega) (by have := HB.out.size; have := HB1.out.size; simp; omega) ?_; intro v' w2 hown' hgrow _ hat)
                    refine ⟨⟨j + 1 + 1, _, os ++ [e], by omega, by go_num, (by rw [List.length_append]; exact hown'), EntCells.pushOld (e := e) (d := true) HDD.out HO.out HYS.out HB1.out HKY.out HVL.out (fun i hs => by rw [HS0.out] at hs; exact hs) hgrow hat, ?_, by simp; omega, ((HB.out.trans (HB1.out.mono HB.out.size)).alloc (by have := HB.out.size; have := HB1.out.size; omega) _).grown hgrow (by have := HB.out.size; have := HB1.out.size; simp; omega) (fun j e => (HO.out.lt j e).1)⟩, by simp [intOf]; omega⟩
                    rw [HPRE.out, HST.out, if_neg (show ¬ mark < e.seq by have := HS.out; omega), HSEEN.out]; simp [HEK.out, HDD.out]
                  · go_wp2
                    refine ⟨⟨j + 1 + 1, _, os, by omega, by go_num, own_below HO.out HB1.out, HYS.out.below HB1.out, ?_, by omega, HB.out.trans (HB1.out.mono HB.out.size)⟩, by simp [intOf]; omega⟩
                    rw [HPRE.out, HST.out, if_neg (show ¬ mark < e.seq by have := HS.out; omega), HSEEN.out]; simp [HEK.out, HDD.out]
            · have HSEEN := Lib.hid (show seenBy mark (if j + 1 = 0 then none else es[j + 1 - 1]?) e = false by rw [HJ.out]; simp [seenBy, hke])
              have hne1 : ¬ (⟨e'.key.toArray⟩ : ByteArray) = ⟨e.key.toArray⟩ := by simpa using hke
              have hne2 : decide ((⟨e'.key.toArray⟩ : ByteArray) = ⟨e.key.toArray⟩) = false := by simpa using hke
              have hne4 : (e'.key == e.key) = false := by simpa using hke
              have hne5 : decide (e'.key = e.key) = false := by simpa using hke
              (refine wp_region_quiet_ext (by kernel_rfl) (by kernel_rfl) ?_; (repeat (go_big_quiet_step (fail))); refine wpQuiet_nil ?_; intro wq hw'; obtain ⟨⟨_, hq⟩, hw''⟩ := hw'; subst hw'')
              have HB1 := Lib.hid (show Below wr.heap.size wr wq from hq)
              have C0 := hq.cell c0
              have C1 := hq.cell c1
              have C2 := hq.cell c2
              have C3 := hq.cell c3
              clear hq
              rcases dd with _ | _
              · go_wp2_with (at_builtin; refine wpList_append_own_at _ rfl _ _ 41 rfl w.heap.size 46 i0 _ 4 64 Try.underlying41 hi hz0 hz1'.out hby.out rfl (by decide) _ _ _ rfl ((own_below HO.out HB1.out).alloc _) ⟨(wq).heap.size, 0, none⟩ 1 1 [.slice Ak e.key.length ck, .int .i64 e.seq, .bool false, .slice Au e.val.length cu] rfl rfl (cell_four_new _ _ _ _ _ _) (by simp [Value.oneCell']) (by unfold maxLen; omega) (by omega) (by have := HB.out.size; have := HB1.out.size; simp; omega) ?_; intro v' w2 hown' hgrow _ hat)
                refine ⟨⟨j + 1 + 1, _, os ++ [e], by omega, by go_num, (by rw [List.length_append]; exact hown'), EntCells.pushOld (e := e) (d := false) HDD.out HO.out HYS.out HB1.out HKY.out HVL.out (fun i hs => by rw [HS0.out] at hs; exact hs) hgrow hat, ?_, by simp; omega, ((HB.out.trans (HB1.out.mono HB.out.size)).alloc (by have := HB.out.size; have := HB1.out.size; omega) _).grown hgrow (by have := HB.out.size; have := HB1.out.size; simp; omega) (fun j e => (HO.out.lt j e).1)⟩, by simp [intOf]; omega⟩
                rw [HPRE.out, HST.out, if_neg (show ¬ mark < e.seq by have := HS.out; omega), HSEEN.out]; simp [HEK.out, HDD.out]
              · rcases bottom with _ | _
                · go_wp2_with (at_builtin; refine wpList_append_own_at _ rfl _ _ 41 rfl w.heap.size 46 i0 _ 4 64 Try.underlying41 hi hz0 hz1'.out hby.out rfl (by decide) _ _ _ rfl ((own_below HO.out HB1.out).alloc _) ⟨(wq).heap.size, 0, none⟩ 1 1 [.slice Ak e.key.length ck, .int .i64 e.seq, .bool true, .slice Au e.val.length cu] rfl rfl (cell_four_new _ _ _ _ _ _) (by simp [Value.oneCell']) (by unfold maxLen; omega) (by omega) (by have := HB.out.size; have := HB1.out.size; simp; omega) ?_; intro v' w2 hown' hgrow _ hat)
                  refine ⟨⟨j + 1 + 1, _, os ++ [e], by omega, by go_num, (by rw [List.length_append]; exact hown'), EntCells.pushOld (e := e) (d := true) HDD.out HO.out HYS.out HB1.out HKY.out HVL.out (fun i hs => by rw [HS0.out] at hs; exact hs) hgrow hat, ?_, by simp; omega, ((HB.out.trans (HB1.out.mono HB.out.size)).alloc (by have := HB.out.size; have := HB1.out.size; omega) _).grown hgrow (by have := HB.out.size; have := HB1.out.size; simp; omega) (fun j e => (HO.out.lt j e).1)⟩, by simp [intOf]; omega⟩
                  rw [HPRE.out, HST.out, if_neg (show ¬ mark < e.seq by have := HS.out; omega), HSEEN.out]; simp [HEK.out, HDD.out]
                · go_wp2
                  refine ⟨⟨j + 1 + 1, _, os, by omega, by go_num, own_below HO.out HB1.out, HYS.out.below HB1.out, ?_, by omega, HB.out.trans (HB1.out.mono HB.out.size)⟩, by simp [intOf]; omega⟩
                  rw [HPRE.out, HST.out, if_neg (show ¬ mark < e.seq by have := HS.out; omega), HSEEN.out]; simp [HEK.out, HDD.out]
      · obtain rfl : k = n := by omega
        have HO := Lib.hid hown
        have HP := Lib.hid hpre
        clear hown hpre
        go_wp2
        refine bodyPost_ret (v := .tuple #[_, _]) (by simp [results, Try.results27, go_sem]; exact ⟨rfl, rfl⟩) rfl ?_
        refine ⟨_, rfl, ?_, hbel⟩
        have e1 : es.drop k = [] := List.drop_eq_nil_of_le (by rw [HN.out]; exact Nat.le_refl _)
        rw [HP.out, e1, thinR, List.append_nil]
        exact Ents.of_own HO.out (hys.mono fun i hi => trivial) (fun i hi _ => trivial) (by omega)
end Go.Proofs.Ytacdhkkelkplnaa
end
section
namespace Go.Proofs.Ytacdhkkelkplnaa
open Go.RowKit Go.BigFrame
attribute [local go_sem ↓] Go.wp_at_zero Go.wp_at_succ
structure Pr where
  key : List UInt8
  val : List UInt8
deriving DecidableEq
theorem info65 : (Try.prog.info? 75).map (fun i => (i.zero, i.size, i.bytes)) = some (some (.agg #[.slice none 0 0, .slice none 0 0]), 2, 48) := by kernel_rfl
def PrCells (w : World) (S : Nat → Prop) : List Value → List Pr → Prop
  | [], [] => True
  | k :: u :: cs, e :: es => Byt w S k e.key ∧ Byt w S u e.val ∧ PrCells w S cs es
  | _, _ => False
theorem PrCells.cons_inv {w : World} {S : Nat → Prop} {cs : List Value} {e : Pr} {es : List Pr} (h : PrCells w S cs (e :: es)) :
    ∃ k u cs', cs = k :: u :: cs' ∧ Byt w S k e.key ∧ Byt w S u e.val ∧ PrCells w S cs' es := by
  match cs, h with
  | k :: u :: cs', h =>
    obtain ⟨h1, h2, h3⟩ := h
    exact ⟨k, u, cs', rfl, h1, h2, h3⟩
theorem PrCells.nil_inv {w : World} {S : Nat → Prop} {cs : List Value} (h : PrCells w S cs []) : cs = [] := by
  cases cs with
  | nil => rfl
  | cons x l => simp [PrCells] at h
theorem PrCells.append {w : World} {S : Nat → Prop} {cs cs' : List Value} {es es' : List Pr} (h : PrCells w S cs es) (h' : PrCells w S cs' es') : PrCells w S (cs ++ cs') (es ++ es') := by
  induction es generalizing cs with
  | nil => rw [h.nil_inv]; exact h'
  | cons e es ih =>
    obtain ⟨k, u, cs1, rfl, h1, h2, h3⟩ := h.cons_inv
    exact ⟨h1, h2, ih h3⟩
theorem PrCells.one {w : World} {S : Nat → Prop} {k u : Value} {e : Pr} (h1 : Byt w S k e.key) (h2 : Byt w S u e.val) : PrCells w S [k, u] [e] := ⟨h1, h2, trivial⟩
theorem PrCells.imp {w w' : World} {S S' : Nat → Prop} {cs : List Value} {es : List Pr} (h : PrCells w S cs es) (hi : ∀ v bs, Byt w S v bs → Byt w' S' v bs) : PrCells w' S' cs es := by
  induction es generalizing cs with
  | nil => rw [h.nil_inv]; trivial
  | cons e es ih =>
    obtain ⟨k, u, cs1, rfl, h1, h2, h3⟩ := h.cons_inv
    exact ⟨hi _ _ h1, hi _ _ h2, ih h3⟩
theorem PrCells.below {w w' : World} {S : Nat → Prop} {cs : List Value} {es : List Pr} (h : PrCells w S cs es) (hb : Below w.heap.size w w') : PrCells w' S cs es := h.imp fun _ _ h => h.below hb
theorem PrCells.only {w w' : World} {T S : Nat → Prop} {cs : List Value} {es : List Pr} (h : PrCells w T cs es) (ho : Only S w w') (hd : ∀ i, i < w.heap.size → T i → ¬ S i) : PrCells w' T cs es := h.imp fun _ _ h => h.only ho hd
theorem PrCells.mono {w : World} {S S' : Nat → Prop} {cs : List Value} {es : List Pr} (h : PrCells w S cs es) (hS : ∀ i, S i → S' i) : PrCells w S' cs es := h.imp fun _ _ h => h.mono hS
theorem PrCells.at_ {w : World} {S : Nat → Prop} {cs : List Value} {es : List Pr} (h : PrCells w S cs es) {i : Nat} {e : Pr} (hi : es[i]? = some e) :
    ∃ k u, cs[2 * i]? = some k ∧ cs[2 * i + 1]? = some u ∧ Byt w S k e.key ∧ Byt w S u e.val := by
  induction es generalizing cs i with
  | nil => simp at hi
  | cons e' es ih =>
    obtain ⟨k, u, cs1, rfl, h1, h2, h3⟩ := h.cons_inv
    cases i with
    | zero =>
      simp at hi
      subst hi
      exact ⟨k, u, rfl, rfl, h1, h2⟩
    | succ i =>
      obtain ⟨k', u', a1, a4, a5, a6⟩ := ih h3 (i := i) (by simpa using hi)
      refine ⟨k', u', ?_, ?_, a5, a6⟩
      · rw [show 2 * (i + 1) = 2 * i + 2 from by omega]; simpa using a1
      · rw [show 2 * (i + 1) + 1 = (2 * i + 1) + 2 from by omega]; simpa using a4
/-- a slice value of pairs. -/
def Prs (w : World) (S : Nat → Prop) (v : Value) (es : List Pr) : Prop :=
  ∃ A c cs, v = .slice A es.length c ∧ es.length ≤ c ∧ c ≤ 9223372036854775807 ∧ es.length * 48 ≤ 140737488355328 ∧ Row w S A es.length 2 cs ∧ PrCells w S cs es
theorem Prs.nil (w : World) (S : Nat → Prop) : Prs w S (.slice none 0 0) [] := ⟨none, 0, [], rfl, by simp, by simp, by simp, Row.nil _ _ _ _, trivial⟩
theorem Prs.below {w w' : World} {S : Nat → Prop} {v : Value} {es : List Pr} (h : Prs w S v es) (hb : Below w.heap.size w w') : Prs w' S v es := by
  obtain ⟨A, c, cs, e, h1, h2, h3, h4, h5⟩ := h
  exact ⟨A, c, cs, e, h1, h2, h3, h4.below hb, h5.below hb⟩
theorem Prs.only {w w' : World} {T S : Nat → Prop} {v : Value} {es : List Pr} (h : Prs w T v es) (ho : Only S w w') (hd : ∀ i, i < w.heap.size → T i → ¬ S i) : Prs w' T v es := by
  obtain ⟨A, c, cs, e, h1, h2, h3, h4, h5⟩ := h
  exact ⟨A, c, cs, e, h1, h2, h3, h4.only ho hd, h5.only ho hd⟩
theorem Prs.mono {w : World} {S S' : Nat → Prop} {v : Value} {es : List Pr} (h : Prs w S v es) (hS : ∀ i, S i → S' i) : Prs w S' v es := by
  obtain ⟨A, c, cs, e, h1, h2, h3, h4, h5⟩ := h
  exact ⟨A, c, cs, e, h1, h2, h3, h4.mono hS, h5.mono hS⟩
theorem Row.pr {w : World} {S : Nat → Prop} {A : Option Addr} {n : Nat} {cs : List Value} {es : List Pr} (h : Row w S A n 2 cs) (he : PrCells w S cs es) (hn : es.length = n) {i : Nat} {e : Pr} (hi : es[i]? = some e) :
    ∃ b o k u, A = some ⟨b, o, none⟩ ∧ w.cell? ⟨b, o + i * 2, none⟩ = some k ∧ w.cell? ⟨b, o + i * 2 + 1, none⟩ = some u ∧ Byt w S k e.key ∧ Byt w S u e.val ∧ b < w.heap.size ∧ S b := by
  have hl : i < es.length := (List.getElem?_eq_some_iff.1 hi).1
  obtain ⟨b, o, rfl, hS, hb, hc⟩ := h.2 (by omega)
  obtain ⟨k, u, a1, a4, a5, a6⟩ := he.at_ hi
  refine ⟨b, o, k, u, rfl, ?_, ?_, a5, a6, hb, hS⟩
  · have := hc _ _ a1; rwa [show o + 2 * i = o + i * 2 from by omega] at this
  · have := hc _ _ a4; rwa [show o + (2 * i + 1) = o + i * 2 + 1 from by omega] at this
theorem Prs.of_own {w : World} {S : Nat → Prop} {base : Nat} {e : TypeId} {v : Value} {cs : List Value} {es : List Pr} (h : w.ownsRow base e 2 v es.length cs) (hc : PrCells w S cs es) (hS : ∀ i, base ≤ i → i < w.heap.size → S i)
    (hl : es.length * 48 ≤ 140737488355328) : Prs w S v es := by
  rcases h.2 with ⟨rfl, h0⟩ | ⟨g, cap, cur, rfl, hbg, hh, hcap, hcm, _⟩
  · have : es = [] := List.eq_nil_of_length_eq_zero h0
    subst this
    exact Prs.nil _ _
  · have hlt : g < w.heap.size := by
      rcases Nat.lt_or_ge g w.heap.size with h1 | h1
      · exact h1
      · rw [Array.getElem?_eq_none h1] at hh; cases hh
    refine ⟨_, _, cs, rfl, hcap, by unfold maxLen at hcm; omega, hl, ⟨h.1, fun _ => ⟨g, 0, rfl, hS _ hbg hlt, hlt, fun j u hu => ?_⟩⟩, hc⟩
    have := h.cells (g := g) rfl j u hu
    rwa [Addr.add_lit] at this
set_option maxRecDepth 100000 in
set_option maxHeartbeats 2000000 in
theorem sameP_any (S S' : Nat → Prop) (v v' : Value) (xs ys : List Pr) (w : World) (hx : Prs w S v xs) (hy : Prs w S' v' ys) :
    Calls Try.prog 16 #[v, v'] w fun e w' => e = .returned (.bool (decide (xs = ys))) ∧ Below w.heap.size w w' := by
  obtain ⟨A, c, cs, rfl, hc, hcm, hl, hr, he⟩ := hx
  obtain ⟨A', c', cs', rfl, hc', hcm', hl', hr', he'⟩ := hy
  rcases (by omega : xs.length = ys.length ∨ ¬ xs.length = ys.length) with hlen | hlen
  · have hL := Lib.hid hlen
    obtain ⟨n, hn⟩ : ∃ n, xs.length = n := ⟨_, rfl⟩
    rw [← hlen] at hr' ⊢
    rw [hn] at hr hr' hl ⊢
    clear hlen
    have hN := Lib.hid hn
    clear hn
    go_enter Try.func16, Try.ntmps16
    go_wp2
    go_loopw [5, 13] (fun _ t wr => ∃ k : Nat, k ≤ n ∧ t = .int .i64 k ∧ xs.take k = ys.take k ∧ Below w.heap.size w wr) (fun _ t _ => n - (intOf t).toNat)
    case atStart => exact ⟨0, by omega, rfl, by simp, Below.refl _ _⟩
    case round =>
      obtain ⟨k, hk, rfl, hpre, hbel⟩ := hrel
      have hp := Lib.hid hpre
      have HB := Lib.hid hbel
      clear hpre
      by_cases hkn : k < n
      · obtain ⟨x, hxk⟩ : ∃ x, xs[k]? = some x := ⟨_, List.getElem?_eq_getElem (by rw [hN.out]; exact hkn)⟩
        obtain ⟨y, hyk⟩ : ∃ y, ys[k]? = some y := ⟨_, List.getElem?_eq_getElem (by rw [← hL.out, hN.out]; exact hkn)⟩
        obtain ⟨b, o, k1, u1, rfl, c0, c1, b1, b2, _, _⟩ := (hr.below hbel).pr (he.below hbel) hN.out hxk
        obtain ⟨b', o', k2, u2, rfl, d0, d1, e1, e2, _, _⟩ := (hr'.below hbel).pr (he'.below hbel) (by rw [← hL.out, hN.out]) hyk
        have HX := Lib.hid hxk
        have HY := Lib.hid hyk
        have F0 : ∀ q : Ext wr, q.w.cell? { block := b, off := o + k * 2 } = _ := fun q => q.h.cell c0
        have F1 : ∀ q : Ext wr, q.w.cell? { block := b, off := o + k * 2 + 1 } = _ := fun q => q.h.cell c1
        have G0 : ∀ q : Ext wr, q.w.cell? { block := b', off := o' + k * 2 } = _ := fun q => q.h.cell d0
        have G1 : ∀ q : Ext wr, q.w.cell? { block := b', off := o' + k * 2 + 1 } = _ := fun q => q.h.cell d1
        have P0 : ∀ q : Ext wr, (convert 44 9 k1).run Try.prog q.w = .ok (.string ⟨x.key.toArray⟩) q.w := fun q => (b1.below q.h).convert
        have P1 : ∀ q : Ext wr, (convert 44 9 u1).run Try.prog q.w = .ok (.string ⟨x.val.toArray⟩) q.w := fun q => (b2.below q.h).convert
        have Q0 : ∀ q : Ext wr, (convert 44 9 k2).run Try.prog q.w = .ok (.string ⟨y.key.toArray⟩) q.w := fun q => (e1.below q.h).convert
        have Q1 : ∀ q : Ext wr, (convert 44 9 u2).run Try.prog q.w = .ok (.string ⟨y.val.toArray⟩) q.w := fun q => (e2.below q.h).convert
        clear b1 b2 e1 e2 hxk hyk c0 c1 d0 d1 hbel
        obtain ⟨xk, xv⟩ := x
        obtain ⟨yk, yv⟩ := y
        simp only at P0 P1 Q0 Q1
        by_cases hxy : (⟨xk, xv⟩ : Pr) = ⟨yk, yv⟩
        · have HXY := Lib.hid hxy
          injection hxy with h1 h2
          subst h1 h2
          go_wp2
          (refine wp_region_quiet_ext (by kernel_rfl) (by kernel_rfl) ?_; (repeat (go_big_quiet_step (fail))); refine wpQuiet_nil ?_; intro wq hw'; obtain ⟨⟨_, hq⟩, hw''⟩ := hw'; subst hw'')
          go_wp2
          refine ⟨⟨k + 1, by omega, by go_num, ?_, HB.out.trans (hq.mono HB.out.size)⟩, by simp [intOf]; omega⟩
          rw [take_snoc HX.out, take_snoc HY.out, hp.out]
        · have hne : ¬ xs = ys := fun e => by
            have h1 := HX.out
            rw [e, HY.out] at h1
            injection h1 with h1
            exact hxy h1.symm
          have HN := Lib.hid hne
          clear hne
          by_cases h1 : xk = yk
          · have h2 : ¬ xv = yv := fun h2 => hxy (by rw [h1, h2])
            subst h1
            clear hxy
            have h3 : (xv == yv) = false := by simpa using h2
            go_wp2
            (refine wp_region_quiet_ext (by kernel_rfl) (by kernel_rfl) ?_; (repeat (go_big_quiet_step (fail))); refine wpQuiet_nil ?_; intro wq hw'; obtain ⟨⟨_, hq⟩, hw''⟩ := hw'; subst hw'')
            go_wp2
            refine bodyPost_ret (v := .bool _) (by simp [results, Try.results16, go_sem]; rfl) rfl ?_
            exact ⟨ret_bool (decide_eq_false HN.out).symm, HB.out.trans (hq.mono HB.out.size)⟩
          · clear hxy
            have h3 : (xk == yk) = false := by simpa using h1
            go_wp2
            (refine wp_region_quiet_ext (by kernel_rfl) (by kernel_rfl) ?_; (repeat (go_big_quiet_step (fail))); refine wpQuiet_nil ?_; intro wq hw'; obtain ⟨⟨_, hq⟩, hw''⟩ := hw'; subst hw'')
            go_wp2
            refine bodyPost_ret (v := .bool _) (by simp [results, Try.results16, go_sem]; rfl) rfl ?_
            exact ⟨ret_bool (decide_eq_false HN.out).symm, HB.out.trans (hq.mono HB.out.size)⟩
      · obtain rfl : k = n := by omega
        go_wp2
        refine bodyPost_ret (v := .bool _) (by simp [results, Try.results16, go_sem]; rfl) rfl ?_
        refine ⟨ret_bool ?_, hbel⟩
        have e1 := hp.out
        rw [List.take_of_length_le (by rw [hN.out]; exact Nat.le_refl _), List.take_of_length_le (by rw [← hL.out, hN.out]; exact Nat.le_refl _)] at e1
        rw [e1]
        simp
  · have hN := Lib.hid (show ¬ xs = ys from fun e => hlen (by rw [e]))
    have hb : ((xs.length : Int) != (ys.length : Int)) = true := by rw [bne_iff_ne]; omega
    clear hlen
    go_enter Try.func16, Try.ntmps16
    go_wp2
    refine bodyPost_ret (v := .bool _) (by simp [results, Try.results16, go_sem]; rfl) rfl ?_
    exact ⟨ret_bool (decide_eq_false hN.out).symm, Below.refl _ _⟩
end Go.Proofs.Ytacdhkkelkplnaa
end
section
namespace Go.Proofs.Ytacdhkkelkplnaa
open Go.RowKit
attribute [local go_sem ↓] Go.wp_at_zero Go.wp_at_succ
theorem step_append_own_at {w : World} {ops : Array Oper} {o : Oper} {a : Act} {K : Act → World → Prop} {Q : Exit → Act → World → Prop} {E : Prop} (hgd : o.guard = none) (s x : Operand) (t : TypeId)
    (ho : o.op = .call { callee := .builtin .append, args := #[s, x], argTypes := #[t, t] })
    (base : Nat) (e : TypeId) (i : TypeInfo) (z : Value) (size bytes : Nat) (ht : Try.prog.underlying t = some (.slice e)) (hi : Try.prog.info? e = some i) (hz : i.zero = some z)
    (hsize : i.size = size) (hby : i.bytes = bytes) (hzs : z.cells.size = size) (hsz : 0 < size)
    (v : Value) (n : Nat) (xs : List Value) (hs : a.eval s = v) (hown : w.ownsRow base e size v n xs)
    (ad : Addr) (m c : Nat) (news : List Value) (hx : a.eval x = .slice (some ad) m c) (hl : news.length = m * size) (hnews : ∀ j u, news[j]? = some u → w.cell? (ad.add j) = some u) (h1 : ∀ u ∈ news, u.oneCell' = true)
    (h63 : n + m ≤ maxLen) (hbytes : (n + m) * bytes ≤ 140737488355328) (hbase : base ≤ w.heap.size)
    (hK : ∀ v' w', w'.ownsRow base e size v' (n + m) (xs ++ news) → w.grownBy w' v.ownBlock → (v'.ownBlock = v.ownBlock ∨ v'.ownBlock = some w.heap.size) → K (a.put o.dst v') w') :
    if Region.wanted o (yielded ops a.tmps) = true then Oper.wp Try.prog o a w K Q else E := by
  have hw : Region.wanted o (yielded ops a.tmps) = true := by simp [Region.wanted, hgd]
  rw [if_pos hw]
  obtain ⟨v', w', hr, h2, h3, h4, h5⟩ := run_append_own_at (P := Try.prog) w base t o.type e i z size bytes ht hi hz hsize hby hzs hsz v n xs hown ad m c news hl hnews h1 h63 hbytes hbase
  unfold Oper.wp execOp
  simp only [ho, resolve, invoke, builtin, Sem.run_bind, Sem.run_pure, Result.andThen_ok, List.map_toArray, List.map_cons, List.map_nil, hs, hx, hr]
  exact hK v' w' h2 h3 h5
theorem PrCells.push {base : Nat} {wr w1 w2 : World} {v v' k u : Value} {n : Nat} {ys : List Value} {es : List Pr} {e : Pr} {o : Obj} {t : TypeId} (hown : wr.ownsRow base t 2 v n ys) (hys : PrCells wr (fresh base v) ys es) (hb1 : Below wr.heap.size wr w1)
    (hk : Byt w1 (fun i => wr.heap.size ≤ i) k e.key) (hu : Byt w1 (fun i => wr.heap.size ≤ i) u e.val) (hbase : base ≤ wr.heap.size) (hg : (w1.alloc o).grownBy w2 v.ownBlock) (hat : v'.ownBlock = v.ownBlock ∨ v'.ownBlock = some (w1.alloc o).heap.size) :
    PrCells w2 (fresh base v') (ys ++ [k, u]) (es ++ [e]) := by
  have hal : Below w1.heap.size w1 (w1.alloc o) := (Below.refl _ _).alloc (Nat.le_refl _) _
  have hz := hb1.size
  have old : ∀ x bs, Byt wr (fresh base v) x bs → Byt w2 (fresh base v') x bs := fun x bs h =>
    ((h.below hb1).below hal).push hg hat (fun i _ hs => hs.2) (fun i _ hs hn => ⟨hs.1, hn⟩)
  have new : ∀ x bs, Byt w1 (fun i => wr.heap.size ≤ i) x bs → Byt w2 (fresh base v') x bs := fun x bs h =>
    (h.below hal).push hg hat (fun i _ hs e => by have := hown.lt i e; omega) (fun i _ hs hn => ⟨by omega, hn⟩)
  exact (hys.imp old).append (PrCells.one (new _ _ hk) (new _ _ hu))
def visC (seq : Int) : List UInt8 → List Ent → List Pr
  | _, [] => []
  | a, e :: l => if seq < e.seq then visC seq a l else if a = e.key then visC seq a l else if e.dead = true then visC seq e.key l else ⟨e.key, e.val⟩ :: visC seq e.key l
theorem visC_step {seq : Int} (a : List UInt8) {es : List Ent} {k : Nat} {e : Ent} (h : es[k]? = some e) :
    visC seq a (es.drop k) = if seq < e.seq then visC seq a (es.drop (k + 1)) else if a = e.key then visC seq a (es.drop (k + 1)) else if e.dead = true then visC seq e.key (es.drop (k + 1)) else ⟨e.key, e.val⟩ :: visC seq e.key (es.drop (k + 1)) := by
  rw [List.drop_eq_getElem_cons (List.getElem?_eq_some_iff.1 h).1, (List.getElem?_eq_some_iff.1 h).2]
  rfl
/-- the frame in the region of clones. -/
theorem fr.all {W w' : World} {p q : Addr} {a b : Value} (h : fr W w') (c0 : W.cell? p = some a) (c3 : W.cell? q = some b) : w'.cell? p = some a ∧ w'.cell? q = some b ∧ fr W w' := ⟨h.cell c0, h.cell c3, h⟩
theorem fr.byt {W w' : World} (h : fr W w') {S : Nat → Prop} {v : Value} {bs : List UInt8} (hv : Byt W S v bs) : Byt w' S v bs := hv.below h
theorem fr.undrew {W w' : World} (h : fr W w'.drew) : fr W w' := undrewR h
theorem fr.two {W w' : World} {p q : Addr} {a b : Value} (h : fr W w') (c0 : W.cell? p = some a) (c3 : W.cell? q = some b) : w'.cell? p = some a ∧ w'.cell? q = some b := ⟨h.cell c0, h.cell c3⟩
theorem fr.grown {W w' w2 : World} {B i j : Nat} {a b : Value} {g : Option Nat} (h : fr W w') (c0 : W.cell? ⟨B, i, none⟩ = some a) (c3 : W.cell? ⟨B, j, none⟩ = some b) (hg : w'.grownBy w2 g) (hne : ¬ g = some B) :
    w2.cell? ⟨B, i, none⟩ = some a ∧ w2.cell? ⟨B, j, none⟩ = some b := by
  have hlt : B < W.heap.size := World.block_lt_of_cell? W _ c0
  have hb := hg.block B (by have := Below.size h; omega) (fun e => hne e.symm)
  exact ⟨(World.cell?_of_block (w' := w2) (w := w') (a := ⟨B, i, none⟩) hb).trans (h.cell c0), (World.cell?_of_block (w' := w2) (w := w') (a := ⟨B, j, none⟩) hb).trans (h.cell c3)⟩
theorem cell_two_new (w : World) (a b : Value) (t : TypeId) : ∀ j u, [a, b][j]? = some u → (w.alloc (.cells #[a, b] t)).cell? ((⟨w.heap.size, 0, none⟩ : Addr).add j) = some u := by
  intro j u hu
  rw [Addr.add_lit, World.cell?_alloc_at _ _ _ _ rfl]
  simpa using hu
end Go.Proofs.Ytacdhkkelkplnaa
end
section
namespace Go.Proofs.Ytacdhkkelkplnaa
theorem cmpB_nil {a : List UInt8} (h : 0 < a.length) : cmpB [] a < 0 := by
  cases a with
  | nil => simp at h
  | cons x l => simp [cmpB]
theorem goodE_key {e : Ent} (h : goodE e = true) : 0 < e.key.length := (goodR_t.1 h).1
theorem cmpE_lt {a b : Ent} (h : cmpE a b < 0) : cmpB a.key b.key < 0 ∨ (a.key = b.key ∧ b.seq < a.seq) := by
  unfold cmpE at h
  rcases cmpB_range a.key b.key with h1 | h1 | h1
  · left; omega
  · right
    have e1 := cmpB_eq.1 h1
    refine ⟨e1, ?_⟩
    simp [h1, cmpI] at h
    split at h <;> (try split at h) <;> omega
  · simp [h1] at h
theorem cmpB_irrefl {a : List UInt8} : ¬ cmpB a a < 0 := by rw [cmpB_self]; omega
/-- what Thin remembers, against the entry ahead. -/
def thinI (mark : Int) (a : List UInt8) : Option Ent → Prop
  | none => a = []
  | some p => if p.seq ≤ mark then a = p.key else cmpB a p.key < 0
theorem thin_eq (mark : Int) (bottom : Bool) : ∀ (es : List Ent) (a : List UInt8) (p : Option Ent), thinI mark a p → orderedFrom p es = true → thinC mark bottom a es = thinR mark bottom p es := by
  intro es
  induction es with
  | nil => intro a p _ _; simp [thinC, thinR]
  | cons e l ih =>
    intro a p hI ho
    have hg : goodE e = true := by cases p <;> simp [orderedFrom] at ho <;> simp [ho]
    have hol : orderedFrom (some e) l = true := by cases p <;> simp [orderedFrom] at ho <;> simp [ho]
    have hkey := goodE_key hg
    have hseen : e.seq ≤ mark → (a = e.key ↔ seenBy mark p e = true) := by
      intro hs
      cases p with
      | none =>
        simp only [thinI] at hI
        subst hI
        simp only [seenBy, Bool.false_eq_true, iff_false]
        intro h; rw [← h] at hkey; simp at hkey
      | some p =>
        have hlt : cmpE p e < 0 := by simp [orderedFrom] at ho; exact ho.2.1
        simp only [thinI] at hI
        simp only [seenBy, Bool.and_eq_true, decide_eq_true_eq]
        by_cases hp : p.seq ≤ mark
        · rw [if_pos hp] at hI
          subst hI
          exact ⟨fun h => ⟨h, hp⟩, fun h => h.1⟩
        · rw [if_neg hp] at hI
          constructor
          · intro h
            subst h
            rcases cmpE_lt hlt with h1 | h1
            · exact absurd (cmpB_trans hI h1) cmpB_irrefl
            · rw [h1.1] at hI; exact absurd hI cmpB_irrefl
          · intro h; exact absurd h.2 hp
    have hnext : ¬ e.seq ≤ mark → thinI mark a (some e) := by
      intro hs
      simp only [thinI, if_neg hs]
      cases p with
      | none => simp only [thinI] at hI; subst hI; exact cmpB_nil hkey
      | some p =>
        have hlt : cmpE p e < 0 := by simp [orderedFrom] at ho; exact ho.2.1
        simp only [thinI] at hI
        by_cases hp : p.seq ≤ mark
        · rw [if_pos hp] at hI
          subst hI
          rcases cmpE_lt hlt with h1 | h1
          · exact h1
          · omega
        · rw [if_neg hp] at hI
          rcases cmpE_lt hlt with h1 | h1
          · exact cmpB_trans hI h1
          · rw [← h1.1]; exact hI
    have hkeep : e.seq ≤ mark → thinI mark e.key (some e) := by intro hs; simp [thinI, hs]
    simp only [thinC, thinR]
    by_cases hs : e.seq ≤ mark
    · rw [if_pos hs, if_neg (show ¬ mark < e.seq by omega)]
      by_cases ha : a = e.key
      · rw [if_pos ha, if_pos ((hseen hs).1 ha)]
        exact ih _ _ (by rw [ha]; exact hkeep hs) hol
      · rw [if_neg ha, if_neg (fun h => ha ((hseen hs).2 h))]
        have := ih e.key (some e) (hkeep hs) hol
        rw [this]
        rcases hd : e.dead with _ | _ <;> rcases hb : bottom with _ | _ <;> simp
    · rw [if_neg hs, if_pos (show mark < e.seq by omega)]
      rw [ih a (some e) (hnext hs) hol]
theorem thin_law {mark : Int} {bottom : Bool} {es : List Ent} (h : orderedE es = true) : thinC mark bottom [] es = thinR mark bottom none es := thin_eq mark bottom es [] none rfl h
end Go.Proofs.Ytacdhkkelkplnaa
end
