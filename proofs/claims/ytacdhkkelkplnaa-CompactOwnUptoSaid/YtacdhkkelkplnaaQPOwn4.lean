/-
merge's heap: how it lies in memory, and what a store leaves of it.
-/
import Derived.Test.YtacdhkkelkplnaaQPOwn3
import Derived.StillTailTactics
import Derived.Test.YtacdhkkelkplnaaQPOwn0
import Derived.Laws.OwnMore
section
namespace Go.Proofs.Ytacdhkkelkplnaa
open Go.RowKit Go.BigFrame
attribute [local go_sem ↓] Go.wp_at_zero Go.wp_at_succ
def visR (seq : Int) : Option Ent → List Ent → List Pr
  | _, [] => []
  | p, e :: l => if seenBy seq p e = true then visR seq (some e) l else if (decide (e.seq ≤ seq) && !e.dead) = true then ⟨e.key, e.val⟩ :: visR seq (some e) l else visR seq (some e) l
theorem visR_step {seq : Int} (p : Option Ent) {es : List Ent} {k : Nat} {e : Ent} (h : es[k]? = some e) :
    visR seq p (es.drop k) = if seenBy seq p e = true then visR seq (some e) (es.drop (k + 1)) else if (decide (e.seq ≤ seq) && !e.dead) = true then ⟨e.key, e.val⟩ :: visR seq (some e) (es.drop (k + 1)) else visR seq (some e) (es.drop (k + 1)) := by
  rw [List.drop_eq_getElem_cons (List.getElem?_eq_some_iff.1 h).1, (List.getElem?_eq_some_iff.1 h).2]
  rfl
theorem PrCells.pushOld {base : Nat} {wr w1 w2 : World} {S0 : Nat → Prop} {v v' k u : Value} {n : Nat} {ys : List Value} {es : List Pr} {e : Pr} {o : Obj} {t : TypeId} (hown : wr.ownsRow base t 2 v n ys) (hys : PrCells wr S0 ys es) (hb1 : Below wr.heap.size wr w1)
    (hk : Byt wr S0 k e.key) (hu : Byt wr S0 u e.val) (hS0 : ∀ i, S0 i → i < base) (hg : (w1.alloc o).grownBy w2 v.ownBlock) (hat : v'.ownBlock = v.ownBlock ∨ v'.ownBlock = some (w1.alloc o).heap.size) :
    PrCells w2 S0 (ys ++ [k, u]) (es ++ [e]) := by
  have hal : Below w1.heap.size w1 (w1.alloc o) := (Below.refl _ _).alloc (Nat.le_refl _) _
  have old : ∀ x bs, Byt wr S0 x bs → Byt w2 S0 x bs := fun x bs h =>
    ((h.below hb1).below hal).push hg hat (fun i _ hs e => by have := (hown.lt i e).1; have := hS0 i hs; omega) (fun i _ hs _ => hs)
  exact (hys.imp old).append (PrCells.one (old _ _ hk) (old _ _ hu))
set_option maxRecDepth 100000 in
set_option maxHeartbeats 4000000 in
theorem rvis_any (S : Nat → Prop) (v : Value) (es : List Ent) (seq : Int) (w : World) (hv : Ents w S v es) :
    Calls Try.prog 15 #[v, .int .i64 seq] w fun r w' => ∃ v', r = .returned (.tuple #[v', .int .i64 (if orderedE es then 0 else 30)]) ∧ Prs w' (fun _ => True) v' (if orderedE es then visR seq none es else []) ∧ Below w.heap.size w w' := by
  obtain ⟨i0, hi, hz0, hz1, hz2⟩ := info_parts info65
  have hby := Lib.hid hz2
  have hz1' := Lib.hid hz1
  clear hz2 hz1
  have HORD := Lib.hid (rordered_any S v es w hv)
  replace hv := hv.lt
  obtain ⟨S0, hS0⟩ : ∃ S0 : Nat → Prop, S0 = fun i => i < w.heap.size := ⟨_, rfl⟩
  rw [← hS0] at hv
  have HS0 := Lib.hid hS0
  clear hS0
  obtain ⟨A, c, cs, rfl, hc, hcm, hl, hr, he⟩ := hv
  obtain ⟨n, hn⟩ : ∃ n, es.length = n := ⟨_, rfl⟩
  rw [hn] at hr hl HORD ⊢
  have HN := Lib.hid hn
  clear hn
  rcases ho : orderedE es with _ | _
  · rw [ho] at HORD
    clear ho
    go_enter Try.func15, Try.ntmps15
    go_wp2_with (go_at_call 28; refine HORD.out.mono ?_; rintro r w1 ⟨rfl, hb1⟩)
    refine bodyPost_ret (v := .tuple #[_, _]) (by simp [results, Try.results15, go_sem]; exact ⟨rfl, rfl⟩) rfl ?_
    exact ⟨_, rfl, Prs.nil _ _, hb1⟩
  · rw [ho] at HORD
    clear ho
    go_enter Try.func15, Try.ntmps15
    go_wp2_with (go_at_call 28; refine HORD.out.mono ?_; rintro r w0 ⟨rfl, hb0⟩)
    go_loopw [6, 7, 13] (fun v8 _ t wr => ∃ k : Nat, ∃ ys : List Value, ∃ os : List Pr, k ≤ n ∧ t = .int .i64 k ∧ wr.ownsRow w.heap.size 75 2 v8 os.length ys ∧ PrCells wr S0 ys os ∧ visR seq none es = os ++ visR seq (if k = 0 then none else es[k - 1]?) (es.drop k) ∧ os.length ≤ k ∧ Below w.heap.size w wr) (fun _ _ t _ => n - (intOf t).toNat)
    case atStart => exact ⟨0, [], [], by omega, rfl, World.ownsRow_nil _ _ _ _, trivial, rfl, by simp, hb0⟩
    case round =>
      obtain ⟨k, ys, os, hk, rfl, hown, hys, hpre, hol, hbel⟩ := hrel
      by_cases hkn : k < n
      · obtain ⟨e, hek⟩ : ∃ e, es[k]? = some e := ⟨_, List.getElem?_eq_getElem (by rw [HN.out]; exact hkn)⟩
        obtain ⟨b, o, kk, uu, rfl, c0, c1, c2, c3, b1, b2, _, hSb0⟩ := (hr.below hbel).ent (he.below hbel) HN.out hek
        have hSb := Lib.hid (show b < w.heap.size by rw [HS0.out] at hSb0; exact hSb0)
        obtain ⟨dd, hdd⟩ : ∃ d, e.dead = d := ⟨_, rfl⟩
        rw [hdd] at c2
        have HDD := Lib.hid hdd
        have HO := Lib.hid hown
        have HEK := Lib.hid hek
        have HST := Lib.hid (visR_step (seq := seq) (if k = 0 then none else es[k - 1]?) hek)
        have HPRE := Lib.hid hpre
        have HB := Lib.hid hbel
        have HKY := Lib.hid b1
        have HVL := Lib.hid b2
        have HYS := Lib.hid hys
        have HHR := Lib.hid (hr.below hbel)
        have HHE := Lib.hid (he.below hbel)
        obtain ⟨Ak, ck, rfl⟩ := slice_form b1
        obtain ⟨Au, cu, rfl⟩ := slice_form b2
        clear hek hdd b1 b2 hown hpre hbel hys hSb0
        have F0 : ∀ q : Ext wr, q.w.cell? { block := b, off := o + k * 4 } = _ := fun q => q.h.cell c0
        have HCK : ∀ q : Ext wr, (convert 44 9 (.slice Ak e.key.length ck)).run Try.prog q.w = .ok (.string ⟨e.key.toArray⟩) q.w := fun q => (HKY.out.below q.h).convert
        go_wp2
        rcases Nat.eq_zero_or_pos k with h0 | h0
        · have hd0 : decide ((0:Int) < (k:Int)) = false := by simp; omega
          have HSEEN := Lib.hid (show seenBy seq (if k = 0 then none else es[k - 1]?) e = false by rw [if_pos h0]; rfl)
          (refine wp_region_quiet_ext (by kernel_rfl) (by kernel_rfl) ?_; (repeat (go_big_quiet_step (fail))); refine wpQuiet_nil ?_; intro wq hw'; obtain ⟨⟨_, hq⟩, hw''⟩ := hw'; subst hw'')
          clear hd0 h0
          have HB1 := Lib.hid (show Below wr.heap.size wr wq from hq)
          have HBD := Lib.hid (show Below wr.heap.size wr (World.drew wq) from fr.drew hq)
          have C0 := hq.cell c0
          have C1 := hq.cell c1
          have C2 := hq.cell c2
          have C3 := hq.cell c3
          clear hq
          by_cases hs : e.seq ≤ seq
          · have HSD := Lib.hid (show decide (e.seq ≤ seq) = true by simpa using hs)
            rcases dd with _ | _
            · go_wp2
              have hf0 : fr wq wq.drew := fr.refl.drew
              have C0h := Lib.hid C0
              have C3h := Lib.hid C3
              go_region_held3 (fun w' => w'.cell? ⟨b, o + k * 4, none⟩ = some (.slice Ak e.key.length ck) ∧ w'.cell? ⟨b, o + k * 4 + 3, none⟩ = some (.slice Au e.val.length cu))
                (first
                  | with_reducible exact fr.two hf0 C0h.out C3h.out
                  | with_reducible exact hs3
                  | with_reducible exact fr.two (fr.alloc hf0 _) C0h.out C3h.out)
                (first | (go_split_ands; refine step_append_own_at (by rfl) _ _ 47 (by rfl) w.heap.size 75 i0 _ 2 48 Try.underlying47 hi hz0 hz1'.out hby.out rfl (by decide) _ _ _ (by rfl) ((own_below HO.out HBD.out).alloc _) ⟨(World.drew wq).heap.size, 0, none⟩ 1 1 [.slice Ak e.key.length ck, .slice Au e.val.length cu] (by rfl) rfl (cell_two_new _ _ _ _) (by simp [Value.oneCell']) (by unfold maxLen; omega) (by omega) (by have := HB.out.size; have := HBD.out.size; simp at *; omega) ?_; intro v' w2 hown' hgrow hat; have hs3 := fr.grown (fr.alloc hf0 _) C0h.out C3h.out hgrow (fun e => by have := (HO.out.lt _ e).1; have := hSb.out; omega)))
              go_wp2
              refine ⟨⟨k + 1, _, os ++ [⟨e.key, e.val⟩], by omega, by go_num, (by rw [List.length_append]; exact hown'), PrCells.pushOld (e := ⟨e.key, e.val⟩) HO.out HYS.out HBD.out HKY.out HVL.out (fun i hs => by rw [HS0.out] at hs; exact hs) hgrow hat, ?_, by simp; omega, ((HB.out.trans (HBD.out.mono HB.out.size)).alloc (by have := HB.out.size; have := HBD.out.size; omega) _).grown hgrow (by have := HB.out.size; have := HBD.out.size; simp at *; omega) (fun j e => (HO.out.lt j e).1)⟩, by simp [intOf]; omega⟩
              rw [HPRE.out, HST.out, HSEEN.out, HSD.out, HDD.out]; simp [HEK.out]
            · go_wp2
              refine ⟨⟨k + 1, _, os, by omega, by go_num, own_below HO.out HB1.out, HYS.out.below HB1.out, ?_, by omega, HB.out.trans (HB1.out.mono HB.out.size)⟩, by simp [intOf]; omega⟩
              rw [HPRE.out, HST.out, HSEEN.out, HSD.out, HDD.out]; simp [HEK.out]
          · have HSD := Lib.hid (show decide (e.seq ≤ seq) = false by simpa using hs)
            go_wp2
            refine ⟨⟨k + 1, _, os, by omega, by go_num, own_below HO.out HB1.out, HYS.out.below HB1.out, ?_, by omega, HB.out.trans (HB1.out.mono HB.out.size)⟩, by simp [intOf]; omega⟩
            rw [HPRE.out, HST.out, HSEEN.out, HSD.out]; simp [HEK.out]
        · obtain ⟨j, rfl⟩ : ∃ j, k = j + 1 := ⟨k - 1, by omega⟩
          obtain ⟨e', hej⟩ : ∃ e, es[j]? = some e := ⟨_, List.getElem?_eq_getElem (by rw [HN.out]; omega)⟩
          obtain ⟨b', o', kk', uu', hE, d0, d1, d2, d3, b1, b2, _, _⟩ := HHR.out.ent HHE.out HN.out hej
          cases hE
          obtain ⟨Ak', ck', rfl⟩ := slice_form b1
          have G0 : ∀ q : Ext wr, q.w.cell? { block := b, off := o + j * 4 } = _ := fun q => q.h.cell d0
          have G1 : ∀ q : Ext wr, q.w.cell? { block := b, off := o + j * 4 + 1 } = _ := fun q => q.h.cell d1
          have GCK : ∀ q : Ext wr, (convert 44 9 (.slice Ak' e'.key.length ck')).run Try.prog q.w = .ok (.string ⟨e'.key.toArray⟩) q.w := fun q => (b1.below q.h).convert
          have hd0 : decide ((0:Int) < (j:Int) + 1) = true := by first | (simp; done) | (simp; omega)
          have HJ := Lib.hid (show (if j + 1 = 0 then none else es[j + 1 - 1]?) = some e' by simpa using hej)
          clear hej b1 b2 d0 d1 d2 d3 h0
          by_cases hke : e'.key = e.key
          · have HKE := Lib.hid hke
            have GCK2 : ∀ q : Ext wr, (convert 44 9 (.slice Ak' e'.key.length ck')).run Try.prog q.w = .ok (.string ⟨e.key.toArray⟩) q.w := fun q => by rw [GCK q, hke]
            clear hke GCK
            by_cases hsq : e'.seq ≤ seq
            · have HSEEN := Lib.hid (show seenBy seq (if j + 1 = 0 then none else es[j + 1 - 1]?) e = true by rw [HJ.out]; simp [seenBy, HKE.out, hsq])
              (refine wp_region_quiet_ext (by kernel_rfl) (by kernel_rfl) ?_; (repeat (go_big_quiet_step (fail))); refine wpQuiet_nil ?_; intro wq hw'; obtain ⟨⟨_, hq⟩, hw''⟩ := hw'; subst hw'')
              have HB1 := Lib.hid (show Below wr.heap.size wr wq from hq)
              clear hq
              go_wp2
              refine ⟨⟨j + 1 + 1, _, os, by omega, by go_num, own_below HO.out HB1.out, HYS.out.below HB1.out, ?_, by omega, HB.out.trans (HB1.out.mono HB.out.size)⟩, by simp [intOf]; omega⟩
              rw [HPRE.out, HST.out, HSEEN.out]; simp [HEK.out]
            · have HSEEN := Lib.hid (show seenBy seq (if j + 1 = 0 then none else es[j + 1 - 1]?) e = false by rw [HJ.out]; simp [seenBy, HKE.out]; omega)
              (refine wp_region_quiet_ext (by kernel_rfl) (by kernel_rfl) ?_; (repeat (go_big_quiet_step (fail))); refine wpQuiet_nil ?_; intro wq hw'; obtain ⟨⟨_, hq⟩, hw''⟩ := hw'; subst hw'')
              generalize hm : j + 1 = m at *
              have HB1 := Lib.hid (show Below wr.heap.size wr wq from hq)
              have HBD := Lib.hid (show Below wr.heap.size wr (World.drew wq) from fr.drew hq)
              have C0 := hq.cell c0
              have C1 := hq.cell c1
              have C2 := hq.cell c2
              have C3 := hq.cell c3
              clear hq
              by_cases hs : e.seq ≤ seq
              · have HSD := Lib.hid (show decide (e.seq ≤ seq) = true by simpa using hs)
                rcases dd with _ | _
                · go_wp2
                  have hf0 : fr wq wq.drew := fr.refl.drew
                  have C0h := Lib.hid C0
                  have C3h := Lib.hid C3
                  go_region_held3 (fun w' => w'.cell? ⟨b, o + m * 4, none⟩ = some (.slice Ak e.key.length ck) ∧ w'.cell? ⟨b, o + m * 4 + 3, none⟩ = some (.slice Au e.val.length cu))
                    (first
                      | with_reducible exact fr.two hf0 C0h.out C3h.out
                      | with_reducible exact hs3
                      | with_reducible exact fr.two (fr.alloc hf0 _) C0h.out C3h.out)
                    (first | (go_split_ands; refine step_append_own_at (by rfl) _ _ 47 (by rfl) w.heap.size 75 i0 _ 2 48 Try.underlying47 hi hz0 hz1'.out hby.out rfl (by decide) _ _ _ (by rfl) ((own_below HO.out HBD.out).alloc _) ⟨(World.drew wq).heap.size, 0, none⟩ 1 1 [.slice Ak e.key.length ck, .slice Au e.val.length cu] (by rfl) rfl (cell_two_new _ _ _ _) (by simp [Value.oneCell']) (by unfold maxLen; omega) (by omega) (by have := HB.out.size; have := HBD.out.size; simp at *; omega) ?_; intro v' w2 hown' hgrow hat; have hs3 := fr.grown (fr.alloc hf0 _) C0h.out C3h.out hgrow (fun e => by have := (HO.out.lt _ e).1; have := hSb.out; omega)))
                  go_wp2
                  refine ⟨⟨m + 1, _, os ++ [⟨e.key, e.val⟩], by omega, by go_num, (by rw [List.length_append]; exact hown'), PrCells.pushOld (e := ⟨e.key, e.val⟩) HO.out HYS.out HBD.out HKY.out HVL.out (fun i hs => by rw [HS0.out] at hs; exact hs) hgrow hat, ?_, by simp; omega, ((HB.out.trans (HBD.out.mono HB.out.size)).alloc (by have := HB.out.size; have := HBD.out.size; omega) _).grown hgrow (by have := HB.out.size; have := HBD.out.size; simp at *; omega) (fun j e => (HO.out.lt j e).1)⟩, by simp [intOf]; omega⟩
                  rw [HPRE.out, HST.out, HSEEN.out, HSD.out, HDD.out]; simp [HEK.out]
                · go_wp2
                  refine ⟨⟨m + 1, _, os, by omega, by go_num, own_below HO.out HB1.out, HYS.out.below HB1.out, ?_, by omega, HB.out.trans (HB1.out.mono HB.out.size)⟩, by simp [intOf]; omega⟩
                  rw [HPRE.out, HST.out, HSEEN.out, HSD.out, HDD.out]; simp [HEK.out]
              · have HSD := Lib.hid (show decide (e.seq ≤ seq) = false by simpa using hs)
                go_wp2
                refine ⟨⟨m + 1, _, os, by omega, by go_num, own_below HO.out HB1.out, HYS.out.below HB1.out, ?_, by omega, HB.out.trans (HB1.out.mono HB.out.size)⟩, by simp [intOf]; omega⟩
                rw [HPRE.out, HST.out, HSEEN.out, HSD.out]; simp [HEK.out]
          · have HSEEN := Lib.hid (show seenBy seq (if j + 1 = 0 then none else es[j + 1 - 1]?) e = false by rw [HJ.out]; simp [seenBy, hke])
            have hne4 : (e'.key == e.key) = false := by simpa using hke
            have hne5 : decide (e'.key = e.key) = false := by simpa using hke
            (refine wp_region_quiet_ext (by kernel_rfl) (by kernel_rfl) ?_; (repeat (go_big_quiet_step (fail))); refine wpQuiet_nil ?_; intro wq hw'; obtain ⟨⟨_, hq⟩, hw''⟩ := hw'; subst hw'')
            generalize hm : j + 1 = m at *
            have HB1 := Lib.hid (show Below wr.heap.size wr wq from hq)
            have HBD := Lib.hid (show Below wr.heap.size wr (World.drew wq) from fr.drew hq)
            have C0 := hq.cell c0
            have C1 := hq.cell c1
            have C2 := hq.cell c2
            have C3 := hq.cell c3
            clear hq
            by_cases hs : e.seq ≤ seq
            · have HSD := Lib.hid (show decide (e.seq ≤ seq) = true by simpa using hs)
              rcases dd with _ | _
              · go_wp2
                have hf0 : fr wq wq.drew := fr.refl.drew
                have C0h := Lib.hid C0
                have C3h := Lib.hid C3
                go_region_held3 (fun w' => w'.cell? ⟨b, o + m * 4, none⟩ = some (.slice Ak e.key.length ck) ∧ w'.cell? ⟨b, o + m * 4 + 3, none⟩ = some (.slice Au e.val.length cu))
                  (first
                    | with_reducible exact fr.two hf0 C0h.out C3h.out
                    | with_reducible exact hs3
                    | with_reducible exact fr.two (fr.alloc hf0 _) C0h.out C3h.out)
                  (first | (go_split_ands; refine step_append_own_at (by rfl) _ _ 47 (by rfl) w.heap.size 75 i0 _ 2 48 Try.underlying47 hi hz0 hz1'.out hby.out rfl (by decide) _ _ _ (by rfl) ((own_below HO.out HBD.out).alloc _) ⟨(World.drew wq).heap.size, 0, none⟩ 1 1 [.slice Ak e.key.length ck, .slice Au e.val.length cu] (by rfl) rfl (cell_two_new _ _ _ _) (by simp [Value.oneCell']) (by unfold maxLen; omega) (by omega) (by have := HB.out.size; have := HBD.out.size; simp at *; omega) ?_; intro v' w2 hown' hgrow hat; have hs3 := fr.grown (fr.alloc hf0 _) C0h.out C3h.out hgrow (fun e => by have := (HO.out.lt _ e).1; have := hSb.out; omega)))
                go_wp2
                refine ⟨⟨m + 1, _, os ++ [⟨e.key, e.val⟩], by omega, by go_num, (by rw [List.length_append]; exact hown'), PrCells.pushOld (e := ⟨e.key, e.val⟩) HO.out HYS.out HBD.out HKY.out HVL.out (fun i hs => by rw [HS0.out] at hs; exact hs) hgrow hat, ?_, by simp; omega, ((HB.out.trans (HBD.out.mono HB.out.size)).alloc (by have := HB.out.size; have := HBD.out.size; omega) _).grown hgrow (by have := HB.out.size; have := HBD.out.size; simp at *; omega) (fun j e => (HO.out.lt j e).1)⟩, by simp [intOf]; omega⟩
                rw [HPRE.out, HST.out, HSEEN.out, HSD.out, HDD.out]; simp [HEK.out]
              · go_wp2
                refine ⟨⟨m + 1, _, os, by omega, by go_num, own_below HO.out HB1.out, HYS.out.below HB1.out, ?_, by omega, HB.out.trans (HB1.out.mono HB.out.size)⟩, by simp [intOf]; omega⟩
                rw [HPRE.out, HST.out, HSEEN.out, HSD.out, HDD.out]; simp [HEK.out]
            · have HSD := Lib.hid (show decide (e.seq ≤ seq) = false by simpa using hs)
              go_wp2
              refine ⟨⟨m + 1, _, os, by omega, by go_num, own_below HO.out HB1.out, HYS.out.below HB1.out, ?_, by omega, HB.out.trans (HB1.out.mono HB.out.size)⟩, by simp [intOf]; omega⟩
              rw [HPRE.out, HST.out, HSEEN.out, HSD.out]; simp [HEK.out]
      · obtain rfl : k = n := by omega
        have HO := Lib.hid hown
        have HP := Lib.hid hpre
        clear hown hpre
        go_wp2
        refine bodyPost_ret (v := .tuple #[_, _]) (by simp [results, Try.results15, go_sem]; exact ⟨rfl, rfl⟩) rfl ?_
        refine ⟨_, rfl, ?_, hbel⟩
        have e1 : es.drop k = [] := List.drop_eq_nil_of_le (by rw [HN.out]; exact Nat.le_refl _)
        rw [HP.out, e1, visR, List.append_nil]
        exact Prs.of_own HO.out (hys.mono fun i hi => trivial) (fun i hi _ => trivial) (by omega)
end Go.Proofs.Ytacdhkkelkplnaa
end
section
namespace Go.Proofs.Ytacdhkkelkplnaa
theorem thinI_seen {mark : Int} {a : List UInt8} {p : Option Ent} {e : Ent} {l : List Ent} (hI : thinI mark a p) (ho : orderedFrom p (e :: l) = true) : a = e.key ↔ seenBy mark p e = true := by
  have hg : goodE e = true := by cases p <;> simp [orderedFrom] at ho <;> simp [ho]
  have hkey := goodE_key hg
  cases p with
  | none =>
    simp only [thinI] at hI
    subst hI
    simp only [seenBy, Bool.false_eq_true, iff_false]
    intro h; rw [← h] at hkey; simp at hkey
  | some p =>
    have hlt : cmpE p e < 0 := by simp [orderedFrom] at ho; exact ho.2.1
    simp only [thinI] at hI
    simp only [seenBy, Bool.and_eq_true, decide_eq_true_eq]
    by_cases hp : p.seq ≤ mark
    · rw [if_pos hp] at hI
      subst hI
      exact ⟨fun h => ⟨h, hp⟩, fun h => h.1⟩
    · rw [if_neg hp] at hI
      constructor
      · intro h
        subst h
        rcases cmpE_lt hlt with h1 | h1
        · exact absurd (cmpB_trans hI h1) cmpB_irrefl
        · rw [h1.1] at hI; exact absurd hI cmpB_irrefl
      · intro h; exact absurd h.2 hp
theorem thinI_next {mark : Int} {a : List UInt8} {p : Option Ent} {e : Ent} {l : List Ent} (hI : thinI mark a p) (ho : orderedFrom p (e :: l) = true) (hs : ¬ e.seq ≤ mark) : thinI mark a (some e) := by
  have hg : goodE e = true := by cases p <;> simp [orderedFrom] at ho <;> simp [ho]
  have hkey := goodE_key hg
  simp only [thinI, if_neg hs]
  cases p with
  | none => simp only [thinI] at hI; subst hI; exact cmpB_nil hkey
  | some p =>
    have hlt : cmpE p e < 0 := by simp [orderedFrom] at ho; exact ho.2.1
    simp only [thinI] at hI
    by_cases hp : p.seq ≤ mark
    · rw [if_pos hp] at hI
      subst hI
      rcases cmpE_lt hlt with h1 | h1
      · exact h1
      · omega
    · rw [if_neg hp] at hI
      rcases cmpE_lt hlt with h1 | h1
      · exact cmpB_trans hI h1
      · rw [← h1.1]; exact hI
theorem seenBy_seq {mark : Int} {p : Option Ent} {e : Ent} {l : List Ent} (ho : orderedFrom p (e :: l) = true) (h : seenBy mark p e = true) : e.seq ≤ mark := by
  cases p with
  | none => simp [seenBy] at h
  | some p =>
    have hlt : cmpE p e < 0 := by simp [orderedFrom] at ho; exact ho.2.1
    simp only [seenBy, Bool.and_eq_true, decide_eq_true_eq] at h
    rcases cmpE_lt hlt with h1 | h1
    · rw [h.1] at h1; exact absurd h1 cmpB_irrefl
    · omega
theorem vis_eq (seq : Int) : ∀ (es : List Ent) (a : List UInt8) (p : Option Ent), thinI seq a p → orderedFrom p es = true → visC seq a es = visR seq p es := by
  intro es
  induction es with
  | nil => intro a p _ _; simp [visC, visR]
  | cons e l ih =>
    intro a p hI ho
    have hol : orderedFrom (some e) l = true := by cases p <;> simp [orderedFrom] at ho <;> simp [ho]
    have hseen := thinI_seen hI ho
    simp only [visC, visR]
    by_cases hs : e.seq ≤ seq
    · have hkeep : thinI seq e.key (some e) := by simp [thinI, hs]
      rw [if_neg (show ¬ seq < e.seq by omega)]
      by_cases ha : a = e.key
      · rw [if_pos ha, if_pos (hseen.1 ha)]
        exact ih _ _ (by rw [ha]; exact hkeep) hol
      · rw [if_neg ha, if_neg (fun h => ha (hseen.2 h)), ih e.key (some e) hkeep hol]
        rcases hd : e.dead with _ | _ <;> simp [hs]
    · rw [if_pos (show seq < e.seq by omega), if_neg (fun h => hs (seenBy_seq ho h)), ih a (some e) (thinI_next hI ho hs) hol]
      simp [hs]
theorem vis_law {seq : Int} {es : List Ent} (h : orderedE es = true) : visC seq [] es = visR seq none es := vis_eq seq es [] none rfl h
end Go.Proofs.Ytacdhkkelkplnaa
end
section
namespace Go.Proofs.Ytacdhkkelkplnaa
open Go.RowKit Go.BigFrame
attribute [local go_sem ↓] Go.wp_at_zero Go.wp_at_succ
theorem Ents.head {w : World} {S : Nat → Prop} {v : Value} {e : Ent} {l : List Ent} (h : Ents w S v (e :: l)) :
    ∃ b o c k u, v = .slice (some ⟨b, o, none⟩) (l.length + 1) c ∧ w.cell? ⟨b, o, none⟩ = some k ∧ w.cell? ⟨b, o + 1, none⟩ = some (.int .i64 e.seq) ∧ w.cell? ⟨b, o + 2, none⟩ = some (.bool e.dead) ∧ w.cell? ⟨b, o + 3, none⟩ = some u ∧ Byt w S k e.key ∧ Byt w S u e.val := by
  obtain ⟨A, c, cs, rfl, hc, hcm, hl, hr, he⟩ := h
  obtain ⟨b, o, k, u, rfl, c0, c1, c2, c3, b1, b2, _, _⟩ := hr.ent he rfl (i := 0) (e := e) rfl
  exact ⟨b, o, c, k, u, by simp, by simpa using c0, by simpa using c1, by simpa using c2, by simpa using c3, b1, b2⟩
set_option maxRecDepth 100000 in
set_option maxHeartbeats 2000000 in
theorem mclos_any (S S' : Nat → Prop) (v v' : Value) (a b : Ent) (la lb : List Ent) (w : World) (hv : Ents w S v (a :: la)) (hv' : Ents w S' v' (b :: lb)) :
    Calls Try.prog 46 #[v, v'] w fun r w' => r = .returned (.int .i64 (cmpE a b)) ∧ Below w.heap.size w w' := by
  obtain ⟨b1, o1, c1, k1, u1, rfl, x0, x1, x2, x3, y1, y2⟩ := hv.head
  obtain ⟨b2, o2, c2, k2, u2, rfl, z0, z1, z2, z3, t1, t2⟩ := hv'.head
  have F0 : ∀ q : Ext w, q.w.cell? { block := b1, off := o1 } = _ := fun q => q.h.cell x0
  have F1 : ∀ q : Ext w, q.w.cell? { block := b1, off := o1 + 1 } = _ := fun q => q.h.cell x1
  have F2 : ∀ q : Ext w, q.w.cell? { block := b1, off := o1 + 2 } = _ := fun q => q.h.cell x2
  have F3 : ∀ q : Ext w, q.w.cell? { block := b1, off := o1 + 3 } = _ := fun q => q.h.cell x3
  have G0 : ∀ q : Ext w, q.w.cell? { block := b2, off := o2 } = _ := fun q => q.h.cell z0
  have G1 : ∀ q : Ext w, q.w.cell? { block := b2, off := o2 + 1 } = _ := fun q => q.h.cell z1
  have G2 : ∀ q : Ext w, q.w.cell? { block := b2, off := o2 + 2 } = _ := fun q => q.h.cell z2
  have G3 : ∀ q : Ext w, q.w.cell? { block := b2, off := o2 + 3 } = _ := fun q => q.h.cell z3
  have CC : ∀ q : Ext w, Calls Try.prog 47 #[.agg #[k1, .int .i64 a.seq, .bool a.dead, u1], .agg #[k2, .int .i64 b.seq, .bool b.dead, u2]] q.w fun r w'' => r = .returned (.int .i64 (cmpE a b)) ∧ ∃ q' : Ext w, w'' = q'.w := fun q => Ext.calls (compare_any S S' _ _ a b _ (q.h.ent ⟨_, _, rfl, y1, y2⟩) (q.h.ent ⟨_, _, rfl, t1, t2⟩))
  clear hv hv' x0 x1 x2 x3 z0 z1 z2 z3 y1 y2 t1 t2
  go_enter Try.func46, Try.ntmps46
  go_wp2
  (refine wp_region_quiet_ext (by kernel_rfl) (by kernel_rfl) ?_; (repeat (go_big_quiet_step ((go_at_call 47; exact CC _)))); refine wpQuiet_nil ?_; intro wq hw'; obtain ⟨⟨_, hq⟩, hw''⟩ := hw'; subst hw'')
  go_wp2
  refine bodyPost_ret (v := .int .i64 _) (by simp [results, Try.results46, go_sem]; rfl) rfl ?_
  exact ⟨rfl, hq⟩
end Go.Proofs.Ytacdhkkelkplnaa
end
section
namespace Go.Proofs.Ytacdhkkelkplnaa
/-- the order of two lists: that of their heads. -/
def cmpL : List Ent → List Ent → Int
  | a :: _, b :: _ => cmpE a b
  | _, _ => 0
section
variable {α : Type}
def swapL (l : List α) (i j : Nat) : List α :=
  match l[i]?, l[j]? with
  | some a, some b => (l.set i b).set j a
  | _, _ => l
theorem swapL_len (l : List α) (i j : Nat) : (swapL l i j).length = l.length := by
  unfold swapL; split <;> simp
theorem swapL_at {l : List α} {i j : Nat} {a b : α} (hi : l[i]? = some a) (hj : l[j]? = some b) : swapL l i j = (l.set i b).set j a := by
  simp [swapL, hi, hj]
theorem swapL_perm (l : List α) (i j : Nat) : (swapL l i j).Perm l := by
  unfold swapL
  split
  · rename_i a b hi hj
    obtain ⟨h1, e1⟩ := List.getElem?_eq_some_iff.1 hi
    obtain ⟨h2, e2⟩ := List.getElem?_eq_some_iff.1 hj
    subst e1 e2
    exact List.set_set_perm h1 h2
  · exact List.Perm.refl _
/-- the way up. -/
def siftUp (f : α → List Ent) (l : List α) : Nat → List α
  | 0 => l
  | i + 1 =>
    match l[i / 2]?, l[i + 1]? with
    | some a, some b => if cmpL (f a) (f b) ≤ 0 then l else siftUp f (swapL l (i / 2) (i + 1)) (i / 2)
    | _, _ => l
termination_by i => i
theorem siftUp_perm (f : α → List Ent) (l : List α) (i : Nat) : (siftUp f l i).Perm l := by
  induction i using Nat.strongRecOn generalizing l with
  | ind i ih =>
    cases i with
    | zero => rw [siftUp]
    | succ i =>
      rw [siftUp]
      split
      · split
        · exact List.Perm.refl _
        · exact (ih (i / 2) (by omega) _).trans (swapL_perm _ _ _)
      · exact List.Perm.refl _
/-- the way down: the least of three. -/
def leastStep (f : α → List Ent) (l : List α) (k m : Nat) : Nat :=
  match l[k]?, l[m]? with
  | some a, some b => if cmpL (f a) (f b) < 0 then k else m
  | _, _ => m
def lst (f : α → List Ent) (l : List α) (i : Nat) : Nat → Nat
  | 0 => i
  | j + 1 => leastStep f l (2 * i + 1 + j) (lst f l i j)
theorem leastStep_or (f : α → List Ent) (l : List α) (k m : Nat) : leastStep f l k m = m ∨ (leastStep f l k m = k ∧ k < l.length) := by
  unfold leastStep
  split
  · rename_i a b hk hm
    split
    · exact .inr ⟨rfl, (List.getElem?_eq_some_iff.1 hk).1⟩
    · exact .inl rfl
  · exact .inl rfl
theorem lst_or (f : α → List Ent) (l : List α) (i j : Nat) : lst f l i j = i ∨ (i < lst f l i j ∧ lst f l i j < l.length) := by
  induction j with
  | zero => exact .inl rfl
  | succ j ih =>
    rw [lst]
    rcases leastStep_or f l (2 * i + 1 + j) (lst f l i j) with h | ⟨h, h'⟩
    · rw [h]; exact ih
    · rw [h]; exact .inr ⟨by omega, h'⟩
theorem lst_two (f : α → List Ent) (l : List α) (i j : Nat) (hj : j ≤ 2) (h : j = 2 ∨ l.length ≤ 2 * i + 1 + j) : lst f l i 2 = lst f l i j := by
  have st : ∀ k m, l.length ≤ k → leastStep f l k m = m := fun k m hk => by
    rcases leastStep_or f l k m with h | ⟨h, h'⟩
    · exact h
    · omega
  rcases h with rfl | h
  · rfl
  · match j, hj, h with
    | 0, _, h => exact (st _ _ (by omega)).trans (st _ _ (by omega))
    | 1, _, h => exact st _ _ (by omega)
    | 2, _, h => rfl
def siftDown (f : α → List Ent) (l : List α) (i : Nat) : List α :=
  if _h : lst f l i 2 = i then l else siftDown f (swapL l i (lst f l i 2)) (lst f l i 2)
termination_by l.length - i
decreasing_by
  rw [swapL_len]
  rcases lst_or f l i 2 with h' | h'
  · exact absurd h' _h
  · omega
theorem siftDown_perm (f : α → List Ent) (l : List α) (i : Nat) : (siftDown f l i).Perm l := by
  induction hn : l.length - i using Nat.strongRecOn generalizing l i with
  | ind n ih =>
    rw [siftDown]
    split
    · exact List.Perm.refl _
    · rename_i h
      have := lst_or f l i 2
      refine (ih _ ?_ _ _ rfl).trans (swapL_perm _ _ _)
      rw [swapL_len]; omega
/-- what pop leaves. -/
def popL (f : α → List Ent) (l : List α) : List α :=
  match l[l.length - 1]? with
  | some z => siftDown f ((l.set 0 z).take (l.length - 1)) 0
  | none => []
end
end Go.Proofs.Ytacdhkkelkplnaa
end
section
namespace Go.Proofs.Ytacdhkkelkplnaa
open Go.RowKit
theorem info22 : (Try.prog.info? 41).map (fun i => (i.zero, i.size, i.bytes)) = some (some (.slice none 0 0), 1, 24) := by kernel_rfl
abbrev boxOf (sl : Value) : Obj := .cells #[sl, .func (.func 46) #[] #[]] 90 (0, 0)
structure HeapV (w : World) (base p : Nat) (S : Nat → Prop) (sl : Value) (ps : List (Value × List Ent)) : Prop where
  box : w.heap[p]? = some (boxOf sl)
  row : w.ownsRow base 41 1 sl ps.length (ps.map (·.1))
  ne : sl.ownBlock ≠ some p
  vals : ∀ q ∈ ps, Ents w S q.1 q.2 ∧ q.2 ≠ []
  old : ∀ i, S i → i < base
  hp : base ≤ p
theorem own_form {w : World} {base : Nat} {e : TypeId} {size n : Nat} {v : Value} {xs : List Value} (h : w.ownsRow base e size v n xs) : ∃ A c, v = .slice A n c := by
  rcases h.2 with ⟨rfl, rfl⟩ | ⟨g, cap, cur, rfl, _⟩
  · exact ⟨_, _, rfl⟩
  · exact ⟨_, _, rfl⟩
theorem ents_form {w : World} {S : Nat → Prop} {v : Value} {es : List Ent} (h : Ents w S v es) : ∃ A c, v = .slice A es.length c := by
  obtain ⟨A, c, cs, rfl, _⟩ := h
  exact ⟨_, _, rfl⟩
theorem own_pos {w : World} {base : Nat} {e : TypeId} {size n : Nat} {v : Value} {xs : List Value} (h : w.ownsRow base e size v n xs) (hn : 0 < n) :
    ∃ g c, v = .slice (some ⟨g, 0, none⟩) n c ∧ base ≤ g ∧ g < w.heap.size ∧ n ≤ c ∧ c ≤ 9223372036854775807 := by
  rcases h.2 with ⟨rfl, h0⟩ | ⟨g, cap, cur, rfl, hb, hh, hc, hm, _⟩
  · omega
  · refine ⟨g, cap, rfl, hb, ?_, hc, by unfold maxLen at hm; omega⟩
    rcases Nat.lt_or_ge g w.heap.size with h1 | h1
    · exact h1
    · rw [Array.getElem?_eq_none h1] at hh; cases hh
theorem HeapV.lt {w : World} {base p : Nat} {S : Nat → Prop} {sl : Value} {ps : List (Value × List Ent)} (h : HeapV w base p S sl ps) : p < w.heap.size := (Array.getElem?_eq_some_iff.1 h.box).1
theorem own_only {w w' : World} {base : Nat} {e : TypeId} {size n : Nat} {v : Value} {xs : List Value} {S : Nat → Prop} (h : w.ownsRow base e size v n xs) (hb : Only S w w') (hv : ∀ g, v.ownBlock = some g → ¬ S g) : w'.ownsRow base e size v n xs := by
  rcases h.2 with ⟨rfl, h0⟩ | ⟨g, cap, cur, rfl, hbg, hh, r⟩
  · exact ⟨h.1, .inl ⟨rfl, h0⟩⟩
  · have hlt : g < w.heap.size := by
      rcases Nat.lt_or_ge g w.heap.size with h1 | h1
      · exact h1
      · rw [Array.getElem?_eq_none h1] at hh; cases hh
    exact ⟨h.1, .inr ⟨g, cap, cur, rfl, hbg, (hb.block g hlt (hv g rfl)).trans hh, r⟩⟩
theorem only_set (w : World) (g j : Nat) (u : Value) : Only (fun i => i = g) w (w.setCell ⟨g, j, none⟩ u) := Only.setCell (S := fun i => i = g) (Only.refl _ _) (p := ⟨g, j, none⟩) rfl u
theorem Only.of_grown {w w' : World} {g : Option Nat} (h : w.grownBy w' g) : Only (fun i => g = some i) w w' :=
  ⟨h.os, h.tape, h.output, h.size, fun i hi hS => h.block i hi (fun e => hS e.symm)⟩
section
variable {w w' : World} {base p : Nat} {S : Nat → Prop} {sl : Value} {ps : List (Value × List Ent)}
/-- other blocks turn. -/
theorem HeapV.only {T : Nat → Prop} (h : HeapV w base p S sl ps) (ho : Only T w w') (hT : ∀ i, T i → base ≤ i ∧ i ≠ p ∧ sl.ownBlock ≠ some i) : HeapV w' base p S sl ps :=
  ⟨(ho.block p h.lt (fun t => (hT p t).2.1 rfl)).trans h.box, own_only h.row ho (fun g hg t => (hT g t).2.2 hg), h.ne,
    fun q hq => ⟨(h.vals q hq).1.only ho (fun i _ hs t => by have := h.old i hs; have := (hT i t).1; omega), (h.vals q hq).2⟩, h.old, h.hp⟩
theorem HeapV.below (h : HeapV w base p S sl ps) (hb : Below w.heap.size w w') : HeapV w' base p S sl ps :=
  ⟨(hb.block p h.lt).trans h.box, own_below h.row hb, h.ne, fun q hq => ⟨(h.vals q hq).1.below hb, (h.vals q hq).2⟩, h.old, h.hp⟩
/-- an element is stored. -/
theorem HeapV.set {g n c : Nat} (h : HeapV w base p S (.slice (some ⟨g, 0, none⟩) n c) ps) {q : Value × List Ent} (hq : Ents w S q.1 q.2 ∧ q.2 ≠ []) (hn : ps.length = n) (j : Nat) :
    HeapV (w.setCell ⟨g, j, none⟩ q.1) base p S (.slice (some ⟨g, 0, none⟩) n c) (ps.set j q) := by
  subst hn
  obtain ⟨hr, _⟩ := h.row.stored j q.1
  have hg : base ≤ g := (h.row.lt g rfl).1
  have hgp : p ≠ g := fun e => h.ne (by simp [Value.ownBlock, e])
  have ho : Only (fun i => i = g) w (w.setCell ⟨g, j, none⟩ q.1) := only_set _ _ _ _
  refine ⟨(heap_setCell_other w _ p _ hgp).trans h.box, ?_, h.ne, fun q' hq' => ?_, h.old, h.hp⟩
  · simpa [List.map_set] using hr
  · have : Ents w S q'.1 q'.2 ∧ q'.2 ≠ [] := by
      rcases List.mem_or_eq_of_mem_set hq' with h1 | h1
      · exact h.vals _ h1
      · exact h1 ▸ hq
    exact ⟨this.1.only ho (fun i _ hs t => by have := h.old i hs; omega), this.2⟩
/-- an exchange. -/
theorem HeapV.swap {g n c : Nat} (h : HeapV w base p S (.slice (some ⟨g, 0, none⟩) n c) ps) {i j : Nat} {a b : Value × List Ent} (hn : ps.length = n) (hi : ps[i]? = some a) (hj : ps[j]? = some b) :
    HeapV ((w.setCell ⟨g, i, none⟩ b.1).setCell ⟨g, j, none⟩ a.1) base p S (.slice (some ⟨g, 0, none⟩) n c) (swapL ps i j) := by
  rw [swapL_at hi hj]
  have h1 := h.set (h.vals b (List.mem_of_getElem? hj)) hn i
  refine h1.set ⟨?_, (h.vals a (List.mem_of_getElem? hi)).2⟩ (by simpa using hn) j
  have hg : base ≤ g := (h.row.lt g rfl).1
  exact (h.vals a (List.mem_of_getElem? hi)).1.only (S := fun i => i = g) (only_set _ _ _ _) (fun i _ hs t => by have := h.old i hs; omega)
theorem HeapV.cell {g n c : Nat} (h : HeapV w base p S (.slice (some ⟨g, 0, none⟩) n c) ps) {i : Nat} {a : Value × List Ent} (hn : ps.length = n) (hi : ps[i]? = some a) : w.cell? ⟨g, i, none⟩ = some a.1 := by
  subst hn
  rw [h.row.cellAt i (by have := (List.getElem?_eq_some_iff.1 hi).1; omega), List.getElem?_map, hi]; rfl
theorem HeapV.frozen {g n c : Nat} (h : HeapV w base p S (.slice (some ⟨g, 0, none⟩) n c) ps) (hn : ps.length = n) (i : Nat) : w.frozen? ⟨g, i, none⟩ = false := by
  subst hn; exact h.row.frozenAt i
theorem HeapV.box0 (h : HeapV w base p S sl ps) : w.cell? ⟨p, 0, none⟩ = some sl := by rw [cell_of_row w p 0 _ _ _ h.box]; rfl
theorem HeapV.box1 (h : HeapV w base p S sl ps) : w.cell? ⟨p, 1, none⟩ = some (.func (.func 46) #[] #[]) := by rw [cell_of_row w p 1 _ _ _ h.box]; rfl
/-- the row is stored in the box. -/
theorem HeapV.store {sl' : Value} {qs : List (Value × List Ent)} (hb : w.heap[p]? = some (boxOf sl)) (hr : w.ownsRow base 41 1 sl' qs.length (qs.map (·.1))) (hne : sl'.ownBlock ≠ some p)
    (hv : ∀ q ∈ qs, Ents w S q.1 q.2 ∧ q.2 ≠ []) (hold : ∀ i, S i → i < base) (hp : base ≤ p) : HeapV (w.setCell ⟨p, 0, none⟩ sl') base p S sl' qs := by
  have ho : Only (fun i => i = p) w (w.setCell ⟨p, 0, none⟩ sl') := only_set _ _ _ _
  refine ⟨?_, own_only hr ho (fun g hg e => hne (e ▸ hg)), hne, fun q hq => ⟨(hv q hq).1.only ho (fun i _ hs t => by have := hold i hs; omega), (hv q hq).2⟩, hold, hp⟩
  rw [heap_setCell_same w p 0 _ _ _ hb]; rfl
/-- the row is cut by one. -/
theorem own_cut {g n c : Nat} {e : TypeId} {xs : List Value} (h : w.ownsRow base e 1 (.slice (some ⟨g, 0, none⟩) (n + 1) c) (n + 1) xs) : w.ownsRow base e 1 (.slice (some ⟨g, 0, none⟩) n c) n (xs.take n) := by
  rcases h.2 with ⟨h', _⟩ | ⟨g', cap', cur, h', hb, hg, hnc, hcm, hcs, htake⟩
  · simp at h'
  · simp only [Value.slice.injEq, Option.some.injEq, Addr.mk.injEq, and_true, true_and] at h'
    obtain ⟨rfl, rfl⟩ := h'
    have := h.1
    refine ⟨by simp; omega, .inr ⟨g, c, cur, rfl, hb, hg, by omega, hcm, hcs, ?_⟩⟩
    rw [← htake, List.take_take]; congr 1; omega
/-- one more is behind. -/
theorem HeapV.pushed {g n c c1 : Nat} {A : Option Addr} {v : Value} {l : List Ent} {o : Obj} {w2 : World} (h : HeapV w base p S (.slice A n c) ps) (hn : ps.length = n) (hv : Ents w S v l) (hl : l ≠ [])
    (hown : w2.ownsRow base 41 1 (.slice (some ⟨g, 0, none⟩) (n + 1) c1) (n + 1) (ps.map (·.1) ++ [v])) (hg : (w.alloc o).grownBy w2 (Value.slice A n c).ownBlock)
    (hat : some g = (Value.slice A n c).ownBlock ∨ some g = some (w.alloc o).heap.size) :
    HeapV (w2.setCell ⟨p, 0, none⟩ (.slice (some ⟨g, 0, none⟩) (n + 1) c1)) base p S (.slice (some ⟨g, 0, none⟩) (n + 1) c1) (ps ++ [(v, l)]) ∧
      Only (fun i => i = p ∨ (Value.slice A n c).ownBlock = some i) w (w2.setCell ⟨p, 0, none⟩ (.slice (some ⟨g, 0, none⟩) (n + 1) c1)) := by
  subst hn
  have hpz := h.lt
  have ho : Only (fun i => (Value.slice A ps.length c).ownBlock = some i) w w2 := ((Only.refl _ w).alloc o).trans (Only.of_grown hg)
  have hout : ∀ i, S i → ¬ (Value.slice A ps.length c).ownBlock = some i := fun i hs e => by
    have := h.old i hs
    have := (h.row.lt i e).1
    omega
  refine ⟨HeapV.store (sl := .slice A ps.length c) ((ho.block p hpz (fun e => h.ne e)).trans h.box) (by simpa using hown) ?_ ?_ h.old h.hp, (ho.mono fun i e => .inr e).trans ((only_set _ _ _ _).mono fun i e => .inl e)⟩
  · rcases hat with e | e
    · exact fun e' => h.ne (e ▸ e')
    · injection e with e
      simp at e
      simp only [Value.ownBlock, ne_eq, Option.some.injEq]
      omega
  · intro q hq
    rcases List.mem_append.1 hq with h1 | h1
    · exact ⟨(h.vals q h1).1.only ho (fun i _ hs => hout i hs), (h.vals q h1).2⟩
    · simp at h1
      subst h1
      exact ⟨hv.only ho (fun i _ hs => hout i hs), hl⟩
/-- the last is cut off. -/
theorem HeapV.cut {g n c : Nat} (h : HeapV w base p S (.slice (some ⟨g, 0, none⟩) (n + 1) c) ps) (hn : ps.length = n + 1) : HeapV (w.setCell ⟨p, 0, none⟩ (.slice (some ⟨g, 0, none⟩) n c)) base p S (.slice (some ⟨g, 0, none⟩) n c) (ps.take n) := by
  refine HeapV.store h.box ?_ h.ne (fun q hq => h.vals q (List.mem_of_mem_take hq)) h.old h.hp
  have := h.row
  rw [hn] at this
  rw [List.map_take, List.length_take, hn, Nat.min_eq_left (by omega)]
  exact own_cut this
end
end Go.Proofs.Ytacdhkkelkplnaa
end
