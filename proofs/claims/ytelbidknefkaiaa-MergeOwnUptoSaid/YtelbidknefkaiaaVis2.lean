/-
usanceref10.Visible.
-/
import Derived.Test.YtelbidknefkaiaaVis
import Derived.StillTailTactics
namespace Go.Proofs.Ytelbidknefkaiaa
open Go.RowKit Go.BigFrame
attribute [local go_sem ↓] Go.wp_at_zero Go.wp_at_succ

def visR (seq : Int) : Option Ent → List Ent → List Pr
  | _, [] => []
  | p, e :: l => if seenBy seq p e = true then visR seq (some e) l else if (decide (e.seq ≤ seq) && !e.dead) = true then ⟨e.key, e.val⟩ :: visR seq (some e) l else visR seq (some e) l
theorem visR_step {seq : Int} (p : Option Ent) {es : List Ent} {k : Nat} {e : Ent} (h : es[k]? = some e) :
    visR seq p (es.drop k) = if seenBy seq p e = true then visR seq (some e) (es.drop (k + 1)) else if (decide (e.seq ≤ seq) && !e.dead) = true then ⟨e.key, e.val⟩ :: visR seq (some e) (es.drop (k + 1)) else visR seq (some e) (es.drop (k + 1)) := by
  rw [List.drop_eq_getElem_cons (List.getElem?_eq_some_iff.1 h).1, (List.getElem?_eq_some_iff.1 h).2]
  rfl
theorem PrCells.pushOld {base : Nat} {wr w1 w2 : World} {S0 : Nat → Prop} {v v' k u : Value} {n : Nat} {ys : List Value} {es : List Pr} {e : Pr} {o : Obj} {t : TypeId} (hown : wr.ownsRow base t 2 v n ys) (hys : PrCells wr S0 ys es) (hb1 : Below wr.heap.size wr w1)
    (hk : Byt wr S0 k e.key) (hu : Byt wr S0 u e.val) (hS0 : ∀ i, S0 i → i < base) (hg : (w1.alloc o).grownBy w2 v.ownBlock) (hat : v'.ownBlock = v.ownBlock ∨ v'.ownBlock = some (w1.alloc o).heap.size) :
    PrCells w2 S0 (ys ++ [k, u]) (es ++ [e]) := by
  have hal : Below w1.heap.size w1 (w1.alloc o) := (Below.refl _ _).alloc (Nat.le_refl _) _
  have old : ∀ x bs, Byt wr S0 x bs → Byt w2 S0 x bs := fun x bs h =>
    ((h.below hb1).below hal).push hg hat (fun i _ hs e => by have := (hown.lt i e).1; have := hS0 i hs; omega) (fun i _ hs _ => hs)
  exact (hys.imp old).append (PrCells.one (old _ _ hk) (old _ _ hu))

set_option maxRecDepth 100000 in
set_option maxHeartbeats 4000000 in
theorem rvis_any (S : Nat → Prop) (v : Value) (es : List Ent) (seq : Int) (w : World) (hv : Ents w S v es) :
    Calls Try.prog 27 #[v, .int .i64 seq] w fun r w' => ∃ v', r = .returned (.tuple #[v', .int .i64 (if orderedE es then 0 else 30)]) ∧ Prs w' (fun _ => True) v' (if orderedE es then visR seq none es else []) ∧ Below w.heap.size w w' := by
  obtain ⟨i0, hi, hz0, hz1, hz2⟩ := info_parts info65
  have hby := Lib.hid hz2
  have hz1' := Lib.hid hz1
  clear hz2 hz1
  have HORD := Lib.hid (rordered_any S v es w hv)
  replace hv := hv.lt
  obtain ⟨S0, hS0⟩ : ∃ S0 : Nat → Prop, S0 = fun i => i < w.heap.size := ⟨_, rfl⟩
  rw [← hS0] at hv
  have HS0 := Lib.hid hS0
  clear hS0
  obtain ⟨A, c, cs, rfl, hc, hcm, hl, hr, he⟩ := hv
  obtain ⟨n, hn⟩ : ∃ n, es.length = n := ⟨_, rfl⟩
  rw [hn] at hr hl HORD ⊢
  have HN := Lib.hid hn
  clear hn
  rcases ho : orderedE es with _ | _
  · rw [ho] at HORD
    clear ho
    go_enter Try.func27, Try.ntmps27
    go_wp2_with (go_at_call 31; refine HORD.out.mono ?_; rintro r w1 ⟨rfl, hb1⟩)
    refine bodyPost_ret (v := .tuple #[_, _]) (by simp [results, Try.results27, go_sem]; exact ⟨rfl, rfl⟩) rfl ?_
    exact ⟨_, rfl, Prs.nil _ _, hb1⟩
  · rw [ho] at HORD
    clear ho
    go_enter Try.func27, Try.ntmps27
    go_wp2_with (go_at_call 31; refine HORD.out.mono ?_; rintro r w0 ⟨rfl, hb0⟩)
    go_loopw [6, 7, 13] (fun v8 _ t wr => ∃ k : Nat, ∃ ys : List Value, ∃ os : List Pr, k ≤ n ∧ t = .int .i64 k ∧ wr.ownsRow w.heap.size 65 2 v8 os.length ys ∧ PrCells wr S0 ys os ∧ visR seq none es = os ++ visR seq (if k = 0 then none else es[k - 1]?) (es.drop k) ∧ os.length ≤ k ∧ Below w.heap.size w wr) (fun _ _ t _ => n - (intOf t).toNat)
    case atStart => exact ⟨0, [], [], by omega, rfl, World.ownsRow_nil _ _ _ _, trivial, rfl, by simp, hb0⟩
    case round =>
      obtain ⟨k, ys, os, hk, rfl, hown, hys, hpre, hol, hbel⟩ := hrel
      by_cases hkn : k < n
      · obtain ⟨e, hek⟩ : ∃ e, es[k]? = some e := ⟨_, List.getElem?_eq_getElem (by rw [HN.out]; exact hkn)⟩
        obtain ⟨b, o, kk, uu, rfl, c0, c1, c2, c3, b1, b2, _, hSb0⟩ := (hr.below hbel).ent (he.below hbel) HN.out hek
        have hSb := Lib.hid (show b < w.heap.size by rw [HS0.out] at hSb0; exact hSb0)
        obtain ⟨dd, hdd⟩ : ∃ d, e.dead = d := ⟨_, rfl⟩
        rw [hdd] at c2
        have HDD := Lib.hid hdd
        have HO := Lib.hid hown
        have HEK := Lib.hid hek
        have HST := Lib.hid (visR_step (seq := seq) (if k = 0 then none else es[k - 1]?) hek)
        have HPRE := Lib.hid hpre
        have HB := Lib.hid hbel
        have HKY := Lib.hid b1
        have HVL := Lib.hid b2
        have HYS := Lib.hid hys
        have HHR := Lib.hid (hr.below hbel)
        have HHE := Lib.hid (he.below hbel)
        obtain ⟨Ak, ck, rfl⟩ := slice_form b1
        obtain ⟨Au, cu, rfl⟩ := slice_form b2
        clear hek hdd b1 b2 hown hpre hbel hys hSb0
        have F0 : ∀ q : Ext wr, q.w.cell? { block := b, off := o + k * 4 } = _ := fun q => q.h.cell c0
        have HCK : ∀ q : Ext wr, (convert 23 9 (.slice Ak e.key.length ck)).run Try.prog q.w = .ok (.string ⟨e.key.toArray⟩) q.w := fun q => (HKY.out.below q.h).convert
        go_wp2
        rcases Nat.eq_zero_or_pos k with h0 | h0
        · have hd0 : decide ((0:Int) < (k:Int)) = false := by simp; omega
          have HSEEN := Lib.hid (show seenBy seq (if k = 0 then none else es[k - 1]?) e = false by rw [if_pos h0]; rfl)
          (refine wp_region_quiet_ext (by kernel_rfl) (by kernel_rfl) ?_; (repeat (go_big_quiet_step (fail))); refine wpQuiet_nil ?_; intro wq hw'; obtain ⟨⟨_, hq⟩, hw''⟩ := hw'; subst hw'')
          clear hd0 h0
          have HB1 := Lib.hid (show Below wr.heap.size wr wq from hq)
          have HBD := Lib.hid (show Below wr.heap.size wr (World.drew wq) from fr.drew hq)
          have C0 := hq.cell c0
          have C1 := hq.cell c1
          have C2 := hq.cell c2
          have C3 := hq.cell c3
          clear hq
          by_cases hs : e.seq ≤ seq
          · have HSD := Lib.hid (show decide (e.seq ≤ seq) = true by simpa using hs)
            rcases dd with _ | _
            · go_wp2
              have hf0 : fr wq wq.drew := fr.refl.drew
              have C0h := Lib.hid C0
              have C3h := Lib.hid C3
              go_region_held3 (fun w' => w'.cell? ⟨b, o + k * 4, none⟩ = some (.slice Ak e.key.length ck) ∧ w'.cell? ⟨b, o + k * 4 + 3, none⟩ = some (.slice Au e.val.length cu))
                (first
                  | with_reducible exact fr.two hf0 C0h.out C3h.out
                  | with_reducible exact hs3
                  | with_reducible exact fr.two (fr.alloc hf0 _) C0h.out C3h.out)
                (first | (go_split_ands; refine step_append_own_at (by rfl) _ _ 49 (by rfl) w.heap.size 65 i0 _ 2 48 Try.underlying49 hi hz0 hz1'.out hby.out rfl (by decide) _ _ _ (by rfl) ((own_below HO.out HBD.out).alloc _) ⟨(World.drew wq).heap.size, 0, none⟩ 1 1 [.slice Ak e.key.length ck, .slice Au e.val.length cu] (by rfl) rfl (cell_two_new _ _ _ _) (by simp [Value.oneCell']) (by unfold maxLen; omega) (by omega) (by have := HB.out.size; have := HBD.out.size; simp at *; omega) ?_; intro v' w2 hown' hgrow hat; have hs3 := fr.grown (fr.alloc hf0 _) C0h.out C3h.out hgrow (fun e => by have := (HO.out.lt _ e).1; have := hSb.out; omega)))
              go_wp2
              refine ⟨⟨k + 1, _, os ++ [⟨e.key, e.val⟩], by omega, by go_num, (by rw [List.length_append]; exact hown'), PrCells.pushOld (e := ⟨e.key, e.val⟩) HO.out HYS.out HBD.out HKY.out HVL.out (fun i hs => by rw [HS0.out] at hs; exact hs) hgrow hat, ?_, by simp; omega, ((HB.out.trans (HBD.out.mono HB.out.size)).alloc (by have := HB.out.size; have := HBD.out.size; omega) _).grown hgrow (by have := HB.out.size; have := HBD.out.size; simp at *; omega) (fun j e => (HO.out.lt j e).1)⟩, by simp [intOf]; omega⟩
              rw [HPRE.out, HST.out, HSEEN.out, HSD.out, HDD.out]; simp [HEK.out]
            · go_wp2
              refine ⟨⟨k + 1, _, os, by omega, by go_num, own_below HO.out HB1.out, HYS.out.below HB1.out, ?_, by omega, HB.out.trans (HB1.out.mono HB.out.size)⟩, by simp [intOf]; omega⟩
              rw [HPRE.out, HST.out, HSEEN.out, HSD.out, HDD.out]; simp [HEK.out]
          · have HSD := Lib.hid (show decide (e.seq ≤ seq) = false by simpa using hs)
            go_wp2
            refine ⟨⟨k + 1, _, os, by omega, by go_num, own_below HO.out HB1.out, HYS.out.below HB1.out, ?_, by omega, HB.out.trans (HB1.out.mono HB.out.size)⟩, by simp [intOf]; omega⟩
            rw [HPRE.out, HST.out, HSEEN.out, HSD.out]; simp [HEK.out]
        · obtain ⟨j, rfl⟩ : ∃ j, k = j + 1 := ⟨k - 1, by omega⟩
          obtain ⟨e', hej⟩ : ∃ e, es[j]? = some e := ⟨_, List.getElem?_eq_getElem (by rw [HN.out]; omega)⟩
          obtain ⟨b', o', kk', uu', hE, d0, d1, d2, d3, b1, b2, _, _⟩ := HHR.out.ent HHE.out HN.out hej
          cases hE
          obtain ⟨Ak', ck', rfl⟩ := slice_form b1
          have G0 : ∀ q : Ext wr, q.w.cell? { block := b, off := o + j * 4 } = _ := fun q => q.h.cell d0
          have G1 : ∀ q : Ext wr, q.w.cell? { block := b, off := o + j * 4 + 1 } = _ := fun q => q.h.cell d1
          have GCK : ∀ q : Ext wr, (convert 23 9 (.slice Ak' e'.key.length ck')).run Try.prog q.w = .ok (.string ⟨e'.key.toArray⟩) q.w := fun q => (b1.below q.h).convert
          have hd0 : decide ((0:Int) < (j:Int) + 1) = true := by first | (simp; done) | (simp; omega)
          have HJ := Lib.hid (show (if j + 1 = 0 then none else es[j + 1 - 1]?) = some e' by simpa using hej)
          clear hej b1 b2 d0 d1 d2 d3 h0
          by_cases hke : e'.key = e.key
          · have HKE := Lib.hid hke
            have GCK2 : ∀ q : Ext wr, (convert 23 9 (.slice Ak' e'.key.length ck')).run Try.prog q.w = .ok (.string ⟨e.key.toArray⟩) q.w := fun q => by rw [GCK q, hke]
            clear hke GCK
            by_cases hsq : e'.seq ≤ seq
            · have HSEEN := Lib.hid (show seenBy seq (if j + 1 = 0 then none else es[j + 1 - 1]?) e = true by rw [HJ.out]; simp [seenBy, HKE.out, hsq])
              (refine wp_region_quiet_ext (by kernel_rfl) (by kernel_rfl) ?_; (repeat (go_big_quiet_step (fail))); refine wpQuiet_nil ?_; intro wq hw'; obtain ⟨⟨_, hq⟩, hw''⟩ := hw'; subst hw'')
              have HB1 := Lib.hid (show Below wr.heap.size wr wq from hq)
              clear hq
              go_wp2
              refine ⟨⟨j + 1 + 1, _, os, by omega, by go_num, own_below HO.out HB1.out, HYS.out.below HB1.out, ?_, by omega, HB.out.trans (HB1.out.mono HB.out.size)⟩, by simp [intOf]; omega⟩
              rw [HPRE.out, HST.out, HSEEN.out]; simp [HEK.out]
            · have HSEEN := Lib.hid (show seenBy seq (if j + 1 = 0 then none else es[j + 1 - 1]?) e = false by rw [HJ.out]; simp [seenBy, HKE.out]; omega)
              (refine wp_region_quiet_ext (by kernel_rfl) (by kernel_rfl) ?_; (repeat (go_big_quiet_step (fail))); refine wpQuiet_nil ?_; intro wq hw'; obtain ⟨⟨_, hq⟩, hw''⟩ := hw'; subst hw'')
              generalize hm : j + 1 = m at *
              have HB1 := Lib.hid (show Below wr.heap.size wr wq from hq)
              have HBD := Lib.hid (show Below wr.heap.size wr (World.drew wq) from fr.drew hq)
              have C0 := hq.cell c0
              have C1 := hq.cell c1
              have C2 := hq.cell c2
              have C3 := hq.cell c3
              clear hq
              by_cases hs : e.seq ≤ seq
              · have HSD := Lib.hid (show decide (e.seq ≤ seq) = true by simpa using hs)
                rcases dd with _ | _
                · go_wp2
                  have hf0 : fr wq wq.drew := fr.refl.drew
                  have C0h := Lib.hid C0
                  have C3h := Lib.hid C3
                  go_region_held3 (fun w' => w'.cell? ⟨b, o + m * 4, none⟩ = some (.slice Ak e.key.length ck) ∧ w'.cell? ⟨b, o + m * 4 + 3, none⟩ = some (.slice Au e.val.length cu))
                    (first
                      | with_reducible exact fr.two hf0 C0h.out C3h.out
                      | with_reducible exact hs3
                      | with_reducible exact fr.two (fr.alloc hf0 _) C0h.out C3h.out)
                    (first | (go_split_ands; refine step_append_own_at (by rfl) _ _ 49 (by rfl) w.heap.size 65 i0 _ 2 48 Try.underlying49 hi hz0 hz1'.out hby.out rfl (by decide) _ _ _ (by rfl) ((own_below HO.out HBD.out).alloc _) ⟨(World.drew wq).heap.size, 0, none⟩ 1 1 [.slice Ak e.key.length ck, .slice Au e.val.length cu] (by rfl) rfl (cell_two_new _ _ _ _) (by simp [Value.oneCell']) (by unfold maxLen; omega) (by omega) (by have := HB.out.size; have := HBD.out.size; simp at *; omega) ?_; intro v' w2 hown' hgrow hat; have hs3 := fr.grown (fr.alloc hf0 _) C0h.out C3h.out hgrow (fun e => by have := (HO.out.lt _ e).1; have := hSb.out; omega)))
                  go_wp2
                  refine ⟨⟨m + 1, _, os ++ [⟨e.key, e.val⟩], by omega, by go_num, (by rw [List.length_append]; exact hown'), PrCells.pushOld (e := ⟨e.key, e.val⟩) HO.out HYS.out HBD.out HKY.out HVL.out (fun i hs => by rw [HS0.out] at hs; exact hs) hgrow hat, ?_, by simp; omega, ((HB.out.trans (HBD.out.mono HB.out.size)).alloc (by have := HB.out.size; have := HBD.out.size; omega) _).grown hgrow (by have := HB.out.size; have := HBD.out.size; simp at *; omega) (fun j e => (HO.out.lt j e).1)⟩, by simp [intOf]; omega⟩
                  rw [HPRE.out, HST.out, HSEEN.out, HSD.out, HDD.out]; simp [HEK.out]
                · go_wp2
                  refine ⟨⟨m + 1, _, os, by omega, by go_num, own_below HO.out HB1.out, HYS.out.below HB1.out, ?_, by omega, HB.out.trans (HB1.out.mono HB.out.size)⟩, by simp [intOf]; omega⟩
                  rw [HPRE.out, HST.out, HSEEN.out, HSD.out, HDD.out]; simp [HEK.out]
              · have HSD := Lib.hid (show decide (e.seq ≤ seq) = false by simpa using hs)
                go_wp2
                refine ⟨⟨m + 1, _, os, by omega, by go_num, own_below HO.out HB1.out, HYS.out.below HB1.out, ?_, by omega, HB.out.trans (HB1.out.mono HB.out.size)⟩, by simp [intOf]; omega⟩
                rw [HPRE.out, HST.out, HSEEN.out, HSD.out]; simp [HEK.out]
          · have HSEEN := Lib.hid (show seenBy seq (if j + 1 = 0 then none else es[j + 1 - 1]?) e = false by rw [HJ.out]; simp [seenBy, hke])
            have hne4 : (e'.key == e.key) = false := by simpa using hke
            have hne5 : decide (e'.key = e.key) = false := by simpa using hke
            (refine wp_region_quiet_ext (by kernel_rfl) (by kernel_rfl) ?_; (repeat (go_big_quiet_step (fail))); refine wpQuiet_nil ?_; intro wq hw'; obtain ⟨⟨_, hq⟩, hw''⟩ := hw'; subst hw'')
            generalize hm : j + 1 = m at *
            have HB1 := Lib.hid (show Below wr.heap.size wr wq from hq)
            have HBD := Lib.hid (show Below wr.heap.size wr (World.drew wq) from fr.drew hq)
            have C0 := hq.cell c0
            have C1 := hq.cell c1
            have C2 := hq.cell c2
            have C3 := hq.cell c3
            clear hq
            by_cases hs : e.seq ≤ seq
            · have HSD := Lib.hid (show decide (e.seq ≤ seq) = true by simpa using hs)
              rcases dd with _ | _
              · go_wp2
                have hf0 : fr wq wq.drew := fr.refl.drew
                have C0h := Lib.hid C0
                have C3h := Lib.hid C3
                go_region_held3 (fun w' => w'.cell? ⟨b, o + m * 4, none⟩ = some (.slice Ak e.key.length ck) ∧ w'.cell? ⟨b, o + m * 4 + 3, none⟩ = some (.slice Au e.val.length cu))
                  (first
                    | with_reducible exact fr.two hf0 C0h.out C3h.out
                    | with_reducible exact hs3
                    | with_reducible exact fr.two (fr.alloc hf0 _) C0h.out C3h.out)
                  (first | (go_split_ands; refine step_append_own_at (by rfl) _ _ 49 (by rfl) w.heap.size 65 i0 _ 2 48 Try.underlying49 hi hz0 hz1'.out hby.out rfl (by decide) _ _ _ (by rfl) ((own_below HO.out HBD.out).alloc _) ⟨(World.drew wq).heap.size, 0, none⟩ 1 1 [.slice Ak e.key.length ck, .slice Au e.val.length cu] (by rfl) rfl (cell_two_new _ _ _ _) (by simp [Value.oneCell']) (by unfold maxLen; omega) (by omega) (by have := HB.out.size; have := HBD.out.size; simp at *; omega) ?_; intro v' w2 hown' hgrow hat; have hs3 := fr.grown (fr.alloc hf0 _) C0h.out C3h.out hgrow (fun e => by have := (HO.out.lt _ e).1; have := hSb.out; omega)))
                go_wp2
                refine ⟨⟨m + 1, _, os ++ [⟨e.key, e.val⟩], by omega, by go_num, (by rw [List.length_append]; exact hown'), PrCells.pushOld (e := ⟨e.key, e.val⟩) HO.out HYS.out HBD.out HKY.out HVL.out (fun i hs => by rw [HS0.out] at hs; exact hs) hgrow hat, ?_, by simp; omega, ((HB.out.trans (HBD.out.mono HB.out.size)).alloc (by have := HB.out.size; have := HBD.out.size; omega) _).grown hgrow (by have := HB.out.size; have := HBD.out.size; simp at *; omega) (fun j e => (HO.out.lt j e).1)⟩, by simp [intOf]; omega⟩
                rw [HPRE.out, HST.out, HSEEN.out, HSD.out, HDD.out]; simp [HEK.out]
              · go_wp2
                refine ⟨⟨m + 1, _, os, by omega, by go_num, own_below HO.out HB1.out, HYS.out.below HB1.out, ?_, by omega, HB.out.trans (HB1.out.mono HB.out.size)⟩, by simp [intOf]; omega⟩
                rw [HPRE.out, HST.out, HSEEN.out, HSD.out, HDD.out]; simp [HEK.out]
            · have HSD := Lib.hid (show decide (e.seq ≤ seq) = false by simpa using hs)
              go_wp2
              refine ⟨⟨m + 1, _, os, by omega, by go_num, own_below HO.out HB1.out, HYS.out.below HB1.out, ?_, by omega, HB.out.trans (HB1.out.mono HB.out.size)⟩, by simp [intOf]; omega⟩
              rw [HPRE.out, HST.out, HSEEN.out, HSD.out]; simp [HEK.out]
      · obtain rfl : k = n := by omega
        have HO := Lib.hid hown
        have HP := Lib.hid hpre
        clear hown hpre
        go_wp2
        refine bodyPost_ret (v := .tuple #[_, _]) (by simp [results, Try.results27, go_sem]; exact ⟨rfl, rfl⟩) rfl ?_
        refine ⟨_, rfl, ?_, hbel⟩
        have e1 : es.drop k = [] := List.drop_eq_nil_of_le (by rw [HN.out]; exact Nat.le_refl _)
        rw [HP.out, e1, visR, List.append_nil]
        exact Prs.of_own HO.out (hys.mono fun i hi => trivial) (fun i hi _ => trivial) (by omega)
end Go.Proofs.Ytelbidknefkaiaa
