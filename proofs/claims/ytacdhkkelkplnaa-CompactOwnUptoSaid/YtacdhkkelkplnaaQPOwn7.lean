/-
Merge: what it answers may be written to.
-/
import Derived.Test.YtacdhkkelkplnaaQPOwn6
section
namespace Go.Proofs.Ytacdhkkelkplnaa
open Go.RowKit
attribute [local go_sem ↓] Go.wp_at_zero Go.wp_at_succ
set_option maxHeartbeats 2000000 in
/-- slices.Clone at []byte: new memory, or nil -/
theorem bcloneL_any (S : Nat → Prop) (v : Value) (bs : List UInt8) (w : World) (h : Byt w S v bs) :
    Calls Try.prog 66 #[v] w fun r w' => ∃ v', r = .returned v' ∧ BytL w' w.heap.size v' bs ∧ Below w.heap.size w w' := by
  have hl := h.len
  have h' := Lib.hid h
  obtain ⟨A, c, rfl, _⟩ := h
  have q22 : ∀ (w : World) (a : Option Addr) (n c n' c' : Nat), (binOp .eql 44 (.slice a n c) (.slice none n' c')).run Try.prog w = .ok (.bool a.isNone) w := fun w a n c n' c' => Lib.run_eql_slice_nil w _ _ a n c n' c' Try.underlying44
  rcases A with _ | ad
  · have h0 : bs = [] := by
      obtain ⟨A, c', e, _, _, _, hr⟩ := h'.out
      rcases Nat.eq_zero_or_pos bs.length with h0 | h0
      · exact List.eq_nil_of_length_eq_zero h0
      · injection e with e1 _ _
        subst e1
        obtain ⟨b, o, h, _⟩ := hr.2 h0
        cases h
    subst h0
    go_enter Try.func66, Try.ntmps66
    go_wp2
    go_ret
    exact ⟨_, rfl, BytL.nil _ _, Below.refl _ _⟩
  · have hb1 := (Below.refl w.heap.size w).alloc (Nat.le_refl _) (.cells #[] 5)
    have HB := Lib.hid hb1
    clear hb1
    go_enter Try.func66, Try.ntmps66
    go_wp2_with (at_builtin; refine wpList_append_byt rfl _ _ rfl w.heap.size _ _ rfl rfl S bs (lit0 w) (h'.out.below HB.out) HB.out.size ?_; intro v' w1 hown hgrow)
    go_ret
    exact ⟨_, rfl, BytL.of_own hown hl, HB.out.grown hgrow HB.out.size (fun j e => by cases e; exact Nat.le_refl _)⟩
theorem clone_endL (w w2 : World) (e : Ent) (k u a b c d : Value) (hb : Below w.heap.size w w2) (hk : BytL w2 (w.heap.size + 2) k e.key) (hu : BytL w2 (w.heap.size + 2) u e.val) (x y : Value) :
    ∃ v', Ending.returned (.agg #[k, .int .i64 e.seq, .bool e.dead, u]) = .returned v' ∧
      EntVL ((((((w2.setCell ⟨w.heap.size, 0, none⟩ x).setCell ⟨w.heap.size, 3, none⟩ y).setCell ⟨w.heap.size + 1, 0, none⟩ a).setCell ⟨w.heap.size + 1, 1, none⟩ b).setCell ⟨w.heap.size + 1, 2, none⟩ c).setCell ⟨w.heap.size + 1, 3, none⟩ d) w.heap.size v' e ∧
      Below w.heap.size w ((((((w2.setCell ⟨w.heap.size, 0, none⟩ x).setCell ⟨w.heap.size, 3, none⟩ y).setCell ⟨w.heap.size + 1, 0, none⟩ a).setCell ⟨w.heap.size + 1, 1, none⟩ b).setCell ⟨w.heap.size + 1, 2, none⟩ c).setCell ⟨w.heap.size + 1, 3, none⟩ d) := by
  have ho : Only (fun i => i = w.heap.size ∨ i = w.heap.size + 1) w2 ((((((w2.setCell ⟨w.heap.size, 0, none⟩ x).setCell ⟨w.heap.size, 3, none⟩ y).setCell ⟨w.heap.size + 1, 0, none⟩ a).setCell ⟨w.heap.size + 1, 1, none⟩ b).setCell ⟨w.heap.size + 1, 2, none⟩ c).setCell ⟨w.heap.size + 1, 3, none⟩ d) :=
    ((((((Only.refl _ w2).setCell (p := ⟨w.heap.size, 0, none⟩) (.inl rfl) _).setCell (p := ⟨w.heap.size, 3, none⟩) (.inl rfl) _).setCell (p := ⟨w.heap.size + 1, 0, none⟩) (.inr rfl) _).setCell (p := ⟨w.heap.size + 1, 1, none⟩) (.inr rfl) _).setCell (p := ⟨w.heap.size + 1, 2, none⟩) (.inr rfl) _).setCell (p := ⟨w.heap.size + 1, 3, none⟩) (.inr rfl) _
  have go : ∀ v bs, BytL w2 (w.heap.size + 2) v bs → BytL _ w.heap.size v bs := fun v bs h =>
    Byt.mono (S := fun i => w.heap.size + 2 ≤ i ∧ Loose w2 i) (Byt.only (T := fun i => w.heap.size + 2 ≤ i ∧ Loose w2 i) h ho (fun i _ h => by have := h.1; omega)) fun i hi => ⟨by have := hi.1; omega, hi.2.only ho (by have := hi.1; omega)⟩
  exact ⟨_, rfl, ⟨k, u, rfl, go _ _ hk, go _ _ hu⟩, hb.trans (ho.below hb.size (fun i h => by omega))⟩
set_option maxRecDepth 100000 in
set_option maxHeartbeats 4000000 in
theorem ecloneL_any (S : Nat → Prop) (v : Value) (e : Ent) (w : World) (hv : EntV w S v e) :
    Calls Try.prog 51 #[v] w fun r w' => ∃ v', r = .returned v' ∧ EntVL w' w.heap.size v' e ∧ Below w.heap.size w w' := by
  obtain ⟨k, u, rfl, h1, h2⟩ := hv
  have hA : Below w.heap.size w ((w.alloc (.cells #[k, .int .i64 e.seq, .bool e.dead, u] 46)).alloc (.cells #[.slice none 0 0, .int .i64 0, .bool false, .slice none 0 0] 46)) := ((Below.refl _ _).alloc (Nat.le_refl _) _).alloc (by simp) _
  have H1 := Lib.hid (h1.below hA)
  have H2 := Lib.hid (h2.below hA)
  have HA := Lib.hid hA
  clear h1 h2 hA
  go_enter Try.func51, Try.ntmps51
  go_wp2
  go_region_with (first
    | (go_at_call 66; refine (bcloneL_any S k e.key _ (by with_reducible exact H1.out.drew)).mono ?_; rintro r w1 ⟨k', rfl, hk', hb1⟩; obtain ⟨Ak, ck, rfl⟩ := slice_form hk'; obtain ⟨⟨c0, c1, c2, c3⟩, cf⟩ := box4 ((undrew hb1).mono (by simp)))
    | (go_at_call 66; refine (bcloneL_any S u e.val _ (by with_reducible exact H2.out.drew)).mono ?_; rintro r w2 ⟨u', rfl, hu', hb2⟩; obtain ⟨Au, cu, rfl⟩ := slice_form hu'; obtain ⟨⟨c0, c1, c2, c3⟩, cf⟩ := box4 ((undrew hb2).mono (by simp)))
    | (go_at_call 66; refine (bcloneL_any S u e.val w1 (H2.out.drew.below hb1)).mono ?_; rintro r w2 ⟨u', rfl, hu', hb2⟩; obtain ⟨Au, cu, rfl⟩ := slice_form hu'; obtain ⟨⟨c0, c1, c2, c3⟩, cf⟩ := box4 (((undrew hb1).trans (hb2.mono hb1.size)).mono (by simp)))
    | (go_at_call 66; refine (bcloneL_any S k e.key w2 (H1.out.drew.below hb2)).mono ?_; rintro r w1 ⟨k', rfl, hk', hb1⟩; obtain ⟨Ak, ck, rfl⟩ := slice_form hk'; obtain ⟨⟨c0, c1, c2, c3⟩, cf⟩ := box4 (((undrew hb2).trans (hb1.mono hb2.size)).mono (by simp))))
  all_goals
    first
      | (have hb := (undrew hb1).trans (hb2.mono hb1.size); have hk2 := hk'.below hb2; have hu2 := hu'; have hz1 := hb1.size)
      | (have hb := (undrew hb2).trans (hb1.mono hb2.size); have hk2 := hk'; have hu2 := hu'.below hb1; have hz1 := hb2.size)
    obtain ⟨⟨e0, e1, e2, e3⟩, ef⟩ := box4' (hb.mono (by simp))
    have HB := Lib.hid hb
    clear hb hb1 hb2 hk' hu'
    go_wp2
  all_goals
    refine bodyPost_ret (v := .agg #[.slice Ak e.key.length ck, .int .i64 e.seq, .bool e.dead, .slice Au e.val.length cu]) (by simp [results, Try.results51, go_sem, e0, e1, e2, e3]) rfl ?_
    have hz := HB.out.size
    simp only [World.size_alloc, World.size_drew] at hz hz1 hk2 hu2
    exact clone_endL w _ e _ _ _ _ _ _ (HA.out.trans (HB.out.mono (by simp; omega))) (hk2.mono (by omega)) (hu2.mono (by omega)) _ _
end Go.Proofs.Ytacdhkkelkplnaa
end
section
namespace Go.Proofs.Ytacdhkkelkplnaa
open Go.RowKit
attribute [local go_sem ↓] Go.wp_at_zero Go.wp_at_succ
set_option maxRecDepth 100000 in
set_option maxHeartbeats 2000000 in
theorem thinL_any (S : Nat → Prop) (v : Value) (es : List Ent) (mark : Int) (bottom : Bool) (w : World) (hv : Ents w S v es) :
    Calls Try.prog 24 #[v, .int .i64 mark, .bool bottom] w fun r w' => ∃ v', r = .returned (.tuple #[v', .int .i64 (if orderedE es then 0 else 30)]) ∧ OwnE w' w.heap.size v' (if orderedE es then thinC mark bottom [] es else []) ∧ Below w.heap.size w w' := by
  obtain ⟨i0, hi, hz0, hz1, hz2⟩ := info_parts info26
  have hby := Lib.hid hz2
  have hz1' := Lib.hid hz1
  clear hz2 hz1
  have HORD := Lib.hid (ordered_any S v es w hv)
  replace hv := hv.lt
  obtain ⟨S0, hS0⟩ : ∃ S0 : Nat → Prop, S0 = fun i => i < w.heap.size := ⟨_, rfl⟩
  rw [← hS0] at hv
  have HS0 := Lib.hid hS0
  clear hS0
  obtain ⟨A, c, cs, rfl, hc, hcm, hl, hr, he⟩ := hv
  obtain ⟨n, hn⟩ : ∃ n, es.length = n := ⟨_, rfl⟩
  rw [hn] at hr hl HORD ⊢
  have HN := Lib.hid hn
  clear hn
  rcases ho : orderedE es with _ | _
  · rw [ho] at HORD
    clear ho
    go_enter Try.func24, Try.ntmps24
    go_wp2_with (go_at_call 48; refine HORD.out.mono ?_; rintro r w1 ⟨rfl, hb1⟩)
    refine bodyPost_ret (v := .tuple #[_, _]) (by simp [results, Try.results24, go_sem]; exact ⟨rfl, rfl⟩) rfl ?_
    exact ⟨_, rfl, OwnE.nil _ _, hb1⟩
  · rw [ho] at HORD
    clear ho
    go_enter Try.func24, Try.ntmps24
    go_wp2_with (go_at_call 48; refine HORD.out.mono ?_; rintro r w0 ⟨rfl, hb0⟩)
    go_loopw [8, 9, 11, 17] (fun v8 v9 _ t wr => ∃ k : Nat, ∃ a : List UInt8, ∃ ys : List Value, ∃ os : List Ent, k ≤ n ∧ t = .int .i64 k ∧ wr.ownsRow w.heap.size 46 4 v8 os.length ys ∧ FreshE wr w.heap.size v8 ys os ∧ Byt wr S0 v9 a ∧ thinC mark bottom [] es = os ++ thinC mark bottom a (es.drop k) ∧ os.length ≤ k ∧ Below w.heap.size w wr) (fun _ _ _ t _ => n - (intOf t).toNat)
    case atStart => exact ⟨0, [], [], [], by omega, rfl, World.ownsRow_nil _ _ _ _, trivial, Byt.nil _ _, rfl, by simp, hb0⟩
    case round =>
      obtain ⟨k, a, ys, os, hk, rfl, hown, hys, hah, hpre, hol, hbel⟩ := hrel
      by_cases hkn : k < n
      · obtain ⟨e, hek⟩ : ∃ e, es[k]? = some e := ⟨_, List.getElem?_eq_getElem (by rw [HN.out]; exact hkn)⟩
        obtain ⟨b, o, kk, uu, rfl, c0, c1, c2, c3, b1, b2, _, _⟩ := (hr.below hbel).ent (he.below hbel) HN.out hek
        obtain ⟨dd, hdd⟩ : ∃ d, e.dead = d := ⟨_, rfl⟩
        rw [hdd] at c2
        have HDD := Lib.hid hdd
        have HO := Lib.hid hown
        have HEK := Lib.hid hek
        have HST := Lib.hid (thinC_step (mark := mark) (bottom := bottom) a hek)
        have HPRE := Lib.hid hpre
        have hal : Below wr.heap.size wr (wr.alloc (.cells #[kk, .int .i64 e.seq, .bool dd, uu] 46)) := (Below.refl _ _).alloc (Nat.le_refl _) _
        have HB := Lib.hid (hbel.trans (hal.mono hbel.size))
        have hev := Lib.hid ((show EntV wr S0 (.agg #[kk, .int .i64 e.seq, .bool dd, uu]) e from ⟨_, _, by rw [hdd], b1, b2⟩).below hal)
        have HK := Lib.hid b1
        have HKA := Lib.hid (b1.below hal)
        have HAH := Lib.hid (hah.below hal)
        have HO1 := Lib.hid (own_below hown hal)
        have HYS := Lib.hid (hys.below hal)
        obtain ⟨Ak, ck, rfl⟩ := slice_form b1
        obtain ⟨Au, cu, rfl⟩ := slice_form b2
        obtain ⟨Aa, ca, rfl⟩ := slice_form hah
        clear hek hdd b1 b2 hown hpre hbel hah hys
        have HEQ := bequal_any S0 S0 _ _ a e.key _ HAH.out HKA.out
        by_cases hs : e.seq ≤ mark
        · by_cases hak : a = e.key
          · rw [decide_eq_true hak] at HEQ
            have HE := Lib.hid HEQ
            have HAK := Lib.hid hak
            clear HEQ hak
            go_wp2_with (go_at_call 25; refine HE.out.mono ?_; rintro r w1 ⟨rfl, rfl⟩)
            refine ⟨⟨k + 1, a, ys, os, by omega, by go_num, HO1.out, HYS.out, HAH.out, ?_, by omega, HB.out⟩, by simp [intOf]; omega⟩
            rw [HPRE.out, HST.out, if_pos hs, if_pos HAK.out]
          · rw [decide_eq_false hak] at HEQ
            have HE := Lib.hid HEQ
            clear HEQ
            by_cases hdb : (dd && bottom) = true
            · obtain ⟨rfl, rfl⟩ : dd = true ∧ bottom = true := by simpa using hdb
              go_wp2_with (go_at_call 25; refine HE.out.mono ?_; rintro r w1 ⟨rfl, rfl⟩)
              refine ⟨⟨k + 1, e.key, ys, os, by omega, by go_num, HO1.out, HYS.out, HKA.out, ?_, by omega, HB.out⟩, by simp [intOf]; omega⟩
              rw [HPRE.out, HST.out, if_pos hs, if_neg hak, HDD.out, if_pos (show (true && true) = true from rfl)]
            · have hdb2 := Lib.hid hdb
              clear hdb
              rcases dd with _ | _
              · go_wp2_with (first
                  | (go_at_call 25; refine HE.out.mono ?_; rintro r w1 ⟨rfl, rfl⟩)
                  | (go_at_call 51; refine (ecloneL_any S0 _ e _ hev.out).mono ?_; rintro r w1 ⟨v1, rfl, ⟨k', u', rfl, hk', hu'⟩, hb1⟩; obtain ⟨Ak, ck, rfl⟩ := slice_form hk'; obtain ⟨Au, cu, rfl⟩ := slice_form hu')
                  | (at_builtin; refine wpList_append_own_at _ rfl _ _ 41 rfl w.heap.size 46 i0 _ 4 64 Try.underlying41 hi hz0 hz1'.out hby.out rfl (by decide) _ _ _ rfl ((own_below HO1.out hb1).alloc _) ⟨w1.heap.size, 0, none⟩ 1 1 [.slice Ak e.key.length ck, .int .i64 e.seq, .bool e.dead, .slice Au e.val.length cu] rfl rfl (cell_four_new _ _ _ _ _ _) (by simp [Value.oneCell']) (by unfold maxLen; omega) (by omega) (by have := HB.out.size; have := hb1.size; simp; omega) ?_; intro v' w2 hown' hgrow _ hat))
                refine ⟨⟨k + 1, e.key, _, os ++ [e], by omega, by go_num, (by rw [List.length_append]; exact hown'), FreshE.push HO1.out HYS.out hb1 hk' hu' HB.out.size hgrow hat, ((HKA.out.below hb1).below ((Below.refl _ _).alloc (Nat.le_refl _) _)).push hgrow hat (fun i _ hs e => by have := HO1.out.lt i e; rw [HS0.out] at hs; omega) (fun i _ hs _ => hs), ?_, by simp; omega, ((HB.out.trans (hb1.mono HB.out.size)).alloc (by have := HB.out.size; have := hb1.size; omega) _).grown hgrow (by have := HB.out.size; have := hb1.size; simp; omega) (fun j e => (HO1.out.lt j e).1)⟩, by simp [intOf]; omega⟩
                rw [HPRE.out, HST.out, if_pos hs, if_neg hak, HDD.out]; simp
              · obtain rfl : bottom = false := by simpa using hdb2.out
                go_wp2_with (first
                  | (go_at_call 25; refine HE.out.mono ?_; rintro r w1 ⟨rfl, rfl⟩)
                  | (go_at_call 51; refine (ecloneL_any S0 _ e _ hev.out).mono ?_; rintro r w1 ⟨v1, rfl, ⟨k', u', rfl, hk', hu'⟩, hb1⟩; obtain ⟨Ak, ck, rfl⟩ := slice_form hk'; obtain ⟨Au, cu, rfl⟩ := slice_form hu')
                  | (at_builtin; refine wpList_append_own_at _ rfl _ _ 41 rfl w.heap.size 46 i0 _ 4 64 Try.underlying41 hi hz0 hz1'.out hby.out rfl (by decide) _ _ _ rfl ((own_below HO1.out hb1).alloc _) ⟨w1.heap.size, 0, none⟩ 1 1 [.slice Ak e.key.length ck, .int .i64 e.seq, .bool e.dead, .slice Au e.val.length cu] rfl rfl (cell_four_new _ _ _ _ _ _) (by simp [Value.oneCell']) (by unfold maxLen; omega) (by omega) (by have := HB.out.size; have := hb1.size; simp; omega) ?_; intro v' w2 hown' hgrow _ hat))
                refine ⟨⟨k + 1, e.key, _, os ++ [e], by omega, by go_num, (by rw [List.length_append]; exact hown'), FreshE.push HO1.out HYS.out hb1 hk' hu' HB.out.size hgrow hat, ((HKA.out.below hb1).below ((Below.refl _ _).alloc (Nat.le_refl _) _)).push hgrow hat (fun i _ hs e => by have := HO1.out.lt i e; rw [HS0.out] at hs; omega) (fun i _ hs _ => hs), ?_, by simp; omega, ((HB.out.trans (hb1.mono HB.out.size)).alloc (by have := HB.out.size; have := hb1.size; omega) _).grown hgrow (by have := HB.out.size; have := hb1.size; simp; omega) (fun j e => (HO1.out.lt j e).1)⟩, by simp [intOf]; omega⟩
                rw [HPRE.out, HST.out, if_pos hs, if_neg hak, HDD.out]; simp
        · go_wp2_with (first
            | (go_at_call 25; refine HE.out.mono ?_; rintro r w1 ⟨rfl, rfl⟩)
            | (go_at_call 51; refine (ecloneL_any S0 _ e _ hev.out).mono ?_; rintro r w1 ⟨v1, rfl, ⟨k', u', rfl, hk', hu'⟩, hb1⟩; obtain ⟨Ak, ck, rfl⟩ := slice_form hk'; obtain ⟨Au, cu, rfl⟩ := slice_form hu')
            | (at_builtin; refine wpList_append_own_at _ rfl _ _ 41 rfl w.heap.size 46 i0 _ 4 64 Try.underlying41 hi hz0 hz1'.out hby.out rfl (by decide) _ _ _ rfl ((own_below HO1.out hb1).alloc _) ⟨w1.heap.size, 0, none⟩ 1 1 [.slice Ak e.key.length ck, .int .i64 e.seq, .bool e.dead, .slice Au e.val.length cu] rfl rfl (cell_four_new _ _ _ _ _ _) (by simp [Value.oneCell']) (by unfold maxLen; omega) (by omega) (by have := HB.out.size; have := hb1.size; simp; omega) ?_; intro v' w2 hown' hgrow _ hat))
          refine ⟨⟨k + 1, a, _, os ++ [e], by omega, by go_num, (by rw [List.length_append]; exact hown'), FreshE.push HO1.out HYS.out hb1 hk' hu' HB.out.size hgrow hat, ((HAH.out.below hb1).below ((Below.refl _ _).alloc (Nat.le_refl _) _)).push hgrow hat (fun i _ hs e => by have := HO1.out.lt i e; rw [HS0.out] at hs; omega) (fun i _ hs _ => hs), ?_, by simp; omega, ((HB.out.trans (hb1.mono HB.out.size)).alloc (by have := HB.out.size; have := hb1.size; omega) _).grown hgrow (by have := HB.out.size; have := hb1.size; simp; omega) (fun j e => (HO1.out.lt j e).1)⟩, by simp [intOf]; omega⟩
          rw [HPRE.out, HST.out, if_neg (show ¬ e.seq ≤ mark by omega)]; simp
      · obtain rfl : k = n := by omega
        have HO := Lib.hid hown
        have HP := Lib.hid hpre
        clear hown hpre
        go_wp2
        refine bodyPost_ret (v := .tuple #[_, _]) (by simp [results, Try.results24, go_sem]; exact ⟨rfl, rfl⟩) rfl ?_
        refine ⟨_, rfl, ?_, hbel⟩
        have e1 : es.drop k = [] := List.drop_eq_nil_of_le (by rw [HN.out]; exact Nat.le_refl _)
        rw [HP.out, e1, thinC, List.append_nil]
        exact ⟨ys, HO.out, hys⟩
end Go.Proofs.Ytacdhkkelkplnaa
end
section
namespace Go.Proofs.Ytacdhkkelkplnaa
open Go.RowKit Go.BigFrame
attribute [local go_sem ↓] Go.wp_at_zero Go.wp_at_succ
set_option maxRecDepth 100000 in
set_option maxHeartbeats 4000000 in
theorem mergeL_any (S : Nat → Prop) (v : Value) (ls : List (List Ent)) (w : World) (hv : Lists w S v ls) (hS : ∀ i, S i → i < w.heap.size) (hN : total ls * 64 ≤ 140737488355328) :
    Calls Try.prog 23 #[v] w fun r w' => ∃ v', r = .returned (.tuple #[v', .int .i64 (mergeC ls).2]) ∧ OwnE w' w.heap.size v' (mergeC ls).1 ∧ Below w.heap.size w w' := by
  obtain ⟨i0, hi, hz0, hz1, hz2⟩ := info_parts info26
  have hby := Lib.hid hz2
  have hz1' := Lib.hid hz1
  clear hz2 hz1
  obtain ⟨A, c, vs, rfl, hc, hcm, hl, hr, he⟩ := hv
  obtain ⟨n, hn⟩ : ∃ n, ls.length = n := ⟨_, rfl⟩
  rw [hn] at hr hl hc ⊢
  have HN := Lib.hid hn
  have HSS := Lib.hid hS
  have HE := Lib.hid he
  have HR := Lib.hid hr
  obtain ⟨R, hR⟩ : ∃ R, mergeC ls = R := ⟨_, rfl⟩
  rw [hR]
  have HRR := Lib.hid hR
  clear hn he hr hS hR
  go_enter Try.func23, Try.ntmps23
  go_wp2
  go_loopw [13] (fun t wr => ∃ (k : Nat) (sl : Value) (ps : List (Value × List Ent)), k ≤ n ∧ t = .int .i64 k ∧ HeapV wr w.heap.size w.heap.size S sl ps ∧ ps.map (·.2) = heapOf (ls.take k) ∧ (ls.take k).all orderedE = true ∧ ps.length ≤ k ∧ Below w.heap.size w wr) (fun t _ => n - (intOf t).toNat)
  case atStart => exact ⟨0, _, [], Nat.zero_le _, rfl, HeapV.init w S HSS.out, rfl, rfl, by simp, (Below.refl _ _).alloc (Nat.le_refl _) _⟩
  case round =>
    obtain ⟨k, sl, ps, hk, rfl, hh, hps, hall, hpl, hbel⟩ := hrel
    have HH := Lib.hid hh
    have HPS := Lib.hid hps
    have HALL := Lib.hid hall
    have HB := Lib.hid hbel
    clear hh hps hall hbel
    by_cases hkn : k < n
    · obtain ⟨l, hlk⟩ : ∃ l, ls[k]? = some l := ⟨_, List.getElem?_eq_getElem (by rw [HN.out]; exact hkn)⟩
      obtain ⟨x, hx, hxe⟩ := HE.out k l hlk
      obtain ⟨b, o, u, rfl, _, _, hu, hcell⟩ := (HR.out.below HB.out).at_ hkn
      obtain rfl : u = x := by rw [hx] at hu; injection hu with hu; exact hu.symm
      replace hxe := hxe.below HB.out
      obtain ⟨Ax, cx, rfl⟩ := ents_form hxe
      have HX := Lib.hid hxe
      have HLK := Lib.hid hlk
      have HORD := Lib.hid (ordered_any S _ l wr hxe)
      clear hx hxe hu hlk
      rcases ho : orderedE l with _ | _
      · rw [ho] at HORD
        have HF := Lib.hid (all_false_at HLK.out ho)
        clear ho
        go_wp2_with (go_at_call 48; refine HORD.out.mono ?_; rintro r w1 ⟨rfl, hb1⟩)
        refine bodyPost_ret (v := .tuple #[_, _]) (by simp [results, Try.results23, go_sem]; exact ⟨rfl, rfl⟩) rfl ?_
        obtain rfl : R = ([], 30) := by rw [← HRR.out]; unfold mergeC; rw [HF.out]; rfl
        exact ⟨_, rfl, OwnE.nil _ _, HB.out.trans (hb1.mono HB.out.size)⟩
      · rw [ho] at HORD
        have HT := Lib.hid (all_take_snoc HLK.out HALL.out ho)
        clear ho
        have HSN := Lib.hid (heapOf_snoc (ls.take k) l)
        have HTK := Lib.hid (take_snoc HLK.out)
        cases l with
        | nil =>
          go_wp2_with (go_at_call 48; refine HORD.out.mono ?_; rintro r w1 ⟨rfl, hb1⟩)
          refine ⟨⟨k + 1, sl, ps, by omega, by go_num, HH.out.below hb1, ?_, HT.out, by omega, HB.out.trans (hb1.mono HB.out.size)⟩, by simp [intOf]; omega⟩
          rw [HTK.out, HSN.out, HPS.out]; simp
        | cons e l =>
          go_wp2_with (first
            | (go_at_call 48; refine HORD.out.mono ?_; rintro r w1 ⟨rfl, hb1⟩)
            | (go_at_call 49; refine (push_any w.heap.size w.heap.size S sl _ ps (e :: l) _ (HH.out.below hb1) (HX.out.below hb1) (by simp) (by omega)).mono ?_; rintro r w2 ⟨rfl, hpu⟩))
          have hB := HB.out.size
          have hB1 := hb1.size
          have hbl := hpu.below (Nat.le_refl _) (fun g hg => (HH.out.row.lt g hg).1) (by omega)
          obtain ⟨sl', hh2, _, _⟩ := hpu
          refine ⟨⟨k + 1, sl', _, by omega, by go_num, hh2, ?_, HT.out, ?_, (HB.out.trans (hb1.mono HB.out.size)).trans hbl⟩, by simp [intOf]; omega⟩
          · rw [HTK.out, HSN.out, if_neg (by simp), ← HPS.out]
            exact pushL_map (·.2) id ps (_, e :: l)
          · rw [(siftUp_perm _ _ _).length_eq]; simp; omega
    · obtain rfl : k = n := by omega
      have hmc : R = mergeGo (total ls) (heapOf ls) [] := by
        rw [← HRR.out]
        unfold mergeC
        have := HALL.out
        rw [List.take_of_length_le (by rw [HN.out]; exact Nat.le_refl _)] at this
        rw [if_pos this]
      have hps0 : ps.map (·.2) = heapOf ls := by
        have := HPS.out
        rwa [List.take_of_length_le (by rw [HN.out]; exact Nat.le_refl _)] at this
      have htot : total (ps.map (·.2)) = total ls := by rw [hps0, heapOf_total]
      rw [← hps0] at hmc
      have HMC := Lib.hid hmc
      have HTOT := Lib.hid htot
      obtain ⟨N, hNN⟩ : ∃ N, total ls = N := ⟨_, rfl⟩
      rw [hNN] at hN HTOT HMC
      have HW := Lib.hid HB.out.size
      clear hmc hps0 htot hNN
      go_wp2
      go_loopw [7] (fun v7 wr => ∃ (out : List Ent) (ys : List Value) (sl : Value) (ps : List (Value × List Ent)), HeapV wr w.heap.size w.heap.size S sl ps ∧ wr.ownsRow w.heap.size 46 4 v7 out.length ys ∧ OutE wr w.heap.size v7 sl ys out ∧
        (∀ g, v7.ownBlock = some g → g ≠ w.heap.size ∧ sl.ownBlock ≠ some g) ∧ R = mergeGo (N - out.length) (ps.map (·.2)) out ∧ out.length + total (ps.map (·.2)) = N ∧ ps.length ≤ k ∧ Below w.heap.size w wr) (fun v7 _ => N - sliceLen v7)
      case atStart => exact ⟨[], [], sl, ps, HH.out, World.ownsRow_nil _ _ _ _, trivial, (fun g h => by simp [Value.ownBlock] at h), HMC.out, by simpa using HTOT.out, hpl, HB.out⟩
      case round =>
        clear HH HPS HALL HB HTOT HMC hpl
        clear sl ps
        obtain ⟨out, ys, sl, ps, hh, hown, hys, hdis, hgo, htot, hpl, hbel⟩ := hrel
        have HH := Lib.hid hh
        have HOWN := Lib.hid hown
        have HYS := Lib.hid hys
        have HDIS := Lib.hid hdis
        have HGO := Lib.hid hgo
        have HTOT := Lib.hid htot
        have HB := Lib.hid hbel
        clear hh hown hys hdis hgo htot hbel
        cases ps with
        | nil =>
          obtain ⟨A', c', rfl⟩ := own_form HH.out.row
          have c0 : wr.cell? { block := w.heap.size, off := 0 } = some (.slice A' 0 c') := HH.out.box0
          go_wp2
          obtain rfl : R = (out, 0) := by rw [HGO.out]; exact mergeGo_nil _ _
          refine bodyPost_ret (v := .tuple #[_, _]) (by simp [results, Try.results23, go_sem]; exact ⟨rfl, rfl⟩) rfl ?_
          refine ⟨_, rfl, ?_, HB.out⟩
          exact ⟨ys, HOWN.out, HYS.out.toFresh⟩
        | cons q ps =>
          obtain ⟨v0, l0⟩ := q
          obtain ⟨y0, y0n⟩ := HH.out.vals (v0, l0) (by simp)
          obtain ⟨e, l, rfl⟩ := List.exists_cons_of_ne_nil y0n
          obtain ⟨b0, o0, c00, k0, u0, rfl, x0, x1, x2, x3, z1, z2⟩ := y0.head
          obtain ⟨g, cg, rfl, hbg, hgz, hgc, hgm⟩ := own_pos HH.out.row (by simp)
          obtain ⟨A7, c7, rfl⟩ := own_form HOWN.out
          have c0 : wr.cell? { block := w.heap.size, off := 0 } = some (.slice (some ⟨g, 0, none⟩) (ps.length + 1) cg) := HH.out.box0
          obtain ⟨K, hK⟩ : ∃ K, N - out.length = K + 1 := ⟨N - out.length - 1, by have := HTOT.out; simp [total] at this; omega⟩
          have HGO' := Lib.hid (show R = if twice out e = true then ([], 31) else mergeGo K (if l = [] then popL id ((e :: l) :: ps.map (·.2)) else pushL id (popL id ((e :: l) :: ps.map (·.2))) l) (out ++ [e]) by
            have := HGO.out; rw [hK] at this; exact this)
          have HKK := Lib.hid hK
          have HY0 := Lib.hid y0
          have X0 := Lib.hid x0
          have X1 := Lib.hid x1
          have X2 := Lib.hid x2
          have X3 := Lib.hid x3
          obtain ⟨m, hm⟩ : ∃ m, out.length = m := ⟨_, rfl⟩
          have HM := Lib.hid hm
          rw [hm] at HOWN HYS HDIS HTOT
          rw [hm]
          clear hK y0 y0n x0 x1 x2 x3 HGO hm
          go_wp2_with (go_at_call 50; refine (pop_any w.heap.size w.heap.size S _ _ _ _ HH.out rfl (by simp at hpl ⊢; omega)).mono ?_; rintro r w1 ⟨rfl, hpo⟩)
          obtain ⟨sl1, hh1, ho1, hs1⟩ := hpo
          have hlt := HH.out.row.lt
          have hown1 := own_only HOWN.out ho1 (fun g' hg' t => t.elim (fun e => (HDIS.out g' hg').1 e) (fun e => (HDIS.out g' hg').2 e))
          have hys1 : OutE w1 w.heap.size (.slice A7 m c7) sl1 ys out := HYS.out.popped ho1 hs1
          have hy1 := HY0.out.only ho1 (fun i _ hs t => by have := HSS.out i hs; rcases t with t | t; omega; have := (hlt i t).1; omega)
          have hdis1 : ∀ g', (Value.slice A7 m c7).ownBlock = some g' → g' ≠ w.heap.size ∧ sl1.ownBlock ≠ some g' := fun g' hg' => by rw [hs1]; exact HDIS.out g' hg'
          have hbel1 : Below w.heap.size w w1 := HB.out.trans (ho1.below HB.out.size (fun i t => by rcases t with t | t; omega; exact (hlt i t).1))
          obtain ⟨_, hc1, hc2, k0, u0, x0, x1, x2, x3, z1, z2⟩ := hy1.head'
          have HH1 := Lib.hid hh1
          have HOWN1 := Lib.hid hown1
          have HYS1 := Lib.hid hys1
          have HY1 := Lib.hid hy1
          have HDIS1 := Lib.hid hdis1
          have HB1 := Lib.hid hbel1
          have Z1 := Lib.hid z1
          have Z2 := Lib.hid z2
          clear hh1 ho1 hs1 hlt hown1 hys1 hy1 hdis1 hbel1 z1 z2 X0 X1 X2 X3 HOWN HYS HDIS HB HY0 HH hk hkn
          have G0 : ∀ q : Ext w1, q.w.cell? { block := b0, off := o0 } = _ := fun q => q.h.cell x0
          have G1 : ∀ q : Ext w1, q.w.cell? { block := b0, off := o0 + 1 } = _ := fun q => q.h.cell x1
          have G2 : ∀ q : Ext w1, q.w.cell? { block := b0, off := o0 + 2 } = _ := fun q => q.h.cell x2
          have G3 : ∀ q : Ext w1, q.w.cell? { block := b0, off := o0 + 3 } = _ := fun q => q.h.cell x3
          have X0 := Lib.hid x0
          have X1 := Lib.hid x1
          have X2 := Lib.hid x2
          have X3 := Lib.hid x3
          clear x0 x1 x2 x3
          rcases List.eq_nil_or_concat out with hnil | ⟨os, o, hcon⟩
          · have hm0 : m = 0 := by rw [← HM.out, hnil]; rfl
            have hgd : decide (0 < m) = false := by simp [hm0]
            have htw : Hid (twice out e = false) := Lib.hid (by rw [hnil]; rfl)
            have HM0 := Lib.hid hm0
            have HNIL := Lib.hid hnil
            clear hm0 hnil
            (refine wp_region_quiet_ext (by kernel_rfl) (by kernel_rfl) ?_; (repeat (go_big_quiet_step (fail))); refine wpQuiet_nil ?_; intro wq hw'; obtain ⟨⟨_, hq⟩, hw''⟩ := hw'; subst hw'')
            have htw0 := htw.out
            clear htw
            have HHQ := Lib.hid (HH1.out.below hq)
            have HOQ := Lib.hid (own_below HOWN1.out hq)
            have HYQ := Lib.hid (HYS1.out.below hq)
            have HXQ := Lib.hid (HY1.out.below hq)
            have HBQ := Lib.hid (HB1.out.trans (Below.mono hq HB1.out.size))
            have HEV := Lib.hid ((show EntV w1 S (.agg #[k0, .int .i64 e.seq, .bool e.dead, u0]) e from ⟨_, _, rfl, Z1.out, Z2.out⟩).below hq)
            have x0 := fr.cell hq X0.out
            have x1 := fr.cell hq X1.out
            have x2 := fr.cell hq X2.out
            have x3 := fr.cell hq X3.out
            have hmN : m + 1 ≤ N := by have := HKK.out; have := HM.out; omega
            have HD7 : Hid (∀ g', (Value.slice A7 m c7).ownBlock = some g' → w.heap.size ≤ g' ∧ g' ≠ w.heap.size ∧ sl1.ownBlock ≠ some g') := Lib.hid fun g' hg' => ⟨(HOQ.out.lt g' hg').1, HDIS1.out g' hg'⟩
            have hBz : w.heap.size < wq.heap.size := HHQ.out.lt
            have HTW := Lib.hid (HGO'.out.trans (if_neg (by rw [htw0]; simp)))
            have hpl' : ps.length + 1 ≤ k := by simpa using hpl
            clear hq G0 G1 G2 G3 htw0 hpl
            by_cases hl : l = []
            · have hl0 : l.length ≤ 0 := by rw [hl]; simp
              have HL := Lib.hid hl
              clear hl
              go_wp2_with (first
                | (go_at_call 51; refine (ecloneL_any S _ e _ HEV.out).mono ?_; rintro r w3 ⟨v1, rfl, ⟨k', u', rfl, hk', hu'⟩, hb3⟩; obtain ⟨Ak, ck, rfl⟩ := slice_form hk'; obtain ⟨Au, cu, rfl⟩ := slice_form hu')
                | (at_builtin; refine wpList_append_own_at _ rfl _ _ 41 rfl w.heap.size 46 i0 _ 4 64 Try.underlying41 hi hz0 hz1'.out hby.out rfl (by decide) _ _ _ rfl ((own_below HOQ.out hb3).alloc _) ⟨w3.heap.size, 0, none⟩ 1 1 [.slice Ak e.key.length ck, .int .i64 e.seq, .bool e.dead, .slice Au e.val.length cu] rfl rfl (cell_four_new _ _ _ _ _ _) (by simp [Value.oneCell']) (by unfold maxLen; omega) (by omega) (by have := HBQ.out.size; have := hb3.size; simp; omega) ?_; intro v' w4 hown' hgrow hnn hat; clear hnn))
              obtain ⟨A8, c8, rfl⟩ := own_form hown'
              have hH4 := HHQ.out.thru hb3 hgrow HD7.out
              have hE4 : OutE w4 w.heap.size (.slice A8 (m + 1) c8) sl1 (ys ++ [.slice Ak e.key.length ck, .int .i64 e.seq, .bool e.dead, .slice Au e.val.length cu]) (out ++ [e]) := OutE.push HOQ.out HYQ.out hb3 hk' hu' hBz (fun g hg => (HHQ.out.row.lt g hg).2) hgrow hat
              have hD4 := dis_grown HDIS1.out hat (by have := hb3.size; omega) (fun g hg => by have := HHQ.out.row.lt g hg; have := hb3.size; omega)
              refine ⟨⟨out ++ [e], _, sl1, _, hH4, (by rw [List.length_append, HM.out]; exact hown'), hE4, hD4, ?_, ?_, ?_, ((HBQ.out.trans (hb3.mono HBQ.out.size)).alloc (by have := HBQ.out.size; have := hb3.size; omega) _).grown hgrow (by have := HBQ.out.size; have := hb3.size; simp; omega) (fun j e => (HOQ.out.lt j e).1)⟩, ?_⟩
              · rw [HTW.out, if_pos HL.out, show N - (out ++ [e]).length = K by have := HKK.out; simp; omega]
                exact congrArg (fun h => mergeGo K h (out ++ [e])) (popV_map ((Value.slice (some ⟨b0, o0, none⟩) (l.length + 1) c00, e :: l) :: ps)).symm
              · have h1 := total_pop e l (ps.map (·.2))
                have h2 : ((popL (·.2) ((Value.slice (some ⟨b0, o0, none⟩) (l.length + 1) c00, e :: l) :: ps)).map (·.2)) = popL id ((e :: l) :: ps.map (·.2)) := popV_map _
                have h3 := HTOT.out
                have h4 := HM.out
                rw [h2]; simp only [List.map_cons] at h3; simp; omega
              · rw [popL_len]; simp; omega
              · simp [sliceLen]; omega
            · have hl0 : 0 < l.length := List.length_pos_iff.2 hl
              have HL := Lib.hid hl
              clear hl
              go_wp2_with (first
                | (go_at_call 51; refine (ecloneL_any S _ e _ HEV.out).mono ?_; rintro r w3 ⟨v1, rfl, ⟨k', u', rfl, hk', hu'⟩, hb3⟩; obtain ⟨Ak, ck, rfl⟩ := slice_form hk'; obtain ⟨Au, cu, rfl⟩ := slice_form hu')
                | (at_builtin; refine wpList_append_own_at _ rfl _ _ 41 rfl w.heap.size 46 i0 _ 4 64 Try.underlying41 hi hz0 hz1'.out hby.out rfl (by decide) _ _ _ rfl ((own_below HOQ.out hb3).alloc _) ⟨w3.heap.size, 0, none⟩ 1 1 [.slice Ak e.key.length ck, .int .i64 e.seq, .bool e.dead, .slice Au e.val.length cu] rfl rfl (cell_four_new _ _ _ _ _ _) (by simp [Value.oneCell']) (by unfold maxLen; omega) (by omega) (by have := HBQ.out.size; have := hb3.size; simp; omega) ?_; intro v' w4 hown' hgrow hnn hat; clear hnn)
                | ((go_at_call 49; refine (push_any w.heap.size w.heap.size S sl1 _ _ l _ (HHQ.out.thru hb3 hgrow HD7.out) ((HXQ.out.tail HL.out).thru hb3 hgrow (fun g hg hs => by have := HSS.out g hs; have := (HD7.out g hg).1; omega)) HL.out (by rw [popL_len]; simp; omega)).mono ?_; rintro r w5 ⟨rfl, hpu⟩)))
              obtain ⟨A8, c8, rfl⟩ := own_form hown'
              have hH4 := HHQ.out.thru hb3 hgrow HD7.out
              have hE4 : OutE w4 w.heap.size (.slice A8 (m + 1) c8) sl1 (ys ++ [.slice Ak e.key.length ck, .int .i64 e.seq, .bool e.dead, .slice Au e.val.length cu]) (out ++ [e]) := OutE.push HOQ.out HYQ.out hb3 hk' hu' hBz (fun g hg => (HHQ.out.row.lt g hg).2) hgrow hat
              have hD4 := dis_grown HDIS1.out hat (by have := hb3.size; omega) (fun g hg => by have := HHQ.out.row.lt g hg; have := hb3.size; omega)
              have hB4 := ((HBQ.out.trans (hb3.mono HBQ.out.size)).alloc (by have := HBQ.out.size; have := hb3.size; omega) (.cells #[.slice Ak e.key.length ck, .int .i64 e.seq, .bool e.dead, .slice Au e.val.length cu] 46)).grown hgrow (by have := HBQ.out.size; have := hb3.size; simp; omega) (fun j e => (HOQ.out.lt j e).1)
              have hB5 := hB4.trans (hpu.below (Nat.le_refl _) (fun g hg => (hH4.row.lt g hg).1) hB4.size)
              obtain ⟨sl2, hh5, ho5, hs5⟩ := hpu
              refine ⟨⟨out ++ [e], _, sl2, _, hh5, (by rw [List.length_append, HM.out]; exact own_only hown' ho5 (fun g hg t => t.elim (fun e => (hD4 g hg).1 e) (fun e => (hD4 g hg).2 e))), hE4.pushed ho5 hs5, dis_pushed hD4 (fun g hg => (hown'.lt g hg).2) hs5, ?_, ?_, ?_, hB5⟩, ?_⟩
              · rw [HTW.out, if_neg HL.out, show N - (out ++ [e]).length = K by have := HKK.out; simp; omega]
                have h2 : ((popL (·.2) ((Value.slice (some ⟨b0, o0, none⟩) (l.length + 1) c00, e :: l) :: ps)).map (·.2)) = popL id ((e :: l) :: ps.map (·.2)) := popV_map _
                rw [← h2]
                exact congrArg (fun h => mergeGo K h (out ++ [e])) (pushV_map _ (_, l)).symm
              · have h1 := total_pop e l (ps.map (·.2))
                have h2 : ((popL (·.2) ((Value.slice (some ⟨b0, o0, none⟩) (l.length + 1) c00, e :: l) :: ps)).map (·.2)) = popL id ((e :: l) :: ps.map (·.2)) := popV_map _
                have h3 := HTOT.out
                have h4 := HM.out
                have h5 : total ((pushL (·.2) (popL (·.2) ((Value.slice (some ⟨b0, o0, none⟩) (l.length + 1) c00, e :: l) :: ps)) ((Value.slice (some ⟨b0, o0 + 4, none⟩) l.length (c00 - 1), l) : Value × List Ent)).map (·.2)) = total (popL id ((e :: l) :: ps.map (·.2))) + l.length := by
                  rw [← h2, ← total_push]; exact congrArg total (pushV_map _ _)
                refine Eq.trans (congrArg (fun z => (out ++ [e]).length + z) h5) ?_
                simp only [List.map_cons] at h3; simp; omega
              · rw [(siftUp_perm _ _ _).length_eq]; simp [popL_len]; omega
              · simp [sliceLen]; omega
          · have hm1 : m = os.length + 1 := by rw [← HM.out, hcon]; simp
            have hpos : 0 < m := by omega
            have hgd : decide (0 < m) = true := by simp; omega
            rw [List.concat_eq_append] at hcon
            obtain ⟨g7, c7', hA, hb7, hz7, hc7, hc7'⟩ := own_pos HOWN1.out hpos
            injection hA with hA hm' hc'
            subst hA hc'
            obtain ⟨ko, uo, a0, a1, a2, a3, q1, q2⟩ := own_last HOWN1.out (show EntCells w1 (outL w1 w.heap.size _ sl1) ys (os ++ [o]) from hcon ▸ HYS1.out) hm1
            have F0 : ∀ q : Ext w1, q.w.cell? { block := g7, off := (m - 1) * 4 } = _ := fun q => q.h.cell a0
            have F1 : ∀ q : Ext w1, q.w.cell? { block := g7, off := (m - 1) * 4 + 1 } = _ := fun q => q.h.cell a1
            have F2 : ∀ q : Ext w1, q.w.cell? { block := g7, off := (m - 1) * 4 + 2 } = _ := fun q => q.h.cell a2
            have F3 : ∀ q : Ext w1, q.w.cell? { block := g7, off := (m - 1) * 4 + 3 } = _ := fun q => q.h.cell a3
            have CC : ∀ q : Ext w1, Calls Try.prog 47 #[.agg #[ko, .int .i64 o.seq, .bool o.dead, uo], .agg #[k0, .int .i64 e.seq, .bool e.dead, u0]] q.w fun r w'' => r = .returned (.int .i64 (cmpE o e)) ∧ ∃ q' : Ext w1, w'' = q'.w := fun q => Ext.calls (compare_any _ S _ _ o e _ (q.h.ent ⟨_, _, rfl, q1, q2⟩) (q.h.ent ⟨_, _, rfl, Z1.out, Z2.out⟩))
            have htw : Hid (twice out e = decide (cmpE o e = 0)) := Lib.hid (by rw [hcon]; exact twice_snoc _ _ _)
            have HM1 := Lib.hid hm1
            have HCON := Lib.hid hcon
            clear hm1 hcon a0 a1 a2 a3 q1 q2 hm'
            by_cases heq : cmpE o e = 0
            · have hdq : (cmpE o e == 0) = true := by simp [heq]
              have HEQ := Lib.hid heq
              clear heq
              (refine wp_region_quiet_ext (by kernel_rfl) (by kernel_rfl) ?_; (repeat (go_big_quiet_step ((go_at_call 47; exact CC _)))); refine wpQuiet_nil ?_; intro wq hw'; obtain ⟨⟨_, hq⟩, hw''⟩ := hw'; subst hw'')
              go_wp2
              obtain rfl : R = ([], 31) := HGO'.out.trans (if_pos (by rw [htw.out, HEQ.out]; rfl))
              refine bodyPost_ret (v := .tuple #[_, _]) (by simp [results, Try.results23, go_sem]; exact ⟨rfl, rfl⟩) rfl ?_
              exact ⟨_, rfl, OwnE.nil _ _, HB1.out.trans (Below.mono hq HB1.out.size)⟩
            · have hdq : (cmpE o e == 0) = false := by simp [heq]
              have HEQ := Lib.hid heq
              clear heq
              (refine wp_region_quiet_ext (by kernel_rfl) (by kernel_rfl) ?_; (repeat (go_big_quiet_step ((go_at_call 47; exact CC _)))); refine wpQuiet_nil ?_; intro wq hw'; obtain ⟨⟨_, hq⟩, hw''⟩ := hw'; subst hw'')
              have htw0 : twice out e = false := by rw [htw.out]; exact decide_eq_false HEQ.out
              clear htw F0 F1 F2 F3 CC
              have HHQ := Lib.hid (HH1.out.below hq)
              have HOQ := Lib.hid (own_below HOWN1.out hq)
              have HYQ := Lib.hid (HYS1.out.below hq)
              have HXQ := Lib.hid (HY1.out.below hq)
              have HBQ := Lib.hid (HB1.out.trans (Below.mono hq HB1.out.size))
              have HEV := Lib.hid ((show EntV w1 S (.agg #[k0, .int .i64 e.seq, .bool e.dead, u0]) e from ⟨_, _, rfl, Z1.out, Z2.out⟩).below hq)
              have x0 := fr.cell hq X0.out
              have x1 := fr.cell hq X1.out
              have x2 := fr.cell hq X2.out
              have x3 := fr.cell hq X3.out
              have hmN : m + 1 ≤ N := by have := HKK.out; have := HM.out; omega
              have HD7 : Hid (∀ g', (Value.slice (some ⟨g7, 0, none⟩) m c7).ownBlock = some g' → w.heap.size ≤ g' ∧ g' ≠ w.heap.size ∧ sl1.ownBlock ≠ some g') := Lib.hid fun g' hg' => ⟨(HOQ.out.lt g' hg').1, HDIS1.out g' hg'⟩
              have hBz : w.heap.size < wq.heap.size := HHQ.out.lt
              have HTW := Lib.hid (HGO'.out.trans (if_neg (by rw [htw0]; simp)))
              have hpl' : ps.length + 1 ≤ k := by simpa using hpl
              clear hq G0 G1 G2 G3 htw0 hpl
              by_cases hl : l = []
              · have hl0 : l.length ≤ 0 := by rw [hl]; simp
                have HL := Lib.hid hl
                clear hl
                go_wp2_with (first
                  | (go_at_call 51; refine (ecloneL_any S _ e _ HEV.out).mono ?_; rintro r w3 ⟨v1, rfl, ⟨k', u', rfl, hk', hu'⟩, hb3⟩; obtain ⟨Ak, ck, rfl⟩ := slice_form hk'; obtain ⟨Au, cu, rfl⟩ := slice_form hu')
                  | (at_builtin; refine wpList_append_own_at _ rfl _ _ 41 rfl w.heap.size 46 i0 _ 4 64 Try.underlying41 hi hz0 hz1'.out hby.out rfl (by decide) _ _ _ rfl ((own_below HOQ.out hb3).alloc _) ⟨w3.heap.size, 0, none⟩ 1 1 [.slice Ak e.key.length ck, .int .i64 e.seq, .bool e.dead, .slice Au e.val.length cu] rfl rfl (cell_four_new _ _ _ _ _ _) (by simp [Value.oneCell']) (by unfold maxLen; omega) (by omega) (by have := HBQ.out.size; have := hb3.size; simp; omega) ?_; intro v' w4 hown' hgrow hnn hat; clear hnn))
                obtain ⟨A8, c8, rfl⟩ := own_form hown'
                have hH4 := HHQ.out.thru hb3 hgrow HD7.out
                have hE4 : OutE w4 w.heap.size (.slice A8 (m + 1) c8) sl1 (ys ++ [.slice Ak e.key.length ck, .int .i64 e.seq, .bool e.dead, .slice Au e.val.length cu]) (out ++ [e]) := OutE.push HOQ.out HYQ.out hb3 hk' hu' hBz (fun g hg => (HHQ.out.row.lt g hg).2) hgrow hat
                have hD4 := dis_grown HDIS1.out hat (by have := hb3.size; omega) (fun g hg => by have := HHQ.out.row.lt g hg; have := hb3.size; omega)
                refine ⟨⟨out ++ [e], _, sl1, _, hH4, (by rw [List.length_append, HM.out]; exact hown'), hE4, hD4, ?_, ?_, ?_, ((HBQ.out.trans (hb3.mono HBQ.out.size)).alloc (by have := HBQ.out.size; have := hb3.size; omega) _).grown hgrow (by have := HBQ.out.size; have := hb3.size; simp; omega) (fun j e => (HOQ.out.lt j e).1)⟩, ?_⟩
                · rw [HTW.out, if_pos HL.out, show N - (out ++ [e]).length = K by have := HKK.out; simp; omega]
                  exact congrArg (fun h => mergeGo K h (out ++ [e])) (popV_map ((Value.slice (some ⟨b0, o0, none⟩) (l.length + 1) c00, e :: l) :: ps)).symm
                · have h1 := total_pop e l (ps.map (·.2))
                  have h2 : ((popL (·.2) ((Value.slice (some ⟨b0, o0, none⟩) (l.length + 1) c00, e :: l) :: ps)).map (·.2)) = popL id ((e :: l) :: ps.map (·.2)) := popV_map _
                  have h3 := HTOT.out
                  have h4 := HM.out
                  rw [h2]; simp only [List.map_cons] at h3; simp; omega
                · rw [popL_len]; simp; omega
                · simp [sliceLen]; omega
              · have hl0 : 0 < l.length := List.length_pos_iff.2 hl
                have HL := Lib.hid hl
                clear hl
                go_wp2_with (first
                  | (go_at_call 51; refine (ecloneL_any S _ e _ HEV.out).mono ?_; rintro r w3 ⟨v1, rfl, ⟨k', u', rfl, hk', hu'⟩, hb3⟩; obtain ⟨Ak, ck, rfl⟩ := slice_form hk'; obtain ⟨Au, cu, rfl⟩ := slice_form hu')
                  | (at_builtin; refine wpList_append_own_at _ rfl _ _ 41 rfl w.heap.size 46 i0 _ 4 64 Try.underlying41 hi hz0 hz1'.out hby.out rfl (by decide) _ _ _ rfl ((own_below HOQ.out hb3).alloc _) ⟨w3.heap.size, 0, none⟩ 1 1 [.slice Ak e.key.length ck, .int .i64 e.seq, .bool e.dead, .slice Au e.val.length cu] rfl rfl (cell_four_new _ _ _ _ _ _) (by simp [Value.oneCell']) (by unfold maxLen; omega) (by omega) (by have := HBQ.out.size; have := hb3.size; simp; omega) ?_; intro v' w4 hown' hgrow hnn hat; clear hnn)
                  | ((go_at_call 49; refine (push_any w.heap.size w.heap.size S sl1 _ _ l _ (HHQ.out.thru hb3 hgrow HD7.out) ((HXQ.out.tail HL.out).thru hb3 hgrow (fun g hg hs => by have := HSS.out g hs; have := (HD7.out g hg).1; omega)) HL.out (by rw [popL_len]; simp; omega)).mono ?_; rintro r w5 ⟨rfl, hpu⟩)))
                obtain ⟨A8, c8, rfl⟩ := own_form hown'
                have hH4 := HHQ.out.thru hb3 hgrow HD7.out
                have hE4 : OutE w4 w.heap.size (.slice A8 (m + 1) c8) sl1 (ys ++ [.slice Ak e.key.length ck, .int .i64 e.seq, .bool e.dead, .slice Au e.val.length cu]) (out ++ [e]) := OutE.push HOQ.out HYQ.out hb3 hk' hu' hBz (fun g hg => (HHQ.out.row.lt g hg).2) hgrow hat
                have hD4 := dis_grown HDIS1.out hat (by have := hb3.size; omega) (fun g hg => by have := HHQ.out.row.lt g hg; have := hb3.size; omega)
                have hB4 := ((HBQ.out.trans (hb3.mono HBQ.out.size)).alloc (by have := HBQ.out.size; have := hb3.size; omega) (.cells #[.slice Ak e.key.length ck, .int .i64 e.seq, .bool e.dead, .slice Au e.val.length cu] 46)).grown hgrow (by have := HBQ.out.size; have := hb3.size; simp; omega) (fun j e => (HOQ.out.lt j e).1)
                have hB5 := hB4.trans (hpu.below (Nat.le_refl _) (fun g hg => (hH4.row.lt g hg).1) hB4.size)
                obtain ⟨sl2, hh5, ho5, hs5⟩ := hpu
                refine ⟨⟨out ++ [e], _, sl2, _, hh5, (by rw [List.length_append, HM.out]; exact own_only hown' ho5 (fun g hg t => t.elim (fun e => (hD4 g hg).1 e) (fun e => (hD4 g hg).2 e))), hE4.pushed ho5 hs5, dis_pushed hD4 (fun g hg => (hown'.lt g hg).2) hs5, ?_, ?_, ?_, hB5⟩, ?_⟩
                · rw [HTW.out, if_neg HL.out, show N - (out ++ [e]).length = K by have := HKK.out; simp; omega]
                  have h2 : ((popL (·.2) ((Value.slice (some ⟨b0, o0, none⟩) (l.length + 1) c00, e :: l) :: ps)).map (·.2)) = popL id ((e :: l) :: ps.map (·.2)) := popV_map _
                  rw [← h2]
                  exact congrArg (fun h => mergeGo K h (out ++ [e])) (pushV_map _ (_, l)).symm
                · have h1 := total_pop e l (ps.map (·.2))
                  have h2 : ((popL (·.2) ((Value.slice (some ⟨b0, o0, none⟩) (l.length + 1) c00, e :: l) :: ps)).map (·.2)) = popL id ((e :: l) :: ps.map (·.2)) := popV_map _
                  have h3 := HTOT.out
                  have h4 := HM.out
                  have h5 : total ((pushL (·.2) (popL (·.2) ((Value.slice (some ⟨b0, o0, none⟩) (l.length + 1) c00, e :: l) :: ps)) ((Value.slice (some ⟨b0, o0 + 4, none⟩) l.length (c00 - 1), l) : Value × List Ent)).map (·.2)) = total (popL id ((e :: l) :: ps.map (·.2))) + l.length := by
                    rw [← h2, ← total_push]; exact congrArg total (pushV_map _ _)
                  refine Eq.trans (congrArg (fun z => (out ++ [e]).length + z) h5) ?_
                  simp only [List.map_cons] at h3; simp; omega
                · rw [(siftUp_perm _ _ _).length_eq]; simp [popL_len]; omega
                · simp [sliceLen]; omega
end Go.Proofs.Ytacdhkkelkplnaa
end
