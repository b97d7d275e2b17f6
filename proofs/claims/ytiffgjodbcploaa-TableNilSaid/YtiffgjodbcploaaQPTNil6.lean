/-
slices.Clip of bytes; what block.Build makes, in plain words.
-/
import Derived.Test.YtiffgjodbcploaaQPTNil5
import Derived.StillTailTactics
import Derived.BigQuiet
import Derived.Test.YtiffgjodbcploaaQPTNil4
section
namespace Go.Proofs.Ytiffgjodbcploaa
open Go.RowKit
attribute [local go_sem ↓] Go.wp_at_zero Go.wp_at_succ
theorem info26 : (Try.prog.info? 34).map (fun i => (i.zero, i.size, i.bytes)) = some (some (.agg #[.slice none 0 0, .int .i64 0, .bool false, .slice none 0 0]), 4, 64) := by kernel_rfl
theorem cell_four_new (w : World) (a b c d : Value) (t : TypeId) : ∀ j u, [a, b, c, d][j]? = some u → (w.alloc (.cells #[a, b, c, d] t)).cell? ((⟨w.heap.size, 0, none⟩ : Addr).add j) = some u := by
  intro j u hu
  rw [Addr.add_lit, World.cell?_alloc_at _ _ _ _ rfl]
  simpa using hu
/-- the row of entries that a call fills: one more. -/
def fresh (base : Nat) (v : Value) (i : Nat) : Prop := base ≤ i ∧ v.ownBlock ≠ some i
theorem EntCells.push {base : Nat} {wr w1 w2 : World} {v v' k u : Value} {n : Nat} {ys : List Value} {es : List Ent} {e : Ent} {o : Obj} {t : TypeId} (hown : wr.ownsRow base t 4 v n ys) (hys : EntCells wr (fresh base v) ys es) (hb1 : Below wr.heap.size wr w1)
    (hk : Byt w1 (fun i => wr.heap.size ≤ i) k e.key) (hu : Byt w1 (fun i => wr.heap.size ≤ i) u e.val) (hbase : base ≤ wr.heap.size) (hg : (w1.alloc o).grownBy w2 v.ownBlock) (hat : v'.ownBlock = v.ownBlock ∨ v'.ownBlock = some (w1.alloc o).heap.size) :
    EntCells w2 (fresh base v') (ys ++ [k, .int .i64 e.seq, .bool e.dead, u]) (es ++ [e]) := by
  have hal : Below w1.heap.size w1 (w1.alloc o) := (Below.refl _ _).alloc (Nat.le_refl _) _
  have hz := hb1.size
  have old : ∀ x bs, Byt wr (fresh base v) x bs → Byt w2 (fresh base v') x bs := fun x bs h =>
    ((h.below hb1).below hal).push hg hat (fun i _ hs => hs.2) (fun i _ hs hn => ⟨hs.1, hn⟩)
  have new : ∀ x bs, Byt w1 (fun i => wr.heap.size ≤ i) x bs → Byt w2 (fresh base v') x bs := fun x bs h =>
    (h.below hal).push hg hat (fun i _ hs e => by have := hown.lt i e; omega) (fun i _ hs hn => ⟨by omega, hn⟩)
  exact (hys.imp old).append (EntCells.one (new _ _ hk) (new _ _ hu))
set_option maxRecDepth 100000 in
set_option maxHeartbeats 2000000 in
theorem copy_any (S : Nat → Prop) (v : Value) (es : List Ent) (w : World) (hv : Ents w S v es) :
    Calls Try.prog 19 #[v] w fun r w' => ∃ v', r = .returned v' ∧ Ents w' (fun i => w.heap.size ≤ i) v' es ∧ Below w.heap.size w w' := by
  obtain ⟨i0, hi, hz0, hz1, hz2⟩ := info_parts info26
  have hby := Lib.hid hz2
  have hz1' := Lib.hid hz1
  clear hz2 hz1
  obtain ⟨A, c, cs, rfl, hc, hcm, hl, hr, he⟩ := hv
  obtain ⟨n, hn⟩ : ∃ n, es.length = n := ⟨_, rfl⟩
  rw [hn] at hr hl ⊢
  have HN := Lib.hid hn
  clear hn
  go_enter Try.func19, Try.ntmps19
  go_wp2
  go_loopw [3, 7] (fun v t wr => ∃ k : Nat, ∃ ys : List Value, k ≤ n ∧ t = .int .i64 k ∧ wr.ownsRow w.heap.size 34 4 v k ys ∧ EntCells wr (fresh w.heap.size v) ys (es.take k) ∧ Below w.heap.size w wr) (fun _ t _ => n - (intOf t).toNat)
  case atStart => exact ⟨0, [], by omega, rfl, World.ownsRow_nil _ _ _ _, trivial, Below.refl _ _⟩
  case round =>
    obtain ⟨k, ys, hk, rfl, hown, hys, hbel⟩ := hrel
    by_cases hkn : k < n
    · obtain ⟨e, hek⟩ : ∃ e, es[k]? = some e := ⟨_, List.getElem?_eq_getElem (by rw [HN.out]; exact hkn)⟩
      obtain ⟨b, o, kk, uu, rfl, c0, c1, c2, c3, b1, b2, _, _⟩ := (hr.below hbel).ent (he.below hbel) HN.out hek
      have HO := Lib.hid hown
      have HEK := Lib.hid hek
      have hev : EntV wr S (.agg #[kk, .int .i64 e.seq, .bool e.dead, uu]) e := ⟨_, _, rfl, b1, b2⟩
      clear hown hek b1 b2
      go_wp2_with (first
        | (go_at_call 41; refine (one_any S _ e _ hev).mono ?_; rintro r w1 ⟨v1, rfl, ⟨k', u', rfl, hk', hu'⟩, hb1⟩; obtain ⟨Ak, ck, rfl⟩ := slice_form hk'; obtain ⟨Au, cu, rfl⟩ := slice_form hu')
        | (at_builtin; refine wpList_append_own_at _ rfl _ _ 22 rfl w.heap.size 34 i0 _ 4 64 Try.underlying22 hi hz0 hz1'.out hby.out rfl (by decide) _ _ _ rfl ((own_below HO.out hb1).alloc _) ⟨w1.heap.size, 0, none⟩ 1 1 [.slice Ak e.key.length ck, .int .i64 e.seq, .bool e.dead, .slice Au e.val.length cu] rfl rfl (cell_four_new _ _ _ _ _ _) (by simp [Value.oneCell']) (by unfold maxLen; omega) (by omega) (by have := hbel.size; have := hb1.size; simp; omega) ?_; intro v' w2 hown' hgrow _ hat))
      refine ⟨⟨k + 1, _, by omega, by go_num, hown', ?_, ((hbel.trans (hb1.mono hbel.size)).alloc (by have := hbel.size; have := hb1.size; omega) _).grown hgrow (by have := hbel.size; have := hb1.size; simp; omega) (fun j e => (HO.out.lt j e).1)⟩, by simp [intOf]; omega⟩
      rw [take_snoc HEK.out]
      exact EntCells.push HO.out hys hb1 hk' hu' hbel.size hgrow hat
    · obtain rfl : k = n := by omega
      have HO := Lib.hid hown
      clear hown
      go_wp2
      go_ret
      have e1 : es.take k = es := List.take_of_length_le (by rw [HN.out]; exact Nat.le_refl _)
      rw [e1] at hys
      refine ⟨_, rfl, Ents.of_own (by rw [HN.out]; exact HO.out) (hys.mono fun i hi => hi.1) (fun i hi _ => hi) (by rw [HN.out]; exact hl), hbel⟩
end Go.Proofs.Ytiffgjodbcploaa
end
section
namespace Go.Proofs.Ytiffgjodbcploaa
open Go.RowKit
attribute [local go_sem ↓] Go.wp_at_zero Go.wp_at_succ
theorem EntV.drew {w : World} {S : Nat → Prop} {v : Value} {e : Ent} (h : EntV w S v e) : EntV w.drew S v e := h
set_option maxRecDepth 100000 in
set_option maxHeartbeats 2000000 in
theorem sameE_any (S S' : Nat → Prop) (v v' : Value) (xs ys : List Ent) (w : World) (hx : Ents w S v xs) (hy : Ents w S' v' ys) :
    Calls Try.prog 13 #[v, v'] w fun e w' => e = .returned (.bool (decide (xs = ys))) ∧ Below w.heap.size w w' := by
  obtain ⟨A, c, cs, rfl, hc, hcm, hl, hr, he⟩ := hx
  obtain ⟨A', c', cs', rfl, hc', hcm', hl', hr', he'⟩ := hy
  rcases (by omega : xs.length = ys.length ∨ ¬ xs.length = ys.length) with hlen | hlen
  · have hL := Lib.hid hlen
    obtain ⟨n, hn⟩ : ∃ n, xs.length = n := ⟨_, rfl⟩
    rw [← hlen] at hr' ⊢
    rw [hn] at hr hr' hl ⊢
    clear hlen
    have hN := Lib.hid hn
    clear hn
    go_enter Try.func13, Try.ntmps13
    go_wp2
    go_loopw [5, 13] (fun _ t wr => ∃ k : Nat, k ≤ n ∧ t = .int .i64 k ∧ xs.take k = ys.take k ∧ Below w.heap.size w wr) (fun _ t _ => n - (intOf t).toNat)
    case atStart => exact ⟨0, by omega, rfl, by simp, Below.refl _ _⟩
    case round =>
      obtain ⟨k, hk, rfl, hpre, hbel⟩ := hrel
      have hp := Lib.hid hpre
      clear hpre
      by_cases hkn : k < n
      · obtain ⟨x, hxk⟩ : ∃ x, xs[k]? = some x := ⟨_, List.getElem?_eq_getElem (by rw [hN.out]; exact hkn)⟩
        obtain ⟨y, hyk⟩ : ∃ y, ys[k]? = some y := ⟨_, List.getElem?_eq_getElem (by rw [← hL.out, hN.out]; exact hkn)⟩
        obtain ⟨b, o, k1, u1, rfl, c0, c1, c2, c3, b1, b2, _, _⟩ := (hr.below hbel).ent (he.below hbel) hN.out hxk
        obtain ⟨b', o', k2, u2, rfl, d0, d1, d2, d3, e1, e2, _, _⟩ := (hr'.below hbel).ent (he'.below hbel) (by rw [← hL.out, hN.out]) hyk
        have hev := Lib.hid (show EntV wr S (.agg #[k1, .int .i64 x.seq, .bool x.dead, u1]) x from ⟨_, _, rfl, b1, b2⟩)
        have hev' := Lib.hid (show EntV wr S' (.agg #[k2, .int .i64 y.seq, .bool y.dead, u2]) y from ⟨_, _, rfl, e1, e2⟩)
        have HX := Lib.hid hxk
        have HY := Lib.hid hyk
        clear b1 b2 e1 e2 hxk hyk
        rcases hxy : decide (x = y) with _ | _
        · have hne : ¬ xs = ys := fun e => by
            have h1 := HX.out
            rw [e, HY.out] at h1
            injection h1 with h1
            simp [h1] at hxy
          have HN := Lib.hid hne
          have HXY := Lib.hid hxy
          clear hne hxy
          go_wp2
          go_still_tail 8, (by kernel_rfl)
          go_wp2_with (go_at_call 12; refine (sameone_any S S' _ _ x y _ (by exact hev.out.drew) (by exact hev'.out.drew)).mono ?_; rintro r w1 ⟨rfl, hb⟩; rw [HXY.out])
          go_ret
          exact ⟨ret_bool (decide_eq_false HN.out).symm, hbel.trans ((undrew hb).mono (by have := hbel.size; simpa using this))⟩
        · have HXY := Lib.hid hxy
          clear hxy
          go_wp2
          go_still_tail 8, (by kernel_rfl)
          go_wp2_with (go_at_call 12; refine (sameone_any S S' _ _ x y _ (by exact hev.out.drew) (by exact hev'.out.drew)).mono ?_; rintro r w1 ⟨rfl, hb⟩; rw [HXY.out])
          refine ⟨⟨k + 1, by omega, by go_num, ?_, hbel.trans ((undrew hb).mono (by have := hbel.size; simpa using this))⟩, by simp [intOf]; omega⟩
          rw [take_snoc HX.out, take_snoc HY.out, hp.out, of_decide_eq_true HXY.out]
      · obtain rfl : k = n := by omega
        go_wp2
        go_ret
        refine ⟨ret_bool ?_, hbel⟩
        have e1 := hp.out
        rw [List.take_of_length_le (by rw [hN.out]; exact Nat.le_refl _), List.take_of_length_le (by rw [← hL.out, hN.out]; exact Nat.le_refl _)] at e1
        rw [e1]
        simp
  · have hN := Lib.hid (show ¬ xs = ys from fun e => hlen (by rw [e]))
    have hb : ((xs.length : Int) != (ys.length : Int)) = true := by rw [bne_iff_ne]; omega
    clear hlen
    go_enter Try.func13, Try.ntmps13
    go_wp2
    go_ret
    exact ⟨ret_bool (decide_eq_false hN.out).symm, Below.refl _ _⟩
end Go.Proofs.Ytiffgjodbcploaa
end
section
namespace Go.Proofs.Ytiffgjodbcploaa
open Go.RowKit Go.BigFrame
section
variable {W w' w2 : World}
theorem fr.ent (h : fr W w') {S : Nat → Prop} {v : Value} {e : Ent} (hv : EntV W S v e) : EntV w' S v e := hv.below h
end
end Go.Proofs.Ytiffgjodbcploaa
end
section
namespace Go.Proofs.Ytiffgjodbcploaa
open Go.RowKit
attribute [local go_sem ↓] Go.wp_at_zero Go.wp_at_succ
theorem orderedFrom_step (es : List Ent) (k : Nat) (e : Ent) (h : es[k]? = some e) (p : Option Ent) :
    orderedFrom p (es.drop k) = (goodE e && ((match p with | none => true | some p => decide (cmpE p e < 0)) && orderedFrom (some e) (es.drop (k + 1)))) := by
  rw [List.drop_eq_getElem_cons (List.getElem?_eq_some_iff.1 h).1]
  have e1 := (List.getElem?_eq_some_iff.1 h).2
  rw [e1]
  cases p <;> simp [orderedFrom]
set_option maxRecDepth 100000 in
set_option maxHeartbeats 4000000 in
theorem ordered_any (S : Nat → Prop) (v : Value) (es : List Ent) (w : World) (hv : Ents w S v es) :
    Calls Try.prog 33 #[v] w fun r w' => r = .returned (.bool (orderedE es)) ∧ Below w.heap.size w w' := by
  obtain ⟨A, c, cs, rfl, hc, hcm, hl, hr, he⟩ := hv
  obtain ⟨n, hn⟩ : ∃ n, es.length = n := ⟨_, rfl⟩
  rw [hn] at hr hl ⊢
  have HN := Lib.hid hn
  clear hn
  go_enter Try.func33, Try.ntmps33
  go_wp2
  go_loopw [3, 4, 7] (fun _ _ t wr => ∃ k : Nat, k ≤ n ∧ t = .int .i64 k ∧ orderedE es = orderedFrom (if k = 0 then none else es[k - 1]?) (es.drop k) ∧ Below w.heap.size w wr) (fun _ _ t _ => n - (intOf t).toNat)
  case atStart => exact ⟨0, by omega, rfl, rfl, Below.refl _ _⟩
  case round =>
    obtain ⟨k, hk, rfl, hpre, hbel⟩ := hrel
    have hp := Lib.hid hpre
    clear hpre
    by_cases hkn : k < n
    · obtain ⟨e, hek⟩ : ∃ e, es[k]? = some e := ⟨_, List.getElem?_eq_getElem (by rw [HN.out]; exact hkn)⟩
      obtain ⟨b, o, kk, uu, rfl, c0, c1, c2, c3, b1, b2, hblt, _⟩ := (hr.below hbel).ent (he.below hbel) HN.out hek
      have hal : Below wr.heap.size wr (wr.alloc (.cells #[kk, .int .i64 e.seq, .bool e.dead, uu] 34)) := (Below.refl _ _).alloc (Nat.le_refl _) _
      have hev := Lib.hid ((show EntV wr S (.agg #[kk, .int .i64 e.seq, .bool e.dead, uu]) e from ⟨_, _, rfl, b1, b2⟩).below hal)
      have HSTEP := Lib.hid (orderedFrom_step es k e hek (if k = 0 then none else es[k - 1]?))
      have HX := Lib.hid hek
      obtain ⟨Ak, ck, rfl⟩ := slice_form b1
      obtain ⟨Au, cu, rfl⟩ := slice_form b2
      clear b1 b2 hek hal
      generalize hW0 : wr.alloc (.cells #[Value.slice Ak e.key.length ck, .int .i64 e.seq, .bool e.dead, Value.slice Au e.val.length cu] 34) = W0 at hev
      have fW0 : fr wr W0 := by rw [← hW0]; exact fr.refl.alloc _
      have F0 : ∀ q : Ext W0, q.w.cell? { block := wr.heap.size, off := 0 } = some (Value.slice Ak e.key.length ck) := fun q => q.cell (by rw [← hW0]; simp [go_sem])
      have F1 : ∀ q : Ext W0, q.w.cell? { block := wr.heap.size, off := 1 } = some (.int .i64 e.seq) := fun q => q.cell (by rw [← hW0]; simp [go_sem])
      have F2 : ∀ q : Ext W0, q.w.cell? { block := wr.heap.size, off := 2 } = some (.bool e.dead) := fun q => q.cell (by rw [← hW0]; simp [go_sem])
      have F3 : ∀ q : Ext W0, q.w.cell? { block := wr.heap.size, off := 3 } = some (Value.slice Au e.val.length cu) := fun q => q.cell (by rw [← hW0]; simp [go_sem])
      have HB := Lib.hid (hbel)
      have HHR := Lib.hid (hr.below hbel)
      have HHE := Lib.hid (he.below hbel)
      have CG : ∀ q : Ext W0, Calls Try.prog 55 #[.agg #[Value.slice Ak e.key.length ck, .int .i64 e.seq, .bool e.dead, Value.slice Au e.val.length cu]] q.w fun r w'' => r = .returned (.bool (goodE e)) ∧ ∃ q' : Ext W0, w'' = q'.w := fun q => Ext.calls (good_any S _ e _ (q.h.ent hev.out))
      go_wp2
      rcases hg : goodE e with _ | _
      · rw [hg] at CG
        have HG := Lib.hid hg
        clear hg
        (refine wp_region_quiet_ext (by kernel_rfl) (by kernel_rfl) ?_; (repeat (go_big_quiet_step ((go_at_call 55; exact CG _)))); refine wpQuiet_nil ?_; intro wq hw'; obtain ⟨⟨_, hq⟩, hw''⟩ := hw'; subst hw'')
        go_wp2
        refine bodyPost_ret (v := .bool _) (by simp [results, Try.results33, go_sem]; rfl) rfl ?_
        refine ⟨ret_bool ?_, HB.out.trans ((fW0.step hq).mono (HB.out.size))⟩
        have := hp.out
        rw [HSTEP.out, HG.out] at this
        rw [this]; rfl
      · rw [hg] at CG
        have HG := Lib.hid hg
        clear hg
        rcases Nat.eq_zero_or_pos k with h0 | h0
        · subst h0
          (refine wp_region_quiet_ext (by kernel_rfl) (by kernel_rfl) ?_; (repeat (go_big_quiet_step ((go_at_call 55; exact CG _)))); refine wpQuiet_nil ?_; intro wq hw'; obtain ⟨⟨_, hq⟩, hw''⟩ := hw'; subst hw'')
          go_wp2
          refine ⟨⟨1, by omega, rfl, ?_, HB.out.trans ((fW0.step hq).mono (HB.out.size))⟩, by simp [intOf]; omega⟩
          rw [hp.out, HSTEP.out, HG.out]
          simp [HX.out]
        · obtain ⟨j, rfl⟩ : ∃ j, k = j + 1 := ⟨k - 1, by omega⟩
          obtain ⟨e', hej⟩ : ∃ e, es[j]? = some e := ⟨_, List.getElem?_eq_getElem (by rw [HN.out]; omega)⟩
          obtain ⟨b', o', kk', uu', hE, d0, d1, d2, d3, b1, b2, _, _⟩ := HHR.out.ent HHE.out HN.out hej
          cases hE
          obtain ⟨Ak', ck', rfl⟩ := slice_form b1
          obtain ⟨Au', cu', rfl⟩ := slice_form b2
          have G0 : ∀ q : Ext W0, q.w.cell? { block := b, off := o + j * 4 } = _ := fun q => q.h.cell (fW0.cell d0)
          have G1 : ∀ q : Ext W0, q.w.cell? { block := b, off := o + j * 4 + 1 } = _ := fun q => q.h.cell (fW0.cell d1)
          have G2 : ∀ q : Ext W0, q.w.cell? { block := b, off := o + j * 4 + 2 } = _ := fun q => q.h.cell (fW0.cell d2)
          have G3 : ∀ q : Ext W0, q.w.cell? { block := b, off := o + j * 4 + 3 } = _ := fun q => q.h.cell (fW0.cell d3)
          have hev' := Lib.hid (fW0.ent (show EntV wr S (.agg #[Value.slice Ak' e'.key.length ck', .int .i64 e'.seq, .bool e'.dead, Value.slice Au' e'.val.length cu']) e' from ⟨_, _, rfl, b1, b2⟩))
          have CC : ∀ q : Ext W0, Calls Try.prog 54 #[.agg #[Value.slice Ak' e'.key.length ck', .int .i64 e'.seq, .bool e'.dead, Value.slice Au' e'.val.length cu'], .agg #[Value.slice Ak e.key.length ck, .int .i64 e.seq, .bool e.dead, Value.slice Au e.val.length cu]] q.w fun r w'' => r = .returned (.int .i64 (cmpE e' e)) ∧ ∃ q' : Ext W0, w'' = q'.w := fun q => Ext.calls (compare_any S S _ _ e' e _ (q.h.ent hev'.out) (q.h.ent hev.out))
          have HJ := Lib.hid (show (if j + 1 = 0 then none else es[j + 1 - 1]?) = some e' by simpa using hej)
          have hd0 : decide ((0:Int) < (j:Int) + 1) = true := by first | (simp; done) | (simp; omega)
          clear hej b1 b2 d0 d1 d2 d3
          rcases hcm : decide (0 ≤ cmpE e' e) with _ | _
          · (refine wp_region_quiet_ext (by kernel_rfl) (by kernel_rfl) ?_; (repeat (go_big_quiet_step (first | (go_at_call 55; exact CG _) | (go_at_call 54; exact CC _)))); refine wpQuiet_nil ?_; intro wq hw'; obtain ⟨⟨_, hq⟩, hw''⟩ := hw'; subst hw'')
            go_wp2
            refine ⟨⟨j + 2, by omega, by go_num, ?_, HB.out.trans ((fW0.step hq).mono (HB.out.size))⟩, by simp [intOf]; omega⟩
            have h2 := of_decide_eq_false hcm
            rw [hp.out, HSTEP.out, HG.out, HJ.out]
            simp [HX.out, show cmpE e' e < 0 by omega]
          · (refine wp_region_quiet_ext (by kernel_rfl) (by kernel_rfl) ?_; (repeat (go_big_quiet_step (first | (go_at_call 55; exact CG _) | (go_at_call 54; exact CC _)))); refine wpQuiet_nil ?_; intro wq hw'; obtain ⟨⟨_, hq⟩, hw''⟩ := hw'; subst hw'')
            go_wp2
            refine bodyPost_ret (v := .bool _) (by simp [results, Try.results33, go_sem]; rfl) rfl ?_
            refine ⟨ret_bool ?_, HB.out.trans ((fW0.step hq).mono (HB.out.size))⟩
            have := hp.out
            have h2 := of_decide_eq_true hcm
            rw [HSTEP.out, HG.out, HJ.out] at this
            rw [this]
            simp [show ¬ cmpE e' e < 0 by omega]
    · go_wp2
      refine bodyPost_ret (v := .bool _) (by simp [results, Try.results33, go_sem]; rfl) rfl ?_
      refine ⟨ret_bool ?_, hbel⟩
      have := hp.out
      rw [List.drop_eq_nil_of_le (by rw [HN.out]; omega)] at this
      rw [this]; cases (if k = 0 then none else es[k - 1]?) <;> rfl
end Go.Proofs.Ytiffgjodbcploaa
end
section
namespace Go.Proofs.Ytiffgjodbcploaa
open Go.RowKit
attribute [local go_sem ↓] Go.wp_at_zero Go.wp_at_succ
set_option maxRecDepth 100000 in
set_option maxHeartbeats 4000000 in
theorem rordered_any (S : Nat → Prop) (v : Value) (es : List Ent) (w : World) (hv : Ents w S v es) :
    Calls Try.prog 7 #[v] w fun r w' => r = .returned (.bool (orderedE es)) ∧ Below w.heap.size w w' := by
  obtain ⟨A, c, cs, rfl, hc, hcm, hl, hr, he⟩ := hv
  obtain ⟨n, hn⟩ : ∃ n, es.length = n := ⟨_, rfl⟩
  rw [hn] at hr hl ⊢
  have HN := Lib.hid hn
  clear hn
  go_enter Try.func7, Try.ntmps7
  go_wp2
  go_loopw [3, 6] (fun _ t wr => ∃ k : Nat, k ≤ n ∧ t = .int .i64 k ∧ orderedE es = orderedFrom (if k = 0 then none else es[k - 1]?) (es.drop k) ∧ Below w.heap.size w wr) (fun _ t _ => n - (intOf t).toNat)
  case atStart => exact ⟨0, by omega, rfl, rfl, Below.refl _ _⟩
  case round =>
    obtain ⟨k, hk, rfl, hpre, hbel⟩ := hrel
    have hp := Lib.hid hpre
    clear hpre
    by_cases hkn : k < n
    · obtain ⟨e, hek⟩ : ∃ e, es[k]? = some e := ⟨_, List.getElem?_eq_getElem (by rw [HN.out]; exact hkn)⟩
      obtain ⟨b, o, kk, uu, rfl, c0, c1, c2, c3, b1, b2, hblt, _⟩ := (hr.below hbel).ent (he.below hbel) HN.out hek
      have hev := Lib.hid (show EntV wr S (.agg #[kk, .int .i64 e.seq, .bool e.dead, uu]) e from ⟨_, _, rfl, b1, b2⟩)
      have HSTEP := Lib.hid (orderedFrom_step es k e hek (if k = 0 then none else es[k - 1]?))
      have HX := Lib.hid hek
      obtain ⟨Ak, ck, rfl⟩ := slice_form b1
      obtain ⟨Au, cu, rfl⟩ := slice_form b2
      clear b1 b2 hek
      have fW0 : fr wr wr := fr.refl
      have F0 : ∀ q : Ext wr, q.w.cell? { block := b, off := o + k * 4 } = _ := fun q => q.h.cell (fW0.cell c0)
      have F1 : ∀ q : Ext wr, q.w.cell? { block := b, off := o + k * 4 + 1 } = _ := fun q => q.h.cell (fW0.cell c1)
      have F2 : ∀ q : Ext wr, q.w.cell? { block := b, off := o + k * 4 + 2 } = _ := fun q => q.h.cell (fW0.cell c2)
      have F3 : ∀ q : Ext wr, q.w.cell? { block := b, off := o + k * 4 + 3 } = _ := fun q => q.h.cell (fW0.cell c3)
      have HB := Lib.hid (hbel)
      have HHR := Lib.hid (hr.below hbel)
      have HHE := Lib.hid (he.below hbel)
      have CG : ∀ q : Ext wr, Calls Try.prog 24 #[.agg #[Value.slice Ak e.key.length ck, .int .i64 e.seq, .bool e.dead, Value.slice Au e.val.length cu]] q.w fun r w'' => r = .returned (.bool (goodE e)) ∧ ∃ q' : Ext wr, w'' = q'.w := fun q => Ext.calls (rgood_any S _ e _ (q.h.ent hev.out))
      go_wp2
      rcases hg : goodE e with _ | _
      · rw [hg] at CG
        have HG := Lib.hid hg
        clear hg
        (refine wp_region_quiet_ext (by kernel_rfl) (by kernel_rfl) ?_; (repeat (go_big_quiet_step ((go_at_call 24; exact CG _)))); refine wpQuiet_nil ?_; intro wq hw'; obtain ⟨⟨_, hq⟩, hw''⟩ := hw'; subst hw'')
        go_wp2
        refine bodyPost_ret (v := .bool _) (by simp [results, Try.results7, go_sem]; rfl) rfl ?_
        refine ⟨ret_bool ?_, HB.out.trans ((fW0.step hq).mono (HB.out.size))⟩
        have := hp.out
        rw [HSTEP.out, HG.out] at this
        rw [this]; rfl
      · rw [hg] at CG
        have HG := Lib.hid hg
        clear hg
        rcases Nat.eq_zero_or_pos k with h0 | h0
        · subst h0
          simp only [Nat.zero_mul, Nat.add_zero] at F0 F1 F2 F3
          (refine wp_region_quiet_ext (by kernel_rfl) (by kernel_rfl) ?_; (repeat (go_big_quiet_step ((go_at_call 24; exact CG _)))); refine wpQuiet_nil ?_; intro wq hw'; obtain ⟨⟨_, hq⟩, hw''⟩ := hw'; subst hw'')
          go_wp2
          refine ⟨⟨1, by omega, rfl, ?_, HB.out.trans ((fW0.step hq).mono (HB.out.size))⟩, by simp [intOf]; omega⟩
          rw [hp.out, HSTEP.out, HG.out]
          simp [HX.out]
        · obtain ⟨j, rfl⟩ : ∃ j, k = j + 1 := ⟨k - 1, by omega⟩
          obtain ⟨e', hej⟩ : ∃ e, es[j]? = some e := ⟨_, List.getElem?_eq_getElem (by rw [HN.out]; omega)⟩
          obtain ⟨b', o', kk', uu', hE, d0, d1, d2, d3, b1, b2, _, _⟩ := HHR.out.ent HHE.out HN.out hej
          cases hE
          obtain ⟨Ak', ck', rfl⟩ := slice_form b1
          obtain ⟨Au', cu', rfl⟩ := slice_form b2
          have G0 : ∀ q : Ext wr, q.w.cell? { block := b, off := o + j * 4 } = _ := fun q => q.h.cell (fW0.cell d0)
          have G1 : ∀ q : Ext wr, q.w.cell? { block := b, off := o + j * 4 + 1 } = _ := fun q => q.h.cell (fW0.cell d1)
          have G2 : ∀ q : Ext wr, q.w.cell? { block := b, off := o + j * 4 + 2 } = _ := fun q => q.h.cell (fW0.cell d2)
          have G3 : ∀ q : Ext wr, q.w.cell? { block := b, off := o + j * 4 + 3 } = _ := fun q => q.h.cell (fW0.cell d3)
          have hev' := Lib.hid (fW0.ent (show EntV wr S (.agg #[Value.slice Ak' e'.key.length ck', .int .i64 e'.seq, .bool e'.dead, Value.slice Au' e'.val.length cu']) e' from ⟨_, _, rfl, b1, b2⟩))
          have CC : ∀ q : Ext wr, Calls Try.prog 25 #[.agg #[Value.slice Ak' e'.key.length ck', .int .i64 e'.seq, .bool e'.dead, Value.slice Au' e'.val.length cu'], .agg #[Value.slice Ak e.key.length ck, .int .i64 e.seq, .bool e.dead, Value.slice Au e.val.length cu]] q.w fun r w'' => r = .returned (.int .i64 (cmpE e' e)) ∧ ∃ q' : Ext wr, w'' = q'.w := fun q => Ext.calls (rcmp_any S S _ _ e' e _ (q.h.ent hev'.out) (q.h.ent hev.out))
          have HJ := Lib.hid (show (if j + 1 = 0 then none else es[j + 1 - 1]?) = some e' by simpa using hej)
          have hd0 : decide ((0:Int) < (j:Int) + 1) = true := by first | (simp; done) | (simp; omega)
          clear hej b1 b2 d0 d1 d2 d3
          rcases hcm : decide (0 ≤ cmpE e' e) with _ | _
          · (refine wp_region_quiet_ext (by kernel_rfl) (by kernel_rfl) ?_; (repeat (go_big_quiet_step (first | (go_at_call 24; exact CG _) | (go_at_call 25; exact CC _)))); refine wpQuiet_nil ?_; intro wq hw'; obtain ⟨⟨_, hq⟩, hw''⟩ := hw'; subst hw'')
            go_wp2
            refine ⟨⟨j + 2, by omega, by go_num, ?_, HB.out.trans ((fW0.step hq).mono (HB.out.size))⟩, by simp [intOf]; omega⟩
            have h2 := of_decide_eq_false hcm
            rw [hp.out, HSTEP.out, HG.out, HJ.out]
            simp [HX.out, show cmpE e' e < 0 by omega]
          · (refine wp_region_quiet_ext (by kernel_rfl) (by kernel_rfl) ?_; (repeat (go_big_quiet_step (first | (go_at_call 24; exact CG _) | (go_at_call 25; exact CC _)))); refine wpQuiet_nil ?_; intro wq hw'; obtain ⟨⟨_, hq⟩, hw''⟩ := hw'; subst hw'')
            go_wp2
            refine bodyPost_ret (v := .bool _) (by simp [results, Try.results7, go_sem]; rfl) rfl ?_
            refine ⟨ret_bool ?_, HB.out.trans ((fW0.step hq).mono (HB.out.size))⟩
            have := hp.out
            have h2 := of_decide_eq_true hcm
            rw [HSTEP.out, HG.out, HJ.out] at this
            rw [this]
            simp [show ¬ cmpE e' e < 0 by omega]
    · go_wp2
      refine bodyPost_ret (v := .bool _) (by simp [results, Try.results7, go_sem]; rfl) rfl ?_
      refine ⟨ret_bool ?_, hbel⟩
      have := hp.out
      rw [List.drop_eq_nil_of_le (by rw [HN.out]; omega)] at this
      rw [this]; cases (if k = 0 then none else es[k - 1]?) <;> rfl
end Go.Proofs.Ytiffgjodbcploaa
end
section
namespace Go.Proofs.Ytiffgjodbcploaa
open Go.RowKit Go.BigFrame
attribute [local go_sem ↓] Go.wp_at_zero Go.wp_at_succ
structure Pr where
  key : List UInt8
  val : List UInt8
deriving DecidableEq
theorem info65 : (Try.prog.info? 85).map (fun i => (i.zero, i.size, i.bytes)) = some (some (.agg #[.slice none 0 0, .slice none 0 0]), 2, 48) := by kernel_rfl
def PrCells (w : World) (S : Nat → Prop) : List Value → List Pr → Prop
  | [], [] => True
  | k :: u :: cs, e :: es => Byt w S k e.key ∧ Byt w S u e.val ∧ PrCells w S cs es
  | _, _ => False
theorem PrCells.cons_inv {w : World} {S : Nat → Prop} {cs : List Value} {e : Pr} {es : List Pr} (h : PrCells w S cs (e :: es)) :
    ∃ k u cs', cs = k :: u :: cs' ∧ Byt w S k e.key ∧ Byt w S u e.val ∧ PrCells w S cs' es := by
  match cs, h with
  | k :: u :: cs', h =>
    obtain ⟨h1, h2, h3⟩ := h
    exact ⟨k, u, cs', rfl, h1, h2, h3⟩
theorem PrCells.nil_inv {w : World} {S : Nat → Prop} {cs : List Value} (h : PrCells w S cs []) : cs = [] := by
  cases cs with
  | nil => rfl
  | cons x l => simp [PrCells] at h
theorem PrCells.append {w : World} {S : Nat → Prop} {cs cs' : List Value} {es es' : List Pr} (h : PrCells w S cs es) (h' : PrCells w S cs' es') : PrCells w S (cs ++ cs') (es ++ es') := by
  induction es generalizing cs with
  | nil => rw [h.nil_inv]; exact h'
  | cons e es ih =>
    obtain ⟨k, u, cs1, rfl, h1, h2, h3⟩ := h.cons_inv
    exact ⟨h1, h2, ih h3⟩
theorem PrCells.one {w : World} {S : Nat → Prop} {k u : Value} {e : Pr} (h1 : Byt w S k e.key) (h2 : Byt w S u e.val) : PrCells w S [k, u] [e] := ⟨h1, h2, trivial⟩
theorem PrCells.imp {w w' : World} {S S' : Nat → Prop} {cs : List Value} {es : List Pr} (h : PrCells w S cs es) (hi : ∀ v bs, Byt w S v bs → Byt w' S' v bs) : PrCells w' S' cs es := by
  induction es generalizing cs with
  | nil => rw [h.nil_inv]; trivial
  | cons e es ih =>
    obtain ⟨k, u, cs1, rfl, h1, h2, h3⟩ := h.cons_inv
    exact ⟨hi _ _ h1, hi _ _ h2, ih h3⟩
theorem PrCells.below {w w' : World} {S : Nat → Prop} {cs : List Value} {es : List Pr} (h : PrCells w S cs es) (hb : Below w.heap.size w w') : PrCells w' S cs es := h.imp fun _ _ h => h.below hb
theorem PrCells.only {w w' : World} {T S : Nat → Prop} {cs : List Value} {es : List Pr} (h : PrCells w T cs es) (ho : Only S w w') (hd : ∀ i, i < w.heap.size → T i → ¬ S i) : PrCells w' T cs es := h.imp fun _ _ h => h.only ho hd
theorem PrCells.mono {w : World} {S S' : Nat → Prop} {cs : List Value} {es : List Pr} (h : PrCells w S cs es) (hS : ∀ i, S i → S' i) : PrCells w S' cs es := h.imp fun _ _ h => h.mono hS
theorem PrCells.at_ {w : World} {S : Nat → Prop} {cs : List Value} {es : List Pr} (h : PrCells w S cs es) {i : Nat} {e : Pr} (hi : es[i]? = some e) :
    ∃ k u, cs[2 * i]? = some k ∧ cs[2 * i + 1]? = some u ∧ Byt w S k e.key ∧ Byt w S u e.val := by
  induction es generalizing cs i with
  | nil => simp at hi
  | cons e' es ih =>
    obtain ⟨k, u, cs1, rfl, h1, h2, h3⟩ := h.cons_inv
    cases i with
    | zero =>
      simp at hi
      subst hi
      exact ⟨k, u, rfl, rfl, h1, h2⟩
    | succ i =>
      obtain ⟨k', u', a1, a4, a5, a6⟩ := ih h3 (i := i) (by simpa using hi)
      refine ⟨k', u', ?_, ?_, a5, a6⟩
      · rw [show 2 * (i + 1) = 2 * i + 2 from by omega]; simpa using a1
      · rw [show 2 * (i + 1) + 1 = (2 * i + 1) + 2 from by omega]; simpa using a4
/-- a slice value of pairs. -/
def Prs (w : World) (S : Nat → Prop) (v : Value) (es : List Pr) : Prop :=
  ∃ A c cs, v = .slice A es.length c ∧ es.length ≤ c ∧ c ≤ 9223372036854775807 ∧ es.length * 48 ≤ 140737488355328 ∧ Row w S A es.length 2 cs ∧ PrCells w S cs es
theorem Prs.nil (w : World) (S : Nat → Prop) : Prs w S (.slice none 0 0) [] := ⟨none, 0, [], rfl, by simp, by simp, by simp, Row.nil _ _ _ _, trivial⟩
theorem Prs.below {w w' : World} {S : Nat → Prop} {v : Value} {es : List Pr} (h : Prs w S v es) (hb : Below w.heap.size w w') : Prs w' S v es := by
  obtain ⟨A, c, cs, e, h1, h2, h3, h4, h5⟩ := h
  exact ⟨A, c, cs, e, h1, h2, h3, h4.below hb, h5.below hb⟩
theorem Prs.only {w w' : World} {T S : Nat → Prop} {v : Value} {es : List Pr} (h : Prs w T v es) (ho : Only S w w') (hd : ∀ i, i < w.heap.size → T i → ¬ S i) : Prs w' T v es := by
  obtain ⟨A, c, cs, e, h1, h2, h3, h4, h5⟩ := h
  exact ⟨A, c, cs, e, h1, h2, h3, h4.only ho hd, h5.only ho hd⟩
theorem Prs.mono {w : World} {S S' : Nat → Prop} {v : Value} {es : List Pr} (h : Prs w S v es) (hS : ∀ i, S i → S' i) : Prs w S' v es := by
  obtain ⟨A, c, cs, e, h1, h2, h3, h4, h5⟩ := h
  exact ⟨A, c, cs, e, h1, h2, h3, h4.mono hS, h5.mono hS⟩
theorem Row.pr {w : World} {S : Nat → Prop} {A : Option Addr} {n : Nat} {cs : List Value} {es : List Pr} (h : Row w S A n 2 cs) (he : PrCells w S cs es) (hn : es.length = n) {i : Nat} {e : Pr} (hi : es[i]? = some e) :
    ∃ b o k u, A = some ⟨b, o, none⟩ ∧ w.cell? ⟨b, o + i * 2, none⟩ = some k ∧ w.cell? ⟨b, o + i * 2 + 1, none⟩ = some u ∧ Byt w S k e.key ∧ Byt w S u e.val ∧ b < w.heap.size ∧ S b := by
  have hl : i < es.length := (List.getElem?_eq_some_iff.1 hi).1
  obtain ⟨b, o, rfl, hS, hb, hc⟩ := h.2 (by omega)
  obtain ⟨k, u, a1, a4, a5, a6⟩ := he.at_ hi
  refine ⟨b, o, k, u, rfl, ?_, ?_, a5, a6, hb, hS⟩
  · have := hc _ _ a1; rwa [show o + 2 * i = o + i * 2 from by omega] at this
  · have := hc _ _ a4; rwa [show o + (2 * i + 1) = o + i * 2 + 1 from by omega] at this
theorem Prs.of_own {w : World} {S : Nat → Prop} {base : Nat} {e : TypeId} {v : Value} {cs : List Value} {es : List Pr} (h : w.ownsRow base e 2 v es.length cs) (hc : PrCells w S cs es) (hS : ∀ i, base ≤ i → i < w.heap.size → S i)
    (hl : es.length * 48 ≤ 140737488355328) : Prs w S v es := by
  rcases h.2 with ⟨rfl, h0⟩ | ⟨g, cap, cur, rfl, hbg, hh, hcap, hcm, _⟩
  · have : es = [] := List.eq_nil_of_length_eq_zero h0
    subst this
    exact Prs.nil _ _
  · have hlt : g < w.heap.size := by
      rcases Nat.lt_or_ge g w.heap.size with h1 | h1
      · exact h1
      · rw [Array.getElem?_eq_none h1] at hh; cases hh
    refine ⟨_, _, cs, rfl, hcap, by unfold maxLen at hcm; omega, hl, ⟨h.1, fun _ => ⟨g, 0, rfl, hS _ hbg hlt, hlt, fun j u hu => ?_⟩⟩, hc⟩
    have := h.cells (g := g) rfl j u hu
    rwa [Addr.add_lit] at this
end Go.Proofs.Ytiffgjodbcploaa
end
section
namespace Go.Proofs.Ytiffgjodbcploaa
open Go.RowKit Go.BigFrame
attribute [local go_sem ↓] Go.wp_at_zero Go.wp_at_succ
set_option maxRecDepth 100000 in
set_option maxHeartbeats 1000000 in
theorem long_any (A B : Option Addr) (n c m d : Nat) (w : World) (hn : n ≤ 200) (hm : m ≤ 4096) :
    Calls Try.prog 62 #[.agg #[.slice A n c, .slice B m d]] w fun r w' => r = .returned (.bool false) ∧ fr w w' := by
  have h1 : ¬ (200 : Int) < (n : Int) := by omega
  have h2 : ¬ (4096 : Int) < (m : Int) := by omega
  go_enter Try.func62, Try.ntmps62
  go_wp2
  refine bodyPost_ret (v := .bool false) (by simp [results, Try.results62, go_sem]) rfl ?_
  exact ⟨rfl, fr.alloc fr.refl _⟩
/-- no pair is too long. -/
def Short (ps : List Pr) : Prop := ∀ p ∈ ps, p.key.length ≤ 200 ∧ p.val.length ≤ 4096
set_option maxRecDepth 100000 in
set_option maxHeartbeats 1000000 in
theorem pidx_any (S : Nat → Prop) (v : Value) (ps : List Pr) (w : World) (hv : Prs w S v ps) (hs : Short ps) :
    Calls Try.prog 80 #[v, .func (.func 62) #[] #[]] w fun r w' => r = .returned (.int .i64 (-1)) ∧ fr w w' := by
  have eg : ∀ args w, (callFunc 62 args).run Try.prog w = .ok (.enter 62 args) w := fun args w => by kernel_rfl
  obtain ⟨A, c, cs, rfl, hc, hcm, hl, hr, he⟩ := hv
  obtain ⟨n, hn⟩ : ∃ n, ps.length = n := ⟨_, rfl⟩
  rw [hn] at hr hl hc ⊢
  have HN := Lib.hid hn
  have HE := Lib.hid he
  have HR := Lib.hid hr
  have HSH := Lib.hid hs
  clear hn he hr hs
  go_enter Try.func80, Try.ntmps80
  go_wp2
  go_loopw [8] (fun t wr => ∃ i : Nat, i ≤ n ∧ t = .int .i64 i ∧ fr w wr) (fun t _ => n - (intOf t).toNat)
  case atStart => exact ⟨0, Nat.zero_le _, rfl, fr.refl⟩
  case round =>
    obtain ⟨i, hi, rfl, hf⟩ := hrel
    have HF := Lib.hid hf
    clear hf
    by_cases hin : i < n
    · obtain ⟨p, hp⟩ : ∃ p, ps[i]? = some p := ⟨_, List.getElem?_eq_getElem (by rw [HN.out]; exact hin)⟩
      obtain ⟨b, o, k, u, rfl, x0, x1, q0, q1, _⟩ := (HR.out.below HF.out).pr (HE.out.below HF.out) HN.out hp
      obtain ⟨Ak, ck, rfl⟩ := slice_form q0
      obtain ⟨Au, cu, rfl⟩ := slice_form q1
      obtain ⟨h1, h2⟩ := HSH.out p (List.mem_of_getElem? hp)
      obtain ⟨nk, hnk⟩ : ∃ k, p.key.length = k := ⟨_, rfl⟩
      obtain ⟨nu, hnu⟩ : ∃ k, p.val.length = k := ⟨_, rfl⟩
      rw [hnk] at h1 x0
      rw [hnu] at h2 x1
      have HC := Lib.hid (long_any Ak Au nk ck nu cu wr h1 h2)
      clear q0 q1 h1 h2 hnk hnu hp
      go_wp2_with (go_at_fn 62; refine HC.out.mono ?_; rintro r w2 ⟨rfl, f2⟩)
      exact ⟨⟨i + 1, by omega, by go_num, fr.step HF.out f2⟩, by simp [intOf]; omega⟩
    · obtain rfl : i = n := by omega
      go_wp2
      refine bodyPost_ret (v := .int .i64 (-1)) (by simp [results, Try.results80, go_sem]) rfl ?_
      exact ⟨rfl, HF.out⟩
set_option maxRecDepth 100000 in
set_option maxHeartbeats 1000000 in
theorem pcontains_any (S : Nat → Prop) (A : Option Addr) (n c : Nat) (ps : List Pr) (w : World) (hv : Prs w S (.slice A n c) ps) (hs : Short ps) :
    Calls Try.prog 63 #[.slice A n c, .func (.func 62) #[] #[]] w fun r w' => r = .returned (.bool false) ∧ fr w w' := by
  have HC := Lib.hid (pidx_any S _ ps w hv hs)
  clear hv
  go_enter Try.func63, Try.ntmps63
  go_wp2_with (go_at_call 80; refine HC.out.mono ?_; rintro r w2 ⟨rfl, f2⟩)
  refine bodyPost_ret (v := .bool false) (by simp [results, Try.results63, go_sem]) rfl ?_
  exact ⟨rfl, f2⟩
end Go.Proofs.Ytiffgjodbcploaa
end
section
namespace Go.Proofs.Ytiffgjodbcploaa
open Go.RowKit Go.BigFrame
attribute [local go_sem ↓] Go.wp_at_zero Go.wp_at_succ
set_option maxRecDepth 100000 in
set_option maxHeartbeats 1000000 in
theorem bclip_any (lo : Nat) (A : Option Addr) (n c : Nat) (bs : List UInt8) (w : World) (hv : OwnF w lo (.slice A n c) bs) (hn : bs.length = n) :
    Calls Try.prog 65 #[.slice A n c] w fun r w' => r = .returned (.slice A n n) ∧ OwnF w' lo (.slice A n n) bs ∧ w' = w := by
  obtain ⟨A', c', hE, h1, h2, h3, h4⟩ := hv
  injection hE with e1 e2 e3
  subst e1 e3
  have hnc : n ≤ c := by omega
  have HO : Hid (OwnF w lo (.slice A n n) bs) := Lib.hid ⟨A, n, by rw [hn], by omega, by omega, h3, by
    rcases h4 with rfl | ⟨g, cur, rfl, hg, hh, hcs, ht⟩
    · exact .inl (by omega)
    · exact .inr ⟨g, cur, rfl, hg, hh, by omega, ht⟩⟩
  clear h4 e2 h1 h3 hn
  rcases A with _ | ⟨b, o, sp⟩
  · go_enter Try.func65, Try.ntmps65
    go_wp2
    refine bodyPost_ret (v := .slice none n n) (by simp [results, Try.results65, go_sem]) rfl ?_
    exact ⟨rfl, HO.out, rfl⟩
  · go_enter Try.func65, Try.ntmps65
    go_wp2
    refine bodyPost_ret (v := .slice (some ⟨b, o, sp⟩) n n) (by simp [results, Try.results65, go_sem]) rfl ?_
    exact ⟨rfl, HO.out, rfl⟩
/-- one pair, packed behind a key. -/
def oneP (a : List UInt8) (p : Pr) : List UInt8 :=
  formN (sharedN a p.key) ++ formN (p.key.length - sharedN a p.key) ++ formN p.val.length ++ p.key.drop (sharedN a p.key) ++ p.val
def buildGo : List UInt8 → List Pr → List UInt8
  | _, [] => []
  | a, p :: ps => oneP a p ++ buildGo p.key ps
/-- keys that ascend from one on. -/
def Asc : List UInt8 → List Pr → Prop
  | _, [] => True
  | a, p :: ps => cmpB a p.key < 0 ∧ Asc p.key ps
theorem shared_lt : ∀ {a b : List UInt8}, cmpB a b < 0 → sharedN a b < b.length
  | [], [], h => by simp [cmpB] at h
  | [], y :: ys, _ => by simp [sharedN]
  | x :: xs, [], h => by simp [cmpB] at h
  | x :: xs, y :: ys, h => by
    unfold sharedN
    split
    · rename_i he
      subst he
      have h' : cmpB xs ys < 0 := by simpa [cmpB] using h
      have := shared_lt h'
      simp only [List.length_cons]
      omega
    · simp
theorem oneP_len {a : List UInt8} {p : Pr} (h : p.key.length ≤ 200 ∧ p.val.length ≤ 4096) : (oneP a p).length ≤ 4400 := by
  unfold oneP
  have h1 := (formN_len (sharedN a p.key)).2
  have h2 := (formN_len (p.key.length - sharedN a p.key)).2
  have h3 := (formN_len p.val.length).2
  simp only [List.length_append, List.length_drop]
  omega
theorem step_ownB {w : World} {ops : Array Oper} {o : Oper} {a : Act} {K : Act → World → Prop} {Q : Exit → Act → World → Prop} {E : Prop} (hgd : o.guard = none) (s x : Operand)
    (ho : o.op = .call { callee := .builtin .append, args := #[s, x], argTypes := #[23, 23] }) (lo : Nat) (v src : Value) (hs : a.eval s = v) (hx : a.eval x = src)
    (S : Nat → Prop) (bs cs : List UInt8) (hown : OwnF w lo v bs) (h : Byt w S src cs) (hl : bs.length + cs.length ≤ 140737488355328) (hnew : lo ≤ w.heap.size)
    (hK : ∀ A c w', OwnF w' lo (.slice A (bs ++ cs).length c) (bs ++ cs) → Below lo w w' → K (a.put o.dst (.slice A (bs ++ cs).length c)) w') :
    if Region.wanted o (yielded ops a.tmps) = true then Oper.wp Try.prog o a w K Q else E := by
  have hw : Region.wanted o (yielded ops a.tmps) = true := by simp [Region.wanted, hgd]
  rw [if_pos hw]
  obtain ⟨v', w', hrun, h2, h3, _⟩ := run_append_ownB w (fun i => lo ≤ i) (fun i => lo ≤ i) o.type v src S bs cs hown h hl (fun _ h => h) hnew
  obtain ⟨A, c, rfl⟩ := h2.form
  unfold Oper.wp execOp
  simp only [ho, resolve, invoke, builtin, Sem.run_bind, Sem.run_pure, Result.andThen_ok, List.map_toArray, List.map_cons, List.map_nil, hs, hx, hrun]
  exact hK A c w' h2 (RowKit.Below.grown (B := lo) (Below.refl _ _) h3 hnew (fun j e => (hown.blk e).1))
end Go.Proofs.Ytiffgjodbcploaa
end
