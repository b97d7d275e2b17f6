/-
usanceref10.Ordered.
-/
import Derived.Test.YtelbidknefkaiaaOrd
namespace Go.Proofs.Ytelbidknefkaiaa
open Go.RowKit
attribute [local go_sem ↓] Go.wp_at_zero Go.wp_at_succ

set_option maxRecDepth 100000 in
set_option maxHeartbeats 4000000 in
theorem rordered_any (S : Nat → Prop) (v : Value) (es : List Ent) (w : World) (hv : Ents w S v es) :
    Calls Try.prog 31 #[v] w fun r w' => r = .returned (.bool (orderedE es)) ∧ Below w.heap.size w w' := by
  obtain ⟨A, c, cs, rfl, hc, hcm, hl, hr, he⟩ := hv
  obtain ⟨n, hn⟩ : ∃ n, es.length = n := ⟨_, rfl⟩
  rw [hn] at hr hl ⊢
  have HN := Lib.hid hn
  clear hn
  go_enter Try.func31, Try.ntmps31
  go_wp2
  go_loopw [3, 6] (fun _ t wr => ∃ k : Nat, k ≤ n ∧ t = .int .i64 k ∧ orderedE es = orderedFrom (if k = 0 then none else es[k - 1]?) (es.drop k) ∧ Below w.heap.size w wr) (fun _ t _ => n - (intOf t).toNat)
  case atStart => exact ⟨0, by omega, rfl, rfl, Below.refl _ _⟩
  case round =>
    obtain ⟨k, hk, rfl, hpre, hbel⟩ := hrel
    have hp := Lib.hid hpre
    clear hpre
    by_cases hkn : k < n
    · obtain ⟨e, hek⟩ : ∃ e, es[k]? = some e := ⟨_, List.getElem?_eq_getElem (by rw [HN.out]; exact hkn)⟩
      obtain ⟨b, o, kk, uu, rfl, c0, c1, c2, c3, b1, b2, hblt, _⟩ := (hr.below hbel).ent (he.below hbel) HN.out hek
      have hev := Lib.hid (show EntV wr S (.agg #[kk, .int .i64 e.seq, .bool e.dead, uu]) e from ⟨_, _, rfl, b1, b2⟩)
      have HSTEP := Lib.hid (orderedFrom_step es k e hek (if k = 0 then none else es[k - 1]?))
      have HX := Lib.hid hek
      obtain ⟨Ak, ck, rfl⟩ := slice_form b1
      obtain ⟨Au, cu, rfl⟩ := slice_form b2
      clear b1 b2 hek
      have fW0 : fr wr wr := fr.refl
      have F0 : ∀ q : Ext wr, q.w.cell? { block := b, off := o + k * 4 } = _ := fun q => q.h.cell (fW0.cell c0)
      have F1 : ∀ q : Ext wr, q.w.cell? { block := b, off := o + k * 4 + 1 } = _ := fun q => q.h.cell (fW0.cell c1)
      have F2 : ∀ q : Ext wr, q.w.cell? { block := b, off := o + k * 4 + 2 } = _ := fun q => q.h.cell (fW0.cell c2)
      have F3 : ∀ q : Ext wr, q.w.cell? { block := b, off := o + k * 4 + 3 } = _ := fun q => q.h.cell (fW0.cell c3)
      have HB := Lib.hid (hbel)
      have HHR := Lib.hid (hr.below hbel)
      have HHE := Lib.hid (he.below hbel)
      have CG : ∀ q : Ext wr, Calls Try.prog 47 #[.agg #[Value.slice Ak e.key.length ck, .int .i64 e.seq, .bool e.dead, Value.slice Au e.val.length cu]] q.w fun r w'' => r = .returned (.bool (goodE e)) ∧ ∃ q' : Ext wr, w'' = q'.w := fun q => Ext.calls (rgood_any S _ e _ (q.h.ent hev.out))
      go_wp2
      rcases hg : goodE e with _ | _
      · rw [hg] at CG
        have HG := Lib.hid hg
        clear hg
        (refine wp_region_quiet_ext (by kernel_rfl) (by kernel_rfl) ?_; (repeat (go_big_quiet_step ((go_at_call 47; exact CG _)))); refine wpQuiet_nil ?_; intro wq hw'; obtain ⟨⟨_, hq⟩, hw''⟩ := hw'; subst hw'')
        go_wp2
        refine bodyPost_ret (v := .bool _) (by simp [results, Try.results31, go_sem]; rfl) rfl ?_
        refine ⟨ret_bool ?_, HB.out.trans ((fW0.step hq).mono (HB.out.size))⟩
        have := hp.out
        rw [HSTEP.out, HG.out] at this
        rw [this]; rfl
      · rw [hg] at CG
        have HG := Lib.hid hg
        clear hg
        rcases Nat.eq_zero_or_pos k with h0 | h0
        · subst h0
          simp only [Nat.zero_mul, Nat.add_zero] at F0 F1 F2 F3
          (refine wp_region_quiet_ext (by kernel_rfl) (by kernel_rfl) ?_; (repeat (go_big_quiet_step ((go_at_call 47; exact CG _)))); refine wpQuiet_nil ?_; intro wq hw'; obtain ⟨⟨_, hq⟩, hw''⟩ := hw'; subst hw'')
          go_wp2
          refine ⟨⟨1, by omega, rfl, ?_, HB.out.trans ((fW0.step hq).mono (HB.out.size))⟩, by simp [intOf]; omega⟩
          rw [hp.out, HSTEP.out, HG.out]
          simp [HX.out]
        · obtain ⟨j, rfl⟩ : ∃ j, k = j + 1 := ⟨k - 1, by omega⟩
          obtain ⟨e', hej⟩ : ∃ e, es[j]? = some e := ⟨_, List.getElem?_eq_getElem (by rw [HN.out]; omega)⟩
          obtain ⟨b', o', kk', uu', hE, d0, d1, d2, d3, b1, b2, _, _⟩ := HHR.out.ent HHE.out HN.out hej
          cases hE
          obtain ⟨Ak', ck', rfl⟩ := slice_form b1
          obtain ⟨Au', cu', rfl⟩ := slice_form b2
          have G0 : ∀ q : Ext wr, q.w.cell? { block := b, off := o + j * 4 } = _ := fun q => q.h.cell (fW0.cell d0)
          have G1 : ∀ q : Ext wr, q.w.cell? { block := b, off := o + j * 4 + 1 } = _ := fun q => q.h.cell (fW0.cell d1)
          have G2 : ∀ q : Ext wr, q.w.cell? { block := b, off := o + j * 4 + 2 } = _ := fun q => q.h.cell (fW0.cell d2)
          have G3 : ∀ q : Ext wr, q.w.cell? { block := b, off := o + j * 4 + 3 } = _ := fun q => q.h.cell (fW0.cell d3)
          have hev' := Lib.hid (fW0.ent (show EntV wr S (.agg #[Value.slice Ak' e'.key.length ck', .int .i64 e'.seq, .bool e'.dead, Value.slice Au' e'.val.length cu']) e' from ⟨_, _, rfl, b1, b2⟩))
          have CC : ∀ q : Ext wr, Calls Try.prog 41 #[.agg #[Value.slice Ak' e'.key.length ck', .int .i64 e'.seq, .bool e'.dead, Value.slice Au' e'.val.length cu'], .agg #[Value.slice Ak e.key.length ck, .int .i64 e.seq, .bool e.dead, Value.slice Au e.val.length cu]] q.w fun r w'' => r = .returned (.int .i64 (cmpE e' e)) ∧ ∃ q' : Ext wr, w'' = q'.w := fun q => Ext.calls (rcmp_any S S _ _ e' e _ (q.h.ent hev'.out) (q.h.ent hev.out))
          have HJ := Lib.hid (show (if j + 1 = 0 then none else es[j + 1 - 1]?) = some e' by simpa using hej)
          have hd0 : decide ((0:Int) < (j:Int) + 1) = true := by first | (simp; done) | (simp; omega)
          clear hej b1 b2 d0 d1 d2 d3
          rcases hcm : decide (0 ≤ cmpE e' e) with _ | _
          · (refine wp_region_quiet_ext (by kernel_rfl) (by kernel_rfl) ?_; (repeat (go_big_quiet_step (first | (go_at_call 47; exact CG _) | (go_at_call 41; exact CC _)))); refine wpQuiet_nil ?_; intro wq hw'; obtain ⟨⟨_, hq⟩, hw''⟩ := hw'; subst hw'')
            go_wp2
            refine ⟨⟨j + 2, by omega, by go_num, ?_, HB.out.trans ((fW0.step hq).mono (HB.out.size))⟩, by simp [intOf]; omega⟩
            have h2 := of_decide_eq_false hcm
            rw [hp.out, HSTEP.out, HG.out, HJ.out]
            simp [HX.out, show cmpE e' e < 0 by omega]
          · (refine wp_region_quiet_ext (by kernel_rfl) (by kernel_rfl) ?_; (repeat (go_big_quiet_step (first | (go_at_call 47; exact CG _) | (go_at_call 41; exact CC _)))); refine wpQuiet_nil ?_; intro wq hw'; obtain ⟨⟨_, hq⟩, hw''⟩ := hw'; subst hw'')
            go_wp2
            refine bodyPost_ret (v := .bool _) (by simp [results, Try.results31, go_sem]; rfl) rfl ?_
            refine ⟨ret_bool ?_, HB.out.trans ((fW0.step hq).mono (HB.out.size))⟩
            have := hp.out
            have h2 := of_decide_eq_true hcm
            rw [HSTEP.out, HG.out, HJ.out] at this
            rw [this]
            simp [show ¬ cmpE e' e < 0 by omega]
    · go_wp2
      refine bodyPost_ret (v := .bool _) (by simp [results, Try.results31, go_sem]; rfl) rfl ?_
      refine ⟨ret_bool ?_, hbel⟩
      have := hp.out
      rw [List.drop_eq_nil_of_le (by rw [HN.out]; omega)] at this
      rw [this]; cases (if k = 0 then none else es[k - 1]?) <;> rfl
