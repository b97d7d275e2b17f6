/-
bytes.Equal, merge.Thin.
-/
import Derived.BigQuiet
import Derived.Test.YtelbidknefkaiaaQPMemOwn2
section
namespace Go.Proofs.Ytelbidknefkaiaa
open Go.RowKit Go.BigFrame
/-- a frame by name: all that was there stands. -/
def fr (W w' : World) : Prop := Below W.heap.size W w'
section
variable {W w' w2 : World}
theorem fr.refl : fr W W := Below.refl _ _
theorem fr.drew (h : fr W w') : fr W w'.drew := Below.drew h
theorem fr.step (h : fr W w') (hb : Below w'.heap.size w' w2) : fr W w2 := Below.trans h (hb.mono (Below.size h))
theorem fr.alloc (h : fr W w') (o : Obj) : fr W (w'.alloc o) := h.step ((Below.refl _ _).alloc (Nat.le_refl _) _)
theorem fr.cell (h : fr W w') {p : Addr} {v : Value} (hc : W.cell? p = some v) : w'.cell? p = some v := (Below.cell h (World.block_lt_of_cell? W p hc)).trans hc
theorem fr.ent (h : fr W w') {S : Nat → Prop} {v : Value} {e : Ent} (hv : EntV W S v e) : EntV w' S v e := hv.below h
end
/-- A world that extends W. -/
structure Ext (W : World) where
  w : World
  h : fr W w
instance {W : World} : Nonempty (Ext W) := ⟨⟨W, fr.refl⟩⟩
theorem Ext.cell {W : World} {p : Addr} {v : Value} (hc : W.cell? p = some v) (q : Ext W) : q.w.cell? p = some v := q.h.cell hc
theorem wp_region_quiet_ext {P : Program} {id : Nat} {Q : Exit → Act → World → Prop} {a : Act} {w : World} {l : List Oper} (hm : P.follows .mixedOrders = true) (hB : Region.lexB .any l.toArray = true)
    (h : wpQuiet P l.toArray (fun w' => ∃ p : Ext w, w' = p.w) (fun a' => ∀ w', (∃ p : Ext w, w' = p.w) → Q .normal a' w') l a) : (Code.region id l.toArray true).wp P Q a w :=
  wp_region_quiet (C := fun w' => ∃ p : Ext w, w' = p.w) hm hB ⟨⟨w.drew, fr.refl.drew⟩, rfl⟩ (by simpa using h)
theorem Ext.calls {P : Program} {f : FuncId} {args : Array Value} {W : World} {p : Ext W} {v : Value}
    (h : Calls P f args p.w fun e w' => e = .returned v ∧ Below p.w.heap.size p.w w') : Calls P f args p.w fun e w'' => e = .returned v ∧ ∃ q : Ext W, w'' = q.w :=
  h.mono fun _ _ ⟨he, hb⟩ => ⟨he, ⟨_, p.h.step hb⟩, rfl⟩
theorem Ext.calls_same {P : Program} {f : FuncId} {args : Array Value} {W : World} {p : Ext W} {v : Value}
    (h : Calls P f args p.w fun e w' => e = .returned v ∧ p.w = w') : Calls P f args p.w fun e w'' => e = .returned v ∧ ∃ q : Ext W, w'' = q.w :=
  h.mono fun _ _ ⟨he, hb⟩ => ⟨he, ⟨_, p.h⟩, hb.symm⟩
end Go.Proofs.Ytelbidknefkaiaa
end
section
namespace Go.Proofs.Ytelbidknefkaiaa
open Go.RowKit
attribute [local go_sem ↓] Go.wp_at_zero Go.wp_at_succ
theorem orderedFrom_step (es : List Ent) (k : Nat) (e : Ent) (h : es[k]? = some e) (p : Option Ent) :
    orderedFrom p (es.drop k) = (goodE e && ((match p with | none => true | some p => decide (cmpE p e < 0)) && orderedFrom (some e) (es.drop (k + 1)))) := by
  rw [List.drop_eq_getElem_cons (List.getElem?_eq_some_iff.1 h).1]
  have e1 := (List.getElem?_eq_some_iff.1 h).2
  rw [e1]
  cases p <;> simp [orderedFrom]
set_option maxRecDepth 100000 in
set_option maxHeartbeats 4000000 in
theorem ordered_any (S : Nat → Prop) (v : Value) (es : List Ent) (w : World) (hv : Ents w S v es) :
    Calls Try.prog 43 #[v] w fun r w' => r = .returned (.bool (orderedE es)) ∧ Below w.heap.size w w' := by
  obtain ⟨A, c, cs, rfl, hc, hcm, hl, hr, he⟩ := hv
  obtain ⟨n, hn⟩ : ∃ n, es.length = n := ⟨_, rfl⟩
  rw [hn] at hr hl ⊢
  have HN := Lib.hid hn
  clear hn
  go_enter Try.func43, Try.ntmps43
  go_wp2
  go_loopw [3, 4, 7] (fun _ _ t wr => ∃ k : Nat, k ≤ n ∧ t = .int .i64 k ∧ orderedE es = orderedFrom (if k = 0 then none else es[k - 1]?) (es.drop k) ∧ Below w.heap.size w wr) (fun _ _ t _ => n - (intOf t).toNat)
  case atStart => exact ⟨0, by omega, rfl, rfl, Below.refl _ _⟩
  case round =>
    obtain ⟨k, hk, rfl, hpre, hbel⟩ := hrel
    have hp := Lib.hid hpre
    clear hpre
    by_cases hkn : k < n
    · obtain ⟨e, hek⟩ : ∃ e, es[k]? = some e := ⟨_, List.getElem?_eq_getElem (by rw [HN.out]; exact hkn)⟩
      obtain ⟨b, o, kk, uu, rfl, c0, c1, c2, c3, b1, b2, hblt, _⟩ := (hr.below hbel).ent (he.below hbel) HN.out hek
      have hal : Below wr.heap.size wr (wr.alloc (.cells #[kk, .int .i64 e.seq, .bool e.dead, uu] 26)) := (Below.refl _ _).alloc (Nat.le_refl _) _
      have hev := Lib.hid ((show EntV wr S (.agg #[kk, .int .i64 e.seq, .bool e.dead, uu]) e from ⟨_, _, rfl, b1, b2⟩).below hal)
      have HSTEP := Lib.hid (orderedFrom_step es k e hek (if k = 0 then none else es[k - 1]?))
      have HX := Lib.hid hek
      obtain ⟨Ak, ck, rfl⟩ := slice_form b1
      obtain ⟨Au, cu, rfl⟩ := slice_form b2
      clear b1 b2 hek hal
      generalize hW0 : wr.alloc (.cells #[Value.slice Ak e.key.length ck, .int .i64 e.seq, .bool e.dead, Value.slice Au e.val.length cu] 26) = W0 at hev
      have fW0 : fr wr W0 := by rw [← hW0]; exact fr.refl.alloc _
      have F0 : ∀ q : Ext W0, q.w.cell? { block := wr.heap.size, off := 0 } = some (Value.slice Ak e.key.length ck) := fun q => q.cell (by rw [← hW0]; simp [go_sem])
      have F1 : ∀ q : Ext W0, q.w.cell? { block := wr.heap.size, off := 1 } = some (.int .i64 e.seq) := fun q => q.cell (by rw [← hW0]; simp [go_sem])
      have F2 : ∀ q : Ext W0, q.w.cell? { block := wr.heap.size, off := 2 } = some (.bool e.dead) := fun q => q.cell (by rw [← hW0]; simp [go_sem])
      have F3 : ∀ q : Ext W0, q.w.cell? { block := wr.heap.size, off := 3 } = some (Value.slice Au e.val.length cu) := fun q => q.cell (by rw [← hW0]; simp [go_sem])
      have HB := Lib.hid (hbel)
      have HHR := Lib.hid (hr.below hbel)
      have HHE := Lib.hid (he.below hbel)
      have CG : ∀ q : Ext W0, Calls Try.prog 36 #[.agg #[Value.slice Ak e.key.length ck, .int .i64 e.seq, .bool e.dead, Value.slice Au e.val.length cu]] q.w fun r w'' => r = .returned (.bool (goodE e)) ∧ ∃ q' : Ext W0, w'' = q'.w := fun q => Ext.calls (good_any S _ e _ (q.h.ent hev.out))
      go_wp2
      rcases hg : goodE e with _ | _
      · rw [hg] at CG
        have HG := Lib.hid hg
        clear hg
        (refine wp_region_quiet_ext (by kernel_rfl) (by kernel_rfl) ?_; (repeat (go_big_quiet_step ((go_at_call 36; exact CG _)))); refine wpQuiet_nil ?_; intro wq hw'; obtain ⟨⟨_, hq⟩, hw''⟩ := hw'; subst hw'')
        go_wp2
        refine bodyPost_ret (v := .bool _) (by simp [results, Try.results43, go_sem]; rfl) rfl ?_
        refine ⟨ret_bool ?_, HB.out.trans ((fW0.step hq).mono (HB.out.size))⟩
        have := hp.out
        rw [HSTEP.out, HG.out] at this
        rw [this]; rfl
      · rw [hg] at CG
        have HG := Lib.hid hg
        clear hg
        rcases Nat.eq_zero_or_pos k with h0 | h0
        · subst h0
          (refine wp_region_quiet_ext (by kernel_rfl) (by kernel_rfl) ?_; (repeat (go_big_quiet_step ((go_at_call 36; exact CG _)))); refine wpQuiet_nil ?_; intro wq hw'; obtain ⟨⟨_, hq⟩, hw''⟩ := hw'; subst hw'')
          go_wp2
          refine ⟨⟨1, by omega, rfl, ?_, HB.out.trans ((fW0.step hq).mono (HB.out.size))⟩, by simp [intOf]; omega⟩
          rw [hp.out, HSTEP.out, HG.out]
          simp [HX.out]
        · obtain ⟨j, rfl⟩ : ∃ j, k = j + 1 := ⟨k - 1, by omega⟩
          obtain ⟨e', hej⟩ : ∃ e, es[j]? = some e := ⟨_, List.getElem?_eq_getElem (by rw [HN.out]; omega)⟩
          obtain ⟨b', o', kk', uu', hE, d0, d1, d2, d3, b1, b2, _, _⟩ := HHR.out.ent HHE.out HN.out hej
          cases hE
          obtain ⟨Ak', ck', rfl⟩ := slice_form b1
          obtain ⟨Au', cu', rfl⟩ := slice_form b2
          have G0 : ∀ q : Ext W0, q.w.cell? { block := b, off := o + j * 4 } = _ := fun q => q.h.cell (fW0.cell d0)
          have G1 : ∀ q : Ext W0, q.w.cell? { block := b, off := o + j * 4 + 1 } = _ := fun q => q.h.cell (fW0.cell d1)
          have G2 : ∀ q : Ext W0, q.w.cell? { block := b, off := o + j * 4 + 2 } = _ := fun q => q.h.cell (fW0.cell d2)
          have G3 : ∀ q : Ext W0, q.w.cell? { block := b, off := o + j * 4 + 3 } = _ := fun q => q.h.cell (fW0.cell d3)
          have hev' := Lib.hid (fW0.ent (show EntV wr S (.agg #[Value.slice Ak' e'.key.length ck', .int .i64 e'.seq, .bool e'.dead, Value.slice Au' e'.val.length cu']) e' from ⟨_, _, rfl, b1, b2⟩))
          have CC : ∀ q : Ext W0, Calls Try.prog 38 #[.agg #[Value.slice Ak' e'.key.length ck', .int .i64 e'.seq, .bool e'.dead, Value.slice Au' e'.val.length cu'], .agg #[Value.slice Ak e.key.length ck, .int .i64 e.seq, .bool e.dead, Value.slice Au e.val.length cu]] q.w fun r w'' => r = .returned (.int .i64 (cmpE e' e)) ∧ ∃ q' : Ext W0, w'' = q'.w := fun q => Ext.calls (compare_any S S _ _ e' e _ (q.h.ent hev'.out) (q.h.ent hev.out))
          have HJ := Lib.hid (show (if j + 1 = 0 then none else es[j + 1 - 1]?) = some e' by simpa using hej)
          have hd0 : decide ((0:Int) < (j:Int) + 1) = true := by first | (simp; done) | (simp; omega)
          clear hej b1 b2 d0 d1 d2 d3
          rcases hcm : decide (0 ≤ cmpE e' e) with _ | _
          · (refine wp_region_quiet_ext (by kernel_rfl) (by kernel_rfl) ?_; (repeat (go_big_quiet_step (first | (go_at_call 36; exact CG _) | (go_at_call 38; exact CC _)))); refine wpQuiet_nil ?_; intro wq hw'; obtain ⟨⟨_, hq⟩, hw''⟩ := hw'; subst hw'')
            go_wp2
            refine ⟨⟨j + 2, by omega, by go_num, ?_, HB.out.trans ((fW0.step hq).mono (HB.out.size))⟩, by simp [intOf]; omega⟩
            have h2 := of_decide_eq_false hcm
            rw [hp.out, HSTEP.out, HG.out, HJ.out]
            simp [HX.out, show cmpE e' e < 0 by omega]
          · (refine wp_region_quiet_ext (by kernel_rfl) (by kernel_rfl) ?_; (repeat (go_big_quiet_step (first | (go_at_call 36; exact CG _) | (go_at_call 38; exact CC _)))); refine wpQuiet_nil ?_; intro wq hw'; obtain ⟨⟨_, hq⟩, hw''⟩ := hw'; subst hw'')
            go_wp2
            refine bodyPost_ret (v := .bool _) (by simp [results, Try.results43, go_sem]; rfl) rfl ?_
            refine ⟨ret_bool ?_, HB.out.trans ((fW0.step hq).mono (HB.out.size))⟩
            have := hp.out
            have h2 := of_decide_eq_true hcm
            rw [HSTEP.out, HG.out, HJ.out] at this
            rw [this]
            simp [show ¬ cmpE e' e < 0 by omega]
    · go_wp2
      refine bodyPost_ret (v := .bool _) (by simp [results, Try.results43, go_sem]; rfl) rfl ?_
      refine ⟨ret_bool ?_, hbel⟩
      have := hp.out
      rw [List.drop_eq_nil_of_le (by rw [HN.out]; omega)] at this
      rw [this]; cases (if k = 0 then none else es[k - 1]?) <;> rfl
end Go.Proofs.Ytelbidknefkaiaa
end
section
namespace Go.Proofs.Ytelbidknefkaiaa
open Go.RowKit
attribute [local go_sem ↓] Go.wp_at_zero Go.wp_at_succ
set_option maxRecDepth 100000 in
set_option maxHeartbeats 4000000 in
theorem rordered_any (S : Nat → Prop) (v : Value) (es : List Ent) (w : World) (hv : Ents w S v es) :
    Calls Try.prog 31 #[v] w fun r w' => r = .returned (.bool (orderedE es)) ∧ Below w.heap.size w w' := by
  obtain ⟨A, c, cs, rfl, hc, hcm, hl, hr, he⟩ := hv
  obtain ⟨n, hn⟩ : ∃ n, es.length = n := ⟨_, rfl⟩
  rw [hn] at hr hl ⊢
  have HN := Lib.hid hn
  clear hn
  go_enter Try.func31, Try.ntmps31
  go_wp2
  go_loopw [3, 6] (fun _ t wr => ∃ k : Nat, k ≤ n ∧ t = .int .i64 k ∧ orderedE es = orderedFrom (if k = 0 then none else es[k - 1]?) (es.drop k) ∧ Below w.heap.size w wr) (fun _ t _ => n - (intOf t).toNat)
  case atStart => exact ⟨0, by omega, rfl, rfl, Below.refl _ _⟩
  case round =>
    obtain ⟨k, hk, rfl, hpre, hbel⟩ := hrel
    have hp := Lib.hid hpre
    clear hpre
    by_cases hkn : k < n
    · obtain ⟨e, hek⟩ : ∃ e, es[k]? = some e := ⟨_, List.getElem?_eq_getElem (by rw [HN.out]; exact hkn)⟩
      obtain ⟨b, o, kk, uu, rfl, c0, c1, c2, c3, b1, b2, hblt, _⟩ := (hr.below hbel).ent (he.below hbel) HN.out hek
      have hev := Lib.hid (show EntV wr S (.agg #[kk, .int .i64 e.seq, .bool e.dead, uu]) e from ⟨_, _, rfl, b1, b2⟩)
      have HSTEP := Lib.hid (orderedFrom_step es k e hek (if k = 0 then none else es[k - 1]?))
      have HX := Lib.hid hek
      obtain ⟨Ak, ck, rfl⟩ := slice_form b1
      obtain ⟨Au, cu, rfl⟩ := slice_form b2
      clear b1 b2 hek
      have fW0 : fr wr wr := fr.refl
      have F0 : ∀ q : Ext wr, q.w.cell? { block := b, off := o + k * 4 } = _ := fun q => q.h.cell (fW0.cell c0)
      have F1 : ∀ q : Ext wr, q.w.cell? { block := b, off := o + k * 4 + 1 } = _ := fun q => q.h.cell (fW0.cell c1)
      have F2 : ∀ q : Ext wr, q.w.cell? { block := b, off := o + k * 4 + 2 } = _ := fun q => q.h.cell (fW0.cell c2)
      have F3 : ∀ q : Ext wr, q.w.cell? { block := b, off := o + k * 4 + 3 } = _ := fun q => q.h.cell (fW0.cell c3)
      have HB := Lib.hid (hbel)
      have HHR := Lib.hid (hr.below hbel)
      have HHE := Lib.hid (he.below hbel)
      have CG : ∀ q : Ext wr, Calls Try.prog 47 #[.agg #[Value.slice Ak e.key.length ck, .int .i64 e.seq, .bool e.dead, Value.slice Au e.val.length cu]] q.w fun r w'' => r = .returned (.bool (goodE e)) ∧ ∃ q' : Ext wr, w'' = q'.w := fun q => Ext.calls (rgood_any S _ e _ (q.h.ent hev.out))
      go_wp2
      rcases hg : goodE e with _ | _
      · rw [hg] at CG
        have HG := Lib.hid hg
        clear hg
        (refine wp_region_quiet_ext (by kernel_rfl) (by kernel_rfl) ?_; (repeat (go_big_quiet_step ((go_at_call 47; exact CG _)))); refine wpQuiet_nil ?_; intro wq hw'; obtain ⟨⟨_, hq⟩, hw''⟩ := hw'; subst hw'')
        go_wp2
        refine bodyPost_ret (v := .bool _) (by simp [results, Try.results31, go_sem]; rfl) rfl ?_
        refine ⟨ret_bool ?_, HB.out.trans ((fW0.step hq).mono (HB.out.size))⟩
        have := hp.out
        rw [HSTEP.out, HG.out] at this
        rw [this]; rfl
      · rw [hg] at CG
        have HG := Lib.hid hg
        clear hg
        rcases Nat.eq_zero_or_pos k with h0 | h0
        · subst h0
          simp only [Nat.zero_mul, Nat.add_zero] at F0 F1 F2 F3
          (refine wp_region_quiet_ext (by kernel_rfl) (by kernel_rfl) ?_; (repeat (go_big_quiet_step ((go_at_call 47; exact CG _)))); refine wpQuiet_nil ?_; intro wq hw'; obtain ⟨⟨_, hq⟩, hw''⟩ := hw'; subst hw'')
          go_wp2
          refine ⟨⟨1, by omega, rfl, ?_, HB.out.trans ((fW0.step hq).mono (HB.out.size))⟩, by simp [intOf]; omega⟩
          rw [hp.out, HSTEP.out, HG.out]
          simp [HX.out]
        · obtain ⟨j, rfl⟩ : ∃ j, k = j + 1 := ⟨k - 1, by omega⟩
          obtain ⟨e', hej⟩ : ∃ e, es[j]? = some e := ⟨_, List.getElem?_eq_getElem (by rw [HN.out]; omega)⟩
          obtain ⟨b', o', kk', uu', hE, d0, d1, d2, d3, b1, b2, _, _⟩ := HHR.out.ent HHE.out HN.out hej
          cases hE
          obtain ⟨Ak', ck', rfl⟩ := slice_form b1
          obtain ⟨Au', cu', rfl⟩ := slice_form b2
          have G0 : ∀ q : Ext wr, q.w.cell? { block := b, off := o + j * 4 } = _ := fun q => q.h.cell (fW0.cell d0)
          have G1 : ∀ q : Ext wr, q.w.cell? { block := b, off := o + j * 4 + 1 } = _ := fun q => q.h.cell (fW0.cell d1)
          have G2 : ∀ q : Ext wr, q.w.cell? { block := b, off := o + j * 4 + 2 } = _ := fun q => q.h.cell (fW0.cell d2)
          have G3 : ∀ q : Ext wr, q.w.cell? { block := b, off := o + j * 4 + 3 } = _ := fun q => q.h.cell (fW0.cell d3)
          have hev' := Lib.hid (fW0.ent (show EntV wr S (.agg #[Value.slice Ak' e'.key.length ck', .int .i64 e'.seq, .bool e'.dead, Value.slice Au' e'.val.length cu']) e' from ⟨_, _, rfl, b1, b2⟩))
          have CC : ∀ q : Ext wr, Calls Try.prog 41 #[.agg #[Value.slice Ak' e'.key.length ck', .int .i64 e'.seq, .bool e'.dead, Value.slice Au' e'.val.length cu'], .agg #[Value.slice Ak e.key.length ck, .int .i64 e.seq, .bool e.dead, Value.slice Au e.val.length cu]] q.w fun r w'' => r = .returned (.int .i64 (cmpE e' e)) ∧ ∃ q' : Ext wr, w'' = q'.w := fun q => Ext.calls (rcmp_any S S _ _ e' e _ (q.h.ent hev'.out) (q.h.ent hev.out))
          have HJ := Lib.hid (show (if j + 1 = 0 then none else es[j + 1 - 1]?) = some e' by simpa using hej)
          have hd0 : decide ((0:Int) < (j:Int) + 1) = true := by first | (simp; done) | (simp; omega)
          clear hej b1 b2 d0 d1 d2 d3
          rcases hcm : decide (0 ≤ cmpE e' e) with _ | _
          · (refine wp_region_quiet_ext (by kernel_rfl) (by kernel_rfl) ?_; (repeat (go_big_quiet_step (first | (go_at_call 47; exact CG _) | (go_at_call 41; exact CC _)))); refine wpQuiet_nil ?_; intro wq hw'; obtain ⟨⟨_, hq⟩, hw''⟩ := hw'; subst hw'')
            go_wp2
            refine ⟨⟨j + 2, by omega, by go_num, ?_, HB.out.trans ((fW0.step hq).mono (HB.out.size))⟩, by simp [intOf]; omega⟩
            have h2 := of_decide_eq_false hcm
            rw [hp.out, HSTEP.out, HG.out, HJ.out]
            simp [HX.out, show cmpE e' e < 0 by omega]
          · (refine wp_region_quiet_ext (by kernel_rfl) (by kernel_rfl) ?_; (repeat (go_big_quiet_step (first | (go_at_call 47; exact CG _) | (go_at_call 41; exact CC _)))); refine wpQuiet_nil ?_; intro wq hw'; obtain ⟨⟨_, hq⟩, hw''⟩ := hw'; subst hw'')
            go_wp2
            refine bodyPost_ret (v := .bool _) (by simp [results, Try.results31, go_sem]; rfl) rfl ?_
            refine ⟨ret_bool ?_, HB.out.trans ((fW0.step hq).mono (HB.out.size))⟩
            have := hp.out
            have h2 := of_decide_eq_true hcm
            rw [HSTEP.out, HG.out, HJ.out] at this
            rw [this]
            simp [show ¬ cmpE e' e < 0 by omega]
    · go_wp2
      refine bodyPost_ret (v := .bool _) (by simp [results, Try.results31, go_sem]; rfl) rfl ?_
      refine ⟨ret_bool ?_, hbel⟩
      have := hp.out
      rw [List.drop_eq_nil_of_le (by rw [HN.out]; omega)] at this
      rw [this]; cases (if k = 0 then none else es[k - 1]?) <;> rfl
end Go.Proofs.Ytelbidknefkaiaa
end
section
namespace Go.Proofs.Ytelbidknefkaiaa
open Go.RowKit
attribute [local go_sem ↓] Go.wp_at_zero Go.wp_at_succ
theorem strOfNums_bytes (bs : List UInt8) : strOfNums (bs.map fun b => (b.toNat : Int)) = ⟨bs.toArray⟩ := by
  have := bytesOf_bcell bs
  unfold Lib.bytesOf at this
  exact congrArg (fun l : List UInt8 => (⟨l.toArray⟩ : ByteArray)) this
theorem bequal_any (S S' : Nat → Prop) (v v' : Value) (xs ys : List UInt8) (w : World) (hx : Byt w S v xs) (hy : Byt w S' v' ys) :
    Calls Try.prog 34 #[v, v'] w fun e w' => e = .returned (.bool (decide (xs = ys))) ∧ w = w' := by
  refine (Try.bytes_Equal v v' (xs.map fun b => (b.toNat : Int)) (ys.map fun b => (b.toNat : Int)) w (by rw [strOfNums_bytes]; exact hx.convert) (by rw [strOfNums_bytes]; exact hy.convert)).mono ?_
  rintro r w' ⟨rfl, h⟩
  refine ⟨ret_bool ?_, h.symm⟩
  rw [bytesOf_bcell, bytesOf_bcell]
  rw [Bool.eq_iff_iff]
  simp
theorem Byt.lt {w : World} {S : Nat → Prop} {v : Value} {bs : List UInt8} (h : Byt w S v bs) : Byt w (fun i => i < w.heap.size) v bs := h.monoLt fun _ hi _ => hi
theorem Row.lt {w : World} {S : Nat → Prop} {A : Option Addr} {n size : Nat} {xs : List Value} (h : Row w S A n size xs) : Row w (fun i => i < w.heap.size) A n size xs :=
  ⟨h.1, fun hn => by
    obtain ⟨b, o, e, h1, hb, hc⟩ := h.2 hn
    exact ⟨b, o, e, hb, hb, hc⟩⟩
theorem Ents.lt {w : World} {S : Nat → Prop} {v : Value} {es : List Ent} (h : Ents w S v es) : Ents w (fun i => i < w.heap.size) v es := by
  obtain ⟨A, c, cs, e, h1, h2, h3, h4, h5⟩ := h
  exact ⟨A, c, cs, e, h1, h2, h3, h4.lt, h5.imp fun _ _ h => h.lt⟩
def thinC (mark : Int) (bottom : Bool) : List UInt8 → List Ent → List Ent
  | _, [] => []
  | a, e :: l => if e.seq ≤ mark then (if a = e.key then thinC mark bottom a l else if (e.dead && bottom) = true then thinC mark bottom e.key l else e :: thinC mark bottom e.key l) else e :: thinC mark bottom a l
theorem thinC_step {mark : Int} {bottom : Bool} (a : List UInt8) {es : List Ent} {k : Nat} {e : Ent} (h : es[k]? = some e) :
    thinC mark bottom a (es.drop k) = if e.seq ≤ mark then (if a = e.key then thinC mark bottom a (es.drop (k + 1)) else if (e.dead && bottom) = true then thinC mark bottom e.key (es.drop (k + 1)) else e :: thinC mark bottom e.key (es.drop (k + 1))) else e :: thinC mark bottom a (es.drop (k + 1)) := by
  rw [List.drop_eq_getElem_cons (List.getElem?_eq_some_iff.1 h).1, (List.getElem?_eq_some_iff.1 h).2]
  rfl
set_option maxRecDepth 100000 in
set_option maxHeartbeats 2000000 in
theorem thin_any (S : Nat → Prop) (v : Value) (es : List Ent) (mark : Int) (bottom : Bool) (w : World) (hv : Ents w S v es) :
    Calls Try.prog 29 #[v, .int .i64 mark, .bool bottom] w fun r w' => ∃ v', r = .returned (.tuple #[v', .int .i64 (if orderedE es then 0 else 30)]) ∧ Ents w' (fun i => w.heap.size ≤ i) v' (if orderedE es then thinC mark bottom [] es else []) ∧ Below w.heap.size w w' := by
  obtain ⟨i0, hi, hz0, hz1, hz2⟩ := info_parts info26
  have hby := Lib.hid hz2
  have hz1' := Lib.hid hz1
  clear hz2 hz1
  have HORD := Lib.hid (ordered_any S v es w hv)
  replace hv := hv.lt
  obtain ⟨S0, hS0⟩ : ∃ S0 : Nat → Prop, S0 = fun i => i < w.heap.size := ⟨_, rfl⟩
  rw [← hS0] at hv
  have HS0 := Lib.hid hS0
  clear hS0
  obtain ⟨A, c, cs, rfl, hc, hcm, hl, hr, he⟩ := hv
  obtain ⟨n, hn⟩ : ∃ n, es.length = n := ⟨_, rfl⟩
  rw [hn] at hr hl HORD ⊢
  have HN := Lib.hid hn
  clear hn
  rcases ho : orderedE es with _ | _
  · rw [ho] at HORD
    clear ho
    go_enter Try.func29, Try.ntmps29
    go_wp2_with (go_at_call 43; refine HORD.out.mono ?_; rintro r w1 ⟨rfl, hb1⟩)
    refine bodyPost_ret (v := .tuple #[_, _]) (by simp [results, Try.results29, go_sem]; exact ⟨rfl, rfl⟩) rfl ?_
    exact ⟨_, rfl, Ents.nil _ _, hb1⟩
  · rw [ho] at HORD
    clear ho
    go_enter Try.func29, Try.ntmps29
    go_wp2_with (go_at_call 43; refine HORD.out.mono ?_; rintro r w0 ⟨rfl, hb0⟩)
    go_loopw [8, 9, 11, 17] (fun v8 v9 _ t wr => ∃ k : Nat, ∃ a : List UInt8, ∃ ys : List Value, ∃ os : List Ent, k ≤ n ∧ t = .int .i64 k ∧ wr.ownsRow w.heap.size 26 4 v8 os.length ys ∧ EntCells wr (fresh w.heap.size v8) ys os ∧ Byt wr S0 v9 a ∧ thinC mark bottom [] es = os ++ thinC mark bottom a (es.drop k) ∧ os.length ≤ k ∧ Below w.heap.size w wr) (fun _ _ _ t _ => n - (intOf t).toNat)
    case atStart => exact ⟨0, [], [], [], by omega, rfl, World.ownsRow_nil _ _ _ _, trivial, Byt.nil _ _, rfl, by simp, hb0⟩
    case round =>
      obtain ⟨k, a, ys, os, hk, rfl, hown, hys, hah, hpre, hol, hbel⟩ := hrel
      by_cases hkn : k < n
      · obtain ⟨e, hek⟩ : ∃ e, es[k]? = some e := ⟨_, List.getElem?_eq_getElem (by rw [HN.out]; exact hkn)⟩
        obtain ⟨b, o, kk, uu, rfl, c0, c1, c2, c3, b1, b2, _, _⟩ := (hr.below hbel).ent (he.below hbel) HN.out hek
        obtain ⟨dd, hdd⟩ : ∃ d, e.dead = d := ⟨_, rfl⟩
        rw [hdd] at c2
        have HDD := Lib.hid hdd
        have HO := Lib.hid hown
        have HEK := Lib.hid hek
        have HST := Lib.hid (thinC_step (mark := mark) (bottom := bottom) a hek)
        have HPRE := Lib.hid hpre
        have hal : Below wr.heap.size wr (wr.alloc (.cells #[kk, .int .i64 e.seq, .bool dd, uu] 26)) := (Below.refl _ _).alloc (Nat.le_refl _) _
        have HB := Lib.hid (hbel.trans (hal.mono hbel.size))
        have hev := Lib.hid ((show EntV wr S0 (.agg #[kk, .int .i64 e.seq, .bool dd, uu]) e from ⟨_, _, by rw [hdd], b1, b2⟩).below hal)
        have HK := Lib.hid b1
        have HKA := Lib.hid (b1.below hal)
        have HAH := Lib.hid (hah.below hal)
        have HO1 := Lib.hid (own_below hown hal)
        have HYS := Lib.hid (hys.below hal)
        obtain ⟨Ak, ck, rfl⟩ := slice_form b1
        obtain ⟨Au, cu, rfl⟩ := slice_form b2
        obtain ⟨Aa, ca, rfl⟩ := slice_form hah
        clear hek hdd b1 b2 hown hpre hbel hah hys
        have HEQ := bequal_any S0 S0 _ _ a e.key _ HAH.out HKA.out
        by_cases hs : e.seq ≤ mark
        · by_cases hak : a = e.key
          · rw [decide_eq_true hak] at HEQ
            have HE := Lib.hid HEQ
            have HAK := Lib.hid hak
            clear HEQ hak
            go_wp2_with (go_at_call 34; refine HE.out.mono ?_; rintro r w1 ⟨rfl, rfl⟩)
            refine ⟨⟨k + 1, a, ys, os, by omega, by go_num, HO1.out, HYS.out, HAH.out, ?_, by omega, HB.out⟩, by simp [intOf]; omega⟩
            rw [HPRE.out, HST.out, if_pos hs, if_pos HAK.out]
          · rw [decide_eq_false hak] at HEQ
            have HE := Lib.hid HEQ
            clear HEQ
            by_cases hdb : (dd && bottom) = true
            · obtain ⟨rfl, rfl⟩ : dd = true ∧ bottom = true := by simpa using hdb
              go_wp2_with (go_at_call 34; refine HE.out.mono ?_; rintro r w1 ⟨rfl, rfl⟩)
              refine ⟨⟨k + 1, e.key, ys, os, by omega, by go_num, HO1.out, HYS.out, HKA.out, ?_, by omega, HB.out⟩, by simp [intOf]; omega⟩
              rw [HPRE.out, HST.out, if_pos hs, if_neg hak, HDD.out, if_pos (show (true && true) = true from rfl)]
            · have hdb2 := Lib.hid hdb
              clear hdb
              rcases dd with _ | _
              · go_wp2_with (first
                  | (go_at_call 34; refine HE.out.mono ?_; rintro r w1 ⟨rfl, rfl⟩)
                  | (go_at_call 35; refine (eclone_any S0 _ e _ hev.out).mono ?_; rintro r w1 ⟨v1, rfl, ⟨k', u', rfl, hk', hu'⟩, hb1⟩; obtain ⟨Ak, ck, rfl⟩ := slice_form hk'; obtain ⟨Au, cu, rfl⟩ := slice_form hu')
                  | (at_builtin; refine wpList_append_own_at _ rfl _ _ 22 rfl w.heap.size 26 i0 _ 4 64 Try.underlying22 hi hz0 hz1'.out hby.out rfl (by decide) _ _ _ rfl ((own_below HO1.out hb1).alloc _) ⟨w1.heap.size, 0, none⟩ 1 1 [.slice Ak e.key.length ck, .int .i64 e.seq, .bool e.dead, .slice Au e.val.length cu] rfl rfl (cell_four_new _ _ _ _ _ _) (by simp [Value.oneCell']) (by unfold maxLen; omega) (by omega) (by have := HB.out.size; have := hb1.size; simp; omega) ?_; intro v' w2 hown' hgrow _ hat))
                refine ⟨⟨k + 1, e.key, _, os ++ [e], by omega, by go_num, (by rw [List.length_append]; exact hown'), EntCells.push HO1.out HYS.out hb1 hk' hu' HB.out.size hgrow hat, ((HKA.out.below hb1).below ((Below.refl _ _).alloc (Nat.le_refl _) _)).push hgrow hat (fun i _ hs e => by have := HO1.out.lt i e; rw [HS0.out] at hs; omega) (fun i _ hs _ => hs), ?_, by simp; omega, ((HB.out.trans (hb1.mono HB.out.size)).alloc (by have := HB.out.size; have := hb1.size; omega) _).grown hgrow (by have := HB.out.size; have := hb1.size; simp; omega) (fun j e => (HO1.out.lt j e).1)⟩, by simp [intOf]; omega⟩
                rw [HPRE.out, HST.out, if_pos hs, if_neg hak, HDD.out]; simp
              · obtain rfl : bottom = false := by simpa using hdb2.out
                go_wp2_with (first
                  | (go_at_call 34; refine HE.out.mono ?_; rintro r w1 ⟨rfl, rfl⟩)
                  | (go_at_call 35; refine (eclone_any S0 _ e _ hev.out).mono ?_; rintro r w1 ⟨v1, rfl, ⟨k', u', rfl, hk', hu'⟩, hb1⟩; obtain ⟨Ak, ck, rfl⟩ := slice_form hk'; obtain ⟨Au, cu, rfl⟩ := slice_form hu')
                  | (at_builtin; refine wpList_append_own_at _ rfl _ _ 22 rfl w.heap.size 26 i0 _ 4 64 Try.underlying22 hi hz0 hz1'.out hby.out rfl (by decide) _ _ _ rfl ((own_below HO1.out hb1).alloc _) ⟨w1.heap.size, 0, none⟩ 1 1 [.slice Ak e.key.length ck, .int .i64 e.seq, .bool e.dead, .slice Au e.val.length cu] rfl rfl (cell_four_new _ _ _ _ _ _) (by simp [Value.oneCell']) (by unfold maxLen; omega) (by omega) (by have := HB.out.size; have := hb1.size; simp; omega) ?_; intro v' w2 hown' hgrow _ hat))
                refine ⟨⟨k + 1, e.key, _, os ++ [e], by omega, by go_num, (by rw [List.length_append]; exact hown'), EntCells.push HO1.out HYS.out hb1 hk' hu' HB.out.size hgrow hat, ((HKA.out.below hb1).below ((Below.refl _ _).alloc (Nat.le_refl _) _)).push hgrow hat (fun i _ hs e => by have := HO1.out.lt i e; rw [HS0.out] at hs; omega) (fun i _ hs _ => hs), ?_, by simp; omega, ((HB.out.trans (hb1.mono HB.out.size)).alloc (by have := HB.out.size; have := hb1.size; omega) _).grown hgrow (by have := HB.out.size; have := hb1.size; simp; omega) (fun j e => (HO1.out.lt j e).1)⟩, by simp [intOf]; omega⟩
                rw [HPRE.out, HST.out, if_pos hs, if_neg hak, HDD.out]; simp
        · go_wp2_with (first
            | (go_at_call 34; refine HE.out.mono ?_; rintro r w1 ⟨rfl, rfl⟩)
            | (go_at_call 35; refine (eclone_any S0 _ e _ hev.out).mono ?_; rintro r w1 ⟨v1, rfl, ⟨k', u', rfl, hk', hu'⟩, hb1⟩; obtain ⟨Ak, ck, rfl⟩ := slice_form hk'; obtain ⟨Au, cu, rfl⟩ := slice_form hu')
            | (at_builtin; refine wpList_append_own_at _ rfl _ _ 22 rfl w.heap.size 26 i0 _ 4 64 Try.underlying22 hi hz0 hz1'.out hby.out rfl (by decide) _ _ _ rfl ((own_below HO1.out hb1).alloc _) ⟨w1.heap.size, 0, none⟩ 1 1 [.slice Ak e.key.length ck, .int .i64 e.seq, .bool e.dead, .slice Au e.val.length cu] rfl rfl (cell_four_new _ _ _ _ _ _) (by simp [Value.oneCell']) (by unfold maxLen; omega) (by omega) (by have := HB.out.size; have := hb1.size; simp; omega) ?_; intro v' w2 hown' hgrow _ hat))
          refine ⟨⟨k + 1, a, _, os ++ [e], by omega, by go_num, (by rw [List.length_append]; exact hown'), EntCells.push HO1.out HYS.out hb1 hk' hu' HB.out.size hgrow hat, ((HAH.out.below hb1).below ((Below.refl _ _).alloc (Nat.le_refl _) _)).push hgrow hat (fun i _ hs e => by have := HO1.out.lt i e; rw [HS0.out] at hs; omega) (fun i _ hs _ => hs), ?_, by simp; omega, ((HB.out.trans (hb1.mono HB.out.size)).alloc (by have := HB.out.size; have := hb1.size; omega) _).grown hgrow (by have := HB.out.size; have := hb1.size; simp; omega) (fun j e => (HO1.out.lt j e).1)⟩, by simp [intOf]; omega⟩
          rw [HPRE.out, HST.out, if_neg (show ¬ e.seq ≤ mark by omega)]; simp
      · obtain rfl : k = n := by omega
        have HO := Lib.hid hown
        have HP := Lib.hid hpre
        clear hown hpre
        go_wp2
        refine bodyPost_ret (v := .tuple #[_, _]) (by simp [results, Try.results29, go_sem]; exact ⟨rfl, rfl⟩) rfl ?_
        refine ⟨_, rfl, ?_, hbel⟩
        have e1 : es.drop k = [] := List.drop_eq_nil_of_le (by rw [HN.out]; exact Nat.le_refl _)
        rw [HP.out, e1, thinC, List.append_nil]
        exact Ents.of_own HO.out (hys.mono fun i hi => hi.1) (fun i hi _ => hi) (by omega)
end Go.Proofs.Ytelbidknefkaiaa
end
