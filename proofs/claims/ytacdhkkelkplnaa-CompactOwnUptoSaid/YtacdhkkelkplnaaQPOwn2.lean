/-
bytes.Equal, merge.Thin.
-/
import Derived.Test.YtacdhkkelkplnaaQPOwn1
import Derived.StillTailTactics
import Derived.BigQuiet
section
namespace Go.Proofs.Ytacdhkkelkplnaa
open Go.RowKit
attribute [local go_sem ↓] Go.wp_at_zero Go.wp_at_succ
theorem info26 : (Try.prog.info? 46).map (fun i => (i.zero, i.size, i.bytes)) = some (some (.agg #[.slice none 0 0, .int .i64 0, .bool false, .slice none 0 0]), 4, 64) := by kernel_rfl
theorem cell_four_new (w : World) (a b c d : Value) (t : TypeId) : ∀ j u, [a, b, c, d][j]? = some u → (w.alloc (.cells #[a, b, c, d] t)).cell? ((⟨w.heap.size, 0, none⟩ : Addr).add j) = some u := by
  intro j u hu
  rw [Addr.add_lit, World.cell?_alloc_at _ _ _ _ rfl]
  simpa using hu
theorem own_below {w w' : World} {base : Nat} {e : TypeId} {size n : Nat} {v : Value} {xs : List Value} (h : w.ownsRow base e size v n xs) (hb : Below w.heap.size w w') : w'.ownsRow base e size v n xs := by
  rcases h.2 with ⟨rfl, h0⟩ | ⟨g, cap, cur, rfl, hbg, hh, r⟩
  · exact ⟨h.1, .inl ⟨rfl, h0⟩⟩
  · have hlt : g < w.heap.size := by
      rcases Nat.lt_or_ge g w.heap.size with h1 | h1
      · exact h1
      · rw [Array.getElem?_eq_none h1] at hh; cases hh
    exact ⟨h.1, .inr ⟨g, cap, cur, rfl, hbg, (hb.block g hlt).trans hh, r⟩⟩
theorem take_snoc {α : Type} {l : List α} {k : Nat} {e : α} (h : l[k]? = some e) : l.take (k + 1) = l.take k ++ [e] := by
  rw [List.take_add_one, h]; rfl
theorem Byt.monoLt {w : World} {S S' : Nat → Prop} {v : Value} {bs : List UInt8} (h : Byt w S v bs) (hS : ∀ i, i < w.heap.size → S i → S' i) : Byt w S' v bs := by
  obtain ⟨A, c, e, h1, h2, h3, h4, h5⟩ := h
  refine ⟨A, c, e, h1, h2, h3, h4, fun hn => ?_⟩
  obtain ⟨b, o, e, hb, hlt, hc⟩ := h5 hn
  exact ⟨b, o, e, hS b hlt hb, hlt, hc⟩
/-- bytes that lie outside of a row that append has grown -/
theorem Byt.push {w w2 : World} {S S' : Nat → Prop} {v v' row : Value} {bs : List UInt8} (h : Byt w S v bs) (hg : w.grownBy w2 row.ownBlock) (hat : v'.ownBlock = row.ownBlock ∨ v'.ownBlock = some w.heap.size)
    (hne : ∀ i, i < w.heap.size → S i → row.ownBlock ≠ some i) (hS : ∀ i, i < w.heap.size → S i → v'.ownBlock ≠ some i → S' i) : Byt w2 S' v bs := by
  have h1 : Byt w (fun i => S i ∧ i < w.heap.size) v bs := h.monoLt fun i hi hs => ⟨hs, hi⟩
  have h2 : Byt w2 (fun i => S i ∧ i < w.heap.size) v bs := h1.only (S := fun i => row.ownBlock = some i) ⟨hg.os, hg.tape, hg.output, hg.size, fun i hi hS => hg.block i hi (fun e => hS e.symm)⟩ (fun i hi hT => hne i hi hT.1)
  refine h2.mono fun i hi => hS i hi.2 hi.1 (fun e => ?_)
  rcases hat with h | h
  · exact hne i hi.2 hi.1 (h ▸ e)
  · rw [h] at e
    injection e with e
    omega
/-- the row of entries that a call fills: one more. -/
def fresh (base : Nat) (v : Value) (i : Nat) : Prop := base ≤ i ∧ v.ownBlock ≠ some i
theorem EntCells.push {base : Nat} {wr w1 w2 : World} {v v' k u : Value} {n : Nat} {ys : List Value} {es : List Ent} {e : Ent} {o : Obj} {t : TypeId} (hown : wr.ownsRow base t 4 v n ys) (hys : EntCells wr (fresh base v) ys es) (hb1 : Below wr.heap.size wr w1)
    (hk : Byt w1 (fun i => wr.heap.size ≤ i) k e.key) (hu : Byt w1 (fun i => wr.heap.size ≤ i) u e.val) (hbase : base ≤ wr.heap.size) (hg : (w1.alloc o).grownBy w2 v.ownBlock) (hat : v'.ownBlock = v.ownBlock ∨ v'.ownBlock = some (w1.alloc o).heap.size) :
    EntCells w2 (fresh base v') (ys ++ [k, .int .i64 e.seq, .bool e.dead, u]) (es ++ [e]) := by
  have hal : Below w1.heap.size w1 (w1.alloc o) := (Below.refl _ _).alloc (Nat.le_refl _) _
  have hz := hb1.size
  have old : ∀ x bs, Byt wr (fresh base v) x bs → Byt w2 (fresh base v') x bs := fun x bs h =>
    ((h.below hb1).below hal).push hg hat (fun i _ hs => hs.2) (fun i _ hs hn => ⟨hs.1, hn⟩)
  have new : ∀ x bs, Byt w1 (fun i => wr.heap.size ≤ i) x bs → Byt w2 (fresh base v') x bs := fun x bs h =>
    (h.below hal).push hg hat (fun i _ hs e => by have := hown.lt i e; omega) (fun i _ hs hn => ⟨by omega, hn⟩)
  exact (hys.imp old).append (EntCells.one (new _ _ hk) (new _ _ hu))
set_option maxRecDepth 100000 in
set_option maxHeartbeats 2000000 in
theorem copy_any (S : Nat → Prop) (v : Value) (es : List Ent) (w : World) (hv : Ents w S v es) :
    Calls Try.prog 21 #[v] w fun r w' => ∃ v', r = .returned v' ∧ Ents w' (fun i => w.heap.size ≤ i) v' es ∧ Below w.heap.size w w' := by
  obtain ⟨i0, hi, hz0, hz1, hz2⟩ := info_parts info26
  have hby := Lib.hid hz2
  have hz1' := Lib.hid hz1
  clear hz2 hz1
  obtain ⟨A, c, cs, rfl, hc, hcm, hl, hr, he⟩ := hv
  obtain ⟨n, hn⟩ : ∃ n, es.length = n := ⟨_, rfl⟩
  rw [hn] at hr hl ⊢
  have HN := Lib.hid hn
  clear hn
  go_enter Try.func21, Try.ntmps21
  go_wp2
  go_loopw [3, 7] (fun v t wr => ∃ k : Nat, ∃ ys : List Value, k ≤ n ∧ t = .int .i64 k ∧ wr.ownsRow w.heap.size 46 4 v k ys ∧ EntCells wr (fresh w.heap.size v) ys (es.take k) ∧ Below w.heap.size w wr) (fun _ t _ => n - (intOf t).toNat)
  case atStart => exact ⟨0, [], by omega, rfl, World.ownsRow_nil _ _ _ _, trivial, Below.refl _ _⟩
  case round =>
    obtain ⟨k, ys, hk, rfl, hown, hys, hbel⟩ := hrel
    by_cases hkn : k < n
    · obtain ⟨e, hek⟩ : ∃ e, es[k]? = some e := ⟨_, List.getElem?_eq_getElem (by rw [HN.out]; exact hkn)⟩
      obtain ⟨b, o, kk, uu, rfl, c0, c1, c2, c3, b1, b2, _, _⟩ := (hr.below hbel).ent (he.below hbel) HN.out hek
      have HO := Lib.hid hown
      have HEK := Lib.hid hek
      have hev : EntV wr S (.agg #[kk, .int .i64 e.seq, .bool e.dead, uu]) e := ⟨_, _, rfl, b1, b2⟩
      clear hown hek b1 b2
      go_wp2_with (first
        | (go_at_call 41; refine (one_any S _ e _ hev).mono ?_; rintro r w1 ⟨v1, rfl, ⟨k', u', rfl, hk', hu'⟩, hb1⟩; obtain ⟨Ak, ck, rfl⟩ := slice_form hk'; obtain ⟨Au, cu, rfl⟩ := slice_form hu')
        | (at_builtin; refine wpList_append_own_at _ rfl _ _ 41 rfl w.heap.size 46 i0 _ 4 64 Try.underlying41 hi hz0 hz1'.out hby.out rfl (by decide) _ _ _ rfl ((own_below HO.out hb1).alloc _) ⟨w1.heap.size, 0, none⟩ 1 1 [.slice Ak e.key.length ck, .int .i64 e.seq, .bool e.dead, .slice Au e.val.length cu] rfl rfl (cell_four_new _ _ _ _ _ _) (by simp [Value.oneCell']) (by unfold maxLen; omega) (by omega) (by have := hbel.size; have := hb1.size; simp; omega) ?_; intro v' w2 hown' hgrow _ hat))
      refine ⟨⟨k + 1, _, by omega, by go_num, hown', ?_, ((hbel.trans (hb1.mono hbel.size)).alloc (by have := hbel.size; have := hb1.size; omega) _).grown hgrow (by have := hbel.size; have := hb1.size; simp; omega) (fun j e => (HO.out.lt j e).1)⟩, by simp [intOf]; omega⟩
      rw [take_snoc HEK.out]
      exact EntCells.push HO.out hys hb1 hk' hu' hbel.size hgrow hat
    · obtain rfl : k = n := by omega
      have HO := Lib.hid hown
      clear hown
      go_wp2
      go_ret
      have e1 : es.take k = es := List.take_of_length_le (by rw [HN.out]; exact Nat.le_refl _)
      rw [e1] at hys
      refine ⟨_, rfl, Ents.of_own (by rw [HN.out]; exact HO.out) (hys.mono fun i hi => hi.1) (fun i hi _ => hi) (by rw [HN.out]; exact hl), hbel⟩
end Go.Proofs.Ytacdhkkelkplnaa
end
section
namespace Go.Proofs.Ytacdhkkelkplnaa
open Go.RowKit
attribute [local go_sem ↓] Go.wp_at_zero Go.wp_at_succ
theorem EntV.drew {w : World} {S : Nat → Prop} {v : Value} {e : Ent} (h : EntV w S v e) : EntV w.drew S v e := h
set_option maxRecDepth 100000 in
set_option maxHeartbeats 2000000 in
theorem sameE_any (S S' : Nat → Prop) (v v' : Value) (xs ys : List Ent) (w : World) (hx : Ents w S v xs) (hy : Ents w S' v' ys) :
    Calls Try.prog 19 #[v, v'] w fun e w' => e = .returned (.bool (decide (xs = ys))) ∧ Below w.heap.size w w' := by
  obtain ⟨A, c, cs, rfl, hc, hcm, hl, hr, he⟩ := hx
  obtain ⟨A', c', cs', rfl, hc', hcm', hl', hr', he'⟩ := hy
  rcases (by omega : xs.length = ys.length ∨ ¬ xs.length = ys.length) with hlen | hlen
  · have hL := Lib.hid hlen
    obtain ⟨n, hn⟩ : ∃ n, xs.length = n := ⟨_, rfl⟩
    rw [← hlen] at hr' ⊢
    rw [hn] at hr hr' hl ⊢
    clear hlen
    have hN := Lib.hid hn
    clear hn
    go_enter Try.func19, Try.ntmps19
    go_wp2
    go_loopw [5, 13] (fun _ t wr => ∃ k : Nat, k ≤ n ∧ t = .int .i64 k ∧ xs.take k = ys.take k ∧ Below w.heap.size w wr) (fun _ t _ => n - (intOf t).toNat)
    case atStart => exact ⟨0, by omega, rfl, by simp, Below.refl _ _⟩
    case round =>
      obtain ⟨k, hk, rfl, hpre, hbel⟩ := hrel
      have hp := Lib.hid hpre
      clear hpre
      by_cases hkn : k < n
      · obtain ⟨x, hxk⟩ : ∃ x, xs[k]? = some x := ⟨_, List.getElem?_eq_getElem (by rw [hN.out]; exact hkn)⟩
        obtain ⟨y, hyk⟩ : ∃ y, ys[k]? = some y := ⟨_, List.getElem?_eq_getElem (by rw [← hL.out, hN.out]; exact hkn)⟩
        obtain ⟨b, o, k1, u1, rfl, c0, c1, c2, c3, b1, b2, _, _⟩ := (hr.below hbel).ent (he.below hbel) hN.out hxk
        obtain ⟨b', o', k2, u2, rfl, d0, d1, d2, d3, e1, e2, _, _⟩ := (hr'.below hbel).ent (he'.below hbel) (by rw [← hL.out, hN.out]) hyk
        have hev := Lib.hid (show EntV wr S (.agg #[k1, .int .i64 x.seq, .bool x.dead, u1]) x from ⟨_, _, rfl, b1, b2⟩)
        have hev' := Lib.hid (show EntV wr S' (.agg #[k2, .int .i64 y.seq, .bool y.dead, u2]) y from ⟨_, _, rfl, e1, e2⟩)
        have HX := Lib.hid hxk
        have HY := Lib.hid hyk
        clear b1 b2 e1 e2 hxk hyk
        rcases hxy : decide (x = y) with _ | _
        · have hne : ¬ xs = ys := fun e => by
            have h1 := HX.out
            rw [e, HY.out] at h1
            injection h1 with h1
            simp [h1] at hxy
          have HN := Lib.hid hne
          have HXY := Lib.hid hxy
          clear hne hxy
          go_wp2
          go_still_tail 8, (by kernel_rfl)
          go_wp2_with (go_at_call 40; refine (sameone_any S S' _ _ x y _ (by exact hev.out.drew) (by exact hev'.out.drew)).mono ?_; rintro r w1 ⟨rfl, hb⟩; rw [HXY.out])
          go_ret
          exact ⟨ret_bool (decide_eq_false HN.out).symm, hbel.trans ((undrew hb).mono (by have := hbel.size; simpa using this))⟩
        · have HXY := Lib.hid hxy
          clear hxy
          go_wp2
          go_still_tail 8, (by kernel_rfl)
          go_wp2_with (go_at_call 40; refine (sameone_any S S' _ _ x y _ (by exact hev.out.drew) (by exact hev'.out.drew)).mono ?_; rintro r w1 ⟨rfl, hb⟩; rw [HXY.out])
          refine ⟨⟨k + 1, by omega, by go_num, ?_, hbel.trans ((undrew hb).mono (by have := hbel.size; simpa using this))⟩, by simp [intOf]; omega⟩
          rw [take_snoc HX.out, take_snoc HY.out, hp.out, of_decide_eq_true HXY.out]
      · obtain rfl : k = n := by omega
        go_wp2
        go_ret
        refine ⟨ret_bool ?_, hbel⟩
        have e1 := hp.out
        rw [List.take_of_length_le (by rw [hN.out]; exact Nat.le_refl _), List.take_of_length_le (by rw [← hL.out, hN.out]; exact Nat.le_refl _)] at e1
        rw [e1]
        simp
  · have hN := Lib.hid (show ¬ xs = ys from fun e => hlen (by rw [e]))
    have hb : ((xs.length : Int) != (ys.length : Int)) = true := by rw [bne_iff_ne]; omega
    clear hlen
    go_enter Try.func19, Try.ntmps19
    go_wp2
    go_ret
    exact ⟨ret_bool (decide_eq_false hN.out).symm, Below.refl _ _⟩
end Go.Proofs.Ytacdhkkelkplnaa
end
section
namespace Go.Proofs.Ytacdhkkelkplnaa
open Go.RowKit Go.BigFrame
/-- a frame by name: all that was there stands. -/
def fr (W w' : World) : Prop := Below W.heap.size W w'
section
variable {W w' w2 : World}
theorem fr.refl : fr W W := Below.refl _ _
theorem fr.drew (h : fr W w') : fr W w'.drew := Below.drew h
theorem fr.step (h : fr W w') (hb : Below w'.heap.size w' w2) : fr W w2 := Below.trans h (hb.mono (Below.size h))
theorem fr.alloc (h : fr W w') (o : Obj) : fr W (w'.alloc o) := h.step ((Below.refl _ _).alloc (Nat.le_refl _) _)
theorem fr.cell (h : fr W w') {p : Addr} {v : Value} (hc : W.cell? p = some v) : w'.cell? p = some v := (Below.cell h (World.block_lt_of_cell? W p hc)).trans hc
theorem fr.ent (h : fr W w') {S : Nat → Prop} {v : Value} {e : Ent} (hv : EntV W S v e) : EntV w' S v e := hv.below h
end
/-- A world that extends W. -/
structure Ext (W : World) where
  w : World
  h : fr W w
instance {W : World} : Nonempty (Ext W) := ⟨⟨W, fr.refl⟩⟩
theorem Ext.cell {W : World} {p : Addr} {v : Value} (hc : W.cell? p = some v) (q : Ext W) : q.w.cell? p = some v := q.h.cell hc
theorem wp_region_quiet_ext {P : Program} {id : Nat} {Q : Exit → Act → World → Prop} {a : Act} {w : World} {l : List Oper} (hm : P.follows .mixedOrders = true) (hB : Region.lexB .any l.toArray = true)
    (h : wpQuiet P l.toArray (fun w' => ∃ p : Ext w, w' = p.w) (fun a' => ∀ w', (∃ p : Ext w, w' = p.w) → Q .normal a' w') l a) : (Code.region id l.toArray true).wp P Q a w :=
  wp_region_quiet (C := fun w' => ∃ p : Ext w, w' = p.w) hm hB ⟨⟨w.drew, fr.refl.drew⟩, rfl⟩ (by simpa using h)
theorem Ext.calls {P : Program} {f : FuncId} {args : Array Value} {W : World} {p : Ext W} {v : Value}
    (h : Calls P f args p.w fun e w' => e = .returned v ∧ Below p.w.heap.size p.w w') : Calls P f args p.w fun e w'' => e = .returned v ∧ ∃ q : Ext W, w'' = q.w :=
  h.mono fun _ _ ⟨he, hb⟩ => ⟨he, ⟨_, p.h.step hb⟩, rfl⟩
theorem Ext.calls_same {P : Program} {f : FuncId} {args : Array Value} {W : World} {p : Ext W} {v : Value}
    (h : Calls P f args p.w fun e w' => e = .returned v ∧ p.w = w') : Calls P f args p.w fun e w'' => e = .returned v ∧ ∃ q : Ext W, w'' = q.w :=
  h.mono fun _ _ ⟨he, hb⟩ => ⟨he, ⟨_, p.h⟩, hb.symm⟩
end Go.Proofs.Ytacdhkkelkplnaa
end
section
namespace Go.Proofs.Ytacdhkkelkplnaa
open Go.RowKit
attribute [local go_sem ↓] Go.wp_at_zero Go.wp_at_succ
theorem orderedFrom_step (es : List Ent) (k : Nat) (e : Ent) (h : es[k]? = some e) (p : Option Ent) :
    orderedFrom p (es.drop k) = (goodE e && ((match p with | none => true | some p => decide (cmpE p e < 0)) && orderedFrom (some e) (es.drop (k + 1)))) := by
  rw [List.drop_eq_getElem_cons (List.getElem?_eq_some_iff.1 h).1]
  have e1 := (List.getElem?_eq_some_iff.1 h).2
  rw [e1]
  cases p <;> simp [orderedFrom]
set_option maxRecDepth 100000 in
set_option maxHeartbeats 4000000 in
theorem ordered_any (S : Nat → Prop) (v : Value) (es : List Ent) (w : World) (hv : Ents w S v es) :
    Calls Try.prog 48 #[v] w fun r w' => r = .returned (.bool (orderedE es)) ∧ Below w.heap.size w w' := by
  obtain ⟨A, c, cs, rfl, hc, hcm, hl, hr, he⟩ := hv
  obtain ⟨n, hn⟩ : ∃ n, es.length = n := ⟨_, rfl⟩
  rw [hn] at hr hl ⊢
  have HN := Lib.hid hn
  clear hn
  go_enter Try.func48, Try.ntmps48
  go_wp2
  go_loopw [3, 4, 7] (fun _ _ t wr => ∃ k : Nat, k ≤ n ∧ t = .int .i64 k ∧ orderedE es = orderedFrom (if k = 0 then none else es[k - 1]?) (es.drop k) ∧ Below w.heap.size w wr) (fun _ _ t _ => n - (intOf t).toNat)
  case atStart => exact ⟨0, by omega, rfl, rfl, Below.refl _ _⟩
  case round =>
    obtain ⟨k, hk, rfl, hpre, hbel⟩ := hrel
    have hp := Lib.hid hpre
    clear hpre
    by_cases hkn : k < n
    · obtain ⟨e, hek⟩ : ∃ e, es[k]? = some e := ⟨_, List.getElem?_eq_getElem (by rw [HN.out]; exact hkn)⟩
      obtain ⟨b, o, kk, uu, rfl, c0, c1, c2, c3, b1, b2, hblt, _⟩ := (hr.below hbel).ent (he.below hbel) HN.out hek
      have hal : Below wr.heap.size wr (wr.alloc (.cells #[kk, .int .i64 e.seq, .bool e.dead, uu] 46)) := (Below.refl _ _).alloc (Nat.le_refl _) _
      have hev := Lib.hid ((show EntV wr S (.agg #[kk, .int .i64 e.seq, .bool e.dead, uu]) e from ⟨_, _, rfl, b1, b2⟩).below hal)
      have HSTEP := Lib.hid (orderedFrom_step es k e hek (if k = 0 then none else es[k - 1]?))
      have HX := Lib.hid hek
      obtain ⟨Ak, ck, rfl⟩ := slice_form b1
      obtain ⟨Au, cu, rfl⟩ := slice_form b2
      clear b1 b2 hek hal
      generalize hW0 : wr.alloc (.cells #[Value.slice Ak e.key.length ck, .int .i64 e.seq, .bool e.dead, Value.slice Au e.val.length cu] 46) = W0 at hev
      have fW0 : fr wr W0 := by rw [← hW0]; exact fr.refl.alloc _
      have F0 : ∀ q : Ext W0, q.w.cell? { block := wr.heap.size, off := 0 } = some (Value.slice Ak e.key.length ck) := fun q => q.cell (by rw [← hW0]; simp [go_sem])
      have F1 : ∀ q : Ext W0, q.w.cell? { block := wr.heap.size, off := 1 } = some (.int .i64 e.seq) := fun q => q.cell (by rw [← hW0]; simp [go_sem])
      have F2 : ∀ q : Ext W0, q.w.cell? { block := wr.heap.size, off := 2 } = some (.bool e.dead) := fun q => q.cell (by rw [← hW0]; simp [go_sem])
      have F3 : ∀ q : Ext W0, q.w.cell? { block := wr.heap.size, off := 3 } = some (Value.slice Au e.val.length cu) := fun q => q.cell (by rw [← hW0]; simp [go_sem])
      have HB := Lib.hid (hbel)
      have HHR := Lib.hid (hr.below hbel)
      have HHE := Lib.hid (he.below hbel)
      have CG : ∀ q : Ext W0, Calls Try.prog 65 #[.agg #[Value.slice Ak e.key.length ck, .int .i64 e.seq, .bool e.dead, Value.slice Au e.val.length cu]] q.w fun r w'' => r = .returned (.bool (goodE e)) ∧ ∃ q' : Ext W0, w'' = q'.w := fun q => Ext.calls (good_any S _ e _ (q.h.ent hev.out))
      go_wp2
      rcases hg : goodE e with _ | _
      · rw [hg] at CG
        have HG := Lib.hid hg
        clear hg
        (refine wp_region_quiet_ext (by kernel_rfl) (by kernel_rfl) ?_; (repeat (go_big_quiet_step ((go_at_call 65; exact CG _)))); refine wpQuiet_nil ?_; intro wq hw'; obtain ⟨⟨_, hq⟩, hw''⟩ := hw'; subst hw'')
        go_wp2
        refine bodyPost_ret (v := .bool _) (by simp [results, Try.results48, go_sem]; rfl) rfl ?_
        refine ⟨ret_bool ?_, HB.out.trans ((fW0.step hq).mono (HB.out.size))⟩
        have := hp.out
        rw [HSTEP.out, HG.out] at this
        rw [this]; rfl
      · rw [hg] at CG
        have HG := Lib.hid hg
        clear hg
        rcases Nat.eq_zero_or_pos k with h0 | h0
        · subst h0
          (refine wp_region_quiet_ext (by kernel_rfl) (by kernel_rfl) ?_; (repeat (go_big_quiet_step ((go_at_call 65; exact CG _)))); refine wpQuiet_nil ?_; intro wq hw'; obtain ⟨⟨_, hq⟩, hw''⟩ := hw'; subst hw'')
          go_wp2
          refine ⟨⟨1, by omega, rfl, ?_, HB.out.trans ((fW0.step hq).mono (HB.out.size))⟩, by simp [intOf]; omega⟩
          rw [hp.out, HSTEP.out, HG.out]
          simp [HX.out]
        · obtain ⟨j, rfl⟩ : ∃ j, k = j + 1 := ⟨k - 1, by omega⟩
          obtain ⟨e', hej⟩ : ∃ e, es[j]? = some e := ⟨_, List.getElem?_eq_getElem (by rw [HN.out]; omega)⟩
          obtain ⟨b', o', kk', uu', hE, d0, d1, d2, d3, b1, b2, _, _⟩ := HHR.out.ent HHE.out HN.out hej
          cases hE
          obtain ⟨Ak', ck', rfl⟩ := slice_form b1
          obtain ⟨Au', cu', rfl⟩ := slice_form b2
          have G0 : ∀ q : Ext W0, q.w.cell? { block := b, off := o + j * 4 } = _ := fun q => q.h.cell (fW0.cell d0)
          have G1 : ∀ q : Ext W0, q.w.cell? { block := b, off := o + j * 4 + 1 } = _ := fun q => q.h.cell (fW0.cell d1)
          have G2 : ∀ q : Ext W0, q.w.cell? { block := b, off := o + j * 4 + 2 } = _ := fun q => q.h.cell (fW0.cell d2)
          have G3 : ∀ q : Ext W0, q.w.cell? { block := b, off := o + j * 4 + 3 } = _ := fun q => q.h.cell (fW0.cell d3)
          have hev' := Lib.hid (fW0.ent (show EntV wr S (.agg #[Value.slice Ak' e'.key.length ck', .int .i64 e'.seq, .bool e'.dead, Value.slice Au' e'.val.length cu']) e' from ⟨_, _, rfl, b1, b2⟩))
          have CC : ∀ q : Ext W0, Calls Try.prog 47 #[.agg #[Value.slice Ak' e'.key.length ck', .int .i64 e'.seq, .bool e'.dead, Value.slice Au' e'.val.length cu'], .agg #[Value.slice Ak e.key.length ck, .int .i64 e.seq, .bool e.dead, Value.slice Au e.val.length cu]] q.w fun r w'' => r = .returned (.int .i64 (cmpE e' e)) ∧ ∃ q' : Ext W0, w'' = q'.w := fun q => Ext.calls (compare_any S S _ _ e' e _ (q.h.ent hev'.out) (q.h.ent hev.out))
          have HJ := Lib.hid (show (if j + 1 = 0 then none else es[j + 1 - 1]?) = some e' by simpa using hej)
          have hd0 : decide ((0:Int) < (j:Int) + 1) = true := by first | (simp; done) | (simp; omega)
          clear hej b1 b2 d0 d1 d2 d3
          rcases hcm : decide (0 ≤ cmpE e' e) with _ | _
          · (refine wp_region_quiet_ext (by kernel_rfl) (by kernel_rfl) ?_; (repeat (go_big_quiet_step (first | (go_at_call 65; exact CG _) | (go_at_call 47; exact CC _)))); refine wpQuiet_nil ?_; intro wq hw'; obtain ⟨⟨_, hq⟩, hw''⟩ := hw'; subst hw'')
            go_wp2
            refine ⟨⟨j + 2, by omega, by go_num, ?_, HB.out.trans ((fW0.step hq).mono (HB.out.size))⟩, by simp [intOf]; omega⟩
            have h2 := of_decide_eq_false hcm
            rw [hp.out, HSTEP.out, HG.out, HJ.out]
            simp [HX.out, show cmpE e' e < 0 by omega]
          · (refine wp_region_quiet_ext (by kernel_rfl) (by kernel_rfl) ?_; (repeat (go_big_quiet_step (first | (go_at_call 65; exact CG _) | (go_at_call 47; exact CC _)))); refine wpQuiet_nil ?_; intro wq hw'; obtain ⟨⟨_, hq⟩, hw''⟩ := hw'; subst hw'')
            go_wp2
            refine bodyPost_ret (v := .bool _) (by simp [results, Try.results48, go_sem]; rfl) rfl ?_
            refine ⟨ret_bool ?_, HB.out.trans ((fW0.step hq).mono (HB.out.size))⟩
            have := hp.out
            have h2 := of_decide_eq_true hcm
            rw [HSTEP.out, HG.out, HJ.out] at this
            rw [this]
            simp [show ¬ cmpE e' e < 0 by omega]
    · go_wp2
      refine bodyPost_ret (v := .bool _) (by simp [results, Try.results48, go_sem]; rfl) rfl ?_
      refine ⟨ret_bool ?_, hbel⟩
      have := hp.out
      rw [List.drop_eq_nil_of_le (by rw [HN.out]; omega)] at this
      rw [this]; cases (if k = 0 then none else es[k - 1]?) <;> rfl
end Go.Proofs.Ytacdhkkelkplnaa
end
section
namespace Go.Proofs.Ytacdhkkelkplnaa
open Go.RowKit
attribute [local go_sem ↓] Go.wp_at_zero Go.wp_at_succ
set_option maxRecDepth 100000 in
set_option maxHeartbeats 4000000 in
theorem rordered_any (S : Nat → Prop) (v : Value) (es : List Ent) (w : World) (hv : Ents w S v es) :
    Calls Try.prog 28 #[v] w fun r w' => r = .returned (.bool (orderedE es)) ∧ Below w.heap.size w w' := by
  obtain ⟨A, c, cs, rfl, hc, hcm, hl, hr, he⟩ := hv
  obtain ⟨n, hn⟩ : ∃ n, es.length = n := ⟨_, rfl⟩
  rw [hn] at hr hl ⊢
  have HN := Lib.hid hn
  clear hn
  go_enter Try.func28, Try.ntmps28
  go_wp2
  go_loopw [3, 6] (fun _ t wr => ∃ k : Nat, k ≤ n ∧ t = .int .i64 k ∧ orderedE es = orderedFrom (if k = 0 then none else es[k - 1]?) (es.drop k) ∧ Below w.heap.size w wr) (fun _ t _ => n - (intOf t).toNat)
  case atStart => exact ⟨0, by omega, rfl, rfl, Below.refl _ _⟩
  case round =>
    obtain ⟨k, hk, rfl, hpre, hbel⟩ := hrel
    have hp := Lib.hid hpre
    clear hpre
    by_cases hkn : k < n
    · obtain ⟨e, hek⟩ : ∃ e, es[k]? = some e := ⟨_, List.getElem?_eq_getElem (by rw [HN.out]; exact hkn)⟩
      obtain ⟨b, o, kk, uu, rfl, c0, c1, c2, c3, b1, b2, hblt, _⟩ := (hr.below hbel).ent (he.below hbel) HN.out hek
      have hev := Lib.hid (show EntV wr S (.agg #[kk, .int .i64 e.seq, .bool e.dead, uu]) e from ⟨_, _, rfl, b1, b2⟩)
      have HSTEP := Lib.hid (orderedFrom_step es k e hek (if k = 0 then none else es[k - 1]?))
      have HX := Lib.hid hek
      obtain ⟨Ak, ck, rfl⟩ := slice_form b1
      obtain ⟨Au, cu, rfl⟩ := slice_form b2
      clear b1 b2 hek
      have fW0 : fr wr wr := fr.refl
      have F0 : ∀ q : Ext wr, q.w.cell? { block := b, off := o + k * 4 } = _ := fun q => q.h.cell (fW0.cell c0)
      have F1 : ∀ q : Ext wr, q.w.cell? { block := b, off := o + k * 4 + 1 } = _ := fun q => q.h.cell (fW0.cell c1)
      have F2 : ∀ q : Ext wr, q.w.cell? { block := b, off := o + k * 4 + 2 } = _ := fun q => q.h.cell (fW0.cell c2)
      have F3 : ∀ q : Ext wr, q.w.cell? { block := b, off := o + k * 4 + 3 } = _ := fun q => q.h.cell (fW0.cell c3)
      have HB := Lib.hid (hbel)
      have HHR := Lib.hid (hr.below hbel)
      have HHE := Lib.hid (he.below hbel)
      have CG : ∀ q : Ext wr, Calls Try.prog 52 #[.agg #[Value.slice Ak e.key.length ck, .int .i64 e.seq, .bool e.dead, Value.slice Au e.val.length cu]] q.w fun r w'' => r = .returned (.bool (goodE e)) ∧ ∃ q' : Ext wr, w'' = q'.w := fun q => Ext.calls (rgood_any S _ e _ (q.h.ent hev.out))
      go_wp2
      rcases hg : goodE e with _ | _
      · rw [hg] at CG
        have HG := Lib.hid hg
        clear hg
        (refine wp_region_quiet_ext (by kernel_rfl) (by kernel_rfl) ?_; (repeat (go_big_quiet_step ((go_at_call 52; exact CG _)))); refine wpQuiet_nil ?_; intro wq hw'; obtain ⟨⟨_, hq⟩, hw''⟩ := hw'; subst hw'')
        go_wp2
        refine bodyPost_ret (v := .bool _) (by simp [results, Try.results28, go_sem]; rfl) rfl ?_
        refine ⟨ret_bool ?_, HB.out.trans ((fW0.step hq).mono (HB.out.size))⟩
        have := hp.out
        rw [HSTEP.out, HG.out] at this
        rw [this]; rfl
      · rw [hg] at CG
        have HG := Lib.hid hg
        clear hg
        rcases Nat.eq_zero_or_pos k with h0 | h0
        · subst h0
          simp only [Nat.zero_mul, Nat.add_zero] at F0 F1 F2 F3
          (refine wp_region_quiet_ext (by kernel_rfl) (by kernel_rfl) ?_; (repeat (go_big_quiet_step ((go_at_call 52; exact CG _)))); refine wpQuiet_nil ?_; intro wq hw'; obtain ⟨⟨_, hq⟩, hw''⟩ := hw'; subst hw'')
          go_wp2
          refine ⟨⟨1, by omega, rfl, ?_, HB.out.trans ((fW0.step hq).mono (HB.out.size))⟩, by simp [intOf]; omega⟩
          rw [hp.out, HSTEP.out, HG.out]
          simp [HX.out]
        · obtain ⟨j, rfl⟩ : ∃ j, k = j + 1 := ⟨k - 1, by omega⟩
          obtain ⟨e', hej⟩ : ∃ e, es[j]? = some e := ⟨_, List.getElem?_eq_getElem (by rw [HN.out]; omega)⟩
          obtain ⟨b', o', kk', uu', hE, d0, d1, d2, d3, b1, b2, _, _⟩ := HHR.out.ent HHE.out HN.out hej
          cases hE
          obtain ⟨Ak', ck', rfl⟩ := slice_form b1
          obtain ⟨Au', cu', rfl⟩ := slice_form b2
          have G0 : ∀ q : Ext wr, q.w.cell? { block := b, off := o + j * 4 } = _ := fun q => q.h.cell (fW0.cell d0)
          have G1 : ∀ q : Ext wr, q.w.cell? { block := b, off := o + j * 4 + 1 } = _ := fun q => q.h.cell (fW0.cell d1)
          have G2 : ∀ q : Ext wr, q.w.cell? { block := b, off := o + j * 4 + 2 } = _ := fun q => q.h.cell (fW0.cell d2)
          have G3 : ∀ q : Ext wr, q.w.cell? { block := b, off := o + j * 4 + 3 } = _ := fun q => q.h.cell (fW0.cell d3)
          have hev' := Lib.hid (fW0.ent (show EntV wr S (.agg #[Value.slice Ak' e'.key.length ck', .int .i64 e'.seq, .bool e'.dead, Value.slice Au' e'.val.length cu']) e' from ⟨_, _, rfl, b1, b2⟩))
          have CC : ∀ q : Ext wr, Calls Try.prog 30 #[.agg #[Value.slice Ak' e'.key.length ck', .int .i64 e'.seq, .bool e'.dead, Value.slice Au' e'.val.length cu'], .agg #[Value.slice Ak e.key.length ck, .int .i64 e.seq, .bool e.dead, Value.slice Au e.val.length cu]] q.w fun r w'' => r = .returned (.int .i64 (cmpE e' e)) ∧ ∃ q' : Ext wr, w'' = q'.w := fun q => Ext.calls (rcmp_any S S _ _ e' e _ (q.h.ent hev'.out) (q.h.ent hev.out))
          have HJ := Lib.hid (show (if j + 1 = 0 then none else es[j + 1 - 1]?) = some e' by simpa using hej)
          have hd0 : decide ((0:Int) < (j:Int) + 1) = true := by first | (simp; done) | (simp; omega)
          clear hej b1 b2 d0 d1 d2 d3
          rcases hcm : decide (0 ≤ cmpE e' e) with _ | _
          · (refine wp_region_quiet_ext (by kernel_rfl) (by kernel_rfl) ?_; (repeat (go_big_quiet_step (first | (go_at_call 52; exact CG _) | (go_at_call 30; exact CC _)))); refine wpQuiet_nil ?_; intro wq hw'; obtain ⟨⟨_, hq⟩, hw''⟩ := hw'; subst hw'')
            go_wp2
            refine ⟨⟨j + 2, by omega, by go_num, ?_, HB.out.trans ((fW0.step hq).mono (HB.out.size))⟩, by simp [intOf]; omega⟩
            have h2 := of_decide_eq_false hcm
            rw [hp.out, HSTEP.out, HG.out, HJ.out]
            simp [HX.out, show cmpE e' e < 0 by omega]
          · (refine wp_region_quiet_ext (by kernel_rfl) (by kernel_rfl) ?_; (repeat (go_big_quiet_step (first | (go_at_call 52; exact CG _) | (go_at_call 30; exact CC _)))); refine wpQuiet_nil ?_; intro wq hw'; obtain ⟨⟨_, hq⟩, hw''⟩ := hw'; subst hw'')
            go_wp2
            refine bodyPost_ret (v := .bool _) (by simp [results, Try.results28, go_sem]; rfl) rfl ?_
            refine ⟨ret_bool ?_, HB.out.trans ((fW0.step hq).mono (HB.out.size))⟩
            have := hp.out
            have h2 := of_decide_eq_true hcm
            rw [HSTEP.out, HG.out, HJ.out] at this
            rw [this]
            simp [show ¬ cmpE e' e < 0 by omega]
    · go_wp2
      refine bodyPost_ret (v := .bool _) (by simp [results, Try.results28, go_sem]; rfl) rfl ?_
      refine ⟨ret_bool ?_, hbel⟩
      have := hp.out
      rw [List.drop_eq_nil_of_le (by rw [HN.out]; omega)] at this
      rw [this]; cases (if k = 0 then none else es[k - 1]?) <;> rfl
end Go.Proofs.Ytacdhkkelkplnaa
end
section
namespace Go.Proofs.Ytacdhkkelkplnaa
open Go.RowKit
attribute [local go_sem ↓] Go.wp_at_zero Go.wp_at_succ
theorem strOfNums_bytes (bs : List UInt8) : strOfNums (bs.map fun b => (b.toNat : Int)) = ⟨bs.toArray⟩ := by
  have := bytesOf_bcell bs
  unfold Lib.bytesOf at this
  exact congrArg (fun l : List UInt8 => (⟨l.toArray⟩ : ByteArray)) this
theorem bequal_any (S S' : Nat → Prop) (v v' : Value) (xs ys : List UInt8) (w : World) (hx : Byt w S v xs) (hy : Byt w S' v' ys) :
    Calls Try.prog 25 #[v, v'] w fun e w' => e = .returned (.bool (decide (xs = ys))) ∧ w = w' := by
  refine (Try.bytes_Equal v v' (xs.map fun b => (b.toNat : Int)) (ys.map fun b => (b.toNat : Int)) w (by rw [strOfNums_bytes]; exact hx.convert) (by rw [strOfNums_bytes]; exact hy.convert)).mono ?_
  rintro r w' ⟨rfl, h⟩
  refine ⟨ret_bool ?_, h.symm⟩
  rw [bytesOf_bcell, bytesOf_bcell]
  rw [Bool.eq_iff_iff]
  simp
theorem Byt.lt {w : World} {S : Nat → Prop} {v : Value} {bs : List UInt8} (h : Byt w S v bs) : Byt w (fun i => i < w.heap.size) v bs := h.monoLt fun _ hi _ => hi
theorem Row.lt {w : World} {S : Nat → Prop} {A : Option Addr} {n size : Nat} {xs : List Value} (h : Row w S A n size xs) : Row w (fun i => i < w.heap.size) A n size xs :=
  ⟨h.1, fun hn => by
    obtain ⟨b, o, e, h1, hb, hc⟩ := h.2 hn
    exact ⟨b, o, e, hb, hb, hc⟩⟩
theorem Ents.lt {w : World} {S : Nat → Prop} {v : Value} {es : List Ent} (h : Ents w S v es) : Ents w (fun i => i < w.heap.size) v es := by
  obtain ⟨A, c, cs, e, h1, h2, h3, h4, h5⟩ := h
  exact ⟨A, c, cs, e, h1, h2, h3, h4.lt, h5.imp fun _ _ h => h.lt⟩
def thinC (mark : Int) (bottom : Bool) : List UInt8 → List Ent → List Ent
  | _, [] => []
  | a, e :: l => if e.seq ≤ mark then (if a = e.key then thinC mark bottom a l else if (e.dead && bottom) = true then thinC mark bottom e.key l else e :: thinC mark bottom e.key l) else e :: thinC mark bottom a l
theorem thinC_step {mark : Int} {bottom : Bool} (a : List UInt8) {es : List Ent} {k : Nat} {e : Ent} (h : es[k]? = some e) :
    thinC mark bottom a (es.drop k) = if e.seq ≤ mark then (if a = e.key then thinC mark bottom a (es.drop (k + 1)) else if (e.dead && bottom) = true then thinC mark bottom e.key (es.drop (k + 1)) else e :: thinC mark bottom e.key (es.drop (k + 1))) else e :: thinC mark bottom a (es.drop (k + 1)) := by
  rw [List.drop_eq_getElem_cons (List.getElem?_eq_some_iff.1 h).1, (List.getElem?_eq_some_iff.1 h).2]
  rfl
set_option maxRecDepth 100000 in
set_option maxHeartbeats 2000000 in
theorem thin_any (S : Nat → Prop) (v : Value) (es : List Ent) (mark : Int) (bottom : Bool) (w : World) (hv : Ents w S v es) :
    Calls Try.prog 24 #[v, .int .i64 mark, .bool bottom] w fun r w' => ∃ v', r = .returned (.tuple #[v', .int .i64 (if orderedE es then 0 else 30)]) ∧ Ents w' (fun i => w.heap.size ≤ i) v' (if orderedE es then thinC mark bottom [] es else []) ∧ Below w.heap.size w w' := by
  obtain ⟨i0, hi, hz0, hz1, hz2⟩ := info_parts info26
  have hby := Lib.hid hz2
  have hz1' := Lib.hid hz1
  clear hz2 hz1
  have HORD := Lib.hid (ordered_any S v es w hv)
  replace hv := hv.lt
  obtain ⟨S0, hS0⟩ : ∃ S0 : Nat → Prop, S0 = fun i => i < w.heap.size := ⟨_, rfl⟩
  rw [← hS0] at hv
  have HS0 := Lib.hid hS0
  clear hS0
  obtain ⟨A, c, cs, rfl, hc, hcm, hl, hr, he⟩ := hv
  obtain ⟨n, hn⟩ : ∃ n, es.length = n := ⟨_, rfl⟩
  rw [hn] at hr hl HORD ⊢
  have HN := Lib.hid hn
  clear hn
  rcases ho : orderedE es with _ | _
  · rw [ho] at HORD
    clear ho
    go_enter Try.func24, Try.ntmps24
    go_wp2_with (go_at_call 48; refine HORD.out.mono ?_; rintro r w1 ⟨rfl, hb1⟩)
    refine bodyPost_ret (v := .tuple #[_, _]) (by simp [results, Try.results24, go_sem]; exact ⟨rfl, rfl⟩) rfl ?_
    exact ⟨_, rfl, Ents.nil _ _, hb1⟩
  · rw [ho] at HORD
    clear ho
    go_enter Try.func24, Try.ntmps24
    go_wp2_with (go_at_call 48; refine HORD.out.mono ?_; rintro r w0 ⟨rfl, hb0⟩)
    go_loopw [8, 9, 11, 17] (fun v8 v9 _ t wr => ∃ k : Nat, ∃ a : List UInt8, ∃ ys : List Value, ∃ os : List Ent, k ≤ n ∧ t = .int .i64 k ∧ wr.ownsRow w.heap.size 46 4 v8 os.length ys ∧ EntCells wr (fresh w.heap.size v8) ys os ∧ Byt wr S0 v9 a ∧ thinC mark bottom [] es = os ++ thinC mark bottom a (es.drop k) ∧ os.length ≤ k ∧ Below w.heap.size w wr) (fun _ _ _ t _ => n - (intOf t).toNat)
    case atStart => exact ⟨0, [], [], [], by omega, rfl, World.ownsRow_nil _ _ _ _, trivial, Byt.nil _ _, rfl, by simp, hb0⟩
    case round =>
      obtain ⟨k, a, ys, os, hk, rfl, hown, hys, hah, hpre, hol, hbel⟩ := hrel
      by_cases hkn : k < n
      · obtain ⟨e, hek⟩ : ∃ e, es[k]? = some e := ⟨_, List.getElem?_eq_getElem (by rw [HN.out]; exact hkn)⟩
        obtain ⟨b, o, kk, uu, rfl, c0, c1, c2, c3, b1, b2, _, _⟩ := (hr.below hbel).ent (he.below hbel) HN.out hek
        obtain ⟨dd, hdd⟩ : ∃ d, e.dead = d := ⟨_, rfl⟩
        rw [hdd] at c2
        have HDD := Lib.hid hdd
        have HO := Lib.hid hown
        have HEK := Lib.hid hek
        have HST := Lib.hid (thinC_step (mark := mark) (bottom := bottom) a hek)
        have HPRE := Lib.hid hpre
        have hal : Below wr.heap.size wr (wr.alloc (.cells #[kk, .int .i64 e.seq, .bool dd, uu] 46)) := (Below.refl _ _).alloc (Nat.le_refl _) _
        have HB := Lib.hid (hbel.trans (hal.mono hbel.size))
        have hev := Lib.hid ((show EntV wr S0 (.agg #[kk, .int .i64 e.seq, .bool dd, uu]) e from ⟨_, _, by rw [hdd], b1, b2⟩).below hal)
        have HK := Lib.hid b1
        have HKA := Lib.hid (b1.below hal)
        have HAH := Lib.hid (hah.below hal)
        have HO1 := Lib.hid (own_below hown hal)
        have HYS := Lib.hid (hys.below hal)
        obtain ⟨Ak, ck, rfl⟩ := slice_form b1
        obtain ⟨Au, cu, rfl⟩ := slice_form b2
        obtain ⟨Aa, ca, rfl⟩ := slice_form hah
        clear hek hdd b1 b2 hown hpre hbel hah hys
        have HEQ := bequal_any S0 S0 _ _ a e.key _ HAH.out HKA.out
        by_cases hs : e.seq ≤ mark
        · by_cases hak : a = e.key
          · rw [decide_eq_true hak] at HEQ
            have HE := Lib.hid HEQ
            have HAK := Lib.hid hak
            clear HEQ hak
            go_wp2_with (go_at_call 25; refine HE.out.mono ?_; rintro r w1 ⟨rfl, rfl⟩)
            refine ⟨⟨k + 1, a, ys, os, by omega, by go_num, HO1.out, HYS.out, HAH.out, ?_, by omega, HB.out⟩, by simp [intOf]; omega⟩
            rw [HPRE.out, HST.out, if_pos hs, if_pos HAK.out]
          · rw [decide_eq_false hak] at HEQ
            have HE := Lib.hid HEQ
            clear HEQ
            by_cases hdb : (dd && bottom) = true
            · obtain ⟨rfl, rfl⟩ : dd = true ∧ bottom = true := by simpa using hdb
              go_wp2_with (go_at_call 25; refine HE.out.mono ?_; rintro r w1 ⟨rfl, rfl⟩)
              refine ⟨⟨k + 1, e.key, ys, os, by omega, by go_num, HO1.out, HYS.out, HKA.out, ?_, by omega, HB.out⟩, by simp [intOf]; omega⟩
              rw [HPRE.out, HST.out, if_pos hs, if_neg hak, HDD.out, if_pos (show (true && true) = true from rfl)]
            · have hdb2 := Lib.hid hdb
              clear hdb
              rcases dd with _ | _
              · go_wp2_with (first
                  | (go_at_call 25; refine HE.out.mono ?_; rintro r w1 ⟨rfl, rfl⟩)
                  | (go_at_call 51; refine (eclone_any S0 _ e _ hev.out).mono ?_; rintro r w1 ⟨v1, rfl, ⟨k', u', rfl, hk', hu'⟩, hb1⟩; obtain ⟨Ak, ck, rfl⟩ := slice_form hk'; obtain ⟨Au, cu, rfl⟩ := slice_form hu')
                  | (at_builtin; refine wpList_append_own_at _ rfl _ _ 41 rfl w.heap.size 46 i0 _ 4 64 Try.underlying41 hi hz0 hz1'.out hby.out rfl (by decide) _ _ _ rfl ((own_below HO1.out hb1).alloc _) ⟨w1.heap.size, 0, none⟩ 1 1 [.slice Ak e.key.length ck, .int .i64 e.seq, .bool e.dead, .slice Au e.val.length cu] rfl rfl (cell_four_new _ _ _ _ _ _) (by simp [Value.oneCell']) (by unfold maxLen; omega) (by omega) (by have := HB.out.size; have := hb1.size; simp; omega) ?_; intro v' w2 hown' hgrow _ hat))
                refine ⟨⟨k + 1, e.key, _, os ++ [e], by omega, by go_num, (by rw [List.length_append]; exact hown'), EntCells.push HO1.out HYS.out hb1 hk' hu' HB.out.size hgrow hat, ((HKA.out.below hb1).below ((Below.refl _ _).alloc (Nat.le_refl _) _)).push hgrow hat (fun i _ hs e => by have := HO1.out.lt i e; rw [HS0.out] at hs; omega) (fun i _ hs _ => hs), ?_, by simp; omega, ((HB.out.trans (hb1.mono HB.out.size)).alloc (by have := HB.out.size; have := hb1.size; omega) _).grown hgrow (by have := HB.out.size; have := hb1.size; simp; omega) (fun j e => (HO1.out.lt j e).1)⟩, by simp [intOf]; omega⟩
                rw [HPRE.out, HST.out, if_pos hs, if_neg hak, HDD.out]; simp
              · obtain rfl : bottom = false := by simpa using hdb2.out
                go_wp2_with (first
                  | (go_at_call 25; refine HE.out.mono ?_; rintro r w1 ⟨rfl, rfl⟩)
                  | (go_at_call 51; refine (eclone_any S0 _ e _ hev.out).mono ?_; rintro r w1 ⟨v1, rfl, ⟨k', u', rfl, hk', hu'⟩, hb1⟩; obtain ⟨Ak, ck, rfl⟩ := slice_form hk'; obtain ⟨Au, cu, rfl⟩ := slice_form hu')
                  | (at_builtin; refine wpList_append_own_at _ rfl _ _ 41 rfl w.heap.size 46 i0 _ 4 64 Try.underlying41 hi hz0 hz1'.out hby.out rfl (by decide) _ _ _ rfl ((own_below HO1.out hb1).alloc _) ⟨w1.heap.size, 0, none⟩ 1 1 [.slice Ak e.key.length ck, .int .i64 e.seq, .bool e.dead, .slice Au e.val.length cu] rfl rfl (cell_four_new _ _ _ _ _ _) (by simp [Value.oneCell']) (by unfold maxLen; omega) (by omega) (by have := HB.out.size; have := hb1.size; simp; omega) ?_; intro v' w2 hown' hgrow _ hat))
                refine ⟨⟨k + 1, e.key, _, os ++ [e], by omega, by go_num, (by rw [List.length_append]; exact hown'), EntCells.push HO1.out HYS.out hb1 hk' hu' HB.out.size hgrow hat, ((HKA.out.below hb1).below ((Below.refl _ _).alloc (Nat.le_refl _) _)).push hgrow hat (fun i _ hs e => by have := HO1.out.lt i e; rw [HS0.out] at hs; omega) (fun i _ hs _ => hs), ?_, by simp; omega, ((HB.out.trans (hb1.mono HB.out.size)).alloc (by have := HB.out.size; have := hb1.size; omega) _).grown hgrow (by have := HB.out.size; have := hb1.size; simp; omega) (fun j e => (HO1.out.lt j e).1)⟩, by simp [intOf]; omega⟩
                rw [HPRE.out, HST.out, if_pos hs, if_neg hak, HDD.out]; simp
        · go_wp2_with (first
            | (go_at_call 25; refine HE.out.mono ?_; rintro r w1 ⟨rfl, rfl⟩)
            | (go_at_call 51; refine (eclone_any S0 _ e _ hev.out).mono ?_; rintro r w1 ⟨v1, rfl, ⟨k', u', rfl, hk', hu'⟩, hb1⟩; obtain ⟨Ak, ck, rfl⟩ := slice_form hk'; obtain ⟨Au, cu, rfl⟩ := slice_form hu')
            | (at_builtin; refine wpList_append_own_at _ rfl _ _ 41 rfl w.heap.size 46 i0 _ 4 64 Try.underlying41 hi hz0 hz1'.out hby.out rfl (by decide) _ _ _ rfl ((own_below HO1.out hb1).alloc _) ⟨w1.heap.size, 0, none⟩ 1 1 [.slice Ak e.key.length ck, .int .i64 e.seq, .bool e.dead, .slice Au e.val.length cu] rfl rfl (cell_four_new _ _ _ _ _ _) (by simp [Value.oneCell']) (by unfold maxLen; omega) (by omega) (by have := HB.out.size; have := hb1.size; simp; omega) ?_; intro v' w2 hown' hgrow _ hat))
          refine ⟨⟨k + 1, a, _, os ++ [e], by omega, by go_num, (by rw [List.length_append]; exact hown'), EntCells.push HO1.out HYS.out hb1 hk' hu' HB.out.size hgrow hat, ((HAH.out.below hb1).below ((Below.refl _ _).alloc (Nat.le_refl _) _)).push hgrow hat (fun i _ hs e => by have := HO1.out.lt i e; rw [HS0.out] at hs; omega) (fun i _ hs _ => hs), ?_, by simp; omega, ((HB.out.trans (hb1.mono HB.out.size)).alloc (by have := HB.out.size; have := hb1.size; omega) _).grown hgrow (by have := HB.out.size; have := hb1.size; simp; omega) (fun j e => (HO1.out.lt j e).1)⟩, by simp [intOf]; omega⟩
          rw [HPRE.out, HST.out, if_neg (show ¬ e.seq ≤ mark by omega)]; simp
      · obtain rfl : k = n := by omega
        have HO := Lib.hid hown
        have HP := Lib.hid hpre
        clear hown hpre
        go_wp2
        refine bodyPost_ret (v := .tuple #[_, _]) (by simp [results, Try.results24, go_sem]; exact ⟨rfl, rfl⟩) rfl ?_
        refine ⟨_, rfl, ?_, hbel⟩
        have e1 : es.drop k = [] := List.drop_eq_nil_of_le (by rw [HN.out]; exact Nat.le_refl _)
        rw [HP.out, e1, thinC, List.append_nil]
        exact Ents.of_own HO.out (hys.mono fun i hi => hi.1) (fun i hi _ => hi) (by omega)
end Go.Proofs.Ytacdhkkelkplnaa
end
