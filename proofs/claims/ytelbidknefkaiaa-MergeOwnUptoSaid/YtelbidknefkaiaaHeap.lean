/-
merge's heap: the closure, push, pop.
-/
import Derived.Test.YtelbidknefkaiaaVisP
namespace Go.Proofs.Ytelbidknefkaiaa
open Go.RowKit Go.BigFrame
attribute [local go_sem ↓] Go.wp_at_zero Go.wp_at_succ

theorem Ents.head {w : World} {S : Nat → Prop} {v : Value} {e : Ent} {l : List Ent} (h : Ents w S v (e :: l)) :
    ∃ b o c k u, v = .slice (some ⟨b, o, none⟩) (l.length + 1) c ∧ w.cell? ⟨b, o, none⟩ = some k ∧ w.cell? ⟨b, o + 1, none⟩ = some (.int .i64 e.seq) ∧ w.cell? ⟨b, o + 2, none⟩ = some (.bool e.dead) ∧ w.cell? ⟨b, o + 3, none⟩ = some u ∧ Byt w S k e.key ∧ Byt w S u e.val := by
  obtain ⟨A, c, cs, rfl, hc, hcm, hl, hr, he⟩ := h
  obtain ⟨b, o, k, u, rfl, c0, c1, c2, c3, b1, b2, _, _⟩ := hr.ent he rfl (i := 0) (e := e) rfl
  exact ⟨b, o, c, k, u, by simp, by simpa using c0, by simpa using c1, by simpa using c2, by simpa using c3, b1, b2⟩

set_option maxRecDepth 100000 in
set_option maxHeartbeats 2000000 in
theorem mclos_any (S S' : Nat → Prop) (v v' : Value) (a b : Ent) (la lb : List Ent) (w : World) (hv : Ents w S v (a :: la)) (hv' : Ents w S' v' (b :: lb)) :
    Calls Try.prog 42 #[v, v'] w fun r w' => r = .returned (.int .i64 (cmpE a b)) ∧ Below w.heap.size w w' := by
  obtain ⟨b1, o1, c1, k1, u1, rfl, x0, x1, x2, x3, y1, y2⟩ := hv.head
  obtain ⟨b2, o2, c2, k2, u2, rfl, z0, z1, z2, z3, t1, t2⟩ := hv'.head
  have F0 : ∀ q : Ext w, q.w.cell? { block := b1, off := o1 } = _ := fun q => q.h.cell x0
  have F1 : ∀ q : Ext w, q.w.cell? { block := b1, off := o1 + 1 } = _ := fun q => q.h.cell x1
  have F2 : ∀ q : Ext w, q.w.cell? { block := b1, off := o1 + 2 } = _ := fun q => q.h.cell x2
  have F3 : ∀ q : Ext w, q.w.cell? { block := b1, off := o1 + 3 } = _ := fun q => q.h.cell x3
  have G0 : ∀ q : Ext w, q.w.cell? { block := b2, off := o2 } = _ := fun q => q.h.cell z0
  have G1 : ∀ q : Ext w, q.w.cell? { block := b2, off := o2 + 1 } = _ := fun q => q.h.cell z1
  have G2 : ∀ q : Ext w, q.w.cell? { block := b2, off := o2 + 2 } = _ := fun q => q.h.cell z2
  have G3 : ∀ q : Ext w, q.w.cell? { block := b2, off := o2 + 3 } = _ := fun q => q.h.cell z3
  have CC : ∀ q : Ext w, Calls Try.prog 38 #[.agg #[k1, .int .i64 a.seq, .bool a.dead, u1], .agg #[k2, .int .i64 b.seq, .bool b.dead, u2]] q.w fun r w'' => r = .returned (.int .i64 (cmpE a b)) ∧ ∃ q' : Ext w, w'' = q'.w := fun q => Ext.calls (compare_any S S' _ _ a b _ (q.h.ent ⟨_, _, rfl, y1, y2⟩) (q.h.ent ⟨_, _, rfl, t1, t2⟩))
  clear hv hv' x0 x1 x2 x3 z0 z1 z2 z3 y1 y2 t1 t2
  go_enter Try.func42, Try.ntmps42
  go_wp2
  (refine wp_region_quiet_ext (by kernel_rfl) (by kernel_rfl) ?_; (repeat (go_big_quiet_step ((go_at_call 38; exact CC _)))); refine wpQuiet_nil ?_; intro wq hw'; obtain ⟨⟨_, hq⟩, hw''⟩ := hw'; subst hw'')
  go_wp2
  refine bodyPost_ret (v := .int .i64 _) (by simp [results, Try.results42, go_sem]; rfl) rfl ?_
  exact ⟨rfl, hq⟩

end Go.Proofs.Ytelbidknefkaiaa
