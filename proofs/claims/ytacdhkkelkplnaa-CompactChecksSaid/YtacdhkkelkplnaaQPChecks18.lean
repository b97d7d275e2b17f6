/-
law 14: CompactChecks, CompactRuns.
-/
import Derived.Test.YtacdhkkelkplnaaQPChecks17
import Derived.Test.YtacdhkkelkplnaaQPChecks12
section
namespace Go.Proofs.Ytacdhkkelkplnaa
open Go.RowKit Go.ChangeShapes Go.WideShapes Go.Deep
def OptV (w : World) (S : Nat → Prop) (v : Value) (a : Int × Int × Int × Int × List Int) : Prop := ∃ kv, v = .agg #[.int .i64 a.1, .int .i64 a.2.1, .int .i64 a.2.2.1, .int .i64 a.2.2.2.1, kv] ∧ IntsIn w S kv a.2.2.2.2 ∧ a.2.2.2.2.length * 8 ≤ 140737488355328
def HowV (v : Value) (a : Int × Int × Bool) : Prop := v = .agg #[.int .i64 a.1, .int .i64 a.2.1, .bool a.2.2] ∧ (Lit.int .i64 a.1).wf = true ∧ (Lit.int .i64 a.2.1).wf = true
theorem cells_b' : Try.prog.cellsOf 4 = 1 := by kernel_rfl
theorem cells_op : Try.prog.cellsOf 24 = 5 := by kernel_rfl
theorem cells_hw : Try.prog.cellsOf 32 = 3 := by kernel_rfl
section
variable {H : Type} {enc : TypeId × Value → H} {w : World} {base : Nat} {held : Bool} {spare : Nat → Bool}
set_option maxRecDepth 100000 in
theorem arg_opts {r : Reach} {b0 : Nat} {v : Value} {d : DataW H} {ps : List MemPlace} (hval : Value.okWide Try.prog w r b0 24 v) (hd : DataW.Trod enc Try.prog w base spare held 24 v d ps) (hw : ∀ n ∈ d.weights Try.prog 24, n ≤ reachBytes) :
    ∃ a, OptV w (fun _ => True) v a := by
  obtain ⟨n, h⟩ := hd
  have hv : ∃ cs, v = .agg cs := by
    unfold Value.okWide at hval
    rw [Try.underlying24] at hval
    obtain ⟨cs, e, _⟩ := hval
    exact ⟨cs, e⟩
  obtain ⟨cs, rfl⟩ := hv
  replace h : DataW.trod enc Try.prog w base spare held n 24 cs.toList = some (d, ps) := h
  obtain ⟨y0, y1, y2, y3, y4, m, hx, hl, h0, h1, h2, h3, h4⟩ := trod_struct5 Try.underlying24 h
  injection hx with hx1 hx2
  subst hx1
  rw [cells_op] at hl
  obtain ⟨l⟩ := cs
  simp only at hl h0 h1 h2 h3 h4 ⊢
  match l, hl with
  | [c0, c1, c2, c3, c4], _ =>
    simp only [cells_is, cells_i, List.drop_zero, List.drop_succ_cons, List.take_succ_cons, List.take_zero] at h0 h1 h2 h3 h4
    simp only [DataW.weights, Try.underlying24, List.map_cons, List.map_nil, DataW.weightsEach, List.append_nil, List.mem_append] at hw
    obtain ⟨a, ha, _, _⟩ := DataW.trod_int Try.underlying3 h0
    obtain ⟨b, hb, _, _⟩ := DataW.trod_int Try.underlying3 h1
    obtain ⟨c, hc, _, _⟩ := DataW.trod_int Try.underlying3 h2
    obtain ⟨e, he, _, _⟩ := DataW.trod_int Try.underlying3 h3
    obtain ⟨zs, hz, hz8, _⟩ := open_zs h4 (fun n hn => hw n (.inr (.inr (.inr (.inr hn)))))
    obtain rfl : c0 = .int .i64 a := by simpa using ha
    obtain rfl : c1 = .int .i64 b := by simpa using hb
    obtain rfl : c2 = .int .i64 c := by simpa using hc
    obtain rfl : c3 = .int .i64 e := by simpa using he
    exact ⟨(a, b, c, e, zs), _, rfl, hz, hz8⟩
set_option maxRecDepth 100000 in
theorem arg_how {r : Reach} {b0 : Nat} {v : Value} {d : DataW H} {ps : List MemPlace} (hval : Value.okWide Try.prog w r b0 32 v) (hd : DataW.Trod enc Try.prog w base spare held 32 v d ps) :
    ∃ a, HowV v a := by
  obtain ⟨n, h⟩ := hd
  have hv : ∃ cs, v = .agg cs := by
    unfold Value.okWide at hval
    rw [Try.underlying32] at hval
    obtain ⟨cs, e, _⟩ := hval
    exact ⟨cs, e⟩
  obtain ⟨cs, rfl⟩ := hv
  replace h : DataW.trod enc Try.prog w base spare held n 32 cs.toList = some (d, ps) := h
  obtain ⟨y0, y1, y2, m, hx, hl, h0, h1, h2⟩ := trod_struct3 Try.underlying32 h
  rw [cells_hw] at hl
  obtain ⟨l⟩ := cs
  simp only at hl h0 h1 h2 ⊢
  match l, hl with
  | [c0, c1, c2], _ =>
    simp only [cells_b', cells_i, List.drop_zero, List.drop_succ_cons, List.take_succ_cons, List.take_zero] at h0 h1 h2
    obtain ⟨a, ha, _, wa⟩ := DataW.trod_int Try.underlying3 h0
    obtain ⟨b, hb, _, wb⟩ := DataW.trod_int Try.underlying3 h1
    obtain ⟨c, hc, _⟩ := DataW.trod_bool Try.underlying4 h2
    obtain rfl : c0 = .int .i64 a := by simpa using ha
    obtain rfl : c1 = .int .i64 b := by simpa using hb
    obtain rfl : c2 = .bool c := by simpa using hc
    exact ⟨(a, b, c), rfl, wa, wb⟩
end
end Go.Proofs.Ytacdhkkelkplnaa
end
section
namespace Go.Proofs.Ytacdhkkelkplnaa
open Go.RowKit Go.BigFrame
attribute [local go_sem ↓] Go.wp_at_zero Go.wp_at_succ
set_option maxRecDepth 100000 in
set_option maxHeartbeats 2000000 in
theorem checksLaw (v : Value) (a : Int × Int × Int × Int × List Int) (w : World) (hv : OptV w (fun _ => True) v a) :
    Calls Try.prog 3 #[v] w fun r w' => r = .returned (.bool true) ∧ Below w.heap.size w w' := by
  obtain ⟨m, s, b, f, zs⟩ := a
  obtain ⟨kv, rfl, hz, hl⟩ := hv
  simp only at hz hl ⊢
  obtain ⟨A, c, rfl, h1, h2, hr⟩ := hz
  obtain ⟨n, hn⟩ : ∃ n, zs.length = n := ⟨_, rfl⟩
  have HZ : Hid (IntsIn w (fun _ => True) (.slice A n c) zs) := Lib.hid ⟨A, c, by rw [hn], h1, h2, hr⟩
  rw [hn] at hl h1 h2 ⊢
  have HN := Lib.hid hn
  have hal : fr w ((w.alloc (.cells #[.int .i64 m, .int .i64 s, .int .i64 b, .int .i64 f, .slice A n c] 24)).alloc (.cells #[] 3)) := fr.alloc (fr.alloc fr.refl _) _
  have P0 : ((w.alloc (.cells #[.int .i64 m, .int .i64 s, .int .i64 b, .int .i64 f, .slice A n c] 24)).alloc (.cells #[] 3)).heap[w.heap.size]? = some (.cells #[.int .i64 m, .int .i64 s, .int .i64 b, .int .i64 f, .slice A n c] 24 (0, 0)) := (Below.heap_alloc _ _ _ (by simp)).trans (heap_alloc_new w _)
  have HL0 : Hid (((w.alloc (.cells #[.int .i64 m, .int .i64 s, .int .i64 b, .int .i64 f, .slice A n c] 24)).alloc (.cells #[] 3)).ownsRow (w.heap.size + 1) 3 1 (.slice (some ⟨w.heap.size + 1, 0, none⟩) 0 0) 0 []) := Lib.hid (by simpa using lit0i (w.alloc (.cells #[.int .i64 m, .int .i64 s, .int .i64 b, .int .i64 f, .slice A n c] 24)))
  clear hn hr
  go_enter Try.func3, Try.ntmps3
  go_wp2_with (at_builtin; refine wpList_append_ints rfl _ _ rfl (w.heap.size + 1) _ _ rfl rfl (fun _ => True) zs HL0.out (HZ.out.below hal) (by rw [HN.out]; exact hl) (by simp) ?_; intro v2 w2 hown hgrow; rw [HN.out] at hown; obtain ⟨A2, c2, rfl⟩ := own_form hown; have hg2 : World.grownBy _ w2 (some (w.heap.size + 1)) := hgrow; have p2 := (hg2.block w.heap.size (by simp; omega) (by simp)).trans P0; have fz := frozen_of_row w2 _ 4 _ _ p2; have q4 := cell_of_row w2 _ 4 _ _ _ p2)
  have p3 : (w2.setCell ⟨w.heap.size, 4, none⟩ (.slice A2 n c2)).heap[w.heap.size]? = some (.cells #[.int .i64 m, .int .i64 s, .int .i64 b, .int .i64 f, .slice A2 n c2] 24 (0, 0)) := heap_setCell_same w2 _ _ _ _ _ p2
  have hf2 : fr w w2 := RowKit.Below.grown hal hg2 hal.size (fun j e => by injection e with e; omega)
  have hf3 : fr w (w2.setCell ⟨w.heap.size, 4, none⟩ (.slice A2 n c2)) := RowKit.Below.setCell hf2 (Nat.le_refl _) _
  generalize w2.setCell ⟨w.heap.size, 4, none⟩ (.slice A2 n c2) = w3 at p3 hf3 ⊢
  have HF3 := Lib.hid hf3
  have F0 : ∀ q : Ext w3, q.w.cell? ⟨w.heap.size, 0, none⟩ = some (.int .i64 m) := fun q => q.h.cell (cell_of_row w3 _ 0 _ _ _ p3)
  have F1 : ∀ q : Ext w3, q.w.cell? ⟨w.heap.size, 1, none⟩ = some (.int .i64 s) := fun q => q.h.cell (cell_of_row w3 _ 1 _ _ _ p3)
  have F2 : ∀ q : Ext w3, q.w.cell? ⟨w.heap.size, 2, none⟩ = some (.int .i64 b) := fun q => q.h.cell (cell_of_row w3 _ 2 _ _ _ p3)
  have F3 : ∀ q : Ext w3, q.w.cell? ⟨w.heap.size, 3, none⟩ = some (.int .i64 f) := fun q => q.h.cell (cell_of_row w3 _ 3 _ _ _ p3)
  have F4 : ∀ q : Ext w3, q.w.cell? ⟨w.heap.size, 4, none⟩ = some (.slice A2 n c2) := fun q => q.h.cell (cell_of_row w3 _ 4 _ _ _ p3)
  obtain ⟨x, hx⟩ : ∃ x, chk m s b f n = x := ⟨_, rfl⟩
  have CW : Hid (∀ q : Ext w3, Calls Try.prog 7 #[] q.w fun r w'' => r = .returned (.bool true) ∧ ∃ q' : Ext w3, w'' = q'.w) := Lib.hid fun q => Ext.calls (wakes_any q.w)
  have CA : Hid (∀ q : Ext w3, Calls Try.prog 8 #[.agg #[.int .i64 m, .int .i64 s, .int .i64 b, .int .i64 f, .slice A2 n c2]] q.w fun r w'' => r = .returned (.int .i64 x) ∧ ∃ q' : Ext w3, w'' = q'.w) := Lib.hid fun q => Ext.calls (by rw [← hx]; exact check_any _ _ _ _ _ _ _ q.w)
  have CB : Hid (∀ q : Ext w3, Calls Try.prog 9 #[.agg #[.int .i64 m, .int .i64 s, .int .i64 b, .int .i64 f, .slice A2 n c2]] q.w fun r w'' => r = .returned (.int .i64 x) ∧ ∃ q' : Ext w3, w'' = q'.w) := Lib.hid fun q => Ext.calls (by rw [← hx]; exact rcheck_any _ _ _ _ _ _ _ q.w)
  clear hx hf2 hf3 p2 p3 hown hgrow hg2 fz q4
  (refine wp_region_quiet_ext (by kernel_rfl) (by kernel_rfl) ?_; (repeat (go_big_quiet_step (first
    | (go_at_call 7; exact CW.out _)
    | (go_at_call 8; exact CA.out _)
    | (go_at_call 9; exact CB.out _)))); refine wpQuiet_nil ?_; intro wq hw'; obtain ⟨⟨_, hq⟩, hw''⟩ := hw'; subst hw'')
  go_wp2
  refine bodyPost_ret (v := .bool true) (by simp [results, Try.results3, go_sem]) rfl ?_
  exact ⟨rfl, fr.step HF3.out hq⟩
end Go.Proofs.Ytacdhkkelkplnaa
end
