/-
law 14: CompactRuns.
-/
import Derived.Test.YtacdhkkelkplnaaQPRuns17
import Derived.Test.YtacdhkkelkplnaaQPRuns12
import Derived.Test.YtacdhkkelkplnaaQPRuns11
section
namespace Go.Proofs.Ytacdhkkelkplnaa
open Go.RowKit Go.ChangeShapes Go.WideShapes Go.Deep
def OptV (w : World) (S : Nat → Prop) (v : Value) (a : Int × Int × Int × Int × List Int) : Prop := ∃ kv, v = .agg #[.int .i64 a.1, .int .i64 a.2.1, .int .i64 a.2.2.1, .int .i64 a.2.2.2.1, kv] ∧ IntsIn w S kv a.2.2.2.2 ∧ a.2.2.2.2.length * 8 ≤ 140737488355328
def HowV (v : Value) (a : Int × Int × Bool) : Prop := v = .agg #[.int .i64 a.1, .int .i64 a.2.1, .bool a.2.2] ∧ (Lit.int .i64 a.1).wf = true ∧ (Lit.int .i64 a.2.1).wf = true
theorem cells_b' : Try.prog.cellsOf 4 = 1 := by kernel_rfl
theorem cells_op : Try.prog.cellsOf 24 = 5 := by kernel_rfl
theorem cells_hw : Try.prog.cellsOf 32 = 3 := by kernel_rfl
section
variable {H : Type} {enc : TypeId × Value → H} {w : World} {base : Nat} {held : Bool} {spare : Nat → Bool}
set_option maxRecDepth 100000 in
theorem arg_opts {r : Reach} {b0 : Nat} {v : Value} {d : DataW H} {ps : List MemPlace} (hval : Value.okWide Try.prog w r b0 24 v) (hd : DataW.Trod enc Try.prog w base spare held 24 v d ps) (hw : ∀ n ∈ d.weights Try.prog 24, n ≤ reachBytes) :
    ∃ a, OptV w (fun _ => True) v a := by
  obtain ⟨n, h⟩ := hd
  have hv : ∃ cs, v = .agg cs := by
    unfold Value.okWide at hval
    rw [Try.underlying24] at hval
    obtain ⟨cs, e, _⟩ := hval
    exact ⟨cs, e⟩
  obtain ⟨cs, rfl⟩ := hv
  replace h : DataW.trod enc Try.prog w base spare held n 24 cs.toList = some (d, ps) := h
  obtain ⟨y0, y1, y2, y3, y4, m, hx, hl, h0, h1, h2, h3, h4⟩ := trod_struct5 Try.underlying24 h
  injection hx with hx1 hx2
  subst hx1
  rw [cells_op] at hl
  obtain ⟨l⟩ := cs
  simp only at hl h0 h1 h2 h3 h4 ⊢
  match l, hl with
  | [c0, c1, c2, c3, c4], _ =>
    simp only [cells_is, cells_i, List.drop_zero, List.drop_succ_cons, List.take_succ_cons, List.take_zero] at h0 h1 h2 h3 h4
    simp only [DataW.weights, Try.underlying24, List.map_cons, List.map_nil, DataW.weightsEach, List.append_nil, List.mem_append] at hw
    obtain ⟨a, ha, _, _⟩ := DataW.trod_int Try.underlying3 h0
    obtain ⟨b, hb, _, _⟩ := DataW.trod_int Try.underlying3 h1
    obtain ⟨c, hc, _, _⟩ := DataW.trod_int Try.underlying3 h2
    obtain ⟨e, he, _, _⟩ := DataW.trod_int Try.underlying3 h3
    obtain ⟨zs, hz, hz8, _⟩ := open_zs h4 (fun n hn => hw n (.inr (.inr (.inr (.inr hn)))))
    obtain rfl : c0 = .int .i64 a := by simpa using ha
    obtain rfl : c1 = .int .i64 b := by simpa using hb
    obtain rfl : c2 = .int .i64 c := by simpa using hc
    obtain rfl : c3 = .int .i64 e := by simpa using he
    exact ⟨(a, b, c, e, zs), _, rfl, hz, hz8⟩
set_option maxRecDepth 100000 in
theorem arg_how {r : Reach} {b0 : Nat} {v : Value} {d : DataW H} {ps : List MemPlace} (hval : Value.okWide Try.prog w r b0 32 v) (hd : DataW.Trod enc Try.prog w base spare held 32 v d ps) :
    ∃ a, HowV v a := by
  obtain ⟨n, h⟩ := hd
  have hv : ∃ cs, v = .agg cs := by
    unfold Value.okWide at hval
    rw [Try.underlying32] at hval
    obtain ⟨cs, e, _⟩ := hval
    exact ⟨cs, e⟩
  obtain ⟨cs, rfl⟩ := hv
  replace h : DataW.trod enc Try.prog w base spare held n 32 cs.toList = some (d, ps) := h
  obtain ⟨y0, y1, y2, m, hx, hl, h0, h1, h2⟩ := trod_struct3 Try.underlying32 h
  rw [cells_hw] at hl
  obtain ⟨l⟩ := cs
  simp only at hl h0 h1 h2 ⊢
  match l, hl with
  | [c0, c1, c2], _ =>
    simp only [cells_b', cells_i, List.drop_zero, List.drop_succ_cons, List.take_succ_cons, List.take_zero] at h0 h1 h2
    obtain ⟨a, ha, _, wa⟩ := DataW.trod_int Try.underlying3 h0
    obtain ⟨b, hb, _, wb⟩ := DataW.trod_int Try.underlying3 h1
    obtain ⟨c, hc, _⟩ := DataW.trod_bool Try.underlying4 h2
    obtain rfl : c0 = .int .i64 a := by simpa using ha
    obtain rfl : c1 = .int .i64 b := by simpa using hb
    obtain rfl : c2 = .bool c := by simpa using hc
    exact ⟨(a, b, c), rfl, wa, wb⟩
end
end Go.Proofs.Ytacdhkkelkplnaa
end
section
namespace Go.Proofs.Ytacdhkkelkplnaa
open Go.RowKit Go.BigFrame
attribute [local go_sem ↓] Go.wp_at_zero Go.wp_at_succ
set_option maxRecDepth 100000 in
set_option maxHeartbeats 2000000 in
theorem checksLaw (v : Value) (a : Int × Int × Int × Int × List Int) (w : World) (hv : OptV w (fun _ => True) v a) :
    Calls Try.prog 3 #[v] w fun r w' => r = .returned (.bool true) ∧ Below w.heap.size w w' := by
  obtain ⟨m, s, b, f, zs⟩ := a
  obtain ⟨kv, rfl, hz, hl⟩ := hv
  simp only at hz hl ⊢
  obtain ⟨A, c, rfl, h1, h2, hr⟩ := hz
  obtain ⟨n, hn⟩ : ∃ n, zs.length = n := ⟨_, rfl⟩
  have HZ : Hid (IntsIn w (fun _ => True) (.slice A n c) zs) := Lib.hid ⟨A, c, by rw [hn], h1, h2, hr⟩
  rw [hn] at hl h1 h2 ⊢
  have HN := Lib.hid hn
  have hal : fr w ((w.alloc (.cells #[.int .i64 m, .int .i64 s, .int .i64 b, .int .i64 f, .slice A n c] 24)).alloc (.cells #[] 3)) := fr.alloc (fr.alloc fr.refl _) _
  have P0 : ((w.alloc (.cells #[.int .i64 m, .int .i64 s, .int .i64 b, .int .i64 f, .slice A n c] 24)).alloc (.cells #[] 3)).heap[w.heap.size]? = some (.cells #[.int .i64 m, .int .i64 s, .int .i64 b, .int .i64 f, .slice A n c] 24 (0, 0)) := (Below.heap_alloc _ _ _ (by simp)).trans (heap_alloc_new w _)
  have HL0 : Hid (((w.alloc (.cells #[.int .i64 m, .int .i64 s, .int .i64 b, .int .i64 f, .slice A n c] 24)).alloc (.cells #[] 3)).ownsRow (w.heap.size + 1) 3 1 (.slice (some ⟨w.heap.size + 1, 0, none⟩) 0 0) 0 []) := Lib.hid (by simpa using lit0i (w.alloc (.cells #[.int .i64 m, .int .i64 s, .int .i64 b, .int .i64 f, .slice A n c] 24)))
  clear hn hr
  go_enter Try.func3, Try.ntmps3
  go_wp2_with (at_builtin; refine wpList_append_ints rfl _ _ rfl (w.heap.size + 1) _ _ rfl rfl (fun _ => True) zs HL0.out (HZ.out.below hal) (by rw [HN.out]; exact hl) (by simp) ?_; intro v2 w2 hown hgrow; rw [HN.out] at hown; obtain ⟨A2, c2, rfl⟩ := own_form hown; have hg2 : World.grownBy _ w2 (some (w.heap.size + 1)) := hgrow; have p2 := (hg2.block w.heap.size (by simp; omega) (by simp)).trans P0; have fz := frozen_of_row w2 _ 4 _ _ p2; have q4 := cell_of_row w2 _ 4 _ _ _ p2)
  have p3 : (w2.setCell ⟨w.heap.size, 4, none⟩ (.slice A2 n c2)).heap[w.heap.size]? = some (.cells #[.int .i64 m, .int .i64 s, .int .i64 b, .int .i64 f, .slice A2 n c2] 24 (0, 0)) := heap_setCell_same w2 _ _ _ _ _ p2
  have hf2 : fr w w2 := RowKit.Below.grown hal hg2 hal.size (fun j e => by injection e with e; omega)
  have hf3 : fr w (w2.setCell ⟨w.heap.size, 4, none⟩ (.slice A2 n c2)) := RowKit.Below.setCell hf2 (Nat.le_refl _) _
  generalize w2.setCell ⟨w.heap.size, 4, none⟩ (.slice A2 n c2) = w3 at p3 hf3 ⊢
  have HF3 := Lib.hid hf3
  have F0 : ∀ q : Ext w3, q.w.cell? ⟨w.heap.size, 0, none⟩ = some (.int .i64 m) := fun q => q.h.cell (cell_of_row w3 _ 0 _ _ _ p3)
  have F1 : ∀ q : Ext w3, q.w.cell? ⟨w.heap.size, 1, none⟩ = some (.int .i64 s) := fun q => q.h.cell (cell_of_row w3 _ 1 _ _ _ p3)
  have F2 : ∀ q : Ext w3, q.w.cell? ⟨w.heap.size, 2, none⟩ = some (.int .i64 b) := fun q => q.h.cell (cell_of_row w3 _ 2 _ _ _ p3)
  have F3 : ∀ q : Ext w3, q.w.cell? ⟨w.heap.size, 3, none⟩ = some (.int .i64 f) := fun q => q.h.cell (cell_of_row w3 _ 3 _ _ _ p3)
  have F4 : ∀ q : Ext w3, q.w.cell? ⟨w.heap.size, 4, none⟩ = some (.slice A2 n c2) := fun q => q.h.cell (cell_of_row w3 _ 4 _ _ _ p3)
  obtain ⟨x, hx⟩ : ∃ x, chk m s b f n = x := ⟨_, rfl⟩
  have CW : Hid (∀ q : Ext w3, Calls Try.prog 7 #[] q.w fun r w'' => r = .returned (.bool true) ∧ ∃ q' : Ext w3, w'' = q'.w) := Lib.hid fun q => Ext.calls (wakes_any q.w)
  have CA : Hid (∀ q : Ext w3, Calls Try.prog 8 #[.agg #[.int .i64 m, .int .i64 s, .int .i64 b, .int .i64 f, .slice A2 n c2]] q.w fun r w'' => r = .returned (.int .i64 x) ∧ ∃ q' : Ext w3, w'' = q'.w) := Lib.hid fun q => Ext.calls (by rw [← hx]; exact check_any _ _ _ _ _ _ _ q.w)
  have CB : Hid (∀ q : Ext w3, Calls Try.prog 9 #[.agg #[.int .i64 m, .int .i64 s, .int .i64 b, .int .i64 f, .slice A2 n c2]] q.w fun r w'' => r = .returned (.int .i64 x) ∧ ∃ q' : Ext w3, w'' = q'.w) := Lib.hid fun q => Ext.calls (by rw [← hx]; exact rcheck_any _ _ _ _ _ _ _ q.w)
  clear hx hf2 hf3 p2 p3 hown hgrow hg2 fz q4
  (refine wp_region_quiet_ext (by kernel_rfl) (by kernel_rfl) ?_; (repeat (go_big_quiet_step (first
    | (go_at_call 7; exact CW.out _)
    | (go_at_call 8; exact CA.out _)
    | (go_at_call 9; exact CB.out _)))); refine wpQuiet_nil ?_; intro wq hw'; obtain ⟨⟨_, hq⟩, hw''⟩ := hw'; subst hw'')
  go_wp2
  refine bodyPost_ret (v := .bool true) (by simp [results, Try.results3, go_sem]) rfl ?_
  exact ⟨rfl, fr.step HF3.out hq⟩
end Go.Proofs.Ytacdhkkelkplnaa
end
section
namespace Go.Proofs.Ytacdhkkelkplnaa
open Go.RowKit Go.BigFrame
attribute [local go_sem ↓] Go.wp_at_zero Go.wp_at_succ
theorem fr.three {W w' : World} {b i j k : Nat} {x y z : Value} (h : fr W w') (c0 : W.cell? ⟨b, i, none⟩ = some x) (c1 : W.cell? ⟨b, j, none⟩ = some y) (c2 : W.cell? ⟨b, k, none⟩ = some z) : w'.cell? ⟨b, i, none⟩ = some x ∧ w'.cell? ⟨b, j, none⟩ = some y ∧ w'.cell? ⟨b, k, none⟩ = some z := ⟨h.cell c0, h.cell c1, h.cell c2⟩
set_option maxRecDepth 100000 in
set_option maxHeartbeats 2000000 in
theorem runsLaw (v : Value) (ls : List (List Ent)) (vh : Value) (a : Int × Int × Bool) (w : World) (hv : Lists w (fun _ => True) v ls) (hN : total ls ≤ 1048576) (hh : HowV vh a) :
    Calls Try.prog 4 #[v, vh] w fun r w' => r = .returned (.bool true) ∧ Below w.heap.size w w' := by
  obtain ⟨mark, size, bottom⟩ := a
  obtain ⟨rfl, _, _⟩ := hh
  simp only
  obtain ⟨A, c, rfl⟩ : ∃ A c, v = .slice A ls.length c := by obtain ⟨A, c, _, e, _⟩ := hv; exact ⟨A, c, e⟩
  obtain ⟨n, hn⟩ : ∃ n, ls.length = n := ⟨_, rfl⟩
  rw [hn] at hv ⊢
  have HNN := Lib.hid hn
  have HN : Hid (total ls * 64 ≤ 140737488355328) := Lib.hid (by omega)
  have HV := Lib.hid hv.lt
  have P0 : (w.alloc (.cells #[.int .i64 mark, .int .i64 size, .bool bottom] 32)).heap[w.heap.size]? = some (.cells #[.int .i64 mark, .int .i64 size, .bool bottom] 32 (0, 0)) := heap_alloc_new w _
  clear hv hN hn
  go_enter Try.func4, Try.ntmps4
  go_wp2_with (go_at_call 7; refine (wakes_any _).mono ?_; rintro r w1 ⟨rfl, hb1⟩)
  have p1 := fr.hp hb1 P0
  have HF1 : Hid (fr w w1) := Lib.hid (fr.step (fr.alloc fr.refl _) hb1)
  have F0 : ∀ q : Ext w1, q.w.cell? ⟨w.heap.size, 0, none⟩ = some (.int .i64 mark) := fun q => q.h.cell (cell_of_row w1 _ 0 _ _ _ p1)
  have F1 : ∀ q : Ext w1, q.w.cell? ⟨w.heap.size, 1, none⟩ = some (.int .i64 size) := fun q => q.h.cell (cell_of_row w1 _ 1 _ _ _ p1)
  have F2 : ∀ q : Ext w1, q.w.cell? ⟨w.heap.size, 2, none⟩ = some (.bool bottom) := fun q => q.h.cell (cell_of_row w1 _ 2 _ _ _ p1)
  have b0 := F0 ⟨w1, fr.refl⟩
  have b1 := F1 ⟨w1, fr.refl⟩
  have b2 := F2 ⟨w1, fr.refl⟩
  clear F0 F1 F2
  obtain ⟨P, hP⟩ : ∃ P, runL ls mark bottom size = P := ⟨_, rfl⟩
  obtain ⟨e, he⟩ : ∃ e, runN ls size = e := ⟨_, rfl⟩
  have CL : Hid (∀ wx, fr w1 wx → Calls Try.prog 11 #[.slice A n c] wx fun r w' => ∃ A' c', r = .returned (.slice A' n c') ∧ Lists w' (fun i => i < w'.heap.size) (.slice A' n c') ls ∧ fr w1 w' ∧ fr wx w') := Lib.hid fun wx hx => (lists_any _ _ ls wx ((HV.out.below HF1.out).below hx)).mono fun r w' h => by
    obtain ⟨v', rfl, h1, h2⟩ := h
    obtain ⟨A', c', _, e', _⟩ := id h1
    rw [HNN.out] at e'
    subst e'
    exact ⟨A', c', rfl, h1.lt, fr.step hx h2, h2⟩
  have CR : Hid (∀ wx A' c', fr w1 wx → Lists wx (fun i => i < wx.heap.size) (.slice A' n c') ls → Calls Try.prog 10 #[.slice A' n c', .int .i64 mark, .bool bottom, .int .i64 size] wx fun r w' => ∃ A2 c2, r = .returned (.tuple #[.slice A2 P.length c2, .int .i64 e]) ∧ Lists w' (fun _ => True) (.slice A2 P.length c2) P ∧ fr w1 w') := Lib.hid fun wx A' c' hx hl => (run_any _ _ ls mark bottom size wx hl (fun _ h => h) HN.out).mono fun r w' h => by
    obtain ⟨v', rfl, h1, h2⟩ := h
    rw [hP] at h1
    rw [he]
    obtain ⟨A2, c2, rfl⟩ := h1.form
    exact ⟨A2, c2, rfl, h1.lists (fun _ _ => trivial) (fun _ _ => trivial), fr.step hx h2⟩
  have CQ : Hid (∀ wx, fr w1 wx → Calls Try.prog 12 #[.slice A n c, .int .i64 mark, .bool bottom, .int .i64 size] wx fun r w' => ∃ A3 c3, r = .returned (.tuple #[.slice A3 P.length c3, .int .i64 e]) ∧ Lists w' (fun _ => True) (.slice A3 P.length c3) P ∧ fr wx w') := Lib.hid fun wx hx => (rrun_any _ _ ls mark bottom size wx ((HV.out.below HF1.out).below hx) HN.out).mono fun r w' h => by
    obtain ⟨v', rfl, h1, h2⟩ := h
    rw [hP] at h1
    rw [he]
    obtain ⟨A3, c3, _, rfl, _⟩ := id h1
    exact ⟨A3, c3, rfl, h1, h2⟩
  have f1 : fr w1 w1.drew := fr.refl.drew
  clear HV hP he HN HNN
  go_region_held3 (fun w' => w'.cell? ⟨w.heap.size, 0, none⟩ = some (.int .i64 mark) ∧ w'.cell? ⟨w.heap.size, 1, none⟩ = some (.int .i64 size) ∧ w'.cell? ⟨w.heap.size, 2, none⟩ = some (.bool bottom))
    (first
      | with_reducible exact fr.three f1 b0 b1 b2
      | with_reducible exact fr.three f2 b0 b1 b2
      | with_reducible exact fr.three f3 b0 b1 b2)
    (first
      | (go_split_ands; go_at_call 11; (with_reducible (refine Calls.mono (CL.out _ ?_) ?_)); (focus (first | with_reducible assumption | exact fr.refl.drew)); rintro r w2 ⟨A', c', rfl, hl2, f2, _⟩)
      | (go_split_ands; go_at_call 10; (with_reducible (refine Calls.mono (CR.out _ _ _ f2 hl2) ?_)); rintro r w3 ⟨A2, c2, rfl, hl3, f3⟩))
  have d0 := fr.cell f3 b0
  have d1 := fr.cell f3 b1
  have d2 := fr.cell f3 b2
  have HL3 := Lib.hid hl3
  go_wp2_with (first
    | (go_at_call 12; refine (CQ.out _ f3).mono ?_; rintro r w4 ⟨A3, c3, rfl, hl4, hf4⟩)
    | (go_at_call 13; refine (rsame_any _ _ _ _ P P _ (HL3.out.below hf4) hl4).mono ?_; rintro r w5 ⟨rfl, hf5⟩; rw [decide_eq_true rfl]))
  refine bodyPost_ret (v := .bool true) (by simp [results, Try.results4, go_sem]) rfl ?_
  exact ⟨rfl, fr.step (fr.step (fr.step HF1.out f3) hf4) hf5⟩
end Go.Proofs.Ytacdhkkelkplnaa
end
