/-
law 14: CompactKeeps.
-/
import Derived.Test.YtacdhkkelkplnaaQPKeeps16
import Derived.Test.YtacdhkkelkplnaaQPKeeps11
import Derived.Test.YtacdhkkelkplnaaQPKeeps10
import Derived.Test.YtacdhkkelkplnaaQPKeeps8
section
namespace Go.Proofs.Ytacdhkkelkplnaa
open Go.RowKit Go.ChangeShapes Go.WideShapes Go.Deep
def OptV (w : World) (S : Nat → Prop) (v : Value) (a : Int × Int × Int × Int × List Int) : Prop := ∃ kv, v = .agg #[.int .i64 a.1, .int .i64 a.2.1, .int .i64 a.2.2.1, .int .i64 a.2.2.2.1, kv] ∧ IntsIn w S kv a.2.2.2.2 ∧ a.2.2.2.2.length * 8 ≤ 140737488355328
def HowV (v : Value) (a : Int × Int × Bool) : Prop := v = .agg #[.int .i64 a.1, .int .i64 a.2.1, .bool a.2.2] ∧ (Lit.int .i64 a.1).wf = true ∧ (Lit.int .i64 a.2.1).wf = true
theorem cells_b' : Try.prog.cellsOf 4 = 1 := by kernel_rfl
theorem cells_op : Try.prog.cellsOf 24 = 5 := by kernel_rfl
theorem cells_hw : Try.prog.cellsOf 32 = 3 := by kernel_rfl
section
variable {H : Type} {enc : TypeId × Value → H} {w : World} {base : Nat} {held : Bool} {spare : Nat → Bool}
set_option maxRecDepth 100000 in
theorem arg_opts {r : Reach} {b0 : Nat} {v : Value} {d : DataW H} {ps : List MemPlace} (hval : Value.okWide Try.prog w r b0 24 v) (hd : DataW.Trod enc Try.prog w base spare held 24 v d ps) (hw : ∀ n ∈ d.weights Try.prog 24, n ≤ reachBytes) :
    ∃ a, OptV w (fun _ => True) v a := by
  obtain ⟨n, h⟩ := hd
  have hv : ∃ cs, v = .agg cs := by
    unfold Value.okWide at hval
    rw [Try.underlying24] at hval
    obtain ⟨cs, e, _⟩ := hval
    exact ⟨cs, e⟩
  obtain ⟨cs, rfl⟩ := hv
  replace h : DataW.trod enc Try.prog w base spare held n 24 cs.toList = some (d, ps) := h
  obtain ⟨y0, y1, y2, y3, y4, m, hx, hl, h0, h1, h2, h3, h4⟩ := trod_struct5 Try.underlying24 h
  injection hx with hx1 hx2
  subst hx1
  rw [cells_op] at hl
  obtain ⟨l⟩ := cs
  simp only at hl h0 h1 h2 h3 h4 ⊢
  match l, hl with
  | [c0, c1, c2, c3, c4], _ =>
    simp only [cells_is, cells_i, List.drop_zero, List.drop_succ_cons, List.take_succ_cons, List.take_zero] at h0 h1 h2 h3 h4
    simp only [DataW.weights, Try.underlying24, List.map_cons, List.map_nil, DataW.weightsEach, List.append_nil, List.mem_append] at hw
    obtain ⟨a, ha, _, _⟩ := DataW.trod_int Try.underlying3 h0
    obtain ⟨b, hb, _, _⟩ := DataW.trod_int Try.underlying3 h1
    obtain ⟨c, hc, _, _⟩ := DataW.trod_int Try.underlying3 h2
    obtain ⟨e, he, _, _⟩ := DataW.trod_int Try.underlying3 h3
    obtain ⟨zs, hz, hz8, _⟩ := open_zs h4 (fun n hn => hw n (.inr (.inr (.inr (.inr hn)))))
    obtain rfl : c0 = .int .i64 a := by simpa using ha
    obtain rfl : c1 = .int .i64 b := by simpa using hb
    obtain rfl : c2 = .int .i64 c := by simpa using hc
    obtain rfl : c3 = .int .i64 e := by simpa using he
    exact ⟨(a, b, c, e, zs), _, rfl, hz, hz8⟩
set_option maxRecDepth 100000 in
theorem arg_how {r : Reach} {b0 : Nat} {v : Value} {d : DataW H} {ps : List MemPlace} (hval : Value.okWide Try.prog w r b0 32 v) (hd : DataW.Trod enc Try.prog w base spare held 32 v d ps) :
    ∃ a, HowV v a := by
  obtain ⟨n, h⟩ := hd
  have hv : ∃ cs, v = .agg cs := by
    unfold Value.okWide at hval
    rw [Try.underlying32] at hval
    obtain ⟨cs, e, _⟩ := hval
    exact ⟨cs, e⟩
  obtain ⟨cs, rfl⟩ := hv
  replace h : DataW.trod enc Try.prog w base spare held n 32 cs.toList = some (d, ps) := h
  obtain ⟨y0, y1, y2, m, hx, hl, h0, h1, h2⟩ := trod_struct3 Try.underlying32 h
  rw [cells_hw] at hl
  obtain ⟨l⟩ := cs
  simp only at hl h0 h1 h2 ⊢
  match l, hl with
  | [c0, c1, c2], _ =>
    simp only [cells_b', cells_i, List.drop_zero, List.drop_succ_cons, List.take_succ_cons, List.take_zero] at h0 h1 h2
    obtain ⟨a, ha, _, wa⟩ := DataW.trod_int Try.underlying3 h0
    obtain ⟨b, hb, _, wb⟩ := DataW.trod_int Try.underlying3 h1
    obtain ⟨c, hc, _⟩ := DataW.trod_bool Try.underlying4 h2
    obtain rfl : c0 = .int .i64 a := by simpa using ha
    obtain rfl : c1 = .int .i64 b := by simpa using hb
    obtain rfl : c2 = .bool c := by simpa using hc
    exact ⟨(a, b, c), rfl, wa, wb⟩
end
end Go.Proofs.Ytacdhkkelkplnaa
end
section
namespace Go.Proofs.Ytacdhkkelkplnaa
open Go.RowKit Go.BigFrame
attribute [local go_sem ↓] Go.wp_at_zero Go.wp_at_succ
set_option maxRecDepth 100000 in
set_option maxHeartbeats 2000000 in
theorem checksLaw (v : Value) (a : Int × Int × Int × Int × List Int) (w : World) (hv : OptV w (fun _ => True) v a) :
    Calls Try.prog 3 #[v] w fun r w' => r = .returned (.bool true) ∧ Below w.heap.size w w' := by
  obtain ⟨m, s, b, f, zs⟩ := a
  obtain ⟨kv, rfl, hz, hl⟩ := hv
  simp only at hz hl ⊢
  obtain ⟨A, c, rfl, h1, h2, hr⟩ := hz
  obtain ⟨n, hn⟩ : ∃ n, zs.length = n := ⟨_, rfl⟩
  have HZ : Hid (IntsIn w (fun _ => True) (.slice A n c) zs) := Lib.hid ⟨A, c, by rw [hn], h1, h2, hr⟩
  rw [hn] at hl h1 h2 ⊢
  have HN := Lib.hid hn
  have hal : fr w ((w.alloc (.cells #[.int .i64 m, .int .i64 s, .int .i64 b, .int .i64 f, .slice A n c] 24)).alloc (.cells #[] 3)) := fr.alloc (fr.alloc fr.refl _) _
  have P0 : ((w.alloc (.cells #[.int .i64 m, .int .i64 s, .int .i64 b, .int .i64 f, .slice A n c] 24)).alloc (.cells #[] 3)).heap[w.heap.size]? = some (.cells #[.int .i64 m, .int .i64 s, .int .i64 b, .int .i64 f, .slice A n c] 24 (0, 0)) := (Below.heap_alloc _ _ _ (by simp)).trans (heap_alloc_new w _)
  have HL0 : Hid (((w.alloc (.cells #[.int .i64 m, .int .i64 s, .int .i64 b, .int .i64 f, .slice A n c] 24)).alloc (.cells #[] 3)).ownsRow (w.heap.size + 1) 3 1 (.slice (some ⟨w.heap.size + 1, 0, none⟩) 0 0) 0 []) := Lib.hid (by simpa using lit0i (w.alloc (.cells #[.int .i64 m, .int .i64 s, .int .i64 b, .int .i64 f, .slice A n c] 24)))
  clear hn hr
  go_enter Try.func3, Try.ntmps3
  go_wp2_with (at_builtin; refine wpList_append_ints rfl _ _ rfl (w.heap.size + 1) _ _ rfl rfl (fun _ => True) zs HL0.out (HZ.out.below hal) (by rw [HN.out]; exact hl) (by simp) ?_; intro v2 w2 hown hgrow; rw [HN.out] at hown; obtain ⟨A2, c2, rfl⟩ := own_form hown; have hg2 : World.grownBy _ w2 (some (w.heap.size + 1)) := hgrow; have p2 := (hg2.block w.heap.size (by simp; omega) (by simp)).trans P0; have fz := frozen_of_row w2 _ 4 _ _ p2; have q4 := cell_of_row w2 _ 4 _ _ _ p2)
  have p3 : (w2.setCell ⟨w.heap.size, 4, none⟩ (.slice A2 n c2)).heap[w.heap.size]? = some (.cells #[.int .i64 m, .int .i64 s, .int .i64 b, .int .i64 f, .slice A2 n c2] 24 (0, 0)) := heap_setCell_same w2 _ _ _ _ _ p2
  have hf2 : fr w w2 := RowKit.Below.grown hal hg2 hal.size (fun j e => by injection e with e; omega)
  have hf3 : fr w (w2.setCell ⟨w.heap.size, 4, none⟩ (.slice A2 n c2)) := RowKit.Below.setCell hf2 (Nat.le_refl _) _
  generalize w2.setCell ⟨w.heap.size, 4, none⟩ (.slice A2 n c2) = w3 at p3 hf3 ⊢
  have HF3 := Lib.hid hf3
  have F0 : ∀ q : Ext w3, q.w.cell? ⟨w.heap.size, 0, none⟩ = some (.int .i64 m) := fun q => q.h.cell (cell_of_row w3 _ 0 _ _ _ p3)
  have F1 : ∀ q : Ext w3, q.w.cell? ⟨w.heap.size, 1, none⟩ = some (.int .i64 s) := fun q => q.h.cell (cell_of_row w3 _ 1 _ _ _ p3)
  have F2 : ∀ q : Ext w3, q.w.cell? ⟨w.heap.size, 2, none⟩ = some (.int .i64 b) := fun q => q.h.cell (cell_of_row w3 _ 2 _ _ _ p3)
  have F3 : ∀ q : Ext w3, q.w.cell? ⟨w.heap.size, 3, none⟩ = some (.int .i64 f) := fun q => q.h.cell (cell_of_row w3 _ 3 _ _ _ p3)
  have F4 : ∀ q : Ext w3, q.w.cell? ⟨w.heap.size, 4, none⟩ = some (.slice A2 n c2) := fun q => q.h.cell (cell_of_row w3 _ 4 _ _ _ p3)
  obtain ⟨x, hx⟩ : ∃ x, chk m s b f n = x := ⟨_, rfl⟩
  have CW : Hid (∀ q : Ext w3, Calls Try.prog 7 #[] q.w fun r w'' => r = .returned (.bool true) ∧ ∃ q' : Ext w3, w'' = q'.w) := Lib.hid fun q => Ext.calls (wakes_any q.w)
  have CA : Hid (∀ q : Ext w3, Calls Try.prog 8 #[.agg #[.int .i64 m, .int .i64 s, .int .i64 b, .int .i64 f, .slice A2 n c2]] q.w fun r w'' => r = .returned (.int .i64 x) ∧ ∃ q' : Ext w3, w'' = q'.w) := Lib.hid fun q => Ext.calls (by rw [← hx]; exact check_any _ _ _ _ _ _ _ q.w)
  have CB : Hid (∀ q : Ext w3, Calls Try.prog 9 #[.agg #[.int .i64 m, .int .i64 s, .int .i64 b, .int .i64 f, .slice A2 n c2]] q.w fun r w'' => r = .returned (.int .i64 x) ∧ ∃ q' : Ext w3, w'' = q'.w) := Lib.hid fun q => Ext.calls (by rw [← hx]; exact rcheck_any _ _ _ _ _ _ _ q.w)
  clear hx hf2 hf3 p2 p3 hown hgrow hg2 fz q4
  (refine wp_region_quiet_ext (by kernel_rfl) (by kernel_rfl) ?_; (repeat (go_big_quiet_step (first
    | (go_at_call 7; exact CW.out _)
    | (go_at_call 8; exact CA.out _)
    | (go_at_call 9; exact CB.out _)))); refine wpQuiet_nil ?_; intro wq hw'; obtain ⟨⟨_, hq⟩, hw''⟩ := hw'; subst hw'')
  go_wp2
  refine bodyPost_ret (v := .bool true) (by simp [results, Try.results3, go_sem]) rfl ?_
  exact ⟨rfl, fr.step HF3.out hq⟩
end Go.Proofs.Ytacdhkkelkplnaa
end
section
namespace Go.Proofs.Ytacdhkkelkplnaa
open Go.RowKit Go.BigFrame
attribute [local go_sem ↓] Go.wp_at_zero Go.wp_at_succ
theorem fr.three' {W w' : World} {b i j k : Nat} {x y z : Value} (h : fr W w') (c0 : W.cell? ⟨b, i, none⟩ = some x) (c1 : W.cell? ⟨b, j, none⟩ = some y) (c2 : W.cell? ⟨b, k, none⟩ = some z) : w'.cell? ⟨b, i, none⟩ = some x ∧ w'.cell? ⟨b, j, none⟩ = some y ∧ w'.cell? ⟨b, k, none⟩ = some z := ⟨h.cell c0, h.cell c1, h.cell c2⟩
theorem quarter_le' (mark later : Int) : wrap64 (IntKind.u64.wrap mark / 4) ≤ wrap64 (wrap64 (IntKind.u64.wrap mark / 4) + wrap64 (IntKind.u64.wrap later / 4)) := by
  have b : ∀ x : Int, 0 ≤ IntKind.u64.wrap x ∧ IntKind.u64.wrap x ≤ 18446744073709551615 := fun x => by
    simp [IntKind.wrap, IntKind.signed, IntKind.bits]; omega
  have := b mark
  have := b later
  rw [IntWalk.wrap64_in (IntKind.u64.wrap mark / 4) ⟨by omega, by omega⟩, IntWalk.wrap64_in (IntKind.u64.wrap later / 4) ⟨by omega, by omega⟩, IntWalk.wrap64_in _ ⟨by omega, by omega⟩]
  omega
theorem nine (x : Int) : 1 ≤ wrap64 (1 + wrap64 ((IntKind.u64.wrap x).tmod 9)) := by
  have b : 0 ≤ IntKind.u64.wrap x := by simp [IntKind.wrap, IntKind.signed, IntKind.bits]; omega
  rw [Int.tmod_eq_emod_of_nonneg b]
  have h1 := Int.emod_nonneg (IntKind.u64.wrap x) (show (9 : Int) ≠ 0 by decide)
  have h2 := Int.emod_lt_of_pos (IntKind.u64.wrap x) (show (0 : Int) < 9 by decide)
  rw [IntWalk.wrap64_in (IntKind.u64.wrap x % 9) ⟨by omega, by omega⟩, IntWalk.wrap64_in _ ⟨by omega, by omega⟩]
  omega
theorem flat_last {P : List (List Ent)} {k : Nat} {q : List Ent} (hk : 1 ≤ k) (hq : P[k - 1]? = some q) (hne : q ≠ []) : ∃ e', (P.take k).flatten[(P.take k).flatten.length - 1]? = some e' ∧ lastKey q = e'.key ∧ 1 ≤ (P.take k).flatten.length := by
  have h := (total_take hq).2
  rw [show k - 1 + 1 = k by omega] at h
  have hl : 0 < q.length := List.length_pos_iff.2 hne
  obtain ⟨e', he'⟩ : ∃ e', q[q.length - 1]? = some e' := ⟨_, List.getElem?_eq_getElem (by omega)⟩
  refine ⟨e', ?_, lastKey_at he', by rw [h, List.length_append]; omega⟩
  rw [h, List.length_append, List.getElem?_append_right (by omega), ← he']
  congr 1
  omega
theorem head_at {p : List Ent} {e : Ent} (h : p[0]? = some e) : headKey p = e.key := by
  unfold headKey
  rw [List.head?_eq_getElem?, h]
  rfl
/-- what one look at a row gives. -/
theorem seen_any (S : Nat → Prop) (v : Value) (es : List Ent) (seq : Int) (X : List Pr) (w : World) (hv : Ents w S v es) (ho : orderedE es = true) (hX : visC seq [] es = X) :
    Calls Try.prog 15 #[v, .int .i64 seq] w fun r w' => ∃ A c, r = .returned (.tuple #[.slice A X.length c, .int .i64 0]) ∧ Prs w' (fun _ => True) (.slice A X.length c) X ∧ Below w.heap.size w w' := by
  refine (rvis_any S v es seq w hv).mono ?_
  rintro r w' ⟨v', rfl, h1, h2⟩
  rw [if_pos ho, ← vis_law ho, hX] at h1
  rw [if_pos ho]
  obtain ⟨A, c, cs, rfl, h3⟩ := h1
  exact ⟨A, c, rfl, ⟨A, c, cs, rfl, h3⟩, h2⟩
set_option maxRecDepth 100000 in
set_option maxHeartbeats 4000000 in
theorem keepsLaw14 (v : Value) (ls : List (List Ent)) (vh : Value) (a : Int × Int × Bool) (later : Int) (w : World) (hv : Lists w (fun _ => True) v ls) (hN : total ls ≤ 1048576) (hh : HowV vh a) (_ : (Lit.int .i64 later).wf = true) :
    Calls Try.prog 5 #[v, vh, .int .i64 later] w fun r w' => r = .returned (.bool true) ∧ Below w.heap.size w w' := by
  obtain ⟨mark, size, bottom⟩ := a
  obtain ⟨rfl, _, _⟩ := hh
  simp only
  obtain ⟨A, c, rfl⟩ : ∃ A c, v = .slice A ls.length c := by obtain ⟨A, c, _, e, _⟩ := hv; exact ⟨A, c, e⟩
  obtain ⟨n, hn⟩ : ∃ n, ls.length = n := ⟨_, rfl⟩
  rw [hn] at hv ⊢
  have HNN := Lib.hid hn
  have HN : Hid (total ls * 64 ≤ 140737488355328) := Lib.hid (by omega)
  have HV := Lib.hid hv.lt
  obtain ⟨⟨rs, f⟩, hmc⟩ : ∃ x, mergeC ls = x := ⟨_, rfl⟩
  have HMC := Lib.hid hmc
  have P0 : (w.alloc (.cells #[.int .i64 mark, .int .i64 size, .bool bottom] 32)).heap[w.heap.size]? = some (.cells #[.int .i64 mark, .int .i64 size, .bool bottom] 32 (0, 0)) := heap_alloc_new w _
  clear hv hN hn hmc
  go_enter Try.func5, Try.ntmps5
  go_upto_region 3 with (go_at_call 7; refine (wakes_any _).mono ?_; rintro r w1 ⟨rfl, hb1⟩)
  have p1 := fr.hp hb1 P0
  have hf1 : fr w w1 := fr.step (fr.alloc fr.refl _) hb1
  clear hb1 P0
  obtain ⟨M, hM⟩ : ∃ M, wrap64 (IntKind.u64.wrap mark / 4) = M := ⟨_, rfl⟩
  obtain ⟨Z, hZ⟩ : ∃ Z, wrap64 (1 + wrap64 ((IntKind.u64.wrap size).tmod 9)) = Z := ⟨_, rfl⟩
  have b0 := cell_of_row w1 _ 0 _ _ _ p1
  have b1 := cell_of_row w1 _ 1 _ _ _ p1
  have z0 := frozen_of_row w1 _ 0 _ _ p1
  have p2 : (w1.setCell ⟨w.heap.size, 0, none⟩ (.int .i64 M)).heap[w.heap.size]? = some (.cells #[.int .i64 M, .int .i64 size, .bool bottom] 32 (0, 0)) := heap_setCell_same w1 _ _ _ _ _ p1
  have c1 := cell_of_row _ _ 1 _ _ _ p2
  have z1 := frozen_of_row _ _ 1 _ _ p2
  have p3 : ((w1.setCell ⟨w.heap.size, 0, none⟩ (.int .i64 M)).setCell ⟨w.heap.size, 1, none⟩ (.int .i64 Z)).heap[w.heap.size]? = some (.cells #[.int .i64 M, .int .i64 Z, .bool bottom] 32 (0, 0)) := heap_setCell_same _ _ _ _ _ _ p2
  have d0 := cell_of_row _ _ 0 _ _ _ p3
  have hq := quarter_le' mark later
  rw [hM] at hq
  have h9 : 1 ≤ Z := hZ ▸ nine size
  have hf2 : fr w ((w1.setCell ⟨w.heap.size, 0, none⟩ (.int .i64 M)).setCell ⟨w.heap.size, 1, none⟩ (.int .i64 Z)) := RowKit.Below.setCell (RowKit.Below.setCell hf1 (Nat.le_refl _) _) (Nat.le_refl _) _
  have HQ := Lib.hid hq
  have H9 := Lib.hid h9
  clear hq h9
  go_upto_region 5 with (fail)
  generalize hW : (w1.setCell ⟨w.heap.size, 0, none⟩ (.int .i64 M)).setCell ⟨w.heap.size, 1, none⟩ (.int .i64 Z) = w2 at p3 hf2 ⊢
  generalize hS : wrap64 (M + wrap64 (IntKind.u64.wrap later / 4)) = Sq at HQ ⊢
  clear hW hS d0 z1 c1 p2 z0 b1 b0 p1 hf1 hM hZ
  have HF2 := Lib.hid hf2
  have b0 : w2.cell? ⟨w.heap.size, 0, none⟩ = some (.int .i64 M) := cell_of_row w2 _ 0 _ _ _ p3
  have b1 : w2.cell? ⟨w.heap.size, 1, none⟩ = some (.int .i64 Z) := cell_of_row w2 _ 1 _ _ _ p3
  have b2 : w2.cell? ⟨w.heap.size, 2, none⟩ = some (.bool bottom) := cell_of_row w2 _ 2 _ _ _ p3
  obtain ⟨P, hP⟩ : ∃ P, runL ls M bottom Z = P := ⟨_, rfl⟩
  have hrn : runN ls Z = f := by unfold runN; rw [if_neg (by have := H9.out; omega), HMC.out]
  have CL : Hid (∀ wx, fr w2 wx → Calls Try.prog 11 #[.slice A n c] wx fun r w' => ∃ A' c', r = .returned (.slice A' n c') ∧ Lists w' (fun i => i < w'.heap.size) (.slice A' n c') ls ∧ fr w2 w' ∧ fr wx w') := Lib.hid fun wx hx => (lists_any _ _ ls wx ((HV.out.below HF2.out).below hx)).mono fun r w' h => by
    obtain ⟨v', rfl, h1, h2⟩ := h
    obtain ⟨A', c', _, e', _⟩ := id h1
    rw [HNN.out] at e'
    subst e'
    exact ⟨A', c', rfl, h1.lt, fr.step hx h2, h2⟩
  have CR : Hid (∀ wx A' c', fr w2 wx → Lists wx (fun i => i < wx.heap.size) (.slice A' n c') ls → Calls Try.prog 10 #[.slice A' n c', .int .i64 M, .bool bottom, .int .i64 Z] wx fun r w' => ∃ A2 c2, r = .returned (.tuple #[.slice A2 P.length c2, .int .i64 f]) ∧ Lists w' (fun i => i < w'.heap.size) (.slice A2 P.length c2) P ∧ fr w2 w') := Lib.hid fun wx A' c' hx hl => (run_any _ _ ls M bottom Z wx hl (fun _ h => h) HN.out).mono fun r w' h => by
    obtain ⟨v', rfl, h1, h2⟩ := h
    rw [hP] at h1
    rw [hrn]
    obtain ⟨A2, c2, rfl⟩ := h1.form
    exact ⟨A2, c2, rfl, (h1.lists (S := fun _ => True) (fun _ _ => trivial) (fun _ _ => trivial)).lt, fr.step hx h2⟩
  have CM : Hid (∀ wx, fr w2 wx → Calls Try.prog 14 #[.slice A n c] wx fun r w' => ∃ A' c', r = .returned (.tuple #[.slice A' rs.length c', .int .i64 f]) ∧ Ents w' (fun i => i < w'.heap.size) (.slice A' rs.length c') rs ∧ fr wx w') := Lib.hid fun wx hx => (rmerge_any _ _ ls wx ((HV.out.below HF2.out).below hx) HN.out).mono fun r w' h => by
    obtain ⟨v', rs', n', rfl, h1, h2, h3⟩ := h
    have h4 := merge_law h1
    rw [HMC.out] at h4
    injection h4 with e1 e2
    subst e1 e2
    obtain ⟨A', c', rfl⟩ := ents_form h2
    exact ⟨A', c', rfl, h2.lt, h3⟩
  have f1 : fr w2 w2.drew := fr.refl.drew
  have HP := Lib.hid hP
  clear hP hrn p3 hf2 HNN HV
  go_region_held3 (fun w' => w'.cell? ⟨w.heap.size, 0, none⟩ = some (.int .i64 M) ∧ w'.cell? ⟨w.heap.size, 1, none⟩ = some (.int .i64 Z) ∧ w'.cell? ⟨w.heap.size, 2, none⟩ = some (.bool bottom))
    (first
      | with_reducible exact fr.three' f1 b0 b1 b2
      | with_reducible exact fr.three' f2 b0 b1 b2
      | with_reducible exact fr.three' f3 b0 b1 b2)
    (first
      | (go_split_ands; go_at_call 11; (with_reducible (refine Calls.mono (CL.out _ ?_) ?_)); (focus (first | with_reducible assumption | exact fr.refl.drew)); rintro r w3 ⟨A', c', rfl, hl2, f2, _⟩)
      | (go_split_ands; go_at_call 10; (with_reducible (refine Calls.mono (CR.out _ _ _ f2 hl2) ?_)); rintro r w4 ⟨A2, c2, rfl, hl3, f3⟩))
  have e1 := fr.cell f3 b1
  have HL3 := Lib.hid hl3
  have HF3 := Lib.hid (fr.step HF2.out f3)
  clear b0 b1 b2 f1 CL CR
  obtain ⟨np, hnp⟩ : ∃ k, P.length = k := ⟨_, rfl⟩
  by_cases hf0 : f = 0
  case neg =>
    have hP0 : P = [] := by
      rw [← HP.out]; unfold runL; rw [if_neg (by have := H9.out; omega), HMC.out]; simp only [hf0, if_false]
    have hfb : (f == 0) = false := by simp [hf0]
    have hfd : decide (f = 0) = false := by simp [hf0]
    subst hP0
    simp only [List.length_nil] at HL3 ⊢
    go_wp2_with (go_at_call 14; refine (CM.out _ f3).mono ?_; rintro r w5 ⟨A5, c5, rfl, hl5, f5⟩)
    refine bodyPost_ret (v := .bool true) (by simp [results, Try.results5, go_sem]) rfl ?_
    exact ⟨rfl, fr.step HF3.out f5⟩
  case pos =>
    subst hf0
    obtain ⟨hord, hlen⟩ : orderedE rs = true ∧ rs.length ≤ total ls := by have := merge_ordered (ls := ls); rw [HMC.out] at this; exact this rfl
    obtain ⟨T, hT⟩ : ∃ T, thinC M bottom [] rs = T := ⟨_, rfl⟩
    have hPc : P = cutE Z [] T := by
      rw [← HP.out]; unfold runL; rw [if_neg (by have := H9.out; omega), HMC.out]; simp only [if_true, hT]
    have hPf : P.flatten = T := by rw [hPc, cutE_flat]; rfl
    have HC : Hid (∀ i x, P[i]? = some x → x ≠ [] ∧ ∀ y, P[i + 1]? = some y → (x.length : Int) ≥ Z ∧ lastKey x ≠ headKey y) := Lib.hid fun i x hx => by rw [hPc] at hx ⊢; exact (cutE_all H9.out T).at_ hx
    have hTl : T.length * 64 ≤ 140737488355328 := by have h1 := (thinC_sub M bottom rs []).length_le; rw [hT] at h1; have := HN.out; omega
    have hTo : orderedE T = true := by rw [← hT]; exact thinC_ordered hord
    obtain ⟨X, hX⟩ : ∃ X, visC Sq [] rs = X := ⟨_, rfl⟩
    have hX2 : visC Sq [] T = X := by rw [← hX, ← hT]; exact keeps_vis hord HQ.out
    have HPF := Lib.hid hPf
    have HTL := Lib.hid hTl
    have HTO := Lib.hid hTo
    have HRO := Lib.hid hord
    have HX := Lib.hid hX
    have HX2 := Lib.hid hX2
    have HNP := Lib.hid hnp
    rw [hnp] at HL3 ⊢
    clear hPc hPf hTl hTo hX hX2 hT hlen hord HMC HN HP hnp
    go_upto_region 7 with (go_at_call 14; refine (CM.out _ f3).mono ?_; rintro r w5 ⟨A5, c5, rfl, hl5, f5⟩)
    replace e1 := fr.cell f5 e1
    have HL5 := Lib.hid (HL3.out.below f5).lt
    have HE5 := Lib.hid hl5
    have HF5 := Lib.hid (fr.step HF3.out f5)
    have hE1 : Hid (w5.cell? ⟨w.heap.size, 1, none⟩ = some (.int .i64 Z)) := Lib.hid e1
    obtain ⟨S0, hS0⟩ : ∃ S0 : Nat → Prop, S0 = fun i => i < w5.heap.size := ⟨_, rfl⟩
    have HS0 := Lib.hid hS0
    obtain ⟨_, _, vs, hEv, _, _, hlnp, hr, he⟩ := HL5.out
    rw [HNP.out] at hlnp
    injection hEv with q1 q2 q3
    subst q1 q3
    rw [HNP.out] at hr
    have HR := Lib.hid hr
    have HEL := Lib.hid he
    clear hl3 HL3 hl5 f3 f5 CM HF3 e1 hS0 hr he q2 hl2 f2 HL5
    go_wp2
    go_loopw [12, 69] (fun v12 t wr => ∃ (k : Nat) (ys : List Value), k ≤ np ∧ t = .int .i64 k ∧ wr.ownsRow w5.heap.size 46 4 v12 (P.take k).flatten.length ys ∧ EntCells wr S0 ys (P.take k).flatten ∧ Below w5.heap.size w5 wr) (fun _ t _ => np - (intOf t).toNat)
    case atStart => exact ⟨0, [], Nat.zero_le _, rfl, World.ownsRow_nil _ _ _ _, trivial, Below.refl _ _⟩
    case round =>
      obtain ⟨k, ys, hk, rfl, hown, hys, hbel⟩ := hrel
      obtain ⟨A4, c4, rfl⟩ := own_form hown
      have HO := Lib.hid hown
      have HYS := Lib.hid hys
      have HB := Lib.hid hbel
      have hrT : (P.take k).flatten.length ≤ T.length := by have := take_flat_len P k; rw [HPF.out] at this; exact this
      obtain ⟨r, hr⟩ : ∃ r, (P.take k).flatten.length = r := ⟨_, rfl⟩
      rw [hr] at HO hrT ⊢
      have HRR := Lib.hid hr
      have hrb : r * 64 ≤ 140737488355328 := by have := HTL.out; omega
      have HRW : Hid (Ents wr (fun _ => True) (.slice A4 r c4) (P.take k).flatten) := Lib.hid (Ents.of_row (by rw [hr]; exact HO.out) (hys.mono fun _ _ => trivial) (fun _ _ => trivial) (by rw [hr]; exact hrb))
      clear hown hys hbel hr hrT
      by_cases hkn : k < np
      · obtain ⟨p, hpk⟩ : ∃ p, P[k]? = some p := ⟨_, List.getElem?_eq_getElem (by rw [HNP.out]; exact hkn)⟩
        obtain ⟨x, hx, hxe⟩ := HEL.out k p hpk
        obtain ⟨b, o, u, rfl, _, _, hu, hcell⟩ := (HR.out.below HB.out).at_ hkn
        obtain rfl : u = x := by rw [hx] at hu; injection hu with hu; exact hu.symm
        obtain ⟨hpne, hpnext⟩ := HC.out k p hpk
        obtain ⟨Ap, cp, rfl⟩ := ents_form hxe
        rw [← HS0.out] at hxe
        have HPE := Lib.hid (hxe.below HB.out)
        obtain ⟨m, hm⟩ : ∃ m, p.length = m := ⟨_, rfl⟩
        have hm0 : 0 < m := by rw [← hm]; exact List.length_pos_iff.2 hpne
        obtain ⟨e0, he0⟩ : ∃ e, p[0]? = some e := ⟨_, List.getElem?_eq_getElem (by omega)⟩
        have HH := Lib.hid (head_at he0)
        obtain ⟨A', c', cs', hE, _, _, _, hrow', hcel'⟩ := HPE.out
        injection hE with e1 e2 e3
        subst e1 e3
        obtain ⟨b1, o1, k1, u1, rfl, x0, _, _, _, z1, _, _, _⟩ := hrow'.ent hcel' rfl he0
        obtain ⟨Ak, ck, rfl⟩ := slice_form z1
        have HKY := Lib.hid z1
        have HTK := Lib.hid (total_take hpk)
        have HPK := Lib.hid hpk
        have htt := (total_take hpk).1
        have hmT : r + m ≤ T.length := by
          have h1 := take_flat_len P (k + 1)
          rw [HTK.out.2, List.length_append, HRR.out, hm, HPF.out] at h1
          exact h1
        have hmb : (r + m) * 64 ≤ 140737488355328 := by have := HTL.out; omega
        rw [hm] at hcell HPE
        have HM := Lib.hid hm
        have F0 : ∀ q : Ext wr, q.w.cell? { block := b, off := o + k } = some (.slice (some ⟨b1, o1, none⟩) m cp) := fun q => q.h.cell hcell
        have F1 : ∀ q : Ext wr, q.w.cell? { block := b1, off := o1 } = some (.slice Ak e0.key.length ck) := fun q => q.h.cell (by simpa using x0)
        have F2 : ∀ q : Ext wr, q.w.cell? { block := w.heap.size, off := 1 } = some (.int .i64 Z) := fun q => q.h.cell (fr.cell (show fr w5 wr from HB.out) hE1.out)
        have G1 : ∀ q : Ext wr, (convert 44 9 (.slice Ak e0.key.length ck)).run Try.prog q.w = .ok (.string ⟨e0.key.toArray⟩) q.w := fun q => (HKY.out.below q.h).convert
        have hwk1 : IntKind.i64.wrap ((k : Int) + 1) = ((k + 1 : Nat) : Int) := by rw [IntWalk.i64_in _ (by omega)]; omega
        have hm1 : ((m : Int) == 0) = false := by simp; omega
        have hm2 : decide ((m : Int) = 0) = false := by simp; omega
        have hm3 : ¬ ((m : Int) = 0) := by omega
        have hm4 : ¬ (m = 0) := by omega
        have hm5 : (m == 0) = false := by simp; omega
        rcases Nat.eq_zero_or_pos k with hk0 | hk0
        · have hkd : decide ((0 : Int) < (k : Int)) = false := by simp; omega
          have hkd2 : decide (0 < k) = false := by simp; omega
          clear hk0
          rcases (by omega : k + 1 < np ∨ k + 1 = np) with hkp | hkp
          · have hkp1 : decide (((k + 1 : Nat) : Int) < (np : Int)) = true := by simp; omega
            have hkp2 : decide ((k : Int) + 1 < (np : Int)) = true := by simp; omega
            have hkp3 : decide (k + 1 < np) = true := by simp; omega
            obtain ⟨y, hy⟩ : ∃ y, P[k + 1]? = some y := ⟨_, List.getElem?_eq_getElem (by rw [HNP.out]; exact hkp)⟩
            have hmz := (hpnext y hy).1
            rw [HM.out] at hmz
            have hmz1 : decide ((m : Int) < Z) = false := by simp; omega
            clear hy hmz hpnext
            go_wp2_with fail
            (refine wp_region_quiet_ext (by kernel_rfl) (by kernel_rfl) ?_; (repeat (go_big_quiet_step (fail))); refine wpQuiet_nil ?_; intro wq hw'; obtain ⟨⟨_, hq⟩, hw''⟩ := hw'; subst hw'')
            have HBq := Lib.hid (show Below wr.heap.size wr wq from hq)
            have C0 := hq.cell hcell
            clear hq F0 F1 F2 G1
            go_wp2_with (at_builtin; refine wpList_append_ents rfl _ _ rfl w5.heap.size _ _ rfl rfl S0 _ _ p (own_below HO.out HBq.out) (HPE.out.below HBq.out) (by rw [HM.out]; exact hmb) (by have := HB.out.size; have := HBq.out.size; omega) ?_; intro v' w6 cs hown' hcs hgrow hat)
            have hB := HB.out.size
            have hBq := HBq.out.size
            have hno : ∀ i, i < wq.heap.size → S0 i → ¬ (fun i => (_ : Value).ownBlock = some i) i := fun i _ hs e => by have h1 := (HO.out.lt i e).1; rw [HS0.out] at hs; omega
            refine ⟨⟨k + 1, _, by omega, by go_num, (by rw [HTK.out.2, List.length_append, HRR.out]; exact hown'), ?_, (HB.out.trans (HBq.out.mono HB.out.size)).grown hgrow (by omega) (fun j e => (HO.out.lt j e).1)⟩, by simp [intOf]; omega⟩
            rw [HTK.out.2]
            exact ((HYS.out.below HBq.out).append hcs).only (Only.of_grown hgrow) hno
          · have hkp1 : decide (((k + 1 : Nat) : Int) < (np : Int)) = false := by simp; omega
            have hkp2 : decide ((k : Int) + 1 < (np : Int)) = false := by simp; omega
            have hkp3 : decide (k + 1 < np) = false := by simp; omega
            clear hpnext
            go_wp2_with fail
            (refine wp_region_quiet_ext (by kernel_rfl) (by kernel_rfl) ?_; (repeat (go_big_quiet_step (fail))); refine wpQuiet_nil ?_; intro wq hw'; obtain ⟨⟨_, hq⟩, hw''⟩ := hw'; subst hw'')
            have HBq := Lib.hid (show Below wr.heap.size wr wq from hq)
            have C0 := hq.cell hcell
            clear hq F0 F1 F2 G1
            go_wp2_with (at_builtin; refine wpList_append_ents rfl _ _ rfl w5.heap.size _ _ rfl rfl S0 _ _ p (own_below HO.out HBq.out) (HPE.out.below HBq.out) (by rw [HM.out]; exact hmb) (by have := HB.out.size; have := HBq.out.size; omega) ?_; intro v' w6 cs hown' hcs hgrow hat)
            have hB := HB.out.size
            have hBq := HBq.out.size
            have hno : ∀ i, i < wq.heap.size → S0 i → ¬ (fun i => (_ : Value).ownBlock = some i) i := fun i _ hs e => by have h1 := (HO.out.lt i e).1; rw [HS0.out] at hs; omega
            refine ⟨⟨k + 1, _, by omega, by go_num, (by rw [HTK.out.2, List.length_append, HRR.out]; exact hown'), ?_, (HB.out.trans (HBq.out.mono HB.out.size)).grown hgrow (by omega) (fun j e => (HO.out.lt j e).1)⟩, by simp [intOf]; omega⟩
            rw [HTK.out.2]
            exact ((HYS.out.below HBq.out).append hcs).only (Only.of_grown hgrow) hno
        · obtain ⟨q, hq⟩ : ∃ q, P[k - 1]? = some q := ⟨_, List.getElem?_eq_getElem (by have := HNP.out; omega)⟩
          obtain ⟨hqne, hqnext⟩ := HC.out (k - 1) q hq
          obtain ⟨e', he', hlk, hr1⟩ := flat_last hk0 hq hqne
          have hne := (hqnext p (by rw [show k - 1 + 1 = k by omega]; exact HPK.out)).2
          rw [hlk, HH.out] at hne
          rw [HRR.out] at he' hr1
          obtain ⟨A', c', cs', hE, _, _, _, hrow4, hcel4⟩ := HRW.out
          injection hE with e1 e2 e3
          subst e1 e3
          clear e2
          obtain ⟨b2, o2, k2, u2, rfl, y0, _, _, _, y4, _, _, _⟩ := hrow4.ent hcel4 rfl he'
          obtain ⟨Ak', ck', rfl⟩ := slice_form y4
          have F3 : ∀ q : Ext wr, q.w.cell? { block := b2, off := o2 + (r - 1) * 4 } = some (.slice Ak' e'.key.length ck') := fun q => q.h.cell y0
          have G2 : ∀ q : Ext wr, (convert 44 9 (.slice Ak' e'.key.length ck')).run Try.prog q.w = .ok (.string ⟨e'.key.toArray⟩) q.w := fun q => (y4.below q.h).convert
          have hwr : IntKind.i64.wrap ((r : Int) - 1) = ((r - 1 : Nat) : Int) := by rw [IntWalk.i64_in _ (by omega)]; omega
          have hr2 : r - 1 < r := by omega
          have hkd : decide ((0 : Int) < (k : Int)) = true := by simp; omega
          have hkd2 : decide (0 < k) = true := by simp; omega
          have hke : ¬ e0.key = e'.key := fun h => hne h.symm
          have hne1 : ¬ (⟨e0.key.toArray⟩ : ByteArray) = ⟨e'.key.toArray⟩ := by simpa using hke
          have hne2 : decide ((⟨e0.key.toArray⟩ : ByteArray) = ⟨e'.key.toArray⟩) = false := by simpa using hke
          have hne4 : (e0.key == e'.key) = false := by simpa using hke
          have hne5 : decide (e0.key = e'.key) = false := by simpa using hke
          clear hq hqnext he' hlk hne y0 y4
          rcases (by omega : k + 1 < np ∨ k + 1 = np) with hkp | hkp
          · have hkp1 : decide (((k + 1 : Nat) : Int) < (np : Int)) = true := by simp; omega
            have hkp2 : decide ((k : Int) + 1 < (np : Int)) = true := by simp; omega
            have hkp3 : decide (k + 1 < np) = true := by simp; omega
            obtain ⟨y, hy⟩ : ∃ y, P[k + 1]? = some y := ⟨_, List.getElem?_eq_getElem (by rw [HNP.out]; exact hkp)⟩
            have hmz := (hpnext y hy).1
            rw [HM.out] at hmz
            have hmz1 : decide ((m : Int) < Z) = false := by simp; omega
            clear hy hmz hpnext
            go_wp2_with fail
            (refine wp_region_quiet_ext (by kernel_rfl) (by kernel_rfl) ?_; (repeat (go_big_quiet_step (fail))); refine wpQuiet_nil ?_; intro wq hw'; obtain ⟨⟨_, hq⟩, hw''⟩ := hw'; subst hw'')
            have HBq := Lib.hid (show Below wr.heap.size wr wq from hq)
            have C0 := hq.cell hcell
            clear hq F0 F1 F2 G1 F3 G2
            go_wp2_with (at_builtin; refine wpList_append_ents rfl _ _ rfl w5.heap.size _ _ rfl rfl S0 _ _ p (own_below HO.out HBq.out) (HPE.out.below HBq.out) (by rw [HM.out]; exact hmb) (by have := HB.out.size; have := HBq.out.size; omega) ?_; intro v' w6 cs hown' hcs hgrow hat)
            have hB := HB.out.size
            have hBq := HBq.out.size
            have hno : ∀ i, i < wq.heap.size → S0 i → ¬ (fun i => (_ : Value).ownBlock = some i) i := fun i _ hs e => by have h1 := (HO.out.lt i e).1; rw [HS0.out] at hs; omega
            refine ⟨⟨k + 1, _, by omega, by go_num, (by rw [HTK.out.2, List.length_append, HRR.out]; exact hown'), ?_, (HB.out.trans (HBq.out.mono HB.out.size)).grown hgrow (by omega) (fun j e => (HO.out.lt j e).1)⟩, by simp [intOf]; omega⟩
            rw [HTK.out.2]
            exact ((HYS.out.below HBq.out).append hcs).only (Only.of_grown hgrow) hno
          · have hkp1 : decide (((k + 1 : Nat) : Int) < (np : Int)) = false := by simp; omega
            have hkp2 : decide ((k : Int) + 1 < (np : Int)) = false := by simp; omega
            have hkp3 : decide (k + 1 < np) = false := by simp; omega
            clear hpnext
            go_wp2_with fail
            (refine wp_region_quiet_ext (by kernel_rfl) (by kernel_rfl) ?_; (repeat (go_big_quiet_step (fail))); refine wpQuiet_nil ?_; intro wq hw'; obtain ⟨⟨_, hq⟩, hw''⟩ := hw'; subst hw'')
            have HBq := Lib.hid (show Below wr.heap.size wr wq from hq)
            have C0 := hq.cell hcell
            clear hq F0 F1 F2 G1 F3 G2
            go_wp2_with (at_builtin; refine wpList_append_ents rfl _ _ rfl w5.heap.size _ _ rfl rfl S0 _ _ p (own_below HO.out HBq.out) (HPE.out.below HBq.out) (by rw [HM.out]; exact hmb) (by have := HB.out.size; have := HBq.out.size; omega) ?_; intro v' w6 cs hown' hcs hgrow hat)
            have hB := HB.out.size
            have hBq := HBq.out.size
            have hno : ∀ i, i < wq.heap.size → S0 i → ¬ (fun i => (_ : Value).ownBlock = some i) i := fun i _ hs e => by have h1 := (HO.out.lt i e).1; rw [HS0.out] at hs; omega
            refine ⟨⟨k + 1, _, by omega, by go_num, (by rw [HTK.out.2, List.length_append, HRR.out]; exact hown'), ?_, (HB.out.trans (HBq.out.mono HB.out.size)).grown hgrow (by omega) (fun j e => (HO.out.lt j e).1)⟩, by simp [intOf]; omega⟩
            rw [HTK.out.2]
            exact ((HYS.out.below HBq.out).append hcs).only (Only.of_grown hgrow) hno
      · obtain rfl : k = np := by omega
        have htk : P.take k = P := List.take_of_length_le (by rw [HNP.out]; exact Nat.le_refl _)
        rw [htk, HPF.out] at HRW
        have HE := Lib.hid (HE5.out.below HB.out)
        clear htk
        have CV1 := Lib.hid (seen_any _ _ rs Sq X _ HE.out HRO.out HX.out)
        have CV2 : Hid (∀ wx, fr wr wx → Calls Try.prog 15 #[.slice A4 r c4, .int .i64 Sq] wx fun r w' => ∃ A c, r = .returned (.tuple #[.slice A X.length c, .int .i64 0]) ∧ Prs w' (fun _ => True) (.slice A X.length c) X ∧ Below wx.heap.size wx w') := Lib.hid fun wx hx => seen_any _ _ T Sq X wx (HRW.out.below hx) HTO.out HX2.out
        obtain ⟨nx, hnx⟩ : ∃ k, X.length = k := ⟨_, rfl⟩
        rw [hnx] at CV1 CV2
        have HNX := Lib.hid hnx
        clear HE HRO HX HX2 HTO HRW hnx HC
        go_wp2_with (first
          | (go_at_call 15; (with_reducible (refine Calls.mono CV1.out ?_)); rintro r1 w6 ⟨A6, c6, rfl, hp6, hb6⟩; have f6 : fr wr w6 := hb6)
          | (go_at_call 15; (with_reducible (refine Calls.mono (CV2.out _ f6) ?_)); rintro r2 w7 ⟨A7, c7, rfl, hp7, hb7⟩)
          | (go_at_call 16; refine (sameP_any _ _ _ _ X X _ (hp6.below hb7) hp7).mono ?_; rintro r3 w8 ⟨rfl, hb8⟩; rw [decide_eq_true rfl]))
        refine bodyPost_ret (v := .bool true) (by simp [results, Try.results5, go_sem]) rfl ?_
        exact ⟨rfl, fr.step (fr.step (fr.step (fr.step HF5.out HB.out) hb6) hb7) hb8⟩
end Go.Proofs.Ytacdhkkelkplnaa
end
