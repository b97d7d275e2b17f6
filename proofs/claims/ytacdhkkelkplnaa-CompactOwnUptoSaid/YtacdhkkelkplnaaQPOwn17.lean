/-
law 14: what CompactOwn's loops ask of memory.
-/
import Derived.Test.YtacdhkkelkplnaaQPOwn16
import Derived.Test.YtacdhkkelkplnaaQPOwn11
import Derived.Test.YtacdhkkelkplnaaQPOwn10
section
namespace Go.Proofs.Ytacdhkkelkplnaa
open Go.RowKit Go.ChangeShapes Go.WideShapes Go.Deep
def OptV (w : World) (S : Nat → Prop) (v : Value) (a : Int × Int × Int × Int × List Int) : Prop := ∃ kv, v = .agg #[.int .i64 a.1, .int .i64 a.2.1, .int .i64 a.2.2.1, .int .i64 a.2.2.2.1, kv] ∧ IntsIn w S kv a.2.2.2.2 ∧ a.2.2.2.2.length * 8 ≤ 140737488355328
def HowV (v : Value) (a : Int × Int × Bool) : Prop := v = .agg #[.int .i64 a.1, .int .i64 a.2.1, .bool a.2.2] ∧ (Lit.int .i64 a.1).wf = true ∧ (Lit.int .i64 a.2.1).wf = true
theorem cells_b' : Try.prog.cellsOf 4 = 1 := by kernel_rfl
theorem cells_op : Try.prog.cellsOf 24 = 5 := by kernel_rfl
theorem cells_hw : Try.prog.cellsOf 32 = 3 := by kernel_rfl
section
variable {H : Type} {enc : TypeId × Value → H} {w : World} {base : Nat} {held : Bool} {spare : Nat → Bool}
set_option maxRecDepth 100000 in
theorem arg_opts {r : Reach} {b0 : Nat} {v : Value} {d : DataW H} {ps : List MemPlace} (hval : Value.okWide Try.prog w r b0 24 v) (hd : DataW.Trod enc Try.prog w base spare held 24 v d ps) (hw : ∀ n ∈ d.weights Try.prog 24, n ≤ reachBytes) :
    ∃ a, OptV w (fun _ => True) v a := by
  obtain ⟨n, h⟩ := hd
  have hv : ∃ cs, v = .agg cs := by
    unfold Value.okWide at hval
    rw [Try.underlying24] at hval
    obtain ⟨cs, e, _⟩ := hval
    exact ⟨cs, e⟩
  obtain ⟨cs, rfl⟩ := hv
  replace h : DataW.trod enc Try.prog w base spare held n 24 cs.toList = some (d, ps) := h
  obtain ⟨y0, y1, y2, y3, y4, m, hx, hl, h0, h1, h2, h3, h4⟩ := trod_struct5 Try.underlying24 h
  injection hx with hx1 hx2
  subst hx1
  rw [cells_op] at hl
  obtain ⟨l⟩ := cs
  simp only at hl h0 h1 h2 h3 h4 ⊢
  match l, hl with
  | [c0, c1, c2, c3, c4], _ =>
    simp only [cells_is, cells_i, List.drop_zero, List.drop_succ_cons, List.take_succ_cons, List.take_zero] at h0 h1 h2 h3 h4
    simp only [DataW.weights, Try.underlying24, List.map_cons, List.map_nil, DataW.weightsEach, List.append_nil, List.mem_append] at hw
    obtain ⟨a, ha, _, _⟩ := DataW.trod_int Try.underlying3 h0
    obtain ⟨b, hb, _, _⟩ := DataW.trod_int Try.underlying3 h1
    obtain ⟨c, hc, _, _⟩ := DataW.trod_int Try.underlying3 h2
    obtain ⟨e, he, _, _⟩ := DataW.trod_int Try.underlying3 h3
    obtain ⟨zs, hz, hz8, _⟩ := open_zs h4 (fun n hn => hw n (.inr (.inr (.inr (.inr hn)))))
    obtain rfl : c0 = .int .i64 a := by simpa using ha
    obtain rfl : c1 = .int .i64 b := by simpa using hb
    obtain rfl : c2 = .int .i64 c := by simpa using hc
    obtain rfl : c3 = .int .i64 e := by simpa using he
    exact ⟨(a, b, c, e, zs), _, rfl, hz, hz8⟩
set_option maxRecDepth 100000 in
theorem arg_how {r : Reach} {b0 : Nat} {v : Value} {d : DataW H} {ps : List MemPlace} (hval : Value.okWide Try.prog w r b0 32 v) (hd : DataW.Trod enc Try.prog w base spare held 32 v d ps) :
    ∃ a, HowV v a := by
  obtain ⟨n, h⟩ := hd
  have hv : ∃ cs, v = .agg cs := by
    unfold Value.okWide at hval
    rw [Try.underlying32] at hval
    obtain ⟨cs, e, _⟩ := hval
    exact ⟨cs, e⟩
  obtain ⟨cs, rfl⟩ := hv
  replace h : DataW.trod enc Try.prog w base spare held n 32 cs.toList = some (d, ps) := h
  obtain ⟨y0, y1, y2, m, hx, hl, h0, h1, h2⟩ := trod_struct3 Try.underlying32 h
  rw [cells_hw] at hl
  obtain ⟨l⟩ := cs
  simp only at hl h0 h1 h2 ⊢
  match l, hl with
  | [c0, c1, c2], _ =>
    simp only [cells_b', cells_i, List.drop_zero, List.drop_succ_cons, List.take_succ_cons, List.take_zero] at h0 h1 h2
    obtain ⟨a, ha, _, wa⟩ := DataW.trod_int Try.underlying3 h0
    obtain ⟨b, hb, _, wb⟩ := DataW.trod_int Try.underlying3 h1
    obtain ⟨c, hc, _⟩ := DataW.trod_bool Try.underlying4 h2
    obtain rfl : c0 = .int .i64 a := by simpa using ha
    obtain rfl : c1 = .int .i64 b := by simpa using hb
    obtain rfl : c2 = .bool c := by simpa using hc
    exact ⟨(a, b, c), rfl, wa, wb⟩
end
end Go.Proofs.Ytacdhkkelkplnaa
end
section
namespace Go.Proofs.Ytacdhkkelkplnaa
open Go.RowKit Go.BigFrame
attribute [local go_sem ↓] Go.wp_at_zero Go.wp_at_succ
set_option maxRecDepth 100000 in
set_option maxHeartbeats 2000000 in
theorem checksLaw (v : Value) (a : Int × Int × Int × Int × List Int) (w : World) (hv : OptV w (fun _ => True) v a) :
    Calls Try.prog 3 #[v] w fun r w' => r = .returned (.bool true) ∧ Below w.heap.size w w' := by
  obtain ⟨m, s, b, f, zs⟩ := a
  obtain ⟨kv, rfl, hz, hl⟩ := hv
  simp only at hz hl ⊢
  obtain ⟨A, c, rfl, h1, h2, hr⟩ := hz
  obtain ⟨n, hn⟩ : ∃ n, zs.length = n := ⟨_, rfl⟩
  have HZ : Hid (IntsIn w (fun _ => True) (.slice A n c) zs) := Lib.hid ⟨A, c, by rw [hn], h1, h2, hr⟩
  rw [hn] at hl h1 h2 ⊢
  have HN := Lib.hid hn
  have hal : fr w ((w.alloc (.cells #[.int .i64 m, .int .i64 s, .int .i64 b, .int .i64 f, .slice A n c] 24)).alloc (.cells #[] 3)) := fr.alloc (fr.alloc fr.refl _) _
  have P0 : ((w.alloc (.cells #[.int .i64 m, .int .i64 s, .int .i64 b, .int .i64 f, .slice A n c] 24)).alloc (.cells #[] 3)).heap[w.heap.size]? = some (.cells #[.int .i64 m, .int .i64 s, .int .i64 b, .int .i64 f, .slice A n c] 24 (0, 0)) := (Below.heap_alloc _ _ _ (by simp)).trans (heap_alloc_new w _)
  have HL0 : Hid (((w.alloc (.cells #[.int .i64 m, .int .i64 s, .int .i64 b, .int .i64 f, .slice A n c] 24)).alloc (.cells #[] 3)).ownsRow (w.heap.size + 1) 3 1 (.slice (some ⟨w.heap.size + 1, 0, none⟩) 0 0) 0 []) := Lib.hid (by simpa using lit0i (w.alloc (.cells #[.int .i64 m, .int .i64 s, .int .i64 b, .int .i64 f, .slice A n c] 24)))
  clear hn hr
  go_enter Try.func3, Try.ntmps3
  go_wp2_with (at_builtin; refine wpList_append_ints rfl _ _ rfl (w.heap.size + 1) _ _ rfl rfl (fun _ => True) zs HL0.out (HZ.out.below hal) (by rw [HN.out]; exact hl) (by simp) ?_; intro v2 w2 hown hgrow; rw [HN.out] at hown; obtain ⟨A2, c2, rfl⟩ := own_form hown; have hg2 : World.grownBy _ w2 (some (w.heap.size + 1)) := hgrow; have p2 := (hg2.block w.heap.size (by simp; omega) (by simp)).trans P0; have fz := frozen_of_row w2 _ 4 _ _ p2; have q4 := cell_of_row w2 _ 4 _ _ _ p2)
  have p3 : (w2.setCell ⟨w.heap.size, 4, none⟩ (.slice A2 n c2)).heap[w.heap.size]? = some (.cells #[.int .i64 m, .int .i64 s, .int .i64 b, .int .i64 f, .slice A2 n c2] 24 (0, 0)) := heap_setCell_same w2 _ _ _ _ _ p2
  have hf2 : fr w w2 := RowKit.Below.grown hal hg2 hal.size (fun j e => by injection e with e; omega)
  have hf3 : fr w (w2.setCell ⟨w.heap.size, 4, none⟩ (.slice A2 n c2)) := RowKit.Below.setCell hf2 (Nat.le_refl _) _
  generalize w2.setCell ⟨w.heap.size, 4, none⟩ (.slice A2 n c2) = w3 at p3 hf3 ⊢
  have HF3 := Lib.hid hf3
  have F0 : ∀ q : Ext w3, q.w.cell? ⟨w.heap.size, 0, none⟩ = some (.int .i64 m) := fun q => q.h.cell (cell_of_row w3 _ 0 _ _ _ p3)
  have F1 : ∀ q : Ext w3, q.w.cell? ⟨w.heap.size, 1, none⟩ = some (.int .i64 s) := fun q => q.h.cell (cell_of_row w3 _ 1 _ _ _ p3)
  have F2 : ∀ q : Ext w3, q.w.cell? ⟨w.heap.size, 2, none⟩ = some (.int .i64 b) := fun q => q.h.cell (cell_of_row w3 _ 2 _ _ _ p3)
  have F3 : ∀ q : Ext w3, q.w.cell? ⟨w.heap.size, 3, none⟩ = some (.int .i64 f) := fun q => q.h.cell (cell_of_row w3 _ 3 _ _ _ p3)
  have F4 : ∀ q : Ext w3, q.w.cell? ⟨w.heap.size, 4, none⟩ = some (.slice A2 n c2) := fun q => q.h.cell (cell_of_row w3 _ 4 _ _ _ p3)
  obtain ⟨x, hx⟩ : ∃ x, chk m s b f n = x := ⟨_, rfl⟩
  have CW : Hid (∀ q : Ext w3, Calls Try.prog 7 #[] q.w fun r w'' => r = .returned (.bool true) ∧ ∃ q' : Ext w3, w'' = q'.w) := Lib.hid fun q => Ext.calls (wakes_any q.w)
  have CA : Hid (∀ q : Ext w3, Calls Try.prog 8 #[.agg #[.int .i64 m, .int .i64 s, .int .i64 b, .int .i64 f, .slice A2 n c2]] q.w fun r w'' => r = .returned (.int .i64 x) ∧ ∃ q' : Ext w3, w'' = q'.w) := Lib.hid fun q => Ext.calls (by rw [← hx]; exact check_any _ _ _ _ _ _ _ q.w)
  have CB : Hid (∀ q : Ext w3, Calls Try.prog 9 #[.agg #[.int .i64 m, .int .i64 s, .int .i64 b, .int .i64 f, .slice A2 n c2]] q.w fun r w'' => r = .returned (.int .i64 x) ∧ ∃ q' : Ext w3, w'' = q'.w) := Lib.hid fun q => Ext.calls (by rw [← hx]; exact rcheck_any _ _ _ _ _ _ _ q.w)
  clear hx hf2 hf3 p2 p3 hown hgrow hg2 fz q4
  (refine wp_region_quiet_ext (by kernel_rfl) (by kernel_rfl) ?_; (repeat (go_big_quiet_step (first
    | (go_at_call 7; exact CW.out _)
    | (go_at_call 8; exact CA.out _)
    | (go_at_call 9; exact CB.out _)))); refine wpQuiet_nil ?_; intro wq hw'; obtain ⟨⟨_, hq⟩, hw''⟩ := hw'; subst hw'')
  go_wp2
  refine bodyPost_ret (v := .bool true) (by simp [results, Try.results3, go_sem]) rfl ?_
  exact ⟨rfl, fr.step HF3.out hq⟩
end Go.Proofs.Ytacdhkkelkplnaa
end
section
namespace Go.Proofs.Ytacdhkkelkplnaa
open Go.RowKit
theorem cells_tb : Try.prog.cellsOf 63 = 5 := by kernel_rfl
theorem bytes_tb : Try.prog.bytesOf 63 = 72 := by kernel_rfl
theorem cells_tbs : Try.prog.cellsOf 52 = 1 := by kernel_rfl
theorem cells_bs8 : Try.prog.cellsOf 44 = 1 := by kernel_rfl
theorem cells_ver : Try.prog.cellsOf 54 = 4 := by kernel_rfl
instance : Inhabited Tbl := ⟨⟨0, 0, 0, [], []⟩⟩
section
variable {H : Type} {P : Program} {enc : TypeId × Value → H} {w : World} {base : Nat} {held : Bool} {spare : Nat → Bool}
theorem trod_struct4' {t : TypeId} {f0 f1 f2 f3 : Field} {fuel : Nat} {cs : List Value} {x : DataW H × List MemPlace} (ht : P.underlying t = some (.struct #[f0, f1, f2, f3])) (h : DataW.trod enc P w base spare held fuel t cs = some x) :
    ∃ y0 y1 y2 y3 n, x = (.agg [y0.1, y1.1, y2.1, y3.1], y0.2 ++ (y1.2 ++ (y2.2 ++ y3.2))) ∧ cs.length = P.cellsOf t ∧ DataW.trod enc P w base spare held n f0.type ((cs.drop f0.offset).take (P.cellsOf f0.type)) = some y0 ∧
      DataW.trod enc P w base spare held n f1.type ((cs.drop f1.offset).take (P.cellsOf f1.type)) = some y1 ∧ DataW.trod enc P w base spare held n f2.type ((cs.drop f2.offset).take (P.cellsOf f2.type)) = some y2 ∧
      DataW.trod enc P w base spare held n f3.type ((cs.drop f3.offset).take (P.cellsOf f3.type)) = some y3 := by
  obtain ⟨xs, n, _, rfl, hl, hlen, hf⟩ := DataW.trod_struct ht h
  match xs, hlen with
  | [y0, y1, y2, y3], _ => exact ⟨y0, y1, y2, y3, n, by simp, hl, by simpa using hf 0 f0 rfl, by simpa using hf 1 f1 rfl, by simpa using hf 2 f2 rfl, by simpa using hf 3 f3 rfl⟩
end
section
variable {H : Type} {enc : TypeId × Value → H} {w : World} {base : Nat} {held : Bool} {spare : Nat → Bool}
set_option maxRecDepth 100000 in
theorem open_tb (fuel : Nat) (cs : List Value) (x : DataW H × List MemPlace) (h : DataW.trod enc Try.prog w base spare held fuel 63 cs = some x) (hw : ∀ n ∈ x.1.weights Try.prog 63, n ≤ reachBytes) :
    ∃ t : Tbl, tbR w (fun _ => True) t cs ∧ 0 ≤ Rows.uptoBulk x.1 := by
  obtain ⟨y0, y1, y2, y3, y4, m, rfl, hl, h0, h1, h2, h3, h4⟩ := trod_struct5 Try.underlying63 h
  rw [cells_tb] at hl
  match cs, hl with
  | [c0, c1, c2, c3, c4], _ =>
    simp only [cells_bs8, cells_i, List.drop_zero, List.drop_succ_cons, List.take_succ_cons, List.take_zero] at h0 h1 h2 h3 h4
    simp only [DataW.weights, Try.underlying63, List.map_cons, List.map_nil, DataW.weightsEach, List.append_nil, List.mem_append] at hw
    obtain ⟨a, ha, _, _⟩ := DataW.trod_int Try.underlying3 h0
    obtain ⟨b, hb, _, _⟩ := DataW.trod_int Try.underlying3 h1
    obtain ⟨c, hc, _, _⟩ := DataW.trod_int Try.underlying3 h2
    obtain ⟨xs, hx⟩ := open_byt h3 (fun n hn => hw n (.inr (.inr (.inr (.inl hn)))))
    obtain ⟨ys, hy⟩ := open_byt h4 (fun n hn => hw n (.inr (.inr (.inr (.inr hn)))))
    obtain rfl : c0 = .int .i64 a := by simpa using ha
    obtain rfl : c1 = .int .i64 b := by simpa using hb
    obtain rfl : c2 = .int .i64 c := by simpa using hc
    exact ⟨⟨a, b, c, xs, ys⟩, ⟨c3, c4, rfl, hx, hy⟩, Nat.zero_le _⟩
set_option maxRecDepth 100000 in
theorem arg_ver {r : Reach} {b0 : Nat} {v : Value} {d : DataW H} {ps : List MemPlace} (hval : Value.okWide Try.prog w r b0 54 v) (hd : DataW.Trod enc Try.prog w base spare held 54 v d ps) (hw : ∀ n ∈ d.weights Try.prog 54, n ≤ reachBytes) :
    ∃ a : List Tbl × Int × Int × Int, VerV w (fun _ => True) v a.1 a.2.1 a.2.2.1 a.2.2.2 := by
  obtain ⟨n, h⟩ := hd
  have hv : ∃ cs, v = .agg cs := by
    unfold Value.okWide at hval
    rw [Try.underlying54] at hval
    obtain ⟨cs, e, _⟩ := hval
    exact ⟨cs, e⟩
  obtain ⟨cs, rfl⟩ := hv
  replace h : DataW.trod enc Try.prog w base spare held n 54 cs.toList = some (d, ps) := h
  obtain ⟨y0, y1, y2, y3, m, hx, hl, h0, h1, h2, h3⟩ := trod_struct4' Try.underlying54 h
  injection hx with hx1 hx2
  subst hx1
  rw [cells_ver] at hl
  obtain ⟨l⟩ := cs
  simp only at hl h0 h1 h2 h3 ⊢
  match l, hl with
  | [c0, c1, c2, c3], _ =>
    simp only [cells_tbs, cells_i, List.drop_zero, List.drop_succ_cons, List.take_succ_cons, List.take_zero] at h0 h1 h2 h3
    simp only [DataW.weights, Try.underlying54, List.map_cons, List.map_nil, DataW.weightsEach, List.append_nil, List.mem_append] at hw
    obtain ⟨ts, ht, _⟩ := open_rows (R := tbR) (by decide) Try.underlying52 cells_tb bytes_tb (fun _ => 0) open_tb h0 (fun n hn => hw n (.inl hn))
    obtain ⟨a, ha, _, _⟩ := DataW.trod_int Try.underlying3 h1
    obtain ⟨b, hb, _, _⟩ := DataW.trod_int Try.underlying3 h2
    obtain ⟨c, hc, _, _⟩ := DataW.trod_int Try.underlying3 h3
    obtain rfl : c1 = .int .i64 a := by simpa using ha
    obtain rfl : c2 = .int .i64 b := by simpa using hb
    obtain rfl : c3 = .int .i64 c := by simpa using hc
    exact ⟨(ts, a, b, c), c0, rfl, ht⟩
end
end Go.Proofs.Ytacdhkkelkplnaa
end
section
namespace Go.Proofs.Ytacdhkkelkplnaa
open Go.RowKit Go.BigFrame
theorem Ents2.two {w : World} {R T : Nat → Prop} {v : Value} {es : List Ent} (h : Ents2 w R T v es) {k : Nat} {e : Ent} (hk : es[k]? = some e) :
    ∃ b o c A1 c1 A2 c2, v = .slice (some ⟨b, o, none⟩) es.length c ∧ R b ∧ b < w.heap.size ∧ w.cell? ⟨b, o + k * 4, none⟩ = some (.slice A1 e.key.length c1) ∧ w.cell? ⟨b, o + k * 4 + 3, none⟩ = some (.slice A2 e.val.length c2) ∧ Byt w T (.slice A1 e.key.length c1) e.key ∧ Byt w T (.slice A2 e.val.length c2) e.val := by
  obtain ⟨A, c, cs, rfl, _, _, _, hr, he⟩ := h
  have hk' := (List.getElem?_eq_some_iff.1 hk).1
  obtain ⟨b, o, rfl, h1, h2, h3⟩ := hr.2 (by omega)
  obtain ⟨kk, uu, a1, _, _, a4, q1, q2⟩ := he.at_ hk
  obtain ⟨A1, c1, rfl⟩ := slice_form q1
  obtain ⟨A2, c2, rfl⟩ := slice_form q2
  refine ⟨b, o, c, A1, c1, A2, c2, rfl, h1, h2, ?_, ?_, q1, q2⟩
  · rw [show o + k * 4 = o + 4 * k by omega]; exact h3 _ _ a1
  · rw [show o + k * 4 + 3 = o + (4 * k + 3) by omega]; exact h3 _ _ a4
theorem Lists2.one {w : World} {R T : Nat → Prop} {v : Value} {ls : List (List Ent)} (h : Lists2 w R T v ls) {i : Nat} {l : List Ent} (hi : ls[i]? = some l) :
    ∃ b o c A1 c1, v = .slice (some ⟨b, o, none⟩) ls.length c ∧ R b ∧ b < w.heap.size ∧ w.cell? ⟨b, o + i, none⟩ = some (.slice A1 l.length c1) ∧ Ents2 w R T (.slice A1 l.length c1) l := by
  obtain ⟨A, c, vs, rfl, _, _, _, hr, he⟩ := h
  have hi' := (List.getElem?_eq_some_iff.1 hi).1
  obtain ⟨x, hx, hy⟩ := he i l hi
  obtain ⟨b, o, rfl, h1, h2, h3⟩ := hr.2 (by omega)
  obtain ⟨A1, c1, _, rfl, _⟩ := id hy
  exact ⟨b, o, c, A1, c1, rfl, h1, h2, h3 _ _ hx, hy⟩
theorem Spoil.cellR {T : Nat → Prop} {w wr : World} (hs : Spoil T w wr) {b j : Nat} {v : Value} (hb : b < w.heap.size) (hT : ¬ T b) (hc : w.cell? ⟨b, j, none⟩ = some v) : wr.cell? ⟨b, j, none⟩ = some v :=
  (World.cell?_of_block (a := ⟨b, j, none⟩) (hs.only.block b hb hT)).trans hc
theorem turn_at {T : Nat → Prop} {w wr : World} {A : Option Addr} {n c j : Nat} {bs : List UInt8} (hsp : Spoil T w wr) (hb : Byt w T (.slice A n c) bs) (hL : ∀ i, T i → Loose w i) (hj : j < n) :
    ∃ b o x, A = some ⟨b, o, none⟩ ∧ wr.cell? ⟨b, o + j, none⟩ = some (.int .u8 (UInt8.toNat x : Int)) ∧ wr.frozen? ⟨b, o + j, none⟩ = false ∧ Spoil T w (wr.setCell ⟨b, o + j, none⟩ (.int .u8 (((x.toNat : Int) + 1) % 256))) := by
  obtain ⟨as', hl', h'⟩ := hsp.byt _ _ hb
  obtain ⟨A', ca', hE, _, _, _, hr⟩ := h'
  injection hE with e1 e2 e3
  subst e1
  obtain ⟨b, o, u, rfl, hTb, hbz, hu, hcell⟩ := hr.at_ (k := j) (by omega)
  obtain ⟨x, hx⟩ : ∃ c, as'[j]? = some c := ⟨_, List.getElem?_eq_getElem (by omega)⟩
  obtain rfl : u = bcell x := by rw [List.getElem?_map, hx] at hu; injection hu with hu; exact hu.symm
  have hlo := hsp.loose b (hL b hTb)
  refine ⟨b, o, x, rfl, hcell, hlo.frozen, ?_⟩
  rw [u8_next]
  exact hsp.trans (Spoil.store hTb hlo _)
/-- the blocks that are turned: loose ones, made in a stretch of time. -/
def TB (w : World) (lo hi i : Nat) : Prop := lo ≤ i ∧ i < hi ∧ Loose w i
theorem Lists2.imp {w w' : World} {R T R' T' : Nat → Prop} {v : Value} {ls : List (List Ent)} (h : Lists2 w R T v ls) (hr : ∀ A n sz xs, Row w R A n sz xs → Row w' R' A n sz xs) (ht : ∀ x bs, Byt w T x bs → Byt w' T' x bs) : Lists2 w' R' T' v ls := by
  obtain ⟨A, c, vs, e, h1, h2, h3, h4, h5⟩ := h
  exact ⟨A, c, vs, e, h1, h2, h3, hr _ _ _ _ h4, fun i l hl => by obtain ⟨x, hx, hy⟩ := h5 i l hl; exact ⟨x, hx, hy.imp hr ht⟩⟩
theorem Lists2.turn {w w' : World} {lo : Nat} {v : Value} {ls : List (List Ent)} (h : Lists2 w (hardB w lo) (softB w lo) v ls) (hb : Below w.heap.size w w') : Lists2 w' (fun i => hardB w' lo i ∧ i < w.heap.size) (TB w' lo w.heap.size) v ls :=
  h.imp (fun _ _ _ _ hr => by
      have := (hr.monoLt (S' := fun i => hardB w lo i ∧ i < w.heap.size) fun i hi h => ⟨h, hi⟩).below hb
      exact this.mono fun i hi => ⟨hi.1.below hb, hi.2⟩)
    (fun _ _ hx => by
      have := (hx.monoLt (S' := fun i => softB w lo i ∧ i < w.heap.size) fun i hi h => ⟨h, hi⟩).below hb
      exact this.mono fun i hi => ⟨hi.1.1, hi.2, hi.1.2.below hb⟩)
theorem TB.hard {w : World} {lo hi i : Nat} (h : hardB w lo i ∧ i < hi) : ¬ TB w lo hi i := fun k => h.1.2.2 k.2.2
end Go.Proofs.Ytacdhkkelkplnaa
end
