/-
Check of compact, and the document's Check.
-/
import Derived.Test.YtacdhkkelkplnaaQPOwn14
section
namespace Go.Proofs.Ytacdhkkelkplnaa
open Go.RowKit Go.BigFrame
attribute [local go_sem ↓] Go.wp_at_zero Go.wp_at_succ
set_option maxRecDepth 100000 in
set_option maxHeartbeats 2000000 in
theorem rsame_any (S S' : Nat → Prop) (v v' : Value) (xs ys : List (List Ent)) (w : World) (hx : Lists w S v xs) (hy : Lists w S' v' ys) :
    Calls Try.prog 13 #[v, v'] w fun r w' => r = .returned (.bool (decide (xs = ys))) ∧ Below w.heap.size w w' := by
  obtain ⟨A, c, vs, rfl, hc, hcm, hl, hr, he⟩ := hx
  obtain ⟨A', c', vs', rfl, hc', hcm', hl', hr', he'⟩ := hy
  obtain ⟨n, hn⟩ : ∃ n, xs.length = n := ⟨_, rfl⟩
  obtain ⟨m, hm⟩ : ∃ m, ys.length = m := ⟨_, rfl⟩
  rw [hn] at hl hc hr ⊢
  rw [hm] at hl' hc' hr' ⊢
  have HN := Lib.hid hn
  have HM := Lib.hid hm
  have HE := Lib.hid he
  have HE' := Lib.hid he'
  have HR := Lib.hid hr
  have HR' := Lib.hid hr'
  clear hn hm he he' hr hr'
  by_cases hnm : n = m
  case neg =>
    have hd : ((n : Int) == (m : Int)) = false := by simpa using fun h : (n : Int) = m => hnm (by omega)
    have HF := Lib.hid (show decide (xs = ys) = false from decide_eq_false fun e => hnm (by rw [← HN.out, ← HM.out, e]))
    rw [HF.out]
    go_enter Try.func13, Try.ntmps13
    go_wp2
    refine bodyPost_ret (v := .bool false) (by simp [results, Try.results13, go_sem]) rfl ?_
    exact ⟨rfl, Below.refl _ _⟩
  case pos =>
    subst hnm
    go_enter Try.func13, Try.ntmps13
    go_wp2
    go_loopw [13] (fun t wr => ∃ k : Nat, k ≤ n ∧ t = .int .i64 k ∧ xs.take k = ys.take k ∧ Below w.heap.size w wr) (fun t _ => n - (intOf t).toNat)
    case atStart => exact ⟨0, Nat.zero_le _, rfl, by simp, Below.refl _ _⟩
    case round =>
      obtain ⟨k, hk, rfl, heq, hbel⟩ := hrel
      have HEQ := Lib.hid heq
      have HB := Lib.hid hbel
      clear heq hbel
      by_cases hkn : k < n
      · obtain ⟨l, hlk⟩ : ∃ l, xs[k]? = some l := ⟨_, List.getElem?_eq_getElem (by rw [HN.out]; exact hkn)⟩
        obtain ⟨l', hlk'⟩ : ∃ l, ys[k]? = some l := ⟨_, List.getElem?_eq_getElem (by rw [HM.out]; exact hkn)⟩
        obtain ⟨x, hx, hxe⟩ := HE.out k l hlk
        obtain ⟨x', hx', hxe'⟩ := HE'.out k l' hlk'
        obtain ⟨b, o, u, rfl, _, _, hu, hcell⟩ := (HR.out.below HB.out).at_ hkn
        obtain ⟨b', o', u', rfl, _, _, hu', hcell'⟩ := (HR'.out.below HB.out).at_ hkn
        obtain rfl : u = x := by rw [hx] at hu; injection hu with hu; exact hu.symm
        obtain rfl : u' = x' := by rw [hx'] at hu'; injection hu' with hu'; exact hu'.symm
        have F0 : ∀ q : Ext wr, q.w.cell? { block := b, off := o + k } = _ := fun q => q.h.cell hcell
        have F1 : ∀ q : Ext wr, q.w.cell? { block := b', off := o' + k } = _ := fun q => q.h.cell hcell'
        have CC : Hid (∀ q : Ext wr, Calls Try.prog 19 #[u, u'] q.w fun r w'' => r = .returned (.bool (decide (l = l'))) ∧ ∃ q' : Ext wr, w'' = q'.w) := Lib.hid fun q => Ext.calls (sameE_any _ _ _ _ _ _ _ ((hxe.below HB.out).below q.h) ((hxe'.below HB.out).below q.h))
        have HT := Lib.hid (take_snoc hlk)
        have HT' := Lib.hid (take_snoc hlk')
        have HLK := Lib.hid hlk
        have HLK' := Lib.hid hlk'
        clear hx hx' hxe hxe' hu hu' hcell hcell' hlk hlk'
        by_cases hll : l = l'
        · rw [decide_eq_true hll] at CC
          go_wp2_with fail
          (refine wp_region_quiet_ext (by kernel_rfl) (by kernel_rfl) ?_; (repeat (go_big_quiet_step ((go_at_call 19; exact CC.out _)))); refine wpQuiet_nil ?_; intro wq hw'; obtain ⟨⟨_, hq⟩, hw''⟩ := hw'; subst hw'')
          go_wp2_with fail
          refine ⟨⟨k + 1, by omega, by go_num, ?_, HB.out.trans (Below.mono hq HB.out.size)⟩, by simp [intOf]; omega⟩
          rw [HT.out, HT'.out, HEQ.out, hll]
        · rw [decide_eq_false hll] at CC
          have HF := Lib.hid (show decide (xs = ys) = false from decide_eq_false fun e => hll (by have h1 := HLK.out; rw [e, HLK'.out] at h1; injection h1 with h1; exact h1.symm))
          go_wp2_with fail
          (refine wp_region_quiet_ext (by kernel_rfl) (by kernel_rfl) ?_; (repeat (go_big_quiet_step ((go_at_call 19; exact CC.out _)))); refine wpQuiet_nil ?_; intro wq hw'; obtain ⟨⟨_, hq⟩, hw''⟩ := hw'; subst hw'')
          go_wp2_with fail
          refine bodyPost_ret (v := .bool false) (by simp [results, Try.results13, go_sem]) rfl ?_
          exact ⟨by rw [HF.out], HB.out.trans (Below.mono hq HB.out.size)⟩
      · obtain rfl : k = n := by omega
        have HF := Lib.hid (show decide (xs = ys) = true from decide_eq_true (by have := HEQ.out; rwa [List.take_of_length_le (by rw [HN.out]; exact Nat.le_refl _), List.take_of_length_le (by rw [HM.out]; exact Nat.le_refl _)] at this))
        go_wp2_with fail
        refine bodyPost_ret (v := .bool true) (by simp [results, Try.results13, go_sem]) rfl ?_
        exact ⟨by rw [HF.out], HB.out⟩
end Go.Proofs.Ytacdhkkelkplnaa
end
section
namespace Go.Proofs.Ytacdhkkelkplnaa
open Go.RowKit Go.BigFrame
attribute [local go_sem ↓] Go.wp_at_zero Go.wp_at_succ
def bounds5 (m s b f : Int) (h : Nat) : List (Int × Int × Int) := [(m, 1, 4096), (s, 1, 4096), (b, 1, 1024), (f, 2, 16), ((h : Int), 0, 64)]
def inB (x : Int × Int × Int) : Bool := !(decide (x.1 < x.2.1) || decide (x.2.2 < x.1))
def chk (m s b f : Int) (h : Nat) : Int := if (bounds5 m s b f h).all inB then 0 else 2
set_option maxRecDepth 100000 in
set_option maxHeartbeats 2000000 in
theorem check_any (m s b f : Int) (H : Option Addr) (h c : Nat) (w : World) :
    Calls Try.prog 8 #[.agg #[.int .i64 m, .int .i64 s, .int .i64 b, .int .i64 f, .slice H h c]] w fun r w' => r = .returned (.int .i64 (chk m s b f h)) ∧ Below w.heap.size w w' := by
  go_enter Try.func8, Try.ntmps8
  go_wp2
  go_loopw [23] (fun t wr => ∃ k : Nat, k ≤ 5 ∧ t = .int .i64 k ∧ ((bounds5 m s b f h).take k).all inB = true ∧ wr.heap[w.heap.size + 1]? = some (.cells #[.int .i64 m, .int .i64 1, .int .i64 4096, .int .i64 s, .int .i64 1, .int .i64 4096, .int .i64 b, .int .i64 1, .int .i64 1024, .int .i64 f, .int .i64 2, .int .i64 16, .int .i64 h, .int .i64 0, .int .i64 64] 65) ∧ w.heap.size + 1 < wr.heap.size ∧ Below w.heap.size w wr) (fun t _ => 5 - (intOf t).toNat)
  case atStart =>
    refine ⟨0, Nat.zero_le _, rfl, rfl, ?_, by simp, ((Below.refl _ _).alloc (Nat.le_refl _) _).alloc (by simp) _⟩
    exact heap_at_new _ trivial (by simp)
  case round =>
    obtain ⟨k, hk, rfl, hall, hblk, hlt, hbel⟩ := hrel
    have HA := Lib.hid hall
    have HB := Lib.hid hbel
    have HBK := Lib.hid hblk
    have hz := hbel.size
    clear hall hblk hbel
    rcases (by omega : k = 0 ∨ k = 1 ∨ k = 2 ∨ k = 3 ∨ k = 4 ∨ k = 5) with rfl | rfl | rfl | rfl | rfl | rfl
    · have c0 : wr.cell? ⟨w.heap.size + 1, 0, none⟩ = some (.int .i64 m) := cell_of_row wr _ 0 _ _ _ HBK.out
      have c1 : wr.cell? ⟨w.heap.size + 1, 1, none⟩ = some (.int .i64 1) := cell_of_row wr _ 1 _ _ _ HBK.out
      have c2 : wr.cell? ⟨w.heap.size + 1, 2, none⟩ = some (.int .i64 4096) := cell_of_row wr _ 2 _ _ _ HBK.out
      by_cases h1 : m < 1
      · have d1 : decide (m < 1) = true := by simpa using h1
        go_wp2
        refine bodyPost_ret (v := .int .i64 2) (by simp [results, Try.results8, go_sem]) rfl ?_
        exact ⟨ret_int (by unfold chk bounds5; rw [if_neg (by simp [inB]; omega)]), HB.out.alloc hz _⟩
      · have d1 : decide (m < 1) = false := by simpa using h1
        by_cases h2 : 4096 < m
        · have d2 : decide (4096 < m) = true := by simpa using h2
          go_wp2
          refine bodyPost_ret (v := .int .i64 2) (by simp [results, Try.results8, go_sem]) rfl ?_
          exact ⟨ret_int (by unfold chk bounds5; rw [if_neg (by simp [inB]; omega)]), HB.out.alloc hz _⟩
        · have d2 : decide (4096 < m) = false := by simpa using h2
          go_wp2
          refine ⟨⟨1, by omega, by go_num, ?_, ?_, by simp; omega, HB.out.alloc hz _⟩, by simp [intOf]⟩
          · have h3 := HA.out
            revert h3
            simp [bounds5, inB]
            omega
          · rw [Below.heap_alloc _ _ _ hlt]; exact HBK.out
    · have c0 : wr.cell? ⟨w.heap.size + 1, 3, none⟩ = some (.int .i64 s) := cell_of_row wr _ 3 _ _ _ HBK.out
      have c1 : wr.cell? ⟨w.heap.size + 1, 4, none⟩ = some (.int .i64 1) := cell_of_row wr _ 4 _ _ _ HBK.out
      have c2 : wr.cell? ⟨w.heap.size + 1, 5, none⟩ = some (.int .i64 4096) := cell_of_row wr _ 5 _ _ _ HBK.out
      by_cases h1 : s < 1
      · have d1 : decide (s < 1) = true := by simpa using h1
        go_wp2
        refine bodyPost_ret (v := .int .i64 2) (by simp [results, Try.results8, go_sem]) rfl ?_
        exact ⟨ret_int (by unfold chk bounds5; rw [if_neg (by simp [inB]; omega)]), HB.out.alloc hz _⟩
      · have d1 : decide (s < 1) = false := by simpa using h1
        by_cases h2 : 4096 < s
        · have d2 : decide (4096 < s) = true := by simpa using h2
          go_wp2
          refine bodyPost_ret (v := .int .i64 2) (by simp [results, Try.results8, go_sem]) rfl ?_
          exact ⟨ret_int (by unfold chk bounds5; rw [if_neg (by simp [inB]; omega)]), HB.out.alloc hz _⟩
        · have d2 : decide (4096 < s) = false := by simpa using h2
          go_wp2
          refine ⟨⟨2, by omega, by go_num, ?_, ?_, by simp; omega, HB.out.alloc hz _⟩, by simp [intOf]⟩
          · have h3 := HA.out
            revert h3
            simp [bounds5, inB]
            omega
          · rw [Below.heap_alloc _ _ _ hlt]; exact HBK.out
    · have c0 : wr.cell? ⟨w.heap.size + 1, 6, none⟩ = some (.int .i64 b) := cell_of_row wr _ 6 _ _ _ HBK.out
      have c1 : wr.cell? ⟨w.heap.size + 1, 7, none⟩ = some (.int .i64 1) := cell_of_row wr _ 7 _ _ _ HBK.out
      have c2 : wr.cell? ⟨w.heap.size + 1, 8, none⟩ = some (.int .i64 1024) := cell_of_row wr _ 8 _ _ _ HBK.out
      by_cases h1 : b < 1
      · have d1 : decide (b < 1) = true := by simpa using h1
        go_wp2
        refine bodyPost_ret (v := .int .i64 2) (by simp [results, Try.results8, go_sem]) rfl ?_
        exact ⟨ret_int (by unfold chk bounds5; rw [if_neg (by simp [inB]; omega)]), HB.out.alloc hz _⟩
      · have d1 : decide (b < 1) = false := by simpa using h1
        by_cases h2 : 1024 < b
        · have d2 : decide (1024 < b) = true := by simpa using h2
          go_wp2
          refine bodyPost_ret (v := .int .i64 2) (by simp [results, Try.results8, go_sem]) rfl ?_
          exact ⟨ret_int (by unfold chk bounds5; rw [if_neg (by simp [inB]; omega)]), HB.out.alloc hz _⟩
        · have d2 : decide (1024 < b) = false := by simpa using h2
          go_wp2
          refine ⟨⟨3, by omega, by go_num, ?_, ?_, by simp; omega, HB.out.alloc hz _⟩, by simp [intOf]⟩
          · have h3 := HA.out
            revert h3
            simp [bounds5, inB]
            omega
          · rw [Below.heap_alloc _ _ _ hlt]; exact HBK.out
    · have c0 : wr.cell? ⟨w.heap.size + 1, 9, none⟩ = some (.int .i64 f) := cell_of_row wr _ 9 _ _ _ HBK.out
      have c1 : wr.cell? ⟨w.heap.size + 1, 10, none⟩ = some (.int .i64 2) := cell_of_row wr _ 10 _ _ _ HBK.out
      have c2 : wr.cell? ⟨w.heap.size + 1, 11, none⟩ = some (.int .i64 16) := cell_of_row wr _ 11 _ _ _ HBK.out
      by_cases h1 : f < 2
      · have d1 : decide (f < 2) = true := by simpa using h1
        go_wp2
        refine bodyPost_ret (v := .int .i64 2) (by simp [results, Try.results8, go_sem]) rfl ?_
        exact ⟨ret_int (by unfold chk bounds5; rw [if_neg (by simp [inB]; omega)]), HB.out.alloc hz _⟩
      · have d1 : decide (f < 2) = false := by simpa using h1
        by_cases h2 : 16 < f
        · have d2 : decide (16 < f) = true := by simpa using h2
          go_wp2
          refine bodyPost_ret (v := .int .i64 2) (by simp [results, Try.results8, go_sem]) rfl ?_
          exact ⟨ret_int (by unfold chk bounds5; rw [if_neg (by simp [inB]; omega)]), HB.out.alloc hz _⟩
        · have d2 : decide (16 < f) = false := by simpa using h2
          go_wp2
          refine ⟨⟨4, by omega, by go_num, ?_, ?_, by simp; omega, HB.out.alloc hz _⟩, by simp [intOf]⟩
          · have h3 := HA.out
            revert h3
            simp [bounds5, inB]
            omega
          · rw [Below.heap_alloc _ _ _ hlt]; exact HBK.out
    · have c0 : wr.cell? ⟨w.heap.size + 1, 12, none⟩ = some (.int .i64 (h : Int)) := cell_of_row wr _ 12 _ _ _ HBK.out
      have c1 : wr.cell? ⟨w.heap.size + 1, 13, none⟩ = some (.int .i64 0) := cell_of_row wr _ 13 _ _ _ HBK.out
      have c2 : wr.cell? ⟨w.heap.size + 1, 14, none⟩ = some (.int .i64 64) := cell_of_row wr _ 14 _ _ _ HBK.out
      · have d1 : decide ((h : Int) < 0) = false := decide_eq_false (by omega)
        by_cases h2 : 64 < (h : Int)
        · have d2 : decide (64 < (h : Int)) = true := by simpa using h2
          go_wp2
          refine bodyPost_ret (v := .int .i64 2) (by simp [results, Try.results8, go_sem]) rfl ?_
          exact ⟨ret_int (by unfold chk bounds5; rw [if_neg (by simp [inB]; omega)]), HB.out.alloc hz _⟩
        · have d2 : decide (64 < (h : Int)) = false := by simpa using h2
          go_wp2
          refine ⟨⟨5, by omega, by go_num, ?_, ?_, by simp; omega, HB.out.alloc hz _⟩, by simp [intOf]⟩
          · have h3 := HA.out
            revert h3
            simp [bounds5, inB]
            omega
          · rw [Below.heap_alloc _ _ _ hlt]; exact HBK.out
    · go_wp2
      refine bodyPost_ret (v := .int .i64 0) (by simp [results, Try.results8, go_sem]) rfl ?_
      exact ⟨ret_int (by unfold chk; rw [if_pos (by have := HA.out; unfold bounds5 at this ⊢; exact this)]), HB.out⟩
set_option maxRecDepth 100000 in
set_option maxHeartbeats 2000000 in
theorem rcheck_any (m s b f : Int) (H : Option Addr) (h c : Nat) (w : World) :
    Calls Try.prog 9 #[.agg #[.int .i64 m, .int .i64 s, .int .i64 b, .int .i64 f, .slice H h c]] w fun r w' => r = .returned (.int .i64 (chk m s b f h)) ∧ Below w.heap.size w w' := by
  by_cases h1 : m < 1
  · have d1 : decide (m < 1) = true := by simpa using h1
    go_enter Try.func9, Try.ntmps9
    go_wp2
    refine bodyPost_ret (v := .int .i64 2) (by simp [results, Try.results9, go_sem]) rfl ?_
    exact ⟨ret_int (by unfold chk bounds5; rw [if_neg (by simp [inB]; omega)]), (Below.refl _ _).alloc (Nat.le_refl _) _⟩
  have d1 : decide (m < 1) = false := by simpa using h1
  by_cases h2 : 4096 < m
  · have d2 : decide (4096 < m) = true := by simpa using h2
    go_enter Try.func9, Try.ntmps9
    go_wp2
    refine bodyPost_ret (v := .int .i64 2) (by simp [results, Try.results9, go_sem]) rfl ?_
    exact ⟨ret_int (by unfold chk bounds5; rw [if_neg (by simp [inB]; omega)]), (Below.refl _ _).alloc (Nat.le_refl _) _⟩
  have d2 : decide (4096 < m) = false := by simpa using h2
  by_cases h3 : s < 1
  · have d3 : decide (s < 1) = true := by simpa using h3
    go_enter Try.func9, Try.ntmps9
    go_wp2
    refine bodyPost_ret (v := .int .i64 2) (by simp [results, Try.results9, go_sem]) rfl ?_
    exact ⟨ret_int (by unfold chk bounds5; rw [if_neg (by simp [inB]; omega)]), (Below.refl _ _).alloc (Nat.le_refl _) _⟩
  have d3 : decide (s < 1) = false := by simpa using h3
  by_cases h4 : 4096 < s
  · have d4 : decide (4096 < s) = true := by simpa using h4
    go_enter Try.func9, Try.ntmps9
    go_wp2
    refine bodyPost_ret (v := .int .i64 2) (by simp [results, Try.results9, go_sem]) rfl ?_
    exact ⟨ret_int (by unfold chk bounds5; rw [if_neg (by simp [inB]; omega)]), (Below.refl _ _).alloc (Nat.le_refl _) _⟩
  have d4 : decide (4096 < s) = false := by simpa using h4
  by_cases h5 : b < 1
  · have d5 : decide (b < 1) = true := by simpa using h5
    go_enter Try.func9, Try.ntmps9
    go_wp2
    refine bodyPost_ret (v := .int .i64 2) (by simp [results, Try.results9, go_sem]) rfl ?_
    exact ⟨ret_int (by unfold chk bounds5; rw [if_neg (by simp [inB]; omega)]), (Below.refl _ _).alloc (Nat.le_refl _) _⟩
  have d5 : decide (b < 1) = false := by simpa using h5
  by_cases h6 : 1024 < b
  · have d6 : decide (1024 < b) = true := by simpa using h6
    go_enter Try.func9, Try.ntmps9
    go_wp2
    refine bodyPost_ret (v := .int .i64 2) (by simp [results, Try.results9, go_sem]) rfl ?_
    exact ⟨ret_int (by unfold chk bounds5; rw [if_neg (by simp [inB]; omega)]), (Below.refl _ _).alloc (Nat.le_refl _) _⟩
  have d6 : decide (1024 < b) = false := by simpa using h6
  by_cases h7 : f < 2
  · have d7 : decide (f < 2) = true := by simpa using h7
    go_enter Try.func9, Try.ntmps9
    go_wp2
    refine bodyPost_ret (v := .int .i64 2) (by simp [results, Try.results9, go_sem]) rfl ?_
    exact ⟨ret_int (by unfold chk bounds5; rw [if_neg (by simp [inB]; omega)]), (Below.refl _ _).alloc (Nat.le_refl _) _⟩
  have d7 : decide (f < 2) = false := by simpa using h7
  by_cases h8 : 16 < f
  · have d8 : decide (16 < f) = true := by simpa using h8
    go_enter Try.func9, Try.ntmps9
    go_wp2
    refine bodyPost_ret (v := .int .i64 2) (by simp [results, Try.results9, go_sem]) rfl ?_
    exact ⟨ret_int (by unfold chk bounds5; rw [if_neg (by simp [inB]; omega)]), (Below.refl _ _).alloc (Nat.le_refl _) _⟩
  have d8 : decide (16 < f) = false := by simpa using h8
  by_cases h9 : 64 < (h : Int)
  · have d9 : decide (64 < (h : Int)) = true := by simpa using h9
    go_enter Try.func9, Try.ntmps9
    go_wp2
    refine bodyPost_ret (v := .int .i64 2) (by simp [results, Try.results9, go_sem]) rfl ?_
    exact ⟨ret_int (by unfold chk bounds5; rw [if_neg (by simp [inB]; omega)]), (Below.refl _ _).alloc (Nat.le_refl _) _⟩
  have d9 : decide (64 < (h : Int)) = false := by simpa using h9
  go_enter Try.func9, Try.ntmps9
  go_wp2
  refine bodyPost_ret (v := .int .i64 0) (by simp [results, Try.results9, go_sem]) rfl ?_
  exact ⟨ret_int (by unfold chk bounds5; rw [if_pos (by simp [inB]; omega)]), (Below.refl _ _).alloc (Nat.le_refl _) _⟩
end Go.Proofs.Ytacdhkkelkplnaa
end
