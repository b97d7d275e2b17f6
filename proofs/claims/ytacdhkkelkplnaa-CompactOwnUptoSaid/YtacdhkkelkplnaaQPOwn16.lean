/-
Arguments opened: slices of structs (generic), numbers; the append of numbers. Written by genopz.py out of XOpn, XOpnR, XBase.
-/
import Derived.Test.YtacdhkkelkplnaaQPOwn13
import Derived.Test.YtacdhkkelkplnaaQPOwn15
import Derived.Test.YtacdhkkelkplnaaQPOwn9
import Derived.Test.YtacdhkkelkplnaaQPOwn10
import Derived.Test.YtacdhkkelkplnaaQPOwn11
import Derived.Deep.Strs
section
namespace Go.Proofs.Ytacdhkkelkplnaa
open Go.RowKit Go.BigFrame
attribute [local go_sem ↓] Go.wp_at_zero Go.wp_at_succ
def wa3 : Ent := ⟨[97], 3, false, []⟩
def wa2 : Ent := ⟨[97], 2, false, []⟩
def wb1 : Ent := ⟨[98], 1, false, []⟩
def wts : List Tbl := [⟨1, 0, 1, [97], [98]⟩, ⟨2, 0, 1, [99], [100]⟩, ⟨3, 1, 1, [100], [101]⟩, ⟨4, 2, 1, [102], [103]⟩]
theorem merge_wc : mergeC [[wa3, wa2, wb1]] = ([wa3, wa2, wb1], 0) := by
  have hh : heapOf [[wa3, wa2, wb1]] = [[wa3, wa2, wb1]] := by simp [heapOf, push0]
  unfold mergeC
  rw [if_pos (by decide), hh]
  simp [total, mergeGo, twice, pop1, push0]
  rw [if_neg (by decide), if_neg (by decide)]
theorem run_w3 : runL [[wa3, wa2, wb1]] 3 false 1 = [[wa3], [wb1]] := by
  unfold runL
  rw [merge_wc, if_neg (by decide), if_pos rfl]
  decide
theorem run_w0 : runL [[wa3, wa2, wb1]] 0 false 1 = [[wa3, wa2], [wb1]] := by
  unfold runL
  rw [merge_wc, if_neg (by decide), if_pos rfl]
  decide
theorem run_wn : runN [[wa3, wa2, wb1]] 1 = 0 := by
  unfold runN
  rw [merge_wc, if_neg (by decide)]
theorem pick_w : pickC wts 2 = ([1, 2, 3], 1, true) := by
  have h : pickAt wts 2 0 = some (sortZ [1, 2, 3]) := by
    unfold pickAt
    rfl
  have hs : sortZ [1, 2, 3] = [1, 2, 3] := List.mergeSort_of_pairwise (by decide)
  unfold pickC
  have := pickGo_some (k := 0) (h.trans (congrArg some hs)) (by omega)
  exact this
theorem bottom_w : bottomC wts [1, 2, 3] 1 = true := by decide
theorem litc (w : World) (sz : Nat) (hsz : sz = w.heap.size) : Ents ((((w.alloc (.cells #[.int .u8 97] 5 (1, 2))).alloc (.cells #[.int .u8 97] 5 (1, 2))).alloc (.cells #[.int .u8 98] 5 (1, 2))).alloc (.cells #[.slice (some ⟨sz, 0, none⟩) 1 1, .int .i64 3, .bool false, .slice none 0 0, .slice (some ⟨sz + 1, 0, none⟩) 1 1, .int .i64 2, .bool false, .slice none 0 0, .slice (some ⟨sz + 1 + 1, 0, none⟩) 1 1, .int .i64 1, .bool false, .slice none 0 0] 46)) (fun i => i < ((((w.alloc (.cells #[.int .u8 97] 5 (1, 2))).alloc (.cells #[.int .u8 97] 5 (1, 2))).alloc (.cells #[.int .u8 98] 5 (1, 2))).alloc (.cells #[.slice (some ⟨sz, 0, none⟩) 1 1, .int .i64 3, .bool false, .slice none 0 0, .slice (some ⟨sz + 1, 0, none⟩) 1 1, .int .i64 2, .bool false, .slice none 0 0, .slice (some ⟨sz + 1 + 1, 0, none⟩) 1 1, .int .i64 1, .bool false, .slice none 0 0] 46)).heap.size) (.slice (some ⟨sz + 1 + 1 + 1, 0, none⟩) 3 3) [wa3, wa2, wb1] ∧ fr w ((((w.alloc (.cells #[.int .u8 97] 5 (1, 2))).alloc (.cells #[.int .u8 97] 5 (1, 2))).alloc (.cells #[.int .u8 98] 5 (1, 2))).alloc (.cells #[.slice (some ⟨sz, 0, none⟩) 1 1, .int .i64 3, .bool false, .slice none 0 0, .slice (some ⟨sz + 1, 0, none⟩) 1 1, .int .i64 2, .bool false, .slice none 0 0, .slice (some ⟨sz + 1 + 1, 0, none⟩) 1 1, .int .i64 1, .bool false, .slice none 0 0] 46)) := by
  subst hsz
  have hb : fr w ((((w.alloc (.cells #[.int .u8 97] 5 (1, 2))).alloc (.cells #[.int .u8 97] 5 (1, 2))).alloc (.cells #[.int .u8 98] 5 (1, 2))).alloc (.cells #[.slice (some ⟨w.heap.size, 0, none⟩) 1 1, .int .i64 3, .bool false, .slice none 0 0, .slice (some ⟨w.heap.size + 1, 0, none⟩) 1 1, .int .i64 2, .bool false, .slice none 0 0, .slice (some ⟨w.heap.size + 1 + 1, 0, none⟩) 1 1, .int .i64 1, .bool false, .slice none 0 0] 46)) := fr.alloc (fr.alloc (fr.alloc (fr.alloc fr.refl _) _) _) _
  refine ⟨?_, hb⟩
  refine ⟨_, _, [.slice (some ⟨w.heap.size, 0, none⟩) 1 1, .int .i64 3, .bool false, .slice none 0 0, .slice (some ⟨w.heap.size + 1, 0, none⟩) 1 1, .int .i64 2, .bool false, .slice none 0 0, .slice (some ⟨w.heap.size + 1 + 1, 0, none⟩) 1 1, .int .i64 1, .bool false, .slice none 0 0], rfl, by simp, by simp, by simp, ⟨by simp, fun _ => ⟨_, 0, rfl, by simp, by simp, fun j u hu => ?_⟩⟩, ?_⟩
  · rw [World.cell?_alloc_at _ _ _ _ (by simp)]
    simpa using hu
  · refine ⟨rfl, rfl, Byt.one (v := .int .u8 97) ?_ rfl (by simp; try omega) (by omega) (by omega), Byt.nil _ _, rfl, rfl, Byt.one (v := .int .u8 97) ?_ rfl (by simp; try omega) (by omega) (by omega), Byt.nil _ _, rfl, rfl, Byt.one (v := .int .u8 98) ?_ rfl (by simp) (by omega) (by omega), Byt.nil _ _, trivial⟩
    · exact Lib.cell?_alloc_marked _ (Lib.cell?_alloc_marked _ (Lib.cell?_alloc_marked _ (cell_marked _ _ _ _ _ _ rfl)))
    · exact Lib.cell?_alloc_marked _ (Lib.cell?_alloc_marked _ (cell_marked _ _ _ _ _ _ (by simp)))
    · exact Lib.cell?_alloc_marked _ (cell_marked _ _ _ _ _ _ (by simp))
theorem from_litc {w : World} {sz : Nat} (hsz : sz = w.heap.size) {Q : World → Prop} (h : ∀ W, Hid (Ents W (fun i => i < W.heap.size) (.slice (some ⟨sz + 1 + 1 + 1, 0, none⟩) 3 3) [wa3, wa2, wb1]) → Hid (fr w W) → Q W) : Q ((((w.alloc (.cells #[.int .u8 97] 5 (1, 2))).alloc (.cells #[.int .u8 97] 5 (1, 2))).alloc (.cells #[.int .u8 98] 5 (1, 2))).alloc (.cells #[.slice (some ⟨sz, 0, none⟩) 1 1, .int .i64 3, .bool false, .slice none 0 0, .slice (some ⟨sz + 1, 0, none⟩) 1 1, .int .i64 2, .bool false, .slice none 0 0, .slice (some ⟨sz + 1 + 1, 0, none⟩) 1 1, .int .i64 1, .bool false, .slice none 0 0] 46)) :=
  h _ (Lib.hid (litc w sz hsz).1) (Lib.hid (litc w sz hsz).2)
theorem litv (w : World) (sz : Nat) (hsz : sz = w.heap.size) : TabsV (((((((((w.alloc (.cells #[.int .u8 97] 5 (1, 2))).alloc (.cells #[.int .u8 98] 5 (1, 2))).alloc (.cells #[.int .u8 99] 5 (1, 2))).alloc (.cells #[.int .u8 100] 5 (1, 2))).alloc (.cells #[.int .u8 100] 5 (1, 2))).alloc (.cells #[.int .u8 101] 5 (1, 2))).alloc (.cells #[.int .u8 102] 5 (1, 2))).alloc (.cells #[.int .u8 103] 5 (1, 2))).alloc (.cells #[.int .i64 1, .int .i64 0, .int .i64 1, .slice (some ⟨sz, 0, none⟩) 1 1, .slice (some ⟨sz + 1, 0, none⟩) 1 1, .int .i64 2, .int .i64 0, .int .i64 1, .slice (some ⟨sz + 1 + 1, 0, none⟩) 1 1, .slice (some ⟨sz + 1 + 1 + 1, 0, none⟩) 1 1, .int .i64 3, .int .i64 1, .int .i64 1, .slice (some ⟨sz + 1 + 1 + 1 + 1, 0, none⟩) 1 1, .slice (some ⟨sz + 1 + 1 + 1 + 1 + 1, 0, none⟩) 1 1, .int .i64 4, .int .i64 2, .int .i64 1, .slice (some ⟨sz + 1 + 1 + 1 + 1 + 1 + 1, 0, none⟩) 1 1, .slice (some ⟨sz + 1 + 1 + 1 + 1 + 1 + 1 + 1, 0, none⟩) 1 1] 63)) (fun i => i < (((((((((w.alloc (.cells #[.int .u8 97] 5 (1, 2))).alloc (.cells #[.int .u8 98] 5 (1, 2))).alloc (.cells #[.int .u8 99] 5 (1, 2))).alloc (.cells #[.int .u8 100] 5 (1, 2))).alloc (.cells #[.int .u8 100] 5 (1, 2))).alloc (.cells #[.int .u8 101] 5 (1, 2))).alloc (.cells #[.int .u8 102] 5 (1, 2))).alloc (.cells #[.int .u8 103] 5 (1, 2))).alloc (.cells #[.int .i64 1, .int .i64 0, .int .i64 1, .slice (some ⟨sz, 0, none⟩) 1 1, .slice (some ⟨sz + 1, 0, none⟩) 1 1, .int .i64 2, .int .i64 0, .int .i64 1, .slice (some ⟨sz + 1 + 1, 0, none⟩) 1 1, .slice (some ⟨sz + 1 + 1 + 1, 0, none⟩) 1 1, .int .i64 3, .int .i64 1, .int .i64 1, .slice (some ⟨sz + 1 + 1 + 1 + 1, 0, none⟩) 1 1, .slice (some ⟨sz + 1 + 1 + 1 + 1 + 1, 0, none⟩) 1 1, .int .i64 4, .int .i64 2, .int .i64 1, .slice (some ⟨sz + 1 + 1 + 1 + 1 + 1 + 1, 0, none⟩) 1 1, .slice (some ⟨sz + 1 + 1 + 1 + 1 + 1 + 1 + 1, 0, none⟩) 1 1] 63)).heap.size) (.slice (some ⟨sz + 1 + 1 + 1 + 1 + 1 + 1 + 1 + 1, 0, none⟩) 4 4) wts ∧ fr w (((((((((w.alloc (.cells #[.int .u8 97] 5 (1, 2))).alloc (.cells #[.int .u8 98] 5 (1, 2))).alloc (.cells #[.int .u8 99] 5 (1, 2))).alloc (.cells #[.int .u8 100] 5 (1, 2))).alloc (.cells #[.int .u8 100] 5 (1, 2))).alloc (.cells #[.int .u8 101] 5 (1, 2))).alloc (.cells #[.int .u8 102] 5 (1, 2))).alloc (.cells #[.int .u8 103] 5 (1, 2))).alloc (.cells #[.int .i64 1, .int .i64 0, .int .i64 1, .slice (some ⟨sz, 0, none⟩) 1 1, .slice (some ⟨sz + 1, 0, none⟩) 1 1, .int .i64 2, .int .i64 0, .int .i64 1, .slice (some ⟨sz + 1 + 1, 0, none⟩) 1 1, .slice (some ⟨sz + 1 + 1 + 1, 0, none⟩) 1 1, .int .i64 3, .int .i64 1, .int .i64 1, .slice (some ⟨sz + 1 + 1 + 1 + 1, 0, none⟩) 1 1, .slice (some ⟨sz + 1 + 1 + 1 + 1 + 1, 0, none⟩) 1 1, .int .i64 4, .int .i64 2, .int .i64 1, .slice (some ⟨sz + 1 + 1 + 1 + 1 + 1 + 1, 0, none⟩) 1 1, .slice (some ⟨sz + 1 + 1 + 1 + 1 + 1 + 1 + 1, 0, none⟩) 1 1] 63)) := by
  subst hsz
  have hb : fr w (((((((((w.alloc (.cells #[.int .u8 97] 5 (1, 2))).alloc (.cells #[.int .u8 98] 5 (1, 2))).alloc (.cells #[.int .u8 99] 5 (1, 2))).alloc (.cells #[.int .u8 100] 5 (1, 2))).alloc (.cells #[.int .u8 100] 5 (1, 2))).alloc (.cells #[.int .u8 101] 5 (1, 2))).alloc (.cells #[.int .u8 102] 5 (1, 2))).alloc (.cells #[.int .u8 103] 5 (1, 2))).alloc (.cells #[.int .i64 1, .int .i64 0, .int .i64 1, .slice (some ⟨w.heap.size, 0, none⟩) 1 1, .slice (some ⟨w.heap.size + 1, 0, none⟩) 1 1, .int .i64 2, .int .i64 0, .int .i64 1, .slice (some ⟨w.heap.size + 1 + 1, 0, none⟩) 1 1, .slice (some ⟨w.heap.size + 1 + 1 + 1, 0, none⟩) 1 1, .int .i64 3, .int .i64 1, .int .i64 1, .slice (some ⟨w.heap.size + 1 + 1 + 1 + 1, 0, none⟩) 1 1, .slice (some ⟨w.heap.size + 1 + 1 + 1 + 1 + 1, 0, none⟩) 1 1, .int .i64 4, .int .i64 2, .int .i64 1, .slice (some ⟨w.heap.size + 1 + 1 + 1 + 1 + 1 + 1, 0, none⟩) 1 1, .slice (some ⟨w.heap.size + 1 + 1 + 1 + 1 + 1 + 1 + 1, 0, none⟩) 1 1] 63)) := (fr.alloc (fr.alloc (fr.alloc (fr.alloc (fr.alloc (fr.alloc (fr.alloc (fr.alloc (fr.alloc fr.refl _) _) _) _) _) _) _) _) _)
  refine ⟨?_, hb⟩
  refine ⟨_, _, [[.int .i64 1, .int .i64 0, .int .i64 1, .slice (some ⟨w.heap.size, 0, none⟩) 1 1, .slice (some ⟨w.heap.size + 1, 0, none⟩) 1 1], [.int .i64 2, .int .i64 0, .int .i64 1, .slice (some ⟨w.heap.size + 1 + 1, 0, none⟩) 1 1, .slice (some ⟨w.heap.size + 1 + 1 + 1, 0, none⟩) 1 1], [.int .i64 3, .int .i64 1, .int .i64 1, .slice (some ⟨w.heap.size + 1 + 1 + 1 + 1, 0, none⟩) 1 1, .slice (some ⟨w.heap.size + 1 + 1 + 1 + 1 + 1, 0, none⟩) 1 1], [.int .i64 4, .int .i64 2, .int .i64 1, .slice (some ⟨w.heap.size + 1 + 1 + 1 + 1 + 1 + 1, 0, none⟩) 1 1, .slice (some ⟨w.heap.size + 1 + 1 + 1 + 1 + 1 + 1 + 1, 0, none⟩) 1 1]], rfl, by simp [wts], by simp, by simp [wts], ⟨by simp [wts], fun _ => ⟨_, 0, rfl, by simp, by simp, fun j u hu => ?_⟩⟩, ?_⟩
  · rw [World.cell?_alloc_at _ _ _ _ (by simp)]
    simpa using hu
  ·
    have e0 : tbR (((((((((w.alloc (.cells #[.int .u8 97] 5 (1, 2))).alloc (.cells #[.int .u8 98] 5 (1, 2))).alloc (.cells #[.int .u8 99] 5 (1, 2))).alloc (.cells #[.int .u8 100] 5 (1, 2))).alloc (.cells #[.int .u8 100] 5 (1, 2))).alloc (.cells #[.int .u8 101] 5 (1, 2))).alloc (.cells #[.int .u8 102] 5 (1, 2))).alloc (.cells #[.int .u8 103] 5 (1, 2))).alloc (.cells #[.int .i64 1, .int .i64 0, .int .i64 1, .slice (some ⟨w.heap.size, 0, none⟩) 1 1, .slice (some ⟨w.heap.size + 1, 0, none⟩) 1 1, .int .i64 2, .int .i64 0, .int .i64 1, .slice (some ⟨w.heap.size + 1 + 1, 0, none⟩) 1 1, .slice (some ⟨w.heap.size + 1 + 1 + 1, 0, none⟩) 1 1, .int .i64 3, .int .i64 1, .int .i64 1, .slice (some ⟨w.heap.size + 1 + 1 + 1 + 1, 0, none⟩) 1 1, .slice (some ⟨w.heap.size + 1 + 1 + 1 + 1 + 1, 0, none⟩) 1 1, .int .i64 4, .int .i64 2, .int .i64 1, .slice (some ⟨w.heap.size + 1 + 1 + 1 + 1 + 1 + 1, 0, none⟩) 1 1, .slice (some ⟨w.heap.size + 1 + 1 + 1 + 1 + 1 + 1 + 1, 0, none⟩) 1 1] 63)) (fun i => i < (((((((((w.alloc (.cells #[.int .u8 97] 5 (1, 2))).alloc (.cells #[.int .u8 98] 5 (1, 2))).alloc (.cells #[.int .u8 99] 5 (1, 2))).alloc (.cells #[.int .u8 100] 5 (1, 2))).alloc (.cells #[.int .u8 100] 5 (1, 2))).alloc (.cells #[.int .u8 101] 5 (1, 2))).alloc (.cells #[.int .u8 102] 5 (1, 2))).alloc (.cells #[.int .u8 103] 5 (1, 2))).alloc (.cells #[.int .i64 1, .int .i64 0, .int .i64 1, .slice (some ⟨w.heap.size, 0, none⟩) 1 1, .slice (some ⟨w.heap.size + 1, 0, none⟩) 1 1, .int .i64 2, .int .i64 0, .int .i64 1, .slice (some ⟨w.heap.size + 1 + 1, 0, none⟩) 1 1, .slice (some ⟨w.heap.size + 1 + 1 + 1, 0, none⟩) 1 1, .int .i64 3, .int .i64 1, .int .i64 1, .slice (some ⟨w.heap.size + 1 + 1 + 1 + 1, 0, none⟩) 1 1, .slice (some ⟨w.heap.size + 1 + 1 + 1 + 1 + 1, 0, none⟩) 1 1, .int .i64 4, .int .i64 2, .int .i64 1, .slice (some ⟨w.heap.size + 1 + 1 + 1 + 1 + 1 + 1, 0, none⟩) 1 1, .slice (some ⟨w.heap.size + 1 + 1 + 1 + 1 + 1 + 1 + 1, 0, none⟩) 1 1] 63)).heap.size) ⟨1, 0, 1, [97], [98]⟩ [.int .i64 1, .int .i64 0, .int .i64 1, .slice (some ⟨w.heap.size, 0, none⟩) 1 1, .slice (some ⟨w.heap.size + 1, 0, none⟩) 1 1] := ⟨_, _, rfl, Byt.one (v := .int .u8 97) (Lib.cell?_alloc_marked _ (Lib.cell?_alloc_marked _ (Lib.cell?_alloc_marked _ (Lib.cell?_alloc_marked _ (Lib.cell?_alloc_marked _ (Lib.cell?_alloc_marked _ (Lib.cell?_alloc_marked _ (Lib.cell?_alloc_marked _ (cell_marked _ _ _ _ _ _ (by simp)))))))))) rfl (by simp; try omega) (by omega) (by omega), Byt.one (v := .int .u8 98) (Lib.cell?_alloc_marked _ (Lib.cell?_alloc_marked _ (Lib.cell?_alloc_marked _ (Lib.cell?_alloc_marked _ (Lib.cell?_alloc_marked _ (Lib.cell?_alloc_marked _ (Lib.cell?_alloc_marked _ (cell_marked _ _ _ _ _ _ (by simp))))))))) rfl (by simp; try omega) (by omega) (by omega)⟩
    have e1 : tbR (((((((((w.alloc (.cells #[.int .u8 97] 5 (1, 2))).alloc (.cells #[.int .u8 98] 5 (1, 2))).alloc (.cells #[.int .u8 99] 5 (1, 2))).alloc (.cells #[.int .u8 100] 5 (1, 2))).alloc (.cells #[.int .u8 100] 5 (1, 2))).alloc (.cells #[.int .u8 101] 5 (1, 2))).alloc (.cells #[.int .u8 102] 5 (1, 2))).alloc (.cells #[.int .u8 103] 5 (1, 2))).alloc (.cells #[.int .i64 1, .int .i64 0, .int .i64 1, .slice (some ⟨w.heap.size, 0, none⟩) 1 1, .slice (some ⟨w.heap.size + 1, 0, none⟩) 1 1, .int .i64 2, .int .i64 0, .int .i64 1, .slice (some ⟨w.heap.size + 1 + 1, 0, none⟩) 1 1, .slice (some ⟨w.heap.size + 1 + 1 + 1, 0, none⟩) 1 1, .int .i64 3, .int .i64 1, .int .i64 1, .slice (some ⟨w.heap.size + 1 + 1 + 1 + 1, 0, none⟩) 1 1, .slice (some ⟨w.heap.size + 1 + 1 + 1 + 1 + 1, 0, none⟩) 1 1, .int .i64 4, .int .i64 2, .int .i64 1, .slice (some ⟨w.heap.size + 1 + 1 + 1 + 1 + 1 + 1, 0, none⟩) 1 1, .slice (some ⟨w.heap.size + 1 + 1 + 1 + 1 + 1 + 1 + 1, 0, none⟩) 1 1] 63)) (fun i => i < (((((((((w.alloc (.cells #[.int .u8 97] 5 (1, 2))).alloc (.cells #[.int .u8 98] 5 (1, 2))).alloc (.cells #[.int .u8 99] 5 (1, 2))).alloc (.cells #[.int .u8 100] 5 (1, 2))).alloc (.cells #[.int .u8 100] 5 (1, 2))).alloc (.cells #[.int .u8 101] 5 (1, 2))).alloc (.cells #[.int .u8 102] 5 (1, 2))).alloc (.cells #[.int .u8 103] 5 (1, 2))).alloc (.cells #[.int .i64 1, .int .i64 0, .int .i64 1, .slice (some ⟨w.heap.size, 0, none⟩) 1 1, .slice (some ⟨w.heap.size + 1, 0, none⟩) 1 1, .int .i64 2, .int .i64 0, .int .i64 1, .slice (some ⟨w.heap.size + 1 + 1, 0, none⟩) 1 1, .slice (some ⟨w.heap.size + 1 + 1 + 1, 0, none⟩) 1 1, .int .i64 3, .int .i64 1, .int .i64 1, .slice (some ⟨w.heap.size + 1 + 1 + 1 + 1, 0, none⟩) 1 1, .slice (some ⟨w.heap.size + 1 + 1 + 1 + 1 + 1, 0, none⟩) 1 1, .int .i64 4, .int .i64 2, .int .i64 1, .slice (some ⟨w.heap.size + 1 + 1 + 1 + 1 + 1 + 1, 0, none⟩) 1 1, .slice (some ⟨w.heap.size + 1 + 1 + 1 + 1 + 1 + 1 + 1, 0, none⟩) 1 1] 63)).heap.size) ⟨2, 0, 1, [99], [100]⟩ [.int .i64 2, .int .i64 0, .int .i64 1, .slice (some ⟨w.heap.size + 1 + 1, 0, none⟩) 1 1, .slice (some ⟨w.heap.size + 1 + 1 + 1, 0, none⟩) 1 1] := ⟨_, _, rfl, Byt.one (v := .int .u8 99) (Lib.cell?_alloc_marked _ (Lib.cell?_alloc_marked _ (Lib.cell?_alloc_marked _ (Lib.cell?_alloc_marked _ (Lib.cell?_alloc_marked _ (Lib.cell?_alloc_marked _ (cell_marked _ _ _ _ _ _ (by simp)))))))) rfl (by simp; try omega) (by omega) (by omega), Byt.one (v := .int .u8 100) (Lib.cell?_alloc_marked _ (Lib.cell?_alloc_marked _ (Lib.cell?_alloc_marked _ (Lib.cell?_alloc_marked _ (Lib.cell?_alloc_marked _ (cell_marked _ _ _ _ _ _ (by simp))))))) rfl (by simp; try omega) (by omega) (by omega)⟩
    have e2 : tbR (((((((((w.alloc (.cells #[.int .u8 97] 5 (1, 2))).alloc (.cells #[.int .u8 98] 5 (1, 2))).alloc (.cells #[.int .u8 99] 5 (1, 2))).alloc (.cells #[.int .u8 100] 5 (1, 2))).alloc (.cells #[.int .u8 100] 5 (1, 2))).alloc (.cells #[.int .u8 101] 5 (1, 2))).alloc (.cells #[.int .u8 102] 5 (1, 2))).alloc (.cells #[.int .u8 103] 5 (1, 2))).alloc (.cells #[.int .i64 1, .int .i64 0, .int .i64 1, .slice (some ⟨w.heap.size, 0, none⟩) 1 1, .slice (some ⟨w.heap.size + 1, 0, none⟩) 1 1, .int .i64 2, .int .i64 0, .int .i64 1, .slice (some ⟨w.heap.size + 1 + 1, 0, none⟩) 1 1, .slice (some ⟨w.heap.size + 1 + 1 + 1, 0, none⟩) 1 1, .int .i64 3, .int .i64 1, .int .i64 1, .slice (some ⟨w.heap.size + 1 + 1 + 1 + 1, 0, none⟩) 1 1, .slice (some ⟨w.heap.size + 1 + 1 + 1 + 1 + 1, 0, none⟩) 1 1, .int .i64 4, .int .i64 2, .int .i64 1, .slice (some ⟨w.heap.size + 1 + 1 + 1 + 1 + 1 + 1, 0, none⟩) 1 1, .slice (some ⟨w.heap.size + 1 + 1 + 1 + 1 + 1 + 1 + 1, 0, none⟩) 1 1] 63)) (fun i => i < (((((((((w.alloc (.cells #[.int .u8 97] 5 (1, 2))).alloc (.cells #[.int .u8 98] 5 (1, 2))).alloc (.cells #[.int .u8 99] 5 (1, 2))).alloc (.cells #[.int .u8 100] 5 (1, 2))).alloc (.cells #[.int .u8 100] 5 (1, 2))).alloc (.cells #[.int .u8 101] 5 (1, 2))).alloc (.cells #[.int .u8 102] 5 (1, 2))).alloc (.cells #[.int .u8 103] 5 (1, 2))).alloc (.cells #[.int .i64 1, .int .i64 0, .int .i64 1, .slice (some ⟨w.heap.size, 0, none⟩) 1 1, .slice (some ⟨w.heap.size + 1, 0, none⟩) 1 1, .int .i64 2, .int .i64 0, .int .i64 1, .slice (some ⟨w.heap.size + 1 + 1, 0, none⟩) 1 1, .slice (some ⟨w.heap.size + 1 + 1 + 1, 0, none⟩) 1 1, .int .i64 3, .int .i64 1, .int .i64 1, .slice (some ⟨w.heap.size + 1 + 1 + 1 + 1, 0, none⟩) 1 1, .slice (some ⟨w.heap.size + 1 + 1 + 1 + 1 + 1, 0, none⟩) 1 1, .int .i64 4, .int .i64 2, .int .i64 1, .slice (some ⟨w.heap.size + 1 + 1 + 1 + 1 + 1 + 1, 0, none⟩) 1 1, .slice (some ⟨w.heap.size + 1 + 1 + 1 + 1 + 1 + 1 + 1, 0, none⟩) 1 1] 63)).heap.size) ⟨3, 1, 1, [100], [101]⟩ [.int .i64 3, .int .i64 1, .int .i64 1, .slice (some ⟨w.heap.size + 1 + 1 + 1 + 1, 0, none⟩) 1 1, .slice (some ⟨w.heap.size + 1 + 1 + 1 + 1 + 1, 0, none⟩) 1 1] := ⟨_, _, rfl, Byt.one (v := .int .u8 100) (Lib.cell?_alloc_marked _ (Lib.cell?_alloc_marked _ (Lib.cell?_alloc_marked _ (Lib.cell?_alloc_marked _ (cell_marked _ _ _ _ _ _ (by simp)))))) rfl (by simp; try omega) (by omega) (by omega), Byt.one (v := .int .u8 101) (Lib.cell?_alloc_marked _ (Lib.cell?_alloc_marked _ (Lib.cell?_alloc_marked _ (cell_marked _ _ _ _ _ _ (by simp))))) rfl (by simp; try omega) (by omega) (by omega)⟩
    have e3 : tbR (((((((((w.alloc (.cells #[.int .u8 97] 5 (1, 2))).alloc (.cells #[.int .u8 98] 5 (1, 2))).alloc (.cells #[.int .u8 99] 5 (1, 2))).alloc (.cells #[.int .u8 100] 5 (1, 2))).alloc (.cells #[.int .u8 100] 5 (1, 2))).alloc (.cells #[.int .u8 101] 5 (1, 2))).alloc (.cells #[.int .u8 102] 5 (1, 2))).alloc (.cells #[.int .u8 103] 5 (1, 2))).alloc (.cells #[.int .i64 1, .int .i64 0, .int .i64 1, .slice (some ⟨w.heap.size, 0, none⟩) 1 1, .slice (some ⟨w.heap.size + 1, 0, none⟩) 1 1, .int .i64 2, .int .i64 0, .int .i64 1, .slice (some ⟨w.heap.size + 1 + 1, 0, none⟩) 1 1, .slice (some ⟨w.heap.size + 1 + 1 + 1, 0, none⟩) 1 1, .int .i64 3, .int .i64 1, .int .i64 1, .slice (some ⟨w.heap.size + 1 + 1 + 1 + 1, 0, none⟩) 1 1, .slice (some ⟨w.heap.size + 1 + 1 + 1 + 1 + 1, 0, none⟩) 1 1, .int .i64 4, .int .i64 2, .int .i64 1, .slice (some ⟨w.heap.size + 1 + 1 + 1 + 1 + 1 + 1, 0, none⟩) 1 1, .slice (some ⟨w.heap.size + 1 + 1 + 1 + 1 + 1 + 1 + 1, 0, none⟩) 1 1] 63)) (fun i => i < (((((((((w.alloc (.cells #[.int .u8 97] 5 (1, 2))).alloc (.cells #[.int .u8 98] 5 (1, 2))).alloc (.cells #[.int .u8 99] 5 (1, 2))).alloc (.cells #[.int .u8 100] 5 (1, 2))).alloc (.cells #[.int .u8 100] 5 (1, 2))).alloc (.cells #[.int .u8 101] 5 (1, 2))).alloc (.cells #[.int .u8 102] 5 (1, 2))).alloc (.cells #[.int .u8 103] 5 (1, 2))).alloc (.cells #[.int .i64 1, .int .i64 0, .int .i64 1, .slice (some ⟨w.heap.size, 0, none⟩) 1 1, .slice (some ⟨w.heap.size + 1, 0, none⟩) 1 1, .int .i64 2, .int .i64 0, .int .i64 1, .slice (some ⟨w.heap.size + 1 + 1, 0, none⟩) 1 1, .slice (some ⟨w.heap.size + 1 + 1 + 1, 0, none⟩) 1 1, .int .i64 3, .int .i64 1, .int .i64 1, .slice (some ⟨w.heap.size + 1 + 1 + 1 + 1, 0, none⟩) 1 1, .slice (some ⟨w.heap.size + 1 + 1 + 1 + 1 + 1, 0, none⟩) 1 1, .int .i64 4, .int .i64 2, .int .i64 1, .slice (some ⟨w.heap.size + 1 + 1 + 1 + 1 + 1 + 1, 0, none⟩) 1 1, .slice (some ⟨w.heap.size + 1 + 1 + 1 + 1 + 1 + 1 + 1, 0, none⟩) 1 1] 63)).heap.size) ⟨4, 2, 1, [102], [103]⟩ [.int .i64 4, .int .i64 2, .int .i64 1, .slice (some ⟨w.heap.size + 1 + 1 + 1 + 1 + 1 + 1, 0, none⟩) 1 1, .slice (some ⟨w.heap.size + 1 + 1 + 1 + 1 + 1 + 1 + 1, 0, none⟩) 1 1] := ⟨_, _, rfl, Byt.one (v := .int .u8 102) (Lib.cell?_alloc_marked _ (Lib.cell?_alloc_marked _ (cell_marked _ _ _ _ _ _ (by simp)))) rfl (by simp; try omega) (by omega) (by omega), Byt.one (v := .int .u8 103) (Lib.cell?_alloc_marked _ (cell_marked _ _ _ _ _ _ (by simp))) rfl (by simp; try omega) (by omega) (by omega)⟩
    exact .cons e0 (.cons e1 (.cons e2 (.cons e3 .nil)))
theorem from_litv {w : World} {sz : Nat} (hsz : sz = w.heap.size) {Q : World → Prop} (h : ∀ W, Hid (TabsV W (fun i => i < W.heap.size) (.slice (some ⟨sz + 1 + 1 + 1 + 1 + 1 + 1 + 1 + 1, 0, none⟩) 4 4) wts) → Hid (fr w W) → W.heap.size = sz + 1 + 1 + 1 + 1 + 1 + 1 + 1 + 1 + 1 → Q W) : Q (((((((((w.alloc (.cells #[.int .u8 97] 5 (1, 2))).alloc (.cells #[.int .u8 98] 5 (1, 2))).alloc (.cells #[.int .u8 99] 5 (1, 2))).alloc (.cells #[.int .u8 100] 5 (1, 2))).alloc (.cells #[.int .u8 100] 5 (1, 2))).alloc (.cells #[.int .u8 101] 5 (1, 2))).alloc (.cells #[.int .u8 102] 5 (1, 2))).alloc (.cells #[.int .u8 103] 5 (1, 2))).alloc (.cells #[.int .i64 1, .int .i64 0, .int .i64 1, .slice (some ⟨sz, 0, none⟩) 1 1, .slice (some ⟨sz + 1, 0, none⟩) 1 1, .int .i64 2, .int .i64 0, .int .i64 1, .slice (some ⟨sz + 1 + 1, 0, none⟩) 1 1, .slice (some ⟨sz + 1 + 1 + 1, 0, none⟩) 1 1, .int .i64 3, .int .i64 1, .int .i64 1, .slice (some ⟨sz + 1 + 1 + 1 + 1, 0, none⟩) 1 1, .slice (some ⟨sz + 1 + 1 + 1 + 1 + 1, 0, none⟩) 1 1, .int .i64 4, .int .i64 2, .int .i64 1, .slice (some ⟨sz + 1 + 1 + 1 + 1 + 1 + 1, 0, none⟩) 1 1, .slice (some ⟨sz + 1 + 1 + 1 + 1 + 1 + 1 + 1, 0, none⟩) 1 1] 63)) :=
  h _ (Lib.hid (litv w sz hsz).1) (Lib.hid (litv w sz hsz).2) (by subst hsz; simp)
theorem lists1 {w : World} {va : Value} {la : List Ent} {S : Nat → Prop} (ha : Ents w S va la) (g : Nat) (hg : g = w.heap.size) :
    Lists (w.alloc (.cells #[va] 41)) (fun i => i < (w.alloc (.cells #[va] 41)).heap.size) (.slice (some ⟨g, 0, none⟩) 1 1) [la] := by
  subst hg
  have hal : Below w.heap.size w (w.alloc (.cells #[va] 41)) := (Below.refl _ _).alloc (Nat.le_refl _) _
  refine ⟨_, _, [va], rfl, by simp, by simp, by simp, ⟨by simp, fun _ => ⟨_, 0, rfl, by simp, by simp, fun j u hu => ?_⟩⟩, fun i l hl => ?_⟩
  · rw [World.cell?_alloc_at _ _ _ _ (by simp)]
    simpa using hu
  · match i, hl with
    | 0, hl => simp at hl; subst hl; exact ⟨va, rfl, (ha.below hal).lt⟩
theorem run_wk3 (S : Nat → Prop) (v : Value) (w : World) (h : Lists w S v [[wa3, wa2, wb1]]) (hS : ∀ i, S i → i < w.heap.size) : Calls Try.prog 10 #[v, .int .i64 3, .bool false, .int .i64 1] w fun r w' => ∃ A c, r = .returned (.tuple #[.slice A 2 c, .int .i64 0]) ∧ fr w w' := by
  refine (run_any S v _ 3 false 1 w h hS (by decide)).mono ?_
  rintro r w' ⟨v', rfl, hl, hb⟩
  rw [run_w3] at hl
  obtain ⟨A, c, rfl⟩ := hl.form
  exact ⟨A, c, by rw [run_wn]; rfl, hb⟩
theorem run_wk0 (S : Nat → Prop) (v : Value) (w : World) (h : Lists w S v [[wa3, wa2, wb1]]) (hS : ∀ i, S i → i < w.heap.size) : Calls Try.prog 10 #[v, .int .i64 0, .bool false, .int .i64 1] w fun r w' => ∃ b o c A1 c1, r = .returned (.tuple #[.slice (some ⟨b, o, none⟩) 2 c, .int .i64 0]) ∧ w'.cell? ⟨b, o, none⟩ = some (.slice A1 2 c1) ∧ fr w w' := by
  refine (run_any S v _ 0 false 1 w h hS (by decide)).mono ?_
  rintro r w' ⟨v', rfl, hl, hb⟩
  rw [run_w0] at hl
  obtain ⟨A, c, vs, rfl, _, _, _, hr, he⟩ := hl
  obtain ⟨x, hx, A1, c1, _, rfl, _⟩ := he 0 [wa3, wa2] rfl
  obtain ⟨b, o, u, rfl, _, _, hu, hcell⟩ := hr.at_ (k := 0) (by simp)
  rw [hx] at hu
  injection hu with hu
  subst hu
  exact ⟨b, o, c, A1, c1, by rw [run_wn]; rfl, by simpa using hcell, hb⟩
theorem pick_wk (S : Nat → Prop) (v : Value) (w : World) (h : TabsV w S v wts) : Calls Try.prog 18 #[.agg #[v, .int .i64 0, .int .i64 0, .int .i64 0], .int .i64 2] w fun r w' => ∃ A c, r = .returned (.tuple #[.slice A 3 c, .int .i64 1, .bool true]) ∧ IntsIn w' (fun _ => True) (.slice A 3 c) [1, 2, 3] ∧ fr w w' := by
  refine (pick_any S v wts 0 0 0 2 w h).mono ?_
  rintro r w' ⟨A, c, rfl, ho, hb⟩
  rw [pick_w] at ho ⊢
  exact ⟨A, c, rfl, IntsIn.of_own ho (fun _ _ _ => trivial) (by simp), hb⟩
set_option maxRecDepth 100000 in
set_option maxHeartbeats 4000000 in
theorem wakes_any (w : World) : Calls Try.prog 7 #[] w fun r w' => r = .returned (.bool true) ∧ fr w w' := by
  have kc : ∀ (W : World) (C : Array Value) (n c g : Nat), g = W.heap.size → (convert 44 44 (.slice (some ⟨g, 0, none⟩) n c)).run Try.prog (W.alloc (.cells C 5)) = .ok (.slice (some ⟨g, 0, none⟩) n c) (W.alloc (.cells C 5 (C.size, C.size + 1))) := fun W C n c g hg => hg ▸ Lib.run_convert_bytes_const (P := Try.prog) W 44 5 C n c Try.underlying44 Try.underlying5
  have KC := Lib.hid kc
  go_enter Try.func7, Try.ntmps7
  go_wp2_with (fail)
  clear kc
  refine from_litc (w := w) (sz := w.heap.size) rfl (Q := fun W => Calls Try.prog 21 #[.slice (some ⟨w.heap.size + 1 + 1 + 1, 0, none⟩) 3 3] W _) ?_
  intro W HA HB
  obtain ⟨g, hg⟩ : ∃ g, w.heap.size + 1 + 1 + 1 = g := ⟨_, rfl⟩
  rw [hg] at HA ⊢
  clear hg
  refine (copy_any _ _ _ _ HA.out).mono ?_
  rintro r w2 ⟨v2, rfl, he2, hb2⟩
  obtain ⟨A2, c2, rfl⟩ := he2.three (n := 3) rfl
  have HE2 := Lib.hid he2
  have HA2 := Lib.hid (HA.out.below hb2)
  have HB2 := Lib.hid (fr.step HB.out hb2)
  clear he2 hb2
  go_wp2_with (go_at_call 10; refine (run_wk3 _ _ _ (lists1 HE2.out _ rfl) (fun i h => h)).mono ?_; rintro r w3 ⟨A3, c3, rfl, hb3⟩)
  have HA3 := Lib.hid (HA2.out.below (fr.step (fr.alloc fr.refl _) hb3))
  have HB3 := Lib.hid (fr.step (fr.alloc HB2.out _) hb3)
  clear hb3
  refine (copy_any _ _ _ _ HA3.out).mono ?_
  rintro r w4 ⟨v4, rfl, he4, hb4⟩
  obtain ⟨A4, c4, rfl⟩ := he4.three (n := 3) rfl
  have HE4 := Lib.hid he4
  have HB4 := Lib.hid (fr.step HB3.out hb4)
  clear he4 hb4
  have kc := KC.out
  go_wp2_with (go_at_call 10; refine (run_wk0 _ _ _ (lists1 HE4.out _ rfl) (fun i h => h)).mono ?_; rintro r w5 ⟨b5, o5, c5, A5, d5, rfl, hc5, hb5⟩)
  have HB5 := Lib.hid (fr.step (fr.alloc HB4.out _) hb5)
  clear hb5 kc
  refine from_litv (w := w5) (sz := w5.heap.size) rfl (Q := fun W => Calls Try.prog 17 #[.agg #[.slice (some ⟨w5.heap.size + 1 + 1 + 1 + 1 + 1 + 1 + 1 + 1, 0, none⟩) 4 4, .int .i64 0, .int .i64 0, .int .i64 0]] (W.alloc (.cells #[.slice (some ⟨w5.heap.size + 1 + 1 + 1 + 1 + 1 + 1 + 1 + 1, 0, none⟩) 4 4, .int .i64 0, .int .i64 0, .int .i64 0] 54)) _) ?_
  intro V HV HF hVz
  have pb : (V.alloc (.cells #[.slice (some ⟨w5.heap.size + 1 + 1 + 1 + 1 + 1 + 1 + 1 + 1, 0, none⟩) 4 4, .int .i64 0, .int .i64 0, .int .i64 0] 54)).heap[w5.heap.size + 1 + 1 + 1 + 1 + 1 + 1 + 1 + 1 + 1]? = some (.cells #[.slice (some ⟨w5.heap.size + 1 + 1 + 1 + 1 + 1 + 1 + 1 + 1, 0, none⟩) 4 4, .int .i64 0, .int .i64 0, .int .i64 0] 54 (0, 0)) := heap_at_new _ trivial hVz.symm
  have HC5 := Lib.hid (fr.cell (fr.step HF.out (fr.alloc fr.refl (.cells #[.slice (some ⟨w5.heap.size + 1 + 1 + 1 + 1 + 1 + 1 + 1 + 1, 0, none⟩) 4 4, .int .i64 0, .int .i64 0, .int .i64 0] 54))) hc5)
  have HT := Lib.hid (HV.out.below tbFine (fr.alloc fr.refl (.cells #[.slice (some ⟨w5.heap.size + 1 + 1 + 1 + 1 + 1 + 1 + 1 + 1, 0, none⟩) 4 4, .int .i64 0, .int .i64 0, .int .i64 0] 54)))
  have HBV := Lib.hid (fr.step HB5.out (fr.step HF.out (fr.alloc fr.refl (.cells #[.slice (some ⟨w5.heap.size + 1 + 1 + 1 + 1 + 1 + 1 + 1 + 1, 0, none⟩) 4 4, .int .i64 0, .int .i64 0, .int .i64 0] 54))))
  generalize V.alloc (.cells #[.slice (some ⟨w5.heap.size + 1 + 1 + 1 + 1 + 1 + 1 + 1 + 1, 0, none⟩) 4 4, .int .i64 0, .int .i64 0, .int .i64 0] 54) = V1 at pb HC5 HT HBV ⊢
  generalize w5.heap.size + 1 + 1 + 1 + 1 + 1 + 1 + 1 + 1 = gv at pb HT ⊢
  clear HV HF hVz hc5
  refine (vercopy_any _ _ wts 0 0 0 _ HT.out).mono ?_
  rintro r w6 ⟨A6, c6, rfl, ho6, hf6⟩
  have HT6 := Lib.hid (HT.out.below tbFine hf6)
  have ht6 := OwnRows.rows (bytes := 72) tbFine ho6 (by simp [wts])
  go_wp2_with (go_at_call 18; refine (pick_wk _ _ _ ht6).mono ?_; rintro r w7 ⟨A7, c7, rfl, hi7, hf7⟩; have pb7 := fr.hp (fr.step hf6 hf7) pb; have y0 := cell_of_row w7 _ 0 _ _ _ pb7; have y1 := cell_of_row w7 _ 1 _ _ _ pb7; have y2 := cell_of_row w7 _ 2 _ _ _ pb7; have y3 := cell_of_row w7 _ 3 _ _ _ pb7; have hc7 := fr.cell (fr.step hf6 hf7) HC5.out)
  refine (vercopy_any _ _ wts 0 0 0 _ (HT6.out.below tbFine hf7)).mono ?_
  rintro r w8 ⟨A8, c8, rfl, ho8, hf8⟩
  have ht8 := OwnRows.rows (bytes := 72) tbFine ho8 (by simp [wts])
  have hi8 := hi7.below hf8
  have HF8 := Lib.hid (fr.step HBV.out (fr.step hf6 (fr.step hf7 hf8)))
  have hck : chk 0 0 0 0 0 = 2 := by decide
  go_wp2_with (first
    | (go_at_call 22; refine (bottom_any _ _ _ _ wts [1, 2, 3] 0 0 0 1 _ ht8 hi8).mono ?_; rintro r w9 ⟨rfl, hf9⟩; rw [bottom_w])
    | (go_at_call 8; refine (check_any 0 0 0 0 none 0 0 _).mono ?_; rintro r w10 ⟨rfl, hf10⟩; rw [hck]))
  refine bodyPost_ret (v := .bool true) (by simp [results, Try.results7, go_sem]) rfl ?_
  exact ⟨rfl, fr.step (fr.step HF8.out hf9) hf10⟩
end Go.Proofs.Ytacdhkkelkplnaa
end
section
namespace Go.Proofs.Ytacdhkkelkplnaa
open Go.RowKit Go.ChangeShapes Go.WideShapes Go.Deep
theorem bulk_all {H : Type} (l : List (DataW H)) : Rows.uptoBulkAll l = (l.map Rows.uptoBulk).sum := by
  induction l with
  | nil => rfl
  | cons x r ih => simp only [Rows.uptoBulkAll, List.map_cons, List.sum_cons, ih]
theorem cells_is : Try.prog.cellsOf 22 = 1 := by kernel_rfl
theorem bytes_i : Try.prog.bytesOf 3 = 8 := by kernel_rfl
section
variable {H : Type} {P : Program} {enc : TypeId × Value → H} {w : World} {base : Nat} {held : Bool} {spare : Nat → Bool}
theorem trod_struct5 {t : TypeId} {f0 f1 f2 f3 f4 : Field} {fuel : Nat} {cs : List Value} {x : DataW H × List MemPlace} (ht : P.underlying t = some (.struct #[f0, f1, f2, f3, f4])) (h : DataW.trod enc P w base spare held fuel t cs = some x) :
    ∃ y0 y1 y2 y3 y4 n, x = (.agg [y0.1, y1.1, y2.1, y3.1, y4.1], y0.2 ++ (y1.2 ++ (y2.2 ++ (y3.2 ++ y4.2)))) ∧ cs.length = P.cellsOf t ∧ DataW.trod enc P w base spare held n f0.type ((cs.drop f0.offset).take (P.cellsOf f0.type)) = some y0 ∧
      DataW.trod enc P w base spare held n f1.type ((cs.drop f1.offset).take (P.cellsOf f1.type)) = some y1 ∧ DataW.trod enc P w base spare held n f2.type ((cs.drop f2.offset).take (P.cellsOf f2.type)) = some y2 ∧
      DataW.trod enc P w base spare held n f3.type ((cs.drop f3.offset).take (P.cellsOf f3.type)) = some y3 ∧ DataW.trod enc P w base spare held n f4.type ((cs.drop f4.offset).take (P.cellsOf f4.type)) = some y4 := by
  obtain ⟨xs, n, _, rfl, hl, hlen, hf⟩ := DataW.trod_struct ht h
  match xs, hlen with
  | [y0, y1, y2, y3, y4], _ => exact ⟨y0, y1, y2, y3, y4, n, by simp, hl, by simpa using hf 0 f0 rfl, by simpa using hf 1 f1 rfl, by simpa using hf 2 f2 rfl, by simpa using hf 3 f3 rfl, by simpa using hf 4 f4 rfl⟩
end
section
variable {H : Type} {enc : TypeId × Value → H} {w : World} {base : Nat} {held : Bool} {spare : Nat → Bool}
theorem bulk_slice {t e : TypeId} (ht : Try.prog.underlying t = some (.slice e)) {fuel n c : Nat} {A : Option Addr} {x : DataW H × List MemPlace} (h : DataW.trod enc Try.prog w base spare held fuel t [.slice A n c] = some x) : n ≤ Rows.uptoBulk x.1 := by
  rcases open_slice ht h with ⟨hv, _⟩ | ⟨a, len, cap, m, n', D, Pl, hv, _, _, _, _, hx, _⟩
  · simp only [List.cons.injEq, Value.slice.injEq, and_true] at hv
    omega
  · simp only [List.cons.injEq, Value.slice.injEq, and_true] at hv
    obtain ⟨_, rfl, _⟩ := hv
    subst hx
    have := bulk_len ((List.range n).map D)
    simp only [List.length_map, List.length_range] at this
    simp only [Rows.uptoBulk]
    omega
set_option maxRecDepth 100000 in
theorem open_rows {α : Type} [Inhabited α] {R : Rd α} {k bytes : Nat} (hk0 : 0 < k) {t e : TypeId} (ht : Try.prog.underlying t = some (.slice e)) (hk : Try.prog.cellsOf e = k) (hby : Try.prog.bytesOf e = bytes) (m : α → Nat)
    (hel : ∀ (fuel : Nat) (cs : List Value) (x : DataW H × List MemPlace), DataW.trod enc Try.prog w base spare held fuel e cs = some x → (∀ n ∈ x.1.weights Try.prog e, n ≤ reachBytes) → ∃ a : α, R w (fun _ => True) a cs ∧ m a ≤ Rows.uptoBulk x.1)
    {fuel : Nat} {v : Value} {x : DataW H × List MemPlace} (h : DataW.trod enc Try.prog w base spare held fuel t [v] = some x) (hw : ∀ n ∈ x.1.weights Try.prog t, n ≤ reachBytes) :
    ∃ xs, Rws R k bytes w (fun _ => True) v xs ∧ (xs.map m).sum ≤ Rows.uptoBulk x.1 := by
  rcases open_slice ht h with ⟨hv, hx⟩ | ⟨a, len, cap, mm, n, D, Pl, hv, _, hl, hm, hmm, hx, hc⟩
  · obtain rfl : v = .slice none 0 0 := by simpa using hv
    exact ⟨[], ⟨none, 0, [], rfl, Nat.le_refl _, by omega, by simp, ⟨by simp, fun h => by simp at h⟩, .nil⟩, by simp⟩
  · obtain rfl : v = .slice (some a) len cap := by simpa using hv
    have hlm : len ≤ mm := by rw [hmm]; split <;> omega
    subst hx
    simp only [DataW.weights, ht, List.mem_cons, List.mem_append] at hw
    have hr := hw _ (.inl rfl)
    rw [hby] at hr
    simp only [List.length_map, List.length_range, reachBytes] at hr
    unfold maxLen at hm
    rw [hk] at hc
    have key : ∀ q, q ≤ len → ∃ (css : List (List Value)) (xs : List α), xs.length = q ∧ css.flatten.length = q * k ∧ All2 (R w fun _ => True) xs css ∧ (xs.map m).sum ≤ Rows.uptoBulkAll ((List.range q).map D) ∧ ∀ j u, css.flatten[j]? = some u → w.cell? (a.add j) = some u := by
      intro q
      induction q with
      | zero => exact fun _ => ⟨[], [], rfl, by simp, .nil, by simp, fun j u hu => by simp at hu⟩
      | succ q ih =>
        intro hq
        obtain ⟨css, xs, hxl, hfl, hall, hsum, hcc⟩ := ih (by omega)
        obtain ⟨cs', h1, h2⟩ := hc q (by omega)
        obtain ⟨y, hy, hym⟩ := hel _ _ _ h2 (fun n hn => hw n (.inr (.inl (weightsAll_mem (List.mem_map.2 ⟨q, List.mem_range.2 (by omega), rfl⟩) n hn))))
        obtain ⟨_, hl4, h4⟩ := World.cells?_some h1
        refine ⟨css ++ [cs'], xs ++ [y], by simp [hxl], by simp [hfl, hl4, Nat.succ_mul], hall.snoc hy, ?_, fun j u hu => ?_⟩
        · rw [bulk_all] at hsum ⊢
          rw [List.range_succ]
          simp only [List.map_append, List.sum_append, List.map_cons, List.map_nil, List.sum_cons, List.sum_nil]
          simp only [Nat.add_zero]
          exact Nat.add_le_add hsum hym
        · rw [List.flatten_append, List.getElem?_append] at hu
          split at hu
          · exact hcc j u hu
          · rename_i hj
            simp only [List.flatten_cons, List.flatten_nil, List.append_nil] at hu
            have hj : j - css.flatten.length < k := by rw [← hl4]; exact (List.getElem?_eq_some_iff.1 hu).1
            have h5 := h4 _ hj
            rw [hu] at h5
            have h6 := h4 0 (by omega)
            have hsp : a.add (q * k) = ⟨a.block, a.off + q * k, none⟩ := by
              have h7 := cell_spot (w := w) (a := (a.add (q * k))) (v := cs'[0]) (by
                rw [show (a.add (q * k)).add 0 = a.add (q * k) by simp [Addr.add]] at h6
                rw [h6, List.getElem?_eq_getElem (by omega)])
              rw [h7, add_block, add_off]
            rw [hsp, Addr.add_lit] at h5
            unfold Addr.add
            by_cases hj0 : j = 0
            · rw [if_pos hj0]
              subst hj0
              have hk0 : q * k = 0 := by omega
              have : a = ⟨a.block, a.off, none⟩ := by rw [hk0] at hsp; simpa [Addr.add] using hsp
              rw [this]
              rw [hk0] at h5
              simpa using h5
            · rw [if_neg hj0, ← h5]
              congr 2
              omega
    obtain ⟨css, xs, hxl, hfl, hall, hsum, hcc⟩ := key len (Nat.le_refl _)
    refine ⟨xs, ⟨some a, cap, css, by rw [hxl], by omega, by omega, ?_, ?_, hall⟩, ?_⟩
    · rw [hxl]
      have : len * bytes ≤ (len + (mm - len)) * bytes := Nat.mul_le_mul_right _ (by omega)
      omega
    · rw [hxl]
      refine ⟨hfl, fun h0 => ?_⟩
      have hpos : 0 < len * k := Nat.mul_pos h0 hk0
      obtain ⟨u0, hu0⟩ : ∃ u, css.flatten[0]? = some u := ⟨_, List.getElem?_eq_getElem (by omega)⟩
      have hs := hcc 0 u0 hu0
      have hsp : a = ⟨a.block, a.off, none⟩ := cell_spot (a := a) (by simpa [Addr.add] using hs)
      refine ⟨a.block, a.off, by rw [← hsp], trivial, ?_, fun j u hu => ?_⟩
      · have := World.block_lt_of_cell? w _ hs
        simpa [Addr.add] using this
      · have := hcc j u hu
        rwa [hsp, Addr.add_lit] at this
    · simp only [Rows.uptoBulk]
      omega
set_option maxRecDepth 100000 in
theorem open_zs {fuel : Nat} {v : Value} {d : DataW H} {ps : List MemPlace} (h : DataW.trod enc Try.prog w base spare held fuel 22 [v] = some (d, ps)) (hw : ∀ n ∈ d.weights Try.prog 22, n ≤ reachBytes) :
    ∃ zs, IntsIn w (fun _ => True) v zs ∧ zs.length * 8 ≤ 140737488355328 ∧ ∀ z ∈ zs, (Lit.int .i64 z).wf = true := by
  rcases open_ints Try.underlying22 Try.underlying3 cells_i h with ⟨hv, _⟩ | ⟨a, len, cap, zs, hv, _, hl, hm, hz, hx, hc, hwf⟩
  · obtain rfl : v = .slice none 0 0 := by simpa using hv
    exact ⟨[], IntsIn.nil _ _, by simp, fun z hz => by cases hz⟩
  · obtain rfl : v = .slice (some a) len cap := by simpa using hv
    have hlen : len ≤ zs.length := by rw [hz]; split <;> omega
    simp only [Prod.mk.injEq] at hx
    obtain ⟨hx, _⟩ := hx
    subst hx
    have hr := hw _ (by simp only [DataW.weights, Try.underlying22]; exact List.mem_cons_self)
    rw [bytes_i] at hr
    simp only [lits, List.length_map, List.length_take, List.length_drop, reachBytes] at hr
    have e1 : (zs.take len).length = len := by simp; omega
    unfold maxLen at hm
    refine ⟨zs.take len, ⟨some a, cap, by rw [e1], by omega, by omega, ?_⟩, by omega, fun z hz => hwf z (List.mem_of_mem_take hz)⟩
    rw [e1]
    refine ⟨by simp; omega, fun h0 => ?_⟩
    have hs := hc 0 (by omega)
    have hsp : a = ⟨a.block, a.off, none⟩ := cell_spot (a := a) (by simpa [Addr.add] using hs)
    refine ⟨a.block, a.off, by rw [← hsp], trivial, ?_, fun j u hu => ?_⟩
    · have := World.block_lt_of_cell? w _ hs
      simpa [Addr.add] using this
    · rw [List.getElem?_map, List.getElem?_take] at hu
      split at hu
      · rename_i hj
        have hcj := hc j (by omega)
        rw [hsp, Addr.add_lit] at hcj
        rw [hcj]
        obtain ⟨z, hzj⟩ : ∃ z, zs[j]? = some z := ⟨_, List.getElem?_eq_getElem (by omega)⟩
        rw [hzj] at hu
        simp only [Option.map_some, Option.some.injEq] at hu
        rw [← hu, List.getD_eq_getElem?_getD, hzj]
        rfl
      · simp at hu
set_option maxRecDepth 100000 in
theorem arg_ints {r : Reach} {b0 : Nat} {v : Value} {d : DataW H} {ps : List MemPlace} (hval : Value.okWide Try.prog w r b0 22 v) (hd : DataW.Trod enc Try.prog w base spare held 22 v d ps) (hw : ∀ n ∈ d.weights Try.prog 22, n ≤ reachBytes) :
    ∃ zs, IntsIn w (fun _ => True) v zs ∧ zs.length * 8 ≤ 140737488355328 := by
  obtain ⟨fuel, h⟩ := arg_slice Try.underlying22 hval hd
  obtain ⟨zs, h1, h2, _⟩ := open_zs h hw
  exact ⟨zs, h1, h2⟩
end
section
set_option maxRecDepth 100000
theorem infoI : (Try.prog.info? 3).map (fun i => (i.zero, i.size, i.bytes)) = some (some (.int .i64 0), 1, 8) := by kernel_rfl
theorem run_append_ints (w : World) (base : Nat) (ty : TypeId) (v0 src : Value) (S : Nat → Prop) (zs : List Int) (hown : w.ownsRow base 3 1 v0 0 []) (h : IntsIn w S src zs) (h8 : zs.length * 8 ≤ 140737488355328) (hbase : base ≤ w.heap.size) :
    ∃ v' w', (Builtin.append_ #[22, 22] ty #[v0, src]).run Try.prog w = .ok v' w' ∧ w'.ownsRow base 3 1 v' zs.length (zs.map (Value.int .i64)) ∧ w.grownBy w' v0.ownBlock := by
  obtain ⟨i0, hi, hz0, hz1, hz2⟩ := info_parts infoI
  obtain ⟨A, c, rfl, h1, h2, hr⟩ := h
  rcases A with _ | ad
  · have hm : zs.length = 0 := by
      rcases Nat.eq_zero_or_pos zs.length with h0 | h0
      · exact h0
      · obtain ⟨b, o, h, _⟩ := hr.2 h0
        cases h
    have : zs = [] := List.eq_nil_of_length_eq_zero hm
    subst this
    refine ⟨v0, w, ?_, by simpa using hown, World.grownBy.refl w _⟩
    rcases hown.2 with ⟨rfl, _⟩ | ⟨g, cap, cur, rfl, _, _, hnc, _⟩
    · simp [Builtin.append_, run_underlying Try.underlying22, sizeOf, typeInfo, hi, Builtin.lenOf, Builtin.firstCells]
    · simp [Builtin.append_, run_underlying Try.underlying22, sizeOf, typeInfo, hi, Builtin.lenOf, Builtin.firstCells, hnc, storeCells]
  · obtain ⟨v', w', e1, e2, e3, _, _⟩ := run_append_own_at (P := Try.prog) w base 22 ty 3 i0 (.int .i64 0) 1 8 Try.underlying22 hi hz0 hz1 hz2 rfl (by decide) v0 0 [] hown ad zs.length c (zs.map (Value.int .i64)) (by simp)
      (fun j u hu => by
        rcases Nat.eq_zero_or_pos zs.length with h0 | h0
        · have : zs = [] := List.eq_nil_of_length_eq_zero h0
          subst this
          simp at hu
        · obtain ⟨b, o, e, _, _, hc⟩ := hr.2 h0
          obtain rfl := Option.some.inj e
          rw [Addr.add_lit]
          exact hc j u hu) (by simp [Value.oneCell']) (by unfold maxLen; omega) (by omega) hbase
    exact ⟨v', w', e1, by simpa using e2, e3⟩
theorem wpList_append_ints {w : World} {ops : Array Oper} {rest : List Oper} {o : Oper} {a : Act} {Q : Exit → Act → World → Prop} (hgd : o.guard = none) (s x : Operand)
    (ho : o.op = .call { callee := .builtin .append, args := #[s, x], argTypes := #[22, 22] }) (base : Nat) (v0 src : Value) (hs : a.eval s = v0) (hx : a.eval x = src)
    (S : Nat → Prop) (zs : List Int) (hown : w.ownsRow base 3 1 v0 0 []) (h : IntsIn w S src zs) (h8 : zs.length * 8 ≤ 140737488355328) (hbase : base ≤ w.heap.size)
    (hK : ∀ v' w', w'.ownsRow base 3 1 v' zs.length (zs.map (Value.int .i64)) → w.grownBy w' v0.ownBlock → wpList Try.prog ops Q rest (a.put o.dst v') w') : wpList Try.prog ops Q (o :: rest) a w :=
  wpList_plain hgd fun _ hk => by
    obtain ⟨v', w', hrun, h2, h3⟩ := run_append_ints w base o.type v0 src S zs hown h h8 hbase
    unfold Oper.wp execOp
    simp only [ho, resolve, invoke, builtin, Sem.run_bind, Sem.run_pure, Result.andThen_ok, List.map_toArray, List.map_cons, List.map_nil, hs, hx, hrun]
    exact hk _ _ (hK v' w' h2 h3)
theorem lit0i (w : World) : (w.alloc (.cells #[] 3)).ownsRow w.heap.size 3 1 (.slice (some ⟨w.heap.size, 0, none⟩) 0 0) 0 [] := by
  simpa using World.ownsRow_lit (base := w.heap.size) (e := 3) (size := 1) w #[] 0 (Nat.le_refl _) (by unfold maxLen; omega) (by simp)
end
end Go.Proofs.Ytacdhkkelkplnaa
end
