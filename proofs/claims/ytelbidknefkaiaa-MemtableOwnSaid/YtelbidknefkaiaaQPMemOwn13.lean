/-
Plain: lists that are merged are the same in any order and in any groups.
-/
import Derived.Test.YtelbidknefkaiaaQPMemOwn8
import Derived.Test.YtelbidknefkaiaaQPMemOwn3
import Derived.Test.YtelbidknefkaiaaQPMemOwn5
import Derived.Lib.SlBytesConst
import Derived.Deep.RegionWith
import Derived.Test.YtelbidknefkaiaaQPMemOwn7
import Derived.Deep.Slices
import Derived.Lib.SmallJoins
import Derived.OpenShut
import Derived.SizedLaws
import Derived.Test.YtelbidknefkaiaaRows
import Derived.Test.YtelbidknefkaiaaQPMemOwn12
import Derived.Test.YtelbidknefkaiaaQPMemOwn11
section
namespace Go.Proofs.Ytelbidknefkaiaa
open Go.RowKit Go.BigFrame
attribute [local go_sem ↓] Go.wp_at_zero Go.wp_at_succ
def wk1 : Ent := ⟨[97], 5, false, [120]⟩
def wk2 : Ent := ⟨[97], 3, true, []⟩
def wk3 : Ent := ⟨[97], 2, false, []⟩
theorem Byt.one {w : World} {S : Nat → Prop} {g c : Nat} {b : UInt8} {v : Value} (h : w.cell? ⟨g, 0, none⟩ = some v) (hv : v = bcell b) (hS : S g) (hc : 1 ≤ c) (hc' : c ≤ 9223372036854775807) : Byt w S (.slice (some ⟨g, 0, none⟩) 1 c) [b] := by
  subst hv
  refine ⟨_, _, rfl, hc, hc', by simp, ⟨by simp, fun _ => ⟨g, 0, rfl, hS, World.block_lt_of_cell? w _ h, fun j u hu => ?_⟩⟩⟩
  match j, hu with
  | 0, hu => simp at hu; subst hu; simpa using h
theorem cell_marked (w : World) (cs : Array Value) (t : TypeId) (fr : Nat × Nat) (g j : Nat) (hg : g = w.heap.size) : (w.alloc (.cells cs t fr)).cell? ⟨g, j, none⟩ = cs[j]? := by
  subst hg; exact cell_of_row _ _ j cs t fr (heap_alloc_new w _)
/-- the literal of three. -/
theorem lit3 (w : World) (T : TypeId) (W : World) (sz : Nat) (hsz : sz = w.heap.size)
    (hW : W = (((((w.alloc (.cells #[.int .u8 97] T (1, 2))).alloc (.cells #[.int .u8 120] T (1, 2))).alloc (.cells #[.int .u8 97] T (1, 2))).alloc (.cells #[.int .u8 97] T (1, 2))).alloc
      (.cells #[.slice (some ⟨sz, 0, none⟩) 1 1, .int .i64 5, .bool false, .slice (some ⟨sz + 1, 0, none⟩) 1 1, .slice (some ⟨sz + 1 + 1, 0, none⟩) 1 1, .int .i64 3, .bool true, .slice none 0 0, .slice (some ⟨sz + 1 + 1 + 1, 0, none⟩) 1 1, .int .i64 2, .bool false, .slice none 0 0] 26))) :
    Ents W (fun i => i < W.heap.size) (.slice (some ⟨sz + 1 + 1 + 1 + 1, 0, none⟩) 3 3) [wk1, wk2, wk3] ∧ Below w.heap.size w W := by
  subst hW hsz
  have hb : Below w.heap.size w (((((w.alloc (.cells #[.int .u8 97] T (1, 2))).alloc (.cells #[.int .u8 120] T (1, 2))).alloc (.cells #[.int .u8 97] T (1, 2))).alloc (.cells #[.int .u8 97] T (1, 2))).alloc
      (.cells #[.slice (some ⟨w.heap.size, 0, none⟩) 1 1, .int .i64 5, .bool false, .slice (some ⟨w.heap.size + 1, 0, none⟩) 1 1, .slice (some ⟨w.heap.size + 1 + 1, 0, none⟩) 1 1, .int .i64 3, .bool true, .slice none 0 0, .slice (some ⟨w.heap.size + 1 + 1 + 1, 0, none⟩) 1 1, .int .i64 2, .bool false, .slice none 0 0] 26)) :=
    (((((Below.refl _ _).alloc (Nat.le_refl _) _).alloc (by simp) _).alloc (by simp; omega) _).alloc (by simp; omega) _).alloc (by simp; omega) _
  refine ⟨?_, hb⟩
  refine ⟨_, _, [.slice (some ⟨w.heap.size, 0, none⟩) 1 1, .int .i64 5, .bool false, .slice (some ⟨w.heap.size + 1, 0, none⟩) 1 1, .slice (some ⟨w.heap.size + 1 + 1, 0, none⟩) 1 1, .int .i64 3, .bool true, .slice none 0 0, .slice (some ⟨w.heap.size + 1 + 1 + 1, 0, none⟩) 1 1, .int .i64 2, .bool false, .slice none 0 0], rfl, by simp, by simp, by simp, ⟨by simp, fun _ => ⟨_, 0, rfl, by simp, by simp, fun j u hu => ?_⟩⟩, ?_⟩
  · rw [World.cell?_alloc_at _ _ _ _ (by simp)]
    simpa using hu
  · refine ⟨rfl, rfl, Byt.one (v := .int .u8 97) ?_ rfl (by simp; omega) (by omega) (by omega), Byt.one (v := .int .u8 120) ?_ rfl (by simp) (by omega) (by omega), rfl, rfl, Byt.one (v := .int .u8 97) ?_ rfl (by simp) (by omega) (by omega), Byt.nil _ _, rfl, rfl, Byt.one (v := .int .u8 97) ?_ rfl (by simp) (by omega) (by omega), Byt.nil _ _, trivial⟩
    · exact Lib.cell?_alloc_marked _ (Lib.cell?_alloc_marked _ (Lib.cell?_alloc_marked _ (Lib.cell?_alloc_marked _ (cell_marked _ _ _ _ _ _ rfl))))
    · exact Lib.cell?_alloc_marked _ (Lib.cell?_alloc_marked _ (Lib.cell?_alloc_marked _ (cell_marked _ _ _ _ _ _ (by simp))))
    · exact Lib.cell?_alloc_marked _ (Lib.cell?_alloc_marked _ (cell_marked _ _ _ _ _ _ (by simp)))
    · exact Lib.cell?_alloc_marked _ (cell_marked _ _ _ _ _ _ (by simp))
/-- a literal of two lists. -/
theorem lists2 {w : World} {va vb : Value} {la lb : List Ent} {S S' : Nat → Prop} (ha : Ents w S va la) (hb : Ents w S' vb lb) (g : Nat) (hg : g = w.heap.size) :
    Lists (w.alloc (.cells #[va, vb] 22)) (fun i => i < (w.alloc (.cells #[va, vb] 22)).heap.size) (.slice (some ⟨g, 0, none⟩) 2 2) [la, lb] := by
  subst hg
  have hal : Below w.heap.size w (w.alloc (.cells #[va, vb] 22)) := (Below.refl _ _).alloc (Nat.le_refl _) _
  refine ⟨_, _, [va, vb], rfl, by simp, by simp, by simp, ⟨by simp, fun _ => ⟨_, 0, rfl, by simp, by simp, fun j u hu => ?_⟩⟩, fun i l hl => ?_⟩
  · rw [World.cell?_alloc_at _ _ _ _ (by simp)]
    simpa using hu
  · match i, hl with
    | 0, hl => simp at hl; subst hl; exact ⟨va, rfl, (ha.below hal).lt⟩
    | 1, hl => simp at hl; subst hl; exact ⟨vb, rfl, (hb.below hal).lt⟩
theorem Ents.three {w : World} {S : Nat → Prop} {v : Value} {es : List Ent} {n : Nat} (h : Ents w S v es) (hn : es.length = n) : ∃ A c, v = .slice A n c := by
  subst hn; exact ents_form h
theorem thin_wk (S : Nat → Prop) (v : Value) (b : Bool) (w : World) (h : Ents w S v [wk1, wk2, wk3]) :
    Calls Try.prog 29 #[v, .int .i64 4, .bool b] w fun r w' => ∃ A c, r = .returned (.tuple #[.slice A (if b then 1 else 2) c, .int .i64 0]) ∧ Below w.heap.size w w' := by
  refine (thin_any S v _ 4 b w h).mono ?_
  rintro r w' ⟨v', rfl, he, hb⟩
  have ho : orderedE [wk1, wk2, wk3] = true := by decide
  rw [if_pos ho] at he
  obtain ⟨A, c, rfl⟩ := he.three (n := if b then 1 else 2) (by cases b <;> decide)
  exact ⟨A, c, by rw [ho]; rfl, hb⟩
theorem vis_wk (S : Nat → Prop) (v : Value) (w : World) (h : Ents w S v [wk1, wk2, wk3]) :
    Calls Try.prog 26 #[v, .int .i64 9] w fun r w' => ∃ A c, r = .returned (.tuple #[.slice A 1 c, .int .i64 0]) ∧ Below w.heap.size w w' := by
  refine (vis_any S v _ 9 w h).mono ?_
  rintro r w' ⟨v', rfl, he, hb⟩
  have ho : orderedE [wk1, wk2, wk3] = true := by decide
  rw [if_pos ho] at he
  have hv : visC 9 [] [wk1, wk2, wk3] = [⟨[97], [120]⟩] := by decide
  rw [hv] at he
  obtain ⟨A, c, cs, rfl, _⟩ := he
  exact ⟨A, c, by rw [ho]; rfl, hb⟩
theorem su0 {α : Type} (f : α → List Ent) (l : List α) : siftUp f l 0 = l := by rw [siftUp]
theorem su1 {α : Type} (f : α → List Ent) (a b : α) : siftUp f [a, b] 1 = if cmpL (f a) (f b) ≤ 0 then [a, b] else [b, a] := by
  rw [siftUp]
  simp only [Nat.zero_div, List.getElem?_cons_zero, List.getElem?_cons_succ]
  split
  · rfl
  · rw [su0]; rfl
theorem sd0 {α : Type} (f : α → List Ent) (l : List α) (hl : l.length ≤ 1) : siftDown f l 0 = l := by
  rw [siftDown, dif_pos]
  rcases lst_or f l 0 2 with h | h
  · exact h
  · omega
theorem push0 {α : Type} (f : α → List Ent) (a : α) : pushL f [] a = [a] := su0 f _
theorem push1 {α : Type} (f : α → List Ent) (a b : α) : pushL f [a] b = if cmpL (f a) (f b) ≤ 0 then [a, b] else [b, a] := su1 f a b
theorem pop1 {α : Type} (f : α → List Ent) (a : α) : popL f [a] = [] := sd0 f _ (by simp)
theorem pop2 {α : Type} (f : α → List Ent) (a b : α) : popL f [a, b] = [b] := sd0 f _ (by simp)
theorem merge_wk1 : mergeC [[wk1], [wk2, wk3]] = ([wk1, wk2, wk3], 0) := by
  have h1 : cmpL [wk1] [wk2, wk3] ≤ 0 := by decide
  have hh : heapOf [[wk1], [wk2, wk3]] = [[wk1], [wk2, wk3]] := by
    simp [heapOf, push0, push1, h1]
  unfold mergeC
  rw [if_pos (by decide), hh]
  simp [total, mergeGo, twice, pop1, pop2, push0, show ¬ cmpE wk1 wk2 = 0 by decide, show ¬ cmpE wk2 wk3 = 0 by decide]
theorem merge_wk2 : mergeC [[wk1, wk2, wk3], [wk1, wk2, wk3]] = ([], 31) := by
  have h1 : cmpL [wk1, wk2, wk3] [wk1, wk2, wk3] ≤ 0 := by decide
  have h3 : cmpL [wk1, wk2, wk3] [wk2, wk3] ≤ 0 := by decide
  have hh : heapOf [[wk1, wk2, wk3], [wk1, wk2, wk3]] = [[wk1, wk2, wk3], [wk1, wk2, wk3]] := by
    simp [heapOf, push0, push1, h1]
  unfold mergeC
  rw [if_pos (by decide), hh]
  simp [total, mergeGo, twice, pop2, push1, h3, show cmpE wk1 wk1 = 0 by decide]
theorem mergeA_wk (S : Nat → Prop) (v : Value) (w : World) (h : Lists w S v [[wk1], [wk2, wk3]]) (hS : ∀ i, S i → i < w.heap.size) :
    Calls Try.prog 23 #[v] w fun r w' => ∃ A c, r = .returned (.tuple #[.slice A 3 c, .int .i64 0]) ∧ Below w.heap.size w w' := by
  refine (merge_any S v _ w h hS (by decide)).mono ?_
  rintro r w' ⟨v', rfl, he, hb⟩
  rw [merge_wk1] at he
  obtain ⟨A, c, rfl⟩ := he.three (n := 3) rfl
  exact ⟨A, c, by rw [merge_wk1], hb⟩
theorem mergeB_wk (S : Nat → Prop) (v : Value) (w : World) (h : Lists w S v [[wk1, wk2, wk3], [wk1, wk2, wk3]]) (hS : ∀ i, S i → i < w.heap.size) :
    Calls Try.prog 23 #[v] w fun r w' => ∃ A c, r = .returned (.tuple #[.slice A 0 c, .int .i64 31]) ∧ Below w.heap.size w w' := by
  refine (merge_any S v _ w h hS (by decide)).mono ?_
  rintro r w' ⟨v', rfl, he, hb⟩
  rw [merge_wk2] at he
  obtain ⟨A, c, rfl⟩ := he.three (n := 0) rfl
  exact ⟨A, c, by rw [merge_wk2], hb⟩
theorem from_lit {w : World} {sz : Nat} (hsz : sz = w.heap.size) {Q : World → Prop} (h : ∀ W, Hid (Ents W (fun i => i < W.heap.size) (.slice (some ⟨sz + 1 + 1 + 1 + 1, 0, none⟩) 3 3) [wk1, wk2, wk3]) → Hid (Below w.heap.size w W) → Q W) :
    Q (((((w.alloc (.cells #[.int .u8 97] 5 (1, 2))).alloc (.cells #[.int .u8 120] 5 (1, 2))).alloc (.cells #[.int .u8 97] 5 (1, 2))).alloc (.cells #[.int .u8 97] 5 (1, 2))).alloc
      (.cells #[.slice (some ⟨sz, 0, none⟩) 1 1, .int .i64 5, .bool false, .slice (some ⟨sz + 1, 0, none⟩) 1 1, .slice (some ⟨sz + 1 + 1, 0, none⟩) 1 1, .int .i64 3, .bool true, .slice none 0 0, .slice (some ⟨sz + 1 + 1 + 1, 0, none⟩) 1 1, .int .i64 2, .bool false, .slice none 0 0] 26)) :=
  h _ (Lib.hid (lit3 w 5 _ sz hsz rfl).1) (Lib.hid (lit3 w 5 _ sz hsz rfl).2)
set_option maxRecDepth 100000 in
set_option maxHeartbeats 4000000 in
theorem wakes_any (w : World) : Calls Try.prog 22 #[] w fun r w' => r = .returned (.bool true) ∧ Below w.heap.size w w' := by
  have kc : ∀ (W : World) (C : Array Value) (n c g : Nat), g = W.heap.size → (convert 23 23 (.slice (some ⟨g, 0, none⟩) n c)).run Try.prog (W.alloc (.cells C 5)) = .ok (.slice (some ⟨g, 0, none⟩) n c) (W.alloc (.cells C 5 (C.size, C.size + 1))) := fun W C n c g hg => hg ▸ Lib.run_convert_bytes_const (P := Try.prog) W 23 5 C n c Try.underlying23 Try.underlying5
  go_enter Try.func22, Try.ntmps22
  go_wp2_with (fail)
  clear kc
  refine from_lit (w := w) (sz := w.heap.size) rfl (Q := fun W => Calls Try.prog 19 #[.slice (some ⟨w.heap.size + 1 + 1 + 1 + 1, 0, none⟩) 3 3] W _) ?_
  intro W HA HB
  obtain ⟨g, hg⟩ : ∃ g, w.heap.size + 1 + 1 + 1 + 1 = g := ⟨_, rfl⟩
  rw [hg] at HA ⊢
  clear hg
  refine (copy_any _ _ _ _ HA.out).mono ?_
  rintro r w2 ⟨v2, rfl, he2, hb2⟩
  have HE2 := Lib.hid he2
  have HA2 := Lib.hid (HA.out.below hb2)
  have HB2 := Lib.hid (HB.out.trans (hb2.mono HB.out.size))
  clear he2 hb2
  go_wp2_with (fail)
  refine (thin_wk _ _ true _ HE2.out).mono ?_
  rintro r w3 ⟨A3, c3, rfl, hb3⟩
  have HA3 := Lib.hid (HA2.out.below hb3)
  have HB3 := Lib.hid (HB2.out.trans (hb3.mono HB2.out.size))
  clear hb3
  go_wp2_with (fail)
  refine (copy_any _ _ _ _ HA3.out).mono ?_
  rintro r w4 ⟨v4, rfl, he4, hb4⟩
  have HE4 := Lib.hid he4
  have HA4 := Lib.hid (HA3.out.below hb4)
  have HB4 := Lib.hid (HB3.out.trans (hb4.mono HB3.out.size))
  clear he4 hb4
  go_wp2_with (fail)
  refine (thin_wk _ _ false _ HE4.out).mono ?_
  rintro r w5 ⟨A5, c5, rfl, hb5⟩
  have HA5 := Lib.hid (HA4.out.below hb5)
  have HB5 := Lib.hid (HB4.out.trans (hb5.mono HB4.out.size))
  clear hb5
  go_wp2_with (fail)
  refine (copy_any _ _ _ _ HA5.out).mono ?_
  rintro r w6 ⟨v6, rfl, he6, hb6⟩
  have HE6 := Lib.hid he6
  have HA6 := Lib.hid (HA5.out.below hb6)
  have HB6 := Lib.hid (HB5.out.trans (hb6.mono HB5.out.size))
  clear he6 hb6
  go_wp2_with (fail)
  refine (vis_wk _ _ _ HE6.out).mono ?_
  rintro r w7 ⟨A7, c7, rfl, hb7⟩
  have HA7 := Lib.hid (HA6.out.below hb7)
  have HB7 := Lib.hid (HB6.out.trans (hb7.mono HB6.out.size))
  clear hb7
  go_wp2_with (fail)
  have A1 : Hid (Ents w7 (fun i => i < W.heap.size) (.slice (some ⟨g, 0, none⟩) 1 3) [wk1]) := Lib.hid (HA7.out.take1 1 (by omega))
  have A2 : Hid (Ents w7 (fun i => i < W.heap.size) (.slice (some ⟨g, 4, none⟩) 2 2) [wk2, wk3]) := Lib.hid (HA7.out.tail (by simp))
  have hd : Below w7.heap.size w7 w7.drew := Below.drew (Below.refl _ _)
  go_region_with (first
    | (go_at_call 19; (with_reducible refine (copy_any _ _ [wk1] _ (A1.out.below hd)).mono ?_); rintro r wa ⟨va, rfl, hea, hba⟩; obtain ⟨Aa, ca, rfl⟩ := hea.three (n := 1) rfl)
    | (go_at_call 19; (with_reducible refine (copy_any _ _ [wk1] _ (A1.out.below (hd.trans (hbb.mono hd.size)))).mono ?_); rintro r wa ⟨va, rfl, hea, hba⟩; obtain ⟨Aa, ca, rfl⟩ := hea.three (n := 1) rfl)
    | (go_at_call 19; (with_reducible refine (copy_any _ _ [wk2, wk3] _ (A2.out.below hd)).mono ?_); rintro r wb ⟨vb, rfl, heb, hbb⟩; obtain ⟨Ab, cb, rfl⟩ := heb.three (n := 2) rfl)
    | (go_at_call 19; (with_reducible refine (copy_any _ _ [wk2, wk3] _ (A2.out.below (hd.trans (hba.mono hd.size)))).mono ?_); rintro r wb ⟨vb, rfl, heb, hbb⟩; obtain ⟨Ab, cb, rfl⟩ := heb.three (n := 2) rfl)
    | (go_at_call 23; (with_reducible refine (mergeA_wk _ _ _ (lists2 (hea.below hbb) heb _ rfl) (fun i h => h)).mono ?_); rintro r wm ⟨Am, cm, rfl, hbm⟩)
    | (go_at_call 23; (with_reducible refine (mergeA_wk _ _ _ (lists2 hea (heb.below hba) _ rfl) (fun i h => h)).mono ?_); rintro r wm ⟨Am, cm, rfl, hbm⟩))
  all_goals
    have h1 : fr w7 wm := by
      first
        | exact (((((fr.refl (W := w7)).drew).step hba).step hbb).alloc _).step hbm
        | exact (((((fr.refl (W := w7)).drew).step hbb).step hba).alloc _).step hbm
    have HA8 := Lib.hid (HA7.out.below h1)
    have HB8 := Lib.hid (HB7.out.trans (Below.mono h1 HB7.out.size))
    clear h1 hba hbb hbm hea heb hd
    go_wp2_with (fail)
    refine (copy_any _ _ _ _ HA8.out).mono ?_
    rintro r w9 ⟨v9, rfl, he9, hb9⟩
    obtain ⟨A9, c9, rfl⟩ := he9.three (n := 3) rfl
    have HE9 := Lib.hid he9
    have HA9 := Lib.hid (HA8.out.below hb9)
    have HB9 := Lib.hid (HB8.out.trans (hb9.mono HB8.out.size))
    clear he9 hb9
    go_wp2_with (fail)
    refine (copy_any _ _ _ _ HA9.out).mono ?_
    rintro r w10 ⟨v10, rfl, he10, hb10⟩
    obtain ⟨A10, c10, rfl⟩ := he10.three (n := 3) rfl
    have HE9' := Lib.hid (HE9.out.below hb10)
    have HE10 := Lib.hid he10
    have HB10 := Lib.hid (HB9.out.trans (hb10.mono HB9.out.size))
    clear he10 hb10
    go_wp2_with (fail)
    refine (mergeB_wk _ _ _ (lists2 HE9'.out HE10.out _ rfl) (fun i h => h)).mono ?_
    rintro r w11 ⟨A11, c11, rfl, hb11⟩
    have HB11 := Lib.hid (HB10.out.trans ((((fr.refl (W := w10)).alloc _).step hb11 : Below w10.heap.size w10 w11).mono HB10.out.size))
    clear hb11
    go_wp2
    refine bodyPost_ret (v := .bool _) (by simp [results, Try.results22, go_sem]; rfl) rfl ?_
    exact ⟨rfl, HB11.out⟩
end Go.Proofs.Ytelbidknefkaiaa
end
section
namespace Go.Proofs.Ytelbidknefkaiaa
open Go.RowKit Go.ChangeShapes Go.WideShapes Go.Deep
theorem cells_u8 : Try.prog.cellsOf 5 = 1 := by kernel_rfl
theorem cells_bs : Try.prog.cellsOf 23 = 1 := by kernel_rfl
theorem cells_i : Try.prog.cellsOf 3 = 1 := by kernel_rfl
theorem cells_b : Try.prog.cellsOf 4 = 1 := by kernel_rfl
theorem cells_e : Try.prog.cellsOf 26 = 4 := by kernel_rfl
theorem cells_es : Try.prog.cellsOf 22 = 1 := by kernel_rfl
theorem bytes_u8 : Try.prog.bytesOf 5 = 1 := by kernel_rfl
theorem bytes_e : Try.prog.bytesOf 26 = 64 := by kernel_rfl
theorem bytes_es : Try.prog.bytesOf 22 = 24 := by kernel_rfl
theorem cell_spot {w : World} {a : Addr} {v : Value} (h : w.cell? a = some v) : a = ⟨a.block, a.off, none⟩ := by
  obtain ⟨b, o, s⟩ := a
  cases s with
  | none => rfl
  | some s =>
    unfold World.cell? at h
    split at h <;> simp at h
theorem add_block (a : Addr) (n : Nat) : (a.add n).block = a.block := by unfold Addr.add; split <;> rfl
theorem add_off (a : Addr) (n : Nat) : (a.add n).off = a.off + n := by
  unfold Addr.add
  split
  · rename_i h; rw [h]; rfl
  · rfl
theorem weightsAll_mem {H : Type} {P : Program} {e : TypeId} : ∀ {l : List (DataW H)} {d : DataW H}, d ∈ l → ∀ n ∈ d.weights P e, n ∈ DataW.weightsAll P e l
  | d' :: r, d, hd, n, hn => by
    simp only [DataW.weightsAll, List.mem_append]
    rcases List.mem_cons.1 hd with rfl | h
    · exact Or.inl hn
    · exact Or.inr (weightsAll_mem h n hn)
section
variable {H : Type} {enc : TypeId × Value → H} {w : World} {base : Nat} {held : Bool} {spare : Nat → Bool}
theorem open_byt {fuel : Nat} {v : Value} {x : DataW H × List MemPlace} (h : DataW.trod enc Try.prog w base spare held fuel 23 [v] = some x) (hw : ∀ n ∈ x.1.weights Try.prog 23, n ≤ reachBytes) :
    ∃ bs, Byt w (fun _ => True) v bs := by
  rcases open_ints Try.underlying23 Try.underlying5 cells_u8 h with ⟨hv, _⟩ | ⟨a, len, cap, zs, hv, _, hl, hm, hz, hx, hc, hwf⟩
  · obtain rfl : v = .slice none 0 0 := by simpa using hv
    exact ⟨[], Byt.nil _ _⟩
  · obtain rfl : v = .slice (some a) len cap := by simpa using hv
    have hlen : len ≤ zs.length := by rw [hz]; split <;> omega
    subst hx
    have hr := hw _ (by simp only [DataW.weights, Try.underlying23]; exact List.mem_cons_self)
    rw [bytes_u8] at hr
    simp only [lits, List.length_map, List.length_take, List.length_drop, reachBytes] at hr
    have e1 : ((zs.take len).map fun z => UInt8.ofNat z.toNat).length = len := by simp; omega
    unfold maxLen at hm
    refine ⟨(zs.take len).map fun z => UInt8.ofNat z.toNat, some a, cap, by rw [e1], by omega, by omega, by omega, ?_⟩
    rw [e1]
    refine ⟨by simp; omega, fun h0 => ?_⟩
    have hs := hc 0 (by omega)
    have hsp : a = ⟨a.block, a.off, none⟩ := cell_spot (a := a) (by simpa [Addr.add] using hs)
    refine ⟨a.block, a.off, by rw [← hsp], trivial, ?_, fun j u hu => ?_⟩
    · have := World.block_lt_of_cell? w _ hs
      simpa [Addr.add] using this
    · rw [List.getElem?_map, List.getElem?_map, List.getElem?_take] at hu
      split at hu
      · rename_i hj
        have hcj := hc j (by omega)
        rw [hsp, Addr.add_lit] at hcj
        rw [hcj]
        obtain ⟨z, hzj⟩ : ∃ z, zs[j]? = some z := ⟨_, List.getElem?_eq_getElem (by omega)⟩
        have hb := bounds_u8 (hwf z (List.mem_of_getElem? hzj))
        rw [hzj] at hu
        simp only [Option.map_some, Option.some.injEq] at hu
        rw [← hu, List.getD_eq_getElem?_getD, hzj]
        unfold bcell
        simp
        omega
      · simp at hu
theorem open_ent {fuel : Nat} {cs : List Value} {x : DataW H × List MemPlace} (h : DataW.trod enc Try.prog w base spare held fuel 26 cs = some x) (hw : ∀ n ∈ x.1.weights Try.prog 26, n ≤ reachBytes) :
    ∃ e : Ent, EntCells w (fun _ => True) cs [e] := by
  obtain ⟨y0, y1, y2, y3, n, rfl, hl, h0, h1, h2, h3⟩ := Joins.trod_struct4 Try.underlying26 h
  rw [cells_e] at hl
  match cs, hl with
  | [c0, c1, c2, c3], _ =>
    simp only [cells_bs, cells_i, cells_b, List.drop_zero, List.drop_succ_cons, List.take_succ_cons, List.take_zero] at h0 h1 h2 h3
    simp only [DataW.weights, Try.underlying26, List.map_cons, List.map_nil, DataW.weightsEach, List.append_nil, List.mem_append] at hw
    obtain ⟨k, hk⟩ := open_byt h0 (fun n hn => hw n (.inl hn))
    obtain ⟨u, hu⟩ := open_byt h3 (fun n hn => hw n (.inr (.inr (.inr hn))))
    obtain ⟨s, hs, _, _⟩ := DataW.trod_int Try.underlying3 h1
    obtain ⟨d, hd, _⟩ := DataW.trod_bool Try.underlying4 h2
    exact ⟨⟨k, s, d, u⟩, by simpa using hs, by simpa using hd, hk, hu, trivial⟩
def entsLen : DataW H → Nat
  | .slice elems _ => elems.length
  | _ => 0
def listsLen : DataW H → Nat
  | .slice elems _ => (elems.map entsLen).sum
  | _ => 0
theorem open_entries {fuel : Nat} {v : Value} {x : DataW H × List MemPlace} (h : DataW.trod enc Try.prog w base spare held fuel 22 [v] = some x) (hw : ∀ n ∈ x.1.weights Try.prog 22, n ≤ reachBytes) :
    ∃ es, Ents w (fun _ => True) v es ∧ es.length = entsLen x.1 := by
  rcases open_slice Try.underlying22 h with ⟨hv, hx⟩ | ⟨a, len, cap, m, n, D, Pl, hv, _, hl, hm, hmm, hx, hc⟩
  · obtain rfl : v = .slice none 0 0 := by simpa using hv
    exact ⟨[], Ents.nil _ _, by rw [hx]; rfl⟩
  · obtain rfl : v = .slice (some a) len cap := by simpa using hv
    have hlm : len ≤ m := by rw [hmm]; split <;> omega
    subst hx
    simp only [DataW.weights, Try.underlying22, List.mem_cons, List.mem_append] at hw
    have hr := hw _ (.inl rfl)
    rw [bytes_e] at hr
    simp only [List.length_map, List.length_range, reachBytes] at hr
    unfold maxLen at hm
    rw [cells_e] at hc
    have key : ∀ k, k ≤ len → ∃ (cs : List Value) (es : List Ent), es.length = k ∧ EntCells w (fun _ => True) cs es ∧ ∀ j u, cs[j]? = some u → w.cell? (a.add j) = some u := by
      intro k
      induction k with
      | zero => exact fun _ => ⟨[], [], rfl, trivial, fun j u hu => by simp at hu⟩
      | succ k ih =>
        intro hk
        obtain ⟨cs, es, hel, hce, hcc⟩ := ih (by omega)
        obtain ⟨cs', h1, h2⟩ := hc k (by omega)
        obtain ⟨e, he⟩ := open_ent h2 (fun n hn => hw n (.inr (.inl (weightsAll_mem (List.mem_map.2 ⟨k, List.mem_range.2 (by omega), rfl⟩) n hn))))
        obtain ⟨_, hl4, h4⟩ := World.cells?_some h1
        have hcl := hce.len
        refine ⟨cs ++ cs', es ++ [e], by simp [hel], hce.append he, fun j u hu => ?_⟩
        rw [List.getElem?_append] at hu
        split at hu
        · exact hcc j u hu
        · have hj : j - cs.length < 4 := by rw [← hl4]; exact (List.getElem?_eq_some_iff.1 hu).1
          have h5 := h4 _ hj
          rw [hu] at h5
          have h6 := h4 0 (by omega)
          have hsp : a.add (k * 4) = ⟨a.block, a.off + k * 4, none⟩ := by
            have h7 := cell_spot (w := w) (a := (a.add (k * 4))) (v := cs'[0]) (by
              rw [show (a.add (k * 4)).add 0 = a.add (k * 4) by simp [Addr.add]] at h6
              rw [h6, List.getElem?_eq_getElem (by omega)])
            rw [h7, add_block, add_off]
          rw [hsp, Addr.add_lit] at h5
          unfold Addr.add
          by_cases hj0 : j = 0
          · rw [if_pos hj0]
            subst hj0
            have hk0 : k = 0 := by omega
            subst hk0
            have : a = ⟨a.block, a.off, none⟩ := by simpa [Addr.add] using hsp
            rw [this]
            simpa using h5
          · rw [if_neg hj0, ← h5]
            congr 2
            omega
    obtain ⟨cs, es, hel, hce, hcc⟩ := key len (Nat.le_refl _)
    have hcl := hce.len
    refine ⟨es, ⟨some a, cap, cs, by rw [hel], by omega, by omega, by omega, ?_, hce⟩, by simp [entsLen, hel]⟩
    rw [hel]
    refine ⟨by omega, fun h0 => ?_⟩
    obtain ⟨u0, hu0⟩ : ∃ u, cs[0]? = some u := ⟨_, List.getElem?_eq_getElem (by omega)⟩
    have hs := hcc 0 u0 hu0
    have hsp : a = ⟨a.block, a.off, none⟩ := cell_spot (a := a) (by simpa [Addr.add] using hs)
    refine ⟨a.block, a.off, by rw [← hsp], trivial, ?_, fun j u hu => ?_⟩
    · have := World.block_lt_of_cell? w _ hs
      simpa [Addr.add] using this
    · have := hcc j u hu
      rwa [hsp, Addr.add_lit] at this
theorem open_lists {fuel : Nat} {v : Value} {x : DataW H × List MemPlace} (h : DataW.trod enc Try.prog w base spare held fuel 42 [v] = some x) (hw : ∀ n ∈ x.1.weights Try.prog 42, n ≤ reachBytes) :
    ∃ ls, Lists w (fun _ => True) v ls ∧ total ls = listsLen x.1 := by
  rcases open_slice1 Try.underlying42 cells_es h with ⟨hv, hx⟩ | ⟨a, len, cap, m, n, V, D, Pl, hv, _, hl, hm, hmm, hx, hc⟩
  · obtain rfl : v = .slice none 0 0 := by simpa using hv
    exact ⟨[], ⟨none, 0, [], rfl, by simp, by simp, by simp, Row.nil _ _ _ _, fun i l hl => by simp at hl⟩, by rw [hx]; rfl⟩
  · obtain rfl : v = .slice (some a) len cap := by simpa using hv
    have hlm : len ≤ m := by rw [hmm]; split <;> omega
    subst hx
    simp only [DataW.weights, Try.underlying42, List.mem_cons, List.mem_append] at hw
    have hr := hw _ (.inl rfl)
    rw [bytes_es] at hr
    simp only [List.length_map, List.length_range, reachBytes] at hr
    unfold maxLen at hm
    obtain ⟨L, hL⟩ := choose_lt (α := List Ent) (p := fun i l => Ents w (fun _ => True) (V i) l ∧ l.length = entsLen (D i)) (n := len) (fun i hi =>
      open_entries (hc i (by omega)).2 (fun n hn => hw n (.inr (.inl (weightsAll_mem (List.mem_map.2 ⟨i, List.mem_range.2 hi, rfl⟩) n hn)))))
    have e1 : ((List.range len).map L).length = len := by simp
    refine ⟨(List.range len).map L, ⟨some a, cap, (List.range len).map V, by rw [e1], by omega, by omega, by omega, ?_, fun i l hl => ?_⟩, ?_⟩
    · rw [e1]
      refine ⟨by simp, fun h0 => ?_⟩
      have hs := (hc 0 (by omega)).1
      have hsp : a = ⟨a.block, a.off, none⟩ := cell_spot (a := a) (by simpa [Addr.add] using hs)
      refine ⟨a.block, a.off, by rw [← hsp], trivial, ?_, fun j u hu => ?_⟩
      · have := World.block_lt_of_cell? w _ hs
        simpa [Addr.add] using this
      · have hj : j < len := by have := (List.getElem?_eq_some_iff.1 hu).1; simpa using this
        have := (hc j (by omega)).1
        rw [hsp, Addr.add_lit] at this
        rw [this, ← hu]
        simp [hj]
    · have hi : i < len := by have := (List.getElem?_eq_some_iff.1 hl).1; simpa using this
      refine ⟨V i, by simp [hi], ?_⟩
      have : l = L i := by simp [hi] at hl; exact hl.symm
      rw [this]
      exact (hL i hi).1
    · unfold total listsLen
      rw [List.length_flatten, List.map_map]
      show ((List.range len).map (List.length ∘ L)).sum = (((List.range len).map D).map entsLen).sum
      rw [List.map_map]
      refine congrArg List.sum (List.map_congr_left fun i hi => ?_)
      exact (hL i (List.mem_range.1 hi)).2
/-- an argument that is a slice: its reading at its own value. -/
theorem arg_slice {r : Reach} {b0 : Nat} {t e : TypeId} {v : Value} {d : DataW H} {ps : List MemPlace} (ht : Try.prog.underlying t = some (.slice e)) (hval : Value.okWide Try.prog w r b0 t v) (hd : DataW.Trod enc Try.prog w base spare held t v d ps) :
    ∃ fuel, DataW.trod enc Try.prog w base spare held fuel t [v] = some (d, ps) := by
  obtain ⟨a, l, c, rfl⟩ := okWide_slice ht hval
  obtain ⟨n, hn⟩ := hd
  exact ⟨n, hn⟩
theorem arg_entries {r : Reach} {b0 : Nat} {v : Value} {d : DataW H} {ps : List MemPlace} (hval : Value.okWide Try.prog w r b0 22 v) (hd : DataW.Trod enc Try.prog w base spare held 22 v d ps) (hw : ∀ n ∈ d.weights Try.prog 22, n ≤ reachBytes) :
    ∃ es, Ents w (fun _ => True) v es := by
  obtain ⟨n, hn⟩ := arg_slice Try.underlying22 hval hd
  obtain ⟨es, he, _⟩ := open_entries hn hw
  exact ⟨es, he⟩
theorem arg_lists {r : Reach} {b0 : Nat} {v : Value} {d : DataW H} {ps : List MemPlace} (hval : Value.okWide Try.prog w r b0 42 v) (hd : DataW.Trod enc Try.prog w base spare held 42 v d ps) (hw : ∀ n ∈ d.weights Try.prog 42, n ≤ reachBytes) :
    ∃ ls, Lists w (fun _ => True) v ls ∧ total ls = listsLen d := by
  obtain ⟨n, hn⟩ := arg_slice Try.underlying42 hval hd
  exact open_lists hn hw
theorem arg_bytes {r : Reach} {b0 : Nat} {v : Value} {d : DataW H} {ps : List MemPlace} (hval : Value.okWide Try.prog w r b0 23 v) (hd : DataW.Trod enc Try.prog w base spare held 23 v d ps) (hw : ∀ n ∈ d.weights Try.prog 23, n ≤ reachBytes) :
    ∃ bs, Byt w (fun _ => True) v bs := by
  obtain ⟨n, hn⟩ := arg_slice Try.underlying23 hval hd
  exact open_byt hn hw
end
end Go.Proofs.Ytelbidknefkaiaa
end
section
namespace Go.Proofs.Ytelbidknefkaiaa
open Go.RowKit Go.ChangeShapes Go.WideShapes Go.Deep
section
variable {H : Type} {enc : TypeId × Value → H} {w : World} {base : Nat} {held : Bool} {spare : Nat → Bool}
theorem bulk_one (d : DataW H) : 1 ≤ Rows.uptoBulk d := by
  cases d with
  | lit l => cases l <;> simp [Rows.uptoBulk]
  | nil => simp [Rows.uptoBulk]
  | ptr d => simp [Rows.uptoBulk]
  | slice elems spare => simp [Rows.uptoBulk]
  | agg parts => simp [Rows.uptoBulk]
  | iface t d => simp [Rows.uptoBulk]
  | map entries => simp [Rows.uptoBulk]
  | held h => simp [Rows.uptoBulk]
theorem bulk_len (l : List (DataW H)) : l.length ≤ Rows.uptoBulkAll l := by
  induction l with
  | nil => simp [Rows.uptoBulkAll]
  | cons x r ih => have := bulk_one x; simp only [Rows.uptoBulkAll, List.length_cons]; omega
theorem bulk_part {d : DataW H} {l : List (DataW H)} (h : d ∈ l) : Rows.uptoBulk d ≤ Rows.uptoBulkAll l := by
  induction l with
  | nil => cases h
  | cons x r ih =>
    simp only [Rows.uptoBulkAll]
    rcases List.mem_cons.1 h with e | e
    · subst e; omega
    · have := ih e; omega
theorem bulk_ents (d : DataW H) : entsLen d ≤ Rows.uptoBulk d := by
  cases d with
  | slice elems spare => have := bulk_len elems; simp only [entsLen, Rows.uptoBulk]; omega
  | _ => simp [entsLen]
theorem bulk_lists (d : DataW H) : listsLen d ≤ Rows.uptoBulk d := by
  cases d with
  | slice elems spare =>
    have h : (elems.map entsLen).sum ≤ Rows.uptoBulkAll elems := by
      induction elems with
      | nil => simp [Rows.uptoBulkAll]
      | cons x r ih => have := bulk_ents x; simp only [Rows.uptoBulkAll, List.map_cons, List.sum_cons]; omega
    simp only [listsLen, Rows.uptoBulk]; omega
  | _ => simp [listsLen]
theorem arg_lists_upto {r : Reach} {b0 : Nat} {v : Value} {d : DataW H} {ps : List MemPlace} (hval : Value.okWide Try.prog w r b0 42 v) (hd : DataW.Trod enc Try.prog w base spare held 42 v d ps) (hw : ∀ n ∈ d.weights Try.prog 42, n ≤ reachBytes)
    (hk : Rows.uptoBulk d ≤ 1048576) : ∃ ls, Lists w (fun _ => True) v ls ∧ total ls ≤ 1048576 := by
  obtain ⟨ls, h1, h2⟩ := arg_lists hval hd hw
  exact ⟨ls, h1, by have := bulk_lists d; omega⟩
theorem arg_entries_upto {r : Reach} {b0 : Nat} {v : Value} {d : DataW H} {ps : List MemPlace} (hval : Value.okWide Try.prog w r b0 22 v) (hd : DataW.Trod enc Try.prog w base spare held 22 v d ps) (hw : ∀ n ∈ d.weights Try.prog 22, n ≤ reachBytes)
    (hk : Rows.uptoBulk d ≤ 1048576) : ∃ es, Ents w (fun _ => True) v es ∧ es.length ≤ 1048576 := by
  obtain ⟨n, hn⟩ := arg_slice Try.underlying22 hval hd
  obtain ⟨es, h1, h2⟩ := open_entries hn hw
  have := bulk_ents d
  simp only at h2
  exact ⟨es, h1, by omega⟩
end
end Go.Proofs.Ytelbidknefkaiaa
end
section
namespace Go.Proofs.Ytelbidknefkaiaa
open Go.RowKit Go.BigFrame
attribute [local go_sem ↓] Go.wp_at_zero Go.wp_at_succ
theorem Lists.mono {w : World} {S S' : Nat → Prop} {v : Value} {ls : List (List Ent)} (h : Lists w S v ls) (hS : ∀ i, i < w.heap.size → S i → S' i) : Lists w S' v ls := by
  obtain ⟨A, c, vs, e, h1, h2, h3, h4, h5⟩ := h
  refine ⟨A, c, vs, e, h1, h2, h3, ⟨h4.1, fun hn => ?_⟩, fun i l hl => ?_⟩
  · obtain ⟨b, o, e, hb, hlt, hc⟩ := h4.2 hn
    exact ⟨b, o, e, hS b hlt hb, hlt, hc⟩
  · obtain ⟨x, hx, hy⟩ := h5 i l hl
    exact ⟨x, hx, hy.monoLt hS⟩
theorem Lists.lt {w : World} {S : Nat → Prop} {v : Value} {ls : List (List Ent)} (h : Lists w S v ls) : Lists w (fun i => i < w.heap.size) v ls := h.mono fun _ hi _ => hi
set_option maxRecDepth 100000 in
set_option maxHeartbeats 1000000 in
theorem mergesLaw (v : Value) (ls : List (List Ent)) (w : World) (hv : Lists w (fun _ => True) v ls) (hN : total ls * 64 ≤ 140737488355328) :
    Calls Try.prog 5 #[v] w fun r w' => r = .returned (.bool true) ∧ Below w.heap.size w w' := by
  have HV := Lib.hid hv
  have HN := Lib.hid hN
  obtain ⟨x, e, hxe⟩ : ∃ x e, mergeC ls = (x, e) := ⟨_, _, rfl⟩
  have HM := Lib.hid hxe
  clear hv hN hxe
  go_enter Try.func5, Try.ntmps5
  go_wp2_with fail
  refine (wakes_any _).mono ?_
  rintro r w1 ⟨rfl, hb1⟩
  have HV1 := Lib.hid (HV.out.below hb1)
  have HB1 := Lib.hid hb1
  clear hb1
  go_wp2_with fail
  refine (lists_any _ _ _ _ HV1.out).mono ?_
  rintro r w2 ⟨v2, rfl, he2, hb2⟩
  have HE2 := Lib.hid he2.lt
  have HV2 := Lib.hid (HV1.out.below hb2)
  have HB2 := Lib.hid (HB1.out.trans (hb2.mono HB1.out.size))
  clear he2 hb2
  go_wp2_with fail
  have HC := merge_any _ _ _ _ HE2.out (fun _ h => h) HN.out
  rw [HM.out] at HC
  have HC' := Lib.hid HC
  clear HC
  refine HC'.out.mono ?_
  rintro r w3 ⟨v3, rfl, he3, hb3⟩
  have HE3 := Lib.hid he3
  have HV3 := Lib.hid (HV2.out.below hb3)
  have HB3 := Lib.hid (HB2.out.trans (hb3.mono HB2.out.size))
  clear he3 hb3
  go_wp2_with fail
  refine (rmerge_any _ _ _ _ HV3.out HN.out).mono ?_
  rintro r w4 ⟨v4, rs, n, rfl, hrm, he4, hb4⟩
  have hml := merge_law hrm
  rw [HM.out] at hml
  injection hml with e1 e2
  subst e1 e2
  have HX4 := Lib.hid (HE3.out.below hb4)
  have HB4 := Lib.hid (HB3.out.trans (hb4.mono HB3.out.size))
  have HS := sameE_any _ _ _ _ _ _ _ HX4.out he4
  rw [decide_eq_true rfl] at HS
  have HS' := Lib.hid HS
  clear HS he4 hb4 hrm
  go_wp2_with fail
  refine HS'.out.mono ?_
  rintro r w5 ⟨rfl, hb5⟩
  have HB5 := Lib.hid (HB4.out.trans (hb5.mono HB4.out.size))
  clear hb5
  go_wp2
  refine bodyPost_ret (v := .bool _) (by simp [results, Try.results5, go_sem]; rfl) rfl ?_
  exact ⟨rfl, HB5.out⟩
theorem mergesUpto (v : Value) (ls : List (List Ent)) (w : World) (hv : Lists w (fun _ => True) v ls) (hN : total ls ≤ 1048576) :
    Calls Try.prog 5 #[v] w fun r w' => r = .returned (.bool true) ∧ Below w.heap.size w w' := mergesLaw v ls w hv (by omega)
end Go.Proofs.Ytelbidknefkaiaa
end
section
namespace Go.Proofs.Ytelbidknefkaiaa
/-- lists that can be merged. -/
def CanMerge (ls : List (List Ent)) : Prop := ls.all orderedE = true ∧ NoTwice ls.flatten
theorem mergeC_ok {ls : List (List Ent)} (h : CanMerge ls) : ∃ r, mergeC ls = (r, 0) ∧ r.Perm ls.flatten ∧ r.Pairwise before := by
  rcases mergeC_spec ls h.1 with h1 | ⟨_, h2⟩
  · exact h1
  · exact absurd h.2 h2
theorem mergeC_cases (ls : List (List Ent)) : (CanMerge ls ∧ ∃ r, mergeC ls = (r, 0) ∧ r.Perm ls.flatten ∧ r.Pairwise before) ∨ ∃ n : Int, n ≠ 0 ∧ mergeC ls = ([], n) := by
  rcases ho : ls.all orderedE with _ | _
  · refine .inr ⟨30, by omega, ?_⟩
    unfold mergeC; rw [ho]; rfl
  · rcases mergeC_spec ls ho with ⟨r, e, hr1, hr2⟩ | ⟨e, hnt⟩
    · exact .inl ⟨⟨ho, (noTwice_perm hr1).1 (before_noTwice hr2)⟩, r, e, hr1, hr2⟩
    · exact .inr ⟨31, by omega, e⟩
theorem canMerge_perm {a b : List (List Ent)} (h : a.Perm b) (ha : CanMerge a) : CanMerge b := by
  refine ⟨?_, (noTwice_perm h.flatten).1 ha.2⟩
  rw [List.all_eq_true] at *
  exact fun x hx => List.all_eq_true.1 ha.1 x (h.symm.subset hx)
theorem sub_flatten {a b : List (List Ent)} (h : a.Sublist b) : a.flatten.Sublist b.flatten := by
  induction h with
  | slnil => exact List.Sublist.refl _
  | cons l _ ih => rw [List.flatten_cons]; exact ih.trans (List.sublist_append_right _ _)
  | cons_cons l _ ih => rw [List.flatten_cons, List.flatten_cons]; exact List.Sublist.append (List.Sublist.refl _) ih
theorem canMerge_sub {a b : List (List Ent)} (h : a.Sublist b) (hb : CanMerge b) : CanMerge a := by
  refine ⟨?_, hb.2.sublist (sub_flatten h)⟩
  rw [List.all_eq_true]
  exact fun x hx => List.all_eq_true.1 hb.1 x (h.subset hx)
theorem merge_same {a b : List (List Ent)} {r : List Ent} (h : a.flatten.Perm b.flatten) (hb : CanMerge b) (ha : mergeC a = (r, 0)) (hca : CanMerge a) : mergeC b = (r, 0) := by
  obtain ⟨r1, e1, p1, q1⟩ := mergeC_ok hca
  obtain ⟨r2, e2, p2, q2⟩ := mergeC_ok hb
  have : r1 = r2 := before_eq (p1.trans (h.trans p2.symm)) q1 q2
  rw [e1] at ha
  injection ha with ha _
  rw [e2, ← this, ha]
theorem merged_ordered {ls : List (List Ent)} {r : List Ent} (h : CanMerge ls) (hp : r.Perm ls.flatten) (hr : r.Pairwise before) : orderedE r = true := by
  rw [ordered_iff]
  refine ⟨fun e he => ?_, hr⟩
  obtain ⟨l, hl, hel⟩ := List.mem_flatten.1 (hp.subset he)
  exact ((ordered_iff l).1 (List.all_eq_true.1 h.1 l hl)).1 e hel
/-- all the answers that MergeParts asks for. -/
theorem parts_law {ls : List (List Ent)} {x : List Ent} (k : Nat) (h : mergeC ls = (x, 0)) : mergeC ls.reverse = (x, 0) ∧ ∃ a b, mergeC (ls.take k) = (a, 0) ∧ mergeC (ls.drop k) = (b, 0) ∧ mergeC [a, b] = (x, 0) ∧ a.length + b.length = total ls := by
  rcases mergeC_cases ls with ⟨hc, _⟩ | ⟨n, hn, e⟩
  · have hrev : CanMerge ls.reverse := canMerge_perm (List.reverse_perm ls).symm hc
    refine ⟨merge_same (List.reverse_perm ls).symm.flatten hrev h hc, ?_⟩
    have ht := canMerge_sub (List.take_sublist k ls) hc
    have hd := canMerge_sub (List.drop_sublist k ls) hc
    obtain ⟨a, ea, pa, qa⟩ := mergeC_ok ht
    obtain ⟨b, eb, pb, qb⟩ := mergeC_ok hd
    have hperm : ([a, b] : List (List Ent)).flatten.Perm ls.flatten := by
      have : ls.flatten = (ls.take k).flatten ++ (ls.drop k).flatten := by rw [← List.flatten_append, List.take_append_drop]
      rw [this]
      simpa using pa.append pb
    refine ⟨a, b, ea, eb, merge_same hperm.symm ⟨?_, (noTwice_perm hperm).2 hc.2⟩ h hc, ?_⟩
    · simp [merged_ordered ht pa qa, merged_ordered hd pb qb]
    · have := hperm.length_eq
      simpa [total] using this
  · rw [e] at h
    injection h with _ h
    exact absurd h hn
end Go.Proofs.Ytelbidknefkaiaa
end
