/-
law 12's wakes.
-/
import Derived.Test.YtelbidknefkaiaaMerge
import Derived.Test.YtelbidknefkaiaaThin
import Derived.Test.YtelbidknefkaiaaVis
import Derived.Lib.SlBytesConst
import Derived.Deep.RegionWith
namespace Go.Proofs.Ytelbidknefkaiaa
open Go.RowKit Go.BigFrame
attribute [local go_sem ↓] Go.wp_at_zero Go.wp_at_succ

def wk1 : Ent := ⟨[97], 5, false, [120]⟩
def wk2 : Ent := ⟨[97], 3, true, []⟩
def wk3 : Ent := ⟨[97], 2, false, []⟩

theorem Byt.one {w : World} {S : Nat → Prop} {g c : Nat} {b : UInt8} {v : Value} (h : w.cell? ⟨g, 0, none⟩ = some v) (hv : v = bcell b) (hS : S g) (hc : 1 ≤ c) (hc' : c ≤ 9223372036854775807) : Byt w S (.slice (some ⟨g, 0, none⟩) 1 c) [b] := by
  subst hv
  refine ⟨_, _, rfl, hc, hc', by simp, ⟨by simp, fun _ => ⟨g, 0, rfl, hS, World.block_lt_of_cell? w _ h, fun j u hu => ?_⟩⟩⟩
  match j, hu with
  | 0, hu => simp at hu; subst hu; simpa using h
theorem cell_marked (w : World) (cs : Array Value) (t : TypeId) (fr : Nat × Nat) (g j : Nat) (hg : g = w.heap.size) : (w.alloc (.cells cs t fr)).cell? ⟨g, j, none⟩ = cs[j]? := by
  subst hg; exact cell_of_row _ _ j cs t fr (heap_alloc_new w _)
/-- the literal of three. -/
theorem lit3 (w : World) (T : TypeId) (W : World) (sz : Nat) (hsz : sz = w.heap.size)
    (hW : W = (((((w.alloc (.cells #[.int .u8 97] T (1, 2))).alloc (.cells #[.int .u8 120] T (1, 2))).alloc (.cells #[.int .u8 97] T (1, 2))).alloc (.cells #[.int .u8 97] T (1, 2))).alloc
      (.cells #[.slice (some ⟨sz, 0, none⟩) 1 1, .int .i64 5, .bool false, .slice (some ⟨sz + 1, 0, none⟩) 1 1, .slice (some ⟨sz + 1 + 1, 0, none⟩) 1 1, .int .i64 3, .bool true, .slice none 0 0, .slice (some ⟨sz + 1 + 1 + 1, 0, none⟩) 1 1, .int .i64 2, .bool false, .slice none 0 0] 26))) :
    Ents W (fun i => i < W.heap.size) (.slice (some ⟨sz + 1 + 1 + 1 + 1, 0, none⟩) 3 3) [wk1, wk2, wk3] ∧ Below w.heap.size w W := by
  subst hW hsz
  have hb : Below w.heap.size w (((((w.alloc (.cells #[.int .u8 97] T (1, 2))).alloc (.cells #[.int .u8 120] T (1, 2))).alloc (.cells #[.int .u8 97] T (1, 2))).alloc (.cells #[.int .u8 97] T (1, 2))).alloc
      (.cells #[.slice (some ⟨w.heap.size, 0, none⟩) 1 1, .int .i64 5, .bool false, .slice (some ⟨w.heap.size + 1, 0, none⟩) 1 1, .slice (some ⟨w.heap.size + 1 + 1, 0, none⟩) 1 1, .int .i64 3, .bool true, .slice none 0 0, .slice (some ⟨w.heap.size + 1 + 1 + 1, 0, none⟩) 1 1, .int .i64 2, .bool false, .slice none 0 0] 26)) :=
    (((((Below.refl _ _).alloc (Nat.le_refl _) _).alloc (by simp) _).alloc (by simp; omega) _).alloc (by simp; omega) _).alloc (by simp; omega) _
  refine ⟨?_, hb⟩
  refine ⟨_, _, [.slice (some ⟨w.heap.size, 0, none⟩) 1 1, .int .i64 5, .bool false, .slice (some ⟨w.heap.size + 1, 0, none⟩) 1 1, .slice (some ⟨w.heap.size + 1 + 1, 0, none⟩) 1 1, .int .i64 3, .bool true, .slice none 0 0, .slice (some ⟨w.heap.size + 1 + 1 + 1, 0, none⟩) 1 1, .int .i64 2, .bool false, .slice none 0 0], rfl, by simp, by simp, by simp, ⟨by simp, fun _ => ⟨_, 0, rfl, by simp, by simp, fun j u hu => ?_⟩⟩, ?_⟩
  · rw [World.cell?_alloc_at _ _ _ _ (by simp)]
    simpa using hu
  · refine ⟨rfl, rfl, Byt.one (v := .int .u8 97) ?_ rfl (by simp; omega) (by omega) (by omega), Byt.one (v := .int .u8 120) ?_ rfl (by simp) (by omega) (by omega), rfl, rfl, Byt.one (v := .int .u8 97) ?_ rfl (by simp) (by omega) (by omega), Byt.nil _ _, rfl, rfl, Byt.one (v := .int .u8 97) ?_ rfl (by simp) (by omega) (by omega), Byt.nil _ _, trivial⟩
    · exact Lib.cell?_alloc_marked _ (Lib.cell?_alloc_marked _ (Lib.cell?_alloc_marked _ (Lib.cell?_alloc_marked _ (cell_marked _ _ _ _ _ _ rfl))))
    · exact Lib.cell?_alloc_marked _ (Lib.cell?_alloc_marked _ (Lib.cell?_alloc_marked _ (cell_marked _ _ _ _ _ _ (by simp))))
    · exact Lib.cell?_alloc_marked _ (Lib.cell?_alloc_marked _ (cell_marked _ _ _ _ _ _ (by simp)))
    · exact Lib.cell?_alloc_marked _ (cell_marked _ _ _ _ _ _ (by simp))
/-- a literal of two lists. -/
theorem lists2 {w : World} {va vb : Value} {la lb : List Ent} {S S' : Nat → Prop} (ha : Ents w S va la) (hb : Ents w S' vb lb) (g : Nat) (hg : g = w.heap.size) :
    Lists (w.alloc (.cells #[va, vb] 22)) (fun i => i < (w.alloc (.cells #[va, vb] 22)).heap.size) (.slice (some ⟨g, 0, none⟩) 2 2) [la, lb] := by
  subst hg
  have hal : Below w.heap.size w (w.alloc (.cells #[va, vb] 22)) := (Below.refl _ _).alloc (Nat.le_refl _) _
  refine ⟨_, _, [va, vb], rfl, by simp, by simp, by simp, ⟨by simp, fun _ => ⟨_, 0, rfl, by simp, by simp, fun j u hu => ?_⟩⟩, fun i l hl => ?_⟩
  · rw [World.cell?_alloc_at _ _ _ _ (by simp)]
    simpa using hu
  · match i, hl with
    | 0, hl => simp at hl; subst hl; exact ⟨va, rfl, (ha.below hal).lt⟩
    | 1, hl => simp at hl; subst hl; exact ⟨vb, rfl, (hb.below hal).lt⟩
theorem Ents.three {w : World} {S : Nat → Prop} {v : Value} {es : List Ent} {n : Nat} (h : Ents w S v es) (hn : es.length = n) : ∃ A c, v = .slice A n c := by
  subst hn; exact ents_form h
theorem thin_wk (S : Nat → Prop) (v : Value) (b : Bool) (w : World) (h : Ents w S v [wk1, wk2, wk3]) :
    Calls Try.prog 29 #[v, .int .i64 4, .bool b] w fun r w' => ∃ A c, r = .returned (.tuple #[.slice A (if b then 1 else 2) c, .int .i64 0]) ∧ Below w.heap.size w w' := by
  refine (thin_any S v _ 4 b w h).mono ?_
  rintro r w' ⟨v', rfl, he, hb⟩
  have ho : orderedE [wk1, wk2, wk3] = true := by decide
  rw [if_pos ho] at he
  obtain ⟨A, c, rfl⟩ := he.three (n := if b then 1 else 2) (by cases b <;> decide)
  exact ⟨A, c, by rw [ho]; rfl, hb⟩
theorem vis_wk (S : Nat → Prop) (v : Value) (w : World) (h : Ents w S v [wk1, wk2, wk3]) :
    Calls Try.prog 26 #[v, .int .i64 9] w fun r w' => ∃ A c, r = .returned (.tuple #[.slice A 1 c, .int .i64 0]) ∧ Below w.heap.size w w' := by
  refine (vis_any S v _ 9 w h).mono ?_
  rintro r w' ⟨v', rfl, he, hb⟩
  have ho : orderedE [wk1, wk2, wk3] = true := by decide
  rw [if_pos ho] at he
  have hv : visC 9 [] [wk1, wk2, wk3] = [⟨[97], [120]⟩] := by decide
  rw [hv] at he
  obtain ⟨A, c, cs, rfl, _⟩ := he
  exact ⟨A, c, by rw [ho]; rfl, hb⟩
theorem su0 {α : Type} (f : α → List Ent) (l : List α) : siftUp f l 0 = l := by rw [siftUp]
theorem su1 {α : Type} (f : α → List Ent) (a b : α) : siftUp f [a, b] 1 = if cmpL (f a) (f b) ≤ 0 then [a, b] else [b, a] := by
  rw [siftUp]
  simp only [Nat.zero_div, List.getElem?_cons_zero, List.getElem?_cons_succ]
  split
  · rfl
  · rw [su0]; rfl
theorem sd0 {α : Type} (f : α → List Ent) (l : List α) (hl : l.length ≤ 1) : siftDown f l 0 = l := by
  rw [siftDown, dif_pos]
  rcases lst_or f l 0 2 with h | h
  · exact h
  · omega
theorem push0 {α : Type} (f : α → List Ent) (a : α) : pushL f [] a = [a] := su0 f _
theorem push1 {α : Type} (f : α → List Ent) (a b : α) : pushL f [a] b = if cmpL (f a) (f b) ≤ 0 then [a, b] else [b, a] := su1 f a b
theorem pop1 {α : Type} (f : α → List Ent) (a : α) : popL f [a] = [] := sd0 f _ (by simp)
theorem pop2 {α : Type} (f : α → List Ent) (a b : α) : popL f [a, b] = [b] := sd0 f _ (by simp)
theorem merge_wk1 : mergeC [[wk1], [wk2, wk3]] = ([wk1, wk2, wk3], 0) := by
  have h1 : cmpL [wk1] [wk2, wk3] ≤ 0 := by decide
  have hh : heapOf [[wk1], [wk2, wk3]] = [[wk1], [wk2, wk3]] := by
    simp [heapOf, push0, push1, h1]
  unfold mergeC
  rw [if_pos (by decide), hh]
  simp [total, mergeGo, twice, pop1, pop2, push0, show ¬ cmpE wk1 wk2 = 0 by decide, show ¬ cmpE wk2 wk3 = 0 by decide]
theorem merge_wk2 : mergeC [[wk1, wk2, wk3], [wk1, wk2, wk3]] = ([], 31) := by
  have h1 : cmpL [wk1, wk2, wk3] [wk1, wk2, wk3] ≤ 0 := by decide
  have h3 : cmpL [wk1, wk2, wk3] [wk2, wk3] ≤ 0 := by decide
  have hh : heapOf [[wk1, wk2, wk3], [wk1, wk2, wk3]] = [[wk1, wk2, wk3], [wk1, wk2, wk3]] := by
    simp [heapOf, push0, push1, h1]
  unfold mergeC
  rw [if_pos (by decide), hh]
  simp [total, mergeGo, twice, pop2, push1, h3, show cmpE wk1 wk1 = 0 by decide]
theorem mergeA_wk (S : Nat → Prop) (v : Value) (w : World) (h : Lists w S v [[wk1], [wk2, wk3]]) (hS : ∀ i, S i → i < w.heap.size) :
    Calls Try.prog 23 #[v] w fun r w' => ∃ A c, r = .returned (.tuple #[.slice A 3 c, .int .i64 0]) ∧ Below w.heap.size w w' := by
  refine (merge_any S v _ w h hS (by decide)).mono ?_
  rintro r w' ⟨v', rfl, he, hb⟩
  rw [merge_wk1] at he
  obtain ⟨A, c, rfl⟩ := he.three (n := 3) rfl
  exact ⟨A, c, by rw [merge_wk1], hb⟩
theorem mergeB_wk (S : Nat → Prop) (v : Value) (w : World) (h : Lists w S v [[wk1, wk2, wk3], [wk1, wk2, wk3]]) (hS : ∀ i, S i → i < w.heap.size) :
    Calls Try.prog 23 #[v] w fun r w' => ∃ A c, r = .returned (.tuple #[.slice A 0 c, .int .i64 31]) ∧ Below w.heap.size w w' := by
  refine (merge_any S v _ w h hS (by decide)).mono ?_
  rintro r w' ⟨v', rfl, he, hb⟩
  rw [merge_wk2] at he
  obtain ⟨A, c, rfl⟩ := he.three (n := 0) rfl
  exact ⟨A, c, by rw [merge_wk2], hb⟩
theorem from_lit {w : World} {sz : Nat} (hsz : sz = w.heap.size) {Q : World → Prop} (h : ∀ W, Hid (Ents W (fun i => i < W.heap.size) (.slice (some ⟨sz + 1 + 1 + 1 + 1, 0, none⟩) 3 3) [wk1, wk2, wk3]) → Hid (Below w.heap.size w W) → Q W) :
    Q (((((w.alloc (.cells #[.int .u8 97] 5 (1, 2))).alloc (.cells #[.int .u8 120] 5 (1, 2))).alloc (.cells #[.int .u8 97] 5 (1, 2))).alloc (.cells #[.int .u8 97] 5 (1, 2))).alloc
      (.cells #[.slice (some ⟨sz, 0, none⟩) 1 1, .int .i64 5, .bool false, .slice (some ⟨sz + 1, 0, none⟩) 1 1, .slice (some ⟨sz + 1 + 1, 0, none⟩) 1 1, .int .i64 3, .bool true, .slice none 0 0, .slice (some ⟨sz + 1 + 1 + 1, 0, none⟩) 1 1, .int .i64 2, .bool false, .slice none 0 0] 26)) :=
  h _ (Lib.hid (lit3 w 5 _ sz hsz rfl).1) (Lib.hid (lit3 w 5 _ sz hsz rfl).2)

set_option maxRecDepth 100000 in
set_option maxHeartbeats 4000000 in
theorem wakes_any (w : World) : Calls Try.prog 22 #[] w fun r w' => r = .returned (.bool true) ∧ Below w.heap.size w w' := by
  have kc : ∀ (W : World) (C : Array Value) (n c g : Nat), g = W.heap.size → (convert 23 23 (.slice (some ⟨g, 0, none⟩) n c)).run Try.prog (W.alloc (.cells C 5)) = .ok (.slice (some ⟨g, 0, none⟩) n c) (W.alloc (.cells C 5 (C.size, C.size + 1))) := fun W C n c g hg => hg ▸ Lib.run_convert_bytes_const (P := Try.prog) W 23 5 C n c Try.underlying23 Try.underlying5
  go_enter Try.func22, Try.ntmps22
  go_wp2_with (fail)
  clear kc
  refine from_lit (w := w) (sz := w.heap.size) rfl (Q := fun W => Calls Try.prog 19 #[.slice (some ⟨w.heap.size + 1 + 1 + 1 + 1, 0, none⟩) 3 3] W _) ?_
  intro W HA HB
  obtain ⟨g, hg⟩ : ∃ g, w.heap.size + 1 + 1 + 1 + 1 = g := ⟨_, rfl⟩
  rw [hg] at HA ⊢
  clear hg
  refine (copy_any _ _ _ _ HA.out).mono ?_
  rintro r w2 ⟨v2, rfl, he2, hb2⟩
  have HE2 := Lib.hid he2
  have HA2 := Lib.hid (HA.out.below hb2)
  have HB2 := Lib.hid (HB.out.trans (hb2.mono HB.out.size))
  clear he2 hb2
  go_wp2_with (fail)
  refine (thin_wk _ _ true _ HE2.out).mono ?_
  rintro r w3 ⟨A3, c3, rfl, hb3⟩
  have HA3 := Lib.hid (HA2.out.below hb3)
  have HB3 := Lib.hid (HB2.out.trans (hb3.mono HB2.out.size))
  clear hb3
  go_wp2_with (fail)
  refine (copy_any _ _ _ _ HA3.out).mono ?_
  rintro r w4 ⟨v4, rfl, he4, hb4⟩
  have HE4 := Lib.hid he4
  have HA4 := Lib.hid (HA3.out.below hb4)
  have HB4 := Lib.hid (HB3.out.trans (hb4.mono HB3.out.size))
  clear he4 hb4
  go_wp2_with (fail)
  refine (thin_wk _ _ false _ HE4.out).mono ?_
  rintro r w5 ⟨A5, c5, rfl, hb5⟩
  have HA5 := Lib.hid (HA4.out.below hb5)
  have HB5 := Lib.hid (HB4.out.trans (hb5.mono HB4.out.size))
  clear hb5
  go_wp2_with (fail)
  refine (copy_any _ _ _ _ HA5.out).mono ?_
  rintro r w6 ⟨v6, rfl, he6, hb6⟩
  have HE6 := Lib.hid he6
  have HA6 := Lib.hid (HA5.out.below hb6)
  have HB6 := Lib.hid (HB5.out.trans (hb6.mono HB5.out.size))
  clear he6 hb6
  go_wp2_with (fail)
  refine (vis_wk _ _ _ HE6.out).mono ?_
  rintro r w7 ⟨A7, c7, rfl, hb7⟩
  have HA7 := Lib.hid (HA6.out.below hb7)
  have HB7 := Lib.hid (HB6.out.trans (hb7.mono HB6.out.size))
  clear hb7
  go_wp2_with (fail)
  have A1 : Hid (Ents w7 (fun i => i < W.heap.size) (.slice (some ⟨g, 0, none⟩) 1 3) [wk1]) := Lib.hid (HA7.out.take1 1 (by omega))
  have A2 : Hid (Ents w7 (fun i => i < W.heap.size) (.slice (some ⟨g, 4, none⟩) 2 2) [wk2, wk3]) := Lib.hid (HA7.out.tail (by simp))
  have hd : Below w7.heap.size w7 w7.drew := Below.drew (Below.refl _ _)
  go_region_with (first
    | (go_at_call 19; (with_reducible refine (copy_any _ _ [wk1] _ (A1.out.below hd)).mono ?_); rintro r wa ⟨va, rfl, hea, hba⟩; obtain ⟨Aa, ca, rfl⟩ := hea.three (n := 1) rfl)
    | (go_at_call 19; (with_reducible refine (copy_any _ _ [wk1] _ (A1.out.below (hd.trans (hbb.mono hd.size)))).mono ?_); rintro r wa ⟨va, rfl, hea, hba⟩; obtain ⟨Aa, ca, rfl⟩ := hea.three (n := 1) rfl)
    | (go_at_call 19; (with_reducible refine (copy_any _ _ [wk2, wk3] _ (A2.out.below hd)).mono ?_); rintro r wb ⟨vb, rfl, heb, hbb⟩; obtain ⟨Ab, cb, rfl⟩ := heb.three (n := 2) rfl)
    | (go_at_call 19; (with_reducible refine (copy_any _ _ [wk2, wk3] _ (A2.out.below (hd.trans (hba.mono hd.size)))).mono ?_); rintro r wb ⟨vb, rfl, heb, hbb⟩; obtain ⟨Ab, cb, rfl⟩ := heb.three (n := 2) rfl)
    | (go_at_call 23; (with_reducible refine (mergeA_wk _ _ _ (lists2 (hea.below hbb) heb _ rfl) (fun i h => h)).mono ?_); rintro r wm ⟨Am, cm, rfl, hbm⟩)
    | (go_at_call 23; (with_reducible refine (mergeA_wk _ _ _ (lists2 hea (heb.below hba) _ rfl) (fun i h => h)).mono ?_); rintro r wm ⟨Am, cm, rfl, hbm⟩))
  all_goals
    have h1 : fr w7 wm := by
      first
        | exact (((((fr.refl (W := w7)).drew).step hba).step hbb).alloc _).step hbm
        | exact (((((fr.refl (W := w7)).drew).step hbb).step hba).alloc _).step hbm
    have HA8 := Lib.hid (HA7.out.below h1)
    have HB8 := Lib.hid (HB7.out.trans (Below.mono h1 HB7.out.size))
    clear h1 hba hbb hbm hea heb hd
    go_wp2_with (fail)
    refine (copy_any _ _ _ _ HA8.out).mono ?_
    rintro r w9 ⟨v9, rfl, he9, hb9⟩
    obtain ⟨A9, c9, rfl⟩ := he9.three (n := 3) rfl
    have HE9 := Lib.hid he9
    have HA9 := Lib.hid (HA8.out.below hb9)
    have HB9 := Lib.hid (HB8.out.trans (hb9.mono HB8.out.size))
    clear he9 hb9
    go_wp2_with (fail)
    refine (copy_any _ _ _ _ HA9.out).mono ?_
    rintro r w10 ⟨v10, rfl, he10, hb10⟩
    obtain ⟨A10, c10, rfl⟩ := he10.three (n := 3) rfl
    have HE9' := Lib.hid (HE9.out.below hb10)
    have HE10 := Lib.hid he10
    have HB10 := Lib.hid (HB9.out.trans (hb10.mono HB9.out.size))
    clear he10 hb10
    go_wp2_with (fail)
    refine (mergeB_wk _ _ _ (lists2 HE9'.out HE10.out _ rfl) (fun i h => h)).mono ?_
    rintro r w11 ⟨A11, c11, rfl, hb11⟩
    have HB11 := Lib.hid (HB10.out.trans ((((fr.refl (W := w10)).alloc _).step hb11 : Below w10.heap.size w10 w11).mono HB10.out.size))
    clear hb11
    go_wp2
    refine bodyPost_ret (v := .bool _) (by simp [results, Try.results22, go_sem]; rfl) rfl ?_
    exact ⟨rfl, HB11.out⟩
end Go.Proofs.Ytelbidknefkaiaa
