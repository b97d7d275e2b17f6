/-
law 7's plan; ref04.Same; ref07's Copy, Same, SameTexts.
-/
import Derived.Test.YtcmjoaepihbodaaDkO
namespace Go.Proofs.Ytcmjoaepihbodaa
open Go.RowKit Go.BigFrame Go.Sort Go.Shelf Go.Lib Go.Maps
attribute [local go_sem ↓] Go.wp_at_zero Go.wp_at_succ

theorem KeepV.ints {w : World} {F : Nat → Prop} {v : Value} {zs : List Int} (h : KeepV w F v zs) : IntsIn w F v zs := by
  obtain ⟨A, c, e, h1, h2, h3⟩ := h
  refine ⟨A, c, e, h1, h2, by simp, fun hn => ?_⟩
  obtain ⟨g, o, cs, e1, e2, e3, e4⟩ := h3 hn
  refine ⟨g, o, e1, e2, (Array.getElem?_eq_some_iff.1 e3).1, fun j u hu => ?_⟩
  rw [cell_of_row w g _ cs _ _ e3]
  rw [List.getElem?_map] at hu
  cases hz : zs[j]? with
  | none => rw [hz] at hu; cases hu
  | some z =>
    rw [hz] at hu
    obtain rfl := Option.some.inj hu
    exact e4 j z hz
theorem grown_box {w w' : World} {g b i : Nat} {v : Value} (hg : w.grownBy w' (some g)) (hne : b ≠ g) (h : w.cell? ⟨b, i, none⟩ = some v) : w'.cell? ⟨b, i, none⟩ = some v :=
  (World.cell?_of_block (a := ⟨b, i, none⟩) (hg.block b (World.block_lt_of_cell? w _ h) fun e => hne (Option.some.inj e))).trans h
theorem grown_heap {w w' : World} {g b : Nat} {o : Obj} (hg : w.grownBy w' (some g)) (hne : b ≠ g) (h : w.heap[b]? = some o) : w'.heap[b]? = some o :=
  (hg.block b (Array.getElem?_eq_some_iff.1 h).1 fun e => hne (Option.some.inj e)).trans h

set_option maxRecDepth 100000 in
set_option maxHeartbeats 4000000 in
theorem plan_any (S : Nat → Prop) (ops room : Int) (v : Value) (zs : List Int) (w : World) (hz : IntsIn w S v zs) (hl : zs.length * 8 ≤ 140737488355328) :
    Calls Try.prog 11 #[.agg #[.int .i64 ops, .int .i64 room, v]] w fun r w' => ∃ kv, r = .returned (.agg #[.int .i64 ops, .int .i64 room, kv]) ∧ KeepV w' (fun i => w.heap.size ≤ i) kv zs ∧ Below w.heap.size w w' := by
  obtain ⟨W0, hW0⟩ : ∃ W0, W0 = ((w.alloc (.cells #[.int .i64 ops, .int .i64 room, v] 25)).alloc (.cells #[.int .i64 0, .int .i64 0, .slice none 0 0] 25)).alloc (.cells #[] 3) := ⟨_, rfl⟩
  have hA : Below w.heap.size w W0 := by rw [hW0]; exact (((Below.refl _ _).alloc (Nat.le_refl _) _).alloc (by simp) _).alloc (by simp; omega) _
  have hlit := lit0i ((w.alloc (.cells #[.int .i64 ops, .int .i64 room, v] 25)).alloc (.cells #[.int .i64 0, .int .i64 0, .slice none 0 0] 25))
  simp only [World.size_alloc] at hlit
  have hx1 : W0.heap[w.heap.size]? = some (.cells #[.int .i64 ops, .int .i64 room, v] 25 (0, 0)) := by
    rw [hW0]
    exact (Below.heap_alloc _ _ _ (by simp; omega)).trans ((Below.heap_alloc _ _ _ (by simp)).trans (heap_alloc_new w _))
  have hx2 : W0.heap[w.heap.size + 1]? = some (.cells #[.int .i64 0, .int .i64 0, .slice none 0 0] 25 (0, 0)) := by
    rw [hW0]
    have := heap_alloc_new (w.alloc (.cells #[.int .i64 ops, .int .i64 room, v] 25)) (.cells #[.int .i64 0, .int .i64 0, .slice none 0 0] 25)
    simp only [World.size_alloc] at this
    exact (Below.heap_alloc _ _ _ (by simp)).trans this
  rw [← hW0] at hlit
  have HA := Lib.hid hA
  have HL := Lib.hid hlit
  have HX1 := Lib.hid hx1
  have HX2 := Lib.hid hx2
  have HZ := Lib.hid (hz.below hA)
  have hsz : W0.heap.size = w.heap.size + 3 := by rw [hW0]; simp
  obtain ⟨A, c, rfl, _⟩ := hz
  clear hA hlit hx1 hx2
  go_enter Try.func11, Try.ntmps11
  go_wp2_with (at_builtin; rw [← hW0]; refine wpList_append_ints rfl _ _ rfl (w.heap.size + 1 + 1) _ _ rfl rfl S zs HL.out HZ.out hl (by omega) ?_; intro v' w4 hown hgrow; obtain ⟨A4, c4, rfl⟩ := own_form hown; have h1 := grown_heap (g := w.heap.size + 1 + 1) hgrow (b := w.heap.size) (by omega) HX1.out; have h2 := grown_heap (g := w.heap.size + 1 + 1) hgrow (b := w.heap.size + 1) (by omega) HX2.out; have y0 := cell_of_row w4 w.heap.size 0 _ _ _ h1; have y1 := cell_of_row w4 w.heap.size 1 _ _ _ h1; have y2 := cell_of_row w4 w.heap.size 2 _ _ _ h1; have yf : ∀ i, w4.frozen? ⟨w.heap.size, i, none⟩ = false := fun i => frozen_of_row w4 _ i _ _ h1; have HG := Lib.hid hgrow; have HO := Lib.hid hown; have H1 := Lib.hid h1; have H2 := Lib.hid h2; have x0 := cell_of_row w4 (w.heap.size + 1) 0 _ _ _ h2; have x1 := cell_of_row w4 (w.heap.size + 1) 1 _ _ _ h2; have x2 := cell_of_row w4 (w.heap.size + 1) 2 _ _ _ h2; have xf : ∀ i, w4.frozen? ⟨w.heap.size + 1, i, none⟩ = false := fun i => frozen_of_row w4 _ i _ _ h2; clear h1 h2 hown hgrow)
  have hk4 : KeepV w4 (fun i => w.heap.size + 2 ≤ i) (.slice A4 zs.length c4) zs := KeepV.of_own HO.out (by omega) (fun _ hi => hi)
  have hb4 : Below w.heap.size w w4 := HA.out.grown HG.out HA.out.size (fun j e => by obtain rfl := Option.some.inj e; simp only; omega)
  have ho : Only (fun i => i = w.heap.size ∨ i = w.heap.size + 1) w4 ((((w4.setCell ⟨w.heap.size, 2, none⟩ (.slice A4 zs.length c4)).setCell ⟨w.heap.size + 1, 0, none⟩ (.int .i64 ops)).setCell ⟨w.heap.size + 1, 1, none⟩ (.int .i64 room)).setCell ⟨w.heap.size + 1, 2, none⟩ (.slice A4 zs.length c4)) :=
    ((((Only.refl _ w4).setCell (p := ⟨w.heap.size, 2, none⟩) (.inl rfl) _).setCell (p := ⟨w.heap.size + 1, 0, none⟩) (.inr rfl) _).setCell (p := ⟨w.heap.size + 1, 1, none⟩) (.inr rfl) _).setCell (p := ⟨w.heap.size + 1, 2, none⟩) (.inr rfl) _
  refine bodyPost_ret (v := .agg #[.int .i64 ops, .int .i64 room, .slice A4 zs.length c4]) (by simp [results, Try.results11, go_sem, x0, x1, x2]) rfl ?_
  refine ⟨_, rfl, ?_, hb4.trans (ho.below hb4.size fun i hi => by omega)⟩
  refine (hk4.kept fun g cs hg hc => ho.block g (Array.getElem?_eq_some_iff.1 hc).1 fun hi => by omega).mono fun i hi _ => by omega

set_option maxRecDepth 100000 in
theorem vsame_any (S S' : Nat → Prop) (v v' : Value) (bs : List UInt8) (w : World) (h : Byt w S v bs) (h' : Byt w S' v' bs) :
    Calls Try.prog 14 #[v, v'] w fun r w' => r = .returned (.bool true) ∧ w = w' := by
  have c1 := h.convert
  have c2 := h'.convert
  obtain ⟨A, c, rfl, _⟩ := h
  obtain ⟨A', c', rfl, _⟩ := h'
  go_enter Try.func14, Try.ntmps14
  go_wp2
  go_ret
  exact ⟨rfl, rfl⟩

set_option maxRecDepth 100000 in
set_option maxHeartbeats 4000000 in
theorem fsame_any (S S' : Nat → Prop) (v v' : Value) (fs : List Fl) (w : World) (h : FilesV w S v fs) (h' : FilesV w S' v' fs) :
    Calls Try.prog 16 #[v, v'] w fun r w' => r = .returned (.bool true) ∧ Below w.heap.size w w' := by
  obtain ⟨A, c, rfl⟩ := h.form
  obtain ⟨A', c', rfl⟩ := h'.form
  obtain ⟨n, hn⟩ : ∃ n, fs.length = n := ⟨_, rfl⟩
  have hmax : n * 48 ≤ 140737488355328 := by obtain ⟨_, _, _, _, _, _, h3, _⟩ := h; rw [← hn]; exact h3
  rw [hn] at h h' ⊢
  have HN := Lib.hid hn
  have H := Lib.hid h
  have H' := Lib.hid h'
  clear hn h h'
  go_enter Try.func16, Try.ntmps16
  go_wp2
  go_loopw [13] (fun t wr => ∃ k : Nat, k ≤ n ∧ t = .int .i64 k ∧ Below w.heap.size w wr) (fun t _ => n - (intOf t).toNat)
  case atStart => exact ⟨0, Nat.zero_le _, rfl, Below.refl _ _⟩
  case round =>
    obtain ⟨k, hk, rfl, hbel⟩ := hrel
    have HB := Lib.hid hbel
    clear hbel
    by_cases hkn : k < n
    · obtain ⟨f, hf⟩ : ∃ f, fs[k]? = some f := ⟨_, List.getElem?_eq_getElem (by rw [HN.out]; exact hkn)⟩
      obtain ⟨b, o, cs, rfl, _, _, ⟨vd, rfl, hvd, _⟩, hc⟩ := Rows.at_ flFine (H.out.below flFine HB.out) hf
      obtain ⟨b', o', cs', rfl, _, _, ⟨vd', rfl, hvd', _⟩, hc'⟩ := Rows.at_ flFine (H'.out.below flFine HB.out) hf
      obtain ⟨Ad, cd, rfl⟩ := slice_form hvd
      obtain ⟨Ad', cd', rfl⟩ := slice_form hvd'
      have c0 : wr.cell? ⟨b, o + k * 3, none⟩ = _ := hc 0 _ rfl
      have c1 : wr.cell? ⟨b, o + k * 3 + 1, none⟩ = _ := hc 1 _ rfl
      have c2 : wr.cell? ⟨b, o + k * 3 + 2, none⟩ = _ := hc 2 _ rfl
      have d0 : wr.cell? ⟨b', o' + k * 3, none⟩ = _ := hc' 0 _ rfl
      have d1 : wr.cell? ⟨b', o' + k * 3 + 1, none⟩ = _ := hc' 1 _ rfl
      have d2 : wr.cell? ⟨b', o' + k * 3 + 2, none⟩ = _ := hc' 2 _ rfl
      have C0 : ∀ q : Ext wr, q.w.cell? ⟨b, o + k * 3, none⟩ = _ := fun q => q.h.cell c0
      have C1 : ∀ q : Ext wr, q.w.cell? ⟨b, o + k * 3 + 1, none⟩ = _ := fun q => q.h.cell c1
      have C2 : ∀ q : Ext wr, q.w.cell? ⟨b, o + k * 3 + 2, none⟩ = _ := fun q => q.h.cell c2
      have D0 : ∀ q : Ext wr, q.w.cell? ⟨b', o' + k * 3, none⟩ = _ := fun q => q.h.cell d0
      have D1 : ∀ q : Ext wr, q.w.cell? ⟨b', o' + k * 3 + 1, none⟩ = _ := fun q => q.h.cell d1
      have D2 : ∀ q : Ext wr, q.w.cell? ⟨b', o' + k * 3 + 2, none⟩ = _ := fun q => q.h.cell d2
      have E1 : ∀ q : Ext wr, (convert 35 9 (.slice Ad f.data.length cd)).run Try.prog q.w = .ok (.string ⟨f.data.toArray⟩) q.w := fun q => (fr.byt q.h hvd).convert
      have E2 : ∀ q : Ext wr, (convert 35 9 (.slice Ad' f.data.length cd')).run Try.prog q.w = .ok (.string ⟨f.data.toArray⟩) q.w := fun q => (fr.byt q.h hvd').convert
      clear hf hc hc' hvd hvd' c0 c1 c2 d0 d1 d2
      go_wp2
      (refine wp_region_quiet_ext (by kernel_rfl) (by kernel_rfl) ?_; (repeat (go_big_quiet_step (fail))); refine wpQuiet_nil ?_; intro wq hw'; obtain ⟨⟨_, hq⟩, hw''⟩ := hw'; subst hw'')
      go_wp2
      exact ⟨⟨k + 1, by omega, by go_num, HB.out.trans (Below.mono hq HB.out.size)⟩, by simp [intOf]; omega⟩
    · obtain rfl : k = n := by omega
      go_wp2
      go_ret
      exact ⟨rfl, HB.out⟩
end Go.Proofs.Ytcmjoaepihbodaa
