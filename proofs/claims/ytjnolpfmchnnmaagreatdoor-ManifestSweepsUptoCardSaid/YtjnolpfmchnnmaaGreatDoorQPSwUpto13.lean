/-
The contracts of strconv.Atoi at any string, at this seat's numbers, laid by the kit's tool. Conditions: each theorem's own.
-/
import Derived.Test.YtjnolpfmchnnmaaGreatDoorQPSwUpto4
import Derived.Test.YtjnolpfmchnnmaaGreatDoorQPSwUpto12
import Derived.Test.YtjnolpfmchnnmaaGreatDoorQPSwUpto3
import Derived.Test.YtjnolpfmchnnmaaGreatDoorQPSwUpto7
import Derived.Test.YtjnolpfmchnnmaaGreatDoorQPSwUpto8
import Derived.Sort.Walk0
import Derived.Shelf.LaysC
import Derived.Shelf.Strconv.AtoiAll
import Derived.Test.YtjnolpfmchnnmaaGreatDoorProg
section
namespace Go.Proofs.YtjnolpfmchnnmaaGreatDoor
set_option maxRecDepth 100000
open Go.RowKit Go.BigFrame
attribute [local go_sem ↓] Go.wp_at_zero Go.wp_at_succ
set_option maxRecDepth 100000 in
set_option maxHeartbeats 2000000 in
theorem tables_any (S : Nat → Prop) (v : Value) (ts : List Tbl) (w : World) (h : TabsV w S v ts) :
    Calls Tryz.prog 79 #[v] w fun r w' => ∃ v', r = .returned v' ∧ OwnTabs w' w.heap.size v' ts ∧ Below w.heap.size w w' := by
  obtain ⟨i0, hi, hz0, hz1, hz2⟩ := info_parts infoT
  have hby := Lib.hid hz2
  have hz1' := Lib.hid hz1
  clear hz2 hz1
  obtain ⟨A, c, rfl⟩ := h.form
  obtain ⟨n, hn⟩ : ∃ n, ts.length = n := ⟨_, rfl⟩
  have hmany : n * 72 ≤ 140737488355328 := by obtain ⟨_, _, _, _, _, _, h3, _⟩ := h; rw [← hn]; exact h3
  rw [hn] at h ⊢
  have HLN := Lib.hid hn
  have H := Lib.hid h
  clear h hn
  go_enter Tryz.func79, Tryz.ntmps79
  go_wp2
  go_loopw [3, 8] (fun v3 t wr => ∃ i : Nat, i ≤ n ∧ t = .int .i64 i ∧ OwnTabs wr w.heap.size v3 (ts.take i) ∧ Below w.heap.size w wr) (fun _ t _ => n - (intOf t).toNat)
  case atStart => exact ⟨0, Nat.zero_le _, rfl, OwnRows.nil _ _ _, Below.refl _ _⟩
  case round =>
    obtain ⟨i, hi', rfl, hown, hbel⟩ := hrel
    obtain ⟨css, hown, hys⟩ := hown
    have HO := Lib.hid hown
    have HYS := Lib.hid hys
    have HB := Lib.hid hbel
    obtain ⟨m, hm⟩ : ∃ m, (ts.take i).length = m := ⟨_, rfl⟩
    have hmi : m = i := by rw [← hm, List.length_take, HLN.out]; omega
    subst hmi
    rw [hm] at HO
    have HMM := Lib.hid hm
    clear hown hys hbel hm
    by_cases hin : m < n
    · obtain ⟨t, hf⟩ : ∃ t, ts[m]? = some t := ⟨_, List.getElem?_eq_getElem (by rw [HLN.out]; exact hin)⟩
      obtain ⟨b, o, cs, rfl, hblt, _, ⟨va, vb, rfl, hva, hvb⟩, hc⟩ := Rows.at_ tbFine H.out hf
      obtain ⟨Aa, ca, rfl⟩ := slice_form hva
      obtain ⟨Ab, cb, rfl⟩ := slice_form hvb
      have HVA := Lib.hid (hva.below HB.out)
      have HVB := Lib.hid (hvb.below HB.out)
      have x0 : w.cell? ⟨b, o + m * 5, none⟩ = _ := hc 0 _ rfl
      have x1 : w.cell? ⟨b, o + m * 5 + 1, none⟩ = _ := hc 1 _ rfl
      have x2 : w.cell? ⟨b, o + m * 5 + 2, none⟩ = _ := hc 2 _ rfl
      have x3 : w.cell? ⟨b, o + m * 5 + 3, none⟩ = _ := hc 3 _ rfl
      have x4 : w.cell? ⟨b, o + m * 5 + 4, none⟩ = _ := hc 4 _ rfl
      have c0 := fr.cell HB.out x0
      have c1 := fr.cell HB.out x1
      have c2 := fr.cell HB.out x2
      have c3 := fr.cell HB.out x3
      have c4 := fr.cell HB.out x4
      have HF0 := Lib.hid hf
      have hm2 : m + 1 ≤ maxLen := by unfold maxLen; omega
      have hm3 : (m + 1) * 72 ≤ 140737488355328 := by omega
      have hbz := HB.out.size
      clear hf hva hvb hc x0 x1 x2 x3 x4
      have pT : (wr.alloc (.cells #[.int .i64 t.id, .int .i64 t.level, .int .i64 t.count, .slice Aa t.lo.length ca, .slice Ab t.hi.length cb] 57)).heap[wr.heap.size]? = some (.cells #[.int .i64 t.id, .int .i64 t.level, .int .i64 t.count, .slice Aa t.lo.length ca, .slice Ab t.hi.length cb] 57 (0, 0)) := heap_alloc_new wr _
      have hal : fr wr ((wr.alloc (.cells #[.int .i64 t.id, .int .i64 t.level, .int .i64 t.count, .slice Aa t.lo.length ca, .slice Ab t.hi.length cb] 57)).alloc (.cells #[] 5)) := fr.alloc (fr.alloc fr.refl _) _
      go_wp2_with (at_builtin; first
        | (refine wpList_append_byt0L rfl _ _ rfl (wr.heap.size + 1) (.slice Aa t.lo.length ca) rfl rfl S t.lo (fr.byt hal HVA.out) ?_; intro A5 c5 w5 hv5 hb5; have pT5 : w5.heap[wr.heap.size]? = some (.cells #[.int .i64 t.id, .int .i64 t.level, .int .i64 t.count, .slice Aa t.lo.length ca, .slice Ab t.hi.length cb] 57 (0, 0)) := (hb5.block _ (by simp; omega)).trans ((Below.heap_alloc _ (.cells #[] 5) _ (by simp)).trans pT); have fz5 := frozen_of_row w5 _ 3 _ _ pT5; have q3 := cell_of_row w5 _ 3 _ _ _ pT5; have hf5 : fr wr w5 := fr.step hal hb5; have p6 : (w5.setCell ⟨wr.heap.size, 3, none⟩ (.slice A5 t.lo.length c5)).heap[wr.heap.size]? = some (.cells #[.int .i64 t.id, .int .i64 t.level, .int .i64 t.count, .slice A5 t.lo.length c5, .slice Ab t.hi.length cb] 57 (0, 0)) := heap_setCell_same w5 _ _ _ _ _ pT5; have q4 : ((w5.setCell ⟨wr.heap.size, 3, none⟩ (.slice A5 t.lo.length c5)).alloc (.cells #[] 5)).cell? ⟨wr.heap.size, 4, none⟩ = some (.slice Ab t.hi.length cb) := cell_of_row _ _ 4 _ _ _ ((Below.heap_alloc _ _ _ (Array.getElem?_eq_some_iff.1 p6).1).trans p6); have hf6 : fr wr ((w5.setCell ⟨wr.heap.size, 3, none⟩ (.slice A5 t.lo.length c5)).alloc (.cells #[] 5)) := fr.alloc (Below.setCell hf5 (Nat.le_refl _) _) _)
        | (refine wpList_append_byt0L rfl _ _ rfl w5.heap.size (.slice Ab t.hi.length cb) rfl rfl S t.hi (fr.byt hf6 HVB.out) ?_; intro A7 c7 w7 hv7 hb7; have pT7 : w7.heap[wr.heap.size]? = some (.cells #[.int .i64 t.id, .int .i64 t.level, .int .i64 t.count, .slice A5 t.lo.length c5, .slice Ab t.hi.length cb] 57 (0, 0)) := (hb7.block _ (by have := (Array.getElem?_eq_some_iff.1 p6).1; simp at this ⊢; omega)).trans ((Below.heap_alloc _ (.cells #[] 5) _ (Array.getElem?_eq_some_iff.1 p6).1).trans p6); have fz7 := frozen_of_row w7 _ 4 _ _ pT7; have q4' := cell_of_row w7 _ 4 _ _ _ pT7; have hf7 : fr wr w7 := fr.step hf6 hb7; have p8 : (w7.setCell ⟨wr.heap.size, 4, none⟩ (.slice A7 t.hi.length c7)).heap[wr.heap.size]? = some (.cells #[.int .i64 t.id, .int .i64 t.level, .int .i64 t.count, .slice A5 t.lo.length c5, .slice A7 t.hi.length c7] 57 (0, 0)) := heap_setCell_same w7 _ _ _ _ _ pT7; have r0 := cell_of_row _ _ 0 _ _ _ p8; have r1 := cell_of_row _ _ 1 _ _ _ p8; have r2 := cell_of_row _ _ 2 _ _ _ p8; have r3 := cell_of_row _ _ 3 _ _ _ p8; have r4 := cell_of_row _ _ 4 _ _ _ p8; have hf8 : fr wr (w7.setCell ⟨wr.heap.size, 4, none⟩ (.slice A7 t.hi.length c7)) := Below.setCell hf7 (Nat.le_refl _) _)
        | (refine wpList_append_own_at _ rfl _ _ 43 rfl w.heap.size 57 i0 _ 5 72 Tryz.underlying43 hi hz0 hz1'.out hby.out rfl (by decide) _ _ _ rfl ((own_below HO.out hf8).alloc _) ⟨w7.heap.size, 0, none⟩ 1 1 [.int .i64 t.id, .int .i64 t.level, .int .i64 t.count, .slice A5 t.lo.length c5, .slice A7 t.hi.length c7] rfl rfl (cells_at rfl (by simp)) (by simp [Value.oneCell']) hm2 hm3 (by have := Below.size hf8; simp at this ⊢; omega) ?_; intro v' w9 hown' hgrow hnn hat; clear hnn))
      have hx : tbR (w7.setCell ⟨wr.heap.size, 4, none⟩ (.slice A7 t.hi.length c7)) (fun i => wr.heap.size ≤ i ∧ Loose (w7.setCell ⟨wr.heap.size, 4, none⟩ (.slice A7 t.hi.length c7)) i) t [.int .i64 t.id, .int .i64 t.level, .int .i64 t.count, .slice A5 t.lo.length c5, .slice A7 t.hi.length c7] := by
        have hz5 := Below.size hf5
        have hz7 := hb7.size
        have ha : Only (fun i => i = wr.heap.size) w5 (w7.setCell ⟨wr.heap.size, 4, none⟩ (.slice A7 t.hi.length c7)) := ((only_set w5 wr.heap.size 3 _).trans ((Only.of_below ((Below.refl _ _).alloc (Nat.le_refl _) _)).trans (Only.of_below hb7))).trans (only_set w7 wr.heap.size 4 _)
        have h5 : BytL _ _ (.slice A5 t.lo.length c5) t.lo := BytL.only hv5 ha (fun i hi _ e => by simp at hi; omega)
        have h7 : BytL _ _ (.slice A7 t.hi.length c7) t.hi := BytL.only hv7 (only_set w7 wr.heap.size 4 (.slice A7 t.hi.length c7)) (fun i hi _ e => by have := (Array.getElem?_eq_some_iff.1 pT5).1; simp at hi; omega)
        exact ⟨_, _, rfl, h5.mono (by simp; omega), h7.mono (by have := (Array.getElem?_eq_some_iff.1 pT5).1; simp; omega)⟩
      have hpush := OwnRows.push tbFine (by rw [HMM.out]; exact HO.out) HYS.out hf8 hx HB.out.size hgrow hat (by rw [HMM.out]; exact hown')
      rw [← take_snoc HF0.out] at hpush
      have hbw : Below w.heap.size w w9 := ((HB.out.trans (Below.mono hf8 HB.out.size)).alloc (by have := Below.size hf8; omega) _).grown hgrow (by have := Below.size hf8; simp at this ⊢; omega) (fun j e => (HO.out.lt j e).1)
      exact ⟨⟨m + 1, by omega, by go_num, hpush, hbw⟩, by simp [intOf]; omega⟩
    · obtain rfl : m = n := by omega
      go_wp2
      refine bodyPost_ret (v := u3) (by simp [results, Tryz.results79, go_sem]) rfl ?_
      have e1 : ts.take m = ts := List.take_of_length_le (by rw [HLN.out]; exact Nat.le_refl _)
      have hys := HYS.out
      rw [e1] at hys
      exact ⟨u3, rfl, ⟨css, by rw [HLN.out]; exact HO.out, hys⟩, HB.out⟩
end Go.Proofs.YtjnolpfmchnnmaaGreatDoor
end
section
namespace Go.Proofs.YtjnolpfmchnnmaaGreatDoor
set_option maxRecDepth 100000
open Go.RowKit Go.BigFrame Go.Sort Go.Shelf Go.Lib
attribute [local go_sem ↓] Go.wp_at_zero Go.wp_at_succ
def editV (w : World) (S : Nat → Prop) (r : Value) (e : Edt) : Prop := ∃ av dv, r = .agg #[av, dv, .int .i64 e.lg, .int .i64 e.sq] ∧ TabsV w S av e.add ∧ IntsIn w S dv e.drop
theorem OwnTabs.form {w : World} {base : Nat} {v : Value} {ts : List Tbl} (h : OwnTabs w base v ts) : ∃ A c, v = .slice A ts.length c := by
  obtain ⟨css, h1, _⟩ := h
  exact own_form h1
set_option maxRecDepth 100000 in
set_option maxHeartbeats 4000000 in
theorem edit_any (S : Nat → Prop) (av dv : Value) (e : Edt) (w : World) (ha : TabsV w S av e.add) (hd : IntsIn w S dv e.drop) (h8 : e.drop.length * 8 ≤ 140737488355328) (h72 : e.add.length * 72 ≤ 140737488355328) :
    Calls Tryz.prog 26 #[.agg #[av, dv, .int .i64 e.lg, .int .i64 e.sq]] w fun r w' => (∃ v, r = .returned v ∧ editV w' (fun i => w.heap.size ≤ i) v e) ∧ fr w w' := by
  obtain ⟨n, hn⟩ : ∃ n, e.add.length = n := ⟨_, rfl⟩
  obtain ⟨m, hm⟩ : ∃ m, e.drop.length = m := ⟨_, rfl⟩
  obtain ⟨Aa, ca, rfl⟩ := ha.form
  obtain ⟨Ad, cd, rfl⟩ : ∃ A c, dv = .slice A e.drop.length c := by obtain ⟨A, c, h, _⟩ := hd; exact ⟨A, c, h⟩
  rw [hn] at ha ⊢
  rw [hm] at hd ⊢
  obtain ⟨W0, hW0⟩ : ∃ W0, W0 = (w.alloc (.cells #[.slice Aa n ca, .slice Ad m cd, .int .i64 e.lg, .int .i64 e.sq] 45)).alloc (.cells #[.slice none 0 0, .slice none 0 0, .int .i64 0, .int .i64 0] 45) := ⟨_, rfl⟩
  have hA : fr w W0 := by rw [hW0]; exact fr.alloc (fr.alloc fr.refl _) _
  have hx1 : W0.heap[w.heap.size]? = some (.cells #[.slice Aa n ca, .slice Ad m cd, .int .i64 e.lg, .int .i64 e.sq] 45 (0, 0)) := by
    rw [hW0]
    exact (Below.heap_alloc _ _ _ (by simp)).trans (heap_alloc_new w _)
  have hx2 : W0.heap[w.heap.size + 1]? = some (.cells #[.slice none 0 0, .slice none 0 0, .int .i64 0, .int .i64 0] 45 (0, 0)) := by
    rw [hW0]
    have := heap_alloc_new (w.alloc (.cells #[.slice Aa n ca, .slice Ad m cd, .int .i64 e.lg, .int .i64 e.sq] 45)) (.cells #[.slice none 0 0, .slice none 0 0, .int .i64 0, .int .i64 0] 45)
    simp only [World.size_alloc] at this
    exact this
  have hsz : W0.heap.size = w.heap.size + 2 := by rw [hW0]; simp
  have HA := Lib.hid hA
  have HTA := Lib.hid (ha.below tbFine hA)
  have hd0 := hd
  have HN := Lib.hid hn
  have HM := Lib.hid hm
  clear hA ha hd hn hm
  go_enter Tryz.func26, Tryz.ntmps26
  go_upto_region 1 with (fail)
  rw [← hW0]
  have p0 := cell_of_row _ _ 0 _ _ _ hx1
  have HX1 := Lib.hid hx1
  have HX2 := Lib.hid hx2
  have HSZ := Lib.hid hsz
  clear hW0 hx1 hx2 hsz
  have hE1 : w.heap.size < W0.heap.size := by rw [HSZ.out]; omega
  have hE2 : w.heap.size + 1 < W0.heap.size := by rw [HSZ.out]; omega
  go_upto_region 2 with (go_at_call 79; refine (tables_any S _ _ _ HTA.out).mono ?_; rintro r w1 ⟨ta, rfl, hta, f1⟩; obtain ⟨A1, c1, rfl⟩ := hta.form; rw [HN.out] at hta ⊢; have x3 := (Below.block f1 w.heap.size hE1).trans HX1.out; have y0 := frozen_of_row _ _ 0 _ _ x3; have z0 := cell_of_row _ _ 0 _ _ _ x3)
  have hX4 : (w1.setCell ⟨w.heap.size, 0, none⟩ (.slice A1 n c1)).heap[w.heap.size]? = some (.cells #[.slice A1 n c1, .slice Ad m cd, .int .i64 e.lg, .int .i64 e.sq] 45 (0, 0)) := heap_setCell_same _ _ 0 _ _ _ x3
  have hO4 : Only (fun i => i = w.heap.size) w1 (w1.setCell ⟨w.heap.size, 0, none⟩ (.slice A1 n c1)) := only_set _ _ 0 (.slice A1 n c1)
  generalize w1.setCell ⟨w.heap.size, 0, none⟩ (.slice A1 n c1) = w2 at hX4 hO4 ⊢
  have HX4 := Lib.hid hX4
  have HO4 := Lib.hid ((Only.of_below (S := fun i => i = w.heap.size) f1).trans hO4)
  have HF4 : Hid (fr w w2) := Lib.hid (HA.out.trans (HO4.out.below HA.out.size fun i h => by rw [h]; exact Nat.le_refl _))
  have HTA4 : Hid (OwnTabs w2 W0.heap.size (.slice A1 n c1) e.add) := Lib.hid (OwnRows.onlyF tbFine hta hO4 (fun i hi _ h => by omega))
  have HY4 : Hid (w2.heap[w.heap.size + 1]? = some (.cells #[.slice none 0 0, .slice none 0 0, .int .i64 0, .int .i64 0] 45 (0, 0))) := Lib.hid ((HO4.out.block _ hE2 (by omega)).trans HX2.out)
  have HD4 : Hid (IntsIn w2 S (.slice Ad m cd) e.drop) := Lib.hid (hd0.below HF4.out)
  clear x3 y0 z0 hX4 hO4 hta f1 p0
  have p1 := cell_of_row _ _ 1 _ _ _ HX4.out
  have hL5 : fr w2 (w2.alloc (.cells #[] 3)) := fr.alloc fr.refl _
  have hl5 := lit0i w2
  obtain ⟨w5, hw5⟩ : ∃ w5, w2.alloc (.cells #[] 3) = w5 := ⟨_, rfl⟩
  rw [hw5] at hL5 hl5
  have HL5 := Lib.hid hL5
  have HR5 := Lib.hid hl5
  have HSZ2 := Lib.hid (show w2.heap.size < w5.heap.size by rw [← hw5]; simp)
  have HE1 := Lib.hid hE1
  have HE2 := Lib.hid hE2
  have HE3 := Lib.hid (Nat.lt_of_lt_of_le hE1 HO4.out.size)
  have HX5 := Lib.hid ((Below.block hL5 w.heap.size HE3.out).trans HX4.out)
  have p5 := cell_of_row _ _ 1 _ _ _ HX5.out
  clear hL5 hl5 hE1 hE2 hd0
  go_upto_region 3 with (at_builtin; refine wpList_append_ints rfl _ _ rfl w2.heap.size _ _ rfl rfl S e.drop HR5.out (HD4.out.below HL5.out) h8 (Nat.le_of_lt HSZ2.out) ?_; intro v6 w6 hown hgrow; obtain ⟨A6, c6, rfl⟩ := own_form hown; rw [HM.out] at hown ⊢; have hg6 : World.grownBy _ w6 (some w2.heap.size) := hgrow; have x6 := (hg6.block w.heap.size (Nat.lt_trans HE3.out HSZ2.out) (fun e => absurd (Option.some.inj e) (Nat.ne_of_lt HE3.out))).trans HX5.out; have y1 := frozen_of_row _ _ 1 _ _ x6; have z1 := cell_of_row _ _ 1 _ _ _ x6; have hsz6 := hg6.size)
  have hX7 : (w6.setCell ⟨w.heap.size, 1, none⟩ (.slice A6 m c6)).heap[w.heap.size]? = some (.cells #[.slice A1 n c1, .slice A6 m c6, .int .i64 e.lg, .int .i64 e.sq] 45 (0, 0)) := heap_setCell_same _ _ 1 _ _ _ x6
  have hO7 : Only (fun i => i = w.heap.size) w6 (w6.setCell ⟨w.heap.size, 1, none⟩ (.slice A6 m c6)) := only_set _ _ 1 (.slice A6 m c6)
  generalize w6.setCell ⟨w.heap.size, 1, none⟩ (.slice A6 m c6) = w7 at hX7 hO7 ⊢
  have hf6 : fr w2 w6 := Below.grown HL5.out hg6 (Below.size HL5.out) (fun j e => by obtain rfl := Option.some.inj e; exact Nat.le_refl _)
  have hf26 : fr w2 w6 := hf6
  have hY7 : w7.heap[w.heap.size + 1]? = some (.cells #[.slice none 0 0, .slice none 0 0, .int .i64 0, .int .i64 0] 45 (0, 0)) := by
    have h1 := Nat.lt_of_lt_of_le HE2.out HO4.out.size
    exact (hO7.block _ (Nat.lt_of_lt_of_le h1 (Below.size hf6)) (by omega)).trans ((Below.block hf6 _ h1).trans HY4.out)
  have hT7 : TabsV w7 (fun i => w.heap.size + 2 ≤ i) (.slice A1 n c1) e.add := by
    have h1 := OwnRows.rows (bytes := 72) tbFine (OwnRows.below tbFine HTA4.out hf6) h72
    exact TabsV.only (S := fun i => w.heap.size + 2 ≤ i) (Rows.keep tbFine h1 fun _ _ _ _ hr => hr.mono fun i h => by have := HSZ.out; have := h.1; omega) hO7 fun i h1 h2 => by omega
  have hD7 : IntsIn w7 (fun i => w.heap.size + 2 ≤ i) (.slice A6 m c6) e.drop := by
    have h1 := own_only hown hO7 fun g hg hS => by have := (hown.lt g hg).1; have := HE3.out; omega
    exact (ints_of_own h1 HM.out (by rw [HM.out] at h8; omega)).mono fun i hi => by have := HSZ.out; have := HO4.out.size; omega
  have hF7 : fr w w7 := (HF4.out.trans (Below.mono hf6 (Below.size HF4.out))).trans (hO7.below (by have := Below.size hf6; have := Below.size HF4.out; omega) fun i h => by rw [h]; exact Nat.le_refl _)
  have HX7 := Lib.hid hX7
  have HY7 := Lib.hid hY7
  have HT7 := Lib.hid hT7
  have HD7 := Lib.hid hD7
  have HF7 := Lib.hid hF7
  clear hX7 hY7 hT7 hD7 hF7 hO7 hf6 hf26 hown hgrow hg6 x6 y1 z1 hsz6 p1 p5 hw5
  have r0 := cell_of_row _ _ 0 _ _ _ HX7.out
  have r1 := cell_of_row _ _ 1 _ _ _ HX7.out
  have r2 := cell_of_row _ _ 2 _ _ _ HX7.out
  have r3 := cell_of_row _ _ 3 _ _ _ HX7.out
  have y0 := frozen_of_row _ _ 0 _ _ HY7.out
  have y1 := frozen_of_row _ _ 1 _ _ HY7.out
  have y2 := frozen_of_row _ _ 2 _ _ HY7.out
  have y3 := frozen_of_row _ _ 3 _ _ HY7.out
  have z0 := cell_of_row _ _ 0 _ _ _ HY7.out
  have z1 := cell_of_row _ _ 1 _ _ _ HY7.out
  have z2 := cell_of_row _ _ 2 _ _ _ HY7.out
  have z3 := cell_of_row _ _ 3 _ _ _ HY7.out
  go_wp2_with (fail)
  have P := put4_row HY7.out (a := .slice A1 n c1) (b := .slice A6 m c6) (c := .int .i64 e.lg) (d := .int .i64 e.sq)
  have O := put4_only (W := w7) (g := w.heap.size + 1) (a := .slice A1 n c1) (b := .slice A6 m c6) (c := .int .i64 e.lg) (d := .int .i64 e.sq)
  unfold put4 at P O
  generalize (((w7.setCell ⟨w.heap.size + 1, 0, none⟩ (.slice A1 n c1)).setCell ⟨w.heap.size + 1, 1, none⟩ (.slice A6 m c6)).setCell ⟨w.heap.size + 1, 2, none⟩ (.int .i64 e.lg)).setCell ⟨w.heap.size + 1, 3, none⟩ (.int .i64 e.sq) = w9 at P O ⊢
  have s0 := cell_of_row _ _ 0 _ _ _ P
  have s1 := cell_of_row _ _ 1 _ _ _ P
  have s2 := cell_of_row _ _ 2 _ _ _ P
  have s3 := cell_of_row _ _ 3 _ _ _ P
  refine bodyPost_ret (v := .agg #[.slice A1 n c1, .slice A6 m c6, .int .i64 e.lg, .int .i64 e.sq]) (by simp [results, Tryz.results26, go_sem, s0, s1, s2, s3]) rfl ?_
  refine ⟨⟨_, rfl, _, _, rfl, ?_, ?_⟩, HF7.out.trans (O.below (Below.size HF7.out) fun i h => by omega)⟩
  · exact Rows.keep tbFine (TabsV.only HT7.out O fun i h e => by omega) fun _ _ _ _ hr => hr.mono fun i h => by omega
  · exact (HD7.out.only' O fun i h e => by omega).mono fun i h => by omega
end Go.Proofs.YtjnolpfmchnnmaaGreatDoor
end
section
namespace Go.Proofs.YtjnolpfmchnnmaaGreatDoor
set_option maxRecDepth 100000
open Go.RowKit Go.ChangeShapes Go.WideShapes Go.Deep
theorem cells_tb : Tryz.prog.cellsOf 57 = 5 := by kernel_rfl
theorem bytes_tb : Tryz.prog.bytesOf 57 = 72 := by kernel_rfl
theorem cells_tbs : Tryz.prog.cellsOf 43 = 1 := by kernel_rfl
theorem cells_bs8 : Tryz.prog.cellsOf 35 = 1 := by kernel_rfl
theorem cells_edt : Tryz.prog.cellsOf 45 = 4 := by kernel_rfl
instance : Inhabited Tbl := ⟨⟨0, 0, 0, [], []⟩⟩
section
variable {H : Type} {P : Program} {enc : TypeId × Value → H} {w : World} {base : Nat} {held : Bool} {spare : Nat → Bool}
theorem trod_struct4' {t : TypeId} {f0 f1 f2 f3 : Field} {fuel : Nat} {cs : List Value} {x : DataW H × List MemPlace} (ht : P.underlying t = some (.struct #[f0, f1, f2, f3])) (h : DataW.trod enc P w base spare held fuel t cs = some x) :
    ∃ y0 y1 y2 y3 n, x = (.agg [y0.1, y1.1, y2.1, y3.1], y0.2 ++ (y1.2 ++ (y2.2 ++ y3.2))) ∧ cs.length = P.cellsOf t ∧ DataW.trod enc P w base spare held n f0.type ((cs.drop f0.offset).take (P.cellsOf f0.type)) = some y0 ∧
      DataW.trod enc P w base spare held n f1.type ((cs.drop f1.offset).take (P.cellsOf f1.type)) = some y1 ∧ DataW.trod enc P w base spare held n f2.type ((cs.drop f2.offset).take (P.cellsOf f2.type)) = some y2 ∧
      DataW.trod enc P w base spare held n f3.type ((cs.drop f3.offset).take (P.cellsOf f3.type)) = some y3 := by
  obtain ⟨xs, n, _, rfl, hl, hlen, hf⟩ := DataW.trod_struct ht h
  match xs, hlen with
  | [y0, y1, y2, y3], _ => exact ⟨y0, y1, y2, y3, n, by simp, hl, by simpa using hf 0 f0 rfl, by simpa using hf 1 f1 rfl, by simpa using hf 2 f2 rfl, by simpa using hf 3 f3 rfl⟩
end
section
variable {H : Type} {enc : TypeId × Value → H} {w : World} {base : Nat} {held : Bool} {spare : Nat → Bool}
end
end Go.Proofs.YtjnolpfmchnnmaaGreatDoor
end
section
namespace Go.Proofs.YtjnolpfmchnnmaaGreatDoor
set_option maxRecDepth 100000
open Go.RowKit Go.ChangeShapes Go.WideShapes Go.Deep
theorem wf_lt {n : Int} (h : (Lit.int .i64 n).wf = true) : n < 9223372036854775808 := by
  simp [Lit.wf, IntKind.min, IntKind.max, IntKind.signed, IntKind.bits] at h
  omega
def tbQ : Rd Tbl := fun w S t cs => tbR w S t cs ∧ t.count < 9223372036854775808
theorem tbQ_tabs {w : World} {S : Nat → Prop} {v : Value} {ts : List Tbl} (h : Rows tbQ 5 72 w S v ts) : TabsV w S v ts ∧ ∀ t ∈ ts, t.count < 9223372036854775808 := by
  obtain ⟨A, c, css, e, h1, h2, h3, h4, h5⟩ := h
  refine ⟨⟨A, c, css, e, h1, h2, h3, h4, h5.imp fun _ _ hx => hx.1⟩, fun t ht => ?_⟩
  obtain ⟨i, hi⟩ := List.getElem?_of_mem ht
  obtain ⟨cs, _, hc⟩ := h5.at_ hi
  exact hc.2
section
variable {H : Type} {enc : TypeId × Value → H} {w : World} {base : Nat} {held : Bool} {spare : Nat → Bool}
set_option maxRecDepth 100000 in
theorem open_tbQ (fuel : Nat) (cs : List Value) (x : DataW H × List MemPlace) (h : DataW.trod enc Tryz.prog w base spare held fuel 57 cs = some x) (hw : ∀ n ∈ x.1.weights Tryz.prog 57, n ≤ reachBytes) :
    ∃ t : Tbl, tbQ w (fun _ => True) t cs ∧ 0 ≤ Rows.uptoBulk x.1 := by
  obtain ⟨y0, y1, y2, y3, y4, m, rfl, hl, h0, h1, h2, h3, h4⟩ := trod_struct5 Tryz.underlying57 h
  rw [cells_tb] at hl
  match cs, hl with
  | [c0, c1, c2, c3, c4], _ =>
    simp only [cells_bs8, cells_i, List.drop_zero, List.drop_succ_cons, List.take_succ_cons, List.take_zero] at h0 h1 h2 h3 h4
    simp only [DataW.weights, Tryz.underlying57, List.map_cons, List.map_nil, DataW.weightsEach, List.append_nil, List.mem_append] at hw
    obtain ⟨a, ha, _, _⟩ := DataW.trod_int Tryz.underlying3 h0
    obtain ⟨b, hb, _, _⟩ := DataW.trod_int Tryz.underlying3 h1
    obtain ⟨c, hc, _, hcw⟩ := DataW.trod_int Tryz.underlying3 h2
    obtain ⟨xs, hx⟩ := open_byt h3 (fun n hn => hw n (.inr (.inr (.inr (.inl hn)))))
    obtain ⟨ys, hy⟩ := open_byt h4 (fun n hn => hw n (.inr (.inr (.inr (.inr hn)))))
    obtain rfl : c0 = .int .i64 a := by simpa using ha
    obtain rfl : c1 = .int .i64 b := by simpa using hb
    obtain rfl : c2 = .int .i64 c := by simpa using hc
    exact ⟨⟨a, b, c, xs, ys⟩, ⟨⟨c3, c4, rfl, hx, hy⟩, wf_lt hcw⟩, Nat.zero_le _⟩
set_option maxRecDepth 100000 in
theorem arg_editQ {r : Reach} {b0 : Nat} {v : Value} {d : DataW H} {ps : List MemPlace} (hval : Value.okWide Tryz.prog w r b0 45 v) (hd : DataW.Trod enc Tryz.prog w base spare held 45 v d ps) (hw : ∀ n ∈ d.weights Tryz.prog 45, n ≤ reachBytes) :
    ∃ e : Edt, (editV w (fun _ => True) v e ∧ e.drop.length * 8 ≤ 140737488355328) ∧ (∀ t ∈ e.add, t.count < 9223372036854775808) ∧ e.lg < 9223372036854775808 ∧ e.sq < 9223372036854775808 := by
  obtain ⟨n, h⟩ := hd
  have hv : ∃ cs, v = .agg cs := by
    unfold Value.okWide at hval
    rw [Tryz.underlying45] at hval
    obtain ⟨cs, e, _⟩ := hval
    exact ⟨cs, e⟩
  obtain ⟨cs, rfl⟩ := hv
  replace h : DataW.trod enc Tryz.prog w base spare held n 45 cs.toList = some (d, ps) := h
  obtain ⟨y0, y1, y2, y3, m, hx, hl, h0, h1, h2, h3⟩ := trod_struct4' Tryz.underlying45 h
  injection hx with hx1 hx2
  subst hx1
  rw [cells_edt] at hl
  obtain ⟨l⟩ := cs
  simp only at hl h0 h1 h2 h3 ⊢
  match l, hl with
  | [c0, c1, c2, c3], _ =>
    simp only [cells_tbs, cells_is, cells_i, List.drop_zero, List.drop_succ_cons, List.take_succ_cons, List.take_zero] at h0 h1 h2 h3
    simp only [DataW.weights, Tryz.underlying45, List.map_cons, List.map_nil, DataW.weightsEach, List.append_nil, List.mem_append] at hw
    obtain ⟨ts, ht, _⟩ := open_rows (R := tbQ) (by decide) Tryz.underlying43 cells_tb bytes_tb (fun _ => 0) open_tbQ h0 (fun n hn => hw n (.inl hn))
    obtain ⟨zs, hz, hz8, _⟩ := open_zs h1 (fun n hn => hw n (.inr (.inl hn)))
    obtain ⟨b, hb, _, hbw⟩ := DataW.trod_int Tryz.underlying3 h2
    obtain ⟨c, hc, _, hcw⟩ := DataW.trod_int Tryz.underlying3 h3
    obtain rfl : c2 = .int .i64 b := by simpa using hb
    obtain rfl : c3 = .int .i64 c := by simpa using hc
    obtain ⟨ht1, ht2⟩ := tbQ_tabs ht
    exact ⟨⟨ts, zs, b, c⟩, ⟨⟨c0, c1, rfl, ht1, hz⟩, hz8⟩, ht2, wf_lt hbw, wf_lt hcw⟩
end
end Go.Proofs.YtjnolpfmchnnmaaGreatDoor
end
section
namespace Go.Proofs.YtjnolpfmchnnmaaGreatDoor
set_option maxRecDepth 100000
open Go.RowKit Go.BigFrame Go.Sort Go.Shelf Go.Lib
def tblNo (s : Nm) : Nat := if s.length = 11 ∧ ((s.drop 1).take 6).all digB = true then (Lib.decNat ((s.drop 1).take 6)).getD 0 else 0
def nameR (n : Int) : Nm := if 1 ≤ n ∧ n ≤ 999999 then nameT n.toNat else []
def isTbl (s : Nm) : Bool := decide (nameR (tblNo s) = s) && !s.isEmpty
theorem tblNo_nameT {n : Nat} (h : n < 1000000) : tblNo (nameT n) = n := by
  have h1 : ((nameT n).drop 1).take 6 = dig6 n := rfl
  unfold tblNo
  rw [h1, if_pos ⟨rfl, dig6_ok n⟩, dec_dig6 h]
  rfl
theorem tblNo_lt (s : Nm) : tblNo s < 1000000 := by
  unfold tblNo
  split
  · rename_i h
    exact decNat_lt (by rw [List.length_take, List.length_drop, h.1]; rfl) h.2
  · omega
theorem nameR_ok {n : Nat} (h1 : 1 ≤ n) (h2 : n ≤ 999999) : nameR (n : Int) = nameT n := by
  unfold nameR
  rw [if_pos (by omega), Int.toNat_natCast]
theorem isTbl_iff {s : Nm} : isTbl s = true ↔ ∃ n, 1 ≤ n ∧ n ≤ 999999 ∧ s = nameT n := by
  unfold isTbl
  rw [Bool.and_eq_true, decide_eq_true_iff]
  constructor
  · rintro ⟨h1, h2⟩
    unfold nameR at h1
    split at h1
    · rename_i h
      rw [Int.toNat_natCast] at h1
      exact ⟨tblNo s, by omega, by omega, h1.symm⟩
    · rw [← h1] at h2
      cases h2
  · rintro ⟨n, h1, h2, rfl⟩
    rw [tblNo_nameT (by omega)]
    exact ⟨nameR_ok h1 h2, rfl⟩
theorem isTbl_of {s : Nm} {n : Int} (h : nameR n = s) (h0 : s ≠ []) : isTbl s = true ∧ n = (tblNo s : Int) := by
  unfold nameR at h
  split at h
  · rename_i hn
    have : s = nameT n.toNat := h.symm
    refine ⟨isTbl_iff.2 ⟨n.toNat, by omega, by omega, this⟩, ?_⟩
    rw [this, tblNo_nameT (by omega)]
    omega
  · exact absurd h.symm h0
theorem nameB_nameT (n : Nat) : nameB (nameT n) = true := by
  unfold nameB nameT nameB6
  have h4 : (dig6 n).all okByte = true := List.all_eq_true.2 fun b hb => by
    have := List.all_eq_true.1 (dig6_ok n) b hb
    unfold okByte
    rw [show (decide (48 ≤ b.toNat) && decide (b.toNat ≤ 57)) = true from this]
    simp
  have h5 : tblW.all okByte = true := by decide
  have h6 : (dig6 n).length = 6 := rfl
  have h7 : tblW.length = 4 := rfl
  have h3 : ([116] : Nm).all okByte = true := by decide
  rw [List.all_append, List.all_append, h3, h4, h5, List.length_append, List.length_append, h6, h7]
  rfl
def insS (x : Nm) : List Nm → List Nm
  | [] => [x]
  | y :: l => if x < y then x :: y :: l else y :: insS x l
def aheadS (x : Nm) (l : List Nm) : Bool := l.any fun y => decide (x < y)
theorem insS_none {t : Nm} : ∀ {l : List Nm}, aheadS t l = false → insS t l = l ++ [t]
  | [], _ => rfl
  | x :: l, h => by
    unfold aheadS at h
    rw [List.any_cons, Bool.or_eq_false_iff] at h
    have h1 := of_decide_eq_false h.1
    unfold insS
    rw [if_neg h1, insS_none h.2]
    rfl
theorem insS_step {t x : Nm} : ∀ {l : List Nm}, aheadS t l = true → insS t (l ++ [x]) = insS t l ++ [x]
  | [], h => by cases h
  | y :: l, h => by
    rw [List.cons_append]
    unfold insS
    by_cases h1 : t < y
    · rw [if_pos h1, if_pos h1]
      rfl
    · rw [if_neg h1, if_neg h1]
      unfold aheadS at h
      rw [List.any_cons, decide_eq_false h1, Bool.false_or] at h
      rw [insS_step h]
      rfl
theorem insS_here {t x : Nm} : ∀ {l : List Nm}, aheadS t l = false → t < x → insS t (l ++ [x]) = l ++ [t, x]
  | [], _, hx => by
    show (if t < x then [t, x] else _) = _
    rw [if_pos hx]
    rfl
  | y :: l, h, hx => by
    unfold aheadS at h
    rw [List.any_cons, Bool.or_eq_false_iff] at h
    have h1 := of_decide_eq_false h.1
    rw [List.cons_append]
    unfold insS
    rw [if_neg h1, insS_here h.2 hx]
    rfl
theorem aheadS_snoc (t x : Nm) (l : List Nm) : aheadS t (l ++ [x]) = (aheadS t l || decide (t < x)) := by
  unfold aheadS
  rw [List.any_append]
  simp
def midS (t : Nm) (l : List Nm) : List Nm := if aheadS t l = true then insS t l else l
theorem midS_ahead {t x : Nm} {l : List Nm} (h : aheadS t l = true) : midS t (l ++ [x]) = midS t l ++ [x] := by
  unfold midS
  rw [aheadS_snoc, h, Bool.true_or, if_pos rfl, if_pos rfl, insS_step h]
theorem midS_here {t x : Nm} {l : List Nm} (h : aheadS t l = false) (hx : t < x) : midS t (l ++ [x]) = midS t l ++ [t, x] := by
  unfold midS
  rw [aheadS_snoc, h, decide_eq_true hx, Bool.false_or, if_pos rfl, if_neg (by decide), insS_here h hx]
theorem midS_not {t x : Nm} {l : List Nm} (h : aheadS t l = false) (hx : ¬ t < x) : midS t (l ++ [x]) = midS t l ++ [x] := by
  unfold midS
  rw [aheadS_snoc, h, decide_eq_false hx, Bool.false_or, if_neg (by decide), if_neg (by decide)]
theorem insS_perm (t : Nm) : ∀ l : List Nm, (insS t l).Perm (t :: l)
  | [] => List.Perm.refl _
  | x :: l => by
    unfold insS
    split
    · exact List.Perm.refl _
    · exact ((insS_perm t l).cons x).trans (List.Perm.swap t x l)
theorem midS_len (t : Nm) (l : List Nm) : (midS t l).length ≤ l.length + 1 := by
  unfold midS
  split
  · rw [(insS_perm t l).length_eq, List.length_cons]
    omega
  · omega
def addS (x : Nm) (l : List Nm) : List Nm := if x ∈ l then l else insS x l
theorem mem_addS {x y : Nm} {l : List Nm} : y ∈ addS x l ↔ y = x ∨ y ∈ l := by
  unfold addS
  split
  · rename_i h
    exact ⟨.inr, fun h' => h'.elim (fun e => e ▸ h) id⟩
  · rw [(insS_perm x l).mem_iff, List.mem_cons]
theorem addS_len (x : Nm) (l : List Nm) : (addS x l).length ≤ l.length + 1 := by
  unfold addS
  split
  · omega
  · rw [(insS_perm x l).length_eq, List.length_cons]
    omega
def AscS (l : List Nm) : Prop := l.Pairwise fun a b => a < b
theorem insS_asc (t : Nm) : ∀ {l : List Nm}, AscS l → t ∉ l → AscS (insS t l)
  | [], _, _ => List.pairwise_singleton _ _
  | x :: l, h, hn => by
    unfold AscS at h ⊢
    have h1 := List.pairwise_cons.1 h
    unfold insS
    split
    · rename_i hx
      refine List.pairwise_cons.2 ⟨fun y hy => ?_, h⟩
      rcases List.mem_cons.1 hy with rfl | hy
      · exact hx
      · exact List.lt_trans hx (h1.1 y hy)
    · rename_i hx
      refine List.pairwise_cons.2 ⟨fun y hy => ?_, insS_asc t h1.2 fun hm => hn (List.mem_cons_of_mem _ hm)⟩
      rcases List.mem_cons.1 ((insS_perm t l).mem_iff.1 hy) with rfl | hy
      · exact lt_tri _ _ hx fun e => hn (by rw [e]; exact List.mem_cons_self)
      · exact h1.1 y hy
theorem addS_asc (t : Nm) {l : List Nm} (h : AscS l) : AscS (addS t l) := by
  unfold addS
  split
  · exact h
  · rename_i hn
    exact insS_asc t h hn
theorem addS_last {t : Nm} {l : List Nm} (h : ∀ y ∈ l, y < t) : addS t l = l ++ [t] := by
  have hn : t ∉ l := fun hm => List.lt_irrefl _ (h t hm)
  unfold addS
  rw [if_neg hn]
  refine insS_none ?_
  unfold aheadS
  rw [List.any_eq_false]
  intro y hy
  rw [decide_eq_true_eq]
  exact fun hc => List.lt_irrefl _ (List.lt_trans hc (h y hy))
theorem asc_same {l m : List Nm} (hl : AscS l) (hm : AscS m) (h : ∀ n, n ∈ l ↔ n ∈ m) : l = m := by
  unfold AscS at hl hm
  induction l generalizing m with
  | nil =>
    cases m with
    | nil => rfl
    | cons a m => exact absurd ((h a).2 List.mem_cons_self) (by simp)
  | cons a l ih =>
    cases m with
    | nil => exact absurd ((h a).1 List.mem_cons_self) (by simp)
    | cons b m =>
      have h1 := List.pairwise_cons.1 hl
      have h2 := List.pairwise_cons.1 hm
      have e : a = b := by
        rcases List.mem_cons.1 ((h a).1 List.mem_cons_self) with e | e
        · exact e
        · rcases List.mem_cons.1 ((h b).2 List.mem_cons_self) with e' | e'
          · exact e'.symm
          · exact absurd (List.lt_trans (h2.1 a e) (h1.1 b e')) (List.lt_irrefl _)
      subst e
      rw [ih h1.2 h2.2 fun n => ⟨fun hn => ?_, fun hn => ?_⟩]
      · rcases List.mem_cons.1 ((h n).1 (List.mem_cons_of_mem _ hn)) with e | e
        · exact absurd (h1.1 n hn) (by rw [e]; exact List.lt_irrefl _)
        · exact e
      · rcases List.mem_cons.1 ((h n).2 (List.mem_cons_of_mem _ hn)) with e | e
        · exact absurd (h2.1 n hn) (by rw [e]; exact List.lt_irrefl _)
        · exact e
theorem asc_nodup {l : List Nm} (h : AscS l) : l.Nodup := by
  unfold AscS at h
  unfold List.Nodup
  refine h.imp ?_
  intro a b hab e
  exact List.lt_irrefl b (by rw [e] at hab; exact hab)
theorem len_same {l m : List Nm} (hl : l.Nodup) (hm : m.Nodup) (h : ∀ n, n ∈ l ↔ n ∈ m) : l.length = m.length := by
  induction l generalizing m with
  | nil =>
    cases m with
    | nil => rfl
    | cons a m => exact absurd ((h a).2 List.mem_cons_self) (by simp)
  | cons a l ih =>
    have h1 := List.nodup_cons.1 hl
    have ha : a ∈ m := (h a).1 List.mem_cons_self
    have hp := List.perm_cons_erase ha
    have hp2 := List.nodup_cons.1 (hp.nodup_iff.1 hm)
    rw [hp.length_eq, List.length_cons, List.length_cons, ih h1.2 hp2.2 fun n => ?_]
    have hn := h n
    rw [hp.mem_iff, List.mem_cons, List.mem_cons] at hn
    constructor
    · intro hx
      rcases hn.1 (.inr hx) with e | e
      · exact absurd (e ▸ hx) h1.1
      · exact e
    · intro hx
      rcases hn.2 (.inr hx) with e | e
      · exact absurd (e ▸ hx) hp2.1
      · exact e
theorem asc_snoc {l : List Nm} {i : Nat} {x : Nm} (h : AscS l) (hx : l[i]? = some x) : ∀ y ∈ l.take i, y < x := by
  intro y hy
  obtain ⟨j, hj, rfl⟩ := List.mem_iff_getElem.1 hy
  obtain ⟨hi, rfl⟩ := List.getElem?_eq_some_iff.1 hx
  rw [List.length_take] at hj
  rw [List.getElem_take]
  exact List.pairwise_iff_getElem.1 h j i _ hi (by omega)
end Go.Proofs.YtjnolpfmchnnmaaGreatDoor
end
section
namespace Go.Proofs.YtjnolpfmchnnmaaGreatDoor
set_option maxRecDepth 100000
open Go.RowKit Go.BigFrame Go.Sort Go.Shelf
attribute [local go_sem ↓] Go.wp_at_zero Go.wp_at_succ
theorem le_alloc {b : Nat} {w : World} (h : b ≤ w.heap.size) (o : Obj) : b ≤ (w.alloc o).heap.size := by simp; omega
theorem infoS : (Tryz.prog.info? 9).map (fun i => (i.zero, i.size, i.bytes)) = some (some (.string ⟨#[]⟩), 1, 16) := by kernel_rfl
theorem OwnS.below {w w' : World} {base : Nat} {v : Value} {ss : List Nm} (h : OwnS w base v ss) (hb : Below w.heap.size w w') : OwnS w' base v ss := own_below h hb
theorem OwnS.form {w : World} {base : Nat} {v : Value} {ss : List Nm} (h : OwnS w base v ss) : ∃ A c, v = .slice A ss.length c := own_form h
theorem OwnS.strsB {w : World} {base : Nat} {v : Value} {ss : List Nm} (h : OwnS w base v ss) : Strs w (fun i => base ≤ i) v ss := by
  unfold OwnS at h
  rcases h.2 with ⟨rfl, h0⟩ | ⟨g, cap, cur, rfl, hbg, hh, hcap, hcm, _⟩
  · have : ss = [] := List.eq_nil_of_length_eq_zero h0
    subst this
    exact ⟨_, _, rfl, Nat.le_refl _, by omega, by simp, fun h => by simp at h⟩
  · have hlt : g < w.heap.size := (Array.getElem?_eq_some_iff.1 hh).1
    refine ⟨_, _, rfl, hcap, by unfold maxLen at hcm; omega, by simp, fun _ => ⟨g, 0, rfl, hbg, hlt, fun j u hu => ?_⟩⟩
    have := h.cells (g := g) rfl j u hu
    rwa [Addr.add_lit] at this
theorem OwnS.strs {w : World} {base : Nat} {v : Value} {ss : List Nm} (h : OwnS w base v ss) : Strs w (fun _ => True) v ss := by
  obtain ⟨A, c, e, h1, h2, h3⟩ := h.strsB
  exact ⟨A, c, e, h1, h2, h3.mono fun _ _ => trivial⟩
theorem wpList_push_str {w : World} {ops : Array Oper} {rest : List Oper} {o : Oper} {a : Act} {Q : Exit → Act → World → Prop} (hgd : o.guard = none) (s x : Operand)
    (ho : o.op = .call { callee := .builtin .append, args := #[s, x], argTypes := #[64, 64] }) (base : Nat) (v : Value) (ss : List Nm) (hs : a.eval s = v) (hrow : OwnS w base v ss)
    (g : Nat) (n : Nm) (hx : a.eval x = .slice (some ⟨g, 0, none⟩) 1 1) (hg : w.heap[g]? = some (.cells #[.string ⟨n.toArray⟩] 9 (0, 0))) (hl : (ss.length + 1) * 16 ≤ 140737488355328) (hbase : base ≤ w.heap.size)
    (hK : ∀ v' w', OwnS w' base v' (ss ++ [n]) → w.grownBy w' v.ownBlock → wpList Tryz.prog ops Q rest (a.put o.dst v') w') : wpList Tryz.prog ops Q (o :: rest) a w := by
  obtain ⟨i0, hi, hz0, hz1, hz2⟩ := info_parts infoS
  refine wpList_append_own_at _ hgd s x 64 ho base 9 i0 _ 1 16 Tryz.underlying64 hi hz0 hz1 hz2 rfl (by decide) v _ _ hs hrow ⟨g, 0, none⟩ 1 1 [.string ⟨n.toArray⟩] hx rfl
    (fun j u hu => by rw [Addr.add_lit, cell_of_row w g _ _ _ _ hg, Nat.zero_add]; simpa using hu) (by simp [Value.oneCell']) (by unfold maxLen; omega) hl hbase ?_
  intro v' w' h1 h2 _ _
  refine hK v' w' ?_ h2
  unfold OwnS
  rw [List.length_append, List.map_append]
  exact h1
set_option maxRecDepth 100000 in
set_option maxHeartbeats 4000000 in
theorem sametexts_any (S S' : Nat → Prop) (v v' : Value) (ss : List Nm) (w : World) (h : Strs w S v ss) (h' : Strs w S' v' ss) (hl : ss.length ≤ 140737488355328) :
    Calls Tryz.prog 39 #[v, v'] w fun r w' => r = .returned (.bool true) ∧ Below w.heap.size w w' := by
  have H := Lib.hid h
  have H' := Lib.hid h'
  obtain ⟨A, c, rfl, _⟩ := h
  obtain ⟨A', c', rfl, _⟩ := h'
  obtain ⟨n, hn⟩ : ∃ n, ss.length = n := ⟨_, rfl⟩
  rw [hn] at H H' hl ⊢
  have HN := Lib.hid hn
  clear hn
  go_enter Tryz.func39, Tryz.ntmps39
  go_wp2
  go_loopw [13] (fun t wr => ∃ k : Nat, k ≤ n ∧ t = .int .i64 k ∧ Below w.heap.size w wr) (fun t _ => n - (intOf t).toNat)
  case atStart => exact ⟨0, Nat.zero_le _, rfl, Below.refl _ _⟩
  case round =>
    obtain ⟨k, hk, rfl, hbel⟩ := hrel
    have HB := Lib.hid hbel
    clear hbel
    by_cases hkn : k < n
    · obtain ⟨x, hx⟩ : ∃ x, ss[k]? = some x := ⟨_, List.getElem?_eq_getElem (by rw [HN.out]; exact hkn)⟩
      have key : ∀ (S : Nat → Prop) (A : Option Addr) (c : Nat), Strs w S (.slice A n c) ss → ∃ b o, A = some ⟨b, o, none⟩ ∧ wr.cell? ⟨b, o + k, none⟩ = some (.string ⟨x.toArray⟩) := by
        intro S A c h
        obtain ⟨A', c', e, _, _, hr⟩ := h.below HB.out
        injection e with e1 _ _
        subst e1
        rw [HN.out] at hr
        obtain ⟨b, o, u, rfl, _, _, hu, hc⟩ := hr.at_ hkn
        rw [List.getElem?_map, hx] at hu
        obtain rfl := Option.some.inj hu
        exact ⟨b, o, rfl, hc⟩
      obtain ⟨b, o, rfl, c0⟩ := key _ _ _ H.out
      obtain ⟨b', o', rfl, d0⟩ := key _ _ _ H'.out
      have C0 : ∀ q : Ext wr, q.w.cell? ⟨b, o + k, none⟩ = _ := fun q => q.h.cell c0
      have D0 : ∀ q : Ext wr, q.w.cell? ⟨b', o' + k, none⟩ = _ := fun q => q.h.cell d0
      clear hx key c0 d0
      go_wp2
      (refine wp_region_quiet_ext (by kernel_rfl) (by kernel_rfl) ?_; (repeat (go_big_quiet_step (fail))); refine wpQuiet_nil ?_; intro wq hw'; obtain ⟨⟨_, hq⟩, hw''⟩ := hw'; subst hw'')
      go_wp2
      exact ⟨⟨k + 1, by omega, by go_num, HB.out.trans (Below.mono hq HB.out.size)⟩, by simp [intOf]; omega⟩
    · obtain rfl : k = n := by omega
      go_wp2
      go_ret
      exact ⟨rfl, HB.out⟩
theorem ba_take (A : ByteArray) (k : Nat) (h : k < A.size) : A.data.toList.take (k + 1) = A.data.toList.take k ++ [A[k]] := by
  rw [List.take_add_one, List.getElem?_eq_getElem (by simpa using h)]; rfl
theorem ba_bad (A : ByteArray) (k : Nat) (h : k < A.size) (hb : okByte A[k] = false) : nameB A.data.toList = false := by
  have : A.data.toList.all okByte = false := by
    rw [List.all_eq_false]
    refine ⟨A[k], ?_, by rw [hb]; simp⟩
    have : A.data.toList[k]? = some A[k] := by rw [List.getElem?_eq_getElem (by simpa using h)]; rfl
    exact List.mem_of_getElem? this
  unfold nameB
  rw [this, Bool.and_false]
set_option maxRecDepth 100000 in
set_option maxHeartbeats 4000000 in
theorem rname_ba (A : ByteArray) (w : World) (hx : A.size ≤ 140737488355328) :
    Calls Tryz.prog 34 #[.string A] w fun e w' => e = .returned (.bool (nameB A.data.toList)) ∧ w = w' := by
  go_enter Tryz.func34, Tryz.ntmps34
  go_wp2
  go_loopw [3] (fun t wr => ∃ k : Nat, k ≤ A.size ∧ t = .int .i64 k ∧ (A.data.toList.take k).all okByte = true ∧ wr = w) (fun t _ => A.size - (intOf t).toNat)
  case atStart => exact ⟨0, by omega, rfl, rfl, rfl⟩
  case round =>
    obtain ⟨k, hk, rfl, hall, rfl⟩ := hrel
    have HALL := Lib.hid hall
    clear hall
    by_cases h1 : k < A.size
    · have HT := Lib.hid (ba_take A k h1)
      have HBAD := Lib.hid (ba_bad A k h1)
      have hok : Hid (okByte A[k] = !badRune A[k].toNat) := Lib.hid (by rw [badRune_byte, Bool.not_not])
      have hb := A[k].toNat_lt
      rcases (by omega : (A[k].toNat : Int) < 45 ∨ (A[k].toNat : Int) = 45 ∨ (A[k].toNat : Int) = 46 ∨ (A[k].toNat : Int) = 47 ∨ (48 ≤ (A[k].toNat : Int) ∧ (A[k].toNat : Int) ≤ 57) ∨ (58 ≤ (A[k].toNat : Int) ∧ (A[k].toNat : Int) < 97) ∨ (97 ≤ (A[k].toNat : Int) ∧ (A[k].toNat : Int) ≤ 122) ∨ 122 < (A[k].toNat : Int)) with h | h | h | h | h | h | h | h
      all_goals
        first
          | (have hg : okByte A[k] = true := by (rw [hok.out]; unfold badRune; generalize A[k].toNat = z at *; simp; omega)
             have HG := Lib.hid hg
             clear hg
             go_wp2
             all_goals first | (exfalso; omega) | skip
             refine ⟨⟨k + 1, by omega, by go_num, by rw [HT.out, List.all_append, HALL.out, List.all_cons, HG.out]; rfl, by trivial⟩, by simp [intOf]; omega⟩)
          | (have hg : okByte A[k] = false := by (rw [hok.out]; unfold badRune; generalize A[k].toNat = z at *; simp; omega)
             have HG := Lib.hid (HBAD.out hg)
             clear hg
             go_wp2
             all_goals first | (exfalso; omega) | (go_ret; exact ⟨ret_bool HG.out.symm, rfl⟩) | (exfalso; rename_i hh; revert hh; generalize (A[k].toNat : Int) = z at *; intro hh; simp at hh; omega))
    · have h1' : k = A.size := by omega
      have hlen : A.data.toList.length = A.size := by simp
      have hall' : A.data.toList.all okByte = true := by
        have := HALL.out
        rwa [List.take_of_length_le (by omega)] at this
      have HA' := Lib.hid hall'
      have HL := Lib.hid hlen
      clear hall' hlen
      by_cases h2 : A.size = 0
      · have h3 : Hid (nameB A.data.toList = false) := Lib.hid (by
          have : A.data.toList = [] := List.eq_nil_of_length_eq_zero (HL.out.trans h2)
          rw [this]; rfl)
        have g1 : decide (1 ≤ (A.size : Int)) = false := decide_eq_false (by omega)
        go_wp2
        go_ret
        exact ⟨ret_bool h3.out.symm, rfl⟩
      · by_cases h3 : A.size ≤ 32
        · have h4 : Hid (nameB A.data.toList = true) := Lib.hid (by
            unfold nameB
            rw [HA'.out, HL.out, decide_eq_true h3]
            rw [show A.data.toList.isEmpty = false from by rw [Bool.eq_false_iff]; intro e; exact h2 (by rw [← HL.out, List.isEmpty_iff.1 e]; rfl)]
            rfl)
          have g1 : decide (1 ≤ (A.size : Int)) = true := decide_eq_true (by omega)
          go_wp2
          go_ret
          exact ⟨ret_bool (by rw [h4.out, decide_eq_true (by omega)]), rfl⟩
        · have h4 : Hid (nameB A.data.toList = false) := Lib.hid (by
            unfold nameB
            rw [HL.out, decide_eq_false h3]
            simp)
          have g1 : decide (1 ≤ (A.size : Int)) = true := decide_eq_true (by omega)
          go_wp2
          go_ret
          exact ⟨ret_bool (by rw [h4.out, decide_eq_false (by omega)]), rfl⟩
theorem cdump {w : World} {F : Nat → Prop} {p dn : Nat} {D : Nm → Option (List UInt8)} (h : DkC w F p dn D) (hd : dn ≤ 2932031007402) :
    Calls Tryz.prog 33 #[.pointer (some ⟨p, 0, none⟩)] w fun r w' => ∃ v fs, r = .returned v ∧ OwnFiles w' w.heap.size v fs ∧ AscS (fs.map Fl.name) ∧ (∀ x, x ∈ fs.map Fl.name ↔ (D x).isSome = true) ∧ fs.length ≤ dn ∧ fr w w' := by
  obtain ⟨h0, k, h1, h2, h3⟩ := h
  subst h3
  refine (dump_any F p k w h1 (by have := h2.few; omega)).mono ?_
  rintro r w' ⟨v, rfl, hv, hb⟩
  have hl := h2.list
  refine ⟨v, k.fs, rfl, hv, ?_, fun x => ?_, h2.few, hb⟩
  · rw [← hl]
    exact h2.listSorted
  · rw [← hl]
    exact h2.mem_list
end Go.Proofs.YtjnolpfmchnnmaaGreatDoor
end
section
namespace Go.Proofs.YtjnolpfmchnnmaaGreatDoor
set_option maxRecDepth 100000
open Go.RowKit Go.BigFrame Go.Sort Go.Shelf Go.Lib
attribute [local go_sem ↓] Go.wp_at_zero Go.wp_at_succ
def accS (x : Nm) (i : Nat) : Nat := ((x.drop 1).take i).foldl (fun a b => 10 * a + (b.toNat - 48)) 0
theorem accS_succ {x : Nm} {i : Nat} {b : UInt8} (h : x[i + 1]? = some b) : accS x (i + 1) = 10 * accS x i + (b.toNat - 48) ∧ (x.drop 1).take (i + 1) = (x.drop 1).take i ++ [b] := by
  have h1 : (x.drop 1)[i]? = some b := by rw [List.getElem?_drop, Nat.add_comm]; exact h
  have h2 := take_snoc h1
  refine ⟨?_, h2⟩
  unfold accS
  rw [h2, List.foldl_append]
  rfl
theorem accS_lt {x : Nm} : ∀ {i : Nat}, ((x.drop 1).take i).all digB = true → accS x i < 10 ^ i
  | 0, _ => by
    unfold accS
    rw [List.take_zero]
    exact Nat.one_pos
  | i + 1, h => by
    rcases Nat.lt_or_ge (i + 1) x.length with hi | hi
    · obtain ⟨b, hb⟩ : ∃ b, x[i + 1]? = some b := ⟨_, List.getElem?_eq_getElem hi⟩
      obtain ⟨h1, h2⟩ := accS_succ hb
      rw [h2, List.all_append, Bool.and_eq_true] at h
      have h3 := accS_lt h.1
      have h4 : 48 ≤ b.toNat ∧ b.toNat ≤ 57 := by simpa [digB] using h.2
      rw [h1, Nat.pow_succ]
      omega
    · have e : (x.drop 1).take (i + 1) = (x.drop 1).take i := by
        rw [List.take_of_length_le (by rw [List.length_drop]; omega), List.take_of_length_le (by rw [List.length_drop]; omega)]
      have e2 : accS x (i + 1) = accS x i := by unfold accS; rw [e]
      rw [e] at h
      have := accS_lt h
      rw [e2, Nat.pow_succ]
      omega
theorem decFrom_fold : ∀ (l : Nm) (a : Nat), l.all digB = true → Lib.decFrom a l = some (l.foldl (fun a b => 10 * a + (b.toNat - 48)) a)
  | [], _, _ => rfl
  | b :: l, a, h => by
    rw [List.all_cons, Bool.and_eq_true] at h
    have hb : 48 ≤ b.toNat ∧ b.toNat ≤ 57 := by simpa [digB] using h.1
    unfold Lib.decFrom
    rw [show Lib.digitVal b = some (b.toNat - 48) from by unfold Lib.digitVal; rw [if_pos hb]]
    dsimp only
    rw [decFrom_fold l _ h.2, List.foldl_cons]
    congr 2
    omega
theorem tblNo_all {x : Nm} (h : x.length = 11) (hd : ((x.drop 1).take 6).all digB = true) : tblNo x = accS x 6 := by
  unfold tblNo
  rw [if_pos ⟨h, hd⟩]
  unfold Lib.decNat
  rw [if_neg, decFrom_fold _ _ hd]
  · rfl
  · intro hc
    have := List.isEmpty_iff.1 hc
    have h2 := congrArg List.length this
    rw [List.length_take, List.length_drop, h] at h2
    cases h2
theorem tblNo_none {x : Nm} (h : x.length = 11 → ((x.drop 1).take 6).all digB = false) : tblNo x = 0 := by
  unfold tblNo
  rw [if_neg]
  rintro ⟨h1, h2⟩
  rw [h h1] at h2
  cases h2
theorem bad_dig {x : Nm} {i : Nat} {b : UInt8} (h : x[i + 1]? = some b) (hi : i < 6) (hb : digB b = false) : ((x.drop 1).take 6).all digB = false := by
  rw [List.all_eq_false]
  refine ⟨b, ?_, by rw [hb]; decide⟩
  refine List.mem_of_getElem? (i := i) ?_
  rw [List.getElem?_take_of_lt hi, List.getElem?_drop, Nat.add_comm]
  exact h
theorem ba_at {A : ByteArray} {k : Nat} (h : k < A.size) : A.data.toList[k]? = some A[k] := by
  rw [List.getElem?_eq_getElem (by simpa using h)]
  rfl
set_option maxRecDepth 100000 in
set_option maxHeartbeats 4000000 in
theorem rnumber_any (A : ByteArray) (w : World) :
    Calls Tryz.prog 37 #[.string A] w fun e w' => e = .returned (.int .i64 (tblNo A.data.toList)) ∧ w = w' := by
  obtain ⟨x, hx⟩ : ∃ x, A.data.toList = x := ⟨_, rfl⟩
  have hsz : x.length = A.size := by rw [← hx]; simp
  have hat : ∀ k (h : k < A.size), x[k]? = some A[k] := fun k h => by rw [← hx]; exact ba_at h
  rw [hx]
  have HSZ := Lib.hid hsz
  have HAT := Lib.hid hat
  clear hx hsz hat
  go_enter Tryz.func37, Tryz.ntmps37
  go_wp2
  go_loopw [3, 4] (fun n t wr => ∃ j k : Nat, j ≤ 7 ∧ j = k + 1 ∧ t = .int .i64 j ∧ n = .int .i64 (accS x k) ∧ (k = 0 ∨ A.size = 11) ∧ ((x.drop 1).take k).all digB = true ∧ wr = w) (fun _ t _ => 8 - (intOf t).toNat)
  case atStart => exact ⟨1, 0, by omega, rfl, rfl, rfl, .inl rfl, by rw [List.take_zero]; rfl, rfl⟩
  case round =>
    obtain ⟨j, k, hj7, hjk, rfl, rfl, h11, hall, rfl⟩ := hrel
    obtain ⟨a, ha⟩ : ∃ a, accS x k = a := ⟨_, rfl⟩
    have HJ := Lib.hid hjk
    have HA := Lib.hid ha
    have HALL := Lib.hid hall
    have H11 := Lib.hid h11
    have hlt := accS_lt hall
    rw [ha] at hlt
    have hp : 10 ^ k ≤ 1000000 := Nat.le_trans (Nat.pow_le_pow_right (by omega) (show k ≤ 6 by omega)) (by decide)
    have ham : a < 1000000 := by omega
    clear hall hlt hp h11 hjk
    rw [ha]
    clear ha
    by_cases h6 : j < 7
    · by_cases hs : A.size = 11
      · have hg : ((A.size : Int) == 11) = true := by rw [hs]; rfl
        have hka : j < A.size := by omega
        have hxa := HAT.out j hka
        obtain ⟨e1, e2⟩ := accS_succ (i := k) (b := A[j]) (by rw [← HJ.out]; exact hxa)
        have HBD := Lib.hid fun (hd : digB A[j] = false) => bad_dig (i := k) (by rw [← HJ.out]; exact hxa) (by have := HJ.out; omega) hd
        rw [HA.out] at e1
        have HE1 := Lib.hid ((congrArg (accS x) HJ.out).trans e1)
        have HE2 := Lib.hid ((congrArg (fun q => (x.drop 1).take q) HJ.out).trans e2)
        clear hxa e1 e2
        have HS := Lib.hid hs
        clear hs
        have hb := A[j].toNat_lt
        rcases (by omega : (A[j].toNat : Int) < 48 ∨ (48 ≤ (A[j].toNat : Int) ∧ (A[j].toNat : Int) ≤ 57) ∨ 57 < (A[j].toNat : Int)) with h | h | h
        · have HT : Hid (tblNo x = 0) := Lib.hid (tblNo_none fun _ => HBD.out (by unfold digB; rw [Bool.and_eq_false_iff]; exact .inl (decide_eq_false (by omega))))
          go_wp2
          go_ret
          exact ⟨by rw [HT.out]; rfl, rfl⟩
        · have hd : digB A[j] = true := by unfold digB; rw [Bool.and_eq_true]; exact ⟨decide_eq_true (by omega), decide_eq_true (by omega)⟩
          have HD := Lib.hid hd
          clear hd
          go_wp2
          refine ⟨⟨j + 1, j, by omega, rfl, by go_num, ?_, .inr HS.out, ?_, by trivial⟩, by simp [intOf]; omega⟩
          · rw [HE1.out]
            go_num
          · have h2 := HE2.out
            rw [h2, List.all_append, HALL.out, List.all_cons, HD.out]
            rfl
        · have HT : Hid (tblNo x = 0) := Lib.hid (tblNo_none fun _ => HBD.out (by unfold digB; rw [Bool.and_eq_false_iff]; exact .inr (decide_eq_false (by omega))))
          go_wp2
          go_ret
          exact ⟨by rw [HT.out]; rfl, rfl⟩
      · have hg : ((A.size : Int) == 11) = false := by rw [beq_eq_false_iff_ne]; omega
        have hk0 : k = 0 := H11.out.resolve_right hs
        have HT : Hid (tblNo x = a) := Lib.hid (by rw [tblNo_none fun h => absurd (HSZ.out.symm.trans h) hs, ← HA.out, hk0]; unfold accS; rw [List.take_zero]; rfl)
        clear hs hk0
        go_wp2
        go_ret
        exact ⟨by rw [HT.out]; rfl, rfl⟩
    · have hk6 : k = 6 := by have := HJ.out; omega
      have hs : A.size = 11 := H11.out.resolve_left (by omega)
      have hg : ((A.size : Int) == 11) = true := by rw [hs]; rfl
      have HT : Hid (tblNo x = a) := Lib.hid (by
        have := HALL.out
        rw [hk6] at this
        rw [tblNo_all (HSZ.out.trans hs) this, ← hk6]
        exact HA.out)
      clear hs hk6
      go_wp2
      go_ret
      exact ⟨by rw [HT.out]; rfl, rfl⟩
end Go.Proofs.YtjnolpfmchnnmaaGreatDoor
end
section
namespace Go.Proofs.YtjnolpfmchnnmaaGreatDoor
set_option maxRecDepth 100000
open Go.RowKit Go.BigFrame Go.Sort Go.Shelf Go.Lib
def isOwn (num : Nat) (x : Nm) : Prop := x = curW ∨ x = nameM num
theorem own_not_tbl {num : Nat} {x : Nm} (h : isOwn num x) : isTbl x = false := by
  rw [Bool.eq_false_iff]
  intro hc
  obtain ⟨n, _, _, rfl⟩ := isTbl_iff.1 hc
  rcases h with h | h
  · have := congrArg List.length h
    cases this
  · have := congrArg List.head? h
    cases this
theorem putD_some {D : Nm → Option (List UInt8)} {x y : Nm} {c : List UInt8} : (putD D y c x).isSome = true ↔ x = y ∨ (D x).isSome = true := by
  unfold putD
  by_cases h : x = y
  · rw [if_pos h]
    exact ⟨fun _ => .inl h, fun _ => rfl⟩
  · rw [if_neg h]
    exact ⟨.inr, fun h' => h'.resolve_left h⟩
structure SwD (D : Nm → Option (List UInt8)) (num : Nat) (st : List Nm) : Prop where
  own : ∀ x, isOwn num x → (D x).isSome = true
  stay : ∀ x ∈ st, (D x).isSome = true ∧ isTbl x = false ∧ ¬ isOwn num x
  all : ∀ x, (D x).isSome = true → isOwn num x ∨ x ∈ st ∨ isTbl x = true
  asc : AscS st
theorem SwD.tbl {D : Nm → Option (List UInt8)} {num : Nat} {st : List Nm} (h : SwD D num st) {y : Nm} (hy : isTbl y = true) (c : List UInt8) : SwD (putD D y c) num st :=
  ⟨fun x hx => putD_some.2 (.inr (h.own x hx)), fun x hx => ⟨putD_some.2 (.inr (h.stay x hx).1), (h.stay x hx).2⟩, fun x hx => (putD_some.1 hx).elim (fun e => .inr (.inr (e ▸ hy))) (h.all x), h.asc⟩
theorem SwD.add {D : Nm → Option (List UInt8)} {num : Nat} {st : List Nm} (h : SwD D num st) {y : Nm} (hy : isTbl y = false) (ho : ¬ isOwn num y) (c : List UInt8) : SwD (putD D y c) num (addS y st) := by
  refine ⟨fun x hx => putD_some.2 (.inr (h.own x hx)), fun x hx => ?_, fun x hx => ?_, addS_asc y h.asc⟩
  · rcases mem_addS.1 hx with rfl | hx
    · exact ⟨putD_some.2 (.inl rfl), hy, ho⟩
    · exact ⟨putD_some.2 (.inr (h.stay x hx).1), (h.stay x hx).2⟩
  · rcases putD_some.1 hx with rfl | hx
    · exact .inr (.inl (mem_addS.2 (.inl rfl)))
    · exact (h.all x hx).imp id fun h' => h'.imp (fun h' => mem_addS.2 (.inr h')) id
theorem begun_key (b : List UInt8) (x : Nm) : (begunD (fun _ => none) 0 b x).isSome = true ↔ isOwn 1 x := by
  show (putD (delD (putD (putD (sweptD (fun _ => none) (ownM 0)) (nameM 1) b) freshW (Lib.itoa ((0 + 1 : Nat) : Int))) freshW) curW (Lib.itoa ((0 + 1 : Nat) : Int)) x).isSome = true ↔ _
  rw [putD_some]
  unfold delD isOwn
  by_cases hf : x = freshW
  · rw [if_pos hf]
    subst hf
    exact ⟨fun h => h.elim (fun h => absurd h (by decide)) (fun h => by cases h), fun h => absurd h (by decide)⟩
  · rw [if_neg hf, putD_some, putD_some]
    refine ⟨fun h => h.elim .inl fun h => h.elim (fun h => absurd h hf) fun h => h.elim .inr fun h => ?_, fun h => h.elim .inl fun h => .inr (.inr (.inl h))⟩
    unfold sweptD at h
    revert h
    simp
theorem key_put {D : Nm → Option (List UInt8)} {num : Nat} (h : ∀ x, (D x).isSome = true ↔ isOwn num x) (c : List UInt8) (x : Nm) : (putD D (nameM num) c x).isSome = true ↔ isOwn num x := by
  rw [putD_some, h]
  exact ⟨fun h => h.elim .inr id, .inr⟩
theorem SwD.of_key {D : Nm → Option (List UInt8)} {num : Nat} (h : ∀ x, (D x).isSome = true ↔ isOwn num x) : SwD D num [] :=
  ⟨fun x hx => (h x).2 hx, fun x hx => (by cases hx), fun x hx => .inl ((h x).1 hx), .nil⟩
def inV (v : Ver) (x : Nm) : Bool := v.tabs.any fun t => decide (t.id = (tblNo x : Int))
def goneB (v : Ver) (x : Nm) : Bool := isTbl x && !inV v x
theorem filter_snoc (p : Nm → Bool) {L : List Nm} {i : Nat} {x : Nm} (h : L[i]? = some x) : (L.take (i + 1)).filter p = if p x = true then (L.take i).filter p ++ [x] else (L.take i).filter p := by
  rw [take_snoc h, List.filter_append]
  split
  · rename_i hp
    rw [List.filter_cons_of_pos hp]
    rfl
  · rename_i hp
    rw [List.filter_cons_of_neg hp, List.filter_nil, List.append_nil]
structure Sw3 (v : Ver) (L st : List Nm) (i : Nat) (s g : List Nm) : Prop where
  mem : ∀ x, x ∈ s ↔ x ∈ st ∨ (x ∈ L.take i ∧ isTbl x = true ∧ inV v x = true)
  asc : AscS s
  gone : g = (L.take i).filter (goneB v)
  len : s.length ≤ st.length + i
theorem Sw3.start (v : Ver) (L : List Nm) {st : List Nm} (h : AscS st) : Sw3 v L st 0 st [] := ⟨fun x => ⟨.inl, fun h => h.elim id fun h => by rw [List.take_zero] at h; cases h.1⟩, h, rfl, Nat.le_refl _⟩
theorem Sw3.skip {v : Ver} {L st s g : List Nm} {i : Nat} (h : Sw3 v L st i s g) {x : Nm} (hx : L[i]? = some x) (ht : isTbl x = false) : Sw3 v L st (i + 1) s g := by
  refine ⟨fun y => ?_, h.asc, ?_, by have := h.len; omega⟩
  · rw [h.mem, take_snoc hx, List.mem_append, List.mem_singleton]
    refine ⟨fun hy => hy.imp id fun hy => ⟨.inl hy.1, hy.2⟩, fun hy => hy.imp id fun hy => ⟨hy.1.resolve_right fun e => ?_, hy.2⟩⟩
    rw [e, ht] at hy
    cases hy.2.1
  · rw [filter_snoc _ hx, if_neg (by unfold goneB; rw [ht]; exact Bool.false_ne_true), h.gone]
theorem Sw3.keep {v : Ver} {L st s g : List Nm} {i : Nat} (h : Sw3 v L st i s g) {x : Nm} (hx : L[i]? = some x) (ht : isTbl x = true) (hi : inV v x = true) : Sw3 v L st (i + 1) (addS x s) g := by
  refine ⟨fun y => ?_, addS_asc x h.asc, ?_, by have := h.len; have := addS_len x s; omega⟩
  · rw [mem_addS, h.mem, take_snoc hx, List.mem_append, List.mem_singleton]
    constructor
    · rintro (rfl | hy | hy)
      · exact .inr ⟨.inr rfl, ht, hi⟩
      · exact .inl hy
      · exact .inr ⟨.inl hy.1, hy.2⟩
    · rintro (hy | ⟨hy | rfl, hy2⟩)
      · exact .inr (.inl hy)
      · exact .inr (.inr ⟨hy, hy2⟩)
      · exact .inl rfl
  · rw [filter_snoc _ hx, if_neg (by unfold goneB; rw [ht, hi]; decide), h.gone]
theorem Sw3.away {v : Ver} {L st s g : List Nm} {i : Nat} (h : Sw3 v L st i s g) (hL : AscS L) {x : Nm} (hx : L[i]? = some x) (ht : isTbl x = true) (hi : inV v x = false) : Sw3 v L st (i + 1) s (addS x g) := by
  have hlast : addS x g = g ++ [x] := addS_last fun y hy => by
    rw [h.gone] at hy
    exact asc_snoc hL hx y (List.mem_filter.1 hy).1
  refine ⟨fun y => ?_, h.asc, ?_, by have := h.len; omega⟩
  · rw [h.mem, take_snoc hx, List.mem_append, List.mem_singleton]
    refine ⟨fun hy => hy.imp id fun hy => ⟨.inl hy.1, hy.2⟩, fun hy => hy.imp id fun hy => ⟨hy.1.resolve_right fun e => ?_, hy.2⟩⟩
    rw [e, hi] at hy
    cases hy.2.2
  · rw [filter_snoc _ hx, if_pos (by unfold goneB; rw [ht, hi]; decide), hlast, h.gone]
def sweepD (v : Ver) (L : List Nm) (D : Nm → Option (List UInt8)) (i : Nat) : Nm → Option (List UInt8) := fun x => if x ∈ (L.take i).filter (goneB v) then none else D x
theorem sweepD_zero (v : Ver) (L : List Nm) (D : Nm → Option (List UInt8)) : sweepD v L D 0 = D := by
  funext x
  unfold sweepD
  rw [List.take_zero, List.filter_nil, if_neg (by simp)]
theorem sweepD_stay {v : Ver} {L : List Nm} {D : Nm → Option (List UInt8)} {i : Nat} {x : Nm} (hx : L[i]? = some x) (hg : goneB v x = false) : sweepD v L D (i + 1) = sweepD v L D i := by
  unfold sweepD
  rw [filter_snoc _ hx, if_neg (by rw [hg]; decide)]
theorem sweepD_gone {v : Ver} {L : List Nm} {D : Nm → Option (List UInt8)} {i : Nat} {x : Nm} (hx : L[i]? = some x) (hg : goneB v x = true) : sweepD v L D (i + 1) = delD (sweepD v L D i) x := by
  funext y
  unfold sweepD delD
  rw [filter_snoc _ hx, if_pos hg]
  by_cases h : y = x
  · rw [if_pos h, if_pos (by rw [h]; exact List.mem_append_right _ List.mem_cons_self)]
  · rw [if_neg h]
    dsimp only
    by_cases h2 : y ∈ (L.take i).filter (goneB v)
    · rw [if_pos h2, if_pos (List.mem_append_left _ h2)]
    · rw [if_neg h2, if_neg]
      intro hc
      rcases List.mem_append.1 hc with hc | hc
      · exact h2 hc
      · exact h (List.mem_singleton.1 hc)
theorem sweepD_there {v : Ver} {L : List Nm} {D : Nm → Option (List UInt8)} {i : Nat} {x : Nm} (hL : AscS L) (hx : L[i]? = some x) : sweepD v L D i x = D x := by
  unfold sweepD
  rw [if_neg]
  intro hc
  exact List.lt_irrefl _ (asc_snoc hL hx x (List.mem_filter.1 hc).1)
theorem sweepD_all {v : Ver} {L : List Nm} {D : Nm → Option (List UInt8)} (hL : ∀ x, x ∈ L ↔ (D x).isSome = true) (x : Nm) : (sweepD v L D L.length x).isSome = true ↔ (D x).isSome = true ∧ goneB v x = false := by
  unfold sweepD
  rw [List.take_length]
  by_cases h : x ∈ L.filter (goneB v)
  · rw [if_pos h]
    refine ⟨fun h => (by cases h), fun h' => ?_⟩
    have := (List.mem_filter.1 h).2
    rw [h'.2] at this
    cases this
  · rw [if_neg h]
    refine ⟨fun h' => ⟨h', ?_⟩, fun h' => h'.1⟩
    rw [Bool.eq_false_iff]
    exact fun hg => h (List.mem_filter.2 ⟨(hL x).2 h', hg⟩)
theorem sweep_len {v : Ver} {D : Nm → Option (List UInt8)} {num : Nat} {st s g L L0 L2 : List Nm} (h : SwD D num st) (hL : ∀ x, x ∈ L ↔ (D x).isSome = true) (h3 : Sw3 v L st L.length s g)
    (a0 : AscS L0) (m0 : ∀ x, x ∈ L0 ↔ isOwn num x) (a2 : AscS L2) (m2 : ∀ x, x ∈ L2 ↔ (sweepD v L D L.length x).isSome = true) : L2.length = L0.length + s.length := by
  rw [← List.length_append]
  refine len_same (asc_nodup a2) (List.nodup_append.2 ⟨asc_nodup a0, asc_nodup h3.asc, fun a ha b hb e => ?_⟩) fun x => ?_
  · subst e
    have ho := (m0 a).1 ha
    rcases (h3.mem a).1 hb with hs | hs
    · exact (h.stay a hs).2.2 ho
    · rw [own_not_tbl ho] at hs
      cases hs.2.1
  · rw [m2, sweepD_all hL, List.mem_append, m0, h3.mem, List.take_length, hL]
    unfold goneB
    constructor
    · rintro ⟨hd, hg⟩
      rcases h.all x hd with ho | hs | ht
      · exact .inl ho
      · exact .inr (.inl hs)
      · rw [ht, Bool.true_and] at hg
        exact .inr (.inr ⟨hd, ht, by simpa using hg⟩)
    · rintro (ho | hs | ⟨hd, ht, hi⟩)
      · exact ⟨h.own x ho, by rw [own_not_tbl ho]; rfl⟩
      · exact ⟨(h.stay x hs).1, by rw [(h.stay x hs).2.1]; rfl⟩
      · exact ⟨hd, by rw [ht, hi]; rfl⟩
end Go.Proofs.YtjnolpfmchnnmaaGreatDoor
end
section
namespace Go.Proofs.YtjnolpfmchnnmaaGreatDoor
set_option maxRecDepth 100000
open Go.RowKit Go.BigFrame Go.Shelf
abbrev nmV (x : Nm) : Value := .string ⟨x.toArray⟩
theorem sm_map : Tryz.prog.underlying 154 = some (.map 9 4) := by kernel_rfl
theorem sm_und : Tryz.prog.underlying 9 = some .string := by kernel_rfl
theorem sm_check (e : Bool) (x : Nm) (w : World) : (Instr.checkKey e 10000 9 (nmV x)).run Tryz.prog w = .ok () w := by kernel_rfl
theorem ba_eq (x a : Nm) : ((⟨x.toArray⟩ : ByteArray) == ⟨a.toArray⟩) = decide (x = a) := by
  show (x.toArray == a.toArray) = _
  by_cases h : x = a
  · rw [h, decide_eq_true rfl, beq_self_eq_true]
  · rw [decide_eq_false h, beq_eq_false_iff_ne]
    exact fun hc => h (by simpa using hc)
theorem sm_now (x : Nm) : ∀ (es : List MapEntry) (ns : List Nm) (k : Nat), es.map (fun e => (e.key, e.val)) = ns.map (fun x => (nmV x, Value.bool true)) →
    ∃ r, Instr.findNow .string (nmV x) es k = some r ∧ (x ∈ ns → ∃ j, r = some (j, .bool true)) ∧ (x ∉ ns → r = none)
  | [], ns, k, h => by
    cases ns with
    | nil => exact ⟨none, by simp [Instr.findNow], fun h => (by cases h), fun _ => rfl⟩
    | cons a l => simp at h
  | e :: es, ns, k, h => by
    cases ns with
    | nil => simp at h
    | cons a l =>
      simp only [List.map_cons, List.cons.injEq, Prod.mk.injEq] at h
      obtain ⟨⟨h1, h2⟩, h3⟩ := h
      by_cases hia : x = a
      · subst hia
        refine ⟨some (k, .bool true), ?_, fun _ => ⟨k, rfl⟩, fun hn => absurd List.mem_cons_self hn⟩
        unfold Instr.findNow
        have : Instr.sameNow .string (nmV x) e.key = some true := by rw [h1]; show some (_ == _) = _; rw [ba_eq, decide_eq_true rfl]
        rw [this, h2]
      · obtain ⟨r, g1, g2, g3⟩ := sm_now x es l (k + 1) h3
        refine ⟨r, ?_, fun hm => g2 ((List.mem_cons.1 hm).resolve_left hia), fun hn => g3 fun hm => hn (List.mem_cons_of_mem _ hm)⟩
        unfold Instr.findNow
        have : Instr.sameNow .string (nmV x) e.key = some false := by rw [h1]; show some (_ == _) = _; rw [ba_eq, decide_eq_false hia]
        rw [this]
        exact g1
def NamesV (w : World) (M : Nat) (ns : List Nm) : Prop := ∃ (es : Array MapEntry) (c : Nat), w.heap[M]? = some (.map es c) ∧ es.toList.map (fun e => (e.key, e.val)) = ns.map fun x => (nmV x, Value.bool true)
theorem NamesV.only {w w' : World} {M : Nat} {ns : List Nm} {S : Nat → Prop} (h : NamesV w M ns) (ho : Only S w w') (hS : ¬ S M) : NamesV w' M ns := by
  obtain ⟨es, c, h1, h2⟩ := h
  exact ⟨es, c, (ho.block M (Array.getElem?_eq_some_iff.1 h1).1 hS).trans h1, h2⟩
theorem NamesV.below {w w' : World} {M : Nat} {ns : List Nm} (h : NamesV w M ns) (hb : fr w w') : NamesV w' M ns := h.only (S := fun _ => False) (Only.of_below hb) fun h => h
theorem NamesV.new (w : World) (c : Nat) : NamesV (w.alloc (.map #[] c)) w.heap.size [] := ⟨#[], c, heap_alloc_new w _, rfl⟩
theorem sm_find (x : Nm) (w : World) (es : List MapEntry) (ns : List Nm) (h : es.map (fun e => (e.key, e.val)) = ns.map fun x => (nmV x, Value.bool true)) :
    ∃ r, (Instr.findKey 9 (nmV x) es).run Tryz.prog w = .ok r w ∧ (x ∈ ns → ∃ j, r = some (j, .bool true)) ∧ (x ∉ ns → r = none) := by
  obtain ⟨r, h1, h2⟩ := sm_now x es ns 0 h
  exact ⟨r, by simp [Instr.findKey, run_underlying sm_und, h1], h2⟩
theorem NamesV.look {w : World} {M : Nat} {ns : List Nm} (h : NamesV w M ns) (x : Nm) :
    (Instr.lookup 154 (.map (some M)) (nmV x) false).run Tryz.prog w = .ok (.bool (decide (x ∈ ns))) w := by
  obtain ⟨es, c, h1, h2⟩ := h
  obtain ⟨r, h3, h4, h5⟩ := sm_find x w es.toList ns h2
  by_cases hm : x ∈ ns
  · obtain ⟨j, rfl⟩ := h4 hm
    simp [Instr.lookup, run_underlying sm_map, MapKept.run_getObj_map h1, sm_check, h3, Result.andThen, hm]
  · obtain rfl := h5 hm
    simp [Instr.lookup, run_underlying sm_map, MapKept.run_getObj_map h1, sm_check, h3, Result.andThen, hm]
theorem NamesV.put {w : World} {M : Nat} {ns : List Nm} (h : NamesV w M ns) {x : Nm} (hi : x ∉ ns) :
    ∃ w', (Instr.mapUpdate 154 (.map (some M)) (nmV x) (.bool true)).run Tryz.prog w = .ok () w' ∧ NamesV w' M (ns ++ [x]) ∧ Only (fun j => j = M) w w' := by
  obtain ⟨es, c, h1, h2⟩ := h
  obtain ⟨r, h3, h4, h5⟩ := sm_find x w es.toList ns h2
  obtain rfl := h5 hi
  have hlt := (Array.getElem?_eq_some_iff.1 h1).1
  refine ⟨{ w with heap := w.heap.setIfInBounds M (.map (es.push { key := nmV x, val := .bool true, born := c }) (c + 1)) }, ?_, ⟨es.push { key := nmV x, val := .bool true, born := c }, c + 1, ?_, ?_⟩, ⟨rfl, rfl, rfl, by simp, fun j hj hn => ?_⟩⟩
  · simp [Instr.mapUpdate, run_underlying sm_map, MapKept.run_getObj_map h1, sm_check, h3, MapKept.run_setObj_map _ h1, Result.andThen]
  · simp [hlt]
  · simp [h2]
  · show (w.heap.setIfInBounds M _)[j]? = _
    rw [Array.getElem?_setIfInBounds_ne fun e => hn e.symm]
end Go.Proofs.YtjnolpfmchnnmaaGreatDoor
end
section
namespace Go.Proofs
open Go.Shelf
def Tryz.laysC172_ren : Go.Shelf.Ren := ⟨fun | 172 => 76 | 244 => 129 | 245 => 130 | 247 => 197 | 279 => 198 | 280 => 199 | 281 => 200 | 282 => 201 | 287 => 240 | 316 => 241 | 171 => 119 | 205 => 242 | 321 => 274 | 322 => 275 | 243 => 190 | 246 => 236 | 283 => 269 | 284 => 270 | 285 => 271 | 286 => 272 | 129 => 263 | 317 => 294 | 318 => 295 | 319 => 296 | 320 => 297 | 337 => 307 | 338 => 308 | n => n, fun | 9 => 9 | 3 => 3 | 75 => 141 | 76 => 142 | 4 => 4 | 5 => 5 | 167 => 285 | 37 => 35 | 0 => 0 | 85 => 286 | 2 => 2 | 168 => 288 | 53 => 240 | 175 => 322 | 46 => 34 | 210 => 326 | 127 => 357 | 145 => 360 | 143 => 358 | 21 => 21 | 171 => 352 | 173 => 354 | 212 => 380 | 51 => 209 | 20 => 20 | 213 => 381 | 232 => 394 | 233 => 395 | 80 => 396 | n => n, fun | 15 => 1 | 16 => 2 | 17 => 3 | 18 => 4 | 19 => 5 | n => n⟩
theorem Tryz.laysC172 : Go.Proofs.LaysC.n172 Tryz.prog Tryz.laysC172_ren := {
  mixed := by kernel_rfl
  f129 := Tryz.func263.trans (congrArg some (by kernel_rfl))
  f171 := Tryz.func119.trans (congrArg some (by kernel_rfl))
  f172 := Tryz.func76.trans (congrArg some (by kernel_rfl))
  f205 := Tryz.func242.trans (congrArg some (by kernel_rfl))
  f243 := Tryz.func190.trans (congrArg some (by kernel_rfl))
  f244 := Tryz.func129.trans (congrArg some (by kernel_rfl))
  f245 := Tryz.func130.trans (congrArg some (by kernel_rfl))
  f246 := Tryz.func236.trans (congrArg some (by kernel_rfl))
  f247 := Tryz.func197.trans (congrArg some (by kernel_rfl))
  f279 := Tryz.func198.trans (congrArg some (by kernel_rfl))
  f280 := Tryz.func199.trans (congrArg some (by kernel_rfl))
  f281 := Tryz.func200.trans (congrArg some (by kernel_rfl))
  f282 := Tryz.func201.trans (congrArg some (by kernel_rfl))
  f283 := Tryz.func269.trans (congrArg some (by kernel_rfl))
  f284 := Tryz.func270.trans (congrArg some (by kernel_rfl))
  f285 := Tryz.func271.trans (congrArg some (by kernel_rfl))
  f286 := Tryz.func272.trans (congrArg some (by kernel_rfl))
  f287 := Tryz.func240.trans (congrArg some (by kernel_rfl))
  f316 := Tryz.func241.trans (congrArg some (by kernel_rfl))
  f317 := Tryz.func294.trans (congrArg some (by kernel_rfl))
  f318 := Tryz.func295.trans (congrArg some (by kernel_rfl))
  f319 := Tryz.func296.trans (congrArg some (by kernel_rfl))
  f320 := Tryz.func297.trans (congrArg some (by kernel_rfl))
  f321 := Tryz.func274.trans (congrArg some (by kernel_rfl))
  f322 := Tryz.func275.trans (congrArg some (by kernel_rfl))
  f337 := Tryz.func307.trans (congrArg some (by kernel_rfl))
  f338 := Tryz.func308.trans (congrArg some (by kernel_rfl))
  t0 := Tryz.underlying0
  a0 := Tryz.isAgg0
  z0 := Tryz.sizeOf0
  v0 := Tryz.zeroValue0
  t2 := Tryz.underlying2
  a2 := Tryz.isAgg2
  z2 := Tryz.sizeOf2
  v2 := Tryz.zeroValue2
  t3 := Tryz.underlying3
  a3 := Tryz.isAgg3
  z3 := Tryz.sizeOf3
  v3 := Tryz.zeroValue3
  t4 := Tryz.underlying4
  a4 := Tryz.isAgg4
  z4 := Tryz.sizeOf4
  v4 := Tryz.zeroValue4
  t5 := Tryz.underlying5
  a5 := Tryz.isAgg5
  z5 := Tryz.sizeOf5
  v5 := Tryz.zeroValue5
  t9 := Tryz.underlying9
  a9 := Tryz.isAgg9
  z9 := Tryz.sizeOf9
  v9 := Tryz.zeroValue9
  t20 := Tryz.underlying20
  a20 := Tryz.isAgg20
  z20 := Tryz.sizeOf20
  v20 := Tryz.zeroValue20
  t21 := Tryz.underlying21
  a21 := Tryz.isAgg21
  z21 := Tryz.sizeOf21
  v21 := Tryz.zeroValue21
  t37 := Tryz.underlying35
  a37 := Tryz.isAgg35
  z37 := Tryz.sizeOf35
  v37 := Tryz.zeroValue35
  t46 := Tryz.underlying34
  a46 := Tryz.isAgg34
  z46 := Tryz.sizeOf34
  v46 := Tryz.zeroValue34
  t51 := Tryz.underlying209
  a51 := Tryz.isAgg209
  z51 := Tryz.sizeOf209
  v51 := Tryz.zeroValue209
  t53 := Tryz.underlying240
  a53 := Tryz.isAgg240
  z53 := Tryz.sizeOf240
  v53 := Tryz.zeroValue240
  t75 := Tryz.underlying141
  a75 := Tryz.isAgg141
  z75 := Tryz.sizeOf141
  v75 := Tryz.zeroValue141
  t76 := Tryz.underlying142
  a76 := Tryz.isAgg142
  z76 := Tryz.sizeOf142
  v76 := Tryz.zeroValue142
  t85 := Tryz.underlying286
  a85 := Tryz.isAgg286
  z85 := Tryz.sizeOf286
  v85 := Tryz.zeroValue286
  t127 := Tryz.underlying357
  a127 := Tryz.isAgg357
  z127 := Tryz.sizeOf357
  v127 := Tryz.zeroValue357
  t143 := Tryz.underlying358
  a143 := Tryz.isAgg358
  z143 := Tryz.sizeOf358
  v143 := Tryz.zeroValue358
  t145 := Tryz.underlying360
  a145 := Tryz.isAgg360
  z145 := Tryz.sizeOf360
  v145 := Tryz.zeroValue360
  t167 := Tryz.underlying285
  a167 := Tryz.isAgg285
  z167 := Tryz.sizeOf285
  v167 := Tryz.zeroValue285
  t168 := Tryz.underlying288
  a168 := Tryz.isAgg288
  z168 := Tryz.sizeOf288
  v168 := Tryz.zeroValue288
  t171 := Tryz.underlying352
  a171 := Tryz.isAgg352
  z171 := Tryz.sizeOf352
  v171 := Tryz.zeroValue352
  t173 := Tryz.underlying354
  a173 := Tryz.isAgg354
  z173 := Tryz.sizeOf354
  v173 := Tryz.zeroValue354
  t175 := Tryz.underlying322
  a175 := Tryz.isAgg322
  z175 := Tryz.sizeOf322
  v175 := Tryz.zeroValue322
  t210 := Tryz.underlying326
  a210 := Tryz.isAgg326
  z210 := Tryz.sizeOf326
  v210 := Tryz.zeroValue326
  t212 := Tryz.underlying380
  a212 := Tryz.isAgg380
  z212 := Tryz.sizeOf380
  v212 := Tryz.zeroValue380
  t213 := Tryz.underlying381
  a213 := Tryz.isAgg381
  z213 := Tryz.sizeOf381
  t232 := Tryz.underlying394
  a232 := Tryz.isAgg394
  z232 := Tryz.sizeOf394
  v232 := Tryz.zeroValue394
  t233 := Tryz.underlying395
  a233 := Tryz.isAgg395
  z233 := Tryz.sizeOf395
  v233 := Tryz.zeroValue395
  g15 := by kernel_rfl
  g16 := by kernel_rfl
  g17 := by kernel_rfl
  g18 := by kernel_rfl
  g19 := by kernel_rfl
  t80 := Tryz.underlying396
  a80 := Tryz.isAgg396
  z80 := Tryz.sizeOf396
  v80 := Tryz.zeroValue396
  i0 := by kernel_rfl
  i2 := by kernel_rfl
  i3 := by kernel_rfl
  i4 := by kernel_rfl
  i5 := by kernel_rfl
  i9 := by kernel_rfl
  i20 := by kernel_rfl
  i21 := by kernel_rfl
  i37 := by kernel_rfl
  i46 := by kernel_rfl
  i51 := by kernel_rfl
  i53 := by kernel_rfl
  i75 := by kernel_rfl
  i76 := by kernel_rfl
  i80 := by kernel_rfl
  i85 := by kernel_rfl
  i127 := by kernel_rfl
  i143 := by kernel_rfl
  i145 := by kernel_rfl
  i167 := by kernel_rfl
  i168 := by kernel_rfl
  i171 := by kernel_rfl
  i173 := by kernel_rfl
  i175 := by kernel_rfl
  i210 := by kernel_rfl
  i212 := by kernel_rfl
  i232 := by kernel_rfl
  i233 := by kernel_rfl
  m15 := by kernel_rfl
  m16 := by kernel_rfl
  m17 := by kernel_rfl
  m18 := by kernel_rfl
  m19 := by kernel_rfl
  c0 := by kernel_rfl
  c2 := by kernel_rfl
  c3 := by kernel_rfl
  c4 := by kernel_rfl
  c5 := by kernel_rfl
  c9 := by kernel_rfl
  c20 := by kernel_rfl
  c21 := by kernel_rfl
  c37 := by kernel_rfl
  c46 := by kernel_rfl
  c51 := by kernel_rfl
  c53 := by kernel_rfl
  c75 := by kernel_rfl
  c76 := by kernel_rfl
  c80 := by kernel_rfl
  c85 := by kernel_rfl
  c127 := by kernel_rfl
  c143 := by kernel_rfl
  c145 := by kernel_rfl
  c167 := by kernel_rfl
  c168 := by kernel_rfl
  c171 := by kernel_rfl
  c173 := by kernel_rfl
  c175 := by kernel_rfl
  c210 := by kernel_rfl
  c212 := by kernel_rfl
  c213 := by kernel_rfl
  c232 := by kernel_rfl
  c233 := by kernel_rfl }
end Go.Proofs
end
