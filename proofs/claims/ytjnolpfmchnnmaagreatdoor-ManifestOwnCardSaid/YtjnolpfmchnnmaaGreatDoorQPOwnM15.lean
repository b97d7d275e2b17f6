/-
slices.stableCmpFunc, slices.SortStableFunc over tables, lists of any length; the order by ids.
-/
import Derived.Test.YtjnolpfmchnnmaaGreatDoorQPOwnM3
import Derived.Test.YtjnolpfmchnnmaaGreatDoorQPOwnM6
import Derived.Test.YtjnolpfmchnnmaaGreatDoorQPOwnM11
import Derived.Test.YtjnolpfmchnnmaaGreatDoorQPOwnM10
import Derived.Test.YtjnolpfmchnnmaaGreatDoorQPOwnM7
import Derived.Test.YtjnolpfmchnnmaaGreatDoorQPOwnM4
import Derived.WalkMore
import Derived.Lib.SlBytesConst
import Derived.Test.YtjnolpfmchnnmaaGreatDoorQPOwnM12
section
namespace Go.Proofs.YtjnolpfmchnnmaaGreatDoor
set_option maxRecDepth 100000
open Go.RowKit Go.BigFrame
attribute [local go_sem ↓] Go.wp_at_zero Go.wp_at_succ
def apart (w : World) (v : Value) (f : Nat → Nat) (i b : Nat) : Prop := f i ≤ b ∧ b < f (i + 1) ∧ v.ownBlock ≠ some b ∧ Loose w b
structure ApartT (w : World) (v : Value) (ys : List Value) (ts : List Tbl) (f : Nat → Nat) (start : Nat) : Prop where
  up : ∀ i, f i ≤ f (i + 1)
  cells : ∀ i t, start ≤ i → ts[i]? = some t → ∃ k u, ys[i * 5]? = some (.int .i64 t.id) ∧ ys[i * 5 + 1]? = some (.int .i64 t.level) ∧ ys[i * 5 + 2]? = some (.int .i64 t.count) ∧ ys[i * 5 + 3]? = some k ∧ ys[i * 5 + 4]? = some u ∧ Byt w (apart w v f i) k t.lo ∧ Byt w (apart w v f i) u t.hi
theorem upT_le {f : Nat → Nat} (h : ∀ i, f i ≤ f (i + 1)) {a b : Nat} (hab : a ≤ b) : f a ≤ f b := by
  induction hab with
  | refl => exact Nat.le_refl _
  | step _ ih => exact Nat.le_trans ih (h _)
theorem ApartT.only {w w' : World} {v : Value} {ys : List Value} {ts : List Tbl} {f : Nat → Nat} {s : Nat} {S : Nat → Prop} (h : ApartT w v ys ts f s) (ho : Only S w w') (hd : ∀ i b, s ≤ i → apart w v f i b → ¬ S b) : ApartT w' v ys ts f s :=
  ⟨h.up, fun i t hi he => by
    obtain ⟨k, u, a0, a1, a2, a3, a4, b1, b2⟩ := h.cells i t hi he
    have go : ∀ x bs, Byt w (apart w v f i) x bs → Byt w' (apart w' v f i) x bs := fun x bs hx =>
      Byt.mono (S := apart w v f i) (Byt.only (T := apart w v f i) hx ho fun b _ hb => hd i b hi hb) fun b hb => ⟨hb.1, hb.2.1, hb.2.2.1, hb.2.2.2.only ho (hd i b hi hb)⟩
    exact ⟨k, u, a0, a1, a2, a3, a4, go _ _ b1, go _ _ b2⟩⟩
theorem ApartT.below {w w' : World} {v : Value} {ys : List Value} {ts : List Tbl} {f : Nat → Nat} {s : Nat} (h : ApartT w v ys ts f s) (hb : Below w.heap.size w w') : ApartT w' v ys ts f s :=
  h.only (S := fun _ => False) ⟨hb.os, hb.tape, hb.output, hb.size, fun i hi _ => hb.block i hi⟩ fun _ _ _ _ h => h
theorem ApartT.turned {w w' : World} {v : Value} {ys : List Value} {ts : List Tbl} {f : Nat → Nat} {s : Nat} (h : ApartT w v ys ts f s) (ho : Only (apart w v f s) w w') : ApartT w' v ys ts f (s + 1) := by
  have h1 : ApartT w v ys ts f (s + 1) := ⟨h.up, fun i t hi => h.cells i t (by omega)⟩
  refine h1.only ho fun i b hi hb hs => ?_
  have := upT_le h.up hi
  have := hb.1
  have := hs.2.1
  omega
theorem ApartT.put {w : World} {v u : Value} {ys : List Value} {ts : List Tbl} {f : Nat → Nat} {s j g : Nat} (h : ApartT w v ys ts f s) (hg : v.ownBlock = some g) (hj : j < s * 5) : ApartT (w.setCell ⟨g, j, none⟩ u) v (ys.set j u) ts f s := by
  have h1 := h.only (only_set w g j u) fun i b _ hb e => hb.2.2.1 (e ▸ hg)
  refine ⟨h1.up, fun i t hi he => ?_⟩
  obtain ⟨k, x, a0, a1, a2, a3, a4, b1, b2⟩ := h1.cells i t hi he
  have hi5 : s * 5 ≤ i * 5 := Nat.mul_le_mul_right 5 hi
  exact ⟨k, x, by rw [List.getElem?_set_ne (by omega)]; exact a0, by rw [List.getElem?_set_ne (by omega)]; exact a1, by rw [List.getElem?_set_ne (by omega)]; exact a2, by rw [List.getElem?_set_ne (by omega)]; exact a3, by rw [List.getElem?_set_ne (by omega)]; exact a4, b1, b2⟩
theorem ApartT.push {base : Nat} {wr w1 w2 : World} {v v' k u : Value} {n : Nat} {ys : List Value} {ts : List Tbl} {f : Nat → Nat} {t : Tbl} {o : Obj} {T : TypeId} (hown : wr.ownsRow base T 5 v n ys) (hn : ts.length = n) (h : ApartT wr v ys ts f 0) (hf : f n ≤ wr.heap.size) (hb1 : Below wr.heap.size wr w1)
    (hk : BytL w1 wr.heap.size k t.lo) (hu : BytL w1 wr.heap.size u t.hi) (hg : (w1.alloc o).grownBy w2 v.ownBlock) (hat : v'.ownBlock = v.ownBlock ∨ v'.ownBlock = some (w1.alloc o).heap.size) :
    ApartT w2 v' (ys ++ [.int .i64 t.id, .int .i64 t.level, .int .i64 t.count, k, u]) (ts ++ [t]) (fun j => if j ≤ n then f j else w1.heap.size) 0 := by
  have hal : Below w1.heap.size w1 (w1.alloc o) := (Below.refl _ _).alloc (Nat.le_refl _) _
  have hz := hb1.size
  have hyl : ys.length = n * 5 := hown.1
  refine ⟨fun i => ?_, fun i x _ hx => ?_⟩
  · by_cases h1 : i + 1 ≤ n
    · simp only [if_pos h1, if_pos (show i ≤ n by omega)]; exact h.up i
    · by_cases h2 : i ≤ n
      · obtain rfl : i = n := by omega
        simp only [if_pos h2, if_neg h1]; omega
      · simp only [if_neg h1, if_neg h2]; omega
  · by_cases hi : i < n
    · rw [List.getElem?_append_left (by omega)] at hx
      obtain ⟨k', u', a0, a1, a2, a3, a4, b1, b2⟩ := h.cells i x (Nat.zero_le _) hx
      have go : ∀ x bs, Byt wr (apart wr v f i) x bs → Byt w2 (apart w2 v' (fun j => if j ≤ n then f j else w1.heap.size) i) x bs := fun x bs hx =>
        ((Byt.below (S := apart wr v f i) hx hb1).below hal).push hg hat (fun b _ hs => hs.2.2.1) (fun b _ hs hn => ⟨by simp only [if_pos (show i ≤ n by omega)]; exact hs.1, by simp only [if_pos (show i + 1 ≤ n by omega)]; exact hs.2.1, hn, ((hs.2.2.2.below hb1).alloc o).grown hg hs.2.2.1⟩)
      exact ⟨k', u', by rw [List.getElem?_append_left (by omega)]; exact a0, by rw [List.getElem?_append_left (by omega)]; exact a1, by rw [List.getElem?_append_left (by omega)]; exact a2, by rw [List.getElem?_append_left (by omega)]; exact a3, by rw [List.getElem?_append_left (by omega)]; exact a4, go _ _ b1, go _ _ b2⟩
    · have hin : i = n := by
        have := (List.getElem?_eq_some_iff.1 hx).1
        simp at this
        omega
      subst hin
      have hxe : x = t := by
        rw [List.getElem?_append_right (by omega)] at hx
        simp [hn] at hx
        exact hx.symm
      subst hxe
      have new : ∀ y bs, BytL w1 wr.heap.size y bs → Byt w2 (apart w2 v' (fun j => if j ≤ i then f j else w1.heap.size) i) y bs := fun y bs hy =>
        (Byt.below (S := fun b => wr.heap.size ≤ b ∧ Loose w1 b) hy hal).push hg hat (fun b _ hs e => by have := hown.lt b e; omega)
          (fun b _ hs hn => ⟨by simp only [if_pos (Nat.le_refl i)]; omega, by simp only [if_neg (show ¬ i + 1 ≤ i by omega)]; exact hs.2.lt, hn, (hs.2.alloc o).grown hg (fun e => by have := hown.lt b e; omega)⟩)
      refine ⟨k, u, ?_, ?_, ?_, ?_, ?_, new _ _ hk, new _ _ hu⟩ <;> (rw [List.getElem?_append_right (by omega), hyl]; simp [show i * 5 - i * 5 = 0 by omega, show i * 5 + 1 - i * 5 = 1 by omega, show i * 5 + 2 - i * 5 = 2 by omega, show i * 5 + 3 - i * 5 = 3 by omega, show i * 5 + 4 - i * 5 = 4 by omega])
set_option maxRecDepth 100000 in
set_option maxHeartbeats 2000000 in
theorem tablesA_any (S : Nat → Prop) (v : Value) (ts : List Tbl) (w : World) (h : TabsV w S v ts) :
    Calls Tryz.prog 79 #[v] w fun r w' => ∃ v' ys f, r = .returned v' ∧ w'.ownsRow w.heap.size 57 5 v' ts.length ys ∧ ApartT w' v' ys ts f 0 ∧ w.heap.size ≤ f 0 ∧ f ts.length ≤ w'.heap.size ∧ Below w.heap.size w w' := by
  obtain ⟨i0, hi, hz0, hz1, hz2⟩ := info_parts infoT
  have hby := Lib.hid hz2
  have hz1' := Lib.hid hz1
  clear hz2 hz1
  obtain ⟨A, c, rfl⟩ := h.form
  obtain ⟨n, hn⟩ : ∃ n, ts.length = n := ⟨_, rfl⟩
  have hmany : n * 72 ≤ 140737488355328 := by obtain ⟨_, _, _, _, _, _, h3, _⟩ := h; rw [← hn]; exact h3
  rw [hn] at h ⊢
  have HLN := Lib.hid hn
  have H := Lib.hid h
  clear h hn
  go_enter Tryz.func79, Tryz.ntmps79
  go_wp2
  go_loopw [3, 8] (fun v3 t wr => ∃ (m : Nat) (ys : List Value) (f : Nat → Nat), m ≤ n ∧ t = .int .i64 m ∧ wr.ownsRow w.heap.size 57 5 v3 m ys ∧ ApartT wr v3 ys (ts.take m) f 0 ∧ w.heap.size ≤ f 0 ∧ f m ≤ wr.heap.size ∧ Below w.heap.size w wr) (fun _ t _ => n - (intOf t).toNat)
  case atStart => exact ⟨0, [], fun _ => w.heap.size, Nat.zero_le _, rfl, World.ownsRow_nil _ _ _ _, ⟨fun _ => Nat.le_refl _, fun i e _ he => by simp at he⟩, Nat.le_refl _, Nat.le_refl _, Below.refl _ _⟩
  case round =>
    obtain ⟨m, ys, f, hi', rfl, hown, hys, hf0, hfk, hbel⟩ := hrel
    have HO := Lib.hid hown
    have HYS := Lib.hid hys
    have HB := Lib.hid hbel
    have HF00 := Lib.hid hf0
    have HFK := Lib.hid hfk
    clear hown hys hbel hf0 hfk
    by_cases hin : m < n
    · obtain ⟨t, hf⟩ : ∃ t, ts[m]? = some t := ⟨_, List.getElem?_eq_getElem (by rw [HLN.out]; exact hin)⟩
      obtain ⟨b, o, cs, rfl, hblt, _, ⟨va, vb, rfl, hva, hvb⟩, hc⟩ := Rows.at_ tbFine H.out hf
      obtain ⟨Aa, ca, rfl⟩ := slice_form hva
      obtain ⟨Ab, cb, rfl⟩ := slice_form hvb
      have HVA := Lib.hid (hva.below HB.out)
      have HVB := Lib.hid (hvb.below HB.out)
      have x0 : w.cell? ⟨b, o + m * 5, none⟩ = _ := hc 0 _ rfl
      have x1 : w.cell? ⟨b, o + m * 5 + 1, none⟩ = _ := hc 1 _ rfl
      have x2 : w.cell? ⟨b, o + m * 5 + 2, none⟩ = _ := hc 2 _ rfl
      have x3 : w.cell? ⟨b, o + m * 5 + 3, none⟩ = _ := hc 3 _ rfl
      have x4 : w.cell? ⟨b, o + m * 5 + 4, none⟩ = _ := hc 4 _ rfl
      have c0 := fr.cell HB.out x0
      have c1 := fr.cell HB.out x1
      have c2 := fr.cell HB.out x2
      have c3 := fr.cell HB.out x3
      have c4 := fr.cell HB.out x4
      have HF0 := Lib.hid hf
      have hm2 : m + 1 ≤ maxLen := by unfold maxLen; omega
      have hm3 : (m + 1) * 72 ≤ 140737488355328 := by omega
      have hbz := HB.out.size
      clear hf hva hvb hc x0 x1 x2 x3 x4
      have pT : (wr.alloc (.cells #[.int .i64 t.id, .int .i64 t.level, .int .i64 t.count, .slice Aa t.lo.length ca, .slice Ab t.hi.length cb] 57)).heap[wr.heap.size]? = some (.cells #[.int .i64 t.id, .int .i64 t.level, .int .i64 t.count, .slice Aa t.lo.length ca, .slice Ab t.hi.length cb] 57 (0, 0)) := heap_alloc_new wr _
      have hal : fr wr ((wr.alloc (.cells #[.int .i64 t.id, .int .i64 t.level, .int .i64 t.count, .slice Aa t.lo.length ca, .slice Ab t.hi.length cb] 57)).alloc (.cells #[] 5)) := fr.alloc (fr.alloc fr.refl _) _
      go_wp2_with (at_builtin; first
        | (refine wpList_append_byt0L rfl _ _ rfl (wr.heap.size + 1) (.slice Aa t.lo.length ca) rfl rfl S t.lo (fr.byt hal HVA.out) ?_; intro A5 c5 w5 hv5 hb5; have pT5 : w5.heap[wr.heap.size]? = some (.cells #[.int .i64 t.id, .int .i64 t.level, .int .i64 t.count, .slice Aa t.lo.length ca, .slice Ab t.hi.length cb] 57 (0, 0)) := (hb5.block _ (by simp; omega)).trans ((Below.heap_alloc _ (.cells #[] 5) _ (by simp)).trans pT); have fz5 := frozen_of_row w5 _ 3 _ _ pT5; have q3 := cell_of_row w5 _ 3 _ _ _ pT5; have hf5 : fr wr w5 := fr.step hal hb5; have p6 : (w5.setCell ⟨wr.heap.size, 3, none⟩ (.slice A5 t.lo.length c5)).heap[wr.heap.size]? = some (.cells #[.int .i64 t.id, .int .i64 t.level, .int .i64 t.count, .slice A5 t.lo.length c5, .slice Ab t.hi.length cb] 57 (0, 0)) := heap_setCell_same w5 _ _ _ _ _ pT5; have q4 : ((w5.setCell ⟨wr.heap.size, 3, none⟩ (.slice A5 t.lo.length c5)).alloc (.cells #[] 5)).cell? ⟨wr.heap.size, 4, none⟩ = some (.slice Ab t.hi.length cb) := cell_of_row _ _ 4 _ _ _ ((Below.heap_alloc _ _ _ (Array.getElem?_eq_some_iff.1 p6).1).trans p6); have hf6 : fr wr ((w5.setCell ⟨wr.heap.size, 3, none⟩ (.slice A5 t.lo.length c5)).alloc (.cells #[] 5)) := fr.alloc (Below.setCell hf5 (Nat.le_refl _) _) _)
        | (refine wpList_append_byt0L rfl _ _ rfl w5.heap.size (.slice Ab t.hi.length cb) rfl rfl S t.hi (fr.byt hf6 HVB.out) ?_; intro A7 c7 w7 hv7 hb7; have pT7 : w7.heap[wr.heap.size]? = some (.cells #[.int .i64 t.id, .int .i64 t.level, .int .i64 t.count, .slice A5 t.lo.length c5, .slice Ab t.hi.length cb] 57 (0, 0)) := (hb7.block _ (by have := (Array.getElem?_eq_some_iff.1 p6).1; simp at this ⊢; omega)).trans ((Below.heap_alloc _ (.cells #[] 5) _ (Array.getElem?_eq_some_iff.1 p6).1).trans p6); have fz7 := frozen_of_row w7 _ 4 _ _ pT7; have q4' := cell_of_row w7 _ 4 _ _ _ pT7; have hf7 : fr wr w7 := fr.step hf6 hb7; have p8 : (w7.setCell ⟨wr.heap.size, 4, none⟩ (.slice A7 t.hi.length c7)).heap[wr.heap.size]? = some (.cells #[.int .i64 t.id, .int .i64 t.level, .int .i64 t.count, .slice A5 t.lo.length c5, .slice A7 t.hi.length c7] 57 (0, 0)) := heap_setCell_same w7 _ _ _ _ _ pT7; have r0 := cell_of_row _ _ 0 _ _ _ p8; have r1 := cell_of_row _ _ 1 _ _ _ p8; have r2 := cell_of_row _ _ 2 _ _ _ p8; have r3 := cell_of_row _ _ 3 _ _ _ p8; have r4 := cell_of_row _ _ 4 _ _ _ p8; have hf8 : fr wr (w7.setCell ⟨wr.heap.size, 4, none⟩ (.slice A7 t.hi.length c7)) := Below.setCell hf7 (Nat.le_refl _) _)
        | (refine wpList_append_own_at _ rfl _ _ 43 rfl w.heap.size 57 i0 _ 5 72 Tryz.underlying43 hi hz0 hz1'.out hby.out rfl (by decide) _ _ _ rfl ((own_below HO.out hf8).alloc _) ⟨w7.heap.size, 0, none⟩ 1 1 [.int .i64 t.id, .int .i64 t.level, .int .i64 t.count, .slice A5 t.lo.length c5, .slice A7 t.hi.length c7] rfl rfl (cells_at rfl (by simp)) (by simp [Value.oneCell']) hm2 hm3 (by have := Below.size hf8; simp at this ⊢; omega) ?_; intro v' w9 hown' hgrow hnn hat; clear hnn))
      have hz5 := Below.size hf5
      have hz7 := hb7.size
      have ha : Only (fun i => i = wr.heap.size) w5 (w7.setCell ⟨wr.heap.size, 4, none⟩ (.slice A7 t.hi.length c7)) := ((only_set w5 wr.heap.size 3 _).trans ((Only.of_below ((Below.refl _ _).alloc (Nat.le_refl _) _)).trans (Only.of_below hb7))).trans (only_set w7 wr.heap.size 4 _)
      have h5 : BytL (w7.setCell ⟨wr.heap.size, 4, none⟩ (.slice A7 t.hi.length c7)) wr.heap.size (.slice A5 t.lo.length c5) t.lo := (BytL.only hv5 ha (fun i hi _ e => by simp at hi; omega)).mono (by simp; omega)
      have h7 : BytL (w7.setCell ⟨wr.heap.size, 4, none⟩ (.slice A7 t.hi.length c7)) wr.heap.size (.slice A7 t.hi.length c7) t.hi := (BytL.only hv7 (only_set w7 wr.heap.size 4 (.slice A7 t.hi.length c7)) (fun i hi _ e => by have := (Array.getElem?_eq_some_iff.1 pT5).1; simp at hi; omega)).mono (by have := (Array.getElem?_eq_some_iff.1 pT5).1; simp; omega)
      have hap := ApartT.push HO.out (by rw [List.length_take, HLN.out]; omega) HYS.out HFK.out hf8 h5 h7 hgrow hat
      rw [← take_snoc HF0.out] at hap
      have hbw : Below w.heap.size w w9 := ((HB.out.trans (Below.mono hf8 HB.out.size)).alloc (by have := Below.size hf8; omega) _).grown hgrow (by have := Below.size hf8; simp at this ⊢; omega) (fun j e => (HO.out.lt j e).1)
      exact ⟨⟨m + 1, _, _, by omega, by go_num, hown', hap, by simpa using HF00.out, by simp only [if_neg (show ¬ m + 1 ≤ m by omega)]; have := hgrow.size; simp at this ⊢; omega, hbw⟩, by simp [intOf]; omega⟩
    · obtain rfl : m = n := by omega
      go_wp2
      obtain ⟨A9, c9, rfl⟩ := own_form HO.out
      refine bodyPost_ret (v := .slice A9 m c9) (by simp [results, Tryz.results79, go_sem]) rfl ?_
      have e1 : ts.take m = ts := List.take_of_length_le (by rw [HLN.out]; exact Nat.le_refl _)
      have hys := HYS.out
      rw [e1] at hys
      exact ⟨_, ys, f, rfl, HO.out, hys, HF00.out, HFK.out, HB.out⟩
end Go.Proofs.YtjnolpfmchnnmaaGreatDoor
end
section
namespace Go.Proofs.YtjnolpfmchnnmaaGreatDoor
set_option maxRecDepth 100000
open Go.RowKit Go.BigFrame Go.Sort Go.Shelf Go.Lib
attribute [local go_sem ↓] Go.wp_at_zero Go.wp_at_succ
set_option maxRecDepth 100000 in
set_option maxHeartbeats 4000000 in
theorem editA_any (S : Nat → Prop) (av dv : Value) (e : Edt) (w : World) (ha : TabsV w S av e.add) (hd : IntsIn w S dv e.drop) (h8 : e.drop.length * 8 ≤ 140737488355328) (_h72 : e.add.length * 72 ≤ 140737488355328) :
    Calls Tryz.prog 26 #[.agg #[av, dv, .int .i64 e.lg, .int .i64 e.sq]] w fun r w' => (∃ Ax cx dx ys f, r = .returned (.agg #[.slice Ax e.add.length cx, dx, .int .i64 e.lg, .int .i64 e.sq]) ∧ w'.ownsRow w.heap.size 57 5 (.slice Ax e.add.length cx) e.add.length ys ∧ ApartT w' (.slice Ax e.add.length cx) ys e.add f 0 ∧ w.heap.size ≤ f 0 ∧ f e.add.length ≤ w'.heap.size ∧ IntsIn w' (fun i => w.heap.size ≤ i) dx e.drop) ∧ fr w w' := by
  obtain ⟨n, hn⟩ : ∃ n, e.add.length = n := ⟨_, rfl⟩
  obtain ⟨m, hm⟩ : ∃ m, e.drop.length = m := ⟨_, rfl⟩
  obtain ⟨Aa, ca, rfl⟩ := ha.form
  obtain ⟨Ad, cd, rfl⟩ : ∃ A c, dv = .slice A e.drop.length c := by obtain ⟨A, c, h, _⟩ := hd; exact ⟨A, c, h⟩
  rw [hn] at ha ⊢
  rw [hm] at hd ⊢
  obtain ⟨W0, hW0⟩ : ∃ W0, W0 = (w.alloc (.cells #[.slice Aa n ca, .slice Ad m cd, .int .i64 e.lg, .int .i64 e.sq] 45)).alloc (.cells #[.slice none 0 0, .slice none 0 0, .int .i64 0, .int .i64 0] 45) := ⟨_, rfl⟩
  have hA : fr w W0 := by rw [hW0]; exact fr.alloc (fr.alloc fr.refl _) _
  have hx1 : W0.heap[w.heap.size]? = some (.cells #[.slice Aa n ca, .slice Ad m cd, .int .i64 e.lg, .int .i64 e.sq] 45 (0, 0)) := by
    rw [hW0]
    exact (Below.heap_alloc _ _ _ (by simp)).trans (heap_alloc_new w _)
  have hx2 : W0.heap[w.heap.size + 1]? = some (.cells #[.slice none 0 0, .slice none 0 0, .int .i64 0, .int .i64 0] 45 (0, 0)) := by
    rw [hW0]
    have := heap_alloc_new (w.alloc (.cells #[.slice Aa n ca, .slice Ad m cd, .int .i64 e.lg, .int .i64 e.sq] 45)) (.cells #[.slice none 0 0, .slice none 0 0, .int .i64 0, .int .i64 0] 45)
    simp only [World.size_alloc] at this
    exact this
  have hsz : W0.heap.size = w.heap.size + 2 := by rw [hW0]; simp
  have HA := Lib.hid hA
  have HTA := Lib.hid (ha.below tbFine hA)
  have hd0 := hd
  have HN := Lib.hid hn
  have HM := Lib.hid hm
  clear hA ha hd hn hm
  go_enter Tryz.func26, Tryz.ntmps26
  go_upto_region 1 with (fail)
  rw [← hW0]
  have p0 := cell_of_row _ _ 0 _ _ _ hx1
  have HX1 := Lib.hid hx1
  have HX2 := Lib.hid hx2
  have HSZ := Lib.hid hsz
  clear hW0 hx1 hx2 hsz
  have hE1 : w.heap.size < W0.heap.size := by rw [HSZ.out]; omega
  have hE2 : w.heap.size + 1 < W0.heap.size := by rw [HSZ.out]; omega
  go_upto_region 2 with (go_at_call 79; refine (tablesA_any S _ _ _ HTA.out).mono ?_; rintro r w1 ⟨ta, ys, f, rfl, hro, hap, hf0, hfn, f1⟩; obtain ⟨A1, c1, rfl⟩ := own_form hro; rw [HN.out] at hro hap hfn ⊢; have x3 := (Below.block f1 w.heap.size hE1).trans HX1.out; have y0 := frozen_of_row _ _ 0 _ _ x3; have z0 := cell_of_row _ _ 0 _ _ _ x3)
  have hX4 : (w1.setCell ⟨w.heap.size, 0, none⟩ (.slice A1 n c1)).heap[w.heap.size]? = some (.cells #[.slice A1 n c1, .slice Ad m cd, .int .i64 e.lg, .int .i64 e.sq] 45 (0, 0)) := heap_setCell_same _ _ 0 _ _ _ x3
  have hO4 : Only (fun i => i = w.heap.size) w1 (w1.setCell ⟨w.heap.size, 0, none⟩ (.slice A1 n c1)) := only_set _ _ 0 (.slice A1 n c1)
  generalize w1.setCell ⟨w.heap.size, 0, none⟩ (.slice A1 n c1) = w2 at hX4 hO4 ⊢
  have HX4 := Lib.hid hX4
  have HO4 := Lib.hid ((Only.of_below (S := fun i => i = w.heap.size) f1).trans hO4)
  have HF4 : Hid (fr w w2) := Lib.hid (HA.out.trans (HO4.out.below HA.out.size fun i h => by rw [h]; exact Nat.le_refl _))
  have HF00 := Lib.hid hf0
  have HRO4 := Lib.hid (own_only hro hO4 fun g hg h => by have := (hro.lt g hg).1; omega)
  have HAP4 := Lib.hid (hap.only hO4 fun i x _ hx h => by have := upT_le hap.up (Nat.zero_le i); have := hx.1; omega)
  have HFN4 := Lib.hid (Nat.le_trans hfn hO4.size)
  have HY4 : Hid (w2.heap[w.heap.size + 1]? = some (.cells #[.slice none 0 0, .slice none 0 0, .int .i64 0, .int .i64 0] 45 (0, 0))) := Lib.hid ((HO4.out.block _ hE2 (by omega)).trans HX2.out)
  have HD4 : Hid (IntsIn w2 S (.slice Ad m cd) e.drop) := Lib.hid (hd0.below HF4.out)
  clear x3 y0 z0 hX4 hO4 hro hap hf0 hfn f1 p0
  have p1 := cell_of_row _ _ 1 _ _ _ HX4.out
  have hL5 : fr w2 (w2.alloc (.cells #[] 3)) := fr.alloc fr.refl _
  have hl5 := lit0i w2
  obtain ⟨w5, hw5⟩ : ∃ w5, w2.alloc (.cells #[] 3) = w5 := ⟨_, rfl⟩
  rw [hw5] at hL5 hl5
  have HL5 := Lib.hid hL5
  have HR5 := Lib.hid hl5
  have HSZ2 := Lib.hid (show w2.heap.size < w5.heap.size by rw [← hw5]; simp)
  have HE1 := Lib.hid hE1
  have HE2 := Lib.hid hE2
  have HE3 := Lib.hid (Nat.lt_of_lt_of_le hE1 HO4.out.size)
  have HX5 := Lib.hid ((Below.block hL5 w.heap.size HE3.out).trans HX4.out)
  have p5 := cell_of_row _ _ 1 _ _ _ HX5.out
  clear hL5 hl5 hE1 hE2 hd0
  go_upto_region 3 with (at_builtin; refine wpList_append_ints rfl _ _ rfl w2.heap.size _ _ rfl rfl S e.drop HR5.out (HD4.out.below HL5.out) h8 (Nat.le_of_lt HSZ2.out) ?_; intro v6 w6 hown hgrow; obtain ⟨A6, c6, rfl⟩ := own_form hown; rw [HM.out] at hown ⊢; have hg6 : World.grownBy _ w6 (some w2.heap.size) := hgrow; have x6 := (hg6.block w.heap.size (Nat.lt_trans HE3.out HSZ2.out) (fun e => absurd (Option.some.inj e) (Nat.ne_of_lt HE3.out))).trans HX5.out; have y1 := frozen_of_row _ _ 1 _ _ x6; have z1 := cell_of_row _ _ 1 _ _ _ x6; have hsz6 := hg6.size)
  have hX7 : (w6.setCell ⟨w.heap.size, 1, none⟩ (.slice A6 m c6)).heap[w.heap.size]? = some (.cells #[.slice A1 n c1, .slice A6 m c6, .int .i64 e.lg, .int .i64 e.sq] 45 (0, 0)) := heap_setCell_same _ _ 1 _ _ _ x6
  have hO7 : Only (fun i => i = w.heap.size) w6 (w6.setCell ⟨w.heap.size, 1, none⟩ (.slice A6 m c6)) := only_set _ _ 1 (.slice A6 m c6)
  generalize w6.setCell ⟨w.heap.size, 1, none⟩ (.slice A6 m c6) = w7 at hX7 hO7 ⊢
  have hf6 : fr w2 w6 := Below.grown HL5.out hg6 (Below.size HL5.out) (fun j e => by obtain rfl := Option.some.inj e; exact Nat.le_refl _)
  have hf26 : fr w2 w6 := hf6
  have hY7 : w7.heap[w.heap.size + 1]? = some (.cells #[.slice none 0 0, .slice none 0 0, .int .i64 0, .int .i64 0] 45 (0, 0)) := by
    have h1 := Nat.lt_of_lt_of_le HE2.out HO4.out.size
    exact (hO7.block _ (Nat.lt_of_lt_of_le h1 (Below.size hf6)) (by omega)).trans ((Below.block hf6 _ h1).trans HY4.out)
  have hR6 := own_below HRO4.out hf6
  have hA6 := HAP4.out.below hf6
  have hR7 := own_only hR6 hO7 fun g hg h => by have := (HRO4.out.lt g hg).1; have := HSZ.out; omega
  have hA7 := hA6.only hO7 fun i x _ hx h => by have := upT_le HAP4.out.up (Nat.zero_le i); have := hx.1; have := HF00.out; have := HSZ.out; omega
  have hN7 : f n ≤ w7.heap.size := Nat.le_trans HFN4.out (Nat.le_trans (Below.size hf6) hO7.size)
  have hD7 : IntsIn w7 (fun i => w.heap.size + 2 ≤ i) (.slice A6 m c6) e.drop := by
    have h1 := own_only hown hO7 fun g hg hS => by have := (hown.lt g hg).1; have := HE3.out; omega
    exact (ints_of_own h1 HM.out (by rw [HM.out] at h8; omega)).mono fun i hi => by have := HSZ.out; have := HO4.out.size; omega
  have hF7 : fr w w7 := (HF4.out.trans (Below.mono hf6 (Below.size HF4.out))).trans (hO7.below (by have := Below.size hf6; have := Below.size HF4.out; omega) fun i h => by rw [h]; exact Nat.le_refl _)
  have HX7 := Lib.hid hX7
  have HY7 := Lib.hid hY7
  have HR7 := Lib.hid hR7
  have HA7 := Lib.hid hA7
  have HN7 := Lib.hid hN7
  have HD7 := Lib.hid hD7
  have HF7 := Lib.hid hF7
  clear hX7 hY7 hR6 hA6 hR7 hA7 hN7 hD7 hF7 hO7 hf6 hf26 hown hgrow hg6 x6 y1 z1 hsz6 p1 p5 hw5
  have r0 := cell_of_row _ _ 0 _ _ _ HX7.out
  have r1 := cell_of_row _ _ 1 _ _ _ HX7.out
  have r2 := cell_of_row _ _ 2 _ _ _ HX7.out
  have r3 := cell_of_row _ _ 3 _ _ _ HX7.out
  have y0 := frozen_of_row _ _ 0 _ _ HY7.out
  have y1 := frozen_of_row _ _ 1 _ _ HY7.out
  have y2 := frozen_of_row _ _ 2 _ _ HY7.out
  have y3 := frozen_of_row _ _ 3 _ _ HY7.out
  have z0 := cell_of_row _ _ 0 _ _ _ HY7.out
  have z1 := cell_of_row _ _ 1 _ _ _ HY7.out
  have z2 := cell_of_row _ _ 2 _ _ _ HY7.out
  have z3 := cell_of_row _ _ 3 _ _ _ HY7.out
  go_wp2_with (fail)
  have P := put4_row HY7.out (a := .slice A1 n c1) (b := .slice A6 m c6) (c := .int .i64 e.lg) (d := .int .i64 e.sq)
  have O := put4_only (W := w7) (g := w.heap.size + 1) (a := .slice A1 n c1) (b := .slice A6 m c6) (c := .int .i64 e.lg) (d := .int .i64 e.sq)
  unfold put4 at P O
  generalize (((w7.setCell ⟨w.heap.size + 1, 0, none⟩ (.slice A1 n c1)).setCell ⟨w.heap.size + 1, 1, none⟩ (.slice A6 m c6)).setCell ⟨w.heap.size + 1, 2, none⟩ (.int .i64 e.lg)).setCell ⟨w.heap.size + 1, 3, none⟩ (.int .i64 e.sq) = w9 at P O ⊢
  have s0 := cell_of_row _ _ 0 _ _ _ P
  have s1 := cell_of_row _ _ 1 _ _ _ P
  have s2 := cell_of_row _ _ 2 _ _ _ P
  have s3 := cell_of_row _ _ 3 _ _ _ P
  refine bodyPost_ret (v := .agg #[.slice A1 n c1, .slice A6 m c6, .int .i64 e.lg, .int .i64 e.sq]) (by simp [results, Tryz.results26, go_sem, s0, s1, s2, s3]) rfl ?_
  refine ⟨⟨A1, c1, .slice A6 m c6, ys, f, rfl, ?_, ?_, ?_, ?_, ?_⟩, HF7.out.trans (O.below (Below.size HF7.out) fun i h => by omega)⟩
  · have h1 := own_only HR7.out O fun g hg h => by have := (HR7.out.lt g hg).1; have := HSZ.out; omega
    refine ⟨h1.1, ?_⟩
    rcases h1.2 with h | ⟨g, cap, cur, h2, h3, h4⟩
    · exact .inl h
    · exact .inr ⟨g, cap, cur, h2, by have := HSZ.out; omega, h4⟩
  · exact HA7.out.only O fun i x _ hx h => by have := upT_le HA7.out.up (Nat.zero_le i); have := hx.1; have := HF00.out; have := HSZ.out; omega
  · have := HF00.out; have := HSZ.out; omega
  · exact Nat.le_trans HN7.out O.size
  · exact (HD7.out.only' O fun i h e => by omega).mono fun i h => by omega
end Go.Proofs.YtjnolpfmchnnmaaGreatDoor
end
section
namespace Go.Proofs.YtjnolpfmchnnmaaGreatDoor
set_option maxRecDepth 100000
open Go.RowKit Go.BigFrame
structure Spoil (T : Nat → Prop) (w w' : World) : Prop where
  only : Only T w w'
  byt : ∀ v bs, Byt w T v bs → ∃ bs' : List UInt8, bs'.length = bs.length ∧ Byt w' T v bs'
  loose : ∀ i, Loose w i → Loose w' i
theorem Spoil.refl (T : Nat → Prop) (w : World) : Spoil T w w := ⟨Only.refl _ _, fun _ bs h => ⟨bs, rfl, h⟩, fun _ h => h⟩
theorem Spoil.trans {T : Nat → Prop} {a b c : World} (h : Spoil T a b) (k : Spoil T b c) : Spoil T a c :=
  ⟨h.only.trans k.only, fun v bs hb => by
    obtain ⟨b1, l1, h1⟩ := h.byt v bs hb
    obtain ⟨b2, l2, h2⟩ := k.byt v b1 h1
    exact ⟨b2, by omega, h2⟩, fun i hi => k.loose i (h.loose i hi)⟩
theorem Spoil.drew {T : Nat → Prop} {w : World} : Spoil T w w.drew := ⟨(Only.refl _ _).drew, fun _ bs h => ⟨bs, rfl, h⟩, fun _ h => h⟩
theorem Spoil.store {T : Nat → Prop} {w : World} {b p : Nat} (hT : T b) (hL : Loose w b) (c : UInt8) : Spoil T w (w.setCell ⟨b, p, none⟩ (bcell c)) := by
  obtain ⟨cs, hh⟩ := hL
  have hs := heap_setCell_same w b p cs _ (bcell c) hh
  refine ⟨(only_set w b p (bcell c)).mono fun i hi => hi ▸ hT, fun v bs h => ?_, fun i hi => ?_⟩
  · obtain ⟨A, ca, rfl, h1, h2, h3, hr⟩ := h
    rcases Nat.eq_zero_or_pos bs.length with h0 | h0
    · have : bs = [] := List.eq_nil_of_length_eq_zero h0
      subst this
      exact ⟨[], rfl, A, ca, rfl, h1, h2, h3, Row.nil _ _ _ _⟩
    · obtain ⟨b', o, rfl, hS, hlt, hc⟩ := hr.2 h0
      by_cases hbb : b' = b
      · subst hbb
        refine ⟨if o ≤ p then bs.set (p - o) c else bs, by split <;> simp, some ⟨b', o, none⟩, ca, by split <;> simp, by split <;> simpa using h1, h2, by split <;> simpa using h3, by split <;> simp, fun _ => ⟨b', o, rfl, hS, by simpa [World.setCell] using hlt, fun j u hu => ?_⟩⟩
        rw [cell_of_row _ _ _ _ _ _ hs]
        have key : ∀ j u, (bs.map bcell)[j]? = some u → cs[o + j]? = some u := fun j u hu => by
          have := hc j u hu
          rwa [cell_of_row _ _ _ _ _ _ hh] at this
        by_cases hop : o ≤ p
        · rw [if_pos hop, List.map_set, List.getElem?_set] at hu
          by_cases hj : p - o = j
          · rw [if_pos hj] at hu
            split at hu
            · rename_i hjl
              simp only [Option.some.injEq] at hu
              have hjl' : j < bs.length := by simpa [hj] using hjl
              obtain ⟨u0, hu0⟩ : ∃ u, (bs.map bcell)[j]? = some u := ⟨_, List.getElem?_eq_getElem (by simpa using hjl')⟩
              have h5 := (Array.getElem?_eq_some_iff.1 (key j u0 hu0)).1
              rw [show o + j = p by omega] at h5 ⊢
              rw [Array.getElem?_setIfInBounds_self, if_pos h5, hu]
            · cases hu
          · rw [if_neg hj] at hu
            rw [Array.getElem?_setIfInBounds_ne (by omega)]
            exact key j u hu
        · rw [if_neg hop] at hu
          rw [Array.getElem?_setIfInBounds_ne (by omega)]
          exact key j u hu
      · refine ⟨bs, rfl, some ⟨b', o, none⟩, ca, rfl, h1, h2, h3, hr.1, fun _ => ⟨b', o, rfl, hS, by simpa [World.setCell] using hlt, fun j u hu => ?_⟩⟩
        rw [World.cell?_of_block (w' := w.setCell ⟨b, p, none⟩ (bcell c)) (w := w) (a := ⟨b', o + j, none⟩) (heap_setCell_other w ⟨b, p, none⟩ b' _ hbb)]
        exact hc j u hu
  · by_cases hib : i = b
    · subst hib; exact ⟨_, hs⟩
    · exact hi.of_eq (heap_setCell_other w ⟨b, p, none⟩ i _ hib)
theorem u8_next (c : UInt8) : Value.int .u8 (((c.toNat : Int) + 1) % 256) = bcell (c + 1) := by
  unfold bcell
  have : ((c.toNat : Int) + 1) % 256 = ((c + 1).toNat : Int) := by simp [UInt8.toNat_add]
  rw [this]
theorem Loose.frozen {w : World} {b p : Nat} (h : Loose w b) : w.frozen? ⟨b, p, none⟩ = false := by
  obtain ⟨cs, h⟩ := h
  exact frozen_of_row w b p cs _ h
theorem spoil_at {T : Nat → Prop} {w wr : World} {A : Option Addr} {n d : Nat} {bs : List UInt8} (hb : Byt w T (.slice A n d) bs) (hs : Spoil T w wr) (hL : ∀ i, T i → i < w.heap.size → Loose w i) {k : Nat} (hk : k < bs.length) :
    ∃ b o c, A = some ⟨b, o, none⟩ ∧ T b ∧ Loose wr b ∧ wr.cell? ⟨b, o + k, none⟩ = some (bcell c) := by
  obtain ⟨bs', hl, h'⟩ := hs.byt _ _ hb
  have hbw : ∀ b o, A = some ⟨b, o, none⟩ → b < w.heap.size := by
    obtain ⟨A', d', hE, _, _, _, hr⟩ := hb
    injection hE with e1 _ _
    subst e1
    obtain ⟨b', o', e, _, hlt, _⟩ := hr.2 (by omega)
    intro b o e'
    rw [e] at e'
    cases e'
    exact hlt
  obtain ⟨A', d', hE, _, _, _, hr⟩ := h'
  injection hE with e1 _ _
  subst e1
  obtain ⟨b, o, u, rfl, hT, _, hu, hc⟩ := hr.at_ (k := k) (by omega)
  obtain ⟨c, hcc⟩ : ∃ c, bs'[k]? = some c := ⟨_, List.getElem?_eq_getElem (by omega)⟩
  obtain rfl : u = bcell c := by rw [List.getElem?_map, hcc] at hu; injection hu with hu; exact hu.symm
  exact ⟨b, o, c, rfl, hT, hs.loose b (hL b hT (hbw b o rfl)), hc⟩
theorem ManG.only {w w' : World} {F G T : Nat → Prop} {M p num dn : Nat} {v : Ver} {D : Nm → Option (List UInt8)} (h : ManG w F M p v num dn D G) (ho : Only T w w') (hF : ∀ i, T i → ¬ F i) (hM : ¬ T M) (hG : ∀ i, G i → ¬ T i) : ManG w' F M p v num dn D G := by
  obtain ⟨⟨h1, h2, _, h5, h6, h7⟩, x, h3, h4⟩ := h
  have g4 := TabsV.only h4 ho fun i hi => hG i hi.1
  exact ⟨⟨h1.only ho fun i ht hf => hF i ht hf, h2, ⟨x, h3.only ho hM, Rows.keep tbFine g4 fun _ _ _ _ hr => hr.mono fun i hi => hi.2⟩, h5, h6, h7⟩, x, h3.only ho hM, g4⟩
end Go.Proofs.YtjnolpfmchnnmaaGreatDoor
end
section
namespace Go.Proofs.YtjnolpfmchnnmaaGreatDoor
set_option maxRecDepth 100000
open Go.RowKit Go.BigFrame Go.Shelf
attribute [local go_sem ↓] Go.wp_at_zero Go.wp_at_succ
def calm0 : Pk := ⟨[], -1, -1, [], 0, 0, false⟩
theorem calm0_ok : CalmK calm0 0 := ⟨rfl, rfl, rfl, .nil, fun _ h => (by cases h), by decide, by decide, by decide⟩
theorem Byt.one {w : World} {S : Nat → Prop} {g c : Nat} {b : UInt8} {v : Value} (h : w.cell? ⟨g, 0, none⟩ = some v) (hv : v = bcell b) (hS : S g) (hc : 1 ≤ c) (hc' : c ≤ 9223372036854775807) : Byt w S (.slice (some ⟨g, 0, none⟩) 1 c) [b] := by
  subst hv
  refine ⟨_, _, rfl, hc, hc', by simp, ⟨by simp, fun _ => ⟨g, 0, rfl, hS, World.block_lt_of_cell? w _ h, fun j u hu => ?_⟩⟩⟩
  match j, hu with
  | 0, hu => simp at hu; subst hu; simpa using h
theorem cell_marked (w : World) (cs : Array Value) (t : TypeId) (fr : Nat × Nat) (g j : Nat) (hg : g = w.heap.size) : (w.alloc (.cells cs t fr)).cell? ⟨g, j, none⟩ = cs[j]? := by
  subst hg; exact cell_of_row _ _ j cs t fr (heap_alloc_new w _)
end Go.Proofs.YtjnolpfmchnnmaaGreatDoor
end
section
namespace Go.Proofs.YtjnolpfmchnnmaaGreatDoor
set_option maxRecDepth 100000
open Go.RowKit Go.BigFrame Go.Sort Go.Shelf Go.Lib
attribute [local go_sem ↓] Go.wp_at_zero Go.wp_at_succ
def t7 : Tbl := ⟨7, 0, 1, [97], [98]⟩
def wv0 : Ver := ⟨[], 0, 0, 0⟩
def we0 : Edt := ⟨[t7], [], 0, 3⟩
def we1 : Edt := ⟨[], [], 2, 5⟩
def we2 : Edt := ⟨[], [], 1, 5⟩
def wv1 : Ver := ⟨[], 2, 5, 1⟩
theorem sortTb_nil : sortTb [] = [] := by simp [sortTb]
theorem wv1_eq : (⟨sortTb (foldT ver0 we1), we1.lg, we1.sq, foldN ver0 we1⟩ : Ver) = wv1 := by
  have : foldT ver0 we1 = [] := rfl
  rw [this, sortTb_nil]
  rfl
theorem sorts_nil (n : Nat) : Sorts sortTb (([] : List Tbl).take n) := sorts_small (by simp) (by simp [idsT])
set_option maxRecDepth 100000 in
set_option maxHeartbeats 1000000 in
theorem calm13_any (w : World) : Calls Tryz.prog 25 #[] w fun r w' => r = .returned (.agg #[.int .i64 (-1), .int .i64 (-1), .slice none 0 0]) ∧ fr w w' := by
  go_enter Tryz.func25, Tryz.ntmps25
  go_wp2
  have hb := heap_alloc_new w (.cells #[.int .i64 (-1), .int .i64 (-1), .slice none 0 0] 28)
  have c0 := cell_of_row _ _ 0 _ _ _ hb
  have c1 := cell_of_row _ _ 1 _ _ _ hb
  have c2 := cell_of_row _ _ 2 _ _ _ hb
  refine bodyPost_ret (v := .agg #[.int .i64 (-1), .int .i64 (-1), .slice none 0 0]) (by simp [results, Tryz.results25, go_sem, c0, c1, c2]) rfl ?_
  exact ⟨rfl, fr.alloc fr.refl _⟩
theorem t7_at (w : World) : TabsV (((w.alloc (.cells #[.int .u8 97] 5 (1, 2))).alloc (.cells #[.int .u8 98] 5 (1, 2))).alloc (.cells #[.int .i64 7, .int .i64 0, .int .i64 1, .slice (some ⟨w.heap.size, 0, none⟩) 1 1, .slice (some ⟨w.heap.size + 1, 0, none⟩) 1 1] 57)) (fun _ => True) (.slice (some ⟨w.heap.size + 1 + 1, 0, none⟩) 1 1) [t7] := by
  have h1 := cell_marked w #[.int .u8 97] 5 (1, 2) w.heap.size 0 rfl
  have h2 := cell_marked (w.alloc (.cells #[.int .u8 97] 5 (1, 2))) #[.int .u8 98] 5 (1, 2) (w.heap.size + 1) 0 (by simp)
  have b1 : Byt _ (fun _ => True) (.slice (some ⟨w.heap.size, 0, none⟩) 1 1) [97] := Byt.one (v := .int .u8 97) h1 rfl trivial (by omega) (by omega)
  have b2 : Byt _ (fun _ => True) (.slice (some ⟨w.heap.size + 1, 0, none⟩) 1 1) [98] := Byt.one (v := .int .u8 98) h2 rfl trivial (by omega) (by omega)
  have f1 : fr (w.alloc (.cells #[.int .u8 97] 5 (1, 2))) (((w.alloc (.cells #[.int .u8 97] 5 (1, 2))).alloc (.cells #[.int .u8 98] 5 (1, 2))).alloc (.cells #[.int .i64 7, .int .i64 0, .int .i64 1, .slice (some ⟨w.heap.size, 0, none⟩) 1 1, .slice (some ⟨w.heap.size + 1, 0, none⟩) 1 1] 57)) := fr.alloc (fr.alloc fr.refl _) _
  have f2 : fr ((w.alloc (.cells #[.int .u8 97] 5 (1, 2))).alloc (.cells #[.int .u8 98] 5 (1, 2))) (((w.alloc (.cells #[.int .u8 97] 5 (1, 2))).alloc (.cells #[.int .u8 98] 5 (1, 2))).alloc (.cells #[.int .i64 7, .int .i64 0, .int .i64 1, .slice (some ⟨w.heap.size, 0, none⟩) 1 1, .slice (some ⟨w.heap.size + 1, 0, none⟩) 1 1] 57)) := fr.alloc fr.refl _
  refine ⟨_, _, [_], rfl, by simp, by simp, by simp, ⟨by simp, fun _ => ⟨_, 0, rfl, trivial, by simp, fun j u hu => ?_⟩⟩, .cons ⟨_, _, rfl, b1.below f1, b2.below f2⟩ .nil⟩
  rw [World.cell?_alloc_at _ _ _ _ (by simp), Nat.zero_add, ← hu]
  simp [t7]
set_option maxRecDepth 100000 in
set_option maxHeartbeats 4000000 in
theorem mwakes_any (w : World) (ht : TabW w) : Calls Tryz.prog 23 #[] w fun r w' => r = .returned (.bool true) ∧ fr w w' := by
  have kc : ∀ (W : World) (C : Array Value) (n c g : Nat), g = W.heap.size → (convert 35 35 (.slice (some ⟨g, 0, none⟩) n c)).run Tryz.prog (W.alloc (.cells C 5)) = .ok (.slice (some ⟨g, 0, none⟩) n c) (W.alloc (.cells C 5 (C.size, C.size + 1))) := fun W C n c g hg => hg ▸ Lib.run_convert_bytes_const (P := Tryz.prog) W 35 5 C n c Tryz.underlying35 Tryz.underlying5
  have KC := Lib.hid kc
  go_enter Tryz.func23, Tryz.ntmps23
  go_upto_region 1 with (fail)
  go_wp2_with (fail)
  have hta := t7_at w
  have hf0 : fr w (((w.alloc (.cells #[.int .u8 97] 5 (1, 2))).alloc (.cells #[.int .u8 98] 5 (1, 2))).alloc (.cells #[.int .i64 7, .int .i64 0, .int .i64 1, .slice (some ⟨w.heap.size, 0, none⟩) 1 1, .slice (some ⟨w.heap.size + 1, 0, none⟩) 1 1] 57)) := fr.alloc (fr.alloc (fr.alloc fr.refl _) _) _
  have HF0 := Lib.hid hf0
  refine (fold_any sortTb (fun _ => True) (.slice none 0 0) _ (.slice none 0 0) wv0 we0 _ ⟨none, 0, [], rfl, by simp [wv0], by simp, by simp [wv0], Row.nil _ _ _ _, .nil⟩ hta (IntsIn.nil _ _) (by simp [wv0, idsT]) (by simp [wv0]) (sorts_small (by decide) (by decide))).mono ?_
  rintro r w1 ⟨R, rfl, hR, f1⟩
  rw [if_pos (by decide)] at hR
  obtain ⟨x2, rfl, ho⟩ := hR
  obtain ⟨A2, c2, rfl⟩ : ∃ A c, x2 = .slice A 1 c := by
    obtain ⟨A, c, h⟩ := ho.form
    have : (sortTb (foldT wv0 we0)).length = 1 := (sortTb_perm _).length_eq
    exact ⟨A, c, by rw [h, this]⟩
  have e1 : foldE wv0 we0 = 0 := by decide
  have e2 : foldN wv0 we0 = 8 := by decide
  rw [e1, e2, show we0.lg = 0 from rfl, show we0.sq = 3 from rfl]
  have HF1 := Lib.hid (fr.step HF0.out f1)
  clear hta hf0 ho f1 e1 e2 kc
  go_upto_region 2 with (fail)
  have bz := heap_alloc_new w1 (.cells #[.slice A2 1 c2, .int .i64 0, .int .i64 3, .int .i64 8] 50)
  have fz : fr w1 (w1.alloc (.cells #[.slice A2 1 c2, .int .i64 0, .int .i64 3, .int .i64 8] 50)) := fr.alloc fr.refl _
  obtain ⟨z, hz⟩ : ∃ z, w1.heap.size = z := ⟨_, rfl⟩
  rw [hz] at bz ⊢
  generalize w1.alloc (.cells #[.slice A2 1 c2, .int .i64 0, .int .i64 3, .int .i64 8] 50) = w2 at bz fz ⊢
  have HF2 := Lib.hid (fr.step HF1.out fz)
  have HZ := Lib.hid bz
  have HZL := Lib.hid (Array.getElem?_eq_some_iff.1 bz).1
  have HT2 := Lib.hid (ht.below HF2.out)
  have HTW := Lib.hid ht.lt
  have HZW : Hid (w.heap.size ≤ z) := Lib.hid (by rw [← hz]; exact Below.size HF1.out)
  clear hz bz fz ht
  go_upto_region 3 with (first | (go_at_call 25; refine (calm13_any _).mono ?_; rintro r w3 ⟨rfl, f3⟩) | (go_at_call 15; refine (new_dk (fun _ => True) (-1) (-1) _ [] w3 (IntsIn.nil _ _) (by simp) w3.heap.size (Nat.le_refl _)).mono ?_; rintro r w4 ⟨p, rfl, ⟨F, hd, hF⟩, f4⟩))
  have HF4 := Lib.hid (fr.step (fr.step HF2.out f3) f4)
  have hs3 := Below.size f3
  have HD4 : Hid (DkC w4 F p 0 (fun _ => none)) := Lib.hid ⟨fun i hi => ⟨(hF i hi).2, Nat.lt_of_lt_of_le HT2.out.lt (Nat.le_trans hs3 (hF i hi).1)⟩, calm0, hd, calm0_ok, rfl⟩
  have HFZ : Hid (∀ i, F i → z < i) := Lib.hid fun i hi => Nat.lt_of_lt_of_le HZL.out (Nat.le_trans hs3 (hF i hi).1)
  have HT4 := Lib.hid (HT2.out.below (fr.step f3 f4))
  have HZ4 : Hid (w4.heap[z]? = _) := Lib.hid ((Below.block (fr.step f3 f4) z HZL.out).trans HZ.out)
  clear hs3 hd hF f3 f4
  go_upto_region 4 with (go_at_call 24; refine (mopen_fresh F p 0 _ w4 HD4.out HT4.out rfl (by decide)).mono ?_; rintro r w5 ⟨rfl, ⟨F1, hS1, hM1⟩, hO1⟩)
  have HMZ : Hid (z < w4.heap.size) := Lib.hid (Array.getElem?_eq_some_iff.1 HZ4.out).1
  have hF1 : ∀ i, F1 i → z < i := fun i hi => (hS1 i hi).elim (HFZ.out i) fun h => Nat.lt_of_lt_of_le HMZ.out h
  have HK5 : Hid (Only (fun i => z < i) w4 w5) := Lib.hid (hO1.mono HFZ.out)
  have htz : tabG < z := Nat.lt_of_lt_of_le HTW.out HZW.out
  have HTZ : Hid (∀ i, z < i → tabG < i) := Lib.hid fun i hi => Nat.lt_trans htz hi
  obtain ⟨M, hM⟩ : ∃ M, w4.heap.size = M := ⟨_, rfl⟩
  obtain ⟨D1, hD1⟩ : ∃ D1, begunD (fun _ => none) 0 (frB (recsM (splitL ver0))) = D1 := ⟨_, rfl⟩
  rw [hM, hD1] at hM1
  rw [hM] at HMZ ⊢
  have HM1 : Hid (ManC w5 F1 M p ver0 1 1000 D1) := Lib.hid hM1
  have HF1 := Lib.hid hF1
  have HT5 := Lib.hid (HT4.out.only HK5.out HTZ.out)
  clear hS1 hM1 hO1 hF1 htz hM hD1
  have HV5 : Hid (Calls Tryz.prog 29 #[.pointer (some ⟨M, 0, none⟩)] w5 fun r w' => ∃ x', r = .returned (.agg #[x', .int .i64 0, .int .i64 0, .int .i64 1]) ∧ fr w5 w') := Lib.hid (by
    refine (mver_calm HM1.out).mono ?_
    rintro r w' ⟨x', rfl, _, h⟩
    exact ⟨x', rfl, h⟩)
  have hfd : ∀ (x : Value) (a b c : Int) (wx : World), (Instr.field 50 (.agg #[x, .int .i64 a, .int .i64 b, .int .i64 c]) 3).run Tryz.prog wx = .ok (.int .i64 c) wx := fun _ _ _ _ _ => by kernel_rfl
  have g1 : foldE ver0 we1 = 0 := by decide
  have HA6 : Hid (∀ wx, fr w5 wx → Calls Tryz.prog 28 #[.pointer (some ⟨M, 0, none⟩), .agg #[.slice none 0 0, .slice none 0 0, .int .i64 2, .int .i64 5]] wx fun r w' => r = .returned (.int .i64 0) ∧ (∃ F2 D2, (∀ i, F2 i → z < i) ∧ ManC w' F2 M p wv1 1 1002 D2) ∧ Only (fun i => z < i) wx w') := Lib.hid fun wx hx => by
    refine (mapply_any (fun _ => True) F1 M p 1 1000 ver0 D1 (.slice none 0 0) (.slice none 0 0) we1 wx (HM1.out.below hx) (HT5.out.below hx) ⟨none, 0, [], rfl, by simp [we1], by simp, by simp [we1], Row.nil _ _ _ _, .nil⟩ (IntsIn.nil _ _) (sorts_nil 0) (fun t ht => by cases ht) (by decide) (by decide) (by decide)).mono ?_
    rintro r w' ⟨rfl, h1, h2⟩
    rw [if_pos g1, wv1_eq] at h1
    obtain ⟨F2, hS2, hM2⟩ := h1
    refine ⟨by rw [g1], ⟨F2, _, fun i hi => (hS2 i hi).elim (HF1.out i) fun h => ?_, hM2⟩, h2.mono fun i hi => hi.elim (HF1.out i) fun e => e ▸ HMZ.out⟩
    have := HMZ.out
    have := HM1.out.lt
    have := Below.size hx
    omega
  have g2 : foldE wv1 we2 = 2 := by decide
  have HA7 : Hid (∀ (F2 : Nat → Prop) (D2 : Nm → Option (List UInt8)) wx, ManC wx F2 M p wv1 1 1002 D2 → TabW wx → (∀ i, F2 i → z < i) → Calls Tryz.prog 28 #[.pointer (some ⟨M, 0, none⟩), .agg #[.slice none 0 0, .slice none 0 0, .int .i64 1, .int .i64 5]] wx fun r w' => r = .returned (.int .i64 2) ∧ ManC w' F2 M p wv1 1 1002 D2 ∧ Only (fun i => z < i) wx w') := Lib.hid fun F2 D2 wx hm htx hf2 => by
    refine (mapply_any (fun _ => True) F2 M p 1 1002 wv1 D2 (.slice none 0 0) (.slice none 0 0) we2 wx hm htx ⟨none, 0, [], rfl, by simp [we2], by simp, by simp [we2], Row.nil _ _ _ _, .nil⟩ (IntsIn.nil _ _) (sorts_nil 0) (fun t ht => by cases ht) (by decide) (by decide) (by decide)).mono ?_
    rintro r w' ⟨rfl, h1, h2⟩
    rw [if_neg (by rw [g2]; decide)] at h1
    exact ⟨by rw [g2], h1, h2.mono fun i hi => hi.elim (hf2 i) fun e => e ▸ HMZ.out⟩
  clear g1 g2
  go_upto_region 6 with (first
    | (go_at_call 29; refine HV5.out.mono ?_; rintro r w6 ⟨x6, rfl, f6⟩)
    | (go_at_call 28; refine (HA7.out F2 D2 _ hM2 ((HT5.out.below f6).only hO7 HTZ.out) hF2).mono ?_; rintro r w8 ⟨rfl, hM3, hO8⟩)
    | (go_at_call 28; refine (HA6.out _ f6).mono ?_; rintro r w7 ⟨rfl, ⟨F2, D2, hF2, hM2⟩, hO7⟩))
  have HK8 := Lib.hid (((HK5.out.trans (Only.of_below f6)).trans hO7).trans hO8)
  have HM8 := Lib.hid hM3
  have HF8 := Lib.hid hF2
  clear f6 hO7 hO8 hM2 hM3 hF2 hfd HV5 HA6 HA7
  have hz8 : z < w8.heap.size := Nat.lt_trans HMZ.out HM8.out.lt
  have HZ8 := Lib.hid hz8
  go_upto_region 7 with (go_at_call 24; refine (mopen_again F2 p 1 1002 1002 wv1 D2 w8 HM8.out.dk (HT4.out.only HK8.out HTZ.out) HM8.out.file (by decide) (by decide) (by decide) HM8.out.ver sorts_nil (by decide)).mono ?_; rintro r w9 ⟨rfl, ⟨F9, hS9, hM9⟩, hO9⟩)
  have HM9 := Lib.hid hM9
  have HK9 := Lib.hid (HK8.out.trans (hO9.mono HF8.out))
  clear hS9 hM9 hO9 hz8
  obtain ⟨M2, hM2⟩ : ∃ M2, w8.heap.size = M2 := ⟨_, rfl⟩
  rw [hM2] at HM9 ⊢
  have HV9 : Hid (∀ wx, fr w9 wx → Calls Tryz.prog 29 #[.pointer (some ⟨M2, 0, none⟩)] wx fun r w' => ∃ x', r = .returned (.agg #[x', .int .i64 2, .int .i64 5, .int .i64 1]) ∧ fr wx w') := Lib.hid fun wx hx => by
    refine (mver_calm (HM9.out.below hx)).mono ?_
    rintro r w' ⟨x', rfl, _, h⟩
    exact ⟨x', rfl, h⟩
  have HNM : Hid (∀ wx, fr w9 wx → Calls Tryz.prog 75 #[.int .i64 7] wx fun r w' => r = .returned (.string ⟨#[116, 48, 48, 48, 48, 48, 55, 46, 116, 98, 108]⟩) ∧ fr wx w') := Lib.hid fun wx hx => by
    refine (mname_any 7 wx ((HT4.out.only HK9.out HTZ.out).below hx) (by decide)).mono ?_
    rintro r w' ⟨rfl, h⟩
    exact ⟨by rfl, h⟩
  have hfd1 : ∀ (x : Value) (a b c : Int) (wx : World), (Instr.field 50 (.agg #[x, .int .i64 a, .int .i64 b, .int .i64 c]) 1).run Tryz.prog wx = .ok (.int .i64 a) wx := fun _ _ _ _ _ => by kernel_rfl
  have hfd2 : ∀ (x : Value) (a b c : Int) (wx : World), (Instr.field 50 (.agg #[x, .int .i64 a, .int .i64 b, .int .i64 c]) 2).run Tryz.prog wx = .ok (.int .i64 b) wx := fun _ _ _ _ _ => by kernel_rfl
  have hz9 : w9.heap[z]? = some (.cells #[.slice A2 1 c2, .int .i64 0, .int .i64 3, .int .i64 8] 50 (0, 0)) := (HK9.out.block z ((Array.getElem?_eq_some_iff.1 HZ4.out).1) (by omega)).trans HZ4.out
  have HF9 : Hid (fr w w9) := Lib.hid (HF4.out.trans (HK9.out.below (Below.size HF4.out) fun i h => by have := HZW.out; omega))
  have c0 := cell_of_row _ _ 0 _ _ _ hz9
  have c3 := cell_of_row _ _ 3 _ _ _ hz9
  clear hz9 hM2
  go_wp2_with (first
    | (go_at_call 75; refine (HNM.out _ (fr.step f10 f11)).mono ?_; rintro r w12 ⟨rfl, f12⟩)
    | (go_at_call 29; refine (HV9.out _ f10).mono ?_; rintro r w11 ⟨x11, rfl, f11⟩)
    | (go_at_call 29; refine (HV9.out _ fr.refl).mono ?_; rintro r w10 ⟨x10, rfl, f10⟩))
  go_ret
  exact ⟨rfl, fr.step (fr.step (fr.step HF9.out f10) f11) f12⟩
end Go.Proofs.YtjnolpfmchnnmaaGreatDoor
end
section
namespace Go.Proofs.YtjnolpfmchnnmaaGreatDoor
set_option maxRecDepth 100000
open Go.RowKit Go.BigFrame
attribute [local go_sem ↓] Go.wp_at_zero Go.wp_at_succ
set_option maxRecDepth 100000 in
set_option maxHeartbeats 4000000 in
theorem stable_any (base n : Nat) (v : Value) (l : List Tbl) (w : World) (h : OwnTabs w base v l) (hn : l.length = n) (hbig : n ≤ 1073742848) :
    Calls Tryz.prog 195 #[v, .int .i64 n, lessTV] w fun r w' => r = .returned (.tuple #[]) ∧ ∃ l', OwnTabs w' base v l' ∧ Moved 0 n l l' ∧ OrdOn l' 0 n ∧ Only (fun i => v.ownBlock = some i) w w' := by
  obtain ⟨A, c, rfl⟩ := (show ∃ A c, v = .slice A l.length c by obtain ⟨css, h, _⟩ := h; exact own_form h)
  rw [hn] at h ⊢
  have H := Lib.hid h
  have HN := Lib.hid hn
  clear h hn
  go_enter Tryz.func195, Tryz.ntmps195
  go_wp2
  go_loopw [7, 8] (fun u t wx => ∃ (k a b : Nat) (l1 : List Tbl), u = .int .i64 a ∧ t = .int .i64 b ∧ a + 20 = b ∧ k * 20 = a ∧ a ≤ n ∧ OwnTabs wx base (.slice A n c) l1 ∧ Moved 0 n l l1 ∧ (∀ p, p < k → OrdOn l1 (p * 20) (p * 20 + 20)) ∧ Only (fun i => (Value.slice A n c).ownBlock = some i) w wx) (fun u _ _ => n - (intOf u).toNat)
  case atStart => exact ⟨0, 0, 20, l, rfl, rfl, rfl, rfl, Nat.zero_le _, H.out, Moved.refl _ _ _, fun p hp => absurd hp (Nat.not_lt_zero _), Only.refl _ _⟩
  case round =>
    obtain ⟨k, a, b, l1, rfl, rfl, hab, hk, han, how, hmv, hord, hon⟩ := hrel
    have hl1 : l1.length = n := by have := hmv.perm.length_eq; have := HN.out; omega
    have hlt : a < b := by omega
    have hbb : b < 1073742900 := by omega
    have HK := Lib.hid hk
    have HAB := Lib.hid hab
    have HMV := Lib.hid hmv
    have HORD := Lib.hid hord
    have HON := Lib.hid hon
    by_cases hbn : b ≤ n
    · as_aux_lemma =>
        have HC := Lib.hid (insertion_any base a b n _ l1 wr how hl1 (by omega) hbn hbig)
        clear how hmv hord hon hk hab hl1
        have hd : decide ((b : Int) ≤ (n : Int)) = true := decide_eq_true (by omega)
        go_wp2_with (go_at_call 238; refine HC.out.mono ?_; rintro r w2 ⟨rfl, l2, how, hmv, hord, hon⟩)
        have hkb : k * 20 + 20 = b := by have := HK.out; have := HAB.out; omega
        refine ⟨⟨k + 1, b, b + 20, l2, rfl, by go_num, rfl, by have := hkb; omega, hbn, how, HMV.out.trans (hmv.wide hbn), ?_, HON.out.trans hon⟩, by have := HAB.out; simp [intOf]; omega⟩
        rw [← HK.out] at hmv hord
        have e : k * 20 + 20 = b := hkb
        rw [← e] at hmv hord
        exact ins_next HORD.out hmv hord
    · as_aux_lemma =>
        have HC := Lib.hid (insertion_any base a n n _ l1 wr how hl1 (by omega) (Nat.le_refl _) hbig)
        clear how hmv hord hon hk hab hl1
        have hd : decide ((b : Int) ≤ (n : Int)) = false := decide_eq_false (by omega)
        go_wp2_with (go_at_call 238; refine HC.out.mono ?_; rintro r w2 ⟨rfl, l2, how, hmv, hord, hon⟩)
        have hl2 : l2.length = n := by have := hmv.perm.length_eq; have := HMV.out.perm.length_eq; have := HN.out; omega
        have hblk : Blk 20 l2 := by
          have hmv2 := hmv
          have hord2 := hord
          rw [← HK.out] at hmv2 hord2
          exact ins_end HORD.out hmv2 hord2 hl2 (by have := HK.out; have := HAB.out; omega)
        have HOW2 := Lib.hid how
        have HMV2 := Lib.hid (HMV.out.trans (hmv.wide (Nat.le_refl _)))
        have HBLK := Lib.hid hblk
        have HON2 := Lib.hid (HON.out.trans hon)
        clear how hmv hord hon hl2 hblk
        obtain ⟨w0, hw0⟩ : ∃ w0, w0 = w2 := ⟨_, rfl⟩
        subst hw0
        go_loopw [6, 7, 8, 9] (fun t _ _ _ wx => ∃ (B : Nat) (l3 : List Tbl), t = .int .i64 B ∧ 0 < B ∧ B ≤ 2147485800 ∧ OwnTabs wx base (.slice A n c) l3 ∧ Moved 0 n l l3 ∧ Blk B l3 ∧ Only (fun i => (Value.slice A n c).ownBlock = some i) w wx) (fun t _ _ _ _ => n - (intOf t).toNat)
        case atStart => exact ⟨20, l2, rfl, by decide, by decide, HOW2.out, HMV2.out, HBLK.out, HON2.out⟩
        case round =>
          obtain ⟨B, l3, rfl, hB, hBb, how, hmv, hblk, hon⟩ := hrel
          have hl3 : l3.length = n := by have := hmv.perm.length_eq; have := HN.out; omega
          have HOW3 := Lib.hid how
          have HMV3 := Lib.hid hmv
          have HBLK3 := Lib.hid hblk
          have HON3 := Lib.hid hon
          clear how hmv hblk hon HOW2 HMV2 HBLK HON2
          by_cases hBn : B < n
          · as_aux_lemma =>
              have hd : decide ((B : Int) < (n : Int)) = true := decide_eq_true (by omega)
              clear hl3
              obtain ⟨w3, hw3⟩ : ∃ w3, w3 = wr := ⟨_, rfl⟩
              subst hw3
              go_wp2_with (fail)
              go_loopw [7, 8] (fun u t wx => ∃ (q a b : Nat) (l4 : List Tbl), u = .int .i64 a ∧ t = .int .i64 b ∧ a + 2 * B = b ∧ q * (2 * B) = a ∧ a ≤ n ∧ OwnTabs wx base (.slice A n c) l4 ∧ Moved 0 n l l4 ∧ Blk2 B q l4 ∧ Only (fun i => (Value.slice A n c).ownBlock = some i) w wx) (fun u _ _ => n - (intOf u).toNat)
              case atStart => exact ⟨0, 0, 2 * B, l3, rfl, by go_num, by omega, by omega, Nat.zero_le _, HOW3.out, HMV3.out, blk2_zero HBLK3.out, HON3.out⟩
              case round =>
                obtain ⟨q, a, b, l4, rfl, rfl, hab, hq, han, how, hmv, hblk, hon⟩ := hrel
                have hl4 : l4.length = n := by have := hmv.perm.length_eq; have := HN.out; omega
                have hbb : b < 4294971700 := by omega
                obtain ⟨m, hm⟩ : ∃ m, a + B = m := ⟨_, rfl⟩
                have hm2 : (a : Int) + (B : Int) = (m : Int) := by omega
                have hmb : m < b := by omega
                have ham : a < m := by omega
                have h1 := blk2_left hblk hq
                have h2 := blk2_right hblk hq
                rw [hm] at h1 h2
                rw [hab] at h2
                have HQ := Lib.hid hq
                have HAB := Lib.hid hab
                have HMB := Lib.hid hm
                have HL4 := Lib.hid hl4
                have HMV4 := Lib.hid hmv
                have HBLK4 := Lib.hid hblk
                have HON4 := Lib.hid hon
                by_cases hbn : b ≤ n
                · as_aux_lemma =>
                    have HC := Lib.hid (sym_idx base n a m b _ l4 wr how hl4 ham hmb hbn h1 h2 hbig)
                    clear how hmv hblk hon hq hab hl4 hm h1 h2
                    have hd2 : decide ((b : Int) ≤ (n : Int)) = true := decide_eq_true (by omega)
                    go_wp2_with (first | rw [hm2] | (go_at_call 239; refine HC.out.mono ?_; rintro r w5 ⟨rfl, l5, how, hmv, hord, hon⟩))
                    refine ⟨⟨q + 1, b, b + 2 * B, l5, rfl, by go_num, rfl, by have := HQ.out; have := HAB.out; rw [Nat.succ_mul]; omega, hbn, how, HMV4.out.trans (hmv.wide hbn), ?_, HON4.out.trans hon⟩, by simp [intOf]; omega⟩
                    rw [← HAB.out] at hmv hord
                    exact blk2_next HBLK4.out HQ.out hmv hord
                · as_aux_lemma =>
                    have hd2 : decide ((b : Int) ≤ (n : Int)) = false := decide_eq_false (by omega)
                    by_cases hmn : m < n
                    · have HC := Lib.hid (sym_idx base n a m n _ l4 wr how hl4 ham hmn (Nat.le_refl _) h1 (h2.wide (by omega)) hbig)
                      clear how hmv hblk hon hq hab hl4 hm h1 h2
                      have hd3 : decide ((m : Int) < (n : Int)) = true := decide_eq_true (by omega)
                      go_wp2_with (first | rw [hm2] | (go_at_call 239; refine HC.out.mono ?_; rintro r w5 ⟨rfl, l5, how, hmv, hord, hon⟩))
                      have hl5 : l5.length = n := by have := hmv.perm.length_eq; have := HL4.out; omega
                      refine ⟨⟨2 * B, l5, by go_num, by omega, by omega, how, HMV4.out.trans (hmv.wide (Nat.le_refl _)), ?_, HON4.out.trans hon⟩, by simp [intOf]; omega⟩
                      exact blk2_tail HBLK4.out HQ.out hmv hord hl5 (by have := HAB.out; omega)
                    · have HOW4 := Lib.hid how
                      clear how hmv hblk hon hq hab hl4 hm h1 h2
                      have hd3 : decide ((m : Int) < (n : Int)) = false := decide_eq_false (by omega)
                      go_wp2_with (rw [hm2])
                      refine ⟨⟨2 * B, l4, by go_num, by omega, by omega, HOW4.out, HMV4.out, ?_, HON4.out⟩, by simp [intOf]; omega⟩
                      exact blk2_tail0 HBLK4.out HQ.out HL4.out (by have := HMB.out; omega)
          · have hd : decide ((B : Int) < (n : Int)) = false := decide_eq_false (by omega)
            have HL3 := Lib.hid hl3
            clear hl3
            go_wp2_with (fail)
            refine bodyPost_end (v := .tuple #[]) (by simp [results, Tryz.results195, go_sem]) rfl ?_
            exact ⟨rfl, l3, HOW3.out, HMV3.out, blk_done HBLK3.out HL3.out (by omega), HON3.out⟩
set_option maxRecDepth 100000 in
theorem sort_any (base : Nat) (v : Value) (l : List Tbl) (w : World) (h : OwnTabs w base v l) (hs : l.length ≤ 1073742848) :
    Calls Tryz.prog 125 #[v, lessTV] w fun r w' => r = .returned (.tuple #[]) ∧ ∃ l', OwnTabs w' base v l' ∧ Moved 0 l.length l l' ∧ OrdOn l' 0 l.length ∧ Only (fun i => v.ownBlock = some i) w w' := by
  have HC := Lib.hid (stable_any base l.length v l w h rfl hs)
  obtain ⟨A, c, rfl⟩ := (show ∃ A c, v = .slice A l.length c by obtain ⟨css, h, _⟩ := h; exact own_form h)
  clear h
  go_enter Tryz.func125, Tryz.ntmps125
  go_wp2_with (go_at_call 195; refine HC.out.mono ?_; rintro r w2 ⟨rfl, l2, how, hmv, hord, hon⟩)
  refine bodyPost_end (v := .tuple #[]) (by simp [results, Tryz.results125, go_sem]) rfl ?_
  exact ⟨rfl, l2, how, hmv, hord, hon⟩
theorem sorts_any {l : List Tbl} (hs : l.length ≤ 1073742848) (hn : (idsT l).Nodup) : Sorts sortTb l := by
  intro w base x h
  refine (sort_any base x l w h hs).mono ?_
  rintro r w' ⟨rfl, l', h1, h2, h3, h4⟩
  rw [sortTb_only h2 h3 hn] at h1
  exact ⟨rfl, h1, h4⟩
end Go.Proofs.YtjnolpfmchnnmaaGreatDoor
end
