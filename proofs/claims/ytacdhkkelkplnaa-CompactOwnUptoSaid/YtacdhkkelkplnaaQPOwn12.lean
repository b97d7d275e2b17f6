/-
The function values of compact: what they tell of tables; overlap (printed by gencpf.py).
-/
import Derived.Test.YtacdhkkelkplnaaQPOwn11
section
namespace Go.Proofs.Ytacdhkkelkplnaa
open Go.RowKit Go.BigFrame
attribute [local go_sem ↓] Go.wp_at_zero Go.wp_at_succ
set_option maxRecDepth 100000 in
set_option maxHeartbeats 2000000 in
theorem index_any (S : Nat → Prop) (v : Value) (zs : List Int) (x : Int) (w : World) (hv : IntsIn w S v zs) :
    Calls Try.prog 62 #[v, .int .i64 x] w fun r w' => ∃ i : Int, r = .returned (.int .i64 i) ∧ (0 ≤ i ↔ x ∈ zs) ∧ fr w w' := by
  obtain ⟨A, c, rfl, h1, h2, hr⟩ := hv
  obtain ⟨n, hn⟩ : ∃ n, zs.length = n := ⟨_, rfl⟩
  rw [hn] at h1 h2 hr ⊢
  have HN := Lib.hid hn
  have HR := Lib.hid hr
  clear hn hr
  go_enter Try.func62, Try.ntmps62
  go_wp2
  go_loopw [8] (fun t wr => ∃ k : Nat, k ≤ n ∧ t = .int .i64 k ∧ x ∉ zs.take k ∧ fr w wr) (fun t _ => n - (intOf t).toNat)
  case atStart => exact ⟨0, Nat.zero_le _, rfl, by simp, fr.refl⟩
  case round =>
    obtain ⟨k, hk, rfl, hno, hbel⟩ := hrel
    have HNO := Lib.hid hno
    have HB := Lib.hid hbel
    clear hno hbel
    by_cases hkn : k < n
    · obtain ⟨z, hz⟩ : ∃ z, zs[k]? = some z := ⟨_, List.getElem?_eq_getElem (by rw [HN.out]; exact hkn)⟩
      obtain ⟨b, o, u, rfl, _, _, hu, hcell⟩ := (HR.out.below HB.out).at_ hkn
      obtain rfl : u = .int .i64 z := by rw [List.getElem?_map, hz] at hu; injection hu with hu; exact hu.symm
      have HZ := Lib.hid hz
      clear hu hz
      by_cases hxz : x = z
      · subst hxz
        go_wp2
        refine bodyPost_ret (v := .int .i64 k) (by simp [results, Try.results62, go_sem]) rfl ?_
        exact ⟨k, rfl, ⟨fun _ => List.mem_of_getElem? HZ.out, fun _ => by omega⟩, HB.out⟩
      · have hd : (x == z) = false := by simpa using hxz
        go_wp2
        refine ⟨⟨k + 1, by omega, by go_num, ?_, HB.out⟩, by simp [intOf]; omega⟩
        rw [take_snoc HZ.out, List.mem_append, List.mem_singleton]
        exact fun h => h.elim HNO.out hxz
    · obtain rfl : k = n := by omega
      go_wp2
      refine bodyPost_ret (v := .int .i64 (-1)) (by simp [results, Try.results62, go_sem]) rfl ?_
      have := HNO.out
      rw [List.take_of_length_le (by rw [HN.out]; exact Nat.le_refl _)] at this
      exact ⟨-1, rfl, ⟨fun h => absurd h (by omega), fun h => absurd h this⟩, HB.out⟩
set_option maxRecDepth 100000 in
theorem contains_any (S : Nat → Prop) (v : Value) (zs : List Int) (x : Int) (w : World) (hv : IntsIn w S v zs) :
    Calls Try.prog 43 #[v, .int .i64 x] w fun r w' => r = .returned (.bool (decide (x ∈ zs))) ∧ fr w w' := by
  go_enter Try.func43, Try.ntmps43
  go_wp2_with (go_at_call 62; refine (index_any S v zs x w hv).mono ?_; rintro r w1 ⟨i, rfl, hi, hf⟩; have HI := Lib.hid hi; clear hi)
  refine bodyPost_ret (v := .bool (decide (0 ≤ i))) (by simp [results, Try.results43, go_sem]) rfl ?_
  exact ⟨ret_bool (decide_eq_decide.2 HI.out), hf⟩
set_option maxRecDepth 100000 in
set_option maxHeartbeats 2000000 in
theorem indexF_any (S : Nat → Prop) (v : Value) (ts : List Tbl) (g : Nat) (lb : Array Value) (p : Tbl → Bool) (w : World) (eg : ∀ args w, (callFunc g args).run Try.prog w = .ok (.enter g args) w) (hv : TabsV w S v ts) (hp : PredT g lb p w) :
    Calls Try.prog 63 #[v, .func (.func g) #[] lb] w fun r w' => ∃ i : Int, r = .returned (.int .i64 i) ∧ (0 ≤ i ↔ ts.any p = true) ∧ fr w w' := by
  obtain ⟨A, c, rfl⟩ := hv.form
  have hmany : ts.length * 72 ≤ 140737488355328 := by obtain ⟨_, _, _, _, _, _, h3, _⟩ := hv; exact h3
  obtain ⟨n, hn⟩ : ∃ n, ts.length = n := ⟨_, rfl⟩
  rw [hn] at hv hmany ⊢
  have HN := Lib.hid hn
  have H := Lib.hid hv
  have HP := Lib.hid hp
  clear hn hv hp
  go_enter Try.func63, Try.ntmps63
  go_wp2
  go_loopw [8] (fun t wr => ∃ k : Nat, k ≤ n ∧ t = .int .i64 k ∧ (ts.take k).any p = false ∧ fr w wr) (fun t _ => n - (intOf t).toNat)
  case atStart => exact ⟨0, Nat.zero_le _, rfl, by simp, fr.refl⟩
  case round =>
    obtain ⟨k, hk, rfl, hno, hbel⟩ := hrel
    have HNO := Lib.hid hno
    have HB := Lib.hid hbel
    clear hno hbel
    by_cases hkn : k < n
    · obtain ⟨t, hf⟩ : ∃ t, ts[k]? = some t := ⟨_, List.getElem?_eq_getElem (by rw [HN.out]; exact hkn)⟩
      obtain ⟨b, o, cs, rfl, hblt, _, ⟨va, vb, rfl, hva, hvb⟩, hc⟩ := Rws.at_ tbFine (H.out.below tbFine HB.out) hf
      have x0 : wr.cell? ⟨b, o + k * 5, none⟩ = _ := hc 0 _ rfl
      have x1 : wr.cell? ⟨b, o + k * 5 + 1, none⟩ = _ := hc 1 _ rfl
      have x2 : wr.cell? ⟨b, o + k * 5 + 2, none⟩ = _ := hc 2 _ rfl
      have x3 : wr.cell? ⟨b, o + k * 5 + 3, none⟩ = _ := hc 3 _ rfl
      have x4 : wr.cell? ⟨b, o + k * 5 + 4, none⟩ = _ := hc 4 _ rfl
      have HPC := Lib.hid (HP.out wr S _ t HB.out ⟨_, _, rfl, hva, hvb⟩)
      have HF := Lib.hid hf
      clear hc hf hva hvb
      by_cases hpt : p t = true
      · rw [hpt] at HPC
        go_wp2_with (go_at_fn g; refine HPC.out.mono ?_; rintro e w1 ⟨rfl, hf1⟩)
        refine bodyPost_ret (v := .int .i64 k) (by simp [results, Try.results63, go_sem]) rfl ?_
        exact ⟨k, rfl, ⟨fun _ => List.any_eq_true.2 ⟨t, List.mem_of_getElem? HF.out, hpt⟩, fun _ => by omega⟩, fr.step HB.out hf1⟩
      · have hpf : p t = false := by simpa using hpt
        rw [hpf] at HPC
        go_wp2_with (go_at_fn g; refine HPC.out.mono ?_; rintro e w1 ⟨rfl, hf1⟩)
        refine ⟨⟨k + 1, by omega, by go_num, ?_, fr.step HB.out hf1⟩, by simp [intOf]; omega⟩
        rw [take_snoc HF.out, List.any_append, HNO.out]
        simp [hpf]
    · obtain rfl : k = n := by omega
      go_wp2
      refine bodyPost_ret (v := .int .i64 (-1)) (by simp [results, Try.results63, go_sem]) rfl ?_
      have := HNO.out
      rw [List.take_of_length_le (by rw [HN.out]; exact Nat.le_refl _)] at this
      exact ⟨-1, rfl, ⟨fun h => absurd h (by omega), fun h => by rw [this] at h; cases h⟩, HB.out⟩
set_option maxRecDepth 100000 in
theorem containsF_any (S : Nat → Prop) (v : Value) (ts : List Tbl) (g : Nat) (lb : Array Value) (p : Tbl → Bool) (w : World) (eg : ∀ args w, (callFunc g args).run Try.prog w = .ok (.enter g args) w) (hv : TabsV w S v ts) (hp : PredT g lb p w) :
    Calls Try.prog 44 #[v, .func (.func g) #[] lb] w fun r w' => r = .returned (.bool (ts.any p)) ∧ fr w w' := by
  go_enter Try.func44, Try.ntmps44
  go_wp2_with (go_at_call 63; refine (indexF_any S v ts g lb p w eg hv hp).mono ?_; rintro r w1 ⟨i, rfl, hi, hf⟩; have HI := Lib.hid hi; clear hi)
  refine bodyPost_ret (v := .bool (decide (0 ≤ i))) (by simp [results, Try.results44, go_sem]) rfl ?_
  exact ⟨ret_bool (by rw [Bool.eq_iff_iff, decide_eq_true_iff]; exact HI.out), hf⟩
end Go.Proofs.Ytacdhkkelkplnaa
end
section
namespace Go.Proofs.Ytacdhkkelkplnaa
open Go.RowKit Go.BigFrame
attribute [local go_sem ↓] Go.wp_at_zero Go.wp_at_succ
/-- a function value that compares tables, from a world on. -/
def CmpT (g : Nat) (c : Tbl → Tbl → Int) (w0 : World) : Prop :=
  ∀ (W : World) (S S' : Nat → Prop) (tv uv : Value) (t u : Tbl), fr w0 W → TabV W S tv t → TabV W S' uv u → Calls Try.prog g (#[tv, uv] ++ #[]) W fun e w' => e = .returned (.int .i64 (c t u)) ∧ fr W w'
theorem CmpT.later {g : Nat} {c : Tbl → Tbl → Int} {w w' : World} (h : CmpT g c w) (hf : fr w w') : CmpT g c w' := fun W S S' tv uv t u hW => h W S S' tv uv t u (fr.step hf hW)
def minL (c : Tbl → Tbl → Int) (m : Tbl) (ts : List Tbl) : Tbl := ts.foldl (fun m t => if c t m < 0 then t else m) m
def maxL (c : Tbl → Tbl → Int) (m : Tbl) (ts : List Tbl) : Tbl := ts.foldl (fun m t => if c t m > 0 then t else m) m
def set5 (w : World) (B : Nat) (t : Tbl) (a b : Value) : World := ((((w.setCell ⟨B, 0, none⟩ (.int .i64 t.id)).setCell ⟨B, 1, none⟩ (.int .i64 t.level)).setCell ⟨B, 2, none⟩ (.int .i64 t.count)).setCell ⟨B, 3, none⟩ a).setCell ⟨B, 4, none⟩ b
abbrev tabO (t : Tbl) (a b : Value) : Obj := .cells #[.int .i64 t.id, .int .i64 t.level, .int .i64 t.count, a, b] 63 (0, 0)
theorem set5_block {w : World} {B : Nat} {z t : Tbl} {x y a b : Value} (h : w.heap[B]? = some (tabO z x y)) : (set5 w B t a b).heap[B]? = some (tabO t a b) := by
  have h1 := heap_setCell_same w B 0 _ _ (.int .i64 t.id) h
  have h2 := heap_setCell_same _ B 1 _ _ (.int .i64 t.level) h1
  have h3 := heap_setCell_same _ B 2 _ _ (.int .i64 t.count) h2
  have h4 := heap_setCell_same _ B 3 _ _ a h3
  have h5 := heap_setCell_same _ B 4 _ _ b h4
  exact h5
theorem set5_only (w : World) (B : Nat) (t : Tbl) (a b : Value) : Only (fun i => i = B) w (set5 w B t a b) :=
  (((((Only.refl (fun i => i = B) w).setCell (p := ⟨B, 0, none⟩) rfl _).setCell (p := ⟨B, 1, none⟩) rfl _).setCell (p := ⟨B, 2, none⟩) rfl _).setCell (p := ⟨B, 3, none⟩) rfl _).setCell (p := ⟨B, 4, none⟩) rfl _
theorem set5_fr {W w : World} {B : Nat} (t : Tbl) (a b : Value) (h : fr W w) (hB : W.heap.size ≤ B) : fr W (set5 w B t a b) := h.trans ((set5_only w B t a b).below (Below.size h) (fun i e => by omega))
theorem set5_byt {w : World} {B : Nat} {S : Nat → Prop} {v : Value} {bs : List UInt8} (t : Tbl) (a b : Value) (h : Byt w S v bs) (hB : ∀ i, S i → i < B) : Byt (set5 w B t a b) S v bs := h.only (set5_only w B t a b) (fun i _ hi e => by have := hB i hi; omega)
theorem set5_other {w : World} {B i : Nat} {x : Obj} (t : Tbl) (a b : Value) (h : w.heap[i]? = some x) (hi : i ≠ B) : (set5 w B t a b).heap[i]? = some x := ((set5_only w B t a b).block i (Array.getElem?_eq_some_iff.1 h).1 hi).trans h
theorem minL_step {c : Tbl → Tbl → Int} {m t : Tbl} {ts : List Tbl} {k : Nat} (h : ts[k]? = some t) : minL c m (ts.take (k + 1)) = if c t (minL c m (ts.take k)) < 0 then t else minL c m (ts.take k) := by
  unfold minL
  rw [take_snoc h, List.foldl_append]
  rfl
set_option maxRecDepth 100000 in
set_option maxHeartbeats 4000000 in
theorem minL_any (S : Nat → Prop) (v : Value) (t0 : Tbl) (ts : List Tbl) (g : Nat) (c : Tbl → Tbl → Int) (w : World) (eg : ∀ args w, (callFunc g args).run Try.prog w = .ok (.enter g args) w) (hv : TabsV w S v (t0 :: ts)) (hc : CmpT g c w) :
    Calls Try.prog 34 #[v, .func (.func g) #[] #[]] w fun r w' => ∃ tv, r = .returned tv ∧ TabV w' (fun i => S i ∧ i < w.heap.size) tv (minL c t0 ts) ∧ fr w w' := by
  obtain ⟨A, cc, rfl⟩ := hv.form
  have hmany : (t0 :: ts).length * 72 ≤ 140737488355328 := by obtain ⟨_, _, _, _, _, _, h3, _⟩ := hv; exact h3
  have hv : TabsV w (fun i => S i ∧ i < w.heap.size) (.slice A (t0 :: ts).length cc) (t0 :: ts) := hv.keep tbFine fun _ _ _ _ hr => hr.monoLt fun i hi hs => ⟨hs, hi⟩
  obtain ⟨n, hn⟩ : ∃ n, (t0 :: ts).length = n := ⟨_, rfl⟩
  have hn1 : 1 ≤ n := by rw [← hn]; simp
  rw [hn] at hv hmany ⊢
  have HLN := Lib.hid hn
  have H := Lib.hid hv
  have HC := Lib.hid hc
  obtain ⟨b, o, cs, rfl, hblt, _, ⟨va, vb, rfl, hva, hvb⟩, hcl⟩ := Rws.at_ tbFine hv (i := 0) (x := t0) rfl
  obtain ⟨Aa, ca, rfl⟩ := slice_form hva
  obtain ⟨Ab, cb, rfl⟩ := slice_form hvb
  have x0 : w.cell? ⟨b, o, none⟩ = some (.int .i64 t0.id) := by simpa using hcl 0 _ rfl
  have x1 : w.cell? ⟨b, o + 1, none⟩ = some (.int .i64 t0.level) := by simpa using hcl 1 _ rfl
  have x2 : w.cell? ⟨b, o + 2, none⟩ = some (.int .i64 t0.count) := by simpa using hcl 2 _ rfl
  have x3 : w.cell? ⟨b, o + 3, none⟩ = some (.slice Aa t0.lo.length ca) := by simpa using hcl 3 _ rfl
  have x4 : w.cell? ⟨b, o + 4, none⟩ = some (.slice Ab t0.hi.length cb) := by simpa using hcl 4 _ rfl
  have HVA := Lib.hid hva
  have HVB := Lib.hid hvb
  clear hv hn hc hcl hva hvb
  go_enter Try.func34, Try.ntmps34
  go_wp2_with fail
  go_loopw [6] (fun t wr => ∃ (k : Nat) (a b' : Value), 1 ≤ k ∧ k ≤ n ∧ t = .int .i64 k ∧ wr.heap[w.heap.size + 1]? = some (tabO (minL c t0 (ts.take (k - 1))) a b') ∧ Byt wr (fun i => S i ∧ i < w.heap.size) a (minL c t0 (ts.take (k - 1))).lo ∧ Byt wr (fun i => S i ∧ i < w.heap.size) b' (minL c t0 (ts.take (k - 1))).hi ∧
    (∃ z, wr.heap[w.heap.size]? = some (tabO z (.slice none 0 0) (.slice none 0 0))) ∧ fr w wr) (fun t _ => n - (intOf t).toNat)
  case atStart =>
    have hal : fr w ((w.alloc (.cells #[.int .i64 0, .int .i64 0, .int .i64 0, .slice none 0 0, .slice none 0 0] 63)).alloc (.cells #[.int .i64 t0.id, .int .i64 t0.level, .int .i64 t0.count, .slice Aa t0.lo.length ca, .slice Ab t0.hi.length cb] 63)) := fr.alloc (fr.alloc fr.refl _) _
    refine ⟨1, .slice Aa t0.lo.length ca, .slice Ab t0.hi.length cb, Nat.le_refl _, hn1, rfl, heap_at_new _ trivial (by simp), HVA.out.below hal, HVB.out.below hal, ⟨⟨0, 0, 0, [], []⟩, ?_⟩, hal⟩
    exact (Below.heap_alloc _ _ _ (by simp)).trans (heap_alloc_new w _)
  case round =>
    obtain ⟨k, a, b', hk1, hk, rfl, hblk, hba, hbb, ⟨z, hz⟩, hbel⟩ := hrel
    obtain ⟨m, hm⟩ : ∃ m, minL c t0 (ts.take (k - 1)) = m := ⟨_, rfl⟩
    rw [hm] at hblk hba hbb
    obtain ⟨Ba, da, rfl⟩ := slice_form hba
    obtain ⟨Bb, db, rfl⟩ := slice_form hbb
    have HM := Lib.hid hm
    have HBA := Lib.hid hba
    have HBB := Lib.hid hbb
    have HBL := Lib.hid hbel
    have HBK := Lib.hid hblk
    have HZ := Lib.hid hz
    clear hm hba hbb hbel hz
    by_cases hkn : k < n
    · obtain ⟨t, hf⟩ : ∃ t, ts[k - 1]? = some t := ⟨_, List.getElem?_eq_getElem (by have := HLN.out; simp at this; omega)⟩
      have hf' : (t0 :: ts)[k]? = some t := by rw [← hf]; obtain ⟨j, rfl⟩ : ∃ j, k = j + 1 := ⟨k - 1, by omega⟩; simp
      obtain ⟨bb, oo, cs, hE, hblt', _, ⟨va, vb, rfl, hva, hvb⟩, hcl⟩ := Rws.at_ tbFine (H.out.below tbFine HBL.out) hf'
      cases hE
      obtain ⟨Ca, ea, rfl⟩ := slice_form hva
      obtain ⟨Cb, eb, rfl⟩ := slice_form hvb
      have y0 : wr.cell? ⟨b, o + k * 5, none⟩ = _ := hcl 0 _ rfl
      have y1 : wr.cell? ⟨b, o + k * 5 + 1, none⟩ = _ := hcl 1 _ rfl
      have y2 : wr.cell? ⟨b, o + k * 5 + 2, none⟩ = _ := hcl 2 _ rfl
      have y3 : wr.cell? ⟨b, o + k * 5 + 3, none⟩ = _ := hcl 3 _ rfl
      have y4 : wr.cell? ⟨b, o + k * 5 + 4, none⟩ = _ := hcl 4 _ rfl
      have HVA2 := Lib.hid hva
      have HVB2 := Lib.hid hvb
      have q0 := cell_of_row wr _ 0 _ _ _ hblk
      have q1 := cell_of_row wr _ 1 _ _ _ hblk
      have q2 := cell_of_row wr _ 2 _ _ _ hblk
      have q3 := cell_of_row wr _ 3 _ _ _ hblk
      have q4 := cell_of_row wr _ 4 _ _ _ hblk
      have F0 : ∀ q : Ext wr, q.w.cell? { block := b, off := o + k * 5 } = _ := fun q => q.h.cell y0
      have F1 : ∀ q : Ext wr, q.w.cell? { block := b, off := o + k * 5 + 1 } = _ := fun q => q.h.cell y1
      have F2 : ∀ q : Ext wr, q.w.cell? { block := b, off := o + k * 5 + 2 } = _ := fun q => q.h.cell y2
      have F3 : ∀ q : Ext wr, q.w.cell? { block := b, off := o + k * 5 + 3 } = _ := fun q => q.h.cell y3
      have F4 : ∀ q : Ext wr, q.w.cell? { block := b, off := o + k * 5 + 4 } = _ := fun q => q.h.cell y4
      have G0 : ∀ q : Ext wr, q.w.cell? { block := w.heap.size + 1, off := 0 } = _ := fun q => q.h.cell q0
      have G1 : ∀ q : Ext wr, q.w.cell? { block := w.heap.size + 1, off := 1 } = _ := fun q => q.h.cell q1
      have G2 : ∀ q : Ext wr, q.w.cell? { block := w.heap.size + 1, off := 2 } = _ := fun q => q.h.cell q2
      have G3 : ∀ q : Ext wr, q.w.cell? { block := w.heap.size + 1, off := 3 } = _ := fun q => q.h.cell q3
      have G4 : ∀ q : Ext wr, q.w.cell? { block := w.heap.size + 1, off := 4 } = _ := fun q => q.h.cell q4
      obtain ⟨x, hx⟩ : ∃ x, c t m = x := ⟨_, rfl⟩
      have CC : Hid (∀ q : Ext wr, Calls Try.prog g (#[.agg #[.int .i64 t.id, .int .i64 t.level, .int .i64 t.count, .slice Ca t.lo.length ea, .slice Cb t.hi.length eb], .agg #[.int .i64 m.id, .int .i64 m.level, .int .i64 m.count, .slice Ba m.lo.length da, .slice Bb m.hi.length db]] ++ #[]) q.w fun r w'' => r = .returned (.int .i64 x) ∧ ∃ q' : Ext wr, w'' = q'.w) := Lib.hid fun q => Ext.calls (by rw [← hx]; exact HC.out q.w _ _ _ _ t m (fr.step HBL.out q.h) ⟨_, _, rfl, hva.below q.h, hvb.below q.h⟩ ⟨_, _, rfl, HBA.out.below q.h, HBB.out.below q.h⟩)
      have HST := Lib.hid (minL_step (c := c) (m := t0) hf)
      have HXX := Lib.hid hx
      clear hf hf' hcl hva hvb x0 x1 x2 x3 x4 hx q0 q1 q2 q3 q4
      by_cases hxn : x < 0
      · have hd : decide (x < 0) = true := by simpa using hxn
        go_wp2_with fail
        (refine wp_region_quiet_ext (by kernel_rfl) (by kernel_rfl) ?_; (repeat (go_big_quiet_step ((go_at_fn g; exact CC.out _)))); refine wpQuiet_nil ?_; intro wq hw'; obtain ⟨⟨_, hq⟩, hw''⟩ := hw'; subst hw'')
        have HQ := Lib.hid hq
        have hblk2 := fr.hp hq HBK.out
        have c0 := hq.cell y0
        have c1 := hq.cell y1
        have c2 := hq.cell y2
        have c3 := hq.cell y3
        have c4 := hq.cell y4
        have f0 := frozen_of_row wq _ 0 _ _ hblk2
        have f1 := frozen_of_row wq _ 1 _ _ hblk2
        have f2 := frozen_of_row wq _ 2 _ _ hblk2
        have f3 := frozen_of_row wq _ 3 _ _ hblk2
        have f4 := frozen_of_row wq _ 4 _ _ hblk2
        have d0 := cell_of_row wq _ 0 _ _ _ hblk2
        have d1 := cell_of_row wq _ 1 _ _ _ hblk2
        have d2 := cell_of_row wq _ 2 _ _ _ hblk2
        have d3 := cell_of_row wq _ 3 _ _ _ hblk2
        have d4 := cell_of_row wq _ 4 _ _ _ hblk2
        clear F0 F1 F2 F3 F4 G0 G1 G2 G3 G4 CC hq y0 y1 y2 y3 y4 hblk
        go_wp2_with fail
        have hfr : fr w (set5 wq (w.heap.size + 1) t (.slice Ca t.lo.length ea) (.slice Cb t.hi.length eb)) := set5_fr _ _ _ (fr.step HBL.out HQ.out) (by omega)
        have hst := HST.out
        rw [HM.out, HXX.out, if_pos (by omega), show k - 1 + 1 = k by omega] at hst
        refine ⟨⟨k + 1, .slice Ca t.lo.length ea, .slice Cb t.hi.length eb, by omega, by omega, by go_num, ?_, ?_, ?_, ⟨z, set5_other t (.slice Ca t.lo.length ea) (.slice Cb t.hi.length eb) (fr.hp HQ.out HZ.out) (by omega)⟩, hfr⟩, by simp [intOf]; omega⟩
        · rw [show k + 1 - 1 = k by omega, hst]; exact set5_block hblk2
        · rw [show k + 1 - 1 = k by omega, hst]; exact set5_byt t (.slice Ca t.lo.length ea) (.slice Cb t.hi.length eb) (HVA2.out.below HQ.out) (fun i hi => by have := hi.2; omega)
        · rw [show k + 1 - 1 = k by omega, hst]; exact set5_byt t (.slice Ca t.lo.length ea) (.slice Cb t.hi.length eb) (HVB2.out.below HQ.out) (fun i hi => by have := hi.2; omega)
      · have hd : decide (x < 0) = false := by simpa using hxn
        go_wp2_with fail
        (refine wp_region_quiet_ext (by kernel_rfl) (by kernel_rfl) ?_; (repeat (go_big_quiet_step ((go_at_fn g; exact CC.out _)))); refine wpQuiet_nil ?_; intro wq hw'; obtain ⟨⟨_, hq⟩, hw''⟩ := hw'; subst hw'')
        have HQ := Lib.hid hq
        clear F0 F1 F2 F3 F4 G0 G1 G2 G3 G4 CC hq
        go_wp2_with fail
        have hst := HST.out
        rw [HM.out, HXX.out, if_neg (by omega), show k - 1 + 1 = k by omega] at hst
        refine ⟨⟨k + 1, .slice Ba m.lo.length da, .slice Bb m.hi.length db, by omega, by omega, by go_num, ?_, ?_, ?_, ⟨z, fr.hp HQ.out HZ.out⟩, fr.step HBL.out HQ.out⟩, by simp [intOf]; omega⟩
        · rw [show k + 1 - 1 = k by omega, hst]; exact fr.hp HQ.out HBK.out
        · rw [show k + 1 - 1 = k by omega, hst]; exact HBA.out.below HQ.out
        · rw [show k + 1 - 1 = k by omega, hst]; exact HBB.out.below HQ.out
    · obtain rfl : k = n := by omega
      have q0 := cell_of_row wr _ 0 _ _ _ hblk
      have q1 := cell_of_row wr _ 1 _ _ _ hblk
      have q2 := cell_of_row wr _ 2 _ _ _ hblk
      have q3 := cell_of_row wr _ 3 _ _ _ hblk
      have q4 := cell_of_row wr _ 4 _ _ _ hblk
      have f0 := frozen_of_row wr _ 0 _ _ HZ.out
      have f1 := frozen_of_row wr _ 1 _ _ HZ.out
      have f2 := frozen_of_row wr _ 2 _ _ HZ.out
      have f3 := frozen_of_row wr _ 3 _ _ HZ.out
      have f4 := frozen_of_row wr _ 4 _ _ HZ.out
      have d0 := cell_of_row wr _ 0 _ _ _ HZ.out
      have d1 := cell_of_row wr _ 1 _ _ _ HZ.out
      have d2 := cell_of_row wr _ 2 _ _ _ HZ.out
      have d3 := cell_of_row wr _ 3 _ _ _ HZ.out
      have d4 := cell_of_row wr _ 4 _ _ _ HZ.out
      clear hblk x0 x1 x2 x3 x4
      go_wp2_with fail
      have hp := set5_block (t := m) (a := .slice Ba m.lo.length da) (b := .slice Bb m.hi.length db) HZ.out
      unfold set5 at hp
      have e0 := cell_of_row _ _ 0 _ _ _ hp
      have e1 := cell_of_row _ _ 1 _ _ _ hp
      have e2 := cell_of_row _ _ 2 _ _ _ hp
      have e3 := cell_of_row _ _ 3 _ _ _ hp
      have e4 := cell_of_row _ _ 4 _ _ _ hp
      refine bodyPost_ret (v := .agg #[.int .i64 m.id, .int .i64 m.level, .int .i64 m.count, .slice Ba m.lo.length da, .slice Bb m.hi.length db]) (by simp [results, Try.results34, go_sem, e0, e1, e2, e3, e4]) rfl ?_
      have hmm : minL c t0 ts = m := by rw [← HM.out, List.take_of_length_le (by have := HLN.out; simp at this; omega)]
      refine ⟨_, rfl, ?_, set5_fr m (.slice Ba m.lo.length da) (.slice Bb m.hi.length db) HBL.out (Nat.le_refl _)⟩
      rw [hmm]
      exact ⟨_, _, rfl, set5_byt m (.slice Ba m.lo.length da) (.slice Bb m.hi.length db) HBA.out (fun i hi => hi.2), set5_byt m (.slice Ba m.lo.length da) (.slice Bb m.hi.length db) HBB.out (fun i hi => hi.2)⟩
theorem maxL_step {c : Tbl → Tbl → Int} {m t : Tbl} {ts : List Tbl} {k : Nat} (h : ts[k]? = some t) : maxL c m (ts.take (k + 1)) = if c t (maxL c m (ts.take k)) > 0 then t else maxL c m (ts.take k) := by
  unfold maxL
  rw [take_snoc h, List.foldl_append]
  rfl
set_option maxRecDepth 100000 in
set_option maxHeartbeats 4000000 in
theorem maxL_any (S : Nat → Prop) (v : Value) (t0 : Tbl) (ts : List Tbl) (g : Nat) (c : Tbl → Tbl → Int) (w : World) (eg : ∀ args w, (callFunc g args).run Try.prog w = .ok (.enter g args) w) (hv : TabsV w S v (t0 :: ts)) (hc : CmpT g c w) :
    Calls Try.prog 57 #[v, .func (.func g) #[] #[]] w fun r w' => ∃ tv, r = .returned tv ∧ TabV w' (fun i => S i ∧ i < w.heap.size) tv (maxL c t0 ts) ∧ fr w w' := by
  obtain ⟨A, cc, rfl⟩ := hv.form
  have hmany : (t0 :: ts).length * 72 ≤ 140737488355328 := by obtain ⟨_, _, _, _, _, _, h3, _⟩ := hv; exact h3
  have hv : TabsV w (fun i => S i ∧ i < w.heap.size) (.slice A (t0 :: ts).length cc) (t0 :: ts) := hv.keep tbFine fun _ _ _ _ hr => hr.monoLt fun i hi hs => ⟨hs, hi⟩
  obtain ⟨n, hn⟩ : ∃ n, (t0 :: ts).length = n := ⟨_, rfl⟩
  have hn1 : 1 ≤ n := by rw [← hn]; simp
  rw [hn] at hv hmany ⊢
  have HLN := Lib.hid hn
  have H := Lib.hid hv
  have HC := Lib.hid hc
  obtain ⟨b, o, cs, rfl, hblt, _, ⟨va, vb, rfl, hva, hvb⟩, hcl⟩ := Rws.at_ tbFine hv (i := 0) (x := t0) rfl
  obtain ⟨Aa, ca, rfl⟩ := slice_form hva
  obtain ⟨Ab, cb, rfl⟩ := slice_form hvb
  have x0 : w.cell? ⟨b, o, none⟩ = some (.int .i64 t0.id) := by simpa using hcl 0 _ rfl
  have x1 : w.cell? ⟨b, o + 1, none⟩ = some (.int .i64 t0.level) := by simpa using hcl 1 _ rfl
  have x2 : w.cell? ⟨b, o + 2, none⟩ = some (.int .i64 t0.count) := by simpa using hcl 2 _ rfl
  have x3 : w.cell? ⟨b, o + 3, none⟩ = some (.slice Aa t0.lo.length ca) := by simpa using hcl 3 _ rfl
  have x4 : w.cell? ⟨b, o + 4, none⟩ = some (.slice Ab t0.hi.length cb) := by simpa using hcl 4 _ rfl
  have HVA := Lib.hid hva
  have HVB := Lib.hid hvb
  clear hv hn hc hcl hva hvb
  go_enter Try.func57, Try.ntmps57
  go_wp2_with fail
  go_loopw [6] (fun t wr => ∃ (k : Nat) (a b' : Value), 1 ≤ k ∧ k ≤ n ∧ t = .int .i64 k ∧ wr.heap[w.heap.size + 1]? = some (tabO (maxL c t0 (ts.take (k - 1))) a b') ∧ Byt wr (fun i => S i ∧ i < w.heap.size) a (maxL c t0 (ts.take (k - 1))).lo ∧ Byt wr (fun i => S i ∧ i < w.heap.size) b' (maxL c t0 (ts.take (k - 1))).hi ∧
    (∃ z, wr.heap[w.heap.size]? = some (tabO z (.slice none 0 0) (.slice none 0 0))) ∧ fr w wr) (fun t _ => n - (intOf t).toNat)
  case atStart =>
    have hal : fr w ((w.alloc (.cells #[.int .i64 0, .int .i64 0, .int .i64 0, .slice none 0 0, .slice none 0 0] 63)).alloc (.cells #[.int .i64 t0.id, .int .i64 t0.level, .int .i64 t0.count, .slice Aa t0.lo.length ca, .slice Ab t0.hi.length cb] 63)) := fr.alloc (fr.alloc fr.refl _) _
    refine ⟨1, .slice Aa t0.lo.length ca, .slice Ab t0.hi.length cb, Nat.le_refl _, hn1, rfl, heap_at_new _ trivial (by simp), HVA.out.below hal, HVB.out.below hal, ⟨⟨0, 0, 0, [], []⟩, ?_⟩, hal⟩
    exact (Below.heap_alloc _ _ _ (by simp)).trans (heap_alloc_new w _)
  case round =>
    obtain ⟨k, a, b', hk1, hk, rfl, hblk, hba, hbb, ⟨z, hz⟩, hbel⟩ := hrel
    obtain ⟨m, hm⟩ : ∃ m, maxL c t0 (ts.take (k - 1)) = m := ⟨_, rfl⟩
    rw [hm] at hblk hba hbb
    obtain ⟨Ba, da, rfl⟩ := slice_form hba
    obtain ⟨Bb, db, rfl⟩ := slice_form hbb
    have HM := Lib.hid hm
    have HBA := Lib.hid hba
    have HBB := Lib.hid hbb
    have HBL := Lib.hid hbel
    have HBK := Lib.hid hblk
    have HZ := Lib.hid hz
    clear hm hba hbb hbel hz
    by_cases hkn : k < n
    · obtain ⟨t, hf⟩ : ∃ t, ts[k - 1]? = some t := ⟨_, List.getElem?_eq_getElem (by have := HLN.out; simp at this; omega)⟩
      have hf' : (t0 :: ts)[k]? = some t := by rw [← hf]; obtain ⟨j, rfl⟩ : ∃ j, k = j + 1 := ⟨k - 1, by omega⟩; simp
      obtain ⟨bb, oo, cs, hE, hblt', _, ⟨va, vb, rfl, hva, hvb⟩, hcl⟩ := Rws.at_ tbFine (H.out.below tbFine HBL.out) hf'
      cases hE
      obtain ⟨Ca, ea, rfl⟩ := slice_form hva
      obtain ⟨Cb, eb, rfl⟩ := slice_form hvb
      have y0 : wr.cell? ⟨b, o + k * 5, none⟩ = _ := hcl 0 _ rfl
      have y1 : wr.cell? ⟨b, o + k * 5 + 1, none⟩ = _ := hcl 1 _ rfl
      have y2 : wr.cell? ⟨b, o + k * 5 + 2, none⟩ = _ := hcl 2 _ rfl
      have y3 : wr.cell? ⟨b, o + k * 5 + 3, none⟩ = _ := hcl 3 _ rfl
      have y4 : wr.cell? ⟨b, o + k * 5 + 4, none⟩ = _ := hcl 4 _ rfl
      have HVA2 := Lib.hid hva
      have HVB2 := Lib.hid hvb
      have q0 := cell_of_row wr _ 0 _ _ _ hblk
      have q1 := cell_of_row wr _ 1 _ _ _ hblk
      have q2 := cell_of_row wr _ 2 _ _ _ hblk
      have q3 := cell_of_row wr _ 3 _ _ _ hblk
      have q4 := cell_of_row wr _ 4 _ _ _ hblk
      have F0 : ∀ q : Ext wr, q.w.cell? { block := b, off := o + k * 5 } = _ := fun q => q.h.cell y0
      have F1 : ∀ q : Ext wr, q.w.cell? { block := b, off := o + k * 5 + 1 } = _ := fun q => q.h.cell y1
      have F2 : ∀ q : Ext wr, q.w.cell? { block := b, off := o + k * 5 + 2 } = _ := fun q => q.h.cell y2
      have F3 : ∀ q : Ext wr, q.w.cell? { block := b, off := o + k * 5 + 3 } = _ := fun q => q.h.cell y3
      have F4 : ∀ q : Ext wr, q.w.cell? { block := b, off := o + k * 5 + 4 } = _ := fun q => q.h.cell y4
      have G0 : ∀ q : Ext wr, q.w.cell? { block := w.heap.size + 1, off := 0 } = _ := fun q => q.h.cell q0
      have G1 : ∀ q : Ext wr, q.w.cell? { block := w.heap.size + 1, off := 1 } = _ := fun q => q.h.cell q1
      have G2 : ∀ q : Ext wr, q.w.cell? { block := w.heap.size + 1, off := 2 } = _ := fun q => q.h.cell q2
      have G3 : ∀ q : Ext wr, q.w.cell? { block := w.heap.size + 1, off := 3 } = _ := fun q => q.h.cell q3
      have G4 : ∀ q : Ext wr, q.w.cell? { block := w.heap.size + 1, off := 4 } = _ := fun q => q.h.cell q4
      obtain ⟨x, hx⟩ : ∃ x, c t m = x := ⟨_, rfl⟩
      have CC : Hid (∀ q : Ext wr, Calls Try.prog g (#[.agg #[.int .i64 t.id, .int .i64 t.level, .int .i64 t.count, .slice Ca t.lo.length ea, .slice Cb t.hi.length eb], .agg #[.int .i64 m.id, .int .i64 m.level, .int .i64 m.count, .slice Ba m.lo.length da, .slice Bb m.hi.length db]] ++ #[]) q.w fun r w'' => r = .returned (.int .i64 x) ∧ ∃ q' : Ext wr, w'' = q'.w) := Lib.hid fun q => Ext.calls (by rw [← hx]; exact HC.out q.w _ _ _ _ t m (fr.step HBL.out q.h) ⟨_, _, rfl, hva.below q.h, hvb.below q.h⟩ ⟨_, _, rfl, HBA.out.below q.h, HBB.out.below q.h⟩)
      have HST := Lib.hid (maxL_step (c := c) (m := t0) hf)
      have HXX := Lib.hid hx
      clear hf hf' hcl hva hvb x0 x1 x2 x3 x4 hx q0 q1 q2 q3 q4
      by_cases hxn : x > 0
      · have hd : decide (0 < x) = true := by simpa using hxn
        go_wp2_with fail
        (refine wp_region_quiet_ext (by kernel_rfl) (by kernel_rfl) ?_; (repeat (go_big_quiet_step ((go_at_fn g; exact CC.out _)))); refine wpQuiet_nil ?_; intro wq hw'; obtain ⟨⟨_, hq⟩, hw''⟩ := hw'; subst hw'')
        have HQ := Lib.hid hq
        have hblk2 := fr.hp hq HBK.out
        have c0 := hq.cell y0
        have c1 := hq.cell y1
        have c2 := hq.cell y2
        have c3 := hq.cell y3
        have c4 := hq.cell y4
        have f0 := frozen_of_row wq _ 0 _ _ hblk2
        have f1 := frozen_of_row wq _ 1 _ _ hblk2
        have f2 := frozen_of_row wq _ 2 _ _ hblk2
        have f3 := frozen_of_row wq _ 3 _ _ hblk2
        have f4 := frozen_of_row wq _ 4 _ _ hblk2
        have d0 := cell_of_row wq _ 0 _ _ _ hblk2
        have d1 := cell_of_row wq _ 1 _ _ _ hblk2
        have d2 := cell_of_row wq _ 2 _ _ _ hblk2
        have d3 := cell_of_row wq _ 3 _ _ _ hblk2
        have d4 := cell_of_row wq _ 4 _ _ _ hblk2
        clear F0 F1 F2 F3 F4 G0 G1 G2 G3 G4 CC hq y0 y1 y2 y3 y4 hblk
        go_wp2_with fail
        have hfr : fr w (set5 wq (w.heap.size + 1) t (.slice Ca t.lo.length ea) (.slice Cb t.hi.length eb)) := set5_fr _ _ _ (fr.step HBL.out HQ.out) (by omega)
        have hst := HST.out
        rw [HM.out, HXX.out, if_pos (by omega), show k - 1 + 1 = k by omega] at hst
        refine ⟨⟨k + 1, .slice Ca t.lo.length ea, .slice Cb t.hi.length eb, by omega, by omega, by go_num, ?_, ?_, ?_, ⟨z, set5_other t (.slice Ca t.lo.length ea) (.slice Cb t.hi.length eb) (fr.hp HQ.out HZ.out) (by omega)⟩, hfr⟩, by simp [intOf]; omega⟩
        · rw [show k + 1 - 1 = k by omega, hst]; exact set5_block hblk2
        · rw [show k + 1 - 1 = k by omega, hst]; exact set5_byt t (.slice Ca t.lo.length ea) (.slice Cb t.hi.length eb) (HVA2.out.below HQ.out) (fun i hi => by have := hi.2; omega)
        · rw [show k + 1 - 1 = k by omega, hst]; exact set5_byt t (.slice Ca t.lo.length ea) (.slice Cb t.hi.length eb) (HVB2.out.below HQ.out) (fun i hi => by have := hi.2; omega)
      · have hd : decide (0 < x) = false := by simpa using hxn
        go_wp2_with fail
        (refine wp_region_quiet_ext (by kernel_rfl) (by kernel_rfl) ?_; (repeat (go_big_quiet_step ((go_at_fn g; exact CC.out _)))); refine wpQuiet_nil ?_; intro wq hw'; obtain ⟨⟨_, hq⟩, hw''⟩ := hw'; subst hw'')
        have HQ := Lib.hid hq
        clear F0 F1 F2 F3 F4 G0 G1 G2 G3 G4 CC hq
        go_wp2_with fail
        have hst := HST.out
        rw [HM.out, HXX.out, if_neg (by omega), show k - 1 + 1 = k by omega] at hst
        refine ⟨⟨k + 1, .slice Ba m.lo.length da, .slice Bb m.hi.length db, by omega, by omega, by go_num, ?_, ?_, ?_, ⟨z, fr.hp HQ.out HZ.out⟩, fr.step HBL.out HQ.out⟩, by simp [intOf]; omega⟩
        · rw [show k + 1 - 1 = k by omega, hst]; exact fr.hp HQ.out HBK.out
        · rw [show k + 1 - 1 = k by omega, hst]; exact HBA.out.below HQ.out
        · rw [show k + 1 - 1 = k by omega, hst]; exact HBB.out.below HQ.out
    · obtain rfl : k = n := by omega
      have q0 := cell_of_row wr _ 0 _ _ _ hblk
      have q1 := cell_of_row wr _ 1 _ _ _ hblk
      have q2 := cell_of_row wr _ 2 _ _ _ hblk
      have q3 := cell_of_row wr _ 3 _ _ _ hblk
      have q4 := cell_of_row wr _ 4 _ _ _ hblk
      have f0 := frozen_of_row wr _ 0 _ _ HZ.out
      have f1 := frozen_of_row wr _ 1 _ _ HZ.out
      have f2 := frozen_of_row wr _ 2 _ _ HZ.out
      have f3 := frozen_of_row wr _ 3 _ _ HZ.out
      have f4 := frozen_of_row wr _ 4 _ _ HZ.out
      have d0 := cell_of_row wr _ 0 _ _ _ HZ.out
      have d1 := cell_of_row wr _ 1 _ _ _ HZ.out
      have d2 := cell_of_row wr _ 2 _ _ _ HZ.out
      have d3 := cell_of_row wr _ 3 _ _ _ HZ.out
      have d4 := cell_of_row wr _ 4 _ _ _ HZ.out
      clear hblk x0 x1 x2 x3 x4
      go_wp2_with fail
      have hp := set5_block (t := m) (a := .slice Ba m.lo.length da) (b := .slice Bb m.hi.length db) HZ.out
      unfold set5 at hp
      have e0 := cell_of_row _ _ 0 _ _ _ hp
      have e1 := cell_of_row _ _ 1 _ _ _ hp
      have e2 := cell_of_row _ _ 2 _ _ _ hp
      have e3 := cell_of_row _ _ 3 _ _ _ hp
      have e4 := cell_of_row _ _ 4 _ _ _ hp
      refine bodyPost_ret (v := .agg #[.int .i64 m.id, .int .i64 m.level, .int .i64 m.count, .slice Ba m.lo.length da, .slice Bb m.hi.length db]) (by simp [results, Try.results57, go_sem, e0, e1, e2, e3, e4]) rfl ?_
      have hmm : maxL c t0 ts = m := by rw [← HM.out, List.take_of_length_le (by have := HLN.out; simp at this; omega)]
      refine ⟨_, rfl, ?_, set5_fr m (.slice Ba m.lo.length da) (.slice Bb m.hi.length db) HBL.out (Nat.le_refl _)⟩
      rw [hmm]
      exact ⟨_, _, rfl, set5_byt m (.slice Ba m.lo.length da) (.slice Bb m.hi.length db) HBA.out (fun i hi => hi.2), set5_byt m (.slice Ba m.lo.length da) (.slice Bb m.hi.length db) HBB.out (fun i hi => hi.2)⟩
end Go.Proofs.Ytacdhkkelkplnaa
end
section
namespace Go.Proofs.Ytacdhkkelkplnaa
open Go.RowKit Go.BigFrame
attribute [local go_sem ↓] Go.wp_at_zero Go.wp_at_succ
def byLo (t u : Tbl) : Int := cmpB t.lo u.lo
def byHi (t u : Tbl) : Int := cmpB t.hi u.hi
def byId (t u : Tbl) : Int := cmpI t.id u.id
def meetsB (lo hi : List UInt8) (t : Tbl) : Bool := decide (cmpB t.lo hi ≤ 0) && decide (cmpB lo t.hi ≤ 0)
theorem bcmp_fr (S S' : Nat → Prop) (a b : Value) (xs ys : List UInt8) (w : World) (h : Byt w S a xs) (h' : Byt w S' b ys) : Calls Try.prog 56 #[a, b] w fun r w' => r = .returned (.int .i64 (cmpB xs ys)) ∧ fr w w' :=
  (bcompare_any S S' a b xs ys w h h').mono fun r w' h => by obtain ⟨rfl, rfl⟩ := h; exact ⟨rfl, fr.refl⟩
theorem enters {g : Nat} (h : ∀ args w, (callFunc g args).run Try.prog w = .ok (.enter g args) w) : ∀ args w, (callFunc g args).run Try.prog w = .ok (.enter g args) w := h
set_option maxRecDepth 100000 in
theorem byLo_any (w0 : World) : CmpT 55 byLo w0 := by
  intro W S S' tv uv t u hW ht hu
  obtain ⟨a, b, rfl, h1, h2⟩ := ht
  obtain ⟨a', b', rfl, h3, h4⟩ := hu
  have CC : ∀ w1, fr W w1 → Calls Try.prog 56 #[a, a'] w1 fun r w' => r = .returned (.int .i64 (cmpB t.lo u.lo)) ∧ fr w1 w' := fun w1 hf => bcmp_fr _ _ _ _ _ _ _ (h1.below hf) (h3.below hf)
  go_enter Try.func55, Try.ntmps55
  go_wp2_with (go_at_call 56; refine (CC _ (fr.alloc (fr.alloc fr.refl _) _)).mono ?_; rintro r w1 ⟨rfl, hf⟩)
  refine bodyPost_ret (v := .int .i64 (cmpB t.lo u.lo)) (by simp [results, Try.results55, go_sem]) rfl ?_
  exact ⟨rfl, fr.step (fr.alloc (fr.alloc fr.refl _) _) hf⟩
set_option maxRecDepth 100000 in
theorem byHi_any (w0 : World) : CmpT 58 byHi w0 := by
  intro W S S' tv uv t u hW ht hu
  obtain ⟨a, b, rfl, h1, h2⟩ := ht
  obtain ⟨a', b', rfl, h3, h4⟩ := hu
  have CC : ∀ w1, fr W w1 → Calls Try.prog 56 #[b, b'] w1 fun r w' => r = .returned (.int .i64 (cmpB t.hi u.hi)) ∧ fr w1 w' := fun w1 hf => bcmp_fr _ _ _ _ _ _ _ (h2.below hf) (h4.below hf)
  go_enter Try.func58, Try.ntmps58
  go_wp2_with (go_at_call 56; refine (CC _ (fr.alloc (fr.alloc fr.refl _) _)).mono ?_; rintro r w1 ⟨rfl, hf⟩)
  refine bodyPost_ret (v := .int .i64 (cmpB t.hi u.hi)) (by simp [results, Try.results58, go_sem]) rfl ?_
  exact ⟨rfl, fr.step (fr.alloc (fr.alloc fr.refl _) _) hf⟩
set_option maxRecDepth 100000 in
theorem byId_any (w0 : World) : CmpT 35 byId w0 := by
  intro W S S' tv uv t u hW ht hu
  obtain ⟨a, b, rfl, h1, h2⟩ := ht
  obtain ⟨a', b', rfl, h3, h4⟩ := hu
  go_enter Try.func35, Try.ntmps35
  go_wp2_with (go_at_call 36; refine (cmpc_any _ _ _).mono ?_; rintro r w1 ⟨rfl, rfl⟩)
  refine bodyPost_ret (v := .int .i64 (cmpI t.id u.id)) (by simp [results, Try.results35, go_sem]) rfl ?_
  exact ⟨rfl, fr.alloc (fr.alloc fr.refl _) _⟩
/-- a variable that a closure has captured. -/
def OneV (w : World) (B : Nat) (v : Value) : Prop := ∃ e, w.heap[B]? = some (.cells #[v] e (0, 0))
theorem OneV.fr {w w' : World} {B : Nat} {v : Value} (h : OneV w B v) (hf : fr w w') : OneV w' B v := by obtain ⟨e, h⟩ := h; exact ⟨e, fr.hp hf h⟩
theorem OneV.cell {w : World} {B : Nat} {v : Value} (h : OneV w B v) : w.cell? ⟨B, 0, none⟩ = some v := by obtain ⟨e, h⟩ := h; exact cell_of_row w B 0 _ _ _ h
theorem OneV.lt {w : World} {B : Nat} {v : Value} (h : OneV w B v) : B < w.heap.size := by obtain ⟨e, h⟩ := h; exact (Array.getElem?_eq_some_iff.1 h).1
set_option maxRecDepth 100000 in
set_option maxHeartbeats 2000000 in
theorem meets_pred (S S' : Nat → Prop) (vl vh : Value) (lo hi : List UInt8) (L H : Nat) (w0 : World) (hl : Byt w0 S vl lo) (hh : Byt w0 S' vh hi) (hL : OneV w0 L vl) (hH : OneV w0 H vh) :
    PredT 59 #[.pointer (some ⟨H, 0, none⟩), .pointer (some ⟨L, 0, none⟩)] (meetsB lo hi) w0 := by
  intro W T tv t hW ht
  obtain ⟨a, b, rfl, h1, h2⟩ := ht
  have cL := (hL.fr hW).cell
  have cH := (hH.fr hW).cell
  have lL := (hL.fr hW).lt
  have lH := (hH.fr hW).lt
  have kl := hl.below hW
  have kh := hh.below hW
  have CA : ∀ w1, fr W w1 → Calls Try.prog 56 #[a, vh] w1 fun r w' => r = .returned (.int .i64 (cmpB t.lo hi)) ∧ fr w1 w' := fun w1 hf => bcmp_fr _ _ _ _ _ _ _ (h1.below hf) (kh.below hf)
  have CB : ∀ w1, fr W w1 → Calls Try.prog 56 #[vl, b] w1 fun r w' => r = .returned (.int .i64 (cmpB lo t.hi)) ∧ fr w1 w' := fun w1 hf => bcmp_fr _ _ _ _ _ _ _ (kl.below hf) (h2.below hf)
  have pT : (W.alloc (tabO t a b)).heap[W.heap.size]? = some (tabO t a b) := heap_alloc_new W _
  obtain ⟨x, hx⟩ : ∃ x, cmpB t.lo hi = x := ⟨_, rfl⟩
  obtain ⟨y, hy⟩ : ∃ y, cmpB lo t.hi = y := ⟨_, rfl⟩
  rw [hx] at CA
  rw [hy] at CB
  have HXY := Lib.hid (show meetsB lo hi t = (decide (x ≤ 0) && decide (y ≤ 0)) by unfold meetsB; rw [hx, hy])
  have HCA := Lib.hid CA
  have HCB := Lib.hid CB
  clear CA CB hx hy hL hH hl hh h1 h2 kl kh
  by_cases h0 : x ≤ 0
  · have hd : decide (x ≤ 0) = true := by simpa using h0
    go_enter Try.func59, Try.ntmps59
    go_wp2_with (first
      | (go_at_call 56; refine (HCA.out _ (fr.alloc fr.refl _)).mono ?_; rintro r w1 ⟨rfl, hf1⟩; have hf : fr W w1 := fr.step (fr.alloc fr.refl _) hf1; have dL := hf.cell cL; have p1 := fr.hp hf1 pT; have d4 := cell_of_row w1 _ 4 _ _ _ p1)
      | (go_at_call 56; refine (HCB.out _ hf).mono ?_; rintro r w2 ⟨rfl, hf2⟩))
    refine bodyPost_ret (v := .bool (decide (y ≤ 0))) (by simp [results, Try.results59, go_sem]) rfl ?_
    exact ⟨by rw [HXY.out, hd, Bool.true_and], fr.step hf hf2⟩
  · have hd : decide (x ≤ 0) = false := by simpa using h0
    go_enter Try.func59, Try.ntmps59
    go_wp2_with (go_at_call 56; refine (HCA.out _ (fr.alloc fr.refl _)).mono ?_; rintro r w1 ⟨rfl, hf1⟩)
    refine bodyPost_ret (v := .bool false) (by simp [results, Try.results59, go_sem]) rfl ?_
    exact ⟨by rw [HXY.out, hd, Bool.false_and], fr.step (fr.alloc fr.refl _) hf1⟩
def lowOf (t0 : Tbl) (ts : List Tbl) : List UInt8 := (minL byLo t0 ts).lo
def highOf (t0 : Tbl) (ts : List Tbl) : List UInt8 := (maxL byHi t0 ts).hi
set_option maxRecDepth 100000 in
set_option maxHeartbeats 2000000 in
theorem overlap_any (S : Nat → Prop) (v : Value) (t0 : Tbl) (ts : List Tbl) (w : World) (hv : TabsV w S v (t0 :: ts)) :
    Calls Try.prog 37 #[v] w fun r w' => ∃ L H, r = .returned (.func (.func 59) #[] #[.pointer (some ⟨H, 0, none⟩), .pointer (some ⟨L, 0, none⟩)]) ∧ PredT 59 #[.pointer (some ⟨H, 0, none⟩), .pointer (some ⟨L, 0, none⟩)] (meetsB (lowOf t0 ts) (highOf t0 ts)) w' ∧ fr w w' := by
  have hfd3 : ∀ (i l n : Int) (a b : Value) (w : World), (Instr.field 63 (.agg #[.int .i64 i, .int .i64 l, .int .i64 n, a, b]) 3).run Try.prog w = .ok a w := fun _ _ _ _ _ _ => by kernel_rfl
  have hfd4 : ∀ (i l n : Int) (a b : Value) (w : World), (Instr.field 63 (.agg #[.int .i64 i, .int .i64 l, .int .i64 n, a, b]) 4).run Try.prog w = .ok b w := fun _ _ _ _ _ _ => by kernel_rfl
  have hmf : ∀ (fn : Fn) (first cap : Array Value) (w : World), (Instr.makeFunc fn first cap).run Try.prog w = .ok (.func fn first cap) w := fun _ _ _ _ => rfl
  have CA : Hid (∀ w1, fr w w1 → Calls Try.prog 34 #[v, .func (.func 55) #[] #[]] w1 fun r w' => ∃ a b, r = .returned (.agg #[.int .i64 (minL byLo t0 ts).id, .int .i64 (minL byLo t0 ts).level, .int .i64 (minL byLo t0 ts).count, a, b]) ∧ Byt w' (fun i => i < w1.heap.size) a (lowOf t0 ts) ∧ fr w1 w') := Lib.hid fun w1 hf => (minL_any S v t0 ts _ byLo w1 (fun args w => by kernel_rfl) (hv.below tbFine hf) (byLo_any w1)).mono fun r w' h => by
    obtain ⟨tv, rfl, ⟨a, b, rfl, h1, _⟩, h2⟩ := h
    exact ⟨a, b, rfl, h1.mono fun _ hi => hi.2, h2⟩
  have CB : Hid (∀ w1, fr w w1 → Calls Try.prog 57 #[v, .func (.func 58) #[] #[]] w1 fun r w' => ∃ a b, r = .returned (.agg #[.int .i64 (maxL byHi t0 ts).id, .int .i64 (maxL byHi t0 ts).level, .int .i64 (maxL byHi t0 ts).count, a, b]) ∧ Byt w' (fun i => i < w1.heap.size) b (highOf t0 ts) ∧ fr w1 w') := Lib.hid fun w1 hf => (maxL_any S v t0 ts _ byHi w1 (fun args w => by kernel_rfl) (hv.below tbFine hf) (byHi_any w1)).mono fun r w' h => by
    obtain ⟨tv, rfl, ⟨a, b, rfl, _, h1⟩, h2⟩ := h
    exact ⟨a, b, rfl, h1.mono fun _ hi => hi.2, h2⟩
  clear hv
  go_enter Try.func37, Try.ntmps37
  go_wp2_with (first
    | (go_at_call 34; refine (CA.out _ fr.refl).mono ?_; rintro r w1 ⟨a, b, rfl, hb1, hf1⟩; obtain ⟨A1, c1, rfl⟩ := slice_form hb1)
    | (go_at_call 57; refine (CB.out _ (fr.alloc hf1 _)).mono ?_; rintro r w2 ⟨a2, b2, rfl, hb2, hf2⟩; obtain ⟨A2, c2, rfl⟩ := slice_form hb2))
  refine bodyPost_ret (v := .func (.func 59) #[] #[.pointer (some ⟨w2.heap.size, 0, none⟩), .pointer (some ⟨w1.heap.size, 0, none⟩)]) (by simp [results, Try.results37, go_sem]) rfl ?_
  have hf3 : fr w2 (w2.alloc (.cells #[.slice A2 (highOf t0 ts).length c2] 44)) := fr.alloc fr.refl _
  have hfa : fr w1 w2 := fr.step (fr.alloc fr.refl _) hf2
  have hL : OneV w2 w1.heap.size (.slice A1 (lowOf t0 ts).length c1) := ⟨_, fr.hp hf2 (heap_alloc_new w1 _)⟩
  exact ⟨_, _, rfl, meets_pred _ _ _ _ _ _ _ _ _ ((hb1.below hfa).below hf3) (hb2.below hf3) (hL.fr hf3) ⟨_, heap_alloc_new w2 _⟩, fr.step (fr.step hf1 hfa) hf3⟩
end Go.Proofs.Ytacdhkkelkplnaa
end
