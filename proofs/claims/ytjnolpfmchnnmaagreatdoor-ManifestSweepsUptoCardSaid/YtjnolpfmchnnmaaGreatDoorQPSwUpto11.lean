/-
manifest.Apply on a calm disk.
-/
import Derived.Test.YtjnolpfmchnnmaaGreatDoorQPSwUpto10
import Derived.Lib.ConvBytes
import Derived.Deep.RegionHeld3
import Derived.Test.YtjnolpfmchnnmaaGreatDoorQPSwUpto8
import Derived.Test.YtjnolpfmchnnmaaGreatDoorQPSwUpto9
section
namespace Go.Proofs.YtjnolpfmchnnmaaGreatDoor
set_option maxRecDepth 100000
open Go.RowKit Go.BigFrame Go.Sort Go.Shelf Go.Lib
attribute [local go_sem ↓] Go.wp_at_zero Go.wp_at_succ
theorem conv_str (w : World) (s : Nm) (hs : s.length ≤ 1000) : ∃ c W', (convert 9 35 (.string ⟨s.toArray⟩)).run Tryz.prog w = .ok (.slice (some ⟨w.heap.size, 0, none⟩) s.length c) W' ∧ Byt W' (fun i => w.heap.size ≤ i) (.slice (some ⟨w.heap.size, 0, none⟩) s.length c) s ∧ fr w W' := by
  have h := Lib.run_convert_string_bytes (P := Tryz.prog) w 9 35 5 ⟨s.toArray⟩ Tryz.underlying9 Tryz.underlying35 Tryz.underlying5
  have hsz : (⟨s.toArray⟩ : ByteArray).size = s.length := ba_size s
  rw [hsz] at h
  refine ⟨_, _, h, ⟨_, _, rfl, grownCap_ge _ _ _ _, ?_, by omega, ⟨by simp, fun _ => ⟨w.heap.size, 0, rfl, Nat.le_refl _, by rw [Lib.bytesWorld_size]; omega, fun j u hu => ?_⟩⟩⟩, Lib.bytesWorld_below _ _ _⟩
  · have := grownCap_le_maxLen w s.length 0 5 (by unfold maxLen; omega)
    unfold maxLen at this
    omega
  · have hj : j < s.length := by
      have := (List.getElem?_eq_some_iff.1 hu).1
      simpa using this
    rw [Nat.zero_add, Lib.bytesWorld_cell _ _ _ _ (by rw [hsz]; exact hj)]
    rw [List.getElem?_map, List.getElem?_eq_getElem hj] at hu
    injection hu with hu
    rw [← hu]
    simp [bcell, List.getD, hj]
section
variable {w : World} {F : Nat → Prop} {M p num dn Bm : Nat} {x : Value} {v : Ver} {D : Nm → Option (List UInt8)} {c : List UInt8}
set_option maxRecDepth 100000 in
set_option maxHeartbeats 1000000 in
theorem beg1_any (hb : Boxed w Bm 46 (.pointer (some ⟨M, 0, none⟩))) (hm : ManR w M p x v num) (hk : DkC w F p dn D) (ht : TabW w) (hn : num < 1000000) (hf : D (nameM num) = some c) (hd : dn ≤ 1000000) :
    Calls Tryz.prog 135 #[.pointer (some ⟨Bm, 0, none⟩)] w fun r w' => r = .returned (.int .i64 0) ∧ DkC w' F p (dn + 1) D ∧ Only F w w' := by
  obtain ⟨X, hX⟩ : ∃ X : ByteArray, (⟨(nameM num).toArray⟩ : ByteArray) = X := ⟨_, rfl⟩
  have HFI : Hid (∀ wx, fr w wx → Calls Tryz.prog 84 #[.int .i64 num] wx fun r w' => r = .returned (.string X) ∧ Below wx.heap.size wx w') := Lib.hid fun wx hx => by
    rw [← hX]
    exact mfile_any num wx (ht.below hx) hn
  have HSY : Hid (∀ wx, fr w wx → Calls Tryz.prog 70 #[.pointer (some ⟨p, 0, none⟩), .string X] wx fun r w' => r = .returned (.int .i64 0) ∧ DkC w' F p (dn + 1) D ∧ Only F wx w') := Lib.hid fun wx hx => by
    rw [← hX]
    exact csync (hk.below hx) hf (by omega)
  obtain ⟨e0, e1, e2, e3, e4, e5⟩ := hm.cells
  have eb := hb.cell
  have q0 := fun q : Ext w => q.cell e0
  have q5 := fun q : Ext w => q.cell e5
  have qb := fun q : Ext w => q.cell eb
  clear hX hb hm hk ht hf e1 e2 e3 e4
  go_enter Tryz.func135, Tryz.ntmps135
  go_upto_region 1 with (fail)
  (refine wp_region_ext_tail 9 (by kernel_rfl) (by kernel_rfl) ?_; simp only [List.take_succ_cons, List.take_zero, List.drop_succ_cons, List.drop_zero]; (repeat (go_big_quiet_step ((go_at_call 84; exact Ext.calls (HFI.out _ (Ext.h _)))))); refine wpQuiet_nil ?_; intro wq hw'; obtain ⟨⟨_, hq⟩, hw''⟩ := hw'; subst hw'')
  clear q0 q5 qb
  go_wp2_with (go_at_call 70; refine (HSY.out _ hq).mono ?_; rintro r w5 ⟨rfl, hk5, ho5⟩)
  go_ret
  exact ⟨rfl, hk5, (Only.of_below hq).trans ho5⟩
set_option maxRecDepth 100000 in
set_option maxHeartbeats 1000000 in
theorem beg2_any (hb : Boxed w Bm 46 (.pointer (some ⟨M, 0, none⟩))) (hm : ManR w M p x v num) (hk : DkC w F p dn D) (ht : TabW w) (hn : num < 1000000) (hl : (D freshW) = none) (hd : dn ≤ 1000000) :
    Calls Tryz.prog 136 #[.pointer (some ⟨Bm, 0, none⟩)] w fun r w' => r = .returned (.int .i64 0) ∧ (∃ F', Spread w.heap.size F F' ∧ DkC w' F' p (dn + 1) (putD D freshW (Lib.itoa (num : Int)))) ∧ Only F w w' := by
  have hlen := (atoi_itoa hn).2
  obtain ⟨s, hs⟩ : ∃ s, Lib.itoa (num : Int) = s := ⟨_, rfl⟩
  rw [hs] at hlen ⊢
  obtain ⟨X, hX⟩ : ∃ X : ByteArray, (⟨s.toArray⟩ : ByteArray) = X := ⟨_, rfl⟩
  have HFI : Hid (∀ wx, fr w wx → Calls Tryz.prog 119 #[.int .i64 num] wx fun r w' => r = .returned (.string X) ∧ Below wx.heap.size wx w') := Lib.hid fun wx hx => by
    refine (Tryz.strconv_Itoa (num : Int) (by omega) (by omega) wx (ht.below hx)).mono ?_
    rintro r w' ⟨rfl, k, os, rfl⟩
    rw [hs, hX]
    exact ⟨rfl, fr_grow _ _ _⟩
  have HCV : Hid (∀ wx, ∃ c W', (convert 9 35 (.string X)).run Tryz.prog wx = .ok (.slice (some ⟨wx.heap.size, 0, none⟩) s.length c) W' ∧ Byt W' (fun i => wx.heap.size ≤ i) (.slice (some ⟨wx.heap.size, 0, none⟩) s.length c) s ∧ fr wx W') := Lib.hid fun wx => by
    rw [← hX]
    exact conv_str wx s (by omega)
  have HSY : Hid (∀ (c : Nat) (wx wy : World), fr w wx → fr wx wy → Byt wy (fun i => wx.heap.size ≤ i) (.slice (some ⟨wx.heap.size, 0, none⟩) s.length c) s → Calls Tryz.prog 35 #[.pointer (some ⟨p, 0, none⟩), .string ⟨#[99, 117, 114, 114, 101, 110, 116, 46, 116, 109, 112]⟩, .slice (some ⟨wx.heap.size, 0, none⟩) s.length c] wy fun r w' => r = .returned (.int .i64 0) ∧ (∃ F', Spread wy.heap.size F F' ∧ DkC w' F' p (dn + 1) (putD D freshW s)) ∧ Only F wy w') := Lib.hid fun c wx wy hx hy hby => by
    have := cappend (x := freshW) (fun i => wx.heap.size ≤ i) _ s ((hk.below hx).below hy) ((ht.below hx).below hy) (by decide) hby (fun i hi hf => by have := (hk.lies i hf).1; have := Below.size hx; omega) (by rw [hl]; simp; omega) (by omega)
    rw [hl] at this
    exact this
  obtain ⟨e0, e1, e2, e3, e4, e5⟩ := hm.cells
  have eb := hb.cell
  have HDR : Hid (fr w w.drew) := Lib.hid (fr.drew fr.refl)
  have HE1 : Hid (w.drew.cell? ⟨Bm, 0, none⟩ = some (.pointer (some ⟨M, 0, none⟩)) ∧ w.drew.cell? ⟨M, 0, none⟩ = some (.pointer (some ⟨p, 0, none⟩)) ∧ w.drew.cell? ⟨M, 5, none⟩ = some (.int .i64 num)) := Lib.hid ⟨eb, e0, e5⟩
  clear hX hb hm hk ht e1 e2 e3 e4 hl hlen hs
  go_enter Tryz.func136, Tryz.ntmps136
  go_upto_region 1 with (fail)
  refine wp_region_got (S := fun w' => w'.cell? ⟨Bm, 0, none⟩ = some (.pointer (some ⟨M, 0, none⟩)) ∧ w'.cell? ⟨M, 0, none⟩ = some (.pointer (some ⟨p, 0, none⟩)) ∧ w'.cell? ⟨M, 5, none⟩ = some (.int .i64 num)) 10 (by kernel_rfl) (by kernel_rfl) HE1.out (fun hHeld => ?_)
  refine got_take (i := 0) (v := ?v301) (by kernel_rfl) rfl (by decide) (by kernel_rfl) (by kernel_rfl) (fun _ _ _ h => h) (Or.inl ⟨by rfl, ?hy301⟩) hHeld ?rest301
  case hy301 =>
    intro wz hSw
    (try dsimp only at hSw)
    go_split_ands
    go_simp
    (try with_reducible rfl)
  (try simp only [Act.put, List.setIfInBounds_toArray, List.set_cons_zero, List.set_cons_succ])
  refine got_take (i := 1) (v := ?v302) (by kernel_rfl) rfl (by decide) (by kernel_rfl) (by kernel_rfl) (fun _ _ _ h => h) (Or.inl ⟨by rfl, ?hy302⟩) hHeld ?rest302
  case hy302 =>
    intro wz hSw
    (try dsimp only at hSw)
    go_split_ands
    go_simp
    (try with_reducible rfl)
  (try simp only [Act.put, List.setIfInBounds_toArray, List.set_cons_zero, List.set_cons_succ])
  refine got_take (i := 2) (v := ?v303) (by kernel_rfl) rfl (by decide) (by kernel_rfl) (by kernel_rfl) (fun _ _ _ h => h) (Or.inl ⟨by rfl, ?hy303⟩) hHeld ?rest303
  case hy303 =>
    intro wz hSw
    (try dsimp only at hSw)
    go_split_ands
    go_simp
    (try with_reducible rfl)
  (try simp only [Act.put, List.setIfInBounds_toArray, List.set_cons_zero, List.set_cons_succ])
  refine got_take (i := 3) (v := ?v304) (by kernel_rfl) rfl (by decide) (by kernel_rfl) (by kernel_rfl) (fun _ _ _ h => h) (Or.inl ⟨by rfl, ?hy304⟩) hHeld ?rest304
  case hy304 =>
    intro wz hSw
    (try dsimp only at hSw)
    go_split_ands
    go_simp
    (try with_reducible rfl)
  (try simp only [Act.put, List.setIfInBounds_toArray, List.set_cons_zero, List.set_cons_succ])
  refine got_take (i := 4) (v := ?v305) (by kernel_rfl) rfl (by decide) (by kernel_rfl) (by kernel_rfl) (fun _ _ _ h => h) (Or.inl ⟨by rfl, ?hy305⟩) hHeld ?rest305
  case hy305 =>
    intro wz hSw
    (try dsimp only at hSw)
    go_split_ands
    go_simp
    (try with_reducible rfl)
  (try simp only [Act.put, List.setIfInBounds_toArray, List.set_cons_zero, List.set_cons_succ])
  refine got_take (i := 5) (v := ?v306) (by kernel_rfl) rfl (by decide) (by kernel_rfl) (by kernel_rfl) (fun _ _ _ h => h) (Or.inl ⟨by rfl, ?hy306⟩) hHeld ?rest306
  case hy306 =>
    intro wz hSw
    (try dsimp only at hSw)
    go_split_ands
    go_simp
    (try with_reducible rfl)
  (try simp only [Act.put, List.setIfInBounds_toArray, List.set_cons_zero, List.set_cons_succ])
  refine got_take (i := 6) (v := ?v307) (by kernel_rfl) rfl (by decide) (by kernel_rfl) (by kernel_rfl) (fun _ _ _ h => h) (Or.inl ⟨by rfl, ?hy307⟩) hHeld ?rest307
  case hy307 =>
    intro wz hSw
    (try dsimp only at hSw)
    go_split_ands
    go_simp
    (try with_reducible rfl)
  (try simp only [Act.put, List.setIfInBounds_toArray, List.set_cons_zero, List.set_cons_succ])
  refine got_take (i := 7) (v := ?v308) (by kernel_rfl) rfl (by decide) (by kernel_rfl) (by kernel_rfl) (fun _ _ _ h => h) (Or.inl ⟨by rfl, ?hy308⟩) hHeld ?rest308
  case hy308 =>
    intro wz hSw
    (try dsimp only at hSw)
    go_split_ands
    go_simp
    (try with_reducible rfl)
  (try simp only [Act.put, List.setIfInBounds_toArray, List.set_cons_zero, List.set_cons_succ])
  refine got_one (i := 8) rfl (by decide) (by kernel_rfl) ?_
  intro K' hK
  go_simp
  refine (HFI.out _ HDR.out).mono ?_
  rintro r wq ⟨rfl, hq0⟩
  have hq : fr w wq := fr.step HDR.out hq0
  dsimp only
  refine hK.out _ _ (⟨fr.cell hq eb, fr.cell hq e0, fr.cell hq e5⟩) (fun hHeld => ?_)
  clear hK K'
  (try simp only [Act.put, List.setIfInBounds_toArray, List.set_cons_zero, List.set_cons_succ])
  obtain ⟨cc, W', hcv, hby, hfv⟩ := HCV.out wq
  refine got_one (i := 9) rfl (by decide) (by kernel_rfl) ?_
  intro K' hK
  go_simp
  refine hK.out _ _ (⟨fr.cell (fr.step hq hfv) eb, fr.cell (fr.step hq hfv) e0, fr.cell (fr.step hq hfv) e5⟩) (fun hHeld => ?_)
  clear hK K'
  (try simp only [Act.put, List.setIfInBounds_toArray, List.set_cons_zero, List.set_cons_succ])
  refine got_tail (by kernel_rfl) rfl ?_
  simp only [List.drop_succ_cons, List.drop_zero]
  go_wp2_with (go_at_call 35; refine (HSY.out cc wq W' hq hfv hby).mono ?_; rintro r w5 ⟨rfl, ⟨F', hsp, hk5⟩, ho5⟩)
  go_ret
  exact ⟨rfl, ⟨F', hsp.low (Below.size (fr.step hq hfv)), hk5⟩, (Only.of_below (fr.step hq hfv)).trans ho5⟩
set_option maxRecDepth 100000 in
set_option maxHeartbeats 1000000 in
theorem beg3_any (hb : Boxed w Bm 46 (.pointer (some ⟨M, 0, none⟩))) (hm : ManR w M p x v num) (hk : DkC w F p dn D) (hf : D freshW = some c) (hd : dn ≤ 1000000) :
    Calls Tryz.prog 137 #[.pointer (some ⟨Bm, 0, none⟩)] w fun r w' => r = .returned (.int .i64 0) ∧ DkC w' F p (dn + 1) D ∧ Only F w w' := by
  have HSY : Hid (Calls Tryz.prog 70 #[.pointer (some ⟨p, 0, none⟩), .string ⟨#[99, 117, 114, 114, 101, 110, 116, 46, 116, 109, 112]⟩] w fun r w' => r = .returned (.int .i64 0) ∧ DkC w' F p (dn + 1) D ∧ Only F w w') := Lib.hid (csync (x := freshW) hk hf (by omega))
  obtain ⟨e0, e1, e2, e3, e4, e5⟩ := hm.cells
  have eb := hb.cell
  clear hb hm hk hf e1 e2 e3 e4 e5
  go_enter Tryz.func137, Tryz.ntmps137
  go_wp2_with (go_at_call 70; refine HSY.out.mono ?_; rintro r w5 ⟨rfl, hk5, ho5⟩)
  go_ret
  exact ⟨rfl, hk5, ho5⟩
set_option maxRecDepth 100000 in
set_option maxHeartbeats 1000000 in
theorem beg4_any (hb : Boxed w Bm 46 (.pointer (some ⟨M, 0, none⟩))) (hm : ManR w M p x v num) (hk : DkC w F p dn D) (hf : D freshW = some c) (hd : dn ≤ 1000000) :
    Calls Tryz.prog 138 #[.pointer (some ⟨Bm, 0, none⟩)] w fun r w' => r = .returned (.int .i64 0) ∧ DkC w' F p (dn + 1) (putD (delD D freshW) curW c) ∧ Only F w w' := by
  have HSY : Hid (Calls Tryz.prog 72 #[.pointer (some ⟨p, 0, none⟩), .string ⟨#[99, 117, 114, 114, 101, 110, 116, 46, 116, 109, 112]⟩, .string ⟨#[99, 117, 114, 114, 101, 110, 116]⟩] w fun r w' => r = .returned (.int .i64 0) ∧ DkC w' F p (dn + 1) (putD (delD D freshW) curW c) ∧ Only F w w') := Lib.hid (crename (x := freshW) (y := curW) hk (by decide) (by decide) hf (by omega))
  obtain ⟨e0, e1, e2, e3, e4, e5⟩ := hm.cells
  have eb := hb.cell
  clear hb hm hk hf e1 e2 e3 e4 e5
  go_enter Tryz.func138, Tryz.ntmps138
  go_wp2_with (go_at_call 72; refine HSY.out.mono ?_; rintro r w5 ⟨rfl, hk5, ho5⟩)
  go_ret
  exact ⟨rfl, hk5, ho5⟩
set_option maxRecDepth 100000 in
set_option maxHeartbeats 1000000 in
theorem beg5_any {Bo : Nat} {own : Nm} (hb : Boxed w Bm 46 (.pointer (some ⟨M, 0, none⟩))) (ho : Boxed w Bo 9 (.string ⟨own.toArray⟩)) (hm : ManR w M p x v num) (hk : DkC w F p dn D) (hf : D own = some c) (hd : dn ≤ 1000000) :
    Calls Tryz.prog 139 #[.pointer (some ⟨Bm, 0, none⟩), .pointer (some ⟨Bo, 0, none⟩)] w fun r w' => r = .returned (.int .i64 0) ∧ DkC w' F p (dn + 1) (delD D own) ∧ Only F w w' := by
  obtain ⟨X, hX⟩ : ∃ X : ByteArray, (⟨own.toArray⟩ : ByteArray) = X := ⟨_, rfl⟩
  have HSY : Hid (∀ wx, fr w wx → Calls Tryz.prog 62 #[.pointer (some ⟨p, 0, none⟩), .string X] wx fun r w' => r = .returned (.int .i64 0) ∧ DkC w' F p (dn + 1) (delD D own) ∧ Only F wx w') := Lib.hid fun wx hx => by
    rw [← hX]
    exact cdelete (hk.below hx) hf (by omega)
  rw [hX] at ho
  obtain ⟨e0, e1, e2, e3, e4, e5⟩ := hm.cells
  have eb := hb.cell
  have eo := ho.cell
  have q0 := fun q : Ext w => q.cell e0
  have qo := fun q : Ext w => q.cell eo
  have qb := fun q : Ext w => q.cell eb
  clear hX hb ho hm hk hf e1 e2 e3 e4 e5
  go_enter Tryz.func139, Tryz.ntmps139
  go_upto_region 1 with (fail)
  (refine wp_region_ext_tail 5 (by kernel_rfl) (by kernel_rfl) ?_; simp only [List.take_succ_cons, List.take_zero, List.drop_succ_cons, List.drop_zero]; (repeat (go_big_quiet_step (fail))); refine wpQuiet_nil ?_; intro wq hw'; obtain ⟨⟨_, hq⟩, hw''⟩ := hw'; subst hw'')
  clear q0 qo qb
  go_wp2_with (go_at_call 62; refine (HSY.out _ hq).mono ?_; rintro r w5 ⟨rfl, hk5, ho5⟩)
  go_ret
  exact ⟨rfl, hk5, (Only.of_below hq).trans ho5⟩
end
end Go.Proofs.YtjnolpfmchnnmaaGreatDoor
end
section
namespace Go.Proofs.YtjnolpfmchnnmaaGreatDoor
set_option maxRecDepth 100000
open Go.RowKit Go.BigFrame
theorem All2.dropT {α β : Type} {P : α → β → Prop} {l : List α} {m : List β} (h : All2 P l m) (n : Nat) : All2 P (l.drop n) (m.drop n) := by
  induction h generalizing n with
  | nil => simpa using All2.nil
  | cons h1 h2 ih => cases n with
    | zero => exact .cons h1 h2
    | succ n => exact ih n
theorem All2.takeT {α β : Type} {P : α → β → Prop} {l : List α} {m : List β} (h : All2 P l m) (n : Nat) : All2 P (l.take n) (m.take n) := by
  induction h generalizing n with
  | nil => simpa using All2.nil
  | cons h1 h2 ih => cases n with
    | zero => simpa using All2.nil
    | succ n => exact .cons h1 (ih n)
theorem flat_len5 {css : List (List Value)} (h : ∀ cs ∈ css, cs.length = 5) : css.flatten.length = css.length * 5 := by
  induction css with
  | nil => rfl
  | cons a l ih =>
    rw [List.flatten_cons, List.length_append, ih fun c hc => h c (List.mem_cons_of_mem _ hc), h a List.mem_cons_self, List.length_cons]
    omega
theorem tbS_len {w : World} {S : Nat → Prop} {ls : List Tbl} {css : List (List Value)} (h : All2 (tbR w S) ls css) : ∀ cs ∈ css, cs.length = 5 := by
  induction h with
  | nil => intro cs h; simp at h
  | cons h _ ih =>
    intro cs hm
    rcases List.mem_cons.1 hm with rfl | hm
    · exact tbFine.len h
    · exact ih _ hm
theorem flat_drop5 {css : List (List Value)} (h : ∀ cs ∈ css, cs.length = 5) (k : Nat) : (css.drop k).flatten = css.flatten.drop (k * 5) := by
  induction css generalizing k with
  | nil => simp
  | cons a l ih =>
    cases k with
    | zero => simp
    | succ k =>
      have ha := h a List.mem_cons_self
      rw [List.drop_succ_cons, List.flatten_cons, ih (fun c hc => h c (List.mem_cons_of_mem _ hc)) k, show (k + 1) * 5 = a.length + k * 5 by omega, List.drop_append]
      simp
theorem flat_take5 {css : List (List Value)} (h : ∀ cs ∈ css, cs.length = 5) (k : Nat) : (css.take k).flatten = css.flatten.take (k * 5) := by
  induction css generalizing k with
  | nil => simp
  | cons a l ih =>
    cases k with
    | zero => simp
    | succ k =>
      have ha := h a List.mem_cons_self
      rw [List.take_succ_cons, List.flatten_cons, List.flatten_cons, ih (fun c hc => h c (List.mem_cons_of_mem _ hc)) k, show (k + 1) * 5 = a.length + k * 5 by omega, List.take_append]
      rw [List.take_of_length_le (l := a) (by omega), Nat.add_sub_cancel_left]
theorem chunk_tabs {w : World} {S : Nat → Prop} {g o n c k : Nat} {ts : List Tbl} (h : TabsV w S (.slice (some ⟨g, o, none⟩) n c) ts) (hn : ts.length = n) (hk : 1024 * k < n) : TabsV w S (chunkV g o n k) (chunkT ts k) := by
  obtain ⟨A, c', css, hE, h1, h2, h3, h4, h5⟩ := h
  injection hE with e1 e2 e3
  subst e1 e3
  have hall := tbS_len h5
  have hl5 : css.length = n := by rw [← h5.length, hn]
  have hcl : (chunkT ts k).length = min 1024 (n - 1024 * k) := by unfold chunkT; rw [List.length_take, List.length_drop, hn]
  have h6 := (h5.dropT (1024 * k)).takeT 1024
  have hall2 : ∀ cs ∈ (css.drop (1024 * k)).take 1024, cs.length = 5 := fun cs hc => hall cs (List.mem_of_mem_drop (List.mem_of_mem_take hc))
  have hlen : ((css.drop (1024 * k)).take 1024).length = min 1024 (n - 1024 * k) := by rw [List.length_take, List.length_drop, hl5]
  refine ⟨_, _, (css.drop (1024 * k)).take 1024, by rw [hcl]; rfl, by rw [hcl]; exact Nat.le_refl _, by omega, by rw [hcl]; omega, ?_, h6⟩
  rw [hcl]
  rw [hn] at h4
  obtain ⟨b, o', hb, hS, hlt, hc⟩ := h4.2 (by omega)
  injection hb with hb
  injection hb with hb1 hb2
  subst hb1 hb2
  refine ⟨by rw [flat_len5 hall2, hlen], fun _ => ⟨g, o + 1024 * k * 5, rfl, hS, hlt, fun j u hu => ?_⟩⟩
  rw [flat_take5 (fun cs hc => hall cs (List.mem_of_mem_drop hc)), flat_drop5 hall] at hu
  have hj : j < 1024 * 5 := by
    rcases Nat.lt_or_ge j (1024 * 5) with h | h
    · exact h
    · rw [List.getElem?_eq_none (by rw [List.length_take]; omega)] at hu; cases hu
  rw [List.getElem?_take_of_lt hj, List.getElem?_drop] at hu
  have := hc _ u hu
  rwa [show o + (1024 * k * 5 + j) = o + 1024 * k * 5 + j by omega] at this
theorem splC_len (g o n : Nat) (lg sq : Int) (m : Nat) : (splC g o n lg sq m).length = (m + 1) * 4 := by
  induction m with
  | zero => rfl
  | succ m ih =>
    rw [splC_succ, List.length_append, ih]
    show (m + 1) * 4 + 4 = _
    omega
theorem splC_at (g o n : Nat) (lg sq : Int) (m : Nat) : ∀ j, j ≤ m → ∀ i, i < 4 → (splC g o n lg sq m)[j * 4 + i]? = (edC (if j = 0 then .slice none 0 0 else chunkV g o n (j - 1)) lg sq)[i]? := by
  induction m with
  | zero =>
    intro j hj i hi
    obtain rfl : j = 0 := by omega
    simp [splC]
  | succ m ih =>
    intro j hj i hi
    rw [splC_succ]
    by_cases h : j ≤ m
    · rw [List.getElem?_append_left (by rw [splC_len]; omega)]
      exact ih j h i hi
    · obtain rfl : j = m + 1 := by omega
      rw [List.getElem?_append_right (by rw [splC_len]; omega), splC_len, show (m + 1) * 4 + i - (m + 1) * 4 = i by omega]
      simp
theorem split_at {w : World} {S : Nat → Prop} {A : Option Addr} {g o n c : Nat} {v : Ver} (h : TabsV w S (.slice A n c) v.tabs) (hn : v.tabs.length = n) (hA : 0 < n → A = some ⟨g, o, none⟩) {j : Nat} (hj : j ≤ chunksN n) :
    ∃ Aj nj cj ej, (splitE v)[j]? = some ej ∧ ej.drop = [] ∧ ej.lg = v.lg ∧ ej.sq = v.sq ∧ TabsV w S (.slice Aj nj cj) ej.add ∧ (if j = 0 then .slice none 0 0 else chunkV g o n (j - 1)) = Value.slice Aj nj cj := by
  cases j with
  | zero => exact ⟨none, 0, 0, ⟨[], [], v.lg, v.sq⟩, rfl, rfl, rfl, rfl, ⟨none, 0, [], rfl, by simp, by simp, by simp, Row.nil _ _ _ _, .nil⟩, rfl⟩
  | succ k =>
    have hk : 1024 * k < n := by unfold chunksN at hj; omega
    obtain rfl := hA (by omega)
    have ht := chunk_tabs h hn hk
    refine ⟨_, _, _, ⟨chunkT v.tabs k, [], v.lg, v.sq⟩, ?_, rfl, rfl, rfl, ?_, by rw [if_neg (by omega), Nat.add_sub_cancel]; rfl⟩
    · unfold splitE
      rw [List.getElem?_cons_succ, List.getElem?_map, List.getElem?_range (by rw [hn]; omega)]
      rfl
    · exact ht
def begD (D : Nm → Option (List UInt8)) (nm : Nm) (l : List (Edt × Int)) (j : Nat) : Nm → Option (List UInt8) := if j = 0 then D else putD D nm (frB (recsM (l.take j)))
theorem putD_putD (D : Nm → Option (List UInt8)) (x : Nm) (a b : List UInt8) : putD (putD D x a) x b = putD D x b := by
  funext y
  unfold putD
  split <;> rfl
theorem begD_step {D : Nm → Option (List UInt8)} {nm : Nm} {l : List (Edt × Int)} {j : Nat} {x : Edt × Int} (hD : D nm = none) (hx : l[j]? = some x) : putD (begD D nm l j) nm ((begD D nm l j nm).getD [] ++ putF (editF x.1 x.2)) = begD D nm l (j + 1) := by
  have hr : frB (recsM (l.take (j + 1))) = frB (recsM (l.take j)) ++ putF (editF x.1 x.2) := by rw [take_snoc hx, recsM_app, frB_append]; exact congrArg (frB (recsM (l.take j)) ++ ·) (frB_one _)
  unfold begD
  rw [if_neg (Nat.succ_ne_zero j), hr]
  by_cases hj : j = 0
  · subst hj
    rw [if_pos rfl, hD]
    rfl
  · rw [if_neg hj, putD_same, putD_putD]
    rfl
theorem begD_len {D : Nm → Option (List UInt8)} {nm : Nm} {l : List (Edt × Int)} (j : Nat) (hD : D nm = none) (hl : ∀ x ∈ l, EditOk x.1 x.2) : ((begD D nm l j nm).getD []).length ≤ l.length * 600008 := by
  unfold begD
  split
  · rw [hD]; simp
  · rw [putD_same]
    show (frB (recsM (l.take j))).length ≤ _
    exact Nat.le_trans (recsM_len (l := l.take j) fun x hx => hl x (List.mem_of_mem_take hx)) (Nat.mul_le_mul_right _ (List.length_take_le' j l))
end Go.Proofs.YtjnolpfmchnnmaaGreatDoor
end
section
namespace Go.Proofs.YtjnolpfmchnnmaaGreatDoor
set_option maxRecDepth 100000
open Go.RowKit Go.BigFrame Go.Sort Go.Shelf Go.Lib
attribute [local go_sem ↓] Go.wp_at_zero Go.wp_at_succ
theorem TabsV.only {w w' : World} {S T : Nat → Prop} {v : Value} {ts : List Tbl} (h : TabsV w S v ts) (ho : Only T w w') (hS : ∀ i, S i → ¬ T i) : TabsV w' S v ts := Rows.keep tbFine h fun _ _ _ _ hr => hr.only ho fun i _ hs => hS i hs
theorem ManR.put {w : World} {M p num : Nat} {x : Value} {v : Ver} (h : ManR w M p x v num) (x' : Value) (v' : Ver) : ManR ((((w.setCell ⟨M, 1, none⟩ x').setCell ⟨M, 2, none⟩ (.int .i64 v'.lg)).setCell ⟨M, 3, none⟩ (.int .i64 v'.sq)).setCell ⟨M, 4, none⟩ (.int .i64 v'.nx)) M p x' v' num ∧ Only (fun i => i = M) w ((((w.setCell ⟨M, 1, none⟩ x').setCell ⟨M, 2, none⟩ (.int .i64 v'.lg)).setCell ⟨M, 3, none⟩ (.int .i64 v'.sq)).setCell ⟨M, 4, none⟩ (.int .i64 v'.nx)) :=
  ⟨heap_setCell_same _ M 4 _ _ _ (heap_setCell_same _ M 3 _ _ _ (heap_setCell_same _ M 2 _ _ _ (heap_setCell_same _ M 1 _ _ _ h))), (((only_set _ _ _ _).trans (only_set _ _ _ _)).trans (only_set _ _ _ _)).trans (only_set _ _ _ _)⟩
theorem cells8 {W w' : World} {p1 p2 p3 p4 p5 p6 p7 p8 : Addr} {x1 x2 x3 x4 x5 x6 x7 x8 : Value} (h : fr W w') (c : W.cell? p1 = some x1 ∧ W.cell? p2 = some x2 ∧ W.cell? p3 = some x3 ∧ W.cell? p4 = some x4 ∧ W.cell? p5 = some x5 ∧ W.cell? p6 = some x6 ∧ W.cell? p7 = some x7 ∧ W.cell? p8 = some x8) :
    w'.cell? p1 = some x1 ∧ w'.cell? p2 = some x2 ∧ w'.cell? p3 = some x3 ∧ w'.cell? p4 = some x4 ∧ w'.cell? p5 = some x5 ∧ w'.cell? p6 = some x6 ∧ w'.cell? p7 = some x7 ∧ w'.cell? p8 = some x8 := by
  obtain ⟨c1, c2, c3, c4, c5, c6, c7, c8⟩ := c
  exact ⟨h.cell c1, h.cell c2, h.cell c3, h.cell c4, h.cell c5, h.cell c6, h.cell c7, h.cell c8⟩
def ManG (w : World) (F : Nat → Prop) (M p : Nat) (v : Ver) (num dn : Nat) (D : Nm → Option (List UInt8)) (G : Nat → Prop) : Prop :=
  ManC w F M p v num dn D ∧ ∃ x, ManR w M p x v num ∧ TabsV w (fun i => G i ∧ ¬ F i ∧ i ≠ M) x v.tabs
set_option maxRecDepth 100000 in
set_option maxHeartbeats 4000000 in
theorem mapply_own (S F : Nat → Prop) (M p num dn : Nat) (v : Ver) (D : Nm → Option (List UInt8)) (av dv : Value) (e : Edt) (w : World) (hm : ManC w F M p v num dn D) (ht : TabW w) (ha : TabsV w S av e.add) (hd : IntsIn w S dv e.drop) (hsort : foldE v e = 0 → Sorts sortTb (foldT v e))
    (hc : ∀ t ∈ e.add, t.count < 9223372036854775808) (hlg : e.lg < 9223372036854775808) (hsq : e.sq < 9223372036854775808) (hdn : dn ≤ 999990) :
    Calls Tryz.prog 28 #[.pointer (some ⟨M, 0, none⟩), .agg #[av, dv, .int .i64 e.lg, .int .i64 e.sq]] w fun r w' => r = .returned (.int .i64 (foldE v e)) ∧ (if foldE v e = 0 then ∃ F', Spread w.heap.size F F' ∧ ManG w' F' M p ⟨sortTb (foldT v e), e.lg, e.sq, foldN v e⟩ num (dn + 2) (putD D (nameM num) ((D (nameM num)).getD [] ++ putF (editF e (foldN v e)))) (fun i => w.heap.size ≤ i) else fr w w') ∧ Only (fun i => F i ∨ i = M) w w' := by
  obtain ⟨x, hr, hx⟩ := hm.row
  obtain ⟨Aa, ca, rfl⟩ := ha.form
  obtain ⟨Ax, cx, rfl⟩ := hx.form
  obtain ⟨Ad, cd, rfl⟩ : ∃ A c, dv = .slice A e.drop.length c := by obtain ⟨A, c, h, _⟩ := hd; exact ⟨A, c, h⟩
  obtain ⟨na, hna⟩ : ∃ n, e.add.length = n := ⟨_, rfl⟩
  obtain ⟨nd, hnd⟩ : ∃ n, e.drop.length = n := ⟨_, rfl⟩
  obtain ⟨nv, hnv⟩ : ∃ n, v.tabs.length = n := ⟨_, rfl⟩
  rw [hna] at ha ⊢
  rw [hnd] at hd ⊢
  rw [hnv] at hx hr
  have HMC := Lib.hid hm
  have HT := Lib.hid ht
  have HA := Lib.hid ha
  have HD := Lib.hid hd
  have HX := Lib.hid hx
  have HR := Lib.hid hr
  have HC := Lib.hid hc
  have HFO := Lib.hid fun wx (hxx : fr w wx) => fold_if sortTb (fun _ => True) (.slice Ax nv cx) (.slice Aa na ca) (.slice Ad nd cd) v e wx ((Rows.keep tbFine hx fun _ _ _ _ hr => hr.mono fun _ _ => trivial).below tbFine hxx) ((Rows.keep tbFine ha fun _ _ _ _ hr => hr.mono fun _ _ => trivial).below tbFine hxx) ((hd.mono fun _ _ => trivial).below hxx) hm.ver.nodup (by have := hm.ver.few; omega) hsort
  by_cases hE : foldE v e = 0
  · rw [hE]
    simp only [if_true]
    obtain ⟨n2, hn2⟩ : ∃ n, (sortTb (foldT v e)).length = n := ⟨_, rfl⟩
    have HF0 : Hid (∀ wx, fr w wx → Calls Tryz.prog 74 #[.agg #[.slice Ax nv cx, .int .i64 v.lg, .int .i64 v.sq, .int .i64 v.nx], .agg #[.slice Aa na ca, .slice Ad nd cd, .int .i64 e.lg, .int .i64 e.sq]] wx fun r w' => ∃ A2 k2, r = .returned (.tuple #[.agg #[.slice A2 n2 k2, .int .i64 e.lg, .int .i64 e.sq, .int .i64 (foldN v e)], .int .i64 0]) ∧ OwnTabs w' wx.heap.size (.slice A2 n2 k2) (sortTb (foldT v e)) ∧ fr wx w') := Lib.hid fun wx hxx => by
      refine (HFO.out wx hxx).mono ?_
      rintro r w' ⟨R, rfl, hR, hf⟩
      rw [if_pos hE] at hR
      obtain ⟨x2, rfl, ho⟩ := hR
      obtain ⟨A2, k2, rfl⟩ : ∃ A c, x2 = .slice A n2 c := by obtain ⟨css, h1, _⟩ := ho; rw [hn2] at h1; exact own_form h1
      exact ⟨A2, k2, by rw [hE], ho, hf⟩
    have HE := Lib.hid hE
    have HN2 := Lib.hid hn2
    obtain ⟨nx2, hnx2⟩ : ∃ q, foldN v e = q := ⟨_, rfl⟩
    rw [hnx2] at HF0 ⊢
    have HNX2 := Lib.hid hnx2
    clear hE HFO hn2 hnx2
    have hf1 : fr w (w.alloc (.cells #[.slice Aa na ca, .slice Ad nd cd, .int .i64 e.lg, .int .i64 e.sq] 45)) := fr.alloc fr.refl _
    have b0 := heap_alloc_new w (.cells #[.slice Aa na ca, .slice Ad nd cd, .int .i64 e.lg, .int .i64 e.sq] 45)
    have HSORT := Lib.hid hsort
    clear hm ht ha hd hx hr hsort hc hna hnd hnv
    go_enter Tryz.func28, Tryz.ntmps28
    go_upto_region 3 with (fail)
    obtain ⟨z, hz⟩ : ∃ z, w.heap.size = z := ⟨_, rfl⟩
    rw [hz] at b0 ⊢
    generalize w.alloc (.cells #[.slice Aa na ca, .slice Ad nd cd, .int .i64 e.lg, .int .i64 e.sq] 45) = w1 at hf1 b0 ⊢
    have HF1 := Lib.hid hf1
    have HB := Lib.hid b0
    have HZ := Lib.hid hz
    have c0 := cell_of_row _ _ 0 _ _ _ b0
    have c1 := cell_of_row _ _ 1 _ _ _ b0
    have c2 := cell_of_row _ _ 2 _ _ _ b0
    have c3 := cell_of_row _ _ 3 _ _ _ b0
    obtain ⟨e0, e1, e2, e3, e4, e5⟩ := (HR.out.below hf1).cells
    have HDR : Hid (fr w1 w1.drew) := Lib.hid (fr.drew fr.refl)
    clear hf1 b0 hz
    have hzz := heap_alloc_new w1 (.cells #[.slice none 0 0, .int .i64 0, .int .i64 0, .int .i64 0] 50)
    have HAD : Hid (fr w1 (w1.alloc (.cells #[.slice none 0 0, .int .i64 0, .int .i64 0, .int .i64 0] 50)).drew) := Lib.hid (fr.drew (fr.alloc fr.refl _))
    have HPZ : Hid ((w1.alloc (.cells #[.slice none 0 0, .int .i64 0, .int .i64 0, .int .i64 0] 50)).drew.heap[w1.heap.size]? = some (.cells #[.slice none 0 0, .int .i64 0, .int .i64 0, .int .i64 0] 50 (0, 0))) := Lib.hid hzz
    have HFAD := Lib.hid (fr.step HF1.out HAD.out)
    have HFDR := Lib.hid (fr.step HF1.out HDR.out)
    have HC8 : Hid (w1.cell? ⟨M, 1, none⟩ = some (.slice Ax nv cx) ∧ w1.cell? ⟨M, 2, none⟩ = some (.int .i64 v.lg) ∧ w1.cell? ⟨M, 3, none⟩ = some (.int .i64 v.sq) ∧ w1.cell? ⟨M, 4, none⟩ = some (.int .i64 v.nx) ∧ w1.cell? ⟨z, 0, none⟩ = some (.slice Aa na ca) ∧ w1.cell? ⟨z, 1, none⟩ = some (.slice Ad nd cd) ∧ w1.cell? ⟨z, 2, none⟩ = some (.int .i64 e.lg) ∧ w1.cell? ⟨z, 3, none⟩ = some (.int .i64 e.sq)) := Lib.hid ⟨e1, e2, e3, e4, c0, c1, c2, c3⟩
    clear hzz e0 e1 e2 e3 e4 e5 c0 c1 c2 c3
    go_region_held3 (fun w' => w'.cell? ⟨M, 1, none⟩ = some (.slice Ax nv cx) ∧ w'.cell? ⟨M, 2, none⟩ = some (.int .i64 v.lg) ∧ w'.cell? ⟨M, 3, none⟩ = some (.int .i64 v.sq) ∧ w'.cell? ⟨M, 4, none⟩ = some (.int .i64 v.nx) ∧ w'.cell? ⟨z, 0, none⟩ = some (.slice Aa na ca) ∧ w'.cell? ⟨z, 1, none⟩ = some (.slice Ad nd cd) ∧ w'.cell? ⟨z, 2, none⟩ = some (.int .i64 e.lg) ∧ w'.cell? ⟨z, 3, none⟩ = some (.int .i64 e.sq))
      (first
        | with_reducible exact cells8 HDR.out HC8.out
        | with_reducible exact cells8 HAD.out HC8.out
        | with_reducible exact cells8 f2 (cells8 HDR.out HC8.out)
        | with_reducible exact cells8 f2 (cells8 HAD.out HC8.out)
        | with_reducible exact cells8 (fr.alloc f2 _) (cells8 HDR.out HC8.out)
        | with_reducible exact cells8 (fr.putE (fr.putE (fr.putE (fr.putE (fr.stepR HAD.out f2) (Nat.le_refl _)) (Nat.le_refl _)) (Nat.le_refl _)) (Nat.le_refl _)) HC8.out)
      (first
        | (go_at_call 74; (with_reducible refine Calls.mono (HF0.out _ ?_) ?_); (focus (with_reducible exact HFAD.out)); rintro r w2 ⟨A2, k2, rfl, ho2, f2⟩; have pz := boxRowFr HPZ.out f2; have g0 := cell_of_row _ _ 0 _ _ _ pz; have g1 := cell_of_row _ _ 1 _ _ _ pz; have g2 := cell_of_row _ _ 2 _ _ _ pz; have g3 := cell_of_row _ _ 3 _ _ _ pz; have y0 := frozen_of_row _ _ 0 _ _ pz; have y1 := frozen_of_row _ _ 1 _ _ pz; have y2 := frozen_of_row _ _ 2 _ _ pz; have y3 := frozen_of_row _ _ 3 _ _ pz)
        | (go_at_call 74; (with_reducible refine Calls.mono (HF0.out _ ?_) ?_); (focus (with_reducible exact HFDR.out)); rintro r w2 ⟨A2, k2, rfl, ho2, f2⟩))
    · have hf9 : fr w (w2.alloc (.cells #[.slice A2 n2 k2, .int .i64 e.lg, .int .i64 e.sq, .int .i64 nx2] 50)) := fr.alloc (fr.stepR HFDR.out f2) _
      have ho9 := OwnRows.below tbFine ho2 (fr.alloc fr.refl (.cells #[.slice A2 n2 k2, .int .i64 e.lg, .int .i64 e.sq, .int .i64 nx2] 50))
      have hb9 : fr w1 (w2.alloc (.cells #[.slice A2 n2 k2, .int .i64 e.lg, .int .i64 e.sq, .int .i64 nx2] 50)) := fr.alloc (fr.stepR HDR.out f2) _
      have pz9 := heap_alloc_new w2 (.cells #[.slice A2 n2 k2, .int .i64 e.lg, .int .i64 e.sq, .int .i64 nx2] 50)
      have hlb : w.heap.size ≤ w1.drew.heap.size := Below.size HFDR.out
      have hzl := Below.size (fr.stepR HFDR.out f2)
      obtain ⟨lb, hlbe⟩ : ∃ g, w1.drew.heap.size = g := ⟨_, rfl⟩
      rw [hlbe] at ho9 hlb
      obtain ⟨zb, hzb⟩ : ∃ g, w2.heap.size = g := ⟨_, rfl⟩
      rw [hzb] at pz9 hzl ⊢
      have HZBL : Hid (w.heap.size ≤ zb ∧ w.heap.size ≤ lb) := Lib.hid ⟨hzl, hlb⟩
      generalize w2.alloc (.cells #[.slice A2 n2 k2, .int .i64 e.lg, .int .i64 e.sq, .int .i64 nx2] 50) = w9 at hf9 ho9 hb9 pz9 ⊢
      clear ho2 f2 hzb hzl hlb hlbe
      have HF9 := Lib.hid hf9
      have HT9 := Lib.hid ho9
      have HB9 := Lib.hid (boxRowFr HB.out hb9)
      have HZB := Lib.hid pz9
      have t0 := cell_of_row _ _ 0 _ _ _ pz9
      have t1 := cell_of_row _ _ 1 _ _ _ pz9
      have t2 := cell_of_row _ _ 2 _ _ _ pz9
      have t3 := cell_of_row _ _ 3 _ _ _ pz9
      have d0 := cell_of_row _ _ 0 _ _ _ HB9.out
      have d1 := cell_of_row _ _ 1 _ _ _ HB9.out
      have d2 := cell_of_row _ _ 2 _ _ _ HB9.out
      have d3 := cell_of_row _ _ 3 _ _ _ HB9.out
      have hfok : FoldOk v e := foldE_ok.1 HE.out
      obtain ⟨k1, k2', k3, k4, k5⟩ := fold_ok HMC.out.ver hfok HC.out hlg hsq
      have HVE := Lib.hid k1
      have HEO := Lib.hid k2'
      have HPUT := Lib.hid fun wx (hx : fr w wx) => mput_any (fun _ => True) F M p num dn D (.slice Ax nv cx) (.slice Aa na ca) (.slice Ad nd cd) v e (foldN v e) wx (HR.out.below hx) (HMC.out.dk.below hx) (HT.out.below hx) ((Rows.keep tbFine HA.out fun _ _ _ _ hr => hr.mono fun _ _ => trivial).below tbFine hx) ((HD.out.mono fun _ _ => trivial).below hx) k2' HMC.out.num.2 (by omega) (by
        obtain ⟨_, l, _, hll, hlf, hch⟩ := HMC.out.file
        rw [hlf]
        have h1 := recsM_len hch.ok
        show (frB (recsM l)).length ≤ _
        omega)
      rw [HNX2.out] at HPUT
      clear ho9 hb9 hf9 pz9 hfok k1 k2' k3 k4 k5
      go_upto_region 9 with (go_at_call 83; refine (HPUT.out _ HF9.out).mono ?_; rintro r w11 ⟨rfl, ⟨F1, hsp1, hk1⟩, hon1⟩)
      have HSP := Lib.hid hsp1
      have HK1 := Lib.hid hk1
      have HON1 := Lib.hid hon1
      have HM1 := Lib.hid ((HR.out.below HF9.out).only hon1 HMC.out.out.1)
      have HTW : Hid (TabW w11) := Lib.hid (((HMC.out.dk.below HF9.out)).tab (HT.out.below HF9.out) hon1)
      have hzb11 : w11.heap[zb]? = some (.cells #[.slice A2 n2 k2, .int .i64 e.lg, .int .i64 e.sq, .int .i64 nx2] 50 (0, 0)) := (hon1.block zb (Array.getElem?_eq_some_iff.1 HZB.out).1 fun h => by have := (HMC.out.dk.lies zb h).1; have := HZBL.out; omega).trans HZB.out
      have HZ11 := Lib.hid hzb11
      have HT11 := Lib.hid (OwnRows.onlyF tbFine HT9.out hon1 fun i hi _ h => by have := (HMC.out.dk.lies i h).1; have := HZBL.out; omega)
      obtain ⟨e0, e1, e2, e3, e4, e5⟩ := HM1.out.cells
      obtain ⟨X, hX⟩ : ∃ X : ByteArray, (⟨(nameM num).toArray⟩ : ByteArray) = X := ⟨_, rfl⟩
      have HFI : Hid (∀ wx, fr w11 wx → Calls Tryz.prog 84 #[.int .i64 num] wx fun r w' => r = .returned (.string X) ∧ Below wx.heap.size wx w') := Lib.hid fun wx hx => by
        rw [← hX]
        exact mfile_any num wx (HTW.out.below hx) HMC.out.num.2
      have HSY : Hid (∀ wx, fr w11 wx → Calls Tryz.prog 70 #[.pointer (some ⟨p, 0, none⟩), .string X] wx fun r w' => r = .returned (.int .i64 0) ∧ DkC w' F1 p (dn + 2) (putD D (nameM num) ((D (nameM num)).getD [] ++ putF (editF e nx2))) ∧ Only F1 wx w') := Lib.hid fun wx hx => by
        rw [← hX]
        exact csync (HK1.out.below hx) (putD_same _ _ _) (by omega)
      clear hX hsp1 hk1 hon1 hzb11
      have q0 := fun q : Ext w11 => q.cell e0
      have q5 := fun q : Ext w11 => q.cell e5
      (refine wp_region_ext_tail 9 (by kernel_rfl) (by kernel_rfl) ?_; simp only [List.take_succ_cons, List.take_zero, List.drop_succ_cons, List.drop_zero]; (repeat (go_big_quiet_step ((go_at_call 84; exact Ext.calls (HFI.out _ (Ext.h _)))))); refine wpQuiet_nil ?_; intro wq hw'; obtain ⟨⟨_, hq⟩, hw''⟩ := hw'; subst hw'')
      clear q0 q5 e0 e1 e2 e3 e4 e5
      have hzF : ∀ i, F1 i → i < w11.heap.size := fun i hi => (HK1.out.lies i hi).1
      go_upto_region 12 with (go_at_call 70; refine (HSY.out _ hq).mono ?_; rintro r w12 ⟨rfl, hk2, hon2⟩)
      have HK2 := Lib.hid hk2
      have HON2 := Lib.hid hon2
      have hMw : M < w.heap.size := HMC.out.lt
      have hF1M : ¬ F1 M := fun h => (HSP.out M h).elim HMC.out.out.1 fun h => by have := Below.size HF9.out; omega
      have HM2 := Lib.hid ((HM1.out.below hq).only hon2 hF1M)
      have hzF1 : ¬ F1 zb := fun h => (HSP.out zb h).elim (fun h => by have := (HMC.out.dk.lies zb h).1; have := HZBL.out; omega) fun h => by have := (Array.getElem?_eq_some_iff.1 HZB.out).1; omega
      have hzb12 : w12.heap[zb]? = some (.cells #[.slice A2 n2 k2, .int .i64 e.lg, .int .i64 e.sq, .int .i64 nx2] 50 (0, 0)) := (hon2.block zb (Array.getElem?_eq_some_iff.1 (boxRowFr HZ11.out hq)).1 hzF1).trans (boxRowFr HZ11.out hq)
      have t0 := cell_of_row _ _ 0 _ _ _ hzb12
      have t1 := cell_of_row _ _ 1 _ _ _ hzb12
      have t2 := cell_of_row _ _ 2 _ _ _ hzb12
      have t3 := cell_of_row _ _ 3 _ _ _ hzb12
      obtain ⟨e0, e1, e2, e3, e4, e5⟩ := HM2.out.cells
      have y1 := frozen_of_row _ _ 1 _ _ HM2.out
      have y2 := frozen_of_row _ _ 2 _ _ HM2.out
      have y3 := frozen_of_row _ _ 3 _ _ HM2.out
      have y4 := frozen_of_row _ _ 4 _ _ HM2.out
      have HTW9 := Lib.hid (OwnRows.rows (bytes := 72) tbFine HT9.out (by rw [HN2.out]; have := HVE.out.few; rw [show (⟨sortTb (foldT v e), e.lg, e.sq, foldN v e⟩ : Ver).tabs = sortTb (foldT v e) from rfl, HN2.out] at this; omega))
      clear hk2 hon2 hzb12
      go_wp2_with (fail)
      go_ret
      obtain ⟨hR', hO'⟩ := HM2.out.put (.slice A2 n2 k2) ⟨sortTb (foldT v e), e.lg, e.sq, nx2⟩
      have hlo9 := HZBL.out
      have hG : ∀ i, lb ≤ i ∧ i < w9.heap.size → ¬ F1 i := fun i hi h => (HSP.out i h).elim (fun h => by have := (HMC.out.dk.lies i h).1; omega) fun h => by omega
      have hG0 : ∀ i, lb ≤ i ∧ i < w9.heap.size → ¬ F i := fun i hi h => by have := (HMC.out.dk.lies i h).1; omega
      have hT1 := TabsV.only HTW9.out HON1.out hG0
      have hT2 := TabsV.only (Rows.below tbFine hT1 hq) HON2.out hG
      have hT' := TabsV.only hT2 hO' fun i hi h => by omega
      have hon : Only (fun i => F i ∨ i = M) w _ := ((((Only.of_below HF9.out).trans (HON1.out.mono fun i h => .inl h)).trans (Only.of_below hq)).fresh HON2.out fun i h => (HSP.out i h).elim (fun h => .inl (.inl h)) fun h => .inr (by have := Below.size HF9.out; omega)).trans (hO'.mono fun i h => .inr h)
      refine ⟨rfl, ⟨F1, HSP.out.low (Below.size HF9.out), ⟨⟨HK2.out.only hO' fun i h hf => hF1M (h ▸ hf), ⟨hF1M, HMC.out.out.2⟩, ⟨_, hR', Rows.keep tbFine hT' fun _ _ _ _ hr => hr.mono fun i hi => ⟨hG i hi, by omega⟩⟩, ?_, by have := HVE.out; rw [HNX2.out] at this; exact this, HMC.out.num⟩, ⟨_, hR', Rows.keep tbFine hT' fun _ _ _ _ hr => hr.mono fun i hi => ⟨by omega, hG i hi, by omega⟩⟩⟩⟩, hon⟩
      obtain ⟨f1, l, f2, f3, f4, f5⟩ := HMC.out.file
      refine ⟨by rw [putD_ne _ _ (fun h => nameM_ne_cur num h.symm)]; exact f1, l ++ [(e, nx2)], by simp, by rw [List.length_append]; simp; omega, ?_, ?_⟩
      · rw [putD_same, f4, recsM_app, frB_append]
        show some (frB (recsM l) ++ putF (editF e nx2)) = some (frB (recsM l) ++ frB [editF e nx2])
        rw [frB_one]
      · have hst : StepOk v e nx2 := ⟨by have := HEO.out; rw [HNX2.out] at this; exact this, HE.out, HSORT.out HE.out, HMC.out.ver.nodup, by have := HMC.out.ver.few; omega⟩
        have := f5.snoc (x := (e, nx2)) hst
        have e9 : stepV v e nx2 = ⟨sortTb (foldT v e), e.lg, e.sq, nx2⟩ := by unfold stepV; rw [HNX2.out, Int.max_self]
        rw [← e9]
        exact this
    · have F4 := fr.putE (fr.putE (fr.putE (fr.putE (fr.stepR HAD.out f2) (Nat.le_refl _) (j := 0) (u := .slice A2 n2 k2)) (Nat.le_refl _) (j := 1) (u := .int .i64 e.lg)) (Nat.le_refl _) (j := 2) (u := .int .i64 e.sq)) (Nat.le_refl _) (j := 3) (u := .int .i64 nx2)
      have hb9 : fr w1 (put4 w2 w1.heap.size (.slice A2 n2 k2) (.int .i64 e.lg) (.int .i64 e.sq) (.int .i64 nx2)) := F4
      have hf9 := fr.stepR HF1.out hb9
      have pz9 := put4_row pz (a := .slice A2 n2 k2) (b := .int .i64 e.lg) (c := .int .i64 e.sq) (d := .int .i64 nx2)
      have hso : w1.heap.size < (w1.alloc (.cells #[.slice none 0 0, .int .i64 0, .int .i64 0, .int .i64 0] 50)).drew.heap.size := by simp
      have ho9 := OwnRows.onlyF tbFine ho2 (put4_only (W := w2) (g := w1.heap.size) (a := .slice A2 n2 k2) (b := .int .i64 e.lg) (c := .int .i64 e.sq) (d := .int .i64 nx2)) (fun i hi _ h => by omega)
      have hlb : w.heap.size ≤ (w1.alloc (.cells #[.slice none 0 0, .int .i64 0, .int .i64 0, .int .i64 0] 50)).drew.heap.size := Below.size HFAD.out
      have hzl := Below.size HF1.out
      obtain ⟨lb, hlbe⟩ : ∃ g, (w1.alloc (.cells #[.slice none 0 0, .int .i64 0, .int .i64 0, .int .i64 0] 50)).drew.heap.size = g := ⟨_, rfl⟩
      rw [hlbe] at ho9 hlb
      obtain ⟨zb, hzb⟩ : ∃ g, w1.heap.size = g := ⟨_, rfl⟩
      unfold put4 at hb9 hf9 pz9 ho9
      rw [hzb] at pz9 hzl hb9 hf9 ho9 ⊢
      have HZBL : Hid (w.heap.size ≤ zb ∧ w.heap.size ≤ lb) := Lib.hid ⟨hzl, hlb⟩
      generalize (((w2.setCell ⟨zb, 0, none⟩ (.slice A2 n2 k2)).setCell ⟨zb, 1, none⟩ (.int .i64 e.lg)).setCell ⟨zb, 2, none⟩ (.int .i64 e.sq)).setCell ⟨zb, 3, none⟩ (.int .i64 nx2) = w9 at hf9 ho9 hb9 pz9 ⊢
      clear ho2 f2 hzb hzl hlb hlbe F4 pz g0 g1 g2 g3 y0 y1 y2 y3 hso
      have HF9 := Lib.hid hf9
      have HT9 := Lib.hid ho9
      have HB9 := Lib.hid (boxRowFr HB.out hb9)
      have HZB := Lib.hid pz9
      have t0 := cell_of_row _ _ 0 _ _ _ pz9
      have t1 := cell_of_row _ _ 1 _ _ _ pz9
      have t2 := cell_of_row _ _ 2 _ _ _ pz9
      have t3 := cell_of_row _ _ 3 _ _ _ pz9
      have d0 := cell_of_row _ _ 0 _ _ _ HB9.out
      have d1 := cell_of_row _ _ 1 _ _ _ HB9.out
      have d2 := cell_of_row _ _ 2 _ _ _ HB9.out
      have d3 := cell_of_row _ _ 3 _ _ _ HB9.out
      have hfok : FoldOk v e := foldE_ok.1 HE.out
      obtain ⟨k1, k2', k3, k4, k5⟩ := fold_ok HMC.out.ver hfok HC.out hlg hsq
      have HVE := Lib.hid k1
      have HEO := Lib.hid k2'
      have HPUT := Lib.hid fun wx (hx : fr w wx) => mput_any (fun _ => True) F M p num dn D (.slice Ax nv cx) (.slice Aa na ca) (.slice Ad nd cd) v e (foldN v e) wx (HR.out.below hx) (HMC.out.dk.below hx) (HT.out.below hx) ((Rows.keep tbFine HA.out fun _ _ _ _ hr => hr.mono fun _ _ => trivial).below tbFine hx) ((HD.out.mono fun _ _ => trivial).below hx) k2' HMC.out.num.2 (by omega) (by
        obtain ⟨_, l, _, hll, hlf, hch⟩ := HMC.out.file
        rw [hlf]
        have h1 := recsM_len hch.ok
        show (frB (recsM l)).length ≤ _
        omega)
      rw [HNX2.out] at HPUT
      clear ho9 hb9 hf9 pz9 hfok k1 k2' k3 k4 k5
      go_upto_region 9 with (go_at_call 83; refine (HPUT.out _ HF9.out).mono ?_; rintro r w11 ⟨rfl, ⟨F1, hsp1, hk1⟩, hon1⟩)
      have HSP := Lib.hid hsp1
      have HK1 := Lib.hid hk1
      have HON1 := Lib.hid hon1
      have HM1 := Lib.hid ((HR.out.below HF9.out).only hon1 HMC.out.out.1)
      have HTW : Hid (TabW w11) := Lib.hid (((HMC.out.dk.below HF9.out)).tab (HT.out.below HF9.out) hon1)
      have hzb11 : w11.heap[zb]? = some (.cells #[.slice A2 n2 k2, .int .i64 e.lg, .int .i64 e.sq, .int .i64 nx2] 50 (0, 0)) := (hon1.block zb (Array.getElem?_eq_some_iff.1 HZB.out).1 fun h => by have := (HMC.out.dk.lies zb h).1; have := HZBL.out; omega).trans HZB.out
      have HZ11 := Lib.hid hzb11
      have HT11 := Lib.hid (OwnRows.onlyF tbFine HT9.out hon1 fun i hi _ h => by have := (HMC.out.dk.lies i h).1; have := HZBL.out; omega)
      obtain ⟨e0, e1, e2, e3, e4, e5⟩ := HM1.out.cells
      obtain ⟨X, hX⟩ : ∃ X : ByteArray, (⟨(nameM num).toArray⟩ : ByteArray) = X := ⟨_, rfl⟩
      have HFI : Hid (∀ wx, fr w11 wx → Calls Tryz.prog 84 #[.int .i64 num] wx fun r w' => r = .returned (.string X) ∧ Below wx.heap.size wx w') := Lib.hid fun wx hx => by
        rw [← hX]
        exact mfile_any num wx (HTW.out.below hx) HMC.out.num.2
      have HSY : Hid (∀ wx, fr w11 wx → Calls Tryz.prog 70 #[.pointer (some ⟨p, 0, none⟩), .string X] wx fun r w' => r = .returned (.int .i64 0) ∧ DkC w' F1 p (dn + 2) (putD D (nameM num) ((D (nameM num)).getD [] ++ putF (editF e nx2))) ∧ Only F1 wx w') := Lib.hid fun wx hx => by
        rw [← hX]
        exact csync (HK1.out.below hx) (putD_same _ _ _) (by omega)
      clear hX hsp1 hk1 hon1 hzb11
      have q0 := fun q : Ext w11 => q.cell e0
      have q5 := fun q : Ext w11 => q.cell e5
      (refine wp_region_ext_tail 9 (by kernel_rfl) (by kernel_rfl) ?_; simp only [List.take_succ_cons, List.take_zero, List.drop_succ_cons, List.drop_zero]; (repeat (go_big_quiet_step ((go_at_call 84; exact Ext.calls (HFI.out _ (Ext.h _)))))); refine wpQuiet_nil ?_; intro wq hw'; obtain ⟨⟨_, hq⟩, hw''⟩ := hw'; subst hw'')
      clear q0 q5 e0 e1 e2 e3 e4 e5
      have hzF : ∀ i, F1 i → i < w11.heap.size := fun i hi => (HK1.out.lies i hi).1
      go_upto_region 12 with (go_at_call 70; refine (HSY.out _ hq).mono ?_; rintro r w12 ⟨rfl, hk2, hon2⟩)
      have HK2 := Lib.hid hk2
      have HON2 := Lib.hid hon2
      have hMw : M < w.heap.size := HMC.out.lt
      have hF1M : ¬ F1 M := fun h => (HSP.out M h).elim HMC.out.out.1 fun h => by have := Below.size HF9.out; omega
      have HM2 := Lib.hid ((HM1.out.below hq).only hon2 hF1M)
      have hzF1 : ¬ F1 zb := fun h => (HSP.out zb h).elim (fun h => by have := (HMC.out.dk.lies zb h).1; have := HZBL.out; omega) fun h => by have := (Array.getElem?_eq_some_iff.1 HZB.out).1; omega
      have hzb12 : w12.heap[zb]? = some (.cells #[.slice A2 n2 k2, .int .i64 e.lg, .int .i64 e.sq, .int .i64 nx2] 50 (0, 0)) := (hon2.block zb (Array.getElem?_eq_some_iff.1 (boxRowFr HZ11.out hq)).1 hzF1).trans (boxRowFr HZ11.out hq)
      have t0 := cell_of_row _ _ 0 _ _ _ hzb12
      have t1 := cell_of_row _ _ 1 _ _ _ hzb12
      have t2 := cell_of_row _ _ 2 _ _ _ hzb12
      have t3 := cell_of_row _ _ 3 _ _ _ hzb12
      obtain ⟨e0, e1, e2, e3, e4, e5⟩ := HM2.out.cells
      have y1 := frozen_of_row _ _ 1 _ _ HM2.out
      have y2 := frozen_of_row _ _ 2 _ _ HM2.out
      have y3 := frozen_of_row _ _ 3 _ _ HM2.out
      have y4 := frozen_of_row _ _ 4 _ _ HM2.out
      have HTW9 := Lib.hid (OwnRows.rows (bytes := 72) tbFine HT9.out (by rw [HN2.out]; have := HVE.out.few; rw [show (⟨sortTb (foldT v e), e.lg, e.sq, foldN v e⟩ : Ver).tabs = sortTb (foldT v e) from rfl, HN2.out] at this; omega))
      clear hk2 hon2 hzb12
      go_wp2_with (fail)
      go_ret
      obtain ⟨hR', hO'⟩ := HM2.out.put (.slice A2 n2 k2) ⟨sortTb (foldT v e), e.lg, e.sq, nx2⟩
      have hlo9 := HZBL.out
      have hG : ∀ i, lb ≤ i ∧ i < w9.heap.size → ¬ F1 i := fun i hi h => (HSP.out i h).elim (fun h => by have := (HMC.out.dk.lies i h).1; omega) fun h => by omega
      have hG0 : ∀ i, lb ≤ i ∧ i < w9.heap.size → ¬ F i := fun i hi h => by have := (HMC.out.dk.lies i h).1; omega
      have hT1 := TabsV.only HTW9.out HON1.out hG0
      have hT2 := TabsV.only (Rows.below tbFine hT1 hq) HON2.out hG
      have hT' := TabsV.only hT2 hO' fun i hi h => by omega
      have hon : Only (fun i => F i ∨ i = M) w _ := ((((Only.of_below HF9.out).trans (HON1.out.mono fun i h => .inl h)).trans (Only.of_below hq)).fresh HON2.out fun i h => (HSP.out i h).elim (fun h => .inl (.inl h)) fun h => .inr (by have := Below.size HF9.out; omega)).trans (hO'.mono fun i h => .inr h)
      refine ⟨rfl, ⟨F1, HSP.out.low (Below.size HF9.out), ⟨⟨HK2.out.only hO' fun i h hf => hF1M (h ▸ hf), ⟨hF1M, HMC.out.out.2⟩, ⟨_, hR', Rows.keep tbFine hT' fun _ _ _ _ hr => hr.mono fun i hi => ⟨hG i hi, by omega⟩⟩, ?_, by have := HVE.out; rw [HNX2.out] at this; exact this, HMC.out.num⟩, ⟨_, hR', Rows.keep tbFine hT' fun _ _ _ _ hr => hr.mono fun i hi => ⟨by omega, hG i hi, by omega⟩⟩⟩⟩, hon⟩
      obtain ⟨f1, l, f2, f3, f4, f5⟩ := HMC.out.file
      refine ⟨by rw [putD_ne _ _ (fun h => nameM_ne_cur num h.symm)]; exact f1, l ++ [(e, nx2)], by simp, by rw [List.length_append]; simp; omega, ?_, ?_⟩
      · rw [putD_same, f4, recsM_app, frB_append]
        show some (frB (recsM l) ++ putF (editF e nx2)) = some (frB (recsM l) ++ frB [editF e nx2])
        rw [frB_one]
      · have hst : StepOk v e nx2 := ⟨by have := HEO.out; rw [HNX2.out] at this; exact this, HE.out, HSORT.out HE.out, HMC.out.ver.nodup, by have := HMC.out.ver.few; omega⟩
        have := f5.snoc (x := (e, nx2)) hst
        have e9 : stepV v e nx2 = ⟨sortTb (foldT v e), e.lg, e.sq, nx2⟩ := by unfold stepV; rw [HNX2.out, Int.max_self]
        rw [← e9]
        exact this
  · simp only [if_neg hE]
    have HF0 : Hid (∀ wx, fr w wx → Calls Tryz.prog 74 #[.agg #[.slice Ax nv cx, .int .i64 v.lg, .int .i64 v.sq, .int .i64 v.nx], .agg #[.slice Aa na ca, .slice Ad nd cd, .int .i64 e.lg, .int .i64 e.sq]] wx fun r w' => r = .returned (.tuple #[.agg #[.slice none 0 0, .int .i64 0, .int .i64 0, .int .i64 0], .int .i64 (foldE v e)]) ∧ fr wx w') := Lib.hid fun wx hxx => by
      refine (HFO.out wx hxx).mono ?_
      rintro r w' ⟨R, rfl, hR, hf⟩
      rw [if_neg hE] at hR
      subst hR
      exact ⟨rfl, hf⟩
    obtain ⟨ke, hke⟩ : ∃ q, foldE v e = q := ⟨_, rfl⟩
    rw [hke] at HF0 hE ⊢
    have hk0 : (ke == 0) = false := by simpa using hE
    clear HFO hE hke
    have hf1 : fr w (w.alloc (.cells #[.slice Aa na ca, .slice Ad nd cd, .int .i64 e.lg, .int .i64 e.sq] 45)) := fr.alloc fr.refl _
    have b0 := heap_alloc_new w (.cells #[.slice Aa na ca, .slice Ad nd cd, .int .i64 e.lg, .int .i64 e.sq] 45)
    clear hm ht ha hd hx hr hsort hc hna hnd hnv
    go_enter Tryz.func28, Tryz.ntmps28
    go_upto_region 3 with (fail)
    obtain ⟨z, hz⟩ : ∃ z, w.heap.size = z := ⟨_, rfl⟩
    rw [hz] at b0 ⊢
    generalize w.alloc (.cells #[.slice Aa na ca, .slice Ad nd cd, .int .i64 e.lg, .int .i64 e.sq] 45) = w1 at hf1 b0 ⊢
    have HF1 := Lib.hid hf1
    have HB := Lib.hid b0
    have HZ := Lib.hid hz
    have c0 := cell_of_row _ _ 0 _ _ _ b0
    have c1 := cell_of_row _ _ 1 _ _ _ b0
    have c2 := cell_of_row _ _ 2 _ _ _ b0
    have c3 := cell_of_row _ _ 3 _ _ _ b0
    obtain ⟨e0, e1, e2, e3, e4, e5⟩ := (HR.out.below hf1).cells
    have HDR : Hid (fr w1 w1.drew) := Lib.hid (fr.drew fr.refl)
    clear hf1 b0 hz
    have hzz := heap_alloc_new w1 (.cells #[.slice none 0 0, .int .i64 0, .int .i64 0, .int .i64 0] 50)
    have HAD : Hid (fr w1 (w1.alloc (.cells #[.slice none 0 0, .int .i64 0, .int .i64 0, .int .i64 0] 50)).drew) := Lib.hid (fr.drew (fr.alloc fr.refl _))
    have HPZ : Hid ((w1.alloc (.cells #[.slice none 0 0, .int .i64 0, .int .i64 0, .int .i64 0] 50)).drew.heap[w1.heap.size]? = some (.cells #[.slice none 0 0, .int .i64 0, .int .i64 0, .int .i64 0] 50 (0, 0))) := Lib.hid hzz
    have HFAD := Lib.hid (fr.step HF1.out HAD.out)
    have HFDR := Lib.hid (fr.step HF1.out HDR.out)
    have HC8 : Hid (w1.cell? ⟨M, 1, none⟩ = some (.slice Ax nv cx) ∧ w1.cell? ⟨M, 2, none⟩ = some (.int .i64 v.lg) ∧ w1.cell? ⟨M, 3, none⟩ = some (.int .i64 v.sq) ∧ w1.cell? ⟨M, 4, none⟩ = some (.int .i64 v.nx) ∧ w1.cell? ⟨z, 0, none⟩ = some (.slice Aa na ca) ∧ w1.cell? ⟨z, 1, none⟩ = some (.slice Ad nd cd) ∧ w1.cell? ⟨z, 2, none⟩ = some (.int .i64 e.lg) ∧ w1.cell? ⟨z, 3, none⟩ = some (.int .i64 e.sq)) := Lib.hid ⟨e1, e2, e3, e4, c0, c1, c2, c3⟩
    clear hzz e0 e1 e2 e3 e4 e5 c0 c1 c2 c3
    go_region_held3 (fun w' => w'.cell? ⟨M, 1, none⟩ = some (.slice Ax nv cx) ∧ w'.cell? ⟨M, 2, none⟩ = some (.int .i64 v.lg) ∧ w'.cell? ⟨M, 3, none⟩ = some (.int .i64 v.sq) ∧ w'.cell? ⟨M, 4, none⟩ = some (.int .i64 v.nx) ∧ w'.cell? ⟨z, 0, none⟩ = some (.slice Aa na ca) ∧ w'.cell? ⟨z, 1, none⟩ = some (.slice Ad nd cd) ∧ w'.cell? ⟨z, 2, none⟩ = some (.int .i64 e.lg) ∧ w'.cell? ⟨z, 3, none⟩ = some (.int .i64 e.sq))
      (first
        | with_reducible exact cells8 HDR.out HC8.out
        | with_reducible exact cells8 HAD.out HC8.out
        | with_reducible exact cells8 f2 (cells8 HDR.out HC8.out)
        | with_reducible exact cells8 f2 (cells8 HAD.out HC8.out)
        | with_reducible exact cells8 (fr.alloc f2 _) (cells8 HDR.out HC8.out)
        | with_reducible exact cells8 (fr.putE (fr.putE (fr.putE (fr.putE (fr.stepR HAD.out f2) (Nat.le_refl _)) (Nat.le_refl _)) (Nat.le_refl _)) (Nat.le_refl _)) HC8.out)
      (first
        | (go_at_call 74; (with_reducible refine Calls.mono (HF0.out _ ?_) ?_); (focus (with_reducible exact HFAD.out)); rintro r w2 ⟨rfl, f2⟩; have pz := boxRowFr HPZ.out f2; have g0 := cell_of_row _ _ 0 _ _ _ pz; have g1 := cell_of_row _ _ 1 _ _ _ pz; have g2 := cell_of_row _ _ 2 _ _ _ pz; have g3 := cell_of_row _ _ 3 _ _ _ pz; have y0 := frozen_of_row _ _ 0 _ _ pz; have y1 := frozen_of_row _ _ 1 _ _ pz; have y2 := frozen_of_row _ _ 2 _ _ pz; have y3 := frozen_of_row _ _ 3 _ _ pz)
        | (go_at_call 74; (with_reducible refine Calls.mono (HF0.out _ ?_) ?_); (focus (with_reducible exact HFDR.out)); rintro r w2 ⟨rfl, f2⟩))
    · go_wp2_with (fail)
      go_ret
      have hf := fr.alloc (fr.stepR HFDR.out f2) (.cells #[.slice none 0 0, .int .i64 0, .int .i64 0, .int .i64 0] 50)
      exact ⟨rfl, hf, Only.of_below hf⟩
    · go_wp2_with (fail)
      go_ret
      have F4 := fr.putE (fr.putE (fr.putE (fr.putE (fr.stepR HAD.out f2) (Nat.le_refl _) (j := 0) (u := .slice none 0 0)) (Nat.le_refl _) (j := 1) (u := .int .i64 0)) (Nat.le_refl _) (j := 2) (u := .int .i64 0)) (Nat.le_refl _) (j := 3) (u := .int .i64 0)
      have hf := fr.stepR HF1.out F4
      exact ⟨rfl, hf, Only.of_below hf⟩
theorem mapply_any (S F : Nat → Prop) (M p num dn : Nat) (v : Ver) (D : Nm → Option (List UInt8)) (av dv : Value) (e : Edt) (w : World) (hm : ManC w F M p v num dn D) (ht : TabW w) (ha : TabsV w S av e.add) (hd : IntsIn w S dv e.drop) (hsort : Sorts sortTb (foldT v e))
    (hc : ∀ t ∈ e.add, t.count < 9223372036854775808) (hlg : e.lg < 9223372036854775808) (hsq : e.sq < 9223372036854775808) (hdn : dn ≤ 999990) :
    Calls Tryz.prog 28 #[.pointer (some ⟨M, 0, none⟩), .agg #[av, dv, .int .i64 e.lg, .int .i64 e.sq]] w fun r w' => r = .returned (.int .i64 (foldE v e)) ∧ (if foldE v e = 0 then ∃ F', Spread w.heap.size F F' ∧ ManC w' F' M p ⟨sortTb (foldT v e), e.lg, e.sq, foldN v e⟩ num (dn + 2) (putD D (nameM num) ((D (nameM num)).getD [] ++ putF (editF e (foldN v e)))) else ManC w' F M p v num dn D) ∧ Only (fun i => F i ∨ i = M) w w' := by
  refine (mapply_own S F M p num dn v D av dv e w hm ht ha hd (fun _ => hsort) hc hlg hsq hdn).mono ?_
  rintro r w' ⟨h1, h2, h3⟩
  refine ⟨h1, ?_, h3⟩
  by_cases hE : foldE v e = 0
  · rw [if_pos hE] at h2 ⊢
    obtain ⟨F', g1, g2, _⟩ := h2
    exact ⟨F', g1, g2⟩
  · rw [if_neg hE] at h2 ⊢
    exact hm.below h2
end Go.Proofs.YtjnolpfmchnnmaaGreatDoor
end
