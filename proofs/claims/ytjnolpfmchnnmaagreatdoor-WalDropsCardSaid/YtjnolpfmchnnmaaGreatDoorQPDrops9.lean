/-
frame.frames, of frames that were put.
-/
import Derived.Test.YtjnolpfmchnnmaaGreatDoorQPDrops8
import Derived.Test.YtjnolpfmchnnmaaGreatDoorQPDrops7
import Derived.OwnWalkIn
import Derived.TacticsInMore
import Derived.Maps.AppendAt
import Derived.Shelf.Abstract
import Derived.Shelf.RegionOpen
import Derived.WalkKit
import Derived.LoopNIn
import Derived.LoopIn
import Derived.IntWalk
section
namespace Go.Proofs.YtjnolpfmchnnmaaGreatDoor
set_option maxRecDepth 100000
open Go.RowKit Go.BigFrame Go.Sort Go.Shelf Go.Lib
attribute [local go_sem ↓] Go.wp_at_zero Go.wp_at_succ
section
variable {w w' : World} {F : Nat → Prop} {L p : Nat} {pre : Nm} {size N b : Nat} {k : Pk}
theorem LogV.set3 (h : LogV w F L p pre size N b k) {N' : Nat} {z : Int} (hz : z = (N' : Int)) : LogV (w.setCell ⟨L, 3, none⟩ (.int .i64 z)) F L p pre size N' b k := by
  subst hz
  exact ⟨h.dk.only (only_set w L 3 _) fun _ e => e ▸ h.out, h.out, heap_setCell_same w L 3 _ _ _ h.row⟩
theorem LogV.set4 (h : LogV w F L p pre size N b k) {b' : Nat} {z : Int} (hz : z = (b' : Int)) : LogV (w.setCell ⟨L, 4, none⟩ (.int .i64 z)) F L p pre size N b' k := by
  subst hz
  exact ⟨h.dk.only (only_set w L 4 _) fun _ e => e ▸ h.out, h.out, heap_setCell_same w L 4 _ _ _ h.row⟩
theorem LogV.frozen (h : LogV w F L p pre size N b k) (i : Nat) : w.frozen? ⟨L, i, none⟩ = false := frozen_of_row w L i _ _ h.row
end
theorem nameW_len (pre : Nm) (n : Nat) : (nameW pre n).length = pre.length + 10 := by
  unfold nameW
  rw [List.length_append, List.length_append]
  rfl
theorem nameLe {pre : Nm} (n : Nat) (hp : pre.length ≤ 64) : (nameW pre n).length ≤ 140737488355328 := by rw [nameW_len]; omega
def roomy (k : Pk) (x : Nm) (n : Nat) : Prop := ∀ f, findP x k.fs = some f → f.data.length + n ≤ 140737488355328
set_option maxRecDepth 100000 in
set_option maxHeartbeats 4000000 in
theorem wappend_any (F : Nat → Prop) (L p : Nat) (pre : Nm) (size N b : Nat) (k : Pk) (S : Nat → Prop) (v : Value) (rec : List UInt8) (w : World) (h : LogV w F L p pre size N b k) (ht : TabW w) (hF : ∀ i, F i → i < w.heap.size ∧ tabG < i) (hL : tabG < L)
    (hv : Byt w S v rec) (hr : rec.length ≤ 2097152) (hp : pre.length ≤ 64) (hseg : (if size ≤ b then N + 1 else N) ≤ 999999) (hb40 : b ≤ 1099511627776) (hsz : 1 ≤ size) (hd : 0 ≤ k.done) (hd' : k.done < 4611686018427387900)
    (hs : size ≤ b → syncE k (nameW pre N) = 0) (ha : appendE (if size ≤ b then syncK k (nameW pre N) else k) (nameW pre (if size ≤ b then N + 1 else N)) (putF rec) = 0)
    (hroom : roomy (if size ≤ b then syncK k (nameW pre N) else k) (nameW pre (if size ≤ b then N + 1 else N)) (putF rec).length) (hmany : (if size ≤ b then syncK k (nameW pre N) else k).fs.length < 9223372036854775807)
    (hdone : 0 ≤ (if size ≤ b then syncK k (nameW pre N) else k).done ∧ (if size ≤ b then syncK k (nameW pre N) else k).done < 4611686018427387904) :
    Calls Tryz.prog 19 #[.pointer (some ⟨L, 0, none⟩), v] w fun r w' => r = .returned (.int .i64 0) ∧ LogV w' (orNew F w.heap.size) L p pre size (if size ≤ b then N + 1 else N) ((if size ≤ b then 0 else b) + (rec.length + 8))
        (appendK (if size ≤ b then syncK k (nameW pre N) else k) (nameW pre (if size ≤ b then N + 1 else N)) (putF rec)) ∧ Only (fun i => F i ∨ i = L) w w' := by
  have hLw := h.lt
  have HP := Lib.hid (fput_any S v rec w hv)
  obtain ⟨A0, c0v, rfl⟩ := slice_form hv
  have H := Lib.hid h
  have HT := Lib.hid ht
  have HF := Lib.hid hF
  obtain ⟨n8, hn8⟩ : ∃ q, rec.length + 8 = q := ⟨_, rfl⟩
  rw [putF_len, hn8] at hroom
  rw [hn8] at HP ⊢
  have HOUT := Lib.hid h.out
  clear h ht hv hF
  have HSEG := Lib.hid fun wx (hx : fr w wx) => segment_any F L p pre size N b k wx (H.out.below hx) (by
    split at hseg
    · omega
    · omega)
  by_cases hb : size ≤ b
  · have hb1 : (size : Int) ≤ (b : Int) := by omega
    have hb0 : ¬ b = 0 := by omega
    simp only [if_pos hb] at hseg ha hroom hmany hdone HSEG ⊢
    obtain ⟨k1, hk1⟩ : ∃ q, syncK k (nameW pre N) = q := ⟨_, rfl⟩
    have hss := hs hb
    have HSY := Lib.hid fun wx (hx : fr w wx) => wsync_any F L p pre size N b k wx (H.out.below hx) (HT.out.below hx) hp (by omega) hd (by omega)
    simp only [if_neg hb0, hss, hk1] at HSY
    rw [hk1] at ha hroom hmany hdone ⊢
    obtain ⟨N1, hN1⟩ : ∃ q, N + 1 = q := ⟨_, rfl⟩
    rw [hN1] at hseg ha hroom HSEG ⊢
    have hN9 : N < 1000000 := by omega
    have hg : ¬ (999999 : Int) < (N1 : Int) := by omega
    have HSE := Lib.hid hseg
    have HAA := Lib.hid ha
    have HRO := Lib.hid hroom
    have HMA := Lib.hid hmany
    have HDO := Lib.hid hdone
    have HN1 := Lib.hid hN1
    clear hseg ha hroom hmany hdone hs hss hk1 hN1
    go_enter Tryz.func19, Tryz.ntmps19
    go_upto_region 8 with (first | (go_at_call 73; refine HP.out.mono ?_; rintro r w1 ⟨hp1, _, f1⟩; obtain ⟨A, c, rfl, hown⟩ := hp1 hr) | (go_at_call 18; refine (HSEG.out _ f1).mono ?_; rintro r w2 ⟨rfl, f2⟩))
    have f12 := fr.step f1 f2
    obtain ⟨d0, d1, d2, d3, d4⟩ := (H.out.below f12).cells
    go_quiet (fail)
    have f13 := fr.step f12 (fr_drewN w2 nq)
    obtain ⟨w3, hw3⟩ : ∃ x, w2.drewN nq = x := ⟨_, rfl⟩
    rw [hw3] at f13 ⊢
    have HOWN := Lib.hid ((hown.below f2).below (fr_drewN w2 nq))
    rw [hw3] at HOWN
    clear hw3 hown d0 d1 d2 d3 d4
    go_upto_region 13 with (go_at_call 22; refine (HSY.out _ f13).mono ?_; rintro r w4 ⟨rfl, hl4, ho4⟩; obtain ⟨d0, d1, d2, d3, d4⟩ := hl4.cells; have z3 := hl4.frozen 3; have hs3 := hl4.set3 (N' := N1) (z := (N : Int) + 1) (by have := HN1.out; omega); have z4 := hs3.frozen 4)
    have hs4 := hs3.set4 (b' := 0) (z := 0) rfl
    have ho5 : Only (fun i => F i ∨ i = L) w ((w4.setCell ⟨L, 3, none⟩ (.int .i64 ((N : Int) + 1))).setCell ⟨L, 4, none⟩ (.int .i64 0)) := Only.trans (Only.trans (Only.trans (Only.of_below f13) (Only.mono ho4 fun i h => .inl h)) (Only.mono (only_set w4 L 3 _) fun i h => .inr h)) (Only.mono (only_set _ L 4 _) fun i h => .inr h)
    have hv5 : Byt ((w4.setCell ⟨L, 3, none⟩ (.int .i64 ((N : Int) + 1))).setCell ⟨L, 4, none⟩ (.int .i64 0)) (fun i => w.heap.size ≤ i) (.slice A n8 c) (putF rec) := Byt.only (T := fun i => w.heap.size ≤ i) (S := fun i => F i ∨ i = L) (Byt.mono HOWN.out.byt fun i hi => hi.1)
      (Only.trans (Only.trans (Only.mono ho4 fun i h => .inl h) (Only.mono (only_set w4 L 3 _) fun i h => .inr h)) (Only.mono (only_set _ L 4 _) fun i h => .inr h)) fun i _ hi h => h.elim (fun h => by have := (HF.out i h).1; omega) fun h => by omega
    generalize (w4.setCell ⟨L, 3, none⟩ (.int .i64 ((N : Int) + 1))).setCell ⟨L, 4, none⟩ (.int .i64 0) = wB at hs4 ho5 hv5 ⊢
    have HB := Lib.hid hs4
    have HO := Lib.hid ho5
    have HV := Lib.hid hv5
    clear hs3 hs4 ho5 hv5 hl4 ho4 d0 d1 d2 d3 d4 z3 z4
    replace hseg := HSE.out
    replace ha := HAA.out
    replace hroom := HRO.out
    replace hmany := HMA.out
    replace hdone := HDO.out
    obtain ⟨e0, e1, e2, e3, e4⟩ := HB.out.cells
    obtain ⟨X, hX⟩ : ∃ X : ByteArray, (⟨(nameW pre N1).toArray⟩ : ByteArray) = X := ⟨_, rfl⟩
    have HTB : Hid (TabW wB) := Lib.hid (HT.out.only HO.out fun i hi => hi.elim (fun h => (HF.out i h).2) fun h => h ▸ hL)
    have HFI : Hid (∀ wx, fr wB wx → Calls Tryz.prog 65 #[.string ⟨pre.toArray⟩, .int .i64 N1] wx fun r w' => r = .returned (.string X) ∧ Below wx.heap.size wx w') := Lib.hid fun wx hx => by
      rw [← hX]
      exact file_any pre _ wx (HTB.out.below hx) hp (by omega)
    have HAP : Hid (∀ wx, fr wB wx → Calls Tryz.prog 35 #[.pointer (some ⟨p, 0, none⟩), .string X, .slice A n8 c] wx fun r w' => r = .returned (.int .i64 0) ∧ DiskP w' (orNew F wx.heap.size) p (appendK k1 (nameW pre N1) (putF rec)) ∧ Only F wx w') := Lib.hid fun wx hx => by
      have := append_any F p k1 (nameW pre N1) (fun i => w.heap.size ≤ i) _ (putF rec) wx (HB.out.dk.below hx) (HV.out.below hx) (fun i hi hf => by have := (HF.out i hf).1; omega) (nameLe _ hp) hdone.1 hdone.2 (by rw [putF_len, hn8]; exact hroom) hmany
      rw [ha] at this
      rw [← hX]
      exact this
    clear hX
    obtain ⟨P, hP⟩ : ∃ P : ByteArray, (⟨pre.toArray⟩ : ByteArray) = P := ⟨_, rfl⟩
    rw [hP] at e1 HFI
    clear hP
    have q0 := fun q : Ext wB => q.cell e0
    have q1 := fun q : Ext wB => q.cell e1
    have q3 := fun q : Ext wB => q.cell e3
    (refine wp_region_ext_tail 14 (by kernel_rfl) (by kernel_rfl) ?_; simp only [List.take_succ_cons, List.take_zero, List.drop_succ_cons, List.drop_zero]; (repeat (go_big_quiet_step ((go_at_call 65; exact Ext.calls (HFI.out _ (Ext.h _)))))); refine wpQuiet_nil ?_; intro wq hw'; obtain ⟨⟨_, hq⟩, hw''⟩ := hw'; subst hw'')
    clear q0 q1 q3
    go_wp2_with (go_at_call 35; refine (HAP.out _ hq).mono ?_; rintro r w5 ⟨rfl, hk5, ho5⟩; have hl5 := (HB.out.below hq).lt; have hrow5 := (ho5.block L hl5 HOUT.out).trans (HB.out.below hq).row; have g4 : w5.cell? ⟨L, 4, none⟩ = some (.int .i64 ((0 : Nat) : Int)) := (by rw [cell_of_row w5 _ _ _ _ _ hrow5]; rfl); have gz := frozen_of_row w5 L 4 _ _ hrow5)
    go_ret
    have hz1 := HO.out.size
    have hz2 := Below.size hq
    have hL5 : LogV w5 (orNew F w.heap.size) L p pre size N1 0 (appendK k1 (nameW pre N1) (putF rec)) := ⟨hk5.mono fun i hi _ => hi.elim .inl fun h => .inr (by omega), fun h => h.elim HOUT.out fun h => by omega, hrow5⟩
    refine ⟨rfl, ?_, Only.trans (Only.trans (Only.trans HO.out (Only.of_below hq)) (Only.mono ho5 fun i h => .inl h)) (Only.mono (only_set w5 L 4 _) fun i h => .inr h)⟩
    exact hL5.set4 (b' := 0 + n8) (by omega)
  · have hb1 : ¬ (size : Int) ≤ (b : Int) := by omega
    simp only [if_neg hb] at hseg ha hroom hmany hdone HSEG ⊢
    have hg : ¬ (999999 : Int) < (N : Int) := by omega
    have HSE := Lib.hid hseg
    have HAA := Lib.hid ha
    have HRO := Lib.hid hroom
    have HMA := Lib.hid hmany
    have HDO := Lib.hid hdone
    clear hseg ha hroom hmany hdone hs
    go_enter Tryz.func19, Tryz.ntmps19
    go_upto_region 8 with (first | (go_at_call 73; refine HP.out.mono ?_; rintro r w1 ⟨hp1, _, f1⟩; obtain ⟨A, c, rfl, hown⟩ := hp1 hr) | (go_at_call 18; refine (HSEG.out _ f1).mono ?_; rintro r w2 ⟨rfl, f2⟩))
    have f12 := fr.step f1 f2
    obtain ⟨d0, d1, d2, d3, d4⟩ := (H.out.below f12).cells
    go_quiet (fail)
    have f13 := fr.step f12 (fr_drewN w2 nq)
    obtain ⟨wB, hw3⟩ : ∃ x, w2.drewN nq = x := ⟨_, rfl⟩
    rw [hw3] at f13 ⊢
    have HOWN := Lib.hid ((hown.below f2).below (fr_drewN w2 nq))
    rw [hw3] at HOWN
    have HB := Lib.hid (H.out.below f13)
    have HO : Hid (Only (fun i => F i ∨ i = L) w wB) := Lib.hid (Only.of_below f13)
    have HV : Hid (Byt wB (fun i => w.heap.size ≤ i) (.slice A n8 c) (putF rec)) := Lib.hid (Byt.mono HOWN.out.byt fun i hi => hi.1)
    clear hw3 hown d0 d1 d2 d3 d4
    go_upto_region 13 with (fail)
    replace hseg := HSE.out
    replace ha := HAA.out
    replace hroom := HRO.out
    replace hmany := HMA.out
    replace hdone := HDO.out
    obtain ⟨e0, e1, e2, e3, e4⟩ := HB.out.cells
    obtain ⟨X, hX⟩ : ∃ X : ByteArray, (⟨(nameW pre N).toArray⟩ : ByteArray) = X := ⟨_, rfl⟩
    have HTB : Hid (TabW wB) := Lib.hid (HT.out.only HO.out fun i hi => hi.elim (fun h => (HF.out i h).2) fun h => h ▸ hL)
    have HFI : Hid (∀ wx, fr wB wx → Calls Tryz.prog 65 #[.string ⟨pre.toArray⟩, .int .i64 N] wx fun r w' => r = .returned (.string X) ∧ Below wx.heap.size wx w') := Lib.hid fun wx hx => by
      rw [← hX]
      exact file_any pre _ wx (HTB.out.below hx) hp (by omega)
    have HAP : Hid (∀ wx, fr wB wx → Calls Tryz.prog 35 #[.pointer (some ⟨p, 0, none⟩), .string X, .slice A n8 c] wx fun r w' => r = .returned (.int .i64 0) ∧ DiskP w' (orNew F wx.heap.size) p (appendK k (nameW pre N) (putF rec)) ∧ Only F wx w') := Lib.hid fun wx hx => by
      have := append_any F p k (nameW pre N) (fun i => w.heap.size ≤ i) _ (putF rec) wx (HB.out.dk.below hx) (HV.out.below hx) (fun i hi hf => by have := (HF.out i hf).1; omega) (nameLe _ hp) hdone.1 hdone.2 (by rw [putF_len, hn8]; exact hroom) hmany
      rw [ha] at this
      rw [← hX]
      exact this
    clear hX
    obtain ⟨P, hP⟩ : ∃ P : ByteArray, (⟨pre.toArray⟩ : ByteArray) = P := ⟨_, rfl⟩
    rw [hP] at e1 HFI
    clear hP
    have q0 := fun q : Ext wB => q.cell e0
    have q1 := fun q : Ext wB => q.cell e1
    have q3 := fun q : Ext wB => q.cell e3
    (refine wp_region_ext_tail 14 (by kernel_rfl) (by kernel_rfl) ?_; simp only [List.take_succ_cons, List.take_zero, List.drop_succ_cons, List.drop_zero]; (repeat (go_big_quiet_step ((go_at_call 65; exact Ext.calls (HFI.out _ (Ext.h _)))))); refine wpQuiet_nil ?_; intro wq hw'; obtain ⟨⟨_, hq⟩, hw''⟩ := hw'; subst hw'')
    clear q0 q1 q3
    go_wp2_with (go_at_call 35; refine (HAP.out _ hq).mono ?_; rintro r w5 ⟨rfl, hk5, ho5⟩; have hl5 := (HB.out.below hq).lt; have hrow5 := (ho5.block L hl5 HOUT.out).trans (HB.out.below hq).row; have g4 : w5.cell? ⟨L, 4, none⟩ = some (.int .i64 (b : Int)) := (by rw [cell_of_row w5 _ _ _ _ _ hrow5]; rfl); have gz := frozen_of_row w5 L 4 _ _ hrow5)
    go_ret
    have hz1 := HO.out.size
    have hz2 := Below.size hq
    have hL5 : LogV w5 (orNew F w.heap.size) L p pre size N b (appendK k (nameW pre N) (putF rec)) := ⟨hk5.mono fun i hi _ => hi.elim .inl fun h => .inr (by omega), fun h => h.elim HOUT.out fun h => by omega, hrow5⟩
    refine ⟨rfl, ?_, Only.trans (Only.trans (Only.trans HO.out (Only.of_below hq)) (Only.mono ho5 fun i h => .inl h)) (Only.mono (only_set w5 L 4 _) fun i h => .inr h)⟩
    exact hL5.set4 (b' := b + n8) (by omega)
end Go.Proofs.YtjnolpfmchnnmaaGreatDoor
end
section
namespace Go.Proofs.YtjnolpfmchnnmaaGreatDoor
set_option maxRecDepth 100000
open Go.RowKit Go.BigFrame Go.Sort Go.Shelf Go.Lib
attribute [local go_sem ↓] Go.wp_at_zero Go.wp_at_succ
def dropK (pre : Nm) (N : Nat) (below : Int) : List Nat → Pk → Pk
  | [], k => k
  | n :: ns, k => if below ≤ (n : Int) ∨ n = N then dropK pre N below ns k else dropK pre N below ns (deleteK k (nameW pre n))
def DropOk (pre : Nm) (N : Nat) (below : Int) : List Nat → Pk → Prop
  | [], _ => True
  | n :: ns, k => if below ≤ (n : Int) ∨ n = N then DropOk pre N below ns k else syncE k (nameW pre n) = 0 ∧ 0 ≤ k.done ∧ k.done < 4611686018427387904 ∧ DropOk pre N below ns (deleteK k (nameW pre n))
theorem OwnN.cell {w : World} {base g N c : Nat} {ns : List Nat} (h : OwnN w base (.slice (some ⟨g, 0, none⟩) N c) ns) {i n : Nat} (hn : ns[i]? = some n) : w.cell? ⟨g, i, none⟩ = some (.int .i64 n) := by
  unfold OwnN at h
  have hlt := (List.getElem?_eq_some_iff.1 hn).1
  obtain ⟨A, c', hE⟩ := own_form h
  injection hE with _ e2 _
  subst e2
  have := h.cellAt i (by omega)
  rw [List.getElem?_map, hn] at this
  exact this
set_option maxRecDepth 100000 in
set_option maxHeartbeats 4000000 in
theorem drop_any (F : Nat → Prop) (L p : Nat) (pre : Nm) (size N b : Nat) (below : Int) (k : Pk) (w : World) (h : LogV w F L p pre size N b k) (ht : TabW w) (hF : ∀ i, F i → tabG < i) (hFl : ∀ i, F i → i < w.heap.size) (hp : pre.length ≤ 64)
    (hl : k.fs.length * 16 ≤ 140737488355328) (hnm : ∀ x ∈ listP k, x.length ≤ 140737488355328) (hN : N < 1000000) (hup : readyE k [] = 0) (hok : DropOk pre N below (segsP pre (listP k)) k) :
    Calls Tryz.prog 20 #[.pointer (some ⟨L, 0, none⟩), .int .i64 below] w fun r w' => r = .returned (.int .i64 0) ∧ LogV w' F L p pre size N b (dropK pre N below (segsP pre (listP k)) k) ∧ Only F w w' := by
  obtain ⟨c0, c1, c2, c3, c4⟩ := h.cells
  have H := Lib.hid h
  have HT := Lib.hid ht
  have HF := Lib.hid hF
  have HFL := Lib.hid hFl
  have HSG := Lib.hid fun wx (hx : fr w wx) => segments_any F p k pre wx (H.out.dk.below hx) hl hnm
  simp only [hup, if_pos] at HSG
  obtain ⟨ns, hns⟩ : ∃ ns, segsP pre (listP k) = ns := ⟨_, rfl⟩
  have hn6 : ∀ n ∈ ns, n < 1000000 := fun n hn => by
    rw [← hns] at hn
    unfold segsP at hn
    obtain ⟨x, _, rfl⟩ := List.mem_map.1 (List.mem_filter.1 hn).1
    exact segNo_lt _ _
  rw [hns] at HSG hok ⊢
  have HN6 := Lib.hid hn6
  have HOK := Lib.hid hok
  clear h ht hF hFl hl hnm hup hok hns hn6
  obtain ⟨P, hP⟩ : ∃ P : ByteArray, (⟨pre.toArray⟩ : ByteArray) = P := ⟨_, rfl⟩
  rw [hP] at c1 HSG
  have HPP := Lib.hid hP
  clear hP
  obtain ⟨m, hm⟩ : ∃ m, ns.length = m := ⟨_, rfl⟩
  have HM := Lib.hid hm
  have q0 := fun q : Ext w => q.cell c0
  have q1 := fun q : Ext w => q.cell c1
  go_enter Tryz.func20, Tryz.ntmps20
  go_upto_region 3 with (fail)
  (refine wp_region_ext_mid 8 (by kernel_rfl) (by kernel_rfl) ?_; simp only [List.take_succ_cons, List.take_zero, List.drop_succ_cons, List.drop_zero]; (repeat (go_big_quiet_step (fail))); refine wpQuiet_nil ?_; intro wq hw'; obtain ⟨⟨_, hq⟩, hw''⟩ := hw'; subst hw''; intro Q2 hQ2; go_wp2_with (go_at_call 63; refine (HSG.out _ hq).mono ?_; rintro r w1 ⟨v, rfl, hown, f1⟩; unfold OwnN at hown; rw [HM.out] at hown; obtain ⟨An, cn, rfl⟩ := own_form hown); (repeat (go_big_quiet_step (fail))); refine wpQuiet_nil ?_)
  have HOWN := Lib.hid hown
  have HF1 := Lib.hid (fr.step hq f1)
  have HQZ := Lib.hid (Below.size hq)
  clear hown hq f1 q0 q1 c0 c1 c2 c3 c4
  go_wp2
  go_loopw [29] (fun t wr => ∃ (i : Nat) (kk : Pk), i ≤ m ∧ t = .int .i64 i ∧ DropOk pre N below (ns.drop i) kk ∧ dropK pre N below (ns.drop i) kk = dropK pre N below ns k ∧ LogV wr F L p pre size N b kk ∧ Only F w1 wr) (fun t _ => m - (intOf t).toNat)
  case atStart => exact ⟨0, k, Nat.zero_le _, rfl, HOK.out, rfl, H.out.below HF1.out, Only.refl _ _⟩
  case round =>
    obtain ⟨i, kk, hi, rfl, hok, hdk, hlv, ho⟩ := hrel
    have HDK := Lib.hid hdk
    have HLV := Lib.hid hlv
    have HO := Lib.hid ho
    by_cases him : i < m
    · obtain ⟨n, hn⟩ : ∃ n, ns[i]? = some n := ⟨_, List.getElem?_eq_getElem (by rw [HM.out]; exact him)⟩
      obtain ⟨g, cg, hE, _⟩ := own_pos HOWN.out (by omega)
      injection hE with e1 e2 e3
      subst e1 e3
      have hown' : OwnN wr wq.heap.size (.slice (some ⟨g, 0, none⟩) m cn) ns := by
        have := own_only HOWN.out HO.out fun g' hg' hf => by
          have h1 := (HOWN.out.lt g' hg').1
          have h2 := HFL.out g' hf
          have h3 := HQZ.out
          omega
        unfold OwnN
        rw [HM.out]
        exact this
      have hcn := hown'.cell hn
      obtain ⟨c0, c1, c2, c3, c4⟩ := HLV.out.cells
      have hdr : ns.drop i = n :: ns.drop (i + 1) := by rw [List.drop_eq_getElem_cons (by rw [HM.out]; exact him)]; rw [List.getElem?_eq_getElem (by rw [HM.out]; exact him)] at hn; injection hn with hn; rw [hn]
      rw [hdr] at hok HDK
      unfold DropOk at hok
      rw [show dropK pre N below (n :: ns.drop (i + 1)) kk = if below ≤ (n : Int) ∨ n = N then dropK pre N below (ns.drop (i + 1)) kk else dropK pre N below (ns.drop (i + 1)) (deleteK kk (nameW pre n)) from rfl] at HDK
      have HN6n : n < 1000000 := HN6.out n (List.mem_of_getElem? hn)
      clear hown' hdr e2 hlv ho hdk
      have HTR : Hid (TabW wr) := Lib.hid ((HT.out.below HF1.out).only HO.out HF.out)
      by_cases hsk : below ≤ (n : Int) ∨ n = N
      · rw [if_pos hsk] at hok HDK
        have HOK2 := Lib.hid hok
        clear hok
        have hfin : Hid (∀ t : Value, t = .int .i64 ((i : Int) + 1) → (∃ (i : Nat) (kk : Pk), i ≤ m ∧ t = .int .i64 i ∧ DropOk pre N below (ns.drop i) kk ∧ dropK pre N below (ns.drop i) kk = dropK pre N below ns k ∧ LogV wr F L p pre size N b kk ∧ Only F w1 wr)) := Lib.hid fun t ht => ⟨i + 1, kk, by omega, by rw [ht]; rfl, HOK2.out, HDK.out, HLV.out, HO.out⟩
        rcases (by omega : below ≤ (n : Int) ∨ (¬ below ≤ (n : Int) ∧ n = N)) with h1 | ⟨h1, h2⟩
        · clear hsk
          go_wp2
          exact ⟨hfin.out _ rfl, by simp [intOf]; omega⟩
        · have h2' : ((n : Int) == (N : Int)) = true := by simp; omega
          clear hsk
          subst h2
          go_wp2
          exact ⟨hfin.out _ rfl, by simp [intOf]; omega⟩
      · rw [if_neg hsk] at hok HDK
        obtain ⟨he, hd1, hd2, hok⟩ := hok
        have HOK2 := Lib.hid hok
        have h1 : ¬ below ≤ (n : Int) := fun h => hsk (.inl h)
        have h2' : ((n : Int) == (N : Int)) = false := by simp; intro h; exact hsk (.inr (by omega))
        obtain ⟨X, hX⟩ : ∃ X : ByteArray, (⟨(nameW pre n).toArray⟩ : ByteArray) = X := ⟨_, rfl⟩
        have HFI : Hid (∀ wx, fr wr wx → Calls Tryz.prog 65 #[.string P, .int .i64 n] wx fun r w' => r = .returned (.string X) ∧ Below wx.heap.size wx w') := Lib.hid fun wx hx => by
          rw [← hX, ← HPP.out]
          exact file_any pre _ wx (HTR.out.below hx) hp HN6n
        have HDE : Hid (∀ wx, fr wr wx → Calls Tryz.prog 62 #[.pointer (some ⟨p, 0, none⟩), .string X] wx fun r w' => r = .returned (.int .i64 0) ∧ DiskP w' F p (deleteK kk (nameW pre n)) ∧ Only F wx w') := Lib.hid fun wx hx => by
          have := delete_any F p kk (nameW pre n) wx (HLV.out.dk.below hx) (nameLe _ hp) hd1 hd2
          rw [he] at this
          rw [← hX]
          exact this
        rw [HPP.out] at c1
        clear hsk hX he hd1 hd2 hok
        have q0 := fun q : Ext wr => q.cell c0
        have q1 := fun q : Ext wr => q.cell c1
        go_upto_region 10 with (fail)
        (refine wp_region_ext_tail 10 (by kernel_rfl) (by kernel_rfl) ?_; simp only [List.take_succ_cons, List.take_zero, List.drop_succ_cons, List.drop_zero]; (repeat (go_big_quiet_step ((go_at_call 65; exact Ext.calls (HFI.out _ (Ext.h _)))))); refine wpQuiet_nil ?_; intro wq hw'; obtain ⟨⟨_, hq⟩, hw''⟩ := hw'; subst hw'')
        clear q0 q1
        go_wp2_with (go_at_call 62; refine (HDE.out _ hq).mono ?_; rintro r w5 ⟨rfl, hk5, ho5⟩)
        have hl5 := HLV.out.below hq
        refine ⟨⟨i + 1, _, by omega, rfl, HOK2.out, HDK.out, ⟨hk5, hl5.out, (ho5.block L hl5.lt hl5.out).trans hl5.row⟩, Only.trans (Only.trans HO.out (Only.of_below hq)) ho5⟩, by simp [intOf]; omega⟩
    · obtain rfl : i = m := by omega
      have hnil : ns.drop i = [] := List.drop_eq_nil_of_le (by rw [HM.out]; exact Nat.le_refl _)
      rw [hnil] at HDK
      have hfk : kk = dropK pre N below ns k := HDK.out
      go_wp2
      go_ret
      exact ⟨rfl, hfk ▸ HLV.out, Only.trans (Only.of_below HF1.out) HO.out⟩
end Go.Proofs.YtjnolpfmchnnmaaGreatDoor
end
section
namespace Go.Proofs.YtjnolpfmchnnmaaGreatDoor
set_option maxRecDepth 100000
open Go.RowKit Go.BigFrame
theorem wpListIn_append_at {F : Fence} {n : Nat} {P : Program} (w : World) {ops : Array Oper} {rest : List Oper} {o : Oper} {a : Act} {Q : Exit → Act → World → Prop}
    (hg : o.guard = none) (s x : Operand) (t : TypeId) (hop : o.op = Op.call { callee := Callee.builtin Builtin.append, args := #[s, x], argTypes := #[t, t] })
    (base : Nat) (e : TypeId) (i : TypeInfo) (z : Value) (size bytes : Nat) (h1 : P.underlying t = some (.slice e)) (h2 : P.info? e = some i) (h3 : i.zero = some z) (h4 : i.size = size) (h5 : i.bytes = bytes) (h6 : z.cells.size = size) (h7 : 0 < size)
    (v : Value) (k : Nat) (xs : List Value) (hs : a.eval s = v) (hown : w.ownsRow base e size v k xs) (ad : Addr) (m c : Nat) (news : List Value) (hx : a.eval x = .slice (some ad) m c) (hn : news.length = m * size)
    (hc : ∀ j u, news[j]? = some u → w.cell? (ad.add j) = some u) (h1c : ∀ u ∈ news, u.oneCell' = true) (b1 : k + m ≤ maxLen) (b2 : (k + m) * bytes ≤ 140737488355328) (b3 : base ≤ w.heap.size)
    (hK : ∀ v' w', w'.ownsRow base e size v' (k + m) (xs ++ news) → w.grownBy w' v.ownBlock → (v'.ownBlock = v.ownBlock ∨ v'.ownBlock = some w.heap.size) → wpListIn F n P ops Q rest (a.put o.dst v') w') :
    wpListIn F n P ops Q (o :: rest) a w := by
  refine wpListIn_plain hg fun K hK' => ?_
  obtain ⟨v', w', hrun, r1, r2, _, r4⟩ := run_append_own_at (P := P) w base t o.type e i z size bytes h1 h2 h3 h4 h5 h6 h7 v k xs hown ad m c news hn hc h1c b1 b2 b3
  unfold Oper.wpIn
  refine ⟨?_, ?_⟩
  · simp [Oper.about, hop, resolve, Target.leads, Sem.run_pure]
  · rw [Oper.semAt_plain F _ _ (by rw [hop]; intro c hc'; cases hc')]
    simp [execOp, hop, resolve, invoke, builtin, hs, hx, hrun, Result.andThen]
    exact hK' _ _ (hK v' w' r1 r2 r4)
theorem Loose.idle {Z : Nat → Prop} {base i : Nat} {A B : World} (h : Loose A i) (hi : Idle Z base A B) (hZ : ¬ Z i) : Loose B i := by
  obtain ⟨cs, h⟩ := h
  exact ⟨cs, hi.cells hZ h rfl⟩
theorem Byt.idle {Z R : Nat → Prop} {base : Nat} {A B : World} {v : Value} {bs : List UInt8} (h : Byt A (fun i => R i ∧ Loose A i) v bs) (hi : Idle Z base A B) (hZ : ∀ i, R i → ¬ Z i) : Byt B (fun i => R i ∧ Loose B i) v bs :=
  Byt.mono (S := fun i => R i ∧ Loose A i) (Byt.keep (S := fun i => R i ∧ Loose A i) h hi.size fun i _ hR => by
    obtain ⟨cs, hl⟩ := hR.2
    exact (hi.cells (hZ i hR.1) hl rfl).trans hl.symm) fun _ hR => ⟨hR.1, hR.2.idle hi (hZ _ hR.1)⟩
theorem Byt.grewT {lo : Nat} {T T' : Nat → Prop} {v : Value} {bs : List UInt8} {W W' : World} (h : Byt W (fun i => (lo ≤ i ∧ ¬ T i) ∧ Loose W i) v bs) (hg : Grew W.heap.size T T') (ho : Only (fun i => T i ∨ W.heap.size ≤ i) W W') : Byt W' (fun i => (lo ≤ i ∧ ¬ T' i) ∧ Loose W' i) v bs := by
  have h3 : Byt W (fun i => ((lo ≤ i ∧ ¬ T i) ∧ i < W.heap.size) ∧ Loose W i) v bs := h.mono fun i hi => ⟨⟨hi.1, hi.2.lt⟩, hi.2⟩
  refine (Byt.looseOnly h3 ho fun i hi h => h.elim hi.1.2 fun h => by have := hi.2; omega).mono fun i hi => ⟨⟨hi.1.1.1, fun hT => (hg i hT).elim hi.1.1.2 fun h => by have := hi.1.2; omega⟩, hi.2⟩
theorem Only.idle {Z : Nat → Prop} {base : Nat} {w W W' : World} (h : Only Z w W) (hi : Idle Z base W W') (hb : w.heap.size ≤ base) : Only Z w W' :=
  ⟨hi.os.trans h.os, hi.tape.trans h.tape, hi.output.trans h.output, Nat.le_trans h.size hi.size, fun i hlt hn => (hi.block i (Nat.lt_of_lt_of_le hlt h.size) fun hk => hk.elim hn fun hk => by omega).trans (h.block i hlt hn)⟩
section
variable {te e : TypeId} {size n₀ B : Nat}
structure Grows (te e : TypeId) (size n₀ B : Nat) (T : Nat → Prop) (v : Value) (k : Nat) (ys : List Value) (W : World) : Prop where
  box : Boxed W B te v
  row : W.ownsRow n₀ e size v k ys
  set : ∀ i, T i ↔ i = B ∨ v.ownBlock = some i
theorem Grows.blk {T : Nat → Prop} {v : Value} {k : Nat} {ys : List Value} {W : World} (h : Grows te e size n₀ B T v k ys W) {g : Nat} (hg : v.ownBlock = some g) : n₀ ≤ g ∧ g < W.heap.size ∧ ∃ cur, W.heap[g]? = some (.cells cur e (0, 0)) := by
  rcases h.row.2 with ⟨rfl, _⟩ | ⟨g', cap, cur, rfl, hb, hh, _⟩
  · simp [Value.ownBlock] at hg
  · obtain rfl : g' = g := by simpa [Value.ownBlock] using hg
    exact ⟨hb, (Array.getElem?_eq_some_iff.1 hh).1, cur, hh⟩
theorem Grows.lt {T : Nat → Prop} {v : Value} {k : Nat} {ys : List Value} {W : World} (h : Grows te e size n₀ B T v k ys W) {i : Nat} (hi : T i) : i < W.heap.size := by
  rcases (h.set i).1 hi with rfl | hg
  · exact h.box.lt
  · exact (h.blk hg).2.1
end
end Go.Proofs.YtjnolpfmchnnmaaGreatDoor
end
section
namespace Go.Proofs.YtjnolpfmchnnmaaGreatDoor
set_option maxRecDepth 100000
open Go.RowKit Go.BigFrame
attribute [local go_sem ↓] Go.wp_at_zero Go.wp_at_succ
attribute [local go_sem] Oper.semAt_some
set_option maxRecDepth 100000 in
set_option maxHeartbeats 4000000 in
theorem frames_tells (nn : Nat) (w : World) (B Bw b o n c : Nat) (S0 : Nat → Prop) (rs : List (List UInt8)) (hK : PairsK w B Bw b o n c S0 (frB rs)) (hSw : ¬ S0 Bw) (hS0 : ∀ i, S0 i → i < w.heap.size) (hn : (frB rs).length = n) (hn40 : n ≤ 1099511627776) (hrs : ∀ p ∈ rs, p.length ≤ 2097152) :
    Tells Fence.wide nn Tryz.prog 191 #[.pointer (some ⟨B, 0, none⟩), .pointer (some ⟨B + 1, 0, none⟩)] (fun x : FrE => #[.int .i64 x.1, x.2.1]) (fun pre T x A => OkF w.heap.size T x A ∧ pre.length < rs.length)
      (fun xs W' => xs.map (fun x => x.2.2) = rs ∧ Boxed W' Bw 31 (.int .i64 12)) (fun _ _ => True) (fun i => i < w.heap.size ∧ (i = B ∨ i = B + 1 ∨ i = Bw ∨ S0 i)) (fun i => i = Bw) w := by
  intro l J Jx T0 W hW hT0 hJ hJx hJT hY h0
  refine callsIn_wide.2 ?_
  have HJ := Lib.hid hJ
  have HJX := Lib.hid hJx
  have HJT := Lib.hid hJT
  have HY := Lib.hid hY
  have HRS := Lib.hid hrs
  have HN := Lib.hid hn
  have HT0 := Lib.hid hT0
  have HSW := Lib.hid hSw
  have HS0 := Lib.hid hS0
  have HWZ := Lib.hid hW.size
  have HB1 := Lib.hid (show B < w.heap.size ∧ B + 1 < w.heap.size ∧ Bw < w.heap.size from ⟨hK.b1.lt, hK.b2.lt, hK.b3.lt⟩)
  have HK0 := Lib.hid (hK.fr hW)
  obtain ⟨bs, hbs⟩ : ∃ bs, frB rs = bs := ⟨_, rfl⟩
  rw [hbs] at HN HK0
  have HBS := Lib.hid hbs
  have HJ0 := Lib.hid h0
  clear hJ hJx hJT hY hrs hn hT0 hSw hS0 hW hK hbs h0
  go_enter Tryz.func191, Tryz.ntmps191
  go_wp2
  go_loopw [4] (fun y wr => ∃ (pre : List FrE) (T : Nat → Prop) (r2 : List (List UInt8)) (k : Nat), y = .int .i64 k ∧ k ≤ n ∧ bs.drop k = frB r2 ∧ pre.map (fun x => x.2.2) ++ r2 = rs ∧ PairsK wr B Bw b o n c S0 bs ∧
    (∀ i, T i → ¬ (i < w.heap.size ∧ (i = B ∨ i = B + 1 ∨ i = Bw ∨ S0 i))) ∧ W.heap.size ≤ wr.heap.size ∧ J pre T wr) (fun y _ => n - (intOf y).toNat)
  case atStart => exact ⟨[], T0, rs, 0, rfl, Nat.zero_le _, HBS.out.symm, rfl, HK0.out, HT0.out, Nat.le_refl _, HJ0.out⟩
  case round =>
    clear HJ0 HT0 HK0
    obtain ⟨pre, T, r2, k, rfl, hk, hdr, hps, hK, hT, hz, hj⟩ := hrel
    have HK := Lib.hid hK
    have HT := Lib.hid hT
    have HZ := Lib.hid hz
    have HJR := Lib.hid hj
    have HPS := Lib.hid hps
    have c1 := hK.b1.cell
    obtain ⟨w0, hw0⟩ : ∃ x, x = wr := ⟨_, rfl⟩
    subst hw0
    have HR := Lib.hid (fread_some S0 b o n c k bs w0 hK.byt hk HN.out)
    have HDR := Lib.hid hdr
    clear hK hT hz hj hps hdr
    cases r2 with
    | nil =>
      have HF : Hid (readF (bs.drop k) = ([], 0, 12)) := Lib.hid (by rw [HDR.out]; rfl)
      go_wp2_with (go_at_call 192; refine HR.out.mono ?_; rintro r w1 ⟨v1, p1, q1, e1, hre, rfl, hv1, f1⟩; rw [HF.out] at hre; injection hre with hr1 hr2; injection hr2 with hr2 hr3; subst hr1 hr2 hr3; have k2 := (HK.out.fr f1).b2.cell; have k3 := (HK.out.fr f1).b3.cell; have z3 := (HK.out.fr f1).b3.frozen)
      refine bodyPost_ret (results_none rfl _ _ _) rfl ?_
      refine ⟨⟨_, rfl⟩, .inl ⟨pre, T, ⟨by simpa using HPS.out, (HK.out.fr f1).b3.set _⟩, HJ.out pre T _ _ HJR.out (Idle.of_only (Only.trans (Only.of_below f1) (only_set w1 Bw 0 _)))⟩⟩
    | cons p r2 =>
      have hpl : p.length ≤ 2097152 := HRS.out p (by rw [← HPS.out]; simp)
      have HF : Hid (readF (bs.drop k) = (p, 8 + p.length, 0)) := Lib.hid (by rw [HDR.out, frB_cons]; exact readF_put p _ hpl)
      have hkn : k + (8 + p.length) ≤ n := by
        have := congrArg List.length HDR.out
        rw [List.length_drop, HN.out, frB_cons, List.length_append, putF_len] at this
        omega
      have HMN : Hid (pre.length < rs.length) := Lib.hid (by rw [← HPS.out]; simp)
      obtain ⟨q, hq⟩ : ∃ q, k + (8 + p.length) = q := ⟨_, rfl⟩
      have HQ := Lib.hid hq
      go_upto_region 3 with (go_at_call 192; refine HR.out.mono ?_; rintro r w1 ⟨v1, p1, q1, e1, hre, rfl, hv1, f1⟩; rw [HF.out] at hre; injection hre with hr1 hr2; injection hr2 with hr2 hr3; subst hr1 hr2 hr3; have k2 := (HK.out.fr f1).b2.cell; have k3 := (HK.out.fr f1).b3.cell; have z3 := (HK.out.fr f1).b3.frozen; rw [HQ.out])
      have hO2 : Only (fun i => i = Bw) w0 (w1.setCell ⟨Bw, 0, none⟩ (.int .i64 0)) := Only.trans (Only.of_below f1) (only_set w1 Bw 0 _)
      have hK2 := (HK.out.fr f1).why HSW.out
      have hL2 : Byt (w1.setCell ⟨Bw, 0, none⟩ (.int .i64 0)) (fun i => w0.heap.size ≤ i ∧ Loose (w1.setCell ⟨Bw, 0, none⟩ (.int .i64 0)) i) v1 p := Byt.looseOnly (R := fun i => w0.heap.size ≤ i) hv1 (only_set w1 Bw 0 _) fun i hi e => by
        have h1 := HB1.out.2.2
        have h2 := HWZ.out
        have h3 := HZ.out
        omega
      generalize w1.setCell ⟨Bw, 0, none⟩ (.int .i64 0) = w2 at hO2 hK2 hL2 ⊢
      have HO2 := Lib.hid hO2
      have HK2 := Lib.hid hK2
      have hlo : w.heap.size ≤ w0.heap.size := Nat.le_trans HWZ.out HZ.out
      have h0T : ∀ i, T i → i < w0.heap.size := fun i hi => HJT.out pre T w0 i HJR.out hi
      have HOK : Hid (OkF w.heap.size T (q, v1, p) w2) := Lib.hid (Byt.mono (S := fun i => w0.heap.size ≤ i ∧ Loose w2 i) hL2 fun i hi => ⟨⟨by omega, fun h => by have := h0T i h; omega⟩, hi.2⟩)
      have HJ2 : Hid (J pre T w2) := Lib.hid (HJ.out pre T w0 w2 HJR.out (Idle.of_only HO2.out))
      have H0T := Lib.hid h0T
      have HLO := Lib.hid hlo
      have HPL := Lib.hid hpl
      have hkq : k < q := by omega
      have hqn : q ≤ n := by omega
      have HFIN : Hid (∀ (w6 : World) (T' : Nat → Prop), Grew w2.heap.size T T' → Only T w2 w6 → J (pre ++ [(q, v1, p)]) T' w6 →
          ∃ (pre : List FrE) (T : Nat → Prop) (r2 : List (List UInt8)) (k : Nat), Value.int .i64 (q : Int) = .int .i64 k ∧ k ≤ n ∧ bs.drop k = frB r2 ∧ pre.map (fun x => x.2.2) ++ r2 = rs ∧ PairsK w6 B Bw b o n c S0 bs ∧
            (∀ i, T i → ¬ (i < w.heap.size ∧ (i = B ∨ i = B + 1 ∨ i = Bw ∨ S0 i))) ∧ W.heap.size ≤ w6.heap.size ∧ J pre T w6) := Lib.hid fun w6 T' g5 o5 hj6 => by
        have hz2 := HO2.out.size
        have hz6 := o5.size
        refine ⟨_, T', r2, q, rfl, hqn, ?_, ?_, ?_, ?_, by have := HZ.out; omega, hj6⟩
        · rw [← HQ.out, ← List.drop_drop, HDR.out, frB_cons, List.drop_left' (by rw [putF_len]; omega)]
        · rw [← HPS.out, List.map_append, List.append_assoc]; rfl
        · exact HK2.out.only o5 fun i h h' => HT.out i h ⟨by rcases h' with h' | h' | h' | h' <;> (have := HB1.out; first | omega | exact HS0.out i h'), h'⟩
        · intro i h h'
          rcases g5 i h with h | h
          · exact HT.out i h h'
          · omega
      clear hq hkn hlo h0T hO2 hK2 hL2 k2 k3 z3 hv1 f1 hpl hk HF HR c1
      obtain ⟨fn, tmps, assign, body, hy, hR⟩ := HY.out pre T (q, v1, p) w2 HJ2.out ⟨HOK.out, HMN.out⟩
      dsimp only at hy
      refine (wpIn_wide (n := nn)).1 ?_
      gi_wp2_with (fail)
      refine ⟨fun h => absurd h (by decide), hR.mono ?_⟩
      rintro e w6 ⟨T', gT, oT, (⟨rfl, hj6⟩ | ⟨rfl, hj6⟩)⟩
      · have HFI := Lib.hid (HFIN.out w6 T' gT oT hj6)
        clear hy hR
        gi_wp2
        go_wp2
        refine ⟨HFI.out, by simp [intOf]; omega⟩
      · have HJX6 := Lib.hid hj6
        clear hy hR hj6
        gi_wp2
        go_wp2
        refine bodyPost_ret (results_none rfl _ _ _) rfl ?_
        exact ⟨⟨_, rfl⟩, .inr ⟨_, T', trivial, HJX6.out⟩⟩
end Go.Proofs.YtjnolpfmchnnmaaGreatDoor
end
