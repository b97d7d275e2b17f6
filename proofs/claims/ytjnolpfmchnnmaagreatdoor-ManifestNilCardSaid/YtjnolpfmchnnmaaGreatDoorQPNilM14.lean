/-
An edit that came in.
-/
import Derived.Test.YtjnolpfmchnnmaaGreatDoorQPNilM13
import Derived.Test.YtjnolpfmchnnmaaGreatDoorQPNilM2
import Derived.Test.YtjnolpfmchnnmaaGreatDoorQPNilM8
import Derived.Test.YtjnolpfmchnnmaaGreatDoorQPNilM4
import Derived.Test.YtjnolpfmchnnmaaGreatDoorQPNilM7
import Derived.WalkMore
import Derived.Lib.SlBytesConst
import Derived.Test.YtjnolpfmchnnmaaGreatDoorQPNilM0
import Derived.Deep.Slices
import Derived.Lib.SmallJoins
import Derived.OpenShut
import Derived.SizedLaws
import Derived.Test.YtjnolpfmchnnmaaGreatDoorRows
import Derived.Deep.Strs
section
namespace Go.Proofs.YtjnolpfmchnnmaaGreatDoor
set_option maxRecDepth 100000
open Go.RowKit Go.BigFrame Go.Sort Go.Shelf Go.Lib
attribute [local go_sem ↓] Go.wp_at_zero Go.wp_at_succ
set_option maxRecDepth 100000 in
set_option maxHeartbeats 1000000 in
theorem mopen_nil (w : World) : Calls Tryz.prog 24 #[.pointer none] w fun r w' => r = .returned (.tuple #[.pointer none, .int .i64 1]) ∧ fr w w' := by
  go_enter Tryz.func24, Tryz.ntmps24
  go_wp2
  go_ret2
  exact ⟨rfl, fr.refl⟩
theorem dk_lt {w : World} {F : Nat → Prop} {p dn : Nat} {D : Nm → Option (List UInt8)} (h : DkC w F p dn D) (ht : TabW w) : ¬ F w.heap.size ∧ tabG < w.heap.size :=
  ⟨fun hf => Nat.lt_irrefl _ (h.1 _ hf).1, ht.lt⟩
set_option maxRecDepth 100000 in
set_option maxHeartbeats 2000000 in
theorem mopen_fresh (F : Nat → Prop) (p dn : Nat) (D : Nm → Option (List UInt8)) (w : World) (hk : DkC w F p dn D) (ht : TabW w) (hc : D curW = none) (hdn : dn ≤ 400000) :
    Calls Tryz.prog 24 #[.pointer (some ⟨p, 0, none⟩)] w fun r w' => r = .returned (.tuple #[.pointer (some ⟨w.heap.size, 0, none⟩), .int .i64 0]) ∧ (∃ F', Spread w.heap.size F F' ∧ ManC w' F' w.heap.size p ver0 1 (dn + dn + 1000) (begunD D 0 (frB (recsM (splitL ver0))))) ∧ Only F w w' := by
  have b0 := heap_alloc_new w (.cells #[.pointer (some ⟨p, 0, none⟩), .slice none 0 0, .int .i64 0, .int .i64 0, .int .i64 1, .int .i64 0] 139)
  have hf1 : fr w (w.alloc (.cells #[.pointer (some ⟨p, 0, none⟩), .slice none 0 0, .int .i64 0, .int .i64 0, .int .i64 1, .int .i64 0] 139)) := fr.alloc fr.refl _
  have hMO := dk_lt hk ht
  have HMO := Lib.hid hMO
  have HF1 := Lib.hid hf1
  obtain ⟨M, hM⟩ : ∃ M, w.heap.size = M := ⟨_, rfl⟩
  have HSZ := Lib.hid hM
  have HK := Lib.hid hk
  have HT := Lib.hid ht
  have HC := Lib.hid hc
  rw [hM] at b0 HMO
  have HR := Lib.hid b0
  clear hMO b0 hf1 hk ht hc
  rw [hM]
  obtain ⟨wa, hwa⟩ : ∃ wa, (w.alloc (.cells #[.pointer (some ⟨p, 0, none⟩), .slice none 0 0, .int .i64 0, .int .i64 0, .int .i64 1, .int .i64 0] 139)) = wa := ⟨_, rfl⟩
  rw [hwa] at HR HF1
  have HRD : Hid (Calls Tryz.prog 64 #[.pointer (some ⟨p, 0, none⟩), .string ⟨#[99, 117, 114, 114, 101, 110, 116]⟩] wa fun r w' => ∃ v, r = .returned (.tuple #[v, .int .i64 22]) ∧ fr wa w') := Lib.hid (by
    refine (cread_none (x := curW) (HK.out.below HF1.out) (by decide) HC.out).mono ?_
    rintro r w' ⟨v', rfl, _, h2⟩
    exact ⟨v', rfl, h2⟩)
  go_enter Tryz.func24, Tryz.ntmps24
  go_upto_region 4 with (fail)
  go_upto_region 16 with (go_at_call 64; refine HRD.out.mono ?_; rintro r w2 ⟨v2, rfl, f2⟩)
  have HF2 := Lib.hid (fr.step HF1.out f2)
  have HR2 : Hid (ManR w2 M p (.slice none 0 0) ver0 0) := Lib.hid (ManR.below (v := ver0) (num := 0) HR.out f2)
  clear f2 hwa hM
  go_upto_region 17 with (go_at_call 78; refine (mbegin_any F M p 0 dn D (.slice none 0 0) ver0 w2 HR2.out HMO.out ⟨none, 0, [], rfl, by simp [ver0], by simp, by simp [ver0], Row.nil _ _ _ _, .nil⟩ (HK.out.below HF2.out) (HT.out.below HF2.out) (by decide) (fun h => absurd h (Nat.lt_irrefl _)) ver0_ok (fun n => sorts_small (by simp [ver0]) (by simp [ver0, idsT])) hdn).mono ?_; rintro r w3 ⟨rfl, ⟨F', hS, hC⟩, hO⟩)
  have HS := Lib.hid (hS.low (Below.size HF2.out))
  have HCC := Lib.hid hC
  have HO := Lib.hid hO
  clear hS hC hO
  go_wp2_with (fail)
  go_ret2
  refine ⟨rfl, ⟨F', HSZ.out ▸ HS.out, HCC.out⟩, ?_⟩
  exact (Only.of_below (S := F) HF2.out).fresh HO.out fun i h => h.imp id fun h => by rw [h, HSZ.out]; exact Nat.le_refl _
set_option maxRecDepth 100000 in
set_option maxHeartbeats 2000000 in
theorem mopen_again (F : Nat → Prop) (p num dn dl : Nat) (v : Ver) (D : Nm → Option (List UInt8)) (w : World) (hk : DkC w F p dn D) (ht : TabW w) (hfile : FileOk D num dl v) (hdl : dl ≤ 1000000) (hn1 : 1 ≤ num) (hn : num + 1 < 1000000) (hver : VerOk v) (hsort : ∀ n, Sorts sortTb (v.tabs.take n)) (hdn : dn ≤ 400000) :
    Calls Tryz.prog 24 #[.pointer (some ⟨p, 0, none⟩)] w fun r w' => r = .returned (.tuple #[.pointer (some ⟨w.heap.size, 0, none⟩), .int .i64 0]) ∧ (∃ F', Spread w.heap.size F F' ∧ ManC w' F' w.heap.size p v (num + 1) (dn + dn + 1000) (begunD D num (frB (recsM (splitL v))))) ∧ Only F w w' := by
  have b0 := heap_alloc_new w (.cells #[.pointer (some ⟨p, 0, none⟩), .slice none 0 0, .int .i64 0, .int .i64 0, .int .i64 1, .int .i64 0] 139)
  have hf1 : fr w (w.alloc (.cells #[.pointer (some ⟨p, 0, none⟩), .slice none 0 0, .int .i64 0, .int .i64 0, .int .i64 1, .int .i64 0] 139)) := fr.alloc fr.refl _
  have hMO := dk_lt hk ht
  have HMO := Lib.hid hMO
  have HF1 := Lib.hid hf1
  obtain ⟨M, hM⟩ : ∃ M, w.heap.size = M := ⟨_, rfl⟩
  obtain ⟨ws, hws⟩ : ∃ ws, (Lib.itoa (num : Int)) = ws := ⟨_, rfl⟩
  have hai := atoi_itoa (n := num) (by omega)
  obtain ⟨hc, l, hl0, hll, hlD, hch⟩ := hfile
  rw [hws] at hai hc
  have HSZ := Lib.hid hM
  have HK := Lib.hid hk
  have HT := Lib.hid ht
  have HC := Lib.hid hc
  have HAI := Lib.hid hai
  have HL0 := Lib.hid hl0
  have HLL := Lib.hid (Nat.le_trans hll hdl)
  have HLD := Lib.hid hlD
  have HCH := Lib.hid hch
  have HVER := Lib.hid hver
  have HSORT := Lib.hid hsort
  rw [hM] at b0 HMO
  have HR := Lib.hid b0
  obtain ⟨X, hX⟩ : ∃ X : ByteArray, (⟨ws.toArray⟩ : ByteArray) = X := ⟨_, rfl⟩
  have hXs : X.size ≤ 18 ∧ X.data.toList = ws := by rw [← hX]; exact ⟨by rw [ba_size]; have := hai.2; omega, by simp⟩
  have HX := Lib.hid hXs
  have hcw := hlD
  clear hMO b0 hf1 hk ht hc hai hl0 hll hlD hch hver hsort hcw
  rw [hM]
  obtain ⟨wa, hwa⟩ : ∃ wa, (w.alloc (.cells #[.pointer (some ⟨p, 0, none⟩), .slice none 0 0, .int .i64 0, .int .i64 0, .int .i64 1, .int .i64 0] 139)) = wa := ⟨_, rfl⟩
  rw [hwa] at HR HF1
  have HRD : Hid (Calls Tryz.prog 64 #[.pointer (some ⟨p, 0, none⟩), .string ⟨#[99, 117, 114, 114, 101, 110, 116]⟩] wa fun r w' => ∃ v, r = .returned (.tuple #[v, .int .i64 0]) ∧ BytL w' wa.heap.size v ws ∧ fr wa w') := Lib.hid (by
    refine (cread_some (x := curW) (HK.out.below HF1.out) HC.out).mono ?_
    rintro r w' ⟨v', rfl, h1, h2⟩
    exact ⟨v', rfl, h1, h2⟩)
  have HCA : Hid (∀ wx, Calls Tryz.prog 76 #[.string X] wx fun r w' => r = .returned (.tuple #[.int .i64 num, .nilIface]) ∧ fr wx w') := Lib.hid fun wx => by
    refine (Tryz.strconv_Atoi X num HX.out.1 (by rw [HX.out.2]; exact HAI.out.1) wx).mono ?_
    rintro r w' ⟨rfl, t, rfl⟩
    exact ⟨rfl, Lib.bytesWorld_below _ _ _⟩
  have hXX := Lib.hid hX
  clear hX hXs
  go_enter Tryz.func24, Tryz.ntmps24
  go_upto_region 4 with (fail)
  go_upto_region 8 with (go_at_call 64; refine HRD.out.mono ?_; rintro r w2 ⟨v2, rfl, hb2, f2⟩)
  have HF2 := Lib.hid (fr.step HF1.out f2)
  have HR2 : Hid (ManR w2 M p (.slice none 0 0) ver0 0) := Lib.hid (ManR.below (v := ver0) (num := 0) HR.out f2)
  have hcv := hb2.byt.convert
  rw [hXX.out] at hcv
  clear f2 hwa hM hb2
  go_upto_region 9 with (go_at_call 76; refine (HCA.out _).mono ?_; rintro r w3 ⟨rfl, f3⟩)
  have HF3 := Lib.hid (fr.step HF2.out f3)
  have HR3 := Lib.hid (HR2.out.below f3)
  clear hcv f3
  have c5 := HR3.out.cells.2.2.2.2.2
  have y5 := frozen_of_row _ _ 5 _ _ HR3.out
  have g1 : ((num : Int) < 1) = False := by simp; omega
  have g2 : ((num : Int) ≥ 999999) = False := by simp; omega
  go_upto_region 12 with (fail)
  have hR4 : ManR (w3.setCell ⟨M, 5, none⟩ (.int .i64 num)) M p (.slice none 0 0) ver0 num := heap_setCell_same _ M 5 _ _ _ HR3.out
  have hO4 : Only (fun i => i = M) w3 (w3.setCell ⟨M, 5, none⟩ (.int .i64 num)) := only_set _ M 5 (.int .i64 num)
  generalize w3.setCell ⟨M, 5, none⟩ (.int .i64 num) = w4 at hR4 hO4 ⊢
  have HO4 := Lib.hid ((Only.of_below (S := fun i => i = M) HF3.out).trans hO4)
  have HR4 := Lib.hid hR4
  have HMF : Hid (∀ i, i = M → ¬ F i) := Lib.hid fun i h => h ▸ HMO.out.1
  have HMT : Hid (∀ i, i = M → tabG < i) := Lib.hid fun i h => h ▸ HMO.out.2
  clear hR4 hO4 c5 y5
  go_upto_region 13 with (go_at_call 77; refine (mload_any F M p num dn D l v w4 HR4.out HMO.out (HK.out.only HO4.out HMF.out) (HT.out.only HO4.out HMT.out) (by omega) HLD.out HCH.out HL0.out HLL.out).mono ?_; rintro r w5 ⟨rfl, ⟨x, hR5, hx5⟩, hO5⟩)
  have HO5 := Lib.hid (HO4.out.trans hO5)
  have HR5 := Lib.hid hR5
  have HX5 : Hid (TabsV w5 (fun i => ¬ F i ∧ i ≠ M) x v.tabs) := Lib.hid (Rows.keep tbFine hx5 fun _ _ _ _ hr => hr.mono fun i h => ⟨fun hf => absurd (HK.out.1 i hf).1 (by have := HO4.out.size; omega), fun e => by have h1 := HR4.out.lt; omega⟩)
  clear hO5 hR5 hx5
  go_upto_region 17 with (go_at_call 78; refine (mbegin_any F M p num dn D x v w5 HR5.out HMO.out HX5.out (HK.out.only HO5.out HMF.out) (HT.out.only HO5.out HMT.out) hn (fun _ => ⟨_, HLD.out⟩) HVER.out HSORT.out hdn).mono ?_; rintro r w6 ⟨rfl, ⟨F', hS, hC⟩, hO⟩)
  have HS := Lib.hid (hS.low HO5.out.size)
  have HCC := Lib.hid hC
  have HO := Lib.hid hO
  clear hS hC hO
  go_wp2_with (fail)
  go_ret2
  refine ⟨rfl, ⟨F', HSZ.out ▸ HS.out, HCC.out⟩, ?_⟩
  refine ⟨HO.out.os.trans HO5.out.os, HO.out.tape.trans HO5.out.tape, HO.out.output.trans HO5.out.output, Nat.le_trans HO5.out.size HO.out.size, fun i hi hn => ?_⟩
  have hM : i ≠ M := by have := HSZ.out; omega
  exact (HO.out.block i (Nat.lt_of_lt_of_le hi HO5.out.size) fun h => h.elim hn hM).trans (HO5.out.block i hi hM)
end Go.Proofs.YtjnolpfmchnnmaaGreatDoor
end
section
namespace Go.Proofs.YtjnolpfmchnnmaaGreatDoor
set_option maxRecDepth 100000
open Go.RowKit Go.BigFrame
attribute [local go_sem ↓] Go.wp_at_zero Go.wp_at_succ
set_option maxRecDepth 100000 in
set_option maxHeartbeats 2000000 in
theorem tables_any (S : Nat → Prop) (v : Value) (ts : List Tbl) (w : World) (h : TabsV w S v ts) :
    Calls Tryz.prog 79 #[v] w fun r w' => ∃ v', r = .returned v' ∧ OwnTabs w' w.heap.size v' ts ∧ Below w.heap.size w w' := by
  obtain ⟨i0, hi, hz0, hz1, hz2⟩ := info_parts infoT
  have hby := Lib.hid hz2
  have hz1' := Lib.hid hz1
  clear hz2 hz1
  obtain ⟨A, c, rfl⟩ := h.form
  obtain ⟨n, hn⟩ : ∃ n, ts.length = n := ⟨_, rfl⟩
  have hmany : n * 72 ≤ 140737488355328 := by obtain ⟨_, _, _, _, _, _, h3, _⟩ := h; rw [← hn]; exact h3
  rw [hn] at h ⊢
  have HLN := Lib.hid hn
  have H := Lib.hid h
  clear h hn
  go_enter Tryz.func79, Tryz.ntmps79
  go_wp2
  go_loopw [3, 8] (fun v3 t wr => ∃ i : Nat, i ≤ n ∧ t = .int .i64 i ∧ OwnTabs wr w.heap.size v3 (ts.take i) ∧ Below w.heap.size w wr) (fun _ t _ => n - (intOf t).toNat)
  case atStart => exact ⟨0, Nat.zero_le _, rfl, OwnRows.nil _ _ _, Below.refl _ _⟩
  case round =>
    obtain ⟨i, hi', rfl, hown, hbel⟩ := hrel
    obtain ⟨css, hown, hys⟩ := hown
    have HO := Lib.hid hown
    have HYS := Lib.hid hys
    have HB := Lib.hid hbel
    obtain ⟨m, hm⟩ : ∃ m, (ts.take i).length = m := ⟨_, rfl⟩
    have hmi : m = i := by rw [← hm, List.length_take, HLN.out]; omega
    subst hmi
    rw [hm] at HO
    have HMM := Lib.hid hm
    clear hown hys hbel hm
    by_cases hin : m < n
    · obtain ⟨t, hf⟩ : ∃ t, ts[m]? = some t := ⟨_, List.getElem?_eq_getElem (by rw [HLN.out]; exact hin)⟩
      obtain ⟨b, o, cs, rfl, hblt, _, ⟨va, vb, rfl, hva, hvb⟩, hc⟩ := Rows.at_ tbFine H.out hf
      obtain ⟨Aa, ca, rfl⟩ := slice_form hva
      obtain ⟨Ab, cb, rfl⟩ := slice_form hvb
      have HVA := Lib.hid (hva.below HB.out)
      have HVB := Lib.hid (hvb.below HB.out)
      have x0 : w.cell? ⟨b, o + m * 5, none⟩ = _ := hc 0 _ rfl
      have x1 : w.cell? ⟨b, o + m * 5 + 1, none⟩ = _ := hc 1 _ rfl
      have x2 : w.cell? ⟨b, o + m * 5 + 2, none⟩ = _ := hc 2 _ rfl
      have x3 : w.cell? ⟨b, o + m * 5 + 3, none⟩ = _ := hc 3 _ rfl
      have x4 : w.cell? ⟨b, o + m * 5 + 4, none⟩ = _ := hc 4 _ rfl
      have c0 := fr.cell HB.out x0
      have c1 := fr.cell HB.out x1
      have c2 := fr.cell HB.out x2
      have c3 := fr.cell HB.out x3
      have c4 := fr.cell HB.out x4
      have HF0 := Lib.hid hf
      have hm2 : m + 1 ≤ maxLen := by unfold maxLen; omega
      have hm3 : (m + 1) * 72 ≤ 140737488355328 := by omega
      have hbz := HB.out.size
      clear hf hva hvb hc x0 x1 x2 x3 x4
      have pT : (wr.alloc (.cells #[.int .i64 t.id, .int .i64 t.level, .int .i64 t.count, .slice Aa t.lo.length ca, .slice Ab t.hi.length cb] 57)).heap[wr.heap.size]? = some (.cells #[.int .i64 t.id, .int .i64 t.level, .int .i64 t.count, .slice Aa t.lo.length ca, .slice Ab t.hi.length cb] 57 (0, 0)) := heap_alloc_new wr _
      have hal : fr wr ((wr.alloc (.cells #[.int .i64 t.id, .int .i64 t.level, .int .i64 t.count, .slice Aa t.lo.length ca, .slice Ab t.hi.length cb] 57)).alloc (.cells #[] 5)) := fr.alloc (fr.alloc fr.refl _) _
      go_wp2_with (at_builtin; first
        | (refine wpList_append_byt0L rfl _ _ rfl (wr.heap.size + 1) (.slice Aa t.lo.length ca) rfl rfl S t.lo (fr.byt hal HVA.out) ?_; intro A5 c5 w5 hv5 hb5; have pT5 : w5.heap[wr.heap.size]? = some (.cells #[.int .i64 t.id, .int .i64 t.level, .int .i64 t.count, .slice Aa t.lo.length ca, .slice Ab t.hi.length cb] 57 (0, 0)) := (hb5.block _ (by simp; omega)).trans ((Below.heap_alloc _ (.cells #[] 5) _ (by simp)).trans pT); have fz5 := frozen_of_row w5 _ 3 _ _ pT5; have q3 := cell_of_row w5 _ 3 _ _ _ pT5; have hf5 : fr wr w5 := fr.step hal hb5; have p6 : (w5.setCell ⟨wr.heap.size, 3, none⟩ (.slice A5 t.lo.length c5)).heap[wr.heap.size]? = some (.cells #[.int .i64 t.id, .int .i64 t.level, .int .i64 t.count, .slice A5 t.lo.length c5, .slice Ab t.hi.length cb] 57 (0, 0)) := heap_setCell_same w5 _ _ _ _ _ pT5; have q4 : ((w5.setCell ⟨wr.heap.size, 3, none⟩ (.slice A5 t.lo.length c5)).alloc (.cells #[] 5)).cell? ⟨wr.heap.size, 4, none⟩ = some (.slice Ab t.hi.length cb) := cell_of_row _ _ 4 _ _ _ ((Below.heap_alloc _ _ _ (Array.getElem?_eq_some_iff.1 p6).1).trans p6); have hf6 : fr wr ((w5.setCell ⟨wr.heap.size, 3, none⟩ (.slice A5 t.lo.length c5)).alloc (.cells #[] 5)) := fr.alloc (Below.setCell hf5 (Nat.le_refl _) _) _)
        | (refine wpList_append_byt0L rfl _ _ rfl w5.heap.size (.slice Ab t.hi.length cb) rfl rfl S t.hi (fr.byt hf6 HVB.out) ?_; intro A7 c7 w7 hv7 hb7; have pT7 : w7.heap[wr.heap.size]? = some (.cells #[.int .i64 t.id, .int .i64 t.level, .int .i64 t.count, .slice A5 t.lo.length c5, .slice Ab t.hi.length cb] 57 (0, 0)) := (hb7.block _ (by have := (Array.getElem?_eq_some_iff.1 p6).1; simp at this ⊢; omega)).trans ((Below.heap_alloc _ (.cells #[] 5) _ (Array.getElem?_eq_some_iff.1 p6).1).trans p6); have fz7 := frozen_of_row w7 _ 4 _ _ pT7; have q4' := cell_of_row w7 _ 4 _ _ _ pT7; have hf7 : fr wr w7 := fr.step hf6 hb7; have p8 : (w7.setCell ⟨wr.heap.size, 4, none⟩ (.slice A7 t.hi.length c7)).heap[wr.heap.size]? = some (.cells #[.int .i64 t.id, .int .i64 t.level, .int .i64 t.count, .slice A5 t.lo.length c5, .slice A7 t.hi.length c7] 57 (0, 0)) := heap_setCell_same w7 _ _ _ _ _ pT7; have r0 := cell_of_row _ _ 0 _ _ _ p8; have r1 := cell_of_row _ _ 1 _ _ _ p8; have r2 := cell_of_row _ _ 2 _ _ _ p8; have r3 := cell_of_row _ _ 3 _ _ _ p8; have r4 := cell_of_row _ _ 4 _ _ _ p8; have hf8 : fr wr (w7.setCell ⟨wr.heap.size, 4, none⟩ (.slice A7 t.hi.length c7)) := Below.setCell hf7 (Nat.le_refl _) _)
        | (refine wpList_append_own_at _ rfl _ _ 43 rfl w.heap.size 57 i0 _ 5 72 Tryz.underlying43 hi hz0 hz1'.out hby.out rfl (by decide) _ _ _ rfl ((own_below HO.out hf8).alloc _) ⟨w7.heap.size, 0, none⟩ 1 1 [.int .i64 t.id, .int .i64 t.level, .int .i64 t.count, .slice A5 t.lo.length c5, .slice A7 t.hi.length c7] rfl rfl (cells_at rfl (by simp)) (by simp [Value.oneCell']) hm2 hm3 (by have := Below.size hf8; simp at this ⊢; omega) ?_; intro v' w9 hown' hgrow hnn hat; clear hnn))
      have hx : tbR (w7.setCell ⟨wr.heap.size, 4, none⟩ (.slice A7 t.hi.length c7)) (fun i => wr.heap.size ≤ i ∧ Loose (w7.setCell ⟨wr.heap.size, 4, none⟩ (.slice A7 t.hi.length c7)) i) t [.int .i64 t.id, .int .i64 t.level, .int .i64 t.count, .slice A5 t.lo.length c5, .slice A7 t.hi.length c7] := by
        have hz5 := Below.size hf5
        have hz7 := hb7.size
        have ha : Only (fun i => i = wr.heap.size) w5 (w7.setCell ⟨wr.heap.size, 4, none⟩ (.slice A7 t.hi.length c7)) := ((only_set w5 wr.heap.size 3 _).trans ((Only.of_below ((Below.refl _ _).alloc (Nat.le_refl _) _)).trans (Only.of_below hb7))).trans (only_set w7 wr.heap.size 4 _)
        have h5 : BytL _ _ (.slice A5 t.lo.length c5) t.lo := BytL.only hv5 ha (fun i hi _ e => by simp at hi; omega)
        have h7 : BytL _ _ (.slice A7 t.hi.length c7) t.hi := BytL.only hv7 (only_set w7 wr.heap.size 4 (.slice A7 t.hi.length c7)) (fun i hi _ e => by have := (Array.getElem?_eq_some_iff.1 pT5).1; simp at hi; omega)
        exact ⟨_, _, rfl, h5.mono (by simp; omega), h7.mono (by have := (Array.getElem?_eq_some_iff.1 pT5).1; simp; omega)⟩
      have hpush := OwnRows.push tbFine (by rw [HMM.out]; exact HO.out) HYS.out hf8 hx HB.out.size hgrow hat (by rw [HMM.out]; exact hown')
      rw [← take_snoc HF0.out] at hpush
      have hbw : Below w.heap.size w w9 := ((HB.out.trans (Below.mono hf8 HB.out.size)).alloc (by have := Below.size hf8; omega) _).grown hgrow (by have := Below.size hf8; simp at this ⊢; omega) (fun j e => (HO.out.lt j e).1)
      exact ⟨⟨m + 1, by omega, by go_num, hpush, hbw⟩, by simp [intOf]; omega⟩
    · obtain rfl : m = n := by omega
      go_wp2
      refine bodyPost_ret (v := u3) (by simp [results, Tryz.results79, go_sem]) rfl ?_
      have e1 : ts.take m = ts := List.take_of_length_le (by rw [HLN.out]; exact Nat.le_refl _)
      have hys := HYS.out
      rw [e1] at hys
      exact ⟨u3, rfl, ⟨css, by rw [HLN.out]; exact HO.out, hys⟩, HB.out⟩
end Go.Proofs.YtjnolpfmchnnmaaGreatDoor
end
section
namespace Go.Proofs.YtjnolpfmchnnmaaGreatDoor
set_option maxRecDepth 100000
open Go.RowKit Go.BigFrame
attribute [local go_sem ↓] Go.wp_at_zero Go.wp_at_succ
set_option maxRecDepth 100000 in
set_option maxHeartbeats 4000000 in
theorem versame_any (S S' : Nat → Prop) (v v' : Value) (ts : List Tbl) (lg sq nx : Int) (w : World) (h : TabsV w S v ts) (h' : TabsV w S' v' ts) :
    Calls Tryz.prog 30 #[.agg #[v, .int .i64 lg, .int .i64 sq, .int .i64 nx], .agg #[v', .int .i64 lg, .int .i64 sq, .int .i64 nx]] w fun r w' => r = .returned (.bool true) ∧ Below w.heap.size w w' := by
  obtain ⟨A, c, rfl⟩ := h.form
  obtain ⟨A', c', rfl⟩ := h'.form
  have hmany : ts.length * 72 ≤ 140737488355328 := by obtain ⟨_, _, _, _, _, _, h3, _⟩ := h; exact h3
  obtain ⟨n, hn⟩ : ∃ n, ts.length = n := ⟨_, rfl⟩
  rw [hn] at h h' hmany ⊢
  have H := Lib.hid h
  have H' := Lib.hid h'
  have HN := Lib.hid hn
  clear h h' hn
  have hal : fr w ((w.alloc (.cells #[.slice A n c, .int .i64 lg, .int .i64 sq, .int .i64 nx] 50)).alloc (.cells #[.slice A' n c', .int .i64 lg, .int .i64 sq, .int .i64 nx] 50)) := fr.alloc (fr.alloc fr.refl _) _
  have P0 : ((w.alloc (.cells #[.slice A n c, .int .i64 lg, .int .i64 sq, .int .i64 nx] 50)).alloc (.cells #[.slice A' n c', .int .i64 lg, .int .i64 sq, .int .i64 nx] 50)).heap[w.heap.size]? = some (.cells #[.slice A n c, .int .i64 lg, .int .i64 sq, .int .i64 nx] 50 (0, 0)) := (Below.heap_alloc _ _ _ (by simp)).trans (heap_alloc_new w _)
  have P1 : ((w.alloc (.cells #[.slice A n c, .int .i64 lg, .int .i64 sq, .int .i64 nx] 50)).alloc (.cells #[.slice A' n c', .int .i64 lg, .int .i64 sq, .int .i64 nx] 50)).heap[w.heap.size + 1]? = some (.cells #[.slice A' n c', .int .i64 lg, .int .i64 sq, .int .i64 nx] 50 (0, 0)) := heap_at_new _ trivial (by simp)
  go_enter Tryz.func30, Tryz.ntmps30
  go_wp2_with fail
  go_loopw [39] (fun t wr => ∃ k : Nat, k ≤ n ∧ t = .int .i64 k ∧ fr ((w.alloc (.cells #[.slice A n c, .int .i64 lg, .int .i64 sq, .int .i64 nx] 50)).alloc (.cells #[.slice A' n c', .int .i64 lg, .int .i64 sq, .int .i64 nx] 50)) wr) (fun t _ => n - (intOf t).toNat)
  case atStart => exact ⟨0, Nat.zero_le _, rfl, fr.refl⟩
  case round =>
    obtain ⟨k, hk, rfl, hbel⟩ := hrel
    have HB := Lib.hid hbel
    have p0 := fr.hp hbel P0
    have p1 := fr.hp hbel P1
    have HW := Lib.hid (fr.step hal hbel)
    clear hbel
    by_cases hkn : k < n
    · obtain ⟨t, hf⟩ : ∃ t, ts[k]? = some t := ⟨_, List.getElem?_eq_getElem (by rw [HN.out]; exact hkn)⟩
      obtain ⟨b, o, cs, rfl, hblt, _, ⟨va, vb, rfl, hva, hvb⟩, hc⟩ := Rows.at_ tbFine (H.out.below tbFine HW.out) hf
      obtain ⟨b', o', cs', rfl, hblt', _, ⟨va', vb', rfl, hva', hvb'⟩, hc'⟩ := Rows.at_ tbFine (H'.out.below tbFine HW.out) hf
      obtain ⟨Aa, ca, rfl⟩ := slice_form hva
      obtain ⟨Ab, cb, rfl⟩ := slice_form hvb
      obtain ⟨Aa', ca', rfl⟩ := slice_form hva'
      obtain ⟨Ab', cb', rfl⟩ := slice_form hvb'
      have x0 : wr.cell? ⟨b, o + k * 5, none⟩ = _ := hc 0 _ rfl
      have x1 : wr.cell? ⟨b, o + k * 5 + 1, none⟩ = _ := hc 1 _ rfl
      have x2 : wr.cell? ⟨b, o + k * 5 + 2, none⟩ = _ := hc 2 _ rfl
      have x3 : wr.cell? ⟨b, o + k * 5 + 3, none⟩ = _ := hc 3 _ rfl
      have x4 : wr.cell? ⟨b, o + k * 5 + 4, none⟩ = _ := hc 4 _ rfl
      have y0 : wr.cell? ⟨b', o' + k * 5, none⟩ = _ := hc' 0 _ rfl
      have y1 : wr.cell? ⟨b', o' + k * 5 + 1, none⟩ = _ := hc' 1 _ rfl
      have y2 : wr.cell? ⟨b', o' + k * 5 + 2, none⟩ = _ := hc' 2 _ rfl
      have y3 : wr.cell? ⟨b', o' + k * 5 + 3, none⟩ = _ := hc' 3 _ rfl
      have y4 : wr.cell? ⟨b', o' + k * 5 + 4, none⟩ = _ := hc' 4 _ rfl
      have q0 := cell_of_row _ _ 0 _ _ _ p0
      have q1 := cell_of_row _ _ 0 _ _ _ p1
      clear hc hc' hf
      have l0 : w.heap.size < wr.heap.size := (Array.getElem?_eq_some_iff.1 p0).1
      have l1 : w.heap.size + 1 < wr.heap.size := (Array.getElem?_eq_some_iff.1 p1).1
      go_wp2_with fail
      go_region
      all_goals
        have fe : ∀ x y : Obj, fr wr ((wr.alloc x).alloc y).drew := fun x y => fr.drew (fr.alloc (fr.alloc fr.refl x) y)
        have e1 : ∀ x y : Obj, (convert 35 9 (.slice Aa t.lo.length ca)).run Tryz.prog ((wr.alloc x).alloc y).drew = .ok (.string ⟨t.lo.toArray⟩) ((wr.alloc x).alloc y).drew := fun x y => (hva.below (fe x y)).convert
        have e2 : ∀ x y : Obj, (convert 35 9 (.slice Aa' t.lo.length ca')).run Tryz.prog ((wr.alloc x).alloc y).drew = .ok (.string ⟨t.lo.toArray⟩) ((wr.alloc x).alloc y).drew := fun x y => (hva'.below (fe x y)).convert
        have e3 : ∀ x y : Obj, (convert 35 9 (.slice Ab t.hi.length cb)).run Tryz.prog ((wr.alloc x).alloc y).drew = .ok (.string ⟨t.hi.toArray⟩) ((wr.alloc x).alloc y).drew := fun x y => (hvb.below (fe x y)).convert
        have e4 : ∀ x y : Obj, (convert 35 9 (.slice Ab' t.hi.length cb')).run Tryz.prog ((wr.alloc x).alloc y).drew = .ok (.string ⟨t.hi.toArray⟩) ((wr.alloc x).alloc y).drew := fun x y => (hvb'.below (fe x y)).convert
        have HF := Lib.hid (fe (.cells #[.int .i64 t.id, .int .i64 t.level, .int .i64 t.count, .slice Aa t.lo.length ca, .slice Ab t.hi.length cb] 57) (.cells #[.int .i64 t.id, .int .i64 t.level, .int .i64 t.count, .slice Aa' t.lo.length ca', .slice Ab' t.hi.length cb'] 57))
        have HF' := Lib.hid (fe (.cells #[.int .i64 t.id, .int .i64 t.level, .int .i64 t.count, .slice Aa' t.lo.length ca', .slice Ab' t.hi.length cb'] 57) (.cells #[.int .i64 t.id, .int .i64 t.level, .int .i64 t.count, .slice Aa t.lo.length ca, .slice Ab t.hi.length cb] 57))
        clear fe
        go_wp2_with fail
        first
          | exact ⟨⟨k + 1, by omega, by go_num, fr.step HB.out HF.out⟩, by simp [intOf]; omega⟩
          | exact ⟨⟨k + 1, by omega, by go_num, fr.step HB.out HF'.out⟩, by simp [intOf]; omega⟩
    · obtain rfl : k = n := by omega
      go_wp2_with fail
      refine bodyPost_ret (v := .bool true) (by simp [results, Tryz.results30, go_sem]) rfl ?_
      exact ⟨rfl, fr.step hal HB.out⟩
end Go.Proofs.YtjnolpfmchnnmaaGreatDoor
end
section
namespace Go.Proofs.YtjnolpfmchnnmaaGreatDoor
set_option maxRecDepth 100000
open Go.RowKit Go.BigFrame Go.Sort Go.Shelf Go.Lib
attribute [local go_sem ↓] Go.wp_at_zero Go.wp_at_succ
def editV (w : World) (S : Nat → Prop) (r : Value) (e : Edt) : Prop := ∃ av dv, r = .agg #[av, dv, .int .i64 e.lg, .int .i64 e.sq] ∧ TabsV w S av e.add ∧ IntsIn w S dv e.drop
theorem OwnTabs.form {w : World} {base : Nat} {v : Value} {ts : List Tbl} (h : OwnTabs w base v ts) : ∃ A c, v = .slice A ts.length c := by
  obtain ⟨css, h1, _⟩ := h
  exact own_form h1
set_option maxRecDepth 100000 in
set_option maxHeartbeats 4000000 in
theorem edit_any (S : Nat → Prop) (av dv : Value) (e : Edt) (w : World) (ha : TabsV w S av e.add) (hd : IntsIn w S dv e.drop) (h8 : e.drop.length * 8 ≤ 140737488355328) (h72 : e.add.length * 72 ≤ 140737488355328) :
    Calls Tryz.prog 26 #[.agg #[av, dv, .int .i64 e.lg, .int .i64 e.sq]] w fun r w' => (∃ v, r = .returned v ∧ editV w' (fun i => w.heap.size ≤ i) v e) ∧ fr w w' := by
  obtain ⟨n, hn⟩ : ∃ n, e.add.length = n := ⟨_, rfl⟩
  obtain ⟨m, hm⟩ : ∃ m, e.drop.length = m := ⟨_, rfl⟩
  obtain ⟨Aa, ca, rfl⟩ := ha.form
  obtain ⟨Ad, cd, rfl⟩ : ∃ A c, dv = .slice A e.drop.length c := by obtain ⟨A, c, h, _⟩ := hd; exact ⟨A, c, h⟩
  rw [hn] at ha ⊢
  rw [hm] at hd ⊢
  obtain ⟨W0, hW0⟩ : ∃ W0, W0 = (w.alloc (.cells #[.slice Aa n ca, .slice Ad m cd, .int .i64 e.lg, .int .i64 e.sq] 45)).alloc (.cells #[.slice none 0 0, .slice none 0 0, .int .i64 0, .int .i64 0] 45) := ⟨_, rfl⟩
  have hA : fr w W0 := by rw [hW0]; exact fr.alloc (fr.alloc fr.refl _) _
  have hx1 : W0.heap[w.heap.size]? = some (.cells #[.slice Aa n ca, .slice Ad m cd, .int .i64 e.lg, .int .i64 e.sq] 45 (0, 0)) := by
    rw [hW0]
    exact (Below.heap_alloc _ _ _ (by simp)).trans (heap_alloc_new w _)
  have hx2 : W0.heap[w.heap.size + 1]? = some (.cells #[.slice none 0 0, .slice none 0 0, .int .i64 0, .int .i64 0] 45 (0, 0)) := by
    rw [hW0]
    have := heap_alloc_new (w.alloc (.cells #[.slice Aa n ca, .slice Ad m cd, .int .i64 e.lg, .int .i64 e.sq] 45)) (.cells #[.slice none 0 0, .slice none 0 0, .int .i64 0, .int .i64 0] 45)
    simp only [World.size_alloc] at this
    exact this
  have hsz : W0.heap.size = w.heap.size + 2 := by rw [hW0]; simp
  have HA := Lib.hid hA
  have HTA := Lib.hid (ha.below tbFine hA)
  have hd0 := hd
  have HN := Lib.hid hn
  have HM := Lib.hid hm
  clear hA ha hd hn hm
  go_enter Tryz.func26, Tryz.ntmps26
  go_upto_region 1 with (fail)
  rw [← hW0]
  have p0 := cell_of_row _ _ 0 _ _ _ hx1
  have HX1 := Lib.hid hx1
  have HX2 := Lib.hid hx2
  have HSZ := Lib.hid hsz
  clear hW0 hx1 hx2 hsz
  have hE1 : w.heap.size < W0.heap.size := by rw [HSZ.out]; omega
  have hE2 : w.heap.size + 1 < W0.heap.size := by rw [HSZ.out]; omega
  go_upto_region 2 with (go_at_call 79; refine (tables_any S _ _ _ HTA.out).mono ?_; rintro r w1 ⟨ta, rfl, hta, f1⟩; obtain ⟨A1, c1, rfl⟩ := hta.form; rw [HN.out] at hta ⊢; have x3 := (Below.block f1 w.heap.size hE1).trans HX1.out; have y0 := frozen_of_row _ _ 0 _ _ x3; have z0 := cell_of_row _ _ 0 _ _ _ x3)
  have hX4 : (w1.setCell ⟨w.heap.size, 0, none⟩ (.slice A1 n c1)).heap[w.heap.size]? = some (.cells #[.slice A1 n c1, .slice Ad m cd, .int .i64 e.lg, .int .i64 e.sq] 45 (0, 0)) := heap_setCell_same _ _ 0 _ _ _ x3
  have hO4 : Only (fun i => i = w.heap.size) w1 (w1.setCell ⟨w.heap.size, 0, none⟩ (.slice A1 n c1)) := only_set _ _ 0 (.slice A1 n c1)
  generalize w1.setCell ⟨w.heap.size, 0, none⟩ (.slice A1 n c1) = w2 at hX4 hO4 ⊢
  have HX4 := Lib.hid hX4
  have HO4 := Lib.hid ((Only.of_below (S := fun i => i = w.heap.size) f1).trans hO4)
  have HF4 : Hid (fr w w2) := Lib.hid (HA.out.trans (HO4.out.below HA.out.size fun i h => by rw [h]; exact Nat.le_refl _))
  have HTA4 : Hid (OwnTabs w2 W0.heap.size (.slice A1 n c1) e.add) := Lib.hid (OwnRows.onlyF tbFine hta hO4 (fun i hi _ h => by omega))
  have HY4 : Hid (w2.heap[w.heap.size + 1]? = some (.cells #[.slice none 0 0, .slice none 0 0, .int .i64 0, .int .i64 0] 45 (0, 0))) := Lib.hid ((HO4.out.block _ hE2 (by omega)).trans HX2.out)
  have HD4 : Hid (IntsIn w2 S (.slice Ad m cd) e.drop) := Lib.hid (hd0.below HF4.out)
  clear x3 y0 z0 hX4 hO4 hta f1 p0
  have p1 := cell_of_row _ _ 1 _ _ _ HX4.out
  have hL5 : fr w2 (w2.alloc (.cells #[] 3)) := fr.alloc fr.refl _
  have hl5 := lit0i w2
  obtain ⟨w5, hw5⟩ : ∃ w5, w2.alloc (.cells #[] 3) = w5 := ⟨_, rfl⟩
  rw [hw5] at hL5 hl5
  have HL5 := Lib.hid hL5
  have HR5 := Lib.hid hl5
  have HSZ2 := Lib.hid (show w2.heap.size < w5.heap.size by rw [← hw5]; simp)
  have HE1 := Lib.hid hE1
  have HE2 := Lib.hid hE2
  have HE3 := Lib.hid (Nat.lt_of_lt_of_le hE1 HO4.out.size)
  have HX5 := Lib.hid ((Below.block hL5 w.heap.size HE3.out).trans HX4.out)
  have p5 := cell_of_row _ _ 1 _ _ _ HX5.out
  clear hL5 hl5 hE1 hE2 hd0
  go_upto_region 3 with (at_builtin; refine wpList_append_ints rfl _ _ rfl w2.heap.size _ _ rfl rfl S e.drop HR5.out (HD4.out.below HL5.out) h8 (Nat.le_of_lt HSZ2.out) ?_; intro v6 w6 hown hgrow; obtain ⟨A6, c6, rfl⟩ := own_form hown; rw [HM.out] at hown ⊢; have hg6 : World.grownBy _ w6 (some w2.heap.size) := hgrow; have x6 := (hg6.block w.heap.size (Nat.lt_trans HE3.out HSZ2.out) (fun e => absurd (Option.some.inj e) (Nat.ne_of_lt HE3.out))).trans HX5.out; have y1 := frozen_of_row _ _ 1 _ _ x6; have z1 := cell_of_row _ _ 1 _ _ _ x6; have hsz6 := hg6.size)
  have hX7 : (w6.setCell ⟨w.heap.size, 1, none⟩ (.slice A6 m c6)).heap[w.heap.size]? = some (.cells #[.slice A1 n c1, .slice A6 m c6, .int .i64 e.lg, .int .i64 e.sq] 45 (0, 0)) := heap_setCell_same _ _ 1 _ _ _ x6
  have hO7 : Only (fun i => i = w.heap.size) w6 (w6.setCell ⟨w.heap.size, 1, none⟩ (.slice A6 m c6)) := only_set _ _ 1 (.slice A6 m c6)
  generalize w6.setCell ⟨w.heap.size, 1, none⟩ (.slice A6 m c6) = w7 at hX7 hO7 ⊢
  have hf6 : fr w2 w6 := Below.grown HL5.out hg6 (Below.size HL5.out) (fun j e => by obtain rfl := Option.some.inj e; exact Nat.le_refl _)
  have hf26 : fr w2 w6 := hf6
  have hY7 : w7.heap[w.heap.size + 1]? = some (.cells #[.slice none 0 0, .slice none 0 0, .int .i64 0, .int .i64 0] 45 (0, 0)) := by
    have h1 := Nat.lt_of_lt_of_le HE2.out HO4.out.size
    exact (hO7.block _ (Nat.lt_of_lt_of_le h1 (Below.size hf6)) (by omega)).trans ((Below.block hf6 _ h1).trans HY4.out)
  have hT7 : TabsV w7 (fun i => w.heap.size + 2 ≤ i) (.slice A1 n c1) e.add := by
    have h1 := OwnRows.rows (bytes := 72) tbFine (OwnRows.below tbFine HTA4.out hf6) h72
    exact TabsV.only (S := fun i => w.heap.size + 2 ≤ i) (Rows.keep tbFine h1 fun _ _ _ _ hr => hr.mono fun i h => by have := HSZ.out; have := h.1; omega) hO7 fun i h1 h2 => by omega
  have hD7 : IntsIn w7 (fun i => w.heap.size + 2 ≤ i) (.slice A6 m c6) e.drop := by
    have h1 := own_only hown hO7 fun g hg hS => by have := (hown.lt g hg).1; have := HE3.out; omega
    exact (ints_of_own h1 HM.out (by rw [HM.out] at h8; omega)).mono fun i hi => by have := HSZ.out; have := HO4.out.size; omega
  have hF7 : fr w w7 := (HF4.out.trans (Below.mono hf6 (Below.size HF4.out))).trans (hO7.below (by have := Below.size hf6; have := Below.size HF4.out; omega) fun i h => by rw [h]; exact Nat.le_refl _)
  have HX7 := Lib.hid hX7
  have HY7 := Lib.hid hY7
  have HT7 := Lib.hid hT7
  have HD7 := Lib.hid hD7
  have HF7 := Lib.hid hF7
  clear hX7 hY7 hT7 hD7 hF7 hO7 hf6 hf26 hown hgrow hg6 x6 y1 z1 hsz6 p1 p5 hw5
  have r0 := cell_of_row _ _ 0 _ _ _ HX7.out
  have r1 := cell_of_row _ _ 1 _ _ _ HX7.out
  have r2 := cell_of_row _ _ 2 _ _ _ HX7.out
  have r3 := cell_of_row _ _ 3 _ _ _ HX7.out
  have y0 := frozen_of_row _ _ 0 _ _ HY7.out
  have y1 := frozen_of_row _ _ 1 _ _ HY7.out
  have y2 := frozen_of_row _ _ 2 _ _ HY7.out
  have y3 := frozen_of_row _ _ 3 _ _ HY7.out
  have z0 := cell_of_row _ _ 0 _ _ _ HY7.out
  have z1 := cell_of_row _ _ 1 _ _ _ HY7.out
  have z2 := cell_of_row _ _ 2 _ _ _ HY7.out
  have z3 := cell_of_row _ _ 3 _ _ _ HY7.out
  go_wp2_with (fail)
  have P := put4_row HY7.out (a := .slice A1 n c1) (b := .slice A6 m c6) (c := .int .i64 e.lg) (d := .int .i64 e.sq)
  have O := put4_only (W := w7) (g := w.heap.size + 1) (a := .slice A1 n c1) (b := .slice A6 m c6) (c := .int .i64 e.lg) (d := .int .i64 e.sq)
  unfold put4 at P O
  generalize (((w7.setCell ⟨w.heap.size + 1, 0, none⟩ (.slice A1 n c1)).setCell ⟨w.heap.size + 1, 1, none⟩ (.slice A6 m c6)).setCell ⟨w.heap.size + 1, 2, none⟩ (.int .i64 e.lg)).setCell ⟨w.heap.size + 1, 3, none⟩ (.int .i64 e.sq) = w9 at P O ⊢
  have s0 := cell_of_row _ _ 0 _ _ _ P
  have s1 := cell_of_row _ _ 1 _ _ _ P
  have s2 := cell_of_row _ _ 2 _ _ _ P
  have s3 := cell_of_row _ _ 3 _ _ _ P
  refine bodyPost_ret (v := .agg #[.slice A1 n c1, .slice A6 m c6, .int .i64 e.lg, .int .i64 e.sq]) (by simp [results, Tryz.results26, go_sem, s0, s1, s2, s3]) rfl ?_
  refine ⟨⟨_, rfl, _, _, rfl, ?_, ?_⟩, HF7.out.trans (O.below (Below.size HF7.out) fun i h => by omega)⟩
  · exact Rows.keep tbFine (TabsV.only HT7.out O fun i h e => by omega) fun _ _ _ _ hr => hr.mono fun i h => by omega
  · exact (HD7.out.only' O fun i h e => by omega).mono fun i h => by omega
end Go.Proofs.YtjnolpfmchnnmaaGreatDoor
end
section
namespace Go.Proofs.YtjnolpfmchnnmaaGreatDoor
set_option maxRecDepth 100000
open Go.RowKit Go.BigFrame Go.Shelf
attribute [local go_sem ↓] Go.wp_at_zero Go.wp_at_succ
def calm0 : Pk := ⟨[], -1, -1, [], 0, 0, false⟩
theorem calm0_ok : CalmK calm0 0 := ⟨rfl, rfl, rfl, .nil, fun _ h => (by cases h), by decide, by decide, by decide⟩
theorem Byt.one {w : World} {S : Nat → Prop} {g c : Nat} {b : UInt8} {v : Value} (h : w.cell? ⟨g, 0, none⟩ = some v) (hv : v = bcell b) (hS : S g) (hc : 1 ≤ c) (hc' : c ≤ 9223372036854775807) : Byt w S (.slice (some ⟨g, 0, none⟩) 1 c) [b] := by
  subst hv
  refine ⟨_, _, rfl, hc, hc', by simp, ⟨by simp, fun _ => ⟨g, 0, rfl, hS, World.block_lt_of_cell? w _ h, fun j u hu => ?_⟩⟩⟩
  match j, hu with
  | 0, hu => simp at hu; subst hu; simpa using h
theorem cell_marked (w : World) (cs : Array Value) (t : TypeId) (fr : Nat × Nat) (g j : Nat) (hg : g = w.heap.size) : (w.alloc (.cells cs t fr)).cell? ⟨g, j, none⟩ = cs[j]? := by
  subst hg; exact cell_of_row _ _ j cs t fr (heap_alloc_new w _)
end Go.Proofs.YtjnolpfmchnnmaaGreatDoor
end
section
namespace Go.Proofs.YtjnolpfmchnnmaaGreatDoor
set_option maxRecDepth 100000
open Go.RowKit Go.BigFrame Go.Sort Go.Shelf Go.Lib
attribute [local go_sem ↓] Go.wp_at_zero Go.wp_at_succ
def t7 : Tbl := ⟨7, 0, 1, [97], [98]⟩
def wv0 : Ver := ⟨[], 0, 0, 0⟩
def we0 : Edt := ⟨[t7], [], 0, 3⟩
def we1 : Edt := ⟨[], [], 2, 5⟩
def we2 : Edt := ⟨[], [], 1, 5⟩
def wv1 : Ver := ⟨[], 2, 5, 1⟩
theorem sortTb_nil : sortTb [] = [] := by simp [sortTb]
theorem wv1_eq : (⟨sortTb (foldT ver0 we1), we1.lg, we1.sq, foldN ver0 we1⟩ : Ver) = wv1 := by
  have : foldT ver0 we1 = [] := rfl
  rw [this, sortTb_nil]
  rfl
theorem sorts_nil (n : Nat) : Sorts sortTb (([] : List Tbl).take n) := sorts_small (by simp) (by simp [idsT])
set_option maxRecDepth 100000 in
set_option maxHeartbeats 1000000 in
theorem calm13_any (w : World) : Calls Tryz.prog 25 #[] w fun r w' => r = .returned (.agg #[.int .i64 (-1), .int .i64 (-1), .slice none 0 0]) ∧ fr w w' := by
  go_enter Tryz.func25, Tryz.ntmps25
  go_wp2
  have hb := heap_alloc_new w (.cells #[.int .i64 (-1), .int .i64 (-1), .slice none 0 0] 28)
  have c0 := cell_of_row _ _ 0 _ _ _ hb
  have c1 := cell_of_row _ _ 1 _ _ _ hb
  have c2 := cell_of_row _ _ 2 _ _ _ hb
  refine bodyPost_ret (v := .agg #[.int .i64 (-1), .int .i64 (-1), .slice none 0 0]) (by simp [results, Tryz.results25, go_sem, c0, c1, c2]) rfl ?_
  exact ⟨rfl, fr.alloc fr.refl _⟩
theorem t7_at (w : World) : TabsV (((w.alloc (.cells #[.int .u8 97] 5 (1, 2))).alloc (.cells #[.int .u8 98] 5 (1, 2))).alloc (.cells #[.int .i64 7, .int .i64 0, .int .i64 1, .slice (some ⟨w.heap.size, 0, none⟩) 1 1, .slice (some ⟨w.heap.size + 1, 0, none⟩) 1 1] 57)) (fun _ => True) (.slice (some ⟨w.heap.size + 1 + 1, 0, none⟩) 1 1) [t7] := by
  have h1 := cell_marked w #[.int .u8 97] 5 (1, 2) w.heap.size 0 rfl
  have h2 := cell_marked (w.alloc (.cells #[.int .u8 97] 5 (1, 2))) #[.int .u8 98] 5 (1, 2) (w.heap.size + 1) 0 (by simp)
  have b1 : Byt _ (fun _ => True) (.slice (some ⟨w.heap.size, 0, none⟩) 1 1) [97] := Byt.one (v := .int .u8 97) h1 rfl trivial (by omega) (by omega)
  have b2 : Byt _ (fun _ => True) (.slice (some ⟨w.heap.size + 1, 0, none⟩) 1 1) [98] := Byt.one (v := .int .u8 98) h2 rfl trivial (by omega) (by omega)
  have f1 : fr (w.alloc (.cells #[.int .u8 97] 5 (1, 2))) (((w.alloc (.cells #[.int .u8 97] 5 (1, 2))).alloc (.cells #[.int .u8 98] 5 (1, 2))).alloc (.cells #[.int .i64 7, .int .i64 0, .int .i64 1, .slice (some ⟨w.heap.size, 0, none⟩) 1 1, .slice (some ⟨w.heap.size + 1, 0, none⟩) 1 1] 57)) := fr.alloc (fr.alloc fr.refl _) _
  have f2 : fr ((w.alloc (.cells #[.int .u8 97] 5 (1, 2))).alloc (.cells #[.int .u8 98] 5 (1, 2))) (((w.alloc (.cells #[.int .u8 97] 5 (1, 2))).alloc (.cells #[.int .u8 98] 5 (1, 2))).alloc (.cells #[.int .i64 7, .int .i64 0, .int .i64 1, .slice (some ⟨w.heap.size, 0, none⟩) 1 1, .slice (some ⟨w.heap.size + 1, 0, none⟩) 1 1] 57)) := fr.alloc fr.refl _
  refine ⟨_, _, [_], rfl, by simp, by simp, by simp, ⟨by simp, fun _ => ⟨_, 0, rfl, trivial, by simp, fun j u hu => ?_⟩⟩, .cons ⟨_, _, rfl, b1.below f1, b2.below f2⟩ .nil⟩
  rw [World.cell?_alloc_at _ _ _ _ (by simp), Nat.zero_add, ← hu]
  simp [t7]
set_option maxRecDepth 100000 in
set_option maxHeartbeats 4000000 in
theorem mwakes_any (w : World) (ht : TabW w) : Calls Tryz.prog 23 #[] w fun r w' => r = .returned (.bool true) ∧ fr w w' := by
  have kc : ∀ (W : World) (C : Array Value) (n c g : Nat), g = W.heap.size → (convert 35 35 (.slice (some ⟨g, 0, none⟩) n c)).run Tryz.prog (W.alloc (.cells C 5)) = .ok (.slice (some ⟨g, 0, none⟩) n c) (W.alloc (.cells C 5 (C.size, C.size + 1))) := fun W C n c g hg => hg ▸ Lib.run_convert_bytes_const (P := Tryz.prog) W 35 5 C n c Tryz.underlying35 Tryz.underlying5
  have KC := Lib.hid kc
  go_enter Tryz.func23, Tryz.ntmps23
  go_upto_region 1 with (fail)
  go_wp2_with (fail)
  have hta := t7_at w
  have hf0 : fr w (((w.alloc (.cells #[.int .u8 97] 5 (1, 2))).alloc (.cells #[.int .u8 98] 5 (1, 2))).alloc (.cells #[.int .i64 7, .int .i64 0, .int .i64 1, .slice (some ⟨w.heap.size, 0, none⟩) 1 1, .slice (some ⟨w.heap.size + 1, 0, none⟩) 1 1] 57)) := fr.alloc (fr.alloc (fr.alloc fr.refl _) _) _
  have HF0 := Lib.hid hf0
  refine (fold_any sortTb (fun _ => True) (.slice none 0 0) _ (.slice none 0 0) wv0 we0 _ ⟨none, 0, [], rfl, by simp [wv0], by simp, by simp [wv0], Row.nil _ _ _ _, .nil⟩ hta (IntsIn.nil _ _) (by simp [wv0, idsT]) (by simp [wv0]) (sorts_small (by decide) (by decide))).mono ?_
  rintro r w1 ⟨R, rfl, hR, f1⟩
  rw [if_pos (by decide)] at hR
  obtain ⟨x2, rfl, ho⟩ := hR
  obtain ⟨A2, c2, rfl⟩ : ∃ A c, x2 = .slice A 1 c := by
    obtain ⟨A, c, h⟩ := ho.form
    have : (sortTb (foldT wv0 we0)).length = 1 := (sortTb_perm _).length_eq
    exact ⟨A, c, by rw [h, this]⟩
  have e1 : foldE wv0 we0 = 0 := by decide
  have e2 : foldN wv0 we0 = 8 := by decide
  rw [e1, e2, show we0.lg = 0 from rfl, show we0.sq = 3 from rfl]
  have HF1 := Lib.hid (fr.step HF0.out f1)
  clear hta hf0 ho f1 e1 e2 kc
  go_upto_region 2 with (fail)
  have bz := heap_alloc_new w1 (.cells #[.slice A2 1 c2, .int .i64 0, .int .i64 3, .int .i64 8] 50)
  have fz : fr w1 (w1.alloc (.cells #[.slice A2 1 c2, .int .i64 0, .int .i64 3, .int .i64 8] 50)) := fr.alloc fr.refl _
  obtain ⟨z, hz⟩ : ∃ z, w1.heap.size = z := ⟨_, rfl⟩
  rw [hz] at bz ⊢
  generalize w1.alloc (.cells #[.slice A2 1 c2, .int .i64 0, .int .i64 3, .int .i64 8] 50) = w2 at bz fz ⊢
  have HF2 := Lib.hid (fr.step HF1.out fz)
  have HZ := Lib.hid bz
  have HZL := Lib.hid (Array.getElem?_eq_some_iff.1 bz).1
  have HT2 := Lib.hid (ht.below HF2.out)
  have HTW := Lib.hid ht.lt
  have HZW : Hid (w.heap.size ≤ z) := Lib.hid (by rw [← hz]; exact Below.size HF1.out)
  clear hz bz fz ht
  go_upto_region 3 with (first | (go_at_call 25; refine (calm13_any _).mono ?_; rintro r w3 ⟨rfl, f3⟩) | (go_at_call 15; refine (new_dk (fun _ => True) (-1) (-1) _ [] w3 (IntsIn.nil _ _) (by simp) w3.heap.size (Nat.le_refl _)).mono ?_; rintro r w4 ⟨p, rfl, ⟨F, hd, hF⟩, f4⟩))
  have HF4 := Lib.hid (fr.step (fr.step HF2.out f3) f4)
  have hs3 := Below.size f3
  have HD4 : Hid (DkC w4 F p 0 (fun _ => none)) := Lib.hid ⟨fun i hi => ⟨(hF i hi).2, Nat.lt_of_lt_of_le HT2.out.lt (Nat.le_trans hs3 (hF i hi).1)⟩, calm0, hd, calm0_ok, rfl⟩
  have HFZ : Hid (∀ i, F i → z < i) := Lib.hid fun i hi => Nat.lt_of_lt_of_le HZL.out (Nat.le_trans hs3 (hF i hi).1)
  have HT4 := Lib.hid (HT2.out.below (fr.step f3 f4))
  have HZ4 : Hid (w4.heap[z]? = _) := Lib.hid ((Below.block (fr.step f3 f4) z HZL.out).trans HZ.out)
  clear hs3 hd hF f3 f4
  go_upto_region 4 with (go_at_call 24; refine (mopen_fresh F p 0 _ w4 HD4.out HT4.out rfl (by decide)).mono ?_; rintro r w5 ⟨rfl, ⟨F1, hS1, hM1⟩, hO1⟩)
  have HMZ : Hid (z < w4.heap.size) := Lib.hid (Array.getElem?_eq_some_iff.1 HZ4.out).1
  have hF1 : ∀ i, F1 i → z < i := fun i hi => (hS1 i hi).elim (HFZ.out i) fun h => Nat.lt_of_lt_of_le HMZ.out h
  have HK5 : Hid (Only (fun i => z < i) w4 w5) := Lib.hid (hO1.mono HFZ.out)
  have htz : tabG < z := Nat.lt_of_lt_of_le HTW.out HZW.out
  have HTZ : Hid (∀ i, z < i → tabG < i) := Lib.hid fun i hi => Nat.lt_trans htz hi
  obtain ⟨M, hM⟩ : ∃ M, w4.heap.size = M := ⟨_, rfl⟩
  obtain ⟨D1, hD1⟩ : ∃ D1, begunD (fun _ => none) 0 (frB (recsM (splitL ver0))) = D1 := ⟨_, rfl⟩
  rw [hM, hD1] at hM1
  rw [hM] at HMZ ⊢
  have HM1 : Hid (ManC w5 F1 M p ver0 1 1000 D1) := Lib.hid hM1
  have HF1 := Lib.hid hF1
  have HT5 := Lib.hid (HT4.out.only HK5.out HTZ.out)
  clear hS1 hM1 hO1 hF1 htz hM hD1
  have HV5 : Hid (Calls Tryz.prog 29 #[.pointer (some ⟨M, 0, none⟩)] w5 fun r w' => ∃ x', r = .returned (.agg #[x', .int .i64 0, .int .i64 0, .int .i64 1]) ∧ fr w5 w') := Lib.hid (by
    refine (mver_calm HM1.out).mono ?_
    rintro r w' ⟨x', rfl, _, h⟩
    exact ⟨x', rfl, h⟩)
  have hfd : ∀ (x : Value) (a b c : Int) (wx : World), (Instr.field 50 (.agg #[x, .int .i64 a, .int .i64 b, .int .i64 c]) 3).run Tryz.prog wx = .ok (.int .i64 c) wx := fun _ _ _ _ _ => by kernel_rfl
  have g1 : foldE ver0 we1 = 0 := by decide
  have HA6 : Hid (∀ wx, fr w5 wx → Calls Tryz.prog 28 #[.pointer (some ⟨M, 0, none⟩), .agg #[.slice none 0 0, .slice none 0 0, .int .i64 2, .int .i64 5]] wx fun r w' => r = .returned (.int .i64 0) ∧ (∃ F2 D2, (∀ i, F2 i → z < i) ∧ ManC w' F2 M p wv1 1 1002 D2) ∧ Only (fun i => z < i) wx w') := Lib.hid fun wx hx => by
    refine (mapply_any (fun _ => True) F1 M p 1 1000 ver0 D1 (.slice none 0 0) (.slice none 0 0) we1 wx (HM1.out.below hx) (HT5.out.below hx) ⟨none, 0, [], rfl, by simp [we1], by simp, by simp [we1], Row.nil _ _ _ _, .nil⟩ (IntsIn.nil _ _) (sorts_nil 0) (fun t ht => by cases ht) (by decide) (by decide) (by decide)).mono ?_
    rintro r w' ⟨rfl, h1, h2⟩
    rw [if_pos g1, wv1_eq] at h1
    obtain ⟨F2, hS2, hM2⟩ := h1
    refine ⟨by rw [g1], ⟨F2, _, fun i hi => (hS2 i hi).elim (HF1.out i) fun h => ?_, hM2⟩, h2.mono fun i hi => hi.elim (HF1.out i) fun e => e ▸ HMZ.out⟩
    have := HMZ.out
    have := HM1.out.lt
    have := Below.size hx
    omega
  have g2 : foldE wv1 we2 = 2 := by decide
  have HA7 : Hid (∀ (F2 : Nat → Prop) (D2 : Nm → Option (List UInt8)) wx, ManC wx F2 M p wv1 1 1002 D2 → TabW wx → (∀ i, F2 i → z < i) → Calls Tryz.prog 28 #[.pointer (some ⟨M, 0, none⟩), .agg #[.slice none 0 0, .slice none 0 0, .int .i64 1, .int .i64 5]] wx fun r w' => r = .returned (.int .i64 2) ∧ ManC w' F2 M p wv1 1 1002 D2 ∧ Only (fun i => z < i) wx w') := Lib.hid fun F2 D2 wx hm htx hf2 => by
    refine (mapply_any (fun _ => True) F2 M p 1 1002 wv1 D2 (.slice none 0 0) (.slice none 0 0) we2 wx hm htx ⟨none, 0, [], rfl, by simp [we2], by simp, by simp [we2], Row.nil _ _ _ _, .nil⟩ (IntsIn.nil _ _) (sorts_nil 0) (fun t ht => by cases ht) (by decide) (by decide) (by decide)).mono ?_
    rintro r w' ⟨rfl, h1, h2⟩
    rw [if_neg (by rw [g2]; decide)] at h1
    exact ⟨by rw [g2], h1, h2.mono fun i hi => hi.elim (hf2 i) fun e => e ▸ HMZ.out⟩
  clear g1 g2
  go_upto_region 6 with (first
    | (go_at_call 29; refine HV5.out.mono ?_; rintro r w6 ⟨x6, rfl, f6⟩)
    | (go_at_call 28; refine (HA7.out F2 D2 _ hM2 ((HT5.out.below f6).only hO7 HTZ.out) hF2).mono ?_; rintro r w8 ⟨rfl, hM3, hO8⟩)
    | (go_at_call 28; refine (HA6.out _ f6).mono ?_; rintro r w7 ⟨rfl, ⟨F2, D2, hF2, hM2⟩, hO7⟩))
  have HK8 := Lib.hid (((HK5.out.trans (Only.of_below f6)).trans hO7).trans hO8)
  have HM8 := Lib.hid hM3
  have HF8 := Lib.hid hF2
  clear f6 hO7 hO8 hM2 hM3 hF2 hfd HV5 HA6 HA7
  have hz8 : z < w8.heap.size := Nat.lt_trans HMZ.out HM8.out.lt
  have HZ8 := Lib.hid hz8
  go_upto_region 7 with (go_at_call 24; refine (mopen_again F2 p 1 1002 1002 wv1 D2 w8 HM8.out.dk (HT4.out.only HK8.out HTZ.out) HM8.out.file (by decide) (by decide) (by decide) HM8.out.ver sorts_nil (by decide)).mono ?_; rintro r w9 ⟨rfl, ⟨F9, hS9, hM9⟩, hO9⟩)
  have HM9 := Lib.hid hM9
  have HK9 := Lib.hid (HK8.out.trans (hO9.mono HF8.out))
  clear hS9 hM9 hO9 hz8
  obtain ⟨M2, hM2⟩ : ∃ M2, w8.heap.size = M2 := ⟨_, rfl⟩
  rw [hM2] at HM9 ⊢
  have HV9 : Hid (∀ wx, fr w9 wx → Calls Tryz.prog 29 #[.pointer (some ⟨M2, 0, none⟩)] wx fun r w' => ∃ x', r = .returned (.agg #[x', .int .i64 2, .int .i64 5, .int .i64 1]) ∧ fr wx w') := Lib.hid fun wx hx => by
    refine (mver_calm (HM9.out.below hx)).mono ?_
    rintro r w' ⟨x', rfl, _, h⟩
    exact ⟨x', rfl, h⟩
  have HNM : Hid (∀ wx, fr w9 wx → Calls Tryz.prog 75 #[.int .i64 7] wx fun r w' => r = .returned (.string ⟨#[116, 48, 48, 48, 48, 48, 55, 46, 116, 98, 108]⟩) ∧ fr wx w') := Lib.hid fun wx hx => by
    refine (mname_any 7 wx ((HT4.out.only HK9.out HTZ.out).below hx) (by decide)).mono ?_
    rintro r w' ⟨rfl, h⟩
    exact ⟨by rfl, h⟩
  have hfd1 : ∀ (x : Value) (a b c : Int) (wx : World), (Instr.field 50 (.agg #[x, .int .i64 a, .int .i64 b, .int .i64 c]) 1).run Tryz.prog wx = .ok (.int .i64 a) wx := fun _ _ _ _ _ => by kernel_rfl
  have hfd2 : ∀ (x : Value) (a b c : Int) (wx : World), (Instr.field 50 (.agg #[x, .int .i64 a, .int .i64 b, .int .i64 c]) 2).run Tryz.prog wx = .ok (.int .i64 b) wx := fun _ _ _ _ _ => by kernel_rfl
  have hz9 : w9.heap[z]? = some (.cells #[.slice A2 1 c2, .int .i64 0, .int .i64 3, .int .i64 8] 50 (0, 0)) := (HK9.out.block z ((Array.getElem?_eq_some_iff.1 HZ4.out).1) (by omega)).trans HZ4.out
  have HF9 : Hid (fr w w9) := Lib.hid (HF4.out.trans (HK9.out.below (Below.size HF4.out) fun i h => by have := HZW.out; omega))
  have c0 := cell_of_row _ _ 0 _ _ _ hz9
  have c3 := cell_of_row _ _ 3 _ _ _ hz9
  clear hz9 hM2
  go_wp2_with (first
    | (go_at_call 75; refine (HNM.out _ (fr.step f10 f11)).mono ?_; rintro r w12 ⟨rfl, f12⟩)
    | (go_at_call 29; refine (HV9.out _ f10).mono ?_; rintro r w11 ⟨x11, rfl, f11⟩)
    | (go_at_call 29; refine (HV9.out _ fr.refl).mono ?_; rintro r w10 ⟨x10, rfl, f10⟩))
  go_ret
  exact ⟨rfl, fr.step (fr.step (fr.step HF9.out f10) f11) f12⟩
end Go.Proofs.YtjnolpfmchnnmaaGreatDoor
end
section
namespace Go.Proofs.YtjnolpfmchnnmaaGreatDoor
set_option maxRecDepth 100000
open Go.RowKit Go.ChangeShapes Go.WideShapes Go.Deep
theorem cells_u8 : Tryz.prog.cellsOf 5 = 1 := by kernel_rfl
theorem cells_i : Tryz.prog.cellsOf 3 = 1 := by kernel_rfl
theorem cells_is : Tryz.prog.cellsOf 26 = 1 := by kernel_rfl
theorem bytes_u8 : Tryz.prog.bytesOf 5 = 1 := by kernel_rfl
theorem bytes_i : Tryz.prog.bytesOf 3 = 8 := by kernel_rfl
theorem cell_spot {w : World} {a : Addr} {v : Value} (h : w.cell? a = some v) : a = ⟨a.block, a.off, none⟩ := by
  obtain ⟨b, o, s⟩ := a
  cases s with
  | none => rfl
  | some s =>
    unfold World.cell? at h
    split at h <;> simp at h
theorem add_block (a : Addr) (n : Nat) : (a.add n).block = a.block := by unfold Addr.add; split <;> rfl
theorem add_off (a : Addr) (n : Nat) : (a.add n).off = a.off + n := by
  unfold Addr.add
  split
  · rename_i h; rw [h]; rfl
  · rfl
theorem weightsAll_mem {H : Type} {P : Program} {e : TypeId} : ∀ {l : List (DataW H)} {d : DataW H}, d ∈ l → ∀ n ∈ d.weights P e, n ∈ DataW.weightsAll P e l
  | d' :: r, d, hd, n, hn => by
    simp only [DataW.weightsAll, List.mem_append]
    rcases List.mem_cons.1 hd with rfl | h
    · exact Or.inl hn
    · exact Or.inr (weightsAll_mem h n hn)
section
variable {H : Type} {enc : TypeId × Value → H} {w : World} {base : Nat} {held : Bool} {spare : Nat → Bool}
set_option maxRecDepth 100000 in
theorem open_byt {fuel : Nat} {v : Value} {x : DataW H × List MemPlace} (h : DataW.trod enc Tryz.prog w base spare held fuel 35 [v] = some x) (hw : ∀ n ∈ x.1.weights Tryz.prog 35, n ≤ reachBytes) :
    ∃ bs, Byt w (fun _ => True) v bs := by
  rcases open_ints Tryz.underlying35 Tryz.underlying5 cells_u8 h with ⟨hv, _⟩ | ⟨a, len, cap, zs, hv, _, hl, hm, hz, hx, hc, hwf⟩
  · obtain rfl : v = .slice none 0 0 := by simpa using hv
    exact ⟨[], Byt.nil _ _⟩
  · obtain rfl : v = .slice (some a) len cap := by simpa using hv
    have hlen : len ≤ zs.length := by rw [hz]; split <;> omega
    subst hx
    have hr := hw _ (by simp only [DataW.weights, Tryz.underlying35]; exact List.mem_cons_self)
    rw [bytes_u8] at hr
    simp only [lits, List.length_map, List.length_take, List.length_drop, reachBytes] at hr
    have e1 : ((zs.take len).map fun z => UInt8.ofNat z.toNat).length = len := by simp; omega
    unfold maxLen at hm
    refine ⟨(zs.take len).map fun z => UInt8.ofNat z.toNat, some a, cap, by rw [e1], by omega, by omega, by omega, ?_⟩
    rw [e1]
    refine ⟨by simp; omega, fun h0 => ?_⟩
    have hs := hc 0 (by omega)
    have hsp : a = ⟨a.block, a.off, none⟩ := cell_spot (a := a) (by simpa [Addr.add] using hs)
    refine ⟨a.block, a.off, by rw [← hsp], trivial, ?_, fun j u hu => ?_⟩
    · have := World.block_lt_of_cell? w _ hs
      simpa [Addr.add] using this
    · rw [List.getElem?_map, List.getElem?_map, List.getElem?_take] at hu
      split at hu
      · rename_i hj
        have hcj := hc j (by omega)
        rw [hsp, Addr.add_lit] at hcj
        rw [hcj]
        obtain ⟨z, hzj⟩ : ∃ z, zs[j]? = some z := ⟨_, List.getElem?_eq_getElem (by omega)⟩
        have hb := bounds_u8 (hwf z (List.mem_of_getElem? hzj))
        rw [hzj] at hu
        simp only [Option.map_some, Option.some.injEq] at hu
        rw [← hu, List.getD_eq_getElem?_getD, hzj]
        unfold bcell
        simp
        omega
      · simp at hu
set_option maxRecDepth 100000 in
theorem open_zs {fuel : Nat} {v : Value} {d : DataW H} {ps : List MemPlace} (h : DataW.trod enc Tryz.prog w base spare held fuel 26 [v] = some (d, ps)) (hw : ∀ n ∈ d.weights Tryz.prog 26, n ≤ reachBytes) :
    ∃ zs, IntsIn w (fun _ => True) v zs ∧ zs.length * 8 ≤ 140737488355328 ∧ ∀ z ∈ zs, (Lit.int .i64 z).wf = true := by
  rcases open_ints Tryz.underlying26 Tryz.underlying3 cells_i h with ⟨hv, _⟩ | ⟨a, len, cap, zs, hv, _, hl, hm, hz, hx, hc, hwf⟩
  · obtain rfl : v = .slice none 0 0 := by simpa using hv
    exact ⟨[], IntsIn.nil _ _, by simp, fun z hz => by cases hz⟩
  · obtain rfl : v = .slice (some a) len cap := by simpa using hv
    have hlen : len ≤ zs.length := by rw [hz]; split <;> omega
    simp only [Prod.mk.injEq] at hx
    obtain ⟨hx, _⟩ := hx
    subst hx
    have hr := hw _ (by simp only [DataW.weights, Tryz.underlying26]; exact List.mem_cons_self)
    rw [bytes_i] at hr
    simp only [lits, List.length_map, List.length_take, List.length_drop, reachBytes] at hr
    have e1 : (zs.take len).length = len := by simp; omega
    unfold maxLen at hm
    refine ⟨zs.take len, ⟨some a, cap, by rw [e1], by omega, by omega, ?_⟩, by omega, fun z hz => hwf z (List.mem_of_mem_take hz)⟩
    rw [e1]
    refine ⟨by simp; omega, fun h0 => ?_⟩
    have hs := hc 0 (by omega)
    have hsp : a = ⟨a.block, a.off, none⟩ := cell_spot (a := a) (by simpa [Addr.add] using hs)
    refine ⟨a.block, a.off, by rw [← hsp], trivial, ?_, fun j u hu => ?_⟩
    · have := World.block_lt_of_cell? w _ hs
      simpa [Addr.add] using this
    · rw [List.getElem?_map, List.getElem?_take] at hu
      split at hu
      · rename_i hj
        have hcj := hc j (by omega)
        rw [hsp, Addr.add_lit] at hcj
        rw [hcj]
        obtain ⟨z, hzj⟩ : ∃ z, zs[j]? = some z := ⟨_, List.getElem?_eq_getElem (by omega)⟩
        rw [hzj] at hu
        simp only [Option.map_some, Option.some.injEq] at hu
        rw [← hu, List.getD_eq_getElem?_getD, hzj]
        rfl
      · simp at hu
end
end Go.Proofs.YtjnolpfmchnnmaaGreatDoor
end
section
namespace Go.Proofs.YtjnolpfmchnnmaaGreatDoor
set_option maxRecDepth 100000
open Go.RowKit Go.ChangeShapes Go.WideShapes Go.Deep
theorem bulk_all {H : Type} (l : List (DataW H)) : Rows.uptoBulkAll l = (l.map Rows.uptoBulk).sum := by
  induction l with
  | nil => rfl
  | cons x r ih => simp only [Rows.uptoBulkAll, List.map_cons, List.sum_cons, ih]
section
variable {H : Type} {P : Program} {enc : TypeId × Value → H} {w : World} {base : Nat} {held : Bool} {spare : Nat → Bool}
theorem trod_struct5 {t : TypeId} {f0 f1 f2 f3 f4 : Field} {fuel : Nat} {cs : List Value} {x : DataW H × List MemPlace} (ht : P.underlying t = some (.struct #[f0, f1, f2, f3, f4])) (h : DataW.trod enc P w base spare held fuel t cs = some x) :
    ∃ y0 y1 y2 y3 y4 n, x = (.agg [y0.1, y1.1, y2.1, y3.1, y4.1], y0.2 ++ (y1.2 ++ (y2.2 ++ (y3.2 ++ y4.2)))) ∧ cs.length = P.cellsOf t ∧ DataW.trod enc P w base spare held n f0.type ((cs.drop f0.offset).take (P.cellsOf f0.type)) = some y0 ∧
      DataW.trod enc P w base spare held n f1.type ((cs.drop f1.offset).take (P.cellsOf f1.type)) = some y1 ∧ DataW.trod enc P w base spare held n f2.type ((cs.drop f2.offset).take (P.cellsOf f2.type)) = some y2 ∧
      DataW.trod enc P w base spare held n f3.type ((cs.drop f3.offset).take (P.cellsOf f3.type)) = some y3 ∧ DataW.trod enc P w base spare held n f4.type ((cs.drop f4.offset).take (P.cellsOf f4.type)) = some y4 := by
  obtain ⟨xs, n, _, rfl, hl, hlen, hf⟩ := DataW.trod_struct ht h
  match xs, hlen with
  | [y0, y1, y2, y3, y4], _ => exact ⟨y0, y1, y2, y3, y4, n, by simp, hl, by simpa using hf 0 f0 rfl, by simpa using hf 1 f1 rfl, by simpa using hf 2 f2 rfl, by simpa using hf 3 f3 rfl, by simpa using hf 4 f4 rfl⟩
end
section
variable {H : Type} {enc : TypeId × Value → H} {w : World} {base : Nat} {held : Bool} {spare : Nat → Bool}
set_option maxRecDepth 100000 in
theorem open_rows {α : Type} [Inhabited α] {R : Rd α} {k bytes : Nat} (hk0 : 0 < k) {t e : TypeId} (ht : Tryz.prog.underlying t = some (.slice e)) (hk : Tryz.prog.cellsOf e = k) (hby : Tryz.prog.bytesOf e = bytes) (m : α → Nat)
    (hel : ∀ (fuel : Nat) (cs : List Value) (x : DataW H × List MemPlace), DataW.trod enc Tryz.prog w base spare held fuel e cs = some x → (∀ n ∈ x.1.weights Tryz.prog e, n ≤ reachBytes) → ∃ a : α, R w (fun _ => True) a cs ∧ m a ≤ Rows.uptoBulk x.1)
    {fuel : Nat} {v : Value} {x : DataW H × List MemPlace} (h : DataW.trod enc Tryz.prog w base spare held fuel t [v] = some x) (hw : ∀ n ∈ x.1.weights Tryz.prog t, n ≤ reachBytes) :
    ∃ xs, Rows R k bytes w (fun _ => True) v xs ∧ (xs.map m).sum ≤ Rows.uptoBulk x.1 := by
  rcases open_slice ht h with ⟨hv, hx⟩ | ⟨a, len, cap, mm, n, D, Pl, hv, _, hl, hm, hmm, hx, hc⟩
  · obtain rfl : v = .slice none 0 0 := by simpa using hv
    exact ⟨[], ⟨none, 0, [], rfl, Nat.le_refl _, by omega, by simp, ⟨by simp, fun h => by simp at h⟩, .nil⟩, by simp⟩
  · obtain rfl : v = .slice (some a) len cap := by simpa using hv
    have hlm : len ≤ mm := by rw [hmm]; split <;> omega
    subst hx
    simp only [DataW.weights, ht, List.mem_cons, List.mem_append] at hw
    have hr := hw _ (.inl rfl)
    rw [hby] at hr
    simp only [List.length_map, List.length_range, reachBytes] at hr
    unfold maxLen at hm
    rw [hk] at hc
    have key : ∀ q, q ≤ len → ∃ (css : List (List Value)) (xs : List α), xs.length = q ∧ css.flatten.length = q * k ∧ All2 (R w fun _ => True) xs css ∧ (xs.map m).sum ≤ Rows.uptoBulkAll ((List.range q).map D) ∧ ∀ j u, css.flatten[j]? = some u → w.cell? (a.add j) = some u := by
      intro q
      induction q with
      | zero => exact fun _ => ⟨[], [], rfl, by simp, .nil, by simp, fun j u hu => by simp at hu⟩
      | succ q ih =>
        intro hq
        obtain ⟨css, xs, hxl, hfl, hall, hsum, hcc⟩ := ih (by omega)
        obtain ⟨cs', h1, h2⟩ := hc q (by omega)
        obtain ⟨y, hy, hym⟩ := hel _ _ _ h2 (fun n hn => hw n (.inr (.inl (weightsAll_mem (List.mem_map.2 ⟨q, List.mem_range.2 (by omega), rfl⟩) n hn))))
        obtain ⟨_, hl4, h4⟩ := World.cells?_some h1
        refine ⟨css ++ [cs'], xs ++ [y], by simp [hxl], by simp [hfl, hl4, Nat.succ_mul], hall.snoc hy, ?_, fun j u hu => ?_⟩
        · rw [bulk_all] at hsum ⊢
          rw [List.range_succ]
          simp only [List.map_append, List.sum_append, List.map_cons, List.map_nil, List.sum_cons, List.sum_nil]
          simp only [Nat.add_zero]
          exact Nat.add_le_add hsum hym
        · rw [List.flatten_append, List.getElem?_append] at hu
          split at hu
          · exact hcc j u hu
          · rename_i hj
            simp only [List.flatten_cons, List.flatten_nil, List.append_nil] at hu
            have hj : j - css.flatten.length < k := by rw [← hl4]; exact (List.getElem?_eq_some_iff.1 hu).1
            have h5 := h4 _ hj
            rw [hu] at h5
            have h6 := h4 0 (by omega)
            have hsp : a.add (q * k) = ⟨a.block, a.off + q * k, none⟩ := by
              have h7 := cell_spot (w := w) (a := (a.add (q * k))) (v := cs'[0]) (by
                rw [show (a.add (q * k)).add 0 = a.add (q * k) by simp [Addr.add]] at h6
                rw [h6, List.getElem?_eq_getElem (by omega)])
              rw [h7, add_block, add_off]
            rw [hsp, Addr.add_lit] at h5
            unfold Addr.add
            by_cases hj0 : j = 0
            · rw [if_pos hj0]
              subst hj0
              have hk0 : q * k = 0 := by omega
              have : a = ⟨a.block, a.off, none⟩ := by rw [hk0] at hsp; simpa [Addr.add] using hsp
              rw [this]
              rw [hk0] at h5
              simpa using h5
            · rw [if_neg hj0, ← h5]
              congr 2
              omega
    obtain ⟨css, xs, hxl, hfl, hall, hsum, hcc⟩ := key len (Nat.le_refl _)
    refine ⟨xs, ⟨some a, cap, css, by rw [hxl], by omega, by omega, ?_, ?_, hall⟩, ?_⟩
    · rw [hxl]
      have : len * bytes ≤ (len + (mm - len)) * bytes := Nat.mul_le_mul_right _ (by omega)
      omega
    · rw [hxl]
      refine ⟨hfl, fun h0 => ?_⟩
      have hpos : 0 < len * k := Nat.mul_pos h0 hk0
      obtain ⟨u0, hu0⟩ : ∃ u, css.flatten[0]? = some u := ⟨_, List.getElem?_eq_getElem (by omega)⟩
      have hs := hcc 0 u0 hu0
      have hsp : a = ⟨a.block, a.off, none⟩ := cell_spot (a := a) (by simpa [Addr.add] using hs)
      refine ⟨a.block, a.off, by rw [← hsp], trivial, ?_, fun j u hu => ?_⟩
      · have := World.block_lt_of_cell? w _ hs
        simpa [Addr.add] using this
      · have := hcc j u hu
        rwa [hsp, Addr.add_lit] at this
    · simp only [Rows.uptoBulk]
      omega
end
end Go.Proofs.YtjnolpfmchnnmaaGreatDoor
end
section
namespace Go.Proofs.YtjnolpfmchnnmaaGreatDoor
set_option maxRecDepth 100000
open Go.RowKit Go.ChangeShapes Go.WideShapes Go.Deep
instance : Inhabited (List UInt8) := ⟨[]⟩
section
variable {H : Type} {enc : TypeId × Value → H} {w : World} {base : Nat} {held : Bool} {spare : Nat → Bool}
end
end Go.Proofs.YtjnolpfmchnnmaaGreatDoor
end
section
namespace Go.Proofs.YtjnolpfmchnnmaaGreatDoor
set_option maxRecDepth 100000
open Go.RowKit Go.ChangeShapes Go.WideShapes Go.Deep
theorem cells_tb : Tryz.prog.cellsOf 57 = 5 := by kernel_rfl
theorem bytes_tb : Tryz.prog.bytesOf 57 = 72 := by kernel_rfl
theorem cells_tbs : Tryz.prog.cellsOf 43 = 1 := by kernel_rfl
theorem cells_bs8 : Tryz.prog.cellsOf 35 = 1 := by kernel_rfl
theorem cells_edt : Tryz.prog.cellsOf 45 = 4 := by kernel_rfl
instance : Inhabited Tbl := ⟨⟨0, 0, 0, [], []⟩⟩
section
variable {H : Type} {P : Program} {enc : TypeId × Value → H} {w : World} {base : Nat} {held : Bool} {spare : Nat → Bool}
theorem trod_struct4' {t : TypeId} {f0 f1 f2 f3 : Field} {fuel : Nat} {cs : List Value} {x : DataW H × List MemPlace} (ht : P.underlying t = some (.struct #[f0, f1, f2, f3])) (h : DataW.trod enc P w base spare held fuel t cs = some x) :
    ∃ y0 y1 y2 y3 n, x = (.agg [y0.1, y1.1, y2.1, y3.1], y0.2 ++ (y1.2 ++ (y2.2 ++ y3.2))) ∧ cs.length = P.cellsOf t ∧ DataW.trod enc P w base spare held n f0.type ((cs.drop f0.offset).take (P.cellsOf f0.type)) = some y0 ∧
      DataW.trod enc P w base spare held n f1.type ((cs.drop f1.offset).take (P.cellsOf f1.type)) = some y1 ∧ DataW.trod enc P w base spare held n f2.type ((cs.drop f2.offset).take (P.cellsOf f2.type)) = some y2 ∧
      DataW.trod enc P w base spare held n f3.type ((cs.drop f3.offset).take (P.cellsOf f3.type)) = some y3 := by
  obtain ⟨xs, n, _, rfl, hl, hlen, hf⟩ := DataW.trod_struct ht h
  match xs, hlen with
  | [y0, y1, y2, y3], _ => exact ⟨y0, y1, y2, y3, n, by simp, hl, by simpa using hf 0 f0 rfl, by simpa using hf 1 f1 rfl, by simpa using hf 2 f2 rfl, by simpa using hf 3 f3 rfl⟩
end
section
variable {H : Type} {enc : TypeId × Value → H} {w : World} {base : Nat} {held : Bool} {spare : Nat → Bool}
set_option maxRecDepth 100000 in
theorem open_tb (fuel : Nat) (cs : List Value) (x : DataW H × List MemPlace) (h : DataW.trod enc Tryz.prog w base spare held fuel 57 cs = some x) (hw : ∀ n ∈ x.1.weights Tryz.prog 57, n ≤ reachBytes) :
    ∃ t : Tbl, tbR w (fun _ => True) t cs ∧ 0 ≤ Rows.uptoBulk x.1 := by
  obtain ⟨y0, y1, y2, y3, y4, m, rfl, hl, h0, h1, h2, h3, h4⟩ := trod_struct5 Tryz.underlying57 h
  rw [cells_tb] at hl
  match cs, hl with
  | [c0, c1, c2, c3, c4], _ =>
    simp only [cells_bs8, cells_i, List.drop_zero, List.drop_succ_cons, List.take_succ_cons, List.take_zero] at h0 h1 h2 h3 h4
    simp only [DataW.weights, Tryz.underlying57, List.map_cons, List.map_nil, DataW.weightsEach, List.append_nil, List.mem_append] at hw
    obtain ⟨a, ha, _, _⟩ := DataW.trod_int Tryz.underlying3 h0
    obtain ⟨b, hb, _, _⟩ := DataW.trod_int Tryz.underlying3 h1
    obtain ⟨c, hc, _, _⟩ := DataW.trod_int Tryz.underlying3 h2
    obtain ⟨xs, hx⟩ := open_byt h3 (fun n hn => hw n (.inr (.inr (.inr (.inl hn)))))
    obtain ⟨ys, hy⟩ := open_byt h4 (fun n hn => hw n (.inr (.inr (.inr (.inr hn)))))
    obtain rfl : c0 = .int .i64 a := by simpa using ha
    obtain rfl : c1 = .int .i64 b := by simpa using hb
    obtain rfl : c2 = .int .i64 c := by simpa using hc
    exact ⟨⟨a, b, c, xs, ys⟩, ⟨c3, c4, rfl, hx, hy⟩, Nat.zero_le _⟩
set_option maxRecDepth 100000 in
theorem arg_edit {r : Reach} {b0 : Nat} {v : Value} {d : DataW H} {ps : List MemPlace} (hval : Value.okWide Tryz.prog w r b0 45 v) (hd : DataW.Trod enc Tryz.prog w base spare held 45 v d ps) (hw : ∀ n ∈ d.weights Tryz.prog 45, n ≤ reachBytes) :
    ∃ e : Edt, editV w (fun _ => True) v e ∧ e.drop.length * 8 ≤ 140737488355328 := by
  obtain ⟨n, h⟩ := hd
  have hv : ∃ cs, v = .agg cs := by
    unfold Value.okWide at hval
    rw [Tryz.underlying45] at hval
    obtain ⟨cs, e, _⟩ := hval
    exact ⟨cs, e⟩
  obtain ⟨cs, rfl⟩ := hv
  replace h : DataW.trod enc Tryz.prog w base spare held n 45 cs.toList = some (d, ps) := h
  obtain ⟨y0, y1, y2, y3, m, hx, hl, h0, h1, h2, h3⟩ := trod_struct4' Tryz.underlying45 h
  injection hx with hx1 hx2
  subst hx1
  rw [cells_edt] at hl
  obtain ⟨l⟩ := cs
  simp only at hl h0 h1 h2 h3 ⊢
  match l, hl with
  | [c0, c1, c2, c3], _ =>
    simp only [cells_tbs, cells_is, cells_i, List.drop_zero, List.drop_succ_cons, List.take_succ_cons, List.take_zero] at h0 h1 h2 h3
    simp only [DataW.weights, Tryz.underlying45, List.map_cons, List.map_nil, DataW.weightsEach, List.append_nil, List.mem_append] at hw
    obtain ⟨ts, ht, _⟩ := open_rows (R := tbR) (by decide) Tryz.underlying43 cells_tb bytes_tb (fun _ => 0) open_tb h0 (fun n hn => hw n (.inl hn))
    obtain ⟨zs, hz, hz8, _⟩ := open_zs h1 (fun n hn => hw n (.inr (.inl hn)))
    obtain ⟨b, hb, _, _⟩ := DataW.trod_int Tryz.underlying3 h2
    obtain ⟨c, hc, _, _⟩ := DataW.trod_int Tryz.underlying3 h3
    obtain rfl : c2 = .int .i64 b := by simpa using hb
    obtain rfl : c3 = .int .i64 c := by simpa using hc
    exact ⟨⟨ts, zs, b, c⟩, ⟨c0, c1, rfl, ht, hz⟩, hz8⟩
end
end Go.Proofs.YtjnolpfmchnnmaaGreatDoor
end
