/-
The arguments opened: slices of structs, with what the bound of the second form gives.
-/
import Derived.Test.YtjnolpfmchnnmaaGreatDoorQPSwUpto1
import Derived.Test.YtjnolpfmchnnmaaGreatDoorQPSwUpto0
import Derived.Deep.Slices
import Derived.Lib.SmallJoins
import Derived.OpenShut
import Derived.SizedLaws
import Derived.Test.YtjnolpfmchnnmaaGreatDoorRows
import Derived.Deep.Strs
section
namespace Go.Proofs.YtjnolpfmchnnmaaGreatDoor
set_option maxRecDepth 100000
open Go.RowKit Go.BigFrame Go.Sort Go.Shelf Go.Lib Go.Maps
attribute [local go_sem ↓] Go.wp_at_zero Go.wp_at_succ
theorem pk_ext {a b : Pk} (h1 : a.fs = b.fs) (h2 : a.ops = b.ops) (h3 : a.room = b.room) (h4 : a.keep = b.keep) (h5 : a.done = b.done) (h6 : a.bytes = b.bytes) (h7 : a.down = b.down) : a = b := by
  cases a; cases b; simp_all
theorem Only.later {F : Nat → Prop} {a b c : World} (h : Only F a b) (k : Only (orNew F a.heap.size) b c) : Only F a c :=
  ⟨k.os.trans h.os, k.tape.trans h.tape, k.output.trans h.output, Nat.le_trans h.size k.size, fun i hi hn => (k.block i (Nat.lt_of_lt_of_le hi h.size) fun e => e.elim hn (fun e => by omega)).trans (h.block i hi hn)⟩
theorem changeK_fs (k : Pk) : (changeK k).fs = k.fs ∧ (changeK k).bytes = k.bytes ∧ (changeK k).room = k.room := by unfold changeK; split <;> exact ⟨rfl, rfl, rfl⟩
theorem map_len (d : Dk) : d.pk.fs.length = d.ns.length := by show (d.ns.map Fd.fl).length = _; simp
theorem nameB_len {x : Nm} (h : nameB x = true) : x.length ≤ 32 := by
  unfold nameB at h
  simp at h
  exact h.1.2
theorem readyE_name {k : Pk} {x : Nm} (h : readyE k [x] = 0 ∨ readyE k [x] = 22) : nameB x = true := by
  unfold readyE at h
  split at h
  · rcases h with h | h <;> cases h
  · split at h
    · rcases h with h | h <;> cases h
    · rename_i h1
      simpa using h1
set_option maxRecDepth 100000 in
set_option maxHeartbeats 4000000 in
theorem append_go (F : Nat → Prop) (p : Nat) (k : Pk) (x : Nm) (S : Nat → Prop) (v : Value) (b : List UInt8) (w : World) (h : DiskP w F p k) (hv : Byt w S v b) (hS : ∀ i, S i → ¬ F i) (hx : x.length ≤ 140737488355328) (hd : 0 ≤ k.done) (hd' : k.done < 4611686018427387904)
    (hlen : ∀ f, findP x k.fs = some f → f.data.length + b.length ≤ 140737488355328) (hmany : k.fs.length < 9223372036854775807) (h0 : readyE k [x] = 0 ∨ readyE k [x] = 22) (hfull : fullP k b.length = false) (hc : changeE k = 0) :
    Calls Tryz.prog 35 #[.pointer (some ⟨p, 0, none⟩), .string ⟨x.toArray⟩, v] w fun r w' => r = .returned (.int .i64 0) ∧ DiskP w' (orNew F w.heap.size) p { changeK k with fs := appFs x b k.fs, bytes := wrap64 (k.bytes + b.length) } ∧ Only F w w' := by
  have hA : Below w.heap.size w (w.alloc (.cells #[.string ⟨x.toArray⟩] 9)) := (Below.refl _ _).alloc (Nat.le_refl _) _
  have HR := Lib.hid (ready_any F p k (fun _ => True) _ [x] _ (h.below hA) (strs1 w x) (fun y hy => by simp at hy; rw [hy]; exact hx))
  have HD := Lib.hid h
  have HA := Lib.hid hA
  have HV := Lib.hid hv
  have HN := Lib.hid (readyE_name h0)
  have HC := Lib.hid fun w1 (hw : DiskP w1 F p k) => change_any F p k w1 hw hd hd'
  have HLE := Lib.hid hlen
  obtain ⟨Av, cv, rfl⟩ := slice_form hv
  have hbl' := hv.len
  rw [hc] at HC
  obtain ⟨e, he⟩ : ∃ e, readyE k [x] = e := ⟨_, rfl⟩
  rw [he] at HR h0
  obtain ⟨mb0, kv0, d0, hv0, rfl⟩ := h
  have hfl : decide (0 ≤ d0.room) = false ∨ (decide (0 ≤ d0.room) = true ∧ ¬ wrap64 (d0.room - d0.bytes) < (b.length : Int)) := by
    have : (decide (0 ≤ d0.room) && decide (wrap64 (d0.room - d0.bytes) < (b.length : Int))) = false := hfull
    cases h1 : decide (0 ≤ d0.room) with
    | false => exact .inl rfl
    | true => rw [h1] at this; simp only [Bool.true_and, decide_eq_false_iff_not] at this; exact .inr ⟨rfl, this⟩
  have HFL := Lib.hid hfl
  have HV0 := Lib.hid hv0
  clear hA hv hlen hfull hfl he
  go_enter Tryz.func35, Tryz.ntmps35
  go_upto_region 2 with (go_at_call 90; refine HR.out.mono ?_; rintro r w1 ⟨rfl, hb1⟩)
  go_cut [20] (fun t wc => t = .bool false ∧ wc = w1)
  case first =>
    rcases h0 with rfl | rfl
    · go_wp2_with fail
      go_meet
      case rel => exact ⟨rfl, rfl⟩
    · go_wp2_with fail
      go_meet
      case rel => exact ⟨rfl, rfl⟩
  case rest =>
    obtain ⟨rfl, hwc⟩ := hcut
    obtain rfl : w1 = wc := hwc.symm
    have hv1 := (HV0.out.below HA.out).below hb1
    obtain ⟨_, _, x2, _, _, x5, _⟩ := hv1.cell
    have HB1 := Lib.hid (HA.out.trans (hb1.mono HA.out.size))
    clear hv1 hb1
    go_upto_region 5 with (fail)
    go_cut [39] (fun t wd => t = .bool false ∧ wd = w1)
    case first =>
      rcases HFL.out with g1 | ⟨g1, g2⟩
      · go_wp2_with fail
        go_meet
        case rel => exact ⟨rfl, rfl⟩
      · go_wp2_with fail
        go_meet
        case rel => exact ⟨congrArg Value.bool (decide_eq_false (by omega)), rfl⟩
    case rest =>
      obtain ⟨rfl, hwc⟩ := hcut
      obtain rfl : w1 = wc := hwc.symm
      clear x2 x5 HFL h0
      go_upto_region 10 with (go_at_call 91; refine (HC.out w1 (HD.out.below HB1.out)).mono ?_; rintro r w2 ⟨rfl, hd2, hb2⟩)
      obtain ⟨mb, kv, d, hv, hpk⟩ := hd2
      obtain ⟨x0, _⟩ := hv.cell
      have hlk := hv.look x hx
      obtain ⟨po, hpo⟩ : ∃ po, (findF x d.ns).map (fun f => (⟨f.blk, 0, none⟩ : Addr)) = po := ⟨_, rfl⟩
      unfold ptrF at hlk
      rw [hpo] at hlk
      have HPO := Lib.hid hpo
      have HB2 : Hid (Only F w w2) := Lib.hid ((Only.of_below HB1.out).trans hb2)
      have HV2 := Lib.hid hv
      have HPK := Lib.hid hpk
      have hns : d.ns.length < 9223372036854775807 := by
        rw [← map_len, hpk, (changeK_fs _).1]
        exact hmany
      clear hv hpk hb2 HD HC HV0 hmany hpo
      go_upto_if 52 with (fail)
      go_cut [10] (fun v wc => ∃ f d3, v = .pointer (some ⟨f.blk, 0, none⟩) ∧ DiskV wc (orNew F w.heap.size) p mb kv d3 ∧ findF x d3.ns = some f ∧ d3.pk = { d.pk with fs := if (findP x d.pk.fs).isSome = true then d.pk.fs else insP ⟨x, [], 0⟩ d.pk.fs } ∧ f.data.length + b.length ≤ 140737488355328 ∧ Only F w wc)
      case first =>
        cases hf : findF x d.ns with
        | some f =>
          have hpo := HPO.out
          rw [hf] at hpo
          obtain rfl : _ = po := hpo
          have HF := Lib.hid hf
          clear hf HPO
          go_wp2_with fail
          go_meet
          case rel =>
            have hff : findP x d.pk.fs = some f.fl := by rw [show findP x d.pk.fs = (findF x d.ns).map Fd.fl from findP_map x d.ns, HF.out]; rfl
            refine ⟨f, d, rfl, HV2.out.mono fun i hi _ => .inl hi, HF.out, by rw [if_pos (by rw [hff]; rfl)], ?_, HB2.out⟩
            rw [HPK.out, (changeK_fs _).1] at hff
            exact HLE.out _ hff
        | none =>
          have hpo := HPO.out
          rw [hf] at hpo
          obtain rfl : _ = po := hpo
          have HF := Lib.hid hf
          obtain ⟨D, hm, hD, hT⟩ := HV2.out.tidy
          have HM := Lib.hid (ownsMap_block hm (Below.heap_alloc w2 (.cells #[.slice none 0 0, .int .i64 0] 153) mb hm.lt))
          have HT := Lib.hid (And.intro hD hT)
          have y0 : (w2.alloc (.cells #[.slice none 0 0, .int .i64 0] 153)).cell? ⟨p, 0, none⟩ = some (.map (some mb)) := (World.cell?_of_block (a := ⟨p, 0, none⟩) (Below.heap_alloc w2 _ p HV2.out.ltP)).trans x0
          clear hf hm hD hT HPO
          go_wp2_with (at_mapUpdate; refine wpList_mapUpdate_own _ rfl _ _ _ 114 rfl 9 151 law_str Tryz.underlying114 ptrR mb d.ns.length D rfl HM.out (by unfold maxLen; omega) _ _ _ rfl rfl (key_str x hx) (.lit (.int .i64 w2.heap.size)) [] rfl ?_; intro w3 hown3 hgrow3; have HO3 := Lib.hid hown3; have HG3 := Lib.hid hgrow3; clear hown3 hgrow3)
          go_meet
          case rel =>
            have hal : Below w2.heap.size w2 (w2.alloc (.cells #[.slice none 0 0, .int .i64 0] 153)) := (Below.refl _ _).alloc (Nat.le_refl _) _
            have hva := HV2.out.below hal
            have hz2 : w.heap.size ≤ w2.heap.size := HB2.out.size
            have hfv : FileV (w2.alloc (.cells #[.slice none 0 0, .int .i64 0] 153)) (orNew F w.heap.size) ⟨x, [], 0, w2.heap.size, .slice none 0 0⟩ := ⟨heap_alloc_new w2 _, OwnB.nil _ _, .inr hz2⟩
            have hins := hva.ins (F' := orNew F w.heap.size) (fun i hi => .inl hi) (f := ⟨x, [], 0, w2.heap.size, .slice none 0 0⟩) HT.out.1 HT.out.2 HG3.out HO3.out hfv HN.out (fun g hg _ e => by have := (Array.getElem?_eq_some_iff.1 (HV2.out.files g hg).cells).1; simp only at e; omega) (fun g hg _ i hi => by simp [blkB] at hi)
            refine ⟨⟨x, [], 0, w2.heap.size, .slice none 0 0⟩, _, rfl, hins, by rw [find_ins, if_pos rfl], ?_, by simpa using hbl', ?_⟩
            · rw [if_neg (by rw [show findP x d.pk.fs = (findF x d.ns).map Fd.fl from findP_map x d.ns, HF.out]; simp)]
              show Dk.pk { d with ns := insF ⟨x, [], 0, w2.heap.size, .slice none 0 0⟩ d.ns } = _
              unfold Dk.pk
              rw [← insP_map]
              rfl
            · exact (HB2.out.alloc _).trans ((Only.of_grown HG3.out).mono fun i hi => by injection hi with hi; rw [← hi]; exact HV2.out.loM)
      case rest =>
        obtain ⟨f, d3, rfl, hv3, hf3, hpk3, hlen3, ho3⟩ := hcut
        obtain ⟨z0, _, _, _, _, z5, _⟩ := hv3.cell
        have zf := hv3.frozen
        obtain ⟨y0, y1, yf, hfv⟩ := hv3.file hf3
        obtain ⟨Af, cf, hfs⟩ := hfv.own.form
        rw [hfs] at y0
        have HV3 := Lib.hid hv3
        have HF3 := Lib.hid hf3
        have HPK3 := Lib.hid hpk3
        have HL3 := Lib.hid hlen3
        have HO3 := Lib.hid ho3
        have HFV := Lib.hid hfv
        have HFS := Lib.hid hfs
        have HOW : Hid (OwnB wc (orNew F w.heap.size) (.slice Af f.data.length cf) f.data) := Lib.hid (hfs ▸ hfv.own)
        have HSRC : Hid (Byt wc S (.slice Av b.length cv) b) := Lib.hid (HV.out.only ho3 fun i _ hi => hS i hi)
        clear hv3 hf3 hpk3 hlen3 ho3 hfv hfs hlk HPO x0
        go_wp2_with (at_builtin; refine wpList_append_ownB rfl _ _ rfl (orNew F w.heap.size) (orNew F w.heap.size) _ _ rfl rfl S f.data b HOW.out HSRC.out HL3.out (fun _ hi => hi) (.inr HO3.out.size) ?_; intro v' w4 hw4 hg4 hb4; obtain ⟨A4, c4, hv4⟩ := hw4.form; rw [List.length_append] at hv4; subst hv4; have hfb := (hg4.block f.blk (Array.getElem?_eq_some_iff.1 HFV.out.cells).1 (fun e => by obtain ⟨_, ⟨cs, hL⟩, _⟩ := HOW.out.blk e.symm; exact cells_ne HFV.out.cells hL (by decide) rfl)).trans HFV.out.cells; have t0 := cell_of_row w4 f.blk 0 _ _ _ hfb; have tf : ∀ i, w4.frozen? ⟨f.blk, i, none⟩ = false := fun i => frozen_of_row w4 _ i _ _ hfb; have hpb := (hg4.block p HV3.out.ltP (fun e => by obtain ⟨_, ⟨cs, hL⟩, _⟩ := HOW.out.blk e.symm; exact cells_ne HV3.out.head hL (by decide) rfl)).trans HV3.out.head; have u5 := cell_of_row w4 p 5 _ _ _ hpb; have uf : ∀ i, w4.frozen? ⟨p, i, none⟩ = false := fun i => frozen_of_row w4 _ i _ _ hpb; have hne : p ≠ f.blk := cells_ne HV3.out.head HFV.out.cells (by decide); have HW4 := Lib.hid hw4; have HG4 : Hid (wc.grownBy w4 (blkB (.slice Af f.data.length cf))) := Lib.hid hg4; have HB4 : Hid (blkB (.slice A4 (f.data.length + b.length) c4) = blkB (.slice Af f.data.length cf) ∨ blkB (.slice A4 (f.data.length + b.length) c4) = some wc.heap.size) := Lib.hid hb4; have HFB := Lib.hid hfb; clear hw4 hg4 hb4 hfb hpb; simp only [List.getElem?_toArray, List.getElem?_cons_zero, List.getElem?_cons_succ] at t0 u5)
        refine bodyPost_ret (v := .int .i64 0) (by simp [results, Tryz.results35, go_sem]) rfl ?_
        have hlo : ∀ i, blkB (.slice Af f.data.length cf) = some i → orNew F w.heap.size i := fun i hi => (HOW.out.blk hi).1
        have hup := HV3.out.upd (F' := orNew F w.heap.size) (fun _ h => h) (find_name HF3.out).2 (data' := f.data ++ b) (synced' := f.synced) (sl' := .slice A4 (f.data.length + b.length) c4) (w' := w4.setCell ⟨f.blk, 0, none⟩ (.slice A4 (f.data.length + b.length) c4))
          (((Only.of_grown HG4.out).mono fun i hi => .inr (by rw [HFS.out]; exact hi)).setCell (p := ⟨f.blk, 0, none⟩) (.inl rfl) _) (heap_setCell_same w4 f.blk 0 _ _ _ HFB.out)
          (HW4.out.kept fun g hg => heap_setCell_other w4 ⟨f.blk, 0, none⟩ g _ (by obtain ⟨_, ⟨cs, hL⟩, _⟩ := HW4.out.blk hg; exact cells_ne hL HFB.out (by decide)))
          (fun g hg => HB4.out.elim (fun e => .inl (by rw [HFS.out, ← e]; exact hg)) (fun e => .inr (by rw [e] at hg; injection hg with hg; omega)))
        have hst := hup.store 5 (.int .i64 (wrap64 (d3.bytes + b.length))) { d3 with ns := updF f.name (setF (f.data ++ b) f.synced (.slice A4 (f.data.length + b.length) c4)) d3.ns, bytes := wrap64 (d3.bytes + b.length) } kv rfl hup.keep rfl
        have e1 := congrArg Pk.fs (pk_upd HV3.out.sorted HF3.out (setF (f.data ++ b) f.synced (.slice A4 (f.data.length + b.length) c4)) (fun a => { a with data := a.data ++ b }) rfl)
        have h3 := HPK3.out
        rw [HPK.out] at h3
        refine ⟨rfl, ⟨_, _, _, hst, ?_⟩, HO3.out.later ((((Only.of_grown HG4.out).mono hlo).setCell (p := ⟨f.blk, 0, none⟩) HFV.out.lo _).setCell (p := ⟨p, 5, none⟩) HV3.out.loP _)⟩
        have o1 : d3.pk.ops = (changeK d0.pk).ops := by rw [h3]
        have o2 : d3.pk.room = (changeK d0.pk).room := by rw [h3]
        have o3 : d3.pk.keep = (changeK d0.pk).keep := by rw [h3]
        have o4 : d3.pk.done = (changeK d0.pk).done := by rw [h3]
        have o5 : d3.pk.bytes = (changeK d0.pk).bytes := by rw [h3]
        have o6 : d3.pk.down = (changeK d0.pk).down := by rw [h3]
        have o7 : d3.pk.fs = if (findP x (changeK d0.pk).fs).isSome = true then (changeK d0.pk).fs else insP ⟨x, [], 0⟩ (changeK d0.pk).fs := by rw [h3]
        refine pk_ext (e1.trans ?_) o1 o2 o3 o4 ?_ o6
        · show updP x _ d3.pk.fs = appFs x b d0.pk.fs
          rw [o7, (changeK_fs _).1]
          rfl
        · show wrap64 (d3.pk.bytes + b.length) = wrap64 (d0.pk.bytes + b.length)
          rw [o5, (changeK_fs _).2.1]
set_option maxRecDepth 100000 in
set_option maxHeartbeats 4000000 in
theorem append_any (F : Nat → Prop) (p : Nat) (k : Pk) (x : Nm) (S : Nat → Prop) (v : Value) (b : List UInt8) (w : World) (h : DiskP w F p k) (hv : Byt w S v b) (hS : ∀ i, S i → ¬ F i) (hx : x.length ≤ 140737488355328) (hd : 0 ≤ k.done) (hd' : k.done < 4611686018427387904)
    (hlen : ∀ f, findP x k.fs = some f → f.data.length + b.length ≤ 140737488355328) (hmany : k.fs.length < 9223372036854775807) :
    Calls Tryz.prog 35 #[.pointer (some ⟨p, 0, none⟩), .string ⟨x.toArray⟩, v] w fun r w' => r = .returned (.int .i64 (appendE k x b)) ∧ DiskP w' (orNew F w.heap.size) p (appendK k x b) ∧ Only F w w' := by
  have hA : Below w.heap.size w (w.alloc (.cells #[.string ⟨x.toArray⟩] 9)) := (Below.refl _ _).alloc (Nat.le_refl _) _
  have HR := Lib.hid (ready_any F p k (fun _ => True) _ [x] _ (h.below hA) (strs1 w x) (fun y hy => by simp at hy; rw [hy]; exact hx))
  have HA := Lib.hid hA
  have hmo : ∀ {w1 : World} {k1 : Pk}, DiskP w1 F p k1 → DiskP w1 (orNew F w.heap.size) p k1 := fun h => h.mono fun i hi _ => .inl hi
  by_cases h0 : readyE k [x] = 0 ∨ readyE k [x] = 22
  · rw [appendE, appendK, if_pos h0, if_pos h0]
    cases hf : fullP k b.length with
    | true =>
      rw [if_pos rfl, if_pos rfl]
      obtain ⟨Av, cv, rfl⟩ := slice_form hv
      have HD := Lib.hid h
      have HMO : Hid (DiskP w F p k) := HD
      obtain ⟨mb0, kv0, d0, hv0, rfl⟩ := h
      obtain ⟨g1, g2⟩ : decide (0 ≤ d0.room) = true ∧ wrap64 (d0.room - d0.bytes) < (b.length : Int) := by
        have : (decide (0 ≤ d0.room) && decide (wrap64 (d0.room - d0.bytes) < (b.length : Int))) = true := hf
        rw [Bool.and_eq_true] at this
        exact ⟨this.1, by simpa using this.2⟩
      have HV0 := Lib.hid hv0
      obtain ⟨e, he⟩ : ∃ e, readyE d0.pk [x] = e := ⟨_, rfl⟩
      rw [he] at HR h0
      have hle := hv.len
      clear hA hv he hv0 hf hlen hmany
      go_enter Tryz.func35, Tryz.ntmps35
      go_upto_region 2 with (go_at_call 90; refine HR.out.mono ?_; rintro r w1 ⟨rfl, hb1⟩)
      go_cut [20] (fun t wc => t = .bool false ∧ wc = w1)
      case first =>
        rcases h0 with rfl | rfl
        · go_wp2_with fail
          go_meet
          case rel => exact ⟨rfl, rfl⟩
        · go_wp2_with fail
          go_meet
          case rel => exact ⟨rfl, rfl⟩
      case rest =>
        obtain ⟨rfl, hwc⟩ := hcut
        obtain rfl : w1 = wc := hwc.symm
        have hv1 := (HV0.out.below HA.out).below hb1
        obtain ⟨_, _, x2, _, _, x5, _⟩ := hv1.cell
        have HB1 := Lib.hid (HA.out.trans (hb1.mono HA.out.size))
        clear hv1 hb1
        go_wp2
        refine bodyPost_ret (v := .int .i64 21) (by simp [results, Tryz.results35, go_sem]) rfl ?_
        exact ⟨rfl, hmo (HD.out.below HB1.out), Only.of_below HB1.out⟩
    | false =>
      rw [if_neg (by simp), if_neg (by simp)]
      by_cases hc : changeE k = 0
      · rw [if_neg (by rw [crashes_e hc]; simp), hc]
        exact append_go F p k x S v b w h hv hS hx hd hd' hlen hmany h0 hf hc
      · rw [if_pos (crashes_n hc)]
        have HC := Lib.hid fun w1 (hw : DiskP w1 F p k) => change_any F p k w1 hw hd hd'
        have hne : (changeE k == 0) = false := by simpa using hc
        obtain ⟨Av, cv, rfl⟩ := slice_form hv
        have HD := Lib.hid h
        obtain ⟨e2, he2⟩ : ∃ e, changeE k = e := ⟨_, rfl⟩
        rw [he2] at HC hne hc ⊢
        obtain ⟨mb0, kv0, d0, hv0, rfl⟩ := h
        have hfl : decide (0 ≤ d0.room) = false ∨ (decide (0 ≤ d0.room) = true ∧ ¬ wrap64 (d0.room - d0.bytes) < (b.length : Int)) := by
          have : (decide (0 ≤ d0.room) && decide (wrap64 (d0.room - d0.bytes) < (b.length : Int))) = false := hf
          cases h1 : decide (0 ≤ d0.room) with
          | false => exact .inl rfl
          | true => rw [h1] at this; simp only [Bool.true_and, decide_eq_false_iff_not] at this; exact .inr ⟨rfl, this⟩
        have HFL := Lib.hid hfl
        have HV0 := Lib.hid hv0
        obtain ⟨e, he⟩ : ∃ e, readyE d0.pk [x] = e := ⟨_, rfl⟩
        rw [he] at HR h0
        have hle := hv.len
        clear hA hv he hv0 hf hlen hmany hfl he2
        go_enter Tryz.func35, Tryz.ntmps35
        go_upto_region 2 with (go_at_call 90; refine HR.out.mono ?_; rintro r w1 ⟨rfl, hb1⟩)
        go_cut [20] (fun t wc => t = .bool false ∧ wc = w1)
        case first =>
          rcases h0 with rfl | rfl
          · go_wp2_with fail
            go_meet
            case rel => exact ⟨rfl, rfl⟩
          · go_wp2_with fail
            go_meet
            case rel => exact ⟨rfl, rfl⟩
        case rest =>
          obtain ⟨rfl, hwc⟩ := hcut
          obtain rfl : w1 = wc := hwc.symm
          have hv1 := (HV0.out.below HA.out).below hb1
          obtain ⟨_, _, x2, _, _, x5, _⟩ := hv1.cell
          have HB1 := Lib.hid (HA.out.trans (hb1.mono HA.out.size))
          clear hv1 hb1
          go_upto_region 5 with (fail)
          go_cut [39] (fun t wd => t = .bool false ∧ wd = w1)
          case first =>
            rcases HFL.out with g1 | ⟨g1, g2⟩
            · go_wp2_with fail
              go_meet
              case rel => exact ⟨rfl, rfl⟩
            · go_wp2_with fail
              go_meet
              case rel => exact ⟨congrArg Value.bool (decide_eq_false (by omega)), rfl⟩
          case rest =>
            obtain ⟨rfl, hwc⟩ := hcut
            obtain rfl : w1 = wc := hwc.symm
            go_wp2_with (go_at_call 91; refine (HC.out w1 (HD.out.below HB1.out)).mono ?_; rintro r w2 ⟨rfl, hd2, hb2⟩)
            refine bodyPost_ret (v := .int .i64 e2) (by simp [results, Tryz.results35, go_sem]) rfl ?_
            exact ⟨rfl, hmo hd2, (Only.of_below HB1.out).trans hb2⟩
  · rw [appendE, appendK, if_neg h0, if_neg h0]
    have hne : (readyE k [x] == 0) = false := by simpa using fun e => h0 (.inl e)
    have hne2 : (readyE k [x] == 22) = false := by simpa using fun e => h0 (.inr e)
    have HD := Lib.hid h
    obtain ⟨e, he⟩ : ∃ e, readyE k [x] = e := ⟨_, rfl⟩
    rw [he] at HR hne hne2 h0 ⊢
    have n1 : (e != 0) = true := by simpa using fun h => h0 (.inl h)
    have n2 : (e != 22) = true := by simpa using fun h => h0 (.inr h)
    clear h hA he h0 hv hlen
    go_enter Tryz.func35, Tryz.ntmps35
    go_wp2_with (go_at_call 90; refine HR.out.mono ?_; rintro r w1 ⟨rfl, hb1⟩)
    refine bodyPost_ret (v := .int .i64 e) (by simp [results, Tryz.results35, go_sem]) rfl ?_
    exact ⟨rfl, hmo ((HD.out.below HA.out).below hb1), Only.of_below (HA.out.trans (hb1.mono HA.out.size))⟩
end Go.Proofs.YtjnolpfmchnnmaaGreatDoor
end
section
namespace Go.Proofs.YtjnolpfmchnnmaaGreatDoor
set_option maxRecDepth 100000
open Go.RowKit Go.BigFrame Go.Sort Go.Shelf Go.Lib Go.Maps
attribute [local go_sem ↓] Go.wp_at_zero Go.wp_at_succ
theorem FileV.mapped {w w' : World} {F : Nat → Prop} {mb n : Nat} {D : DataW Unit} {f : Fd} (h : FileV w F f) (hm : w.ownsMap Tryz.prog 9 ptrR mb n D) (hg : w.grownBy w' (some mb)) : FileV w' F f := by
  have keep : ∀ (i : Nat) (cs : Array Value) (t : TypeId), w.heap[i]? = some (.cells cs t (0, 0)) → w'.heap[i]? = w.heap[i]? := fun i cs t hi => hg.block i (Array.getElem?_eq_some_iff.1 hi).1 fun e => by
    injection e with e
    exact map_ne hi hm e
  exact ⟨(keep _ _ _ h.cells).trans h.cells, h.own.kept fun g hg => by obtain ⟨_, ⟨cs, hc⟩, _⟩ := h.own.blk hg; exact keep g cs _ hc, h.lo⟩
theorem Only.mapped {F : Nat → Prop} {a w w' : World} {mb : Nat} (h : Only F a w) (hg : w.grownBy w' (some mb)) (hm : F mb) : Only F a w' :=
  h.trans ((Only.of_grown hg).mono fun i hi => by injection hi with hi; rw [← hi]; exact hm)
theorem lenP_some {d : Dk} {x : Nm} {f : Fd} (h : findF x d.ns = some f) : lenP d.pk x = f.data.length := by
  unfold lenP
  rw [show findP x d.pk.fs = (findF x d.ns).map Fd.fl from findP_map x d.ns, h]
  rfl
theorem changed_len {d : Dk} {k : Pk} (hd : d.pk = changeK k) (x : Nm) : lenP k x = lenP d.pk x := by
  unfold lenP
  rw [hd, (changeK_fs k).1]
set_option maxRecDepth 100000 in
set_option maxHeartbeats 4000000 in
theorem delete_any (F : Nat → Prop) (p : Nat) (k : Pk) (x : Nm) (w : World) (h : DiskP w F p k) (hx : x.length ≤ 140737488355328) (hd : 0 ≤ k.done) (hd' : k.done < 4611686018427387904) :
    Calls Tryz.prog 62 #[.pointer (some ⟨p, 0, none⟩), .string ⟨x.toArray⟩] w fun r w' => r = .returned (.int .i64 (syncE k x)) ∧ DiskP w' F p (deleteK k x) ∧ Only F w w' := by
  have hA : Below w.heap.size w (w.alloc (.cells #[.string ⟨x.toArray⟩] 9)) := (Below.refl _ _).alloc (Nat.le_refl _) _
  have HR := Lib.hid (ready_any F p k (fun _ => True) _ [x] _ (h.below hA) (strs1 w x) (fun y hy => by simp at hy; rw [hy]; exact hx))
  have HD := Lib.hid h
  have HA := Lib.hid hA
  by_cases h0 : readyE k [x] = 0
  · have e1 : syncE k x = changeE k := by rw [syncE, if_pos h0]
    have e2 : deleteK k x = if crashes k = true then changeK k else { changeK k with fs := delP x k.fs, bytes := wrap64 (k.bytes - lenP k x) } := by rw [deleteK, if_pos h0]
    rw [e1, e2]
    rw [h0] at HR
    have HC := Lib.hid fun w1 (hw : DiskP w1 F p k) => change_any F p k w1 hw hd hd'
    have H0 := Lib.hid h0
    clear e1 e2 h hA
    by_cases hc : changeE k = 0
    · rw [if_neg (by rw [crashes_e hc]; simp)]
      rw [hc] at HC ⊢
      clear hc h0
      go_enter Tryz.func62, Tryz.ntmps62
      go_upto_region 7 with (first
        | (go_at_call 90; refine HR.out.mono ?_; rintro r w1 ⟨rfl, hb1⟩)
        | (go_at_call 91; refine (HC.out w1 ((HD.out.below HA.out).below hb1)).mono ?_; rintro r w2 ⟨rfl, hd2, hb2⟩))
      obtain ⟨mb0, kv0, d0, hv0, rfl⟩ := HD.out
      obtain ⟨_, _, f0, hf0⟩ := readyE_zero H0.out
      obtain ⟨mb, kv, d, hv, hpk⟩ := hd2
      obtain ⟨f, hf, hfl⟩ := changed_find hpk hf0
      obtain ⟨x0, _, _, _, _, x5, _⟩ := hv.cell
      have xf := hv.frozen
      have hlk := hv.look x hx
      have hlk' := (hv.below (Below.refl _ _).drew).look x hx
      rw [hf] at hlk hlk'
      obtain ⟨y0, y1, yf, hfv⟩ := hv.file hf
      obtain ⟨Af, cf, hfs⟩ := hfv.own.form
      rw [hfs] at y0
      unfold ptrF at hlk hlk'
      have HV := Lib.hid hv
      have HF := Lib.hid hf
      have HPK := Lib.hid hpk
      have HBB : Hid (Only F w w2) := Lib.hid ((Only.of_below (HA.out.trans (hb1.mono HA.out.size))).trans hb2)
      clear hv hfv hf hpk hfs hf0 hfl hv0 hb1 hb2
      go_region
      have hst := (HV.out.store 5 (.int .i64 (wrap64 (d.bytes - f.data.length))) { d with bytes := wrap64 (d.bytes - f.data.length) } kv rfl HV.out.keep rfl).below (Below.refl _ _).drew
      have hon : Only F w (w2.setCell ⟨p, 5, none⟩ (.int .i64 (wrap64 (d.bytes - f.data.length)))).drew := (HBB.out.setCell (p := ⟨p, 5, none⟩) HV.out.loP _).drew
      obtain ⟨W, hW⟩ : ∃ W, W = (w2.setCell ⟨p, 5, none⟩ (.int .i64 (wrap64 (d.bytes - f.data.length)))).drew := ⟨_, rfl⟩
      rw [← hW] at hst hon ⊢
      obtain ⟨u0, _⟩ := hst.cell
      obtain ⟨D, hm, hD, hT⟩ := hst.tidy
      have HST := Lib.hid hst
      have HON := Lib.hid hon
      have HM := Lib.hid hm
      have HT := Lib.hid (And.intro hD hT)
      clear hst hon hm hD hT hW x0 x5 xf hlk hlk' y0 y1 yf
      go_wp2_with (at_delete; refine wpList_delete_own _ rfl _ _ 114 9 rfl 151 law_str Tryz.underlying114 ptrR mb d.ns.length D rfl HM.out _ _ rfl (key_str x hx) ?_; intro w4 hown4 hturn4; have HO4 := Lib.hid hown4; have HT4 := Lib.hid hturn4; clear hown4 hturn4)
      refine bodyPost_ret (v := .int .i64 0) (by simp [results, Tryz.results62, go_sem]) rfl ?_
      have hdel := HST.out.del HT.out.1 HT.out.2 HT4.out.grown HO4.out
      have h3 := HPK.out
      have o1 : d.pk.ops = (changeK d0.pk).ops := by rw [h3]
      have o2 : d.pk.room = (changeK d0.pk).room := by rw [h3]
      have o3 : d.pk.keep = (changeK d0.pk).keep := by rw [h3]
      have o4 : d.pk.done = (changeK d0.pk).done := by rw [h3]
      have o6 : d.pk.down = (changeK d0.pk).down := by rw [h3]
      refine ⟨rfl, ⟨_, _, _, hdel, pk_ext ?_ o1 o2 o3 o4 ?_ o6⟩, HON.out.trans ((Only.of_grown HT4.out.grown).mono fun i hi => by injection hi with hi; rw [← hi]; exact HV.out.loM)⟩
      · show (delF x d.ns).map Fd.fl = delP x d0.pk.fs
        rw [← delP_map, ← (changeK_fs d0.pk).1, ← h3]
        rfl
      · show wrap64 (d.bytes - f.data.length) = wrap64 (d0.pk.bytes - lenP d0.pk x)
        rw [changed_len h3 x, lenP_some HF.out, ← (changeK_fs d0.pk).2.1, ← h3]
        rfl
    · have hcr := crashes_n hc
      rw [if_pos hcr]
      have hne : (changeE k == 0) = false := by simpa using hc
      obtain ⟨e, he⟩ : ∃ e, changeE k = e := ⟨_, rfl⟩
      rw [he] at HC hne hc ⊢
      clear h0 hcr he
      go_enter Tryz.func62, Tryz.ntmps62
      go_wp2_with (first
        | (go_at_call 90; refine HR.out.mono ?_; rintro r w1 ⟨rfl, hb1⟩)
        | (go_at_call 91; refine (HC.out w1 ((HD.out.below HA.out).below hb1)).mono ?_; rintro r w2 ⟨rfl, hd2, hb2⟩))
      refine bodyPost_ret (v := .int .i64 e) (by simp [results, Tryz.results62, go_sem]) rfl ?_
      exact ⟨rfl, hd2, (Only.of_below (HA.out.trans (hb1.mono HA.out.size))).trans hb2⟩
  · have e1 : syncE k x = readyE k [x] := by rw [syncE, if_neg h0]
    have e2 : deleteK k x = k := by rw [deleteK, if_neg h0]
    rw [e1, e2]
    have hne : (readyE k [x] == 0) = false := by simpa using h0
    obtain ⟨e, he⟩ : ∃ e, readyE k [x] = e := ⟨_, rfl⟩
    rw [he] at HR hne h0 ⊢
    clear e1 e2 h hA he
    go_enter Tryz.func62, Tryz.ntmps62
    go_wp2_with (go_at_call 90; refine HR.out.mono ?_; rintro r w1 ⟨rfl, hb1⟩)
    refine bodyPost_ret (v := .int .i64 e) (by simp [results, Tryz.results62, go_sem]) rfl ?_
    exact ⟨rfl, (HD.out.below HA.out).below hb1, Only.of_below (HA.out.trans (hb1.mono HA.out.size))⟩
set_option maxRecDepth 100000 in
set_option maxHeartbeats 4000000 in
theorem rename_any (F : Nat → Prop) (p : Nat) (k : Pk) (x y : Nm) (w : World) (h : DiskP w F p k) (hx : x.length ≤ 140737488355328) (hy : y.length ≤ 140737488355328) (hd : 0 ≤ k.done) (hd' : k.done < 4611686018427387904) (hmany : k.fs.length < 9223372036854775807) :
    Calls Tryz.prog 72 #[.pointer (some ⟨p, 0, none⟩), .string ⟨x.toArray⟩, .string ⟨y.toArray⟩] w fun r w' => r = .returned (.int .i64 (renameE k x y)) ∧ DiskP w' F p (renameK k x y) ∧ Only F w w' := by
  have hA : Below w.heap.size w (w.alloc (.cells #[.string ⟨x.toArray⟩, .string ⟨y.toArray⟩] 9)) := (Below.refl _ _).alloc (Nat.le_refl _) _
  have HR := Lib.hid (ready_any F p k (fun _ => True) _ [x, y] _ (h.below hA) (strs2 w x y) (fun z hz => by simp at hz; rcases hz with rfl | rfl <;> assumption))
  have HD := Lib.hid h
  have HA := Lib.hid hA
  by_cases h0 : readyE k [x, y] = 0
  · rw [renameE, renameK, if_pos h0, if_pos h0]
    rw [h0] at HR
    have HC := Lib.hid fun w1 (hw : DiskP w1 F p k) => change_any F p k w1 hw hd hd'
    have H0 := Lib.hid h0
    clear h hA
    by_cases hc : changeE k = 0
    · rw [if_neg (by rw [crashes_e hc]; simp)]
      rw [hc] at HC ⊢
      clear hc h0
      by_cases hxy : x = y
      · rw [if_pos hxy]
        subst hxy
        go_enter Tryz.func72, Tryz.ntmps72
        go_wp2_with (first
          | (go_at_call 90; refine HR.out.mono ?_; rintro r w1 ⟨rfl, hb1⟩)
          | (go_at_call 91; refine (HC.out w1 ((HD.out.below HA.out).below hb1)).mono ?_; rintro r w2 ⟨rfl, hd2, hb2⟩))
        refine bodyPost_ret (v := .int .i64 0) (by simp [results, Tryz.results72, go_sem]) rfl ?_
        exact ⟨rfl, hd2, (Only.of_below (HA.out.trans (hb1.mono HA.out.size))).trans hb2⟩
      · rw [if_neg hxy]
        have hxb : (x == y) = false := by simpa using hxy
        obtain ⟨K', hK'⟩ : ∃ K', K' = ({ changeK k with fs := renFs x y k.fs, bytes := if (findP y (delP x k.fs)).isSome = true then wrap64 (k.bytes - lenP k y) else k.bytes } : Pk) := ⟨_, rfl⟩
        rw [← hK']
        have HK := Lib.hid hK'
        clear hK'
        go_enter Tryz.func72, Tryz.ntmps72
        go_upto_region 7 with (first
          | (go_at_call 90; refine HR.out.mono ?_; rintro r w1 ⟨rfl, hb1⟩)
          | (go_at_call 91; refine (HC.out w1 ((HD.out.below HA.out).below hb1)).mono ?_; rintro r w2 ⟨rfl, hd2, hb2⟩))
        obtain ⟨mb0, kv0, d0, hv0, rfl⟩ := HD.out
        obtain ⟨_, hnm, f0, hf0⟩ := readyE_zero H0.out
        have HNY : Hid (nameB y = true) := Lib.hid (by simp at hnm; exact hnm.2)
        obtain ⟨mb, kv, d, hv, hpk⟩ := hd2
        obtain ⟨f, hf, hfl⟩ := changed_find hpk hf0
        obtain ⟨x0, _⟩ := hv.cell
        have hlk := hv.look x hx
        rw [hf] at hlk
        unfold ptrF at hlk
        have hns : d.ns.length < 9223372036854775807 := by
          rw [← map_len, hpk, (changeK_fs _).1]
          exact hmany
        have HV := Lib.hid hv
        have HF := Lib.hid hf
        have HPK := Lib.hid hpk
        have HBB : Hid (Only F w w2) := Lib.hid ((Only.of_below (HA.out.trans (hb1.mono HA.out.size))).trans hb2)
        obtain ⟨D, hm, hD, hT⟩ := hv.tidy
        have HM := Lib.hid hm
        have HT := Lib.hid (And.intro hD hT)
        obtain ⟨po, hpo⟩ : ∃ po, (findF y (delF x d.ns)).map (fun f => (⟨f.blk, 0, none⟩ : Addr)) = po := ⟨_, rfl⟩
        have HPO := Lib.hid hpo
        clear hv hf hpk hf0 hfl hv0 hb1 hb2 hm hD hT hpo hnm
        go_upto_if 47 with (at_delete; refine wpList_delete_own _ rfl _ _ 114 9 rfl 151 law_str Tryz.underlying114 ptrR mb d.ns.length D rfl HM.out _ _ rfl (key_str x hx) ?_; intro w4 hown4 hturn4; have hdel := HV.out.del HT.out.1 HT.out.2 hturn4.grown hown4; have v0 := hdel.cell.1; have hlk2 := hdel.look y hy; unfold ptrF at hlk2; dsimp only at hlk2; rw [HPO.out] at hlk2; have HDEL := Lib.hid hdel; have HON : Hid (Only F w w4) := Lib.hid (HBB.out.mapped hturn4.grown HV.out.loM); have HFV : Hid (FileV w4 F f) := Lib.hid ((HV.out.files f (find_name HF.out).2).mapped HM.out hturn4.grown); clear hown4 hturn4 hdel)
        go_cut [59] (fun _ wc => ∃ d5, DiskV wc F p mb kv d5 ∧ d5.ns = delF x d.ns ∧ d5.pk = { d.pk with fs := delP x d.pk.fs, bytes := if (findP y (delP x d.pk.fs)).isSome = true then wrap64 (d.pk.bytes - lenP d.pk y) else d.pk.bytes } ∧ FileV wc F f ∧ Only F w wc)
        case first =>
          have hfp : findP y (delP x d.pk.fs) = (findF y (delF x d.ns)).map Fd.fl := by
            rw [show d.pk.fs = d.ns.map Fd.fl from rfl, delP_map, findP_map]
          cases hfy : findF y (delF x d.ns) with
          | none =>
            have hpo := HPO.out
            rw [hfy] at hpo hfp
            obtain rfl : _ = po := hpo
            have HFP := Lib.hid hfp
            clear hfy hfp HPO
            go_wp2_with fail
            go_meet
            case rel =>
              refine ⟨_, HDEL.out, rfl, ?_, HFV.out, HON.out⟩
              rw [HFP.out]
              exact pk_ext (delP_map x d.ns).symm rfl rfl rfl rfl rfl rfl
          | some g =>
            have hpo := HPO.out
            rw [hfy] at hpo hfp
            obtain rfl : _ = po := hpo
            have HFP := Lib.hid hfp
            obtain ⟨y0, y1, yf, hgv⟩ := HDEL.out.file hfy
            obtain ⟨Ag, cg, hgs⟩ := hgv.own.form
            rw [hgs] at y0
            obtain ⟨_, _, _, _, _, x5, _⟩ := HDEL.out.cell
            have xf := HDEL.out.frozen
            have HGN : Hid (findF y d.ns = some g) := Lib.hid (by rw [find_del, if_neg (fun e => hxy e.symm)] at hfy; exact hfy)
            clear hfy hfp hgv hgs HPO
            go_wp2
            go_region
            go_wp2_with fail
            go_meet
            case rel =>
              have hst := (HDEL.out.store 5 (.int .i64 (wrap64 (d.bytes - g.data.length))) { d with ns := delF x d.ns, bytes := wrap64 (d.bytes - g.data.length) } kv rfl HDEL.out.keep rfl).below (Below.refl _ _).drew
              refine ⟨_, hst, rfl, ?_, ?_, (HON.out.setCell (p := ⟨p, 5, none⟩) HV.out.loP _).drew⟩
              · rw [HFP.out]
                refine pk_ext (delP_map x d.ns).symm rfl rfl rfl rfl ?_ rfl
                show wrap64 (d.bytes - g.data.length) = wrap64 (d.bytes - lenP d.pk y)
                rw [lenP_some HGN.out]
              · have h0 := HFV.out
                have hk : ∀ (i : Nat) (cs : Array Value) (t : TypeId), w4.heap[i]? = some (.cells cs t (0, 0)) → t ≠ 116 → (w4.setCell ⟨p, 5, none⟩ (.int .i64 (wrap64 (d.bytes - g.data.length)))).drew.heap[i]? = w4.heap[i]? := fun i cs t hi ht => heap_setCell_other w4 ⟨p, 5, none⟩ i _ (cells_ne hi HDEL.out.head ht)
                exact ⟨(hk _ _ _ h0.cells (by decide)).trans h0.cells, h0.own.kept fun g hg => by obtain ⟨_, ⟨cs, hc⟩, _⟩ := h0.own.blk hg; exact hk g cs _ hc (by decide), h0.lo⟩
        case rest =>
          obtain ⟨d5, hv5, hns5, hpk5, hfv5, hon5⟩ := hcut
          obtain ⟨u0, _⟩ := hv5.cell
          obtain ⟨D5, hm5, hD5, hT5⟩ := hv5.tidy
          have HV5 := Lib.hid hv5
          have HM5 := Lib.hid hm5
          have HT5 := Lib.hid (And.intro hD5 hT5)
          have HNS5 := Lib.hid hns5
          have HPK5 := Lib.hid hpk5
          have HFV5 := Lib.hid hfv5
          have HON5 := Lib.hid hon5
          have hlen5 : d5.ns.length < maxLen := by
            rw [hns5]
            have := (sub_del x d.ns).length_le
            unfold maxLen
            omega
          clear hv5 hm5 hD5 hT5 hns5 hpk5 hfv5 hon5 x0 hlk HDEL HON HFV HM HT HPO
          go_wp2_with (at_mapUpdate; refine wpList_mapUpdate_own _ rfl _ _ _ 114 rfl 9 151 law_str Tryz.underlying114 ptrR mb d5.ns.length D5 rfl HM5.out hlen5 _ _ _ rfl rfl (key_str y hy) (.lit (.int .i64 f.blk)) [] rfl ?_; intro w6 hown6 hgrow6; have HO6 := Lib.hid hown6; have HG6 := Lib.hid hgrow6; clear hown6 hgrow6)
          refine bodyPost_ret (v := .int .i64 0) (by simp [results, Tryz.results72, go_sem]) rfl ?_
          have hdist : ∀ g ∈ d5.ns, f.blk ≠ g.blk ∧ ∀ i, blkB f.sl = some i → blkB g.sl ≠ some i := fun g hg => by
            rw [HNS5.out] at hg
            obtain ⟨h1, h2⟩ := mem_del.1 hg
            exact pair_mem (R := fun a b : Fd => a.blk ≠ b.blk ∧ ∀ g, blkB a.sl = some g → blkB b.sl ≠ some g) (fun e => ⟨e.1.symm, fun g h1 h2 => e.2 g h2 h1⟩) (HV.out.blks.and HV.out.sls) (find_name HF.out).2 h1 (fun e => h2 (by rw [← e]; exact (find_name HF.out).1))
          have hins := HV5.out.ins (F' := F) (fun _ h => h) (f := ⟨y, f.data, f.synced, f.blk, f.sl⟩) HT5.out.1 HT5.out.2 HG6.out HO6.out ⟨HFV5.out.cells, HFV5.out.own, HFV5.out.lo⟩ HNY.out (fun g hg _ => (hdist g hg).1) (fun g hg _ => (hdist g hg).2)
          have h3 := HPK.out
          have h5 := HPK5.out
          rw [h3] at h5
          have o1 : d5.pk.ops = (changeK d0.pk).ops := by rw [h5]
          have o2 : d5.pk.room = (changeK d0.pk).room := by rw [h5]
          have o3 : d5.pk.keep = (changeK d0.pk).keep := by rw [h5]
          have o4 : d5.pk.done = (changeK d0.pk).done := by rw [h5]
          have o5 : d5.pk.bytes = if (findP y (delP x (changeK d0.pk).fs)).isSome = true then wrap64 ((changeK d0.pk).bytes - lenP (changeK d0.pk) y) else (changeK d0.pk).bytes := by rw [h5]
          have o6 : d5.pk.down = (changeK d0.pk).down := by rw [h5]
          have o7 : d5.pk.fs = delP x (changeK d0.pk).fs := by rw [h5]
          have hK := HK.out
          refine ⟨rfl, ⟨_, _, _, hins, ?_⟩, HON5.out.mapped HG6.out HV.out.loM⟩
          rw [hK]
          refine pk_ext ?_ o1 o2 o3 o4 ?_ o6
          · show (insF ⟨y, f.data, f.synced, f.blk, f.sl⟩ d5.ns).map Fd.fl = renFs x y d0.pk.fs
            rw [← insP_map, show d5.ns.map Fd.fl = d5.pk.fs from rfl, o7, (changeK_fs _).1]
            unfold renFs
            rw [← (changeK_fs d0.pk).1, ← h3, show findP x d.pk.fs = (findF x d.ns).map Fd.fl from findP_map x d.ns, HF.out]
            rfl
          · show d5.pk.bytes = _
            rw [o5, (changeK_fs _).1, (changeK_fs _).2.1]
            have : lenP (changeK d0.pk) y = lenP d0.pk y := by unfold lenP; rw [(changeK_fs _).1]
            rw [this]
    · have hcr := crashes_n hc
      rw [if_pos hcr]
      have hne : (changeE k == 0) = false := by simpa using hc
      obtain ⟨e, he⟩ : ∃ e, changeE k = e := ⟨_, rfl⟩
      rw [he] at HC hne hc ⊢
      have n1 : (e != 0) = true := by simpa using hc
      clear h0 hcr he
      go_enter Tryz.func72, Tryz.ntmps72
      go_wp2_with (first
        | (go_at_call 90; refine HR.out.mono ?_; rintro r w1 ⟨rfl, hb1⟩)
        | (go_at_call 91; refine (HC.out w1 ((HD.out.below HA.out).below hb1)).mono ?_; rintro r w2 ⟨rfl, hd2, hb2⟩))
      refine bodyPost_ret (v := .int .i64 e) (by simp [results, Tryz.results72, go_sem]) rfl ?_
      exact ⟨rfl, hd2, (Only.of_below (HA.out.trans (hb1.mono HA.out.size))).trans hb2⟩
  · rw [renameE, renameK, if_neg h0, if_neg h0]
    have hne : (readyE k [x, y] == 0) = false := by simpa using h0
    obtain ⟨e, he⟩ : ∃ e, readyE k [x, y] = e := ⟨_, rfl⟩
    rw [he] at HR hne h0 ⊢
    clear h hA he
    go_enter Tryz.func72, Tryz.ntmps72
    go_wp2_with (go_at_call 90; refine HR.out.mono ?_; rintro r w1 ⟨rfl, hb1⟩)
    refine bodyPost_ret (v := .int .i64 e) (by simp [results, Tryz.results72, go_sem]) rfl ?_
    exact ⟨rfl, (HD.out.below HA.out).below hb1, Only.of_below (HA.out.trans (hb1.mono HA.out.size))⟩
end Go.Proofs.YtjnolpfmchnnmaaGreatDoor
end
section
namespace Go.Proofs.YtjnolpfmchnnmaaGreatDoor
set_option maxRecDepth 100000
open Go.RowKit Go.BigFrame Go.Sort Go.Shelf Go.Lib Go.Maps
attribute [local go_sem ↓] Go.wp_at_zero Go.wp_at_succ
theorem IntsIn.only' {w w' : World} {T S : Nat → Prop} {v : Value} {xs : List Int} (h : IntsIn w T v xs) (ho : Only S w w') (hd : ∀ i, T i → ¬ S i) : IntsIn w' T v xs := by
  obtain ⟨A, c, e, h1, h2, h3⟩ := h
  exact ⟨A, c, e, h1, h2, h3.only ho fun i _ hi => hd i hi⟩
end Go.Proofs.YtjnolpfmchnnmaaGreatDoor
end
section
namespace Go.Proofs.YtjnolpfmchnnmaaGreatDoor
set_option maxRecDepth 100000
open Go.RowKit Go.BigFrame Go.Sort Go.Shelf Go.Lib Go.Maps
attribute [local go_sem ↓] Go.wp_at_zero Go.wp_at_succ
theorem step_append_own_at {w : World} {ops : Array Oper} {o : Oper} {a : Act} {K : Act → World → Prop} {Q : Exit → Act → World → Prop} {E : Prop} (hgd : o.guard = none) (s x : Operand) (t : TypeId)
    (ho : o.op = .call { callee := .builtin .append, args := #[s, x], argTypes := #[t, t] })
    (base : Nat) (e : TypeId) (i : TypeInfo) (z : Value) (size bytes : Nat) (ht : Tryz.prog.underlying t = some (.slice e)) (hi : Tryz.prog.info? e = some i) (hz : i.zero = some z)
    (hsize : i.size = size) (hby : i.bytes = bytes) (hzs : z.cells.size = size) (hsz : 0 < size)
    (v : Value) (n : Nat) (xs : List Value) (hs : a.eval s = v) (hown : w.ownsRow base e size v n xs)
    (ad : Addr) (m c : Nat) (news : List Value) (hx : a.eval x = .slice (some ad) m c) (hl : news.length = m * size) (hnews : ∀ j u, news[j]? = some u → w.cell? (ad.add j) = some u) (h1 : ∀ u ∈ news, u.oneCell' = true)
    (h63 : n + m ≤ maxLen) (hbytes : (n + m) * bytes ≤ 140737488355328) (hbase : base ≤ w.heap.size)
    (hK : ∀ v' w', w'.ownsRow base e size v' (n + m) (xs ++ news) → w.grownBy w' v.ownBlock → (v'.ownBlock = v.ownBlock ∨ v'.ownBlock = some w.heap.size) → K (a.put o.dst v') w') :
    if Region.wanted o (yielded ops a.tmps) = true then Oper.wp Tryz.prog o a w K Q else E := by
  have hw : Region.wanted o (yielded ops a.tmps) = true := by simp [Region.wanted, hgd]
  rw [if_pos hw]
  obtain ⟨v', w', hr, h2, h3, h4, h5⟩ := run_append_own_at (P := Tryz.prog) w base t o.type e i z size bytes ht hi hz hsize hby hzs hsz v n xs hown ad m c news hl hnews h1 h63 hbytes hbase
  unfold Oper.wp execOp
  simp only [ho, resolve, invoke, builtin, Sem.run_bind, Sem.run_pure, Result.andThen_ok, List.map_toArray, List.map_cons, List.map_nil, hs, hx, hr]
  exact hK v' w' h2 h3 h5
theorem fr.byt {W w' : World} (h : fr W w') {S : Nat → Prop} {v : Value} {bs : List UInt8} (hv : Byt W S v bs) : Byt w' S v bs := hv.below h
theorem fr.two {W w' : World} {p q : Addr} {a b : Value} (h : fr W w') (c0 : W.cell? p = some a) (c3 : W.cell? q = some b) : w'.cell? p = some a ∧ w'.cell? q = some b := ⟨h.cell c0, h.cell c3⟩
theorem fr.grown {W w' w2 : World} {B i j : Nat} {a b : Value} {g : Option Nat} (h : fr W w') (c0 : W.cell? ⟨B, i, none⟩ = some a) (c3 : W.cell? ⟨B, j, none⟩ = some b) (hg : w'.grownBy w2 g) (hne : ¬ g = some B) :
    w2.cell? ⟨B, i, none⟩ = some a ∧ w2.cell? ⟨B, j, none⟩ = some b := by
  have hlt : B < W.heap.size := World.block_lt_of_cell? W _ c0
  have hb := hg.block B (by have := Below.size h; omega) (fun e => hne e.symm)
  exact ⟨(World.cell?_of_block (w' := w2) (w := w') (a := ⟨B, i, none⟩) hb).trans (h.cell c0), (World.cell?_of_block (w' := w2) (w := w') (a := ⟨B, j, none⟩) hb).trans (h.cell c3)⟩
theorem cells_new (w : World) (cs : List Value) (t : TypeId) : ∀ j u, cs[j]? = some u → (w.alloc (.cells cs.toArray t)).cell? ((⟨w.heap.size, 0, none⟩ : Addr).add j) = some u := by
  intro j u hu
  rw [Addr.add_lit, World.cell?_alloc_at _ _ _ _ rfl]
  simpa using hu
theorem Row.monoLt {w : World} {S S' : Nat → Prop} {A : Option Addr} {n sz : Nat} {xs : List Value} (h : Row w S A n sz xs) (hS : ∀ i, i < w.heap.size → S i → S' i) : Row w S' A n sz xs :=
  ⟨h.1, fun hn => by obtain ⟨b, o, e, h1, hb, hc⟩ := h.2 hn; exact ⟨b, o, e, hS b hb h1, hb, hc⟩⟩
theorem Row.push {w w2 : World} {S S' : Nat → Prop} {v' row : Value} {A : Option Addr} {n sz : Nat} {xs : List Value} (h : Row w S A n sz xs) (hg : w.grownBy w2 row.ownBlock) (hat : v'.ownBlock = row.ownBlock ∨ v'.ownBlock = some w.heap.size)
    (hne : ∀ i, i < w.heap.size → S i → row.ownBlock ≠ some i) (hS : ∀ i, i < w.heap.size → S i → v'.ownBlock ≠ some i → S' i) : Row w2 S' A n sz xs := by
  have h1 : Row w (fun i => S i ∧ i < w.heap.size) A n sz xs := h.monoLt fun i hi hs => ⟨hs, hi⟩
  have h2 : Row w2 (fun i => S i ∧ i < w.heap.size) A n sz xs := h1.only (S := fun i => row.ownBlock = some i) ⟨hg.os, hg.tape, hg.output, hg.size, fun i hi hS => hg.block i hi (fun e => hS e.symm)⟩ (fun i hi hT => hne i hi hT.1)
  refine h2.mono fun i hi => hS i hi.2 hi.1 (fun e => ?_)
  rcases hat with h | h
  · exact hne i hi.2 hi.1 (h ▸ e)
  · rw [h] at e
    injection e with e
    omega
abbrev Rd (α : Type) := World → (Nat → Prop) → α → List Value → Prop
structure Fine {α : Type} (R : Rd α) (k : Nat) : Prop where
  len : ∀ {w S x cs}, R w S x cs → cs.length = k
  keep : ∀ {w w' : World} {S S' : Nat → Prop} {x cs}, R w S x cs → (∀ A n sz xs, Row w S A n sz xs → Row w' S' A n sz xs) → R w' S' x cs
inductive All2 {α β : Type} (P : α → β → Prop) : List α → List β → Prop
  | nil : All2 P [] []
  | cons {a b l m} : P a b → All2 P l m → All2 P (a :: l) (b :: m)
theorem All2.imp {α β : Type} {P Q : α → β → Prop} (h : ∀ a b, P a b → Q a b) {l : List α} {m : List β} (hl : All2 P l m) : All2 Q l m := by
  induction hl with
  | nil => exact .nil
  | cons h1 _ ih => exact .cons (h _ _ h1) ih
theorem All2.snoc {α β : Type} {P : α → β → Prop} {l : List α} {m : List β} {a : α} {b : β} (hl : All2 P l m) (h : P a b) : All2 P (l ++ [a]) (m ++ [b]) := by
  induction hl with
  | nil => exact .cons h .nil
  | cons h1 _ ih => exact .cons h1 ih
theorem All2.length {α β : Type} {P : α → β → Prop} {l : List α} {m : List β} (hl : All2 P l m) : l.length = m.length := by
  induction hl with
  | nil => rfl
  | cons _ _ ih => simp [ih]
theorem All2.at_ {α β : Type} {P : α → β → Prop} {l : List α} {m : List β} (hl : All2 P l m) {i : Nat} {a : α} (hi : l[i]? = some a) : ∃ b, m[i]? = some b ∧ P a b := by
  induction hl generalizing i with
  | nil => simp at hi
  | cons h1 _ ih =>
    cases i with
    | zero => simp at hi; subst hi; exact ⟨_, rfl, h1⟩
    | succ i => exact ih (by simpa using hi)
theorem flat_at {k : Nat} {css : List (List Value)} (h : ∀ cs ∈ css, cs.length = k) {i j : Nat} {cs : List Value} {u : Value} (hi : css[i]? = some cs) (hj : cs[j]? = some u) : css.flatten[i * k + j]? = some u := by
  induction css generalizing i with
  | nil => simp at hi
  | cons a l ih =>
    have ha : a.length = k := h a List.mem_cons_self
    rw [List.flatten_cons]
    cases i with
    | zero =>
      simp at hi
      subst hi
      rw [Nat.zero_mul, Nat.zero_add, List.getElem?_append_left (List.getElem?_eq_some_iff.1 hj).1]
      exact hj
    | succ i =>
      rw [List.getElem?_append_right (by rw [ha, Nat.succ_mul]; omega), ha, show (i + 1) * k + j - k = i * k + j by rw [Nat.succ_mul]; omega]
      exact ih (fun cs hc => h cs (List.mem_cons_of_mem _ hc)) (by simpa using hi)
section
variable {α : Type} {R : Rd α} {k bytes : Nat}
def Rows (R : Rd α) (k bytes : Nat) (w : World) (S : Nat → Prop) (v : Value) (xs : List α) : Prop :=
  ∃ A c css, v = .slice A xs.length c ∧ xs.length ≤ c ∧ c ≤ 9223372036854775807 ∧ xs.length * bytes ≤ 140737488355328 ∧ Row w S A xs.length k css.flatten ∧ All2 (R w S) xs css
theorem Rows.keep (hR : Fine R k) {w w' : World} {S S' : Nat → Prop} {v : Value} {xs : List α} (h : Rows R k bytes w S v xs) (hk : ∀ A n sz ys, Row w S A n sz ys → Row w' S' A n sz ys) : Rows R k bytes w' S' v xs := by
  obtain ⟨A, c, css, e, h1, h2, h3, h4, h5⟩ := h
  exact ⟨A, c, css, e, h1, h2, h3, hk _ _ _ _ h4, h5.imp fun _ _ hx => hR.keep hx hk⟩
theorem Rows.below (hR : Fine R k) {w w' : World} {S : Nat → Prop} {v : Value} {xs : List α} (h : Rows R k bytes w S v xs) (hb : Below w.heap.size w w') : Rows R k bytes w' S v xs := h.keep hR fun _ _ _ _ hr => hr.below hb
theorem Rows.only (hR : Fine R k) {w w' : World} {T S : Nat → Prop} {v : Value} {xs : List α} (h : Rows R k bytes w T v xs) (ho : Only S w w') (hd : ∀ i, T i → ¬ S i) : Rows R k bytes w' T v xs := h.keep hR fun _ _ _ _ hr => hr.only ho fun i _ hi => hd i hi
theorem Rows.mono (hR : Fine R k) {w : World} {S S' : Nat → Prop} {v : Value} {xs : List α} (h : Rows R k bytes w S v xs) (hS : ∀ i, S i → S' i) : Rows R k bytes w S' v xs := h.keep hR fun _ _ _ _ hr => hr.mono hS
theorem Rows.lt (hR : Fine R k) {w : World} {S : Nat → Prop} {v : Value} {xs : List α} (h : Rows R k bytes w S v xs) : Rows R k bytes w (fun i => i < w.heap.size) v xs := h.keep hR fun _ _ _ _ hr => hr.monoLt fun _ hi _ => hi
theorem Rows.form {w : World} {S : Nat → Prop} {v : Value} {xs : List α} (h : Rows R k bytes w S v xs) : ∃ A c, v = .slice A xs.length c := by
  obtain ⟨A, c, _, e, _⟩ := h
  exact ⟨A, c, e⟩
theorem Rows.at_ (hR : Fine R k) {w : World} {S : Nat → Prop} {A : Option Addr} {n c : Nat} {xs : List α} (h : Rows R k bytes w S (.slice A n c) xs) {i : Nat} {x : α} (hi : xs[i]? = some x) :
    ∃ b o cs, A = some ⟨b, o, Option.none⟩ ∧ b < w.heap.size ∧ S b ∧ R w S x cs ∧ ∀ j u, cs[j]? = some u → w.cell? ⟨b, o + (i * k + j), Option.none⟩ = some u := by
  obtain ⟨A', c', css, hE, h1, h2, h3, h4, h5⟩ := h
  injection hE with e1 e2 e3
  subst e1
  have hlt := (List.getElem?_eq_some_iff.1 hi).1
  obtain ⟨b, o, rfl, hS, hb, hc⟩ := h4.2 (by omega)
  obtain ⟨cs, hcs, hx⟩ := h5.at_ hi
  have hall : ∀ cs ∈ css, cs.length = k := fun cs hm => by
    obtain ⟨j, hj⟩ := List.getElem?_of_mem hm
    have hjl : j < xs.length := by rw [h5.length]; exact (List.getElem?_eq_some_iff.1 hj).1
    obtain ⟨cs', h', hx'⟩ := h5.at_ (List.getElem?_eq_getElem hjl)
    rw [hj] at h'
    injection h' with h'
    subst h'
    exact hR.len hx'
  exact ⟨b, o, cs, rfl, hb, hS, hx, fun j u hu => hc _ _ (flat_at hall hcs hu)⟩
def freshL (w : World) (base : Nat) (v : Value) (i : Nat) : Prop := base ≤ i ∧ v.ownBlock ≠ some i ∧ Loose w i
def OwnRows (R : Rd α) (k : Nat) (t : TypeId) (w : World) (base : Nat) (v : Value) (xs : List α) : Prop := ∃ css, w.ownsRow base t k v xs.length css.flatten ∧ All2 (R w (freshL w base v)) xs css
theorem OwnRows.nil (t : TypeId) (w : World) (base : Nat) : OwnRows R k t w base (.slice none 0 0) [] := ⟨[], World.ownsRow_nil _ _ _ _, .nil⟩
theorem OwnRows.below (hR : Fine R k) {t : TypeId} {w w' : World} {base : Nat} {v : Value} {xs : List α} (h : OwnRows R k t w base v xs) (hb : Below w.heap.size w w') : OwnRows R k t w' base v xs := by
  obtain ⟨css, h1, h2⟩ := h
  exact ⟨css, own_below h1 hb, h2.imp fun _ _ hx => hR.keep hx fun _ _ _ _ hr => (hr.below hb).mono fun i hi => ⟨hi.1, hi.2.1, hi.2.2.below hb⟩⟩
theorem OwnRows.push (hR : Fine R k) {base : Nat} {wr w1 w2 : World} {v v' : Value} {xs : List α} {css : List (List Value)} {x : α} {cs : List Value} {o : Obj} {t : TypeId} (hown : wr.ownsRow base t k v xs.length css.flatten) (hys : All2 (R wr (freshL wr base v)) xs css) (hb1 : Below wr.heap.size wr w1)
    (hx : R w1 (fun i => wr.heap.size ≤ i ∧ Loose w1 i) x cs) (hbase : base ≤ wr.heap.size) (hg : (w1.alloc o).grownBy w2 v.ownBlock) (hat : v'.ownBlock = v.ownBlock ∨ v'.ownBlock = some (w1.alloc o).heap.size) (hown' : w2.ownsRow base t k v' (xs.length + 1) (css.flatten ++ cs)) :
    OwnRows R k t w2 base v' (xs ++ [x]) := by
  have hal : Below w1.heap.size w1 (w1.alloc o) := (Below.refl _ _).alloc (Nat.le_refl _) _
  have hz := hb1.size
  refine ⟨css ++ [cs], by rw [List.length_append, List.flatten_append]; simpa using hown', (hys.imp fun _ _ hy => hR.keep hy fun A n sz ys hr => ?_).snoc (hR.keep hx fun A n sz ys hr => ?_)⟩
  · exact ((hr.below hb1).below hal).push (row := v) hg hat (fun i _ hs => hs.2.1) (fun i _ hs hn => ⟨hs.1, hn, ((hs.2.2.below hb1).alloc o).grown hg hs.2.1⟩)
  · exact (hr.below hal).push (row := v) hg hat (fun i _ hs e => by have := hown.lt i e; omega) (fun i _ hs hn => ⟨by omega, hn, (hs.2.alloc o).grown hg (fun e => by have := hown.lt i e; omega)⟩)
theorem OwnRows.rows (hR : Fine R k) {t : TypeId} {w : World} {base : Nat} {v : Value} {xs : List α} (h : OwnRows R k t w base v xs) (hl : xs.length * bytes ≤ 140737488355328) : Rows R k bytes w (fun i => base ≤ i ∧ i < w.heap.size) v xs := by
  obtain ⟨css, h1, h2⟩ := h
  have h3 : All2 (R w (fun i => base ≤ i ∧ i < w.heap.size)) xs css := h2.imp fun _ _ hx => hR.keep hx fun _ _ _ _ hr => hr.mono fun i hi => ⟨hi.1, hi.2.2.lt⟩
  rcases h1.2 with ⟨rfl, h0⟩ | ⟨g, cap, cur, rfl, hbg, hh, hcap, hcm, _⟩
  · have : xs = [] := List.eq_nil_of_length_eq_zero h0
    subst this
    exact ⟨none, 0, css, rfl, Nat.le_refl _, by omega, by simp, ⟨h1.1, fun h => absurd h (by simp)⟩, h3⟩
  · have hlt : g < w.heap.size := (Array.getElem?_eq_some_iff.1 hh).1
    refine ⟨_, _, css, rfl, hcap, by unfold maxLen at hcm; omega, hl, ⟨h1.1, fun _ => ⟨g, 0, rfl, ⟨hbg, hlt⟩, hlt, fun j u hu => ?_⟩⟩, h3⟩
    have := h1.cells (g := g) rfl j u hu
    rwa [Addr.add_lit] at this
end
def flR : Rd Fl := fun w S f cs => ∃ v, cs = [.string ⟨f.name.toArray⟩, v, .int .i64 f.synced] ∧ Byt w S v f.data ∧ f.name.length ≤ 140737488355328
theorem Byt.keepR {w w' : World} {S S' : Nat → Prop} {v : Value} {bs : List UInt8} (h : Byt w S v bs) (hk : ∀ A n sz xs, Row w S A n sz xs → Row w' S' A n sz xs) : Byt w' S' v bs := by
  obtain ⟨A, c, e, h1, h2, h3, h4⟩ := h
  exact ⟨A, c, e, h1, h2, h3, hk _ _ _ _ h4⟩
theorem flFine : Fine flR 3 := ⟨fun h => by obtain ⟨v, rfl, _⟩ := h; rfl, fun h hk => by obtain ⟨v, rfl, h1, h2⟩ := h; exact ⟨v, rfl, h1.keepR hk, h2⟩⟩
abbrev OwnFiles (w : World) (base : Nat) (v : Value) (fs : List Fl) : Prop := OwnRows flR 3 76 w base v fs
theorem infoF : (Tryz.prog.info? 76).map (fun i => (i.zero, i.size, i.bytes)) = some (some (.agg #[.string ⟨#[]⟩, .slice none 0 0, .int .i64 0]), 3, 48) := by kernel_rfl
end Go.Proofs.YtjnolpfmchnnmaaGreatDoor
end
section
namespace Go.Proofs.YtjnolpfmchnnmaaGreatDoor
set_option maxRecDepth 100000
open Go.RowKit Go.ChangeShapes Go.WideShapes Go.Deep
theorem cells_u8 : Tryz.prog.cellsOf 5 = 1 := by kernel_rfl
theorem cells_i : Tryz.prog.cellsOf 3 = 1 := by kernel_rfl
theorem cells_is : Tryz.prog.cellsOf 26 = 1 := by kernel_rfl
theorem bytes_u8 : Tryz.prog.bytesOf 5 = 1 := by kernel_rfl
theorem bytes_i : Tryz.prog.bytesOf 3 = 8 := by kernel_rfl
theorem cell_spot {w : World} {a : Addr} {v : Value} (h : w.cell? a = some v) : a = ⟨a.block, a.off, none⟩ := by
  obtain ⟨b, o, s⟩ := a
  cases s with
  | none => rfl
  | some s =>
    unfold World.cell? at h
    split at h <;> simp at h
theorem add_block (a : Addr) (n : Nat) : (a.add n).block = a.block := by unfold Addr.add; split <;> rfl
theorem add_off (a : Addr) (n : Nat) : (a.add n).off = a.off + n := by
  unfold Addr.add
  split
  · rename_i h; rw [h]; rfl
  · rfl
theorem weightsAll_mem {H : Type} {P : Program} {e : TypeId} : ∀ {l : List (DataW H)} {d : DataW H}, d ∈ l → ∀ n ∈ d.weights P e, n ∈ DataW.weightsAll P e l
  | d' :: r, d, hd, n, hn => by
    simp only [DataW.weightsAll, List.mem_append]
    rcases List.mem_cons.1 hd with rfl | h
    · exact Or.inl hn
    · exact Or.inr (weightsAll_mem h n hn)
section
variable {H : Type} {enc : TypeId × Value → H} {w : World} {base : Nat} {held : Bool} {spare : Nat → Bool}
set_option maxRecDepth 100000 in
theorem open_byt {fuel : Nat} {v : Value} {x : DataW H × List MemPlace} (h : DataW.trod enc Tryz.prog w base spare held fuel 35 [v] = some x) (hw : ∀ n ∈ x.1.weights Tryz.prog 35, n ≤ reachBytes) :
    ∃ bs, Byt w (fun _ => True) v bs := by
  rcases open_ints Tryz.underlying35 Tryz.underlying5 cells_u8 h with ⟨hv, _⟩ | ⟨a, len, cap, zs, hv, _, hl, hm, hz, hx, hc, hwf⟩
  · obtain rfl : v = .slice none 0 0 := by simpa using hv
    exact ⟨[], Byt.nil _ _⟩
  · obtain rfl : v = .slice (some a) len cap := by simpa using hv
    have hlen : len ≤ zs.length := by rw [hz]; split <;> omega
    subst hx
    have hr := hw _ (by simp only [DataW.weights, Tryz.underlying35]; exact List.mem_cons_self)
    rw [bytes_u8] at hr
    simp only [lits, List.length_map, List.length_take, List.length_drop, reachBytes] at hr
    have e1 : ((zs.take len).map fun z => UInt8.ofNat z.toNat).length = len := by simp; omega
    unfold maxLen at hm
    refine ⟨(zs.take len).map fun z => UInt8.ofNat z.toNat, some a, cap, by rw [e1], by omega, by omega, by omega, ?_⟩
    rw [e1]
    refine ⟨by simp; omega, fun h0 => ?_⟩
    have hs := hc 0 (by omega)
    have hsp : a = ⟨a.block, a.off, none⟩ := cell_spot (a := a) (by simpa [Addr.add] using hs)
    refine ⟨a.block, a.off, by rw [← hsp], trivial, ?_, fun j u hu => ?_⟩
    · have := World.block_lt_of_cell? w _ hs
      simpa [Addr.add] using this
    · rw [List.getElem?_map, List.getElem?_map, List.getElem?_take] at hu
      split at hu
      · rename_i hj
        have hcj := hc j (by omega)
        rw [hsp, Addr.add_lit] at hcj
        rw [hcj]
        obtain ⟨z, hzj⟩ : ∃ z, zs[j]? = some z := ⟨_, List.getElem?_eq_getElem (by omega)⟩
        have hb := bounds_u8 (hwf z (List.mem_of_getElem? hzj))
        rw [hzj] at hu
        simp only [Option.map_some, Option.some.injEq] at hu
        rw [← hu, List.getD_eq_getElem?_getD, hzj]
        unfold bcell
        simp
        omega
      · simp at hu
set_option maxRecDepth 100000 in
theorem open_zs {fuel : Nat} {v : Value} {d : DataW H} {ps : List MemPlace} (h : DataW.trod enc Tryz.prog w base spare held fuel 26 [v] = some (d, ps)) (hw : ∀ n ∈ d.weights Tryz.prog 26, n ≤ reachBytes) :
    ∃ zs, IntsIn w (fun _ => True) v zs ∧ zs.length * 8 ≤ 140737488355328 ∧ ∀ z ∈ zs, (Lit.int .i64 z).wf = true := by
  rcases open_ints Tryz.underlying26 Tryz.underlying3 cells_i h with ⟨hv, _⟩ | ⟨a, len, cap, zs, hv, _, hl, hm, hz, hx, hc, hwf⟩
  · obtain rfl : v = .slice none 0 0 := by simpa using hv
    exact ⟨[], IntsIn.nil _ _, by simp, fun z hz => by cases hz⟩
  · obtain rfl : v = .slice (some a) len cap := by simpa using hv
    have hlen : len ≤ zs.length := by rw [hz]; split <;> omega
    simp only [Prod.mk.injEq] at hx
    obtain ⟨hx, _⟩ := hx
    subst hx
    have hr := hw _ (by simp only [DataW.weights, Tryz.underlying26]; exact List.mem_cons_self)
    rw [bytes_i] at hr
    simp only [lits, List.length_map, List.length_take, List.length_drop, reachBytes] at hr
    have e1 : (zs.take len).length = len := by simp; omega
    unfold maxLen at hm
    refine ⟨zs.take len, ⟨some a, cap, by rw [e1], by omega, by omega, ?_⟩, by omega, fun z hz => hwf z (List.mem_of_mem_take hz)⟩
    rw [e1]
    refine ⟨by simp; omega, fun h0 => ?_⟩
    have hs := hc 0 (by omega)
    have hsp : a = ⟨a.block, a.off, none⟩ := cell_spot (a := a) (by simpa [Addr.add] using hs)
    refine ⟨a.block, a.off, by rw [← hsp], trivial, ?_, fun j u hu => ?_⟩
    · have := World.block_lt_of_cell? w _ hs
      simpa [Addr.add] using this
    · rw [List.getElem?_map, List.getElem?_take] at hu
      split at hu
      · rename_i hj
        have hcj := hc j (by omega)
        rw [hsp, Addr.add_lit] at hcj
        rw [hcj]
        obtain ⟨z, hzj⟩ : ∃ z, zs[j]? = some z := ⟨_, List.getElem?_eq_getElem (by omega)⟩
        rw [hzj] at hu
        simp only [Option.map_some, Option.some.injEq] at hu
        rw [← hu, List.getD_eq_getElem?_getD, hzj]
        rfl
      · simp at hu
set_option maxRecDepth 100000 in
theorem arg_slice {r : Reach} {b0 : Nat} {t e : TypeId} {v : Value} {d : DataW H} {ps : List MemPlace} (ht : Tryz.prog.underlying t = some (.slice e)) (hval : Value.okWide Tryz.prog w r b0 t v) (hd : DataW.Trod enc Tryz.prog w base spare held t v d ps) :
    ∃ fuel, DataW.trod enc Tryz.prog w base spare held fuel t [v] = some (d, ps) := by
  obtain ⟨a, l, c, rfl⟩ := okWide_slice ht hval
  obtain ⟨n, hn⟩ := hd
  exact ⟨n, hn⟩
end
end Go.Proofs.YtjnolpfmchnnmaaGreatDoor
end
section
namespace Go.Proofs.YtjnolpfmchnnmaaGreatDoor
set_option maxRecDepth 100000
open Go.RowKit Go.ChangeShapes Go.WideShapes Go.Deep
theorem bulk_one {H : Type} (d : DataW H) : 1 ≤ Rows.uptoBulk d := by
  cases d with
  | lit l => cases l <;> simp [Rows.uptoBulk]
  | nil => simp [Rows.uptoBulk]
  | ptr d => simp [Rows.uptoBulk]
  | slice elems spare => simp [Rows.uptoBulk]
  | agg parts => simp [Rows.uptoBulk]
  | iface t d => simp [Rows.uptoBulk]
  | map entries => simp [Rows.uptoBulk]
  | held h => simp [Rows.uptoBulk]
theorem bulk_all {H : Type} (l : List (DataW H)) : Rows.uptoBulkAll l = (l.map Rows.uptoBulk).sum := by
  induction l with
  | nil => rfl
  | cons x r ih => simp only [Rows.uptoBulkAll, List.map_cons, List.sum_cons, ih]
theorem bulk_len {H : Type} (l : List (DataW H)) : l.length ≤ Rows.uptoBulkAll l := by
  induction l with
  | nil => simp [Rows.uptoBulkAll]
  | cons x r ih => have := bulk_one x; simp only [Rows.uptoBulkAll, List.length_cons]; omega
section
variable {H : Type} {P : Program} {enc : TypeId × Value → H} {w : World} {base : Nat} {held : Bool} {spare : Nat → Bool}
theorem trod_struct5 {t : TypeId} {f0 f1 f2 f3 f4 : Field} {fuel : Nat} {cs : List Value} {x : DataW H × List MemPlace} (ht : P.underlying t = some (.struct #[f0, f1, f2, f3, f4])) (h : DataW.trod enc P w base spare held fuel t cs = some x) :
    ∃ y0 y1 y2 y3 y4 n, x = (.agg [y0.1, y1.1, y2.1, y3.1, y4.1], y0.2 ++ (y1.2 ++ (y2.2 ++ (y3.2 ++ y4.2)))) ∧ cs.length = P.cellsOf t ∧ DataW.trod enc P w base spare held n f0.type ((cs.drop f0.offset).take (P.cellsOf f0.type)) = some y0 ∧
      DataW.trod enc P w base spare held n f1.type ((cs.drop f1.offset).take (P.cellsOf f1.type)) = some y1 ∧ DataW.trod enc P w base spare held n f2.type ((cs.drop f2.offset).take (P.cellsOf f2.type)) = some y2 ∧
      DataW.trod enc P w base spare held n f3.type ((cs.drop f3.offset).take (P.cellsOf f3.type)) = some y3 ∧ DataW.trod enc P w base spare held n f4.type ((cs.drop f4.offset).take (P.cellsOf f4.type)) = some y4 := by
  obtain ⟨xs, n, _, rfl, hl, hlen, hf⟩ := DataW.trod_struct ht h
  match xs, hlen with
  | [y0, y1, y2, y3, y4], _ => exact ⟨y0, y1, y2, y3, y4, n, by simp, hl, by simpa using hf 0 f0 rfl, by simpa using hf 1 f1 rfl, by simpa using hf 2 f2 rfl, by simpa using hf 3 f3 rfl, by simpa using hf 4 f4 rfl⟩
end
section
variable {H : Type} {enc : TypeId × Value → H} {w : World} {base : Nat} {held : Bool} {spare : Nat → Bool}
theorem bulk_slice {t e : TypeId} (ht : Tryz.prog.underlying t = some (.slice e)) {fuel n c : Nat} {A : Option Addr} {x : DataW H × List MemPlace} (h : DataW.trod enc Tryz.prog w base spare held fuel t [.slice A n c] = some x) : n ≤ Rows.uptoBulk x.1 := by
  rcases open_slice ht h with ⟨hv, _⟩ | ⟨a, len, cap, m, n', D, Pl, hv, _, _, _, _, hx, _⟩
  · simp only [List.cons.injEq, Value.slice.injEq, and_true] at hv
    omega
  · simp only [List.cons.injEq, Value.slice.injEq, and_true] at hv
    obtain ⟨_, rfl, _⟩ := hv
    subst hx
    have := bulk_len ((List.range n).map D)
    simp only [List.length_map, List.length_range] at this
    simp only [Rows.uptoBulk]
    omega
set_option maxRecDepth 100000 in
theorem open_rows {α : Type} [Inhabited α] {R : Rd α} {k bytes : Nat} (hk0 : 0 < k) {t e : TypeId} (ht : Tryz.prog.underlying t = some (.slice e)) (hk : Tryz.prog.cellsOf e = k) (hby : Tryz.prog.bytesOf e = bytes) (m : α → Nat)
    (hel : ∀ (fuel : Nat) (cs : List Value) (x : DataW H × List MemPlace), DataW.trod enc Tryz.prog w base spare held fuel e cs = some x → (∀ n ∈ x.1.weights Tryz.prog e, n ≤ reachBytes) → ∃ a : α, R w (fun _ => True) a cs ∧ m a ≤ Rows.uptoBulk x.1)
    {fuel : Nat} {v : Value} {x : DataW H × List MemPlace} (h : DataW.trod enc Tryz.prog w base spare held fuel t [v] = some x) (hw : ∀ n ∈ x.1.weights Tryz.prog t, n ≤ reachBytes) :
    ∃ xs, Rows R k bytes w (fun _ => True) v xs ∧ (xs.map m).sum ≤ Rows.uptoBulk x.1 := by
  rcases open_slice ht h with ⟨hv, hx⟩ | ⟨a, len, cap, mm, n, D, Pl, hv, _, hl, hm, hmm, hx, hc⟩
  · obtain rfl : v = .slice none 0 0 := by simpa using hv
    exact ⟨[], ⟨none, 0, [], rfl, Nat.le_refl _, by omega, by simp, ⟨by simp, fun h => by simp at h⟩, .nil⟩, by simp⟩
  · obtain rfl : v = .slice (some a) len cap := by simpa using hv
    have hlm : len ≤ mm := by rw [hmm]; split <;> omega
    subst hx
    simp only [DataW.weights, ht, List.mem_cons, List.mem_append] at hw
    have hr := hw _ (.inl rfl)
    rw [hby] at hr
    simp only [List.length_map, List.length_range, reachBytes] at hr
    unfold maxLen at hm
    rw [hk] at hc
    have key : ∀ q, q ≤ len → ∃ (css : List (List Value)) (xs : List α), xs.length = q ∧ css.flatten.length = q * k ∧ All2 (R w fun _ => True) xs css ∧ (xs.map m).sum ≤ Rows.uptoBulkAll ((List.range q).map D) ∧ ∀ j u, css.flatten[j]? = some u → w.cell? (a.add j) = some u := by
      intro q
      induction q with
      | zero => exact fun _ => ⟨[], [], rfl, by simp, .nil, by simp, fun j u hu => by simp at hu⟩
      | succ q ih =>
        intro hq
        obtain ⟨css, xs, hxl, hfl, hall, hsum, hcc⟩ := ih (by omega)
        obtain ⟨cs', h1, h2⟩ := hc q (by omega)
        obtain ⟨y, hy, hym⟩ := hel _ _ _ h2 (fun n hn => hw n (.inr (.inl (weightsAll_mem (List.mem_map.2 ⟨q, List.mem_range.2 (by omega), rfl⟩) n hn))))
        obtain ⟨_, hl4, h4⟩ := World.cells?_some h1
        refine ⟨css ++ [cs'], xs ++ [y], by simp [hxl], by simp [hfl, hl4, Nat.succ_mul], hall.snoc hy, ?_, fun j u hu => ?_⟩
        · rw [bulk_all] at hsum ⊢
          rw [List.range_succ]
          simp only [List.map_append, List.sum_append, List.map_cons, List.map_nil, List.sum_cons, List.sum_nil]
          simp only [Nat.add_zero]
          exact Nat.add_le_add hsum hym
        · rw [List.flatten_append, List.getElem?_append] at hu
          split at hu
          · exact hcc j u hu
          · rename_i hj
            simp only [List.flatten_cons, List.flatten_nil, List.append_nil] at hu
            have hj : j - css.flatten.length < k := by rw [← hl4]; exact (List.getElem?_eq_some_iff.1 hu).1
            have h5 := h4 _ hj
            rw [hu] at h5
            have h6 := h4 0 (by omega)
            have hsp : a.add (q * k) = ⟨a.block, a.off + q * k, none⟩ := by
              have h7 := cell_spot (w := w) (a := (a.add (q * k))) (v := cs'[0]) (by
                rw [show (a.add (q * k)).add 0 = a.add (q * k) by simp [Addr.add]] at h6
                rw [h6, List.getElem?_eq_getElem (by omega)])
              rw [h7, add_block, add_off]
            rw [hsp, Addr.add_lit] at h5
            unfold Addr.add
            by_cases hj0 : j = 0
            · rw [if_pos hj0]
              subst hj0
              have hk0 : q * k = 0 := by omega
              have : a = ⟨a.block, a.off, none⟩ := by rw [hk0] at hsp; simpa [Addr.add] using hsp
              rw [this]
              rw [hk0] at h5
              simpa using h5
            · rw [if_neg hj0, ← h5]
              congr 2
              omega
    obtain ⟨css, xs, hxl, hfl, hall, hsum, hcc⟩ := key len (Nat.le_refl _)
    refine ⟨xs, ⟨some a, cap, css, by rw [hxl], by omega, by omega, ?_, ?_, hall⟩, ?_⟩
    · rw [hxl]
      have : len * bytes ≤ (len + (mm - len)) * bytes := Nat.mul_le_mul_right _ (by omega)
      omega
    · rw [hxl]
      refine ⟨hfl, fun h0 => ?_⟩
      have hpos : 0 < len * k := Nat.mul_pos h0 hk0
      obtain ⟨u0, hu0⟩ : ∃ u, css.flatten[0]? = some u := ⟨_, List.getElem?_eq_getElem (by omega)⟩
      have hs := hcc 0 u0 hu0
      have hsp : a = ⟨a.block, a.off, none⟩ := cell_spot (a := a) (by simpa [Addr.add] using hs)
      refine ⟨a.block, a.off, by rw [← hsp], trivial, ?_, fun j u hu => ?_⟩
      · have := World.block_lt_of_cell? w _ hs
        simpa [Addr.add] using this
      · have := hcc j u hu
        rwa [hsp, Addr.add_lit] at this
    · simp only [Rows.uptoBulk]
      omega
end
end Go.Proofs.YtjnolpfmchnnmaaGreatDoor
end
