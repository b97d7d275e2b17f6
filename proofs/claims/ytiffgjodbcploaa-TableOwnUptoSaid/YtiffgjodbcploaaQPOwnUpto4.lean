/-
law 12's spoil: bytes in blocks of a set are turned, and nothing else.
-/
import Derived.Test.YtiffgjodbcploaaQPOwnUpto3
import Derived.Test.YtiffgjodbcploaaQPOwnUpto2
section
namespace Go.Proofs.Ytiffgjodbcploaa
open Go.RowKit Go.BigFrame Go.Sort Go.Shelf Go.Lib Go.Maps
attribute [local go_sem ↓] Go.wp_at_zero Go.wp_at_succ
theorem pk_ext {a b : Pk} (h1 : a.fs = b.fs) (h2 : a.ops = b.ops) (h3 : a.room = b.room) (h4 : a.keep = b.keep) (h5 : a.done = b.done) (h6 : a.bytes = b.bytes) (h7 : a.down = b.down) : a = b := by
  cases a; cases b; simp_all
theorem Only.later {F : Nat → Prop} {a b c : World} (h : Only F a b) (k : Only (orNew F a.heap.size) b c) : Only F a c :=
  ⟨k.os.trans h.os, k.tape.trans h.tape, k.output.trans h.output, Nat.le_trans h.size k.size, fun i hi hn => (k.block i (Nat.lt_of_lt_of_le hi h.size) fun e => e.elim hn (fun e => by omega)).trans (h.block i hi hn)⟩
theorem changeK_fs (k : Pk) : (changeK k).fs = k.fs ∧ (changeK k).bytes = k.bytes ∧ (changeK k).room = k.room := by unfold changeK; split <;> exact ⟨rfl, rfl, rfl⟩
theorem map_len (d : Dk) : d.pk.fs.length = d.ns.length := by show (d.ns.map Fd.fl).length = _; simp
theorem nameB_len {x : Nm} (h : nameB x = true) : x.length ≤ 32 := by
  unfold nameB at h
  simp at h
  exact h.1.2
theorem readyE_name {k : Pk} {x : Nm} (h : readyE k [x] = 0 ∨ readyE k [x] = 22) : nameB x = true := by
  unfold readyE at h
  split at h
  · rcases h with h | h <;> cases h
  · split at h
    · rcases h with h | h <;> cases h
    · rename_i h1
      simpa using h1
set_option maxRecDepth 100000 in
set_option maxHeartbeats 4000000 in
/-- Append where a change may be done. -/
theorem append_go (F : Nat → Prop) (p : Nat) (k : Pk) (x : Nm) (S : Nat → Prop) (v : Value) (b : List UInt8) (w : World) (h : DiskP w F p k) (hv : Byt w S v b) (hS : ∀ i, S i → ¬ F i) (hx : x.length ≤ 140737488355328) (hd : 0 ≤ k.done) (hd' : k.done < 4611686018427387904)
    (hlen : ∀ f, findP x k.fs = some f → f.data.length + b.length ≤ 140737488355328) (hmany : k.fs.length < 9223372036854775807) (h0 : readyE k [x] = 0 ∨ readyE k [x] = 22) (hfull : fullP k b.length = false) (hc : changeE k = 0) :
    Calls Try.prog 39 #[.pointer (some ⟨p, 0, none⟩), .string ⟨x.toArray⟩, v] w fun r w' => r = .returned (.int .i64 0) ∧ DiskP w' (orNew F w.heap.size) p { changeK k with fs := appFs x b k.fs, bytes := wrap64 (k.bytes + b.length) } ∧ Only F w w' := by
  have hA : Below w.heap.size w (w.alloc (.cells #[.string ⟨x.toArray⟩] 9)) := (Below.refl _ _).alloc (Nat.le_refl _) _
  have HR := Lib.hid (ready_any F p k (fun _ => True) _ [x] _ (h.below hA) (strs1 w x) (fun y hy => by simp at hy; rw [hy]; exact hx))
  have HD := Lib.hid h
  have HA := Lib.hid hA
  have HV := Lib.hid hv
  have HN := Lib.hid (readyE_name h0)
  have HC := Lib.hid fun w1 (hw : DiskP w1 F p k) => change_any F p k w1 hw hd hd'
  have HLE := Lib.hid hlen
  obtain ⟨Av, cv, rfl⟩ := slice_form hv
  have hbl' := hv.len
  rw [hc] at HC
  obtain ⟨e, he⟩ : ∃ e, readyE k [x] = e := ⟨_, rfl⟩
  rw [he] at HR h0
  obtain ⟨mb0, kv0, d0, hv0, rfl⟩ := h
  have hfl : decide (0 ≤ d0.room) = false ∨ (decide (0 ≤ d0.room) = true ∧ ¬ wrap64 (d0.room - d0.bytes) < (b.length : Int)) := by
    have : (decide (0 ≤ d0.room) && decide (wrap64 (d0.room - d0.bytes) < (b.length : Int))) = false := hfull
    cases h1 : decide (0 ≤ d0.room) with
    | false => exact .inl rfl
    | true => rw [h1] at this; simp only [Bool.true_and, decide_eq_false_iff_not] at this; exact .inr ⟨rfl, this⟩
  have HFL := Lib.hid hfl
  have HV0 := Lib.hid hv0
  clear hA hv hlen hfull hfl he
  go_enter Try.func39, Try.ntmps39
  go_upto_region 2 with (go_at_call 50; refine HR.out.mono ?_; rintro r w1 ⟨rfl, hb1⟩)
  go_cut [20] (fun t wc => t = .bool false ∧ wc = w1)
  case first =>
    rcases h0 with rfl | rfl
    · go_wp2_with fail
      go_meet
      case rel => exact ⟨rfl, rfl⟩
    · go_wp2_with fail
      go_meet
      case rel => exact ⟨rfl, rfl⟩
  case rest =>
    obtain ⟨rfl, hwc⟩ := hcut
    obtain rfl : w1 = wc := hwc.symm
    have hv1 := (HV0.out.below HA.out).below hb1
    obtain ⟨_, _, x2, _, _, x5, _⟩ := hv1.cell
    have HB1 := Lib.hid (HA.out.trans (hb1.mono HA.out.size))
    clear hv1 hb1
    go_upto_region 5 with (fail)
    go_cut [39] (fun t wd => t = .bool false ∧ wd = w1)
    case first =>
      rcases HFL.out with g1 | ⟨g1, g2⟩
      · go_wp2_with fail
        go_meet
        case rel => exact ⟨rfl, rfl⟩
      · go_wp2_with fail
        go_meet
        case rel => exact ⟨congrArg Value.bool (decide_eq_false (by omega)), rfl⟩
    case rest =>
      obtain ⟨rfl, hwc⟩ := hcut
      obtain rfl : w1 = wc := hwc.symm
      clear x2 x5 HFL h0
      go_upto_region 10 with (go_at_call 66; refine (HC.out w1 (HD.out.below HB1.out)).mono ?_; rintro r w2 ⟨rfl, hd2, hb2⟩)
      obtain ⟨mb, kv, d, hv, hpk⟩ := hd2
      obtain ⟨x0, _⟩ := hv.cell
      have hlk := hv.look x hx
      obtain ⟨po, hpo⟩ : ∃ po, (findF x d.ns).map (fun f => (⟨f.blk, 0, none⟩ : Addr)) = po := ⟨_, rfl⟩
      unfold ptrF at hlk
      rw [hpo] at hlk
      have HPO := Lib.hid hpo
      have HB2 : Hid (Only F w w2) := Lib.hid ((Only.of_below HB1.out).trans hb2)
      have HV2 := Lib.hid hv
      have HPK := Lib.hid hpk
      have hns : d.ns.length < 9223372036854775807 := by
        rw [← map_len, hpk, (changeK_fs _).1]
        exact hmany
      clear hv hpk hb2 HD HC HV0 hmany hpo
      go_upto_if 52 with (fail)
      go_cut [10] (fun v wc => ∃ f d3, v = .pointer (some ⟨f.blk, 0, none⟩) ∧ DiskV wc (orNew F w.heap.size) p mb kv d3 ∧ findF x d3.ns = some f ∧ d3.pk = { d.pk with fs := if (findP x d.pk.fs).isSome = true then d.pk.fs else insP ⟨x, [], 0⟩ d.pk.fs } ∧ f.data.length + b.length ≤ 140737488355328 ∧ Only F w wc)
      case first =>
        cases hf : findF x d.ns with
        | some f =>
          have hpo := HPO.out
          rw [hf] at hpo
          obtain rfl : _ = po := hpo
          have HF := Lib.hid hf
          clear hf HPO
          go_wp2_with fail
          go_meet
          case rel =>
            have hff : findP x d.pk.fs = some f.fl := by rw [show findP x d.pk.fs = (findF x d.ns).map Fd.fl from findP_map x d.ns, HF.out]; rfl
            refine ⟨f, d, rfl, HV2.out.mono fun i hi _ => .inl hi, HF.out, by rw [if_pos (by rw [hff]; rfl)], ?_, HB2.out⟩
            rw [HPK.out, (changeK_fs _).1] at hff
            exact HLE.out _ hff
        | none =>
          have hpo := HPO.out
          rw [hf] at hpo
          obtain rfl : _ = po := hpo
          have HF := Lib.hid hf
          obtain ⟨D, hm, hD, hT⟩ := HV2.out.tidy
          have HM := Lib.hid (ownsMap_block hm (Below.heap_alloc w2 (.cells #[.slice none 0 0, .int .i64 0] 106) mb hm.lt))
          have HT := Lib.hid (And.intro hD hT)
          have y0 : (w2.alloc (.cells #[.slice none 0 0, .int .i64 0] 106)).cell? ⟨p, 0, none⟩ = some (.map (some mb)) := (World.cell?_of_block (a := ⟨p, 0, none⟩) (Below.heap_alloc w2 _ p HV2.out.ltP)).trans x0
          clear hf hm hD hT HPO
          go_wp2_with (at_mapUpdate; refine wpList_mapUpdate_own _ rfl _ _ _ 91 rfl 9 107 law_str Try.underlying91 ptrR mb d.ns.length D rfl HM.out (by unfold maxLen; omega) _ _ _ rfl rfl (key_str x hx) (.lit (.int .i64 w2.heap.size)) [] rfl ?_; intro w3 hown3 hgrow3; have HO3 := Lib.hid hown3; have HG3 := Lib.hid hgrow3; clear hown3 hgrow3)
          go_meet
          case rel =>
            have hal : Below w2.heap.size w2 (w2.alloc (.cells #[.slice none 0 0, .int .i64 0] 106)) := (Below.refl _ _).alloc (Nat.le_refl _) _
            have hva := HV2.out.below hal
            have hz2 : w.heap.size ≤ w2.heap.size := HB2.out.size
            have hfv : FileV (w2.alloc (.cells #[.slice none 0 0, .int .i64 0] 106)) (orNew F w.heap.size) ⟨x, [], 0, w2.heap.size, .slice none 0 0⟩ := ⟨heap_alloc_new w2 _, OwnB.nil _ _, .inr hz2⟩
            have hins := hva.ins (F' := orNew F w.heap.size) (fun i hi => .inl hi) (f := ⟨x, [], 0, w2.heap.size, .slice none 0 0⟩) HT.out.1 HT.out.2 HG3.out HO3.out hfv HN.out (fun g hg _ e => by have := (Array.getElem?_eq_some_iff.1 (HV2.out.files g hg).cells).1; simp only at e; omega) (fun g hg _ i hi => by simp [blkB] at hi)
            refine ⟨⟨x, [], 0, w2.heap.size, .slice none 0 0⟩, _, rfl, hins, by rw [find_ins, if_pos rfl], ?_, by simpa using hbl', ?_⟩
            · rw [if_neg (by rw [show findP x d.pk.fs = (findF x d.ns).map Fd.fl from findP_map x d.ns, HF.out]; simp)]
              show Dk.pk { d with ns := insF ⟨x, [], 0, w2.heap.size, .slice none 0 0⟩ d.ns } = _
              unfold Dk.pk
              rw [← insP_map]
              rfl
            · exact (HB2.out.alloc _).trans ((Only.of_grown HG3.out).mono fun i hi => by injection hi with hi; rw [← hi]; exact HV2.out.loM)
      case rest =>
        obtain ⟨f, d3, rfl, hv3, hf3, hpk3, hlen3, ho3⟩ := hcut
        obtain ⟨z0, _, _, _, _, z5, _⟩ := hv3.cell
        have zf := hv3.frozen
        obtain ⟨y0, y1, yf, hfv⟩ := hv3.file hf3
        obtain ⟨Af, cf, hfs⟩ := hfv.own.form
        rw [hfs] at y0
        have HV3 := Lib.hid hv3
        have HF3 := Lib.hid hf3
        have HPK3 := Lib.hid hpk3
        have HL3 := Lib.hid hlen3
        have HO3 := Lib.hid ho3
        have HFV := Lib.hid hfv
        have HFS := Lib.hid hfs
        have HOW : Hid (OwnB wc (orNew F w.heap.size) (.slice Af f.data.length cf) f.data) := Lib.hid (hfs ▸ hfv.own)
        have HSRC : Hid (Byt wc S (.slice Av b.length cv) b) := Lib.hid (HV.out.only ho3 fun i _ hi => hS i hi)
        clear hv3 hf3 hpk3 hlen3 ho3 hfv hfs hlk HPO x0
        go_wp2_with (at_builtin; refine wpList_append_ownB rfl _ _ rfl (orNew F w.heap.size) (orNew F w.heap.size) _ _ rfl rfl S f.data b HOW.out HSRC.out HL3.out (fun _ hi => hi) (.inr HO3.out.size) ?_; intro v' w4 hw4 hg4 hb4; obtain ⟨A4, c4, hv4⟩ := hw4.form; rw [List.length_append] at hv4; subst hv4; have hfb := (hg4.block f.blk (Array.getElem?_eq_some_iff.1 HFV.out.cells).1 (fun e => by obtain ⟨_, ⟨cs, hL⟩, _⟩ := HOW.out.blk e.symm; exact cells_ne HFV.out.cells hL (by decide) rfl)).trans HFV.out.cells; have t0 := cell_of_row w4 f.blk 0 _ _ _ hfb; have tf : ∀ i, w4.frozen? ⟨f.blk, i, none⟩ = false := fun i => frozen_of_row w4 _ i _ _ hfb; have hpb := (hg4.block p HV3.out.ltP (fun e => by obtain ⟨_, ⟨cs, hL⟩, _⟩ := HOW.out.blk e.symm; exact cells_ne HV3.out.head hL (by decide) rfl)).trans HV3.out.head; have u5 := cell_of_row w4 p 5 _ _ _ hpb; have uf : ∀ i, w4.frozen? ⟨p, i, none⟩ = false := fun i => frozen_of_row w4 _ i _ _ hpb; have hne : p ≠ f.blk := cells_ne HV3.out.head HFV.out.cells (by decide); have HW4 := Lib.hid hw4; have HG4 : Hid (wc.grownBy w4 (blkB (.slice Af f.data.length cf))) := Lib.hid hg4; have HB4 : Hid (blkB (.slice A4 (f.data.length + b.length) c4) = blkB (.slice Af f.data.length cf) ∨ blkB (.slice A4 (f.data.length + b.length) c4) = some wc.heap.size) := Lib.hid hb4; have HFB := Lib.hid hfb; clear hw4 hg4 hb4 hfb hpb; simp only [List.getElem?_toArray, List.getElem?_cons_zero, List.getElem?_cons_succ] at t0 u5)
        refine bodyPost_ret (v := .int .i64 0) (by simp [results, Try.results39, go_sem]) rfl ?_
        have hlo : ∀ i, blkB (.slice Af f.data.length cf) = some i → orNew F w.heap.size i := fun i hi => (HOW.out.blk hi).1
        have hup := HV3.out.upd (F' := orNew F w.heap.size) (fun _ h => h) (find_name HF3.out).2 (data' := f.data ++ b) (synced' := f.synced) (sl' := .slice A4 (f.data.length + b.length) c4) (w' := w4.setCell ⟨f.blk, 0, none⟩ (.slice A4 (f.data.length + b.length) c4))
          (((Only.of_grown HG4.out).mono fun i hi => .inr (by rw [HFS.out]; exact hi)).setCell (p := ⟨f.blk, 0, none⟩) (.inl rfl) _) (heap_setCell_same w4 f.blk 0 _ _ _ HFB.out)
          (HW4.out.kept fun g hg => heap_setCell_other w4 ⟨f.blk, 0, none⟩ g _ (by obtain ⟨_, ⟨cs, hL⟩, _⟩ := HW4.out.blk hg; exact cells_ne hL HFB.out (by decide)))
          (fun g hg => HB4.out.elim (fun e => .inl (by rw [HFS.out, ← e]; exact hg)) (fun e => .inr (by rw [e] at hg; injection hg with hg; omega)))
        have hst := hup.store 5 (.int .i64 (wrap64 (d3.bytes + b.length))) { d3 with ns := updF f.name (setF (f.data ++ b) f.synced (.slice A4 (f.data.length + b.length) c4)) d3.ns, bytes := wrap64 (d3.bytes + b.length) } kv rfl hup.keep rfl
        have e1 := congrArg Pk.fs (pk_upd HV3.out.sorted HF3.out (setF (f.data ++ b) f.synced (.slice A4 (f.data.length + b.length) c4)) (fun a => { a with data := a.data ++ b }) rfl)
        have h3 := HPK3.out
        rw [HPK.out] at h3
        refine ⟨rfl, ⟨_, _, _, hst, ?_⟩, HO3.out.later ((((Only.of_grown HG4.out).mono hlo).setCell (p := ⟨f.blk, 0, none⟩) HFV.out.lo _).setCell (p := ⟨p, 5, none⟩) HV3.out.loP _)⟩
        have o1 : d3.pk.ops = (changeK d0.pk).ops := by rw [h3]
        have o2 : d3.pk.room = (changeK d0.pk).room := by rw [h3]
        have o3 : d3.pk.keep = (changeK d0.pk).keep := by rw [h3]
        have o4 : d3.pk.done = (changeK d0.pk).done := by rw [h3]
        have o5 : d3.pk.bytes = (changeK d0.pk).bytes := by rw [h3]
        have o6 : d3.pk.down = (changeK d0.pk).down := by rw [h3]
        have o7 : d3.pk.fs = if (findP x (changeK d0.pk).fs).isSome = true then (changeK d0.pk).fs else insP ⟨x, [], 0⟩ (changeK d0.pk).fs := by rw [h3]
        refine pk_ext (e1.trans ?_) o1 o2 o3 o4 ?_ o6
        · show updP x _ d3.pk.fs = appFs x b d0.pk.fs
          rw [o7, (changeK_fs _).1]
          rfl
        · show wrap64 (d3.pk.bytes + b.length) = wrap64 (d0.pk.bytes + b.length)
          rw [o5, (changeK_fs _).2.1]
set_option maxRecDepth 100000 in
set_option maxHeartbeats 4000000 in
theorem append_any (F : Nat → Prop) (p : Nat) (k : Pk) (x : Nm) (S : Nat → Prop) (v : Value) (b : List UInt8) (w : World) (h : DiskP w F p k) (hv : Byt w S v b) (hS : ∀ i, S i → ¬ F i) (hx : x.length ≤ 140737488355328) (hd : 0 ≤ k.done) (hd' : k.done < 4611686018427387904)
    (hlen : ∀ f, findP x k.fs = some f → f.data.length + b.length ≤ 140737488355328) (hmany : k.fs.length < 9223372036854775807) :
    Calls Try.prog 39 #[.pointer (some ⟨p, 0, none⟩), .string ⟨x.toArray⟩, v] w fun r w' => r = .returned (.int .i64 (appendE k x b)) ∧ DiskP w' (orNew F w.heap.size) p (appendK k x b) ∧ Only F w w' := by
  have hA : Below w.heap.size w (w.alloc (.cells #[.string ⟨x.toArray⟩] 9)) := (Below.refl _ _).alloc (Nat.le_refl _) _
  have HR := Lib.hid (ready_any F p k (fun _ => True) _ [x] _ (h.below hA) (strs1 w x) (fun y hy => by simp at hy; rw [hy]; exact hx))
  have HA := Lib.hid hA
  have hmo : ∀ {w1 : World} {k1 : Pk}, DiskP w1 F p k1 → DiskP w1 (orNew F w.heap.size) p k1 := fun h => h.mono fun i hi _ => .inl hi
  by_cases h0 : readyE k [x] = 0 ∨ readyE k [x] = 22
  · rw [appendE, appendK, if_pos h0, if_pos h0]
    cases hf : fullP k b.length with
    | true =>
      rw [if_pos rfl, if_pos rfl]
      obtain ⟨Av, cv, rfl⟩ := slice_form hv
      have HD := Lib.hid h
      have HMO : Hid (DiskP w F p k) := HD
      obtain ⟨mb0, kv0, d0, hv0, rfl⟩ := h
      obtain ⟨g1, g2⟩ : decide (0 ≤ d0.room) = true ∧ wrap64 (d0.room - d0.bytes) < (b.length : Int) := by
        have : (decide (0 ≤ d0.room) && decide (wrap64 (d0.room - d0.bytes) < (b.length : Int))) = true := hf
        rw [Bool.and_eq_true] at this
        exact ⟨this.1, by simpa using this.2⟩
      have HV0 := Lib.hid hv0
      obtain ⟨e, he⟩ : ∃ e, readyE d0.pk [x] = e := ⟨_, rfl⟩
      rw [he] at HR h0
      have hle := hv.len
      clear hA hv he hv0 hf hlen hmany
      go_enter Try.func39, Try.ntmps39
      go_upto_region 2 with (go_at_call 50; refine HR.out.mono ?_; rintro r w1 ⟨rfl, hb1⟩)
      go_cut [20] (fun t wc => t = .bool false ∧ wc = w1)
      case first =>
        rcases h0 with rfl | rfl
        · go_wp2_with fail
          go_meet
          case rel => exact ⟨rfl, rfl⟩
        · go_wp2_with fail
          go_meet
          case rel => exact ⟨rfl, rfl⟩
      case rest =>
        obtain ⟨rfl, hwc⟩ := hcut
        obtain rfl : w1 = wc := hwc.symm
        have hv1 := (HV0.out.below HA.out).below hb1
        obtain ⟨_, _, x2, _, _, x5, _⟩ := hv1.cell
        have HB1 := Lib.hid (HA.out.trans (hb1.mono HA.out.size))
        clear hv1 hb1
        go_wp2
        refine bodyPost_ret (v := .int .i64 21) (by simp [results, Try.results39, go_sem]) rfl ?_
        exact ⟨rfl, hmo (HD.out.below HB1.out), Only.of_below HB1.out⟩
    | false =>
      rw [if_neg (by simp), if_neg (by simp)]
      by_cases hc : changeE k = 0
      · rw [if_neg (by rw [crashes_e hc]; simp), hc]
        exact append_go F p k x S v b w h hv hS hx hd hd' hlen hmany h0 hf hc
      · rw [if_pos (crashes_n hc)]
        have HC := Lib.hid fun w1 (hw : DiskP w1 F p k) => change_any F p k w1 hw hd hd'
        have hne : (changeE k == 0) = false := by simpa using hc
        obtain ⟨Av, cv, rfl⟩ := slice_form hv
        have HD := Lib.hid h
        obtain ⟨e2, he2⟩ : ∃ e, changeE k = e := ⟨_, rfl⟩
        rw [he2] at HC hne hc ⊢
        obtain ⟨mb0, kv0, d0, hv0, rfl⟩ := h
        have hfl : decide (0 ≤ d0.room) = false ∨ (decide (0 ≤ d0.room) = true ∧ ¬ wrap64 (d0.room - d0.bytes) < (b.length : Int)) := by
          have : (decide (0 ≤ d0.room) && decide (wrap64 (d0.room - d0.bytes) < (b.length : Int))) = false := hf
          cases h1 : decide (0 ≤ d0.room) with
          | false => exact .inl rfl
          | true => rw [h1] at this; simp only [Bool.true_and, decide_eq_false_iff_not] at this; exact .inr ⟨rfl, this⟩
        have HFL := Lib.hid hfl
        have HV0 := Lib.hid hv0
        obtain ⟨e, he⟩ : ∃ e, readyE d0.pk [x] = e := ⟨_, rfl⟩
        rw [he] at HR h0
        have hle := hv.len
        clear hA hv he hv0 hf hlen hmany hfl he2
        go_enter Try.func39, Try.ntmps39
        go_upto_region 2 with (go_at_call 50; refine HR.out.mono ?_; rintro r w1 ⟨rfl, hb1⟩)
        go_cut [20] (fun t wc => t = .bool false ∧ wc = w1)
        case first =>
          rcases h0 with rfl | rfl
          · go_wp2_with fail
            go_meet
            case rel => exact ⟨rfl, rfl⟩
          · go_wp2_with fail
            go_meet
            case rel => exact ⟨rfl, rfl⟩
        case rest =>
          obtain ⟨rfl, hwc⟩ := hcut
          obtain rfl : w1 = wc := hwc.symm
          have hv1 := (HV0.out.below HA.out).below hb1
          obtain ⟨_, _, x2, _, _, x5, _⟩ := hv1.cell
          have HB1 := Lib.hid (HA.out.trans (hb1.mono HA.out.size))
          clear hv1 hb1
          go_upto_region 5 with (fail)
          go_cut [39] (fun t wd => t = .bool false ∧ wd = w1)
          case first =>
            rcases HFL.out with g1 | ⟨g1, g2⟩
            · go_wp2_with fail
              go_meet
              case rel => exact ⟨rfl, rfl⟩
            · go_wp2_with fail
              go_meet
              case rel => exact ⟨congrArg Value.bool (decide_eq_false (by omega)), rfl⟩
          case rest =>
            obtain ⟨rfl, hwc⟩ := hcut
            obtain rfl : w1 = wc := hwc.symm
            go_wp2_with (go_at_call 66; refine (HC.out w1 (HD.out.below HB1.out)).mono ?_; rintro r w2 ⟨rfl, hd2, hb2⟩)
            refine bodyPost_ret (v := .int .i64 e2) (by simp [results, Try.results39, go_sem]) rfl ?_
            exact ⟨rfl, hmo hd2, (Only.of_below HB1.out).trans hb2⟩
  · rw [appendE, appendK, if_neg h0, if_neg h0]
    have hne : (readyE k [x] == 0) = false := by simpa using fun e => h0 (.inl e)
    have hne2 : (readyE k [x] == 22) = false := by simpa using fun e => h0 (.inr e)
    have HD := Lib.hid h
    obtain ⟨e, he⟩ : ∃ e, readyE k [x] = e := ⟨_, rfl⟩
    rw [he] at HR hne hne2 h0 ⊢
    have n1 : (e != 0) = true := by simpa using fun h => h0 (.inl h)
    have n2 : (e != 22) = true := by simpa using fun h => h0 (.inr h)
    clear h hA he h0 hv hlen
    go_enter Try.func39, Try.ntmps39
    go_wp2_with (go_at_call 50; refine HR.out.mono ?_; rintro r w1 ⟨rfl, hb1⟩)
    refine bodyPost_ret (v := .int .i64 e) (by simp [results, Try.results39, go_sem]) rfl ?_
    exact ⟨rfl, hmo ((HD.out.below HA.out).below hb1), Only.of_below (HA.out.trans (hb1.mono HA.out.size))⟩
theorem append_nil (x : Nm) (v : Value) (w : World) : Calls Try.prog 39 #[.pointer none, .string ⟨x.toArray⟩, v] w fun r w' => r = .returned (.int .i64 1) ∧ Below w.heap.size w w' := by
  have hA : Below w.heap.size w (w.alloc (.cells #[.string ⟨x.toArray⟩] 9)) := (Below.refl _ _).alloc (Nat.le_refl _) _
  go_enter Try.func39, Try.ntmps39
  go_wp2_with (go_at_call 50; refine (ready_nil _ _).mono ?_; rintro r w1 ⟨rfl, rfl⟩)
  refine bodyPost_ret (v := .int .i64 1) (by simp [results, Try.results39, go_sem]) rfl ?_
  exact ⟨rfl, hA⟩
end Go.Proofs.Ytiffgjodbcploaa
end
section
namespace Go.Proofs.Ytiffgjodbcploaa
open Go.RowKit Go.BigFrame Go.Sort Go.Shelf Go.Lib Go.Maps
attribute [local go_sem ↓] Go.wp_at_zero Go.wp_at_succ
theorem FileV.mapped {w w' : World} {F : Nat → Prop} {mb n : Nat} {D : DataW Unit} {f : Fd} (h : FileV w F f) (hm : w.ownsMap Try.prog 9 ptrR mb n D) (hg : w.grownBy w' (some mb)) : FileV w' F f := by
  have keep : ∀ (i : Nat) (cs : Array Value) (t : TypeId), w.heap[i]? = some (.cells cs t (0, 0)) → w'.heap[i]? = w.heap[i]? := fun i cs t hi => hg.block i (Array.getElem?_eq_some_iff.1 hi).1 fun e => by
    injection e with e
    exact map_ne hi hm e
  exact ⟨(keep _ _ _ h.cells).trans h.cells, h.own.kept fun g hg => by obtain ⟨_, ⟨cs, hc⟩, _⟩ := h.own.blk hg; exact keep g cs _ hc, h.lo⟩
theorem Only.mapped {F : Nat → Prop} {a w w' : World} {mb : Nat} (h : Only F a w) (hg : w.grownBy w' (some mb)) (hm : F mb) : Only F a w' :=
  h.trans ((Only.of_grown hg).mono fun i hi => by injection hi with hi; rw [← hi]; exact hm)
theorem lenP_some {d : Dk} {x : Nm} {f : Fd} (h : findF x d.ns = some f) : lenP d.pk x = f.data.length := by
  unfold lenP
  rw [show findP x d.pk.fs = (findF x d.ns).map Fd.fl from findP_map x d.ns, h]
  rfl
theorem changed_len {d : Dk} {k : Pk} (hd : d.pk = changeK k) (x : Nm) : lenP k x = lenP d.pk x := by
  unfold lenP
  rw [hd, (changeK_fs k).1]
end Go.Proofs.Ytiffgjodbcploaa
end
section
namespace Go.Proofs.Ytiffgjodbcploaa
open Go.RowKit
/-- the files' bytes that were not synced. -/
def Fl.loose (f : Fl) : Int := (f.data.length : Int) - f.synced
/-- the rest by the first number, as the plan has it. -/
def modP (z m : Int) : Int := if z.tmod m < 0 then z.tmod m + m else z.tmod m
def keptN (f : Fl) : List Int → Int
  | [] => 0
  | z :: _ => modP z (f.loose + 1)
def cutP (f : Fl) (n : Int) : Fl := { f with data := f.data.take (f.synced + n).toNat, synced := f.synced + n }
/-- behind i files: the files, the numbers left, the count of bytes. -/
def revSt (fs : List Fl) (keep : List Int) (b : Int) : Nat → List Fl × List Int × Int
  | 0 => (fs, keep, b)
  | i + 1 =>
    let s := revSt fs keep b i
    match s.1[i]? with
    | none => s
    | some f => if f.loose = 0 then s else (s.1.set i (cutP f (keptN f s.2.1)), s.2.1.tail, wrap64 (s.2.2 - (f.loose - keptN f s.2.1)))
def okFs (fs : List Fl) : Prop := ∀ f ∈ fs, 0 ≤ f.synced ∧ f.synced ≤ f.data.length
theorem modP_range {z m : Int} (h : 0 < m) : 0 ≤ modP z m ∧ modP z m < m := by
  unfold modP
  have h1 := Int.tmod_lt_of_pos z h
  have h2 : -m < z.tmod m := by
    have := Int.tmod_lt_of_pos (-z) h
    rw [Int.neg_tmod] at this
    omega
  split <;> omega
theorem kept_range {f : Fl} (h1 : f.synced ≤ f.data.length) (ks : List Int) : 0 ≤ keptN f ks ∧ keptN f ks ≤ f.loose := by
  have hl : 0 ≤ f.loose := by unfold Fl.loose; omega
  cases ks with
  | nil => exact ⟨Int.le_refl _, hl⟩
  | cons z ks =>
    have := modP_range (z := z) (m := f.loose + 1) (by omega)
    show 0 ≤ modP z (f.loose + 1) ∧ modP z (f.loose + 1) ≤ f.loose
    omega
theorem rev_len (fs : List Fl) (keep : List Int) (b : Int) (i : Nat) : (revSt fs keep b i).1.length = fs.length := by
  induction i with
  | zero => rfl
  | succ i ih =>
    unfold revSt
    dsimp only
    split
    · exact ih
    · split
      · exact ih
      · rw [List.length_set]; exact ih
theorem rev_later (fs : List Fl) (keep : List Int) (b : Int) (i j : Nat) (h : i ≤ j) : (revSt fs keep b i).1[j]? = fs[j]? := by
  induction i with
  | zero => rfl
  | succ i ih =>
    unfold revSt
    dsimp only
    split
    · exact ih (by omega)
    · split
      · exact ih (by omega)
      · rw [List.getElem?_set_ne (by omega)]; exact ih (by omega)
theorem rev_names (fs : List Fl) (keep : List Int) (b : Int) (i : Nat) : (revSt fs keep b i).1.map Fl.name = fs.map Fl.name := by
  induction i with
  | zero => rfl
  | succ i ih =>
    unfold revSt
    dsimp only
    split
    · exact ih
    · rename_i f hf
      split
      · exact ih
      · rw [List.map_set]
        show ((revSt fs keep b i).1.map Fl.name).set i f.name = _
        rw [ih]
        have h1 := rev_later fs keep b i i (Nat.le_refl _)
        rw [hf] at h1
        have h2 : (fs.map Fl.name)[i]? = some f.name := by rw [List.getElem?_map, ← h1]; rfl
        refine List.ext_getElem? fun j => ?_
        rw [List.getElem?_set]
        split
        · rename_i e
          subst e
          rw [h2, if_pos (List.getElem?_eq_some_iff.1 h2).1]
        · rfl
theorem rev_step {fs : List Fl} {keep : List Int} {b : Int} {i : Nat} {f : Fl} (h : fs[i]? = some f) : revSt fs keep b (i + 1) = if f.loose = 0 then revSt fs keep b i else ((revSt fs keep b i).1.set i (cutP f (keptN f (revSt fs keep b i).2.1)), (revSt fs keep b i).2.1.tail, wrap64 ((revSt fs keep b i).2.2 - (f.loose - keptN f (revSt fs keep b i).2.1))) := by
  have h1 := rev_later fs keep b i i (Nat.le_refl _)
  rw [h] at h1
  show (match (revSt fs keep b i).1[i]? with | none => _ | some f => _) = _
  rw [h1]
/-- what Revive makes of the disk. -/
def reviveK (k : Pk) (ops room : Int) (keep : List Int) : Pk := ⟨(revSt k.fs k.keep k.bytes k.fs.length).1, ops, room, keep, 0, (revSt k.fs k.keep k.bytes k.fs.length).2.2, false⟩
theorem updP_set {fs : List Fl} {i : Nat} {f : Fl} (hd : fs.Pairwise fun a b => a.name ≠ b.name) (h : fs[i]? = some f) (g : Fl → Fl) : updP f.name g fs = fs.set i (g f) := by
  induction fs generalizing i with
  | nil => simp at h
  | cons a l ih =>
    have ha := (List.pairwise_cons.1 hd).1
    cases i with
    | zero =>
      simp at h
      subst h
      show (if a.name = a.name then g a else a) :: updP a.name g l = _
      rw [if_pos rfl]
      show g a :: updP a.name g l = g a :: l
      congr 1
      unfold updP
      conv => rhs; rw [← List.map_id l]
      refine List.map_congr_left fun x hx => ?_
      rw [if_neg fun e => ha x hx e.symm]
      rfl
    | succ i =>
      have h' : l[i]? = some f := by simpa using h
      have hne : ¬ a.name = f.name := ha f (List.mem_of_getElem? h')
      show (if a.name = f.name then g a else a) :: updP f.name g l = _
      rw [if_neg hne, ih (List.pairwise_cons.1 hd).2 h']
      rfl
end Go.Proofs.Ytiffgjodbcploaa
end
section
namespace Go.Proofs.Ytiffgjodbcploaa
open Go.RowKit Go.BigFrame Go.Sort Go.Shelf Go.Lib Go.Maps
attribute [local go_sem ↓] Go.wp_at_zero Go.wp_at_succ
theorem ne_loose {x : Int} {l s : Nat} (h : x = (l : Int) - s) (hu : ¬ s = l) : ¬ x = 0 := by omega
theorem IntsIn.only' {w w' : World} {T S : Nat → Prop} {v : Value} {xs : List Int} (h : IntsIn w T v xs) (ho : Only S w w') (hd : ∀ i, T i → ¬ S i) : IntsIn w' T v xs := by
  obtain ⟨A, c, e, h1, h2, h3⟩ := h
  exact ⟨A, c, e, h1, h2, h3.only ho fun i _ hi => hd i hi⟩
/-- the state of the loop. -/
structure RevInv (w1 : World) (F : Nat → Prop) (p mb : Nat) (kv : Value) (k : Pk) (i : Nat) (v5 : Value) (w : World) : Prop where
  disk : ∃ d, DiskV w F p mb kv d ∧ d.pk = { k with fs := (revSt k.fs k.keep k.bytes i).1, bytes := (revSt k.fs k.keep k.bytes i).2.2 }
  keep : KeepV w F v5 (revSt k.fs k.keep k.bytes i).2.1
  only : Only F w1 w
theorem RevInv.step {w1 w w' : World} {F : Nat → Prop} {p mb i : Nat} {kv v5 : Value} {k : Pk} (h : RevInv w1 F p mb kv k i v5 w) (hb : Below w.heap.size w w') : RevInv w1 F p mb kv k i v5 w' := by
  obtain ⟨⟨d, h1, h2⟩, h3, h4⟩ := h
  exact ⟨⟨d, h1.below hb, h2⟩, h3.kept fun g cs _ hc => hb.block g (Array.getElem?_eq_some_iff.1 hc).1, h4.trans (Only.of_below hb)⟩
theorem RevInv.skip {w1 w : World} {F : Nat → Prop} {p mb i : Nat} {kv v5 : Value} {k : Pk} (h : RevInv w1 F p mb kv k i v5 w) {f : Fl} (hf : k.fs[i]? = some f) (hl : f.loose = 0) : RevInv w1 F p mb kv k (i + 1) v5 w := by
  obtain ⟨h1, h2, h3⟩ := h
  refine ⟨?_, ?_, h3⟩ <;> rw [rev_step hf, if_pos hl] <;> assumption
theorem KeepV.tail {w : World} {F : Nat → Prop} {g o n c : Nat} {z : Int} {ks : List Int} (h : KeepV w F (.slice (some ⟨g, o, none⟩) n c) (z :: ks)) : KeepV w F (.slice (some ⟨g, o + 1, none⟩) (n - 1) (c - 1)) ks := by
  obtain ⟨A, c', hE, h1, h2, h3⟩ := h
  injection hE with e1 e2 e3
  subst e1 e2 e3
  obtain ⟨g', o', cs, e1, e2, e3, e4⟩ := h3 (by simp)
  injection e1 with e1
  injection e1 with e1 e5 _
  subst e1 e5
  simp only [List.length_cons] at h1 h2
  exact ⟨some ⟨g, o + 1, none⟩, c - 1, by simp, by omega, by omega, fun _ => ⟨g, o + 1, cs, rfl, e2, e3, fun j z hj => by rw [Nat.add_assoc, Nat.add_comm 1 j]; exact e4 (j + 1) z (by simpa using hj)⟩⟩
theorem KeepV.tail1 {w : World} {F : Nat → Prop} {A : Option Addr} {n : Nat} {z : Int} {ks : List Int} (h : KeepV w F (.slice A n 1) (z :: ks)) : KeepV w F (.slice A (n - 1) 0) ks := by
  obtain ⟨A', c', hE, h1, h2, h3⟩ := h
  injection hE with e1 e2 e3
  subst e1 e2 e3
  have : ks = [] := List.eq_nil_of_length_eq_zero (by rw [List.length_cons] at h1; omega)
  subst this
  exact ⟨A, 0, rfl, Nat.le_refl _, by simp, fun h => absurd h (by simp)⟩
theorem OwnB.cut {w : World} {F : Nat → Prop} {A : Option Addr} {n c m : Nat} {bs : List UInt8} (h : OwnB w F (.slice A n c) bs) (hm : m ≤ bs.length) : OwnB w F (.slice A m m) (bs.take m) := by
  obtain ⟨A', c', hE, h1, h2, h3, h4⟩ := h
  injection hE with e1 e2 e3
  subst e1 e2 e3
  have hl : (bs.take m).length = m := by rw [List.length_take]; omega
  refine ⟨A, m, by rw [hl], by omega, by omega, by omega, ?_⟩
  rcases h4 with h4 | ⟨g, cur, e1, e2, e3, e4, e5⟩
  · exact .inl (by omega)
  · refine .inr ⟨g, cur, e1, e2, e3, by omega, ?_⟩
    rw [hl, List.map_take]
    have := congrArg (List.take m) e5
    rw [List.take_take] at this
    rwa [Nat.min_eq_left hm] at this
theorem modP_neg {z m : Int} (h0 : 0 < m) (h1 : m ≤ 140737488355329) (h : z.tmod m < 0) : wrap64 (z.tmod m + m) = modP z m := by
  have h2 := modP_range (z := z) h0
  unfold modP at h2 ⊢
  rw [if_pos h] at h2 ⊢
  unfold wrap64
  omega
theorem modP_pos {z m : Int} (h : ¬ z.tmod m < 0) : z.tmod m = modP z m := by unfold modP; rw [if_neg h]
theorem KeepV.none_at (w : World) (F : Nat → Prop) (A : Option Addr) : KeepV w F (.slice A 0 0) [] := ⟨A, 0, rfl, Nat.le_refl _, by simp, fun h => absurd h (by simp)⟩
/-- the file of a round. -/
theorem RevInv.file {w1 w : World} {F : Nat → Prop} {p mb i : Nat} {kv v5 : Value} {k : Pk} (h : RevInv w1 F p mb kv k i v5 w) {f0 : Fl} (hf : k.fs[i]? = some f0) : ∃ d f, DiskV w F p mb kv d ∧ d.pk = { k with fs := (revSt k.fs k.keep k.bytes i).1, bytes := (revSt k.fs k.keep k.bytes i).2.2 } ∧ f.fl = f0 ∧ findF f0.name d.ns = some f := by
  obtain ⟨⟨d, h1, h2⟩, _, _⟩ := h
  have h3 : d.pk.fs[i]? = some f0 := by rw [h2]; exact (rev_later k.fs k.keep k.bytes i i (Nat.le_refl _)).trans hf
  have h4 : (d.ns.map Fd.fl)[i]? = some f0 := h3
  rw [List.getElem?_map] at h4
  cases hx : d.ns[i]? with
  | none => rw [hx] at h4; cases h4
  | some f =>
    rw [hx] at h4
    have e : f.fl = f0 := by simpa using h4
    refine ⟨d, f, h1, h2, e, ?_⟩
    rw [← e]
    exact find_mem h1.sorted (List.mem_of_getElem? hx)
end Go.Proofs.Ytiffgjodbcploaa
end
section
namespace Go.Proofs.Ytiffgjodbcploaa
open Go.RowKit Go.BigFrame Go.Sort Go.Shelf Go.Lib Go.Maps
attribute [local go_sem ↓] Go.wp_at_zero Go.wp_at_succ
theorem step_append_own_at {w : World} {ops : Array Oper} {o : Oper} {a : Act} {K : Act → World → Prop} {Q : Exit → Act → World → Prop} {E : Prop} (hgd : o.guard = none) (s x : Operand) (t : TypeId)
    (ho : o.op = .call { callee := .builtin .append, args := #[s, x], argTypes := #[t, t] })
    (base : Nat) (e : TypeId) (i : TypeInfo) (z : Value) (size bytes : Nat) (ht : Try.prog.underlying t = some (.slice e)) (hi : Try.prog.info? e = some i) (hz : i.zero = some z)
    (hsize : i.size = size) (hby : i.bytes = bytes) (hzs : z.cells.size = size) (hsz : 0 < size)
    (v : Value) (n : Nat) (xs : List Value) (hs : a.eval s = v) (hown : w.ownsRow base e size v n xs)
    (ad : Addr) (m c : Nat) (news : List Value) (hx : a.eval x = .slice (some ad) m c) (hl : news.length = m * size) (hnews : ∀ j u, news[j]? = some u → w.cell? (ad.add j) = some u) (h1 : ∀ u ∈ news, u.oneCell' = true)
    (h63 : n + m ≤ maxLen) (hbytes : (n + m) * bytes ≤ 140737488355328) (hbase : base ≤ w.heap.size)
    (hK : ∀ v' w', w'.ownsRow base e size v' (n + m) (xs ++ news) → w.grownBy w' v.ownBlock → (v'.ownBlock = v.ownBlock ∨ v'.ownBlock = some w.heap.size) → K (a.put o.dst v') w') :
    if Region.wanted o (yielded ops a.tmps) = true then Oper.wp Try.prog o a w K Q else E := by
  have hw : Region.wanted o (yielded ops a.tmps) = true := by simp [Region.wanted, hgd]
  rw [if_pos hw]
  obtain ⟨v', w', hr, h2, h3, h4, h5⟩ := run_append_own_at (P := Try.prog) w base t o.type e i z size bytes ht hi hz hsize hby hzs hsz v n xs hown ad m c news hl hnews h1 h63 hbytes hbase
  unfold Oper.wp execOp
  simp only [ho, resolve, invoke, builtin, Sem.run_bind, Sem.run_pure, Result.andThen_ok, List.map_toArray, List.map_cons, List.map_nil, hs, hx, hr]
  exact hK v' w' h2 h3 h5
theorem fr.byt {W w' : World} (h : fr W w') {S : Nat → Prop} {v : Value} {bs : List UInt8} (hv : Byt W S v bs) : Byt w' S v bs := hv.below h
theorem fr.two {W w' : World} {p q : Addr} {a b : Value} (h : fr W w') (c0 : W.cell? p = some a) (c3 : W.cell? q = some b) : w'.cell? p = some a ∧ w'.cell? q = some b := ⟨h.cell c0, h.cell c3⟩
theorem fr.grown {W w' w2 : World} {B i j : Nat} {a b : Value} {g : Option Nat} (h : fr W w') (c0 : W.cell? ⟨B, i, none⟩ = some a) (c3 : W.cell? ⟨B, j, none⟩ = some b) (hg : w'.grownBy w2 g) (hne : ¬ g = some B) :
    w2.cell? ⟨B, i, none⟩ = some a ∧ w2.cell? ⟨B, j, none⟩ = some b := by
  have hlt : B < W.heap.size := World.block_lt_of_cell? W _ c0
  have hb := hg.block B (by have := Below.size h; omega) (fun e => hne e.symm)
  exact ⟨(World.cell?_of_block (w' := w2) (w := w') (a := ⟨B, i, none⟩) hb).trans (h.cell c0), (World.cell?_of_block (w' := w2) (w := w') (a := ⟨B, j, none⟩) hb).trans (h.cell c3)⟩
theorem cells_new (w : World) (cs : List Value) (t : TypeId) : ∀ j u, cs[j]? = some u → (w.alloc (.cells cs.toArray t)).cell? ((⟨w.heap.size, 0, none⟩ : Addr).add j) = some u := by
  intro j u hu
  rw [Addr.add_lit, World.cell?_alloc_at _ _ _ _ rfl]
  simpa using hu
theorem Row.monoLt {w : World} {S S' : Nat → Prop} {A : Option Addr} {n sz : Nat} {xs : List Value} (h : Row w S A n sz xs) (hS : ∀ i, i < w.heap.size → S i → S' i) : Row w S' A n sz xs :=
  ⟨h.1, fun hn => by obtain ⟨b, o, e, h1, hb, hc⟩ := h.2 hn; exact ⟨b, o, e, hS b hb h1, hb, hc⟩⟩
theorem Row.push {w w2 : World} {S S' : Nat → Prop} {v' row : Value} {A : Option Addr} {n sz : Nat} {xs : List Value} (h : Row w S A n sz xs) (hg : w.grownBy w2 row.ownBlock) (hat : v'.ownBlock = row.ownBlock ∨ v'.ownBlock = some w.heap.size)
    (hne : ∀ i, i < w.heap.size → S i → row.ownBlock ≠ some i) (hS : ∀ i, i < w.heap.size → S i → v'.ownBlock ≠ some i → S' i) : Row w2 S' A n sz xs := by
  have h1 : Row w (fun i => S i ∧ i < w.heap.size) A n sz xs := h.monoLt fun i hi hs => ⟨hs, hi⟩
  have h2 : Row w2 (fun i => S i ∧ i < w.heap.size) A n sz xs := h1.only (S := fun i => row.ownBlock = some i) ⟨hg.os, hg.tape, hg.output, hg.size, fun i hi hS => hg.block i hi (fun e => hS e.symm)⟩ (fun i hi hT => hne i hi hT.1)
  refine h2.mono fun i hi => hS i hi.2 hi.1 (fun e => ?_)
  rcases hat with h | h
  · exact hne i hi.2 hi.1 (h ▸ e)
  · rw [h] at e
    injection e with e
    omega
/-- how an element reads: its cells, in memory of a set. -/
abbrev Rd (α : Type) := World → (Nat → Prop) → α → List Value → Prop
structure Fine {α : Type} (R : Rd α) (k : Nat) : Prop where
  len : ∀ {w S x cs}, R w S x cs → cs.length = k
  keep : ∀ {w w' : World} {S S' : Nat → Prop} {x cs}, R w S x cs → (∀ A n sz xs, Row w S A n sz xs → Row w' S' A n sz xs) → R w' S' x cs
inductive All2 {α β : Type} (P : α → β → Prop) : List α → List β → Prop
  | nil : All2 P [] []
  | cons {a b l m} : P a b → All2 P l m → All2 P (a :: l) (b :: m)
theorem All2.imp {α β : Type} {P Q : α → β → Prop} (h : ∀ a b, P a b → Q a b) {l : List α} {m : List β} (hl : All2 P l m) : All2 Q l m := by
  induction hl with
  | nil => exact .nil
  | cons h1 _ ih => exact .cons (h _ _ h1) ih
theorem All2.snoc {α β : Type} {P : α → β → Prop} {l : List α} {m : List β} {a : α} {b : β} (hl : All2 P l m) (h : P a b) : All2 P (l ++ [a]) (m ++ [b]) := by
  induction hl with
  | nil => exact .cons h .nil
  | cons h1 _ ih => exact .cons h1 ih
theorem All2.length {α β : Type} {P : α → β → Prop} {l : List α} {m : List β} (hl : All2 P l m) : l.length = m.length := by
  induction hl with
  | nil => rfl
  | cons _ _ ih => simp [ih]
theorem All2.at_ {α β : Type} {P : α → β → Prop} {l : List α} {m : List β} (hl : All2 P l m) {i : Nat} {a : α} (hi : l[i]? = some a) : ∃ b, m[i]? = some b ∧ P a b := by
  induction hl generalizing i with
  | nil => simp at hi
  | cons h1 _ ih =>
    cases i with
    | zero => simp at hi; subst hi; exact ⟨_, rfl, h1⟩
    | succ i => exact ih (by simpa using hi)
theorem flat_at {k : Nat} {css : List (List Value)} (h : ∀ cs ∈ css, cs.length = k) {i j : Nat} {cs : List Value} {u : Value} (hi : css[i]? = some cs) (hj : cs[j]? = some u) : css.flatten[i * k + j]? = some u := by
  induction css generalizing i with
  | nil => simp at hi
  | cons a l ih =>
    have ha : a.length = k := h a List.mem_cons_self
    rw [List.flatten_cons]
    cases i with
    | zero =>
      simp at hi
      subst hi
      rw [Nat.zero_mul, Nat.zero_add, List.getElem?_append_left (List.getElem?_eq_some_iff.1 hj).1]
      exact hj
    | succ i =>
      rw [List.getElem?_append_right (by rw [ha, Nat.succ_mul]; omega), ha, show (i + 1) * k + j - k = i * k + j by rw [Nat.succ_mul]; omega]
      exact ih (fun cs hc => h cs (List.mem_cons_of_mem _ hc)) (by simpa using hi)
section
variable {α : Type} {R : Rd α} {k bytes : Nat}
/-- a slice of structs. -/
def Rows (R : Rd α) (k bytes : Nat) (w : World) (S : Nat → Prop) (v : Value) (xs : List α) : Prop :=
  ∃ A c css, v = .slice A xs.length c ∧ xs.length ≤ c ∧ c ≤ 9223372036854775807 ∧ xs.length * bytes ≤ 140737488355328 ∧ Row w S A xs.length k css.flatten ∧ All2 (R w S) xs css
theorem Rows.keep (hR : Fine R k) {w w' : World} {S S' : Nat → Prop} {v : Value} {xs : List α} (h : Rows R k bytes w S v xs) (hk : ∀ A n sz ys, Row w S A n sz ys → Row w' S' A n sz ys) : Rows R k bytes w' S' v xs := by
  obtain ⟨A, c, css, e, h1, h2, h3, h4, h5⟩ := h
  exact ⟨A, c, css, e, h1, h2, h3, hk _ _ _ _ h4, h5.imp fun _ _ hx => hR.keep hx hk⟩
theorem Rows.below (hR : Fine R k) {w w' : World} {S : Nat → Prop} {v : Value} {xs : List α} (h : Rows R k bytes w S v xs) (hb : Below w.heap.size w w') : Rows R k bytes w' S v xs := h.keep hR fun _ _ _ _ hr => hr.below hb
theorem Rows.only (hR : Fine R k) {w w' : World} {T S : Nat → Prop} {v : Value} {xs : List α} (h : Rows R k bytes w T v xs) (ho : Only S w w') (hd : ∀ i, T i → ¬ S i) : Rows R k bytes w' T v xs := h.keep hR fun _ _ _ _ hr => hr.only ho fun i _ hi => hd i hi
theorem Rows.mono (hR : Fine R k) {w : World} {S S' : Nat → Prop} {v : Value} {xs : List α} (h : Rows R k bytes w S v xs) (hS : ∀ i, S i → S' i) : Rows R k bytes w S' v xs := h.keep hR fun _ _ _ _ hr => hr.mono hS
theorem Rows.lt (hR : Fine R k) {w : World} {S : Nat → Prop} {v : Value} {xs : List α} (h : Rows R k bytes w S v xs) : Rows R k bytes w (fun i => i < w.heap.size) v xs := h.keep hR fun _ _ _ _ hr => hr.monoLt fun _ hi _ => hi
theorem Rows.form {w : World} {S : Nat → Prop} {v : Value} {xs : List α} (h : Rows R k bytes w S v xs) : ∃ A c, v = .slice A xs.length c := by
  obtain ⟨A, c, _, e, _⟩ := h
  exact ⟨A, c, e⟩
theorem Rows.at_ (hR : Fine R k) {w : World} {S : Nat → Prop} {A : Option Addr} {n c : Nat} {xs : List α} (h : Rows R k bytes w S (.slice A n c) xs) {i : Nat} {x : α} (hi : xs[i]? = some x) :
    ∃ b o cs, A = some ⟨b, o, none⟩ ∧ b < w.heap.size ∧ S b ∧ R w S x cs ∧ ∀ j u, cs[j]? = some u → w.cell? ⟨b, o + (i * k + j), none⟩ = some u := by
  obtain ⟨A', c', css, hE, h1, h2, h3, h4, h5⟩ := h
  injection hE with e1 e2 e3
  subst e1
  have hlt := (List.getElem?_eq_some_iff.1 hi).1
  obtain ⟨b, o, rfl, hS, hb, hc⟩ := h4.2 (by omega)
  obtain ⟨cs, hcs, hx⟩ := h5.at_ hi
  have hall : ∀ cs ∈ css, cs.length = k := fun cs hm => by
    obtain ⟨j, hj⟩ := List.getElem?_of_mem hm
    have hjl : j < xs.length := by rw [h5.length]; exact (List.getElem?_eq_some_iff.1 hj).1
    obtain ⟨cs', h', hx'⟩ := h5.at_ (List.getElem?_eq_getElem hjl)
    rw [hj] at h'
    injection h' with h'
    subst h'
    exact hR.len hx'
  exact ⟨b, o, cs, rfl, hb, hS, hx, fun j u hu => hc _ _ (flat_at hall hcs hu)⟩
/-- what a row of the call's own holds: bytes in new blocks that may be written to, none of them the row's. -/
def freshL (w : World) (base : Nat) (v : Value) (i : Nat) : Prop := base ≤ i ∧ v.ownBlock ≠ some i ∧ Loose w i
def OwnRows (R : Rd α) (k : Nat) (t : TypeId) (w : World) (base : Nat) (v : Value) (xs : List α) : Prop := ∃ css, w.ownsRow base t k v xs.length css.flatten ∧ All2 (R w (freshL w base v)) xs css
theorem OwnRows.nil (t : TypeId) (w : World) (base : Nat) : OwnRows R k t w base (.slice none 0 0) [] := ⟨[], World.ownsRow_nil _ _ _ _, .nil⟩
theorem OwnRows.below (hR : Fine R k) {t : TypeId} {w w' : World} {base : Nat} {v : Value} {xs : List α} (h : OwnRows R k t w base v xs) (hb : Below w.heap.size w w') : OwnRows R k t w' base v xs := by
  obtain ⟨css, h1, h2⟩ := h
  exact ⟨css, own_below h1 hb, h2.imp fun _ _ hx => hR.keep hx fun _ _ _ _ hr => (hr.below hb).mono fun i hi => ⟨hi.1, hi.2.1, hi.2.2.below hb⟩⟩
theorem OwnRows.push (hR : Fine R k) {base : Nat} {wr w1 w2 : World} {v v' : Value} {xs : List α} {css : List (List Value)} {x : α} {cs : List Value} {o : Obj} {t : TypeId} (hown : wr.ownsRow base t k v xs.length css.flatten) (hys : All2 (R wr (freshL wr base v)) xs css) (hb1 : Below wr.heap.size wr w1)
    (hx : R w1 (fun i => wr.heap.size ≤ i ∧ Loose w1 i) x cs) (hbase : base ≤ wr.heap.size) (hg : (w1.alloc o).grownBy w2 v.ownBlock) (hat : v'.ownBlock = v.ownBlock ∨ v'.ownBlock = some (w1.alloc o).heap.size) (hown' : w2.ownsRow base t k v' (xs.length + 1) (css.flatten ++ cs)) :
    OwnRows R k t w2 base v' (xs ++ [x]) := by
  have hal : Below w1.heap.size w1 (w1.alloc o) := (Below.refl _ _).alloc (Nat.le_refl _) _
  have hz := hb1.size
  refine ⟨css ++ [cs], by rw [List.length_append, List.flatten_append]; simpa using hown', (hys.imp fun _ _ hy => hR.keep hy fun A n sz ys hr => ?_).snoc (hR.keep hx fun A n sz ys hr => ?_)⟩
  · exact ((hr.below hb1).below hal).push (row := v) hg hat (fun i _ hs => hs.2.1) (fun i _ hs hn => ⟨hs.1, hn, ((hs.2.2.below hb1).alloc o).grown hg hs.2.1⟩)
  · exact (hr.below hal).push (row := v) hg hat (fun i _ hs e => by have := hown.lt i e; omega) (fun i _ hs hn => ⟨by omega, hn, (hs.2.alloc o).grown hg (fun e => by have := hown.lt i e; omega)⟩)
theorem OwnRows.rows (hR : Fine R k) {t : TypeId} {w : World} {base : Nat} {v : Value} {xs : List α} (h : OwnRows R k t w base v xs) (hl : xs.length * bytes ≤ 140737488355328) : Rows R k bytes w (fun i => base ≤ i ∧ i < w.heap.size) v xs := by
  obtain ⟨css, h1, h2⟩ := h
  have h3 : All2 (R w (fun i => base ≤ i ∧ i < w.heap.size)) xs css := h2.imp fun _ _ hx => hR.keep hx fun _ _ _ _ hr => hr.mono fun i hi => ⟨hi.1, hi.2.2.lt⟩
  rcases h1.2 with ⟨rfl, h0⟩ | ⟨g, cap, cur, rfl, hbg, hh, hcap, hcm, _⟩
  · have : xs = [] := List.eq_nil_of_length_eq_zero h0
    subst this
    exact ⟨none, 0, css, rfl, Nat.le_refl _, by omega, by simp, ⟨h1.1, fun h => absurd h (by simp)⟩, h3⟩
  · have hlt : g < w.heap.size := (Array.getElem?_eq_some_iff.1 hh).1
    refine ⟨_, _, css, rfl, hcap, by unfold maxLen at hcm; omega, hl, ⟨h1.1, fun _ => ⟨g, 0, rfl, ⟨hbg, hlt⟩, hlt, fun j u hu => ?_⟩⟩, h3⟩
    have := h1.cells (g := g) rfl j u hu
    rwa [Addr.add_lit] at this
end
/-- a file as the interface has it. -/
def flR : Rd Fl := fun w S f cs => ∃ v, cs = [.string ⟨f.name.toArray⟩, v, .int .i64 f.synced] ∧ Byt w S v f.data ∧ f.name.length ≤ 140737488355328
theorem Byt.keepR {w w' : World} {S S' : Nat → Prop} {v : Value} {bs : List UInt8} (h : Byt w S v bs) (hk : ∀ A n sz xs, Row w S A n sz xs → Row w' S' A n sz xs) : Byt w' S' v bs := by
  obtain ⟨A, c, e, h1, h2, h3, h4⟩ := h
  exact ⟨A, c, e, h1, h2, h3, hk _ _ _ _ h4⟩
theorem flFine : Fine flR 3 := ⟨fun h => by obtain ⟨v, rfl, _⟩ := h; rfl, fun h hk => by obtain ⟨v, rfl, h1, h2⟩ := h; exact ⟨v, rfl, h1.keepR hk, h2⟩⟩
abbrev FilesV (w : World) (S : Nat → Prop) (v : Value) (fs : List Fl) : Prop := Rows flR 3 48 w S v fs
abbrev OwnFiles (w : World) (base : Nat) (v : Value) (fs : List Fl) : Prop := OwnRows flR 3 171 w base v fs
theorem infoF : (Try.prog.info? 171).map (fun i => (i.zero, i.size, i.bytes)) = some (some (.agg #[.string ⟨#[]⟩, .slice none 0 0, .int .i64 0]), 3, 48) := by kernel_rfl
end Go.Proofs.Ytiffgjodbcploaa
end
section
namespace Go.Proofs.Ytiffgjodbcploaa
open Go.RowKit
def EntVL (w : World) (lo : Nat) (v : Value) (e : Ent) : Prop := ∃ k u, v = .agg #[k, .int .i64 e.seq, .bool e.dead, u] ∧ BytL w lo k e.key ∧ BytL w lo u e.val
theorem freshL_push {wr w1 w2 : World} {base : Nat} {v v' : Value} {o : Obj} (hb1 : Below wr.heap.size wr w1) (hg : (w1.alloc o).grownBy w2 v.ownBlock) {i : Nat} (h : freshL wr base v i) (hn : v'.ownBlock ≠ some i) : freshL w2 base v' i :=
  ⟨h.1, hn, ((h.2.2.below hb1).alloc o).grown hg h.2.1⟩
theorem new_push {wr w1 w2 : World} {base : Nat} {v v' : Value} {o : Obj} (hbase : base ≤ wr.heap.size) (hv : ∀ g, v.ownBlock = some g → g < wr.heap.size) (hg : (w1.alloc o).grownBy w2 v.ownBlock) {i : Nat} (h : wr.heap.size ≤ i ∧ Loose w1 i) (hn : v'.ownBlock ≠ some i) : freshL w2 base v' i :=
  ⟨by omega, hn, (h.2.alloc o).grown hg (fun e => by have := hv i e; omega)⟩
def FreshE (w : World) (base : Nat) (v : Value) (ys : List Value) (es : List Ent) : Prop := EntCells w (freshL w base v) ys es
theorem FreshE.below {w w' : World} {base : Nat} {v : Value} {ys : List Value} {es : List Ent} (h : FreshE w base v ys es) (hb : Below w.heap.size w w') : FreshE w' base v ys es :=
  EntCells.mono (S := freshL w base v) (EntCells.below (S := freshL w base v) h hb) fun _ hi => ⟨hi.1, hi.2.1, hi.2.2.below hb⟩
theorem FreshE.push {base : Nat} {wr w1 w2 : World} {v v' k u : Value} {n : Nat} {ys : List Value} {es : List Ent} {e : Ent} {o : Obj} {t : TypeId} (hown : wr.ownsRow base t 4 v n ys) (hys : FreshE wr base v ys es) (hb1 : Below wr.heap.size wr w1)
    (hk : BytL w1 wr.heap.size k e.key) (hu : BytL w1 wr.heap.size u e.val) (hbase : base ≤ wr.heap.size) (hg : (w1.alloc o).grownBy w2 v.ownBlock) (hat : v'.ownBlock = v.ownBlock ∨ v'.ownBlock = some (w1.alloc o).heap.size) :
    FreshE w2 base v' (ys ++ [k, .int .i64 e.seq, .bool e.dead, u]) (es ++ [e]) := by
  have hal : Below w1.heap.size w1 (w1.alloc o) := (Below.refl _ _).alloc (Nat.le_refl _) _
  have hz := hb1.size
  have old : ∀ x bs, Byt wr (freshL wr base v) x bs → Byt w2 (freshL w2 base v') x bs := fun x bs h =>
    ((h.below hb1).below hal).push hg hat (fun i _ hs => hs.2.1) (fun i _ hs hn => freshL_push hb1 hg hs hn)
  have new : ∀ x bs, BytL w1 wr.heap.size x bs → Byt w2 (freshL w2 base v') x bs := fun x bs h =>
    (Byt.below (S := fun i => wr.heap.size ≤ i ∧ Loose w1 i) h hal).push hg hat (fun i _ hs e => by have := hown.lt i e; omega) (fun i _ hs hn => new_push hbase (fun g hg => (hown.lt g hg).2) hg hs hn)
  exact (EntCells.imp (S := freshL wr base v) hys old).append (EntCells.one (new _ _ hk) (new _ _ hu))
def OwnE (w : World) (base : Nat) (v : Value) (es : List Ent) : Prop := ∃ ys, w.ownsRow base 34 4 v es.length ys ∧ FreshE w base v ys es
theorem OwnE.nil (w : World) (base : Nat) : OwnE w base (.slice none 0 0) [] := ⟨[], World.ownsRow_nil _ _ _ _, trivial⟩
end Go.Proofs.Ytiffgjodbcploaa
end
section
namespace Go.Proofs.Ytiffgjodbcploaa
open Go.RowKit Go.BigFrame
attribute [local go_sem ↓] Go.wp_at_zero Go.wp_at_succ
/-- blocks of T alone have turned, and bytes there are still xs many bytes. -/
structure Spoil (T : Nat → Prop) (w w' : World) : Prop where
  only : Only T w w'
  byt : ∀ v bs, Byt w T v bs → ∃ bs' : List UInt8, bs'.length = bs.length ∧ Byt w' T v bs'
  loose : ∀ i, Loose w i → Loose w' i
theorem Spoil.refl (T : Nat → Prop) (w : World) : Spoil T w w := ⟨Only.refl _ _, fun _ bs h => ⟨bs, rfl, h⟩, fun _ h => h⟩
theorem Spoil.trans {T : Nat → Prop} {a b c : World} (h : Spoil T a b) (k : Spoil T b c) : Spoil T a c :=
  ⟨h.only.trans k.only, fun v bs hb => by
    obtain ⟨b1, l1, h1⟩ := h.byt v bs hb
    obtain ⟨b2, l2, h2⟩ := k.byt v b1 h1
    exact ⟨b2, by omega, h2⟩, fun i hi => k.loose i (h.loose i hi)⟩
theorem Spoil.drew {T : Nat → Prop} {w : World} : Spoil T w w.drew := ⟨(Only.refl _ _).drew, fun _ bs h => ⟨bs, rfl, h⟩, fun _ h => h⟩
theorem Spoil.store {T : Nat → Prop} {w : World} {b p : Nat} (hT : T b) (hL : Loose w b) (c : UInt8) : Spoil T w (w.setCell ⟨b, p, none⟩ (bcell c)) := by
  obtain ⟨cs, hh⟩ := hL
  have hs := heap_setCell_same w b p cs _ (bcell c) hh
  refine ⟨(only_set w b p (bcell c)).mono fun i hi => hi ▸ hT, fun v bs h => ?_, fun i hi => ?_⟩
  · obtain ⟨A, ca, rfl, h1, h2, h3, hr⟩ := h
    rcases Nat.eq_zero_or_pos bs.length with h0 | h0
    · have : bs = [] := List.eq_nil_of_length_eq_zero h0
      subst this
      exact ⟨[], rfl, A, ca, rfl, h1, h2, h3, Row.nil _ _ _ _⟩
    · obtain ⟨b', o, rfl, hS, hlt, hc⟩ := hr.2 h0
      by_cases hbb : b' = b
      · subst hbb
        refine ⟨if o ≤ p then bs.set (p - o) c else bs, by split <;> simp, some ⟨b', o, none⟩, ca, by split <;> simp, by split <;> simpa using h1, h2, by split <;> simpa using h3, by split <;> simp, fun _ => ⟨b', o, rfl, hS, by simpa [World.setCell] using hlt, fun j u hu => ?_⟩⟩
        rw [cell_of_row _ _ _ _ _ _ hs]
        have key : ∀ j u, (bs.map bcell)[j]? = some u → cs[o + j]? = some u := fun j u hu => by
          have := hc j u hu
          rwa [cell_of_row _ _ _ _ _ _ hh] at this
        by_cases hop : o ≤ p
        · rw [if_pos hop, List.map_set, List.getElem?_set] at hu
          by_cases hj : p - o = j
          · rw [if_pos hj] at hu
            split at hu
            · rename_i hjl
              simp only [Option.some.injEq] at hu
              have hjl' : j < bs.length := by simpa [hj] using hjl
              obtain ⟨u0, hu0⟩ : ∃ u, (bs.map bcell)[j]? = some u := ⟨_, List.getElem?_eq_getElem (by simpa using hjl')⟩
              have h5 := (Array.getElem?_eq_some_iff.1 (key j u0 hu0)).1
              rw [show o + j = p by omega] at h5 ⊢
              rw [Array.getElem?_setIfInBounds_self, if_pos h5, hu]
            · cases hu
          · rw [if_neg hj] at hu
            rw [Array.getElem?_setIfInBounds_ne (by omega)]
            exact key j u hu
        · rw [if_neg hop] at hu
          rw [Array.getElem?_setIfInBounds_ne (by omega)]
          exact key j u hu
      · refine ⟨bs, rfl, some ⟨b', o, none⟩, ca, rfl, h1, h2, h3, hr.1, fun _ => ⟨b', o, rfl, hS, by simpa [World.setCell] using hlt, fun j u hu => ?_⟩⟩
        rw [World.cell?_of_block (w' := w.setCell ⟨b, p, none⟩ (bcell c)) (w := w) (a := ⟨b', o + j, none⟩) (heap_setCell_other w ⟨b, p, none⟩ b' _ hbb)]
        exact hc j u hu
  · by_cases hib : i = b
    · subst hib; exact ⟨_, hs⟩
    · exact hi.of_eq (heap_setCell_other w ⟨b, p, none⟩ i _ hib)
theorem u8_next (c : UInt8) : Value.int .u8 (((c.toNat : Int) + 1) % 256) = bcell (c + 1) := by
  unfold bcell
  have : ((c.toNat : Int) + 1) % 256 = ((c + 1).toNat : Int) := by simp [UInt8.toNat_add]
  rw [this]
theorem Loose.frozen {w : World} {b p : Nat} (h : Loose w b) : w.frozen? ⟨b, p, none⟩ = false := by
  obtain ⟨cs, h⟩ := h
  exact frozen_of_row w b p cs _ h
end Go.Proofs.Ytiffgjodbcploaa
end
