/-
What a crash leaves of the files: as plain data.
-/
import Derived.Test.YtcmjoaepihbodaaQPOwnU4
section
namespace Go.Proofs.Ytcmjoaepihbodaa
open Go.RowKit Go.BigFrame Go.Sort Go.Shelf Go.Lib Go.Maps
attribute [local go_sem ↓] Go.wp_at_zero Go.wp_at_succ
theorem FileV.mapped {w w' : World} {F : Nat → Prop} {mb n : Nat} {D : DataW Unit} {f : Fd} (h : FileV w F f) (hm : w.ownsMap Try.prog 9 ptrR mb n D) (hg : w.grownBy w' (some mb)) : FileV w' F f := by
  have keep : ∀ (i : Nat) (cs : Array Value) (t : TypeId), w.heap[i]? = some (.cells cs t (0, 0)) → w'.heap[i]? = w.heap[i]? := fun i cs t hi => hg.block i (Array.getElem?_eq_some_iff.1 hi).1 fun e => by
    injection e with e
    exact map_ne hi hm e
  exact ⟨(keep _ _ _ h.cells).trans h.cells, h.own.kept fun g hg => by obtain ⟨_, ⟨cs, hc⟩, _⟩ := h.own.blk hg; exact keep g cs _ hc, h.lo⟩
theorem Only.mapped {F : Nat → Prop} {a w w' : World} {mb : Nat} (h : Only F a w) (hg : w.grownBy w' (some mb)) (hm : F mb) : Only F a w' :=
  h.trans ((Only.of_grown hg).mono fun i hi => by injection hi with hi; rw [← hi]; exact hm)
theorem lenP_some {d : Dk} {x : Nm} {f : Fd} (h : findF x d.ns = some f) : lenP d.pk x = f.data.length := by
  unfold lenP
  rw [show findP x d.pk.fs = (findF x d.ns).map Fd.fl from findP_map x d.ns, h]
  rfl
theorem changed_len {d : Dk} {k : Pk} (hd : d.pk = changeK k) (x : Nm) : lenP k x = lenP d.pk x := by
  unfold lenP
  rw [hd, (changeK_fs k).1]
set_option maxRecDepth 100000 in
set_option maxHeartbeats 4000000 in
theorem delete_any (F : Nat → Prop) (p : Nat) (k : Pk) (x : Nm) (w : World) (h : DiskP w F p k) (hx : x.length ≤ 140737488355328) (hd : 0 ≤ k.done) (hd' : k.done < 4611686018427387904) :
    Calls Try.prog 24 #[.pointer (some ⟨p, 0, none⟩), .string ⟨x.toArray⟩] w fun r w' => r = .returned (.int .i64 (syncE k x)) ∧ DiskP w' F p (deleteK k x) ∧ Only F w w' := by
  have hA : Below w.heap.size w (w.alloc (.cells #[.string ⟨x.toArray⟩] 9)) := (Below.refl _ _).alloc (Nat.le_refl _) _
  have HR := Lib.hid (ready_any F p k (fun _ => True) _ [x] _ (h.below hA) (strs1 w x) (fun y hy => by simp at hy; rw [hy]; exact hx))
  have HD := Lib.hid h
  have HA := Lib.hid hA
  by_cases h0 : readyE k [x] = 0
  · have e1 : syncE k x = changeE k := by rw [syncE, if_pos h0]
    have e2 : deleteK k x = if crashes k = true then changeK k else { changeK k with fs := delP x k.fs, bytes := wrap64 (k.bytes - lenP k x) } := by rw [deleteK, if_pos h0]
    rw [e1, e2]
    rw [h0] at HR
    have HC := Lib.hid fun w1 (hw : DiskP w1 F p k) => change_any F p k w1 hw hd hd'
    have H0 := Lib.hid h0
    clear e1 e2 h hA
    by_cases hc : changeE k = 0
    · rw [if_neg (by rw [crashes_e hc]; simp)]
      rw [hc] at HC ⊢
      clear hc h0
      go_enter Try.func24, Try.ntmps24
      go_upto_region 7 with (first
        | (go_at_call 34; refine HR.out.mono ?_; rintro r w1 ⟨rfl, hb1⟩)
        | (go_at_call 35; refine (HC.out w1 ((HD.out.below HA.out).below hb1)).mono ?_; rintro r w2 ⟨rfl, hd2, hb2⟩))
      obtain ⟨mb0, kv0, d0, hv0, rfl⟩ := HD.out
      obtain ⟨_, _, f0, hf0⟩ := readyE_zero H0.out
      obtain ⟨mb, kv, d, hv, hpk⟩ := hd2
      obtain ⟨f, hf, hfl⟩ := changed_find hpk hf0
      obtain ⟨x0, _, _, _, _, x5, _⟩ := hv.cell
      have xf := hv.frozen
      have hlk := hv.look x hx
      have hlk' := (hv.below (Below.refl _ _).drew).look x hx
      rw [hf] at hlk hlk'
      obtain ⟨y0, y1, yf, hfv⟩ := hv.file hf
      obtain ⟨Af, cf, hfs⟩ := hfv.own.form
      rw [hfs] at y0
      unfold ptrF at hlk hlk'
      have HV := Lib.hid hv
      have HF := Lib.hid hf
      have HPK := Lib.hid hpk
      have HBB : Hid (Only F w w2) := Lib.hid ((Only.of_below (HA.out.trans (hb1.mono HA.out.size))).trans hb2)
      clear hv hfv hf hpk hfs hf0 hfl hv0 hb1 hb2
      go_region
      have hst := (HV.out.store 5 (.int .i64 (wrap64 (d.bytes - f.data.length))) { d with bytes := wrap64 (d.bytes - f.data.length) } kv rfl HV.out.keep rfl).below (Below.refl _ _).drew
      have hon : Only F w (w2.setCell ⟨p, 5, none⟩ (.int .i64 (wrap64 (d.bytes - f.data.length)))).drew := (HBB.out.setCell (p := ⟨p, 5, none⟩) HV.out.loP _).drew
      obtain ⟨W, hW⟩ : ∃ W, W = (w2.setCell ⟨p, 5, none⟩ (.int .i64 (wrap64 (d.bytes - f.data.length)))).drew := ⟨_, rfl⟩
      rw [← hW] at hst hon ⊢
      obtain ⟨u0, _⟩ := hst.cell
      obtain ⟨D, hm, hD, hT⟩ := hst.tidy
      have HST := Lib.hid hst
      have HON := Lib.hid hon
      have HM := Lib.hid hm
      have HT := Lib.hid (And.intro hD hT)
      clear hst hon hm hD hT hW x0 x5 xf hlk hlk' y0 y1 yf
      go_wp2_with (at_delete; refine wpList_delete_own _ rfl _ _ 70 9 rfl 69 law_str Try.underlying70 ptrR mb d.ns.length D rfl HM.out _ _ rfl (key_str x hx) ?_; intro w4 hown4 hturn4; have HO4 := Lib.hid hown4; have HT4 := Lib.hid hturn4; clear hown4 hturn4)
      refine bodyPost_ret (v := .int .i64 0) (by simp [results, Try.results24, go_sem]) rfl ?_
      have hdel := HST.out.del HT.out.1 HT.out.2 HT4.out.grown HO4.out
      have h3 := HPK.out
      have o1 : d.pk.ops = (changeK d0.pk).ops := by rw [h3]
      have o2 : d.pk.room = (changeK d0.pk).room := by rw [h3]
      have o3 : d.pk.keep = (changeK d0.pk).keep := by rw [h3]
      have o4 : d.pk.done = (changeK d0.pk).done := by rw [h3]
      have o6 : d.pk.down = (changeK d0.pk).down := by rw [h3]
      refine ⟨rfl, ⟨_, _, _, hdel, pk_ext ?_ o1 o2 o3 o4 ?_ o6⟩, HON.out.trans ((Only.of_grown HT4.out.grown).mono fun i hi => by injection hi with hi; rw [← hi]; exact HV.out.loM)⟩
      · show (delF x d.ns).map Fd.fl = delP x d0.pk.fs
        rw [← delP_map, ← (changeK_fs d0.pk).1, ← h3]
        rfl
      · show wrap64 (d.bytes - f.data.length) = wrap64 (d0.pk.bytes - lenP d0.pk x)
        rw [changed_len h3 x, lenP_some HF.out, ← (changeK_fs d0.pk).2.1, ← h3]
        rfl
    · have hcr := crashes_n hc
      rw [if_pos hcr]
      have hne : (changeE k == 0) = false := by simpa using hc
      obtain ⟨e, he⟩ : ∃ e, changeE k = e := ⟨_, rfl⟩
      rw [he] at HC hne hc ⊢
      clear h0 hcr he
      go_enter Try.func24, Try.ntmps24
      go_wp2_with (first
        | (go_at_call 34; refine HR.out.mono ?_; rintro r w1 ⟨rfl, hb1⟩)
        | (go_at_call 35; refine (HC.out w1 ((HD.out.below HA.out).below hb1)).mono ?_; rintro r w2 ⟨rfl, hd2, hb2⟩))
      refine bodyPost_ret (v := .int .i64 e) (by simp [results, Try.results24, go_sem]) rfl ?_
      exact ⟨rfl, hd2, (Only.of_below (HA.out.trans (hb1.mono HA.out.size))).trans hb2⟩
  · have e1 : syncE k x = readyE k [x] := by rw [syncE, if_neg h0]
    have e2 : deleteK k x = k := by rw [deleteK, if_neg h0]
    rw [e1, e2]
    have hne : (readyE k [x] == 0) = false := by simpa using h0
    obtain ⟨e, he⟩ : ∃ e, readyE k [x] = e := ⟨_, rfl⟩
    rw [he] at HR hne h0 ⊢
    clear e1 e2 h hA he
    go_enter Try.func24, Try.ntmps24
    go_wp2_with (go_at_call 34; refine HR.out.mono ?_; rintro r w1 ⟨rfl, hb1⟩)
    refine bodyPost_ret (v := .int .i64 e) (by simp [results, Try.results24, go_sem]) rfl ?_
    exact ⟨rfl, (HD.out.below HA.out).below hb1, Only.of_below (HA.out.trans (hb1.mono HA.out.size))⟩
theorem delete_nil (x : Nm) (w : World) : Calls Try.prog 24 #[.pointer none, .string ⟨x.toArray⟩] w fun r w' => r = .returned (.int .i64 1) ∧ Below w.heap.size w w' := by
  have hA : Below w.heap.size w (w.alloc (.cells #[.string ⟨x.toArray⟩] 9)) := (Below.refl _ _).alloc (Nat.le_refl _) _
  go_enter Try.func24, Try.ntmps24
  go_wp2_with (go_at_call 34; refine (ready_nil _ _).mono ?_; rintro r w1 ⟨rfl, rfl⟩)
  refine bodyPost_ret (v := .int .i64 1) (by simp [results, Try.results24, go_sem]) rfl ?_
  exact ⟨rfl, hA⟩
theorem rename_nil (x y : Nm) (w : World) : Calls Try.prog 23 #[.pointer none, .string ⟨x.toArray⟩, .string ⟨y.toArray⟩] w fun r w' => r = .returned (.int .i64 1) ∧ Below w.heap.size w w' := by
  have hA : Below w.heap.size w (w.alloc (.cells #[.string ⟨x.toArray⟩, .string ⟨y.toArray⟩] 9)) := (Below.refl _ _).alloc (Nat.le_refl _) _
  go_enter Try.func23, Try.ntmps23
  go_wp2_with (go_at_call 34; refine (ready_nil _ _).mono ?_; rintro r w1 ⟨rfl, rfl⟩)
  refine bodyPost_ret (v := .int .i64 1) (by simp [results, Try.results23, go_sem]) rfl ?_
  exact ⟨rfl, hA⟩
set_option maxRecDepth 100000 in
set_option maxHeartbeats 4000000 in
theorem rename_any (F : Nat → Prop) (p : Nat) (k : Pk) (x y : Nm) (w : World) (h : DiskP w F p k) (hx : x.length ≤ 140737488355328) (hy : y.length ≤ 140737488355328) (hd : 0 ≤ k.done) (hd' : k.done < 4611686018427387904) (hmany : k.fs.length < 9223372036854775807) :
    Calls Try.prog 23 #[.pointer (some ⟨p, 0, none⟩), .string ⟨x.toArray⟩, .string ⟨y.toArray⟩] w fun r w' => r = .returned (.int .i64 (renameE k x y)) ∧ DiskP w' F p (renameK k x y) ∧ Only F w w' := by
  have hA : Below w.heap.size w (w.alloc (.cells #[.string ⟨x.toArray⟩, .string ⟨y.toArray⟩] 9)) := (Below.refl _ _).alloc (Nat.le_refl _) _
  have HR := Lib.hid (ready_any F p k (fun _ => True) _ [x, y] _ (h.below hA) (strs2 w x y) (fun z hz => by simp at hz; rcases hz with rfl | rfl <;> assumption))
  have HD := Lib.hid h
  have HA := Lib.hid hA
  by_cases h0 : readyE k [x, y] = 0
  · rw [renameE, renameK, if_pos h0, if_pos h0]
    rw [h0] at HR
    have HC := Lib.hid fun w1 (hw : DiskP w1 F p k) => change_any F p k w1 hw hd hd'
    have H0 := Lib.hid h0
    clear h hA
    by_cases hc : changeE k = 0
    · rw [if_neg (by rw [crashes_e hc]; simp)]
      rw [hc] at HC ⊢
      clear hc h0
      by_cases hxy : x = y
      · rw [if_pos hxy]
        subst hxy
        go_enter Try.func23, Try.ntmps23
        go_wp2_with (first
          | (go_at_call 34; refine HR.out.mono ?_; rintro r w1 ⟨rfl, hb1⟩)
          | (go_at_call 35; refine (HC.out w1 ((HD.out.below HA.out).below hb1)).mono ?_; rintro r w2 ⟨rfl, hd2, hb2⟩))
        refine bodyPost_ret (v := .int .i64 0) (by simp [results, Try.results23, go_sem]) rfl ?_
        exact ⟨rfl, hd2, (Only.of_below (HA.out.trans (hb1.mono HA.out.size))).trans hb2⟩
      · rw [if_neg hxy]
        have hxb : (x == y) = false := by simpa using hxy
        obtain ⟨K', hK'⟩ : ∃ K', K' = ({ changeK k with fs := renFs x y k.fs, bytes := if (findP y (delP x k.fs)).isSome = true then wrap64 (k.bytes - lenP k y) else k.bytes } : Pk) := ⟨_, rfl⟩
        rw [← hK']
        have HK := Lib.hid hK'
        clear hK'
        go_enter Try.func23, Try.ntmps23
        go_upto_region 7 with (first
          | (go_at_call 34; refine HR.out.mono ?_; rintro r w1 ⟨rfl, hb1⟩)
          | (go_at_call 35; refine (HC.out w1 ((HD.out.below HA.out).below hb1)).mono ?_; rintro r w2 ⟨rfl, hd2, hb2⟩))
        obtain ⟨mb0, kv0, d0, hv0, rfl⟩ := HD.out
        obtain ⟨_, hnm, f0, hf0⟩ := readyE_zero H0.out
        have HNY : Hid (nameB y = true) := Lib.hid (by simp at hnm; exact hnm.2)
        obtain ⟨mb, kv, d, hv, hpk⟩ := hd2
        obtain ⟨f, hf, hfl⟩ := changed_find hpk hf0
        obtain ⟨x0, _⟩ := hv.cell
        have hlk := hv.look x hx
        rw [hf] at hlk
        unfold ptrF at hlk
        have hns : d.ns.length < 9223372036854775807 := by
          rw [← map_len, hpk, (changeK_fs _).1]
          exact hmany
        have HV := Lib.hid hv
        have HF := Lib.hid hf
        have HPK := Lib.hid hpk
        have HBB : Hid (Only F w w2) := Lib.hid ((Only.of_below (HA.out.trans (hb1.mono HA.out.size))).trans hb2)
        obtain ⟨D, hm, hD, hT⟩ := hv.tidy
        have HM := Lib.hid hm
        have HT := Lib.hid (And.intro hD hT)
        obtain ⟨po, hpo⟩ : ∃ po, (findF y (delF x d.ns)).map (fun f => (⟨f.blk, 0, none⟩ : Addr)) = po := ⟨_, rfl⟩
        have HPO := Lib.hid hpo
        clear hv hf hpk hf0 hfl hv0 hb1 hb2 hm hD hT hpo hnm
        go_upto_if 47 with (at_delete; refine wpList_delete_own _ rfl _ _ 70 9 rfl 69 law_str Try.underlying70 ptrR mb d.ns.length D rfl HM.out _ _ rfl (key_str x hx) ?_; intro w4 hown4 hturn4; have hdel := HV.out.del HT.out.1 HT.out.2 hturn4.grown hown4; have v0 := hdel.cell.1; have hlk2 := hdel.look y hy; unfold ptrF at hlk2; dsimp only at hlk2; rw [HPO.out] at hlk2; have HDEL := Lib.hid hdel; have HON : Hid (Only F w w4) := Lib.hid (HBB.out.mapped hturn4.grown HV.out.loM); have HFV : Hid (FileV w4 F f) := Lib.hid ((HV.out.files f (find_name HF.out).2).mapped HM.out hturn4.grown); clear hown4 hturn4 hdel)
        go_cut [59] (fun _ wc => ∃ d5, DiskV wc F p mb kv d5 ∧ d5.ns = delF x d.ns ∧ d5.pk = { d.pk with fs := delP x d.pk.fs, bytes := if (findP y (delP x d.pk.fs)).isSome = true then wrap64 (d.pk.bytes - lenP d.pk y) else d.pk.bytes } ∧ FileV wc F f ∧ Only F w wc)
        case first =>
          have hfp : findP y (delP x d.pk.fs) = (findF y (delF x d.ns)).map Fd.fl := by
            rw [show d.pk.fs = d.ns.map Fd.fl from rfl, delP_map, findP_map]
          cases hfy : findF y (delF x d.ns) with
          | none =>
            have hpo := HPO.out
            rw [hfy] at hpo hfp
            obtain rfl : _ = po := hpo
            have HFP := Lib.hid hfp
            clear hfy hfp HPO
            go_wp2_with fail
            go_meet
            case rel =>
              refine ⟨_, HDEL.out, rfl, ?_, HFV.out, HON.out⟩
              rw [HFP.out]
              exact pk_ext (delP_map x d.ns).symm rfl rfl rfl rfl rfl rfl
          | some g =>
            have hpo := HPO.out
            rw [hfy] at hpo hfp
            obtain rfl : _ = po := hpo
            have HFP := Lib.hid hfp
            obtain ⟨y0, y1, yf, hgv⟩ := HDEL.out.file hfy
            obtain ⟨Ag, cg, hgs⟩ := hgv.own.form
            rw [hgs] at y0
            obtain ⟨_, _, _, _, _, x5, _⟩ := HDEL.out.cell
            have xf := HDEL.out.frozen
            have HGN : Hid (findF y d.ns = some g) := Lib.hid (by rw [find_del, if_neg (fun e => hxy e.symm)] at hfy; exact hfy)
            clear hfy hfp hgv hgs HPO
            go_wp2
            go_region
            go_wp2_with fail
            go_meet
            case rel =>
              have hst := (HDEL.out.store 5 (.int .i64 (wrap64 (d.bytes - g.data.length))) { d with ns := delF x d.ns, bytes := wrap64 (d.bytes - g.data.length) } kv rfl HDEL.out.keep rfl).below (Below.refl _ _).drew
              refine ⟨_, hst, rfl, ?_, ?_, (HON.out.setCell (p := ⟨p, 5, none⟩) HV.out.loP _).drew⟩
              · rw [HFP.out]
                refine pk_ext (delP_map x d.ns).symm rfl rfl rfl rfl ?_ rfl
                show wrap64 (d.bytes - g.data.length) = wrap64 (d.bytes - lenP d.pk y)
                rw [lenP_some HGN.out]
              · have h0 := HFV.out
                have hk : ∀ (i : Nat) (cs : Array Value) (t : TypeId), w4.heap[i]? = some (.cells cs t (0, 0)) → t ≠ 72 → (w4.setCell ⟨p, 5, none⟩ (.int .i64 (wrap64 (d.bytes - g.data.length)))).drew.heap[i]? = w4.heap[i]? := fun i cs t hi ht => heap_setCell_other w4 ⟨p, 5, none⟩ i _ (cells_ne hi HDEL.out.head ht)
                exact ⟨(hk _ _ _ h0.cells (by decide)).trans h0.cells, h0.own.kept fun g hg => by obtain ⟨_, ⟨cs, hc⟩, _⟩ := h0.own.blk hg; exact hk g cs _ hc (by decide), h0.lo⟩
        case rest =>
          obtain ⟨d5, hv5, hns5, hpk5, hfv5, hon5⟩ := hcut
          obtain ⟨u0, _⟩ := hv5.cell
          obtain ⟨D5, hm5, hD5, hT5⟩ := hv5.tidy
          have HV5 := Lib.hid hv5
          have HM5 := Lib.hid hm5
          have HT5 := Lib.hid (And.intro hD5 hT5)
          have HNS5 := Lib.hid hns5
          have HPK5 := Lib.hid hpk5
          have HFV5 := Lib.hid hfv5
          have HON5 := Lib.hid hon5
          have hlen5 : d5.ns.length < maxLen := by
            rw [hns5]
            have := (sub_del x d.ns).length_le
            unfold maxLen
            omega
          clear hv5 hm5 hD5 hT5 hns5 hpk5 hfv5 hon5 x0 hlk HDEL HON HFV HM HT HPO
          go_wp2_with (at_mapUpdate; refine wpList_mapUpdate_own _ rfl _ _ _ 70 rfl 9 69 law_str Try.underlying70 ptrR mb d5.ns.length D5 rfl HM5.out hlen5 _ _ _ rfl rfl (key_str y hy) (.lit (.int .i64 f.blk)) [] rfl ?_; intro w6 hown6 hgrow6; have HO6 := Lib.hid hown6; have HG6 := Lib.hid hgrow6; clear hown6 hgrow6)
          refine bodyPost_ret (v := .int .i64 0) (by simp [results, Try.results23, go_sem]) rfl ?_
          have hdist : ∀ g ∈ d5.ns, f.blk ≠ g.blk ∧ ∀ i, blkB f.sl = some i → blkB g.sl ≠ some i := fun g hg => by
            rw [HNS5.out] at hg
            obtain ⟨h1, h2⟩ := mem_del.1 hg
            exact pair_mem (R := fun a b : Fd => a.blk ≠ b.blk ∧ ∀ g, blkB a.sl = some g → blkB b.sl ≠ some g) (fun e => ⟨e.1.symm, fun g h1 h2 => e.2 g h2 h1⟩) (HV.out.blks.and HV.out.sls) (find_name HF.out).2 h1 (fun e => h2 (by rw [← e]; exact (find_name HF.out).1))
          have hins := HV5.out.ins (F' := F) (fun _ h => h) (f := ⟨y, f.data, f.synced, f.blk, f.sl⟩) HT5.out.1 HT5.out.2 HG6.out HO6.out ⟨HFV5.out.cells, HFV5.out.own, HFV5.out.lo⟩ HNY.out (fun g hg _ => (hdist g hg).1) (fun g hg _ => (hdist g hg).2)
          have h3 := HPK.out
          have h5 := HPK5.out
          rw [h3] at h5
          have o1 : d5.pk.ops = (changeK d0.pk).ops := by rw [h5]
          have o2 : d5.pk.room = (changeK d0.pk).room := by rw [h5]
          have o3 : d5.pk.keep = (changeK d0.pk).keep := by rw [h5]
          have o4 : d5.pk.done = (changeK d0.pk).done := by rw [h5]
          have o5 : d5.pk.bytes = if (findP y (delP x (changeK d0.pk).fs)).isSome = true then wrap64 ((changeK d0.pk).bytes - lenP (changeK d0.pk) y) else (changeK d0.pk).bytes := by rw [h5]
          have o6 : d5.pk.down = (changeK d0.pk).down := by rw [h5]
          have o7 : d5.pk.fs = delP x (changeK d0.pk).fs := by rw [h5]
          have hK := HK.out
          refine ⟨rfl, ⟨_, _, _, hins, ?_⟩, HON5.out.mapped HG6.out HV.out.loM⟩
          rw [hK]
          refine pk_ext ?_ o1 o2 o3 o4 ?_ o6
          · show (insF ⟨y, f.data, f.synced, f.blk, f.sl⟩ d5.ns).map Fd.fl = renFs x y d0.pk.fs
            rw [← insP_map, show d5.ns.map Fd.fl = d5.pk.fs from rfl, o7, (changeK_fs _).1]
            unfold renFs
            rw [← (changeK_fs d0.pk).1, ← h3, show findP x d.pk.fs = (findF x d.ns).map Fd.fl from findP_map x d.ns, HF.out]
            rfl
          · show d5.pk.bytes = _
            rw [o5, (changeK_fs _).1, (changeK_fs _).2.1]
            have : lenP (changeK d0.pk) y = lenP d0.pk y := by unfold lenP; rw [(changeK_fs _).1]
            rw [this]
    · have hcr := crashes_n hc
      rw [if_pos hcr]
      have hne : (changeE k == 0) = false := by simpa using hc
      obtain ⟨e, he⟩ : ∃ e, changeE k = e := ⟨_, rfl⟩
      rw [he] at HC hne hc ⊢
      have n1 : (e != 0) = true := by simpa using hc
      clear h0 hcr he
      go_enter Try.func23, Try.ntmps23
      go_wp2_with (first
        | (go_at_call 34; refine HR.out.mono ?_; rintro r w1 ⟨rfl, hb1⟩)
        | (go_at_call 35; refine (HC.out w1 ((HD.out.below HA.out).below hb1)).mono ?_; rintro r w2 ⟨rfl, hd2, hb2⟩))
      refine bodyPost_ret (v := .int .i64 e) (by simp [results, Try.results23, go_sem]) rfl ?_
      exact ⟨rfl, hd2, (Only.of_below (HA.out.trans (hb1.mono HA.out.size))).trans hb2⟩
  · rw [renameE, renameK, if_neg h0, if_neg h0]
    have hne : (readyE k [x, y] == 0) = false := by simpa using h0
    obtain ⟨e, he⟩ : ∃ e, readyE k [x, y] = e := ⟨_, rfl⟩
    rw [he] at HR hne h0 ⊢
    clear h hA he
    go_enter Try.func23, Try.ntmps23
    go_wp2_with (go_at_call 34; refine HR.out.mono ?_; rintro r w1 ⟨rfl, hb1⟩)
    refine bodyPost_ret (v := .int .i64 e) (by simp [results, Try.results23, go_sem]) rfl ?_
    exact ⟨rfl, (HD.out.below HA.out).below hb1, Only.of_below (HA.out.trans (hb1.mono HA.out.size))⟩
end Go.Proofs.Ytcmjoaepihbodaa
end
section
namespace Go.Proofs.Ytcmjoaepihbodaa
open Go.RowKit
/-- the files' bytes that were not synced. -/
def Fl.loose (f : Fl) : Int := (f.data.length : Int) - f.synced
/-- the rest by the first number, as the plan has it. -/
def modP (z m : Int) : Int := if z.tmod m < 0 then z.tmod m + m else z.tmod m
def keptN (f : Fl) : List Int → Int
  | [] => 0
  | z :: _ => modP z (f.loose + 1)
def cutP (f : Fl) (n : Int) : Fl := { f with data := f.data.take (f.synced + n).toNat, synced := f.synced + n }
/-- behind i files: the files, the numbers left, the count of bytes. -/
def revSt (fs : List Fl) (keep : List Int) (b : Int) : Nat → List Fl × List Int × Int
  | 0 => (fs, keep, b)
  | i + 1 =>
    let s := revSt fs keep b i
    match s.1[i]? with
    | none => s
    | some f => if f.loose = 0 then s else (s.1.set i (cutP f (keptN f s.2.1)), s.2.1.tail, wrap64 (s.2.2 - (f.loose - keptN f s.2.1)))
def okFs (fs : List Fl) : Prop := ∀ f ∈ fs, 0 ≤ f.synced ∧ f.synced ≤ f.data.length
theorem modP_range {z m : Int} (h : 0 < m) : 0 ≤ modP z m ∧ modP z m < m := by
  unfold modP
  have h1 := Int.tmod_lt_of_pos z h
  have h2 : -m < z.tmod m := by
    have := Int.tmod_lt_of_pos (-z) h
    rw [Int.neg_tmod] at this
    omega
  split <;> omega
theorem kept_range {f : Fl} (h1 : f.synced ≤ f.data.length) (ks : List Int) : 0 ≤ keptN f ks ∧ keptN f ks ≤ f.loose := by
  have hl : 0 ≤ f.loose := by unfold Fl.loose; omega
  cases ks with
  | nil => exact ⟨Int.le_refl _, hl⟩
  | cons z ks =>
    have := modP_range (z := z) (m := f.loose + 1) (by omega)
    show 0 ≤ modP z (f.loose + 1) ∧ modP z (f.loose + 1) ≤ f.loose
    omega
theorem rev_len (fs : List Fl) (keep : List Int) (b : Int) (i : Nat) : (revSt fs keep b i).1.length = fs.length := by
  induction i with
  | zero => rfl
  | succ i ih =>
    unfold revSt
    dsimp only
    split
    · exact ih
    · split
      · exact ih
      · rw [List.length_set]; exact ih
theorem rev_later (fs : List Fl) (keep : List Int) (b : Int) (i j : Nat) (h : i ≤ j) : (revSt fs keep b i).1[j]? = fs[j]? := by
  induction i with
  | zero => rfl
  | succ i ih =>
    unfold revSt
    dsimp only
    split
    · exact ih (by omega)
    · split
      · exact ih (by omega)
      · rw [List.getElem?_set_ne (by omega)]; exact ih (by omega)
theorem rev_names (fs : List Fl) (keep : List Int) (b : Int) (i : Nat) : (revSt fs keep b i).1.map Fl.name = fs.map Fl.name := by
  induction i with
  | zero => rfl
  | succ i ih =>
    unfold revSt
    dsimp only
    split
    · exact ih
    · rename_i f hf
      split
      · exact ih
      · rw [List.map_set]
        show ((revSt fs keep b i).1.map Fl.name).set i f.name = _
        rw [ih]
        have h1 := rev_later fs keep b i i (Nat.le_refl _)
        rw [hf] at h1
        have h2 : (fs.map Fl.name)[i]? = some f.name := by rw [List.getElem?_map, ← h1]; rfl
        refine List.ext_getElem? fun j => ?_
        rw [List.getElem?_set]
        split
        · rename_i e
          subst e
          rw [h2, if_pos (List.getElem?_eq_some_iff.1 h2).1]
        · rfl
theorem rev_step {fs : List Fl} {keep : List Int} {b : Int} {i : Nat} {f : Fl} (h : fs[i]? = some f) : revSt fs keep b (i + 1) = if f.loose = 0 then revSt fs keep b i else ((revSt fs keep b i).1.set i (cutP f (keptN f (revSt fs keep b i).2.1)), (revSt fs keep b i).2.1.tail, wrap64 ((revSt fs keep b i).2.2 - (f.loose - keptN f (revSt fs keep b i).2.1))) := by
  have h1 := rev_later fs keep b i i (Nat.le_refl _)
  rw [h] at h1
  show (match (revSt fs keep b i).1[i]? with | none => _ | some f => _) = _
  rw [h1]
/-- what Revive makes of the disk. -/
def reviveK (k : Pk) (ops room : Int) (keep : List Int) : Pk := ⟨(revSt k.fs k.keep k.bytes k.fs.length).1, ops, room, keep, 0, (revSt k.fs k.keep k.bytes k.fs.length).2.2, false⟩
theorem updP_set {fs : List Fl} {i : Nat} {f : Fl} (hd : fs.Pairwise fun a b => a.name ≠ b.name) (h : fs[i]? = some f) (g : Fl → Fl) : updP f.name g fs = fs.set i (g f) := by
  induction fs generalizing i with
  | nil => simp at h
  | cons a l ih =>
    have ha := (List.pairwise_cons.1 hd).1
    cases i with
    | zero =>
      simp at h
      subst h
      show (if a.name = a.name then g a else a) :: updP a.name g l = _
      rw [if_pos rfl]
      show g a :: updP a.name g l = g a :: l
      congr 1
      unfold updP
      conv => rhs; rw [← List.map_id l]
      refine List.map_congr_left fun x hx => ?_
      rw [if_neg fun e => ha x hx e.symm]
      rfl
    | succ i =>
      have h' : l[i]? = some f := by simpa using h
      have hne : ¬ a.name = f.name := ha f (List.mem_of_getElem? h')
      show (if a.name = f.name then g a else a) :: updP f.name g l = _
      rw [if_neg hne, ih (List.pairwise_cons.1 hd).2 h']
      rfl
end Go.Proofs.Ytcmjoaepihbodaa
end
