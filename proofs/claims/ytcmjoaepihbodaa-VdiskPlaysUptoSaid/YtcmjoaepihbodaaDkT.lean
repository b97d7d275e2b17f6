/-
vdisk's Sync, Delete.
-/
import Derived.Test.YtcmjoaepihbodaaDkS
namespace Go.Proofs.Ytcmjoaepihbodaa
open Go.RowKit Go.BigFrame Go.Sort Go.Shelf Go.Lib Go.Maps
attribute [local go_sem ↓] Go.wp_at_zero Go.wp_at_succ

theorem crashes_e {k : Pk} (h : changeE k = 0) : crashes k = false := by
  unfold changeE at h
  split at h
  · cases h
  · rename_i h1; simpa using h1
theorem crashes_n {k : Pk} (h : ¬ changeE k = 0) : crashes k = true := by
  unfold changeE at h
  split at h
  · assumption
  · exact absurd rfl h
theorem changeK_e {k : Pk} (h : changeE k = 0) : changeK k = { k with done := k.done + 1 } := by rw [changeK, if_neg (by rw [crashes_e h]; simp)]
theorem changed_find {d d' : Dk} {x : Nm} {f : Fd} (hd : d'.pk = changeK d.pk) (hf : findF x d.ns = some f) : ∃ f', findF x d'.ns = some f' ∧ f'.fl = f.fl := by
  have h1 : findP x d'.pk.fs = findP x d.pk.fs := by rw [hd]; unfold changeK; split <;> rfl
  rw [show findP x d'.pk.fs = (findF x d'.ns).map Fd.fl from findP_map x d'.ns, show findP x d.pk.fs = (findF x d.ns).map Fd.fl from findP_map x d.ns, hf] at h1
  cases hx : findF x d'.ns with
  | none => rw [hx] at h1; cases h1
  | some f' => rw [hx] at h1; exact ⟨f', rfl, by simpa using h1⟩

theorem pk_upd {d : Dk} {x : Nm} {f : Fd} (hs : sortedF d.ns) (hf : findF x d.ns = some f) (G : Fd → Fd) (g : Fl → Fl) (h : (G f).fl = g f.fl) : Dk.pk { d with ns := updF f.name G d.ns } = updK d.pk x g := by
  have hn := (find_name hf).1
  have key : (updF f.name G d.ns).map Fd.fl = updP x g (d.ns.map Fd.fl) := by
    unfold updF updP
    rw [List.map_map, List.map_map, hn]
    refine List.map_congr_left fun a ha => ?_
    show (if a.name = x then G a else a).fl = if a.name = x then g a.fl else a.fl
    split
    · rename_i e
      rw [sorted_name hs ha (find_name hf).2 (e.trans hn.symm), h]
    · rfl
  unfold Dk.pk updK
  rw [key]

set_option maxRecDepth 100000 in
set_option maxHeartbeats 4000000 in
theorem sync_any (F : Nat → Prop) (p : Nat) (k : Pk) (x : Nm) (w : World) (h : DiskP w F p k) (hx : x.length ≤ 140737488355328) (hd : 0 ≤ k.done) (hd' : k.done < 4611686018427387904) :
    Calls Try.prog 22 #[.pointer (some ⟨p, 0, none⟩), .string ⟨x.toArray⟩] w fun r w' => r = .returned (.int .i64 (syncE k x)) ∧ DiskP w' F p (syncK k x) ∧ Only F w w' := by
  have hA : Below w.heap.size w (w.alloc (.cells #[.string ⟨x.toArray⟩] 9)) := (Below.refl _ _).alloc (Nat.le_refl _) _
  have HR := Lib.hid (ready_any F p k (fun _ => True) _ [x] _ (h.below hA) (strs1 w x) (fun y hy => by simp at hy; rw [hy]; exact hx))
  have HD := Lib.hid h
  have HA := Lib.hid hA
  by_cases h0 : readyE k [x] = 0
  · have e1 : syncE k x = changeE k := by rw [syncE, if_pos h0]
    have e2 : syncK k x = if crashes k = true then changeK k else updK (changeK k) x fun f => { f with synced := f.data.length } := by rw [syncK, if_pos h0]
    rw [e1, e2]
    rw [h0] at HR
    have HC := Lib.hid fun w1 (hw : DiskP w1 F p k) => change_any F p k w1 hw hd hd'
    have H0 := Lib.hid h0
    clear e1 e2 h hA
    by_cases hc : changeE k = 0
    · rw [if_neg (by rw [crashes_e hc]; simp)]
      have HCE := Lib.hid hc
      rw [hc] at HC ⊢
      clear hc h0
      go_enter Try.func22, Try.ntmps22
      go_upto_region 7 with (first
        | (go_at_call 34; refine HR.out.mono ?_; rintro r w1 ⟨rfl, hb1⟩)
        | (go_at_call 35; refine (HC.out w1 ((HD.out.below HA.out).below hb1)).mono ?_; rintro r w2 ⟨rfl, hd2, hb2⟩))
      obtain ⟨mb0, kv0, d0, hv0, rfl⟩ := HD.out
      obtain ⟨_, _, f0, hf0⟩ := readyE_zero H0.out
      obtain ⟨mb, kv, d, hv, hpk⟩ := hd2
      obtain ⟨f, hf, hfl⟩ := changed_find hpk hf0
      obtain ⟨x0, _⟩ := hv.cell
      have hlk := hv.look x hx
      rw [hf] at hlk
      obtain ⟨y0, y1, yf, hfv⟩ := hv.file hf
      obtain ⟨Af, cf, hfs⟩ := hfv.own.form
      rw [hfs] at y0
      unfold ptrF at hlk
      have HV := Lib.hid hv
      have HFV := Lib.hid hfv
      have HF := Lib.hid hf
      have HPK := Lib.hid hpk
      have HFS := Lib.hid hfs
      have hlof := hfv.lo
      have HBB : Hid (Only F w w2) := Lib.hid ((Only.of_below (HA.out.trans (hb1.mono HA.out.size))).trans hb2)
      clear hv hfv hf hpk hfs hf0 hfl hv0 hb1 hb2
      go_wp2
      refine bodyPost_ret (v := .int .i64 0) (by simp [results, Try.results22, go_sem]) rfl ?_
      have hnm := (find_name HF.out).1
      have hup := HV.out.upd (F' := F) (fun _ hi => hi) (find_name HF.out).2 (data' := f.data) (synced' := f.data.length) (sl' := f.sl) (w' := w2.setCell ⟨f.blk, 1, none⟩ (.int .i64 f.data.length)) ((Only.refl _ _).setCell (p := ⟨f.blk, 1, none⟩) (.inl rfl) _)
        (heap_setCell_same w2 f.blk 1 _ _ _ HFV.out.cells) (HFV.out.own.kept fun g hg => heap_setCell_other w2 ⟨f.blk, 1, none⟩ g _ (by obtain ⟨_, ⟨cs, hL⟩, _⟩ := HFV.out.own.blk hg; exact cells_ne hL HFV.out.cells (by decide))) (fun g hg => .inl hg)
      refine ⟨rfl, ⟨_, _, _, hup, ?_⟩, HBB.out.setCell (p := ⟨f.blk, 1, none⟩) hlof _⟩
      rw [pk_upd HV.out.sorted HF.out _ (fun f => { f with synced := f.data.length }) rfl, HPK.out]
    · have hcr := crashes_n hc
      rw [if_pos hcr]
      have hne : (changeE k == 0) = false := by simpa using hc
      obtain ⟨e, he⟩ : ∃ e, changeE k = e := ⟨_, rfl⟩
      rw [he] at HC hne hc ⊢
      clear h0 hcr he
      go_enter Try.func22, Try.ntmps22
      go_wp2_with (first
        | (go_at_call 34; refine HR.out.mono ?_; rintro r w1 ⟨rfl, hb1⟩)
        | (go_at_call 35; refine (HC.out w1 ((HD.out.below HA.out).below hb1)).mono ?_; rintro r w2 ⟨rfl, hd2, hb2⟩))
      refine bodyPost_ret (v := .int .i64 e) (by simp [results, Try.results22, go_sem]) rfl ?_
      exact ⟨rfl, hd2, (Only.of_below (HA.out.trans (hb1.mono HA.out.size))).trans hb2⟩
  · have e1 : syncE k x = readyE k [x] := by rw [syncE, if_neg h0]
    have e2 : syncK k x = k := by rw [syncK, if_neg h0]
    rw [e1, e2]
    have hne : (readyE k [x] == 0) = false := by simpa using h0
    obtain ⟨e, he⟩ : ∃ e, readyE k [x] = e := ⟨_, rfl⟩
    rw [he] at HR hne h0 ⊢
    clear e1 e2 h hA he
    go_enter Try.func22, Try.ntmps22
    go_wp2_with (go_at_call 34; refine HR.out.mono ?_; rintro r w1 ⟨rfl, hb1⟩)
    refine bodyPost_ret (v := .int .i64 e) (by simp [results, Try.results22, go_sem]) rfl ?_
    exact ⟨rfl, (HD.out.below HA.out).below hb1, Only.of_below (HA.out.trans (hb1.mono HA.out.size))⟩
theorem sync_nil (x : Nm) (w : World) : Calls Try.prog 22 #[.pointer none, .string ⟨x.toArray⟩] w fun r w' => r = .returned (.int .i64 1) ∧ Below w.heap.size w w' := by
  have hA : Below w.heap.size w (w.alloc (.cells #[.string ⟨x.toArray⟩] 9)) := (Below.refl _ _).alloc (Nat.le_refl _) _
  go_enter Try.func22, Try.ntmps22
  go_wp2_with (go_at_call 34; refine (ready_nil _ _).mono ?_; rintro r w1 ⟨rfl, rfl⟩)
  refine bodyPost_ret (v := .int .i64 1) (by simp [results, Try.results22, go_sem]) rfl ?_
  exact ⟨rfl, hA⟩
end Go.Proofs.Ytcmjoaepihbodaa
