/-
vdisk's Read, List, Sync, Delete, Rename.
-/
import Derived.Test.YtcmjoaepihbodaaDkG
namespace Go.Proofs.Ytcmjoaepihbodaa
open Go.RowKit Go.BigFrame Go.Sort Go.Shelf Go.Lib Go.Maps
attribute [local go_sem ↓] Go.wp_at_zero Go.wp_at_succ

theorem strs1 (w : World) (x : Nm) : Strs (w.alloc (.cells #[.string ⟨x.toArray⟩] 9)) (fun _ => True) (.slice (some ⟨w.heap.size, 0, none⟩) 1 1) [x] := by
  refine ⟨_, _, rfl, Nat.le_refl _, by omega, by simp, fun _ => ⟨w.heap.size, 0, rfl, trivial, by simp, fun j u hu => ?_⟩⟩
  rw [World.cell?_alloc_at _ _ _ _ rfl]
  simpa [encStr] using hu
theorem strs2 (w : World) (x y : Nm) : Strs (w.alloc (.cells #[.string ⟨x.toArray⟩, .string ⟨y.toArray⟩] 9)) (fun _ => True) (.slice (some ⟨w.heap.size, 0, none⟩) 2 2) [x, y] := by
  refine ⟨_, _, rfl, Nat.le_refl _, by omega, by simp, fun _ => ⟨w.heap.size, 0, rfl, trivial, by simp, fun j u hu => ?_⟩⟩
  rw [World.cell?_alloc_at _ _ _ _ rfl]
  simpa [encStr] using hu
theorem readyE_zero {d : Dk} {x : Nm} {l : List Nm} (h : readyE d.pk (x :: l) = 0) : d.down = false ∧ (x :: l).all nameB = true ∧ ∃ f, findF x d.ns = some f := by
  unfold readyE at h
  split at h
  · cases h
  · rename_i h1
    split at h
    · cases h
    · rename_i h2
      dsimp only at h
      refine ⟨by simpa [Dk.pk] using h1, by simpa using h2, ?_⟩
      have e : findP x d.pk.fs = (findF x d.ns).map Fd.fl := findP_map x d.ns
      rw [e] at h
      cases hx : findF x d.ns with
      | none => rw [hx] at h; cases h
      | some f => exact ⟨f, rfl⟩
def readD (k : Pk) (x : Nm) : List UInt8 := match findP x k.fs with | some f => f.data | none => []
theorem readD_some {d : Dk} {x : Nm} {f : Fd} (h : findF x d.ns = some f) : readD d.pk x = f.data := by
  unfold readD
  rw [show findP x d.pk.fs = (findF x d.ns).map Fd.fl from findP_map x d.ns, h]
  rfl
theorem DiskV.file {w : World} {F : Nat → Prop} {p mb : Nat} {kv : Value} {d : Dk} (h : DiskV w F p mb kv d) {x : Nm} {f : Fd} (hf : findF x d.ns = some f) : w.cell? ⟨f.blk, 0, none⟩ = some f.sl ∧ w.cell? ⟨f.blk, 1, none⟩ = some (.int .i64 f.synced) ∧ (∀ i, w.frozen? ⟨f.blk, i, none⟩ = false) ∧ FileV w F f := by
  have hv := h.files f (find_name hf).2
  exact ⟨by rw [cell_of_row w _ _ _ _ _ hv.cells]; rfl, by rw [cell_of_row w _ _ _ _ _ hv.cells]; rfl, fun i => frozen_of_row w _ i _ _ hv.cells, hv⟩

set_option maxRecDepth 100000 in
set_option maxHeartbeats 2000000 in
theorem read_nil (x : Nm) (w : World) : Calls Try.prog 19 #[.pointer none, .string ⟨x.toArray⟩] w fun r w' => r = .returned (.tuple #[.slice none 0 0, .int .i64 1]) ∧ Below w.heap.size w w' := by
  have hA : Below w.heap.size w (w.alloc (.cells #[.string ⟨x.toArray⟩] 9)) := (Below.refl _ _).alloc (Nat.le_refl _) _
  go_enter Try.func19, Try.ntmps19
  go_wp2_with (go_at_call 34; refine (ready_nil _ _).mono ?_; rintro r w1 ⟨rfl, rfl⟩)
  refine bodyPost_ret (v := .tuple #[.slice none 0 0, .int .i64 1]) (by simp [results, Try.results19, go_sem]) rfl ?_
  exact ⟨rfl, hA⟩
set_option maxRecDepth 100000 in
set_option maxHeartbeats 2000000 in
theorem read_any (F : Nat → Prop) (p : Nat) (k : Pk) (x : Nm) (w : World) (h : DiskP w F p k) (hx : x.length ≤ 140737488355328) :
    Calls Try.prog 19 #[.pointer (some ⟨p, 0, none⟩), .string ⟨x.toArray⟩] w fun r w' => ∃ v, r = .returned (.tuple #[v, .int .i64 (readyE k [x])]) ∧ BytL w' w.heap.size v (if readyE k [x] = 0 then readD k x else []) ∧ Below w.heap.size w w' := by
  obtain ⟨mb, kv, d, h, rfl⟩ := h
  have H := Lib.hid h
  have hA : Below w.heap.size w (w.alloc (.cells #[.string ⟨x.toArray⟩] 9)) := (Below.refl _ _).alloc (Nat.le_refl _) _
  have HR := Lib.hid (ready_any F p d.pk (fun _ => True) _ [x] _ (DiskP.below ⟨mb, kv, d, h, rfl⟩ hA) (strs1 w x) (fun y hy => by simp at hy; rw [hy]; exact hx))
  have HZ := Lib.hid (fun hz : readyE d.pk [x] = 0 => readyE_zero hz)
  obtain ⟨e, he⟩ : ∃ e, readyE d.pk [x] = e := ⟨_, rfl⟩
  rw [he] at HR HZ ⊢
  have HA := Lib.hid hA
  clear h hA he
  by_cases h0 : e = 0
  · subst h0
    obtain ⟨_, _, f, hf⟩ := HZ.out rfl
    rw [if_pos rfl, readD_some hf]
    have HF := Lib.hid hf
    clear hf HZ
    go_enter Try.func19, Try.ntmps19
    go_upto_region 4 with (go_at_call 34; refine HR.out.mono ?_; rintro r w1 ⟨rfl, hb1⟩)
    have hv := (H.out.below HA.out).below hb1
    obtain ⟨x0, _⟩ := hv.cell
    have hlk := hv.look x hx
    rw [HF.out] at hlk
    obtain ⟨f0, f1, ff, hfv⟩ := hv.file HF.out
    have HFV := Lib.hid hfv.own.byt
    obtain ⟨Af, cf, hfs⟩ := hfv.own.form
    rw [hfs] at f0 HFV
    unfold ptrF at hlk
    have HB1 := Lib.hid (HA.out.trans (hb1.mono HA.out.size))
    clear hv hfv hb1 hfs
    go_wp2_with (go_at_call 30; refine (bcloneL_any _ _ f.data _ HFV.out).mono ?_; rintro r w2 ⟨v', rfl, hv', hb2⟩)
    refine bodyPost_ret (v := .tuple #[v', .int .i64 0]) (by simp [results, Try.results19, go_sem]) rfl ?_
    exact ⟨_, rfl, hv'.mono HB1.out.size, HB1.out.trans (hb2.mono HB1.out.size)⟩
  · rw [if_neg h0]
    have hne : (e != 0) = true := by simpa using h0
    have hne' : (e == 0) = false := by simpa using h0
    clear HZ h0
    go_enter Try.func19, Try.ntmps19
    go_wp2_with (go_at_call 34; refine HR.out.mono ?_; rintro r w1 ⟨rfl, hb1⟩)
    refine bodyPost_ret (v := .tuple #[.slice none 0 0, .int .i64 e]) (by simp [results, Try.results19, go_sem]) rfl ?_
    exact ⟨_, rfl, BytL.nil _ _, HA.out.trans (hb1.mono HA.out.size)⟩
end Go.Proofs.Ytcmjoaepihbodaa
