/-
vdisk's List.
-/
import Derived.Test.YtcmjoaepihbodaaDkE
namespace Go.Proofs.Ytcmjoaepihbodaa
open Go.RowKit Go.BigFrame Go.Sort Go.Shelf Go.Lib Go.Maps
attribute [local go_sem ↓] Go.wp_at_zero Go.wp_at_succ

/-- strings in new memory. -/
def OwnS (w : World) (base : Nat) (v : Value) (ss : List Nm) : Prop := w.ownsRow base 9 1 v ss.length (ss.map encStr)
theorem OwnS.nil (w : World) (base : Nat) : OwnS w base (.slice none 0 0) [] := World.ownsRow_nil _ _ _ _
theorem strs0 (w : World) : Strs w (fun _ => True) (.slice none 0 0) [] := ⟨_, _, rfl, Nat.le_refl _, by omega, by simp, fun h => by simp at h⟩
def listP (k : Pk) : List Nm := if k.down = true then [] else k.fs.map Fl.name

set_option maxRecDepth 100000 in
set_option maxHeartbeats 2000000 in
theorem list_nil (w : World) : Calls Try.prog 25 #[.pointer none] w fun r w' => r = .returned (.tuple #[.slice none 0 0, .int .i64 1]) ∧ Below w.heap.size w w' := by
  go_enter Try.func25, Try.ntmps25
  go_wp2_with (go_at_call 34; refine (ready_nil _ _).mono ?_; rintro r w1 ⟨rfl, rfl⟩)
  refine bodyPost_ret (v := .tuple #[.slice none 0 0, .int .i64 1]) (by simp [results, Try.results25, go_sem]) rfl ?_
  exact ⟨rfl, Below.refl _ _⟩

set_option maxRecDepth 100000 in
set_option maxHeartbeats 2000000 in
theorem list_any (F : Nat → Prop) (p : Nat) (k : Pk) (w : World) (h : DiskP w F p k) (hl : k.fs.length * 16 ≤ 140737488355328) :
    Calls Try.prog 25 #[.pointer (some ⟨p, 0, none⟩)] w fun r w' => ∃ v, r = .returned (.tuple #[v, .int .i64 (readyE k [])]) ∧ OwnS w' w.heap.size v (listP k) ∧ Below w.heap.size w w' := by
  have HR := Lib.hid (ready_any F p k (fun _ => True) _ [] w h (strs0 w) (fun y hy => by cases hy))
  obtain ⟨mb, kv, d, h, rfl⟩ := h
  have H := Lib.hid h
  clear h
  have hlen : d.ns.length * 16 ≤ 140737488355328 := by rw [← map_len]; exact hl
  cases hd : d.pk.down with
  | true =>
    have e1 : readyE d.pk [] = 20 := by unfold readyE; rw [if_pos hd]
    have e2 : listP d.pk = [] := by unfold listP; rw [if_pos hd]
    rw [e1] at HR ⊢
    rw [e2]
    clear hd e1 e2
    go_enter Try.func25, Try.ntmps25
    go_wp2_with (go_at_call 34; refine HR.out.mono ?_; rintro r w1 ⟨rfl, hb1⟩)
    refine bodyPost_ret (v := .tuple #[.slice none 0 0, .int .i64 20]) (by simp [results, Try.results25, go_sem]) rfl ?_
    exact ⟨_, rfl, OwnS.nil _ _, hb1⟩
  | false =>
    have e1 : readyE d.pk [] = 0 := by unfold readyE; rw [if_neg (by rw [hd]; simp)]; rfl
    have e2 : listP d.pk = d.ns.map Fd.name := by unfold listP; rw [if_neg (by rw [hd]; simp)]; show (d.ns.map Fd.fl).map Fl.name = _; rw [List.map_map]; rfl
    rw [e1] at HR ⊢
    rw [e2]
    clear hd e1 e2
    go_enter Try.func25, Try.ntmps25
    go_wp2_with (first
      | (go_at_call 34; refine HR.out.mono ?_; rintro r w1 ⟨rfl, hb1⟩)
      | (go_at_call 32; refine (names_any F p mb _ d _ (H.out.below hb1) hlen).mono ?_; rintro r w2 ⟨vn, rfl, hrow, hb2⟩))
    refine bodyPost_ret (v := .tuple #[vn, .int .i64 0]) (by simp [results, Try.results25, go_sem]) rfl ?_
    refine ⟨_, rfl, ?_, hb1.trans (hb2.mono hb1.size)⟩
    unfold OwnS
    rw [List.length_map]
    exact ownsRow_base_a hrow hb1.size
end Go.Proofs.Ytcmjoaepihbodaa
