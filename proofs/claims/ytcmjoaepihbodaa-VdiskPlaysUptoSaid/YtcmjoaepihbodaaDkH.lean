/-
law 7's wakes.
-/
import Derived.Test.YtcmjoaepihbodaaDkJ
namespace Go.Proofs.Ytcmjoaepihbodaa
open Go.RowKit Go.BigFrame Go.Sort Go.Shelf Go.Lib Go.Maps
attribute [local go_sem ↓] Go.wp_at_zero Go.wp_at_succ

def wk0 : Pk := ⟨[], 3, -1, [1], 0, 0, false⟩
def wk1 : Pk := ⟨[⟨[97], [1, 2, 3], 0⟩], 3, -1, [1], 1, 3, false⟩
def wk2 : Pk := ⟨[⟨[97], [1, 2, 3], 3⟩], 3, -1, [1], 2, 3, false⟩
def wk3 : Pk := ⟨[⟨[97], [1, 2, 3, 4, 5], 3⟩], 3, -1, [1], 3, 5, false⟩
def wk4 : Pk := ⟨[⟨[97], [1, 2, 3, 4, 5], 3⟩], 3, -1, [1], 3, 5, true⟩
def wk5 : Pk := ⟨[⟨[97], [1, 2, 3, 4], 4⟩], -1, -1, [], 0, 4, false⟩
theorem wkE1 : appendE wk0 [97] [1, 2, 3] = 0 := by decide
theorem wkK1 : appendK wk0 [97] [1, 2, 3] = wk1 := by kernel_rfl
theorem wkE2 : syncE wk1 [97] = 0 := by decide
theorem wkK2 : syncK wk1 [97] = wk2 := by kernel_rfl
theorem wkE3 : appendE wk2 [97] [4, 5] = 0 := by decide
theorem wkK3 : appendK wk2 [97] [4, 5] = wk3 := by kernel_rfl
theorem wkE4 : syncE wk3 [97] = 20 := by decide
theorem wkK4 : deleteK wk3 [97] = wk4 := by kernel_rfl
theorem wkOk : okFs wk4.fs := by
  intro f hf
  obtain rfl : f = ⟨[97], [1, 2, 3, 4, 5], 3⟩ := by simpa [wk4] using hf
  decide
theorem wkK5 : reviveK wk4 (-1) (-1) [] = wk5 := by kernel_rfl
theorem wkE6 : readyE wk5 [[97]] = 0 := by decide
theorem wkD6 : readD wk5 [97] = [1, 2, 3, 4] := by kernel_rfl

set_option maxRecDepth 100000 in
set_option maxHeartbeats 4000000 in
theorem wakes_any (w : World) : Calls Try.prog 8 #[] w fun r w' => r = .returned (.bool true) ∧ Below w.heap.size w w' := by
  have hA : Below w.heap.size w (w.alloc (.cells #[.int .i64 1] 3)) := (Below.refl _ _).alloc (Nat.le_refl _) _
  have HI := Lib.hid (IntsIn.lit w (fun _ => True) trivial 3 [1] (by simp) (.cells #[.int .i64 1] 3) rfl)
  have HA := Lib.hid hA
  clear hA
  go_enter Try.func8, Try.ntmps8
  go_wp2_with (fail)
  refine (new_dk _ _ _ _ [1] _ HI.out (by simp) w.heap.size HA.out.size).mono ?_
  rintro r w1 ⟨p, rfl, h1, hb1⟩
  have H1 := Lib.hid (h1 : DkP w1 w.heap.size p wk0)
  have HB1 := Lib.hid (HA.out.trans (hb1.mono HA.out.size))
  clear h1 hb1
  go_wp2_with (fail)
  refine (append_dk (k := wk0) [97] _ [1, 2, 3] H1.out ((Below.refl _ _).alloc (Nat.le_refl _) _) HB1.out.size (Byt.lit w1 _ (Nat.le_refl _) 5 [1, 2, 3] (by simp) _ rfl) (by simp) (by decide) (by decide) (fun f hf => by cases hf) (by decide)).mono ?_
  rw [wkE1, wkK1]
  rintro r w2 ⟨rfl, h2, hb2, _⟩
  have H2 := Lib.hid h2
  have HB2 := Lib.hid ((HB1.out.alloc HB1.out.size (.cells #[.int .u8 1, .int .u8 2, .int .u8 3] 5)).trans hb2)
  clear h2 hb2
  go_wp2_with (fail)
  refine (sync_dk (k := wk1) [97] H2.out HB2.out.size (by simp) (by decide) (by decide)).mono ?_
  rw [wkE2, wkK2]
  rintro r w3 ⟨rfl, h3, hb3⟩
  have H3 := Lib.hid h3
  have HB3 := Lib.hid (HB2.out.trans hb3)
  clear h3 hb3
  go_wp2_with (fail)
  refine (append_dk (k := wk2) [97] _ [4, 5] H3.out ((Below.refl _ _).alloc (Nat.le_refl _) _) HB3.out.size (Byt.lit w3 _ (Nat.le_refl _) 5 [4, 5] (by simp) _ rfl) (by simp) (by decide) (by decide) (fun f hf => by obtain rfl := Option.some.inj hf; decide) (by decide)).mono ?_
  rw [wkE3, wkK3]
  rintro r w4 ⟨rfl, h4, hb4, _⟩
  have H4 := Lib.hid h4
  have HB4 := Lib.hid ((HB3.out.alloc HB3.out.size (.cells #[.int .u8 4, .int .u8 5] 5)).trans hb4)
  clear h4 hb4
  go_wp2_with (fail)
  refine (delete_dk (k := wk3) [97] H4.out HB4.out.size (by simp) (by decide) (by decide)).mono ?_
  rw [wkE4, wkK4]
  rintro r w5 ⟨rfl, h5, hb5⟩
  have H5 := Lib.hid h5
  have HB5 := Lib.hid (HB4.out.trans hb5)
  clear h5 hb5
  go_wp2_with (fail)
  refine (revive_dk (k := wk4) (fun _ => False) (-1) (-1) _ [] H5.out (Below.refl _ _) HB5.out.size wkOk (by decide) (IntsIn.nil _ _) (fun i hi => hi.elim) (by simp)).mono ?_
  rw [wkK5]
  rintro r w6 ⟨rfl, h6, hb6, _⟩
  have H6 := Lib.hid h6
  have HB6 := Lib.hid (HB5.out.trans hb6)
  clear h6 hb6
  go_wp2_with (fail)
  refine (read_dk (k := wk5) [97] H6.out (by simp)).mono ?_
  rw [wkE6, if_pos rfl, wkD6]
  rintro r w7 ⟨v, rfl, hv, h7, hb7⟩
  obtain ⟨A7, c7, rfl⟩ := slice_form hv.byt
  have cv : (convert 35 9 (.slice A7 4 c7)).run Try.prog w7 = .ok (.string ⟨#[1, 2, 3, 4]⟩) w7 := hv.byt.convert
  have H7 := Lib.hid h7
  have HB7 := Lib.hid (HB6.out.trans (hb7.mono HB6.out.size))
  clear h7 hb7 hv
  go_wp2_with (go_at_call 12; refine (dump_dk (k := wk5) H7.out (by decide)).mono ?_; rintro r w8 ⟨v8, rfl, hv8, h8, hb8⟩; obtain ⟨cs8, ho8, _⟩ := hv8; obtain ⟨A8, c8, e8⟩ := own_form ho8; have e8' : v8 = .slice A8 1 c8 := e8; subst e8')
  go_ret
  exact ⟨rfl, HB7.out.trans (hb8.mono HB7.out.size)⟩
end Go.Proofs.Ytcmjoaepihbodaa
