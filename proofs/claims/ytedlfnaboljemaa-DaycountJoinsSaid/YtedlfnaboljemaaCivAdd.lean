/-
The contracts of civil.Of, civil.Add and of usanceref02's.
-/
import Derived.Test.YtedlfnaboljemaaCivSplit
namespace Go.Proofs.Ytedlfnaboljemaa
open Go.RowKit

theorem ofI_bd (y m d : Int) (y1 : 1 ≤ y) (y2 : y ≤ 9999) (m1 : 1 ≤ m) (m2 : m ≤ 12) (d1 : 1 ≤ d) (d2 : d ≤ daysI y m) : -719162 ≤ ofI y m d ∧ ofI y m d ≤ 2932896 := by
  have h1 := aheadI_bd y y1 (by omega)
  have h2 := cumI_bd y m m1 m2
  have h3 := lpI_ahead y
  have h4 := aheadI_mono (y + 1) 10000 (by omega)
  have h5 : aheadI 10000 = 3652059 := by decide
  unfold ofI
  omega

set_option maxHeartbeats 1000000 in
theorem cof_at (y m d : Int) (w : World) (y1 : 1 ≤ y) (y2 : y ≤ 9999) (m1 : 1 ≤ m) (m2 : m ≤ 12) (d1 : 1 ≤ d) (d2 : d ≤ daysI y m) :
    Calls Try.prog 24 #[.int .i64 y, .int .i64 m, .int .i64 d] w fun e w' => e = .returned (.tuple #[.int .i64 (ofI y m d), .int .i64 0]) ∧ Below w.heap.size w w' := by
  have db := daysI_bd y m
  by_cases hm : 3 ≤ m
  · have H := Lib.hid (ofI_march y m d hm m2)
    go_enter Try.func24, Try.ntmps24
    go_wp2_with (go_at_call 25; refine (length_any _ _ _ (by omega) (by omega) (by omega)).mono ?_; rintro e w' ⟨rfl, hb⟩)
    go_ret2
    exact ⟨by rw [← H.out]; rfl, hb⟩
  · have H := Lib.hid (ofI_ahead y m d m1 (by omega))
    go_enter Try.func24, Try.ntmps24
    go_wp2_with (go_at_call 25; refine (length_any _ _ _ (by omega) (by omega) (by omega)).mono ?_; rintro e w' ⟨rfl, hb⟩)
    go_ret2
    exact ⟨by rw [← H.out]; rfl, hb⟩

set_option maxHeartbeats 1000000 in
theorem rof_at (y m d : Int) (w : World) (y1 : 1 ≤ y) (y2 : y ≤ 9999) (m1 : 1 ≤ m) (m2 : m ≤ 12) (d1 : 1 ≤ d) (d2 : d ≤ daysI y m) :
    Calls Try.prog 26 #[.int .i64 y, .int .i64 m, .int .i64 d] w fun e w' => e = .returned (.tuple #[.int .i64 (ofI y m d), .int .i64 0]) ∧ w = w' := by
  have db := daysI_bd y m
  have ab := aheadI_bd y (by omega) (by omega)
  go_enter Try.func26, Try.ntmps26
  go_wp2_with (first | (go_at_call 23; refine (days_any _ _ _ (by omega)).mono ?_; rintro e w' ⟨rfl, rfl⟩) | (go_at_call 22; refine (ahead_any _ _ (by omega) (by omega)).mono ?_; rintro e w' ⟨rfl, rfl⟩))
  go_loop [8, 9] (fun t u => ∃ j : Int, 1 ≤ j ∧ j ≤ m ∧ u = .int .i64 j ∧ t = .int .i64 (-719162 + aheadI y + cumI y j)) (fun _ u => (m - intOf u).toNat)
  case atStart => exact ⟨1, by omega, by omega, rfl, by rw [cumI_one]; simp⟩
  case round =>
    obtain ⟨j, j1, j2, rfl, rfl⟩ := hrel
    have hcb := cumI_bd y j j1 (by omega)
    have hlp := lpI_01 y
    have hdb := daysI_bd y j
    have hcs' := Lib.hid (cumI_succ y j j1 (by omega))
    by_cases hj : j < m
    · go_wp2_with (go_at_call 23; refine (days_any _ _ _ (by omega)).mono ?_; rintro e w' ⟨rfl, rfl⟩)
      go_round
      case rel => exact ⟨j + 1, by omega, by omega, rfl, by rw [hcs'.out]; congr 1; omega⟩
      case measure => simp [intOf]; omega
    · obtain rfl : j = m := by omega
      go_wp2_with (go_at_call 23; refine (days_any _ _ _ (by omega)).mono ?_; rintro e w' ⟨rfl, rfl⟩)
      go_ret2
      exact ⟨rfl, rfl⟩
end Go.Proofs.Ytedlfnaboljemaa
