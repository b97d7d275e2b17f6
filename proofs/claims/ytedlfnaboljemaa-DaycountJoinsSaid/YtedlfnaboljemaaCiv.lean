/-
The plain contracts of civil's and usanceref02's small functions. No conditions beyond each theorem's own.
-/
import Derived.Test.YtedlfnaboljemaaProg
import Derived.Test.YtedlfnaboljemaaCivP
import Derived.Test.YtedlfnaboljemaaKit
namespace Go.Proofs.Ytedlfnaboljemaa
open Go.RowKit

set_option maxHeartbeats 400000 in
theorem actual_any (a b : Int) (w : World) (h0 : -9223372036854775808 ≤ b - a) (h1 : b - a ≤ 9223372036854775807) :
    Calls Try.prog 14 #[.int .i64 a, .int .i64 b] w fun e w' => e = .returned (.int .i64 (b - a)) ∧ w = w' := by
  go_enter Try.func14, Try.ntmps14
  go_wp2
  go_ret
  exact ⟨rfl, rfl⟩

set_option maxHeartbeats 400000 in
theorem good_any (d : Int) (w : World) :
    Calls Try.prog 15 #[.int .i64 d] w fun e w' => e = .returned (.bool (goodB d)) ∧ w = w' := by
  by_cases h1 : -719162 ≤ d
  · by_cases h2 : d ≤ 2932896
    · go_enter Try.func15, Try.ntmps15
      go_wp2
      go_ret
      exact ⟨ret_bool (goodB_yes h1 h2).symm, rfl⟩
    · go_enter Try.func15, Try.ntmps15
      go_wp2
      go_ret
      exact ⟨ret_bool (goodB_no2 (by omega)).symm, rfl⟩
  · go_enter Try.func15, Try.ntmps15
    go_wp2
    go_ret
    exact ⟨ret_bool (goodB_no1 (by omega)).symm, rfl⟩

set_option maxHeartbeats 400000 in
theorem leap_any (y : Int) (w : World) (h0 : 0 ≤ y) :
    Calls Try.prog 29 #[.int .i64 y] w fun e w' => e = .returned (.bool (leapB y)) ∧ w = w' := by
  rcases h1 : (y % 4 == 0) with _ | _ <;> rcases h2 : (y % 100 != 0) with _ | _ <;> rcases h3 : (y % 400 == 0) with _ | _
  all_goals
    have H : (leapB y = (y % 4 == 0 && y % 100 != 0 || y % 400 == 0)) := rfl
    rw [h1, h2, h3] at H
    have H' := Lib.hid H
    clear H
    go_enter Try.func29, Try.ntmps29
    go_wp2
    go_ret
    exact ⟨ret_bool (by rw [H'.out]; rfl), rfl⟩

set_option maxHeartbeats 400000 in
theorem ahead_any (y : Int) (w : World) (h0 : 1 ≤ y) (h1 : y ≤ 100000) :
    Calls Try.prog 22 #[.int .i64 y] w fun e w' => e = .returned (.int .i64 (aheadI y)) ∧ w = w' := by
  go_enter Try.func22, Try.ntmps22
  go_wp2
  go_ret
  exact ⟨rfl, rfl⟩

set_option maxHeartbeats 400000 in
theorem days_any (y m : Int) (w : World) (h0 : 0 ≤ y) :
    Calls Try.prog 23 #[.int .i64 y, .int .i64 m] w fun e w' => e = .returned (.int .i64 (daysI y m)) ∧ w = w' := by
  go_enter Try.func23, Try.ntmps23
  go_wp2_with (go_at_call 29; refine (leap_any _ _ (by omega)).mono ?_; rintro e w' ⟨rfl, rfl⟩)
  all_goals (go_ret; refine ⟨ret_int ?_, rfl⟩; unfold daysI; simp_all)

set_option maxHeartbeats 1000000 in
theorem length_any (y m : Int) (w : World) (h0 : 0 ≤ y) (h1 : 1 ≤ m) (h2 : m ≤ 12) :
    Calls Try.prog 25 #[.int .i64 y, .int .i64 m] w fun e w' => e = .returned (.int .i64 (daysI y m)) ∧ Below w.heap.size w w' := by
  rcases months h1 h2 with rfl | rfl | rfl | rfl | rfl | rfl | rfl | rfl | rfl | rfl | rfl | rfl
  all_goals
    go_enter Try.func25, Try.ntmps25
    go_wp2
    all_goals (go_ret; refine ⟨ret_int ?_, (Below.refl _ _).alloc (Nat.le_refl _) _⟩; simp [daysI, leapB]; try simp_all)

end Go.Proofs.Ytedlfnaboljemaa
