/-
The contracts of civil.Add, daycount.thirty, daycount.Count and of the references'.
-/
import Derived.Test.YtedlfnaboljemaaCivAdd
import Derived.Deep.QuietTactic
import Derived.BigQuiet
namespace Go.Proofs.Ytedlfnaboljemaa
open Go.RowKit

theorem min_daysI (d y m : Int) (h : 1 ≤ d) : 1 ≤ min d (daysI y m) ∧ min d (daysI y m) ≤ daysI y m := by
  have := daysI_bd y m
  omega

set_option maxHeartbeats 1000000 in
theorem cadd_yes (d k y m dd q r : Int) (w : World) (h0 : -719162 ≤ d) (h2 : d ≤ 2932896) (hD : Date (d + 719162) y m dd) (k1 : 1 ≤ k) (k2 : k ≤ 57600)
    (hq : (y * 12 + m - 1 + k) / 12 = q) (hr : (y * 12 + m - 1 + k) % 12 = r) (hq2 : q ≤ 9999) :
    Calls Try.prog 18 #[.int .i64 d, .int .i64 k] w fun e w' => e = .returned (.tuple #[.int .i64 (ofI q (r + 1) (min dd (daysI q (r + 1)))), .int .i64 0]) ∧ Below w.heap.size w w' := by
  have hy := hD.year (by omega)
  have hDh := Lib.hid hD
  obtain ⟨p1, p2, p3, p4, p5, p6⟩ := hD
  clear p6 p5
  have hmin := min_daysI dd q (r + 1) p4
  have q1 : 1 ≤ q := by omega
  have r0 : 0 ≤ r := by omega
  have r1 : r ≤ 11 := by omega
  have db := daysI_bd q (r + 1)
  by_cases hle : dd ≤ daysI q (r + 1)
  · rw [show min dd (daysI q (r + 1)) = dd from by omega]
    clear hmin
    go_enter Try.func18, Try.ntmps18
    go_wp2_with (first | (go_at_call 25; refine (length_any _ _ _ (by omega) (by omega) (by omega)).mono ?_; rintro e w' ⟨rfl, hb⟩) | (go_at_call 24; refine (cof_at _ _ _ _ (by omega) (by omega) (by omega) (by omega) (by omega) (by omega)).mono ?_; rintro e w' ⟨rfl, hb2⟩) | (go_at_call 17; refine (csplit_at _ _ _ _ _ h0 h2 hDh.out).mono ?_; rintro e w' ⟨rfl, rfl⟩))
    go_ret2
    exact ⟨rfl, hb.trans (hb2.mono hb.size)⟩
  · rw [show min dd (daysI q (r + 1)) = daysI q (r + 1) from by omega]
    clear hmin
    go_enter Try.func18, Try.ntmps18
    go_wp2_with (first | (go_at_call 25; refine (length_any _ _ _ (by omega) (by omega) (by omega)).mono ?_; rintro e w' ⟨rfl, hb⟩) | (go_at_call 24; refine (cof_at _ _ _ _ (by omega) (by omega) (by omega) (by omega) (by omega) (by omega)).mono ?_; rintro e w' ⟨rfl, hb2⟩) | (go_at_call 17; refine (csplit_at _ _ _ _ _ h0 h2 hDh.out).mono ?_; rintro e w' ⟨rfl, rfl⟩))
    go_ret2
    exact ⟨rfl, hb.trans (hb2.mono hb.size)⟩

set_option maxHeartbeats 1000000 in
theorem cadd_no (d k y m dd q r : Int) (w : World) (h0 : -719162 ≤ d) (h2 : d ≤ 2932896) (hD : Date (d + 719162) y m dd) (k1 : 1 ≤ k) (k2 : k ≤ 57600)
    (hq : (y * 12 + m - 1 + k) / 12 = q) (hr : (y * 12 + m - 1 + k) % 12 = r) (hq2 : 9999 < q) :
    Calls Try.prog 18 #[.int .i64 d, .int .i64 k] w fun e w' => e = .returned (.tuple #[.int .i64 0, .int .i64 6]) ∧ Below w.heap.size w w' := by
  have hy := hD.year (by omega)
  have hDh := Lib.hid hD
  obtain ⟨p1, p2, p3, p4, p5, p6⟩ := hD
  clear p6 p5
  have hmin := min_daysI dd q (r + 1) p4
  have q1 : 1 ≤ q := by omega
  have r0 : 0 ≤ r := by omega
  have r1 : r ≤ 11 := by omega
  go_enter Try.func18, Try.ntmps18
  go_wp2_with (first | (go_at_call 25; refine (length_any _ _ _ (by omega) (by omega) (by omega)).mono ?_; rintro e w' ⟨rfl, hb⟩) | (go_at_call 24; refine (cof_at _ _ _ _ (by omega) (by omega) (by omega) (by omega) (by omega) (by omega)).mono ?_; rintro e w' ⟨rfl, hb2⟩) | (go_at_call 17; refine (csplit_at _ _ _ _ _ h0 h2 hDh.out).mono ?_; rintro e w' ⟨rfl, rfl⟩))
  go_ret2
  exact ⟨rfl, Below.refl _ _⟩

set_option maxHeartbeats 1000000 in
theorem radd_yes (d k y m dd q r : Int) (w : World) (h0 : -719162 ≤ d) (h2 : d ≤ 2932896) (hD : Date (d + 719162) y m dd) (k1 : 1 ≤ k) (k2 : k ≤ 57600)
    (hq : (12 * y + m - 1 + k) / 12 = q) (hr : (12 * y + m - 1 + k) % 12 = r) (hq2 : q ≤ 9999) :
    Calls Try.prog 19 #[.int .i64 d, .int .i64 k] w fun e w' => e = .returned (.tuple #[.int .i64 (ofI q (r + 1) (min dd (daysI q (r + 1)))), .int .i64 0]) ∧ w = w' := by
  have hy := hD.year (by omega)
  have hDh := Lib.hid hD
  obtain ⟨p1, p2, p3, p4, p5, p6⟩ := hD
  clear p6 p5
  have hmin := min_daysI dd q (r + 1) p4
  have q1 : 1 ≤ q := by omega
  have r0 : 0 ≤ r := by omega
  have r1 : r ≤ 11 := by omega
  have db := daysI_bd q (r + 1)
  by_cases hle : dd ≤ daysI q (r + 1)
  · rw [show min dd (daysI q (r + 1)) = dd from by omega]
    clear hmin
    go_enter Try.func19, Try.ntmps19
    go_wp2_with (first | (go_at_call 23; refine (days_any _ _ _ (by omega)).mono ?_; rintro e w' ⟨rfl, rfl⟩) | (go_at_call 26; refine (rof_at _ _ _ _ (by omega) (by omega) (by omega) (by omega) (by omega) (by omega)).mono ?_; rintro e w' ⟨rfl, rfl⟩) | (go_at_call 16; refine (rsplit_at _ _ _ _ _ h0 h2 hDh.out).mono ?_; rintro e w' ⟨rfl, rfl⟩))
    go_ret2
    exact ⟨rfl, rfl⟩
  · rw [show min dd (daysI q (r + 1)) = daysI q (r + 1) from by omega]
    clear hmin
    go_enter Try.func19, Try.ntmps19
    go_wp2_with (first | (go_at_call 23; refine (days_any _ _ _ (by omega)).mono ?_; rintro e w' ⟨rfl, rfl⟩) | (go_at_call 26; refine (rof_at _ _ _ _ (by omega) (by omega) (by omega) (by omega) (by omega) (by omega)).mono ?_; rintro e w' ⟨rfl, rfl⟩) | (go_at_call 16; refine (rsplit_at _ _ _ _ _ h0 h2 hDh.out).mono ?_; rintro e w' ⟨rfl, rfl⟩))
    go_ret2
    exact ⟨rfl, rfl⟩

set_option maxHeartbeats 1000000 in
theorem radd_no (d k y m dd q r : Int) (w : World) (h0 : -719162 ≤ d) (h2 : d ≤ 2932896) (hD : Date (d + 719162) y m dd) (k1 : 1 ≤ k) (k2 : k ≤ 57600)
    (hq : (12 * y + m - 1 + k) / 12 = q) (hr : (12 * y + m - 1 + k) % 12 = r) (hq2 : 9999 < q) :
    Calls Try.prog 19 #[.int .i64 d, .int .i64 k] w fun e w' => e = .returned (.tuple #[.int .i64 0, .int .i64 6]) ∧ w = w' := by
  have hy := hD.year (by omega)
  have hDh := Lib.hid hD
  obtain ⟨p1, p2, p3, p4, p5, p6⟩ := hD
  clear p6 p5
  have hmin := min_daysI dd q (r + 1) p4
  have q1 : 1 ≤ q := by omega
  have r0 : 0 ≤ r := by omega
  have r1 : r ≤ 11 := by omega
  go_enter Try.func19, Try.ntmps19
  go_wp2_with (first | (go_at_call 23; refine (days_any _ _ _ (by omega)).mono ?_; rintro e w' ⟨rfl, rfl⟩) | (go_at_call 26; refine (rof_at _ _ _ _ (by omega) (by omega) (by omega) (by omega) (by omega) (by omega)).mono ?_; rintro e w' ⟨rfl, rfl⟩) | (go_at_call 16; refine (rsplit_at _ _ _ _ _ h0 h2 hDh.out).mono ?_; rintro e w' ⟨rfl, rfl⟩))
  go_ret2
  exact ⟨rfl, rfl⟩

/-- HOW MANY DAYS OF THIRTY BY THIRTY. -/
def thirtyI (y m d y' m' d' : Int) : Int := 360 * (y' - y) + 30 * (m' - m) + (if 31 ≤ d' ∧ 30 ≤ d then 30 else d') - (if 31 ≤ d then 30 else d)

set_option maxHeartbeats 1000000 in
theorem thirty_at (a b y m d y' m' d' : Int) (w : World) (a0 : -719162 ≤ a) (a2 : a ≤ 2932896) (b0 : -719162 ≤ b) (b2 : b ≤ 2932896) (hA : Date (a + 719162) y m d) (hB : Date (b + 719162) y' m' d') :
    Calls Try.prog 13 #[.int .i64 a, .int .i64 b] w fun e w' => e = .returned (.int .i64 (thirtyI y m d y' m' d')) ∧ w = w' := by
  have ya := hA.year (by omega)
  have yb := hB.year (by omega)
  have hAh := Lib.hid hA
  have hBh := Lib.hid hB
  have da := daysI_bd y m
  have db := daysI_bd y' m'
  obtain ⟨p1, p2, p3, p4, p5, p6⟩ := hA
  obtain ⟨q1, q2, q3, q4, q5, q6⟩ := hB
  have d31 : d ≤ 31 := by omega
  have e31 : d' ≤ 31 := by omega
  clear p5 p6 q5 q6 da db
  have pos1 : (d' ≤ 30 ∨ 31 ≤ d') := by omega
  have pos2 : (d ≤ 29 ∨ d = 30 ∨ d = 31) := by omega
  rcases pos1 with h1 | h1 <;> rcases pos2 with h2 | rfl | rfl
  all_goals
    go_enter Try.func13, Try.ntmps13
    go_wp2_with fail
    refine (csplit_at _ _ _ _ _ a0 a2 hAh.out).mono ?_
    rintro e w' ⟨rfl, rfl⟩
    go_wp2_with fail
    refine (csplit_at _ _ _ _ _ b0 b2 hBh.out).mono ?_
    rintro e w' ⟨rfl, rfl⟩
    go_wp2
    all_goals (go_ret; refine ⟨ret_int ?_, rfl⟩; simp only [thirtyI]; (repeat' split) <;> omega)
end Go.Proofs.Ytedlfnaboljemaa
