/-
The contracts of daycount.Count and of the reference's Count.
-/
import Derived.Test.YtedlfnaboljemaaCivCount
import Derived.Laws.EntriesVeiled
namespace Go.Proofs.Ytedlfnaboljemaa
open Go.RowKit

def R3 (x y e : Int) : Value := .tuple #[.int .i64 x, .int .i64 y, .int .i64 e]

set_option maxHeartbeats 1000000 in
theorem ccount_conv (c a b : Int) (w : World) (h : c < 1 ∨ 3 < c) :
    Calls Try.prog 7 #[.int .i64 c, .int .i64 a, .int .i64 b] w fun e w' => e = .returned (R3 0 0 2) ∧ Below w.heap.size w w' := by
  rcases h with h | h
  all_goals
    go_enter Try.func7, Try.ntmps7
    go_wp2
    go_ret3
    exact ⟨rfl, (Below.refl _ _).alloc (Nat.le_refl _) _⟩

set_option maxHeartbeats 1000000 in
theorem ccount_date (c a b : Int) (w : World) (c1 : 1 ≤ c) (c2 : c ≤ 3) (h : a < -719162 ∨ 2932896 < b ∨ b < a) :
    Calls Try.prog 7 #[.int .i64 c, .int .i64 a, .int .i64 b] w fun e w' => e = .returned (R3 0 0 6) ∧ Below w.heap.size w w' := by
  rcases (by omega : a < -719162 ∨ (-719162 ≤ a ∧ 2932896 < b) ∨ (-719162 ≤ a ∧ b ≤ 2932896 ∧ b < a)) with h1 | ⟨h1, h2⟩ | ⟨h1, h2, h3⟩
  all_goals
    clear h
    go_enter Try.func7, Try.ntmps7
    go_wp2
    go_ret3
    exact ⟨rfl, (Below.refl _ _).alloc (Nat.le_refl _) _⟩

set_option maxHeartbeats 1000000 in
theorem ccount_1 (a b y m d y' m' d' : Int) (w : World) (a0 : -719162 ≤ a) (b2 : b ≤ 2932896) (hab : a ≤ b) (hA : Date (a + 719162) y m d) (hB : Date (b + 719162) y' m' d') :
    Calls Try.prog 7 #[.int .i64 1, .int .i64 a, .int .i64 b] w fun e w' => e = .returned (R3 (thirtyI y m d y' m' d') 360 0) ∧ Below w.heap.size w w' := by
  have hAh := Lib.hid hA
  have hBh := Lib.hid hB
  clear hA hB
  go_enter Try.func7, Try.ntmps7
  go_wp2
  go_quiet ((go_at_call 13; exact quiet_left (thirty_at _ _ _ _ _ _ _ _ _ a0 (by omega) (by omega) b2 hAh.out hBh.out)))
  go_wp2
  go_ret3
  exact ⟨rfl, below_drewN (((Below.refl _ _).alloc (Nat.le_refl _) _).alloc (by simp) _) _⟩

set_option maxHeartbeats 1000000 in
theorem ccount_23 (c a b : Int) (w : World) (hc : c = 2 ∨ c = 3) (a0 : -719162 ≤ a) (b2 : b ≤ 2932896) (hab : a ≤ b) :
    Calls Try.prog 7 #[.int .i64 c, .int .i64 a, .int .i64 b] w fun e w' => e = .returned (R3 (b - a) (if c = 2 then 360 else 365) 0) ∧ Below w.heap.size w w' := by
  rcases hc with rfl | rfl
  all_goals
    go_enter Try.func7, Try.ntmps7
    go_wp2
    go_quiet ((go_at_call 14; exact quiet_left (actual_any _ _ _ (by omega) (by omega))))
    go_wp2
    go_ret3
    exact ⟨rfl, below_drewN (((Below.refl _ _).alloc (Nat.le_refl _) _).alloc (by simp) _) _⟩

set_option maxHeartbeats 1000000 in
theorem rcount_conv (c a b : Int) (w : World) (h : c < 1 ∨ 3 < c) :
    Calls Try.prog 8 #[.int .i64 c, .int .i64 a, .int .i64 b] w fun e w' => e = .returned (R3 0 0 2) ∧ w = w' := by
  rcases h with h | h
  all_goals
    go_enter Try.func8, Try.ntmps8
    go_wp2
    go_ret3
    exact ⟨rfl, rfl⟩

set_option maxHeartbeats 1000000 in
theorem rcount_date (c a b : Int) (w : World) (c1 : 1 ≤ c) (c2 : c ≤ 3) (h : a < -719162 ∨ 2932896 < b ∨ b < a) :
    Calls Try.prog 8 #[.int .i64 c, .int .i64 a, .int .i64 b] w fun e w' => e = .returned (R3 0 0 6) ∧ w = w' := by
  rcases ha : goodB a with _ | _ <;> rcases hb : goodB b with _ | _
  · go_enter Try.func8, Try.ntmps8
    go_wp2_with (go_at_call 15; refine (good_any _ _).mono ?_; rintro e w' ⟨rfl, rfl⟩)
    go_ret3
    exact ⟨rfl, rfl⟩
  · go_enter Try.func8, Try.ntmps8
    go_wp2_with (go_at_call 15; refine (good_any _ _).mono ?_; rintro e w' ⟨rfl, rfl⟩)
    go_ret3
    exact ⟨rfl, rfl⟩
  · go_enter Try.func8, Try.ntmps8
    go_wp2_with (go_at_call 15; refine (good_any _ _).mono ?_; rintro e w' ⟨rfl, rfl⟩)
    go_ret3
    exact ⟨rfl, rfl⟩
  · have h' : b < a := by have h1 := goodB_t.1 ha; have h2 := goodB_t.1 hb; omega
    clear h
    go_enter Try.func8, Try.ntmps8
    go_wp2_with (go_at_call 15; refine (good_any _ _).mono ?_; rintro e w' ⟨rfl, rfl⟩)
    go_ret3
    exact ⟨rfl, rfl⟩

set_option maxHeartbeats 1000000 in
theorem rcount_23 (c a b : Int) (w : World) (hc : c = 2 ∨ c = 3) (a0 : -719162 ≤ a) (b2 : b ≤ 2932896) (hab : a ≤ b) :
    Calls Try.prog 8 #[.int .i64 c, .int .i64 a, .int .i64 b] w fun e w' => e = .returned (R3 (b - a) (if c = 2 then 360 else 365) 0) ∧ w = w' := by
  have ha := goodB_yes a0 (by omega : a ≤ 2932896)
  have hb := goodB_yes (by omega : -719162 ≤ b) b2
  rcases hc with rfl | rfl
  all_goals
    go_enter Try.func8, Try.ntmps8
    go_wp2_with (go_at_call 15; refine (good_any _ _).mono ?_; rintro e w' ⟨rfl, rfl⟩)
    go_ret3
    exact ⟨rfl, rfl⟩

set_option maxHeartbeats 2000000 in
theorem rcount_1 (a b y m d y' m' d' : Int) (w : World) (a0 : -719162 ≤ a) (b2 : b ≤ 2932896) (hab : a ≤ b) (hA : Date (a + 719162) y m d) (hB : Date (b + 719162) y' m' d') :
    Calls Try.prog 8 #[.int .i64 1, .int .i64 a, .int .i64 b] w fun e w' => e = .returned (R3 (thirtyI y m d y' m' d') 360 0) ∧ w = w' := by
  have ga := goodB_yes a0 (by omega : a ≤ 2932896)
  have gb := goodB_yes (by omega : -719162 ≤ b) b2
  have ya := hA.year (by omega)
  have yb := hB.year (by omega)
  have hAh := Lib.hid hA
  have hBh := Lib.hid hB
  have da := daysI_bd y m
  have db := daysI_bd y' m'
  obtain ⟨p1, p2, p3, p4, p5, p6⟩ := hA
  obtain ⟨q1, q2, q3, q4, q5, q6⟩ := hB
  have d31 : d ≤ 31 := by omega
  have e31 : d' ≤ 31 := by omega
  clear p5 p6 q5 q6 da db
  have pos1 : (d' ≤ 30 ∨ d' = 31) := by omega
  have pos2 : (d ≤ 29 ∨ d = 30 ∨ d = 31) := by omega
  rcases pos1 with h1 | rfl <;> rcases pos2 with h2 | rfl | rfl
  all_goals
    go_enter Try.func8, Try.ntmps8
    go_wp2_with (first | (go_at_call 15; refine (good_any _ _).mono ?_; rintro e w' ⟨rfl, rfl⟩) | (go_at_call 16; fail))
    refine (rsplit_at _ _ _ _ _ a0 (by omega) hAh.out).mono ?_
    rintro e w' ⟨rfl, rfl⟩
    go_wp2_with fail
    refine (rsplit_at _ _ _ _ _ (by omega) b2 hBh.out).mono ?_
    rintro e w' ⟨rfl, rfl⟩
    go_wp2
    all_goals (go_ret3; refine ⟨?_, rfl⟩; refine congrArg (fun x => Ending.returned (R3 x 360 0)) ?_; simp only [thirtyI]; (repeat' split) <;> omega)
end Go.Proofs.Ytedlfnaboljemaa
