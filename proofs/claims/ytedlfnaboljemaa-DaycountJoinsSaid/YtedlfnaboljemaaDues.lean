/-
The contracts of daycount.Dues and of the reference's Dues.
-/
import Derived.Test.YtedlfnaboljemaaCount
import Derived.Test.YtedlfnaboljemaaSame
import Derived.Laws.MakeOwn
namespace Go.Proofs.Ytedlfnaboljemaa
open Go.RowKit

/-- the k-th day that comes back, counted from 1: none where the years end. -/
def dueI (y m dd step k : Int) : Option Int :=
  if 9999 < (12 * y + m - 1 + k * step) / 12 then none
  else some (ofI ((12 * y + m - 1 + k * step) / 12) ((12 * y + m - 1 + k * step) % 12 + 1) (min dd (daysI ((12 * y + m - 1 + k * step) / 12) ((12 * y + m - 1 + k * step) % 12 + 1))))
def duesI (y m dd step : Int) : Nat → List Int
  | 0 => []
  | n + 1 => duesI y m dd step n ++ [(dueI y m dd step (n + 1)).getD 0]
theorem duesI_len (y m dd step : Int) (n : Nat) : (duesI y m dd step n).length = n := by
  induction n with
  | zero => rfl
  | succ n ih => simp [duesI, ih]
theorem dueI_mono {y m dd step : Int} {a b : Nat} (hs : 1 ≤ step) (h : a ≤ b) (hb : dueI y m dd step b ≠ none) : dueI y m dd step a ≠ none := by
  unfold dueI at hb ⊢
  have h2 : (a : Int) * step ≤ (b : Int) * step := Int.mul_le_mul_of_nonneg_right (by omega) (by omega)
  split at hb
  · exact absurd rfl hb
  · rw [if_neg (by omega)]
    simp

theorem steps_bd {step : Int} {k : Nat} (h1 : 1 ≤ step) (h2 : step ≤ 120) (hk : k + 1 ≤ 480) : 1 ≤ ((k : Int) + 1) * step ∧ ((k : Int) + 1) * step ≤ 57600 := by
  constructor
  · have := Int.mul_le_mul (by omega : (1 : Int) ≤ (k : Int) + 1) h1 (by omega) (by omega)
    omega
  · have := Int.mul_le_mul (by omega : (k : Int) + 1 ≤ 480) h2 (by omega) (by omega)
    omega

/-- civil.Add at the k-th step. -/
theorem cadd_step (d y m dd step : Int) (k : Nat) (w : World) (h0 : -719162 ≤ d) (h2 : d ≤ 2932896) (hD : Date (d + 719162) y m dd) (s1 : 1 ≤ step) (s2 : step ≤ 120) (hk : k + 1 ≤ 480) :
    Calls Try.prog 18 #[.int .i64 d, .int .i64 (((k : Int) + 1) * step)] w fun e w' => e = .returned (.tuple (match dueI y m dd step ((k + 1 : Nat) : Int) with | some x => #[.int .i64 x, .int .i64 0] | none => #[.int .i64 0, .int .i64 6])) ∧ Below w.heap.size w w' := by
  have hb := steps_bd s1 s2 hk
  have e1 : ((k + 1 : Nat) : Int) = (k : Int) + 1 := by omega
  have e2 : 12 * y + m - 1 + ((k : Int) + 1) * step = y * 12 + m - 1 + ((k : Int) + 1) * step := by omega
  unfold dueI
  rw [e1, e2]
  generalize ((k : Int) + 1) * step = t at hb ⊢
  by_cases hq : 9999 < (y * 12 + m - 1 + t) / 12
  · rw [if_pos hq]
    exact cadd_no d t y m dd _ _ w h0 h2 hD hb.1 hb.2 rfl rfl hq
  · rw [if_neg hq]
    exact cadd_yes d t y m dd _ _ w h0 h2 hD hb.1 hb.2 rfl rfl (by omega)
theorem radd_step (d y m dd step : Int) (k : Nat) (w : World) (h0 : -719162 ≤ d) (h2 : d ≤ 2932896) (hD : Date (d + 719162) y m dd) (s1 : 1 ≤ step) (s2 : step ≤ 120) (hk : k + 1 ≤ 480) :
    Calls Try.prog 19 #[.int .i64 d, .int .i64 (((k : Int) + 1) * step)] w fun e w' => e = .returned (.tuple (match dueI y m dd step ((k + 1 : Nat) : Int) with | some x => #[.int .i64 x, .int .i64 0] | none => #[.int .i64 0, .int .i64 6])) ∧ w = w' := by
  have hb := steps_bd s1 s2 hk
  have e1 : ((k + 1 : Nat) : Int) = (k : Int) + 1 := by omega
  unfold dueI
  rw [e1]
  generalize ((k : Int) + 1) * step = t at hb ⊢
  by_cases hq : 9999 < (12 * y + m - 1 + t) / 12
  · rw [if_pos hq]
    exact radd_no d t y m dd _ _ w h0 h2 hD hb.1 hb.2 rfl rfl hq
  · rw [if_neg hq]
    exact radd_yes d t y m dd _ _ w h0 h2 hD hb.1 hb.2 rfl rfl (by omega)

set_option maxHeartbeats 1000000 in
theorem cdues_range (d step n : Int) (w : World) (h : step < 1 ∨ 120 < step ∨ n < 0 ∨ 480 < n) :
    Calls Try.prog 9 #[.int .i64 d, .int .i64 step, .int .i64 n] w fun e w' => e = .returned (.tuple #[.slice none 0 0, .int .i64 2]) ∧ w = w' := by
  rcases (by omega : step < 1 ∨ (1 ≤ step ∧ 120 < step) ∨ (1 ≤ step ∧ step ≤ 120 ∧ n < 0) ∨ (1 ≤ step ∧ step ≤ 120 ∧ 0 ≤ n ∧ 480 < n)) with h1 | ⟨h1, h2⟩ | ⟨h1, h2, h3⟩ | ⟨h1, h2, h3, h4⟩
  all_goals
    clear h
    go_enter Try.func9, Try.ntmps9
    go_wp2
    go_ret2
    exact ⟨rfl, rfl⟩
set_option maxHeartbeats 1000000 in
theorem rdues_range (d step n : Int) (w : World) (h : step < 1 ∨ 120 < step ∨ n < 0 ∨ 480 < n) :
    Calls Try.prog 10 #[.int .i64 d, .int .i64 step, .int .i64 n] w fun e w' => e = .returned (.tuple #[.slice none 0 0, .int .i64 2]) ∧ w = w' := by
  rcases (by omega : step < 1 ∨ (1 ≤ step ∧ 120 < step) ∨ (1 ≤ step ∧ step ≤ 120 ∧ n < 0) ∨ (1 ≤ step ∧ step ≤ 120 ∧ 0 ≤ n ∧ 480 < n)) with h1 | ⟨h1, h2⟩ | ⟨h1, h2, h3⟩ | ⟨h1, h2, h3, h4⟩
  all_goals
    clear h
    go_enter Try.func10, Try.ntmps10
    go_wp2
    go_ret2
    exact ⟨rfl, rfl⟩
set_option maxHeartbeats 1000000 in
theorem cdues_date (d step n : Int) (w : World) (s1 : 1 ≤ step) (s2 : step ≤ 120) (n1 : 0 ≤ n) (n2 : n ≤ 480) (hg : goodB d = false) :
    Calls Try.prog 9 #[.int .i64 d, .int .i64 step, .int .i64 n] w fun e w' => e = .returned (.tuple #[.slice none 0 0, .int .i64 6]) ∧ w = w' := by
  go_enter Try.func9, Try.ntmps9
  go_wp2_with (go_at_call 17; refine (csplit_no _ _ hg).mono ?_; rintro e w' ⟨rfl, rfl⟩)
  go_ret2
  exact ⟨rfl, rfl⟩
set_option maxHeartbeats 1000000 in
theorem rdues_date (d step n : Int) (w : World) (s1 : 1 ≤ step) (s2 : step ≤ 120) (n1 : 0 ≤ n) (n2 : n ≤ 480) (hg : goodB d = false) :
    Calls Try.prog 10 #[.int .i64 d, .int .i64 step, .int .i64 n] w fun e w' => e = .returned (.tuple #[.slice none 0 0, .int .i64 6]) ∧ w = w' := by
  go_enter Try.func10, Try.ntmps10
  go_wp2_with (go_at_call 15; refine (good_any _ _).mono ?_; rintro e w' ⟨rfl, rfl⟩)
  go_ret2
  exact ⟨rfl, rfl⟩
end Go.Proofs.Ytedlfnaboljemaa
