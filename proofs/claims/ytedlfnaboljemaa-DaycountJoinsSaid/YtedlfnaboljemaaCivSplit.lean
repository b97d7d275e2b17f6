/-
The contracts of civil.Split, civil.Of, civil.Add and of usanceref02's.
-/
import Derived.Test.YtedlfnaboljemaaCiv
namespace Go.Proofs.Ytedlfnaboljemaa
open Go.RowKit

set_option maxHeartbeats 400000 in
theorem csplit_ex (d : Int) (w : World) (h0 : -719162 ≤ d) (h2 : d ≤ 2932896) :
    Calls Try.prog 17 #[.int .i64 d] w fun e w' => (∃ y m dd : Int, Date (d + 719162) y m dd ∧ e = .returned (.tuple #[.int .i64 y, .int .i64 m, .int .i64 dd, .int .i64 0])) ∧ w = w' := by
  obtain ⟨e, o, ys, r, mp, dd, he, ho, hys, hr, hmp, hdd, e0, e1, o0, o1, y0, y1, r0, r1, m0, m1, d0, d1, D1, D2⟩ := era_parts d h0 h2
  by_cases hm : 12 < mp + 3
  · have D := D2 hm
    have D' := Lib.hid D
    clear D1 D2 D
    go_enter Try.func17, Try.ntmps17
    go_wp2
    refine bodyPost_ret (results_tmp4 rfl _ _ _) rfl ?_
    exact ⟨⟨_, _, _, D'.out, rfl⟩, rfl⟩
  · have D := D1 (by omega)
    have D' := Lib.hid D
    clear D1 D2 D
    go_enter Try.func17, Try.ntmps17
    go_wp2
    refine bodyPost_ret (results_tmp4 rfl _ _ _) rfl ?_
    exact ⟨⟨_, _, _, D'.out, rfl⟩, rfl⟩

theorem csplit_at (d y m dd : Int) (w : World) (h0 : -719162 ≤ d) (h2 : d ≤ 2932896) (hD : Date (d + 719162) y m dd) :
    Calls Try.prog 17 #[.int .i64 d] w fun e w' => e = .returned (.tuple #[.int .i64 y, .int .i64 m, .int .i64 dd, .int .i64 0]) ∧ w = w' := by
  refine (csplit_ex d w h0 h2).mono ?_
  rintro e w' ⟨⟨y', m', dd', h, rfl⟩, rfl⟩
  obtain ⟨rfl, rfl, rfl⟩ := hD.uniq h
  exact ⟨rfl, rfl⟩

set_option maxHeartbeats 400000 in
theorem csplit_no (d : Int) (w : World) (h0 : goodB d = false) :
    Calls Try.prog 17 #[.int .i64 d] w fun e w' => e = .returned (.tuple #[.int .i64 0, .int .i64 0, .int .i64 0, .int .i64 6]) ∧ w = w' := by
  rw [goodB_f] at h0
  rcases (by omega : d < -719162 ∨ 2932896 < d) with h | h
  all_goals
    clear h0
    go_enter Try.func17, Try.ntmps17
    go_wp2
    refine bodyPost_ret (results_tmp4 rfl _ _ _) rfl ?_
    exact ⟨rfl, rfl⟩

set_option maxHeartbeats 1000000 in
theorem rsplit_at (d y m dd : Int) (w : World) (h0 : -719162 ≤ d) (h2 : d ≤ 2932896) (hD : Date (d + 719162) y m dd) :
    Calls Try.prog 16 #[.int .i64 d] w fun e w' => e = .returned (.tuple #[.int .i64 y, .int .i64 m, .int .i64 dd, .int .i64 0]) ∧ w = w' := by
  have hb := hD.bds
  have hy := hD.year (by omega)
  obtain ⟨p1, p2, p3, p4, p5, p6⟩ := hD
  have hg := goodB_yes h0 h2
  have g0 := aheadI_guess (d + 719162) (by omega) (by omega)
  have gy : (d + 719162) / 366 + 1 ≤ y := by
    rcases (by omega : (d + 719162) / 366 + 1 ≤ y ∨ y + 1 ≤ (d + 719162) / 366 + 1) with h | h
    · exact h
    · have := aheadI_mono _ _ h
      omega
  go_enter Try.func16, Try.ntmps16
  go_wp2_with (go_at_call 15; refine (good_any _ _).mono ?_; rintro e w' ⟨rfl, rfl⟩)
  go_loop [7] (fun t => ∃ k : Int, 1 ≤ k ∧ k ≤ y ∧ aheadI k ≤ d + 719162 ∧ t = .int .i64 k) (fun t => (y - intOf t).toNat)
  case atStart => exact ⟨_, by omega, gy, g0, rfl⟩
  case round =>
    obtain ⟨k, k1, k2, k3, rfl⟩ := hrel
    have kb := aheadI_bd (k + 1) (by omega) (by omega)
    by_cases hc : aheadI (k + 1) ≤ d + 719162
    · have hlt : k + 1 ≤ y := by
        rcases (by omega : k + 1 ≤ y ∨ y + 1 ≤ k + 1) with h | h
        · exact h
        · have := aheadI_mono _ _ h
          omega
      go_wp2_with (go_at_call 22; refine (ahead_any _ _ (by omega) (by omega)).mono ?_; rintro e w' ⟨rfl, rfl⟩)
      go_round
      case rel => exact ⟨k + 1, by omega, by omega, hc, rfl⟩
      case measure => simp [intOf]; omega
    · have hky : k = y := by
        rcases (by omega : k = y ∨ k + 1 ≤ y) with h | h
        · exact h
        · have := aheadI_mono _ _ h
          omega
      subst hky
      have kb2 := aheadI_bd k (by omega) (by omega)
      clear g0 gy
      go_wp2_with (go_at_call 22; refine (ahead_any _ _ (by omega) (by omega)).mono ?_; rintro e w' ⟨rfl, rfl⟩)
      go_loop [6, 8] (fun t u => ∃ j : Int, 1 ≤ j ∧ j ≤ m ∧ u = .int .i64 j ∧ t = .int .i64 (d + 719162 - aheadI k - cumI k j)) (fun _ u => (m - intOf u).toNat)
      case atStart => exact ⟨1, by omega, by omega, rfl, by rw [cumI_one]; simp⟩
      case round =>
        obtain ⟨j, j1, j2, rfl, rfl⟩ := hrel
        have hcb := cumI_bd k j j1 (by omega)
        have hlp := lpI_01 k
        have hdb := daysI_bd k j
        have hcs := cumI_succ k j j1 (by omega)
        have hcs' := Lib.hid hcs
        by_cases hj : j = m
        · subst hj
          have hnot : d + 719162 - aheadI k - cumI k j < daysI k j := by omega
          clear hcs
          have p6' := Lib.hid p6
          clear p6
          go_wp2_with (go_at_call 23; refine (days_any _ _ _ (by omega)).mono ?_; rintro e w' ⟨rfl, rfl⟩)
          refine bodyPost_ret (results_tmp4 rfl _ _ _) rfl ?_
          refine ⟨?_, rfl⟩
          have : d + 719162 - aheadI k - cumI k j + 1 = dd := by have := p6'.out; omega
          show Ending.returned (.tuple #[.int .i64 k, .int .i64 j, .int .i64 (d + 719162 - aheadI k - cumI k j + 1), .int .i64 0]) = _
          rw [this]
        · have hm' := cumI_mono k (j + 1) m (by omega) (by omega) (by omega)
          have hyes : daysI k j ≤ d + 719162 - aheadI k - cumI k j := by omega
          clear hcs
          have p6' := Lib.hid p6
          clear p6
          go_wp2_with (go_at_call 23; refine (days_any _ _ _ (by omega)).mono ?_; rintro e w' ⟨rfl, rfl⟩)
          go_round
          case rel => exact ⟨j + 1, by omega, by omega, rfl, by rw [hcs'.out]; congr 1; omega⟩
          case measure => simp [intOf]; omega
end Go.Proofs.Ytedlfnaboljemaa
