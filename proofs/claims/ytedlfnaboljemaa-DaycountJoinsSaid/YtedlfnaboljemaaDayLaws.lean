/-
The walks of the laws DaycountCounts and DaycountDues: each returns true and writes nothing that was there.
-/
import Derived.Test.YtedlfnaboljemaaDayWakes
namespace Go.Proofs.Ytedlfnaboljemaa
open Go.RowKit

theorem date_ex (d : Int) (h1 : -719162 ≤ d) (h2 : d ≤ 2932896) : ∃ y m dd, Date (d + 719162) y m dd := by
  obtain ⟨e, o, ys, r, mp, dd, he, ho, hys, hr, hmp, hdd, e0, e1, o0, o1, y0, y1, r0, r1, m0, m1, d0, d1, D1, D2⟩ := era_parts d h1 h2
  by_cases hm : 12 < mp + 3
  · exact ⟨_, _, _, D2 hm⟩
  · exact ⟨_, _, _, D1 (by omega)⟩

/-- the two answers of Count are one, whatever is asked. -/
theorem counts_both (c a b : Int) : ∃ x y e : Int, (∀ w, Calls Try.prog 7 #[.int .i64 c, .int .i64 a, .int .i64 b] w fun e' w' => e' = .returned (R3 x y e) ∧ Below w.heap.size w w') ∧
    (∀ w, Calls Try.prog 8 #[.int .i64 c, .int .i64 a, .int .i64 b] w fun e' w' => e' = .returned (R3 x y e) ∧ w = w') := by
  by_cases h1 : c < 1 ∨ 3 < c
  · exact ⟨0, 0, 2, fun w => ccount_conv c a b w h1, fun w => rcount_conv c a b w h1⟩
  · by_cases h2 : a < -719162 ∨ 2932896 < b ∨ b < a
    · exact ⟨0, 0, 6, fun w => ccount_date c a b w (by omega) (by omega) h2, fun w => rcount_date c a b w (by omega) (by omega) h2⟩
    · rcases (by omega : c = 1 ∨ (c = 2 ∨ c = 3)) with rfl | h3
      · obtain ⟨y, m, d, hA⟩ := date_ex a (by omega) (by omega)
        obtain ⟨y', m', d', hB⟩ := date_ex b (by omega) (by omega)
        exact ⟨thirtyI y m d y' m' d', 360, 0, fun w => ccount_1 a b y m d y' m' d' w (by omega) (by omega) (by omega) hA hB, fun w => rcount_1 a b y m d y' m' d' w (by omega) (by omega) (by omega) hA hB⟩
      · exact ⟨b - a, if c = 2 then 360 else 365, 0, fun w => ccount_23 c a b w h3 (by omega) (by omega) (by omega), fun w => rcount_23 c a b w h3 (by omega) (by omega) (by omega)⟩

set_option maxHeartbeats 1000000 in
theorem countsLaw (c a b : Int) (w : World) (_ : (Lit.int .i64 c).wf = true) (_ : (Lit.int .i64 a).wf = true) (_ : (Lit.int .i64 b).wf = true) :
    Calls Try.prog 3 #[.int .i64 c, .int .i64 a, .int .i64 b] w fun e w' => e = .returned (.bool true) ∧ Below w.heap.size w w' := by
  obtain ⟨x, y, e, h1, h2⟩ := counts_both c a b
  have H1 := Lib.hid h1
  have H2 := Lib.hid h2
  clear h1 h2
  go_enter Try.func3, Try.ntmps3
  go_wp2_with fail
  refine (wakes_any _).mono ?_
  rintro e w1 ⟨rfl, hb1⟩
  go_wp2_with fail
  refine (H1.out _).mono ?_
  rintro e w2 ⟨rfl, hb2⟩
  unfold R3
  go_wp2_with fail
  refine (H2.out _).mono ?_
  rintro e w3 ⟨rfl, rfl⟩
  unfold R3
  go_wp2
  go_ret
  exact ⟨rfl, hb1.trans (hb2.mono hb1.size)⟩

/-- the two answers of Dues are one. -/
def DuesBoth (a s n : Int) : Prop := ∃ code : Int, ∃ xs : List Int,
  (∀ w, Calls Try.prog 9 #[.int .i64 a, .int .i64 s, .int .i64 n] w fun e w' => ∃ v, e = .returned (.tuple #[v, .int .i64 code]) ∧ IntsIn w' (fun _ => True) v xs ∧ Below w.heap.size w w') ∧
  (∀ w, Calls Try.prog 10 #[.int .i64 a, .int .i64 s, .int .i64 n] w fun e w' => ∃ v, e = .returned (.tuple #[v, .int .i64 code]) ∧ IntsIn w' (fun _ => True) v xs ∧ Below w.heap.size w w')
theorem dues_both (a s n : Int) : DuesBoth a s n := by
  by_cases h1 : s < 1 ∨ 120 < s ∨ n < 0 ∨ 480 < n
  · exact ⟨2, [], fun w => (cdues_range a s n w h1).mono fun _ _ ⟨he, hw⟩ => ⟨_, he, IntsIn.nil _ _, hw ▸ Below.refl _ _⟩, fun w => (rdues_range a s n w h1).mono fun _ _ ⟨he, hw⟩ => ⟨_, he, IntsIn.nil _ _, hw ▸ Below.refl _ _⟩⟩
  · rcases hg : goodB a with _ | _
    · exact ⟨6, [], fun w => (cdues_date a s n w (by omega) (by omega) (by omega) (by omega) hg).mono fun _ _ ⟨he, hw⟩ => ⟨_, he, IntsIn.nil _ _, hw ▸ Below.refl _ _⟩, fun w => (rdues_date a s n w (by omega) (by omega) (by omega) (by omega) hg).mono fun _ _ ⟨he, hw⟩ => ⟨_, he, IntsIn.nil _ _, hw ▸ Below.refl _ _⟩⟩
    · rw [goodB_t] at hg
      obtain ⟨y, m, d, hD⟩ := date_ex a hg.1 hg.2
      obtain ⟨k, rfl⟩ : ∃ k : Nat, n = (k : Int) := ⟨n.toNat, by omega⟩
      by_cases hall : ∀ j, j < k → dueI y m d s ((j + 1 : Nat) : Int) ≠ none
      · refine ⟨0, duesI y m d s k, fun w => (cdues_any a y m d s k w hg.1 hg.2 hD (by omega) (by omega) (by omega)).mono ?_, fun w => (rdues_any a y m d s k w hg.1 hg.2 hD (by omega) (by omega) (by omega)).mono ?_⟩
        all_goals
          rintro e w' ⟨hb, ⟨_, v, he, hv⟩ | ⟨⟨j, hj, hx⟩, _⟩⟩
          · exact ⟨v, he, hv.mono fun _ _ => trivial, hb⟩
          · exact absurd hx (hall j hj)
      · refine ⟨6, [], fun w => (cdues_any a y m d s k w hg.1 hg.2 hD (by omega) (by omega) (by omega)).mono ?_, fun w => (rdues_any a y m d s k w hg.1 hg.2 hD (by omega) (by omega) (by omega)).mono ?_⟩
        all_goals
          rintro e w' ⟨hb, ⟨h, _⟩ | ⟨_, he⟩⟩
          · exact absurd h hall
          · exact ⟨_, he, IntsIn.nil _ _, hb⟩

set_option maxHeartbeats 1000000 in
theorem duesLaw (a s n : Int) (w : World) (_ : (Lit.int .i64 a).wf = true) (_ : (Lit.int .i64 s).wf = true) (_ : (Lit.int .i64 n).wf = true) :
    Calls Try.prog 4 #[.int .i64 a, .int .i64 s, .int .i64 n] w fun e w' => e = .returned (.bool true) ∧ Below w.heap.size w w' := by
  obtain ⟨code, xs, h1, h2⟩ := dues_both a s n
  have H1 := Lib.hid h1
  have H2 := Lib.hid h2
  clear h1 h2
  go_enter Try.func4, Try.ntmps4
  go_wp2_with fail
  refine (wakes_any _).mono ?_
  rintro e w1 ⟨rfl, hb1⟩
  go_wp2_with fail
  refine (H1.out _).mono ?_
  rintro e w2 ⟨v2, rfl, hv2, hb2⟩
  go_wp2_with fail
  refine (H2.out _).mono ?_
  rintro e w3 ⟨v3, rfl, hv3, hb3⟩
  have hv2' := Lib.hid (hv2.below hb3)
  have hv3' := Lib.hid hv3
  have hb03 := hb1.trans ((hb2.trans (hb3.mono hb2.size)).mono hb1.size)
  have hxx : (xs == xs) = true := by simp
  clear hv2 hv3
  go_wp2_with fail
  refine (same_any _ _ _ _ _ _ _ hv2'.out hv3'.out).mono ?_
  rintro e w4 ⟨rfl, q, rfl⟩
  rw [hxx]
  go_wp2
  go_ret
  exact ⟨rfl, below_drewN hb03 _⟩
end Go.Proofs.Ytedlfnaboljemaa
