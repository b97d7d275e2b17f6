/-
The contract of usanceref03.Same.
-/
import Derived.Test.YtedlfnaboljemaaRow
import Derived.LoopTactic
import Derived.Deep.LoopGhost
namespace Go.Proofs.Ytedlfnaboljemaa
open Go.RowKit

theorem ints_get {xs : List Int} {k : Nat} {u : Value} (h : (xs.map (Value.int .i64))[k]? = some u) : ∃ x, xs[k]? = some x ∧ u = .int .i64 x := by
  rw [List.getElem?_map] at h
  rcases hx : xs[k]? with _ | x
  · rw [hx] at h; cases h
  · rw [hx] at h
    exact ⟨x, rfl, by injection h with h; exact h.symm⟩
theorem take_eq_succ {xs ys : List Int} {k : Nat} {x y : Int} (hx : xs[k]? = some x) (hy : ys[k]? = some y) (h : xs.take k = ys.take k) (e : x = y) : xs.take (k + 1) = ys.take (k + 1) := by
  rw [List.take_add_one, List.take_add_one, h, hx, hy, e]

set_option maxHeartbeats 1000000 in
theorem same_any (S S' : Nat → Prop) (v v' : Value) (xs ys : List Int) (w : World) (hx : IntsIn w S v xs) (hy : IntsIn w S' v' ys) :
    Calls Try.prog 11 #[v, v'] w fun e w' => e = .returned (.bool (xs == ys)) ∧ ∃ n, w' = w.drewN n := by
  obtain ⟨A, c, rfl, hc, hl, hr⟩ := hx
  obtain ⟨A', c', rfl, hc', hl', hr'⟩ := hy
  rcases (by omega : xs.length = ys.length ∨ ¬ xs.length = ys.length) with hlen | hlen
  · have hL := Lib.hid hlen
    obtain ⟨n, hn⟩ : ∃ n, xs.length = n := ⟨_, rfl⟩
    rw [← hlen] at hr' ⊢
    rw [hn] at hr hr' hl ⊢
    clear hlen
    have hN := Lib.hid hn
    clear hn
    go_enter Try.func11, Try.ntmps11
    go_wp2
    go_loopw [5, 13] (fun _ t wr => ∃ k q : Nat, k ≤ n ∧ t = .int .i64 k ∧ xs.take k = ys.take k ∧ wr = w.drewN q) (fun _ t _ => n - (intOf t).toNat)
    case atStart => exact ⟨0, 0, by omega, rfl, by simp, rfl⟩
    case round =>
      obtain ⟨k, q, hk, rfl, hpre, rfl⟩ := hrel
      have hp := Lib.hid hpre
      clear hpre
      by_cases hkn : k < n
      · obtain ⟨b, o, u, rfl, _, _, hu, hcell⟩ := hr.at_ hkn
        obtain ⟨b', o', u', rfl, _, _, hu', hcell'⟩ := hr'.at_ hkn
        obtain ⟨x, hx, rfl⟩ := ints_get hu
        obtain ⟨y, hy, rfl⟩ := ints_get hu'
        have hx' := Lib.hid hx
        have hy' := Lib.hid hy
        clear hu hu' hx hy
        rcases hxy : (x != y) with _ | _
        · go_wp2
          go_quiet (fail)
          go_wp2
          refine ⟨⟨k + 1, _, by omega, by go_num, take_eq_succ hx'.out hy'.out hp.out (by simpa using hxy), rfl⟩, ?_⟩
          simp [intOf]; omega
        · go_wp2
          go_quiet (fail)
          go_wp2
          go_ret
          refine ⟨ret_bool ?_, _, World.drewN_drewN _ _ _⟩
          have hne : xs ≠ ys := by
            intro e
            have h1 := hx'.out
            rw [e, hy'.out] at h1
            injection h1 with h1
            simp [h1] at hxy
          exact (beq_eq_false_iff_ne.2 hne).symm
      · obtain rfl : k = n := by omega
        go_wp2
        go_ret
        refine ⟨ret_bool ?_, q, rfl⟩
        have e1 := hp.out
        rw [List.take_of_length_le (by rw [hN.out]; exact Nat.le_refl _), List.take_of_length_le (by rw [← hL.out, hN.out]; exact Nat.le_refl _)] at e1
        rw [e1]
        simp
  · have hne : xs ≠ ys := fun e => hlen (by rw [e])
    have hN := Lib.hid hne
    have hb : ((xs.length : Int) != (ys.length : Int)) = true := by rw [bne_iff_ne]; omega
    clear hne hlen
    go_enter Try.func11, Try.ntmps11
    go_wp2
    go_ret
    exact ⟨ret_bool (beq_eq_false_iff_ne.2 hN.out).symm, 0, rfl⟩
end Go.Proofs.Ytedlfnaboljemaa
