/-
usanceref10.Same over slices of entries.
-/
import Derived.Test.YtelbidknefkaiaaCopy
import Derived.StillTailTactics
namespace Go.Proofs.Ytelbidknefkaiaa
open Go.RowKit
attribute [local go_sem ↓] Go.wp_at_zero Go.wp_at_succ

theorem EntV.drew {w : World} {S : Nat → Prop} {v : Value} {e : Ent} (h : EntV w S v e) : EntV w.drew S v e := h

set_option maxRecDepth 100000 in
set_option maxHeartbeats 2000000 in
theorem sameE_any (S S' : Nat → Prop) (v v' : Value) (xs ys : List Ent) (w : World) (hx : Ents w S v xs) (hy : Ents w S' v' ys) :
    Calls Try.prog 20 #[v, v'] w fun e w' => e = .returned (.bool (decide (xs = ys))) ∧ Below w.heap.size w w' := by
  obtain ⟨A, c, cs, rfl, hc, hcm, hl, hr, he⟩ := hx
  obtain ⟨A', c', cs', rfl, hc', hcm', hl', hr', he'⟩ := hy
  rcases (by omega : xs.length = ys.length ∨ ¬ xs.length = ys.length) with hlen | hlen
  · have hL := Lib.hid hlen
    obtain ⟨n, hn⟩ : ∃ n, xs.length = n := ⟨_, rfl⟩
    rw [← hlen] at hr' ⊢
    rw [hn] at hr hr' hl ⊢
    clear hlen
    have hN := Lib.hid hn
    clear hn
    go_enter Try.func20, Try.ntmps20
    go_wp2
    go_loopw [5, 13] (fun _ t wr => ∃ k : Nat, k ≤ n ∧ t = .int .i64 k ∧ xs.take k = ys.take k ∧ Below w.heap.size w wr) (fun _ t _ => n - (intOf t).toNat)
    case atStart => exact ⟨0, by omega, rfl, by simp, Below.refl _ _⟩
    case round =>
      obtain ⟨k, hk, rfl, hpre, hbel⟩ := hrel
      have hp := Lib.hid hpre
      clear hpre
      by_cases hkn : k < n
      · obtain ⟨x, hxk⟩ : ∃ x, xs[k]? = some x := ⟨_, List.getElem?_eq_getElem (by rw [hN.out]; exact hkn)⟩
        obtain ⟨y, hyk⟩ : ∃ y, ys[k]? = some y := ⟨_, List.getElem?_eq_getElem (by rw [← hL.out, hN.out]; exact hkn)⟩
        obtain ⟨b, o, k1, u1, rfl, c0, c1, c2, c3, b1, b2, _, _⟩ := (hr.below hbel).ent (he.below hbel) hN.out hxk
        obtain ⟨b', o', k2, u2, rfl, d0, d1, d2, d3, e1, e2, _, _⟩ := (hr'.below hbel).ent (he'.below hbel) (by rw [← hL.out, hN.out]) hyk
        have hev := Lib.hid (show EntV wr S (.agg #[k1, .int .i64 x.seq, .bool x.dead, u1]) x from ⟨_, _, rfl, b1, b2⟩)
        have hev' := Lib.hid (show EntV wr S' (.agg #[k2, .int .i64 y.seq, .bool y.dead, u2]) y from ⟨_, _, rfl, e1, e2⟩)
        have HX := Lib.hid hxk
        have HY := Lib.hid hyk
        clear b1 b2 e1 e2 hxk hyk
        rcases hxy : decide (x = y) with _ | _
        · have hne : ¬ xs = ys := fun e => by
            have h1 := HX.out
            rw [e, HY.out] at h1
            injection h1 with h1
            simp [h1] at hxy
          have HN := Lib.hid hne
          have HXY := Lib.hid hxy
          clear hne hxy
          go_wp2
          go_still_tail 8, (by kernel_rfl)
          go_wp2_with (go_at_call 15; refine (sameone_any S S' _ _ x y _ (by exact hev.out.drew) (by exact hev'.out.drew)).mono ?_; rintro r w1 ⟨rfl, hb⟩; rw [HXY.out])
          go_ret
          exact ⟨ret_bool (decide_eq_false HN.out).symm, hbel.trans ((undrew hb).mono (by have := hbel.size; simpa using this))⟩
        · have HXY := Lib.hid hxy
          clear hxy
          go_wp2
          go_still_tail 8, (by kernel_rfl)
          go_wp2_with (go_at_call 15; refine (sameone_any S S' _ _ x y _ (by exact hev.out.drew) (by exact hev'.out.drew)).mono ?_; rintro r w1 ⟨rfl, hb⟩; rw [HXY.out])
          refine ⟨⟨k + 1, by omega, by go_num, ?_, hbel.trans ((undrew hb).mono (by have := hbel.size; simpa using this))⟩, by simp [intOf]; omega⟩
          rw [take_snoc HX.out, take_snoc HY.out, hp.out, of_decide_eq_true HXY.out]
      · obtain rfl : k = n := by omega
        go_wp2
        go_ret
        refine ⟨ret_bool ?_, hbel⟩
        have e1 := hp.out
        rw [List.take_of_length_le (by rw [hN.out]; exact Nat.le_refl _), List.take_of_length_le (by rw [← hL.out, hN.out]; exact Nat.le_refl _)] at e1
        rw [e1]
        simp
  · have hN := Lib.hid (show ¬ xs = ys from fun e => hlen (by rw [e]))
    have hb : ((xs.length : Int) != (ys.length : Int)) = true := by rw [bne_iff_ne]; omega
    clear hlen
    go_enter Try.func20, Try.ntmps20
    go_wp2
    go_ret
    exact ⟨ret_bool (decide_eq_false hN.out).symm, Below.refl _ _⟩
end Go.Proofs.Ytelbidknefkaiaa
