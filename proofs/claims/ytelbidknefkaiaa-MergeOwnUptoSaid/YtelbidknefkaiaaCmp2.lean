/-
The contracts of usanceref10.Cmp, SameOne, One, slices.Clone at bytes, entry.Clone.
-/
import Derived.Test.YtelbidknefkaiaaCmp
import Derived.Deep.RegionLaw
namespace Go.Proofs.Ytelbidknefkaiaa
open Go.RowKit
attribute [local go_sem ↓] Go.wp_at_zero Go.wp_at_succ

set_option maxRecDepth 100000 in
set_option maxHeartbeats 2000000 in
theorem rcmp_any (S S' : Nat → Prop) (v v' : Value) (a b : Ent) (w : World) (hv : EntV w S v a) (hv' : EntV w S' v' b) :
    Calls Try.prog 41 #[v, v'] w fun r w' => r = .returned (.int .i64 (cmpE a b)) ∧ Below w.heap.size w w' := by
  obtain ⟨k1, u1, rfl, h1, _⟩ := hv
  obtain ⟨k2, u2, rfl, h2, _⟩ := hv'
  have hA : Below w.heap.size w ((w.alloc (.cells #[k1, .int .i64 a.seq, .bool a.dead, u1] 26)).alloc (.cells #[k2, .int .i64 b.seq, .bool b.dead, u2] 26)) := ((Below.refl _ _).alloc (Nat.le_refl _) _).alloc (by simp) _
  have HA := Lib.hid hA
  have c1 := (h1.below hA).convert
  have c2 := (h2.below hA).convert
  have l1 := h1.len
  have l2 := h2.len
  clear h1 h2
  clear hA
  have cases_ : (cmpB a.key b.key = 0 ∧ b.seq < a.seq) ∨ (cmpB a.key b.key = 0 ∧ a.seq < b.seq) ∨ (cmpB a.key b.key = 0 ∧ a.seq = b.seq) ∨ ¬ cmpB a.key b.key = 0 := by omega
  rcases cases_ with ⟨e1, e2⟩ | ⟨e1, e2⟩ | ⟨e1, e2⟩ | e1
  · have hres : cmpE a b = -1 := by unfold cmpE cmpI; rw [if_pos e1, if_pos e2]
    rw [hres]
    have e1' : (cmpB a.key b.key == 0) = true := by rw [e1]; rfl
    clear hres e1
    go_enter Try.func41, Try.ntmps41
    go_wp2_with (go_at_call 52; refine (less_any a.key b.key _ l1 l2).mono ?_; rintro r w' ⟨rfl, q, rfl⟩)
    go_ret
    exact ⟨rfl, below_drewN HA.out _⟩
  · have hres : cmpE a b = 1 := by unfold cmpE cmpI; rw [if_pos e1, if_neg (by omega), if_pos e2]
    rw [hres]
    have e1' : (cmpB a.key b.key == 0) = true := by rw [e1]; rfl
    clear hres e1
    go_enter Try.func41, Try.ntmps41
    go_wp2_with (go_at_call 52; refine (less_any a.key b.key _ l1 l2).mono ?_; rintro r w' ⟨rfl, q, rfl⟩)
    go_ret
    exact ⟨rfl, below_drewN HA.out _⟩
  · have hres : cmpE a b = cmpB a.key b.key := by unfold cmpE cmpI; rw [if_pos e1, e2, if_neg (by omega), if_neg (by omega), e1]
    rw [hres]
    have e3 : ¬ b.seq < a.seq := by omega
    have e4 : ¬ a.seq < b.seq := by omega
    have e1' : (cmpB a.key b.key == 0) = true := by rw [e1]; rfl
    clear hres e1 e2
    go_enter Try.func41, Try.ntmps41
    go_wp2_with (go_at_call 52; refine (less_any a.key b.key _ l1 l2).mono ?_; rintro r w' ⟨rfl, q, rfl⟩)
    go_ret
    exact ⟨rfl, below_drewN HA.out _⟩
  · have hres : cmpE a b = cmpB a.key b.key := by unfold cmpE; rw [if_neg e1]
    rw [hres]
    have e1' : (cmpB a.key b.key == 0) = false := by simpa using e1
    clear hres e1
    go_enter Try.func41, Try.ntmps41
    go_wp2_with (go_at_call 52; refine (less_any a.key b.key _ l1 l2).mono ?_; rintro r w' ⟨rfl, q, rfl⟩)
    go_ret
    exact ⟨rfl, below_drewN HA.out _⟩

theorem ent_ne {a b : Ent} (h : ¬ (a.key = b.key ∧ a.seq = b.seq ∧ a.dead = b.dead ∧ a.val = b.val)) : false = decide (a = b) := by
  rw [decide_eq_false]
  rintro rfl
  exact h ⟨rfl, rfl, rfl, rfl⟩

set_option maxRecDepth 100000 in
set_option maxHeartbeats 2000000 in
theorem sameone_any (S S' : Nat → Prop) (v v' : Value) (a b : Ent) (w : World) (hv : EntV w S v a) (hv' : EntV w S' v' b) :
    Calls Try.prog 15 #[v, v'] w fun r w' => r = .returned (.bool (decide (a = b))) ∧ Below w.heap.size w w' := by
  obtain ⟨k1, u1, rfl, h1, g1⟩ := hv
  obtain ⟨k2, u2, rfl, h2, g2⟩ := hv'
  have hA : Below w.heap.size w ((w.alloc (.cells #[k1, .int .i64 a.seq, .bool a.dead, u1] 26)).alloc (.cells #[k2, .int .i64 b.seq, .bool b.dead, u2] 26)) := ((Below.refl _ _).alloc (Nat.le_refl _) _).alloc (by simp) _
  have c1 := (h1.below hA).convert
  have c2 := (h2.below hA).convert
  have d1 := (g1.below hA).convert
  have d2 := (g2.below hA).convert
  have HA := Lib.hid hA
  clear hA h1 h2 g1 g2
  by_cases e1 : a.key = b.key
  · by_cases e2 : a.seq = b.seq
    · by_cases e3 : a.dead = b.dead
      · by_cases e4 : a.val = b.val
        · have e : a = b := by cases a; cases b; simp_all
          subst e
          clear e1 e2 e3 e4
          go_enter Try.func15, Try.ntmps15
          go_wp2
          go_ret
          exact ⟨ret_bool (by simp), HA.out⟩
        · rw [← ent_ne (fun h => e4 h.2.2.2)]
          rcases a with ⟨ak, as', ad, av⟩
          rcases b with ⟨bk, bs', bd, bv⟩
          simp only at e1 e2 e3 e4 c1 c2 d1 d2 HA ⊢
          subst e1 e2 e3
          go_enter Try.func15, Try.ntmps15
          go_wp2
          go_ret
          exact ⟨ret_bool (by simpa using e4), HA.out⟩
      · rw [← ent_ne (fun h => e3 h.2.2.1)]
        rcases a with ⟨ak, as', ad, av⟩
        rcases b with ⟨bk, bs', bd, bv⟩
        simp only at e1 e2 e3 c1 c2 d1 d2 HA ⊢
        subst e1 e2
        have e3' : (ad == bd) = false := by simpa using e3
        clear e3
        go_enter Try.func15, Try.ntmps15
        go_wp2
        go_ret
        exact ⟨rfl, HA.out⟩
    · rw [← ent_ne (fun h => e2 h.2.1)]
      rcases a with ⟨ak, as', ad, av⟩
      rcases b with ⟨bk, bs', bd, bv⟩
      simp only at e1 e2 c1 c2 d1 d2 HA ⊢
      subst e1
      have e2' : (as' == bs') = false := by simpa using e2
      clear e2
      go_enter Try.func15, Try.ntmps15
      go_wp2
      go_ret
      exact ⟨rfl, HA.out⟩
  · rw [← ent_ne (fun h => e1 h.1)]
    go_enter Try.func15, Try.ntmps15
    go_wp2
    go_ret
    exact ⟨rfl, HA.out⟩
end Go.Proofs.Ytelbidknefkaiaa
