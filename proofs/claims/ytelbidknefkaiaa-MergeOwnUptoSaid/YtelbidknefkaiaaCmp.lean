/-
The contract of entry.Compare and of usanceref10.Cmp.
-/
import Derived.Test.YtelbidknefkaiaaEnt
import Derived.Deep.RegionWith
namespace Go.Proofs.Ytelbidknefkaiaa
open Go.RowKit
attribute [local go_sem ↓] Go.wp_at_zero Go.wp_at_succ

theorem cmpc_any (x y : Int) (w : World) : Calls Try.prog 50 #[.int .i64 x, .int .i64 y] w fun e w' => e = .returned (.int .i64 (cmpI x y)) ∧ w = w' :=
  (Try.cmp_Compare_int x y w).mono fun _ _ ⟨h, h'⟩ => ⟨by rw [h, compareInt_eq], h'.symm⟩

set_option maxRecDepth 100000 in
set_option maxHeartbeats 4000000 in
theorem compare_any (S S' : Nat → Prop) (v v' : Value) (a b : Ent) (w : World) (hv : EntV w S v a) (hv' : EntV w S' v' b) :
    Calls Try.prog 38 #[v, v'] w fun r w' => r = .returned (.int .i64 (cmpE a b)) ∧ Below w.heap.size w w' := by
  obtain ⟨k1, u1, rfl, h1, _⟩ := hv
  obtain ⟨k2, u2, rfl, h2, _⟩ := hv'
  have hA : Below w.heap.size w ((w.alloc (.cells #[k1, .int .i64 a.seq, .bool a.dead, u1] 26)).alloc (.cells #[k2, .int .i64 b.seq, .bool b.dead, u2] 26)) := ((Below.refl _ _).alloc (Nat.le_refl _) _).alloc (by simp) _
  have HA := Lib.hid hA
  have H1 := Lib.hid (h1.below hA)
  have H2 := Lib.hid (h2.below hA)
  clear hA h1 h2
  go_enter Try.func38, Try.ntmps38
  go_wp2
  go_region_held3 (fun w' => w'.cell? ⟨w.heap.size, 0, none⟩ = some k1 ∧ w'.cell? ⟨w.heap.size, 1, none⟩ = some (.int .i64 a.seq) ∧ w'.cell? ⟨w.heap.size + 1, 0, none⟩ = some k2 ∧ w'.cell? ⟨w.heap.size + 1, 1, none⟩ = some (.int .i64 b.seq)) (go_keep)
    (first
      | (go_at_call 49; refine (bcompare_any S S' _ _ a.key b.key _ (by exact H1.out) (by exact H2.out)).mono ?_; rintro r w' ⟨rfl, rfl⟩)
      | (go_at_call 50; refine (cmpc_any _ _ _).mono ?_; rintro r w' ⟨rfl, rfl⟩)
      | (go_at_call 48; refine (or2_any (cmpB a.key b.key) (cmpI b.seq a.seq) _ _ ?_ ?_).mono ?_; (simp [go_sem]); (simp [go_sem]); rintro r w' ⟨rfl, rfl⟩))
  all_goals go_wp2
  go_ret
  refine ⟨rfl, ?_⟩
  have h1 := HA.out
  exact (h1.alloc h1.size _).drew
end Go.Proofs.Ytelbidknefkaiaa
