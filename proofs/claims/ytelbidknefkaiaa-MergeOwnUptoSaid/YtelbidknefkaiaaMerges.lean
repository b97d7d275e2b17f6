/-
The walk of the law MergeMerges, where all lists' entries together are not too many.
-/
import Derived.Test.YtelbidknefkaiaaRMerge
import Derived.Test.YtelbidknefkaiaaWakes
import Derived.Test.YtelbidknefkaiaaBulk
namespace Go.Proofs.Ytelbidknefkaiaa
open Go.RowKit Go.BigFrame
attribute [local go_sem ↓] Go.wp_at_zero Go.wp_at_succ

theorem Lists.mono {w : World} {S S' : Nat → Prop} {v : Value} {ls : List (List Ent)} (h : Lists w S v ls) (hS : ∀ i, i < w.heap.size → S i → S' i) : Lists w S' v ls := by
  obtain ⟨A, c, vs, e, h1, h2, h3, h4, h5⟩ := h
  refine ⟨A, c, vs, e, h1, h2, h3, ⟨h4.1, fun hn => ?_⟩, fun i l hl => ?_⟩
  · obtain ⟨b, o, e, hb, hlt, hc⟩ := h4.2 hn
    exact ⟨b, o, e, hS b hlt hb, hlt, hc⟩
  · obtain ⟨x, hx, hy⟩ := h5 i l hl
    exact ⟨x, hx, hy.monoLt hS⟩
theorem Lists.lt {w : World} {S : Nat → Prop} {v : Value} {ls : List (List Ent)} (h : Lists w S v ls) : Lists w (fun i => i < w.heap.size) v ls := h.mono fun _ hi _ => hi

set_option maxRecDepth 100000 in
set_option maxHeartbeats 1000000 in
theorem mergesLaw (v : Value) (ls : List (List Ent)) (w : World) (hv : Lists w (fun _ => True) v ls) (hN : total ls * 64 ≤ 140737488355328) :
    Calls Try.prog 5 #[v] w fun r w' => r = .returned (.bool true) ∧ Below w.heap.size w w' := by
  have HV := Lib.hid hv
  have HN := Lib.hid hN
  obtain ⟨x, e, hxe⟩ : ∃ x e, mergeC ls = (x, e) := ⟨_, _, rfl⟩
  have HM := Lib.hid hxe
  clear hv hN hxe
  go_enter Try.func5, Try.ntmps5
  go_wp2_with fail
  refine (wakes_any _).mono ?_
  rintro r w1 ⟨rfl, hb1⟩
  have HV1 := Lib.hid (HV.out.below hb1)
  have HB1 := Lib.hid hb1
  clear hb1
  go_wp2_with fail
  refine (lists_any _ _ _ _ HV1.out).mono ?_
  rintro r w2 ⟨v2, rfl, he2, hb2⟩
  have HE2 := Lib.hid he2.lt
  have HV2 := Lib.hid (HV1.out.below hb2)
  have HB2 := Lib.hid (HB1.out.trans (hb2.mono HB1.out.size))
  clear he2 hb2
  go_wp2_with fail
  have HC := merge_any _ _ _ _ HE2.out (fun _ h => h) HN.out
  rw [HM.out] at HC
  have HC' := Lib.hid HC
  clear HC
  refine HC'.out.mono ?_
  rintro r w3 ⟨v3, rfl, he3, hb3⟩
  have HE3 := Lib.hid he3
  have HV3 := Lib.hid (HV2.out.below hb3)
  have HB3 := Lib.hid (HB2.out.trans (hb3.mono HB2.out.size))
  clear he3 hb3
  go_wp2_with fail
  refine (rmerge_any _ _ _ _ HV3.out HN.out).mono ?_
  rintro r w4 ⟨v4, rs, n, rfl, hrm, he4, hb4⟩
  have hml := merge_law hrm
  rw [HM.out] at hml
  injection hml with e1 e2
  subst e1 e2
  have HX4 := Lib.hid (HE3.out.below hb4)
  have HB4 := Lib.hid (HB3.out.trans (hb4.mono HB3.out.size))
  have HS := sameE_any _ _ _ _ _ _ _ HX4.out he4
  rw [decide_eq_true rfl] at HS
  have HS' := Lib.hid HS
  clear HS he4 hb4 hrm
  go_wp2_with fail
  refine HS'.out.mono ?_
  rintro r w5 ⟨rfl, hb5⟩
  have HB5 := Lib.hid (HB4.out.trans (hb5.mono HB4.out.size))
  clear hb5
  go_wp2
  refine bodyPost_ret (v := .bool _) (by simp [results, Try.results5, go_sem]; rfl) rfl ?_
  exact ⟨rfl, HB5.out⟩
theorem mergesUpto (v : Value) (ls : List (List Ent)) (w : World) (hv : Lists w (fun _ => True) v ls) (hN : total ls ≤ 1048576) :
    Calls Try.prog 5 #[v] w fun r w' => r = .returned (.bool true) ∧ Below w.heap.size w w' := mergesLaw v ls w hv (by omega)
end Go.Proofs.Ytelbidknefkaiaa
