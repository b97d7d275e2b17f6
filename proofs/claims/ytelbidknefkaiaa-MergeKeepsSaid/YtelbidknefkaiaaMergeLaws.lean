/-
The walks of the laws MergeThins and MergeVisible: each returns true and writes nothing that was there.
-/
import Derived.Test.YtelbidknefkaiaaWakes
import Derived.Test.YtelbidknefkaiaaThin2
import Derived.Test.YtelbidknefkaiaaThinP
import Derived.Test.YtelbidknefkaiaaVis2
import Derived.Test.YtelbidknefkaiaaOpen
import Derived.Test.YtelbidknefkaiaaVisP
namespace Go.Proofs.Ytelbidknefkaiaa
open Go.RowKit Go.BigFrame
attribute [local go_sem ↓] Go.wp_at_zero Go.wp_at_succ

def errO (b : Bool) : Int := if b then 0 else 30
theorem thin_both (es : List Ent) (mark : Int) (bottom : Bool) : ∃ xs : List Ent,
    (∀ S v w, Ents w S v es → Calls Try.prog 29 #[v, .int .i64 mark, .bool bottom] w fun r w' => ∃ v', r = .returned (.tuple #[v', .int .i64 (errO (orderedE es))]) ∧ Ents w' (fun i => w.heap.size ≤ i) v' xs ∧ Below w.heap.size w w') ∧
    (∀ S v w, Ents w S v es → Calls Try.prog 30 #[v, .int .i64 mark, .bool bottom] w fun r w' => ∃ v', r = .returned (.tuple #[v', .int .i64 (errO (orderedE es))]) ∧ Ents w' (fun _ => True) v' xs ∧ Below w.heap.size w w') := by
  refine ⟨if orderedE es then thinC mark bottom [] es else [], fun S v w h => thin_any S v es mark bottom w h, fun S v w h => ?_⟩
  refine (rthin_any S v es mark bottom w h).mono ?_
  rintro r w' ⟨v', rfl, he, hb⟩
  refine ⟨v', rfl, ?_, hb⟩
  by_cases ho : orderedE es = true
  · rw [if_pos ho] at he ⊢; rw [thin_law ho]; exact he
  · rw [if_neg ho] at he ⊢; exact he
theorem vis_both (es : List Ent) (seq : Int) : ∃ xs : List Pr,
    (∀ S v w, Ents w S v es → Calls Try.prog 26 #[v, .int .i64 seq] w fun r w' => ∃ v', r = .returned (.tuple #[v', .int .i64 (errO (orderedE es))]) ∧ Prs w' (fun i => w.heap.size ≤ i) v' xs ∧ Below w.heap.size w w') ∧
    (∀ S v w, Ents w S v es → Calls Try.prog 27 #[v, .int .i64 seq] w fun r w' => ∃ v', r = .returned (.tuple #[v', .int .i64 (errO (orderedE es))]) ∧ Prs w' (fun _ => True) v' xs ∧ Below w.heap.size w w') := by
  refine ⟨if orderedE es then visC seq [] es else [], fun S v w h => vis_any S v es seq w h, fun S v w h => ?_⟩
  refine (rvis_any S v es seq w h).mono ?_
  rintro r w' ⟨v', rfl, he, hb⟩
  refine ⟨v', rfl, ?_, hb⟩
  by_cases ho : orderedE es = true
  · rw [if_pos ho] at he ⊢; rw [vis_law ho]; exact he
  · rw [if_neg ho] at he ⊢; exact he

set_option maxRecDepth 100000 in
set_option maxHeartbeats 1000000 in
theorem thinsLaw (v : Value) (es : List Ent) (mark : Int) (bottom : Bool) (w : World) (hv : Ents w (fun _ => True) v es) (_ : (Lit.int .i64 mark).wf = true) :
    Calls Try.prog 7 #[v, .int .i64 mark, .bool bottom] w fun r w' => r = .returned (.bool true) ∧ Below w.heap.size w w' := by
  obtain ⟨xs, h1, h2⟩ := thin_both es mark bottom
  have HV := Lib.hid hv
  have H1 := Lib.hid h1
  have H2 := Lib.hid h2
  obtain ⟨Z, hZ⟩ : ∃ Z, errO (orderedE es) = Z := ⟨_, rfl⟩
  rw [hZ] at H1 H2
  clear h1 h2 hv hZ
  go_enter Try.func7, Try.ntmps7
  go_wp2_with fail
  refine (wakes_any _).mono ?_
  rintro r w1 ⟨rfl, hb1⟩
  have HV1 := Lib.hid (HV.out.below hb1)
  have HB1 := Lib.hid hb1
  clear hb1
  go_wp2_with fail
  refine (copy_any _ _ _ _ HV1.out).mono ?_
  rintro r w2 ⟨v2, rfl, he2, hb2⟩
  have HE2 := Lib.hid he2
  have HV2 := Lib.hid (HV1.out.below hb2)
  have HB2 := Lib.hid (HB1.out.trans (hb2.mono HB1.out.size))
  clear he2 hb2
  go_wp2_with fail
  refine (H1.out _ _ _ HE2.out).mono ?_
  rintro r w3 ⟨v3, rfl, he3, hb3⟩
  have HE3 := Lib.hid he3
  have HV3 := Lib.hid (HV2.out.below hb3)
  have HB3 := Lib.hid (HB2.out.trans (hb3.mono HB2.out.size))
  clear he3 hb3
  go_wp2_with fail
  refine (H2.out _ _ _ HV3.out).mono ?_
  rintro r w4 ⟨v4, rfl, he4, hb4⟩
  have HE4 := Lib.hid he4
  have HX4 := Lib.hid (HE3.out.below hb4)
  have HB4 := Lib.hid (HB3.out.trans (hb4.mono HB3.out.size))
  clear he4 hb4
  have HS := sameE_any _ _ _ _ _ _ _ HX4.out HE4.out
  rw [decide_eq_true rfl] at HS
  have HS' := Lib.hid HS
  clear HS
  go_wp2_with fail
  refine HS'.out.mono ?_
  rintro r w5 ⟨rfl, hb5⟩
  have HB5 := Lib.hid (HB4.out.trans (hb5.mono HB4.out.size))
  clear hb5
  go_wp2
  refine bodyPost_ret (v := .bool _) (by simp [results, Try.results7, go_sem]; rfl) rfl ?_
  exact ⟨rfl, HB5.out⟩
set_option maxRecDepth 100000 in
set_option maxHeartbeats 1000000 in
theorem visibleLaw (v : Value) (es : List Ent) (seq : Int) (w : World) (hv : Ents w (fun _ => True) v es) (_ : (Lit.int .i64 seq).wf = true) :
    Calls Try.prog 6 #[v, .int .i64 seq] w fun r w' => r = .returned (.bool true) ∧ Below w.heap.size w w' := by
  obtain ⟨xs, h1, h2⟩ := vis_both es seq
  have HV := Lib.hid hv
  have H1 := Lib.hid h1
  have H2 := Lib.hid h2
  obtain ⟨Z, hZ⟩ : ∃ Z, errO (orderedE es) = Z := ⟨_, rfl⟩
  rw [hZ] at H1 H2
  clear h1 h2 hv hZ
  go_enter Try.func6, Try.ntmps6
  go_wp2_with fail
  refine (wakes_any _).mono ?_
  rintro r w1 ⟨rfl, hb1⟩
  have HV1 := Lib.hid (HV.out.below hb1)
  have HB1 := Lib.hid hb1
  clear hb1
  go_wp2_with fail
  refine (copy_any _ _ _ _ HV1.out).mono ?_
  rintro r w2 ⟨v2, rfl, he2, hb2⟩
  have HE2 := Lib.hid he2
  have HV2 := Lib.hid (HV1.out.below hb2)
  have HB2 := Lib.hid (HB1.out.trans (hb2.mono HB1.out.size))
  clear he2 hb2
  go_wp2_with fail
  refine (H1.out _ _ _ HE2.out).mono ?_
  rintro r w3 ⟨v3, rfl, he3, hb3⟩
  have HE3 := Lib.hid he3
  have HV3 := Lib.hid (HV2.out.below hb3)
  have HB3 := Lib.hid (HB2.out.trans (hb3.mono HB2.out.size))
  clear he3 hb3
  go_wp2_with fail
  refine (H2.out _ _ _ HV3.out).mono ?_
  rintro r w4 ⟨v4, rfl, he4, hb4⟩
  have HE4 := Lib.hid he4
  have HX4 := Lib.hid (HE3.out.below hb4)
  have HB4 := Lib.hid (HB3.out.trans (hb4.mono HB3.out.size))
  clear he4 hb4
  have HS := sameP_any _ _ _ _ _ _ _ HX4.out HE4.out
  rw [decide_eq_true rfl] at HS
  have HS' := Lib.hid HS
  clear HS
  go_wp2_with fail
  refine HS'.out.mono ?_
  rintro r w5 ⟨rfl, hb5⟩
  have HB5 := Lib.hid (HB4.out.trans (hb5.mono HB4.out.size))
  clear hb5
  go_wp2
  refine bodyPost_ret (v := .bool _) (by simp [results, Try.results6, go_sem]; rfl) rfl ?_
  exact ⟨rfl, HB5.out⟩
end Go.Proofs.Ytelbidknefkaiaa
