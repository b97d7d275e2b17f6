/-
The walk of the law MergeKeeps: it returns true and writes nothing that was there.
-/
import Derived.Test.YtelbidknefkaiaaMergeLaws
import Derived.Test.YtelbidknefkaiaaKeepsP
import Derived.Test.YtelbidknefkaiaaOrd2
namespace Go.Proofs.Ytelbidknefkaiaa
open Go.RowKit Go.BigFrame
attribute [local go_sem ↓] Go.wp_at_zero Go.wp_at_succ

theorem quarter_le (mark later : Int) : wrap64 (IntKind.u64.wrap mark / 4) ≤ wrap64 (wrap64 (IntKind.u64.wrap mark / 4) + wrap64 (IntKind.u64.wrap later / 4)) := by
  have b : ∀ x : Int, 0 ≤ IntKind.u64.wrap x ∧ IntKind.u64.wrap x ≤ 18446744073709551615 := fun x => by
    simp [IntKind.wrap, IntKind.signed, IntKind.bits]; omega
  have := b mark
  have := b later
  rw [IntWalk.wrap64_in (IntKind.u64.wrap mark / 4) ⟨by omega, by omega⟩, IntWalk.wrap64_in (IntKind.u64.wrap later / 4) ⟨by omega, by omega⟩, IntWalk.wrap64_in _ ⟨by omega, by omega⟩]
  omega
def ThinTo (es : List Ent) (M : Int) (b : Bool) (n : Int) (T : List Ent) : Prop := ∀ S v w, Ents w S v es → Calls Try.prog 29 #[v, .int .i64 M, .bool b] w fun r w' => ∃ v', r = .returned (.tuple #[v', .int .i64 n]) ∧ Ents w' (fun i => w.heap.size ≤ i) v' T ∧ Below w.heap.size w w'
def VisTo (es : List Ent) (M : Int) (n : Int) (T : List Pr) : Prop := ∀ S v w, Ents w S v es → Calls Try.prog 26 #[v, .int .i64 M] w fun r w' => ∃ v', r = .returned (.tuple #[v', .int .i64 n]) ∧ Prs w' (fun i => w.heap.size ≤ i) v' T ∧ Below w.heap.size w w'
theorem keep_parts (es : List Ent) (M Sq : Int) (b : Bool) (hms : M ≤ Sq) (ho : orderedE es = true) : ∃ (T : List Ent) (X : List Pr), ThinTo es M b 0 T ∧ VisTo es Sq 0 X ∧ VisTo T Sq 0 X ∧ ThinTo T M b 0 T := by
  refine ⟨thinC M b [] es, visC Sq [] es, fun S v w h => ?_, fun S v w h => ?_, fun S v w h => ?_, fun S v w h => ?_⟩
  · have := thin_any S v es M b w h
    simpa only [ho, if_true] using this
  · have := vis_any S v es Sq w h
    simpa only [ho, if_true] using this
  · have := vis_any S v _ Sq w h
    rw [keeps_vis ho hms] at this
    simpa only [thinC_ordered ho, if_true] using this
  · have := thin_any S v _ M b w h
    rw [keeps_thin ho] at this
    simpa only [thinC_ordered ho, if_true] using this
theorem not_parts (es : List Ent) (M Sq : Int) (b : Bool) (ho : orderedE es = false) : ThinTo es M b 30 [] ∧ VisTo es Sq 30 [] := by
  refine ⟨fun S v w h => ?_, fun S v w h => ?_⟩
  · have := thin_any S v es M b w h
    simpa only [ho, if_false, Bool.false_eq_true] using this
  · have := vis_any S v es Sq w h
    simpa only [ho, if_false, Bool.false_eq_true] using this

set_option maxRecDepth 100000 in
set_option maxHeartbeats 4000000 in
theorem keepsLaw (v : Value) (es : List Ent) (mark later : Int) (w : World) (hv : Ents w (fun _ => True) v es) (hm : (Lit.int .i64 mark).wf = true) (hl : (Lit.int .i64 later).wf = true) :
    Calls Try.prog 8 #[v, .int .i64 mark, .int .i64 later] w fun r w' => r = .returned (.bool true) ∧ Below w.heap.size w w' := by
  have HV := Lib.hid hv
  have HM := Lib.hid hm
  have HL := Lib.hid hl
  clear hv hm hl
  go_enter Try.func8, Try.ntmps8
  go_wp2_with fail
  refine (wakes_any _).mono ?_
  rintro r w1 ⟨rfl, hb1⟩
  have HV1 := Lib.hid (HV.out.below hb1)
  have HB1 := Lib.hid hb1
  clear hb1
  go_wp2_with fail
  have hle := quarter_le mark later
  generalize wrap64 (wrap64 (IntKind.u64.wrap mark / 4) + wrap64 (IntKind.u64.wrap later / 4)) = Sq at hle ⊢
  generalize wrap64 (IntKind.u64.wrap mark / 4) = M at hle ⊢
  have HLE := Lib.hid hle
  clear hle
  go_loopw [8] (fun t wr => ∃ k : Nat, k ≤ 2 ∧ t = .int .i64 k ∧ Below w.heap.size w wr) (fun t _ => 2 - (intOf t).toNat)
  case atStart => exact ⟨0, by omega, rfl, HB1.out⟩
  case round =>
    obtain ⟨k, hk, rfl, hbel⟩ := hrel
    have HV2 := Lib.hid (HV.out.below hbel)
    have HB2 := Lib.hid hbel
    clear hbel HV1 HB1
    rcases (by omega : k = 0 ∨ k = 1 ∨ k = 2) with rfl | rfl | rfl
    · rcases ho : orderedE es with _ | _
      · obtain ⟨p1, p2⟩ := not_parts es M Sq false ho
        have P1 := Lib.hid p1
        have P2 := Lib.hid p2
        have HO := Lib.hid (fun S v w h => ho ▸ rordered_any S v es w h)
        clear p1 p2 ho
        go_wp2_with fail
        refine (copy_any _ _ _ _ HV2.out).mono ?_
        rintro r w2 ⟨v2, rfl, he2, hb2⟩
        have HV3 := Lib.hid (HV2.out.below hb2)
        have HE2 := Lib.hid he2
        have HB3 := Lib.hid (HB2.out.trans (hb2.mono HB2.out.size))
        clear he2 hb2
        go_wp2_with fail
        refine (P1.out _ _ _ HE2.out).mono ?_
        rintro r w3 ⟨v3, rfl, he3, hb3⟩
        have HV4 := Lib.hid (HV3.out.below hb3)
        have HB4 := Lib.hid (HB3.out.trans (hb3.mono HB3.out.size))
        clear he3 hb3
        go_wp2_with fail
        refine (copy_any _ _ _ _ HV4.out).mono ?_
        rintro r w4 ⟨v4, rfl, he4, hb4⟩
        have HV5 := Lib.hid (HV4.out.below hb4)
        have HE4 := Lib.hid he4
        have HB5 := Lib.hid (HB4.out.trans (hb4.mono HB4.out.size))
        clear he4 hb4
        go_wp2_with fail
        refine (P2.out _ _ _ HE4.out).mono ?_
        rintro r w5 ⟨v5, rfl, he5, hb5⟩
        have HV6 := Lib.hid (HV5.out.below hb5)
        have HB6 := Lib.hid (HB5.out.trans (hb5.mono HB5.out.size))
        clear he5 hb5
        go_wp2_with fail
        refine (HO.out _ _ _ HV6.out).mono ?_
        rintro r w6 ⟨rfl, hb6⟩
        have HB7 := Lib.hid (HB6.out.trans (hb6.mono HB6.out.size))
        clear hb6
        go_wp2
        refine bodyPost_ret (v := .bool _) (by simp [results, Try.results8, go_sem]; rfl) rfl ?_
        exact ⟨rfl, HB7.out⟩
      · obtain ⟨T, X, p1, p2, p3, p4⟩ := keep_parts es M Sq false HLE.out ho
        have P1 := Lib.hid p1
        have P2 := Lib.hid p2
        have P3 := Lib.hid p3
        have P4 := Lib.hid p4
        clear p1 p2 p3 p4 ho
        go_wp2_with fail
        refine (copy_any _ _ _ _ HV2.out).mono ?_
        rintro r w2 ⟨v2, rfl, he2, hb2⟩
        have HV3 := Lib.hid (HV2.out.below hb2)
        have HE2 := Lib.hid he2
        have HB3 := Lib.hid (HB2.out.trans (hb2.mono HB2.out.size))
        clear he2 hb2
        go_wp2_with fail
        refine (P1.out _ _ _ HE2.out).mono ?_
        rintro r w3 ⟨v3, rfl, he3, hb3⟩
        have HV4 := Lib.hid (HV3.out.below hb3)
        have HT3 := Lib.hid he3
        have HB4 := Lib.hid (HB3.out.trans (hb3.mono HB3.out.size))
        clear he3 hb3
        go_wp2_with fail
        refine (copy_any _ _ _ _ HV4.out).mono ?_
        rintro r w4 ⟨v4, rfl, he4, hb4⟩
        have HT4 := Lib.hid (HT3.out.below hb4)
        have HE4 := Lib.hid he4
        have HB5 := Lib.hid (HB4.out.trans (hb4.mono HB4.out.size))
        clear he4 hb4
        go_wp2_with fail
        refine (P2.out _ _ _ HE4.out).mono ?_
        rintro r w5 ⟨v5, rfl, he5, hb5⟩
        have HT5 := Lib.hid (HT4.out.below hb5)
        have HX5 := Lib.hid he5
        have HB6 := Lib.hid (HB5.out.trans (hb5.mono HB5.out.size))
        clear he5 hb5
        go_wp2_with fail
        refine (copy_any _ _ _ _ HT5.out).mono ?_
        rintro r w6 ⟨v6, rfl, he6, hb6⟩
        have HT6 := Lib.hid (HT5.out.below hb6)
        have HX6 := Lib.hid (HX5.out.below hb6)
        have HE6 := Lib.hid he6
        have HB7 := Lib.hid (HB6.out.trans (hb6.mono HB6.out.size))
        clear he6 hb6
        go_wp2_with fail
        refine (P3.out _ _ _ HE6.out).mono ?_
        rintro r w7 ⟨v7, rfl, he7, hb7⟩
        have HT7 := Lib.hid (HT6.out.below hb7)
        have HX7 := Lib.hid (HX6.out.below hb7)
        have HY7 := Lib.hid he7
        have HB8 := Lib.hid (HB7.out.trans (hb7.mono HB7.out.size))
        clear he7 hb7
        go_wp2_with fail
        refine (copy_any _ _ _ _ HT7.out).mono ?_
        rintro r w8 ⟨v8, rfl, he8, hb8⟩
        have HT8 := Lib.hid (HT7.out.below hb8)
        have HX8 := Lib.hid (HX7.out.below hb8)
        have HY8 := Lib.hid (HY7.out.below hb8)
        have HE8 := Lib.hid he8
        have HB9 := Lib.hid (HB8.out.trans (hb8.mono HB8.out.size))
        clear he8 hb8
        go_wp2_with fail
        refine (P4.out _ _ _ HE8.out).mono ?_
        rintro r w9 ⟨v9, rfl, he9, hb9⟩
        have HT9 := Lib.hid (HT8.out.below hb9)
        have HU9 := Lib.hid he9
        have HSP := Lib.hid (decide_eq_true (rfl : X = X) ▸ sameP_any _ _ _ _ _ _ _ (HX8.out.below hb9) (HY8.out.below hb9))
        have HB10 := Lib.hid (HB9.out.trans (hb9.mono HB9.out.size))
        clear he9 hb9
        go_wp2_with fail
        refine HSP.out.mono ?_
        rintro r w10 ⟨rfl, hb10⟩
        have HSE := Lib.hid (decide_eq_true (rfl : T = T) ▸ sameE_any _ _ _ _ _ _ _ (HT9.out.below hb10) (HU9.out.below hb10))
        have HB11 := Lib.hid (HB10.out.trans (hb10.mono HB10.out.size))
        clear hb10
        go_wp2_with fail
        refine HSE.out.mono ?_
        rintro r w11 ⟨rfl, hb11⟩
        have HB12 := Lib.hid (HB11.out.trans (hb11.mono HB11.out.size))
        clear hb11
        go_wp2
        refine ⟨⟨0 + 1, by omega, by go_num, HB12.out⟩, by simp [intOf]⟩
    · rcases ho : orderedE es with _ | _
      · obtain ⟨p1, p2⟩ := not_parts es M Sq true ho
        have P1 := Lib.hid p1
        have P2 := Lib.hid p2
        have HO := Lib.hid (fun S v w h => ho ▸ rordered_any S v es w h)
        clear p1 p2 ho
        go_wp2_with fail
        refine (copy_any _ _ _ _ HV2.out).mono ?_
        rintro r w2 ⟨v2, rfl, he2, hb2⟩
        have HV3 := Lib.hid (HV2.out.below hb2)
        have HE2 := Lib.hid he2
        have HB3 := Lib.hid (HB2.out.trans (hb2.mono HB2.out.size))
        clear he2 hb2
        go_wp2_with fail
        refine (P1.out _ _ _ HE2.out).mono ?_
        rintro r w3 ⟨v3, rfl, he3, hb3⟩
        have HV4 := Lib.hid (HV3.out.below hb3)
        have HB4 := Lib.hid (HB3.out.trans (hb3.mono HB3.out.size))
        clear he3 hb3
        go_wp2_with fail
        refine (copy_any _ _ _ _ HV4.out).mono ?_
        rintro r w4 ⟨v4, rfl, he4, hb4⟩
        have HV5 := Lib.hid (HV4.out.below hb4)
        have HE4 := Lib.hid he4
        have HB5 := Lib.hid (HB4.out.trans (hb4.mono HB4.out.size))
        clear he4 hb4
        go_wp2_with fail
        refine (P2.out _ _ _ HE4.out).mono ?_
        rintro r w5 ⟨v5, rfl, he5, hb5⟩
        have HV6 := Lib.hid (HV5.out.below hb5)
        have HB6 := Lib.hid (HB5.out.trans (hb5.mono HB5.out.size))
        clear he5 hb5
        go_wp2_with fail
        refine (HO.out _ _ _ HV6.out).mono ?_
        rintro r w6 ⟨rfl, hb6⟩
        have HB7 := Lib.hid (HB6.out.trans (hb6.mono HB6.out.size))
        clear hb6
        go_wp2
        refine bodyPost_ret (v := .bool _) (by simp [results, Try.results8, go_sem]; rfl) rfl ?_
        exact ⟨rfl, HB7.out⟩
      · obtain ⟨T, X, p1, p2, p3, p4⟩ := keep_parts es M Sq true HLE.out ho
        have P1 := Lib.hid p1
        have P2 := Lib.hid p2
        have P3 := Lib.hid p3
        have P4 := Lib.hid p4
        clear p1 p2 p3 p4 ho
        go_wp2_with fail
        refine (copy_any _ _ _ _ HV2.out).mono ?_
        rintro r w2 ⟨v2, rfl, he2, hb2⟩
        have HV3 := Lib.hid (HV2.out.below hb2)
        have HE2 := Lib.hid he2
        have HB3 := Lib.hid (HB2.out.trans (hb2.mono HB2.out.size))
        clear he2 hb2
        go_wp2_with fail
        refine (P1.out _ _ _ HE2.out).mono ?_
        rintro r w3 ⟨v3, rfl, he3, hb3⟩
        have HV4 := Lib.hid (HV3.out.below hb3)
        have HT3 := Lib.hid he3
        have HB4 := Lib.hid (HB3.out.trans (hb3.mono HB3.out.size))
        clear he3 hb3
        go_wp2_with fail
        refine (copy_any _ _ _ _ HV4.out).mono ?_
        rintro r w4 ⟨v4, rfl, he4, hb4⟩
        have HT4 := Lib.hid (HT3.out.below hb4)
        have HE4 := Lib.hid he4
        have HB5 := Lib.hid (HB4.out.trans (hb4.mono HB4.out.size))
        clear he4 hb4
        go_wp2_with fail
        refine (P2.out _ _ _ HE4.out).mono ?_
        rintro r w5 ⟨v5, rfl, he5, hb5⟩
        have HT5 := Lib.hid (HT4.out.below hb5)
        have HX5 := Lib.hid he5
        have HB6 := Lib.hid (HB5.out.trans (hb5.mono HB5.out.size))
        clear he5 hb5
        go_wp2_with fail
        refine (copy_any _ _ _ _ HT5.out).mono ?_
        rintro r w6 ⟨v6, rfl, he6, hb6⟩
        have HT6 := Lib.hid (HT5.out.below hb6)
        have HX6 := Lib.hid (HX5.out.below hb6)
        have HE6 := Lib.hid he6
        have HB7 := Lib.hid (HB6.out.trans (hb6.mono HB6.out.size))
        clear he6 hb6
        go_wp2_with fail
        refine (P3.out _ _ _ HE6.out).mono ?_
        rintro r w7 ⟨v7, rfl, he7, hb7⟩
        have HT7 := Lib.hid (HT6.out.below hb7)
        have HX7 := Lib.hid (HX6.out.below hb7)
        have HY7 := Lib.hid he7
        have HB8 := Lib.hid (HB7.out.trans (hb7.mono HB7.out.size))
        clear he7 hb7
        go_wp2_with fail
        refine (copy_any _ _ _ _ HT7.out).mono ?_
        rintro r w8 ⟨v8, rfl, he8, hb8⟩
        have HT8 := Lib.hid (HT7.out.below hb8)
        have HX8 := Lib.hid (HX7.out.below hb8)
        have HY8 := Lib.hid (HY7.out.below hb8)
        have HE8 := Lib.hid he8
        have HB9 := Lib.hid (HB8.out.trans (hb8.mono HB8.out.size))
        clear he8 hb8
        go_wp2_with fail
        refine (P4.out _ _ _ HE8.out).mono ?_
        rintro r w9 ⟨v9, rfl, he9, hb9⟩
        have HT9 := Lib.hid (HT8.out.below hb9)
        have HU9 := Lib.hid he9
        have HSP := Lib.hid (decide_eq_true (rfl : X = X) ▸ sameP_any _ _ _ _ _ _ _ (HX8.out.below hb9) (HY8.out.below hb9))
        have HB10 := Lib.hid (HB9.out.trans (hb9.mono HB9.out.size))
        clear he9 hb9
        go_wp2_with fail
        refine HSP.out.mono ?_
        rintro r w10 ⟨rfl, hb10⟩
        have HSE := Lib.hid (decide_eq_true (rfl : T = T) ▸ sameE_any _ _ _ _ _ _ _ (HT9.out.below hb10) (HU9.out.below hb10))
        have HB11 := Lib.hid (HB10.out.trans (hb10.mono HB10.out.size))
        clear hb10
        go_wp2_with fail
        refine HSE.out.mono ?_
        rintro r w11 ⟨rfl, hb11⟩
        have HB12 := Lib.hid (HB11.out.trans (hb11.mono HB11.out.size))
        clear hb11
        go_wp2
        refine ⟨⟨1 + 1, by omega, by go_num, HB12.out⟩, by simp [intOf]⟩
    · go_wp2
      refine bodyPost_ret (v := .bool _) (by simp [results, Try.results8, go_sem]; rfl) rfl ?_
      exact ⟨rfl, HB2.out⟩
end Go.Proofs.Ytelbidknefkaiaa
