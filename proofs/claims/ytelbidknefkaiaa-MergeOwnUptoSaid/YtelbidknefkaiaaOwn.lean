/-
The walk of the law MergeOwn, where all lists' entries together are not too many.
-/
import Derived.Test.YtelbidknefkaiaaOwnP
import Derived.StillTailTactics
namespace Go.Proofs.Ytelbidknefkaiaa
open Go.RowKit Go.BigFrame
attribute [local go_sem ↓] Go.wp_at_zero Go.wp_at_succ

theorem own_le {w : World} {base : Nat} {e : TypeId} {size n : Nat} {v : Value} {xs : List Value} (h : w.ownsRow base e size v n xs) : n ≤ 9223372036854775807 := by
  rcases h.2 with ⟨_, rfl⟩ | ⟨g, cap, cur, _, _, _, h2, h3, _⟩
  · omega
  · unfold maxLen at h3; omega

set_option maxRecDepth 100000 in
set_option maxHeartbeats 8000000 in
theorem ownLaw (v : Value) (ls : List (List Ent)) (mark : Int) (w : World) (hv : Lists w (fun _ => True) v ls) (hN : total ls ≤ 1048576) (_ : (Lit.int .i64 mark).wf = true) :
    Calls Try.prog 10 #[v, .int .i64 mark] w fun r w' => r = .returned (.bool true) ∧ Below w.heap.size w w' := by
  obtain ⟨X, e, hxe⟩ : ∃ x e, mergeC ls = (x, e) := ⟨_, _, rfl⟩
  have hXl : X.length ≤ 1048576 := by have := merged_len ls; rw [hxe] at this; simp only at this; omega
  have HM := Lib.hid hxe
  have HV := Lib.hid hv
  have HN := Lib.hid hN
  have HMT : Hid (∀ S v w, Lists w S v ls → Calls Try.prog 23 #[v] w fun r w' => ∃ v', r = .returned (.tuple #[v', .int .i64 e]) ∧ OwnE w' w.heap.size v' X ∧ Below w.heap.size w w') := Lib.hid fun S v w h => by
    have := mergeL_any _ v ls w h.lt (fun _ h => h) (by omega)
    rwa [hxe] at this
  obtain ⟨A, c, vs, rfl, hc, hcm, hl, _, _⟩ := hv
  obtain ⟨m, hm⟩ : ∃ m, ls.length = m := ⟨_, rfl⟩
  have HLN := Lib.hid hm
  rw [hm] at hc hl HV ⊢
  clear hN hxe hm
  obtain ⟨Z, TT, PP, h1, h2⟩ : ∃ (Z : Int) (TT : List Ent) (PP : List Pr),
      (∀ S v w, Ents w S v X → Calls Try.prog 29 #[v, .int .i64 mark, .bool true] w fun r w' => ∃ v', r = .returned (.tuple #[v', .int .i64 Z]) ∧ OwnE w' w.heap.size v' TT ∧ Below w.heap.size w w') ∧
      (∀ S v w, Ents w S v X → Calls Try.prog 26 #[v, .int .i64 mark] w fun r w' => ∃ v', r = .returned (.tuple #[v', .int .i64 Z]) ∧ OwnP w' w.heap.size v' PP ∧ Below w.heap.size w w') :=
    ⟨_, _, _, fun S v w h => thinL_any S v X mark true w h, fun S v w h => visL_any S v X mark w h⟩
  have HTH := Lib.hid h1
  have HVI := Lib.hid h2
  clear h1 h2
  go_enter Try.func10, Try.ntmps10
  go_wp2_with fail
  refine (wakes_any _).mono ?_
  rintro r w1 ⟨rfl, hb1⟩
  have HV1 := Lib.hid (HV.out.below hb1)
  have HB1 := Lib.hid hb1
  clear hb1
  go_wp2_with fail
  refine (lists_any _ _ _ _ HV1.out).mono ?_
  rintro r w2 ⟨v2, rfl, he2, hb2⟩
  have HE2 := Lib.hid he2
  have HV2 := Lib.hid (HV1.out.below hb2).lt
  have HB2 := Lib.hid (HB1.out.trans (hb2.mono HB1.out.size))
  have HW2 := Lib.hid HB2.out.size
  clear he2 hb2
  go_wp2_with fail
  refine (HMT.out _ _ _ HE2.out).mono ?_
  rintro r w3 ⟨v3, rfl, he3, hb3⟩
  have HE3 := Lib.hid (HE2.out.lt.below hb3)
  have HV3 := Lib.hid (HV2.out.below hb3)
  have HB3 := Lib.hid (HB2.out.trans (hb3.mono HB2.out.size))
  have HZ3 := Lib.hid hb3.size
  obtain ⟨xs, hrx, hfx⟩ := he3
  obtain ⟨A3, c3, rfl⟩ := own_form hrx
  have RX3 := Lib.hid hrx
  obtain ⟨T1, f1, t1⟩ : ∃ T1 : Nat → Prop, EntCells w3 T1 xs X ∧ ∀ i, T1 i → w2.heap.size ≤ i ∧ i < w3.heap.size ∧ (Value.slice A3 X.length c3).ownBlock ≠ some i ∧ Loose w3 i := ⟨_, hfx, fun i hi => ⟨hi.1, hi.2.2.lt, hi.2.1, hi.2.2⟩⟩
  have FX3 := Lib.hid f1
  have HT1 := Lib.hid t1
  clear hrx hfx f1 t1 hb3
  go_wp2_with fail
  refine (HMT.out _ _ _ HE3.out).mono ?_
  rintro r w4 ⟨v4, rfl, he4, hb4⟩
  have HE4 := Lib.hid (HE3.out.below hb4)
  have HV4 := Lib.hid (HV3.out.below hb4)
  have HB4 := Lib.hid (HB3.out.trans (hb4.mono HB3.out.size))
  have HZ4 := Lib.hid hb4.size
  have RX4 := Lib.hid (own_below RX3.out hb4)
  have FX4 := Lib.hid (FX3.out.below hb4)
  have LX4 : Hid (∀ i, T1 i → Loose w4 i) := Lib.hid fun i hi => (HT1.out i hi).2.2.2.below hb4
  have HY4 := Lib.hid (he4.ents (by omega))
  clear he4 hb4
  go_wp2_with fail
  refine (HTH.out _ _ _ HY4.out).mono ?_
  rintro r w5 ⟨v5, rfl, he5, hb5⟩
  have HE5 := Lib.hid (HE4.out.below hb5)
  have HV5 := Lib.hid (HV4.out.below hb5)
  have HB5 := Lib.hid (HB4.out.trans (hb5.mono HB4.out.size))
  have HZ5 := Lib.hid hb5.size
  have RX5 := Lib.hid (own_below RX4.out hb5)
  have FX5 := Lib.hid (FX4.out.below hb5)
  have HY5 := Lib.hid (HY4.out.below hb5)
  obtain ⟨ts, hrt, hft⟩ := he5
  obtain ⟨A5, c5, rfl⟩ := own_form hrt
  have RT5 := Lib.hid hrt
  obtain ⟨T2, f2, t2⟩ : ∃ T2 : Nat → Prop, EntCells w5 T2 ts TT ∧ ∀ i, T2 i → w4.heap.size ≤ i ∧ i < w5.heap.size ∧ (Value.slice A5 TT.length c5).ownBlock ≠ some i ∧ Loose w5 i := ⟨_, hft, fun i hi => ⟨hi.1, hi.2.2.lt, hi.2.1, hi.2.2⟩⟩
  have FT5 := Lib.hid f2
  have HT2 := Lib.hid t2
  have LX5 : Hid (∀ i, T1 i → Loose w5 i) := Lib.hid fun i hi => (LX4.out i hi).below hb5
  clear hrt hft f2 t2 hb5
  go_wp2_with fail
  refine (HVI.out _ _ _ HY5.out).mono ?_
  rintro r w6 ⟨v6, rfl, he6, hb6⟩
  have HE6 := Lib.hid (HE5.out.below hb6)
  have HV6 := Lib.hid (HV5.out.below hb6)
  have HB6 := Lib.hid (HB5.out.trans (hb6.mono HB5.out.size))
  have HZ6 := Lib.hid hb6.size
  have RX6 := Lib.hid (own_below RX5.out hb6)
  have FX6 := Lib.hid (FX5.out.below hb6)
  have HY6 := Lib.hid (HY5.out.below hb6)
  have RT6 := Lib.hid (own_below RT5.out hb6)
  have FT6 := Lib.hid (FT5.out.below hb6)
  have LX6 : Hid (∀ i, T1 i → Loose w6 i) := Lib.hid fun i hi => (LX5.out i hi).below hb6
  have LT6 : Hid (∀ i, T2 i → Loose w6 i) := Lib.hid fun i hi => (HT2.out i hi).2.2.2.below hb6
  obtain ⟨pp, hrp, hfp⟩ := he6
  obtain ⟨A6, c6, rfl⟩ := own_form hrp
  have RP6 := Lib.hid hrp
  obtain ⟨T3, f3, t3⟩ : ∃ T3 : Nat → Prop, PrCells w6 T3 pp PP ∧ ∀ i, T3 i → w5.heap.size ≤ i ∧ i < w6.heap.size ∧ (Value.slice A6 PP.length c6).ownBlock ≠ some i ∧ Loose w6 i := ⟨_, hfp, fun i hi => ⟨hi.1, hi.2.2.lt, hi.2.1, hi.2.2⟩⟩
  have FP6 := Lib.hid f3
  have HT3 := Lib.hid t3
  clear hrp hfp f3 t3 hb6 RX3 RX4 RX5 FX3 FX4 FX5 LX4 LX5 RT5 FT5 HY4 HY5 HE3 HE4 HE5 HV3 HV4 HV5 HB2 HB3 HB4 HB5
  obtain ⟨nx, hnx⟩ : ∃ n, X.length = n := ⟨_, rfl⟩
  obtain ⟨nt, hnt⟩ : ∃ n, TT.length = n := ⟨_, rfl⟩
  obtain ⟨np, hnp⟩ : ∃ n, PP.length = n := ⟨_, rfl⟩
  have hnx1 : nx ≤ 1048576 := hnx ▸ hXl
  have hnt1 : nt ≤ 9223372036854775807 := hnt ▸ own_le RT6.out
  have hnp1 : np ≤ 9223372036854775807 := hnp ▸ own_le RP6.out
  clear hXl
  have NX := Lib.hid hnx
  have NT := Lib.hid hnt
  have NP := Lib.hid hnp
  rw [hnx] at RX6 HT1 ⊢
  rw [hnt] at RT6 HT2 ⊢
  rw [hnp] at RP6 HT3 ⊢
  clear hnx hnt hnp
  go_wp2
  go_loopw [48] (fun t wr => ∃ k : Nat, k ≤ nx ∧ t = .int .i64 k ∧ Spoil T1 w6 wr) (fun t _ => nx - (intOf t).toNat)
  case atStart => exact ⟨0, Nat.zero_le _, rfl, Spoil.refl _ _⟩
  case round =>
    obtain ⟨k, hk, rfl, hsp⟩ := hrel
    have HSP := Lib.hid hsp
    clear hsp
    by_cases hkn : k < nx
    · as_aux_lemma =>
      obtain ⟨g, c, A1, n1, c1, A2, n2, c2, b1, b2, hE, x0, x1, q1, q2⟩ := spoil_round RX6.out FX6.out NX.out (fun g hg ht => (HT1.out g ht).2.2.1 hg) HSP.out hkn
      cases hE
      have Q1 := Lib.hid q1
      have Q2 := Lib.hid q2
      have HLO : Hid (∀ i, T1 i → i < wr.drew.heap.size → Loose wr.drew i) := Lib.hid fun i hi _ => (HSP.out.loose i (LX6.out i hi) : Loose wr i)
      clear q1 q2
      go_wp2
      go_still_tail 10, (by kernel_rfl)
      go_wp2_with (go_at_call 32; refine (spoil_any T1 _ _ b1 b2 _ (by exact Byt.drew Q1.out) (by exact Byt.drew Q2.out) HLO.out).mono ?_; rintro r w' ⟨rfl, hs'⟩)
      refine ⟨⟨k + 1, by omega, by go_num, HSP.out.trans (Spoil.drew.trans hs')⟩, by simp [intOf]; omega⟩
    · as_aux_lemma =>
      obtain rfl : k = nx := by omega
      obtain ⟨wA, hwA⟩ : ∃ w', w' = wr := ⟨_, rfl⟩
      subst hwA
      have hz4 := HZ4.out
      have hz5 := HZ5.out
      have SA := HSP.out
      have RTA := Lib.hid (own_only RT6.out SA.only (fun g hg ht => by have h1 := (RT6.out.lt g hg).1; have h2 := (HT1.out g ht).2.1; omega))
      have FTA := Lib.hid (FT6.out.only SA.only (fun i _ h2 h1 => by have h1 := (HT1.out i h1).2.1; have h2 := (HT2.out i h2).1; omega))
      have RPA := Lib.hid (own_only RP6.out SA.only (fun g hg ht => by have h1 := (RP6.out.lt g hg).1; have h2 := (HT1.out g ht).2.1; omega))
      have FPA := Lib.hid (FP6.out.only SA.only (fun i _ h2 h1 => by have h1 := (HT1.out i h1).2.1; have h2 := (HT3.out i h2).1; omega))
      have LTA : Hid (∀ i, T2 i → Loose wA i) := Lib.hid fun i hi => SA.loose i (LT6.out i hi)
      have LPA : Hid (∀ i, T3 i → Loose wA i) := Lib.hid fun i hi => SA.loose i (HT3.out i hi).2.2.2
      have HSA := Lib.hid SA
      clear SA hz4 hz5 HSP RX6 FX6 LX6 LT6 RT6 FT6 RP6 FP6
      go_wp2
      go_loopw [65] (fun t wr => ∃ k : Nat, k ≤ nt ∧ t = .int .i64 k ∧ Spoil T2 wA wr) (fun t _ => nt - (intOf t).toNat)
      case atStart => exact ⟨0, Nat.zero_le _, rfl, Spoil.refl _ _⟩
      case round =>
        obtain ⟨k, hk, rfl, hsp⟩ := hrel
        have HSP := Lib.hid hsp
        clear hsp
        by_cases hkn : k < nt
        · as_aux_lemma =>
          obtain ⟨g, c, A1, n1, c1, A2, n2, c2, b1, b2, hE, x0, x1, q1, q2⟩ := spoil_round RTA.out FTA.out NT.out (fun g hg ht => (HT2.out g ht).2.2.1 hg) HSP.out hkn
          cases hE
          have Q1 := Lib.hid q1
          have Q2 := Lib.hid q2
          have HLO : Hid (∀ i, T2 i → i < wr.drew.heap.size → Loose wr.drew i) := Lib.hid fun i hi _ => (HSP.out.loose i (LTA.out i hi) : Loose wr i)
          clear q1 q2
          go_wp2
          go_still_tail 10, (by kernel_rfl)
          go_wp2_with (go_at_call 32; refine (spoil_any T2 _ _ b1 b2 _ (by exact Byt.drew Q1.out) (by exact Byt.drew Q2.out) HLO.out).mono ?_; rintro r w' ⟨rfl, hs'⟩)
          refine ⟨⟨k + 1, by omega, by go_num, HSP.out.trans (Spoil.drew.trans hs')⟩, by simp [intOf]; omega⟩
        · as_aux_lemma =>
          obtain rfl : k = nt := by omega
          obtain ⟨wB, hwB⟩ : ∃ w', w' = wr := ⟨_, rfl⟩
          subst hwB
          have hz4 := HZ4.out
          have hz5 := HZ5.out
          have SB := HSP.out
          have RPB := Lib.hid (own_only RPA.out SB.only (fun g hg ht => by have h1 := (RPA.out.lt g hg).1; have h2 := (HT2.out g ht).2.1; omega))
          have FPB := Lib.hid (FPA.out.only SB.only (fun i _ h2 h1 => by have h1 := (HT2.out i h1).2.1; have h2 := (HT3.out i h2).1; omega))
          have LPB : Hid (∀ i, T3 i → Loose wB i) := Lib.hid fun i hi => SB.loose i (LPA.out i hi)
          have HSB := Lib.hid SB
          clear SB hz4 hz5 HSP RTA FTA LTA RPA FPA LPA
          go_wp2
          go_loopw [82] (fun t wr => ∃ k : Nat, k ≤ np ∧ t = .int .i64 k ∧ Spoil T3 wB wr) (fun t _ => np - (intOf t).toNat)
          case atStart => exact ⟨0, Nat.zero_le _, rfl, Spoil.refl _ _⟩
          case round =>
            obtain ⟨k, hk, rfl, hsp⟩ := hrel
            have HSP := Lib.hid hsp
            clear hsp
            by_cases hkn : k < np
            · as_aux_lemma =>
              obtain ⟨g, c, A1, n1, c1, A2, n2, c2, b1, b2, hE, x0, x1, q1, q2⟩ := spoil_roundP RPB.out FPB.out NP.out (fun g hg ht => (HT3.out g ht).2.2.1 hg) HSP.out hkn
              cases hE
              have Q1 := Lib.hid q1
              have Q2 := Lib.hid q2
              have HLO : Hid (∀ i, T3 i → i < wr.drew.heap.size → Loose wr.drew i) := Lib.hid fun i hi _ => (HSP.out.loose i (LPB.out i hi) : Loose wr i)
              clear q1 q2
              go_wp2
              go_still_tail 10, (by kernel_rfl)
              go_wp2_with (go_at_call 32; refine (spoil_any T3 _ _ b1 b2 _ (by exact Byt.drew Q1.out) (by exact Byt.drew Q2.out) HLO.out).mono ?_; rintro r w' ⟨rfl, hs'⟩)
              refine ⟨⟨k + 1, by omega, by go_num, HSP.out.trans (Spoil.drew.trans hs')⟩, by simp [intOf]; omega⟩
            · as_aux_lemma =>
              obtain rfl : k = np := by omega
              obtain ⟨wC, hwC⟩ : ∃ w', w' = wr := ⟨_, rfl⟩
              subst hwC
              have hz3 := HZ3.out
              have hz4 := HZ4.out
              have hz5 := HZ5.out
              have hU : Only (fun i => w2.heap.size ≤ i ∧ (i < w3.heap.size ∨ w4.heap.size ≤ i)) w6 wC :=
                ((HSA.out.only.mono (fun i hi => by have := HT1.out i hi; exact ⟨this.1, .inl this.2.1⟩)).trans (HSB.out.only.mono (fun i hi => by have := (HT2.out i hi).1; exact ⟨by omega, .inr this⟩))).trans (HSP.out.only.mono (fun i hi => by have := (HT3.out i hi).1; exact ⟨by omega, .inr (by omega)⟩))
              have HVC := Lib.hid (HV6.out.only hU (fun i _ h1 h2 => by omega))
              have HEC := Lib.hid (HE6.out.only hU (fun i _ h1 h2 => by omega))
              have HYC := Lib.hid (HY6.out.only hU (fun i _ h1 h2 => by omega))
              have HBC := Lib.hid (HB6.out.trans (hU.below HB6.out.size (fun i hi => by have := HW2.out; omega)))
              clear hU hz3 hz4 hz5 HSP HSA HSB RPB FPB LPB HV6 HE6 HY6 HB6
              obtain ⟨A2, c2, vs2, hE2, _, _, _, hr2, hel2⟩ := HEC.out
              obtain ⟨A2', c2', rfl⟩ : ∃ A c, v2 = .slice A m c := ⟨A2, c2, by rw [hE2, HLN.out]⟩
              injection hE2 with e1 e2 e3
              subst e1 e3
              rw [HLN.out] at hr2
              obtain ⟨A0, c0, vs0, hE0, _, _, _, hr0, hel0⟩ := HVC.out
              injection hE0 with e1 e3 e4
              subst e1 e4
              rw [HLN.out] at hr0
              have R2 := Lib.hid hr2
              have R0 := Lib.hid hr0
              have EL2 := Lib.hid hel2
              have EL0 := Lib.hid hel0
              clear hr2 hr0 hel2 hel0 e2 e3
              go_wp2
              go_loopw [99] (fun t wr => ∃ k : Nat, k ≤ m ∧ t = .int .i64 k ∧ Below wC.heap.size wC wr) (fun t _ => m - (intOf t).toNat)
              case atStart => exact ⟨0, Nat.zero_le _, rfl, Below.refl _ _⟩
              case round =>
                obtain ⟨k, hk, rfl, hbel⟩ := hrel
                have HB := Lib.hid hbel
                clear hbel
                by_cases hkm : k < m
                · obtain ⟨l, hlk⟩ : ∃ l, ls[k]? = some l := ⟨_, List.getElem?_eq_getElem (by rw [HLN.out]; exact hkm)⟩
                  obtain ⟨x2, hx2, hy2⟩ := EL2.out k l hlk
                  obtain ⟨x0, hx0, hy0⟩ := EL0.out k l hlk
                  obtain ⟨b2, o2, u2, rfl, _, _, hu2, hc2⟩ := (R2.out.below HB.out).at_ hkm
                  obtain ⟨b0, o0, u0, rfl, _, _, hu0, hc0⟩ := (R0.out.below HB.out).at_ hkm
                  obtain rfl : u2 = x2 := by rw [hx2] at hu2; injection hu2 with h; exact h.symm
                  obtain rfl : u0 = x0 := by rw [hx0] at hu0; injection hu0 with h; exact h.symm
                  obtain ⟨B2, d2, rfl⟩ := ents_form hy2
                  obtain ⟨B0, d0, rfl⟩ := ents_form hy0
                  have F2 : ∀ q : Ext wr, q.w.cell? { block := b2, off := o2 + k } = _ := fun q => q.h.cell hc2
                  have F0 : ∀ q : Ext wr, q.w.cell? { block := b0, off := o0 + k } = _ := fun q => q.h.cell hc0
                  have CC : ∀ q : Ext wr, Calls Try.prog 20 #[.slice B2 l.length d2, .slice B0 l.length d0] q.w fun r w'' => r = .returned (.bool true) ∧ ∃ q' : Ext wr, w'' = q'.w := fun q => Ext.calls (decide_eq_true (rfl : l = l) ▸ sameE_any _ _ _ _ l l _ ((hy2.below HB.out).below q.h) ((hy0.below HB.out).below q.h))
                  clear hlk hx2 hx0 hu2 hu0 hc2 hc0 hy2 hy0
                  go_wp2
                  (refine wp_region_quiet_ext (by kernel_rfl) (by kernel_rfl) ?_; (repeat (go_big_quiet_step ((go_at_call 20; exact CC _)))); refine wpQuiet_nil ?_; intro wq hw'; obtain ⟨⟨_, hq⟩, hw''⟩ := hw'; subst hw'')
                  go_wp2
                  refine ⟨⟨k + 1, by omega, by go_num, HB.out.trans (Below.mono hq HB.out.size)⟩, by simp [intOf]; omega⟩
                · obtain rfl : k = m := by omega
                  have HYD := Lib.hid (HYC.out.below HB.out)
                  have HVD := Lib.hid (HVC.out.below HB.out)
                  have HBD := Lib.hid (HBC.out.trans (HB.out.mono HBC.out.size))
                  clear HYC HVC HBC HB R2 R0 EL2 EL0 HEC
                  go_wp2_with fail
                  refine (rmerge_any _ _ _ _ HVD.out (by have := HN.out; omega)).mono ?_
                  rintro r w8 ⟨v8, rs, n8, rfl, hrm, he8, hb8⟩
                  have hml := merge_law hrm
                  rw [HM.out] at hml
                  injection hml with e1 e2
                  subst e1 e2
                  have HS := sameE_any _ _ _ _ _ _ _ (HYD.out.below hb8) he8
                  rw [decide_eq_true rfl] at HS
                  have HS' := Lib.hid HS
                  have HBE := Lib.hid (HBD.out.trans (hb8.mono HBD.out.size))
                  clear HS he8 hb8 hrm
                  go_wp2_with fail
                  refine HS'.out.mono ?_
                  rintro r w9 ⟨rfl, hb9⟩
                  have HBF := Lib.hid (HBE.out.trans (hb9.mono HBE.out.size))
                  clear hb9
                  go_wp2
                  refine bodyPost_ret (v := .bool _) (by simp [results, Try.results10, go_sem]; rfl) rfl ?_
                  exact ⟨rfl, HBF.out⟩
end Go.Proofs.Ytelbidknefkaiaa
