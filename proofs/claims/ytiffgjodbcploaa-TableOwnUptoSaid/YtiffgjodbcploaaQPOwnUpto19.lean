/-
law TableOwn.
-/
import Derived.Test.YtiffgjodbcploaaQPOwnUpto18
import Derived.StillTailTactics
section
namespace Go.Proofs.Ytiffgjodbcploaa
open Go.RowKit Go.BigFrame Go.Shelf
attribute [local go_sem ↓] Go.wp_at_zero Go.wp_at_succ
attribute [local go_sem] Oper.semAt_some
set_option maxRecDepth 100000 in
set_option maxHeartbeats 8000000 in
theorem tabOwnLaw (v : Value) (es : List Ent) (kv : Value) (a : List UInt8 × List UInt8 × List UInt8 × Int) (w : World) (hv : Ents w (fun _ => True) v es) (hN : es.length ≤ 1048576 ∧ bytesE es ≤ 1048576) (hk : LookV w (fun _ => True) kv a) :
    Calls Try.prog 5 #[v, kv] w fun r w' => r = .returned (.bool true) ∧ Below w.heap.size w w' := by
  obtain ⟨key, lo, hi, seq⟩ := a
  obtain ⟨k1, k2, k3, rfl, b1, b2, b3⟩ := hk
  obtain ⟨A1, c1, rfl⟩ := slice_form b1
  obtain ⟨A2, c2, rfl⟩ := slice_form b2
  obtain ⟨A3, c3, rfl⟩ := slice_form b3
  obtain ⟨A, c, rfl⟩ := hv.form
  obtain ⟨n1, hn1⟩ : ∃ q, key.length = q := ⟨_, rfl⟩
  obtain ⟨n2, hn2⟩ : ∃ q, lo.length = q := ⟨_, rfl⟩
  obtain ⟨n3, hn3⟩ : ∃ q, hi.length = q := ⟨_, rfl⟩
  obtain ⟨N, hNN⟩ : ∃ q, es.length = q := ⟨_, rfl⟩
  rw [hn1, hn2, hn3, hNN]
  rw [hn2] at b2
  rw [hNN] at hv hN
  simp only at b2
  obtain ⟨hN1, hN2⟩ := hN
  have hfA : fr w (w.alloc (.cells #[.slice A1 n1 c1, .slice A2 n2 c2, .slice A3 n3 c3, .int .i64 seq] 25)) := fr.alloc fr.refl _
  have hbx := heap_alloc_new w (.cells #[.slice A1 n1 c1, .slice A2 n2 c2, .slice A3 n3 c3, .int .i64 seq] 25)
  have HV := Lib.hid hv
  have HNN := Lib.hid hNN
  have HB2 := Lib.hid b2
  have HFA := Lib.hid hfA
  have HBX := Lib.hid hbx
  clear hv hNN b1 b2 b3 hn1 hn2 hn3 hfA hbx
  refine (callsIn_wide (n := 1)).1 ?_
  refine callsIn_of_wp_marks Try.func5 rfl trivial ?_
  simp only [Try.ntmps5, List.size_toArray, List.length_cons, List.length_nil, Nat.reduceAdd, Nat.reduceSub, Array.replicate_succ, Array.replicate_zero, List.push_toArray, List.append_toArray, List.nil_append, List.cons_append]
  refine wpIn_wide.2 ?_
  go_wp2_with (fail)
  refine (twakes_any _).mono ?_
  rintro r w1 ⟨rfl, hb1⟩
  have HF1 := Lib.hid (fr.step HFA.out hb1)
  have HX1 := Lib.hid (fr.hp hb1 HBX.out)
  clear hb1
  by_cases hN0 : N = 0
  · subst hN0
    go_wp2
    exact ⟨.bool true, by simp [results, Try.results5, go_sem], rfl, HF1.out⟩
  have hN0' : ((N : Int) == 0) = false := by simpa using hN0
  have HOR := Lib.hid (rordered_any _ _ es w1 (HV.out.below HF1.out))
  rcases hord : orderedE es with _ | _
  · rw [hord] at HOR
    clear hord
    go_wp2_with (go_at_call 7; refine HOR.out.mono ?_; rintro r w2 ⟨rfl, hb2⟩; have HF2 := Lib.hid (fr.step HF1.out hb2); clear hb2)
    exact ⟨.bool true, by simp [results, Try.results5, go_sem], rfl, HF2.out⟩
  rw [hord] at HOR
  have HORD := Lib.hid hord
  clear hord
  go_upto_region 5 with (go_at_call 7; refine HOR.out.mono ?_; rintro r w2 ⟨rfl, hb2⟩; have HF2 := Lib.hid (fr.step HF1.out hb2); have HX2 := Lib.hid (fr.hp hb2 HX1.out); clear hb2)
  clear HOR HF1 HX1 HBX HFA
  go_wp2_with (fail)
  refine (calm_any _).mono ?_
  rintro r w3 ⟨rfl, f3⟩
  have HF3 := Lib.hid (fr.stepR HF2.out f3)
  have HX3 := Lib.hid (fr.hp f3 HX2.out)
  clear f3 HX2
  go_wp2_with (fail)
  refine (new_dk (fun _ => True) (-1) (-1) _ [] w3 (IntsIn.nil _ _) (by simp) (w.heap.size + 1) (by have := (Array.getElem?_eq_some_iff.1 HX3.out).1; omega)).mono ?_
  rintro r w4 ⟨p, rfl, h4, hb4⟩
  obtain ⟨F, h4, hF⟩ := h4
  have H4 := Lib.hid (h4 : DiskP w4 F p calm0)
  have HFF := Lib.hid hF
  have HF4 := Lib.hid (fr.step HF3.out hb4)
  have HX4 := Lib.hid (fr.hp hb4 HX3.out)
  clear h4 hb4 hF HX3 HF2 HF3
  go_wp2_with (fail)
  refine (copyL_any _ _ es w4 (HV.out.below HF4.out)).mono ?_
  rintro r w5 ⟨v5, rfl, ho5, hb5⟩
  obtain ⟨ys, hse⟩ := ho5.spoil
  obtain ⟨T1, hT1⟩ : ∃ T, T = freshL w5 w4.heap.size v5 := ⟨_, rfl⟩
  rw [← hT1, HNN.out] at hse
  have ht5 : ∀ i, T1 i → w4.heap.size ≤ i ∧ i < w5.heap.size := fun i hi => by rw [hT1] at hi; exact ⟨hi.1, hi.2.2.lt⟩
  have hl64 : es.length * 64 ≤ 140737488355328 := by rw [HNN.out]; omega
  have HE5 := Lib.hid (hse.entsOf hl64)
  obtain ⟨g5, c5, rfl⟩ : ∃ g c, v5 = .slice (some ⟨g, 0, none⟩) N c := by obtain ⟨g, c, h, _⟩ := own_pos hse.row (by omega); exact ⟨g, c, h⟩
  have HSE5 := Lib.hid hse
  have HT5 := Lib.hid ht5
  have HF5 := Lib.hid (fr.step HF4.out hb5)
  have HX5 := Lib.hid (fr.hp hb5 HX4.out)
  have H5 := Lib.hid (H4.out.below hb5)
  have hz45 := hb5.size
  have hwlt : w.heap.size < w4.heap.size := (Array.getElem?_eq_some_iff.1 HX4.out).1
  clear ho5 hse hT1 ht5 hb5 HX4 H4
  go_wp2_with (fail)
  refine (write_calm F p _ g5 0 N c5 2 es w5 H5.out HE5.out HNN.out (fun i h => h.2) (by omega) HORD.out (by omega) (by omega) (by omega)).mono ?_
  rintro r w6 ⟨ps, hps, rfl, h6, o6⟩
  have HPS := Lib.hid hps
  have H6 := Lib.hid h6
  have hz6 := o6.size
  have HSE6 := Lib.hid (HSE5.out.only o6 fun i h1 h2 h3 => by have := (HFF.out i h3).2; omega)
  have HF6 := Lib.hid (show fr w w6 from HF5.out.trans (o6.below HF5.out.size fun i hi => by have := (HFF.out i hi).1; omega))
  have hx6 := (o6.block w.heap.size (Array.getElem?_eq_some_iff.1 HX5.out).1 (fun h => by have := (HFF.out _ h).1; omega)).trans HX5.out
  have HX6 := Lib.hid hx6
  clear hps h6 o6 hx6 HX5 HF5 HSE5 HE5 H5
  have HSM := Lib.hid (sameE_any _ _ _ _ es es w6 (HSE6.out.entsOf hl64) (HV.out.below HF6.out))
  rw [decide_eq_true rfl] at HSM
  go_wp2_with (go_at_call 13; refine HSM.out.mono ?_; rintro r w7 ⟨rfl, hb7⟩)
  have HSE := Lib.hid (HSE6.out.only (Only.of_below (S := fun _ => False) hb7) fun i _ _ h => h)
  have HF7 := Lib.hid (fr.step HF6.out hb7)
  have HX7 := Lib.hid (fr.hp hb7 HX6.out)
  have H7 := Lib.hid (H6.out.below hb7)
  have hz7 := hb7.size
  have hNle : N ≤ 9223372036854775807 := by omega
  clear hb7 HSM HSE6 HF6 HX6 H6
  go_loopw [48] (fun t wr => ∃ k : Nat, k ≤ N ∧ t = .int .i64 k ∧ Spoil T1 w7 wr) (fun t _ => N - (intOf t).toNat)
  case atStart => exact ⟨0, Nat.zero_le _, rfl, Spoil.refl _ _⟩
  case round =>
    obtain ⟨m, hm, rfl, hsp⟩ := hrel
    have HSP := Lib.hid hsp
    clear hsp
    by_cases hmn : m < N
    · as_aux_lemma =>
      obtain ⟨wo, hwo⟩ : ∃ w', w' = wr := ⟨_, rfl⟩
      subst hwo
      obtain ⟨e, hem⟩ : ∃ e, es[m]? = some e := ⟨_, List.getElem?_eq_getElem (by rw [HSE.out.len]; exact hmn)⟩
      obtain ⟨gx, cx', hEx, heads⟩ := own_heads (T := T1) HSE.out.row hmn HSE.out.out
      injection hEx with e1 e2 e3
      first
        | subst e1 e3
        | (simp only [Option.some.injEq, Addr.mk.injEq] at e1; obtain ⟨rfl, _⟩ := e1; subst e3)
      obtain ⟨k8, u8, y0, _, _, y3, q0, q1⟩ := HSE.out.ents.at_ hem
      obtain ⟨Ak, ck, rfl⟩ := slice_form q0
      obtain ⟨Au, cu, rfl⟩ := slice_form q1
      have HHD := Lib.hid heads
      have HQ0 := Lib.hid q0
      have HQ1 := Lib.hid q1
      have Y0 := Lib.hid y0
      have Y3 := Lib.hid y3
      have hlk := q0.len
      have hlu := q1.len
      have x0 := (HHD.out _ HSP.out.only).1 _ Y0.out
      clear q0 q1 y0 y3 heads hem e2
      go_wp2
      clear x0
      go_loopw [57] (fun t wr => ∃ j : Nat, j ≤ e.key.length ∧ t = .int .i64 j ∧ Spoil T1 w7 wr) (fun t _ => e.key.length - (intOf t).toNat)
      case atStart => exact ⟨0, Nat.zero_le _, rfl, HSP.out⟩
      case round =>
        clear HSP
        obtain ⟨j, hj, rfl, hsp⟩ := hrel
        have HSP := Lib.hid hsp
        clear hsp
        by_cases hjn : j < e.key.length
        · as_aux_lemma =>
          obtain ⟨b, o, x, rfl, hcell, hfz, hsp'⟩ := turn_at HSP.out HQ0.out (fun i hi => HSE.out.loose i hi) hjn
          have x0 := (HHD.out _ HSP.out.only).1 _ Y0.out
          have HS' := Lib.hid hsp'
          clear hsp'
          go_wp2
          go_still_tail 16, (by kernel_rfl)
          go_wp2_with fail
          exact ⟨⟨j + 1, by omega, by go_num, HS'.out.trans Spoil.drew⟩, by simp [intOf]; omega⟩
        · as_aux_lemma =>
          obtain rfl : j = e.key.length := by omega
          obtain ⟨w6', hw6⟩ : ∃ w', w' = wr := ⟨_, rfl⟩
          subst hw6
          have x3 := (HHD.out _ HSP.out.only).2.2.2 _ Y3.out
          go_wp2
          clear x3
          go_loopw [83] (fun t wr => ∃ j : Nat, j ≤ e.val.length ∧ t = .int .i64 j ∧ Spoil T1 w7 wr) (fun t _ => e.val.length - (intOf t).toNat)
          case atStart => exact ⟨0, Nat.zero_le _, rfl, HSP.out⟩
          case round =>
            clear HSP
            obtain ⟨j, hj, rfl, hsp⟩ := hrel
            have HSP := Lib.hid hsp
            clear hsp
            by_cases hjn : j < e.val.length
            · obtain ⟨b, o, x, rfl, hcell, hfz, hsp'⟩ := turn_at HSP.out HQ1.out (fun i hi => HSE.out.loose i hi) hjn
              have x3 := (HHD.out _ HSP.out.only).2.2.2 _ Y3.out
              have HS' := Lib.hid hsp'
              clear hsp'
              go_wp2
              go_still_tail 16, (by kernel_rfl)
              go_wp2_with fail
              exact ⟨⟨j + 1, by omega, by go_num, HS'.out.trans Spoil.drew⟩, by simp [intOf]; omega⟩
            · obtain rfl : j = e.val.length := by omega
              go_wp2
              exact ⟨⟨m + 1, by omega, by go_num, HSP.out⟩, by simp [intOf]; omega⟩
    · as_aux_lemma =>
      obtain rfl : N = m := by omega
      have ht7 : ∀ i, T1 i → w4.heap.size ≤ i ∧ i < w5.heap.size := HT5.out
      obtain ⟨w8, hw8⟩ : ∃ w', w' = wr := ⟨_, rfl⟩
      subst hw8
      have o8 := HSP.out.only
      have hz8 := o8.size
      have HF8 := Lib.hid (show fr w w8 from HF7.out.trans (o8.below HF7.out.size fun i hi => by have := (ht7 i hi).1; omega))
      have hx8 := (o8.block w.heap.size (Array.getElem?_eq_some_iff.1 HX7.out).1 (fun h => by have := (ht7 _ h).1; omega)).trans HX7.out
      have HX8 := Lib.hid hx8
      have H8 := Lib.hid (H7.out.only o8 fun i hi hf => by
        have h1 := ht7 i hi
        rcases hf with h | h
        · have := (HFF.out i h).2; omega
        · omega)
      clear ht7 o8 hx8 HSP HSE HF7 HX7 H7 HT5
      go_wp2_with (fail)
      refine (open_ok _ p _ [116] N es ps w8 H8.out (by simp) (calm_ready1 _) (calm_read1 _) HPS.out HNN.out (by omega) (by omega) (by omega) HORD.out).mono ?_
      rintro r w9 ⟨Tb, rfl, hT, f9⟩
      have hps0 : 0 < ps.length := by
        rcases Nat.eq_zero_or_pos ps.length with h | h
        · have h1 := HPS.out.all
          rw [List.eq_nil_of_length_eq_zero h] at h1
          have h2 := congrArg List.length h1
          rw [HNN.out] at h2
          simp only [List.flatten_nil, List.length_nil] at h2
          omega
        · exact h
      have HT := Lib.hid (hT.set hps0)
      have HF9 := Lib.hid (fr.stepR HF8.out f9)
      have hx9 := fr.hp f9 HX8.out
      have e1 := cell_of_row w9 _ 1 _ _ _ hx9
      simp only [List.getElem?_toArray, List.getElem?_cons_zero, List.getElem?_cons_succ] at e1
      have hz9 := Below.size f9
      clear hT f9 hx9 hps0 HX8 HF8 H8
      have hbw : fr w w9 := HF9.out
      have HAL := Lib.hid (tall_any Tb N n2 c2 0 0 A2 none (fun i => w8.heap.size ≤ i ∧ i < w9.heap.size) _ (fun _ => True) lo [] es ps w9 (HB2.out.below hbw) (Byt.nil _ _) HT.out HPS.out HNN.out (by omega) (by omega) (by omega) HORD.out (fun i h => h.2))
      obtain ⟨fs, hfs⟩ : ∃ q, rangeE lo [] es = q := ⟨_, rfl⟩
      rw [hfs] at HAL
      obtain ⟨nf, hnf⟩ : ∃ q, fs.length = q := ⟨_, rfl⟩
      rw [hnf] at HAL
      have hnfl : nf ≤ N := by rw [← hnf, ← hfs, ← HNN.out]; exact range_len
      go_wp2_with (go_at_call 11; refine HAL.out.mono ?_; rintro r w10 ⟨v10, ys2, T, rfl, hown, hec, hTo, f10⟩; obtain ⟨Ax, cx, rfl⟩ := own_form hown)
      obtain ⟨T2, hT2⟩ : ∃ T2 : Nat → Prop, T2 = fun i => (w9.heap.size ≤ i ∧ ¬ T i) ∧ Loose w10 i := ⟨_, rfl⟩
      have HSX : Hid (SpoilE w10 w9.heap.size nf (.slice Ax nf cx) ys2 fs T2) := Lib.hid ⟨hown, by rw [hT2]; exact hec, hnf, fun i h => by rw [hT2] at h; exact h.2, fun i h => by rw [hT2] at h; exact h.1.1, fun g hg h => by rw [hT2] at h; exact h.1.2 (hTo g hg)⟩
      have HTX := Lib.hid (HT.out.fr f10)
      have HF10 := Lib.hid (fr.stepR HF9.out f10)
      have hz10 := Below.size f10
      have hnf8 : nf ≤ 9223372036854775807 := by omega
      clear hown hec hTo hT2 f10 HAL e1 hbw HT HF9 hnf
      go_loopw [120] (fun t wr => ∃ k : Nat, k ≤ nf ∧ t = .int .i64 k ∧ Spoil T2 w10 wr) (fun t _ => nf - (intOf t).toNat)
      case atStart => exact ⟨0, Nat.zero_le _, rfl, Spoil.refl _ _⟩
      case round =>
        obtain ⟨m, hm, rfl, hsp⟩ := hrel
        have HSP := Lib.hid hsp
        clear hsp
        by_cases hmn : m < nf
        · as_aux_lemma =>
          obtain ⟨wo, hwo⟩ : ∃ w', w' = wr := ⟨_, rfl⟩
          subst hwo
          obtain ⟨e, hem⟩ : ∃ e, fs[m]? = some e := ⟨_, List.getElem?_eq_getElem (by rw [HSX.out.len]; exact hmn)⟩
          obtain ⟨gx, cx', hEx, heads⟩ := own_heads (T := T2) HSX.out.row hmn HSX.out.out
          injection hEx with e1 e2 e3
          first
            | subst e1 e3
            | (simp only [Option.some.injEq, Addr.mk.injEq] at e1; obtain ⟨rfl, _⟩ := e1; subst e3)
          obtain ⟨k8, u8, y0, _, _, y3, q0, q1⟩ := HSX.out.ents.at_ hem
          obtain ⟨Ak, ck, rfl⟩ := slice_form q0
          obtain ⟨Au, cu, rfl⟩ := slice_form q1
          have HHD := Lib.hid heads
          have HQ0 := Lib.hid q0
          have HQ1 := Lib.hid q1
          have Y0 := Lib.hid y0
          have Y3 := Lib.hid y3
          have hlk := q0.len
          have hlu := q1.len
          have x0 := (HHD.out _ HSP.out.only).1 _ Y0.out
          clear q0 q1 y0 y3 heads hem e2
          go_wp2
          clear x0
          go_loopw [129] (fun t wr => ∃ j : Nat, j ≤ e.key.length ∧ t = .int .i64 j ∧ Spoil T2 w10 wr) (fun t _ => e.key.length - (intOf t).toNat)
          case atStart => exact ⟨0, Nat.zero_le _, rfl, HSP.out⟩
          case round =>
            clear HSP
            obtain ⟨j, hj, rfl, hsp⟩ := hrel
            have HSP := Lib.hid hsp
            clear hsp
            by_cases hjn : j < e.key.length
            · as_aux_lemma =>
              obtain ⟨b, o, x, rfl, hcell, hfz, hsp'⟩ := turn_at HSP.out HQ0.out (fun i hi => HSX.out.loose i hi) hjn
              have x0 := (HHD.out _ HSP.out.only).1 _ Y0.out
              have HS' := Lib.hid hsp'
              clear hsp'
              go_wp2
              go_still_tail 16, (by kernel_rfl)
              go_wp2_with fail
              exact ⟨⟨j + 1, by omega, by go_num, HS'.out.trans Spoil.drew⟩, by simp [intOf]; omega⟩
            · as_aux_lemma =>
              obtain rfl : j = e.key.length := by omega
              obtain ⟨w6', hw6⟩ : ∃ w', w' = wr := ⟨_, rfl⟩
              subst hw6
              have x3 := (HHD.out _ HSP.out.only).2.2.2 _ Y3.out
              go_wp2
              clear x3
              go_loopw [155] (fun t wr => ∃ j : Nat, j ≤ e.val.length ∧ t = .int .i64 j ∧ Spoil T2 w10 wr) (fun t _ => e.val.length - (intOf t).toNat)
              case atStart => exact ⟨0, Nat.zero_le _, rfl, HSP.out⟩
              case round =>
                clear HSP
                obtain ⟨j, hj, rfl, hsp⟩ := hrel
                have HSP := Lib.hid hsp
                clear hsp
                by_cases hjn : j < e.val.length
                · obtain ⟨b, o, x, rfl, hcell, hfz, hsp'⟩ := turn_at HSP.out HQ1.out (fun i hi => HSX.out.loose i hi) hjn
                  have x3 := (HHD.out _ HSP.out.only).2.2.2 _ Y3.out
                  have HS' := Lib.hid hsp'
                  clear hsp'
                  go_wp2
                  go_still_tail 16, (by kernel_rfl)
                  go_wp2_with fail
                  exact ⟨⟨j + 1, by omega, by go_num, HS'.out.trans Spoil.drew⟩, by simp [intOf]; omega⟩
                · obtain rfl : j = e.val.length := by omega
                  go_wp2
                  exact ⟨⟨m + 1, by omega, by go_num, HSP.out⟩, by simp [intOf]; omega⟩
        · as_aux_lemma =>
          obtain rfl : nf = m := by omega
          obtain ⟨w11, hw11⟩ : ∃ w', w' = wr := ⟨_, rfl⟩
          subst hw11
          have o11 := HSP.out.only
          have hz11 := o11.size
          have HT11 := Lib.hid (HTX.out.only o11 fun i hi ht => by have := HSX.out.base i ht; have := hi.2; omega)
          have HF11 := Lib.hid (show fr w w11 from HF10.out.trans (o11.below HF10.out.size fun i ht => by have := HSX.out.base i ht; have := HF10.out.size; omega))
          clear o11 HSP HSX HTX HF10
          obtain ⟨ea, hea⟩ : ∃ e, es[0]? = some e := ⟨_, List.getElem?_eq_getElem (by rw [HNN.out]; omega)⟩
          obtain ⟨eb, heb⟩ : ∃ e, es[N - 1]? = some e := ⟨_, List.getElem?_eq_getElem (by rw [HNN.out]; omega)⟩
          have HEA := Lib.hid hea
          have HEB := Lib.hid heb
          have HBD := Lib.hid (bounds_any _ Tb N es ps ea eb w11 HT11.out HPS.out hea heb)
          clear hea heb
          go_wp2_with (fail)
          refine HBD.out.mono ?_
          rintro r w12 ⟨va, vb, rfl, ha12, hb12, f12⟩
          obtain ⟨Aa, ca, rfl⟩ := slice_form ha12
          obtain ⟨Ab, cb, rfl⟩ := slice_form hb12
          have HT12 := Lib.hid (HT11.out.fr f12)
          have HF12 := Lib.hid (fr.stepR HF11.out f12)
          have hz12 := Below.size f12
          obtain ⟨T3, hT3⟩ : ∃ T : Nat → Prop, T = fun i => w11.heap.size ≤ i ∧ Loose w12 i := ⟨_, rfl⟩
          have HT3 : Hid (∀ i, T3 i → w11.heap.size ≤ i ∧ Loose w12 i) := Lib.hid fun i h => by rw [hT3] at h; exact h
          have HA12 : Hid (Byt w12 T3 (.slice Aa ea.key.length ca) ea.key) := Lib.hid (by rw [hT3]; exact ha12)
          have hlk := ha12.len
          clear HBD ha12 hb12 f12 hT3 HT11 HF11
          go_wp2
          go_loopw [183] (fun t wr => ∃ j : Nat, j ≤ ea.key.length ∧ t = .int .i64 j ∧ Spoil T3 w12 wr) (fun t _ => ea.key.length - (intOf t).toNat)
          case atStart => exact ⟨0, Nat.zero_le _, rfl, Spoil.refl _ _⟩
          case round =>
            obtain ⟨j, hj, rfl, hsp⟩ := hrel
            have HSP := Lib.hid hsp
            clear hsp
            by_cases hjn : j < ea.key.length
            · as_aux_lemma =>
              obtain ⟨b, o, x, rfl, hcell, hfz, hsp'⟩ := turn_at HSP.out HA12.out (fun i hi => (HT3.out i hi).2) hjn
              have HS' := Lib.hid hsp'
              clear hsp'
              go_wp2
              exact ⟨⟨j + 1, by omega, by go_num, HS'.out⟩, by simp [intOf]; omega⟩
            · as_aux_lemma =>
              obtain rfl : j = ea.key.length := by omega
              obtain ⟨w13, hw13⟩ : ∃ w', w' = wr := ⟨_, rfl⟩
              subst hw13
              have o13 := HSP.out.only
              have hz13 := o13.size
              have HT13 := Lib.hid (HT12.out.only o13 fun i hi ht => by have := (HT3.out i ht).1; have := hi.2; omega)
              have HF13 := Lib.hid (show fr w w13 from HF12.out.trans (o13.below HF12.out.size fun i ht => by have := (HT3.out i ht).1; have := HF12.out.size; omega))
              have hwz13 := HF13.out.size
              clear o13 HSP HT3 HA12 HT12 HF12
              go_wp2_with (fail)
              refine (entries_some Tb 0 0 0 0 none none (fun _ => True) (fun _ => True) [] [] w13 (Byt.nil _ _) (Byt.nil _ _)).mono ?_
              rintro r w14 ⟨rfl, q0, ⟨A', n', c', A'', n'', c'', q1, q2, q3, q4⟩, f14⟩
              obtain ⟨z, hz⟩ : ∃ z, w13.heap.size = z := ⟨_, rfl⟩
              rw [hz] at q0 q1 q2 q3 q4 ⊢
              have HT14 := Lib.hid (HT13.out.fr f14)
              have HF14 := Lib.hid (fr.stepR HF13.out f14)
              have hz14 := Below.size f14
              have hq2 := q2.lt
              obtain ⟨S', hS'⟩ : ∃ S' : Nat → Prop, S' = fun i => z + 3 ≤ i ∧ Loose w14 i := ⟨_, rfl⟩
              have HS1 : Hid (∀ i, S' i → i < w14.heap.size) := Lib.hid fun i h => by rw [hS'] at h; exact h.2.lt
              have HTI := Lib.hid (entries_tells 0 w14 z Tb N n' c' n'' c'' A' A'' (fun i => w8.heap.size ≤ i ∧ i < w9.heap.size) S' S' [] [] es ps ⟨q0, q1, q2, by rw [hS']; exact q3, by rw [hS']; exact q4, HT14.out⟩ HPS.out HNN.out (by omega) (by omega) (by omega) HORD.out (fun i h => by
                rcases h with h | h | h
                · have := h.2; omega
                · exact HS1.out i h
                · exact HS1.out i h))
              clear q0 q1 q2 q3 q4 f14 hS' HT13 HF13
              go_wp2_with (fail)
              refine (wpIn_wide (n := 1)).1 ?_
              refine range_tells rfl (by omega) (gf := 44) (lb := #[.pointer (some ⟨z, 0, none⟩), .pointer (some ⟨z + 1, 0, none⟩), .pointer (some ⟨z + 1 + 1, 0, none⟩)]) rfl trivial (enters_of Try.func44 (by kernel_rfl) rfl) HTI.out
                ?hD (fun i h => h.elim) (fun pre T T' x A hT h => h.anti hT) (fun _ _ _ h _ => h) (fun _ _ _ h _ => h) (fun _ => rfl)
                (fun _ T W => T = (fun _ => False) ∧ fr w14 W) (fun c _ T W => c = .exit 14 ∧ T = (fun _ => False) ∧ fr w14 W) ?still ?stillX (fun _ => False) (fun i h => h.elim) ⟨rfl, fr.refl⟩
                (fun _ _ _ _ _ => True) (fun _ _ _ _ _ _ h _ => h) ?assign ?body ?done ?stop ?lt ?ltx
              case hD =>
                rintro i (rfl | rfl | rfl | h | h | h)
                · omega
                · omega
                · omega
                · have := h.2; omega
                · exact HS1.out i h
                · exact HS1.out i h
              case still =>
                rintro pre T A B ⟨h1, h3⟩ hi
                exact ⟨h1, hi.os.trans h3.os, hi.tape.trans h3.tape, hi.output.trans h3.output, Nat.le_trans h3.size hi.size, fun i hlt => (hi.block i (Nat.lt_of_lt_of_le hlt h3.size) fun hk => by rcases hk with hk | hk; exact hk; omega).trans (h3.block i hlt)⟩
              case stillX =>
                rintro c pre T A B ⟨h0, h1, h3⟩ hi
                exact ⟨h0, h1, hi.os.trans h3.os, hi.tape.trans h3.tape, hi.output.trans h3.output, Nat.le_trans h3.size hi.size, fun i hlt => (hi.block i (Nat.lt_of_lt_of_le hlt h3.size) fun hk => by rcases hk with hk | hk; exact hk; omega).trans (h3.block i hlt)⟩
              case lt =>
                rintro pre T W i ⟨rfl, h3⟩ hT
                exact hT.elim
              case ltx =>
                rintro c pre T W i ⟨h0, rfl, h3⟩ hT
                exact hT.elim
              case assign =>
                rintro l' pre T x W K hi' hok hK
                gi_wp2
                exact hK _ _ fr.refl hi' trivial
              case body =>
                rintro l' pre T x a' sA W hl hlA hrec hTs hsA ⟨rfl, h3⟩ _
                gi_wp2
                exact ⟨fun _ => False, fun i h => h.elim, Only.refl _ _, rfl, rfl, h3⟩
              case done =>
                rintro D' xs T W hD' hTs hxs ⟨rfl, h3⟩ hK
                clear hTs
                have HT15 := Lib.hid (HT14.out.fr h3)
                have HF15 := Lib.hid (fr.stepR HF14.out h3)
                have HK15 := Lib.hid hK
                have hz15 := Below.size h3
                have HAL2 := Lib.hid (tall_any Tb N 0 0 0 0 none none (fun i => w8.heap.size ≤ i ∧ i < w9.heap.size) (fun _ => True) (fun _ => True) [] [] es ps W (Byt.nil _ _) (Byt.nil _ _) HT15.out HPS.out HNN.out (by omega) (by omega) (by omega) HORD.out (fun i h => by have := h.2; omega))
                rw [range_nil, HNN.out] at HAL2
                clear h3 hK HT14 HF14 HTI HT15
                go_wp2_with (fail)
                refine HAL2.out.mono ?_
                rintro r w16 ⟨v16, ys3, T4, rfl, hown, hec, _, f16⟩
                obtain ⟨Ay, cy, rfl⟩ := own_form hown
                have HY := Lib.hid (show Ents w16 (fun _ => True) (.slice Ay N cy) es from Ents.of_own (by rw [HNN.out]; exact hown) (hec.mono fun _ _ => trivial) (fun _ _ _ => trivial) (by rw [HNN.out]; omega))
                have HF16 := Lib.hid (fr.stepR HF15.out f16)
                have HK16 := Lib.hid (fr.hp f16 HK15.out)
                have HL16 := Lib.hid (HV.out.below HF16.out)
                obtain ⟨b, o, ka, ua, hA1, x0, _, _, _, qa⟩ := ents_at HL16.out HEA.out
                obtain ⟨b', o', kb, ub, hA2, y0, _, _, _, qb⟩ := ents_at HL16.out HEB.out
                obtain rfl := hA1
                simp only [Option.some.injEq, Addr.mk.injEq, and_true] at hA2
                obtain ⟨rfl, rfl⟩ := hA2
                obtain ⟨_, _, hka, qa1, _⟩ := qa
                obtain ⟨_, _, hkb, qb1, _⟩ := qb
                simp only [Value.agg.injEq, Array.mk.injEq, List.cons.injEq, and_true] at hka hkb
                obtain ⟨rfl, _, _, rfl⟩ := hka
                obtain ⟨rfl, _, _, rfl⟩ := hkb
                obtain ⟨Ak, ck, rfl⟩ := slice_form qa1
                obtain ⟨Al, cl, rfl⟩ := slice_form qb1
                have hle : cmpB ea.key eb.key ≤ 0 := keys_le ((ordered_iff es).1 HORD.out).2 HEA.out HEB.out
                have CS : ∀ q : Ext w16, Calls Try.prog 13 #[.slice Ay N cy, .slice (some ⟨b, o, none⟩) N c] q.w fun r w'' => r = .returned (.bool true) ∧ ∃ q' : Ext w16, w'' = q'.w := fun q => Ext.calls ((sameE_any _ _ _ _ es es q.w (HY.out.below q.h) (HL16.out.below q.h)).mono fun r w' h => ⟨by rw [h.1, decide_eq_true rfl], h.2⟩)
                obtain ⟨X, hX⟩ : ∃ X : ByteArray, X = ⟨ea.key.toArray⟩ := ⟨_, rfl⟩
                obtain ⟨Y, hY⟩ : ∃ X : ByteArray, X = ⟨eb.key.toArray⟩ := ⟨_, rfl⟩
                obtain ⟨zz, hzz⟩ : ∃ z, cmpB ea.key eb.key = z := ⟨_, rfl⟩
                rw [hzz] at hle
                have CL : ∀ q : Ext w16, Calls Try.prog 23 #[.string X, .string Y] q.w fun r w'' => r = .returned (.int .i64 zz) ∧ ∃ q' : Ext w16, w'' = q'.w := fun q => Ext.calls ((by rw [hX, hY, ← hzz]; exact less_any ea.key eb.key q.w qa1.len qb1.len : Calls Try.prog 23 #[.string X, .string Y] q.w fun e w' => e = .returned (.int .i64 zz) ∧ ∃ n, w' = q.w.drewN n).mono fun r w' h => ⟨h.1, by obtain ⟨n, hn⟩ := h.2; rw [hn]; exact below_drewN (Below.refl _ _) n⟩)
                have kA : ∀ q : Ext w16, (convert 23 9 (.slice Ak ea.key.length ck)).run Try.prog q.w = .ok (.string X) q.w := fun q => by rw [hX]; exact (qa1.below q.h).convert
                have kB : ∀ q : Ext w16, (convert 23 9 (.slice Al eb.key.length cl)).run Try.prog q.w = .ok (.string Y) q.w := fun q => by rw [hY]; exact (qb1.below q.h).convert
                have xq : ∀ q : Ext w16, q.w.cell? ⟨b, o, none⟩ = some (.slice Ak ea.key.length ck) := Ext.cell (by simpa using x0)
                have yq : ∀ q : Ext w16, q.w.cell? ⟨b, o + (N - 1) * 4, none⟩ = some (.slice Al eb.key.length cl) := Ext.cell y0
                have hm1 : IntKind.i64.wrap ((N : Int) - 1) = ((N - 1 : Nat) : Int) := by rw [IntWalk.i64_in _ (by omega)]; omega
                have hm2 : N - 1 < N := by omega
                have hm3 : 0 < N := by omega
                clear hown hec f16 x0 y0 qa1 qb1 hX hY hzz HAL2 HF15 HK15
                go_wp2
                (refine wp_region_quiet_ext (by kernel_rfl) (by kernel_rfl) ?_; (repeat (go_big_quiet_step ((first | (go_at_call 13; exact CS _) | (go_at_call 23; exact CL _))))); refine wpQuiet_nil ?_; intro wq hw'; obtain ⟨⟨_, hq⟩, hw''⟩ := hw'; subst hw'')
                have hk2 := fr.hp hq HK16.out
                have o4 : Only (fun i => i = D') wq (wq.putObj D' (.deferred none)) := ⟨rfl, rfl, rfl, by simp, fun i _ hi => World.putObj_heap_other hi⟩
                have hf := fr.stepR HF16.out hq
                have hzf := hf.size
                go_wp2
                refine ⟨by simp, .inl ⟨_, _, rfl, run_takeDeferred hk2, ?_⟩⟩
                exact ⟨.bool true, by simp [results, Try.results5, go_sem], rfl, hf.trans (o4.below hzf fun i hi => by omega)⟩
              case stop =>
                rintro D' c xs T W hD' hTs _ ⟨rfl, rfl, h3⟩ hK
                gi_wp2
                clear hTs
                have HT15 := Lib.hid (HT14.out.fr h3)
                have HF15 := Lib.hid (fr.stepR HF14.out h3)
                have HK15 := Lib.hid hK
                have hz15 := Below.size h3
                have HAL2 := Lib.hid (tall_any Tb N 0 0 0 0 none none (fun i => w8.heap.size ≤ i ∧ i < w9.heap.size) (fun _ => True) (fun _ => True) [] [] es ps W (Byt.nil _ _) (Byt.nil _ _) HT15.out HPS.out HNN.out (by omega) (by omega) (by omega) HORD.out (fun i h => by have := h.2; omega))
                rw [range_nil, HNN.out] at HAL2
                clear h3 hK HT14 HF14 HTI HT15
                go_wp2_with (fail)
                refine HAL2.out.mono ?_
                rintro r w16 ⟨v16, ys3, T4, rfl, hown, hec, _, f16⟩
                obtain ⟨Ay, cy, rfl⟩ := own_form hown
                have HY := Lib.hid (show Ents w16 (fun _ => True) (.slice Ay N cy) es from Ents.of_own (by rw [HNN.out]; exact hown) (hec.mono fun _ _ => trivial) (fun _ _ _ => trivial) (by rw [HNN.out]; omega))
                have HF16 := Lib.hid (fr.stepR HF15.out f16)
                have HK16 := Lib.hid (fr.hp f16 HK15.out)
                have HL16 := Lib.hid (HV.out.below HF16.out)
                obtain ⟨b, o, ka, ua, hA1, x0, _, _, _, qa⟩ := ents_at HL16.out HEA.out
                obtain ⟨b', o', kb, ub, hA2, y0, _, _, _, qb⟩ := ents_at HL16.out HEB.out
                obtain rfl := hA1
                simp only [Option.some.injEq, Addr.mk.injEq, and_true] at hA2
                obtain ⟨rfl, rfl⟩ := hA2
                obtain ⟨_, _, hka, qa1, _⟩ := qa
                obtain ⟨_, _, hkb, qb1, _⟩ := qb
                simp only [Value.agg.injEq, Array.mk.injEq, List.cons.injEq, and_true] at hka hkb
                obtain ⟨rfl, _, _, rfl⟩ := hka
                obtain ⟨rfl, _, _, rfl⟩ := hkb
                obtain ⟨Ak, ck, rfl⟩ := slice_form qa1
                obtain ⟨Al, cl, rfl⟩ := slice_form qb1
                have hle : cmpB ea.key eb.key ≤ 0 := keys_le ((ordered_iff es).1 HORD.out).2 HEA.out HEB.out
                have CS : ∀ q : Ext w16, Calls Try.prog 13 #[.slice Ay N cy, .slice (some ⟨b, o, none⟩) N c] q.w fun r w'' => r = .returned (.bool true) ∧ ∃ q' : Ext w16, w'' = q'.w := fun q => Ext.calls ((sameE_any _ _ _ _ es es q.w (HY.out.below q.h) (HL16.out.below q.h)).mono fun r w' h => ⟨by rw [h.1, decide_eq_true rfl], h.2⟩)
                obtain ⟨X, hX⟩ : ∃ X : ByteArray, X = ⟨ea.key.toArray⟩ := ⟨_, rfl⟩
                obtain ⟨Y, hY⟩ : ∃ X : ByteArray, X = ⟨eb.key.toArray⟩ := ⟨_, rfl⟩
                obtain ⟨zz, hzz⟩ : ∃ z, cmpB ea.key eb.key = z := ⟨_, rfl⟩
                rw [hzz] at hle
                have CL : ∀ q : Ext w16, Calls Try.prog 23 #[.string X, .string Y] q.w fun r w'' => r = .returned (.int .i64 zz) ∧ ∃ q' : Ext w16, w'' = q'.w := fun q => Ext.calls ((by rw [hX, hY, ← hzz]; exact less_any ea.key eb.key q.w qa1.len qb1.len : Calls Try.prog 23 #[.string X, .string Y] q.w fun e w' => e = .returned (.int .i64 zz) ∧ ∃ n, w' = q.w.drewN n).mono fun r w' h => ⟨h.1, by obtain ⟨n, hn⟩ := h.2; rw [hn]; exact below_drewN (Below.refl _ _) n⟩)
                have kA : ∀ q : Ext w16, (convert 23 9 (.slice Ak ea.key.length ck)).run Try.prog q.w = .ok (.string X) q.w := fun q => by rw [hX]; exact (qa1.below q.h).convert
                have kB : ∀ q : Ext w16, (convert 23 9 (.slice Al eb.key.length cl)).run Try.prog q.w = .ok (.string Y) q.w := fun q => by rw [hY]; exact (qb1.below q.h).convert
                have xq : ∀ q : Ext w16, q.w.cell? ⟨b, o, none⟩ = some (.slice Ak ea.key.length ck) := Ext.cell (by simpa using x0)
                have yq : ∀ q : Ext w16, q.w.cell? ⟨b, o + (N - 1) * 4, none⟩ = some (.slice Al eb.key.length cl) := Ext.cell y0
                have hm1 : IntKind.i64.wrap ((N : Int) - 1) = ((N - 1 : Nat) : Int) := by rw [IntWalk.i64_in _ (by omega)]; omega
                have hm2 : N - 1 < N := by omega
                have hm3 : 0 < N := by omega
                clear hown hec f16 x0 y0 qa1 qb1 hX hY hzz HAL2 HF15 HK15
                go_wp2
                (refine wp_region_quiet_ext (by kernel_rfl) (by kernel_rfl) ?_; (repeat (go_big_quiet_step ((first | (go_at_call 13; exact CS _) | (go_at_call 23; exact CL _))))); refine wpQuiet_nil ?_; intro wq hw'; obtain ⟨⟨_, hq⟩, hw''⟩ := hw'; subst hw'')
                have hk2 := fr.hp hq HK16.out
                have o4 : Only (fun i => i = D') wq (wq.putObj D' (.deferred none)) := ⟨rfl, rfl, rfl, by simp, fun i _ hi => World.putObj_heap_other hi⟩
                have hf := fr.stepR HF16.out hq
                have hzf := hf.size
                go_wp2
                refine ⟨by simp, .inl ⟨_, _, rfl, run_takeDeferred hk2, ?_⟩⟩
                exact ⟨.bool true, by simp [results, Try.results5, go_sem], rfl, hf.trans (o4.below hzf fun i hi => by omega)⟩
end Go.Proofs.Ytiffgjodbcploaa
end
