/-
slices.Clone of tables; manifest.clone.
-/
import Derived.Test.YtjnolpfmchnnmaaGreatDoorQPSwUpto8
import Derived.Test.YtjnolpfmchnnmaaGreatDoorQPSwUpto3
import Derived.Test.YtjnolpfmchnnmaaGreatDoorQPSwUpto4
import Derived.Deep.RegionHeld3
import Derived.Test.YtjnolpfmchnnmaaGreatDoorQPSwUpto7
import Derived.Test.YtjnolpfmchnnmaaGreatDoorQPSwUpto6
section
namespace Go.Proofs.YtjnolpfmchnnmaaGreatDoor
set_option maxRecDepth 100000
open Go.RowKit Go.BigFrame
attribute [local go_sem ↓] Go.wp_at_zero Go.wp_at_succ
theorem and127 {y : Nat} (hy : y < 256) : bits .and .u8 (y : Int) 127 = ((y % 128 : Nat) : Int) := by
  have := bits_mask .u8 8 (by decide) wraps_u8 7 (by decide) (y : Int) (by omega) (by omega)
  rw [show ((2 : Int) ^ 7 - 1) = 127 by decide] at this
  rw [this]
  omega
theorem or64 {acc y j : Nat} (hy : y < 256) (ha : acc < 2 ^ (7 * j)) (hb : y % 128 * 2 ^ (7 * j) + acc < 18446744073709551616) :
    bits .or .u64 (acc : Int) (IntKind.u64.wrap (IntKind.u64.wrap (bits .and .u8 (y : Int) 127) * 2 ^ (7 * j))) = ((y % 128 * 2 ^ (7 * j) + acc : Nat) : Int) := by
  rw [and127 hy]
  have e1 : IntKind.u64.wrap ((y % 128 : Nat) : Int) = ((y % 128 : Nat) : Int) := by rw [wrap_u64]; omega
  have e2 : ((y % 128 : Nat) : Int) * 2 ^ (7 * j) = ((y % 128 * 2 ^ (7 * j) : Nat) : Int) := by simp
  obtain ⟨P, hP⟩ : ∃ P, y % 128 * 2 ^ (7 * j) = P := ⟨_, rfl⟩
  have ho := or_hi (c := y % 128) ha
  rw [hP] at hb e2 ho ⊢
  rw [e1, e2]
  have e3 : IntKind.u64.wrap (P : Int) = (P : Int) := by rw [wrap_u64]; omega
  rw [e3, (bits_nat .u64 64 (by decide) wraps64 acc P (by omega) (by omega)).2, ho]
  congr 1
  omega
theorem or64_9 {acc y : Nat} (hy : y < 256) (ha : acc < 2 ^ (7 * 9)) (hb : y % 128 * 2 ^ (7 * 9) + acc < 18446744073709551616) :
    bits .or .u64 (acc : Int) (IntKind.u64.wrap (IntKind.u64.wrap (bits .and .u8 (y : Int) 127) * 9223372036854775808)) = ((y % 128 * 2 ^ (7 * 9) + acc : Nat) : Int) := by
  have := or64 hy ha hb
  rwa [show (2 : Int) ^ (7 * 9) = 9223372036854775808 by decide] at this
set_option maxRecDepth 100000 in
set_option maxHeartbeats 1000000 in
theorem uint_any (S : Nat → Prop) (b o n c k v : Nat) (bs rest : List UInt8) (w : World) (hv : Byt w S (.slice (some ⟨b, o, none⟩) n c) bs) (hn : bs.length = n) (hk : k ≤ n) (hr : bs.drop k = formN v ++ rest) (hv64 : v < 18446744073709551616) :
    Calls Tryz.prog 150 #[.slice (some ⟨b, o, none⟩) n c, .int .i64 k] w fun r w' => r = .returned (.tuple #[.int .u64 v, .int .i64 (k + (formN v).length : Nat), .int .i64 0]) ∧ w' = w := by
  have hl := hv.len
  rw [hn] at hl
  have hfl := formN_len v
  have hlen : n - k = (formN v).length + rest.length := by have := congrArg List.length hr; rw [List.length_drop, List.length_append, hn] at this; exact this
  have hcc : n ≤ c ∧ c ≤ 9223372036854775807 := by obtain ⟨A, ca, hE, h1, h2, _⟩ := hv; injection hE with _ e2 e3; omega
  obtain ⟨m, hm⟩ : ∃ m, n - k = m := ⟨_, rfl⟩
  obtain ⟨cm, hcm⟩ : ∃ m, c - k = m := ⟨_, rfl⟩
  have hkc : ((c : Int) - (k : Int)) = ((c - k : Nat) : Int) := by omega
  have HR : Hid (Byt w S (.slice (some ⟨b, o + k, none⟩) m cm) (bs.drop k)) := Lib.hid (by
    have := Byt.cut hv (f := k) (m := m) (c' := cm) (by omega) (by omega) (by omega)
    rwa [List.take_of_length_le (by rw [List.length_drop, hn]; omega)] at this)
  have hmb : (formN v).length ≤ m ∧ 0 < m := by omega
  obtain ⟨rs, hrs⟩ : ∃ rs, bs.drop k = rs := ⟨_, rfl⟩
  rw [hrs] at HR hr
  have hrl : rs.length = m := by rw [← hrs, List.length_drop, hn, hm]
  have HRL := Lib.hid hrl
  have HRS := Lib.hid hr
  have HV64 := Lib.hid hv64
  have hck : ¬ c = k := by omega
  have hk0 : decide ((k : Int) < 0) = false := by simp
  have hk1 : decide (n < k) = false := by simp; omega
  have hk2 : decide ((n : Int) < (k : Int)) = false := by simp; omega
  obtain ⟨fl, hfe⟩ : ∃ x, (formN v).length = x := ⟨_, rfl⟩
  rw [hfe] at hmb hfl ⊢
  have HFE := Lib.hid hfe
  have HFB := Lib.hid hfl
  have HMB := Lib.hid hmb
  clear hv hrs hrl hr hlen hfe hfl hmb hv64
  go_enter Tryz.func150, Tryz.ntmps150
  go_wp2
  go_loopw [7, 22] (fun x t wr => ∃ (j u acc : Nat) (p : List UInt8), j ≤ 9 ∧ t = .int .i64 j ∧ x = .int .u64 acc ∧ rs = p ++ (formF (9 - j) u ++ rest) ∧ p.length = j ∧ fl = j + (formF (9 - j) u).length ∧ acc < 2 ^ (7 * j) ∧ u * 2 ^ (7 * j) + acc = v ∧ (0 < j → 0 < u) ∧ wr = w) (fun _ t _ => 10 - (intOf t).toNat)
  case atStart => exact ⟨0, v, 0, [], Nat.zero_le _, rfl, rfl, HRS.out, rfl, by rw [← HFE.out]; simp [formN], by decide, by simp, fun h => absurd h (by omega), rfl⟩
  case round =>
    obtain ⟨j, u, acc, p, hj, rfl, rfl, hsp, hpl, hfj, hac, hua, hju, rfl⟩ := hrel
    have HSP := Lib.hid hsp
    have HFJ := Lib.hid hfj
    have HAC := Lib.hid hac
    have HUA := Lib.hid hua
    have HJU := Lib.hid hju
    have HPL := Lib.hid hpl
    have hjm : j < m := by have := (formF_len (9 - j) u).1; have := HMB.out; omega
    obtain ⟨y, hy⟩ : ∃ y, rs[j]? = some y := ⟨_, List.getElem?_eq_getElem (by rw [HRL.out]; exact hjm)⟩
    obtain ⟨A', c', hE, _, _, _, hrow⟩ := HR.out
    injection hE with e1 e2 e3
    subst e1
    obtain ⟨b3, o3, u3, hb3, _, _, hu3, hcell⟩ := hrow.at_ (k := j) (by rw [HRL.out]; exact hjm)
    injection hb3 with hb3
    injection hb3 with hb4 hb5
    subst hb4 hb5
    obtain rfl : u3 = bcell y := by rw [List.getElem?_map, hy] at hu3; injection hu3 with hu; exact hu.symm
    unfold bcell at hcell
    have HY := Lib.hid hy
    have hyb := y.toNat_lt
    clear hrow hu3 hy hsp hfj hac hua hju hpl e2 e3
    have hy64 := HV64.out
    by_cases hu : 127 < u
    · have hj8 : j < 9 := by
        rcases (by omega : j < 9 ∨ j = 9) with h | h
        · exact h
        · have := HUA.out
          rw [h, show (2 : Nat) ^ (7 * 9) = 9223372036854775808 by decide] at this
          omega
      have hff : formF (9 - j) u = UInt8.ofNat (u % 128 + 128) :: formF (9 - (j + 1)) (u / 128) := by
        rw [show 9 - j = (9 - (j + 1)) + 1 by omega]
        conv => lhs; unfold formF
        rw [if_neg (by omega)]
      have hyu : y.toNat = u % 128 + 128 := by
        have h1 := HY.out
        rw [HSP.out, hff, List.getElem?_append_right (by rw [HPL.out]; exact Nat.le_refl _), HPL.out, Nat.sub_self] at h1
        simp only [List.cons_append, List.getElem?_cons_zero, Option.some.injEq] at h1
        rw [← h1]
        simp
        omega
      have hpw : (2 : Nat) ^ (7 * (j + 1)) = 128 * 2 ^ (7 * j) := by rw [show 7 * (j + 1) = 7 * j + 7 by omega, Nat.pow_add]; omega
      have hP : 0 < (2 : Nat) ^ (7 * j) := Nat.two_pow_pos _
      have hac := HAC.out
      have hua := HUA.out
      obtain ⟨P, hPe⟩ : ∃ P, (2 : Nat) ^ (7 * j) = P := ⟨_, rfl⟩
      have e1 : u * P = u / 128 * (128 * P) + u % 128 * P := by
        rw [← Nat.mul_assoc, ← Nat.add_mul]
        congr 1
        omega
      have hy128 : y.toNat % 128 = u % 128 := by omega
      have e2 : u % 128 * P ≤ 127 * P := Nat.mul_le_mul_right _ (by omega)
      have hor := or64 (acc := acc) (y := y.toNat) (j := j) hyb hac (by rw [hPe, hy128]; rw [hPe] at hua; omega)
      rw [hy128, hPe] at hor
      rw [hPe] at hac hua hpw
      have hnx : u / 128 * 2 ^ (7 * (j + 1)) + (u % 128 * P + acc) = v := by rw [hpw]; omega
      have hna : u % 128 * P + acc < 2 ^ (7 * (j + 1)) := by rw [hpw]; omega
      obtain ⟨acc2, ha2⟩ : ∃ a, u % 128 * P + acc = a := ⟨_, rfl⟩
      rw [ha2] at hor hnx hna
      have hjb : ((j : Int) == 9) = false := by simp; omega
      have hyc : decide ((y.toNat : Int) < 128) = false := by simp; omega
      have hyd : decide (y.toNat < 128) = false := by simp; omega
      have HNX := Lib.hid hnx
      have HNA := Lib.hid hna
      have HFF := Lib.hid hff
      have HU := Lib.hid (show 0 < u / 128 by omega)
      have HYU := Lib.hid hyu
      rw [show (2 : Int) ^ (7 * j) = (2 : Int) ^ (7 * j) from rfl] at hor
      clear hff hyu hpw hP hac hua hPe e1 hy128 e2 hnx hna ha2 hu hy64
      go_wp2
      refine ⟨⟨j + 1, u / 128, acc2, p ++ [UInt8.ofNat (u % 128 + 128)], by omega, by go_num, by first | rfl | trivial, ?_, by rw [List.length_append, HPL.out]; rfl, ?_, HNA.out, HNX.out, fun _ => HU.out, by first | rfl | trivial⟩, by simp [intOf]; omega⟩
      · rw [List.append_assoc]
        have := HSP.out
        rw [HFF.out] at this
        exact this
      · have := HFJ.out
        rw [HFF.out, List.length_cons] at this
        omega
    · have hff : formF (9 - j) u = [UInt8.ofNat u] := by
        rcases h : 9 - j with _ | q
        · rfl
        · unfold formF
          rw [if_pos (by omega)]
      have hyu : y.toNat = u := by
        have h1 := HY.out
        rw [HSP.out, hff, List.getElem?_append_right (by rw [HPL.out]; exact Nat.le_refl _), HPL.out, Nat.sub_self] at h1
        simp only [List.singleton_append, List.getElem?_cons_zero, Option.some.injEq] at h1
        rw [← h1]
        simp
        omega
      have HFJ1 : Hid (fl = j + 1) := Lib.hid (by rw [HFJ.out, hff]; rfl)
      have hy128 : y.toNat % 128 = u := by omega
      have hyc : decide ((y.toNat : Int) < 128) = true := by simp; omega
      have hyd : decide (y.toNat < 128) = true := by simp; omega
      rcases (by omega : j < 9 ∨ j = 9) with h9 | h9
      · have hor := or64 (acc := acc) (y := y.toNat) (j := j) hyb HAC.out (by rw [hy128, HUA.out]; exact hy64)
        rw [hy128, HUA.out] at hor
        have hjb : ((j : Int) == 9) = false := by simp; omega
        rcases Nat.eq_zero_or_pos j with h0 | h0
        · have hjp : decide ((0 : Int) < (j : Int)) = false := by simp; omega
          have hjq : decide (0 < j) = false := by simp; omega
          rcases Nat.eq_zero_or_pos y.toNat with hz | hz
          · have hyz : ((y.toNat : Int) == 0) = true := by simp; omega
            clear hff hyu hy128 h0 hu hy64 hz
            go_wp2
            have e : ((k : Int) + (j : Int) + 1) = (k : Int) + (fl : Int) := by rw [HFJ1.out]; omega
            refine bodyPost_ret (v := .tuple #[.int .u64 v, .int .i64 ((k : Int) + (j : Int) + 1), .int .i64 0]) (by simp [results, Tryz.results150, go_sem]) rfl ?_
            exact ⟨by rw [e], rfl⟩
          · have hyz : ((y.toNat : Int) == 0) = false := by simp; omega
            clear hff hyu hy128 h0 hu hy64 hz
            go_wp2
            have e : ((k : Int) + (j : Int) + 1) = (k : Int) + (fl : Int) := by rw [HFJ1.out]; omega
            refine bodyPost_ret (v := .tuple #[.int .u64 v, .int .i64 ((k : Int) + (j : Int) + 1), .int .i64 0]) (by simp [results, Tryz.results150, go_sem]) rfl ?_
            exact ⟨by rw [e], rfl⟩
        · have hyz : ((y.toNat : Int) == 0) = false := by have := HJU.out h0; simp; omega
          clear hff hyu hy128 h0 hu hy64
          go_wp2
          have e : ((k : Int) + (j : Int) + 1) = (k : Int) + (fl : Int) := by rw [HFJ1.out]; omega
          refine bodyPost_ret (v := .tuple #[.int .u64 v, .int .i64 ((k : Int) + (j : Int) + 1), .int .i64 0]) (by simp [results, Tryz.results150, go_sem]) rfl ?_
          exact ⟨by rw [e], rfl⟩
      · subst h9
        have hor := or64_9 (acc := acc) (y := y.toNat) hyb HAC.out (by rw [hy128, HUA.out]; exact hy64)
        rw [hy128, HUA.out] at hor
        have hyz : ((y.toNat : Int) == 0) = false := by have := HJU.out (by omega); simp; omega
        have hy1 : decide ((1 : Int) < (y.toNat : Int)) = false := by
          have := HUA.out
          rw [show (2 : Nat) ^ (7 * 9) = 9223372036854775808 by decide] at this
          simp
          omega
        clear hff hyu hy128 hu hy64
        go_wp2
        have e : ((k : Int) + 9 + 1) = (k : Int) + (fl : Int) := by rw [HFJ1.out]; omega
        refine bodyPost_ret (v := .tuple #[.int .u64 v, .int .i64 ((k : Int) + 9 + 1), .int .i64 0]) (by simp [results, Tryz.results150, go_sem]) rfl ?_
        exact ⟨by rw [e], rfl⟩
set_option maxRecDepth 100000 in
set_option maxHeartbeats 1000000 in
theorem vbytes_any (S : Nat → Prop) (b o n c k most : Nat) (bs xs rest : List UInt8) (w : World) (hv : Byt w S (.slice (some ⟨b, o, none⟩) n c) bs) (hn : bs.length = n) (hk : k ≤ n) (hr : bs.drop k = formN xs.length ++ xs ++ rest) (hx : xs.length ≤ most) (hmo : most ≤ 1099511627776) (hx0 : 0 < xs.length) :
    Calls Tryz.prog 151 #[.slice (some ⟨b, o, none⟩) n c, .int .i64 k, .int .i64 most] w fun r w' => ∃ v', r = .returned (.tuple #[v', .int .i64 (k + (formN xs.length).length + xs.length : Nat), .int .i64 0]) ∧ BytL w' w.heap.size v' xs ∧ fr w w' := by
  have hl := hv.len
  rw [hn] at hl
  have hfl := formN_len xs.length
  have hlen : n - k = (formN xs.length).length + xs.length + rest.length := by have := congrArg List.length hr; rw [List.length_drop, List.length_append, List.length_append, hn] at this; exact this
  have hcc : n ≤ c ∧ c ≤ 9223372036854775807 := by obtain ⟨A, ca, hE, h1, h2, _⟩ := hv; injection hE with _ e2 e3; omega
  have HU := Lib.hid (uint_any S b o n c k xs.length bs (xs ++ rest) w hv hn hk (by rw [hr, List.append_assoc]) (by omega))
  obtain ⟨m, hm⟩ : ∃ m, xs.length = m := ⟨_, rfl⟩
  obtain ⟨f, hf⟩ : ∃ m, (formN xs.length).length = m := ⟨_, rfl⟩
  obtain ⟨g, hg⟩ : ∃ m, k + f = m := ⟨_, rfl⟩
  rw [hf, hg, hm] at HU
  rw [hf, hg, hm]
  rw [hf, hm] at hlen
  have hcut : Byt w S (.slice (some ⟨b, o + g, none⟩) m m) xs := by
    have := Byt.cut hv (f := g) (m := m) (c' := m) (by omega) (Nat.le_refl _) (by omega)
    rw [← hg, ← List.drop_drop, hr, List.append_assoc, List.drop_left' hf, List.take_left' hm, hg] at this
    exact this
  have HC := Lib.hid (bcloneL_any S _ xs w hcut)
  have hgn : g + m ≤ n := by omega
  have hm0 : ¬ m = 0 := by omega
  have hgm : ¬ g + m = g := by omega
  have hgs : g + m - g = m := by omega
  rw [hm] at hx
  have hg2 : ((k : Int) + (f : Int)) = (g : Int) := by omega
  clear hv hcut hr hfl hf
  have h1 : ¬ ((most : Int) < 0) := by omega
  have h2 : decide ((most : Int) < 0) = false := by simp
  have h3 : ¬ ((most : Int) < (m : Int)) := by omega
  have h5 : (most : Int) % 18446744073709551616 = (most : Int) := by omega
  have h6 : ((n : Int) - (g : Int)) % 18446744073709551616 = (n : Int) - (g : Int) := by omega
  have h7 : ¬ ((n : Int) - (g : Int) < (m : Int)) := by omega
  go_enter Tryz.func151, Tryz.ntmps151
  go_upto_region 9 with (go_at_call 150; refine HU.out.mono ?_; rintro r w1 ⟨rfl, rfl⟩)
  go_wp2_with (go_at_call 89; refine HC.out.mono ?_; rintro r w2 ⟨v', rfl, hv', hf'⟩)
  refine bodyPost_ret (v := .tuple #[v', .int .i64 ((g : Int) + (m : Int)), .int .i64 0]) (by simp [results, Tryz.results151, go_sem]) rfl ?_
  exact ⟨_, by simp, hv', hf'⟩
end Go.Proofs.YtjnolpfmchnnmaaGreatDoor
end
section
namespace Go.Proofs.YtjnolpfmchnnmaaGreatDoor
set_option maxRecDepth 100000
open Go.RowKit Go.BigFrame Go.Sort Go.Shelf Go.Lib
attribute [local go_sem ↓] Go.wp_at_zero Go.wp_at_succ
theorem bv_x0 (v : Nat) (hv : v < 4611686018427387904) : ((BitVec.ofInt 64 ((v : Int) * 2) ^^^ 0#64).toNat : Int) % 18446744073709551616 = 2 * (v : Int) := by
  rw [BitVec.xor_zero, BitVec.toNat_ofInt]
  omega
theorem bv_x1 (v : Nat) (hv : v < 9223372036854775808) : ((BitVec.ofInt 64 (2 * (v : Int)) ^^^ 0#64).toNat : Int) % 18446744073709551616 = 2 * (v : Int) := by
  rw [BitVec.xor_zero, BitVec.toNat_ofInt]
  omega
theorem bv_xc (v : Nat) (hv : v < 9223372036854775808) : bits BinOp.xor IntKind.u64 ((2 * v : Nat) : Int) 0 = ((2 * v : Nat) : Int) := by
  simp [bits, IntKind.wrap, IntKind.signed, IntKind.bits]
  exact bv_x1 v hv
theorem wr_x (v : Nat) (hv : v < 9223372036854775808) (hv2 : 4611686018427387904 ≤ v) : IntKind.u64.wrap (wrap64 ((v : Int) * 2)) = ((2 * v : Nat) : Int) := by
  simp [wrap64, IntKind.wrap, IntKind.signed, IntKind.bits]
  omega
set_option maxRecDepth 100000 in
set_option maxHeartbeats 1000000 in
theorem appInt_low (S : Nat → Prop) (b : Value) (bs : List UInt8) (v : Nat) (w : World) (hb : Byt w S b bs) (hv : v < 4611686018427387904) (hl : bs.length ≤ 1099511627776) :
    Calls Tryz.prog 208 #[b, .int .i64 v] w fun r w' => ∃ A c, r = .returned (.slice A (bs ++ formN (2 * v)).length c) ∧ OwnF w' w.heap.size (.slice A (bs ++ formN (2 * v)).length c) (bs ++ formN (2 * v)) ∧ fr w w' := by
  obtain ⟨A, c, rfl⟩ := slice_form hb
  have hfl := formN_len (2 * v)
  have HF := Lib.hid (form_any (2 * v) w (by omega))
  obtain ⟨m, hm⟩ : ∃ m, (formN (2 * v)).length = m := ⟨_, rfl⟩
  obtain ⟨n, hn⟩ : ∃ m, bs.length = m := ⟨_, rfl⟩
  obtain ⟨q, hq⟩ : ∃ m, (bs ++ formN (2 * v)).length = m := ⟨_, rfl⟩
  have hqb : q ≤ 140737488355328 := by rw [← hq, List.length_append]; omega
  rw [hm] at HF
  rw [hn] at hb ⊢
  rw [hq]
  have HB := Lib.hid hb
  have HQ := Lib.hid hq
  have hz0 : (v : Int) / 9223372036854775808 = 0 := by omega
  have hx0 : bits BinOp.xor IntKind.u64 ((v : Int) * 2) ((v : Int) / 9223372036854775808) = ((2 * v : Nat) : Int) := by
    rw [hz0]
    simp [bits, IntKind.wrap, IntKind.signed, IntKind.bits]
    exact bv_x0 v hv
  clear hb hm hn hq hfl hz0
  go_enter Tryz.func208, Tryz.ntmps208
  go_wp2_with (first
    | (go_at_call 218; refine HF.out.mono ?_; rintro r w1 ⟨A1, c1, rfl, hb1, f1⟩; have hbl : BytsV (w1.alloc (.cells #[.slice A n c, .slice A1 m c1] 35)) (fun _ => True) (.slice (some ⟨w1.heap.size, 0, none⟩) 2 2) [bs, formN (2 * v)] := BytsV.lit w1 [.slice A n c, .slice A1 m c1] [bs, formN (2 * v)] 2 _ rfl rfl rfl (by omega) (fun i p hp => by
        match i, hp with
        | 0, hp => simp at hp; subst hp; exact ⟨_, rfl, (HB.out.below f1).mono fun _ _ => trivial⟩
        | 1, hp => simp at hp; subst hp; exact ⟨_, rfl, hb1.mono fun _ _ => trivial⟩
        | i + 2, hp => simp at hp))
    | (go_at_call 217; refine (join_any _ _ [bs, formN (2 * v)] _ hbl (by rw [show [bs, formN (2 * v)].flatten = bs ++ formN (2 * v) by simp, HQ.out]; exact hqb)).mono ?_; rintro r w2 ⟨A2, c2, rfl, ho2, f2⟩; rw [show [bs, formN (2 * v)].flatten = bs ++ formN (2 * v) by simp, HQ.out] at ho2; rw [show [bs, formN (2 * v)].flatten = bs ++ formN (2 * v) by simp, HQ.out]))
  refine bodyPost_ret (v := .slice A2 q c2) (by simp [results, Tryz.results208, go_sem]) rfl ?_
  have hf : fr w (w1.alloc (.cells #[.slice A n c, .slice A1 m c1] 35)) := fr.alloc f1 _
  exact ⟨_, _, rfl, ho2.mono fun i hi => Nat.le_trans hf.size hi, fr.step hf f2⟩
set_option maxRecDepth 100000 in
set_option maxHeartbeats 1000000 in
theorem appInt_big (S : Nat → Prop) (b : Value) (bs : List UInt8) (v : Nat) (w : World) (hb : Byt w S b bs) (hv : v < 9223372036854775808) (hv2 : 4611686018427387904 ≤ v) (hl : bs.length ≤ 1099511627776) :
    Calls Tryz.prog 208 #[b, .int .i64 v] w fun r w' => ∃ A c, r = .returned (.slice A (bs ++ formN (2 * v)).length c) ∧ OwnF w' w.heap.size (.slice A (bs ++ formN (2 * v)).length c) (bs ++ formN (2 * v)) ∧ fr w w' := by
  obtain ⟨A, c, rfl⟩ := slice_form hb
  have hfl := formN_len (2 * v)
  have HF := Lib.hid (form_any (2 * v) w (by omega))
  obtain ⟨m, hm⟩ : ∃ m, (formN (2 * v)).length = m := ⟨_, rfl⟩
  obtain ⟨n, hn⟩ : ∃ m, bs.length = m := ⟨_, rfl⟩
  obtain ⟨q, hq⟩ : ∃ m, (bs ++ formN (2 * v)).length = m := ⟨_, rfl⟩
  have hqb : q ≤ 140737488355328 := by rw [← hq, List.length_append]; omega
  rw [hm] at HF
  rw [hn] at hb ⊢
  rw [hq]
  have HB := Lib.hid hb
  have HQ := Lib.hid hq
  have z2 := wr_x v hv hv2
  have z3 := bv_xc v hv
  have hp : 2 * v < 18446744073709551616 := by omega
  obtain ⟨u, hu⟩ : ∃ u, 2 * v = u := ⟨_, rfl⟩
  obtain ⟨z, hz⟩ : ∃ z, wrap64 ((v : Int) * 2) = z := ⟨_, rfl⟩
  rw [hz] at z2
  rw [hu] at z2 z3 hp HF HQ ⊢
  have z4 : (v : Int) / 9223372036854775808 = 0 := by omega
  clear hb hm hn hq hfl hv2 hu
  go_enter Tryz.func208, Tryz.ntmps208
  go_wp2_with (first
    | (go_at_call 218; refine HF.out.mono ?_; rintro r w1 ⟨A1, c1, rfl, hb1, f1⟩; have hbl : BytsV (w1.alloc (.cells #[.slice A n c, .slice A1 m c1] 35)) (fun _ => True) (.slice (some ⟨w1.heap.size, 0, none⟩) 2 2) [bs, formN u] := BytsV.lit w1 [.slice A n c, .slice A1 m c1] [bs, formN u] 2 _ rfl rfl rfl (by omega) (fun i p hp => by
        match i, hp with
        | 0, hp => simp at hp; subst hp; exact ⟨_, rfl, (HB.out.below f1).mono fun _ _ => trivial⟩
        | 1, hp => simp at hp; subst hp; exact ⟨_, rfl, hb1.mono fun _ _ => trivial⟩
        | i + 2, hp => simp at hp))
    | (go_at_call 217; refine (join_any _ _ [bs, formN u] _ hbl (by rw [show [bs, formN u].flatten = bs ++ formN u by simp, HQ.out]; exact hqb)).mono ?_; rintro r w2 ⟨A2, c2, rfl, ho2, f2⟩; rw [show [bs, formN u].flatten = bs ++ formN u by simp, HQ.out] at ho2; rw [show [bs, formN u].flatten = bs ++ formN u by simp, HQ.out]))
  refine bodyPost_ret (v := .slice A2 q c2) (by simp [results, Tryz.results208, go_sem]) rfl ?_
  have hf : fr w (w1.alloc (.cells #[.slice A n c, .slice A1 m c1] 35)) := fr.alloc f1 _
  exact ⟨_, _, rfl, ho2.mono fun i hi => Nat.le_trans hf.size hi, fr.step hf f2⟩
theorem appInt_any (S : Nat → Prop) (b : Value) (bs : List UInt8) (v : Nat) (w : World) (hb : Byt w S b bs) (hv : v < 9223372036854775808) (hl : bs.length ≤ 1099511627776) :
    Calls Tryz.prog 208 #[b, .int .i64 v] w fun r w' => ∃ A c, r = .returned (.slice A (bs ++ formN (2 * v)).length c) ∧ OwnF w' w.heap.size (.slice A (bs ++ formN (2 * v)).length c) (bs ++ formN (2 * v)) ∧ fr w w' := by
  rcases Nat.lt_or_ge v 4611686018427387904 with h | h
  · exact appInt_low S b bs v w hb h hl
  · exact appInt_big S b bs v w hb hv h hl
end Go.Proofs.YtjnolpfmchnnmaaGreatDoor
end
section
namespace Go.Proofs.YtjnolpfmchnnmaaGreatDoor
set_option maxRecDepth 100000
open Go.RowKit Go.BigFrame Go.Sort Go.Shelf Go.Lib
attribute [local go_sem ↓] Go.wp_at_zero Go.wp_at_succ
theorem appU (base : Nat) (v : Value) (bs : List UInt8) (n : Int) (w : World) (hb : OwnF w base v bs) (hn : numOk n) (hl : bs.length ≤ 1000000) (hbase : base ≤ w.heap.size) :
    Calls Tryz.prog 156 #[v, .int .u64 n] w fun r w' => ∃ A q c, r = .returned (.slice A q c) ∧ OwnF w' base (.slice A q c) (bs ++ formN n.toNat) ∧ fr w w' := by
  have h1 := hn.1
  have h2 := hn.2
  have := appUint_any _ v bs n.toNat w hb.byt (by omega) (by omega)
  rw [show ((n.toNat : Nat) : Int) = n by omega] at this
  refine this.mono ?_
  rintro r w' ⟨A, c, rfl, ho, f⟩
  exact ⟨A, _, c, rfl, ho.mono fun i hi => Nat.le_trans hbase hi, f⟩
theorem appI (base : Nat) (v : Value) (bs : List UInt8) (n : Int) (w : World) (S : Nat → Prop) (hb : Byt w S v bs) (hn : numOk n) (hl : bs.length ≤ 1000000) (hbase : base ≤ w.heap.size) :
    Calls Tryz.prog 208 #[v, .int .i64 n] w fun r w' => ∃ A q c, r = .returned (.slice A q c) ∧ OwnF w' base (.slice A q c) (bs ++ formN (2 * n.toNat)) ∧ fr w w' := by
  have h1 := hn.1
  have h2 := hn.2
  have := appInt_any S v bs n.toNat w hb (by omega) (by omega)
  rw [show ((n.toNat : Nat) : Int) = n by omega] at this
  refine this.mono ?_
  rintro r w' ⟨A, c, rfl, ho, f⟩
  exact ⟨A, _, c, rfl, ho.mono fun i hi => Nat.le_trans hbase hi, f⟩
theorem appB (base : Nat) (v x : Value) (bs xs : List UInt8) (w : World) (S : Nat → Prop) (hb : OwnF w base v bs) (hx : Byt w S x xs) (hl : bs.length ≤ 1000000) (hl2 : xs.length ≤ 1000000) (hbase : base ≤ w.heap.size) :
    Calls Tryz.prog 157 #[v, x] w fun r w' => ∃ A q c, r = .returned (.slice A q c) ∧ OwnF w' base (.slice A q c) (bs ++ (formN xs.length ++ xs)) ∧ fr w w' := by
  refine (appBytes_any _ S v x bs xs w hb.byt hx (by omega) (by omega)).mono ?_
  rintro r w' ⟨A, c, rfl, ho, f⟩
  rw [List.append_assoc] at ho
  refine ⟨A, _, c, by rw [List.append_assoc], ho.mono fun i hi => Nat.le_trans hbase hi, f⟩
theorem boxRowFrW {w w' : World} {b : Nat} {o : Obj} (h : w.heap[b]? = some o) (hf : fr w w') : w'.heap[b]? = some o := (Below.block hf b (Array.getElem?_eq_some_iff.1 h).1).trans h
def numsF (t : Tbl) : Nat → List UInt8
  | 0 => []
  | 1 => formN t.id.toNat
  | 2 => formN t.id.toNat ++ formN t.level.toNat
  | _ => formN t.id.toNat ++ formN t.level.toNat ++ formN t.count.toNat
theorem numsF_len (t : Tbl) (m : Nat) : (numsF t m).length ≤ 30 := by
  have h1 := (formN_len t.id.toNat).2
  have h2 := (formN_len t.level.toNat).2
  have h3 := (formN_len t.count.toNat).2
  unfold numsF
  split <;> (try simp only [List.length_append, List.length_nil]) <;> omega
theorem byt_none (w : World) (S : Nat → Prop) : Byt w S (.slice none 0 0) [] := ⟨none, 0, rfl, by simp, by simp, by simp, Row.nil _ _ _ _⟩
set_option maxRecDepth 100000 in
set_option maxHeartbeats 4000000 in
theorem mwrite_any (S : Nat → Prop) (av dv : Value) (e : Edt) (nx : Int) (w : World) (ha : TabsV w S av e.add) (hd : IntsIn w S dv e.drop) (hok : EditOk e nx) :
    Calls Tryz.prog 140 #[.agg #[av, dv, .int .i64 e.lg, .int .i64 e.sq], .int .i64 nx] w fun r w' => ∃ A q c, r = .returned (.slice A q c) ∧ OwnF w' w.heap.size (.slice A q c) (editF e nx) ∧ fr w w' := by
  obtain ⟨Aa, ca, rfl⟩ := ha.form
  obtain ⟨na, hna⟩ : ∃ n, e.add.length = n := ⟨_, rfl⟩
  obtain ⟨nd, hnd⟩ : ∃ n, e.drop.length = n := ⟨_, rfl⟩
  obtain ⟨Ad, cd, rfl⟩ : ∃ A c, dv = .slice A e.drop.length c := by obtain ⟨A, c, h, _⟩ := hd; exact ⟨A, c, h⟩
  rw [hna] at ha ⊢
  rw [hnd] at hd ⊢
  have HA := Lib.hid ha
  have HD := Lib.hid hd
  have HNA := Lib.hid hna
  have HND := Lib.hid hnd
  have HOK := Lib.hid hok
  have hnd0 : numOk (nd : Int) := ⟨by omega, by have := hok.few; omega⟩
  have hnx0 : 0 ≤ nx := hok.nx.1
  have hnx1 : nx < 9223372036854775808 := hok.nx.2
  have hnd1 : nd ≤ 1024 := by rw [← hnd]; exact hok.few
  have hna1 : na ≤ 1024 := by rw [← hna]; exact hok.fewA
  have HND0 := Lib.hid hnd0
  obtain ⟨z, hz⟩ : ∃ z, w.heap.size = z := ⟨_, rfl⟩
  have hf1 : fr w (w.alloc (.cells #[.slice Aa na ca, .slice Ad nd cd, .int .i64 e.lg, .int .i64 e.sq] 45)) := fr.alloc fr.refl _
  have b0 := heap_alloc_new w (.cells #[.slice Aa na ca, .slice Ad nd cd, .int .i64 e.lg, .int .i64 e.sq] 45)
  have hs1 : z ≤ (w.alloc (.cells #[.slice Aa na ca, .slice Ad nd cd, .int .i64 e.lg, .int .i64 e.sq] 45)).heap.size := by simp; omega
  rw [hz] at b0 ⊢
  have HZ := Lib.hid hz
  have HH : Hid ((headF e nx).length ≤ 40) := Lib.hid (headF_len e nx)
  clear ha hd hna hnd hok hnd0 hz
  go_enter Tryz.func140, Tryz.ntmps140
  go_upto_region 1 with (fail)
  rw [HZ.out]
  generalize w.alloc (.cells #[.slice Aa na ca, .slice Ad nd cd, .int .i64 e.lg, .int .i64 e.sq] 45) = w1 at hf1 b0 hs1 ⊢
  have HF1 := Lib.hid hf1
  have HB := Lib.hid b0
  have c0 := cell_of_row _ _ 0 _ _ _ b0
  have c1 := cell_of_row _ _ 1 _ _ _ b0
  have c2 := cell_of_row _ _ 2 _ _ _ b0
  have c3 := cell_of_row _ _ 3 _ _ _ b0
  clear hf1 b0
  go_upto_region 2 with (go_at_call 208; refine (appI z _ [] e.lg _ (fun _ => True) (byt_none _ _) HOK.out.lg (by simp) hs1).mono ?_; rintro r w2 ⟨A2, q2, k2, rfl, ho2, f2⟩; have d3 := f2.cell c3)
  have hs2 := Nat.le_trans hs1 (Below.size f2)
  have HO2 := Lib.hid ho2
  have HF2 := Lib.hid (fr.step HF1.out f2)
  have d0 := f2.cell c0
  have d1 := f2.cell c1
  clear ho2 c0 c1 c2 c3
  go_upto_region 3 with (go_at_call 208; refine (appI z _ _ e.sq _ _ HO2.out.byt HOK.out.sq (by have := (formN_len (2 * e.lg.toNat)).2; simp; omega) hs2).mono ?_; rintro r w3 ⟨A3, q3, k3, rfl, ho3, f3⟩)
  have hs3 := Nat.le_trans hs2 (Below.size f3)
  have HO3 := Lib.hid ho3
  have HF3 := Lib.hid (fr.step HF2.out f3)
  have e0 := f3.cell d0
  have e1 := f3.cell d1
  clear ho3 d0 d1 d3
  go_upto_region 4 with (go_at_call 156; refine (appU z _ _ nx _ HO3.out HOK.out.nx (by have := (formN_len (2 * e.lg.toNat)).2; have := (formN_len (2 * e.sq.toNat)).2; simp; omega) hs3).mono ?_; rintro r w4 ⟨A4, q4, k4, rfl, ho4, f4⟩; have g1 := f4.cell e1)
  have hs4 := Nat.le_trans hs3 (Below.size f4)
  have HO4 := Lib.hid ho4
  have HF4 := Lib.hid (fr.step HF3.out f4)
  have g0 := f4.cell e0
  clear ho4 e0 e1
  go_upto_region 5 with (go_at_call 156; refine (appU z _ _ (nd : Int) _ HO4.out HND0.out (by have := (formN_len (2 * e.lg.toNat)).2; have := (formN_len (2 * e.sq.toNat)).2; have := (formN_len nx.toNat).2; simp; omega) hs4).mono ?_; rintro r w5 ⟨A5, q5, k5, rfl, ho5, f5⟩; have u1 := f5.cell g1)
  have hs5 := Nat.le_trans hs4 (Below.size f5)
  have ho5' : OwnF w5 z (.slice A5 q5 k5) (headF e nx) := by
    have e1 : (headF e nx) = [] ++ formN (2 * e.lg.toNat) ++ formN (2 * e.sq.toNat) ++ formN nx.toNat ++ formN (nd : Int).toNat := by
      unfold headF
      rw [HND.out]
      simp
    rw [e1]
    exact ho5
  have HO5 := Lib.hid ho5'
  have HF5 := Lib.hid (fr.step HF4.out f5)
  have u0 := f5.cell g0
  have HB5 := Lib.hid (boxRowFrW HB.out (fr.step (fr.step (fr.step f2 f3) f4) f5))
  clear ho5 ho5' g0 g1 f2 f3 f4 f5
  go_wp2_with (fail)
  go_loopw [5, 32] (fun x t wr => ∃ (i : Nat) (A : Option Addr) (q k : Nat), i ≤ nd ∧ t = .int .i64 i ∧ x = .slice A q k ∧ OwnF wr z (.slice A q k) (headF e nx ++ dropsF (e.drop.take i)) ∧ fr w5 wr) (fun _ t _ => nd - (intOf t).toNat)
  case atStart => exact ⟨0, _, _, _, Nat.zero_le _, rfl, rfl, by simpa [dropsF] using HO5.out, fr.refl⟩
  case round =>
    obtain ⟨i, A, q, k, hi, rfl, rfl, ho, hf⟩ := hrel
    have HO := Lib.hid ho
    have HF := Lib.hid hf
    have hsz := Nat.le_trans hs5 (Below.size hf)
    clear ho hf u0 u1
    by_cases hin : i < nd
    · obtain ⟨d, hd⟩ : ∃ d, e.drop[i]? = some d := ⟨_, List.getElem?_eq_getElem (by rw [HND.out]; exact hin)⟩
      have hfw : fr w wr := fr.step HF5.out HF.out
      obtain ⟨A', c', hE, _, _, hr⟩ := HD.out.below hfw
      injection hE with hE1 hE2 hE3
      subst hE1
      clear hE2 hE3
      rw [HND.out] at hr
      obtain ⟨b, o, rfl, _, _, hc⟩ := hr.2 (by omega)
      have x0 : wr.cell? ⟨b, o + i, none⟩ = some (.int .i64 d) := hc i _ (by rw [List.getElem?_map, hd]; rfl)
      have hdn := HOK.out.drop d (List.mem_of_getElem? hd)
      have HDN := Lib.hid hdn
      have hd0 : 0 ≤ d := hdn.1
      have hd1 : d < 9223372036854775808 := hdn.2
      have HSN := Lib.hid (dropsF_snoc hd)
      have HTL := Lib.hid (dropsF_takeLen HOK.out i)
      clear hr hc hd hfw hdn
      go_wp2_with (go_at_call 156; refine (appU z _ _ d _ HO.out HDN.out (by have := HH.out; have := HTL.out; simp; omega) hsz).mono ?_; rintro r w6 ⟨A6, q6, k6, rfl, ho6, f6⟩)
      exact ⟨⟨i + 1, _, _, _, by omega, by go_num, rfl, by rw [HSN.out, ← List.append_assoc]; exact ho6, fr.step HF.out f6⟩, by simp [intOf]; omega⟩
    · obtain rfl : i = nd := by omega
      rw [List.take_of_length_le (by rw [HND.out]; exact Nat.le_refl _)] at HO
      have HBR := Lib.hid (boxRowFrW HB5.out HF.out)
      have v0 := cell_of_row _ _ 0 _ _ _ HBR.out
      have HFR := Lib.hid (fr.step HF5.out HF.out)
      have HDL : Hid ((dropsF e.drop).length ≤ 10240) := Lib.hid (by have := dropsF_takeLen HOK.out e.drop.length; rwa [List.take_length] at this)
      obtain ⟨wb, hwb⟩ : ∃ x, x = wr := ⟨_, rfl⟩
      subst hwb
      go_wp2_with (fail)
      go_loopw [5, 44] (fun x t wx => ∃ (i : Nat) (A : Option Addr) (q k : Nat), i ≤ na ∧ t = .int .i64 i ∧ x = .slice A q k ∧ OwnF wx z (.slice A q k) (headF e nx ++ dropsF e.drop ++ addsF (e.add.take i)) ∧ fr wb wx) (fun _ t _ => na - (intOf t).toNat)
      case atStart => exact ⟨0, _, _, _, Nat.zero_le _, rfl, rfl, by simpa [addsF] using HO.out, fr.refl⟩
      case round =>
        clear v0 HO HF
        obtain ⟨j, A, q, k, hj, rfl, rfl, ho, hf⟩ := hrel
        have HO := Lib.hid ho
        have HF := Lib.hid hf
        have hsz2 := Nat.le_trans hsz (Below.size hf)
        clear ho hf
        by_cases hin2 : j < na
        · obtain ⟨t, hf⟩ : ∃ t, e.add[j]? = some t := ⟨_, List.getElem?_eq_getElem (by rw [HNA.out]; exact hin2)⟩
          obtain ⟨b, o, cs, rfl, hblt, _, ⟨va, vb, rfl, hva, hvb⟩, hc⟩ := Rows.at_ tbFine (Rows.below tbFine HA.out (fr.step HFR.out HF.out)) hf
          obtain ⟨A1, c1, rfl⟩ := slice_form hva
          obtain ⟨A2, c2, rfl⟩ := slice_form hvb
          have x0 : wr.cell? ⟨b, o + j * 5, none⟩ = _ := hc 0 _ rfl
          have x1 : wr.cell? ⟨b, o + j * 5 + 1, none⟩ = _ := hc 1 _ rfl
          have x2 : wr.cell? ⟨b, o + j * 5 + 2, none⟩ = _ := hc 2 _ rfl
          have x3 : wr.cell? ⟨b, o + j * 5 + 3, none⟩ = _ := hc 3 _ rfl
          have x4 : wr.cell? ⟨b, o + j * 5 + 4, none⟩ = _ := hc 4 _ rfl
          have HTO := Lib.hid (HOK.out.add t (List.mem_of_getElem? hf))
          have HSN := Lib.hid (addsF_snoc hf)
          have HAL : Hid ((addsF (e.add.take j)).length ≤ 460800) := Lib.hid (addsF_takeLen HOK.out j)
          have HVA := Lib.hid hva
          have HVB := Lib.hid hvb
          clear hf hc hva hvb
          obtain ⟨wc, hwc⟩ : ∃ x, x = wr := ⟨_, rfl⟩
          subst hwc
          go_upto_region 13 with (fail)
          have pT := heap_alloc_new wc (.cells #[.int .i64 t.id, .int .i64 t.level, .int .i64 t.count, .slice A1 t.lo.length c1, .slice A2 t.hi.length c2] 57)
          have HAL3 : Hid (fr wc (wc.alloc (.cells #[.int .i64 t.id, .int .i64 t.level, .int .i64 t.count, .slice A1 t.lo.length c1, .slice A2 t.hi.length c2] 57))) := Lib.hid (fr.alloc fr.refl _)
          have hs3 : z ≤ (wc.alloc (.cells #[.int .i64 t.id, .int .i64 t.level, .int .i64 t.count, .slice A1 t.lo.length c1, .slice A2 t.hi.length c2] 57)).heap.size := by simp; omega
          generalize wc.alloc (.cells #[.int .i64 t.id, .int .i64 t.level, .int .i64 t.count, .slice A1 t.lo.length c1, .slice A2 t.hi.length c2] 57) = w7 at pT HAL3 hs3 ⊢
          have HPT := Lib.hid pT
          have y0 := cell_of_row _ _ 0 _ _ _ pT
          have y1 := cell_of_row _ _ 1 _ _ _ pT
          have y2 := cell_of_row _ _ 2 _ _ _ pT
          clear pT x0 x1 x2 x3 x4
          go_upto_region 14 with (fail)
          have pN := heap_alloc_new w7 (.cells #[.int .i64 t.id, .int .i64 t.level, .int .i64 t.count] 3)
          have hal8 : fr w7 (w7.alloc (.cells #[.int .i64 t.id, .int .i64 t.level, .int .i64 t.count] 3)) := fr.alloc fr.refl _
          obtain ⟨tn, htn⟩ : ∃ g, w7.heap.size = g := ⟨_, rfl⟩
          rw [htn] at pN ⊢
          generalize w7.alloc (.cells #[.int .i64 t.id, .int .i64 t.level, .int .i64 t.count] 3) = w8 at pN hal8 ⊢
          have HPN := Lib.hid pN
          have HF8 := Lib.hid (fr.step HAL3.out hal8)
          have HPT8 := Lib.hid (boxRowFrW HPT.out hal8)
          have hs8 := Nat.le_trans hs3 (Below.size hal8)
          have HTN := Lib.hid htn
          have HOP := Lib.hid (HO.out.below HF8.out)
          obtain ⟨tb, htb⟩ : ∃ g, wc.heap.size = g := ⟨_, rfl⟩
          rw [htb] at HPT8 ⊢
          have hid0 : 0 ≤ t.id := HTO.out.id.1
          have hid1 : t.id < 9223372036854775808 := HTO.out.id.2
          have hlv0 : 0 ≤ t.level := HTO.out.level.1
          have hlv1 : t.level < 9223372036854775808 := HTO.out.level.2
          have hct0 : 0 ≤ t.count := HTO.out.count.1
          have hct1 : t.count < 9223372036854775808 := HTO.out.count.2
          have HTB := Lib.hid htb
          clear pN hal8 htn htb y0 y1 y2 HPT
          go_loopw [5, 56] (fun x u wx => ∃ (m : Nat) (A : Option Addr) (q k : Nat), m ≤ 3 ∧ u = .int .i64 m ∧ x = .slice A q k ∧ OwnF wx z (.slice A q k) (headF e nx ++ dropsF e.drop ++ addsF (e.add.take j) ++ numsF t m) ∧ fr w8 wx) (fun _ u _ => 3 - (intOf u).toNat)
          case atStart => exact ⟨0, _, _, _, Nat.zero_le _, rfl, rfl, by simpa [numsF] using HOP.out, fr.refl⟩
          case round =>
            obtain ⟨m, A, q, k, hm, rfl, rfl, ho, hf⟩ := hrel
            have HO9 := Lib.hid ho
            have HF9 := Lib.hid hf
            have hs9 := Nat.le_trans hs8 (Below.size hf)
            have pN := boxRowFrW HPN.out hf
            have n0 := cell_of_row _ _ 0 _ _ _ pN
            have n1 := cell_of_row _ _ 1 _ _ _ pN
            have n2 := cell_of_row _ _ 2 _ _ _ pN
            have HLM := Lib.hid (numsF_len t m)
            have HLN : Hid ((headF e nx ++ dropsF e.drop ++ addsF (e.add.take j) ++ numsF t m).length ≤ 500000) := Lib.hid (by have h1 := HH.out; have h2 := HDL.out; have h3 := HAL.out; have h4 := HLM.out; simp only [List.length_append]; omega)
            clear ho hf pN
            rcases (by omega : m = 0 ∨ m = 1 ∨ m = 2 ∨ m = 3) with rfl | rfl | rfl | rfl
            · clear hm
              go_wp2_with (go_at_call 156; refine (appU z _ _ t.id _ HO9.out HTO.out.id (Nat.le_trans HLN.out (by decide)) hs9).mono ?_; rintro r w10 ⟨A10, q10, k10, rfl, ho10, f10⟩)
              exact ⟨⟨1, _, _, _, by omega, by go_num, rfl, by simpa [numsF] using ho10, fr.step HF9.out f10⟩, by simp [intOf]⟩
            · clear hm
              go_wp2_with (go_at_call 156; refine (appU z _ _ t.level _ HO9.out HTO.out.level (Nat.le_trans HLN.out (by decide)) hs9).mono ?_; rintro r w10 ⟨A10, q10, k10, rfl, ho10, f10⟩)
              exact ⟨⟨2, _, _, _, by omega, by go_num, rfl, by simpa [numsF] using ho10, fr.step HF9.out f10⟩, by simp [intOf]⟩
            · clear hm
              go_wp2_with (go_at_call 156; refine (appU z _ _ t.count _ HO9.out HTO.out.count (Nat.le_trans HLN.out (by decide)) hs9).mono ?_; rintro r w10 ⟨A10, q10, k10, rfl, ho10, f10⟩)
              exact ⟨⟨3, _, _, _, by omega, by go_num, rfl, by simpa [numsF] using ho10, fr.step HF9.out f10⟩, by simp [intOf]⟩
            · have pT := boxRowFrW HPT8.out HF9.out
              have y3 := cell_of_row _ _ 3 _ _ _ pT
              have y4 := cell_of_row _ _ 4 _ _ _ pT
              have HFC := Lib.hid (fr.step HF8.out HF9.out)
              clear hm n0 n1 n2 pT
              go_upto_region 18 with (fail)
              have HV1 := Lib.hid (HVA.out.below HFC.out)
              have HV2 := Lib.hid (HVB.out.below HFC.out)
              have HDW : Hid (fr wr wr.drew) := Lib.hid (fr.drew fr.refl)
              have HA1 := Lib.hid (appB z _ _ _ _ wr.drew _ (HO9.out.below HDW.out) (HV1.out.below HDW.out) (Nat.le_trans HLN.out (by decide)) (by have := HTO.out.lo.2; omega) hs9)
              have HA2 : Hid (∀ A q k wx, OwnF wx z (.slice A q k) (headF e nx ++ dropsF e.drop ++ addsF (e.add.take j) ++ numsF t 3 ++ (formN t.lo.length ++ t.lo)) → fr wr.drew wx → Calls Tryz.prog 157 #[.slice A q k, .slice A2 t.hi.length c2] wx fun r w' => ∃ A q c, r = .returned (.slice A q c) ∧ OwnF w' z (.slice A q c) (headF e nx ++ dropsF e.drop ++ addsF (e.add.take j) ++ numsF t 3 ++ (formN t.lo.length ++ t.lo) ++ (formN t.hi.length ++ t.hi)) ∧ fr wx w') := Lib.hid fun A q k wx hox hfx =>
                appB z _ _ _ _ wx _ hox ((HV2.out.below HDW.out).below hfx) (by have h1 := HLN.out; have h2 := (formN_len t.lo.length).2; have h3 := HTO.out.lo.2; simp only [List.length_append] at h1 ⊢; omega) (by have := HTO.out.hi.2; omega) (by have := Below.size hfx; exact Nat.le_trans hs9 this)
              go_region_held3 (fun w' => w'.cell? ⟨tb, 3, none⟩ = some (.slice A1 t.lo.length c1) ∧ w'.cell? ⟨tb, 4, none⟩ = some (.slice A2 t.hi.length c2))
                (first
                  | exact ⟨fr.cell f12 (fr.cell f11 (fr.cell HDW.out y3)), fr.cell f12 (fr.cell f11 (fr.cell HDW.out y4))⟩
                  | exact ⟨fr.cell f11 (fr.cell HDW.out y3), fr.cell f11 (fr.cell HDW.out y4)⟩
                  | exact ⟨fr.cell HDW.out y3, fr.cell HDW.out y4⟩)
                (first
                  | (go_at_call 157; (with_reducible refine Calls.mono (HA2.out _ _ _ _ ho11 f11) ?_); rintro r w12 ⟨A12, q12, k12, rfl, ho12, f12⟩)
                  | (go_at_call 157; (with_reducible refine Calls.mono HA1.out ?_); rintro r w11 ⟨A11, q11, k11, rfl, ho11, f11⟩))
              go_wp2
              refine ⟨⟨j + 1, _, _, _, by omega, by go_num, rfl, ?_, fr.step HF.out (fr.step HFC.out (fr.step HDW.out (fr.step f11 f12)))⟩, by simp [intOf]; omega⟩
              have e1 : headF e nx ++ dropsF e.drop ++ addsF (e.add.take (j + 1)) = headF e nx ++ dropsF e.drop ++ addsF (e.add.take j) ++ numsF t 3 ++ (formN t.lo.length ++ t.lo) ++ (formN t.hi.length ++ t.hi) := by
                rw [HSN.out]
                unfold tabF numsF
                simp only [List.append_assoc]
              rw [e1]
              exact ho12
        · obtain rfl : j = na := by omega
          rw [List.take_of_length_le (by rw [HNA.out]; exact Nat.le_refl _)] at HO
          go_wp2
          go_ret
          refine ⟨_, _, _, rfl, ?_, fr.step HFR.out HF.out⟩
          have e1 : editF e nx = headF e nx ++ dropsF e.drop ++ addsF e.add := by unfold editF; rw [List.append_assoc]
          rw [e1]
          exact HO.out
end Go.Proofs.YtjnolpfmchnnmaaGreatDoor
end
section
namespace Go.Proofs.YtjnolpfmchnnmaaGreatDoor
set_option maxRecDepth 100000
open Go.RowKit Go.BigFrame Go.Sort Go.Shelf Go.Lib
attribute [local go_sem ↓] Go.wp_at_zero Go.wp_at_succ
def ManR (w : World) (M p : Nat) (x : Value) (v : Ver) (num : Nat) : Prop :=
  w.heap[M]? = some (.cells #[.pointer (some ⟨p, 0, none⟩), x, .int .i64 v.lg, .int .i64 v.sq, .int .i64 v.nx, .int .i64 num] 139 (0, 0))
theorem ManR.lt {w : World} {M p num : Nat} {x : Value} {v : Ver} (h : ManR w M p x v num) : M < w.heap.size := (Array.getElem?_eq_some_iff.1 h).1
theorem ManR.only {w w' : World} {M p num : Nat} {x : Value} {v : Ver} {S : Nat → Prop} (h : ManR w M p x v num) (ho : Only S w w') (hS : ¬ S M) : ManR w' M p x v num := (ho.block M h.lt hS).trans h
theorem ManR.below {w w' : World} {M p num : Nat} {x : Value} {v : Ver} (h : ManR w M p x v num) (hf : fr w w') : ManR w' M p x v num := (Below.block hf M h.lt).trans h
theorem ManR.cells {w : World} {M p num : Nat} {x : Value} {v : Ver} (h : ManR w M p x v num) : w.cell? ⟨M, 0, none⟩ = some (.pointer (some ⟨p, 0, none⟩)) ∧ w.cell? ⟨M, 1, none⟩ = some x ∧ w.cell? ⟨M, 2, none⟩ = some (.int .i64 v.lg) ∧ w.cell? ⟨M, 3, none⟩ = some (.int .i64 v.sq) ∧ w.cell? ⟨M, 4, none⟩ = some (.int .i64 v.nx) ∧ w.cell? ⟨M, 5, none⟩ = some (.int .i64 num) :=
  ⟨cell_of_row _ _ 0 _ _ _ h, cell_of_row _ _ 1 _ _ _ h, cell_of_row _ _ 2 _ _ _ h, cell_of_row _ _ 3 _ _ _ h, cell_of_row _ _ 4 _ _ _ h, cell_of_row _ _ 5 _ _ _ h⟩
set_option maxRecDepth 100000 in
set_option maxHeartbeats 4000000 in
theorem mput_any (S F : Nat → Prop) (M p num dn : Nat) (D : Nm → Option (List UInt8)) (x av dv : Value) (v : Ver) (e : Edt) (nx : Int) (w : World) (hm : ManR w M p x v num) (hk : DkC w F p dn D) (ht : TabW w) (ha : TabsV w S av e.add) (hd : IntsIn w S dv e.drop) (hok : EditOk e nx)
    (hnum : num < 1000000) (hdn : dn ≤ 1000000) (hl : ((D (nameM num)).getD []).length ≤ 1099511627776) :
    Calls Tryz.prog 83 #[.pointer (some ⟨M, 0, none⟩), .agg #[av, dv, .int .i64 e.lg, .int .i64 e.sq], .int .i64 nx] w fun r w' => r = .returned (.int .i64 0) ∧ (∃ F', Spread w.heap.size F F' ∧ DkC w' F' p (dn + 1) (putD D (nameM num) ((D (nameM num)).getD [] ++ putF (editF e nx)))) ∧ Only F w w' := by
  obtain ⟨Aa, ca, rfl⟩ := ha.form
  obtain ⟨Ad, cd, rfl⟩ : ∃ A c, dv = .slice A e.drop.length c := by obtain ⟨A, c, h, _⟩ := hd; exact ⟨A, c, h⟩
  obtain ⟨na, hna⟩ : ∃ n, e.add.length = n := ⟨_, rfl⟩
  obtain ⟨nd, hnd⟩ : ∃ n, e.drop.length = n := ⟨_, rfl⟩
  rw [hna] at ha ⊢
  rw [hnd] at hd ⊢
  have hel := editF_len hok
  have HW := Lib.hid fun wx (hx : fr w wx) => mwrite_any S (.slice Aa na ca) (.slice Ad nd cd) e nx wx (ha.below tbFine hx) (hd.below hx) hok
  have HM := Lib.hid hm
  have HK := Lib.hid hk
  have HT := Lib.hid ht
  have HLN := Lib.hid hl
  have HEL := Lib.hid hel
  obtain ⟨n8, hn8⟩ : ∃ q, (editF e nx).length + 8 = q := ⟨_, rfl⟩
  have HN8 := Lib.hid hn8
  have hf1 : fr w (w.alloc (.cells #[.slice Aa na ca, .slice Ad nd cd, .int .i64 e.lg, .int .i64 e.sq] 45)) := fr.alloc fr.refl _
  have b0 := heap_alloc_new w (.cells #[.slice Aa na ca, .slice Ad nd cd, .int .i64 e.lg, .int .i64 e.sq] 45)
  clear ha hd hok hm hk ht hl hna hnd hel hn8
  go_enter Tryz.func83, Tryz.ntmps83
  go_upto_region 1 with (fail)
  generalize w.alloc (.cells #[.slice Aa na ca, .slice Ad nd cd, .int .i64 e.lg, .int .i64 e.sq] 45) = w1 at hf1 b0 ⊢
  have c0 := cell_of_row _ _ 0 _ _ _ b0
  have c1 := cell_of_row _ _ 1 _ _ _ b0
  have c2 := cell_of_row _ _ 2 _ _ _ b0
  have c3 := cell_of_row _ _ 3 _ _ _ b0
  have HF1 := Lib.hid hf1
  clear hf1
  go_upto_region 4 with (first
    | (go_at_call 140; refine (HW.out _ HF1.out).mono ?_; rintro r w2 ⟨A2, q2, k2, rfl, ho2, f2⟩)
    | (go_at_call 73; refine (fput_any _ _ _ _ ho2.byt).mono ?_; rintro r w3 ⟨hp1, _, f3⟩; obtain ⟨A3, c3', rfl, hown⟩ := hp1 (by have := HEL.out; omega); rw [HN8.out] at hown; rw [HN8.out]))
  have HO3 := Lib.hid hown
  have HF3 := Lib.hid (fr.step HF1.out (fr.step f2 f3))
  have HZ2 : Hid (w.heap.size ≤ w2.heap.size) := Lib.hid (Below.size (fr.step HF1.out f2))
  clear ho2 hp1 hown c0 c1 c2 c3 b0 f2 f3
  obtain ⟨e0, e1, e2, e3, e4, e5⟩ := (HM.out.below HF3.out).cells
  obtain ⟨X, hX⟩ : ∃ X : ByteArray, (⟨(nameM num).toArray⟩ : ByteArray) = X := ⟨_, rfl⟩
  have HFI : Hid (∀ wx, fr w3 wx → Calls Tryz.prog 84 #[.int .i64 num] wx fun r w' => r = .returned (.string X) ∧ Below wx.heap.size wx w') := Lib.hid fun wx hx => by
    rw [← hX]
    exact mfile_any num wx (HT.out.below (fr.step HF3.out hx)) hnum
  have HAP : Hid (∀ wx, fr w3 wx → Calls Tryz.prog 35 #[.pointer (some ⟨p, 0, none⟩), .string X, .slice A3 n8 c3'] wx fun r w' => r = .returned (.int .i64 0) ∧ (∃ F', Spread wx.heap.size F F' ∧ DkC w' F' p (dn + 1) (putD D (nameM num) ((D (nameM num)).getD [] ++ putF (editF e nx)))) ∧ Only F wx w') := Lib.hid fun wx hx => by
    have hl := HLN.out
    have he := HEL.out
    rw [← hX]
    exact cappend (fun i => w.heap.size ≤ i) _ _ ((HK.out.below HF3.out).below hx) (HT.out.below (fr.step HF3.out hx)) (nameB_M num) (((HO3.out.byt).mono fun i hi => Nat.le_trans HZ2.out hi.1).below hx) (fun i hi hf => by have := (HK.out.lies i hf).1; omega) (by rw [putF_len]; omega) (by omega)
  clear hX
  have q0 := fun q : Ext w3 => q.cell e0
  have q5 := fun q : Ext w3 => q.cell e5
  (refine wp_region_ext_tail 10 (by kernel_rfl) (by kernel_rfl) ?_; simp only [List.take_succ_cons, List.take_zero, List.drop_succ_cons, List.drop_zero]; (repeat (go_big_quiet_step ((go_at_call 84; exact Ext.calls (HFI.out _ (Ext.h _)))))); refine wpQuiet_nil ?_; intro wq hw'; obtain ⟨⟨_, hq⟩, hw''⟩ := hw'; subst hw'')
  clear q0 q5 e0 e1 e2 e3 e4 e5
  go_wp2_with (go_at_call 35; refine (HAP.out _ hq).mono ?_; rintro r w5 ⟨rfl, ⟨F', hsp, hk5⟩, ho5⟩)
  go_ret
  exact ⟨rfl, ⟨F', hsp.low (Below.size (fr.step HF3.out hq)), hk5⟩, (Only.of_below (fr.step HF3.out hq)).trans ho5⟩
end Go.Proofs.YtjnolpfmchnnmaaGreatDoor
end
section
namespace Go.Proofs.YtjnolpfmchnnmaaGreatDoor
set_option maxRecDepth 100000
open Go.RowKit Go.BigFrame Go.Sort Go.Shelf Go.Lib
attribute [local go_sem ↓] Go.wp_at_zero Go.wp_at_succ
theorem ownC_empty (w : World) (base : Nat) (hb : base ≤ w.heap.size) : OwnC (w.alloc (.cells #[] 57)) base (.slice (some ⟨w.heap.size, 0, none⟩) 0 0) 0 [] :=
  ⟨rfl, .inr ⟨w.heap.size, 0, #[], rfl, hb, heap_alloc_new w _, Nat.le_refl _, Nat.zero_le _, rfl, by simp⟩⟩
set_option maxRecDepth 100000 in
set_option maxHeartbeats 1000000 in
theorem cloneT_any (S : Nat → Prop) (A : Option Addr) (n c : Nat) (cs : List Value) (w : World) (h : Row w S A n 5 cs) (h1 : ∀ u ∈ cs, u.oneCell' = true) (hb : n * 72 ≤ 140737488355328) :
    Calls Tryz.prog 141 #[.slice A n c] w fun r w' => ∃ A' c', r = .returned (.slice A' n c') ∧ OwnC w' w.heap.size (.slice A' n c') n cs ∧ fr w w' := by
  have H := Lib.hid h
  have H1 := Lib.hid h1
  have q22 : ∀ (w : World) (a : Option Addr) (n c n' c' : Nat), (binOp .eql 43 (.slice a n c) (.slice none n' c')).run Tryz.prog w = .ok (.bool a.isNone) w := fun w a n c n' c' => Lib.run_eql_slice_nil w _ _ a n c n' c' Tryz.underlying43
  cases A with
  | none =>
    have hn0 : n = 0 := by
      rcases Nat.eq_zero_or_pos n with h0 | h0
      · exact h0
      · obtain ⟨b, o, e, _⟩ := h.2 h0; cases e
    subst hn0
    have hcs : Hid (cs = []) := Lib.hid (List.eq_nil_of_length_eq_zero (by simpa using h.1))
    clear h h1
    go_enter Tryz.func141, Tryz.ntmps141
    go_wp2
    refine bodyPost_ret (v := .slice none 0 0) (by simp [results, Tryz.results141, go_sem]) rfl ?_
    exact ⟨_, _, rfl, by rw [hcs.out]; exact World.ownsRow_nil _ _ _ _, fr.refl⟩
  | some ad =>
    clear h h1
    have hal : fr w (w.alloc (.cells #[] 57)) := fr.alloc fr.refl _
    have HE := Lib.hid (ownC_empty w w.heap.size (Nat.le_refl _))
    have hz : w.heap.size ≤ (w.alloc (.cells #[] 57)).heap.size := by simp
    go_enter Tryz.func141, Tryz.ntmps141
    go_wp2_with (at_builtin; refine wpList_append_rowT rfl _ _ rfl w.heap.size _ 0 [] rfl HE.out S (some ad) n c cs rfl (H.out.below hal) H1.out (by omega) hz ?_; intro v5 w5 hown5 hgrow5)
    rw [Nat.zero_add, List.nil_append] at hown5
    obtain ⟨A5, c5, rfl⟩ := own_form hown5
    refine bodyPost_ret (v := .slice A5 n c5) (by simp [results, Tryz.results141, go_sem]) rfl ?_
    refine ⟨_, _, rfl, hown5, RowKit.Below.grown (B := w.heap.size) hal hgrow5 (by simp) fun j e => ?_⟩
    have h5 : w.heap.size = j := Option.some.inj e
    omega
theorem flat_set2 {css : List (List Value)} (h : ∀ cs ∈ css, cs.length = 5) {i : Nat} {x0 x1 x2 x3 x4 : Value} (d e : Value) (hi : css[i]? = some [x0, x1, x2, x3, x4]) :
    ((css.flatten.set (i * 5 + 3) d).set (i * 5 + 4) e) = (css.set i [x0, x1, x2, d, e]).flatten := by
  induction css generalizing i with
  | nil => simp at hi
  | cons cs r ih =>
    have h5 := h cs List.mem_cons_self
    match cs, h5 with
    | [p0, p1, p2, p3, p4], _ =>
      cases i with
      | zero =>
        simp only [List.getElem?_cons_zero, Option.some.injEq, List.cons.injEq, and_true] at hi
        obtain ⟨rfl, rfl, rfl, rfl, rfl⟩ := hi
        simp
      | succ i =>
        have := ih (fun c hc => h c (List.mem_cons_of_mem _ hc)) (i := i) (by simpa using hi)
        rw [List.set_cons_succ, List.flatten_cons, List.flatten_cons, ← this]
        have e0 : (i + 1) * 5 = i * 5 + 5 := by omega
        rw [e0]
        rfl
theorem table_box2 {wL wH : World} {x o1 o2 l1 l2 kL kH : Nat} {AL AH : Option Addr} {t : Tbl} (hL : BytL wL l1 (.slice AL t.lo.length kL) t.lo) (hH : BytL wH l2 (.slice AH t.hi.length kH) t.hi) (g : fr wL wH) (h1 : x < l1) (h2 : x < l2) (b : Nat) (hb1 : b ≤ l1) (hb2 : b ≤ l2) (n c : Nat) :
    tbR ((wH.setCell ⟨x, o1, none⟩ (.slice AL t.lo.length kL)).setCell ⟨x, o2, none⟩ (.slice AH t.hi.length kH)) (freshL ((wH.setCell ⟨x, o1, none⟩ (.slice AL t.lo.length kL)).setCell ⟨x, o2, none⟩ (.slice AH t.hi.length kH)) b (.slice (some ⟨x, 0, none⟩) n c)) t [.int .i64 t.id, .int .i64 t.level, .int .i64 t.count, .slice AL t.lo.length kL, .slice AH t.hi.length kH] := by
  have ha : Only (fun i => i = x) wH ((wH.setCell ⟨x, o1, none⟩ (.slice AL t.lo.length kL)).setCell ⟨x, o2, none⟩ (.slice AH t.hi.length kH)) := (only_set _ _ _ _).trans (only_set _ _ _ _)
  have r1 : BytL _ _ (.slice AL t.lo.length kL) t.lo := BytL.only hL ((Only.of_below g).trans ha) (fun i hi _ e => by omega)
  have r2 : BytL _ _ (.slice AH t.hi.length kH) t.hi := BytL.only hH ha (fun i hi _ e => by omega)
  refine ⟨_, _, rfl, Byt.mono r1 fun i hi => ⟨Nat.le_trans hb1 hi.1, fun e => ?_, hi.2⟩, Byt.mono r2 fun i hi => ⟨Nat.le_trans hb2 hi.1, fun e => ?_, hi.2⟩⟩
  · have h5 : x = i := Option.some.inj e
    have := hi.1; omega
  · have h5 : x = i := Option.some.inj e
    have := hi.1; omega
structure CloneI (wr : World) (base g n c i : Nat) (ts : List Tbl) (css0 css : List (List Value)) : Prop where
  own : OwnC wr base (.slice (some ⟨g, 0, none⟩) n c) n css.flatten
  all : ∀ cs ∈ css, cs.length = 5
  old : css.drop i = css0.drop i
  new : All2 (tbR wr (freshL wr base (.slice (some ⟨g, 0, none⟩) n c))) (ts.take i) (css.take i)
theorem CloneI.step {wr wL wH : World} {base g n c i l1 l2 kL kH c1 c2 : Nat} {AL AH A1 A2 : Option Addr} {ts : List Tbl} {css0 css : List (List Value)} {t : Tbl} (h : CloneI wr base g n c i ts css0 css) (ht : ts[i]? = some t)
    (hc : css[i]? = some [.int .i64 t.id, .int .i64 t.level, .int .i64 t.count, .slice A1 t.lo.length c1, .slice A2 t.hi.length c2]) (f1 : fr wr wL) (g1 : fr wL wH) (hL : BytL wL l1 (.slice AL t.lo.length kL) t.lo) (hH : BytL wH l2 (.slice AH t.hi.length kH) t.hi) (h1 : wr.heap.size ≤ l1) (h2 : wr.heap.size ≤ l2) (hb : base ≤ wr.heap.size) :
    CloneI ((wH.setCell ⟨g, i * 5 + 3, none⟩ (.slice AL t.lo.length kL)).setCell ⟨g, i * 5 + 4, none⟩ (.slice AH t.hi.length kH)) base g n c (i + 1) ts css0 (css.set i [.int .i64 t.id, .int .i64 t.level, .int .i64 t.count, .slice AL t.lo.length kL, .slice AH t.hi.length kH]) := by
  have hg : g < wr.heap.size := (h.own.lt g rfl).2
  have hi := (List.getElem?_eq_some_iff.1 hc).1
  have f2 : fr wr wH := fr.step f1 g1
  have hx := table_box2 (o1 := i * 5 + 3) (o2 := i * 5 + 4) hL hH g1 (x := g) (by omega) (by omega) base (by omega) (by omega) n c
  have ho : Only (fun i => i = g) wH ((wH.setCell ⟨g, i * 5 + 3, none⟩ (.slice AL t.lo.length kL)).setCell ⟨g, i * 5 + 4, none⟩ (.slice AH t.hi.length kH)) := (only_set _ _ _ _).trans (only_set _ _ _ _)
  have hown : OwnC ((wH.setCell ⟨g, i * 5 + 3, none⟩ (.slice AL t.lo.length kL)).setCell ⟨g, i * 5 + 4, none⟩ (.slice AH t.hi.length kH)) base (.slice (some ⟨g, 0, none⟩) n c) n (css.set i [.int .i64 t.id, .int .i64 t.level, .int .i64 t.count, .slice AL t.lo.length kL, .slice AH t.hi.length kH]).flatten := by
    rw [← flat_set2 h.all _ _ hc]
    exact (((own_below h.own f2).stored _ _).1.stored _ _).1
  generalize (wH.setCell ⟨g, i * 5 + 3, none⟩ (.slice AL t.lo.length kL)).setCell ⟨g, i * 5 + 4, none⟩ (.slice AH t.hi.length kH) = W at hx ho hown ⊢
  refine ⟨hown, fun cs hm => ?_, ?_, ?_⟩
  · rcases List.mem_or_eq_of_mem_set hm with h' | h'
    · exact h.all _ h'
    · rw [h']; rfl
  · rw [List.drop_set_of_lt (by omega), ← List.drop_drop, ← List.drop_drop, h.old]
  · have e1 : (css.set i [.int .i64 t.id, .int .i64 t.level, .int .i64 t.count, .slice AL t.lo.length kL, .slice AH t.hi.length kH]).take (i + 1) = css.take i ++ [[.int .i64 t.id, .int .i64 t.level, .int .i64 t.count, .slice AL t.lo.length kL, .slice AH t.hi.length kH]] := by
      rw [take_snoc (e := [.int .i64 t.id, .int .i64 t.level, .int .i64 t.count, .slice AL t.lo.length kL, .slice AH t.hi.length kH]) (by rw [List.getElem?_set_self hi]), List.take_set_of_le (Nat.le_refl _)]
    rw [e1, take_snoc ht]
    refine all2_app (h.new.imp fun _ _ hz => tbFine.keep hz fun _ _ _ _ hr => ?_) (.cons hx .nil)
    exact ((hr.below f2).only ho fun j _ hj e => hj.2.1 (by rw [e]; rfl)).mono fun j hj => ⟨hj.1, hj.2.1, (hj.2.2.below f2).only ho fun e => hj.2.1 (by rw [e]; rfl)⟩
set_option maxRecDepth 100000 in
set_option maxHeartbeats 2000000 in
theorem mclone_any (S : Nat → Prop) (v : Value) (ts : List Tbl) (lg sq nx : Int) (w : World) (h : TabsV w S v ts) :
    Calls Tryz.prog 85 #[.agg #[v, .int .i64 lg, .int .i64 sq, .int .i64 nx]] w fun r w' => ∃ x, r = .returned (.agg #[x, .int .i64 lg, .int .i64 sq, .int .i64 nx]) ∧ OwnTabs w' w.heap.size x ts ∧ fr w w' := by
  obtain ⟨A, c, css0, rfl, hc1, hc2, hc3, hrow, hall⟩ := h
  obtain ⟨n, hn⟩ : ∃ n, ts.length = n := ⟨_, rfl⟩
  rw [hn] at hc1 hc3 hrow ⊢
  have HN := Lib.hid hn
  have hf1 : fr w ((w.alloc (.cells #[.slice A n c, .int .i64 lg, .int .i64 sq, .int .i64 nx] 50)).alloc (.cells #[.slice none 0 0, .int .i64 0, .int .i64 0, .int .i64 0] 50)) := fr.alloc (fr.alloc fr.refl _) _
  have b0 : ((w.alloc (.cells #[.slice A n c, .int .i64 lg, .int .i64 sq, .int .i64 nx] 50)).alloc (.cells #[.slice none 0 0, .int .i64 0, .int .i64 0, .int .i64 0] 50)).heap[w.heap.size]? = some (.cells #[.slice A n c, .int .i64 lg, .int .i64 sq, .int .i64 nx] 50 (0, 0)) := (Below.heap_alloc _ _ _ (by simp)).trans (heap_alloc_new w _)
  have b1 : ((w.alloc (.cells #[.slice A n c, .int .i64 lg, .int .i64 sq, .int .i64 nx] 50)).alloc (.cells #[.slice none 0 0, .int .i64 0, .int .i64 0, .int .i64 0] 50)).heap[w.heap.size + 1]? = some (.cells #[.slice none 0 0, .int .i64 0, .int .i64 0, .int .i64 0] 50 (0, 0)) := heap_at_new _ trivial (by simp)
  have hs1 : ((w.alloc (.cells #[.slice A n c, .int .i64 lg, .int .i64 sq, .int .i64 nx] 50)).alloc (.cells #[.slice none 0 0, .int .i64 0, .int .i64 0, .int .i64 0] 50)).heap.size = w.heap.size + 2 := by simp
  have HALL := Lib.hid hall
  have HROW := Lib.hid hrow
  have HONE := Lib.hid (tb_one hall)
  have HC := Lib.hid fun wx (hx : fr w wx) => cloneT_any S A n c css0.flatten wx (HROW.out.below hx) HONE.out hc3
  clear hall hrow hn
  go_enter Tryz.func85, Tryz.ntmps85
  go_upto_region 1 with (fail)
  obtain ⟨z, hz⟩ : ∃ z, w.heap.size = z := ⟨_, rfl⟩
  have HZ := Lib.hid hz
  rw [hz] at b0 b1 hs1 ⊢
  generalize (w.alloc (.cells #[.slice A n c, .int .i64 lg, .int .i64 sq, .int .i64 nx] 50)).alloc (.cells #[.slice none 0 0, .int .i64 0, .int .i64 0, .int .i64 0] 50) = w1 at hf1 b0 b1 hs1 ⊢
  have a0 := cell_of_row _ _ 0 _ _ _ b0
  have HF1 := Lib.hid hf1
  have HB0 := Lib.hid b0
  have HB1 := Lib.hid b1
  clear hf1 b0 b1 hz
  go_upto_region 2 with (go_at_call 141; refine (HC.out _ HF1.out).mono ?_; rintro r w2 ⟨A', c', rfl, ho2, f2⟩)
  have HO2 := Lib.hid ho2
  have HF2 := Lib.hid f2
  clear ho2 f2 a0
  go_wp2_with (fail)
  rcases Nat.eq_zero_or_pos n with h0 | h0
  · subst h0
    have hts : ts = [] := List.eq_nil_of_length_eq_zero HN.out
    subst hts
    go_loopw [10] (fun t wr => t = .int .i64 0 ∧ wr = w2) (fun _ _ => 0)
    case atStart => exact ⟨rfl, rfl⟩
    case round =>
      obtain ⟨rfl, rfl⟩ := hrel
      clear hc1 hc2 hc3
      have b0 := boxRowFr HB0.out HF2.out
      have b1 := boxRowFr HB1.out HF2.out
      have z0 := frozen_of_row _ _ 0 _ _ b0
      have e0 := cell_of_row _ _ 0 _ _ _ b0
      have b2 : (wr.setCell ⟨z, 0, none⟩ (.slice A' 0 c')).heap[z]? = some (.cells #[(.slice A' 0 c'), .int .i64 lg, .int .i64 sq, .int .i64 nx] 50 (0, 0)) := heap_setCell_same wr z 0 _ _ _ b0
      have e1 := cell_of_row _ _ 0 _ _ _ b2
      have e2 := cell_of_row _ _ 1 _ _ _ b2
      have e3 := cell_of_row _ _ 2 _ _ _ b2
      have e4 := cell_of_row _ _ 3 _ _ _ b2
      have b3 : (wr.setCell ⟨z, 0, none⟩ (.slice A' 0 c')).heap[z + 1]? = some (.cells #[.slice none 0 0, .int .i64 0, .int .i64 0, .int .i64 0] 50 (0, 0)) := (heap_setCell_other wr ⟨z, 0, none⟩ (z + 1) (.slice A' 0 c') (by simp)).trans b1
      have r0 := cell_of_row _ _ 0 _ _ _ b3
      have r1 := cell_of_row _ _ 1 _ _ _ b3
      have r2 := cell_of_row _ _ 2 _ _ _ b3
      have r3 := cell_of_row _ _ 3 _ _ _ b3
      have y0 := frozen_of_row _ _ 0 _ _ b3
      have y1 := frozen_of_row _ _ 1 _ _ b3
      have y2 := frozen_of_row _ _ 2 _ _ b3
      have y3 := frozen_of_row _ _ 3 _ _ b3
      have HB3 := Lib.hid b3
      go_wp2_with (fail)
      have P := put4_row HB3.out (a := (.slice A' 0 c')) (b := .int .i64 lg) (c := .int .i64 sq) (d := .int .i64 nx)
      have O := (only_set wr z 0 (.slice A' 0 c')).mono (fun i e => (.inl e : i = z ∨ i = z + 1)) |>.trans ((put4_only (W := wr.setCell ⟨z, 0, none⟩ (.slice A' 0 c')) (g := z + 1) (a := (.slice A' 0 c')) (b := .int .i64 lg) (c := .int .i64 sq) (d := .int .i64 nx)).mono fun i e => .inr e)
      unfold put4 at P O
      generalize ((((wr.setCell ⟨z, 0, none⟩ (.slice A' 0 c')).setCell ⟨z + 1, 0, none⟩ (.slice A' 0 c')).setCell ⟨z + 1, 1, none⟩ (.int .i64 lg)).setCell ⟨z + 1, 2, none⟩ (.int .i64 sq)).setCell ⟨z + 1, 3, none⟩ (.int .i64 nx) = w9 at P O ⊢
      have s0 := cell_of_row _ _ 0 _ _ _ P
      have s1 := cell_of_row _ _ 1 _ _ _ P
      have s2 := cell_of_row _ _ 2 _ _ _ P
      have s3 := cell_of_row _ _ 3 _ _ _ P
      refine bodyPost_ret (v := .agg #[(.slice A' 0 c'), .int .i64 lg, .int .i64 sq, .int .i64 nx]) (by simp [results, Tryz.results85, go_sem, s0, s1, s2, s3]) rfl ?_
      have HO9 := own_only HO2.out O fun g hg hS => by have := (HO2.out.lt g hg).1; omega
      have hcs0 : css0.flatten = [] := List.eq_nil_of_length_eq_zero (by simpa using HROW.out.1)
      rw [hcs0] at HO9
      refine ⟨_, rfl, ⟨[], ?_, .nil⟩, ?_⟩
      · have := HO9
        exact ⟨this.1, this.2.imp id fun ⟨g, cap, cur, q1, q2, q3⟩ => ⟨g, cap, cur, q1, by have := HZ.out; omega, q3⟩⟩
      · exact (fr.step HF1.out HF2.out).trans (O.below (Below.size (fr.step HF1.out HF2.out)) fun i h => by have := HZ.out; omega)
  · obtain ⟨g, cg, hE, hwg, _⟩ := own_pos HO2.out h0
    injection hE with e1 e2 e3
    subst e1 e3
    have hl0 : css0.length = n := by rw [← HALL.out.length, HN.out]
    have HL0 := Lib.hid hl0
    clear hl0
    go_loopw [10] (fun t wr => ∃ (i : Nat) (css : List (List Value)), i ≤ n ∧ t = .int .i64 i ∧ CloneI wr (z + 2) g n c' i ts css0 css ∧ css.length = n ∧ fr w1 wr) (fun t _ => n - (intOf t).toNat)
    case atStart =>
      refine ⟨0, css0, Nat.zero_le _, rfl, ⟨?_, tbT_len HALL.out, rfl, by simpa using All2.nil⟩, HL0.out, HF2.out⟩
      have := HO2.out
      rwa [hs1] at this
    case round =>
      obtain ⟨i, css, hi, rfl, hcl, hlen, hf⟩ := hrel
      have HCL := Lib.hid hcl
      have HF := Lib.hid hf
      have HLEN := Lib.hid hlen
      clear hcl hf hlen
      by_cases hin : i < n
      · obtain ⟨t, ht⟩ : ∃ t, ts[i]? = some t := ⟨_, List.getElem?_eq_getElem (by rw [HN.out]; exact hin)⟩
        obtain ⟨cx, hcx, a1, a2, rfl, ha1, ha2⟩ := HALL.out.at_ ht
        obtain ⟨A1, c1, rfl⟩ := slice_form ha1
        obtain ⟨A2, c2, rfl⟩ := slice_form ha2
        have hcss : css[i]? = some [.int .i64 t.id, .int .i64 t.level, .int .i64 t.count, .slice A1 t.lo.length c1, .slice A2 t.hi.length c2] := by
          have h1 : (css.drop i)[0]? = (css0.drop i)[0]? := by rw [HCL.out.old]
          rw [List.getElem?_drop, List.getElem?_drop, Nat.add_zero, hcx] at h1
          exact h1
        have x3 : wr.cell? ⟨g, i * 5 + 3, none⟩ = some (.slice A1 t.lo.length c1) := ownT_cell HCL.out.own (flat_at (j := 3) HCL.out.all hcss rfl)
        have x4 : wr.cell? ⟨g, i * 5 + 4, none⟩ = some (.slice A2 t.hi.length c2) := ownT_cell HCL.out.own (flat_at (j := 4) HCL.out.all hcss rfl)
        have hfw := fr.step HF1.out HF.out
        have HCLO := Lib.hid (clone_fr _ _ _ _ _ _ (ha1.below hfw))
        have HCHI := Lib.hid (clone_fr _ _ _ _ _ _ (ha2.below hfw))
        have HDR : Hid (fr wr wr.drew) := Lib.hid (fr.drew fr.refl)
        have HT := Lib.hid ht
        have HCSS := Lib.hid hcss
        have X3 : wr.drew.cell? ⟨g, i * 5 + 3, none⟩ = some (.slice A1 t.lo.length c1) := x3
        have X4 : wr.drew.cell? ⟨g, i * 5 + 4, none⟩ = some (.slice A2 t.hi.length c2) := x4
        have hi0 : (0 : Int) ≤ (i : Int) := by omega
        have hi1 : (i : Int) < (n : Int) := by omega
        clear ht hcss hcx ha1 ha2 hfw
        go_upto_region 5 with (fail)
        go_region_with (first
          | (go_at_call 89; (with_reducible refine Calls.mono (HCLO.out _ ?_) ?_); (focus (with_reducible exact HDR.out)); rintro r wL ⟨AL, kL, rfl, hbL, gL⟩; have pL := own_below HCL.out.own (fr.stepR HDR.out gL); have yL : wL.cell? ⟨g, i * 5 + 4, none⟩ = some (.slice A2 t.hi.length c2) := fr.cell gL X4)
          | (go_at_call 89; (with_reducible refine Calls.mono (HCHI.out _ ?_) ?_); (focus (with_reducible exact fr.stepR HDR.out gL)); rintro r wH ⟨AH, kH, rfl, hbH, gH⟩; have pH := own_below pL gH; have zH := pH.frozenAt (i * 5 + 3); have cH : wH.cell? ⟨g, i * 5 + 3, none⟩ = some (.slice A1 t.lo.length c1) := fr.cell gH (fr.cell gL X3); have p6 := (pH.stored (i * 5 + 3) (.slice AL t.lo.length kL)).1; have z6 := p6.frozenAt (i * 5 + 4); have c6 : (wH.setCell ⟨g, i * 5 + 3, none⟩ (.slice AL t.lo.length kL)).cell? ⟨g, i * 5 + 4, none⟩ = some (.slice A2 t.hi.length c2) := (by rw [World.cell?_setCell_other _ _ _ _ (by simp)]; exact fr.cell gH yL)))
        all_goals
          go_wp2_with (fail)
          have hstep := HCL.out.step HT.out HCSS.out (fr.stepR HDR.out gL) gH hbL hbH (Nat.le_refl _) (Below.size (fr.stepR HDR.out gL)) (by have := Below.size HF.out; omega)
          refine ⟨⟨i + 1, _, by omega, by go_num, hstep, by rw [List.length_set]; exact HLEN.out, ?_⟩, by simp [intOf]; omega⟩
          exact fr.putE (fr.putE (fr.stepR (fr.stepR (fr.stepR HF.out HDR.out) gL) gH) (by omega)) (by omega)
      · obtain rfl : i = n := by omega
        clear hi hin hc1 hc2 hc3
        have b0 := boxRowFr HB0.out HF.out
        have b1 := boxRowFr HB1.out HF.out
        have z0 := frozen_of_row _ _ 0 _ _ b0
        have e0 := cell_of_row _ _ 0 _ _ _ b0
        have b2 : (wr.setCell ⟨z, 0, none⟩ (.slice (some ⟨g, 0, none⟩) i c')).heap[z]? = some (.cells #[(.slice (some ⟨g, 0, none⟩) i c'), .int .i64 lg, .int .i64 sq, .int .i64 nx] 50 (0, 0)) := heap_setCell_same wr z 0 _ _ _ b0
        have e1 := cell_of_row _ _ 0 _ _ _ b2
        have e2 := cell_of_row _ _ 1 _ _ _ b2
        have e3 := cell_of_row _ _ 2 _ _ _ b2
        have e4 := cell_of_row _ _ 3 _ _ _ b2
        have b3 : (wr.setCell ⟨z, 0, none⟩ (.slice (some ⟨g, 0, none⟩) i c')).heap[z + 1]? = some (.cells #[.slice none 0 0, .int .i64 0, .int .i64 0, .int .i64 0] 50 (0, 0)) := (heap_setCell_other wr ⟨z, 0, none⟩ (z + 1) (.slice (some ⟨g, 0, none⟩) i c') (by simp)).trans b1
        have r0 := cell_of_row _ _ 0 _ _ _ b3
        have r1 := cell_of_row _ _ 1 _ _ _ b3
        have r2 := cell_of_row _ _ 2 _ _ _ b3
        have r3 := cell_of_row _ _ 3 _ _ _ b3
        have y0 := frozen_of_row _ _ 0 _ _ b3
        have y1 := frozen_of_row _ _ 1 _ _ b3
        have y2 := frozen_of_row _ _ 2 _ _ b3
        have y3 := frozen_of_row _ _ 3 _ _ b3
        have HB3 := Lib.hid b3
        go_wp2_with (fail)
        have P := put4_row HB3.out (a := (.slice (some ⟨g, 0, none⟩) i c')) (b := .int .i64 lg) (c := .int .i64 sq) (d := .int .i64 nx)
        have O := (only_set wr z 0 (.slice (some ⟨g, 0, none⟩) i c')).mono (fun i e => (.inl e : i = z ∨ i = z + 1)) |>.trans ((put4_only (W := wr.setCell ⟨z, 0, none⟩ (.slice (some ⟨g, 0, none⟩) i c')) (g := z + 1) (a := (.slice (some ⟨g, 0, none⟩) i c')) (b := .int .i64 lg) (c := .int .i64 sq) (d := .int .i64 nx)).mono fun i e => .inr e)
        unfold put4 at P O
        generalize ((((wr.setCell ⟨z, 0, none⟩ (.slice (some ⟨g, 0, none⟩) i c')).setCell ⟨z + 1, 0, none⟩ (.slice (some ⟨g, 0, none⟩) i c')).setCell ⟨z + 1, 1, none⟩ (.int .i64 lg)).setCell ⟨z + 1, 2, none⟩ (.int .i64 sq)).setCell ⟨z + 1, 3, none⟩ (.int .i64 nx) = w9 at P O ⊢
        have s0 := cell_of_row _ _ 0 _ _ _ P
        have s1 := cell_of_row _ _ 1 _ _ _ P
        have s2 := cell_of_row _ _ 2 _ _ _ P
        have s3 := cell_of_row _ _ 3 _ _ _ P
        refine bodyPost_ret (v := .agg #[(.slice (some ⟨g, 0, none⟩) i c'), .int .i64 lg, .int .i64 sq, .int .i64 nx]) (by simp [results, Tryz.results85, go_sem, s0, s1, s2, s3]) rfl ?_
        have hnew := HCL.out.new
        rw [List.take_of_length_le (by rw [HN.out]; exact Nat.le_refl _), List.take_of_length_le (by rw [HLEN.out]; exact Nat.le_refl _)] at hnew
        have h5 : OwnTabs wr (z + 2) (.slice (some ⟨g, 0, none⟩) i c') ts := ⟨css, by rw [HN.out]; exact HCL.out.own, hnew⟩
        exact ⟨_, rfl, OwnRows.rebaseF tbFine (OwnRows.onlyF tbFine h5 O (fun j hj _ e => by omega)) (by have := HZ.out; omega), (fr.step HF1.out HF.out).trans (O.below (Below.size (fr.step HF1.out HF.out)) fun i h => by have := HZ.out; omega)⟩
end Go.Proofs.YtjnolpfmchnnmaaGreatDoor
end
