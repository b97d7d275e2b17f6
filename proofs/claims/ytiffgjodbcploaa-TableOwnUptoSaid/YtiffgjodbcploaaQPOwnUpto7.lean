/-
slices.Clip of bytes; what block.Build makes, in plain words.
-/
import Derived.Test.YtiffgjodbcploaaQPOwnUpto6
import Derived.Test.YtiffgjodbcploaaQPOwnUpto2
import Derived.StillTailTactics
import Derived.BigQuiet
section
namespace Go.Proofs.Ytiffgjodbcploaa
open Go.RowKit Go.BigFrame
attribute [local go_sem ↓] Go.wp_at_zero Go.wp_at_succ
theorem and127 {y : Nat} (hy : y < 256) : bits .and .u8 (y : Int) 127 = ((y % 128 : Nat) : Int) := by
  have := bits_mask .u8 8 (by decide) wraps_u8 7 (by decide) (y : Int) (by omega) (by omega)
  rw [show ((2 : Int) ^ 7 - 1) = 127 by decide] at this
  rw [this]
  omega
theorem or64 {acc y j : Nat} (hy : y < 256) (ha : acc < 2 ^ (7 * j)) (hb : y % 128 * 2 ^ (7 * j) + acc < 18446744073709551616) :
    bits .or .u64 (acc : Int) (IntKind.u64.wrap (IntKind.u64.wrap (bits .and .u8 (y : Int) 127) * 2 ^ (7 * j))) = ((y % 128 * 2 ^ (7 * j) + acc : Nat) : Int) := by
  rw [and127 hy]
  have e1 : IntKind.u64.wrap ((y % 128 : Nat) : Int) = ((y % 128 : Nat) : Int) := by rw [wrap_u64]; omega
  have e2 : ((y % 128 : Nat) : Int) * 2 ^ (7 * j) = ((y % 128 * 2 ^ (7 * j) : Nat) : Int) := by simp
  obtain ⟨P, hP⟩ : ∃ P, y % 128 * 2 ^ (7 * j) = P := ⟨_, rfl⟩
  have ho := or_hi (c := y % 128) ha
  rw [hP] at hb e2 ho ⊢
  rw [e1, e2]
  have e3 : IntKind.u64.wrap (P : Int) = (P : Int) := by rw [wrap_u64]; omega
  rw [e3, (bits_nat .u64 64 (by decide) wraps64 acc P (by omega) (by omega)).2, ho]
  congr 1
  omega
theorem or64_9 {acc y : Nat} (hy : y < 256) (ha : acc < 2 ^ (7 * 9)) (hb : y % 128 * 2 ^ (7 * 9) + acc < 18446744073709551616) :
    bits .or .u64 (acc : Int) (IntKind.u64.wrap (IntKind.u64.wrap (bits .and .u8 (y : Int) 127) * 9223372036854775808)) = ((y % 128 * 2 ^ (7 * 9) + acc : Nat) : Int) := by
  have := or64 hy ha hb
  rwa [show (2 : Int) ^ (7 * 9) = 9223372036854775808 by decide] at this
set_option maxRecDepth 100000 in
set_option maxHeartbeats 1000000 in
theorem uint_any (S : Nat → Prop) (b o n c k v : Nat) (bs rest : List UInt8) (w : World) (hv : Byt w S (.slice (some ⟨b, o, none⟩) n c) bs) (hn : bs.length = n) (hk : k ≤ n) (hr : bs.drop k = formN v ++ rest) (hv64 : v < 18446744073709551616) :
    Calls Try.prog 53 #[.slice (some ⟨b, o, none⟩) n c, .int .i64 k] w fun r w' => r = .returned (.tuple #[.int .u64 v, .int .i64 (k + (formN v).length : Nat), .int .i64 0]) ∧ w' = w := by
  have hl := hv.len
  rw [hn] at hl
  have hfl := formN_len v
  have hlen : n - k = (formN v).length + rest.length := by have := congrArg List.length hr; rw [List.length_drop, List.length_append, hn] at this; exact this
  have hcc : n ≤ c ∧ c ≤ 9223372036854775807 := by obtain ⟨A, ca, hE, h1, h2, _⟩ := hv; injection hE with _ e2 e3; omega
  obtain ⟨m, hm⟩ : ∃ m, n - k = m := ⟨_, rfl⟩
  obtain ⟨cm, hcm⟩ : ∃ m, c - k = m := ⟨_, rfl⟩
  have hkc : ((c : Int) - (k : Int)) = ((c - k : Nat) : Int) := by omega
  have HR : Hid (Byt w S (.slice (some ⟨b, o + k, none⟩) m cm) (bs.drop k)) := Lib.hid (by
    have := Byt.cut hv (f := k) (m := m) (c' := cm) (by omega) (by omega) (by omega)
    rwa [List.take_of_length_le (by rw [List.length_drop, hn]; omega)] at this)
  have hmb : (formN v).length ≤ m ∧ 0 < m := by omega
  obtain ⟨rs, hrs⟩ : ∃ rs, bs.drop k = rs := ⟨_, rfl⟩
  rw [hrs] at HR hr
  have hrl : rs.length = m := by rw [← hrs, List.length_drop, hn, hm]
  have HRL := Lib.hid hrl
  have HRS := Lib.hid hr
  have HV64 := Lib.hid hv64
  have hck : ¬ c = k := by omega
  have hk0 : decide ((k : Int) < 0) = false := by simp
  have hk1 : decide (n < k) = false := by simp; omega
  have hk2 : decide ((n : Int) < (k : Int)) = false := by simp; omega
  obtain ⟨fl, hfe⟩ : ∃ x, (formN v).length = x := ⟨_, rfl⟩
  rw [hfe] at hmb hfl ⊢
  have HFE := Lib.hid hfe
  have HFB := Lib.hid hfl
  have HMB := Lib.hid hmb
  clear hv hrs hrl hr hlen hfe hfl hmb hv64
  go_enter Try.func53, Try.ntmps53
  go_wp2
  go_loopw [7, 22] (fun x t wr => ∃ (j u acc : Nat) (p : List UInt8), j ≤ 9 ∧ t = .int .i64 j ∧ x = .int .u64 acc ∧ rs = p ++ (formF (9 - j) u ++ rest) ∧ p.length = j ∧ fl = j + (formF (9 - j) u).length ∧ acc < 2 ^ (7 * j) ∧ u * 2 ^ (7 * j) + acc = v ∧ (0 < j → 0 < u) ∧ wr = w) (fun _ t _ => 10 - (intOf t).toNat)
  case atStart => exact ⟨0, v, 0, [], Nat.zero_le _, rfl, rfl, HRS.out, rfl, by rw [← HFE.out]; simp [formN], by decide, by simp, fun h => absurd h (by omega), rfl⟩
  case round =>
    obtain ⟨j, u, acc, p, hj, rfl, rfl, hsp, hpl, hfj, hac, hua, hju, rfl⟩ := hrel
    have HSP := Lib.hid hsp
    have HFJ := Lib.hid hfj
    have HAC := Lib.hid hac
    have HUA := Lib.hid hua
    have HJU := Lib.hid hju
    have HPL := Lib.hid hpl
    have hjm : j < m := by have := (formF_len (9 - j) u).1; have := HMB.out; omega
    obtain ⟨y, hy⟩ : ∃ y, rs[j]? = some y := ⟨_, List.getElem?_eq_getElem (by rw [HRL.out]; exact hjm)⟩
    obtain ⟨A', c', hE, _, _, _, hrow⟩ := HR.out
    injection hE with e1 e2 e3
    subst e1
    obtain ⟨b3, o3, u3, hb3, _, _, hu3, hcell⟩ := hrow.at_ (k := j) (by rw [HRL.out]; exact hjm)
    injection hb3 with hb3
    injection hb3 with hb4 hb5
    subst hb4 hb5
    obtain rfl : u3 = bcell y := by rw [List.getElem?_map, hy] at hu3; injection hu3 with hu; exact hu.symm
    unfold bcell at hcell
    have HY := Lib.hid hy
    have hyb := y.toNat_lt
    clear hrow hu3 hy hsp hfj hac hua hju hpl e2 e3
    have hy64 := HV64.out
    by_cases hu : 127 < u
    · have hj8 : j < 9 := by
        rcases (by omega : j < 9 ∨ j = 9) with h | h
        · exact h
        · have := HUA.out
          rw [h, show (2 : Nat) ^ (7 * 9) = 9223372036854775808 by decide] at this
          omega
      have hff : formF (9 - j) u = UInt8.ofNat (u % 128 + 128) :: formF (9 - (j + 1)) (u / 128) := by
        rw [show 9 - j = (9 - (j + 1)) + 1 by omega]
        conv => lhs; unfold formF
        rw [if_neg (by omega)]
      have hyu : y.toNat = u % 128 + 128 := by
        have h1 := HY.out
        rw [HSP.out, hff, List.getElem?_append_right (by rw [HPL.out]; exact Nat.le_refl _), HPL.out, Nat.sub_self] at h1
        simp only [List.cons_append, List.getElem?_cons_zero, Option.some.injEq] at h1
        rw [← h1]
        simp
        omega
      have hpw : (2 : Nat) ^ (7 * (j + 1)) = 128 * 2 ^ (7 * j) := by rw [show 7 * (j + 1) = 7 * j + 7 by omega, Nat.pow_add]; omega
      have hP : 0 < (2 : Nat) ^ (7 * j) := Nat.two_pow_pos _
      have hac := HAC.out
      have hua := HUA.out
      obtain ⟨P, hPe⟩ : ∃ P, (2 : Nat) ^ (7 * j) = P := ⟨_, rfl⟩
      have e1 : u * P = u / 128 * (128 * P) + u % 128 * P := by
        rw [← Nat.mul_assoc, ← Nat.add_mul]
        congr 1
        omega
      have hy128 : y.toNat % 128 = u % 128 := by omega
      have e2 : u % 128 * P ≤ 127 * P := Nat.mul_le_mul_right _ (by omega)
      have hor := or64 (acc := acc) (y := y.toNat) (j := j) hyb hac (by rw [hPe, hy128]; rw [hPe] at hua; omega)
      rw [hy128, hPe] at hor
      rw [hPe] at hac hua hpw
      have hnx : u / 128 * 2 ^ (7 * (j + 1)) + (u % 128 * P + acc) = v := by rw [hpw]; omega
      have hna : u % 128 * P + acc < 2 ^ (7 * (j + 1)) := by rw [hpw]; omega
      obtain ⟨acc2, ha2⟩ : ∃ a, u % 128 * P + acc = a := ⟨_, rfl⟩
      rw [ha2] at hor hnx hna
      have hjb : ((j : Int) == 9) = false := by simp; omega
      have hyc : decide ((y.toNat : Int) < 128) = false := by simp; omega
      have hyd : decide (y.toNat < 128) = false := by simp; omega
      have HNX := Lib.hid hnx
      have HNA := Lib.hid hna
      have HFF := Lib.hid hff
      have HU := Lib.hid (show 0 < u / 128 by omega)
      have HYU := Lib.hid hyu
      rw [show (2 : Int) ^ (7 * j) = (2 : Int) ^ (7 * j) from rfl] at hor
      clear hff hyu hpw hP hac hua hPe e1 hy128 e2 hnx hna ha2 hu hy64
      go_wp2
      refine ⟨⟨j + 1, u / 128, acc2, p ++ [UInt8.ofNat (u % 128 + 128)], by omega, by go_num, by first | rfl | trivial, ?_, by rw [List.length_append, HPL.out]; rfl, ?_, HNA.out, HNX.out, fun _ => HU.out, by first | rfl | trivial⟩, by simp [intOf]; omega⟩
      · rw [List.append_assoc]
        have := HSP.out
        rw [HFF.out] at this
        exact this
      · have := HFJ.out
        rw [HFF.out, List.length_cons] at this
        omega
    · have hff : formF (9 - j) u = [UInt8.ofNat u] := by
        rcases h : 9 - j with _ | q
        · rfl
        · unfold formF
          rw [if_pos (by omega)]
      have hyu : y.toNat = u := by
        have h1 := HY.out
        rw [HSP.out, hff, List.getElem?_append_right (by rw [HPL.out]; exact Nat.le_refl _), HPL.out, Nat.sub_self] at h1
        simp only [List.singleton_append, List.getElem?_cons_zero, Option.some.injEq] at h1
        rw [← h1]
        simp
        omega
      have HFJ1 : Hid (fl = j + 1) := Lib.hid (by rw [HFJ.out, hff]; rfl)
      have hy128 : y.toNat % 128 = u := by omega
      have hyc : decide ((y.toNat : Int) < 128) = true := by simp; omega
      have hyd : decide (y.toNat < 128) = true := by simp; omega
      rcases (by omega : j < 9 ∨ j = 9) with h9 | h9
      · have hor := or64 (acc := acc) (y := y.toNat) (j := j) hyb HAC.out (by rw [hy128, HUA.out]; exact hy64)
        rw [hy128, HUA.out] at hor
        have hjb : ((j : Int) == 9) = false := by simp; omega
        rcases Nat.eq_zero_or_pos j with h0 | h0
        · have hjp : decide ((0 : Int) < (j : Int)) = false := by simp; omega
          have hjq : decide (0 < j) = false := by simp; omega
          rcases Nat.eq_zero_or_pos y.toNat with hz | hz
          · have hyz : ((y.toNat : Int) == 0) = true := by simp; omega
            clear hff hyu hy128 h0 hu hy64 hz
            go_wp2
            have e : ((k : Int) + (j : Int) + 1) = (k : Int) + (fl : Int) := by rw [HFJ1.out]; omega
            refine bodyPost_ret (v := .tuple #[.int .u64 v, .int .i64 ((k : Int) + (j : Int) + 1), .int .i64 0]) (by simp [results, Try.results53, go_sem]) rfl ?_
            exact ⟨by rw [e], rfl⟩
          · have hyz : ((y.toNat : Int) == 0) = false := by simp; omega
            clear hff hyu hy128 h0 hu hy64 hz
            go_wp2
            have e : ((k : Int) + (j : Int) + 1) = (k : Int) + (fl : Int) := by rw [HFJ1.out]; omega
            refine bodyPost_ret (v := .tuple #[.int .u64 v, .int .i64 ((k : Int) + (j : Int) + 1), .int .i64 0]) (by simp [results, Try.results53, go_sem]) rfl ?_
            exact ⟨by rw [e], rfl⟩
        · have hyz : ((y.toNat : Int) == 0) = false := by have := HJU.out h0; simp; omega
          clear hff hyu hy128 h0 hu hy64
          go_wp2
          have e : ((k : Int) + (j : Int) + 1) = (k : Int) + (fl : Int) := by rw [HFJ1.out]; omega
          refine bodyPost_ret (v := .tuple #[.int .u64 v, .int .i64 ((k : Int) + (j : Int) + 1), .int .i64 0]) (by simp [results, Try.results53, go_sem]) rfl ?_
          exact ⟨by rw [e], rfl⟩
      · subst h9
        have hor := or64_9 (acc := acc) (y := y.toNat) hyb HAC.out (by rw [hy128, HUA.out]; exact hy64)
        rw [hy128, HUA.out] at hor
        have hyz : ((y.toNat : Int) == 0) = false := by have := HJU.out (by omega); simp; omega
        have hy1 : decide ((1 : Int) < (y.toNat : Int)) = false := by
          have := HUA.out
          rw [show (2 : Nat) ^ (7 * 9) = 9223372036854775808 by decide] at this
          simp
          omega
        clear hff hyu hy128 hu hy64
        go_wp2
        have e : ((k : Int) + 9 + 1) = (k : Int) + (fl : Int) := by rw [HFJ1.out]; omega
        refine bodyPost_ret (v := .tuple #[.int .u64 v, .int .i64 ((k : Int) + 9 + 1), .int .i64 0]) (by simp [results, Try.results53, go_sem]) rfl ?_
        exact ⟨by rw [e], rfl⟩
set_option maxRecDepth 100000 in
set_option maxHeartbeats 1000000 in
theorem vbytes_any (S : Nat → Prop) (b o n c k most : Nat) (bs xs rest : List UInt8) (w : World) (hv : Byt w S (.slice (some ⟨b, o, none⟩) n c) bs) (hn : bs.length = n) (hk : k ≤ n) (hr : bs.drop k = formN xs.length ++ xs ++ rest) (hx : xs.length ≤ most) (hmo : most ≤ 1099511627776) (hx0 : 0 < xs.length) :
    Calls Try.prog 71 #[.slice (some ⟨b, o, none⟩) n c, .int .i64 k, .int .i64 most] w fun r w' => ∃ v', r = .returned (.tuple #[v', .int .i64 (k + (formN xs.length).length + xs.length : Nat), .int .i64 0]) ∧ BytL w' w.heap.size v' xs ∧ fr w w' := by
  have hl := hv.len
  rw [hn] at hl
  have hfl := formN_len xs.length
  have hlen : n - k = (formN xs.length).length + xs.length + rest.length := by have := congrArg List.length hr; rw [List.length_drop, List.length_append, List.length_append, hn] at this; exact this
  have hcc : n ≤ c ∧ c ≤ 9223372036854775807 := by obtain ⟨A, ca, hE, h1, h2, _⟩ := hv; injection hE with _ e2 e3; omega
  have HU := Lib.hid (uint_any S b o n c k xs.length bs (xs ++ rest) w hv hn hk (by rw [hr, List.append_assoc]) (by omega))
  obtain ⟨m, hm⟩ : ∃ m, xs.length = m := ⟨_, rfl⟩
  obtain ⟨f, hf⟩ : ∃ m, (formN xs.length).length = m := ⟨_, rfl⟩
  obtain ⟨g, hg⟩ : ∃ m, k + f = m := ⟨_, rfl⟩
  rw [hf, hg, hm] at HU
  rw [hf, hg, hm]
  rw [hf, hm] at hlen
  have hcut : Byt w S (.slice (some ⟨b, o + g, none⟩) m m) xs := by
    have := Byt.cut hv (f := g) (m := m) (c' := m) (by omega) (Nat.le_refl _) (by omega)
    rw [← hg, ← List.drop_drop, hr, List.append_assoc, List.drop_left' hf, List.take_left' hm, hg] at this
    exact this
  have HC := Lib.hid (bcloneL_any S _ xs w hcut)
  have hgn : g + m ≤ n := by omega
  have hm0 : ¬ m = 0 := by omega
  have hgm : ¬ g + m = g := by omega
  have hgs : g + m - g = m := by omega
  rw [hm] at hx
  have hg2 : ((k : Int) + (f : Int)) = (g : Int) := by omega
  clear hv hcut hr hfl hf
  have h1 : ¬ ((most : Int) < 0) := by omega
  have h2 : decide ((most : Int) < 0) = false := by simp
  have h3 : ¬ ((most : Int) < (m : Int)) := by omega
  have h5 : (most : Int) % 18446744073709551616 = (most : Int) := by omega
  have h6 : ((n : Int) - (g : Int)) % 18446744073709551616 = (n : Int) - (g : Int) := by omega
  have h7 : ¬ ((n : Int) - (g : Int) < (m : Int)) := by omega
  go_enter Try.func71, Try.ntmps71
  go_upto_region 9 with (go_at_call 53; refine HU.out.mono ?_; rintro r w1 ⟨rfl, rfl⟩)
  go_wp2_with (go_at_call 29; refine HC.out.mono ?_; rintro r w2 ⟨v', rfl, hv', hf'⟩)
  refine bodyPost_ret (v := .tuple #[v', .int .i64 ((g : Int) + (m : Int)), .int .i64 0]) (by simp [results, Try.results71, go_sem]) rfl ?_
  exact ⟨_, by simp, hv', hf'⟩
end Go.Proofs.Ytiffgjodbcploaa
end
section
namespace Go.Proofs.Ytiffgjodbcploaa
open Go.RowKit Go.BigFrame
attribute [local go_sem ↓] Go.wp_at_zero Go.wp_at_succ
/-- how many bytes two keys begin alike. -/
def sharedN : List UInt8 → List UInt8 → Nat
  | x :: xs, y :: ys => if x = y then sharedN xs ys + 1 else 0
  | _, _ => 0
theorem sharedN_at : ∀ {xs ys : List UInt8} {i : Nat}, xs.take i = ys.take i → (∀ x y, xs[i]? = some x → ys[i]? = some y → x ≠ y) → i ≤ xs.length → i ≤ ys.length → sharedN xs ys = i
  | [], ys, i, _, _, h1, _ => by simp at h1; subst h1; cases ys <;> rfl
  | x :: xs, [], i, _, _, _, h2 => by simp at h2; subst h2; rfl
  | x :: xs, y :: ys, 0, _, hd, _, _ => by
    unfold sharedN
    rw [if_neg (hd x y rfl rfl)]
  | x :: xs, y :: ys, i + 1, ht, hd, h1, h2 => by
    simp only [List.take_succ_cons, List.cons.injEq] at ht
    unfold sharedN
    rw [if_pos ht.1, sharedN_at (i := i) ht.2 (fun a b ha hb => hd a b (by simpa using ha) (by simpa using hb)) (by simpa using h1) (by simpa using h2)]
set_option maxRecDepth 100000 in
set_option maxHeartbeats 1000000 in
theorem shared_any (S S' : Nat → Prop) (a b : Value) (xs ys : List UInt8) (w : World) (ha : Byt w S a xs) (hb : Byt w S' b ys) :
    Calls Try.prog 64 #[a, b] w fun r w' => r = .returned (.int .i64 (sharedN xs ys : Nat)) ∧ fr w w' := by
  have hla := ha.len
  have hlb := hb.len
  obtain ⟨A, c, rfl⟩ := slice_form ha
  obtain ⟨B, d, rfl⟩ := slice_form hb
  have HA := Lib.hid ha
  have HB := Lib.hid hb
  obtain ⟨n, hn⟩ : ∃ n, xs.length = n := ⟨_, rfl⟩
  obtain ⟨m, hm⟩ : ∃ n, ys.length = n := ⟨_, rfl⟩
  rw [hn] at hla HA ⊢
  rw [hm] at hlb HB ⊢
  have HN := Lib.hid hn
  have HM := Lib.hid hm
  obtain ⟨q, hq⟩ : ∃ q, min n m = q := ⟨_, rfl⟩
  have hmin : min (n : Int) (m : Int) = (q : Int) := by omega
  have HQ : Hid (q ≤ n ∧ q ≤ m ∧ (q = n ∨ q = m)) := Lib.hid (by omega)
  clear ha hb hn hm hq
  go_enter Try.func64, Try.ntmps64
  go_wp2
  go_loopw [11] (fun t wr => ∃ i : Nat, i ≤ q ∧ t = .int .i64 i ∧ xs.take i = ys.take i ∧ fr w wr) (fun t _ => q - (intOf t).toNat)
  case atStart => exact ⟨0, Nat.zero_le _, rfl, rfl, fr.refl⟩
  case round =>
    obtain ⟨i, hi, rfl, htk, hf⟩ := hrel
    have HT := Lib.hid htk
    have HF := Lib.hid hf
    clear htk hf
    by_cases hiq : i < q
    · obtain ⟨x, hx⟩ : ∃ x, xs[i]? = some x := ⟨_, List.getElem?_eq_getElem (by have := HQ.out; have := HN.out; omega)⟩
      obtain ⟨y, hy⟩ : ∃ y, ys[i]? = some y := ⟨_, List.getElem?_eq_getElem (by have := HQ.out; have := HM.out; omega)⟩
      have hin : i < n := by have := HQ.out; omega
      have him : i < m := by have := HQ.out; omega
      obtain ⟨A', c', hE, _, _, _, hrow⟩ := HA.out.below HF.out
      injection hE with e1 e2 e3
      subst e1
      obtain ⟨b1, o1, u1, rfl, _, _, hu1, hc1⟩ := hrow.at_ (k := i) (by rw [HN.out]; exact hin)
      obtain rfl : u1 = bcell x := by rw [List.getElem?_map, hx] at hu1; injection hu1 with hu; exact hu.symm
      obtain ⟨B', d', hE', _, _, _, hrow'⟩ := HB.out.below HF.out
      injection hE' with e4 e5 e6
      subst e4
      obtain ⟨b2, o2, u2, rfl, _, _, hu2, hc2⟩ := hrow'.at_ (k := i) (by rw [HM.out]; exact him)
      obtain rfl : u2 = bcell y := by rw [List.getElem?_map, hy] at hu2; injection hu2 with hu; exact hu.symm
      unfold bcell at hc1 hc2
      have F1 : ∀ q : Ext wr, q.w.cell? { block := b1, off := o1 + i } = _ := fun q => q.h.cell hc1
      have F2 : ∀ q : Ext wr, q.w.cell? { block := b2, off := o2 + i } = _ := fun q => q.h.cell hc2
      have HX := Lib.hid hx
      have HY := Lib.hid hy
      clear hx hy hrow hrow' hu1 hu2 hc1 hc2 e2 e3 e5 e6
      by_cases hxy : x = y
      · subst hxy
        go_wp2
        (refine wp_region_quiet_ext (by kernel_rfl) (by kernel_rfl) ?_; (repeat (go_big_quiet_step (fail))); refine wpQuiet_nil ?_; intro wq hw'; obtain ⟨⟨_, hq⟩, hw''⟩ := hw'; subst hw'')
        go_wp2
        exact ⟨⟨i + 1, by omega, by go_num, by rw [take_snoc HX.out, take_snoc HY.out, HT.out], fr.step HF.out hq⟩, by simp [intOf]; omega⟩
      · have hne : ¬ (x.toNat : Int) = (y.toNat : Int) := fun h => hxy (UInt8.toNat_inj.1 (by omega))
        have hb1 : ((x.toNat : Int) == (y.toNat : Int)) = false := by simpa using hne
        have hb2 : ((x.toNat : Int) != (y.toNat : Int)) = true := by simpa using hne
        have HXY := Lib.hid hxy
        clear hxy
        go_wp2
        (refine wp_region_quiet_ext (by kernel_rfl) (by kernel_rfl) ?_; (repeat (go_big_quiet_step (fail))); refine wpQuiet_nil ?_; intro wq hw'; obtain ⟨⟨_, hq⟩, hw''⟩ := hw'; subst hw'')
        go_wp2
        refine bodyPost_ret (v := .int .i64 i) (by simp [results, Try.results64, go_sem]) rfl ?_
        exact ⟨by rw [sharedN_at HT.out (fun a b ha hb => by rw [HX.out] at ha; rw [HY.out] at hb; injection ha with ha; injection hb with hb; subst ha hb; exact HXY.out) (by rw [HN.out]; omega) (by rw [HM.out]; omega)], fr.step HF.out hq⟩
    · obtain rfl : i = q := by omega
      go_wp2
      refine bodyPost_ret (v := .int .i64 i) (by simp [results, Try.results64, go_sem]) rfl ?_
      exact ⟨by rw [sharedN_at HT.out (fun a b ha hb => by
        have h1 := (List.getElem?_eq_some_iff.1 ha).1
        have h2 := (List.getElem?_eq_some_iff.1 hb).1
        rw [HN.out] at h1
        rw [HM.out] at h2
        have := HQ.out
        omega) (by rw [HN.out]; exact HQ.out.1) (by rw [HM.out]; exact HQ.out.2.1)], HF.out⟩
end Go.Proofs.Ytiffgjodbcploaa
end
section
namespace Go.Proofs.Ytiffgjodbcploaa
open Go.RowKit
attribute [local go_sem ↓] Go.wp_at_zero Go.wp_at_succ
theorem EntV.drew {w : World} {S : Nat → Prop} {v : Value} {e : Ent} (h : EntV w S v e) : EntV w.drew S v e := h
set_option maxRecDepth 100000 in
set_option maxHeartbeats 2000000 in
theorem sameE_any (S S' : Nat → Prop) (v v' : Value) (xs ys : List Ent) (w : World) (hx : Ents w S v xs) (hy : Ents w S' v' ys) :
    Calls Try.prog 13 #[v, v'] w fun e w' => e = .returned (.bool (decide (xs = ys))) ∧ Below w.heap.size w w' := by
  obtain ⟨A, c, cs, rfl, hc, hcm, hl, hr, he⟩ := hx
  obtain ⟨A', c', cs', rfl, hc', hcm', hl', hr', he'⟩ := hy
  rcases (by omega : xs.length = ys.length ∨ ¬ xs.length = ys.length) with hlen | hlen
  · have hL := Lib.hid hlen
    obtain ⟨n, hn⟩ : ∃ n, xs.length = n := ⟨_, rfl⟩
    rw [← hlen] at hr' ⊢
    rw [hn] at hr hr' hl ⊢
    clear hlen
    have hN := Lib.hid hn
    clear hn
    go_enter Try.func13, Try.ntmps13
    go_wp2
    go_loopw [5, 13] (fun _ t wr => ∃ k : Nat, k ≤ n ∧ t = .int .i64 k ∧ xs.take k = ys.take k ∧ Below w.heap.size w wr) (fun _ t _ => n - (intOf t).toNat)
    case atStart => exact ⟨0, by omega, rfl, by simp, Below.refl _ _⟩
    case round =>
      obtain ⟨k, hk, rfl, hpre, hbel⟩ := hrel
      have hp := Lib.hid hpre
      clear hpre
      by_cases hkn : k < n
      · obtain ⟨x, hxk⟩ : ∃ x, xs[k]? = some x := ⟨_, List.getElem?_eq_getElem (by rw [hN.out]; exact hkn)⟩
        obtain ⟨y, hyk⟩ : ∃ y, ys[k]? = some y := ⟨_, List.getElem?_eq_getElem (by rw [← hL.out, hN.out]; exact hkn)⟩
        obtain ⟨b, o, k1, u1, rfl, c0, c1, c2, c3, b1, b2, _, _⟩ := (hr.below hbel).ent (he.below hbel) hN.out hxk
        obtain ⟨b', o', k2, u2, rfl, d0, d1, d2, d3, e1, e2, _, _⟩ := (hr'.below hbel).ent (he'.below hbel) (by rw [← hL.out, hN.out]) hyk
        have hev := Lib.hid (show EntV wr S (.agg #[k1, .int .i64 x.seq, .bool x.dead, u1]) x from ⟨_, _, rfl, b1, b2⟩)
        have hev' := Lib.hid (show EntV wr S' (.agg #[k2, .int .i64 y.seq, .bool y.dead, u2]) y from ⟨_, _, rfl, e1, e2⟩)
        have HX := Lib.hid hxk
        have HY := Lib.hid hyk
        clear b1 b2 e1 e2 hxk hyk
        rcases hxy : decide (x = y) with _ | _
        · have hne : ¬ xs = ys := fun e => by
            have h1 := HX.out
            rw [e, HY.out] at h1
            injection h1 with h1
            simp [h1] at hxy
          have HN := Lib.hid hne
          have HXY := Lib.hid hxy
          clear hne hxy
          go_wp2
          go_still_tail 8, (by kernel_rfl)
          go_wp2_with (go_at_call 12; refine (sameone_any S S' _ _ x y _ (by exact hev.out.drew) (by exact hev'.out.drew)).mono ?_; rintro r w1 ⟨rfl, hb⟩; rw [HXY.out])
          go_ret
          exact ⟨ret_bool (decide_eq_false HN.out).symm, hbel.trans ((undrew hb).mono (by have := hbel.size; simpa using this))⟩
        · have HXY := Lib.hid hxy
          clear hxy
          go_wp2
          go_still_tail 8, (by kernel_rfl)
          go_wp2_with (go_at_call 12; refine (sameone_any S S' _ _ x y _ (by exact hev.out.drew) (by exact hev'.out.drew)).mono ?_; rintro r w1 ⟨rfl, hb⟩; rw [HXY.out])
          refine ⟨⟨k + 1, by omega, by go_num, ?_, hbel.trans ((undrew hb).mono (by have := hbel.size; simpa using this))⟩, by simp [intOf]; omega⟩
          rw [take_snoc HX.out, take_snoc HY.out, hp.out, of_decide_eq_true HXY.out]
      · obtain rfl : k = n := by omega
        go_wp2
        go_ret
        refine ⟨ret_bool ?_, hbel⟩
        have e1 := hp.out
        rw [List.take_of_length_le (by rw [hN.out]; exact Nat.le_refl _), List.take_of_length_le (by rw [← hL.out, hN.out]; exact Nat.le_refl _)] at e1
        rw [e1]
        simp
  · have hN := Lib.hid (show ¬ xs = ys from fun e => hlen (by rw [e]))
    have hb : ((xs.length : Int) != (ys.length : Int)) = true := by rw [bne_iff_ne]; omega
    clear hlen
    go_enter Try.func13, Try.ntmps13
    go_wp2
    go_ret
    exact ⟨ret_bool (decide_eq_false hN.out).symm, Below.refl _ _⟩
end Go.Proofs.Ytiffgjodbcploaa
end
section
namespace Go.Proofs.Ytiffgjodbcploaa
open Go.RowKit Go.BigFrame
section
variable {W w' w2 : World}
theorem fr.ent (h : fr W w') {S : Nat → Prop} {v : Value} {e : Ent} (hv : EntV W S v e) : EntV w' S v e := hv.below h
end
end Go.Proofs.Ytiffgjodbcploaa
end
section
namespace Go.Proofs.Ytiffgjodbcploaa
open Go.RowKit
attribute [local go_sem ↓] Go.wp_at_zero Go.wp_at_succ
theorem orderedFrom_step (es : List Ent) (k : Nat) (e : Ent) (h : es[k]? = some e) (p : Option Ent) :
    orderedFrom p (es.drop k) = (goodE e && ((match p with | none => true | some p => decide (cmpE p e < 0)) && orderedFrom (some e) (es.drop (k + 1)))) := by
  rw [List.drop_eq_getElem_cons (List.getElem?_eq_some_iff.1 h).1]
  have e1 := (List.getElem?_eq_some_iff.1 h).2
  rw [e1]
  cases p <;> simp [orderedFrom]
set_option maxRecDepth 100000 in
set_option maxHeartbeats 4000000 in
theorem ordered_any (S : Nat → Prop) (v : Value) (es : List Ent) (w : World) (hv : Ents w S v es) :
    Calls Try.prog 33 #[v] w fun r w' => r = .returned (.bool (orderedE es)) ∧ Below w.heap.size w w' := by
  obtain ⟨A, c, cs, rfl, hc, hcm, hl, hr, he⟩ := hv
  obtain ⟨n, hn⟩ : ∃ n, es.length = n := ⟨_, rfl⟩
  rw [hn] at hr hl ⊢
  have HN := Lib.hid hn
  clear hn
  go_enter Try.func33, Try.ntmps33
  go_wp2
  go_loopw [3, 4, 7] (fun _ _ t wr => ∃ k : Nat, k ≤ n ∧ t = .int .i64 k ∧ orderedE es = orderedFrom (if k = 0 then none else es[k - 1]?) (es.drop k) ∧ Below w.heap.size w wr) (fun _ _ t _ => n - (intOf t).toNat)
  case atStart => exact ⟨0, by omega, rfl, rfl, Below.refl _ _⟩
  case round =>
    obtain ⟨k, hk, rfl, hpre, hbel⟩ := hrel
    have hp := Lib.hid hpre
    clear hpre
    by_cases hkn : k < n
    · obtain ⟨e, hek⟩ : ∃ e, es[k]? = some e := ⟨_, List.getElem?_eq_getElem (by rw [HN.out]; exact hkn)⟩
      obtain ⟨b, o, kk, uu, rfl, c0, c1, c2, c3, b1, b2, hblt, _⟩ := (hr.below hbel).ent (he.below hbel) HN.out hek
      have hal : Below wr.heap.size wr (wr.alloc (.cells #[kk, .int .i64 e.seq, .bool e.dead, uu] 34)) := (Below.refl _ _).alloc (Nat.le_refl _) _
      have hev := Lib.hid ((show EntV wr S (.agg #[kk, .int .i64 e.seq, .bool e.dead, uu]) e from ⟨_, _, rfl, b1, b2⟩).below hal)
      have HSTEP := Lib.hid (orderedFrom_step es k e hek (if k = 0 then none else es[k - 1]?))
      have HX := Lib.hid hek
      obtain ⟨Ak, ck, rfl⟩ := slice_form b1
      obtain ⟨Au, cu, rfl⟩ := slice_form b2
      clear b1 b2 hek hal
      generalize hW0 : wr.alloc (.cells #[Value.slice Ak e.key.length ck, .int .i64 e.seq, .bool e.dead, Value.slice Au e.val.length cu] 34) = W0 at hev
      have fW0 : fr wr W0 := by rw [← hW0]; exact fr.refl.alloc _
      have F0 : ∀ q : Ext W0, q.w.cell? { block := wr.heap.size, off := 0 } = some (Value.slice Ak e.key.length ck) := fun q => q.cell (by rw [← hW0]; simp [go_sem])
      have F1 : ∀ q : Ext W0, q.w.cell? { block := wr.heap.size, off := 1 } = some (.int .i64 e.seq) := fun q => q.cell (by rw [← hW0]; simp [go_sem])
      have F2 : ∀ q : Ext W0, q.w.cell? { block := wr.heap.size, off := 2 } = some (.bool e.dead) := fun q => q.cell (by rw [← hW0]; simp [go_sem])
      have F3 : ∀ q : Ext W0, q.w.cell? { block := wr.heap.size, off := 3 } = some (Value.slice Au e.val.length cu) := fun q => q.cell (by rw [← hW0]; simp [go_sem])
      have HB := Lib.hid (hbel)
      have HHR := Lib.hid (hr.below hbel)
      have HHE := Lib.hid (he.below hbel)
      have CG : ∀ q : Ext W0, Calls Try.prog 55 #[.agg #[Value.slice Ak e.key.length ck, .int .i64 e.seq, .bool e.dead, Value.slice Au e.val.length cu]] q.w fun r w'' => r = .returned (.bool (goodE e)) ∧ ∃ q' : Ext W0, w'' = q'.w := fun q => Ext.calls (good_any S _ e _ (q.h.ent hev.out))
      go_wp2
      rcases hg : goodE e with _ | _
      · rw [hg] at CG
        have HG := Lib.hid hg
        clear hg
        (refine wp_region_quiet_ext (by kernel_rfl) (by kernel_rfl) ?_; (repeat (go_big_quiet_step ((go_at_call 55; exact CG _)))); refine wpQuiet_nil ?_; intro wq hw'; obtain ⟨⟨_, hq⟩, hw''⟩ := hw'; subst hw'')
        go_wp2
        refine bodyPost_ret (v := .bool _) (by simp [results, Try.results33, go_sem]; rfl) rfl ?_
        refine ⟨ret_bool ?_, HB.out.trans ((fW0.step hq).mono (HB.out.size))⟩
        have := hp.out
        rw [HSTEP.out, HG.out] at this
        rw [this]; rfl
      · rw [hg] at CG
        have HG := Lib.hid hg
        clear hg
        rcases Nat.eq_zero_or_pos k with h0 | h0
        · subst h0
          (refine wp_region_quiet_ext (by kernel_rfl) (by kernel_rfl) ?_; (repeat (go_big_quiet_step ((go_at_call 55; exact CG _)))); refine wpQuiet_nil ?_; intro wq hw'; obtain ⟨⟨_, hq⟩, hw''⟩ := hw'; subst hw'')
          go_wp2
          refine ⟨⟨1, by omega, rfl, ?_, HB.out.trans ((fW0.step hq).mono (HB.out.size))⟩, by simp [intOf]; omega⟩
          rw [hp.out, HSTEP.out, HG.out]
          simp [HX.out]
        · obtain ⟨j, rfl⟩ : ∃ j, k = j + 1 := ⟨k - 1, by omega⟩
          obtain ⟨e', hej⟩ : ∃ e, es[j]? = some e := ⟨_, List.getElem?_eq_getElem (by rw [HN.out]; omega)⟩
          obtain ⟨b', o', kk', uu', hE, d0, d1, d2, d3, b1, b2, _, _⟩ := HHR.out.ent HHE.out HN.out hej
          cases hE
          obtain ⟨Ak', ck', rfl⟩ := slice_form b1
          obtain ⟨Au', cu', rfl⟩ := slice_form b2
          have G0 : ∀ q : Ext W0, q.w.cell? { block := b, off := o + j * 4 } = _ := fun q => q.h.cell (fW0.cell d0)
          have G1 : ∀ q : Ext W0, q.w.cell? { block := b, off := o + j * 4 + 1 } = _ := fun q => q.h.cell (fW0.cell d1)
          have G2 : ∀ q : Ext W0, q.w.cell? { block := b, off := o + j * 4 + 2 } = _ := fun q => q.h.cell (fW0.cell d2)
          have G3 : ∀ q : Ext W0, q.w.cell? { block := b, off := o + j * 4 + 3 } = _ := fun q => q.h.cell (fW0.cell d3)
          have hev' := Lib.hid (fW0.ent (show EntV wr S (.agg #[Value.slice Ak' e'.key.length ck', .int .i64 e'.seq, .bool e'.dead, Value.slice Au' e'.val.length cu']) e' from ⟨_, _, rfl, b1, b2⟩))
          have CC : ∀ q : Ext W0, Calls Try.prog 54 #[.agg #[Value.slice Ak' e'.key.length ck', .int .i64 e'.seq, .bool e'.dead, Value.slice Au' e'.val.length cu'], .agg #[Value.slice Ak e.key.length ck, .int .i64 e.seq, .bool e.dead, Value.slice Au e.val.length cu]] q.w fun r w'' => r = .returned (.int .i64 (cmpE e' e)) ∧ ∃ q' : Ext W0, w'' = q'.w := fun q => Ext.calls (compare_any S S _ _ e' e _ (q.h.ent hev'.out) (q.h.ent hev.out))
          have HJ := Lib.hid (show (if j + 1 = 0 then none else es[j + 1 - 1]?) = some e' by simpa using hej)
          have hd0 : decide ((0:Int) < (j:Int) + 1) = true := by first | (simp; done) | (simp; omega)
          clear hej b1 b2 d0 d1 d2 d3
          rcases hcm : decide (0 ≤ cmpE e' e) with _ | _
          · (refine wp_region_quiet_ext (by kernel_rfl) (by kernel_rfl) ?_; (repeat (go_big_quiet_step (first | (go_at_call 55; exact CG _) | (go_at_call 54; exact CC _)))); refine wpQuiet_nil ?_; intro wq hw'; obtain ⟨⟨_, hq⟩, hw''⟩ := hw'; subst hw'')
            go_wp2
            refine ⟨⟨j + 2, by omega, by go_num, ?_, HB.out.trans ((fW0.step hq).mono (HB.out.size))⟩, by simp [intOf]; omega⟩
            have h2 := of_decide_eq_false hcm
            rw [hp.out, HSTEP.out, HG.out, HJ.out]
            simp [HX.out, show cmpE e' e < 0 by omega]
          · (refine wp_region_quiet_ext (by kernel_rfl) (by kernel_rfl) ?_; (repeat (go_big_quiet_step (first | (go_at_call 55; exact CG _) | (go_at_call 54; exact CC _)))); refine wpQuiet_nil ?_; intro wq hw'; obtain ⟨⟨_, hq⟩, hw''⟩ := hw'; subst hw'')
            go_wp2
            refine bodyPost_ret (v := .bool _) (by simp [results, Try.results33, go_sem]; rfl) rfl ?_
            refine ⟨ret_bool ?_, HB.out.trans ((fW0.step hq).mono (HB.out.size))⟩
            have := hp.out
            have h2 := of_decide_eq_true hcm
            rw [HSTEP.out, HG.out, HJ.out] at this
            rw [this]
            simp [show ¬ cmpE e' e < 0 by omega]
    · go_wp2
      refine bodyPost_ret (v := .bool _) (by simp [results, Try.results33, go_sem]; rfl) rfl ?_
      refine ⟨ret_bool ?_, hbel⟩
      have := hp.out
      rw [List.drop_eq_nil_of_le (by rw [HN.out]; omega)] at this
      rw [this]; cases (if k = 0 then none else es[k - 1]?) <;> rfl
end Go.Proofs.Ytiffgjodbcploaa
end
section
namespace Go.Proofs.Ytiffgjodbcploaa
open Go.RowKit
attribute [local go_sem ↓] Go.wp_at_zero Go.wp_at_succ
set_option maxRecDepth 100000 in
set_option maxHeartbeats 4000000 in
theorem rordered_any (S : Nat → Prop) (v : Value) (es : List Ent) (w : World) (hv : Ents w S v es) :
    Calls Try.prog 7 #[v] w fun r w' => r = .returned (.bool (orderedE es)) ∧ Below w.heap.size w w' := by
  obtain ⟨A, c, cs, rfl, hc, hcm, hl, hr, he⟩ := hv
  obtain ⟨n, hn⟩ : ∃ n, es.length = n := ⟨_, rfl⟩
  rw [hn] at hr hl ⊢
  have HN := Lib.hid hn
  clear hn
  go_enter Try.func7, Try.ntmps7
  go_wp2
  go_loopw [3, 6] (fun _ t wr => ∃ k : Nat, k ≤ n ∧ t = .int .i64 k ∧ orderedE es = orderedFrom (if k = 0 then none else es[k - 1]?) (es.drop k) ∧ Below w.heap.size w wr) (fun _ t _ => n - (intOf t).toNat)
  case atStart => exact ⟨0, by omega, rfl, rfl, Below.refl _ _⟩
  case round =>
    obtain ⟨k, hk, rfl, hpre, hbel⟩ := hrel
    have hp := Lib.hid hpre
    clear hpre
    by_cases hkn : k < n
    · obtain ⟨e, hek⟩ : ∃ e, es[k]? = some e := ⟨_, List.getElem?_eq_getElem (by rw [HN.out]; exact hkn)⟩
      obtain ⟨b, o, kk, uu, rfl, c0, c1, c2, c3, b1, b2, hblt, _⟩ := (hr.below hbel).ent (he.below hbel) HN.out hek
      have hev := Lib.hid (show EntV wr S (.agg #[kk, .int .i64 e.seq, .bool e.dead, uu]) e from ⟨_, _, rfl, b1, b2⟩)
      have HSTEP := Lib.hid (orderedFrom_step es k e hek (if k = 0 then none else es[k - 1]?))
      have HX := Lib.hid hek
      obtain ⟨Ak, ck, rfl⟩ := slice_form b1
      obtain ⟨Au, cu, rfl⟩ := slice_form b2
      clear b1 b2 hek
      have fW0 : fr wr wr := fr.refl
      have F0 : ∀ q : Ext wr, q.w.cell? { block := b, off := o + k * 4 } = _ := fun q => q.h.cell (fW0.cell c0)
      have F1 : ∀ q : Ext wr, q.w.cell? { block := b, off := o + k * 4 + 1 } = _ := fun q => q.h.cell (fW0.cell c1)
      have F2 : ∀ q : Ext wr, q.w.cell? { block := b, off := o + k * 4 + 2 } = _ := fun q => q.h.cell (fW0.cell c2)
      have F3 : ∀ q : Ext wr, q.w.cell? { block := b, off := o + k * 4 + 3 } = _ := fun q => q.h.cell (fW0.cell c3)
      have HB := Lib.hid (hbel)
      have HHR := Lib.hid (hr.below hbel)
      have HHE := Lib.hid (he.below hbel)
      have CG : ∀ q : Ext wr, Calls Try.prog 24 #[.agg #[Value.slice Ak e.key.length ck, .int .i64 e.seq, .bool e.dead, Value.slice Au e.val.length cu]] q.w fun r w'' => r = .returned (.bool (goodE e)) ∧ ∃ q' : Ext wr, w'' = q'.w := fun q => Ext.calls (rgood_any S _ e _ (q.h.ent hev.out))
      go_wp2
      rcases hg : goodE e with _ | _
      · rw [hg] at CG
        have HG := Lib.hid hg
        clear hg
        (refine wp_region_quiet_ext (by kernel_rfl) (by kernel_rfl) ?_; (repeat (go_big_quiet_step ((go_at_call 24; exact CG _)))); refine wpQuiet_nil ?_; intro wq hw'; obtain ⟨⟨_, hq⟩, hw''⟩ := hw'; subst hw'')
        go_wp2
        refine bodyPost_ret (v := .bool _) (by simp [results, Try.results7, go_sem]; rfl) rfl ?_
        refine ⟨ret_bool ?_, HB.out.trans ((fW0.step hq).mono (HB.out.size))⟩
        have := hp.out
        rw [HSTEP.out, HG.out] at this
        rw [this]; rfl
      · rw [hg] at CG
        have HG := Lib.hid hg
        clear hg
        rcases Nat.eq_zero_or_pos k with h0 | h0
        · subst h0
          simp only [Nat.zero_mul, Nat.add_zero] at F0 F1 F2 F3
          (refine wp_region_quiet_ext (by kernel_rfl) (by kernel_rfl) ?_; (repeat (go_big_quiet_step ((go_at_call 24; exact CG _)))); refine wpQuiet_nil ?_; intro wq hw'; obtain ⟨⟨_, hq⟩, hw''⟩ := hw'; subst hw'')
          go_wp2
          refine ⟨⟨1, by omega, rfl, ?_, HB.out.trans ((fW0.step hq).mono (HB.out.size))⟩, by simp [intOf]; omega⟩
          rw [hp.out, HSTEP.out, HG.out]
          simp [HX.out]
        · obtain ⟨j, rfl⟩ : ∃ j, k = j + 1 := ⟨k - 1, by omega⟩
          obtain ⟨e', hej⟩ : ∃ e, es[j]? = some e := ⟨_, List.getElem?_eq_getElem (by rw [HN.out]; omega)⟩
          obtain ⟨b', o', kk', uu', hE, d0, d1, d2, d3, b1, b2, _, _⟩ := HHR.out.ent HHE.out HN.out hej
          cases hE
          obtain ⟨Ak', ck', rfl⟩ := slice_form b1
          obtain ⟨Au', cu', rfl⟩ := slice_form b2
          have G0 : ∀ q : Ext wr, q.w.cell? { block := b, off := o + j * 4 } = _ := fun q => q.h.cell (fW0.cell d0)
          have G1 : ∀ q : Ext wr, q.w.cell? { block := b, off := o + j * 4 + 1 } = _ := fun q => q.h.cell (fW0.cell d1)
          have G2 : ∀ q : Ext wr, q.w.cell? { block := b, off := o + j * 4 + 2 } = _ := fun q => q.h.cell (fW0.cell d2)
          have G3 : ∀ q : Ext wr, q.w.cell? { block := b, off := o + j * 4 + 3 } = _ := fun q => q.h.cell (fW0.cell d3)
          have hev' := Lib.hid (fW0.ent (show EntV wr S (.agg #[Value.slice Ak' e'.key.length ck', .int .i64 e'.seq, .bool e'.dead, Value.slice Au' e'.val.length cu']) e' from ⟨_, _, rfl, b1, b2⟩))
          have CC : ∀ q : Ext wr, Calls Try.prog 25 #[.agg #[Value.slice Ak' e'.key.length ck', .int .i64 e'.seq, .bool e'.dead, Value.slice Au' e'.val.length cu'], .agg #[Value.slice Ak e.key.length ck, .int .i64 e.seq, .bool e.dead, Value.slice Au e.val.length cu]] q.w fun r w'' => r = .returned (.int .i64 (cmpE e' e)) ∧ ∃ q' : Ext wr, w'' = q'.w := fun q => Ext.calls (rcmp_any S S _ _ e' e _ (q.h.ent hev'.out) (q.h.ent hev.out))
          have HJ := Lib.hid (show (if j + 1 = 0 then none else es[j + 1 - 1]?) = some e' by simpa using hej)
          have hd0 : decide ((0:Int) < (j:Int) + 1) = true := by first | (simp; done) | (simp; omega)
          clear hej b1 b2 d0 d1 d2 d3
          rcases hcm : decide (0 ≤ cmpE e' e) with _ | _
          · (refine wp_region_quiet_ext (by kernel_rfl) (by kernel_rfl) ?_; (repeat (go_big_quiet_step (first | (go_at_call 24; exact CG _) | (go_at_call 25; exact CC _)))); refine wpQuiet_nil ?_; intro wq hw'; obtain ⟨⟨_, hq⟩, hw''⟩ := hw'; subst hw'')
            go_wp2
            refine ⟨⟨j + 2, by omega, by go_num, ?_, HB.out.trans ((fW0.step hq).mono (HB.out.size))⟩, by simp [intOf]; omega⟩
            have h2 := of_decide_eq_false hcm
            rw [hp.out, HSTEP.out, HG.out, HJ.out]
            simp [HX.out, show cmpE e' e < 0 by omega]
          · (refine wp_region_quiet_ext (by kernel_rfl) (by kernel_rfl) ?_; (repeat (go_big_quiet_step (first | (go_at_call 24; exact CG _) | (go_at_call 25; exact CC _)))); refine wpQuiet_nil ?_; intro wq hw'; obtain ⟨⟨_, hq⟩, hw''⟩ := hw'; subst hw'')
            go_wp2
            refine bodyPost_ret (v := .bool _) (by simp [results, Try.results7, go_sem]; rfl) rfl ?_
            refine ⟨ret_bool ?_, HB.out.trans ((fW0.step hq).mono (HB.out.size))⟩
            have := hp.out
            have h2 := of_decide_eq_true hcm
            rw [HSTEP.out, HG.out, HJ.out] at this
            rw [this]
            simp [show ¬ cmpE e' e < 0 by omega]
    · go_wp2
      refine bodyPost_ret (v := .bool _) (by simp [results, Try.results7, go_sem]; rfl) rfl ?_
      refine ⟨ret_bool ?_, hbel⟩
      have := hp.out
      rw [List.drop_eq_nil_of_le (by rw [HN.out]; omega)] at this
      rw [this]; cases (if k = 0 then none else es[k - 1]?) <;> rfl
end Go.Proofs.Ytiffgjodbcploaa
end
section
namespace Go.Proofs.Ytiffgjodbcploaa
open Go.RowKit Go.BigFrame
attribute [local go_sem ↓] Go.wp_at_zero Go.wp_at_succ
structure Pr where
  key : List UInt8
  val : List UInt8
deriving DecidableEq
theorem info65 : (Try.prog.info? 85).map (fun i => (i.zero, i.size, i.bytes)) = some (some (.agg #[.slice none 0 0, .slice none 0 0]), 2, 48) := by kernel_rfl
def PrCells (w : World) (S : Nat → Prop) : List Value → List Pr → Prop
  | [], [] => True
  | k :: u :: cs, e :: es => Byt w S k e.key ∧ Byt w S u e.val ∧ PrCells w S cs es
  | _, _ => False
theorem PrCells.cons_inv {w : World} {S : Nat → Prop} {cs : List Value} {e : Pr} {es : List Pr} (h : PrCells w S cs (e :: es)) :
    ∃ k u cs', cs = k :: u :: cs' ∧ Byt w S k e.key ∧ Byt w S u e.val ∧ PrCells w S cs' es := by
  match cs, h with
  | k :: u :: cs', h =>
    obtain ⟨h1, h2, h3⟩ := h
    exact ⟨k, u, cs', rfl, h1, h2, h3⟩
theorem PrCells.nil_inv {w : World} {S : Nat → Prop} {cs : List Value} (h : PrCells w S cs []) : cs = [] := by
  cases cs with
  | nil => rfl
  | cons x l => simp [PrCells] at h
theorem PrCells.append {w : World} {S : Nat → Prop} {cs cs' : List Value} {es es' : List Pr} (h : PrCells w S cs es) (h' : PrCells w S cs' es') : PrCells w S (cs ++ cs') (es ++ es') := by
  induction es generalizing cs with
  | nil => rw [h.nil_inv]; exact h'
  | cons e es ih =>
    obtain ⟨k, u, cs1, rfl, h1, h2, h3⟩ := h.cons_inv
    exact ⟨h1, h2, ih h3⟩
theorem PrCells.one {w : World} {S : Nat → Prop} {k u : Value} {e : Pr} (h1 : Byt w S k e.key) (h2 : Byt w S u e.val) : PrCells w S [k, u] [e] := ⟨h1, h2, trivial⟩
theorem PrCells.imp {w w' : World} {S S' : Nat → Prop} {cs : List Value} {es : List Pr} (h : PrCells w S cs es) (hi : ∀ v bs, Byt w S v bs → Byt w' S' v bs) : PrCells w' S' cs es := by
  induction es generalizing cs with
  | nil => rw [h.nil_inv]; trivial
  | cons e es ih =>
    obtain ⟨k, u, cs1, rfl, h1, h2, h3⟩ := h.cons_inv
    exact ⟨hi _ _ h1, hi _ _ h2, ih h3⟩
theorem PrCells.below {w w' : World} {S : Nat → Prop} {cs : List Value} {es : List Pr} (h : PrCells w S cs es) (hb : Below w.heap.size w w') : PrCells w' S cs es := h.imp fun _ _ h => h.below hb
theorem PrCells.only {w w' : World} {T S : Nat → Prop} {cs : List Value} {es : List Pr} (h : PrCells w T cs es) (ho : Only S w w') (hd : ∀ i, i < w.heap.size → T i → ¬ S i) : PrCells w' T cs es := h.imp fun _ _ h => h.only ho hd
theorem PrCells.mono {w : World} {S S' : Nat → Prop} {cs : List Value} {es : List Pr} (h : PrCells w S cs es) (hS : ∀ i, S i → S' i) : PrCells w S' cs es := h.imp fun _ _ h => h.mono hS
theorem PrCells.at_ {w : World} {S : Nat → Prop} {cs : List Value} {es : List Pr} (h : PrCells w S cs es) {i : Nat} {e : Pr} (hi : es[i]? = some e) :
    ∃ k u, cs[2 * i]? = some k ∧ cs[2 * i + 1]? = some u ∧ Byt w S k e.key ∧ Byt w S u e.val := by
  induction es generalizing cs i with
  | nil => simp at hi
  | cons e' es ih =>
    obtain ⟨k, u, cs1, rfl, h1, h2, h3⟩ := h.cons_inv
    cases i with
    | zero =>
      simp at hi
      subst hi
      exact ⟨k, u, rfl, rfl, h1, h2⟩
    | succ i =>
      obtain ⟨k', u', a1, a4, a5, a6⟩ := ih h3 (i := i) (by simpa using hi)
      refine ⟨k', u', ?_, ?_, a5, a6⟩
      · rw [show 2 * (i + 1) = 2 * i + 2 from by omega]; simpa using a1
      · rw [show 2 * (i + 1) + 1 = (2 * i + 1) + 2 from by omega]; simpa using a4
/-- a slice value of pairs. -/
def Prs (w : World) (S : Nat → Prop) (v : Value) (es : List Pr) : Prop :=
  ∃ A c cs, v = .slice A es.length c ∧ es.length ≤ c ∧ c ≤ 9223372036854775807 ∧ es.length * 48 ≤ 140737488355328 ∧ Row w S A es.length 2 cs ∧ PrCells w S cs es
theorem Prs.nil (w : World) (S : Nat → Prop) : Prs w S (.slice none 0 0) [] := ⟨none, 0, [], rfl, by simp, by simp, by simp, Row.nil _ _ _ _, trivial⟩
theorem Prs.below {w w' : World} {S : Nat → Prop} {v : Value} {es : List Pr} (h : Prs w S v es) (hb : Below w.heap.size w w') : Prs w' S v es := by
  obtain ⟨A, c, cs, e, h1, h2, h3, h4, h5⟩ := h
  exact ⟨A, c, cs, e, h1, h2, h3, h4.below hb, h5.below hb⟩
theorem Prs.only {w w' : World} {T S : Nat → Prop} {v : Value} {es : List Pr} (h : Prs w T v es) (ho : Only S w w') (hd : ∀ i, i < w.heap.size → T i → ¬ S i) : Prs w' T v es := by
  obtain ⟨A, c, cs, e, h1, h2, h3, h4, h5⟩ := h
  exact ⟨A, c, cs, e, h1, h2, h3, h4.only ho hd, h5.only ho hd⟩
theorem Prs.mono {w : World} {S S' : Nat → Prop} {v : Value} {es : List Pr} (h : Prs w S v es) (hS : ∀ i, S i → S' i) : Prs w S' v es := by
  obtain ⟨A, c, cs, e, h1, h2, h3, h4, h5⟩ := h
  exact ⟨A, c, cs, e, h1, h2, h3, h4.mono hS, h5.mono hS⟩
theorem Row.pr {w : World} {S : Nat → Prop} {A : Option Addr} {n : Nat} {cs : List Value} {es : List Pr} (h : Row w S A n 2 cs) (he : PrCells w S cs es) (hn : es.length = n) {i : Nat} {e : Pr} (hi : es[i]? = some e) :
    ∃ b o k u, A = some ⟨b, o, none⟩ ∧ w.cell? ⟨b, o + i * 2, none⟩ = some k ∧ w.cell? ⟨b, o + i * 2 + 1, none⟩ = some u ∧ Byt w S k e.key ∧ Byt w S u e.val ∧ b < w.heap.size ∧ S b := by
  have hl : i < es.length := (List.getElem?_eq_some_iff.1 hi).1
  obtain ⟨b, o, rfl, hS, hb, hc⟩ := h.2 (by omega)
  obtain ⟨k, u, a1, a4, a5, a6⟩ := he.at_ hi
  refine ⟨b, o, k, u, rfl, ?_, ?_, a5, a6, hb, hS⟩
  · have := hc _ _ a1; rwa [show o + 2 * i = o + i * 2 from by omega] at this
  · have := hc _ _ a4; rwa [show o + (2 * i + 1) = o + i * 2 + 1 from by omega] at this
theorem Prs.of_own {w : World} {S : Nat → Prop} {base : Nat} {e : TypeId} {v : Value} {cs : List Value} {es : List Pr} (h : w.ownsRow base e 2 v es.length cs) (hc : PrCells w S cs es) (hS : ∀ i, base ≤ i → i < w.heap.size → S i)
    (hl : es.length * 48 ≤ 140737488355328) : Prs w S v es := by
  rcases h.2 with ⟨rfl, h0⟩ | ⟨g, cap, cur, rfl, hbg, hh, hcap, hcm, _⟩
  · have : es = [] := List.eq_nil_of_length_eq_zero h0
    subst this
    exact Prs.nil _ _
  · have hlt : g < w.heap.size := by
      rcases Nat.lt_or_ge g w.heap.size with h1 | h1
      · exact h1
      · rw [Array.getElem?_eq_none h1] at hh; cases hh
    refine ⟨_, _, cs, rfl, hcap, by unfold maxLen at hcm; omega, hl, ⟨h.1, fun _ => ⟨g, 0, rfl, hS _ hbg hlt, hlt, fun j u hu => ?_⟩⟩, hc⟩
    have := h.cells (g := g) rfl j u hu
    rwa [Addr.add_lit] at this
end Go.Proofs.Ytiffgjodbcploaa
end
section
namespace Go.Proofs.Ytiffgjodbcploaa
open Go.RowKit Go.BigFrame
attribute [local go_sem ↓] Go.wp_at_zero Go.wp_at_succ
set_option maxRecDepth 100000 in
set_option maxHeartbeats 1000000 in
theorem long_any (A B : Option Addr) (n c m d : Nat) (w : World) (hn : n ≤ 200) (hm : m ≤ 4096) :
    Calls Try.prog 62 #[.agg #[.slice A n c, .slice B m d]] w fun r w' => r = .returned (.bool false) ∧ fr w w' := by
  have h1 : ¬ (200 : Int) < (n : Int) := by omega
  have h2 : ¬ (4096 : Int) < (m : Int) := by omega
  go_enter Try.func62, Try.ntmps62
  go_wp2
  refine bodyPost_ret (v := .bool false) (by simp [results, Try.results62, go_sem]) rfl ?_
  exact ⟨rfl, fr.alloc fr.refl _⟩
/-- no pair is too long. -/
def Short (ps : List Pr) : Prop := ∀ p ∈ ps, p.key.length ≤ 200 ∧ p.val.length ≤ 4096
set_option maxRecDepth 100000 in
set_option maxHeartbeats 1000000 in
theorem pidx_any (S : Nat → Prop) (v : Value) (ps : List Pr) (w : World) (hv : Prs w S v ps) (hs : Short ps) :
    Calls Try.prog 80 #[v, .func (.func 62) #[] #[]] w fun r w' => r = .returned (.int .i64 (-1)) ∧ fr w w' := by
  have eg : ∀ args w, (callFunc 62 args).run Try.prog w = .ok (.enter 62 args) w := fun args w => by kernel_rfl
  obtain ⟨A, c, cs, rfl, hc, hcm, hl, hr, he⟩ := hv
  obtain ⟨n, hn⟩ : ∃ n, ps.length = n := ⟨_, rfl⟩
  rw [hn] at hr hl hc ⊢
  have HN := Lib.hid hn
  have HE := Lib.hid he
  have HR := Lib.hid hr
  have HSH := Lib.hid hs
  clear hn he hr hs
  go_enter Try.func80, Try.ntmps80
  go_wp2
  go_loopw [8] (fun t wr => ∃ i : Nat, i ≤ n ∧ t = .int .i64 i ∧ fr w wr) (fun t _ => n - (intOf t).toNat)
  case atStart => exact ⟨0, Nat.zero_le _, rfl, fr.refl⟩
  case round =>
    obtain ⟨i, hi, rfl, hf⟩ := hrel
    have HF := Lib.hid hf
    clear hf
    by_cases hin : i < n
    · obtain ⟨p, hp⟩ : ∃ p, ps[i]? = some p := ⟨_, List.getElem?_eq_getElem (by rw [HN.out]; exact hin)⟩
      obtain ⟨b, o, k, u, rfl, x0, x1, q0, q1, _⟩ := (HR.out.below HF.out).pr (HE.out.below HF.out) HN.out hp
      obtain ⟨Ak, ck, rfl⟩ := slice_form q0
      obtain ⟨Au, cu, rfl⟩ := slice_form q1
      obtain ⟨h1, h2⟩ := HSH.out p (List.mem_of_getElem? hp)
      obtain ⟨nk, hnk⟩ : ∃ k, p.key.length = k := ⟨_, rfl⟩
      obtain ⟨nu, hnu⟩ : ∃ k, p.val.length = k := ⟨_, rfl⟩
      rw [hnk] at h1 x0
      rw [hnu] at h2 x1
      have HC := Lib.hid (long_any Ak Au nk ck nu cu wr h1 h2)
      clear q0 q1 h1 h2 hnk hnu hp
      go_wp2_with (go_at_fn 62; refine HC.out.mono ?_; rintro r w2 ⟨rfl, f2⟩)
      exact ⟨⟨i + 1, by omega, by go_num, fr.step HF.out f2⟩, by simp [intOf]; omega⟩
    · obtain rfl : i = n := by omega
      go_wp2
      refine bodyPost_ret (v := .int .i64 (-1)) (by simp [results, Try.results80, go_sem]) rfl ?_
      exact ⟨rfl, HF.out⟩
set_option maxRecDepth 100000 in
set_option maxHeartbeats 1000000 in
theorem pcontains_any (S : Nat → Prop) (A : Option Addr) (n c : Nat) (ps : List Pr) (w : World) (hv : Prs w S (.slice A n c) ps) (hs : Short ps) :
    Calls Try.prog 63 #[.slice A n c, .func (.func 62) #[] #[]] w fun r w' => r = .returned (.bool false) ∧ fr w w' := by
  have HC := Lib.hid (pidx_any S _ ps w hv hs)
  clear hv
  go_enter Try.func63, Try.ntmps63
  go_wp2_with (go_at_call 80; refine HC.out.mono ?_; rintro r w2 ⟨rfl, f2⟩)
  refine bodyPost_ret (v := .bool false) (by simp [results, Try.results63, go_sem]) rfl ?_
  exact ⟨rfl, f2⟩
end Go.Proofs.Ytiffgjodbcploaa
end
section
namespace Go.Proofs.Ytiffgjodbcploaa
open Go.RowKit Go.BigFrame
attribute [local go_sem ↓] Go.wp_at_zero Go.wp_at_succ
set_option maxRecDepth 100000 in
set_option maxHeartbeats 1000000 in
theorem bclip_any (lo : Nat) (A : Option Addr) (n c : Nat) (bs : List UInt8) (w : World) (hv : OwnF w lo (.slice A n c) bs) (hn : bs.length = n) :
    Calls Try.prog 65 #[.slice A n c] w fun r w' => r = .returned (.slice A n n) ∧ OwnF w' lo (.slice A n n) bs ∧ w' = w := by
  obtain ⟨A', c', hE, h1, h2, h3, h4⟩ := hv
  injection hE with e1 e2 e3
  subst e1 e3
  have hnc : n ≤ c := by omega
  have HO : Hid (OwnF w lo (.slice A n n) bs) := Lib.hid ⟨A, n, by rw [hn], by omega, by omega, h3, by
    rcases h4 with rfl | ⟨g, cur, rfl, hg, hh, hcs, ht⟩
    · exact .inl (by omega)
    · exact .inr ⟨g, cur, rfl, hg, hh, by omega, ht⟩⟩
  clear h4 e2 h1 h3 hn
  rcases A with _ | ⟨b, o, sp⟩
  · go_enter Try.func65, Try.ntmps65
    go_wp2
    refine bodyPost_ret (v := .slice none n n) (by simp [results, Try.results65, go_sem]) rfl ?_
    exact ⟨rfl, HO.out, rfl⟩
  · go_enter Try.func65, Try.ntmps65
    go_wp2
    refine bodyPost_ret (v := .slice (some ⟨b, o, sp⟩) n n) (by simp [results, Try.results65, go_sem]) rfl ?_
    exact ⟨rfl, HO.out, rfl⟩
/-- one pair, packed behind a key. -/
def oneP (a : List UInt8) (p : Pr) : List UInt8 :=
  formN (sharedN a p.key) ++ formN (p.key.length - sharedN a p.key) ++ formN p.val.length ++ p.key.drop (sharedN a p.key) ++ p.val
def buildGo : List UInt8 → List Pr → List UInt8
  | _, [] => []
  | a, p :: ps => oneP a p ++ buildGo p.key ps
/-- keys that ascend from one on. -/
def Asc : List UInt8 → List Pr → Prop
  | _, [] => True
  | a, p :: ps => cmpB a p.key < 0 ∧ Asc p.key ps
theorem shared_lt : ∀ {a b : List UInt8}, cmpB a b < 0 → sharedN a b < b.length
  | [], [], h => by simp [cmpB] at h
  | [], y :: ys, _ => by simp [sharedN]
  | x :: xs, [], h => by simp [cmpB] at h
  | x :: xs, y :: ys, h => by
    unfold sharedN
    split
    · rename_i he
      subst he
      have h' : cmpB xs ys < 0 := by simpa [cmpB] using h
      have := shared_lt h'
      simp only [List.length_cons]
      omega
    · simp
theorem oneP_len {a : List UInt8} {p : Pr} (h : p.key.length ≤ 200 ∧ p.val.length ≤ 4096) : (oneP a p).length ≤ 4400 := by
  unfold oneP
  have h1 := (formN_len (sharedN a p.key)).2
  have h2 := (formN_len (p.key.length - sharedN a p.key)).2
  have h3 := (formN_len p.val.length).2
  simp only [List.length_append, List.length_drop]
  omega
theorem step_ownB {w : World} {ops : Array Oper} {o : Oper} {a : Act} {K : Act → World → Prop} {Q : Exit → Act → World → Prop} {E : Prop} (hgd : o.guard = none) (s x : Operand)
    (ho : o.op = .call { callee := .builtin .append, args := #[s, x], argTypes := #[23, 23] }) (lo : Nat) (v src : Value) (hs : a.eval s = v) (hx : a.eval x = src)
    (S : Nat → Prop) (bs cs : List UInt8) (hown : OwnF w lo v bs) (h : Byt w S src cs) (hl : bs.length + cs.length ≤ 140737488355328) (hnew : lo ≤ w.heap.size)
    (hK : ∀ A c w', OwnF w' lo (.slice A (bs ++ cs).length c) (bs ++ cs) → Below lo w w' → K (a.put o.dst (.slice A (bs ++ cs).length c)) w') :
    if Region.wanted o (yielded ops a.tmps) = true then Oper.wp Try.prog o a w K Q else E := by
  have hw : Region.wanted o (yielded ops a.tmps) = true := by simp [Region.wanted, hgd]
  rw [if_pos hw]
  obtain ⟨v', w', hrun, h2, h3, _⟩ := run_append_ownB w (fun i => lo ≤ i) (fun i => lo ≤ i) o.type v src S bs cs hown h hl (fun _ h => h) hnew
  obtain ⟨A, c, rfl⟩ := h2.form
  unfold Oper.wp execOp
  simp only [ho, resolve, invoke, builtin, Sem.run_bind, Sem.run_pure, Result.andThen_ok, List.map_toArray, List.map_cons, List.map_nil, hs, hx, hrun]
  exact hK A c w' h2 (RowKit.Below.grown (B := lo) (Below.refl _ _) h3 hnew (fun j e => (hown.blk e).1))
end Go.Proofs.Ytiffgjodbcploaa
end
