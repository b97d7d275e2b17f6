/-
entry.Clone and usanceref10.One: copies of an entry.
-/
import Derived.Test.YtiffgjodbcploaaGreatQPToldUpto3
import Derived.KernelRfl
import Derived.Test.YtiffgjodbcploaaGreatQPToldUpto0
import Derived.Test.YtiffgjodbcploaaGreatQPToldUpto2
import Derived.Lib.BytesEntry
import Derived.Shelf.Bytes.SlSmallAll
import Derived.Laws.IdiomStrings
import Derived.Laws.Externs
import Derived.LoopTactic
import Derived.Deep.LoopGhost
import Derived.Laws.AppendOwn
import Derived.Maps.AppendAt
import Derived.Deep.RegionHeld3
import Derived.Deep.DrawnRows
import Derived.StillTactics
import Derived.Laws.Pointers
import Derived.Deep.RegionWith
import Derived.Deep.RegionLaw
import Derived.OwnWalk
section
namespace Go.Proofs.YtiffgjodbcploaaGreat
set_option maxRecDepth 100000
open Go.RowKit Go.BigFrame
attribute [local go_sem ↓] Go.wp_at_zero Go.wp_at_succ
theorem and127 {y : Nat} (hy : y < 256) : bits .and .u8 (y : Int) 127 = ((y % 128 : Nat) : Int) := by
  have := bits_mask .u8 8 (by decide) wraps_u8 7 (by decide) (y : Int) (by omega) (by omega)
  rw [show ((2 : Int) ^ 7 - 1) = 127 by decide] at this
  rw [this]
  omega
theorem or64 {acc y j : Nat} (hy : y < 256) (ha : acc < 2 ^ (7 * j)) (hb : y % 128 * 2 ^ (7 * j) + acc < 18446744073709551616) :
    bits .or .u64 (acc : Int) (IntKind.u64.wrap (IntKind.u64.wrap (bits .and .u8 (y : Int) 127) * 2 ^ (7 * j))) = ((y % 128 * 2 ^ (7 * j) + acc : Nat) : Int) := by
  rw [and127 hy]
  have e1 : IntKind.u64.wrap ((y % 128 : Nat) : Int) = ((y % 128 : Nat) : Int) := by rw [wrap_u64]; omega
  have e2 : ((y % 128 : Nat) : Int) * 2 ^ (7 * j) = ((y % 128 * 2 ^ (7 * j) : Nat) : Int) := by simp
  obtain ⟨P, hP⟩ : ∃ P, y % 128 * 2 ^ (7 * j) = P := ⟨_, rfl⟩
  have ho := or_hi (c := y % 128) ha
  rw [hP] at hb e2 ho ⊢
  rw [e1, e2]
  have e3 : IntKind.u64.wrap (P : Int) = (P : Int) := by rw [wrap_u64]; omega
  rw [e3, (bits_nat .u64 64 (by decide) wraps64 acc P (by omega) (by omega)).2, ho]
  congr 1
  omega
theorem or64_9 {acc y : Nat} (hy : y < 256) (ha : acc < 2 ^ (7 * 9)) (hb : y % 128 * 2 ^ (7 * 9) + acc < 18446744073709551616) :
    bits .or .u64 (acc : Int) (IntKind.u64.wrap (IntKind.u64.wrap (bits .and .u8 (y : Int) 127) * 9223372036854775808)) = ((y % 128 * 2 ^ (7 * 9) + acc : Nat) : Int) := by
  have := or64 hy ha hb
  rwa [show (2 : Int) ^ (7 * 9) = 9223372036854775808 by decide] at this
set_option maxRecDepth 100000 in
set_option maxHeartbeats 1000000 in
theorem uint_any (S : Nat → Prop) (b o n c k v : Nat) (bs rest : List UInt8) (w : World) (hv : Byt w S (.slice (some ⟨b, o, none⟩) n c) bs) (hn : bs.length = n) (hk : k ≤ n) (hr : bs.drop k = formN v ++ rest) (hv64 : v < 18446744073709551616) :
    Calls Tryz.prog 69 #[.slice (some ⟨b, o, none⟩) n c, .int .i64 k] w fun r w' => r = .returned (.tuple #[.int .u64 v, .int .i64 (k + (formN v).length : Nat), .int .i64 0]) ∧ w' = w := by
  have hl := hv.len
  rw [hn] at hl
  have hfl := formN_len v
  have hlen : n - k = (formN v).length + rest.length := by have := congrArg List.length hr; rw [List.length_drop, List.length_append, hn] at this; exact this
  have hcc : n ≤ c ∧ c ≤ 9223372036854775807 := by obtain ⟨A, ca, hE, h1, h2, _⟩ := hv; injection hE with _ e2 e3; omega
  obtain ⟨m, hm⟩ : ∃ m, n - k = m := ⟨_, rfl⟩
  obtain ⟨cm, hcm⟩ : ∃ m, c - k = m := ⟨_, rfl⟩
  have hkc : ((c : Int) - (k : Int)) = ((c - k : Nat) : Int) := by omega
  have HR : Hid (Byt w S (.slice (some ⟨b, o + k, none⟩) m cm) (bs.drop k)) := Lib.hid (by
    have := Byt.cut hv (f := k) (m := m) (c' := cm) (by omega) (by omega) (by omega)
    rwa [List.take_of_length_le (by rw [List.length_drop, hn]; omega)] at this)
  have hmb : (formN v).length ≤ m ∧ 0 < m := by omega
  obtain ⟨rs, hrs⟩ : ∃ rs, bs.drop k = rs := ⟨_, rfl⟩
  rw [hrs] at HR hr
  have hrl : rs.length = m := by rw [← hrs, List.length_drop, hn, hm]
  have HRL := Lib.hid hrl
  have HRS := Lib.hid hr
  have HV64 := Lib.hid hv64
  have hck : ¬ c = k := by omega
  have hk0 : decide ((k : Int) < 0) = false := by simp
  have hk1 : decide (n < k) = false := by simp; omega
  have hk2 : decide ((n : Int) < (k : Int)) = false := by simp; omega
  obtain ⟨fl, hfe⟩ : ∃ x, (formN v).length = x := ⟨_, rfl⟩
  rw [hfe] at hmb hfl ⊢
  have HFE := Lib.hid hfe
  have HFB := Lib.hid hfl
  have HMB := Lib.hid hmb
  clear hv hrs hrl hr hlen hfe hfl hmb hv64
  go_enter Tryz.func69, Tryz.ntmps69
  go_wp2
  go_loopw [7, 22] (fun x t wr => ∃ (j u acc : Nat) (p : List UInt8), j ≤ 9 ∧ t = .int .i64 j ∧ x = .int .u64 acc ∧ rs = p ++ (formF (9 - j) u ++ rest) ∧ p.length = j ∧ fl = j + (formF (9 - j) u).length ∧ acc < 2 ^ (7 * j) ∧ u * 2 ^ (7 * j) + acc = v ∧ (0 < j → 0 < u) ∧ wr = w) (fun _ t _ => 10 - (intOf t).toNat)
  case atStart => exact ⟨0, v, 0, [], Nat.zero_le _, rfl, rfl, HRS.out, rfl, by rw [← HFE.out]; simp [formN], by decide, by simp, fun h => absurd h (by omega), rfl⟩
  case round =>
    obtain ⟨j, u, acc, p, hj, rfl, rfl, hsp, hpl, hfj, hac, hua, hju, rfl⟩ := hrel
    have HSP := Lib.hid hsp
    have HFJ := Lib.hid hfj
    have HAC := Lib.hid hac
    have HUA := Lib.hid hua
    have HJU := Lib.hid hju
    have HPL := Lib.hid hpl
    have hjm : j < m := by have := (formF_len (9 - j) u).1; have := HMB.out; omega
    obtain ⟨y, hy⟩ : ∃ y, rs[j]? = some y := ⟨_, List.getElem?_eq_getElem (by rw [HRL.out]; exact hjm)⟩
    obtain ⟨A', c', hE, _, _, _, hrow⟩ := HR.out
    injection hE with e1 e2 e3
    subst e1
    obtain ⟨b3, o3, u3, hb3, _, _, hu3, hcell⟩ := hrow.at_ (k := j) (by rw [HRL.out]; exact hjm)
    injection hb3 with hb3
    injection hb3 with hb4 hb5
    subst hb4 hb5
    obtain rfl : u3 = bcell y := by rw [List.getElem?_map, hy] at hu3; injection hu3 with hu; exact hu.symm
    unfold bcell at hcell
    have HY := Lib.hid hy
    have hyb := y.toNat_lt
    clear hrow hu3 hy hsp hfj hac hua hju hpl e2 e3
    have hy64 := HV64.out
    by_cases hu : 127 < u
    · have hj8 : j < 9 := by
        rcases (by omega : j < 9 ∨ j = 9) with h | h
        · exact h
        · have := HUA.out
          rw [h, show (2 : Nat) ^ (7 * 9) = 9223372036854775808 by decide] at this
          omega
      have hff : formF (9 - j) u = UInt8.ofNat (u % 128 + 128) :: formF (9 - (j + 1)) (u / 128) := by
        rw [show 9 - j = (9 - (j + 1)) + 1 by omega]
        conv => lhs; unfold formF
        rw [if_neg (by omega)]
      have hyu : y.toNat = u % 128 + 128 := by
        have h1 := HY.out
        rw [HSP.out, hff, List.getElem?_append_right (by rw [HPL.out]; exact Nat.le_refl _), HPL.out, Nat.sub_self] at h1
        simp only [List.cons_append, List.getElem?_cons_zero, Option.some.injEq] at h1
        rw [← h1]
        simp
        omega
      have hpw : (2 : Nat) ^ (7 * (j + 1)) = 128 * 2 ^ (7 * j) := by rw [show 7 * (j + 1) = 7 * j + 7 by omega, Nat.pow_add]; omega
      have hP : 0 < (2 : Nat) ^ (7 * j) := Nat.two_pow_pos _
      have hac := HAC.out
      have hua := HUA.out
      obtain ⟨P, hPe⟩ : ∃ P, (2 : Nat) ^ (7 * j) = P := ⟨_, rfl⟩
      have e1 : u * P = u / 128 * (128 * P) + u % 128 * P := by
        rw [← Nat.mul_assoc, ← Nat.add_mul]
        congr 1
        omega
      have hy128 : y.toNat % 128 = u % 128 := by omega
      have e2 : u % 128 * P ≤ 127 * P := Nat.mul_le_mul_right _ (by omega)
      have hor := or64 (acc := acc) (y := y.toNat) (j := j) hyb hac (by rw [hPe, hy128]; rw [hPe] at hua; omega)
      rw [hy128, hPe] at hor
      rw [hPe] at hac hua hpw
      have hnx : u / 128 * 2 ^ (7 * (j + 1)) + (u % 128 * P + acc) = v := by rw [hpw]; omega
      have hna : u % 128 * P + acc < 2 ^ (7 * (j + 1)) := by rw [hpw]; omega
      obtain ⟨acc2, ha2⟩ : ∃ a, u % 128 * P + acc = a := ⟨_, rfl⟩
      rw [ha2] at hor hnx hna
      have hjb : ((j : Int) == 9) = false := by simp; omega
      have hyc : decide ((y.toNat : Int) < 128) = false := by simp; omega
      have hyd : decide (y.toNat < 128) = false := by simp; omega
      have HNX := Lib.hid hnx
      have HNA := Lib.hid hna
      have HFF := Lib.hid hff
      have HU := Lib.hid (show 0 < u / 128 by omega)
      have HYU := Lib.hid hyu
      rw [show (2 : Int) ^ (7 * j) = (2 : Int) ^ (7 * j) from rfl] at hor
      clear hff hyu hpw hP hac hua hPe e1 hy128 e2 hnx hna ha2 hu hy64
      go_wp2
      refine ⟨⟨j + 1, u / 128, acc2, p ++ [UInt8.ofNat (u % 128 + 128)], by omega, by go_num, by first | rfl | trivial, ?_, by rw [List.length_append, HPL.out]; rfl, ?_, HNA.out, HNX.out, fun _ => HU.out, by first | rfl | trivial⟩, by simp [intOf]; omega⟩
      · rw [List.append_assoc]
        have := HSP.out
        rw [HFF.out] at this
        exact this
      · have := HFJ.out
        rw [HFF.out, List.length_cons] at this
        omega
    · have hff : formF (9 - j) u = [UInt8.ofNat u] := by
        rcases h : 9 - j with _ | q
        · rfl
        · unfold formF
          rw [if_pos (by omega)]
      have hyu : y.toNat = u := by
        have h1 := HY.out
        rw [HSP.out, hff, List.getElem?_append_right (by rw [HPL.out]; exact Nat.le_refl _), HPL.out, Nat.sub_self] at h1
        simp only [List.singleton_append, List.getElem?_cons_zero, Option.some.injEq] at h1
        rw [← h1]
        simp
        omega
      have HFJ1 : Hid (fl = j + 1) := Lib.hid (by rw [HFJ.out, hff]; rfl)
      have hy128 : y.toNat % 128 = u := by omega
      have hyc : decide ((y.toNat : Int) < 128) = true := by simp; omega
      have hyd : decide (y.toNat < 128) = true := by simp; omega
      rcases (by omega : j < 9 ∨ j = 9) with h9 | h9
      · have hor := or64 (acc := acc) (y := y.toNat) (j := j) hyb HAC.out (by rw [hy128, HUA.out]; exact hy64)
        rw [hy128, HUA.out] at hor
        have hjb : ((j : Int) == 9) = false := by simp; omega
        rcases Nat.eq_zero_or_pos j with h0 | h0
        · have hjp : decide ((0 : Int) < (j : Int)) = false := by simp; omega
          have hjq : decide (0 < j) = false := by simp; omega
          rcases Nat.eq_zero_or_pos y.toNat with hz | hz
          · have hyz : ((y.toNat : Int) == 0) = true := by simp; omega
            clear hff hyu hy128 h0 hu hy64 hz
            go_wp2
            have e : ((k : Int) + (j : Int) + 1) = (k : Int) + (fl : Int) := by rw [HFJ1.out]; omega
            refine bodyPost_ret (v := .tuple #[.int .u64 v, .int .i64 ((k : Int) + (j : Int) + 1), .int .i64 0]) (by simp [results, Tryz.results69, go_sem]) rfl ?_
            exact ⟨by rw [e], rfl⟩
          · have hyz : ((y.toNat : Int) == 0) = false := by simp; omega
            clear hff hyu hy128 h0 hu hy64 hz
            go_wp2
            have e : ((k : Int) + (j : Int) + 1) = (k : Int) + (fl : Int) := by rw [HFJ1.out]; omega
            refine bodyPost_ret (v := .tuple #[.int .u64 v, .int .i64 ((k : Int) + (j : Int) + 1), .int .i64 0]) (by simp [results, Tryz.results69, go_sem]) rfl ?_
            exact ⟨by rw [e], rfl⟩
        · have hyz : ((y.toNat : Int) == 0) = false := by have := HJU.out h0; simp; omega
          clear hff hyu hy128 h0 hu hy64
          go_wp2
          have e : ((k : Int) + (j : Int) + 1) = (k : Int) + (fl : Int) := by rw [HFJ1.out]; omega
          refine bodyPost_ret (v := .tuple #[.int .u64 v, .int .i64 ((k : Int) + (j : Int) + 1), .int .i64 0]) (by simp [results, Tryz.results69, go_sem]) rfl ?_
          exact ⟨by rw [e], rfl⟩
      · subst h9
        have hor := or64_9 (acc := acc) (y := y.toNat) hyb HAC.out (by rw [hy128, HUA.out]; exact hy64)
        rw [hy128, HUA.out] at hor
        have hyz : ((y.toNat : Int) == 0) = false := by have := HJU.out (by omega); simp; omega
        have hy1 : decide ((1 : Int) < (y.toNat : Int)) = false := by
          have := HUA.out
          rw [show (2 : Nat) ^ (7 * 9) = 9223372036854775808 by decide] at this
          simp
          omega
        clear hff hyu hy128 hu hy64
        go_wp2
        have e : ((k : Int) + 9 + 1) = (k : Int) + (fl : Int) := by rw [HFJ1.out]; omega
        refine bodyPost_ret (v := .tuple #[.int .u64 v, .int .i64 ((k : Int) + 9 + 1), .int .i64 0]) (by simp [results, Tryz.results69, go_sem]) rfl ?_
        exact ⟨by rw [e], rfl⟩
set_option maxRecDepth 100000 in
set_option maxHeartbeats 1000000 in
theorem vbytes_any (S : Nat → Prop) (b o n c k most : Nat) (bs xs rest : List UInt8) (w : World) (hv : Byt w S (.slice (some ⟨b, o, none⟩) n c) bs) (hn : bs.length = n) (hk : k ≤ n) (hr : bs.drop k = formN xs.length ++ xs ++ rest) (hx : xs.length ≤ most) (hmo : most ≤ 1099511627776) (hx0 : 0 < xs.length) :
    Calls Tryz.prog 93 #[.slice (some ⟨b, o, none⟩) n c, .int .i64 k, .int .i64 most] w fun r w' => ∃ v', r = .returned (.tuple #[v', .int .i64 (k + (formN xs.length).length + xs.length : Nat), .int .i64 0]) ∧ BytL w' w.heap.size v' xs ∧ fr w w' := by
  have hl := hv.len
  rw [hn] at hl
  have hfl := formN_len xs.length
  have hlen : n - k = (formN xs.length).length + xs.length + rest.length := by have := congrArg List.length hr; rw [List.length_drop, List.length_append, List.length_append, hn] at this; exact this
  have hcc : n ≤ c ∧ c ≤ 9223372036854775807 := by obtain ⟨A, ca, hE, h1, h2, _⟩ := hv; injection hE with _ e2 e3; omega
  have HU := Lib.hid (uint_any S b o n c k xs.length bs (xs ++ rest) w hv hn hk (by rw [hr, List.append_assoc]) (by omega))
  obtain ⟨m, hm⟩ : ∃ m, xs.length = m := ⟨_, rfl⟩
  obtain ⟨f, hf⟩ : ∃ m, (formN xs.length).length = m := ⟨_, rfl⟩
  obtain ⟨g, hg⟩ : ∃ m, k + f = m := ⟨_, rfl⟩
  rw [hf, hg, hm] at HU
  rw [hf, hg, hm]
  rw [hf, hm] at hlen
  have hcut : Byt w S (.slice (some ⟨b, o + g, none⟩) m m) xs := by
    have := Byt.cut hv (f := g) (m := m) (c' := m) (by omega) (Nat.le_refl _) (by omega)
    rw [← hg, ← List.drop_drop, hr, List.append_assoc, List.drop_left' hf, List.take_left' hm, hg] at this
    exact this
  have HC := Lib.hid (bcloneL_any S _ xs w hcut)
  have hgn : g + m ≤ n := by omega
  have hm0 : ¬ m = 0 := by omega
  have hgm : ¬ g + m = g := by omega
  have hgs : g + m - g = m := by omega
  rw [hm] at hx
  have hg2 : ((k : Int) + (f : Int)) = (g : Int) := by omega
  clear hv hcut hr hfl hf
  have h1 : ¬ ((most : Int) < 0) := by omega
  have h2 : decide ((most : Int) < 0) = false := by simp
  have h3 : ¬ ((most : Int) < (m : Int)) := by omega
  have h5 : (most : Int) % 18446744073709551616 = (most : Int) := by omega
  have h6 : ((n : Int) - (g : Int)) % 18446744073709551616 = (n : Int) - (g : Int) := by omega
  have h7 : ¬ ((n : Int) - (g : Int) < (m : Int)) := by omega
  go_enter Tryz.func93, Tryz.ntmps93
  go_upto_region 9 with (go_at_call 69; refine HU.out.mono ?_; rintro r w1 ⟨rfl, rfl⟩)
  go_wp2_with (go_at_call 39; refine HC.out.mono ?_; rintro r w2 ⟨v', rfl, hv', hf'⟩)
  refine bodyPost_ret (v := .tuple #[v', .int .i64 ((g : Int) + (m : Int)), .int .i64 0]) (by simp [results, Tryz.results93, go_sem]) rfl ?_
  exact ⟨_, by simp, hv', hf'⟩
end Go.Proofs.YtiffgjodbcploaaGreat
end
section
namespace Go.Proofs.YtiffgjodbcploaaGreat
set_option maxRecDepth 100000
open Go.RowKit Go.BigFrame
attribute [local go_sem ↓] Go.wp_at_zero Go.wp_at_succ
/-- how many bytes two keys begin alike. -/
def sharedN : List UInt8 → List UInt8 → Nat
  | x :: xs, y :: ys => if x = y then sharedN xs ys + 1 else 0
  | _, _ => 0
theorem sharedN_at : ∀ {xs ys : List UInt8} {i : Nat}, xs.take i = ys.take i → (∀ x y, xs[i]? = some x → ys[i]? = some y → x ≠ y) → i ≤ xs.length → i ≤ ys.length → sharedN xs ys = i
  | [], ys, i, _, _, h1, _ => by simp at h1; subst h1; cases ys <;> rfl
  | x :: xs, [], i, _, _, _, h2 => by simp at h2; subst h2; rfl
  | x :: xs, y :: ys, 0, _, hd, _, _ => by
    unfold sharedN
    rw [if_neg (hd x y rfl rfl)]
  | x :: xs, y :: ys, i + 1, ht, hd, h1, h2 => by
    simp only [List.take_succ_cons, List.cons.injEq] at ht
    unfold sharedN
    rw [if_pos ht.1, sharedN_at (i := i) ht.2 (fun a b ha hb => hd a b (by simpa using ha) (by simpa using hb)) (by simpa using h1) (by simpa using h2)]
set_option maxRecDepth 100000 in
set_option maxHeartbeats 1000000 in
theorem shared_any (S S' : Nat → Prop) (a b : Value) (xs ys : List UInt8) (w : World) (ha : Byt w S a xs) (hb : Byt w S' b ys) :
    Calls Tryz.prog 61 #[a, b] w fun r w' => r = .returned (.int .i64 (sharedN xs ys : Nat)) ∧ fr w w' := by
  have hla := ha.len
  have hlb := hb.len
  obtain ⟨A, c, rfl⟩ := slice_form ha
  obtain ⟨B, d, rfl⟩ := slice_form hb
  have HA := Lib.hid ha
  have HB := Lib.hid hb
  obtain ⟨n, hn⟩ : ∃ n, xs.length = n := ⟨_, rfl⟩
  obtain ⟨m, hm⟩ : ∃ n, ys.length = n := ⟨_, rfl⟩
  rw [hn] at hla HA ⊢
  rw [hm] at hlb HB ⊢
  have HN := Lib.hid hn
  have HM := Lib.hid hm
  obtain ⟨q, hq⟩ : ∃ q, min n m = q := ⟨_, rfl⟩
  have hmin : min (n : Int) (m : Int) = (q : Int) := by omega
  have HQ : Hid (q ≤ n ∧ q ≤ m ∧ (q = n ∨ q = m)) := Lib.hid (by omega)
  clear ha hb hn hm hq
  go_enter Tryz.func61, Tryz.ntmps61
  go_wp2
  go_loopw [11] (fun t wr => ∃ i : Nat, i ≤ q ∧ t = .int .i64 i ∧ xs.take i = ys.take i ∧ fr w wr) (fun t _ => q - (intOf t).toNat)
  case atStart => exact ⟨0, Nat.zero_le _, rfl, rfl, fr.refl⟩
  case round =>
    obtain ⟨i, hi, rfl, htk, hf⟩ := hrel
    have HT := Lib.hid htk
    have HF := Lib.hid hf
    clear htk hf
    by_cases hiq : i < q
    · obtain ⟨x, hx⟩ : ∃ x, xs[i]? = some x := ⟨_, List.getElem?_eq_getElem (by have := HQ.out; have := HN.out; omega)⟩
      obtain ⟨y, hy⟩ : ∃ y, ys[i]? = some y := ⟨_, List.getElem?_eq_getElem (by have := HQ.out; have := HM.out; omega)⟩
      have hin : i < n := by have := HQ.out; omega
      have him : i < m := by have := HQ.out; omega
      obtain ⟨A', c', hE, _, _, _, hrow⟩ := HA.out.below HF.out
      injection hE with e1 e2 e3
      subst e1
      obtain ⟨b1, o1, u1, rfl, _, _, hu1, hc1⟩ := hrow.at_ (k := i) (by rw [HN.out]; exact hin)
      obtain rfl : u1 = bcell x := by rw [List.getElem?_map, hx] at hu1; injection hu1 with hu; exact hu.symm
      obtain ⟨B', d', hE', _, _, _, hrow'⟩ := HB.out.below HF.out
      injection hE' with e4 e5 e6
      subst e4
      obtain ⟨b2, o2, u2, rfl, _, _, hu2, hc2⟩ := hrow'.at_ (k := i) (by rw [HM.out]; exact him)
      obtain rfl : u2 = bcell y := by rw [List.getElem?_map, hy] at hu2; injection hu2 with hu; exact hu.symm
      unfold bcell at hc1 hc2
      have F1 : ∀ q : Ext wr, q.w.cell? { block := b1, off := o1 + i } = _ := fun q => q.h.cell hc1
      have F2 : ∀ q : Ext wr, q.w.cell? { block := b2, off := o2 + i } = _ := fun q => q.h.cell hc2
      have HX := Lib.hid hx
      have HY := Lib.hid hy
      clear hx hy hrow hrow' hu1 hu2 hc1 hc2 e2 e3 e5 e6
      by_cases hxy : x = y
      · subst hxy
        go_wp2
        (refine wp_region_quiet_ext (by kernel_rfl) (by kernel_rfl) ?_; (repeat (go_big_quiet_step (fail))); refine wpQuiet_nil ?_; intro wq hw'; obtain ⟨⟨_, hq⟩, hw''⟩ := hw'; subst hw'')
        go_wp2
        exact ⟨⟨i + 1, by omega, by go_num, by rw [take_snoc HX.out, take_snoc HY.out, HT.out], fr.step HF.out hq⟩, by simp [intOf]; omega⟩
      · have hne : ¬ (x.toNat : Int) = (y.toNat : Int) := fun h => hxy (UInt8.toNat_inj.1 (by omega))
        have hb1 : ((x.toNat : Int) == (y.toNat : Int)) = false := by simpa using hne
        have hb2 : ((x.toNat : Int) != (y.toNat : Int)) = true := by simpa using hne
        have HXY := Lib.hid hxy
        clear hxy
        go_wp2
        (refine wp_region_quiet_ext (by kernel_rfl) (by kernel_rfl) ?_; (repeat (go_big_quiet_step (fail))); refine wpQuiet_nil ?_; intro wq hw'; obtain ⟨⟨_, hq⟩, hw''⟩ := hw'; subst hw'')
        go_wp2
        refine bodyPost_ret (v := .int .i64 i) (by simp [results, Tryz.results61, go_sem]) rfl ?_
        exact ⟨by rw [sharedN_at HT.out (fun a b ha hb => by rw [HX.out] at ha; rw [HY.out] at hb; injection ha with ha; injection hb with hb; subst ha hb; exact HXY.out) (by rw [HN.out]; omega) (by rw [HM.out]; omega)], fr.step HF.out hq⟩
    · obtain rfl : i = q := by omega
      go_wp2
      refine bodyPost_ret (v := .int .i64 i) (by simp [results, Tryz.results61, go_sem]) rfl ?_
      exact ⟨by rw [sharedN_at HT.out (fun a b ha hb => by
        have h1 := (List.getElem?_eq_some_iff.1 ha).1
        have h2 := (List.getElem?_eq_some_iff.1 hb).1
        rw [HN.out] at h1
        rw [HM.out] at h2
        have := HQ.out
        omega) (by rw [HN.out]; exact HQ.out.1) (by rw [HM.out]; exact HQ.out.2.1)], HF.out⟩
end Go.Proofs.YtiffgjodbcploaaGreat
end
section
namespace Go.Proofs.YtiffgjodbcploaaGreat
set_option maxRecDepth 100000
/-- bytes in order: -1, 0, 1 -/
def cmpB : List UInt8 → List UInt8 → Int
  | [], [] => 0
  | [], _ :: _ => -1
  | _ :: _, [] => 1
  | a :: l, b :: m => if a < b then -1 else if b < a then 1 else cmpB l m
theorem cmpB_range (a b : List UInt8) : cmpB a b = -1 ∨ cmpB a b = 0 ∨ cmpB a b = 1 := by
  induction a generalizing b with
  | nil => cases b <;> simp [cmpB]
  | cons x l ih =>
    cases b with
    | nil => simp [cmpB]
    | cons y m => simp only [cmpB]; split <;> (try split) <;> simp [ih]
theorem cmpB_self (a : List UInt8) : cmpB a a = 0 := by
  induction a with
  | nil => rfl
  | cons x l ih => simp [cmpB, ih]
theorem cmpB_eq {a b : List UInt8} : cmpB a b = 0 ↔ a = b := by
  constructor
  · intro h
    induction a generalizing b with
    | nil => cases b with
      | nil => rfl
      | cons y m => simp [cmpB] at h
    | cons x l ih =>
      cases b with
      | nil => simp [cmpB] at h
      | cons y m =>
        simp only [cmpB] at h
        split at h
        · omega
        · split at h
          · omega
          · rename_i h1 h2
            have hxy : x = y := by
              have := UInt8.le_antisymm (UInt8.not_lt.1 h2) (UInt8.not_lt.1 h1)
              exact this
            rw [hxy, ih h]
  · rintro rfl
    exact cmpB_self a
theorem cmpB_swap (a b : List UInt8) : cmpB b a = - cmpB a b := by
  induction a generalizing b with
  | nil => cases b <;> simp [cmpB]
  | cons x l ih =>
    cases b with
    | nil => simp [cmpB]
    | cons y m =>
      simp only [cmpB]
      by_cases h1 : x < y
      · have h2 : ¬ y < x := fun h => absurd (UInt8.lt_trans h1 h) (UInt8.lt_irrefl _)
        simp [h1, h2]
      · by_cases h2 : y < x
        · simp [h1, h2]
        · simp [h1, h2, ih]
theorem cmpB_trans {a b c : List UInt8} (h1 : cmpB a b < 0) (h2 : cmpB b c < 0) : cmpB a c < 0 := by
  induction a generalizing b c with
  | nil =>
    cases b with
    | nil => simp [cmpB] at h1
    | cons y m => cases c with
      | nil => simp [cmpB] at h2
      | cons z k => simp [cmpB]
  | cons x l ih =>
    cases b with
    | nil => simp [cmpB] at h1
    | cons y m =>
      cases c with
      | nil => simp [cmpB] at h2
      | cons z k =>
        simp only [cmpB] at h1 h2 ⊢
        by_cases a1 : x < y
        · by_cases a2 : y < z
          · simp [UInt8.lt_trans a1 a2]
          · by_cases a3 : z < y
            · simp [a2, a3] at h2
            · have e : y = z := UInt8.le_antisymm (UInt8.not_lt.1 a3) (UInt8.not_lt.1 a2)
              subst e
              simp [a1]
        · by_cases a2 : y < x
          · simp [a1, a2] at h1
          · have e : x = y := UInt8.le_antisymm (UInt8.not_lt.1 a2) (UInt8.not_lt.1 a1)
            subst e
            simp [a1] at h1
            by_cases a3 : x < z
            · simp [a3]
            · by_cases a4 : z < x
              · simp [a3, a4] at h2
              · simp [a3, a4] at h2 ⊢
                exact ih h1 h2
/-- an entry -/
structure Ent where
  key : List UInt8
  seq : Int
  dead : Bool
  val : List UInt8
deriving DecidableEq
/-- may an entry be, by its key's length, its number, whether it is dead, its value's length -/
def goodR (n : Nat) (seq : Int) (dead : Bool) (m : Nat) : Bool := decide (0 < n) && (decide (n ≤ 200) && (decide (0 < seq) && (decide (seq ≤ 1099511627776) && (decide (m ≤ 4096) && !(dead && decide (0 < m))))))
def goodE (e : Ent) : Bool := goodR e.key.length e.seq e.dead e.val.length
theorem goodR_t {n : Nat} {seq : Int} {dead : Bool} {m : Nat} : goodR n seq dead m = true ↔ 0 < n ∧ n ≤ 200 ∧ 0 < seq ∧ seq ≤ 1099511627776 ∧ m ≤ 4096 ∧ (dead = true → m = 0) := by
  unfold goodR
  cases dead <;> simp <;> omega
theorem goodR_f {n : Nat} {seq : Int} {dead : Bool} {m : Nat} (h : ¬ (0 < n ∧ n ≤ 200 ∧ 0 < seq ∧ seq ≤ 1099511627776 ∧ m ≤ 4096 ∧ (dead = true → m = 0))) : goodR n seq dead m = false := by
  rcases hb : goodR n seq dead m with _ | _
  · rfl
  · exact absurd (goodR_t.1 hb) h
def cmpI (a b : Int) : Int := if a < b then -1 else if b < a then 1 else 0
def cmpE (a b : Ent) : Int := if cmpB a.key b.key = 0 then cmpI b.seq a.seq else cmpB a.key b.key
theorem cmpI_swap (a b : Int) : cmpI b a = - cmpI a b := by unfold cmpI; split <;> split <;> omega
theorem cmpI_range (a b : Int) : cmpI a b = -1 ∨ cmpI a b = 0 ∨ cmpI a b = 1 := by unfold cmpI; split <;> (try split) <;> omega
theorem cmpE_swap (a b : Ent) : cmpE b a = - cmpE a b := by
  unfold cmpE
  rw [cmpB_swap a.key b.key, cmpI_swap b.seq a.seq]
  split <;> split <;> omega
theorem cmpE_range (a b : Ent) : cmpE a b = -1 ∨ cmpE a b = 0 ∨ cmpE a b = 1 := by
  unfold cmpE
  split
  · exact cmpI_range _ _
  · exact cmpB_range _ _
theorem cmpE_eq {a b : Ent} : cmpE a b = 0 ↔ a.key = b.key ∧ a.seq = b.seq := by
  unfold cmpE
  split
  · rename_i h
    rw [cmpB_eq] at h
    unfold cmpI
    constructor
    · intro h2
      refine ⟨h, ?_⟩
      split at h2 <;> (try split at h2) <;> omega
    · rintro ⟨_, h2⟩
      rw [h2]; simp
  · rename_i h
    constructor
    · intro h2; exact absurd h2 h
    · rintro ⟨h2, _⟩; exact absurd (cmpB_eq.2 h2) h
theorem cmpE_trans {a b c : Ent} (h1 : cmpE a b < 0) (h2 : cmpE b c < 0) : cmpE a c < 0 := by
  unfold cmpE at *
  by_cases k1 : cmpB a.key b.key = 0
  · have e1 := cmpB_eq.1 k1
    rw [if_pos k1] at h1
    rw [e1]
    by_cases k2 : cmpB b.key c.key = 0
    · rw [if_pos k2] at h2 ⊢
      unfold cmpI at *
      split at h1 <;> split at h2 <;> split <;> (try split at h1) <;> (try split at h2) <;> (try split) <;> omega
    · rw [if_neg k2] at h2 ⊢
      exact h2
  · rw [if_neg k1] at h1
    by_cases k2 : cmpB b.key c.key = 0
    · have e2 := cmpB_eq.1 k2
      rw [← e2, if_neg k1]
      exact h1
    · rw [if_neg k2] at h2
      have h3 := cmpB_trans h1 h2
      rw [if_neg (by omega)]
      exact h3
/-- all may be, and they are in order -/
def orderedFrom : Option Ent → List Ent → Bool
  | _, [] => true
  | none, e :: l => goodE e && orderedFrom (some e) l
  | some p, e :: l => goodE e && (decide (cmpE p e < 0) && orderedFrom (some e) l)
def orderedE (l : List Ent) : Bool := orderedFrom none l
end Go.Proofs.YtiffgjodbcploaaGreat
end
section
namespace Go.Proofs.YtiffgjodbcploaaGreat
set_option maxRecDepth 100000
open Go.RowKit
theorem cmp_lists (l m : List UInt8) : Extern.BytealgCompare.cmp ⟨l.toArray⟩ ⟨m.toArray⟩ = cmpB l m := by
  unfold Extern.BytealgCompare.cmp
  simp only [ba_get, ba_size]
  induction l generalizing m with
  | nil => cases m <;> simp [cmpB]
  | cons x l ih =>
    cases m with
    | nil => simp [cmpB]
    | cons y m =>
      have ih := ih m
      have e : min (x :: l).length (y :: m).length = min l.length m.length + 1 := by simp
      rw [e, List.range_succ_eq_map, List.find?_cons]
      by_cases hxy : x = y
      · subst hxy
        have h0 : ((x :: l).getD 0 default != (x :: m).getD 0 default) = false := by simp
        rw [h0]
        simp only [List.find?_map, Function.comp_def, Nat.succ_eq_add_one, List.getD_cons_succ]
        simp only [cmpB, UInt8.lt_irrefl, if_false]
        rw [← ih]
        rcases (List.range (min l.length m.length)).find? (fun i => l.getD i default != m.getD i default) with _ | i
        · simp
        · simp
      · have h0 : ((x :: l).getD 0 default != (y :: m).getD 0 default) = true := by simpa using hxy
        rw [h0]
        simp only [cmpB, List.getD_cons_zero]
        by_cases h1 : x < y
        · simp [h1]
        · have h2 : y < x := by
            rcases UInt8.lt_or_lt_of_ne hxy with h | h
            · exact absurd h h1
            · exact h
          simp [h1, h2]
set_option maxHeartbeats 1000000 in
theorem bcompare_any (S S' : Nat → Prop) (v v' : Value) (xs ys : List UInt8) (w : World) (hx : Byt w S v xs) (hy : Byt w S' v' ys) :
    Calls Tryz.prog 60 #[v, v'] w fun e w' => e = .returned (.int .i64 (cmpB xs ys)) ∧ w = w' := by
  have h1 := hx.bytesOf
  have h2 := hy.bytesOf
  have hrun : (Extern.BytealgCompare.compare #[v, v']).run Tryz.prog w = .ok (.int .i64 (cmpB xs ys)) w := by
    show Sem.run Tryz.prog (do pure (goInt (Extern.BytealgCompare.cmp (← Extern.Bytes.bytesOf v) (← Extern.Bytes.bytesOf v')))) w = _
    simp only [Sem.run_bind, h1, h2, Result.andThen, Sem.run_pure, cmp_lists]
    rfl
  have HR := Lib.hid hrun
  clear hrun h1 h2 hx hy
  go_enter Tryz.func60, Tryz.ntmps60
  go_wp2
  rw [run_callFunc_extern Tryz.func86 (by kernel_rfl) (by kernel_rfl) (by kernel_rfl) (e := Extern.BytealgCompare.compare) (by kernel_rfl), HR.out]
  simp only [Result.andThen]
  rw [Oper.upon_value]
  go_wp2
  go_ret
  exact ⟨rfl, rfl⟩
theorem compareInt_eq (x y : Int) : Lib.compareInt x y = cmpI x y := by
  unfold Lib.compareInt cmpI
  split <;> (try split) <;> (try split) <;> (try split) <;> omega
/-- cmp.Or at two numbers -/
theorem info3 : (Tryz.prog.info? 3).map (fun i => (i.zero, i.size, i.bytes)) = some (some (.int .i64 0), 1, 8) := by kernel_rfl
def orI (a b : Int) : Int := if a = 0 then b else a
set_option maxHeartbeats 1000000 in
theorem or2_any (a b : Int) (g : Nat) (w : World) (h0 : w.cell? ⟨g, 0, none⟩ = some (.int .i64 a)) (h1 : w.cell? ⟨g, 1, none⟩ = some (.int .i64 b)) :
    Calls Tryz.prog 81 #[.slice (some ⟨g, 0, none⟩) 2 2] w fun e w' => e = .returned (.int .i64 (orI a b)) ∧ w = w' := by
  rcases ha : (a != 0) with _ | _
  · have e : a = 0 := by simpa using ha
    subst e
    rcases hb : (b != 0) with _ | _
    · have e : b = 0 := by simpa using hb
      subst e
      go_enter Tryz.func81, Tryz.ntmps81
      go_wp2
      refine wp_loop_rounds 3 ?_
      rw [rounds_succ]
      go_wp2
      rw [rounds_succ]
      go_wp2
      rw [rounds_succ]
      go_wp2
      go_ret
      exact ⟨rfl, rfl⟩
    · go_enter Tryz.func81, Tryz.ntmps81
      go_wp2
      refine wp_loop_rounds 2 ?_
      rw [rounds_succ]
      go_wp2
      rw [rounds_succ]
      go_wp2
      go_ret
      exact ⟨rfl, rfl⟩
  · have hn : ¬ a = 0 := by simpa using ha
    rw [show orI a b = a from if_neg hn]
    clear hn
    go_enter Tryz.func81, Tryz.ntmps81
    go_wp2
    refine wp_loop_rounds 1 ?_
    rw [rounds_succ]
    go_wp2
    go_ret
    exact ⟨rfl, rfl⟩
set_option maxHeartbeats 1000000 in
theorem less_ba (A B : ByteArray) (w : World) (hx : A.size ≤ 140737488355328) (hy : B.size ≤ 140737488355328) :
    Calls Tryz.prog 65 #[.string A, .string B] w fun e w' => e = .returned (.int .i64 (cmpB A.data.toList B.data.toList)) ∧ ∃ q, w' = w.drewN q := by
  go_enter Tryz.func65, Tryz.ntmps65
  go_wp2
  go_loopw [5] (fun t wr => ∃ k q : Nat, k ≤ A.size ∧ k ≤ B.size ∧ t = .int .i64 k ∧ cmpB A.data.toList B.data.toList = cmpB (A.data.toList.drop k) (B.data.toList.drop k) ∧ wr = w.drewN q) (fun t _ => A.size - (intOf t).toNat)
  case atStart => exact ⟨0, 0, by omega, by omega, rfl, rfl, rfl⟩
  case round =>
    obtain ⟨k, q, hk, hk', rfl, hpre, rfl⟩ := hrel
    have hp := Lib.hid hpre
    clear hpre
    by_cases h1 : k < A.size
    · by_cases h2 : k < B.size
      · have ea := Lib.hid (drop_at A k h1)
        have eb := Lib.hid (drop_at B k h2)
        by_cases h3 : (A[k].toNat : Int) < (B[k].toNat : Int)
        · go_wp2
          go_quiet (fail)
          go_wp2
          go_ret
          refine ⟨ret_int ?_, _, World.drewN_drewN _ _ _⟩
          rw [hp.out, ea.out, eb.out]
          simp only [cmpB]
          rw [if_pos (UInt8.lt_iff_toNat_lt.2 (by omega))]
        · by_cases h4 : (B[k].toNat : Int) < (A[k].toNat : Int)
          · go_wp2
            go_quiet (fail)
            go_wp2
            go_quiet (fail)
            go_wp2
            go_ret
            refine ⟨ret_int ?_, _, (World.drewN_drewN _ _ _).trans (World.drewN_drewN _ _ _)⟩
            rw [hp.out, ea.out, eb.out]
            simp only [cmpB]
            rw [if_neg (fun h => by have := UInt8.lt_iff_toNat_lt.1 h; omega), if_pos (UInt8.lt_iff_toNat_lt.2 (by omega))]
          · go_wp2
            go_quiet (fail)
            go_wp2
            go_quiet (fail)
            go_wp2
            refine ⟨⟨k + 1, _, by omega, by omega, by go_num, ?_, rfl⟩, by simp [intOf]; omega⟩
            rw [hp.out, ea.out, eb.out]
            simp only [cmpB]
            rw [if_neg (fun h => by have := UInt8.lt_iff_toNat_lt.1 h; omega), if_neg (fun h => by have := UInt8.lt_iff_toNat_lt.1 h; omega)]
      · have h2' : B.size = k := by omega
        have eb : B.data.toList.drop k = [] := List.drop_eq_nil_of_le (by simp; omega)
        have ea := Lib.hid (drop_at A k h1)
        have EB := Lib.hid eb
        clear eb h2'
        go_wp2
        go_ret
        refine ⟨ret_int ?_, q, rfl⟩
        rw [hp.out, ea.out, EB.out]
        rfl
    · have h1' : k = A.size := by omega
      have ea : A.data.toList.drop k = [] := List.drop_eq_nil_of_le (by simp; omega)
      have EA := Lib.hid ea
      clear ea h1'
      by_cases h2 : k < B.size
      · have eb := Lib.hid (drop_at B k h2)
        go_wp2
        go_ret
        refine ⟨ret_int ?_, q, rfl⟩
        rw [hp.out, EA.out, eb.out]
        rfl
      · have eb : B.data.toList.drop k = [] := List.drop_eq_nil_of_le (by simp; omega)
        have EB := Lib.hid eb
        clear eb
        go_wp2
        go_ret
        refine ⟨ret_int ?_, q, rfl⟩
        rw [hp.out, EA.out, EB.out]
        rfl
theorem less_any (xs ys : List UInt8) (w : World) (hx : xs.length ≤ 140737488355328) (hy : ys.length ≤ 140737488355328) :
    Calls Tryz.prog 65 #[.string ⟨xs.toArray⟩, .string ⟨ys.toArray⟩] w fun e w' => e = .returned (.int .i64 (cmpB xs ys)) ∧ ∃ q, w' = w.drewN q := by
  have h := less_ba ⟨xs.toArray⟩ ⟨ys.toArray⟩ w (by rw [ba_size]; exact hx) (by rw [ba_size]; exact hy)
  simpa using h
end Go.Proofs.YtiffgjodbcploaaGreat
end
section
namespace Go.Proofs.YtiffgjodbcploaaGreat
set_option maxRecDepth 100000
open Go.RowKit
attribute [local go_sem ↓] Go.wp_at_zero Go.wp_at_succ
/-- an entry by value -/
def EntV (w : World) (S : Nat → Prop) (v : Value) (e : Ent) : Prop :=
  ∃ k u, v = .agg #[k, .int .i64 e.seq, .bool e.dead, u] ∧ Byt w S k e.key ∧ Byt w S u e.val
theorem EntV.below {w w' : World} {S : Nat → Prop} {v : Value} {e : Ent} (h : EntV w S v e) (hb : Below w.heap.size w w') : EntV w' S v e := by
  obtain ⟨k, u, rfl, h1, h2⟩ := h
  exact ⟨k, u, rfl, h1.below hb, h2.below hb⟩
theorem EntV.mono {w : World} {S S' : Nat → Prop} {v : Value} {e : Ent} (h : EntV w S v e) (hS : ∀ i, S i → S' i) : EntV w S' v e := by
  obtain ⟨k, u, rfl, h1, h2⟩ := h
  exact ⟨k, u, rfl, h1.mono hS, h2.mono hS⟩
set_option maxHeartbeats 2000000 in
theorem good_raw (A A' : Option Addr) (n c m c' : Nat) (seq : Int) (dead : Bool) (w : World) (hn : n ≤ 140737488355328) (hm : m ≤ 140737488355328) :
    Calls Tryz.prog 50 #[.agg #[.slice A n c, .int .i64 seq, .bool dead, .slice A' m c']] w fun r w' => r = .returned (.bool (goodR n seq dead m)) ∧ w' = w.alloc (.cells #[.slice A n c, .int .i64 seq, .bool dead, .slice A' m c'] 48) := by
  rcases (by omega : n = 0 ∨ 200 < n ∨ (0 < n ∧ n ≤ 200)) with h1 | h1 | ⟨h1, h1'⟩
  · subst h1
    rw [goodR_f (by omega)]
    go_enter Tryz.func50, Tryz.ntmps50
    go_wp2
    go_ret
    exact ⟨rfl, rfl⟩
  · rw [goodR_f (by omega)]
    go_enter Tryz.func50, Tryz.ntmps50
    go_wp2
    go_ret
    exact ⟨rfl, rfl⟩
  · rcases (by omega : seq ≤ 0 ∨ 1099511627776 < seq ∨ (0 < seq ∧ seq ≤ 1099511627776)) with h2 | h2 | ⟨h2, h2'⟩
    · rw [goodR_f (by omega)]
      go_enter Tryz.func50, Tryz.ntmps50
      go_wp2
      go_ret
      exact ⟨rfl, rfl⟩
    · rw [goodR_f (by omega)]
      go_enter Tryz.func50, Tryz.ntmps50
      go_wp2
      go_ret
      exact ⟨rfl, rfl⟩
    · rcases (by omega : 4096 < m ∨ m ≤ 4096) with h3 | h3
      · rw [goodR_f (by omega)]
        go_enter Tryz.func50, Tryz.ntmps50
        go_wp2
        go_ret
        exact ⟨rfl, rfl⟩
      · cases dead
        · rw [goodR_t.2 ⟨h1, h1', h2, h2', h3, by simp⟩]
          go_enter Tryz.func50, Tryz.ntmps50
          go_wp2
          go_ret
          exact ⟨rfl, rfl⟩
        · rcases (by omega : m = 0 ∨ 0 < m) with h4 | h4
          · subst h4
            rw [goodR_t.2 ⟨h1, h1', h2, h2', h3, by simp⟩]
            go_enter Tryz.func50, Tryz.ntmps50
            go_wp2
            go_ret
            exact ⟨rfl, rfl⟩
          · rw [goodR_f (by simp; omega)]
            go_enter Tryz.func50, Tryz.ntmps50
            go_wp2
            go_ret
            exact ⟨rfl, rfl⟩
theorem good_any (S : Nat → Prop) (v : Value) (e : Ent) (w : World) (hv : EntV w S v e) :
    Calls Tryz.prog 50 #[v] w fun r w' => r = .returned (.bool (goodE e)) ∧ Below w.heap.size w w' := by
  obtain ⟨k, u, rfl, h1, h2⟩ := hv
  obtain ⟨A, c, rfl, _, _, hl1, _⟩ := h1
  obtain ⟨A', c', rfl, _, _, hl2, _⟩ := h2
  exact (good_raw A A' _ c _ c' e.seq e.dead w hl1 hl2).mono fun r w' ⟨h, h'⟩ => ⟨h, h' ▸ (Below.refl _ _).alloc (Nat.le_refl _) _⟩
set_option maxHeartbeats 2000000 in
theorem rgood_raw (A A' : Option Addr) (n c m c' : Nat) (seq : Int) (dead : Bool) (w : World) (hn : n ≤ 140737488355328) (hm : m ≤ 140737488355328) :
    Calls Tryz.prog 36 #[.agg #[.slice A n c, .int .i64 seq, .bool dead, .slice A' m c']] w fun r w' => r = .returned (.bool (goodR n seq dead m)) ∧ w' = w.alloc (.cells #[.slice A n c, .int .i64 seq, .bool dead, .slice A' m c'] 48) := by
  rcases (by omega : n = 0 ∨ 200 < n ∨ (0 < n ∧ n ≤ 200)) with h1 | h1 | ⟨h1, h1'⟩
  · subst h1
    rw [goodR_f (by omega)]
    go_enter Tryz.func36, Tryz.ntmps36
    go_wp2
    go_ret
    exact ⟨rfl, rfl⟩
  · rw [goodR_f (by omega)]
    go_enter Tryz.func36, Tryz.ntmps36
    go_wp2
    go_ret
    exact ⟨rfl, rfl⟩
  · rcases (by omega : seq ≤ 0 ∨ 1099511627776 < seq ∨ (0 < seq ∧ seq ≤ 1099511627776)) with h2 | h2 | ⟨h2, h2'⟩
    · rw [goodR_f (by omega)]
      go_enter Tryz.func36, Tryz.ntmps36
      go_wp2
      go_ret
      exact ⟨rfl, rfl⟩
    · rw [goodR_f (by omega)]
      go_enter Tryz.func36, Tryz.ntmps36
      go_wp2
      go_ret
      exact ⟨rfl, rfl⟩
    · rcases (by omega : 4096 < m ∨ m ≤ 4096) with h3 | h3
      · rw [goodR_f (by omega)]
        go_enter Tryz.func36, Tryz.ntmps36
        go_wp2
        go_ret
        exact ⟨rfl, rfl⟩
      · cases dead
        · rw [goodR_t.2 ⟨h1, h1', h2, h2', h3, by simp⟩]
          go_enter Tryz.func36, Tryz.ntmps36
          go_wp2
          go_ret
          exact ⟨rfl, rfl⟩
        · rcases (by omega : m = 0 ∨ 0 < m) with h4 | h4
          · subst h4
            rw [goodR_t.2 ⟨h1, h1', h2, h2', h3, by simp⟩]
            go_enter Tryz.func36, Tryz.ntmps36
            go_wp2
            go_ret
            exact ⟨rfl, rfl⟩
          · rw [goodR_f (by simp; omega)]
            have hm0 : ((m : Int) == 0) = false := by simp; omega
            go_enter Tryz.func36, Tryz.ntmps36
            go_wp2
            go_ret
            exact ⟨rfl, rfl⟩
theorem rgood_any (S : Nat → Prop) (v : Value) (e : Ent) (w : World) (hv : EntV w S v e) :
    Calls Tryz.prog 36 #[v] w fun r w' => r = .returned (.bool (goodE e)) ∧ Below w.heap.size w w' := by
  obtain ⟨k, u, rfl, h1, h2⟩ := hv
  obtain ⟨A, c, rfl, _, _, hl1, _⟩ := h1
  obtain ⟨A', c', rfl, _, _, hl2, _⟩ := h2
  exact (rgood_raw A A' _ c _ c' e.seq e.dead w hl1 hl2).mono fun r w' ⟨h, h'⟩ => ⟨h, h' ▸ (Below.refl _ _).alloc (Nat.le_refl _) _⟩
end Go.Proofs.YtiffgjodbcploaaGreat
end
section
namespace Go.Proofs.YtiffgjodbcploaaGreat
set_option maxRecDepth 100000
open Go.RowKit
attribute [local go_sem ↓] Go.wp_at_zero Go.wp_at_succ
theorem cmpc_any (x y : Int) (w : World) : Calls Tryz.prog 82 #[.int .i64 x, .int .i64 y] w fun e w' => e = .returned (.int .i64 (cmpI x y)) ∧ w = w' :=
  (Tryz.cmp_Compare_int x y w).mono fun _ _ ⟨h, h'⟩ => ⟨by rw [h, compareInt_eq], h'.symm⟩
set_option maxRecDepth 100000 in
set_option maxHeartbeats 4000000 in
theorem compare_any (S S' : Nat → Prop) (v v' : Value) (a b : Ent) (w : World) (hv : EntV w S v a) (hv' : EntV w S' v' b) :
    Calls Tryz.prog 51 #[v, v'] w fun r w' => r = .returned (.int .i64 (cmpE a b)) ∧ Below w.heap.size w w' := by
  obtain ⟨k1, u1, rfl, h1, _⟩ := hv
  obtain ⟨k2, u2, rfl, h2, _⟩ := hv'
  have hA : Below w.heap.size w ((w.alloc (.cells #[k1, .int .i64 a.seq, .bool a.dead, u1] 48)).alloc (.cells #[k2, .int .i64 b.seq, .bool b.dead, u2] 48)) := ((Below.refl _ _).alloc (Nat.le_refl _) _).alloc (by simp) _
  have HA := Lib.hid hA
  have H1 := Lib.hid (h1.below hA)
  have H2 := Lib.hid (h2.below hA)
  clear hA h1 h2
  go_enter Tryz.func51, Tryz.ntmps51
  go_wp2
  go_region_held3 (fun w' => w'.cell? ⟨w.heap.size, 0, none⟩ = some k1 ∧ w'.cell? ⟨w.heap.size, 1, none⟩ = some (.int .i64 a.seq) ∧ w'.cell? ⟨w.heap.size + 1, 0, none⟩ = some k2 ∧ w'.cell? ⟨w.heap.size + 1, 1, none⟩ = some (.int .i64 b.seq)) (go_keep)
    (first
      | (go_at_call 60; refine (bcompare_any S S' _ _ a.key b.key _ (by exact H1.out) (by exact H2.out)).mono ?_; rintro r w' ⟨rfl, rfl⟩)
      | (go_at_call 82; refine (cmpc_any _ _ _).mono ?_; rintro r w' ⟨rfl, rfl⟩)
      | (go_at_call 81; refine (or2_any (cmpB a.key b.key) (cmpI b.seq a.seq) _ _ ?_ ?_).mono ?_; (simp [go_sem]); (simp [go_sem]); rintro r w' ⟨rfl, rfl⟩))
  all_goals go_wp2
  go_ret
  refine ⟨rfl, ?_⟩
  have h1 := HA.out
  exact (h1.alloc h1.size _).drew
end Go.Proofs.YtiffgjodbcploaaGreat
end
section
namespace Go.Proofs.YtiffgjodbcploaaGreat
set_option maxRecDepth 100000
open Go.RowKit
attribute [local go_sem ↓] Go.wp_at_zero Go.wp_at_succ
set_option maxRecDepth 100000 in
set_option maxHeartbeats 2000000 in
theorem rcmp_any (S S' : Nat → Prop) (v v' : Value) (a b : Ent) (w : World) (hv : EntV w S v a) (hv' : EntV w S' v' b) :
    Calls Tryz.prog 37 #[v, v'] w fun r w' => r = .returned (.int .i64 (cmpE a b)) ∧ Below w.heap.size w w' := by
  obtain ⟨k1, u1, rfl, h1, _⟩ := hv
  obtain ⟨k2, u2, rfl, h2, _⟩ := hv'
  have hA : Below w.heap.size w ((w.alloc (.cells #[k1, .int .i64 a.seq, .bool a.dead, u1] 48)).alloc (.cells #[k2, .int .i64 b.seq, .bool b.dead, u2] 48)) := ((Below.refl _ _).alloc (Nat.le_refl _) _).alloc (by simp) _
  have HA := Lib.hid hA
  have c1 := (h1.below hA).convert
  have c2 := (h2.below hA).convert
  have l1 := h1.len
  have l2 := h2.len
  clear h1 h2
  clear hA
  have cases_ : (cmpB a.key b.key = 0 ∧ b.seq < a.seq) ∨ (cmpB a.key b.key = 0 ∧ a.seq < b.seq) ∨ (cmpB a.key b.key = 0 ∧ a.seq = b.seq) ∨ ¬ cmpB a.key b.key = 0 := by omega
  rcases cases_ with ⟨e1, e2⟩ | ⟨e1, e2⟩ | ⟨e1, e2⟩ | e1
  · have hres : cmpE a b = -1 := by unfold cmpE cmpI; rw [if_pos e1, if_pos e2]
    rw [hres]
    have e1' : (cmpB a.key b.key == 0) = true := by rw [e1]; rfl
    clear hres e1
    go_enter Tryz.func37, Tryz.ntmps37
    go_wp2_with (go_at_call 65; refine (less_any a.key b.key _ l1 l2).mono ?_; rintro r w' ⟨rfl, q, rfl⟩)
    go_ret
    exact ⟨rfl, below_drewN HA.out _⟩
  · have hres : cmpE a b = 1 := by unfold cmpE cmpI; rw [if_pos e1, if_neg (by omega), if_pos e2]
    rw [hres]
    have e1' : (cmpB a.key b.key == 0) = true := by rw [e1]; rfl
    clear hres e1
    go_enter Tryz.func37, Tryz.ntmps37
    go_wp2_with (go_at_call 65; refine (less_any a.key b.key _ l1 l2).mono ?_; rintro r w' ⟨rfl, q, rfl⟩)
    go_ret
    exact ⟨rfl, below_drewN HA.out _⟩
  · have hres : cmpE a b = cmpB a.key b.key := by unfold cmpE cmpI; rw [if_pos e1, e2, if_neg (by omega), if_neg (by omega), e1]
    rw [hres]
    have e3 : ¬ b.seq < a.seq := by omega
    have e4 : ¬ a.seq < b.seq := by omega
    have e1' : (cmpB a.key b.key == 0) = true := by rw [e1]; rfl
    clear hres e1 e2
    go_enter Tryz.func37, Tryz.ntmps37
    go_wp2_with (go_at_call 65; refine (less_any a.key b.key _ l1 l2).mono ?_; rintro r w' ⟨rfl, q, rfl⟩)
    go_ret
    exact ⟨rfl, below_drewN HA.out _⟩
  · have hres : cmpE a b = cmpB a.key b.key := by unfold cmpE; rw [if_neg e1]
    rw [hres]
    have e1' : (cmpB a.key b.key == 0) = false := by simpa using e1
    clear hres e1
    go_enter Tryz.func37, Tryz.ntmps37
    go_wp2_with (go_at_call 65; refine (less_any a.key b.key _ l1 l2).mono ?_; rintro r w' ⟨rfl, q, rfl⟩)
    go_ret
    exact ⟨rfl, below_drewN HA.out _⟩
theorem ent_ne {a b : Ent} (h : ¬ (a.key = b.key ∧ a.seq = b.seq ∧ a.dead = b.dead ∧ a.val = b.val)) : false = decide (a = b) := by
  rw [decide_eq_false]
  rintro rfl
  exact h ⟨rfl, rfl, rfl, rfl⟩
set_option maxRecDepth 100000 in
set_option maxHeartbeats 2000000 in
theorem sameone_any (S S' : Nat → Prop) (v v' : Value) (a b : Ent) (w : World) (hv : EntV w S v a) (hv' : EntV w S' v' b) :
    Calls Tryz.prog 22 #[v, v'] w fun r w' => r = .returned (.bool (decide (a = b))) ∧ Below w.heap.size w w' := by
  obtain ⟨k1, u1, rfl, h1, g1⟩ := hv
  obtain ⟨k2, u2, rfl, h2, g2⟩ := hv'
  have hA : Below w.heap.size w ((w.alloc (.cells #[k1, .int .i64 a.seq, .bool a.dead, u1] 48)).alloc (.cells #[k2, .int .i64 b.seq, .bool b.dead, u2] 48)) := ((Below.refl _ _).alloc (Nat.le_refl _) _).alloc (by simp) _
  have c1 := (h1.below hA).convert
  have c2 := (h2.below hA).convert
  have d1 := (g1.below hA).convert
  have d2 := (g2.below hA).convert
  have HA := Lib.hid hA
  clear hA h1 h2 g1 g2
  by_cases e1 : a.key = b.key
  · by_cases e2 : a.seq = b.seq
    · by_cases e3 : a.dead = b.dead
      · by_cases e4 : a.val = b.val
        · have e : a = b := by cases a; cases b; simp_all
          subst e
          clear e1 e2 e3 e4
          go_enter Tryz.func22, Tryz.ntmps22
          go_wp2
          go_ret
          exact ⟨ret_bool (by simp), HA.out⟩
        · rw [← ent_ne (fun h => e4 h.2.2.2)]
          rcases a with ⟨ak, as', ad, av⟩
          rcases b with ⟨bk, bs', bd, bv⟩
          simp only at e1 e2 e3 e4 c1 c2 d1 d2 HA ⊢
          subst e1 e2 e3
          go_enter Tryz.func22, Tryz.ntmps22
          go_wp2
          go_ret
          exact ⟨ret_bool (by simpa using e4), HA.out⟩
      · rw [← ent_ne (fun h => e3 h.2.2.1)]
        rcases a with ⟨ak, as', ad, av⟩
        rcases b with ⟨bk, bs', bd, bv⟩
        simp only at e1 e2 e3 c1 c2 d1 d2 HA ⊢
        subst e1 e2
        have e3' : (ad == bd) = false := by simpa using e3
        clear e3
        go_enter Tryz.func22, Tryz.ntmps22
        go_wp2
        go_ret
        exact ⟨rfl, HA.out⟩
    · rw [← ent_ne (fun h => e2 h.2.1)]
      rcases a with ⟨ak, as', ad, av⟩
      rcases b with ⟨bk, bs', bd, bv⟩
      simp only at e1 e2 c1 c2 d1 d2 HA ⊢
      subst e1
      have e2' : (as' == bs') = false := by simpa using e2
      clear e2
      go_enter Tryz.func22, Tryz.ntmps22
      go_wp2
      go_ret
      exact ⟨rfl, HA.out⟩
  · rw [← ent_ne (fun h => e1 h.1)]
    go_enter Tryz.func22, Tryz.ntmps22
    go_wp2
    go_ret
    exact ⟨rfl, HA.out⟩
end Go.Proofs.YtiffgjodbcploaaGreat
end
section
namespace Go.Proofs.YtiffgjodbcploaaGreat
set_option maxRecDepth 100000
open Go.RowKit
attribute [local go_sem ↓] Go.wp_at_zero Go.wp_at_succ
end Go.Proofs.YtiffgjodbcploaaGreat
end
section
namespace Go.Proofs.YtiffgjodbcploaaGreat
set_option maxRecDepth 100000
open Go.RowKit
theorem EntV.only {w w' : World} {T S : Nat → Prop} {v : Value} {e : Ent} (h : EntV w T v e) (ho : Only S w w') (hd : ∀ i, i < w.heap.size → T i → ¬ S i) : EntV w' T v e := by
  obtain ⟨k, u, rfl, h1, h2⟩ := h
  exact ⟨k, u, rfl, h1.only ho hd, h2.only ho hd⟩
end Go.Proofs.YtiffgjodbcploaaGreat
end
section
namespace Go.Proofs.YtiffgjodbcploaaGreat
set_option maxRecDepth 100000
open Go.RowKit
attribute [local go_sem ↓] Go.wp_at_zero Go.wp_at_succ
/-- a new block of four cells under one more: what its cells hold later. -/
theorem box4 {w w' : World} {a b c d : Value} {t : TypeId} {o : Obj} (hb : Below (w.heap.size + 2) ((w.alloc (.cells #[a, b, c, d] t)).alloc o) w') :
    (w'.cell? ⟨w.heap.size, 0, none⟩ = some a ∧ w'.cell? ⟨w.heap.size, 1, none⟩ = some b ∧ w'.cell? ⟨w.heap.size, 2, none⟩ = some c ∧ w'.cell? ⟨w.heap.size, 3, none⟩ = some d) ∧ (∀ i, w'.frozen? ⟨w.heap.size, i, none⟩ = false) := by
  refine ⟨⟨?_, ?_, ?_, ?_⟩, fun i => ?_⟩
  iterate 4 (rw [hb.cell (by simp), World.cell?_alloc_lt _ _ _ (by simp), World.cell?_alloc_at _ _ _ _ rfl]; rfl)
  rw [hb.frozen (by simp), World.frozen?_alloc_past _ _ _ (by simp), World.frozen?_alloc_at _ _ _ _ rfl]
theorem box4' {w w' : World} {a b c d : Value} {t : TypeId} {o : Obj} (hb : Below (w.heap.size + 2) ((w.alloc o).alloc (.cells #[a, b, c, d] t)) w') :
    (w'.cell? ⟨w.heap.size + 1, 0, none⟩ = some a ∧ w'.cell? ⟨w.heap.size + 1, 1, none⟩ = some b ∧ w'.cell? ⟨w.heap.size + 1, 2, none⟩ = some c ∧ w'.cell? ⟨w.heap.size + 1, 3, none⟩ = some d) ∧ (∀ i, w'.frozen? ⟨w.heap.size + 1, i, none⟩ = false) := by
  refine ⟨⟨?_, ?_, ?_, ?_⟩, fun i => ?_⟩
  iterate 4 (rw [hb.cell (by simp), World.cell?_alloc_at _ _ _ _ (by simp)]; rfl)
  rw [hb.frozen (by simp), World.frozen?_alloc_at _ _ _ _ (by simp)]
end Go.Proofs.YtiffgjodbcploaaGreat
end
