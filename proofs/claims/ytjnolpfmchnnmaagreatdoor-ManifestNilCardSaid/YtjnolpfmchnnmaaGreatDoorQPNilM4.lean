/-
wal.file; what tells a prefix and a number's digits; wal.segments.
-/
import Derived.Test.YtjnolpfmchnnmaaGreatDoorQPNilM3
import Derived.Test.YtjnolpfmchnnmaaGreatDoorQPNilM2
import Derived.OwnWalkIn
import Derived.TacticsInMore
import Derived.Maps.AppendAt
import Derived.Test.YtjnolpfmchnnmaaGreatDoorQPNilM1
import Derived.Lib.ItoaNum
import Derived.Lib.Atoi
import Derived.Lib.SmallJoins
section
namespace Go.Proofs.YtjnolpfmchnnmaaGreatDoor
set_option maxRecDepth 100000
open Go.RowKit Go.BigFrame
attribute [local go_sem ↓] Go.wp_at_zero Go.wp_at_succ
def readF (bs : List UInt8) : List UInt8 × Nat × Int :=
  if bs.length = 0 then ([], 0, 12) else if bs.length < 8 then ([], 0, 10) else
  if 2097152 < un32 bs then ([], 0, 11) else if bs.length - 8 < un32 bs then ([], 0, 10) else
  if un32 (bs.drop 4) ≠ sumN (bs.take 4 ++ (bs.drop 8).take (un32 bs)) then ([], 0, 11) else ((bs.drop 8).take (un32 bs), 8 + un32 bs, 0)
theorem un32_lt (bs : List UInt8) : un32 bs < 4294967296 := by
  unfold un32
  split
  · rename_i a b c d _
    have ha := a.toNat_lt
    have hb := b.toNat_lt
    have hc := c.toNat_lt
    have hd := d.toNat_lt
    omega
  · omega
theorem undrewF {w w' : World} (g : fr w.drew w') : fr w w' := fr.step (fr.drew fr.refl) g
theorem Byt.cut {w : World} {S : Nat → Prop} {b o n c : Nat} {bs : List UInt8} (h : Byt w S (.slice (some ⟨b, o, none⟩) n c) bs) {f m c' : Nat} (hf : f + m ≤ n) (hc : m ≤ c') (hcm : c' ≤ 9223372036854775807) :
    Byt w S (.slice (some ⟨b, o + f, none⟩) m c') ((bs.drop f).take m) := by
  obtain ⟨A, ca, hE, h1, h2, h3, hr⟩ := h
  injection hE with e1 e2 e3
  subst e1
  have hl : ((bs.drop f).take m).length = m := by rw [List.length_take, List.length_drop]; omega
  refine ⟨_, _, by rw [hl], by omega, hcm, by omega, by rw [List.length_map, hl, Nat.mul_one], fun h0 => ?_⟩
  rw [hl] at h0
  obtain ⟨b', o', e, hS, hb, hc⟩ := hr.2 (by omega)
  injection e with e
  injection e with e4 e5
  subst e4 e5
  refine ⟨b, o + f, rfl, hS, hb, fun j u hu => ?_⟩
  rw [Nat.add_assoc]
  refine hc (f + j) u ?_
  rw [List.map_take, List.getElem?_take] at hu
  split at hu
  · rw [List.map_drop, List.getElem?_drop] at hu
    exact hu
  · cases hu
set_option maxRecDepth 100000 in
set_option maxHeartbeats 1000000 in
theorem fread_some (S : Nat → Prop) (b o n c k : Nat) (bs : List UInt8) (w : World) (hv : Byt w S (.slice (some ⟨b, o, none⟩) n c) bs) (hk : k ≤ n) (hn : bs.length = n) :
    Calls Tryz.prog 192 #[.slice (some ⟨b, o, none⟩) n c, .int .i64 k] w fun r w' => ∃ v' p q e, readF (bs.drop k) = (p, q, e) ∧ r = .returned (.tuple #[v', .int .i64 (if e = 0 then ((k + q : Nat) : Int) else 0), .int .i64 e]) ∧ BytL w' w.heap.size v' p ∧ fr w w' := by
  have hl := hv.len
  rw [hn] at hl
  have hcc : n ≤ c ∧ c ≤ 9223372036854775807 := by obtain ⟨A, ca, hE, h1, h2, _⟩ := hv; injection hE with _ e2 e3; omega
  have hkc : ((c : Int) - (k : Int)) = ((c - k : Nat) : Int) := by omega
  obtain ⟨m, hm⟩ : ∃ m, n - k = m := ⟨_, rfl⟩
  obtain ⟨cm, hcm⟩ : ∃ m, c - k = m := ⟨_, rfl⟩
  have HV := Lib.hid hv
  have HR : Hid (Byt w S (.slice (some ⟨b, o + k, none⟩) m cm) (bs.drop k)) := Lib.hid (by
    have := Byt.cut hv (f := k) (m := m) (c' := cm) (by omega) (by omega) (by omega)
    rwa [List.take_of_length_le (by rw [List.length_drop, hn]; omega)] at this)
  obtain ⟨rs, hrs⟩ : ∃ rs, bs.drop k = rs := ⟨_, rfl⟩
  have hrl : rs.length = m := by rw [← hrs, List.length_drop, hn, hm]
  rw [hrs] at HR ⊢
  have HRL := Lib.hid hrl
  clear hv hrs hrl
  have hk0 : decide ((k : Int) < 0) = false := by simp
  have hk1 : decide (n < k) = false := by simp; omega
  have hk2 : decide ((n : Int) < (k : Int)) = false := by simp; omega
  rcases (by omega : m = 0 ∨ (0 < m ∧ m < 8) ∨ 8 ≤ m) with h0 | ⟨h0, h8⟩ | h8
  · have HF : Hid (readF rs = ([], 0, 12)) := Lib.hid (by unfold readF; rw [if_pos (by rw [HRL.out]; exact h0)])
    have hm0 : ((m : Int) == 0) = true := by simp; omega
    clear h0
    go_enter Tryz.func192, Tryz.ntmps192
    go_wp2
    all_goals
      refine bodyPost_ret (v := .tuple #[.slice none 0 0, .int .i64 0, .int .i64 12]) (by simp [results, Tryz.results192, go_sem]) rfl ?_
      exact ⟨_, [], 0, 12, HF.out, rfl, BytL.nil _ _, fr.refl⟩
  · have HF : Hid (readF rs = ([], 0, 10)) := Lib.hid (by unfold readF; rw [HRL.out, if_neg (by omega), if_pos h8])
    have hm0 : ((m : Int) == 0) = false := by simp; omega
    have hck : ¬ c = k := by omega
    have hm8 : decide ((m : Int) < 8) = true := by simp; omega
    have hm9 : decide (m < 8) = true := by simp; omega
    clear h0
    go_enter Tryz.func192, Tryz.ntmps192
    go_wp2
    refine bodyPost_ret (v := .tuple #[.slice none 0 0, .int .i64 0, .int .i64 10]) (by simp [results, Tryz.results192, go_sem]) rfl ?_
    exact ⟨_, [], 0, 10, HF.out, rfl, BytL.nil _ _, fr.refl⟩
  · have hm0 : ((m : Int) == 0) = false := by simp; omega
    have hm8 : decide ((m : Int) < 8) = false := by simp; omega
    have hm9 : decide (m < 8) = false := by simp; omega
    have hq : un32 rs < 4294967296 := un32_lt rs
    obtain ⟨q, hqe⟩ : ∃ q, un32 rs = q := ⟨_, rfl⟩
    rw [hqe] at hq
    have HQ := Lib.hid hqe
    have CG : Hid (∀ wx, fr w wx → Calls Tryz.prog 237 #[.slice (some ⟨b, o + k, none⟩) m cm] wx fun r w' => r = .returned (.int .u32 q) ∧ fr wx w') := Lib.hid fun wx hx => by
      have := get_any S _ rs wx (HR.out.below hx) (by rw [HRL.out]; omega)
      rwa [HQ.out] at this
    clear hqe
    rcases (by omega : 2097152 < q ∨ q ≤ 2097152) with hbig | hbig
    · have HF : Hid (readF rs = ([], 0, 11)) := Lib.hid (by unfold readF; rw [HRL.out, if_neg (by omega), if_neg (by omega), HQ.out, if_pos hbig])
      have hb1 : (2097152 : Int) < (q : Int) := by omega
      go_enter Tryz.func192, Tryz.ntmps192
      go_wp2_with (go_at_call 237; refine (CG.out _ fr.refl).mono ?_; rintro r w1 ⟨rfl, f1⟩)
      refine bodyPost_ret (v := .tuple #[.slice none 0 0, .int .i64 0, .int .i64 11]) (by simp [results, Tryz.results192, go_sem]) rfl ?_
      exact ⟨_, [], 0, 11, HF.out, rfl, BytL.nil _ _, f1⟩
    · have hb1 : ¬ (2097152 : Int) < (q : Int) := by omega
      have hqm : (q : Int) % 18446744073709551616 = (q : Int) := by omega
      rcases (by omega : m - 8 < q ∨ q ≤ m - 8) with hs | hs
      · have HF : Hid (readF rs = ([], 0, 10)) := Lib.hid (by unfold readF; rw [HRL.out, if_neg (by omega), if_neg (by omega), HQ.out, if_neg (by omega), if_pos hs])
        have hb2 : ((m : Int) - 8) < (q : Int) := by omega
        go_enter Tryz.func192, Tryz.ntmps192
        go_wp2_with (go_at_call 237; refine (CG.out _ fr.refl).mono ?_; rintro r w1 ⟨rfl, f1⟩)
        refine bodyPost_ret (v := .tuple #[.slice none 0 0, .int .i64 0, .int .i64 10]) (by simp [results, Tryz.results192, go_sem]) rfl ?_
        exact ⟨_, [], 0, 10, HF.out, rfl, BytL.nil _ _, f1⟩
      · have hb2 : ¬ ((m : Int) - 8) < (q : Int) := by omega
        have hck : ¬ c = k := by omega
        have hck4 : ¬ cm = 4 := by omega
        obtain ⟨m4, hm4⟩ : ∃ x, m - 4 = x := ⟨_, rfl⟩
        obtain ⟨c4, hc4⟩ : ∃ x, cm - 4 = x := ⟨_, rfl⟩
        obtain ⟨c8, hc8⟩ : ∃ x, cm - 8 = x := ⟨_, rfl⟩
        have h4m : (4 : Int) ≤ (m : Int) := by omega
        have h4c : (4 : Int) ≤ (cm : Int) := by omega
        have h8q : (8 : Int) + (q : Int) ≤ (cm : Int) := by omega
        have hq8 : 8 + q - 8 = q := by omega
        obtain ⟨u, hu⟩ : ∃ u, un32 (rs.drop 4) = u := ⟨_, rfl⟩
        obtain ⟨pp, hpp⟩ : ∃ pp, (rs.drop 8).take q = pp := ⟨_, rfl⟩
        obtain ⟨s, hss⟩ : ∃ s, sumN (rs.take 4 ++ pp) = s := ⟨_, rfl⟩
        have hppl : pp.length = q := by rw [← hpp, List.length_take, List.length_drop, HRL.out]; omega
        have HU := Lib.hid hu
        have HPD := Lib.hid hpp
        have HSS := Lib.hid hss
        have HPL := Lib.hid hppl
        have H04 : Hid (Byt w S (.slice (some ⟨b, o + k, none⟩) 4 cm) (rs.take 4)) := Lib.hid (by
          have := Byt.cut HR.out (f := 0) (m := 4) (c' := cm) (by omega) (by omega) (by omega)
          simpa using this)
        have CG4 : Hid (∀ wx, fr w wx → Calls Tryz.prog 237 #[.slice (some ⟨b, o + k + 4, none⟩) m4 c4] wx fun r w' => r = .returned (.int .u32 u) ∧ fr wx w') := Lib.hid fun wx hx => by
          have h4 := Byt.cut HR.out (f := 4) (m := m4) (c' := c4) (by omega) (by omega) (by omega)
          rw [List.take_of_length_le (by rw [List.length_drop, HRL.out]; omega)] at h4
          have := get_any S _ (rs.drop 4) wx (h4.below hx) (by rw [List.length_drop, HRL.out]; omega)
          rwa [HU.out] at this
        clear hu hpp hss hppl
        by_cases hk8 : cm = 8
        · have hq0 : q = 0 := by omega
          obtain rfl : c4 = 4 := by omega
          obtain rfl : c8 = 0 := by omega
          subst hk8
          clear hc4 hc8
          have HPP : Hid (Byt w S (.slice (some ⟨b, o + k, none⟩) q 0) pp) := Lib.hid (by have := Byt.cut HR.out (f := 0) (m := q) (c' := 0) (by omega) (by omega) (by omega); have e : pp = [] := List.eq_nil_of_length_eq_zero (by rw [HPL.out]; exact hq0); rw [e]; rw [hq0] at this ⊢; simpa using this)
          have CS : Hid (∀ X wx, fr w X → fr (X.alloc (.cells #[.slice (some ⟨b, o + k, none⟩) 4 8, .slice (some ⟨b, o + k, none⟩) q 0] 35)) wx → Calls Tryz.prog 123 #[.slice (some ⟨X.heap.size, 0, none⟩) 2 2] wx fun r w' => r = .returned (.int .u32 s) ∧ fr wx w') := Lib.hid fun X wx hX hx => by
            have hbl : BytsV (X.alloc (.cells #[.slice (some ⟨b, o + k, none⟩) 4 8, .slice (some ⟨b, o + k, none⟩) q 0] 35)) (fun _ => True) (.slice (some ⟨X.heap.size, 0, none⟩) 2 2) [rs.take 4, pp] := BytsV.lit X [.slice (some ⟨b, o + k, none⟩) 4 8, .slice (some ⟨b, o + k, none⟩) q 0] [rs.take 4, pp] 2 _ rfl rfl rfl (by omega) (fun i p hp => by
              match i, hp with
              | 0, hp => simp at hp; subst hp; exact ⟨_, rfl, (H04.out.below hX).mono fun _ _ => trivial⟩
              | 1, hp => simp at hp; subst hp; exact ⟨_, rfl, (HPP.out.below hX).mono fun _ _ => trivial⟩
              | i + 2, hp => simp at hp)
            have := sum_any _ _ _ _ (hbl.below hx)
            rwa [show [rs.take 4, pp].flatten = rs.take 4 ++ pp by simp, HSS.out] at this
          have CC : Hid (∀ wx, fr w wx → Calls Tryz.prog 89 #[.slice (some ⟨b, o + k, none⟩) q 0] wx fun r w' => ∃ v', r = .returned v' ∧ BytL w' w.heap.size v' pp ∧ fr wx w') := Lib.hid fun wx hx => (bcloneL_any S _ pp wx (HPP.out.below hx)).mono fun r w' h => by
            obtain ⟨v', e, h1, h2⟩ := h
            exact ⟨v', e, h1.mono hx.size, h2⟩
          clear HV HR hq0
          by_cases hus : u = s
          · have HF : Hid (readF rs = (pp, 8 + q, 0)) := Lib.hid (by unfold readF; rw [HRL.out, if_neg (by omega), if_neg (by omega), HQ.out, if_neg (by omega), if_neg (by omega), HU.out, HPD.out, HSS.out, if_neg (by simpa using hus)])
            subst hus
            go_enter Tryz.func192, Tryz.ntmps192
            go_upto_region 14 with (go_at_call 237; refine (CG.out _ fr.refl).mono ?_; rintro r w1 ⟨rfl, f1⟩)
            go_region_held3 (fun _ => True) (trivial)
              (first
                | (go_split_ands; go_at_call 237; (with_reducible (refine Calls.mono (CG4.out _ ?_) ?_)); (focus ((repeat (first | with_reducible assumption | with_reducible exact fr.refl | with_reducible refine fr.alloc ?_ _ | with_reducible refine fr.drew ?_)))); rintro r w2 ⟨rfl, g2⟩; (have f2 : fr w w2 := fr.step (by (repeat (first | with_reducible assumption | with_reducible exact fr.refl | with_reducible refine fr.alloc ?_ _ | with_reducible refine fr.drew ?_))) g2))
                | (go_split_ands; go_at_call 123; (with_reducible (refine Calls.mono (CS.out _ _ ?_ ?_) ?_)); (focus ((repeat (first | with_reducible assumption | with_reducible exact fr.refl | with_reducible refine fr.alloc ?_ _ | with_reducible refine fr.drew ?_)))); (focus ((repeat (first | with_reducible assumption | with_reducible exact fr.refl | with_reducible exact undrewF g2 | with_reducible refine fr.alloc ?_ _ | with_reducible refine fr.drew ?_)))); rintro r w3 ⟨rfl, g3⟩; (have f3 : fr w w3 := fr.step (by (repeat (first | with_reducible assumption | with_reducible exact fr.refl | with_reducible refine fr.alloc ?_ _ | with_reducible refine fr.drew ?_))) g3)))
            all_goals
              go_wp2_with (go_at_call 89; (with_reducible (refine Calls.mono (CC.out _ ?_) ?_)); (focus (with_reducible assumption)); rintro r w5 ⟨v5, rfl, hv5, g5⟩)
              refine bodyPost_ret (v := .tuple #[v5, .int .i64 ((k : Int) + 8 + q), .int .i64 0]) (by simp [results, Tryz.results192, go_sem]) rfl ?_
              refine ⟨_, pp, 8 + q, 0, HF.out, by simp; omega, hv5, ?_⟩
              first
                | exact fr.step f3 g5
                | exact fr.step f2 g5
          · have HF : Hid (readF rs = ([], 0, 11)) := Lib.hid (by unfold readF; rw [HRL.out, if_neg (by omega), if_neg (by omega), HQ.out, if_neg (by omega), if_neg (by omega), HU.out, HPD.out, HSS.out, if_pos (by simpa using hus)])
            have hu1 : ((u : Int) == (s : Int)) = false := by simp; omega
            have hu2 : ((u : Int) != (s : Int)) = true := by simp; omega
            have hu3 : (u != s) = true := by simp; omega
            have hu4 : (u == s) = false := by simp; omega
            go_enter Tryz.func192, Tryz.ntmps192
            go_upto_region 14 with (go_at_call 237; refine (CG.out _ fr.refl).mono ?_; rintro r w1 ⟨rfl, f1⟩)
            go_region_held3 (fun _ => True) (trivial)
              (first
                | (go_split_ands; go_at_call 237; (with_reducible (refine Calls.mono (CG4.out _ ?_) ?_)); (focus ((repeat (first | with_reducible assumption | with_reducible exact fr.refl | with_reducible refine fr.alloc ?_ _ | with_reducible refine fr.drew ?_)))); rintro r w2 ⟨rfl, g2⟩; (have f2 : fr w w2 := fr.step (by (repeat (first | with_reducible assumption | with_reducible exact fr.refl | with_reducible refine fr.alloc ?_ _ | with_reducible refine fr.drew ?_))) g2))
                | (go_split_ands; go_at_call 123; (with_reducible (refine Calls.mono (CS.out _ _ ?_ ?_) ?_)); (focus ((repeat (first | with_reducible assumption | with_reducible exact fr.refl | with_reducible refine fr.alloc ?_ _ | with_reducible refine fr.drew ?_)))); (focus ((repeat (first | with_reducible assumption | with_reducible exact fr.refl | with_reducible exact undrewF g2 | with_reducible refine fr.alloc ?_ _ | with_reducible refine fr.drew ?_)))); rintro r w3 ⟨rfl, g3⟩; (have f3 : fr w w3 := fr.step (by (repeat (first | with_reducible assumption | with_reducible exact fr.refl | with_reducible refine fr.alloc ?_ _ | with_reducible refine fr.drew ?_))) g3)))
            all_goals
              go_wp2_with fail
              refine bodyPost_ret (v := .tuple #[.slice none 0 0, .int .i64 0, .int .i64 11]) (by simp [results, Tryz.results192, go_sem]) rfl ?_
              refine ⟨_, [], 0, 11, HF.out, rfl, BytL.nil _ _, ?_⟩
              first
                | exact f3
                | exact f2
        · have hk9 : ¬ (cm : Int) = 8 := by omega
          have HPP : Hid (Byt w S (.slice (some ⟨b, o + k + 8, none⟩) q c8) pp) := Lib.hid (by have := Byt.cut HR.out (f := 8) (m := q) (c' := c8) (by omega) (by omega) (by omega); rwa [HPD.out] at this)
          have CS : Hid (∀ X wx, fr w X → fr (X.alloc (.cells #[.slice (some ⟨b, o + k, none⟩) 4 cm, .slice (some ⟨b, o + k + 8, none⟩) q c8] 35)) wx → Calls Tryz.prog 123 #[.slice (some ⟨X.heap.size, 0, none⟩) 2 2] wx fun r w' => r = .returned (.int .u32 s) ∧ fr wx w') := Lib.hid fun X wx hX hx => by
            have hbl : BytsV (X.alloc (.cells #[.slice (some ⟨b, o + k, none⟩) 4 cm, .slice (some ⟨b, o + k + 8, none⟩) q c8] 35)) (fun _ => True) (.slice (some ⟨X.heap.size, 0, none⟩) 2 2) [rs.take 4, pp] := BytsV.lit X [.slice (some ⟨b, o + k, none⟩) 4 cm, .slice (some ⟨b, o + k + 8, none⟩) q c8] [rs.take 4, pp] 2 _ rfl rfl rfl (by omega) (fun i p hp => by
              match i, hp with
              | 0, hp => simp at hp; subst hp; exact ⟨_, rfl, (H04.out.below hX).mono fun _ _ => trivial⟩
              | 1, hp => simp at hp; subst hp; exact ⟨_, rfl, (HPP.out.below hX).mono fun _ _ => trivial⟩
              | i + 2, hp => simp at hp)
            have := sum_any _ _ _ _ (hbl.below hx)
            rwa [show [rs.take 4, pp].flatten = rs.take 4 ++ pp by simp, HSS.out] at this
          have CC : Hid (∀ wx, fr w wx → Calls Tryz.prog 89 #[.slice (some ⟨b, o + k + 8, none⟩) q c8] wx fun r w' => ∃ v', r = .returned v' ∧ BytL w' w.heap.size v' pp ∧ fr wx w') := Lib.hid fun wx hx => (bcloneL_any S _ pp wx (HPP.out.below hx)).mono fun r w' h => by
            obtain ⟨v', e, h1, h2⟩ := h
            exact ⟨v', e, h1.mono hx.size, h2⟩
          clear HV HR
          by_cases hus : u = s
          · have HF : Hid (readF rs = (pp, 8 + q, 0)) := Lib.hid (by unfold readF; rw [HRL.out, if_neg (by omega), if_neg (by omega), HQ.out, if_neg (by omega), if_neg (by omega), HU.out, HPD.out, HSS.out, if_neg (by simpa using hus)])
            subst hus
            go_enter Tryz.func192, Tryz.ntmps192
            go_upto_region 14 with (go_at_call 237; refine (CG.out _ fr.refl).mono ?_; rintro r w1 ⟨rfl, f1⟩)
            go_region_held3 (fun _ => True) (trivial)
              (first
                | (go_split_ands; go_at_call 237; (with_reducible (refine Calls.mono (CG4.out _ ?_) ?_)); (focus ((repeat (first | with_reducible assumption | with_reducible exact fr.refl | with_reducible refine fr.alloc ?_ _ | with_reducible refine fr.drew ?_)))); rintro r w2 ⟨rfl, g2⟩; (have f2 : fr w w2 := fr.step (by (repeat (first | with_reducible assumption | with_reducible exact fr.refl | with_reducible refine fr.alloc ?_ _ | with_reducible refine fr.drew ?_))) g2))
                | (go_split_ands; go_at_call 123; (with_reducible (refine Calls.mono (CS.out _ _ ?_ ?_) ?_)); (focus ((repeat (first | with_reducible assumption | with_reducible exact fr.refl | with_reducible refine fr.alloc ?_ _ | with_reducible refine fr.drew ?_)))); (focus ((repeat (first | with_reducible assumption | with_reducible exact fr.refl | with_reducible exact undrewF g2 | with_reducible refine fr.alloc ?_ _ | with_reducible refine fr.drew ?_)))); rintro r w3 ⟨rfl, g3⟩; (have f3 : fr w w3 := fr.step (by (repeat (first | with_reducible assumption | with_reducible exact fr.refl | with_reducible refine fr.alloc ?_ _ | with_reducible refine fr.drew ?_))) g3)))
            all_goals
              go_wp2_with (go_at_call 89; (with_reducible (refine Calls.mono (CC.out _ ?_) ?_)); (focus (with_reducible assumption)); rintro r w5 ⟨v5, rfl, hv5, g5⟩)
              refine bodyPost_ret (v := .tuple #[v5, .int .i64 ((k : Int) + 8 + q), .int .i64 0]) (by simp [results, Tryz.results192, go_sem]) rfl ?_
              refine ⟨_, pp, 8 + q, 0, HF.out, by simp; omega, hv5, ?_⟩
              first
                | exact fr.step f3 g5
                | exact fr.step f2 g5
          · have HF : Hid (readF rs = ([], 0, 11)) := Lib.hid (by unfold readF; rw [HRL.out, if_neg (by omega), if_neg (by omega), HQ.out, if_neg (by omega), if_neg (by omega), HU.out, HPD.out, HSS.out, if_pos (by simpa using hus)])
            have hu1 : ((u : Int) == (s : Int)) = false := by simp; omega
            have hu2 : ((u : Int) != (s : Int)) = true := by simp; omega
            have hu3 : (u != s) = true := by simp; omega
            have hu4 : (u == s) = false := by simp; omega
            go_enter Tryz.func192, Tryz.ntmps192
            go_upto_region 14 with (go_at_call 237; refine (CG.out _ fr.refl).mono ?_; rintro r w1 ⟨rfl, f1⟩)
            go_region_held3 (fun _ => True) (trivial)
              (first
                | (go_split_ands; go_at_call 237; (with_reducible (refine Calls.mono (CG4.out _ ?_) ?_)); (focus ((repeat (first | with_reducible assumption | with_reducible exact fr.refl | with_reducible refine fr.alloc ?_ _ | with_reducible refine fr.drew ?_)))); rintro r w2 ⟨rfl, g2⟩; (have f2 : fr w w2 := fr.step (by (repeat (first | with_reducible assumption | with_reducible exact fr.refl | with_reducible refine fr.alloc ?_ _ | with_reducible refine fr.drew ?_))) g2))
                | (go_split_ands; go_at_call 123; (with_reducible (refine Calls.mono (CS.out _ _ ?_ ?_) ?_)); (focus ((repeat (first | with_reducible assumption | with_reducible exact fr.refl | with_reducible refine fr.alloc ?_ _ | with_reducible refine fr.drew ?_)))); (focus ((repeat (first | with_reducible assumption | with_reducible exact fr.refl | with_reducible exact undrewF g2 | with_reducible refine fr.alloc ?_ _ | with_reducible refine fr.drew ?_)))); rintro r w3 ⟨rfl, g3⟩; (have f3 : fr w w3 := fr.step (by (repeat (first | with_reducible assumption | with_reducible exact fr.refl | with_reducible refine fr.alloc ?_ _ | with_reducible refine fr.drew ?_))) g3)))
            all_goals
              go_wp2_with fail
              refine bodyPost_ret (v := .tuple #[.slice none 0 0, .int .i64 0, .int .i64 11]) (by simp [results, Tryz.results192, go_sem]) rfl ?_
              refine ⟨_, [], 0, 11, HF.out, rfl, BytL.nil _ _, ?_⟩
              first
                | exact f3
                | exact f2
end Go.Proofs.YtjnolpfmchnnmaaGreatDoor
end
section
namespace Go.Proofs.YtjnolpfmchnnmaaGreatDoor
set_option maxRecDepth 100000
open Go.RowKit Go.BigFrame
theorem Byt.looseOnly {W W' : World} {R S : Nat → Prop} {v : Value} {bs : List UInt8} (h : Byt W (fun i => R i ∧ Loose W i) v bs) (ho : Only S W W') (hd : ∀ i, R i → ¬ S i) : Byt W' (fun i => R i ∧ Loose W' i) v bs :=
  Byt.mono (S := fun i => R i ∧ Loose W i) (Byt.only (T := fun i => R i ∧ Loose W i) h ho fun i _ hi => hd i hi.1) fun i hi => ⟨hi.1, hi.2.only ho (hd i hi.1)⟩
abbrev FrE := Nat × Value × List UInt8
def OkF (lo : Nat) (T : Nat → Prop) (x : FrE) (W : World) : Prop := Byt W (fun i => (lo ≤ i ∧ ¬ T i) ∧ Loose W i) x.2.1 x.2.2
theorem OkF.anti {lo : Nat} {T T' : Nat → Prop} {x : FrE} {W : World} (h : OkF lo T x W) (hT : ∀ i, T' i → T i) : OkF lo T' x W :=
  Byt.mono (S := fun i => (lo ≤ i ∧ ¬ T i) ∧ Loose W i) h fun i hi => ⟨⟨hi.1.1, fun h => hi.1.2 (hT i h)⟩, hi.2⟩
structure PairsK (w : World) (B Bw b o n c : Nat) (S0 : Nat → Prop) (bs : List UInt8) : Prop where
  b1 : Boxed w B 35 (.slice (some ⟨b, o, none⟩) n c)
  b2 : Boxed w (B + 1) 206 (.pointer (some ⟨Bw, 0, none⟩))
  b3 : Boxed w Bw 31 (.int .i64 0)
  byt : Byt w S0 (.slice (some ⟨b, o, none⟩) n c) bs
theorem boxedFr {w w' : World} {B : Nat} {t : TypeId} {v : Value} (h : Boxed w B t v) (hf : fr w w') : Boxed w' B t v := (Below.block hf B h.lt).trans h
theorem boxedOnly {w w' : World} {B : Nat} {t : TypeId} {v : Value} {S : Nat → Prop} (h : Boxed w B t v) (hf : Only S w w') (hS : ¬ S B) : Boxed w' B t v := (hf.block B h.lt hS).trans h
section
variable {w w' : World} {B Bw b o n c : Nat} {S0 : Nat → Prop} {bs : List UInt8}
theorem PairsK.fr (h : PairsK w B Bw b o n c S0 bs) (hf : fr w w') : PairsK w' B Bw b o n c S0 bs := ⟨boxedFr h.b1 hf, boxedFr h.b2 hf, boxedFr h.b3 hf, h.byt.below hf⟩
theorem PairsK.only (h : PairsK w B Bw b o n c S0 bs) {T : Nat → Prop} (hf : Only T w w') (hT : ∀ i, T i → ¬ (i = B ∨ i = B + 1 ∨ i = Bw ∨ S0 i)) : PairsK w' B Bw b o n c S0 bs :=
  ⟨boxedOnly h.b1 hf fun h => hT _ h (.inl rfl), boxedOnly h.b2 hf fun h => hT _ h (.inr (.inl rfl)), boxedOnly h.b3 hf fun h => hT _ h (.inr (.inr (.inl rfl))), h.byt.only hf fun i _ hi h => hT i h (.inr (.inr (.inr hi)))⟩
theorem PairsK.ne1 (h : PairsK w B Bw b o n c S0 bs) : B ≠ Bw := by
  rintro rfl
  have := h.b1.symm.trans h.b3
  injection this with this
  injection this with _ this
  exact absurd this (by decide)
theorem PairsK.ne2 (h : PairsK w B Bw b o n c S0 bs) : B + 1 ≠ Bw := by
  rintro rfl
  have := h.b2.symm.trans h.b3
  injection this with this
  injection this with _ this
  exact absurd this (by decide)
theorem PairsK.why (h : PairsK w B Bw b o n c S0 bs) (hS : ¬ S0 Bw) : PairsK (w.setCell ⟨Bw, 0, none⟩ (.int .i64 0)) B Bw b o n c S0 bs :=
  ⟨h.b1.other h.ne1 _, h.b2.other h.ne2 _, h.b3.set _, h.byt.only (only_set w Bw 0 _) fun _ _ hi e => hS (e ▸ hi)⟩
end
def bvR : Rd (List UInt8) := fun w S bs cs => ∃ v, cs = [v] ∧ Byt w S v bs
theorem bvFine : Fine bvR 1 := ⟨fun h => by obtain ⟨v, rfl, _⟩ := h; rfl, fun h hk => by obtain ⟨v, rfl, h1⟩ := h; exact ⟨v, rfl, h1.keepR hk⟩⟩
theorem infoB : (Tryz.prog.info? 35).map (fun i => (i.zero, i.size, i.bytes)) = some (some (.slice none 0 0), 1, 24) := by kernel_rfl
def frB (rs : List (List UInt8)) : List UInt8 := (rs.map putF).flatten
theorem frB_cons (p : List UInt8) (rs : List (List UInt8)) : frB (p :: rs) = putF p ++ frB rs := rfl
theorem frB_append (a b : List (List UInt8)) : frB (a ++ b) = frB a ++ frB b := by unfold frB; rw [List.map_append, List.flatten_append]
theorem frB_pos (p : List UInt8) (rs : List (List UInt8)) : 8 ≤ (frB (p :: rs)).length := by rw [frB_cons, List.length_append, putF_len]; omega
theorem frB_many (rs : List (List UInt8)) : rs.length * 8 ≤ (frB rs).length := by
  induction rs with
  | nil => simp
  | cons p rs ih => rw [frB_cons, List.length_append, putF_len, List.length_cons]; omega
theorem readF_put (p rest : List UInt8) (h : p.length ≤ 2097152) : readF (putF p ++ rest) = (p, 8 + p.length, 0) := by
  have hl : (putF p ++ rest).length = p.length + 8 + rest.length := by rw [List.length_append, putF_len]
  have hs := sumN_lt (le32 p.length ++ p)
  have e1 : putF p ++ rest = le32 p.length ++ (le32 (sumN (le32 p.length ++ p)) ++ (p ++ rest)) := by unfold putF; simp [List.append_assoc]
  have u1 : un32 (putF p ++ rest) = p.length := by rw [e1]; exact un_le32 (by omega) _
  have d4 : (putF p ++ rest).drop 4 = le32 (sumN (le32 p.length ++ p)) ++ (p ++ rest) := by rw [e1, List.drop_left' (le32_len _)]
  have u2 : un32 ((putF p ++ rest).drop 4) = sumN (le32 p.length ++ p) := by rw [d4]; exact un_le32 hs _
  have t4 : (putF p ++ rest).take 4 = le32 p.length := by rw [e1, List.take_left' (le32_len _)]
  have d8 : (putF p ++ rest).drop 8 = p ++ rest := by
    rw [show 8 = 4 + 4 from rfl, ← List.drop_drop, d4, List.drop_left' (le32_len _)]
  unfold readF
  rw [if_neg (by omega), if_neg (by omega), u1, if_neg (by omega), if_neg (by omega), u2, t4, d8, List.take_left' rfl, if_neg (by simp)]
end Go.Proofs.YtjnolpfmchnnmaaGreatDoor
end
section
namespace Go.Proofs.YtjnolpfmchnnmaaGreatDoor
set_option maxRecDepth 100000
open Go.RowKit Go.BigFrame
theorem wpListIn_append_at {F : Fence} {n : Nat} {P : Program} (w : World) {ops : Array Oper} {rest : List Oper} {o : Oper} {a : Act} {Q : Exit → Act → World → Prop}
    (hg : o.guard = none) (s x : Operand) (t : TypeId) (hop : o.op = Op.call { callee := Callee.builtin Builtin.append, args := #[s, x], argTypes := #[t, t] })
    (base : Nat) (e : TypeId) (i : TypeInfo) (z : Value) (size bytes : Nat) (h1 : P.underlying t = some (.slice e)) (h2 : P.info? e = some i) (h3 : i.zero = some z) (h4 : i.size = size) (h5 : i.bytes = bytes) (h6 : z.cells.size = size) (h7 : 0 < size)
    (v : Value) (k : Nat) (xs : List Value) (hs : a.eval s = v) (hown : w.ownsRow base e size v k xs) (ad : Addr) (m c : Nat) (news : List Value) (hx : a.eval x = .slice (some ad) m c) (hn : news.length = m * size)
    (hc : ∀ j u, news[j]? = some u → w.cell? (ad.add j) = some u) (h1c : ∀ u ∈ news, u.oneCell' = true) (b1 : k + m ≤ maxLen) (b2 : (k + m) * bytes ≤ 140737488355328) (b3 : base ≤ w.heap.size)
    (hK : ∀ v' w', w'.ownsRow base e size v' (k + m) (xs ++ news) → w.grownBy w' v.ownBlock → (v'.ownBlock = v.ownBlock ∨ v'.ownBlock = some w.heap.size) → wpListIn F n P ops Q rest (a.put o.dst v') w') :
    wpListIn F n P ops Q (o :: rest) a w := by
  refine wpListIn_plain hg fun K hK' => ?_
  obtain ⟨v', w', hrun, r1, r2, _, r4⟩ := run_append_own_at (P := P) w base t o.type e i z size bytes h1 h2 h3 h4 h5 h6 h7 v k xs hown ad m c news hn hc h1c b1 b2 b3
  unfold Oper.wpIn
  refine ⟨?_, ?_⟩
  · simp [Oper.about, hop, resolve, Target.leads, Sem.run_pure]
  · rw [Oper.semAt_plain F _ _ (by rw [hop]; intro c hc'; cases hc')]
    simp [execOp, hop, resolve, invoke, builtin, hs, hx, hrun, Result.andThen]
    exact hK' _ _ (hK v' w' r1 r2 r4)
theorem Loose.idle {Z : Nat → Prop} {base i : Nat} {A B : World} (h : Loose A i) (hi : Idle Z base A B) (hZ : ¬ Z i) : Loose B i := by
  obtain ⟨cs, h⟩ := h
  exact ⟨cs, hi.cells hZ h rfl⟩
theorem Byt.idle {Z R : Nat → Prop} {base : Nat} {A B : World} {v : Value} {bs : List UInt8} (h : Byt A (fun i => R i ∧ Loose A i) v bs) (hi : Idle Z base A B) (hZ : ∀ i, R i → ¬ Z i) : Byt B (fun i => R i ∧ Loose B i) v bs :=
  Byt.mono (S := fun i => R i ∧ Loose A i) (Byt.keep (S := fun i => R i ∧ Loose A i) h hi.size fun i _ hR => by
    obtain ⟨cs, hl⟩ := hR.2
    exact (hi.cells (hZ i hR.1) hl rfl).trans hl.symm) fun _ hR => ⟨hR.1, hR.2.idle hi (hZ _ hR.1)⟩
theorem Byt.grewT {lo : Nat} {T T' : Nat → Prop} {v : Value} {bs : List UInt8} {W W' : World} (h : Byt W (fun i => (lo ≤ i ∧ ¬ T i) ∧ Loose W i) v bs) (hg : Grew W.heap.size T T') (ho : Only (fun i => T i ∨ W.heap.size ≤ i) W W') : Byt W' (fun i => (lo ≤ i ∧ ¬ T' i) ∧ Loose W' i) v bs := by
  have h3 : Byt W (fun i => ((lo ≤ i ∧ ¬ T i) ∧ i < W.heap.size) ∧ Loose W i) v bs := h.mono fun i hi => ⟨⟨hi.1, hi.2.lt⟩, hi.2⟩
  refine (Byt.looseOnly h3 ho fun i hi h => h.elim hi.1.2 fun h => by have := hi.2; omega).mono fun i hi => ⟨⟨hi.1.1.1, fun hT => (hg i hT).elim hi.1.1.2 fun h => by have := hi.1.2; omega⟩, hi.2⟩
theorem Only.idle {Z : Nat → Prop} {base : Nat} {w W W' : World} (h : Only Z w W) (hi : Idle Z base W W') (hb : w.heap.size ≤ base) : Only Z w W' :=
  ⟨hi.os.trans h.os, hi.tape.trans h.tape, hi.output.trans h.output, Nat.le_trans h.size hi.size, fun i hlt hn => (hi.block i (Nat.lt_of_lt_of_le hlt h.size) fun hk => hk.elim hn fun hk => by omega).trans (h.block i hlt hn)⟩
section
variable {te e : TypeId} {size n₀ B : Nat}
structure Grows (te e : TypeId) (size n₀ B : Nat) (T : Nat → Prop) (v : Value) (k : Nat) (ys : List Value) (W : World) : Prop where
  box : Boxed W B te v
  row : W.ownsRow n₀ e size v k ys
  set : ∀ i, T i ↔ i = B ∨ v.ownBlock = some i
theorem Grows.blk {T : Nat → Prop} {v : Value} {k : Nat} {ys : List Value} {W : World} (h : Grows te e size n₀ B T v k ys W) {g : Nat} (hg : v.ownBlock = some g) : n₀ ≤ g ∧ g < W.heap.size ∧ ∃ cur, W.heap[g]? = some (.cells cur e (0, 0)) := by
  rcases h.row.2 with ⟨rfl, _⟩ | ⟨g', cap, cur, rfl, hb, hh, _⟩
  · simp [Value.ownBlock] at hg
  · obtain rfl : g' = g := by simpa [Value.ownBlock] using hg
    exact ⟨hb, (Array.getElem?_eq_some_iff.1 hh).1, cur, hh⟩
theorem Grows.lt {T : Nat → Prop} {v : Value} {k : Nat} {ys : List Value} {W : World} (h : Grows te e size n₀ B T v k ys W) {i : Nat} (hi : T i) : i < W.heap.size := by
  rcases (h.set i).1 hi with rfl | hg
  · exact h.box.lt
  · exact (h.blk hg).2.1
theorem Grows.idle {T Z : Nat → Prop} {v : Value} {k base : Nat} {ys : List Value} {W W' : World} (h : Grows te e size n₀ B T v k ys W) (hi : Idle Z base W W') (hZ : ∀ i, Z i → i < n₀) (hB : n₀ ≤ B) : Grows te e size n₀ B T v k ys W' := by
  refine ⟨hi.cells (fun hz => by have := hZ _ hz; omega) h.box rfl, own_only h.row hi fun g hg hS => ?_, h.set⟩
  obtain ⟨h1, _, cur, h2⟩ := h.blk hg
  rcases hS with hz | ⟨_, o, ho, hc⟩
  · have := hZ _ hz; omega
  · rw [h2] at ho
    injection ho with ho
    subst ho
    cases hc
theorem Grows.push {T : Nat → Prop} {v v' : Value} {k k' sA : Nat} {ys ys' : List Value} {W w2 : World} {tmp : Obj} (h : Grows te e size n₀ B T v k ys W) (hte : te ≠ e) (hB : n₀ ≤ B) (hn : n₀ ≤ W.heap.size) (hs : sA ≤ W.heap.size)
    (hown : w2.ownsRow n₀ e size v' k' ys') (hg : (W.alloc tmp).grownBy w2 v.ownBlock) (hat : v'.ownBlock = v.ownBlock ∨ v'.ownBlock = some (W.alloc tmp).heap.size) :
    Boxed w2 B te v ∧ Grows te e size n₀ B (fun i => i = B ∨ v'.ownBlock = some i) v' k' ys' (w2.setCell ⟨B, 0, none⟩ v') ∧ Grew sA T (fun i => i = B ∨ v'.ownBlock = some i) ∧ Only (fun i => T i ∨ sA ≤ i) W (w2.setCell ⟨B, 0, none⟩ v') := by
  obtain ⟨h1, h2, h3, _, _⟩ := h.box.appended hte h.row hn hB hown hg
  refine ⟨h1, ⟨h2, h3, fun i => Iff.rfl⟩, fun i hi => ?_, hg.os, hg.tape, hg.output, ?_, fun i hi hS => ?_⟩
  · rcases hi with rfl | hi
    · exact .inl ((h.set _).2 (.inl rfl))
    · rcases hat with hat | hat
      · exact .inl ((h.set _).2 (.inr (hat ▸ hi)))
      · rw [hat] at hi
        injection hi with hi
        simp at hi
        omega
  · have := hg.size
    simp at this
    simp [World.setCell]
    omega
  · have hb : i ≠ B := fun e => hS (.inl ((h.set _).2 (.inl e)))
    have hv : some i ≠ v.ownBlock := fun e => hS (.inl ((h.set _).2 (.inr e.symm)))
    exact (heap_setCell_other w2 ⟨B, 0, none⟩ i v' hb).trans ((hg.block i (by simp; omega) hv).trans (Below.heap_alloc W tmp i hi))
end
end Go.Proofs.YtjnolpfmchnnmaaGreatDoor
end
section
namespace Go.Proofs.YtjnolpfmchnnmaaGreatDoor
set_option maxRecDepth 100000
open Go.RowKit Go.BigFrame Go.Shelf
attribute [local go_sem ↓] Go.wp_at_zero Go.wp_at_succ
def chunkV (g o n k : Nat) : Value := .slice (some ⟨g, o + 1024 * k * 5, none⟩) (min 1024 (n - 1024 * k)) (min 1024 (n - 1024 * k))
set_option maxRecDepth 100000 in
set_option maxHeartbeats 1000000 in
theorem chunkT_any (A : Option Addr) (n c : Nat) (w : World) :
    Calls Tryz.prog 207 #[.slice A n c, .int .i64 1024] w fun r w' => r = .returned (.func (.func 243) #[] #[.pointer (some ⟨w.heap.size, 0, none⟩), .pointer (some ⟨w.heap.size + 1, 0, none⟩)]) ∧ Boxed w' w.heap.size 43 (.slice A n c) ∧ Boxed w' (w.heap.size + 1) 3 (.int .i64 1024) ∧ fr w w' ∧ w'.heap.size = w.heap.size + 2 := by
  have p2 := Boxed.new (w.alloc (.cells #[.slice A n c] 43)) 3 (.int .i64 1024)
  have p1 := (Boxed.new w 43 (.slice A n c)).alloc (.cells #[.int .i64 1024] 3)
  have hf : fr w ((w.alloc (.cells #[.slice A n c] 43)).alloc (.cells #[.int .i64 1024] 3)) := fr.alloc (fr.alloc fr.refl _) _
  rw [World.size_alloc] at p2
  have P1 := Lib.hid p1
  have P2 := Lib.hid p2
  have HF := Lib.hid hf
  clear p1 p2 hf
  go_enter Tryz.func207, Tryz.ntmps207
  go_wp2
  go_ret
  exact ⟨rfl, P1.out, P2.out, HF.out, by simp⟩
set_option maxRecDepth 100000 in
set_option maxHeartbeats 2000000 in
theorem chunkT_tells (nn : Nat) (w : World) (B g o n c m : Nat) (A : Option Addr) (b1 : Boxed w B 43 (.slice A n c)) (b2 : Boxed w (B + 1) 3 (.int .i64 1024)) (hA : 0 < n → A = some ⟨g, o, none⟩) (hn : n ≤ 1099511627776) (hc : n ≤ c) (hcm : c ≤ 9223372036854775807) (hm1 : ∀ k, k < m ↔ 1024 * k < n) :
    Tells Fence.wide nn Tryz.prog 243 #[.pointer (some ⟨B, 0, none⟩), .pointer (some ⟨B + 1, 0, none⟩)] (fun k : Nat => #[chunkV g o n k]) (fun pre _ k _ => k = pre.length ∧ k < m)
      (fun xs _ => xs = List.range m) (fun _ _ => True) (fun i => i = B ∨ i = B + 1) (fun _ => False) w := by
  intro l J Jx T0 W hW hT0 hJ hJx hJT hY h0
  refine callsIn_wide.2 ?_
  have hmb : 1024 * m ≤ n + 1024 := by
    rcases Nat.eq_zero_or_pos m with h | h
    · omega
    · have := (hm1 (m - 1)).1 (by omega); omega
  have HM1 := Lib.hid hm1
  have HA := Lib.hid hA
  have HJ := Lib.hid hJ
  have HJT := Lib.hid hJT
  have HY := Lib.hid hY
  have HT0 := Lib.hid hT0
  have HB := Lib.hid (show B < W.heap.size ∧ B + 1 < W.heap.size from ⟨Nat.lt_of_lt_of_le b1.lt hW.size, Nat.lt_of_lt_of_le b2.lt hW.size⟩)
  have HB1 := Lib.hid (boxedFr b1 hW)
  have HB2 := Lib.hid (boxedFr b2 hW)
  have HJ0 := Lib.hid h0
  clear hJ hJx hJT hY hT0 hW h0 b1 b2 hm1 hA
  go_enter Tryz.func243, Tryz.ntmps243
  go_wp2
  go_loopw [4] (fun x wr => ∃ (k : Nat) (T : Nat → Prop), k ≤ m ∧ x = .int .i64 (1024 * k : Nat) ∧ J (List.range k) T wr ∧ (∀ i, T i → ¬ (i = B ∨ i = B + 1)) ∧ Boxed wr B 43 (.slice A n c) ∧ Boxed wr (B + 1) 3 (.int .i64 1024) ∧ W.heap.size ≤ wr.heap.size) (fun x _ => 1024 * m - (intOf x).toNat)
  case atStart => exact ⟨0, T0, Nat.zero_le _, rfl, HJ0.out, HT0.out, HB1.out, HB2.out, Nat.le_refl _⟩
  case round =>
    clear HJ0 HT0 HB1 HB2
    obtain ⟨k, T, hk, rfl, hj, hT, b1, b2, hz⟩ := hrel
    have HJK := Lib.hid hj
    have HT := Lib.hid hT
    have HZ := Lib.hid hz
    obtain ⟨q, hq⟩ : ∃ q, 1024 * k = q := ⟨_, rfl⟩
    rw [hq]
    have HQ := Lib.hid hq
    obtain ⟨w0, hw0⟩ : ∃ x, x = wr := ⟨_, rfl⟩
    subst hw0
    by_cases hkm : k < m
    · have hqn : q < n := by have := (HM1.out k).1 hkm; omega
      obtain rfl := HA.out (by omega)
      have c1 := b1.cell
      have c2 := b2.cell
      have HB1 := Lib.hid b1
      have HB2 := Lib.hid b2
      clear hj hT b1 b2 hz hq
      obtain ⟨e, he⟩ : ∃ e, min 1024 (n - q) = e := ⟨_, rfl⟩
      have heb : q + e ≤ n ∧ 1 ≤ e ∧ e ≤ 1024 := by omega
      have hqc : ¬ c = q := by omega
      have i1 : (0 : Int) ≤ (q : Int) := by omega
      have i2 : (q : Int) ≤ (n : Int) := by omega
      have i3 : (q : Int) ≤ (c : Int) := by omega
      have i4 : ((n : Int) - (q : Int)) = ((n - q : Nat) : Int) := by omega
      have i5 : min (1024 : Int) ((n - q : Nat) : Int) = (e : Int) := by omega
      have HKM := Lib.hid hkm
      have hv : chunkV g o n k = .slice (some ⟨g, o + q * 5, none⟩) e e := by unfold chunkV; rw [HQ.out, he]
      have HV := Lib.hid hv
      clear hkm hk hv he
      go_upto_region 3 with (fail)
      go_quiet (fail)
      have c3 : (w0.drewN nq).cell? ⟨B, 0, none⟩ = some (.slice (some ⟨g, o, none⟩) n c) := c1
      have c4 : (w0.drewN nq).cell? ⟨B + 1, 0, none⟩ = some (.int .i64 1024) := c2
      go_upto_region 4 with (fail)
      refine (wpIn_wide (n := nn)).1 ?_
      gi_wp2_with (fail)
      have hid : ∀ x, Idle (fun _ => False) W.heap.size w0 (w0.drewN x) := fun x => ⟨rfl, rfl, rfl, Nat.le_refl _, fun _ _ _ => rfl⟩
      obtain ⟨fn, tmps, assign, body, hy, hR⟩ := HY.out (List.range k) T k (w0.drewN nq) (HJ.out _ _ _ _ HJK.out (hid _)) ⟨by simp, HKM.out⟩
      rw [HV.out] at hy
      rw [hy, Oper.uponIn_round]
      refine ⟨fun h => absurd h (by decide), hR.mono ?_⟩
      rintro ex w6 ⟨T', gT, oT, (⟨rfl, hj6⟩ | ⟨rfl, hj6⟩)⟩
      · have gT' := Lib.hid gT
        have oT' := Lib.hid oT
        have HJ6 := Lib.hid hj6
        have hTB : ∀ i, T i → ¬ (i = B ∨ i = B + 1) := HT.out
        have B1 := Lib.hid (boxedOnly (S := T) (w := w0.drewN nq) HB1.out oT fun h => hTB _ h (.inl rfl))
        have B2 := Lib.hid (boxedOnly (S := T) (w := w0.drewN nq) HB2.out oT fun h => hTB _ h (.inr rfl))
        have c5 := B2.out.cell
        have hsz : w0.heap.size ≤ w6.heap.size := oT.size
        clear hy hR gT oT hj6 hid hTB c1 c2 c3 c4
        gi_wp2
        go_wp2
        refine ⟨⟨k + 1, T', HKM.out, ?_, by rw [List.range_succ]; exact HJ6.out, fun i hi => ?_, B1.out, B2.out, Nat.le_trans HZ.out hsz⟩, by have := HQ.out; have := HKM.out; simp [intOf]; omega⟩
        · congr 1
          have := HQ.out
          omega
        · rcases gT'.out i hi with h | h
          · exact HT.out i h
          · have h1 := HB.out
            have h2 := HZ.out
            have h3 : w0.heap.size ≤ i := h
            omega
      · have HJX6 := Lib.hid hj6
        clear hy hR hj6 hid gT oT
        gi_wp2
        go_wp2
        refine bodyPost_ret (results_none rfl _ _ _) rfl ?_
        exact ⟨⟨_, rfl⟩, .inr ⟨_, T', trivial, HJX6.out⟩⟩
    · have c1 := b1.cell
      have c2 := b2.cell
      have hqn : ¬ q < n := by have := (HM1.out k).2; rw [HQ.out] at this; exact fun h => hkm (this h)
      obtain rfl : k = m := by omega
      clear hkm hj hT b1 b2 hz hq
      go_wp2
      go_end0
      exact ⟨⟨_, rfl⟩, .inl ⟨_, T, rfl, HJK.out⟩⟩
end Go.Proofs.YtjnolpfmchnnmaaGreatDoor
end
section
namespace Go.Proofs.YtjnolpfmchnnmaaGreatDoor
set_option maxRecDepth 100000
open Go.RowKit Go.BigFrame Go.Sort Go.Shelf Go.Lib Go.Maps
attribute [local go_sem ↓] Go.wp_at_zero Go.wp_at_succ
def OwnS (w : World) (base : Nat) (v : Value) (ss : List Nm) : Prop := w.ownsRow base 9 1 v ss.length (ss.map encStr)
theorem OwnS.nil (w : World) (base : Nat) : OwnS w base (.slice none 0 0) [] := World.ownsRow_nil _ _ _ _
theorem strs0 (w : World) : Strs w (fun _ => True) (.slice none 0 0) [] := ⟨_, _, rfl, Nat.le_refl _, by omega, by simp, fun h => by simp at h⟩
def listP (k : Pk) : List Nm := if k.down = true then [] else k.fs.map Fl.name
set_option maxRecDepth 100000 in
set_option maxHeartbeats 2000000 in
theorem list_any (F : Nat → Prop) (p : Nat) (k : Pk) (w : World) (h : DiskP w F p k) (hl : k.fs.length * 16 ≤ 140737488355328) :
    Calls Tryz.prog 58 #[.pointer (some ⟨p, 0, none⟩)] w fun r w' => ∃ v, r = .returned (.tuple #[v, .int .i64 (readyE k [])]) ∧ OwnS w' w.heap.size v (listP k) ∧ Below w.heap.size w w' := by
  have HR := Lib.hid (ready_any F p k (fun _ => True) _ [] w h (strs0 w) (fun y hy => by cases hy))
  obtain ⟨mb, kv, d, h, rfl⟩ := h
  have H := Lib.hid h
  clear h
  have hlen : d.ns.length * 16 ≤ 140737488355328 := by rw [← map_len]; exact hl
  cases hd : d.pk.down with
  | true =>
    have e1 : readyE d.pk [] = 20 := by unfold readyE; rw [if_pos hd]
    have e2 : listP d.pk = [] := by unfold listP; rw [if_pos hd]
    rw [e1] at HR ⊢
    rw [e2]
    clear hd e1 e2
    go_enter Tryz.func58, Tryz.ntmps58
    go_wp2_with (go_at_call 90; refine HR.out.mono ?_; rintro r w1 ⟨rfl, hb1⟩)
    refine bodyPost_ret (v := .tuple #[.slice none 0 0, .int .i64 20]) (by simp [results, Tryz.results58, go_sem]) rfl ?_
    exact ⟨_, rfl, OwnS.nil _ _, hb1⟩
  | false =>
    have e1 : readyE d.pk [] = 0 := by unfold readyE; rw [if_neg (by rw [hd]; simp)]; rfl
    have e2 : listP d.pk = d.ns.map Fd.name := by unfold listP; rw [if_neg (by rw [hd]; simp)]; show (d.ns.map Fd.fl).map Fl.name = _; rw [List.map_map]; rfl
    rw [e1] at HR ⊢
    rw [e2]
    clear hd e1 e2
    go_enter Tryz.func58, Tryz.ntmps58
    go_wp2_with (first
      | (go_at_call 90; refine HR.out.mono ?_; rintro r w1 ⟨rfl, hb1⟩)
      | (go_at_call 86; refine (names_any F p mb _ d _ (H.out.below hb1) hlen).mono ?_; rintro r w2 ⟨vn, rfl, hrow, hb2⟩))
    refine bodyPost_ret (v := .tuple #[vn, .int .i64 0]) (by simp [results, Tryz.results58, go_sem]) rfl ?_
    refine ⟨_, rfl, ?_, hb1.trans (hb2.mono hb1.size)⟩
    unfold OwnS
    rw [List.length_map]
    exact ownsRow_base_a hrow hb1.size
end Go.Proofs.YtjnolpfmchnnmaaGreatDoor
end
section
namespace Go.Proofs.YtjnolpfmchnnmaaGreatDoor
set_option maxRecDepth 100000
open Go.RowKit
structure CalmK (k : Pk) (dn : Nat) : Prop where
  ops : k.ops = -1
  room : k.room = -1
  up : k.down = false
  srt : k.fs.Pairwise fun a b => a.name < b.name
  nms : ∀ f ∈ k.fs, nameB f.name = true
  d0 : 0 ≤ k.done
  d1 : k.done ≤ dn
  few : k.fs.length ≤ dn
def fileD (k : Pk) (x : Nm) : Option (List UInt8) := (findP x k.fs).map Fl.data
def putD (D : Nm → Option (List UInt8)) (x : Nm) (c : List UInt8) : Nm → Option (List UInt8) := fun y => if y = x then some c else D y
def delD (D : Nm → Option (List UInt8)) (x : Nm) : Nm → Option (List UInt8) := fun y => if y = x then none else D y
theorem putD_same (D : Nm → Option (List UInt8)) (x : Nm) (c : List UInt8) : putD D x c x = some c := if_pos rfl
theorem putD_ne (D : Nm → Option (List UInt8)) {x y : Nm} (c : List UInt8) (h : y ≠ x) : putD D x c y = D y := if_neg h
theorem delD_ne (D : Nm → Option (List UInt8)) {x y : Nm} (h : y ≠ x) : delD D x y = D y := if_neg h
section
variable {k : Pk} {dn : Nat} {x y : Nm} {b : List UInt8}
theorem findP_name {fs : List Fl} {f : Fl} (h : findP x fs = some f) : f ∈ fs ∧ f.name = x := by
  induction fs with
  | nil => cases h
  | cons g l ih =>
    unfold findP at h
    split at h
    · injection h with h; subst h; exact ⟨List.mem_cons_self, by assumption⟩
    · exact ⟨List.mem_cons_of_mem _ (ih h).1, (ih h).2⟩
theorem findP_non {fs : List Fl} : findP x fs = none ↔ ∀ f ∈ fs, f.name ≠ x := by
  induction fs with
  | nil => exact ⟨fun _ _ h => (by cases h), fun _ => rfl⟩
  | cons g l ih =>
    unfold findP
    split
    · rename_i h
      exact ⟨fun h => (by cases h), fun h' => absurd h (h' g List.mem_cons_self)⟩
    · rename_i h
      rw [ih]
      exact ⟨fun h' f hf => (List.mem_cons.1 hf).elim (fun e => e ▸ h) (h' f), fun h' f hf => h' f (List.mem_cons_of_mem _ hf)⟩
theorem findP_upd (g : Fl → Fl) (hg : ∀ f, (g f).name = f.name) (y : Nm) (fs : List Fl) : findP y (updP x g fs) = if y = x then (findP x fs).map g else findP y fs := by
  induction fs with
  | nil => show none = _; split <;> rfl
  | cons f l ih =>
    show findP y ((if f.name = x then g f else f) :: updP x g l) = _
    by_cases hfx : f.name = x
    · rw [if_pos hfx]
      unfold findP
      rw [hg, hfx, if_pos rfl]
      by_cases hy : y = x
      · rw [if_pos hy.symm, if_pos hy]; rfl
      · rw [if_neg fun e => hy e.symm, if_neg hy, ih, if_neg hy, if_neg fun e => hy e.symm]
    · rw [if_neg hfx]
      unfold findP
      by_cases hfy : f.name = y
      · rw [if_pos hfy, if_neg (fun e => hfx (hfy.trans e))]
        rw [if_pos hfy]
      · rw [if_neg hfy, ih, if_neg hfx]
        split <;> rfl
theorem findP_ins {f : Fl} (y : Nm) {fs : List Fl} : findP y (insP f fs) = if y = f.name then some f else findP y fs := by
  induction fs with
  | nil =>
    show (if f.name = y then some f else none) = _
    by_cases h : y = f.name
    · rw [if_pos h, if_pos h.symm]
    · rw [if_neg h, if_neg fun e => h e.symm]; rfl
  | cons g l ih =>
    unfold insP
    split
    · show (if f.name = y then some f else findP y (g :: l)) = _
      by_cases h : y = f.name
      · rw [if_pos h, if_pos h.symm]
      · rw [if_neg h, if_neg fun e => h e.symm]
    · split
      · rename_i h2
        show (if f.name = y then some f else findP y l) = _
        by_cases h : y = f.name
        · rw [if_pos h, if_pos h.symm]
        · rw [if_neg h, if_neg fun e => h e.symm]
          show _ = if g.name = y then some g else findP y l
          rw [if_neg fun e => h (e.symm.trans h2.symm)]
      · rename_i h1 h2
        show (if g.name = y then some g else findP y (insP f l)) = if y = f.name then some f else if g.name = y then some g else findP y l
        rw [ih]
        by_cases h : y = f.name
        · rw [if_pos h, if_pos h, if_neg fun e => h2 (h.symm.trans e.symm)]
        · rw [if_neg h, if_neg h]
theorem findP_del (y : Nm) {fs : List Fl} : findP y (delP x fs) = if y = x then none else findP y fs := by
  induction fs with
  | nil => show none = _; split <;> rfl
  | cons g l ih =>
    unfold delP
    split
    · rename_i h
      rw [ih]
      by_cases hy : y = x
      · rw [if_pos hy, if_pos hy]
      · rw [if_neg hy, if_neg hy]
        show _ = if g.name = y then some g else findP y l
        rw [if_neg fun e => hy (e.symm.trans h)]
    · rename_i h
      show (if g.name = y then some g else findP y (delP x l)) = if y = x then none else if g.name = y then some g else findP y l
      rw [ih]
      by_cases hy : y = x
      · rw [if_pos hy, if_pos hy, if_neg fun e => h (e.trans hy)]
      · rw [if_neg hy, if_neg hy]
theorem mem_insP' {f g : Fl} {fs : List Fl} (h : g ∈ insP f fs) : g = f ∨ g ∈ fs := by
  induction fs with
  | nil => exact .inl (by simpa [insP] using h)
  | cons a l ih =>
    unfold insP at h
    split at h
    · exact (List.mem_cons.1 h).elim .inl .inr
    · split at h
      · exact (List.mem_cons.1 h).elim .inl fun h => .inr (List.mem_cons_of_mem _ h)
      · rcases List.mem_cons.1 h with h | h
        · exact .inr (h ▸ List.mem_cons_self)
        · exact (ih h).elim .inl fun h => .inr (List.mem_cons_of_mem _ h)
theorem sub_delP (x : Nm) (fs : List Fl) : (delP x fs).Sublist fs := by
  induction fs with
  | nil => exact .slnil
  | cons a l ih => unfold delP; split; exact .cons _ ih; exact .cons_cons _ ih
theorem len_insP' (f : Fl) (fs : List Fl) : (insP f fs).length ≤ fs.length + 1 := by
  induction fs with
  | nil => exact Nat.le_refl _
  | cons a l ih =>
    unfold insP
    split
    · exact Nat.le_refl _
    · split
      · simp
      · simp only [List.length_cons]; omega
theorem srt_ins' {f : Fl} {fs : List Fl} (h : fs.Pairwise fun a b => a.name < b.name) : (insP f fs).Pairwise fun a b => a.name < b.name := by
  induction fs with
  | nil => exact List.pairwise_singleton _ _
  | cons a l ih =>
    have ha := (List.pairwise_cons.1 h).1
    have hl := (List.pairwise_cons.1 h).2
    unfold insP
    split
    · rename_i h1
      refine List.pairwise_cons.2 ⟨fun x hx => ?_, h⟩
      rcases List.mem_cons.1 hx with rfl | hx
      · exact h1
      · exact List.lt_trans h1 (ha x hx)
    · split
      · rename_i h1 h2
        exact List.pairwise_cons.2 ⟨fun x hx => by show f.name < x.name; rw [h2]; exact ha x hx, hl⟩
      · rename_i h1 h2
        refine List.pairwise_cons.2 ⟨fun x hx => ?_, ih hl⟩
        rcases mem_insP' hx with rfl | hx
        · exact lt_tri _ _ h1 h2
        · exact ha x hx
theorem srt_upd' {g : Fl → Fl} (hg : ∀ f, (g f).name = f.name) {fs : List Fl} (h : fs.Pairwise fun a b => a.name < b.name) : (updP x g fs).Pairwise fun a b => a.name < b.name := by
  unfold updP
  rw [List.pairwise_map]
  refine h.imp fun {a b} hab => ?_
  have e : ∀ f : Fl, (if f.name = x then g f else f).name = f.name := fun f => by split <;> simp [hg]
  rw [e, e]
  exact hab
theorem nms_upd {g : Fl → Fl} (hg : ∀ f, (g f).name = f.name) {fs : List Fl} (h : ∀ f ∈ fs, nameB f.name = true) : ∀ f ∈ updP x g fs, nameB f.name = true := fun f hf => by
  obtain ⟨f', hf', rfl⟩ := List.mem_map.1 hf
  split
  · rw [hg]; exact h f' hf'
  · exact h f' hf'
theorem CalmK.crash (h : CalmK k dn) : crashes k = false := by unfold crashes; rw [h.ops]; rfl
theorem CalmK.change (h : CalmK k dn) : changeK k = { k with done := k.done + 1 } := by unfold changeK; rw [h.crash]; rfl
theorem CalmK.changeE (h : CalmK k dn) : changeE k = 0 := by unfold _root_.Go.Proofs.YtjnolpfmchnnmaaGreatDoor.changeE; rw [h.crash]; rfl
theorem CalmK.ready (h : CalmK k dn) (hx : nameB x = true) : readyE k [x] = if (fileD k x).isNone = true then 22 else 0 := by
  unfold readyE fileD
  rw [h.up, if_neg (by decide)]
  simp only [List.all_cons, List.all_nil, hx, Bool.and_true]
  rw [if_neg (by decide), Option.isNone_map]
theorem CalmK.ready0 (h : CalmK k dn) : readyE k [] = 0 := by
  unfold readyE
  rw [h.up]
  rfl
theorem CalmK.ready2 (h : CalmK k dn) (hx : nameB x = true) (hy : nameB y = true) : readyE k [x, y] = if (fileD k x).isNone = true then 22 else 0 := by
  unfold readyE fileD
  rw [h.up, if_neg (by decide)]
  simp only [List.all_cons, List.all_nil, hx, hy, Bool.and_true]
  rw [if_neg (by decide), Option.isNone_map]
theorem CalmK.ready_none (h : CalmK k dn) (hx : nameB x = true) (hf : fileD k x = none) : readyE k [x] = 22 := by rw [h.ready hx, hf]; rfl
theorem CalmK.ready_some (h : CalmK k dn) (hx : nameB x = true) {c : List UInt8} (hf : fileD k x = some c) : readyE k [x] = 0 := by rw [h.ready hx, hf]; rfl
theorem CalmK.mono (h : CalmK k dn) {dn' : Nat} (hd : dn ≤ dn') : CalmK k dn' := ⟨h.ops, h.room, h.up, h.srt, h.nms, h.d0, by have := h.d1; omega, by have := h.few; omega⟩
theorem CalmK.append (h : CalmK k dn) (hx : nameB x = true) (b : List UInt8) : appendE k x b = 0 ∧ CalmK (appendK k x b) (dn + 1) ∧ fileD (appendK k x b) = putD (fileD k) x ((fileD k x).getD [] ++ b) := by
  have hr : readyE k [x] = 0 ∨ readyE k [x] = 22 := by rw [h.ready hx]; split <;> simp
  have hf : fullP k b.length = false := by unfold fullP; rw [h.room]; rfl
  refine ⟨by unfold appendE; rw [if_pos hr, hf]; exact h.changeE, ?_, ?_⟩
  · unfold appendK
    rw [if_pos hr, hf, h.crash, h.change, if_neg (by decide), if_neg (by decide)]
    refine ⟨h.ops, h.room, h.up, ?_, ?_, by have := h.d0; show 0 ≤ k.done + 1; omega, by have := h.d1; show k.done + 1 ≤ _; omega, ?_⟩
    · show (appFs x b k.fs).Pairwise _
      unfold appFs
      refine srt_upd' (g := fun f => { f with data := f.data ++ b }) (fun _ => rfl) ?_
      split
      · exact h.srt
      · exact srt_ins' h.srt
    · show ∀ f ∈ appFs x b k.fs, _
      unfold appFs
      refine nms_upd (g := fun f => { f with data := f.data ++ b }) (fun _ => rfl) ?_
      split
      · exact h.nms
      · exact fun f hf => (mem_insP' hf).elim (fun e => by rw [e]; exact hx) (h.nms f)
    · show (appFs x b k.fs).length ≤ _
      have := h.few
      unfold appFs updP
      rw [List.length_map]
      split
      · omega
      · have := len_insP' ⟨x, [], 0⟩ k.fs; omega
  · have e : (appendK k x b).fs = appFs x b k.fs := by
      unfold appendK
      rw [if_pos hr, hf, h.crash, if_neg (by decide), if_neg (by decide)]
    funext y
    unfold fileD putD
    rw [e]
    unfold appFs
    rw [findP_upd (fun f => { f with data := f.data ++ b }) (fun _ => rfl)]
    by_cases hy : y = x
    · subst hy
      rw [if_pos rfl, if_pos rfl]
      cases hq : findP y k.fs with
      | none => rw [if_neg (by simp), findP_ins, if_pos rfl]; rfl
      | some f => rw [if_pos (by simp), hq]; rfl
    · rw [if_neg hy, if_neg hy]
      split
      · rfl
      · rw [findP_ins, if_neg hy]
theorem CalmK.sync (h : CalmK k dn) (hx : nameB x = true) {c : List UInt8} (hf : fileD k x = some c) : syncE k x = 0 ∧ CalmK (syncK k x) (dn + 1) ∧ fileD (syncK k x) = fileD k := by
  have hr := h.ready_some hx hf
  refine ⟨by unfold syncE; rw [if_pos hr]; exact h.changeE, ?_, ?_⟩
  · unfold syncK
    rw [if_pos hr, h.crash, h.change, if_neg (by decide)]
    exact ⟨h.ops, h.room, h.up, srt_upd' (g := fun f => { f with synced := f.data.length }) (fun _ => rfl) h.srt, nms_upd (g := fun f => { f with synced := f.data.length }) (fun _ => rfl) h.nms, by have := h.d0; show 0 ≤ k.done + 1; omega, by have := h.d1; show k.done + 1 ≤ _; omega, by have := h.few; show (updP _ _ _).length ≤ _; unfold updP; rw [List.length_map]; exact Nat.le_succ_of_le this⟩
  · unfold syncK
    rw [if_pos hr, h.crash, h.change, if_neg (by decide)]
    funext y
    unfold fileD
    show (findP y (updP x _ k.fs)).map Fl.data = _
    rw [findP_upd (fun f => { f with synced := f.data.length }) (fun _ => rfl)]
    by_cases hy : y = x
    · rw [if_pos hy, hy]; cases findP x k.fs <;> rfl
    · rw [if_neg hy]
theorem CalmK.delete (h : CalmK k dn) (hx : nameB x = true) {c : List UInt8} (hf : fileD k x = some c) : syncE k x = 0 ∧ CalmK (deleteK k x) (dn + 1) ∧ fileD (deleteK k x) = delD (fileD k) x := by
  have hr := h.ready_some hx hf
  refine ⟨by unfold syncE; rw [if_pos hr]; exact h.changeE, ?_, ?_⟩
  · unfold deleteK
    rw [if_pos hr, h.crash, h.change, if_neg (by decide)]
    exact ⟨h.ops, h.room, h.up, h.srt.sublist (sub_delP x _), fun f hf => h.nms f ((sub_delP x _).subset hf), by have := h.d0; show 0 ≤ k.done + 1; omega, by have := h.d1; show k.done + 1 ≤ _; omega, by have := h.few; have := (sub_delP x k.fs).length_le; show (delP x k.fs).length ≤ _; omega⟩
  · unfold deleteK
    rw [if_pos hr, h.crash, h.change, if_neg (by decide)]
    funext y
    unfold fileD delD
    show (findP y (delP x k.fs)).map Fl.data = _
    rw [findP_del]
    split <;> rfl
theorem CalmK.rename (h : CalmK k dn) (hx : nameB x = true) (hy : nameB y = true) (hxy : x ≠ y) {c : List UInt8} (hf : fileD k x = some c) : renameE k x y = 0 ∧ CalmK (renameK k x y) (dn + 1) ∧ fileD (renameK k x y) = putD (delD (fileD k) x) y c := by
  have hr : readyE k [x, y] = 0 := by rw [h.ready2 hx hy, hf]; rfl
  obtain ⟨f, hq, hfc⟩ : ∃ f, findP x k.fs = some f ∧ f.data = c := by
    unfold fileD at hf
    cases hq : findP x k.fs with
    | none => rw [hq] at hf; cases hf
    | some f => rw [hq] at hf; injection hf with hf; exact ⟨f, rfl, hf⟩
  have hq2 : renFs x y k.fs = insP { f with name := y } (delP x k.fs) := by unfold renFs; rw [hq]
  refine ⟨by unfold renameE; rw [if_pos hr]; exact h.changeE, ?_, ?_⟩
  · unfold renameK
    rw [if_pos hr, h.crash, h.change, if_neg (by decide), if_neg hxy]
    refine ⟨h.ops, h.room, h.up, ?_, ?_, by have := h.d0; show 0 ≤ k.done + 1; omega, by have := h.d1; show k.done + 1 ≤ _; omega, ?_⟩
    · show (renFs x y k.fs).Pairwise _
      rw [hq2]
      exact srt_ins' (h.srt.sublist (sub_delP x _))
    · show ∀ g ∈ renFs x y k.fs, _
      rw [hq2]
      exact fun g hg => (mem_insP' hg).elim (fun e => by rw [e]; exact hy) fun hg => h.nms g ((sub_delP x _).subset hg)
    · show (renFs x y k.fs).length ≤ _
      rw [hq2]
      have h1 := len_insP' { f with name := y } (delP x k.fs)
      have h2 := (sub_delP x k.fs).length_le
      have := h.few
      omega
  · unfold renameK
    rw [if_pos hr, h.crash, h.change, if_neg (by decide), if_neg hxy]
    funext z
    unfold fileD putD delD
    show (findP z (renFs x y k.fs)).map Fl.data = _
    rw [hq2, findP_ins]
    by_cases hz : z = y
    · rw [if_pos hz, if_pos hz]; simp [hfc]
    · rw [if_neg hz, if_neg hz, findP_del]
      split <;> rfl
theorem fileD_readD : readD k x = (fileD k x).getD [] := by
  unfold readD fileD
  cases findP x k.fs <;> rfl
theorem CalmK.list (h : CalmK k dn) : listP k = k.fs.map Fl.name := by unfold listP; rw [h.up]; rfl
theorem CalmK.listSorted (h : CalmK k dn) : (listP k).Pairwise fun a b => a < b := by
  rw [h.list, List.pairwise_map]
  exact h.srt
theorem CalmK.mem_list (h : CalmK k dn) : x ∈ listP k ↔ (fileD k x).isSome = true := by
  rw [h.list]
  unfold fileD
  rw [Option.isSome_map]
  constructor
  · intro hx
    obtain ⟨f, hf, e⟩ := List.mem_map.1 hx
    cases hq : findP x k.fs with
    | some f => rfl
    | none => exact absurd e (findP_non.1 hq f hf)
  · intro hx
    cases hq : findP x k.fs with
    | none => rw [hq] at hx; cases hx
    | some f => exact List.mem_map.2 ⟨f, (findP_name hq).1, (findP_name hq).2⟩
theorem CalmK.name_ok (h : CalmK k dn) (hx : (fileD k x).isSome = true) : nameB x = true := by
  have := h.mem_list.2 hx
  rw [h.list] at this
  obtain ⟨f, hf, rfl⟩ := List.mem_map.1 this
  exact h.nms f hf
end
end Go.Proofs.YtjnolpfmchnnmaaGreatDoor
end
section
namespace Go.Proofs.YtjnolpfmchnnmaaGreatDoor
set_option maxRecDepth 100000
open Go.RowKit Go.BigFrame Go.Sort Go.Shelf Go.Lib
def digB (b : UInt8) : Bool := decide (48 ≤ b.toNat) && decide (b.toNat ≤ 57)
def lowB (b : UInt8) : Bool := decide (97 ≤ b.toNat) && decide (b.toNat ≤ 122)
def sufW : Nm := [46, 108, 111, 103]
def dig6 (n : Nat) : Nm := [dg n 5, dg n 4, dg n 3, dg n 2, dg n 1, dg n 0]
def nameW (pre : Nm) (n : Nat) : Nm := pre ++ dig6 n ++ sufW
theorem dg_add (n : Nat) {j : Nat} (h : j < 6) : dg (n + 1000000) j = dg n j := by
  have e : (n + 1000000) / 10 ^ j % 10 = n / 10 ^ j % 10 := by
    rcases (by omega : j = 0 ∨ j = 1 ∨ j = 2 ∨ j = 3 ∨ j = 4 ∨ j = 5) with rfl | rfl | rfl | rfl | rfl | rfl <;> (simp only [Nat.reducePow]; omega)
  unfold dg
  rw [e]
theorem dg_top {n : Nat} (h : n < 1000000) : dg (n + 1000000) 6 = 49 := by
  have e : (n + 1000000) / 10 ^ 6 % 10 = 1 := by simp only [Nat.reducePow]; omega
  unfold dg
  rw [e]
  rfl
theorem itoa_dig6 {n : Nat} (h : n < 1000000) : Lib.itoa ((n + 1000000 : Nat) : Int) = 49 :: dig6 n := by
  have h6 : (10 : Nat) ^ 6 = 1000000 := by decide
  have h7 : (10 : Nat) ^ (6 + 1) = 10000000 := by decide
  unfold Lib.itoa
  rw [if_neg (by omega), Int.toNat_natCast, decDigits_eq, nDigits_unique 6 (n + 1000000) (by omega) (by omega)]
  show [dg (n + 1000000) 6, dg (n + 1000000) 5, dg (n + 1000000) 4, dg (n + 1000000) 3, dg (n + 1000000) 2, dg (n + 1000000) 1, dg (n + 1000000) 0] = _
  rw [dg_top h, dg_add n (by omega), dg_add n (by omega), dg_add n (by omega), dg_add n (by omega), dg_add n (by omega), dg_add n (by omega)]
  rfl
def segNo (pre x : Nm) : Nat :=
  if pre.isPrefixOf x = true then (if sufW.isSuffixOf (x.drop pre.length) = true then (if (x.drop pre.length).length = 10 then (if ((x.drop pre.length).take 6).all digB = true then ((Lib.decNat ((x.drop pre.length).take 6)).getD 0) else 0) else 0) else 0) else 0
theorem dg_toNat (n j : Nat) : (dg n j).toNat = 48 + n / 10 ^ j % 10 := by
  unfold dg
  simp
  omega
theorem dig6_ok (n : Nat) : (dig6 n).all digB = true := by
  unfold dig6 digB
  simp only [List.all_cons, List.all_nil, dg_toNat, Bool.and_true, Bool.and_eq_true, decide_eq_true_eq]
  omega
theorem digitVal_dg (n j : Nat) : Lib.digitVal (dg n j) = some (n / 10 ^ j % 10) := by
  unfold Lib.digitVal
  rw [dg_toNat, if_pos (by omega)]
  simp
theorem dec_dig6 {n : Nat} (h : n < 1000000) : Lib.decNat (dig6 n) = some n := by
  unfold Lib.decNat dig6
  simp only [List.isEmpty_cons, Bool.false_eq_true, if_false, Lib.decFrom, digitVal_dg]
  congr 1
  omega
theorem seg_nameW (pre : Nm) {n : Nat} (h : n < 1000000) : segNo pre (nameW pre n) = n := by
  have hd : (nameW pre n).drop pre.length = dig6 n ++ sufW := by unfold nameW; rw [List.append_assoc, List.drop_left]
  have h1 : pre.isPrefixOf (nameW pre n) = true := List.isPrefixOf_iff_prefix.2 ⟨dig6 n ++ sufW, by unfold nameW; rw [List.append_assoc]⟩
  have h2 : sufW.isSuffixOf (dig6 n ++ sufW) = true := List.isSuffixOf_iff_suffix.2 ⟨_, rfl⟩
  unfold segNo
  rw [if_pos h1, hd, if_pos h2, if_pos (show (dig6 n ++ sufW).length = 10 from rfl), show (dig6 n ++ sufW).take 6 = dig6 n from rfl, if_pos (dig6_ok n), dec_dig6 h]
  rfl
theorem atoi_dig {l : Nm} (h : l.all digB = true) (h0 : l ≠ []) : ∃ m, Lib.decNat l = some m ∧ Lib.atoi l = some (m : Int) := by
  have hd : ∀ (l : Nm) (acc : Nat), l.all digB = true → ∃ m, Lib.decFrom acc l = some m := by
    intro l
    induction l with
    | nil => intro acc _; exact ⟨acc, rfl⟩
    | cons b r ih =>
      intro acc h
      rw [List.all_cons, Bool.and_eq_true] at h
      have hb : 48 ≤ b.toNat ∧ b.toNat ≤ 57 := by simpa [digB] using h.1
      unfold Lib.decFrom
      rw [show Lib.digitVal b = some (b.toNat - 48) from by unfold Lib.digitVal; rw [if_pos hb]]
      exact ih _ h.2
  match l, h0 with
  | b :: r, _ =>
    obtain ⟨m, hm⟩ := hd (b :: r) 0 h
    have hb : 48 ≤ b.toNat ∧ b.toNat ≤ 57 := by
      rw [List.all_cons, Bool.and_eq_true] at h
      simpa [digB] using h.1
    have e : Lib.decNat (b :: r) = some m := by unfold Lib.decNat; simpa using hm
    refine ⟨m, e, ?_⟩
    have n1 : (b == 45) = false := by
      apply Bool.eq_false_iff.2
      intro hc
      rw [beq_iff_eq] at hc
      subst hc
      exact absurd hb.1 (by decide)
    have n2 : (b == 43) = false := by
      apply Bool.eq_false_iff.2
      intro hc
      rw [beq_iff_eq] at hc
      subst hc
      exact absurd hb.1 (by decide)
    simp [Lib.atoi, n1, n2, e]
end Go.Proofs.YtjnolpfmchnnmaaGreatDoor
end
section
namespace Go.Proofs.YtjnolpfmchnnmaaGreatDoor
set_option maxRecDepth 100000
open Go.RowKit Go.BigFrame Go.Sort Go.Shelf Go.Lib Go.Maps
def DkP (w : World) (base p : Nat) (k : Pk) : Prop := ∃ F, DiskP w F p k ∧ ∀ i, F i → base ≤ i ∧ i < w.heap.size
theorem DkP.made {w : World} {F : Nat → Prop} {base p : Nat} {k : Pk} (h : DiskP w F p k) (hF : ∀ i, F i → i < w.heap.size → base ≤ i) : DkP w base p k :=
  ⟨fun i => base ≤ i ∧ i < w.heap.size, h.mono fun i hi hl => ⟨hF i hi hl, hl⟩, fun _ hi => hi⟩
section
variable {w w2 : World} {base p : Nat} {k : Pk}
theorem new_dk (S : Nat → Prop) (ops room : Int) (v : Value) (zs : List Int) (w : World) (hz : IntsIn w S v zs) (hl : zs.length * 8 ≤ 140737488355328) (base : Nat) (hbase : base ≤ w.heap.size) :
    Calls Tryz.prog 15 #[.agg #[.int .i64 ops, .int .i64 room, v]] w fun r w' => ∃ p, r = .returned (.pointer (some ⟨p, 0, none⟩)) ∧ DkP w' base p ⟨[], ops, room, zs, 0, 0, false⟩ ∧ Below w.heap.size w w' := by
  refine (new_any S ops room v zs w hz hl).mono ?_
  rintro r w' ⟨p, rfl, h, hb⟩
  exact ⟨p, rfl, .made h fun i hi _ => Nat.le_trans hbase hi, hb⟩
end
end Go.Proofs.YtjnolpfmchnnmaaGreatDoor
end
section
namespace Go.Proofs.YtjnolpfmchnnmaaGreatDoor
set_option maxRecDepth 100000
open Go.RowKit Go.BigFrame Go.Sort Go.Shelf Go.Lib
attribute [local go_sem ↓] Go.wp_at_zero Go.wp_at_succ
def TabW (w : World) : Prop := Lib.TabIs Tryz.prog w "internal/strconv.uint64pow10" .u64 Lib.pow10Tab
def tabG : Nat := 3
theorem gTab : Tryz.prog.globalNamed "internal/strconv.uint64pow10" = some tabG := by kernel_rfl
theorem TabW.lt {w : World} (h : TabW w) : tabG < w.heap.size := by
  unfold TabW Lib.TabIs World.var? at h
  rw [gTab, Option.bind_some] at h
  rcases Nat.lt_or_ge tabG w.heap.size with h' | h'
  · exact h'
  · rw [Array.getElem?_eq_none h'] at h; cases h
theorem TabW.only {w w' : World} {S : Nat → Prop} (h : TabW w) (ho : Only S w w') (hS : ∀ i, S i → tabG < i) : TabW w' := by
  have hz := h.lt
  unfold TabW Lib.TabIs World.var? at h ⊢
  rw [gTab, Option.bind_some] at h ⊢
  rw [ho.block tabG hz fun hs => by have := hS tabG hs; omega]
  exact h
theorem TabW.below {w w' : World} (h : TabW w) (hf : fr w w') : TabW w' := h.only (S := fun _ => False) (Only.of_below hf) fun _ h => h.elim
theorem fr_grow (w : World) (k : Nat) (os : Array Obj) : fr w (Sort.grow (w.drewN k) os) := ⟨rfl, rfl, rfl, by simp [Sort.grow, World.drewN], fun i hi => by
  show (w.heap ++ os)[i]? = _
  rw [Array.getElem?_append_left hi]⟩
end Go.Proofs.YtjnolpfmchnnmaaGreatDoor
end
