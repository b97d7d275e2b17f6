/-
Slices of bytes: how they read, and the contracts of the small functions on them: bytes.Compare, slices.Clone at []byte, usanceref05.Less, cmp.Or at two numbers.
-/
import Derived.Test.YtiffgjodbcploaaGreatQPCrashUpto2
import Derived.KernelRfl
import Derived.Test.YtiffgjodbcploaaGreatQPCrashUpto0
import Derived.Test.YtiffgjodbcploaaGreatQPCrashUpto1
import Derived.Lib.BytesEntry
import Derived.Shelf.Bytes.SlSmallAll
import Derived.Laws.IdiomStrings
import Derived.Laws.Externs
import Derived.LoopTactic
import Derived.Deep.LoopGhost
import Derived.Laws.AppendOwn
import Derived.Maps.AppendAt
section
namespace Go.Proofs.YtiffgjodbcploaaGreat
set_option maxRecDepth 100000
open Go.RowKit Go.BigFrame
attribute [local go_sem ↓] Go.wp_at_zero Go.wp_at_succ
/-- reading a frame at the beginning of some bytes: the payload, how many bytes, the error. -/
def readF (bs : List UInt8) : List UInt8 × Nat × Int :=
  if bs.length = 0 then ([], 0, 12) else if bs.length < 8 then ([], 0, 10) else
  if 2097152 < un32 bs then ([], 0, 11) else if bs.length - 8 < un32 bs then ([], 0, 10) else
  if un32 (bs.drop 4) ≠ sumN (bs.take 4 ++ (bs.drop 8).take (un32 bs)) then ([], 0, 11) else ((bs.drop 8).take (un32 bs), 8 + un32 bs, 0)
theorem un32_lt (bs : List UInt8) : un32 bs < 4294967296 := by
  unfold un32
  split
  · rename_i a b c d _
    have ha := a.toNat_lt
    have hb := b.toNat_lt
    have hc := c.toNat_lt
    have hd := d.toNat_lt
    omega
  · omega
theorem undrewF {w w' : World} (g : fr w.drew w') : fr w w' := fr.step (fr.drew fr.refl) g
theorem Byt.cut {w : World} {S : Nat → Prop} {b o n c : Nat} {bs : List UInt8} (h : Byt w S (.slice (some ⟨b, o, none⟩) n c) bs) {f m c' : Nat} (hf : f + m ≤ n) (hc : m ≤ c') (hcm : c' ≤ 9223372036854775807) :
    Byt w S (.slice (some ⟨b, o + f, none⟩) m c') ((bs.drop f).take m) := by
  obtain ⟨A, ca, hE, h1, h2, h3, hr⟩ := h
  injection hE with e1 e2 e3
  subst e1
  have hl : ((bs.drop f).take m).length = m := by rw [List.length_take, List.length_drop]; omega
  refine ⟨_, _, by rw [hl], by omega, hcm, by omega, by rw [List.length_map, hl, Nat.mul_one], fun h0 => ?_⟩
  rw [hl] at h0
  obtain ⟨b', o', e, hS, hb, hc⟩ := hr.2 (by omega)
  injection e with e
  injection e with e4 e5
  subst e4 e5
  refine ⟨b, o + f, rfl, hS, hb, fun j u hu => ?_⟩
  rw [Nat.add_assoc]
  refine hc (f + j) u ?_
  rw [List.map_take, List.getElem?_take] at hu
  split at hu
  · rw [List.map_drop, List.getElem?_drop] at hu
    exact hu
  · cases hu
set_option maxRecDepth 100000 in
set_option maxHeartbeats 1000000 in
theorem fread_some (S : Nat → Prop) (b o n c k : Nat) (bs : List UInt8) (w : World) (hv : Byt w S (.slice (some ⟨b, o, none⟩) n c) bs) (hk : k ≤ n) (hn : bs.length = n) :
    Calls Tryz.prog 68 #[.slice (some ⟨b, o, none⟩) n c, .int .i64 k] w fun r w' => ∃ v' p q e, readF (bs.drop k) = (p, q, e) ∧ r = .returned (.tuple #[v', .int .i64 (if e = 0 then ((k + q : Nat) : Int) else 0), .int .i64 e]) ∧ BytL w' w.heap.size v' p ∧ fr w w' := by
  have hl := hv.len
  rw [hn] at hl
  have hcc : n ≤ c ∧ c ≤ 9223372036854775807 := by obtain ⟨A, ca, hE, h1, h2, _⟩ := hv; injection hE with _ e2 e3; omega
  have hkc : ((c : Int) - (k : Int)) = ((c - k : Nat) : Int) := by omega
  obtain ⟨m, hm⟩ : ∃ m, n - k = m := ⟨_, rfl⟩
  obtain ⟨cm, hcm⟩ : ∃ m, c - k = m := ⟨_, rfl⟩
  have HV := Lib.hid hv
  have HR : Hid (Byt w S (.slice (some ⟨b, o + k, none⟩) m cm) (bs.drop k)) := Lib.hid (by
    have := Byt.cut hv (f := k) (m := m) (c' := cm) (by omega) (by omega) (by omega)
    rwa [List.take_of_length_le (by rw [List.length_drop, hn]; omega)] at this)
  obtain ⟨rs, hrs⟩ : ∃ rs, bs.drop k = rs := ⟨_, rfl⟩
  have hrl : rs.length = m := by rw [← hrs, List.length_drop, hn, hm]
  rw [hrs] at HR ⊢
  have HRL := Lib.hid hrl
  clear hv hrs hrl
  have hk0 : decide ((k : Int) < 0) = false := by simp
  have hk1 : decide (n < k) = false := by simp; omega
  have hk2 : decide ((n : Int) < (k : Int)) = false := by simp; omega
  rcases (by omega : m = 0 ∨ (0 < m ∧ m < 8) ∨ 8 ≤ m) with h0 | ⟨h0, h8⟩ | h8
  · have HF : Hid (readF rs = ([], 0, 12)) := Lib.hid (by unfold readF; rw [if_pos (by rw [HRL.out]; exact h0)])
    have hm0 : ((m : Int) == 0) = true := by simp; omega
    clear h0
    go_enter Tryz.func68, Tryz.ntmps68
    go_wp2
    all_goals
      refine bodyPost_ret (v := .tuple #[.slice none 0 0, .int .i64 0, .int .i64 12]) (by simp [results, Tryz.results68, go_sem]) rfl ?_
      exact ⟨_, [], 0, 12, HF.out, rfl, BytL.nil _ _, fr.refl⟩
  · have HF : Hid (readF rs = ([], 0, 10)) := Lib.hid (by unfold readF; rw [HRL.out, if_neg (by omega), if_pos h8])
    have hm0 : ((m : Int) == 0) = false := by simp; omega
    have hck : ¬ c = k := by omega
    have hm8 : decide ((m : Int) < 8) = true := by simp; omega
    have hm9 : decide (m < 8) = true := by simp; omega
    clear h0
    go_enter Tryz.func68, Tryz.ntmps68
    go_wp2
    refine bodyPost_ret (v := .tuple #[.slice none 0 0, .int .i64 0, .int .i64 10]) (by simp [results, Tryz.results68, go_sem]) rfl ?_
    exact ⟨_, [], 0, 10, HF.out, rfl, BytL.nil _ _, fr.refl⟩
  · have hm0 : ((m : Int) == 0) = false := by simp; omega
    have hm8 : decide ((m : Int) < 8) = false := by simp; omega
    have hm9 : decide (m < 8) = false := by simp; omega
    have hq : un32 rs < 4294967296 := un32_lt rs
    obtain ⟨q, hqe⟩ : ∃ q, un32 rs = q := ⟨_, rfl⟩
    rw [hqe] at hq
    have HQ := Lib.hid hqe
    have CG : Hid (∀ wx, fr w wx → Calls Tryz.prog 90 #[.slice (some ⟨b, o + k, none⟩) m cm] wx fun r w' => r = .returned (.int .u32 q) ∧ fr wx w') := Lib.hid fun wx hx => by
      have := get_any S _ rs wx (HR.out.below hx) (by rw [HRL.out]; omega)
      rwa [HQ.out] at this
    clear hqe
    rcases (by omega : 2097152 < q ∨ q ≤ 2097152) with hbig | hbig
    · have HF : Hid (readF rs = ([], 0, 11)) := Lib.hid (by unfold readF; rw [HRL.out, if_neg (by omega), if_neg (by omega), HQ.out, if_pos hbig])
      have hb1 : (2097152 : Int) < (q : Int) := by omega
      go_enter Tryz.func68, Tryz.ntmps68
      go_wp2_with (go_at_call 90; refine (CG.out _ fr.refl).mono ?_; rintro r w1 ⟨rfl, f1⟩)
      refine bodyPost_ret (v := .tuple #[.slice none 0 0, .int .i64 0, .int .i64 11]) (by simp [results, Tryz.results68, go_sem]) rfl ?_
      exact ⟨_, [], 0, 11, HF.out, rfl, BytL.nil _ _, f1⟩
    · have hb1 : ¬ (2097152 : Int) < (q : Int) := by omega
      have hqm : (q : Int) % 18446744073709551616 = (q : Int) := by omega
      rcases (by omega : m - 8 < q ∨ q ≤ m - 8) with hs | hs
      · have HF : Hid (readF rs = ([], 0, 10)) := Lib.hid (by unfold readF; rw [HRL.out, if_neg (by omega), if_neg (by omega), HQ.out, if_neg (by omega), if_pos hs])
        have hb2 : ((m : Int) - 8) < (q : Int) := by omega
        go_enter Tryz.func68, Tryz.ntmps68
        go_wp2_with (go_at_call 90; refine (CG.out _ fr.refl).mono ?_; rintro r w1 ⟨rfl, f1⟩)
        refine bodyPost_ret (v := .tuple #[.slice none 0 0, .int .i64 0, .int .i64 10]) (by simp [results, Tryz.results68, go_sem]) rfl ?_
        exact ⟨_, [], 0, 10, HF.out, rfl, BytL.nil _ _, f1⟩
      · have hb2 : ¬ ((m : Int) - 8) < (q : Int) := by omega
        have hck : ¬ c = k := by omega
        have hck4 : ¬ cm = 4 := by omega
        obtain ⟨m4, hm4⟩ : ∃ x, m - 4 = x := ⟨_, rfl⟩
        obtain ⟨c4, hc4⟩ : ∃ x, cm - 4 = x := ⟨_, rfl⟩
        obtain ⟨c8, hc8⟩ : ∃ x, cm - 8 = x := ⟨_, rfl⟩
        have h4m : (4 : Int) ≤ (m : Int) := by omega
        have h4c : (4 : Int) ≤ (cm : Int) := by omega
        have h8q : (8 : Int) + (q : Int) ≤ (cm : Int) := by omega
        have hq8 : 8 + q - 8 = q := by omega
        obtain ⟨u, hu⟩ : ∃ u, un32 (rs.drop 4) = u := ⟨_, rfl⟩
        obtain ⟨pp, hpp⟩ : ∃ pp, (rs.drop 8).take q = pp := ⟨_, rfl⟩
        obtain ⟨s, hss⟩ : ∃ s, sumN (rs.take 4 ++ pp) = s := ⟨_, rfl⟩
        have hppl : pp.length = q := by rw [← hpp, List.length_take, List.length_drop, HRL.out]; omega
        have HU := Lib.hid hu
        have HPD := Lib.hid hpp
        have HSS := Lib.hid hss
        have HPL := Lib.hid hppl
        have H04 : Hid (Byt w S (.slice (some ⟨b, o + k, none⟩) 4 cm) (rs.take 4)) := Lib.hid (by
          have := Byt.cut HR.out (f := 0) (m := 4) (c' := cm) (by omega) (by omega) (by omega)
          simpa using this)
        have CG4 : Hid (∀ wx, fr w wx → Calls Tryz.prog 90 #[.slice (some ⟨b, o + k + 4, none⟩) m4 c4] wx fun r w' => r = .returned (.int .u32 u) ∧ fr wx w') := Lib.hid fun wx hx => by
          have h4 := Byt.cut HR.out (f := 4) (m := m4) (c' := c4) (by omega) (by omega) (by omega)
          rw [List.take_of_length_le (by rw [List.length_drop, HRL.out]; omega)] at h4
          have := get_any S _ (rs.drop 4) wx (h4.below hx) (by rw [List.length_drop, HRL.out]; omega)
          rwa [HU.out] at this
        clear hu hpp hss hppl
        by_cases hk8 : cm = 8
        · have hq0 : q = 0 := by omega
          obtain rfl : c4 = 4 := by omega
          obtain rfl : c8 = 0 := by omega
          subst hk8
          clear hc4 hc8
          have HPP : Hid (Byt w S (.slice (some ⟨b, o + k, none⟩) q 0) pp) := Lib.hid (by have := Byt.cut HR.out (f := 0) (m := q) (c' := 0) (by omega) (by omega) (by omega); have e : pp = [] := List.eq_nil_of_length_eq_zero (by rw [HPL.out]; exact hq0); rw [e]; rw [hq0] at this ⊢; simpa using this)
          have CS : Hid (∀ X wx, fr w X → fr (X.alloc (.cells #[.slice (some ⟨b, o + k, none⟩) 4 8, .slice (some ⟨b, o + k, none⟩) q 0] 42)) wx → Calls Tryz.prog 53 #[.slice (some ⟨X.heap.size, 0, none⟩) 2 2] wx fun r w' => r = .returned (.int .u32 s) ∧ fr wx w') := Lib.hid fun X wx hX hx => by
            have hbl : BytsV (X.alloc (.cells #[.slice (some ⟨b, o + k, none⟩) 4 8, .slice (some ⟨b, o + k, none⟩) q 0] 42)) (fun _ => True) (.slice (some ⟨X.heap.size, 0, none⟩) 2 2) [rs.take 4, pp] := BytsV.lit X [.slice (some ⟨b, o + k, none⟩) 4 8, .slice (some ⟨b, o + k, none⟩) q 0] [rs.take 4, pp] 2 _ rfl rfl rfl (by omega) (fun i p hp => by
              match i, hp with
              | 0, hp => simp at hp; subst hp; exact ⟨_, rfl, (H04.out.below hX).mono fun _ _ => trivial⟩
              | 1, hp => simp at hp; subst hp; exact ⟨_, rfl, (HPP.out.below hX).mono fun _ _ => trivial⟩
              | i + 2, hp => simp at hp)
            have := sum_any _ _ _ _ (hbl.below hx)
            rwa [show [rs.take 4, pp].flatten = rs.take 4 ++ pp by simp, HSS.out] at this
          have CC : Hid (∀ wx, fr w wx → Calls Tryz.prog 39 #[.slice (some ⟨b, o + k, none⟩) q 0] wx fun r w' => ∃ v', r = .returned v' ∧ BytL w' w.heap.size v' pp ∧ fr wx w') := Lib.hid fun wx hx => (bcloneL_any S _ pp wx (HPP.out.below hx)).mono fun r w' h => by
            obtain ⟨v', e, h1, h2⟩ := h
            exact ⟨v', e, h1.mono hx.size, h2⟩
          clear HV HR hq0
          by_cases hus : u = s
          · have HF : Hid (readF rs = (pp, 8 + q, 0)) := Lib.hid (by unfold readF; rw [HRL.out, if_neg (by omega), if_neg (by omega), HQ.out, if_neg (by omega), if_neg (by omega), HU.out, HPD.out, HSS.out, if_neg (by simpa using hus)])
            subst hus
            go_enter Tryz.func68, Tryz.ntmps68
            go_upto_region 14 with (go_at_call 90; refine (CG.out _ fr.refl).mono ?_; rintro r w1 ⟨rfl, f1⟩)
            go_region_held3 (fun _ => True) (trivial)
              (first
                | (go_split_ands; go_at_call 90; (with_reducible (refine Calls.mono (CG4.out _ ?_) ?_)); (focus ((repeat (first | with_reducible assumption | with_reducible exact fr.refl | with_reducible refine fr.alloc ?_ _ | with_reducible refine fr.drew ?_)))); rintro r w2 ⟨rfl, g2⟩; (have f2 : fr w w2 := fr.step (by (repeat (first | with_reducible assumption | with_reducible exact fr.refl | with_reducible refine fr.alloc ?_ _ | with_reducible refine fr.drew ?_))) g2))
                | (go_split_ands; go_at_call 53; (with_reducible (refine Calls.mono (CS.out _ _ ?_ ?_) ?_)); (focus ((repeat (first | with_reducible assumption | with_reducible exact fr.refl | with_reducible refine fr.alloc ?_ _ | with_reducible refine fr.drew ?_)))); (focus ((repeat (first | with_reducible assumption | with_reducible exact fr.refl | with_reducible exact undrewF g2 | with_reducible refine fr.alloc ?_ _ | with_reducible refine fr.drew ?_)))); rintro r w3 ⟨rfl, g3⟩; (have f3 : fr w w3 := fr.step (by (repeat (first | with_reducible assumption | with_reducible exact fr.refl | with_reducible refine fr.alloc ?_ _ | with_reducible refine fr.drew ?_))) g3)))
            all_goals
              go_wp2_with (go_at_call 39; (with_reducible (refine Calls.mono (CC.out _ ?_) ?_)); (focus (with_reducible assumption)); rintro r w5 ⟨v5, rfl, hv5, g5⟩)
              refine bodyPost_ret (v := .tuple #[v5, .int .i64 ((k : Int) + 8 + q), .int .i64 0]) (by simp [results, Tryz.results68, go_sem]) rfl ?_
              refine ⟨_, pp, 8 + q, 0, HF.out, by simp; omega, hv5, ?_⟩
              first
                | exact fr.step f3 g5
                | exact fr.step f2 g5
          · have HF : Hid (readF rs = ([], 0, 11)) := Lib.hid (by unfold readF; rw [HRL.out, if_neg (by omega), if_neg (by omega), HQ.out, if_neg (by omega), if_neg (by omega), HU.out, HPD.out, HSS.out, if_pos (by simpa using hus)])
            have hu1 : ((u : Int) == (s : Int)) = false := by simp; omega
            have hu2 : ((u : Int) != (s : Int)) = true := by simp; omega
            have hu3 : (u != s) = true := by simp; omega
            have hu4 : (u == s) = false := by simp; omega
            go_enter Tryz.func68, Tryz.ntmps68
            go_upto_region 14 with (go_at_call 90; refine (CG.out _ fr.refl).mono ?_; rintro r w1 ⟨rfl, f1⟩)
            go_region_held3 (fun _ => True) (trivial)
              (first
                | (go_split_ands; go_at_call 90; (with_reducible (refine Calls.mono (CG4.out _ ?_) ?_)); (focus ((repeat (first | with_reducible assumption | with_reducible exact fr.refl | with_reducible refine fr.alloc ?_ _ | with_reducible refine fr.drew ?_)))); rintro r w2 ⟨rfl, g2⟩; (have f2 : fr w w2 := fr.step (by (repeat (first | with_reducible assumption | with_reducible exact fr.refl | with_reducible refine fr.alloc ?_ _ | with_reducible refine fr.drew ?_))) g2))
                | (go_split_ands; go_at_call 53; (with_reducible (refine Calls.mono (CS.out _ _ ?_ ?_) ?_)); (focus ((repeat (first | with_reducible assumption | with_reducible exact fr.refl | with_reducible refine fr.alloc ?_ _ | with_reducible refine fr.drew ?_)))); (focus ((repeat (first | with_reducible assumption | with_reducible exact fr.refl | with_reducible exact undrewF g2 | with_reducible refine fr.alloc ?_ _ | with_reducible refine fr.drew ?_)))); rintro r w3 ⟨rfl, g3⟩; (have f3 : fr w w3 := fr.step (by (repeat (first | with_reducible assumption | with_reducible exact fr.refl | with_reducible refine fr.alloc ?_ _ | with_reducible refine fr.drew ?_))) g3)))
            all_goals
              go_wp2_with fail
              refine bodyPost_ret (v := .tuple #[.slice none 0 0, .int .i64 0, .int .i64 11]) (by simp [results, Tryz.results68, go_sem]) rfl ?_
              refine ⟨_, [], 0, 11, HF.out, rfl, BytL.nil _ _, ?_⟩
              first
                | exact f3
                | exact f2
        · have hk9 : ¬ (cm : Int) = 8 := by omega
          have HPP : Hid (Byt w S (.slice (some ⟨b, o + k + 8, none⟩) q c8) pp) := Lib.hid (by have := Byt.cut HR.out (f := 8) (m := q) (c' := c8) (by omega) (by omega) (by omega); rwa [HPD.out] at this)
          have CS : Hid (∀ X wx, fr w X → fr (X.alloc (.cells #[.slice (some ⟨b, o + k, none⟩) 4 cm, .slice (some ⟨b, o + k + 8, none⟩) q c8] 42)) wx → Calls Tryz.prog 53 #[.slice (some ⟨X.heap.size, 0, none⟩) 2 2] wx fun r w' => r = .returned (.int .u32 s) ∧ fr wx w') := Lib.hid fun X wx hX hx => by
            have hbl : BytsV (X.alloc (.cells #[.slice (some ⟨b, o + k, none⟩) 4 cm, .slice (some ⟨b, o + k + 8, none⟩) q c8] 42)) (fun _ => True) (.slice (some ⟨X.heap.size, 0, none⟩) 2 2) [rs.take 4, pp] := BytsV.lit X [.slice (some ⟨b, o + k, none⟩) 4 cm, .slice (some ⟨b, o + k + 8, none⟩) q c8] [rs.take 4, pp] 2 _ rfl rfl rfl (by omega) (fun i p hp => by
              match i, hp with
              | 0, hp => simp at hp; subst hp; exact ⟨_, rfl, (H04.out.below hX).mono fun _ _ => trivial⟩
              | 1, hp => simp at hp; subst hp; exact ⟨_, rfl, (HPP.out.below hX).mono fun _ _ => trivial⟩
              | i + 2, hp => simp at hp)
            have := sum_any _ _ _ _ (hbl.below hx)
            rwa [show [rs.take 4, pp].flatten = rs.take 4 ++ pp by simp, HSS.out] at this
          have CC : Hid (∀ wx, fr w wx → Calls Tryz.prog 39 #[.slice (some ⟨b, o + k + 8, none⟩) q c8] wx fun r w' => ∃ v', r = .returned v' ∧ BytL w' w.heap.size v' pp ∧ fr wx w') := Lib.hid fun wx hx => (bcloneL_any S _ pp wx (HPP.out.below hx)).mono fun r w' h => by
            obtain ⟨v', e, h1, h2⟩ := h
            exact ⟨v', e, h1.mono hx.size, h2⟩
          clear HV HR
          by_cases hus : u = s
          · have HF : Hid (readF rs = (pp, 8 + q, 0)) := Lib.hid (by unfold readF; rw [HRL.out, if_neg (by omega), if_neg (by omega), HQ.out, if_neg (by omega), if_neg (by omega), HU.out, HPD.out, HSS.out, if_neg (by simpa using hus)])
            subst hus
            go_enter Tryz.func68, Tryz.ntmps68
            go_upto_region 14 with (go_at_call 90; refine (CG.out _ fr.refl).mono ?_; rintro r w1 ⟨rfl, f1⟩)
            go_region_held3 (fun _ => True) (trivial)
              (first
                | (go_split_ands; go_at_call 90; (with_reducible (refine Calls.mono (CG4.out _ ?_) ?_)); (focus ((repeat (first | with_reducible assumption | with_reducible exact fr.refl | with_reducible refine fr.alloc ?_ _ | with_reducible refine fr.drew ?_)))); rintro r w2 ⟨rfl, g2⟩; (have f2 : fr w w2 := fr.step (by (repeat (first | with_reducible assumption | with_reducible exact fr.refl | with_reducible refine fr.alloc ?_ _ | with_reducible refine fr.drew ?_))) g2))
                | (go_split_ands; go_at_call 53; (with_reducible (refine Calls.mono (CS.out _ _ ?_ ?_) ?_)); (focus ((repeat (first | with_reducible assumption | with_reducible exact fr.refl | with_reducible refine fr.alloc ?_ _ | with_reducible refine fr.drew ?_)))); (focus ((repeat (first | with_reducible assumption | with_reducible exact fr.refl | with_reducible exact undrewF g2 | with_reducible refine fr.alloc ?_ _ | with_reducible refine fr.drew ?_)))); rintro r w3 ⟨rfl, g3⟩; (have f3 : fr w w3 := fr.step (by (repeat (first | with_reducible assumption | with_reducible exact fr.refl | with_reducible refine fr.alloc ?_ _ | with_reducible refine fr.drew ?_))) g3)))
            all_goals
              go_wp2_with (go_at_call 39; (with_reducible (refine Calls.mono (CC.out _ ?_) ?_)); (focus (with_reducible assumption)); rintro r w5 ⟨v5, rfl, hv5, g5⟩)
              refine bodyPost_ret (v := .tuple #[v5, .int .i64 ((k : Int) + 8 + q), .int .i64 0]) (by simp [results, Tryz.results68, go_sem]) rfl ?_
              refine ⟨_, pp, 8 + q, 0, HF.out, by simp; omega, hv5, ?_⟩
              first
                | exact fr.step f3 g5
                | exact fr.step f2 g5
          · have HF : Hid (readF rs = ([], 0, 11)) := Lib.hid (by unfold readF; rw [HRL.out, if_neg (by omega), if_neg (by omega), HQ.out, if_neg (by omega), if_neg (by omega), HU.out, HPD.out, HSS.out, if_pos (by simpa using hus)])
            have hu1 : ((u : Int) == (s : Int)) = false := by simp; omega
            have hu2 : ((u : Int) != (s : Int)) = true := by simp; omega
            have hu3 : (u != s) = true := by simp; omega
            have hu4 : (u == s) = false := by simp; omega
            go_enter Tryz.func68, Tryz.ntmps68
            go_upto_region 14 with (go_at_call 90; refine (CG.out _ fr.refl).mono ?_; rintro r w1 ⟨rfl, f1⟩)
            go_region_held3 (fun _ => True) (trivial)
              (first
                | (go_split_ands; go_at_call 90; (with_reducible (refine Calls.mono (CG4.out _ ?_) ?_)); (focus ((repeat (first | with_reducible assumption | with_reducible exact fr.refl | with_reducible refine fr.alloc ?_ _ | with_reducible refine fr.drew ?_)))); rintro r w2 ⟨rfl, g2⟩; (have f2 : fr w w2 := fr.step (by (repeat (first | with_reducible assumption | with_reducible exact fr.refl | with_reducible refine fr.alloc ?_ _ | with_reducible refine fr.drew ?_))) g2))
                | (go_split_ands; go_at_call 53; (with_reducible (refine Calls.mono (CS.out _ _ ?_ ?_) ?_)); (focus ((repeat (first | with_reducible assumption | with_reducible exact fr.refl | with_reducible refine fr.alloc ?_ _ | with_reducible refine fr.drew ?_)))); (focus ((repeat (first | with_reducible assumption | with_reducible exact fr.refl | with_reducible exact undrewF g2 | with_reducible refine fr.alloc ?_ _ | with_reducible refine fr.drew ?_)))); rintro r w3 ⟨rfl, g3⟩; (have f3 : fr w w3 := fr.step (by (repeat (first | with_reducible assumption | with_reducible exact fr.refl | with_reducible refine fr.alloc ?_ _ | with_reducible refine fr.drew ?_))) g3)))
            all_goals
              go_wp2_with fail
              refine bodyPost_ret (v := .tuple #[.slice none 0 0, .int .i64 0, .int .i64 11]) (by simp [results, Tryz.results68, go_sem]) rfl ?_
              refine ⟨_, [], 0, 11, HF.out, rfl, BytL.nil _ _, ?_⟩
              first
                | exact f3
                | exact f2
end Go.Proofs.YtiffgjodbcploaaGreat
end
section
namespace Go.Proofs.YtiffgjodbcploaaGreat
set_option maxRecDepth 100000
open Go.RowKit Go.BigFrame
attribute [local go_sem ↓] Go.wp_at_zero Go.wp_at_succ
theorem and127 {y : Nat} (hy : y < 256) : bits .and .u8 (y : Int) 127 = ((y % 128 : Nat) : Int) := by
  have := bits_mask .u8 8 (by decide) wraps_u8 7 (by decide) (y : Int) (by omega) (by omega)
  rw [show ((2 : Int) ^ 7 - 1) = 127 by decide] at this
  rw [this]
  omega
theorem or64 {acc y j : Nat} (hy : y < 256) (ha : acc < 2 ^ (7 * j)) (hb : y % 128 * 2 ^ (7 * j) + acc < 18446744073709551616) :
    bits .or .u64 (acc : Int) (IntKind.u64.wrap (IntKind.u64.wrap (bits .and .u8 (y : Int) 127) * 2 ^ (7 * j))) = ((y % 128 * 2 ^ (7 * j) + acc : Nat) : Int) := by
  rw [and127 hy]
  have e1 : IntKind.u64.wrap ((y % 128 : Nat) : Int) = ((y % 128 : Nat) : Int) := by rw [wrap_u64]; omega
  have e2 : ((y % 128 : Nat) : Int) * 2 ^ (7 * j) = ((y % 128 * 2 ^ (7 * j) : Nat) : Int) := by simp
  obtain ⟨P, hP⟩ : ∃ P, y % 128 * 2 ^ (7 * j) = P := ⟨_, rfl⟩
  have ho := or_hi (c := y % 128) ha
  rw [hP] at hb e2 ho ⊢
  rw [e1, e2]
  have e3 : IntKind.u64.wrap (P : Int) = (P : Int) := by rw [wrap_u64]; omega
  rw [e3, (bits_nat .u64 64 (by decide) wraps64 acc P (by omega) (by omega)).2, ho]
  congr 1
  omega
theorem or64_9 {acc y : Nat} (hy : y < 256) (ha : acc < 2 ^ (7 * 9)) (hb : y % 128 * 2 ^ (7 * 9) + acc < 18446744073709551616) :
    bits .or .u64 (acc : Int) (IntKind.u64.wrap (IntKind.u64.wrap (bits .and .u8 (y : Int) 127) * 9223372036854775808)) = ((y % 128 * 2 ^ (7 * 9) + acc : Nat) : Int) := by
  have := or64 hy ha hb
  rwa [show (2 : Int) ^ (7 * 9) = 9223372036854775808 by decide] at this
set_option maxRecDepth 100000 in
set_option maxHeartbeats 1000000 in
theorem uint_any (S : Nat → Prop) (b o n c k v : Nat) (bs rest : List UInt8) (w : World) (hv : Byt w S (.slice (some ⟨b, o, none⟩) n c) bs) (hn : bs.length = n) (hk : k ≤ n) (hr : bs.drop k = formN v ++ rest) (hv64 : v < 18446744073709551616) :
    Calls Tryz.prog 69 #[.slice (some ⟨b, o, none⟩) n c, .int .i64 k] w fun r w' => r = .returned (.tuple #[.int .u64 v, .int .i64 (k + (formN v).length : Nat), .int .i64 0]) ∧ w' = w := by
  have hl := hv.len
  rw [hn] at hl
  have hfl := formN_len v
  have hlen : n - k = (formN v).length + rest.length := by have := congrArg List.length hr; rw [List.length_drop, List.length_append, hn] at this; exact this
  have hcc : n ≤ c ∧ c ≤ 9223372036854775807 := by obtain ⟨A, ca, hE, h1, h2, _⟩ := hv; injection hE with _ e2 e3; omega
  obtain ⟨m, hm⟩ : ∃ m, n - k = m := ⟨_, rfl⟩
  obtain ⟨cm, hcm⟩ : ∃ m, c - k = m := ⟨_, rfl⟩
  have hkc : ((c : Int) - (k : Int)) = ((c - k : Nat) : Int) := by omega
  have HR : Hid (Byt w S (.slice (some ⟨b, o + k, none⟩) m cm) (bs.drop k)) := Lib.hid (by
    have := Byt.cut hv (f := k) (m := m) (c' := cm) (by omega) (by omega) (by omega)
    rwa [List.take_of_length_le (by rw [List.length_drop, hn]; omega)] at this)
  have hmb : (formN v).length ≤ m ∧ 0 < m := by omega
  obtain ⟨rs, hrs⟩ : ∃ rs, bs.drop k = rs := ⟨_, rfl⟩
  rw [hrs] at HR hr
  have hrl : rs.length = m := by rw [← hrs, List.length_drop, hn, hm]
  have HRL := Lib.hid hrl
  have HRS := Lib.hid hr
  have HV64 := Lib.hid hv64
  have hck : ¬ c = k := by omega
  have hk0 : decide ((k : Int) < 0) = false := by simp
  have hk1 : decide (n < k) = false := by simp; omega
  have hk2 : decide ((n : Int) < (k : Int)) = false := by simp; omega
  obtain ⟨fl, hfe⟩ : ∃ x, (formN v).length = x := ⟨_, rfl⟩
  rw [hfe] at hmb hfl ⊢
  have HFE := Lib.hid hfe
  have HFB := Lib.hid hfl
  have HMB := Lib.hid hmb
  clear hv hrs hrl hr hlen hfe hfl hmb hv64
  go_enter Tryz.func69, Tryz.ntmps69
  go_wp2
  go_loopw [7, 22] (fun x t wr => ∃ (j u acc : Nat) (p : List UInt8), j ≤ 9 ∧ t = .int .i64 j ∧ x = .int .u64 acc ∧ rs = p ++ (formF (9 - j) u ++ rest) ∧ p.length = j ∧ fl = j + (formF (9 - j) u).length ∧ acc < 2 ^ (7 * j) ∧ u * 2 ^ (7 * j) + acc = v ∧ (0 < j → 0 < u) ∧ wr = w) (fun _ t _ => 10 - (intOf t).toNat)
  case atStart => exact ⟨0, v, 0, [], Nat.zero_le _, rfl, rfl, HRS.out, rfl, by rw [← HFE.out]; simp [formN], by decide, by simp, fun h => absurd h (by omega), rfl⟩
  case round =>
    obtain ⟨j, u, acc, p, hj, rfl, rfl, hsp, hpl, hfj, hac, hua, hju, rfl⟩ := hrel
    have HSP := Lib.hid hsp
    have HFJ := Lib.hid hfj
    have HAC := Lib.hid hac
    have HUA := Lib.hid hua
    have HJU := Lib.hid hju
    have HPL := Lib.hid hpl
    have hjm : j < m := by have := (formF_len (9 - j) u).1; have := HMB.out; omega
    obtain ⟨y, hy⟩ : ∃ y, rs[j]? = some y := ⟨_, List.getElem?_eq_getElem (by rw [HRL.out]; exact hjm)⟩
    obtain ⟨A', c', hE, _, _, _, hrow⟩ := HR.out
    injection hE with e1 e2 e3
    subst e1
    obtain ⟨b3, o3, u3, hb3, _, _, hu3, hcell⟩ := hrow.at_ (k := j) (by rw [HRL.out]; exact hjm)
    injection hb3 with hb3
    injection hb3 with hb4 hb5
    subst hb4 hb5
    obtain rfl : u3 = bcell y := by rw [List.getElem?_map, hy] at hu3; injection hu3 with hu; exact hu.symm
    unfold bcell at hcell
    have HY := Lib.hid hy
    have hyb := y.toNat_lt
    clear hrow hu3 hy hsp hfj hac hua hju hpl e2 e3
    have hy64 := HV64.out
    by_cases hu : 127 < u
    · have hj8 : j < 9 := by
        rcases (by omega : j < 9 ∨ j = 9) with h | h
        · exact h
        · have := HUA.out
          rw [h, show (2 : Nat) ^ (7 * 9) = 9223372036854775808 by decide] at this
          omega
      have hff : formF (9 - j) u = UInt8.ofNat (u % 128 + 128) :: formF (9 - (j + 1)) (u / 128) := by
        rw [show 9 - j = (9 - (j + 1)) + 1 by omega]
        conv => lhs; unfold formF
        rw [if_neg (by omega)]
      have hyu : y.toNat = u % 128 + 128 := by
        have h1 := HY.out
        rw [HSP.out, hff, List.getElem?_append_right (by rw [HPL.out]; exact Nat.le_refl _), HPL.out, Nat.sub_self] at h1
        simp only [List.cons_append, List.getElem?_cons_zero, Option.some.injEq] at h1
        rw [← h1]
        simp
        omega
      have hpw : (2 : Nat) ^ (7 * (j + 1)) = 128 * 2 ^ (7 * j) := by rw [show 7 * (j + 1) = 7 * j + 7 by omega, Nat.pow_add]; omega
      have hP : 0 < (2 : Nat) ^ (7 * j) := Nat.two_pow_pos _
      have hac := HAC.out
      have hua := HUA.out
      obtain ⟨P, hPe⟩ : ∃ P, (2 : Nat) ^ (7 * j) = P := ⟨_, rfl⟩
      have e1 : u * P = u / 128 * (128 * P) + u % 128 * P := by
        rw [← Nat.mul_assoc, ← Nat.add_mul]
        congr 1
        omega
      have hy128 : y.toNat % 128 = u % 128 := by omega
      have e2 : u % 128 * P ≤ 127 * P := Nat.mul_le_mul_right _ (by omega)
      have hor := or64 (acc := acc) (y := y.toNat) (j := j) hyb hac (by rw [hPe, hy128]; rw [hPe] at hua; omega)
      rw [hy128, hPe] at hor
      rw [hPe] at hac hua hpw
      have hnx : u / 128 * 2 ^ (7 * (j + 1)) + (u % 128 * P + acc) = v := by rw [hpw]; omega
      have hna : u % 128 * P + acc < 2 ^ (7 * (j + 1)) := by rw [hpw]; omega
      obtain ⟨acc2, ha2⟩ : ∃ a, u % 128 * P + acc = a := ⟨_, rfl⟩
      rw [ha2] at hor hnx hna
      have hjb : ((j : Int) == 9) = false := by simp; omega
      have hyc : decide ((y.toNat : Int) < 128) = false := by simp; omega
      have hyd : decide (y.toNat < 128) = false := by simp; omega
      have HNX := Lib.hid hnx
      have HNA := Lib.hid hna
      have HFF := Lib.hid hff
      have HU := Lib.hid (show 0 < u / 128 by omega)
      have HYU := Lib.hid hyu
      rw [show (2 : Int) ^ (7 * j) = (2 : Int) ^ (7 * j) from rfl] at hor
      clear hff hyu hpw hP hac hua hPe e1 hy128 e2 hnx hna ha2 hu hy64
      go_wp2
      refine ⟨⟨j + 1, u / 128, acc2, p ++ [UInt8.ofNat (u % 128 + 128)], by omega, by go_num, by first | rfl | trivial, ?_, by rw [List.length_append, HPL.out]; rfl, ?_, HNA.out, HNX.out, fun _ => HU.out, by first | rfl | trivial⟩, by simp [intOf]; omega⟩
      · rw [List.append_assoc]
        have := HSP.out
        rw [HFF.out] at this
        exact this
      · have := HFJ.out
        rw [HFF.out, List.length_cons] at this
        omega
    · have hff : formF (9 - j) u = [UInt8.ofNat u] := by
        rcases h : 9 - j with _ | q
        · rfl
        · unfold formF
          rw [if_pos (by omega)]
      have hyu : y.toNat = u := by
        have h1 := HY.out
        rw [HSP.out, hff, List.getElem?_append_right (by rw [HPL.out]; exact Nat.le_refl _), HPL.out, Nat.sub_self] at h1
        simp only [List.singleton_append, List.getElem?_cons_zero, Option.some.injEq] at h1
        rw [← h1]
        simp
        omega
      have HFJ1 : Hid (fl = j + 1) := Lib.hid (by rw [HFJ.out, hff]; rfl)
      have hy128 : y.toNat % 128 = u := by omega
      have hyc : decide ((y.toNat : Int) < 128) = true := by simp; omega
      have hyd : decide (y.toNat < 128) = true := by simp; omega
      rcases (by omega : j < 9 ∨ j = 9) with h9 | h9
      · have hor := or64 (acc := acc) (y := y.toNat) (j := j) hyb HAC.out (by rw [hy128, HUA.out]; exact hy64)
        rw [hy128, HUA.out] at hor
        have hjb : ((j : Int) == 9) = false := by simp; omega
        rcases Nat.eq_zero_or_pos j with h0 | h0
        · have hjp : decide ((0 : Int) < (j : Int)) = false := by simp; omega
          have hjq : decide (0 < j) = false := by simp; omega
          rcases Nat.eq_zero_or_pos y.toNat with hz | hz
          · have hyz : ((y.toNat : Int) == 0) = true := by simp; omega
            clear hff hyu hy128 h0 hu hy64 hz
            go_wp2
            have e : ((k : Int) + (j : Int) + 1) = (k : Int) + (fl : Int) := by rw [HFJ1.out]; omega
            refine bodyPost_ret (v := .tuple #[.int .u64 v, .int .i64 ((k : Int) + (j : Int) + 1), .int .i64 0]) (by simp [results, Tryz.results69, go_sem]) rfl ?_
            exact ⟨by rw [e], rfl⟩
          · have hyz : ((y.toNat : Int) == 0) = false := by simp; omega
            clear hff hyu hy128 h0 hu hy64 hz
            go_wp2
            have e : ((k : Int) + (j : Int) + 1) = (k : Int) + (fl : Int) := by rw [HFJ1.out]; omega
            refine bodyPost_ret (v := .tuple #[.int .u64 v, .int .i64 ((k : Int) + (j : Int) + 1), .int .i64 0]) (by simp [results, Tryz.results69, go_sem]) rfl ?_
            exact ⟨by rw [e], rfl⟩
        · have hyz : ((y.toNat : Int) == 0) = false := by have := HJU.out h0; simp; omega
          clear hff hyu hy128 h0 hu hy64
          go_wp2
          have e : ((k : Int) + (j : Int) + 1) = (k : Int) + (fl : Int) := by rw [HFJ1.out]; omega
          refine bodyPost_ret (v := .tuple #[.int .u64 v, .int .i64 ((k : Int) + (j : Int) + 1), .int .i64 0]) (by simp [results, Tryz.results69, go_sem]) rfl ?_
          exact ⟨by rw [e], rfl⟩
      · subst h9
        have hor := or64_9 (acc := acc) (y := y.toNat) hyb HAC.out (by rw [hy128, HUA.out]; exact hy64)
        rw [hy128, HUA.out] at hor
        have hyz : ((y.toNat : Int) == 0) = false := by have := HJU.out (by omega); simp; omega
        have hy1 : decide ((1 : Int) < (y.toNat : Int)) = false := by
          have := HUA.out
          rw [show (2 : Nat) ^ (7 * 9) = 9223372036854775808 by decide] at this
          simp
          omega
        clear hff hyu hy128 hu hy64
        go_wp2
        have e : ((k : Int) + 9 + 1) = (k : Int) + (fl : Int) := by rw [HFJ1.out]; omega
        refine bodyPost_ret (v := .tuple #[.int .u64 v, .int .i64 ((k : Int) + 9 + 1), .int .i64 0]) (by simp [results, Tryz.results69, go_sem]) rfl ?_
        exact ⟨by rw [e], rfl⟩
set_option maxRecDepth 100000 in
set_option maxHeartbeats 1000000 in
theorem vbytes_any (S : Nat → Prop) (b o n c k most : Nat) (bs xs rest : List UInt8) (w : World) (hv : Byt w S (.slice (some ⟨b, o, none⟩) n c) bs) (hn : bs.length = n) (hk : k ≤ n) (hr : bs.drop k = formN xs.length ++ xs ++ rest) (hx : xs.length ≤ most) (hmo : most ≤ 1099511627776) (hx0 : 0 < xs.length) :
    Calls Tryz.prog 93 #[.slice (some ⟨b, o, none⟩) n c, .int .i64 k, .int .i64 most] w fun r w' => ∃ v', r = .returned (.tuple #[v', .int .i64 (k + (formN xs.length).length + xs.length : Nat), .int .i64 0]) ∧ BytL w' w.heap.size v' xs ∧ fr w w' := by
  have hl := hv.len
  rw [hn] at hl
  have hfl := formN_len xs.length
  have hlen : n - k = (formN xs.length).length + xs.length + rest.length := by have := congrArg List.length hr; rw [List.length_drop, List.length_append, List.length_append, hn] at this; exact this
  have hcc : n ≤ c ∧ c ≤ 9223372036854775807 := by obtain ⟨A, ca, hE, h1, h2, _⟩ := hv; injection hE with _ e2 e3; omega
  have HU := Lib.hid (uint_any S b o n c k xs.length bs (xs ++ rest) w hv hn hk (by rw [hr, List.append_assoc]) (by omega))
  obtain ⟨m, hm⟩ : ∃ m, xs.length = m := ⟨_, rfl⟩
  obtain ⟨f, hf⟩ : ∃ m, (formN xs.length).length = m := ⟨_, rfl⟩
  obtain ⟨g, hg⟩ : ∃ m, k + f = m := ⟨_, rfl⟩
  rw [hf, hg, hm] at HU
  rw [hf, hg, hm]
  rw [hf, hm] at hlen
  have hcut : Byt w S (.slice (some ⟨b, o + g, none⟩) m m) xs := by
    have := Byt.cut hv (f := g) (m := m) (c' := m) (by omega) (Nat.le_refl _) (by omega)
    rw [← hg, ← List.drop_drop, hr, List.append_assoc, List.drop_left' hf, List.take_left' hm, hg] at this
    exact this
  have HC := Lib.hid (bcloneL_any S _ xs w hcut)
  have hgn : g + m ≤ n := by omega
  have hm0 : ¬ m = 0 := by omega
  have hgm : ¬ g + m = g := by omega
  have hgs : g + m - g = m := by omega
  rw [hm] at hx
  have hg2 : ((k : Int) + (f : Int)) = (g : Int) := by omega
  clear hv hcut hr hfl hf
  have h1 : ¬ ((most : Int) < 0) := by omega
  have h2 : decide ((most : Int) < 0) = false := by simp
  have h3 : ¬ ((most : Int) < (m : Int)) := by omega
  have h5 : (most : Int) % 18446744073709551616 = (most : Int) := by omega
  have h6 : ((n : Int) - (g : Int)) % 18446744073709551616 = (n : Int) - (g : Int) := by omega
  have h7 : ¬ ((n : Int) - (g : Int) < (m : Int)) := by omega
  go_enter Tryz.func93, Tryz.ntmps93
  go_upto_region 9 with (go_at_call 69; refine HU.out.mono ?_; rintro r w1 ⟨rfl, rfl⟩)
  go_wp2_with (go_at_call 39; refine HC.out.mono ?_; rintro r w2 ⟨v', rfl, hv', hf'⟩)
  refine bodyPost_ret (v := .tuple #[v', .int .i64 ((g : Int) + (m : Int)), .int .i64 0]) (by simp [results, Tryz.results93, go_sem]) rfl ?_
  exact ⟨_, by simp, hv', hf'⟩
end Go.Proofs.YtiffgjodbcploaaGreat
end
section
namespace Go.Proofs.YtiffgjodbcploaaGreat
set_option maxRecDepth 100000
open Go.RowKit Go.BigFrame
attribute [local go_sem ↓] Go.wp_at_zero Go.wp_at_succ
/-- how many bytes two keys begin alike. -/
def sharedN : List UInt8 → List UInt8 → Nat
  | x :: xs, y :: ys => if x = y then sharedN xs ys + 1 else 0
  | _, _ => 0
theorem sharedN_at : ∀ {xs ys : List UInt8} {i : Nat}, xs.take i = ys.take i → (∀ x y, xs[i]? = some x → ys[i]? = some y → x ≠ y) → i ≤ xs.length → i ≤ ys.length → sharedN xs ys = i
  | [], ys, i, _, _, h1, _ => by simp at h1; subst h1; cases ys <;> rfl
  | x :: xs, [], i, _, _, _, h2 => by simp at h2; subst h2; rfl
  | x :: xs, y :: ys, 0, _, hd, _, _ => by
    unfold sharedN
    rw [if_neg (hd x y rfl rfl)]
  | x :: xs, y :: ys, i + 1, ht, hd, h1, h2 => by
    simp only [List.take_succ_cons, List.cons.injEq] at ht
    unfold sharedN
    rw [if_pos ht.1, sharedN_at (i := i) ht.2 (fun a b ha hb => hd a b (by simpa using ha) (by simpa using hb)) (by simpa using h1) (by simpa using h2)]
set_option maxRecDepth 100000 in
set_option maxHeartbeats 1000000 in
theorem shared_any (S S' : Nat → Prop) (a b : Value) (xs ys : List UInt8) (w : World) (ha : Byt w S a xs) (hb : Byt w S' b ys) :
    Calls Tryz.prog 61 #[a, b] w fun r w' => r = .returned (.int .i64 (sharedN xs ys : Nat)) ∧ fr w w' := by
  have hla := ha.len
  have hlb := hb.len
  obtain ⟨A, c, rfl⟩ := slice_form ha
  obtain ⟨B, d, rfl⟩ := slice_form hb
  have HA := Lib.hid ha
  have HB := Lib.hid hb
  obtain ⟨n, hn⟩ : ∃ n, xs.length = n := ⟨_, rfl⟩
  obtain ⟨m, hm⟩ : ∃ n, ys.length = n := ⟨_, rfl⟩
  rw [hn] at hla HA ⊢
  rw [hm] at hlb HB ⊢
  have HN := Lib.hid hn
  have HM := Lib.hid hm
  obtain ⟨q, hq⟩ : ∃ q, min n m = q := ⟨_, rfl⟩
  have hmin : min (n : Int) (m : Int) = (q : Int) := by omega
  have HQ : Hid (q ≤ n ∧ q ≤ m ∧ (q = n ∨ q = m)) := Lib.hid (by omega)
  clear ha hb hn hm hq
  go_enter Tryz.func61, Tryz.ntmps61
  go_wp2
  go_loopw [11] (fun t wr => ∃ i : Nat, i ≤ q ∧ t = .int .i64 i ∧ xs.take i = ys.take i ∧ fr w wr) (fun t _ => q - (intOf t).toNat)
  case atStart => exact ⟨0, Nat.zero_le _, rfl, rfl, fr.refl⟩
  case round =>
    obtain ⟨i, hi, rfl, htk, hf⟩ := hrel
    have HT := Lib.hid htk
    have HF := Lib.hid hf
    clear htk hf
    by_cases hiq : i < q
    · obtain ⟨x, hx⟩ : ∃ x, xs[i]? = some x := ⟨_, List.getElem?_eq_getElem (by have := HQ.out; have := HN.out; omega)⟩
      obtain ⟨y, hy⟩ : ∃ y, ys[i]? = some y := ⟨_, List.getElem?_eq_getElem (by have := HQ.out; have := HM.out; omega)⟩
      have hin : i < n := by have := HQ.out; omega
      have him : i < m := by have := HQ.out; omega
      obtain ⟨A', c', hE, _, _, _, hrow⟩ := HA.out.below HF.out
      injection hE with e1 e2 e3
      subst e1
      obtain ⟨b1, o1, u1, rfl, _, _, hu1, hc1⟩ := hrow.at_ (k := i) (by rw [HN.out]; exact hin)
      obtain rfl : u1 = bcell x := by rw [List.getElem?_map, hx] at hu1; injection hu1 with hu; exact hu.symm
      obtain ⟨B', d', hE', _, _, _, hrow'⟩ := HB.out.below HF.out
      injection hE' with e4 e5 e6
      subst e4
      obtain ⟨b2, o2, u2, rfl, _, _, hu2, hc2⟩ := hrow'.at_ (k := i) (by rw [HM.out]; exact him)
      obtain rfl : u2 = bcell y := by rw [List.getElem?_map, hy] at hu2; injection hu2 with hu; exact hu.symm
      unfold bcell at hc1 hc2
      have F1 : ∀ q : Ext wr, q.w.cell? { block := b1, off := o1 + i } = _ := fun q => q.h.cell hc1
      have F2 : ∀ q : Ext wr, q.w.cell? { block := b2, off := o2 + i } = _ := fun q => q.h.cell hc2
      have HX := Lib.hid hx
      have HY := Lib.hid hy
      clear hx hy hrow hrow' hu1 hu2 hc1 hc2 e2 e3 e5 e6
      by_cases hxy : x = y
      · subst hxy
        go_wp2
        (refine wp_region_quiet_ext (by kernel_rfl) (by kernel_rfl) ?_; (repeat (go_big_quiet_step (fail))); refine wpQuiet_nil ?_; intro wq hw'; obtain ⟨⟨_, hq⟩, hw''⟩ := hw'; subst hw'')
        go_wp2
        exact ⟨⟨i + 1, by omega, by go_num, by rw [take_snoc HX.out, take_snoc HY.out, HT.out], fr.step HF.out hq⟩, by simp [intOf]; omega⟩
      · have hne : ¬ (x.toNat : Int) = (y.toNat : Int) := fun h => hxy (UInt8.toNat_inj.1 (by omega))
        have hb1 : ((x.toNat : Int) == (y.toNat : Int)) = false := by simpa using hne
        have hb2 : ((x.toNat : Int) != (y.toNat : Int)) = true := by simpa using hne
        have HXY := Lib.hid hxy
        clear hxy
        go_wp2
        (refine wp_region_quiet_ext (by kernel_rfl) (by kernel_rfl) ?_; (repeat (go_big_quiet_step (fail))); refine wpQuiet_nil ?_; intro wq hw'; obtain ⟨⟨_, hq⟩, hw''⟩ := hw'; subst hw'')
        go_wp2
        refine bodyPost_ret (v := .int .i64 i) (by simp [results, Tryz.results61, go_sem]) rfl ?_
        exact ⟨by rw [sharedN_at HT.out (fun a b ha hb => by rw [HX.out] at ha; rw [HY.out] at hb; injection ha with ha; injection hb with hb; subst ha hb; exact HXY.out) (by rw [HN.out]; omega) (by rw [HM.out]; omega)], fr.step HF.out hq⟩
    · obtain rfl : i = q := by omega
      go_wp2
      refine bodyPost_ret (v := .int .i64 i) (by simp [results, Tryz.results61, go_sem]) rfl ?_
      exact ⟨by rw [sharedN_at HT.out (fun a b ha hb => by
        have h1 := (List.getElem?_eq_some_iff.1 ha).1
        have h2 := (List.getElem?_eq_some_iff.1 hb).1
        rw [HN.out] at h1
        rw [HM.out] at h2
        have := HQ.out
        omega) (by rw [HN.out]; exact HQ.out.1) (by rw [HM.out]; exact HQ.out.2.1)], HF.out⟩
end Go.Proofs.YtiffgjodbcploaaGreat
end
section
namespace Go.Proofs.YtiffgjodbcploaaGreat
set_option maxRecDepth 100000
/-- bytes in order: -1, 0, 1 -/
def cmpB : List UInt8 → List UInt8 → Int
  | [], [] => 0
  | [], _ :: _ => -1
  | _ :: _, [] => 1
  | a :: l, b :: m => if a < b then -1 else if b < a then 1 else cmpB l m
theorem cmpB_range (a b : List UInt8) : cmpB a b = -1 ∨ cmpB a b = 0 ∨ cmpB a b = 1 := by
  induction a generalizing b with
  | nil => cases b <;> simp [cmpB]
  | cons x l ih =>
    cases b with
    | nil => simp [cmpB]
    | cons y m => simp only [cmpB]; split <;> (try split) <;> simp [ih]
theorem cmpB_self (a : List UInt8) : cmpB a a = 0 := by
  induction a with
  | nil => rfl
  | cons x l ih => simp [cmpB, ih]
theorem cmpB_eq {a b : List UInt8} : cmpB a b = 0 ↔ a = b := by
  constructor
  · intro h
    induction a generalizing b with
    | nil => cases b with
      | nil => rfl
      | cons y m => simp [cmpB] at h
    | cons x l ih =>
      cases b with
      | nil => simp [cmpB] at h
      | cons y m =>
        simp only [cmpB] at h
        split at h
        · omega
        · split at h
          · omega
          · rename_i h1 h2
            have hxy : x = y := by
              have := UInt8.le_antisymm (UInt8.not_lt.1 h2) (UInt8.not_lt.1 h1)
              exact this
            rw [hxy, ih h]
  · rintro rfl
    exact cmpB_self a
theorem cmpB_swap (a b : List UInt8) : cmpB b a = - cmpB a b := by
  induction a generalizing b with
  | nil => cases b <;> simp [cmpB]
  | cons x l ih =>
    cases b with
    | nil => simp [cmpB]
    | cons y m =>
      simp only [cmpB]
      by_cases h1 : x < y
      · have h2 : ¬ y < x := fun h => absurd (UInt8.lt_trans h1 h) (UInt8.lt_irrefl _)
        simp [h1, h2]
      · by_cases h2 : y < x
        · simp [h1, h2]
        · simp [h1, h2, ih]
theorem cmpB_trans {a b c : List UInt8} (h1 : cmpB a b < 0) (h2 : cmpB b c < 0) : cmpB a c < 0 := by
  induction a generalizing b c with
  | nil =>
    cases b with
    | nil => simp [cmpB] at h1
    | cons y m => cases c with
      | nil => simp [cmpB] at h2
      | cons z k => simp [cmpB]
  | cons x l ih =>
    cases b with
    | nil => simp [cmpB] at h1
    | cons y m =>
      cases c with
      | nil => simp [cmpB] at h2
      | cons z k =>
        simp only [cmpB] at h1 h2 ⊢
        by_cases a1 : x < y
        · by_cases a2 : y < z
          · simp [UInt8.lt_trans a1 a2]
          · by_cases a3 : z < y
            · simp [a2, a3] at h2
            · have e : y = z := UInt8.le_antisymm (UInt8.not_lt.1 a3) (UInt8.not_lt.1 a2)
              subst e
              simp [a1]
        · by_cases a2 : y < x
          · simp [a1, a2] at h1
          · have e : x = y := UInt8.le_antisymm (UInt8.not_lt.1 a2) (UInt8.not_lt.1 a1)
            subst e
            simp [a1] at h1
            by_cases a3 : x < z
            · simp [a3]
            · by_cases a4 : z < x
              · simp [a3, a4] at h2
              · simp [a3, a4] at h2 ⊢
                exact ih h1 h2
/-- an entry -/
structure Ent where
  key : List UInt8
  seq : Int
  dead : Bool
  val : List UInt8
deriving DecidableEq
/-- may an entry be, by its key's length, its number, whether it is dead, its value's length -/
def goodR (n : Nat) (seq : Int) (dead : Bool) (m : Nat) : Bool := decide (0 < n) && (decide (n ≤ 200) && (decide (0 < seq) && (decide (seq ≤ 1099511627776) && (decide (m ≤ 4096) && !(dead && decide (0 < m))))))
def goodE (e : Ent) : Bool := goodR e.key.length e.seq e.dead e.val.length
theorem goodR_t {n : Nat} {seq : Int} {dead : Bool} {m : Nat} : goodR n seq dead m = true ↔ 0 < n ∧ n ≤ 200 ∧ 0 < seq ∧ seq ≤ 1099511627776 ∧ m ≤ 4096 ∧ (dead = true → m = 0) := by
  unfold goodR
  cases dead <;> simp <;> omega
theorem goodR_f {n : Nat} {seq : Int} {dead : Bool} {m : Nat} (h : ¬ (0 < n ∧ n ≤ 200 ∧ 0 < seq ∧ seq ≤ 1099511627776 ∧ m ≤ 4096 ∧ (dead = true → m = 0))) : goodR n seq dead m = false := by
  rcases hb : goodR n seq dead m with _ | _
  · rfl
  · exact absurd (goodR_t.1 hb) h
def cmpI (a b : Int) : Int := if a < b then -1 else if b < a then 1 else 0
def cmpE (a b : Ent) : Int := if cmpB a.key b.key = 0 then cmpI b.seq a.seq else cmpB a.key b.key
theorem cmpI_swap (a b : Int) : cmpI b a = - cmpI a b := by unfold cmpI; split <;> split <;> omega
theorem cmpI_range (a b : Int) : cmpI a b = -1 ∨ cmpI a b = 0 ∨ cmpI a b = 1 := by unfold cmpI; split <;> (try split) <;> omega
theorem cmpE_swap (a b : Ent) : cmpE b a = - cmpE a b := by
  unfold cmpE
  rw [cmpB_swap a.key b.key, cmpI_swap b.seq a.seq]
  split <;> split <;> omega
theorem cmpE_range (a b : Ent) : cmpE a b = -1 ∨ cmpE a b = 0 ∨ cmpE a b = 1 := by
  unfold cmpE
  split
  · exact cmpI_range _ _
  · exact cmpB_range _ _
theorem cmpE_eq {a b : Ent} : cmpE a b = 0 ↔ a.key = b.key ∧ a.seq = b.seq := by
  unfold cmpE
  split
  · rename_i h
    rw [cmpB_eq] at h
    unfold cmpI
    constructor
    · intro h2
      refine ⟨h, ?_⟩
      split at h2 <;> (try split at h2) <;> omega
    · rintro ⟨_, h2⟩
      rw [h2]; simp
  · rename_i h
    constructor
    · intro h2; exact absurd h2 h
    · rintro ⟨h2, _⟩; exact absurd (cmpB_eq.2 h2) h
theorem cmpE_trans {a b c : Ent} (h1 : cmpE a b < 0) (h2 : cmpE b c < 0) : cmpE a c < 0 := by
  unfold cmpE at *
  by_cases k1 : cmpB a.key b.key = 0
  · have e1 := cmpB_eq.1 k1
    rw [if_pos k1] at h1
    rw [e1]
    by_cases k2 : cmpB b.key c.key = 0
    · rw [if_pos k2] at h2 ⊢
      unfold cmpI at *
      split at h1 <;> split at h2 <;> split <;> (try split at h1) <;> (try split at h2) <;> (try split) <;> omega
    · rw [if_neg k2] at h2 ⊢
      exact h2
  · rw [if_neg k1] at h1
    by_cases k2 : cmpB b.key c.key = 0
    · have e2 := cmpB_eq.1 k2
      rw [← e2, if_neg k1]
      exact h1
    · rw [if_neg k2] at h2
      have h3 := cmpB_trans h1 h2
      rw [if_neg (by omega)]
      exact h3
/-- all may be, and they are in order -/
def orderedFrom : Option Ent → List Ent → Bool
  | _, [] => true
  | none, e :: l => goodE e && orderedFrom (some e) l
  | some p, e :: l => goodE e && (decide (cmpE p e < 0) && orderedFrom (some e) l)
def orderedE (l : List Ent) : Bool := orderedFrom none l
end Go.Proofs.YtiffgjodbcploaaGreat
end
section
namespace Go.Proofs.YtiffgjodbcploaaGreat
set_option maxRecDepth 100000
open Go.RowKit
theorem cmp_lists (l m : List UInt8) : Extern.BytealgCompare.cmp ⟨l.toArray⟩ ⟨m.toArray⟩ = cmpB l m := by
  unfold Extern.BytealgCompare.cmp
  simp only [ba_get, ba_size]
  induction l generalizing m with
  | nil => cases m <;> simp [cmpB]
  | cons x l ih =>
    cases m with
    | nil => simp [cmpB]
    | cons y m =>
      have ih := ih m
      have e : min (x :: l).length (y :: m).length = min l.length m.length + 1 := by simp
      rw [e, List.range_succ_eq_map, List.find?_cons]
      by_cases hxy : x = y
      · subst hxy
        have h0 : ((x :: l).getD 0 default != (x :: m).getD 0 default) = false := by simp
        rw [h0]
        simp only [List.find?_map, Function.comp_def, Nat.succ_eq_add_one, List.getD_cons_succ]
        simp only [cmpB, UInt8.lt_irrefl, if_false]
        rw [← ih]
        rcases (List.range (min l.length m.length)).find? (fun i => l.getD i default != m.getD i default) with _ | i
        · simp
        · simp
      · have h0 : ((x :: l).getD 0 default != (y :: m).getD 0 default) = true := by simpa using hxy
        rw [h0]
        simp only [cmpB, List.getD_cons_zero]
        by_cases h1 : x < y
        · simp [h1]
        · have h2 : y < x := by
            rcases UInt8.lt_or_lt_of_ne hxy with h | h
            · exact absurd h h1
            · exact h
          simp [h1, h2]
set_option maxHeartbeats 1000000 in
theorem bcompare_any (S S' : Nat → Prop) (v v' : Value) (xs ys : List UInt8) (w : World) (hx : Byt w S v xs) (hy : Byt w S' v' ys) :
    Calls Tryz.prog 60 #[v, v'] w fun e w' => e = .returned (.int .i64 (cmpB xs ys)) ∧ w = w' := by
  have h1 := hx.bytesOf
  have h2 := hy.bytesOf
  have hrun : (Extern.BytealgCompare.compare #[v, v']).run Tryz.prog w = .ok (.int .i64 (cmpB xs ys)) w := by
    show Sem.run Tryz.prog (do pure (goInt (Extern.BytealgCompare.cmp (← Extern.Bytes.bytesOf v) (← Extern.Bytes.bytesOf v')))) w = _
    simp only [Sem.run_bind, h1, h2, Result.andThen, Sem.run_pure, cmp_lists]
    rfl
  have HR := Lib.hid hrun
  clear hrun h1 h2 hx hy
  go_enter Tryz.func60, Tryz.ntmps60
  go_wp2
  rw [run_callFunc_extern Tryz.func86 (by kernel_rfl) (by kernel_rfl) (by kernel_rfl) (e := Extern.BytealgCompare.compare) (by kernel_rfl), HR.out]
  simp only [Result.andThen]
  rw [Oper.upon_value]
  go_wp2
  go_ret
  exact ⟨rfl, rfl⟩
theorem compareInt_eq (x y : Int) : Lib.compareInt x y = cmpI x y := by
  unfold Lib.compareInt cmpI
  split <;> (try split) <;> (try split) <;> (try split) <;> omega
/-- cmp.Or at two numbers -/
theorem info3 : (Tryz.prog.info? 3).map (fun i => (i.zero, i.size, i.bytes)) = some (some (.int .i64 0), 1, 8) := by kernel_rfl
def orI (a b : Int) : Int := if a = 0 then b else a
set_option maxHeartbeats 1000000 in
theorem or2_any (a b : Int) (g : Nat) (w : World) (h0 : w.cell? ⟨g, 0, none⟩ = some (.int .i64 a)) (h1 : w.cell? ⟨g, 1, none⟩ = some (.int .i64 b)) :
    Calls Tryz.prog 81 #[.slice (some ⟨g, 0, none⟩) 2 2] w fun e w' => e = .returned (.int .i64 (orI a b)) ∧ w = w' := by
  rcases ha : (a != 0) with _ | _
  · have e : a = 0 := by simpa using ha
    subst e
    rcases hb : (b != 0) with _ | _
    · have e : b = 0 := by simpa using hb
      subst e
      go_enter Tryz.func81, Tryz.ntmps81
      go_wp2
      refine wp_loop_rounds 3 ?_
      rw [rounds_succ]
      go_wp2
      rw [rounds_succ]
      go_wp2
      rw [rounds_succ]
      go_wp2
      go_ret
      exact ⟨rfl, rfl⟩
    · go_enter Tryz.func81, Tryz.ntmps81
      go_wp2
      refine wp_loop_rounds 2 ?_
      rw [rounds_succ]
      go_wp2
      rw [rounds_succ]
      go_wp2
      go_ret
      exact ⟨rfl, rfl⟩
  · have hn : ¬ a = 0 := by simpa using ha
    rw [show orI a b = a from if_neg hn]
    clear hn
    go_enter Tryz.func81, Tryz.ntmps81
    go_wp2
    refine wp_loop_rounds 1 ?_
    rw [rounds_succ]
    go_wp2
    go_ret
    exact ⟨rfl, rfl⟩
set_option maxHeartbeats 1000000 in
theorem less_ba (A B : ByteArray) (w : World) (hx : A.size ≤ 140737488355328) (hy : B.size ≤ 140737488355328) :
    Calls Tryz.prog 65 #[.string A, .string B] w fun e w' => e = .returned (.int .i64 (cmpB A.data.toList B.data.toList)) ∧ ∃ q, w' = w.drewN q := by
  go_enter Tryz.func65, Tryz.ntmps65
  go_wp2
  go_loopw [5] (fun t wr => ∃ k q : Nat, k ≤ A.size ∧ k ≤ B.size ∧ t = .int .i64 k ∧ cmpB A.data.toList B.data.toList = cmpB (A.data.toList.drop k) (B.data.toList.drop k) ∧ wr = w.drewN q) (fun t _ => A.size - (intOf t).toNat)
  case atStart => exact ⟨0, 0, by omega, by omega, rfl, rfl, rfl⟩
  case round =>
    obtain ⟨k, q, hk, hk', rfl, hpre, rfl⟩ := hrel
    have hp := Lib.hid hpre
    clear hpre
    by_cases h1 : k < A.size
    · by_cases h2 : k < B.size
      · have ea := Lib.hid (drop_at A k h1)
        have eb := Lib.hid (drop_at B k h2)
        by_cases h3 : (A[k].toNat : Int) < (B[k].toNat : Int)
        · go_wp2
          go_quiet (fail)
          go_wp2
          go_ret
          refine ⟨ret_int ?_, _, World.drewN_drewN _ _ _⟩
          rw [hp.out, ea.out, eb.out]
          simp only [cmpB]
          rw [if_pos (UInt8.lt_iff_toNat_lt.2 (by omega))]
        · by_cases h4 : (B[k].toNat : Int) < (A[k].toNat : Int)
          · go_wp2
            go_quiet (fail)
            go_wp2
            go_quiet (fail)
            go_wp2
            go_ret
            refine ⟨ret_int ?_, _, (World.drewN_drewN _ _ _).trans (World.drewN_drewN _ _ _)⟩
            rw [hp.out, ea.out, eb.out]
            simp only [cmpB]
            rw [if_neg (fun h => by have := UInt8.lt_iff_toNat_lt.1 h; omega), if_pos (UInt8.lt_iff_toNat_lt.2 (by omega))]
          · go_wp2
            go_quiet (fail)
            go_wp2
            go_quiet (fail)
            go_wp2
            refine ⟨⟨k + 1, _, by omega, by omega, by go_num, ?_, rfl⟩, by simp [intOf]; omega⟩
            rw [hp.out, ea.out, eb.out]
            simp only [cmpB]
            rw [if_neg (fun h => by have := UInt8.lt_iff_toNat_lt.1 h; omega), if_neg (fun h => by have := UInt8.lt_iff_toNat_lt.1 h; omega)]
      · have h2' : B.size = k := by omega
        have eb : B.data.toList.drop k = [] := List.drop_eq_nil_of_le (by simp; omega)
        have ea := Lib.hid (drop_at A k h1)
        have EB := Lib.hid eb
        clear eb h2'
        go_wp2
        go_ret
        refine ⟨ret_int ?_, q, rfl⟩
        rw [hp.out, ea.out, EB.out]
        rfl
    · have h1' : k = A.size := by omega
      have ea : A.data.toList.drop k = [] := List.drop_eq_nil_of_le (by simp; omega)
      have EA := Lib.hid ea
      clear ea h1'
      by_cases h2 : k < B.size
      · have eb := Lib.hid (drop_at B k h2)
        go_wp2
        go_ret
        refine ⟨ret_int ?_, q, rfl⟩
        rw [hp.out, EA.out, eb.out]
        rfl
      · have eb : B.data.toList.drop k = [] := List.drop_eq_nil_of_le (by simp; omega)
        have EB := Lib.hid eb
        clear eb
        go_wp2
        go_ret
        refine ⟨ret_int ?_, q, rfl⟩
        rw [hp.out, EA.out, EB.out]
        rfl
theorem less_any (xs ys : List UInt8) (w : World) (hx : xs.length ≤ 140737488355328) (hy : ys.length ≤ 140737488355328) :
    Calls Tryz.prog 65 #[.string ⟨xs.toArray⟩, .string ⟨ys.toArray⟩] w fun e w' => e = .returned (.int .i64 (cmpB xs ys)) ∧ ∃ q, w' = w.drewN q := by
  have h := less_ba ⟨xs.toArray⟩ ⟨ys.toArray⟩ w (by rw [ba_size]; exact hx) (by rw [ba_size]; exact hy)
  simpa using h
end Go.Proofs.YtiffgjodbcploaaGreat
end
