/-
The walk of the law MergeParts, where all lists' entries together are not too many.
-/
import Derived.Test.YtelbidknefkaiaaMerges
import Derived.Test.YtelbidknefkaiaaPartsP
namespace Go.Proofs.Ytelbidknefkaiaa
open Go.RowKit Go.BigFrame
attribute [local go_sem ↓] Go.wp_at_zero Go.wp_at_succ

theorem Lists.take {w : World} {S : Nat → Prop} {A : Option Addr} {n c : Nat} {ls : List (List Ent)} (h : Lists w S (.slice A n c) ls) (k : Nat) (hk : k ≤ n) : Lists w S (.slice A k c) (ls.take k) := by
  obtain ⟨A', c', vs, he, h1, h2, h3, h4, h5⟩ := h
  injection he with e1 e2 e3
  subst e1 e2 e3
  have hl : (ls.take k).length = k := by simp; omega
  refine ⟨_, _, vs.take k, by rw [hl], by omega, h2, by omega, ?_, fun i l hl' => ?_⟩
  · rw [hl]
    refine ⟨by have := h4.1; simp; omega, fun h0 => ?_⟩
    obtain ⟨b, o, hb, hS, hlt, hc⟩ := h4.2 (by omega)
    refine ⟨b, o, hb, hS, hlt, fun j u hu => ?_⟩
    rw [List.getElem?_take] at hu
    split at hu
    · exact hc j u hu
    · cases hu
  · rw [List.getElem?_take] at hl'
    split at hl'
    · rename_i hik
      obtain ⟨x, hx, hy⟩ := h5 i l hl'
      exact ⟨x, by rw [List.getElem?_take, if_pos hik]; exact hx, hy⟩
    · cases hl'
theorem Lists.drop {w : World} {S : Nat → Prop} {b o n c : Nat} {ls : List (List Ent)} (h : Lists w S (.slice (some ⟨b, o, none⟩) n c) ls) (k : Nat) (hk : k < n) : Lists w S (.slice (some ⟨b, o + k, none⟩) (n - k) (c - k)) (ls.drop k) := by
  obtain ⟨A', c', vs, he, h1, h2, h3, h4, h5⟩ := h
  injection he with e1 e2 e3
  subst e1 e2 e3
  have hl : (ls.drop k).length = ls.length - k := by simp
  refine ⟨_, _, vs.drop k, by rw [hl], by omega, by omega, by omega, ?_, fun i l hl' => ?_⟩
  · rw [hl]
    refine ⟨by have := h4.1; simp; omega, fun h0 => ?_⟩
    obtain ⟨b', o', hb, hS, hlt, hc⟩ := h4.2 (by omega)
    injection hb with hb
    injection hb with e1 e2
    subst e1 e2
    refine ⟨b, o + k, rfl, hS, hlt, fun j u hu => ?_⟩
    rw [List.getElem?_drop] at hu
    have := hc _ u hu
    rwa [show o + (k + j) = o + k + j from by omega] at this
  · rw [List.getElem?_drop] at hl'
    obtain ⟨x, hx, hy⟩ := h5 _ l hl'
    exact ⟨x, by rw [List.getElem?_drop]; exact hx, hy⟩
theorem Lists.none_at {w : World} {S : Nat → Prop} {A : Option Addr} {c : Nat} (hc : c ≤ 9223372036854775807) : Lists w S (.slice A 0 c) [] := ⟨_, _, [], rfl, by simp, hc, by simp, Row.nil _ _ _ _, fun i l hl => by simp at hl⟩
theorem Lists.of_own {w : World} {S : Nat → Prop} {base n : Nat} {v : Value} {ys : List Value} {ls : List (List Ent)} (h : w.ownsRow base 22 1 v n ys) (hn : ls.length = n)
    (hel : ∀ (i : Nat) (l : List Ent), i < n → ls[i]? = some l → ∃ x, ys[i]? = some x ∧ Ents w S x l) (hS : ∀ i, base ≤ i → i < w.heap.size → S i) (hl : n * 24 ≤ 140737488355328) : Lists w S v ls := by
  obtain ⟨A, c, rfl⟩ := own_form h
  have h1 := h.1
  have hlim : n ≤ c ∧ c ≤ 9223372036854775807 := by
    rcases h.2 with ⟨h, rfl⟩ | ⟨g, cap, cur, h, _, _, h2, h3, _⟩
    · injection h with _ _ h; subst h; omega
    · injection h with _ _ h; subst h; unfold maxLen at h3; omega
  refine ⟨A, c, ys, by rw [hn], by rw [hn]; exact hlim.1, hlim.2, by rw [hn]; exact hl, ?_, fun i l hl => ?_⟩
  · rw [hn]
    refine ⟨h1, fun h0 => ?_⟩
    obtain ⟨g, c', hA, hbg, hgz, _, _⟩ := own_pos h h0
    injection hA with hA
    subst hA
    refine ⟨g, 0, rfl, hS g hbg hgz, hgz, fun j u hu => ?_⟩
    have := h.cells (g := g) rfl j u hu
    rwa [Addr.add_lit] at this
  · exact hel i l (by have := (List.getElem?_eq_some_iff.1 hl).1; omega) hl
def MergesTo (ls : List (List Ent)) (x : List Ent) (n : Int) : Prop := ∀ S v w, Lists w S v ls → Calls Try.prog 23 #[v] w fun r w' => ∃ v', r = .returned (.tuple #[v', .int .i64 n]) ∧ Ents w' (fun i => w.heap.size ≤ i) v' x ∧ Below w.heap.size w w'
theorem mergesTo {ls : List (List Ent)} {x : List Ent} {n : Int} (h : mergeC ls = (x, n)) (hN : total ls * 64 ≤ 140737488355328) : MergesTo ls x n := fun S v w hv => by
  have := merge_any _ v ls w hv.lt (fun _ h => h) hN
  rwa [h] at this
theorem rem_lt (n : Int) (m : Nat) (hm : m ≤ 9223372036854775806) : ∃ k : Nat, k ≤ m ∧ wrap64 ((IntKind.u64.wrap n).tmod (IntKind.u64.wrap ((m : Int) + 1))) = (k : Int) ∧ wrap64 (IntKind.u64.wrap n % IntKind.u64.wrap ((m : Int) + 1)) = (k : Int) ∧ wrap64 (IntKind.u64.wrap n % ((m : Int) + 1)) = (k : Int) ∧ wrap64 ((IntKind.u64.wrap n).tmod ((m : Int) + 1)) = (k : Int) := by
  have e0 : IntKind.u64.wrap ((m : Int) + 1) = (m : Int) + 1 := by simp [IntKind.wrap, IntKind.signed, IntKind.bits]; omega
  have b0 : 0 ≤ IntKind.u64.wrap n := by simp [IntKind.wrap, IntKind.signed, IntKind.bits]; omega
  have h1 := Int.emod_nonneg (IntKind.u64.wrap n) (show (m : Int) + 1 ≠ 0 by omega)
  have h2 := Int.emod_lt_of_pos (IntKind.u64.wrap n) (show 0 < (m : Int) + 1 by omega)
  rw [e0, Int.tmod_eq_emod_of_nonneg b0, IntWalk.wrap64_in _ ⟨by omega, by omega⟩]
  exact ⟨(IntKind.u64.wrap n % ((m : Int) + 1)).toNat, by omega, by omega, by omega, by omega, by omega⟩

set_option maxRecDepth 100000 in
set_option maxHeartbeats 4000000 in
theorem partsLaw (v : Value) (ls : List (List Ent)) (n : Int) (w : World) (hv : Lists w (fun _ => True) v ls) (hN : total ls ≤ 1048576) (_ : (Lit.int .i64 n).wf = true) :
    Calls Try.prog 9 #[v, .int .i64 n] w fun r w' => r = .returned (.bool true) ∧ Below w.heap.size w w' := by
  obtain ⟨i0, hi, hz0, hz1, hz2⟩ := info_parts info22
  have hby := Lib.hid hz2
  have hz1' := Lib.hid hz1
  clear hz2 hz1
  obtain ⟨x, e, hxe⟩ : ∃ x e, mergeC ls = (x, e) := ⟨_, _, rfl⟩
  have HM := Lib.hid hxe
  have HMT := Lib.hid (mergesTo hxe (by omega))
  have HV := Lib.hid hv
  have HN := Lib.hid hN
  obtain ⟨A, c, vs, rfl, hc, hcm, hl, _, _⟩ := hv
  clear hN hxe
  obtain ⟨m, hm⟩ : ∃ m, ls.length = m := ⟨_, rfl⟩
  have HLN := Lib.hid hm
  rw [hm] at hc hl HV ⊢
  clear hm
  obtain ⟨k, hk1, hk2, hk3, hk4, hk5⟩ := rem_lt n m (by omega)
  go_enter Try.func9, Try.ntmps9
  go_wp2_with fail
  refine (wakes_any _).mono ?_
  rintro r w1 ⟨rfl, hb1⟩
  have HV1 := Lib.hid (HV.out.below hb1)
  have HB1 := Lib.hid hb1
  clear hb1
  go_wp2_with fail
  refine (lists_any _ _ _ _ HV1.out).mono ?_
  rintro r w2 ⟨v2, rfl, he2, hb2⟩
  have HE2 := Lib.hid he2
  have HV2 := Lib.hid (HV1.out.below hb2)
  have HB2 := Lib.hid (HB1.out.trans (hb2.mono HB1.out.size))
  clear he2 hb2
  go_wp2_with fail
  refine (HMT.out _ _ _ HE2.out).mono ?_
  rintro r w3 ⟨v3, rfl, he3, hb3⟩
  obtain ⟨A3, c3, rfl⟩ := ents_form he3
  have HE3 := Lib.hid he3
  have HV3 := Lib.hid (HV2.out.below hb3)
  have HB3 := Lib.hid (HB2.out.trans (hb3.mono HB2.out.size))
  clear he3 hb3 HE2
  rcases mergeC_cases ls with ⟨hcm', r, hr, hperm, hbef⟩ | ⟨n0, hn0, hr⟩
  · obtain ⟨rfl, rfl⟩ : x = r ∧ e = 0 := by
      have := HM.out.symm.trans hr
      injection this with e1 e2
      exact ⟨e1, e2⟩
    clear hr hperm hbef hcm'
    obtain ⟨hrev, a, b, hta, htb, htab, hab⟩ := parts_law k HM.out
    have hrevt : total ls.reverse = total ls := total_perm (List.reverse_perm ls)
    have htk : total (ls.take k) ≤ total ls ∧ total (ls.drop k) ≤ total ls := by
      have : ls.flatten = (ls.take k).flatten ++ (ls.drop k).flatten := by rw [← List.flatten_append, List.take_append_drop]
      unfold total
      rw [this]
      simp
    have M1 := Lib.hid (mergesTo hrev (by have := HN.out; omega))
    have M2 := Lib.hid (mergesTo hta (by have := HN.out; omega))
    have M3 := Lib.hid (mergesTo htb (by have := HN.out; omega))
    have M4 := Lib.hid (mergesTo htab (by have := HN.out; simp [total] at this hab ⊢; omega))
    clear hrev hta htb htab hab hrevt htk
    go_wp2
    go_loopw [7, 8] (fun v7 t wr => ∃ (z : Int) (j : Nat) (ys : List Value), t = .int .i64 z ∧ z + 1 + j = m ∧ -1 ≤ z ∧ wr.ownsRow w3.heap.size 22 1 v7 j ys ∧ (∀ (i : Nat) (l : List Ent), i < j → ls.reverse[i]? = some l → ∃ x, ys[i]? = some x ∧ Ents wr (fresh w3.heap.size v7) x l) ∧ Below w3.heap.size w3 wr) (fun _ t _ => (intOf t + 1).toNat)
    case atStart => exact ⟨(m : Int) - 1, 0, [], rfl, by omega, by omega, World.ownsRow_nil _ _ _ _, fun i l hi => absurd hi (by omega), Below.refl _ _⟩
    case round =>
      obtain ⟨z, j, ys, rfl, hzj, hz1, hown, hys, hbel⟩ := hrel
      have HO := Lib.hid hown
      have HY := Lib.hid hys
      have HB := Lib.hid hbel
      obtain ⟨A7, c7, rfl⟩ := own_form hown
      clear hown hys hbel
      rcases (by omega : z < 0 ∨ 0 ≤ z) with hz | hz
      · obtain rfl : j = m := by omega
        have HBK : Hid (Lists wr (fun _ => True) (.slice A7 j c7) ls.reverse) := Lib.hid (Lists.of_own HO.out (by rw [List.length_reverse]; exact HLN.out) (fun i l hi hl => by obtain ⟨x, hx, hy⟩ := HY.out i l hi hl; exact ⟨x, hx, hy.mono fun _ _ => trivial⟩) (fun i _ _ => trivial) hl)
        have HV4 := Lib.hid (HV3.out.below HB.out)
        have HE4 := Lib.hid (HE3.out.below HB.out)
        have HB4 := Lib.hid (HB3.out.trans (HB.out.mono HB3.out.size))
        clear HO HY HB HV1 HV2 HB1 HB2 HB3 HV3 HE3 hzj hz1
        have HLO := Lib.hid (HV4.out.take k hk1)
        by_cases hkm : k < j
        · go_wp2_with fail
          refine (lists_any _ _ _ _ HLO.out).mono ?_
          rintro r w5 ⟨v5, rfl, he5, hb5⟩
          have HE5 := Lib.hid he5
          have HX5 := Lib.hid (HE4.out.below hb5)
          have HK5 := Lib.hid (HBK.out.below hb5)
          have HV5 := Lib.hid (HV4.out.below hb5)
          have HB5 := Lib.hid (HB4.out.trans (hb5.mono HB4.out.size))
          clear he5 hb5
          go_wp2_with fail
          refine (M2.out _ _ _ HE5.out).mono ?_
          rintro r w6 ⟨v6, rfl, he6, hb6⟩
          obtain ⟨A6, c6, rfl⟩ := ents_form he6
          have HA6 := Lib.hid he6
          have HX6 := Lib.hid (HX5.out.below hb6)
          have HK6 := Lib.hid (HK5.out.below hb6)
          have HV6 := Lib.hid (HV5.out.below hb6)
          have HB6 := Lib.hid (HB5.out.trans (hb6.mono HB5.out.size))
          clear he6 hb6
          obtain ⟨b1, o1, rfl⟩ : ∃ b o, A = some ⟨b, o, none⟩ := by
            obtain ⟨A', c', vs', hE, _, _, _, hrow, _⟩ := HV6.out
            injection hE with e1 e2 e3
            subst e1
            obtain ⟨b, o, hb, _⟩ := hrow.2 (by omega)
            exact ⟨b, o, hb⟩
          have HHI := Lib.hid (HV6.out.drop k hkm)
          go_wp2_with fail
          refine (lists_any _ _ _ _ HHI.out).mono ?_
          rintro r w7 ⟨v7, rfl, he7, hb7⟩
          have HE7 := Lib.hid he7
          have HA7 := Lib.hid (HA6.out.below hb7)
          have HX7 := Lib.hid (HX6.out.below hb7)
          have HK7 := Lib.hid (HK6.out.below hb7)
          have HB7 := Lib.hid (HB6.out.trans (hb7.mono HB6.out.size))
          clear he7 hb7
          go_wp2_with fail
          refine (M3.out _ _ _ HE7.out).mono ?_
          rintro r w8 ⟨v8, rfl, he8, hb8⟩
          obtain ⟨A8, c8, rfl⟩ := ents_form he8
          have HB8' := Lib.hid he8
          have HA8 := Lib.hid (HA7.out.below hb8)
          have HX8 := Lib.hid (HX7.out.below hb8)
          have HK8 := Lib.hid (HK7.out.below hb8)
          have HB8 := Lib.hid (HB7.out.trans (hb8.mono HB7.out.size))
          clear he8 hb8
          go_wp2_with fail
          refine (M1.out _ _ _ HK8.out).mono ?_
          rintro r w9 ⟨v9, rfl, he9, hb9⟩
          have HY9 := Lib.hid he9
          have HB9' := Lib.hid (HB8'.out.below hb9)
          have HA9 := Lib.hid (HA8.out.below hb9)
          have HX9 := Lib.hid (HX8.out.below hb9)
          have HB9 := Lib.hid (HB8.out.trans (hb9.mono HB8.out.size))
          clear he9 hb9
          go_wp2_with fail
          refine (M4.out _ _ _ (lists2 HA9.out HB9'.out _ rfl)).mono ?_
          rintro r w10 ⟨v10, rfl, he10, hb10⟩
          have hbb : Below w9.heap.size w9 w10 := ((fr.refl (W := w9)).alloc _).step hb10
          have HZ10 := Lib.hid he10
          have HY10 := Lib.hid (HY9.out.below hbb)
          have HX10 := Lib.hid (HX9.out.below hbb)
          have HB10 := Lib.hid (HB9.out.trans (hbb.mono HB9.out.size))
          have HS1 := Lib.hid (decide_eq_true (rfl : x = x) ▸ sameE_any _ _ _ _ _ _ _ HX10.out HY10.out)
          clear he10 hb10 hbb
          go_wp2_with fail
          refine HS1.out.mono ?_
          rintro r w11 ⟨rfl, hb11⟩
          have HS2 := Lib.hid (decide_eq_true (rfl : x = x) ▸ sameE_any _ _ _ _ _ _ _ (HX10.out.below hb11) (HZ10.out.below hb11))
          have HB11 := Lib.hid (HB10.out.trans (hb11.mono HB10.out.size))
          clear hb11
          go_wp2_with fail
          refine HS2.out.mono ?_
          rintro r w12 ⟨rfl, hb12⟩
          have HB12 := Lib.hid (HB11.out.trans (hb12.mono HB11.out.size))
          clear hb12
          go_wp2
          refine bodyPost_ret (v := .bool _) (by simp [results, Try.results9, go_sem]; rfl) rfl ?_
          exact ⟨rfl, HB12.out⟩
        · go_wp2_with fail
          refine (lists_any _ _ _ _ HLO.out).mono ?_
          rintro r w5 ⟨v5, rfl, he5, hb5⟩
          have HE5 := Lib.hid he5
          have HX5 := Lib.hid (HE4.out.below hb5)
          have HK5 := Lib.hid (HBK.out.below hb5)
          have HV5 := Lib.hid (HV4.out.below hb5)
          have HB5 := Lib.hid (HB4.out.trans (hb5.mono HB4.out.size))
          clear he5 hb5
          go_wp2_with fail
          refine (M2.out _ _ _ HE5.out).mono ?_
          rintro r w6 ⟨v6, rfl, he6, hb6⟩
          obtain ⟨A6, c6, rfl⟩ := ents_form he6
          have HA6 := Lib.hid he6
          have HX6 := Lib.hid (HX5.out.below hb6)
          have HK6 := Lib.hid (HK5.out.below hb6)
          have HV6 := Lib.hid (HV5.out.below hb6)
          have HB6 := Lib.hid (HB5.out.trans (hb6.mono HB5.out.size))
          clear he6 hb6
          obtain rfl : k = j := by omega
          have hdr : ls.drop k = [] := List.drop_eq_nil_of_le (by rw [HLN.out]; exact Nat.le_refl _)
          rw [hdr] at M3
          clear hdr HV HV4 HLO HV5 HV6
          by_cases hck : c = k
          all_goals
            go_wp2_with fail
            refine (lists_any _ _ _ _ (Lists.none_at (S := fun _ => True) (by omega))).mono ?_
            rintro r w7 ⟨v7, rfl, he7, hb7⟩
            have HE7 := Lib.hid he7
            have HA7 := Lib.hid (HA6.out.below hb7)
            have HX7 := Lib.hid (HX6.out.below hb7)
            have HK7 := Lib.hid (HK6.out.below hb7)
            have HB7 := Lib.hid (HB6.out.trans (hb7.mono HB6.out.size))
            clear he7 hb7
            go_wp2_with fail
            refine (M3.out _ _ _ HE7.out).mono ?_
            rintro r w8 ⟨v8, rfl, he8, hb8⟩
            obtain ⟨A8, c8, rfl⟩ := ents_form he8
            have HB8' := Lib.hid he8
            have HA8 := Lib.hid (HA7.out.below hb8)
            have HX8 := Lib.hid (HX7.out.below hb8)
            have HK8 := Lib.hid (HK7.out.below hb8)
            have HB8 := Lib.hid (HB7.out.trans (hb8.mono HB7.out.size))
            clear he8 hb8
            go_wp2_with fail
            refine (M1.out _ _ _ HK8.out).mono ?_
            rintro r w9 ⟨v9, rfl, he9, hb9⟩
            have HY9 := Lib.hid he9
            have HB9' := Lib.hid (HB8'.out.below hb9)
            have HA9 := Lib.hid (HA8.out.below hb9)
            have HX9 := Lib.hid (HX8.out.below hb9)
            have HB9 := Lib.hid (HB8.out.trans (hb9.mono HB8.out.size))
            clear he9 hb9
            go_wp2_with fail
            refine (M4.out _ _ _ (lists2 HA9.out HB9'.out _ rfl)).mono ?_
            rintro r w10 ⟨v10, rfl, he10, hb10⟩
            have hbb : Below w9.heap.size w9 w10 := ((fr.refl (W := w9)).alloc _).step hb10
            have HZ10 := Lib.hid he10
            have HY10 := Lib.hid (HY9.out.below hbb)
            have HX10 := Lib.hid (HX9.out.below hbb)
            have HB10 := Lib.hid (HB9.out.trans (hbb.mono HB9.out.size))
            have HS1 := Lib.hid (decide_eq_true (rfl : x = x) ▸ sameE_any _ _ _ _ _ _ _ HX10.out HY10.out)
            clear he10 hb10 hbb
            go_wp2_with fail
            refine HS1.out.mono ?_
            rintro r w11 ⟨rfl, hb11⟩
            have HS2 := Lib.hid (decide_eq_true (rfl : x = x) ▸ sameE_any _ _ _ _ _ _ _ (HX10.out.below hb11) (HZ10.out.below hb11))
            have HB11 := Lib.hid (HB10.out.trans (hb11.mono HB10.out.size))
            clear hb11
            go_wp2_with fail
            refine HS2.out.mono ?_
            rintro r w12 ⟨rfl, hb12⟩
            have HB12 := Lib.hid (HB11.out.trans (hb12.mono HB11.out.size))
            clear hb12
            go_wp2
            refine bodyPost_ret (v := .bool _) (by simp [results, Try.results9, go_sem]; rfl) rfl ?_
            exact ⟨rfl, HB12.out⟩
      · obtain ⟨d, rfl⟩ : ∃ d : Nat, z = d := ⟨z.toNat, by omega⟩
        have hdm : d < m := by omega
        obtain ⟨l, hlk⟩ : ∃ l, ls[d]? = some l := ⟨_, List.getElem?_eq_getElem (by rw [HLN.out]; exact hdm)⟩
        obtain ⟨A', c', vs', hE, _, _, _, hrow, hels⟩ := HV3.out.below HB.out
        injection hE with e1 e2 e3
        subst e1 e3
        obtain ⟨x0, hx, hxe⟩ := hels d l hlk
        obtain ⟨b0, o0, u, rfl, _, _, hu, hcell⟩ := hrow.at_ (by rw [← e2]; exact hdm)
        obtain rfl : u = x0 := by rw [hx] at hu; injection hu with hu; exact hu.symm
        have HX := Lib.hid hxe
        have HLK := Lib.hid hlk
        clear hx hxe hu hlk hrow hels e2
        go_wp2_with (first
          | (go_at_call 19; refine (copy_any _ _ _ _ HX.out).mono ?_; rintro r w4 ⟨v4, rfl, he4, hb4⟩; obtain ⟨A1, c1, rfl⟩ := ents_form he4)
          | (at_builtin; refine wpList_append_own_at _ rfl _ _ 42 rfl w3.heap.size 22 i0 _ 1 24 Try.underlying42 hi hz0 hz1'.out hby.out rfl (by decide) _ _ _ rfl ((own_below HO.out hb4).alloc _) ⟨w4.heap.size, 0, none⟩ 1 1 [.slice A1 l.length c1] rfl rfl (cell_one_new _ _ _) (by simp [Value.oneCell']) (by unfold maxLen; omega) (by omega) (by have := HB.out.size; have := hb4.size; simp; omega) ?_; intro v' w5 hown' hgrow hnn hat; clear hnn))
        have hal : Below w4.heap.size w4 (w4.alloc (.cells #[.slice A1 l.length c1] 22)) := (Below.refl _ _).alloc (Nat.le_refl _) _
        have hsz := HB.out.size
        have hsz1 := hb4.size
        refine ⟨⟨(d : Int) - 1, j + 1, _, rfl, by omega, by omega, hown', ?_, ((HB.out.trans (hb4.mono HB.out.size)).alloc (by omega) _).grown hgrow (by simp; omega) (fun j e => (HO.out.lt j e).1)⟩, by simp [intOf]⟩
        intro i l' hi' hl'
        have hyl : ys.length = j := by have := HO.out.1; omega
        by_cases hik : i < j
        · obtain ⟨x, hx, hxe⟩ := HY.out i l' hik hl'
          refine ⟨x, by rw [List.getElem?_append_left (by omega)]; exact hx, ?_⟩
          exact ((hxe.below hb4).below hal).push hgrow hat (fun i _ hs => hs.2) (fun i _ hs hn => ⟨hs.1, hn⟩)
        · obtain rfl : i = j := by omega
          have hrv : ls.reverse[i]? = ls[d]? := by
            rw [List.getElem?_reverse (by rw [HLN.out]; omega), HLN.out]
            congr 1; omega
          obtain rfl : l = l' := by have := HLK.out; rw [hrv, this] at hl'; injection hl'
          refine ⟨_, by rw [List.getElem?_append_right (by omega), hyl]; simp; rfl, ?_⟩
          exact (he4.below hal).push hgrow hat (fun i _ hs e => by have := HO.out.lt i e; omega) (fun i _ hs hn => ⟨by omega, hn⟩)
  · obtain ⟨rfl, rfl⟩ : x = [] ∧ e = n0 := by
      have := HM.out.symm.trans hr
      injection this with e1 e2
      exact ⟨e1, e2⟩
    have hd1 : (e == 0) = false := by simp [hn0]
    have HN0 := Lib.hid hn0
    clear hr hn0
    go_wp2
    refine bodyPost_ret (v := .bool _) (by simp [results, Try.results9, go_sem]; rfl) rfl ?_
    exact ⟨rfl, HB3.out⟩
end Go.Proofs.Ytelbidknefkaiaa
