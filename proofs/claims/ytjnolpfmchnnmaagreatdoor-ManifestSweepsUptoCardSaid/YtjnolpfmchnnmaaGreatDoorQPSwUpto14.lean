/-
slices.rotateCmpFunc over tables.
-/
import Derived.Test.YtjnolpfmchnnmaaGreatDoorQPSwUpto13
import Derived.Test.YtjnolpfmchnnmaaGreatDoorQPSwUpto7
import Derived.Test.YtjnolpfmchnnmaaGreatDoorQPSwUpto4
import Derived.Test.YtjnolpfmchnnmaaGreatDoorQPSwUpto6
import Derived.Deep.Cut
import Derived.Deep.CutRange
import Derived.Deep.DeepCutAuto
import Derived.Test.YtjnolpfmchnnmaaGreatDoorQPSwUpto9
import Derived.Test.YtjnolpfmchnnmaaGreatDoorQPSwUpto8
import Derived.WalkMore
import Derived.Lib.SlBytesConst
section
namespace Go.Proofs.YtjnolpfmchnnmaaGreatDoor
set_option maxRecDepth 100000
open Go.RowKit Go.BigFrame Go.Sort Go.Shelf Go.Lib
attribute [local go_sem ↓] Go.wp_at_zero Go.wp_at_succ
theorem digits_at {r : Nat} (h : r < 10) : (⟨#[48, 49, 50, 51, 52, 53, 54, 55, 56, 57]⟩ : ByteArray).extract r (r + 1) = ⟨#[UInt8.ofNat (48 + r)]⟩ := by
  rcases (by omega : r = 0 ∨ r = 1 ∨ r = 2 ∨ r = 3 ∨ r = 4 ∨ r = 5 ∨ r = 6 ∨ r = 7 ∨ r = 8 ∨ r = 9) with rfl | rfl | rfl | rfl | rfl | rfl | rfl | rfl | rfl | rfl <;> rfl
theorem dig6_drop (n : Nat) {k : Nat} (h : k < 6) : (dig6 n).drop (5 - k) = dg n k :: (dig6 n).drop (6 - k) := by
  rcases (by omega : k = 0 ∨ k = 1 ∨ k = 2 ∨ k = 3 ∨ k = 4 ∨ k = 5) with rfl | rfl | rfl | rfl | rfl | rfl <;> rfl
set_option maxRecDepth 100000 in
set_option maxHeartbeats 4000000 in
theorem rrname_any (n : Int) (w : World) :
    Calls Tryz.prog 36 #[.int .i64 n] w fun e w' => e = .returned (.string ⟨(nameR n).toArray⟩) ∧ w = w' := by
  by_cases h1 : n < 1
  · have HR : Hid (nameR n = []) := Lib.hid (by unfold nameR; rw [if_neg (by omega)])
    rw [HR.out]
    go_enter Tryz.func36, Tryz.ntmps36
    go_wp2
    go_ret
    exact ⟨rfl, rfl⟩
  · by_cases h2 : 999999 < n
    · have HR : Hid (nameR n = []) := Lib.hid (by unfold nameR; rw [if_neg (by omega)])
      rw [HR.out]
      go_enter Tryz.func36, Tryz.ntmps36
      go_wp2
      go_ret
      exact ⟨rfl, rfl⟩
    · obtain ⟨m, rfl⟩ : ∃ m : Nat, n = (m : Int) := ⟨n.toNat, by omega⟩
      have HR : Hid (nameR (m : Int) = nameT m) := Lib.hid (nameR_ok (by omega) (by omega))
      rw [HR.out]
      go_enter Tryz.func36, Tryz.ntmps36
      go_wp2
      go_loopw [0, 3, 4] (fun d s t wr => ∃ k : Nat, k ≤ 6 ∧ t = .int .i64 k ∧ d = .int .i64 ((m / 10 ^ k : Nat) : Int) ∧ s = .string ⟨((dig6 m).drop (6 - k)).toArray⟩ ∧ wr = w) (fun _ _ t _ => 6 - (intOf t).toNat)
      case atStart => exact ⟨0, by omega, rfl, by rw [Nat.pow_zero, Nat.div_one], rfl, rfl⟩
      case round =>
        obtain ⟨k, hk, rfl, rfl, rfl, rfl⟩ := hrel
        obtain ⟨q, hq⟩ : ∃ q, m / 10 ^ k = q := ⟨_, rfl⟩
        have hq2 : m / 10 ^ (k + 1) = q / 10 := by rw [Nat.pow_succ, ← Nat.div_div_eq_div_mul, hq]
        have hqm : q ≤ 999999 := by rw [← hq]; exact Nat.le_trans (Nat.div_le_self _ _) (by omega)
        obtain ⟨S, hS⟩ : ∃ S : ByteArray, (⟨((dig6 m).drop (6 - k)).toArray⟩ : ByteArray) = S := ⟨_, rfl⟩
        have HS := Lib.hid hS
        have HQ := Lib.hid hq
        have HQ2 := Lib.hid hq2
        have hsz : S.size ≤ 6 := by rw [← hS, ba_size, List.length_drop]; show 6 - (6 - k) ≤ 6; omega
        rw [hq, hS]
        clear hq hS hq2
        by_cases h6 : k = 6
        · subst h6
          have HF : Hid ((⟨#[116]⟩ : ByteArray) ++ S ++ ⟨#[46, 116, 98, 108]⟩ = ⟨(nameT m).toArray⟩) := Lib.hid (by
            rw [← HS.out]
            rfl)
          go_wp2
          go_ret
          exact ⟨by rw [← HF.out]; rfl, rfl⟩
        · obtain ⟨r, hr⟩ : ∃ r, q % 10 = r := ⟨_, rfl⟩
          have hr10 : r < 10 := by omega
          have hmod : (q : Int).tmod 10 = (r : Int) := by rw [← hr]; rfl
          have hdv : (q : Int).tdiv 10 = ((q / 10 : Nat) : Int) := rfl
          have HX := Lib.hid (digits_at hr10)
          have HN : Hid ((⟨#[UInt8.ofNat (48 + r)]⟩ : ByteArray) ++ S = ⟨((dig6 m).drop (6 - (k + 1))).toArray⟩) := Lib.hid (by
            have h5 : 6 - (k + 1) = 5 - k := by omega
            rw [h5, dig6_drop m (by omega), ← HS.out]
            have : dg m k = UInt8.ofNat (48 + r) := by unfold dg; rw [HQ.out, hr]
            rw [this]
            apply ByteArray.ext
            simp)
          clear hr
          go_wp2
          refine ⟨⟨k + 1, by omega, by go_num, ?_, ?_, by trivial⟩, by simp [intOf]; omega⟩
          · rw [HQ2.out]
            go_num
          · rw [HX.out, HN.out]
set_option maxRecDepth 100000 in
set_option maxHeartbeats 1000000 in
theorem mname_all (n : Int) (w : World) (ht : TabW w) :
    Calls Tryz.prog 75 #[.int .i64 n] w fun r w' => r = .returned (.string ⟨(nameR n).toArray⟩) ∧ fr w w' := by
  by_cases h1 : n < 1
  · have HR : Hid (nameR n = []) := Lib.hid (by unfold nameR; rw [if_neg (by omega)])
    rw [HR.out]
    go_enter Tryz.func75, Tryz.ntmps75
    go_wp2
    go_ret
    exact ⟨rfl, fr.refl⟩
  · by_cases h2 : 999999 < n
    · have HR : Hid (nameR n = []) := Lib.hid (by unfold nameR; rw [if_neg (by omega)])
      rw [HR.out]
      go_enter Tryz.func75, Tryz.ntmps75
      go_wp2
      go_ret
      exact ⟨rfl, fr.refl⟩
    · obtain ⟨m, rfl⟩ : ∃ m : Nat, n = (m : Int) := ⟨n.toNat, by omega⟩
      rw [nameR_ok (by omega) (by omega)]
      exact mname_any m w ht (by omega)
end Go.Proofs.YtjnolpfmchnnmaaGreatDoor
end
section
namespace Go.Proofs.YtjnolpfmchnnmaaGreatDoor
set_option maxRecDepth 100000
open Go.RowKit Go.BigFrame Go.Sort Go.Shelf Go.Lib
def synG : Nat := 1
def rngG : Nat := 2
def ErrW (w : World) : Prop := (∃ t p, w.cell? ⟨synG, 0, none⟩ = some (.iface t p)) ∧ ∃ t p, w.cell? ⟨rngG, 0, none⟩ = some (.iface t p)
theorem ErrW.only {w w' : World} {S : Nat → Prop} (h : ErrW w) (ho : Only S w w') (hS : ∀ i, S i → tabG < i) : ErrW w' := by
  obtain ⟨⟨t, p, h1⟩, t', p', h2⟩ := h
  exact ⟨⟨t, p, ho.cellOf h1 fun hs => absurd (hS _ hs) (by decide)⟩, t', p', ho.cellOf h2 fun hs => absurd (hS _ hs) (by decide)⟩
theorem ErrW.below {w w' : World} (h : ErrW w) (hf : fr w w') : ErrW w' := h.only (S := fun _ => False) (Only.of_below hf) fun _ h => h.elim
theorem atoi_any (s : ByteArray) (w : World) (hs : s.size ≤ 140737488355328) (he : ErrW w) :
    Calls Tryz.prog 76 #[.string s] w fun r w' => ∃ n e, r = .returned (.tuple #[.int .i64 n, e]) ∧ (e = .nilIface ∨ ∃ t p, e = .iface t p) ∧ fr w w' := by
  obtain ⟨⟨t, p, h1⟩, t', p', h2⟩ := he
  rcases h : Lib.atoiAll s.data.toList with v | _ | _
  · refine (Any.strconv_Atoi_ok Tryz.laysC172 s (by omega) v h w).mono ?_
    rintro r w' ⟨rfl, hw⟩
    refine ⟨v, _, rfl, .inl rfl, ?_⟩
    rcases hw with rfl | ⟨t, rfl⟩
    · exact fr.refl
    · exact Lib.bytesWorld_below _ _ _
  · refine (Any.strconv_Atoi_syntax Tryz.laysC172 s (by omega) h _ w h1 (.inr ⟨_, _, rfl⟩)).mono ?_
    rintro r w' ⟨N, rfl, _, _, hb⟩
    exact ⟨_, _, rfl, .inr ⟨_, _, rfl⟩, hb⟩
  · refine (Any.strconv_Atoi_range Tryz.laysC172 s (by omega) h _ w h2 (.inr ⟨_, _, rfl⟩)).mono ?_
    rintro r w' ⟨N, rfl, _, _, hb⟩
    exact ⟨_, _, rfl, .inr ⟨_, _, rfl⟩, hb⟩
end Go.Proofs.YtjnolpfmchnnmaaGreatDoor
end
section
namespace Go.Proofs.YtjnolpfmchnnmaaGreatDoor
set_option maxRecDepth 100000
open Go.RowKit Go.BigFrame
attribute [local go_sem ↓] Go.wp_at_zero Go.wp_at_succ
theorem OwnS.base {w : World} {b b' : Nat} {v : Value} {ss : List Nm} (h : OwnS w b v ss) (hb : b' ≤ b) : OwnS w b' v ss := ownsRow_base_a h hb
theorem Only_grown {w w' : World} {g : Option Nat} (h : w.grownBy w' g) : Only (fun i => g = some i) w w' := ⟨h.os, h.tape, h.output, h.size, fun i hi hne => h.block i hi fun e => hne e.symm⟩
theorem str_at {w : World} {S : Nat → Prop} {A : Option Addr} {n c : Nat} {ss : List Nm} (h : Strs w S (.slice A n c) ss) (_hn : ss.length = n) {k : Nat} {x : Nm} (hx : ss[k]? = some x) : ∃ b o, A = some ⟨b, o, none⟩ ∧ b < w.heap.size ∧ S b ∧ w.cell? ⟨b, o + k, none⟩ = some (.string ⟨x.toArray⟩) := by
  obtain ⟨A', c', e, _, _, hr⟩ := h
  injection e with e1 _ _
  subst e1
  have hk : k < ss.length := (List.getElem?_eq_some_iff.1 hx).1
  obtain ⟨b, o, u, rfl, hb, hSb, hu, hc⟩ := hr.at_ hk
  rw [List.getElem?_map, hx] at hu
  obtain rfl := Option.some.inj hu
  exact ⟨b, o, rfl, hSb, hb, hc⟩
set_option maxRecDepth 100000 in
set_option maxHeartbeats 4000000 in
theorem add_any (base : Nat) (v : Value) (l : List Nm) (x : Nm) (w : World) (h : OwnS w base v l) (hbase : base ≤ w.heap.size) (hl : (l.length + 1) * 16 ≤ 140737488355328) :
    Calls Tryz.prog 38 #[v, .string ⟨x.toArray⟩] w fun r w' => ∃ v', r = .returned v' ∧ (v' = v ∨ ∀ g, v'.ownBlock = some g → w.heap.size ≤ g) ∧ OwnS w' base v' (addS x l) ∧ fr w w' := by
  obtain ⟨A, c, rfl⟩ := h.form
  obtain ⟨n, hn⟩ : ∃ n, l.length = n := ⟨_, rfl⟩
  have hstr := h.strs
  rw [hn] at h hl hstr ⊢
  have HN := Lib.hid hn
  have HO := Lib.hid h
  have HS := Lib.hid hstr
  clear h hn hstr
  go_enter Tryz.func38, Tryz.ntmps38
  go_wp2
  go_loopw [5, 6, 10] (fun u b t wx => ∃ (i : Nat) (z : Value), z = u ∧ i ≤ n ∧ t = .int .i64 i ∧ b = .bool (aheadS x (l.take i)) ∧ x ∉ l.take i ∧ OwnS wx w.heap.size u (midS x (l.take i)) ∧ fr w wx) (fun _ _ t _ => n - (intOf t).toNat)
  case atStart => exact ⟨0, _, rfl, Nat.zero_le _, rfl, rfl, by rw [List.take_zero]; exact List.not_mem_nil, OwnS.nil _ _, fr.refl⟩
  case round =>
    obtain ⟨i, z, rfl, hin, rfl, rfl, hnot, hrow, hfr⟩ := hrel
    have HNT := Lib.hid hnot
    have HR := Lib.hid hrow
    have HF := Lib.hid hfr
    have HFB : Hid (Below w.heap.size w wr) := Lib.hid hfr
    have hz0 : w.heap.size ≤ wr.heap.size := Below.size hfr
    have hml : (midS x (l.take i)).length ≤ i + 1 := by
      have := midS_len x (l.take i)
      rw [List.length_take] at this
      omega
    clear hnot hrow hfr
    by_cases hik : i < n
    · obtain ⟨y, hy⟩ : ∃ y, l[i]? = some y := ⟨_, List.getElem?_eq_getElem (by rw [HN.out]; exact hik)⟩
      obtain ⟨b, o, rfl, hblt, _, cw⟩ := str_at HS.out HN.out hy
      have c0 := fr.cell HF.out cw
      have HY := Lib.hid hy
      have HE := Lib.hid (take_snoc hy)
      clear hy
      cases hyx : y == x with
      | true =>
        have HYX : Hid (y = x) := Lib.hid (by simpa using hyx)
        go_wp2
        refine bodyPost_ret (v := .slice (some ⟨b, o, none⟩) n c) (by simp [results, Tryz.results38, go_sem]) rfl ?_
        refine ⟨_, rfl, .inl rfl, ?_, HF.out⟩
        have hm : x ∈ l := by rw [← HYX.out]; exact List.mem_of_getElem? HY.out
        have e : addS x l = l := by unfold addS; rw [if_pos hm]
        rw [e]
        exact own_below HO.out HF.out
      | false =>
        have HYX : Hid (x ≠ y) := Lib.hid (by simp at hyx; exact fun e => hyx e.symm)
        have HNX : Hid (x ∉ l.take (i + 1)) := Lib.hid (by rw [HE.out, List.mem_append, List.mem_singleton]; exact fun h => h.elim HNT.out HYX.out)
        cases hb : aheadS x (l.take i) with
        | true =>
          have HM := Lib.hid (midS_ahead (x := y) hb)
          have HA := Lib.hid (aheadS_snoc x y (l.take i))
          rw [hb] at HA
          clear hb
          go_wp2_with (at_builtin; refine wpList_push_str rfl _ _ rfl w.heap.size _ (midS x (l.take i)) rfl (HR.out.below (fr.alloc fr.refl _)) wr.heap.size y rfl (heap_alloc_new wr _) (by omega) (le_alloc hz0 _) ?_; intro v9 w9 hrow9 hgrow9; have HR9 := Lib.hid hrow9; have HB9 := Lib.hid ((HFB.out.alloc hz0 _).grown hgrow9 (le_alloc hz0 _) (fun j e => (World.ownsRow.lt HR.out j e).1)); clear hrow9 hgrow9)
          refine ⟨⟨i + 1, _, rfl, by omega, by go_num, by rw [HE.out, HA.out]; rfl, HNX.out, by rw [HE.out, HM.out]; exact HR9.out, HB9.out⟩, by simp [intOf]; omega⟩
        | false =>
          have hml2 : (midS x (l.take i)).length = i := by
            unfold midS
            rw [if_neg (by rw [hb]; exact Bool.false_ne_true), List.length_take, HN.out]
            omega
          cases hlt : Op.bytesLess x y with
          | true =>
            have hlt' : x < y := by rw [bytesLess_eq] at hlt; simpa using hlt
            have HM := Lib.hid (midS_here hb hlt')
            have HA := Lib.hid (aheadS_snoc x y (l.take i))
            rw [hb, decide_eq_true hlt'] at HA
            clear hb hlt'
            go_upto_region 9 with (fail)
            go_wp2_with (at_builtin; first
              | (refine wpList_push_str rfl _ _ rfl w.heap.size _ (midS x (l.take i)) rfl (HR.out.below (fr.alloc fr.refl _)) wr.heap.size x rfl (heap_alloc_new wr _) (by omega) (le_alloc hz0 _) ?_; intro v9 w9 hrow9 hgrow9; have HR9 := Lib.hid hrow9; have HB9 := Lib.hid ((HFB.out.alloc hz0 _).grown hgrow9 (le_alloc hz0 _) (fun j e => (World.ownsRow.lt HR.out j e).1)); have hz9 : w.heap.size ≤ w9.heap.size := Below.size HB9.out; have c9 := fr.cell HB9.out cw; clear hrow9 hgrow9)
              | (refine wpList_push_str rfl _ _ rfl w.heap.size _ (midS x (l.take i) ++ [x]) rfl (HR9.out.below (fr.alloc fr.refl _)) w9.heap.size y rfl (heap_alloc_new w9 _) (by rw [List.length_append, List.length_singleton]; omega) (le_alloc hz9 _) ?_; intro v8 w8 hrow8 hgrow8; have HR8 := Lib.hid hrow8; have HB8 := Lib.hid ((HB9.out.alloc hz9 _).grown hgrow8 (le_alloc hz9 _) (fun j e => (World.ownsRow.lt HR9.out j e).1)); clear hrow8 hgrow8))
            refine ⟨⟨i + 1, _, rfl, by omega, by go_num, by rw [HE.out, HA.out]; rfl, HNX.out, ?_, HB8.out⟩, by simp [intOf]; omega⟩
            have := HR8.out
            rw [HE.out, HM.out]
            rwa [List.append_assoc] at this
          | false =>
            have hlt' : ¬ x < y := by rw [bytesLess_eq] at hlt; simpa using hlt
            have HM := Lib.hid (midS_not hb hlt')
            have HA := Lib.hid (aheadS_snoc x y (l.take i))
            rw [hb, decide_eq_false hlt'] at HA
            clear hb hlt'
            go_wp2_with (at_builtin; refine wpList_push_str rfl _ _ rfl w.heap.size _ (midS x (l.take i)) rfl (HR.out.below (fr.alloc fr.refl _)) wr.heap.size y rfl (heap_alloc_new wr _) (by omega) (le_alloc hz0 _) ?_; intro v9 w9 hrow9 hgrow9; have HR9 := Lib.hid hrow9; have HB9 := Lib.hid ((HFB.out.alloc hz0 _).grown hgrow9 (le_alloc hz0 _) (fun j e => (World.ownsRow.lt HR.out j e).1)); clear hrow9 hgrow9)
            refine ⟨⟨i + 1, _, rfl, by omega, by go_num, by rw [HE.out, HA.out]; rfl, HNX.out, by rw [HE.out, HM.out]; exact HR9.out, HB9.out⟩, by simp [intOf]; omega⟩
    · obtain rfl : i = n := by omega
      have HTK : Hid (l.take i = l) := Lib.hid (List.take_of_length_le (by rw [HN.out]; exact Nat.le_refl _))
      have HX : Hid (x ∉ l) := Lib.hid (by have := HNT.out; rwa [HTK.out] at this)
      have HAD : Hid (addS x l = insS x l) := Lib.hid (by unfold addS; rw [if_neg HX.out])
      cases hb : aheadS x (l.take i) with
      | true =>
        have HM : Hid (midS x (l.take i) = insS x l) := Lib.hid (by unfold midS; rw [if_pos hb, HTK.out])
        clear hb
        obtain ⟨A9, c9, rfl⟩ := HR.out.form
        go_wp2
        refine bodyPost_ret (v := .slice A9 (midS x (l.take i)).length c9) (by simp [results, Tryz.results38, go_sem]) rfl ?_
        have h1 := HR.out
        rw [HAD.out]
        rw [HM.out] at h1 ⊢
        exact ⟨_, rfl, .inr fun g hg => (World.ownsRow.lt h1 g hg).1, OwnS.base h1 hbase, HF.out⟩
      | false =>
        have hml2 : (midS x (l.take i)).length = i := by
          unfold midS
          rw [if_neg (by rw [hb]; exact Bool.false_ne_true), List.length_take, HN.out]
          omega
        have HM : Hid (midS x (l.take i) ++ [x] = insS x l) := Lib.hid (by unfold midS; rw [if_neg (by rw [hb]; exact Bool.false_ne_true), HTK.out]; rw [HTK.out] at hb; exact (insS_none hb).symm)
        clear hb
        go_wp2_with (at_builtin; refine wpList_push_str rfl _ _ rfl w.heap.size _ (midS x (l.take i)) rfl (HR.out.below (fr.alloc fr.refl _)) wr.heap.size x rfl (heap_alloc_new wr _) (by omega) (le_alloc hz0 _) ?_; intro v9 w9 hrow9 hgrow9; have HR9 := Lib.hid hrow9; have HB9 := Lib.hid ((HFB.out.alloc hz0 _).grown hgrow9 (le_alloc hz0 _) (fun j e => (World.ownsRow.lt HR.out j e).1)); clear hrow9 hgrow9)
        obtain ⟨A9, c9, rfl⟩ := HR9.out.form
        refine bodyPost_ret (v := .slice A9 (midS x (l.take i) ++ [x]).length c9) (by simp [results, Tryz.results38, go_sem]) rfl ?_
        have h1 := HR9.out
        rw [HAD.out]
        rw [HM.out] at h1 ⊢
        exact ⟨_, rfl, .inr fun g hg => (World.ownsRow.lt h1 g hg).1, OwnS.base h1 hbase, HB9.out⟩
end Go.Proofs.YtjnolpfmchnnmaaGreatDoor
end
section
namespace Go.Proofs.YtjnolpfmchnnmaaGreatDoor
set_option maxRecDepth 100000
open Go.RowKit Go.BigFrame Go.Sort Go.Shelf Go.Lib
attribute [local go_sem ↓] Go.wp_at_zero Go.wp_at_succ
def keysT (l : List Tbl) : List Nm := l.map fun t => nameR t.id
theorem okR_idT {t : Tbl} (h : okR t = true) : 1 ≤ t.id ∧ t.id ≤ 999999 := by
  unfold okR at h
  simp at h
  omega
theorem VerOk.ids {v : Ver} (h : VerOk v) : ∀ t ∈ v.tabs, 1 ≤ t.id ∧ t.id ≤ 999999 := fun t ht => okR_idT (List.all_eq_true.1 h.okr t ht)
theorem nameR_id {n : Int} (h : 1 ≤ n ∧ n ≤ 999999) : isTbl (nameR n) = true ∧ (tblNo (nameR n) : Int) = n := by
  obtain ⟨m, rfl⟩ : ∃ m : Nat, n = (m : Int) := ⟨n.toNat, by omega⟩
  rw [nameR_ok (by omega) (by omega), tblNo_nameT (by omega)]
  exact ⟨isTbl_iff.2 ⟨m, by omega, by omega, rfl⟩, rfl⟩
theorem keys_nodup {v : Ver} (h : VerOk v) : (keysT v.tabs).Nodup := by
  unfold keysT List.Nodup
  rw [List.pairwise_map]
  have hid := h.ids
  refine h.ord.imp_of_mem ?_
  intro a b ha hb hab e
  have h1 := (nameR_id (hid a ha)).2
  have h2 := (nameR_id (hid b hb)).2
  rw [e] at h1
  omega
theorem keys_in {v : Ver} (h : VerOk v) {x : Nm} (hx : isTbl x = true) : decide (x ∈ keysT v.tabs) = inV v x := by
  rw [Bool.eq_iff_iff, decide_eq_true_iff]
  unfold keysT inV
  rw [List.mem_map, List.any_eq_true]
  constructor
  · rintro ⟨t, ht, rfl⟩
    exact ⟨t, ht, decide_eq_true (nameR_id (h.ids t ht)).2.symm⟩
  · rintro ⟨t, ht, hd⟩
    refine ⟨t, ht, ?_⟩
    rw [of_decide_eq_true hd]
    obtain ⟨n, h1, h2, rfl⟩ := isTbl_iff.1 hx
    rw [tblNo_nameT (by omega), nameR_ok h1 h2]
theorem ManR.cells2 {w : World} {M p num : Nat} {x : Value} {v : Ver} (h : ManR w M p x v num) : w.cell? ⟨M, 0, none⟩ = some (.pointer (some ⟨p, 0, none⟩)) ∧ w.cell? ⟨M, 1, none⟩ = some x := ⟨cell_of_row _ _ 0 _ _ _ h, cell_of_row _ _ 1 _ _ _ h⟩
set_option maxRecDepth 100000 in
set_option maxHeartbeats 4000000 in
theorem msweep_any (F S : Nat → Prop) (M p num dn : Nat) (x : Value) (v : Ver) (D : Nm → Option (List UInt8)) (w : World) (hm : ManR w M p x v num) (hx : TabsV w S x v.tabs) (hSF : ∀ i, S i → ¬ F i) (hMF : ¬ F M) (hk : DkC w F p dn D) (ht : TabW w) (he : ErrW w) (hv : VerOk v) (hdn : dn ≤ 2199023255552) :
    Calls Tryz.prog 32 #[.pointer (some ⟨M, 0, none⟩)] w fun r w' => ∃ v' L, r = .returned (.tuple #[v', .int .i64 0]) ∧ AscS L ∧ (∀ x, x ∈ L ↔ (D x).isSome = true) ∧ OwnS w' w.heap.size v' (L.filter (goneB v)) ∧ DkC w' F p (dn + dn) (sweepD v L D L.length) ∧ Only F w w' := by
  obtain ⟨Ax, cx, rfl⟩ := hx.form
  obtain ⟨nv, hnv⟩ : ∃ n, v.tabs.length = n := ⟨_, rfl⟩
  rw [hnv] at hm hx
  have HNV := Lib.hid hnv
  have HM := Lib.hid hm
  have HX := Lib.hid hx
  have HSF := Lib.hid hSF
  have HMF := Lib.hid hMF
  have HK := Lib.hid hk
  have HT := Lib.hid ht
  have HER := Lib.hid he
  have HV := Lib.hid hv
  have HLI := Lib.hid hk.lies
  obtain ⟨m0, m1⟩ := hm.cells2
  have hMl := hm.lt
  have hnvb : nv ≤ 1048576 := by have := hv.few; omega
  clear hm hx hSF hMF hk ht he hv hnv
  go_enter Tryz.func32, Tryz.ntmps32
  go_upto_region 6 with (go_at_call 58; refine (clist HK.out (by omega)).mono ?_; rintro r w1 ⟨vn, L, rfl, hrow, hasc, hmem, hlen, f1⟩)
  obtain ⟨Al, cl, rfl⟩ := hrow.form
  obtain ⟨n, hn⟩ : ∃ n, L.length = n := ⟨_, rfl⟩
  have hstr := hrow.strsB
  rw [hn] at hlen hstr ⊢
  have HN := Lib.hid hn
  have HSTR := Lib.hid hstr
  have HAS := Lib.hid hasc
  have HME := Lib.hid hmem
  have HF1 := Lib.hid f1
  obtain ⟨m0, m1⟩ := (HM.out.below f1).cells2
  have hz1 : w.heap.size ≤ w1.heap.size := Below.size f1
  have hmk : (Instr.makeMap 154 none).run Tryz.prog w1 = .ok (.map (some w1.heap.size)) (w1.alloc (.map #[] 0)) := rfl
  clear hrow hn hstr hasc hmem f1
  go_upto_region 7 with (rw [hmk]; simp only [Result.andThen_ok])
  have hnv0 := NamesV.new w1 0
  have hf2 : fr w1 (w1.alloc (.map #[] 0)) := fr.alloc fr.refl _
  have hs2 : (w1.alloc (.map #[] 0)).heap.size = w1.heap.size + 1 := World.size_alloc _ _
  obtain ⟨K, hK⟩ : ∃ K, w1.heap.size = K := ⟨_, rfl⟩
  rw [hK] at hnv0 hs2 hz1 ⊢
  generalize w1.alloc (.map #[] 0) = w2 at hnv0 hf2 hs2 ⊢
  have HNV0 := Lib.hid hnv0
  have HF2 := Lib.hid (fr.step HF1.out hf2)
  have HF12 := Lib.hid hf2
  have HKK := Lib.hid hK
  obtain ⟨m0, m1⟩ := (HM.out.below HF2.out).cells2
  clear hnv0 hf2 hmk hK
  go_wp2_with (fail)
  go_loopw [38] (fun t wr => ∃ i : Nat, i ≤ nv ∧ t = .int .i64 i ∧ NamesV wr K ((keysT v.tabs).take i) ∧ Only (fun j => j = K) w2 wr) (fun t _ => nv - (intOf t).toNat)
  case atStart => exact ⟨0, Nat.zero_le _, rfl, HNV0.out, Only.refl _ _⟩
  case round =>
    obtain ⟨i, hi, rfl, hmk, hon⟩ := hrel
    have HMK := Lib.hid hmk
    have HON := Lib.hid hon
    have hfw : fr w wr := HF2.out.trans (hon.below (Below.size HF2.out) fun j h => by omega)
    have HFW := Lib.hid hfw
    have hzr : K + 1 ≤ wr.heap.size := by have := hon.size; omega
    clear hmk hon hfw m0 m1
    by_cases hin : i < nv
    · obtain ⟨t, hf⟩ : ∃ t, v.tabs[i]? = some t := ⟨_, List.getElem?_eq_getElem (by rw [HNV.out]; exact hin)⟩
      obtain ⟨b, o, cs, rfl, hblt, _, ⟨va, vb, rfl, hva, hvb⟩, hc⟩ := Rows.at_ tbFine (Rows.below tbFine HX.out HFW.out) hf
      obtain ⟨A1, c1, rfl⟩ := slice_form hva
      obtain ⟨A2, c2, rfl⟩ := slice_form hvb
      have x0 : wr.cell? ⟨b, o + i * 5, none⟩ = _ := hc 0 _ rfl
      have x1 : wr.cell? ⟨b, o + i * 5 + 1, none⟩ = _ := hc 1 _ rfl
      have x2 : wr.cell? ⟨b, o + i * 5 + 2, none⟩ = _ := hc 2 _ rfl
      have x3 : wr.cell? ⟨b, o + i * 5 + 3, none⟩ = _ := hc 3 _ rfl
      have x4 : wr.cell? ⟨b, o + i * 5 + 4, none⟩ = _ := hc 4 _ rfl
      have HTB := Lib.hid hf
      clear hc hf hva hvb
      go_upto_region 10 with (fail)
      have hal : fr wr (wr.alloc (.cells #[.int .i64 t.id, .int .i64 t.level, .int .i64 t.count, .slice A1 t.lo.length c1, .slice A2 t.hi.length c2] 57)) := fr.alloc fr.refl _
      have pT := heap_alloc_new wr (.cells #[.int .i64 t.id, .int .i64 t.level, .int .i64 t.count, .slice A1 t.lo.length c1, .slice A2 t.hi.length c2] 57)
      have y0 := cell_of_row _ _ 0 _ _ _ pT
      generalize wr.alloc (.cells #[.int .i64 t.id, .int .i64 t.level, .int .i64 t.count, .slice A1 t.lo.length c1, .slice A2 t.hi.length c2] 57) = w3 at hal y0 ⊢
      have HNM := Lib.hid (mname_all t.id w3 (HT.out.below (fr.step HFW.out hal)))
      have hidt : (keysT v.tabs)[i]? = some (nameR t.id) := by unfold keysT; rw [List.getElem?_map, HTB.out]; rfl
      have htk := take_snoc hidt
      have hput : ∀ w4, fr w3 w4 → ∃ w5, (Instr.mapUpdate 154 (.map (some K)) (.string ⟨(nameR t.id).toArray⟩) (.bool true)).run Tryz.prog w4 = .ok () w5 ∧ NamesV w5 K ((keysT v.tabs).take (i + 1)) ∧ Only (fun j => j = K) w4 w5 := fun w4 h4 => by
        rw [htk]
        refine ((HMK.out.below hal).below h4).put ?_
        have h := keys_nodup HV.out
        have h2 : ((keysT v.tabs).take (i + 1)).Nodup := h.sublist (List.take_sublist _ _)
        rw [htk] at h2
        exact fun hm => (List.nodup_append.1 h2).2.2 _ hm _ List.mem_cons_self rfl
      have HPUT := Lib.hid hput
      have HAL := Lib.hid hal
      obtain ⟨X, hX⟩ : ∃ X : ByteArray, (⟨(nameR t.id).toArray⟩ : ByteArray) = X := ⟨_, rfl⟩
      rw [hX] at HNM HPUT
      clear pT htk hidt x0 x1 x2 x3 x4 hput hal hX
      go_wp2_with (first
        | (go_at_call 75; refine HNM.out.mono ?_; rintro r w4 ⟨rfl, f4⟩; obtain ⟨w5, hput, hm5, ho5⟩ := HPUT.out w4 f4)
        | (rw [hput]; simp only [Result.andThen_ok]))
      exact ⟨⟨i + 1, by omega, by go_num, hm5, HON.out.trans ((Only.of_below (fr.step HAL.out f4)).trans ho5)⟩, by simp [intOf]; omega⟩
    · obtain rfl : i = nv := by omega
      have HKS : Hid (NamesV wr K (keysT v.tabs)) := Lib.hid (by have := HMK.out; rwa [List.take_of_length_le (by unfold keysT; rw [List.length_map, HNV.out]; exact Nat.le_refl _)] at this)
      obtain ⟨w3, hw3⟩ : ∃ w3, w3 = wr := ⟨_, rfl⟩
      subst hw3
      have HF23 : Hid (fr w1 w3) := Lib.hid (HF12.out.trans (HON.out.below (Below.size HF12.out) fun j h => by have := HKK.out; omega))
      have HS3 := Lib.hid (HSTR.out.below HF23.out)
      have HK3 := Lib.hid (HK.out.below HFW.out)
      clear hi hin
      go_wp2_with (fail)
      go_loopw [9, 49] (fun u t wx => ∃ (i : Nat) (z : Value), z = u ∧ i ≤ n ∧ t = .int .i64 i ∧ OwnS wx w3.heap.size u ((L.take i).filter (goneB v)) ∧ DkC wx F p (dn + i) (sweepD v L D i) ∧ Only F w3 wx) (fun _ t _ => n - (intOf t).toNat)
      case atStart => exact ⟨0, _, rfl, Nat.zero_le _, rfl, by rw [List.take_zero]; exact OwnS.nil _ _, by rw [sweepD_zero]; exact HK3.out, Only.refl _ _⟩
      case round =>
        obtain ⟨i, z, rfl, hin, rfl, hrow, hdk, hon⟩ := hrel
        have HR := Lib.hid hrow
        have HD := Lib.hid hdk
        have HO := Lib.hid hon
        have hz3 : w3.heap.size ≤ wr.heap.size := hon.size
        have HFL : Hid (∀ i, F i → i < w3.heap.size ∧ tabG < i) := Lib.hid fun i hi => ⟨Nat.lt_of_lt_of_le (HLI.out i hi).1 (Below.size HFW.out), (HLI.out i hi).2⟩
        have htw := (HT.out.below HFW.out).only hon fun i hi => (HFL.out i hi).2
        have hew := (HER.out.below HFW.out).only hon fun i hi => (HFL.out i hi).2
        have hmr := (HM.out.below HFW.out).only hon HMF.out
        obtain ⟨m0, _⟩ := hmr.cells2
        have HTW := Lib.hid htw
        have HEW := Lib.hid hew
        have HKW : Hid (NamesV wr K (keysT v.tabs)) := Lib.hid (HKS.out.only hon fun h => by have := (HLI.out K h).1; omega)
        clear hrow hdk hon htw hew hmr
        by_cases hik : i < n
        · obtain ⟨s, hs⟩ : ∃ s, L[i]? = some s := ⟨_, List.getElem?_eq_getElem (by rw [HN.out]; exact hik)⟩
          obtain ⟨b, o, rfl, hblt, hbase, c3⟩ := str_at HS3.out HN.out hs
          have hbF : ¬ F b := fun h => by have := (HLI.out b h).1; omega
          have c0 := HO.out.cellOf c3 hbF
          have hnm : nameB s = true := by
            obtain ⟨cc, hcc⟩ := Option.isSome_iff_exists.1 ((HME.out s).1 (List.mem_of_getElem? hs))
            exact HK.out.name hcc
          have hsl := nmLong hnm
          have hne : s ≠ [] := by intro h; rw [h] at hnm; cases hnm
          have hds : ∃ cc, sweepD v L D i s = some cc := by
            rw [sweepD_there HAS.out hs]
            exact Option.isSome_iff_exists.1 ((HME.out s).1 (List.mem_of_getElem? hs))
          have HDS := Lib.hid hds
          have HS := Lib.hid hs
          have HNE := Lib.hid hne
          have HFS := Lib.hid (filter_snoc (goneB v) hs)
          have HPL : Hid (((L.take i).filter (goneB v)).length ≤ i) := Lib.hid (by have := List.length_filter_le (goneB v) (L.take i); rw [List.length_take] at this; omega)
          clear hs c3 hnm hds hne hbF
          by_cases htb : isTbl s = true
          · obtain ⟨m, hm1, hm2, rfl⟩ := isTbl_iff.1 htb
            have HNO := Lib.hid fun wx (hf : fr wr wx) => mname_any m wx (HTW.out.below hf) ⟨hm1, hm2⟩
            obtain ⟨X, hX⟩ : ∃ X : ByteArray, (⟨(nameT m).toArray⟩ : ByteArray) = X := ⟨_, rfl⟩
            have HC1 : Hid (∀ wx, Calls Tryz.prog 87 #[.string X, .string ⟨#[116]⟩] wx fun r w' => r = .returned (.tuple #[.string ⟨(dig6 m ++ tblW).toArray⟩, .bool true]) ∧ w' = wx) := Lib.hid fun wx => by
              rw [← hX]
              exact Tryz.strings_CutPrefix ⟨(nameT m).toArray⟩ ⟨#[116]⟩ wx
            have HC2 : Hid (∀ wx, Calls Tryz.prog 88 #[.string ⟨(dig6 m ++ tblW).toArray⟩, .string ⟨#[46, 116, 98, 108]⟩] wx fun r w' => r = .returned (.tuple #[.string ⟨(dig6 m).toArray⟩, .bool true]) ∧ w' = wx) := Lib.hid fun wx => by
              have h := Tryz.strings_CutSuffix ⟨(dig6 m ++ tblW).toArray⟩ ⟨#[46, 116, 98, 108]⟩ wx (by rw [ba_size]; show 10 ≤ _; omega)
              have e2 : Lib.hasSuffix (dig6 m ++ tblW) tblW = true := List.isSuffixOf_iff_suffix.2 ⟨_, rfl⟩
              have e1 : Lib.trimSuffix (dig6 m ++ tblW) tblW = dig6 m := by unfold Lib.trimSuffix; rw [if_pos e2]; rfl
              dsimp only at h
              rw [show ([46, 116, 98, 108] : List UInt8) = tblW from rfl, e1, e2] at h
              exact h
            have HCA : Hid (∀ wx, Calls Tryz.prog 76 #[.string ⟨(dig6 m).toArray⟩] wx fun r w' => r = .returned (.tuple #[.int .i64 m, .nilIface]) ∧ fr wx w') := Lib.hid fun wx => by
              obtain ⟨q, q1, q2⟩ := atoi_dig (dig6_ok m) (by intro h; cases h)
              rw [dec_dig6 (by omega)] at q1
              obtain rfl := Option.some.inj q1
              refine (Tryz.strconv_Atoi ⟨(dig6 m).toArray⟩ m (by rw [ba_size]; show 6 ≤ _; omega) q2 wx).mono ?_
              rintro r w' ⟨rfl, t, rfl⟩
              exact ⟨rfl, Lib.bytesWorld_below _ _ _⟩
            obtain ⟨Y, hY⟩ : ∃ Y : ByteArray, (⟨(dig6 m ++ tblW).toArray⟩ : ByteArray) = Y := ⟨_, rfl⟩
            obtain ⟨Z, hZ⟩ : ∃ Z : ByteArray, (⟨(dig6 m).toArray⟩ : ByteArray) = Z := ⟨_, rfl⟩
            rw [hX] at c0 HNO
            rw [hY] at HC1 HC2
            rw [hZ] at HC2 HCA
            have HXX := Lib.hid hX
            clear hX hY hZ
            obtain ⟨q, hq⟩ : ∃ q, inV v (nameT m) = q := ⟨_, rfl⟩
            have hlook : ∀ wx, fr wr wx → (Instr.lookup 154 (.map (some K)) (.string X) false).run Tryz.prog wx = .ok (.bool q) wx := fun wx hf => by
              have := (HKW.out.below hf).look (nameT m)
              rw [keys_in HV.out htb, hq] at this
              rw [← HXX.out]
              exact this
            have HLK := Lib.hid hlook
            have HG : Hid (goneB v (nameT m) = !q) := Lib.hid (by unfold goneB; rw [htb, hq]; rfl)
            clear hq htb hlook
            cases q with
            | true =>
              go_wp2_with (first
                | (go_at_call 87; refine (HC1.out _).mono ?_; rintro r w' ⟨rfl, rfl⟩)
                | (go_at_call 88; refine (HC2.out _).mono ?_; rintro r w' ⟨rfl, rfl⟩)
                | (go_at_call 76; refine (HCA.out _).mono ?_; rintro r w6 ⟨rfl, f6⟩)
                | (go_at_call 75; refine (HNO.out _ f6).mono ?_; rintro r w7 ⟨rfl, f7⟩; have hlk := HLK.out w7 (fr.step f6 f7))
                | (rw [hlk]; simp only [Result.andThen_ok]))
              have HF7 := Lib.hid (fr.step f6 f7)
              refine ⟨⟨i + 1, _, rfl, by omega, by go_num, by rw [HFS.out, if_neg (by rw [HG.out]; exact Bool.false_ne_true)]; exact HR.out.below HF7.out, by rw [sweepD_stay HS.out (by rw [HG.out]; rfl)]; exact (HD.out.below HF7.out).mono (by omega), HO.out.trans (Only.of_below HF7.out)⟩, by simp [intOf]; omega⟩
            | false =>
              have HDE : Hid (∀ wx, fr wr wx → Calls Tryz.prog 62 #[.pointer (some ⟨p, 0, none⟩), .string X] wx fun r w' => r = .returned (.int .i64 0) ∧ DkC w' F p (dn + i + 1) (delD (sweepD v L D i) (nameT m)) ∧ Only F wx w') := Lib.hid fun wx hf => by
                obtain ⟨cc, hcc⟩ := HDS.out
                rw [← HXX.out]
                exact cdelete (HD.out.below hf) hcc (by omega)
              have HOW : Hid (∀ g, z.ownBlock = some g → w3.heap.size ≤ g) := Lib.hid fun g hg => (World.ownsRow.lt HR.out g hg).1
              go_wp2_with (first
                | (go_at_call 87; refine (HC1.out _).mono ?_; rintro r w' ⟨rfl, rfl⟩)
                | (go_at_call 88; refine (HC2.out _).mono ?_; rintro r w' ⟨rfl, rfl⟩)
                | (go_at_call 76; refine (HCA.out _).mono ?_; rintro r w6 ⟨rfl, f6⟩)
                | (go_at_call 75; refine (HNO.out _ f6).mono ?_; rintro r w7 ⟨rfl, f7⟩; have hf7 := fr.step f6 f7; have hlk := HLK.out w7 hf7; have m7 := fr.cell hf7 m0)
                | (rw [hlk]; simp only [Result.andThen_ok])
                | (go_at_call 62; refine (HDE.out w7 hf7).mono ?_; rintro r w8 ⟨rfl, hd8, ho8⟩; have hz8 : w3.heap.size ≤ w8.heap.size := Nat.le_trans hz3 (Nat.le_trans (Below.size hf7) ho8.size); have HR8 : Hid (OwnS w8 w3.heap.size z ((L.take i).filter (goneB v))) := Lib.hid (own_only (HR.out.below hf7) ho8 fun g hg hF => by have := HOW.out g hg; have := (HFL.out g hF).1; omega))
                | (at_builtin; refine wpList_push_str rfl _ _ rfl w3.heap.size _ ((L.take i).filter (goneB v)) rfl (HR8.out.below (fr.alloc fr.refl _)) w8.heap.size (nameT m) rfl (by rw [HXX.out]; exact heap_alloc_new w8 _) (by have := HPL.out; omega) (le_alloc hz8 _) ?_; intro v9 w9 hrow9 hgrow9))
              have hO8 : Only F w3 w8 := (HO.out.trans (Only.of_below hf7)).trans ho8
              have hO9 := (hO8.trans (Only.of_below (fr.alloc fr.refl (.cells #[.string X] 9)))).fresh (Only_grown hgrow9) fun g hg => .inr (HOW.out g hg)
              have hD9 := (hd8.below (fr.alloc fr.refl (.cells #[.string X] 9))).only (Only_grown hgrow9) fun g hg hF => by have := HOW.out g hg; have := (HFL.out g hF).1; omega
              exact ⟨⟨i + 1, _, rfl, by omega, by go_num, by rw [HFS.out, if_pos (by rw [HG.out]; rfl)]; exact hrow9, by rw [sweepD_gone HS.out (by rw [HG.out]; rfl)]; exact hD9, hO9⟩, by simp [intOf]; omega⟩
          · have htf : isTbl s = false := by simpa using htb
            have HG : Hid (goneB v s = false) := Lib.hid (by unfold goneB; rw [htf]; rfl)
            have HNB : Hid (∀ q, nameR q ≠ s) := Lib.hid fun q hq => by rw [(isTbl_of hq HNE.out).1] at htf; cases htf
            obtain ⟨b1, h1⟩ : ∃ b, Lib.hasPrefix s [116] = b := ⟨_, rfl⟩
            obtain ⟨y, hy⟩ : ∃ y, Lib.trimPrefix s [116] = y := ⟨_, rfl⟩
            obtain ⟨b2, h2⟩ : ∃ b, Lib.hasSuffix y tblW = b := ⟨_, rfl⟩
            obtain ⟨z2, hz⟩ : ∃ y2, Lib.trimSuffix y tblW = y2 := ⟨_, rfl⟩
            have hyl : y.length ≤ s.length := by
              rw [← hy]; unfold Lib.trimPrefix
              split
              · rw [List.length_drop]; omega
              · exact Nat.le_refl _
            have hzl : z2.length ≤ y.length := by
              rw [← hz]; unfold Lib.trimSuffix
              split
              · rw [List.length_take]; omega
              · exact Nat.le_refl _
            have HC1 := Lib.hid fun wx => Tryz.strings_CutPrefix ⟨s.toArray⟩ ⟨#[116]⟩ wx
            have HC2 := Lib.hid fun wx => Tryz.strings_CutSuffix ⟨y.toArray⟩ ⟨#[46, 116, 98, 108]⟩ wx (by rw [ba_size]; omega)
            dsimp only at HC1 HC2
            rw [show ([46, 116, 98, 108] : List UInt8) = tblW from rfl, h2, hz] at HC2
            rw [h1, hy] at HC1
            have HCA := Lib.hid fun wx (hf : fr wr wx) => atoi_any ⟨z2.toArray⟩ wx (by rw [ba_size]; omega) (HEW.out.below hf)
            have HNO := Lib.hid fun q wx (hf : fr wr wx) => mname_all q wx (HTW.out.below hf)
            obtain ⟨X, hX⟩ : ∃ X : ByteArray, (⟨s.toArray⟩ : ByteArray) = X := ⟨_, rfl⟩
            obtain ⟨Y, hY⟩ : ∃ Y : ByteArray, (⟨y.toArray⟩ : ByteArray) = Y := ⟨_, rfl⟩
            obtain ⟨Z, hZ⟩ : ∃ Z : ByteArray, (⟨z2.toArray⟩ : ByteArray) = Z := ⟨_, rfl⟩
            rw [hX] at c0 HC1
            rw [hY] at HC1 HC2
            rw [hZ] at HC2 HCA
            have HXX := Lib.hid hX
            have hend : ∀ w6, fr wr w6 → ∃ (j : Nat) (z0 : Value), z0 = z ∧ j ≤ n ∧ (Value.int .i64 ((i : Int) + 1) : Value) = .int .i64 j ∧ OwnS w6 w3.heap.size z ((L.take j).filter (goneB v)) ∧ DkC w6 F p (dn + j) (sweepD v L D j) ∧ Only F w3 w6 := fun w6 f6 =>
              ⟨i + 1, z, rfl, by omega, by go_num, by rw [HFS.out, if_neg (by rw [HG.out]; exact Bool.false_ne_true)]; exact HR.out.below f6, by rw [sweepD_stay HS.out HG.out]; exact (HD.out.below f6).mono (by omega), HO.out.trans (Only.of_below f6)⟩
            have HEND := Lib.hid hend
            clear hX hY hZ hy h1 hz h2 hyl hzl htb htf hend
            go_upto_region 19 with (first
              | (go_at_call 87; refine (HC1.out _).mono ?_; rintro r w' ⟨rfl, rfl⟩)
              | (go_at_call 88; refine (HC2.out _).mono ?_; rintro r w' ⟨rfl, rfl⟩)
              | (go_at_call 76; refine (HCA.out _ fr.refl).mono ?_; rintro r w6 ⟨n6, e6, rfl, he6, f6⟩))
            cases b1 with
            | false =>
              go_wp2_with (fail)
              exact ⟨by simpa using HEND.out w6 f6, by simp [intOf]; omega⟩
            | true =>
              cases b2 with
              | false =>
                go_wp2_with (fail)
                exact ⟨by simpa using HEND.out w6 f6, by simp [intOf]; omega⟩
              | true =>
                rcases he6 with rfl | ⟨t6, p6, rfl⟩
                · have HN6 := Lib.hid (HNO.out n6 w6 f6)
                  obtain ⟨N, hN⟩ : ∃ N : ByteArray, (⟨(nameR n6).toArray⟩ : ByteArray) = N := ⟨_, rfl⟩
                  have hne6 : (N.toList == X.toList) = false := by
                    rw [← hN, ← HXX.out, beq_eq_false_iff_ne]
                    intro h
                    exact HNB.out n6 (by simpa [ByteArray.toList_eq] using h)
                  rw [hN] at HN6
                  clear hN
                  go_wp2_with (go_at_call 75; refine HN6.out.mono ?_; rintro r w7 ⟨rfl, f7⟩)
                  exact ⟨by simpa using HEND.out w7 (fr.step f6 f7), by simp [intOf]; omega⟩
                · go_wp2_with (fail)
                  exact ⟨by simpa using HEND.out w6 f6, by simp [intOf]; omega⟩
        · obtain rfl : i = n := by omega
          have HFIN : Hid (OwnS wr w3.heap.size z (L.filter (goneB v))) := Lib.hid (by have := HR.out; rwa [List.take_of_length_le (by rw [HN.out]; exact Nat.le_refl _)] at this)
          obtain ⟨A9, c9, rfl⟩ := HR.out.form
          go_wp2
          refine bodyPost_ret (v := .tuple #[.slice A9 ((L.take i).filter (goneB v)).length c9, .int .i64 0]) (by simp [results, Tryz.results32, go_sem]) rfl ?_
          refine ⟨_, L, rfl, HAS.out, HME.out, OwnS.base HFIN.out (Below.size HFW.out), ?_, (Only.of_below HFW.out).trans HO.out⟩
          rw [HN.out]
          exact HD.out.mono (by omega)
end Go.Proofs.YtjnolpfmchnnmaaGreatDoor
end
section
namespace Go.Proofs.YtjnolpfmchnnmaaGreatDoor
set_option maxRecDepth 100000
open Go.RowKit Go.BigFrame Go.Shelf
attribute [local go_sem ↓] Go.wp_at_zero Go.wp_at_succ
def calm0 : Pk := ⟨[], -1, -1, [], 0, 0, false⟩
theorem calm0_ok : CalmK calm0 0 := ⟨rfl, rfl, rfl, .nil, fun _ h => (by cases h), by decide, by decide, by decide⟩
theorem Byt.one {w : World} {S : Nat → Prop} {g c : Nat} {b : UInt8} {v : Value} (h : w.cell? ⟨g, 0, none⟩ = some v) (hv : v = bcell b) (hS : S g) (hc : 1 ≤ c) (hc' : c ≤ 9223372036854775807) : Byt w S (.slice (some ⟨g, 0, none⟩) 1 c) [b] := by
  subst hv
  refine ⟨_, _, rfl, hc, hc', by simp, ⟨by simp, fun _ => ⟨g, 0, rfl, hS, World.block_lt_of_cell? w _ h, fun j u hu => ?_⟩⟩⟩
  match j, hu with
  | 0, hu => simp at hu; subst hu; simpa using h
theorem cell_marked (w : World) (cs : Array Value) (t : TypeId) (fr : Nat × Nat) (g j : Nat) (hg : g = w.heap.size) : (w.alloc (.cells cs t fr)).cell? ⟨g, j, none⟩ = cs[j]? := by
  subst hg; exact cell_of_row _ _ j cs t fr (heap_alloc_new w _)
end Go.Proofs.YtjnolpfmchnnmaaGreatDoor
end
section
namespace Go.Proofs.YtjnolpfmchnnmaaGreatDoor
set_option maxRecDepth 100000
open Go.RowKit Go.BigFrame Go.Sort Go.Shelf Go.Lib
attribute [local go_sem ↓] Go.wp_at_zero Go.wp_at_succ
def t7 : Tbl := ⟨7, 0, 1, [97], [98]⟩
def wv0 : Ver := ⟨[], 0, 0, 0⟩
def we0 : Edt := ⟨[t7], [], 0, 3⟩
def we1 : Edt := ⟨[], [], 2, 5⟩
def we2 : Edt := ⟨[], [], 1, 5⟩
def wv1 : Ver := ⟨[], 2, 5, 1⟩
theorem sortTb_nil : sortTb [] = [] := by simp [sortTb]
theorem wv1_eq : (⟨sortTb (foldT ver0 we1), we1.lg, we1.sq, foldN ver0 we1⟩ : Ver) = wv1 := by
  have : foldT ver0 we1 = [] := rfl
  rw [this, sortTb_nil]
  rfl
theorem sorts_nil (n : Nat) : Sorts sortTb (([] : List Tbl).take n) := sorts_small (by simp) (by simp [idsT])
set_option maxRecDepth 100000 in
set_option maxHeartbeats 1000000 in
theorem calm13_any (w : World) : Calls Tryz.prog 25 #[] w fun r w' => r = .returned (.agg #[.int .i64 (-1), .int .i64 (-1), .slice none 0 0]) ∧ fr w w' := by
  go_enter Tryz.func25, Tryz.ntmps25
  go_wp2
  have hb := heap_alloc_new w (.cells #[.int .i64 (-1), .int .i64 (-1), .slice none 0 0] 28)
  have c0 := cell_of_row _ _ 0 _ _ _ hb
  have c1 := cell_of_row _ _ 1 _ _ _ hb
  have c2 := cell_of_row _ _ 2 _ _ _ hb
  refine bodyPost_ret (v := .agg #[.int .i64 (-1), .int .i64 (-1), .slice none 0 0]) (by simp [results, Tryz.results25, go_sem, c0, c1, c2]) rfl ?_
  exact ⟨rfl, fr.alloc fr.refl _⟩
theorem t7_at (w : World) : TabsV (((w.alloc (.cells #[.int .u8 97] 5 (1, 2))).alloc (.cells #[.int .u8 98] 5 (1, 2))).alloc (.cells #[.int .i64 7, .int .i64 0, .int .i64 1, .slice (some ⟨w.heap.size, 0, none⟩) 1 1, .slice (some ⟨w.heap.size + 1, 0, none⟩) 1 1] 57)) (fun _ => True) (.slice (some ⟨w.heap.size + 1 + 1, 0, none⟩) 1 1) [t7] := by
  have h1 := cell_marked w #[.int .u8 97] 5 (1, 2) w.heap.size 0 rfl
  have h2 := cell_marked (w.alloc (.cells #[.int .u8 97] 5 (1, 2))) #[.int .u8 98] 5 (1, 2) (w.heap.size + 1) 0 (by simp)
  have b1 : Byt _ (fun _ => True) (.slice (some ⟨w.heap.size, 0, none⟩) 1 1) [97] := Byt.one (v := .int .u8 97) h1 rfl trivial (by omega) (by omega)
  have b2 : Byt _ (fun _ => True) (.slice (some ⟨w.heap.size + 1, 0, none⟩) 1 1) [98] := Byt.one (v := .int .u8 98) h2 rfl trivial (by omega) (by omega)
  have f1 : fr (w.alloc (.cells #[.int .u8 97] 5 (1, 2))) (((w.alloc (.cells #[.int .u8 97] 5 (1, 2))).alloc (.cells #[.int .u8 98] 5 (1, 2))).alloc (.cells #[.int .i64 7, .int .i64 0, .int .i64 1, .slice (some ⟨w.heap.size, 0, none⟩) 1 1, .slice (some ⟨w.heap.size + 1, 0, none⟩) 1 1] 57)) := fr.alloc (fr.alloc fr.refl _) _
  have f2 : fr ((w.alloc (.cells #[.int .u8 97] 5 (1, 2))).alloc (.cells #[.int .u8 98] 5 (1, 2))) (((w.alloc (.cells #[.int .u8 97] 5 (1, 2))).alloc (.cells #[.int .u8 98] 5 (1, 2))).alloc (.cells #[.int .i64 7, .int .i64 0, .int .i64 1, .slice (some ⟨w.heap.size, 0, none⟩) 1 1, .slice (some ⟨w.heap.size + 1, 0, none⟩) 1 1] 57)) := fr.alloc fr.refl _
  refine ⟨_, _, [_], rfl, by simp, by simp, by simp, ⟨by simp, fun _ => ⟨_, 0, rfl, trivial, by simp, fun j u hu => ?_⟩⟩, .cons ⟨_, _, rfl, b1.below f1, b2.below f2⟩ .nil⟩
  rw [World.cell?_alloc_at _ _ _ _ (by simp), Nat.zero_add, ← hu]
  simp [t7]
set_option maxRecDepth 100000 in
set_option maxHeartbeats 4000000 in
theorem mwakes_any (w : World) (ht : TabW w) : Calls Tryz.prog 23 #[] w fun r w' => r = .returned (.bool true) ∧ fr w w' := by
  have kc : ∀ (W : World) (C : Array Value) (n c g : Nat), g = W.heap.size → (convert 35 35 (.slice (some ⟨g, 0, none⟩) n c)).run Tryz.prog (W.alloc (.cells C 5)) = .ok (.slice (some ⟨g, 0, none⟩) n c) (W.alloc (.cells C 5 (C.size, C.size + 1))) := fun W C n c g hg => hg ▸ Lib.run_convert_bytes_const (P := Tryz.prog) W 35 5 C n c Tryz.underlying35 Tryz.underlying5
  have KC := Lib.hid kc
  go_enter Tryz.func23, Tryz.ntmps23
  go_upto_region 1 with (fail)
  go_wp2_with (fail)
  have hta := t7_at w
  have hf0 : fr w (((w.alloc (.cells #[.int .u8 97] 5 (1, 2))).alloc (.cells #[.int .u8 98] 5 (1, 2))).alloc (.cells #[.int .i64 7, .int .i64 0, .int .i64 1, .slice (some ⟨w.heap.size, 0, none⟩) 1 1, .slice (some ⟨w.heap.size + 1, 0, none⟩) 1 1] 57)) := fr.alloc (fr.alloc (fr.alloc fr.refl _) _) _
  have HF0 := Lib.hid hf0
  refine (fold_any sortTb (fun _ => True) (.slice none 0 0) _ (.slice none 0 0) wv0 we0 _ ⟨none, 0, [], rfl, by simp [wv0], by simp, by simp [wv0], Row.nil _ _ _ _, .nil⟩ hta (IntsIn.nil _ _) (by simp [wv0, idsT]) (by simp [wv0]) (sorts_small (by decide) (by decide))).mono ?_
  rintro r w1 ⟨R, rfl, hR, f1⟩
  rw [if_pos (by decide)] at hR
  obtain ⟨x2, rfl, ho⟩ := hR
  obtain ⟨A2, c2, rfl⟩ : ∃ A c, x2 = .slice A 1 c := by
    obtain ⟨A, c, h⟩ := ho.form
    have : (sortTb (foldT wv0 we0)).length = 1 := (sortTb_perm _).length_eq
    exact ⟨A, c, by rw [h, this]⟩
  have e1 : foldE wv0 we0 = 0 := by decide
  have e2 : foldN wv0 we0 = 8 := by decide
  rw [e1, e2, show we0.lg = 0 from rfl, show we0.sq = 3 from rfl]
  have HF1 := Lib.hid (fr.step HF0.out f1)
  clear hta hf0 ho f1 e1 e2 kc
  go_upto_region 2 with (fail)
  have bz := heap_alloc_new w1 (.cells #[.slice A2 1 c2, .int .i64 0, .int .i64 3, .int .i64 8] 50)
  have fz : fr w1 (w1.alloc (.cells #[.slice A2 1 c2, .int .i64 0, .int .i64 3, .int .i64 8] 50)) := fr.alloc fr.refl _
  obtain ⟨z, hz⟩ : ∃ z, w1.heap.size = z := ⟨_, rfl⟩
  rw [hz] at bz ⊢
  generalize w1.alloc (.cells #[.slice A2 1 c2, .int .i64 0, .int .i64 3, .int .i64 8] 50) = w2 at bz fz ⊢
  have HF2 := Lib.hid (fr.step HF1.out fz)
  have HZ := Lib.hid bz
  have HZL := Lib.hid (Array.getElem?_eq_some_iff.1 bz).1
  have HT2 := Lib.hid (ht.below HF2.out)
  have HTW := Lib.hid ht.lt
  have HZW : Hid (w.heap.size ≤ z) := Lib.hid (by rw [← hz]; exact Below.size HF1.out)
  clear hz bz fz ht
  go_upto_region 3 with (first | (go_at_call 25; refine (calm13_any _).mono ?_; rintro r w3 ⟨rfl, f3⟩) | (go_at_call 15; refine (new_dk (fun _ => True) (-1) (-1) _ [] w3 (IntsIn.nil _ _) (by simp) w3.heap.size (Nat.le_refl _)).mono ?_; rintro r w4 ⟨p, rfl, ⟨F, hd, hF⟩, f4⟩))
  have HF4 := Lib.hid (fr.step (fr.step HF2.out f3) f4)
  have hs3 := Below.size f3
  have HD4 : Hid (DkC w4 F p 0 (fun _ => none)) := Lib.hid ⟨fun i hi => ⟨(hF i hi).2, Nat.lt_of_lt_of_le HT2.out.lt (Nat.le_trans hs3 (hF i hi).1)⟩, calm0, hd, calm0_ok, rfl⟩
  have HFZ : Hid (∀ i, F i → z < i) := Lib.hid fun i hi => Nat.lt_of_lt_of_le HZL.out (Nat.le_trans hs3 (hF i hi).1)
  have HT4 := Lib.hid (HT2.out.below (fr.step f3 f4))
  have HZ4 : Hid (w4.heap[z]? = _) := Lib.hid ((Below.block (fr.step f3 f4) z HZL.out).trans HZ.out)
  clear hs3 hd hF f3 f4
  go_upto_region 4 with (go_at_call 24; refine (mopen_fresh F p 0 _ w4 HD4.out HT4.out rfl (by decide)).mono ?_; rintro r w5 ⟨rfl, ⟨F1, hS1, hM1⟩, hO1⟩)
  have HMZ : Hid (z < w4.heap.size) := Lib.hid (Array.getElem?_eq_some_iff.1 HZ4.out).1
  have hF1 : ∀ i, F1 i → z < i := fun i hi => (hS1 i hi).elim (HFZ.out i) fun h => Nat.lt_of_lt_of_le HMZ.out h
  have HK5 : Hid (Only (fun i => z < i) w4 w5) := Lib.hid (hO1.mono HFZ.out)
  have htz : tabG < z := Nat.lt_of_lt_of_le HTW.out HZW.out
  have HTZ : Hid (∀ i, z < i → tabG < i) := Lib.hid fun i hi => Nat.lt_trans htz hi
  obtain ⟨M, hM⟩ : ∃ M, w4.heap.size = M := ⟨_, rfl⟩
  obtain ⟨D1, hD1⟩ : ∃ D1, begunD (fun _ => none) 0 (frB (recsM (splitL ver0))) = D1 := ⟨_, rfl⟩
  rw [hM, hD1] at hM1
  rw [hM] at HMZ ⊢
  have HM1 : Hid (ManC w5 F1 M p ver0 1 1000 D1) := Lib.hid hM1
  have HF1 := Lib.hid hF1
  have HT5 := Lib.hid (HT4.out.only HK5.out HTZ.out)
  clear hS1 hM1 hO1 hF1 htz hM hD1
  have HV5 : Hid (Calls Tryz.prog 29 #[.pointer (some ⟨M, 0, none⟩)] w5 fun r w' => ∃ x', r = .returned (.agg #[x', .int .i64 0, .int .i64 0, .int .i64 1]) ∧ fr w5 w') := Lib.hid (by
    refine (mver_calm HM1.out).mono ?_
    rintro r w' ⟨x', rfl, _, h⟩
    exact ⟨x', rfl, h⟩)
  have hfd : ∀ (x : Value) (a b c : Int) (wx : World), (Instr.field 50 (.agg #[x, .int .i64 a, .int .i64 b, .int .i64 c]) 3).run Tryz.prog wx = .ok (.int .i64 c) wx := fun _ _ _ _ _ => by kernel_rfl
  have g1 : foldE ver0 we1 = 0 := by decide
  have HA6 : Hid (∀ wx, fr w5 wx → Calls Tryz.prog 28 #[.pointer (some ⟨M, 0, none⟩), .agg #[.slice none 0 0, .slice none 0 0, .int .i64 2, .int .i64 5]] wx fun r w' => r = .returned (.int .i64 0) ∧ (∃ F2 D2, (∀ i, F2 i → z < i) ∧ ManC w' F2 M p wv1 1 1002 D2) ∧ Only (fun i => z < i) wx w') := Lib.hid fun wx hx => by
    refine (mapply_any (fun _ => True) F1 M p 1 1000 ver0 D1 (.slice none 0 0) (.slice none 0 0) we1 wx (HM1.out.below hx) (HT5.out.below hx) ⟨none, 0, [], rfl, by simp [we1], by simp, by simp [we1], Row.nil _ _ _ _, .nil⟩ (IntsIn.nil _ _) (sorts_nil 0) (fun t ht => by cases ht) (by decide) (by decide) (by decide)).mono ?_
    rintro r w' ⟨rfl, h1, h2⟩
    rw [if_pos g1, wv1_eq] at h1
    obtain ⟨F2, hS2, hM2⟩ := h1
    refine ⟨by rw [g1], ⟨F2, _, fun i hi => (hS2 i hi).elim (HF1.out i) fun h => ?_, hM2⟩, h2.mono fun i hi => hi.elim (HF1.out i) fun e => e ▸ HMZ.out⟩
    have := HMZ.out
    have := HM1.out.lt
    have := Below.size hx
    omega
  have g2 : foldE wv1 we2 = 2 := by decide
  have HA7 : Hid (∀ (F2 : Nat → Prop) (D2 : Nm → Option (List UInt8)) wx, ManC wx F2 M p wv1 1 1002 D2 → TabW wx → (∀ i, F2 i → z < i) → Calls Tryz.prog 28 #[.pointer (some ⟨M, 0, none⟩), .agg #[.slice none 0 0, .slice none 0 0, .int .i64 1, .int .i64 5]] wx fun r w' => r = .returned (.int .i64 2) ∧ ManC w' F2 M p wv1 1 1002 D2 ∧ Only (fun i => z < i) wx w') := Lib.hid fun F2 D2 wx hm htx hf2 => by
    refine (mapply_any (fun _ => True) F2 M p 1 1002 wv1 D2 (.slice none 0 0) (.slice none 0 0) we2 wx hm htx ⟨none, 0, [], rfl, by simp [we2], by simp, by simp [we2], Row.nil _ _ _ _, .nil⟩ (IntsIn.nil _ _) (sorts_nil 0) (fun t ht => by cases ht) (by decide) (by decide) (by decide)).mono ?_
    rintro r w' ⟨rfl, h1, h2⟩
    rw [if_neg (by rw [g2]; decide)] at h1
    exact ⟨by rw [g2], h1, h2.mono fun i hi => hi.elim (hf2 i) fun e => e ▸ HMZ.out⟩
  clear g1 g2
  go_upto_region 6 with (first
    | (go_at_call 29; refine HV5.out.mono ?_; rintro r w6 ⟨x6, rfl, f6⟩)
    | (go_at_call 28; refine (HA7.out F2 D2 _ hM2 ((HT5.out.below f6).only hO7 HTZ.out) hF2).mono ?_; rintro r w8 ⟨rfl, hM3, hO8⟩)
    | (go_at_call 28; refine (HA6.out _ f6).mono ?_; rintro r w7 ⟨rfl, ⟨F2, D2, hF2, hM2⟩, hO7⟩))
  have HK8 := Lib.hid (((HK5.out.trans (Only.of_below f6)).trans hO7).trans hO8)
  have HM8 := Lib.hid hM3
  have HF8 := Lib.hid hF2
  clear f6 hO7 hO8 hM2 hM3 hF2 hfd HV5 HA6 HA7
  have hz8 : z < w8.heap.size := Nat.lt_trans HMZ.out HM8.out.lt
  have HZ8 := Lib.hid hz8
  go_upto_region 7 with (go_at_call 24; refine (mopen_again F2 p 1 1002 1002 wv1 D2 w8 HM8.out.dk (HT4.out.only HK8.out HTZ.out) HM8.out.file (by decide) (by decide) (by decide) HM8.out.ver sorts_nil (by decide)).mono ?_; rintro r w9 ⟨rfl, ⟨F9, hS9, hM9⟩, hO9⟩)
  have HM9 := Lib.hid hM9
  have HK9 := Lib.hid (HK8.out.trans (hO9.mono HF8.out))
  clear hS9 hM9 hO9 hz8
  obtain ⟨M2, hM2⟩ : ∃ M2, w8.heap.size = M2 := ⟨_, rfl⟩
  rw [hM2] at HM9 ⊢
  have HV9 : Hid (∀ wx, fr w9 wx → Calls Tryz.prog 29 #[.pointer (some ⟨M2, 0, none⟩)] wx fun r w' => ∃ x', r = .returned (.agg #[x', .int .i64 2, .int .i64 5, .int .i64 1]) ∧ fr wx w') := Lib.hid fun wx hx => by
    refine (mver_calm (HM9.out.below hx)).mono ?_
    rintro r w' ⟨x', rfl, _, h⟩
    exact ⟨x', rfl, h⟩
  have HNM : Hid (∀ wx, fr w9 wx → Calls Tryz.prog 75 #[.int .i64 7] wx fun r w' => r = .returned (.string ⟨#[116, 48, 48, 48, 48, 48, 55, 46, 116, 98, 108]⟩) ∧ fr wx w') := Lib.hid fun wx hx => by
    refine (mname_any 7 wx ((HT4.out.only HK9.out HTZ.out).below hx) (by decide)).mono ?_
    rintro r w' ⟨rfl, h⟩
    exact ⟨by rfl, h⟩
  have hfd1 : ∀ (x : Value) (a b c : Int) (wx : World), (Instr.field 50 (.agg #[x, .int .i64 a, .int .i64 b, .int .i64 c]) 1).run Tryz.prog wx = .ok (.int .i64 a) wx := fun _ _ _ _ _ => by kernel_rfl
  have hfd2 : ∀ (x : Value) (a b c : Int) (wx : World), (Instr.field 50 (.agg #[x, .int .i64 a, .int .i64 b, .int .i64 c]) 2).run Tryz.prog wx = .ok (.int .i64 b) wx := fun _ _ _ _ _ => by kernel_rfl
  have hz9 : w9.heap[z]? = some (.cells #[.slice A2 1 c2, .int .i64 0, .int .i64 3, .int .i64 8] 50 (0, 0)) := (HK9.out.block z ((Array.getElem?_eq_some_iff.1 HZ4.out).1) (by omega)).trans HZ4.out
  have HF9 : Hid (fr w w9) := Lib.hid (HF4.out.trans (HK9.out.below (Below.size HF4.out) fun i h => by have := HZW.out; omega))
  have c0 := cell_of_row _ _ 0 _ _ _ hz9
  have c3 := cell_of_row _ _ 3 _ _ _ hz9
  clear hz9 hM2
  go_wp2_with (first
    | (go_at_call 75; refine (HNM.out _ (fr.step f10 f11)).mono ?_; rintro r w12 ⟨rfl, f12⟩)
    | (go_at_call 29; refine (HV9.out _ f10).mono ?_; rintro r w11 ⟨x11, rfl, f11⟩)
    | (go_at_call 29; refine (HV9.out _ fr.refl).mono ?_; rintro r w10 ⟨x10, rfl, f10⟩))
  go_ret
  exact ⟨rfl, fr.step (fr.step (fr.step HF9.out f10) f11) f12⟩
end Go.Proofs.YtjnolpfmchnnmaaGreatDoor
end
section
namespace Go.Proofs.YtjnolpfmchnnmaaGreatDoor
set_option maxRecDepth 100000
open Go.RowKit Go.BigFrame
attribute [local go_sem ↓] Go.wp_at_zero Go.wp_at_succ
theorem tabs_swapG {wr w3 : World} {base g n c0 i j c1 c2 c3 c4 : Nat} {A1 A2 A3 A4 : Option Addr} {l : List Tbl} {css : List (List Value)} {x y : Tbl} (hf : fr wr w3) (hown : wr.ownsRow base 57 5 (.slice (some ⟨g, 0, none⟩) n c0) n css.flatten)
    (hys : All2 (tbR wr (freshL wr base (.slice (some ⟨g, 0, none⟩) n c0))) l css) (hcx : css[j]? = some [.int .i64 x.id, .int .i64 x.level, .int .i64 x.count, .slice A1 x.lo.length c1, .slice A2 x.hi.length c2])
    (hcy : css[i]? = some [.int .i64 y.id, .int .i64 y.level, .int .i64 y.count, .slice A3 y.lo.length c3, .slice A4 y.hi.length c4]) (hx : l[j]? = some x) (hy : l[i]? = some y) (hn : l.length = n) :
    OwnTabs (put5 (put5 w3 g (i * 5) (.int .i64 x.id) (.int .i64 x.level) (.int .i64 x.count) (.slice A1 x.lo.length c1) (.slice A2 x.hi.length c2)) g (j * 5) (.int .i64 y.id) (.int .i64 y.level) (.int .i64 y.count) (.slice A3 y.lo.length c3) (.slice A4 y.hi.length c4)) base (.slice (some ⟨g, 0, none⟩) n c0) ((l.set i x).set j y) := by
  have hall := tbT_len hys
  have hi := (List.getElem?_eq_some_iff.1 hcy).1
  have hj := (List.getElem?_eq_some_iff.1 hcx).1
  have ho : Only (fun i => i = g) w3 _ := (put5_only w3 g (i * 5) (.int .i64 x.id) (.int .i64 x.level) (.int .i64 x.count) (.slice A1 x.lo.length c1) (.slice A2 x.hi.length c2)).trans (put5_only _ g (j * 5) (.int .i64 y.id) (.int .i64 y.level) (.int .i64 y.count) (.slice A3 y.lo.length c3) (.slice A4 y.hi.length c4))
  have o1 := put5_own (own_below hown hf) hall (i := i) hi (.int .i64 x.id) (.int .i64 x.level) (.int .i64 x.count) (.slice A1 x.lo.length c1) (.slice A2 x.hi.length c2)
  have hall2 : ∀ cs ∈ css.set i [.int .i64 x.id, .int .i64 x.level, .int .i64 x.count, .slice A1 x.lo.length c1, .slice A2 x.hi.length c2], cs.length = 5 := fun cs hm => by
    rcases List.mem_or_eq_of_mem_set hm with h | h
    · exact hall _ h
    · rw [h]; rfl
  have o2 := put5_own o1 hall2 (i := j) (by rw [List.length_set]; omega) (.int .i64 y.id) (.int .i64 y.level) (.int .i64 y.count) (.slice A3 y.lo.length c3) (.slice A4 y.hi.length c4)
  generalize hW : put5 (put5 w3 g (i * 5) _ _ _ _ _) g (j * 5) _ _ _ _ _ = W at ho o2 ⊢
  have hys2 : All2 (tbR W (freshL W base (.slice (some ⟨g, 0, none⟩) n c0))) l css := hys.imp fun _ _ hz => tbFine.keep hz fun _ _ _ _ hr =>
    ((hr.below hf).only ho fun i _ hi e => hi.2.1 (by rw [e]; rfl)).mono fun i hi => ⟨hi.1, hi.2.1, (hi.2.2.below hf).only ho fun e => hi.2.1 (by rw [e]; rfl)⟩
  obtain ⟨tx, htx, rx⟩ := hys2.at_ hx
  obtain ⟨ty, hty, ry⟩ := hys2.at_ hy
  rw [hcx] at htx
  rw [hcy] at hty
  obtain rfl := Option.some.inj htx
  obtain rfl := Option.some.inj hty
  exact ⟨_, by rw [List.length_set, List.length_set, hn]; exact o2, all2T_set (all2T_set hys2 rx _) ry _⟩
theorem set_mid {α : Type} {A B : List α} {x y : α} {k : Nat} (hk : A.length = k) : (A ++ x :: B).set k y = A ++ y :: B := by
  subst hk
  rw [List.set_append_right _ _ (Nat.le_refl _), Nat.sub_self, List.set_cons_zero]
theorem get_mid {α : Type} {A B : List α} {x : α} {k : Nat} (hk : A.length = k) : (A ++ x :: B)[k]? = some x := by
  subst hk
  simp
theorem set_two {α : Type} {A B C : List α} {x y : α} {i j : Nat} (hi : A.length = i) (hj : A.length + 1 + B.length = j) : ((A ++ x :: (B ++ y :: C)).set i y).set j x = A ++ y :: (B ++ x :: C) := by
  rw [set_mid hi]
  have e : A ++ y :: (B ++ y :: C) = (A ++ y :: B) ++ y :: C := by simp
  rw [e, set_mid (by simp; omega)]
  simp
theorem put55_only (w3 : World) (g o1 o2 : Nat) (a b c d e a' b' c' d' e' : Value) : Only (fun i => g = i) w3 (put5 (put5 w3 g o1 a b c d e) g o2 a' b' c' d' e') :=
  ((put5_only _ _ _ _ _ _ _ _).trans (put5_only _ _ _ _ _ _ _ _)).mono fun _ e => e.symm
set_option maxRecDepth 100000 in
set_option maxHeartbeats 1000000 in
theorem swapRange_any (base n g c a b m : Nat) (P X Y Z S : List Tbl) (w : World) (h : OwnTabs w base (.slice (some ⟨g, 0, none⟩) n c) (P ++ X ++ Y ++ Z ++ S)) (hn : (P ++ X ++ Y ++ Z ++ S).length = n) (ha : P.length = a) (hX : X.length = m) (hZ : Z.length = m) (hb : a + m + Y.length = b) (hbig : n ≤ 1073742848) :
    Calls Tryz.prog 298 #[.slice (some ⟨g, 0, none⟩) n c, .int .i64 a, .int .i64 b, .int .i64 m, lessTV] w fun r w' => r = .returned (.tuple #[]) ∧ OwnTabs w' base (.slice (some ⟨g, 0, none⟩) n c) (P ++ Z ++ Y ++ X ++ S) ∧ Only (fun i => g = i) w w' := by
  have H := Lib.hid h
  have HX := Lib.hid hX
  have HZ := Lib.hid hZ
  have HP := Lib.hid ha
  have HY := Lib.hid hb
  have hbm : b + m ≤ n := by simp at hn; omega
  have HBM := Lib.hid hbm
  clear h hX hZ ha hb hbm
  go_enter Tryz.func298, Tryz.ntmps298
  go_wp2
  go_loopw [10] (fun t wx => ∃ (k : Nat) (X1 X2 Z1 Z2 : List Tbl), k ≤ m ∧ t = .int .i64 k ∧ X = X1 ++ X2 ∧ Z = Z1 ++ Z2 ∧ X1.length = k ∧ Z1.length = k ∧ OwnTabs wx base (.slice (some ⟨g, 0, none⟩) n c) (P ++ (Z1 ++ X2) ++ Y ++ (X1 ++ Z2) ++ S) ∧ Only (fun i => g = i) w wx) (fun t _ => m - (intOf t).toNat)
  case atStart => exact ⟨0, [], X, [], Z, Nat.zero_le _, rfl, rfl, rfl, rfl, rfl, H.out, Only.refl _ _⟩
  case round =>
    obtain ⟨k, X1, X2, Z1, Z2, hkm, rfl, hX1, hZ1, hl1, hl2, how, hon⟩ := hrel
    have HON := Lib.hid hon
    have HOW := Lib.hid how
    have HX1 := Lib.hid hX1
    have HZ1 := Lib.hid hZ1
    have HL1 := Lib.hid hl1
    have HL2 := Lib.hid hl2
    clear hon how hX1 hZ1 hl1 hl2
    by_cases hlt : k < m
    · obtain ⟨x, X3, hx⟩ : ∃ x X3, X2 = x :: X3 := by
        cases X2 with
        | nil => have h1 := congrArg List.length HX1.out; have h2 := HX.out; have h3 := HL1.out; simp at h1; omega
        | cons x X3 => exact ⟨x, X3, rfl⟩
      obtain ⟨z, Z3, hz⟩ : ∃ z Z3, Z2 = z :: Z3 := by
        cases Z2 with
        | nil => have h1 := congrArg List.length HZ1.out; have h2 := HZ.out; have h3 := HL2.out; simp at h1; omega
        | cons z Z3 => exact ⟨z, Z3, rfl⟩
      subst hx hz
      obtain ⟨p, hp⟩ : ∃ p, a + k = p := ⟨_, rfl⟩
      obtain ⟨q, hq⟩ : ∃ q, b + k = q := ⟨_, rfl⟩
      have e1 : P ++ (Z1 ++ x :: X3) ++ Y ++ (X1 ++ z :: Z3) ++ S = (P ++ Z1) ++ x :: ((X3 ++ Y ++ X1) ++ z :: (Z3 ++ S)) := by simp
      have hlx : X3.length + k + 1 = m := by have h1 := congrArg List.length HX1.out; have h2 := HX.out; have h3 := HL1.out; simp at h1; omega
      have i1 : (P ++ Z1).length = p := by have h1 := HP.out; have h2 := HL2.out; simp; omega
      have i2 : (P ++ Z1).length + 1 + (X3 ++ Y ++ X1).length = q := by have h1 := HP.out; have h2 := HL2.out; have h3 := HL1.out; have h4 := HY.out; simp; omega
      obtain ⟨l2, hl2⟩ : ∃ l, P ++ (Z1 ++ x :: X3) ++ Y ++ (X1 ++ z :: Z3) ++ S = l := ⟨_, rfl⟩
      rw [hl2] at HOW e1
      have gx : l2[p]? = some x := by rw [e1]; exact get_mid i1
      have gz : l2[q]? = some z := by
        have e2 : l2 = ((P ++ Z1) ++ x :: (X3 ++ Y ++ X1)) ++ z :: (Z3 ++ S) := by rw [e1]; simp
        rw [e2]; exact get_mid (by rw [← i2]; simp; omega)
      have gs : (l2.set p z).set q x = P ++ (Z1 ++ [z] ++ X3) ++ Y ++ (X1 ++ [x] ++ Z3) ++ S := by
        rw [e1, set_two i1 i2]; simp
      have hqn : q < n := by have := HBM.out; omega
      have hpn : p < n := by have := HBM.out; have := HY.out; omega
      have hlen2 : l2.length = n := by
        have h1 := congrArg List.length HX1.out
        have h2 := congrArg List.length HZ1.out
        rw [← hn, ← hl2]
        simp at h1 h2 ⊢
        omega
      obtain ⟨css, hown, hys⟩ := HOW.out
      rw [hlen2] at hown
      obtain ⟨cx, hcx, a1, a2, rfl, ha1, ha2⟩ := hys.at_ gx
      obtain ⟨cy, hcy, b1, b2, rfl, hb1, hb2⟩ := hys.at_ gz
      obtain ⟨A1, c1, rfl⟩ := slice_form ha1
      obtain ⟨A2, c2, rfl⟩ := slice_form ha2
      obtain ⟨A3, c3, rfl⟩ := slice_form hb1
      obtain ⟨A4, c4, rfl⟩ := slice_form hb2
      have hall := tbT_len hys
      have x0 : wr.cell? ⟨g, p * 5, none⟩ = some (.int .i64 x.id) := ownT_cell hown (flat_at (j := 0) hall hcx rfl)
      have x1 : wr.cell? ⟨g, p * 5 + 1, none⟩ = some (.int .i64 x.level) := ownT_cell hown (flat_at (j := 1) hall hcx rfl)
      have x2 : wr.cell? ⟨g, p * 5 + 2, none⟩ = some (.int .i64 x.count) := ownT_cell hown (flat_at (j := 2) hall hcx rfl)
      have x3 : wr.cell? ⟨g, p * 5 + 3, none⟩ = some (.slice A1 x.lo.length c1) := ownT_cell hown (flat_at (j := 3) hall hcx rfl)
      have x4 : wr.cell? ⟨g, p * 5 + 4, none⟩ = some (.slice A2 x.hi.length c2) := ownT_cell hown (flat_at (j := 4) hall hcx rfl)
      have y0 : wr.cell? ⟨g, q * 5, none⟩ = some (.int .i64 z.id) := ownT_cell hown (flat_at (j := 0) hall hcy rfl)
      have y1 : wr.cell? ⟨g, q * 5 + 1, none⟩ = some (.int .i64 z.level) := ownT_cell hown (flat_at (j := 1) hall hcy rfl)
      have y2 : wr.cell? ⟨g, q * 5 + 2, none⟩ = some (.int .i64 z.count) := ownT_cell hown (flat_at (j := 2) hall hcy rfl)
      have y3 : wr.cell? ⟨g, q * 5 + 3, none⟩ = some (.slice A3 z.lo.length c3) := ownT_cell hown (flat_at (j := 3) hall hcy rfl)
      have y4 : wr.cell? ⟨g, q * 5 + 4, none⟩ = some (.slice A4 z.hi.length c4) := ownT_cell hown (flat_at (j := 4) hall hcy rfl)
      have p0 := hown.frozenAt (p * 5)
      have p1 := hown.frozenAt (p * 5 + 1)
      have p2 := hown.frozenAt (p * 5 + 2)
      have p3 := hown.frozenAt (p * 5 + 3)
      have p4 := hown.frozenAt (p * 5 + 4)
      have q0 := hown.frozenAt (q * 5)
      have q1 := hown.frozenAt (q * 5 + 1)
      have q2 := hown.frozenAt (q * 5 + 2)
      have q3 := hown.frozenAt (q * 5 + 3)
      have q4 := hown.frozenAt (q * 5 + 4)
      have HT := Lib.hid (tabs_swapG (i := p) (j := q) (x := z) (y := x) fr.refl hown hys hcy hcx gz gx hlen2)
      rw [gs] at HT
      have HLX := Lib.hid hlx
      clear hown hys hcx hcy ha1 ha2 hb1 hb2 hall gx gz gs e1 i1 i2 hlen2 hl2
      have hw1 : IntKind.i64.wrap ((a : Int) + (k : Int)) = (p : Int) := by rw [← hp]; simp [IntKind.wrap, IntKind.signed, IntKind.bits]; omega
      have hw2 : IntKind.i64.wrap ((b : Int) + (k : Int)) = (q : Int) := by rw [← hq]; simp [IntKind.wrap, IntKind.signed, IntKind.bits]; omega
      have hp1 : (p : Int) < (n : Int) := by omega
      have hq1 : (q : Int) < (n : Int) := by omega
      have hpq : p < q := by have := HLX.out; have := HY.out; omega
      have hne1 : ¬ p = q := by omega
      have hne2 : ¬ q = p := by omega
      go_upto_region 3 with (fail)
      go_region
      go_wp2_with (fail)
      have hO := (HON.out.trans (put55_only wr g (p * 5) (q * 5) (.int .i64 z.id) (.int .i64 z.level) (.int .i64 z.count) (.slice A3 z.lo.length c3) (.slice A4 z.hi.length c4) (.int .i64 x.id) (.int .i64 x.level) (.int .i64 x.count) (.slice A1 x.lo.length c1) (.slice A2 x.hi.length c2))).drew
      have hT := OwnRows.below tbFine HT.out (fr.drew fr.refl)
      refine ⟨⟨k + 1, X1 ++ [x], X3, Z1 ++ [z], Z3, by omega, by go_num, by rw [HX1.out]; simp, by rw [HZ1.out]; simp, by rw [List.length_append, HL1.out]; rfl, by rw [List.length_append, HL2.out]; rfl, hT, hO⟩, by simp [intOf]; omega⟩
    · obtain rfl : k = m := by omega
      have h1 : X2 = [] ∧ Z2 = [] := by
        have h1 := congrArg List.length HX1.out; have h2 := HX.out; have h3 := HL1.out
        have h4 := congrArg List.length HZ1.out; have h5 := HZ.out; have h6 := HL2.out
        simp at h1 h4
        exact ⟨List.eq_nil_of_length_eq_zero (by omega), List.eq_nil_of_length_eq_zero (by omega)⟩
      obtain ⟨rfl, rfl⟩ := h1
      have e1 := HX1.out
      have e2 := HZ1.out
      rw [List.append_nil] at e1 e2
      subst e1 e2
      have e3 := HOW.out
      rw [List.append_nil, List.append_nil] at e3
      have HE := Lib.hid e3
      clear e3
      go_wp2_with (fail)
      refine bodyPost_end (v := .tuple #[]) (by simp [results, Tryz.results298, go_sem]) rfl ?_
      exact ⟨rfl, HE.out, HON.out⟩
end Go.Proofs.YtjnolpfmchnnmaaGreatDoor
end
section
namespace Go.Proofs.YtjnolpfmchnnmaaGreatDoor
set_option maxRecDepth 100000
open Go.RowKit Go.BigFrame
attribute [local go_sem ↓] Go.wp_at_zero Go.wp_at_succ
set_option maxRecDepth 100000 in
set_option maxHeartbeats 1000000 in
theorem rotate_any (base n g c a m b : Nat) (P U V S : List Tbl) (w : World) (h : OwnTabs w base (.slice (some ⟨g, 0, none⟩) n c) (P ++ U ++ V ++ S)) (hn : (P ++ U ++ V ++ S).length = n) (ha : P.length = a) (hm : a + U.length = m) (hb : m + V.length = b) (hU : 0 < U.length) (hV : 0 < V.length) (hbig : n ≤ 1073742848) :
    Calls Tryz.prog 273 #[.slice (some ⟨g, 0, none⟩) n c, .int .i64 a, .int .i64 m, .int .i64 b, lessTV] w fun r w' => r = .returned (.tuple #[]) ∧ OwnTabs w' base (.slice (some ⟨g, 0, none⟩) n c) (P ++ V ++ U ++ S) ∧ Only (fun i => g = i) w w' := by
  obtain ⟨ul, hul⟩ : ∃ k, U.length = k := ⟨_, rfl⟩
  obtain ⟨vl, hvl⟩ : ∃ k, V.length = k := ⟨_, rfl⟩
  have hbn : b ≤ n := by simp at hn; omega
  have hi0 : IntKind.i64.wrap ((m : Int) - (a : Int)) = (ul : Int) := by rw [← hm, hul]; simp [IntKind.wrap, IntKind.signed, IntKind.bits]; omega
  have hj0 : IntKind.i64.wrap ((b : Int) - (m : Int)) = (vl : Int) := by rw [← hb, hvl]; simp [IntKind.wrap, IntKind.signed, IntKind.bits]; omega
  have H := Lib.hid h
  have HUL := Lib.hid hul
  have HVL := Lib.hid hvl
  have HM : Hid (P.length + ul = m) := Lib.hid (by rw [ha, ← hul]; exact hm)
  have HU : Hid (0 < ul) := Lib.hid (by rw [← hul]; exact hU)
  have HV : Hid (0 < vl) := Lib.hid (by rw [← hvl]; exact hV)
  have HN := Lib.hid hn
  clear h hul hvl hm ha hb hU hV hn
  go_enter Tryz.func273, Tryz.ntmps273
  go_wp2
  obtain ⟨T, hT⟩ : ∃ T, P ++ V ++ U ++ S = T := ⟨_, rfl⟩
  go_loopw [10, 11] (fun s t wx => ∃ (i j : Nat) (P' U' V' S' : List Tbl), s = .int .i64 i ∧ t = .int .i64 j ∧ 0 < i ∧ 0 < j ∧ P' ++ V' ++ U' ++ S' = T ∧ (P' ++ U' ++ V' ++ S').length = n ∧ U'.length = i ∧ V'.length = j ∧ P'.length + i = m ∧ OwnTabs wx base (.slice (some ⟨g, 0, none⟩) n c) (P' ++ U' ++ V' ++ S') ∧ Only (fun i => g = i) w wx) (fun s t _ => (intOf s).toNat + (intOf t).toNat)
  case atStart => exact ⟨ul, vl, P, U, V, S, rfl, rfl, HU.out, HV.out, hT, HN.out, HUL.out, HVL.out, HM.out, H.out, Only.refl _ _⟩
  case round =>
    obtain ⟨i, j, P', U', V', S', rfl, rfl, hi, hj, hT', hn', hu, hv, hm', how, hon⟩ := hrel
    have hjn : m + j ≤ n := by simp at hn'; omega
    obtain ⟨p, hp⟩ : ∃ p, P'.length = p := ⟨_, rfl⟩
    have hmi : IntKind.i64.wrap ((m : Int) - (i : Int)) = (p : Int) := by rw [← hm', hp]; simp [IntKind.wrap, IntKind.signed, IntKind.bits]; omega
    have HON := Lib.hid hon
    have HOW := Lib.hid how
    have HTT := Lib.hid hT'
    have HNN := Lib.hid hn'
    have HUU := Lib.hid hu
    have HVV := Lib.hid hv
    have HMM := Lib.hid hm'
    have HPP := Lib.hid hp
    clear hon how hT' hn' hu hv hm' hp
    have hin : i ≤ n := by have := HMM.out; omega
    rcases Nat.lt_trichotomy i j with hlt | rfl | hlt
    · obtain ⟨V1, V2, rfl, hv2⟩ : ∃ V1 V2, V' = V1 ++ V2 ∧ V2.length = i := ⟨V'.take (j - i), V'.drop (j - i), (List.take_append_drop _ _).symm, by rw [List.length_drop, HVV.out]; omega⟩
      have hv1 : V1.length = j - i := by have := HVV.out; simp at this; omega
      obtain ⟨q, hq⟩ : ∃ q, m + (j - i) = q := ⟨_, rfl⟩
      have hqi : (m : Int) + (j : Int) - (i : Int) = (q : Int) := by omega
      have h3 : ((i : Int) == (j : Int)) = false := by simp; omega
      have h4 : decide ((j : Int) < (i : Int)) = false := by simp; omega
      have HC := Lib.hid (swapRange_any base n g c p q i P' U' V1 V2 S' wr (by have := HOW.out; simpa using this) (by have := HNN.out; simpa using this) HPP.out HUU.out hv2 (by rw [← hq, hv1]; have := HMM.out; have := HPP.out; omega) hbig)
      have HV1 := Lib.hid hv1
      have HV2 := Lib.hid hv2
      clear hv1 hv2
      go_wp2_with (first | rw [hqi] | (go_at_call 298; refine HC.out.mono ?_; rintro r w2 ⟨rfl, ho2, hon2⟩))
      refine ⟨⟨i, j - i, P', V2, V1, U' ++ S', rfl, by go_num, hi, by omega, by rw [← HTT.out]; simp, ?_, HV2.out, HV1.out, HMM.out, ?_, HON.out.trans hon2⟩, by simp [intOf]; omega⟩
      · have := HNN.out; simp at this ⊢; omega
      · simpa using ho2
    · have h3 : ((i : Int) == (i : Int)) = true := by simp
      have HC := Lib.hid (swapRange_any base n g c p m i P' U' [] V' S' wr (by have := HOW.out; simpa using this) (by have := HNN.out; simpa using this) HPP.out HUU.out HVV.out (by have := HMM.out; have := HPP.out; simp; omega) hbig)
      go_wp2_with (go_at_call 298; refine HC.out.mono ?_; rintro r w2 ⟨rfl, ho2, hon2⟩)
      refine bodyPost_end (v := .tuple #[]) (by simp [results, Tryz.results273, go_sem]) rfl ?_
      exact ⟨rfl, by have h9 := HTT.out; rw [← hT] at h9; rw [hT, ← HTT.out]; simpa using ho2, HON.out.trans hon2⟩
    · obtain ⟨U1, U2, rfl, hu1⟩ : ∃ U1 U2, U' = U1 ++ U2 ∧ U1.length = j := ⟨U'.take j, U'.drop j, (List.take_append_drop _ _).symm, by rw [List.length_take, HUU.out]; omega⟩
      have hu2 : U2.length = i - j := by have := HUU.out; simp at this; omega
      have h3 : ((i : Int) == (j : Int)) = false := by simp; omega
      have h4 : decide ((j : Int) < (i : Int)) = true := by simp; omega
      have HC := Lib.hid (swapRange_any base n g c p m j P' U1 U2 V' S' wr (by have := HOW.out; simpa using this) (by have := HNN.out; simpa using this) HPP.out hu1 HVV.out (by rw [hu2]; have := HMM.out; have := HPP.out; omega) hbig)
      have HU1 := Lib.hid hu1
      have HU2 := Lib.hid hu2
      clear hu1 hu2
      go_wp2_with (go_at_call 298; refine HC.out.mono ?_; rintro r w2 ⟨rfl, ho2, hon2⟩)
      refine ⟨⟨i - j, j, P' ++ V', U2, U1, S', by go_num, rfl, by omega, hj, by rw [← HTT.out]; simp, ?_, HU2.out, HU1.out, ?_, ?_, HON.out.trans hon2⟩, by simp [intOf]; omega⟩
      · have := HNN.out; simp at this ⊢; omega
      · have := HMM.out; have := HVV.out; rw [List.length_append]; omega
      · simpa using ho2
end Go.Proofs.YtjnolpfmchnnmaaGreatDoor
end
