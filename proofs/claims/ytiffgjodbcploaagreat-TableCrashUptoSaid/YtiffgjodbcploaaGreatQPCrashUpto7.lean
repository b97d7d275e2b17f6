/-
Appends within a round: bytes onto a row of one's own; bytes onto a row that is full.
-/
import Derived.Test.YtiffgjodbcploaaGreatQPCrashUpto5
import Derived.Deep.Cut
import Derived.Deep.CutRange
import Derived.Deep.DeepCutAuto
import Derived.Shelf.Abstract
import Derived.Shelf.RegionOpen
import Derived.WalkKit
import Derived.OwnWalkIn
import Derived.TacticsInMore
import Derived.LoopNIn
import Derived.LoopIn
import Derived.IntWalk
import Derived.Deep.Onto
import Derived.Test.YtiffgjodbcploaaGreatQPCrashUpto0
import Derived.OrdersHeld
import Derived.OrdersIn
import Derived.Deep.RegionHeld3
import Derived.Test.YtiffgjodbcploaaGreatQPCrashUpto6
section
namespace Go.Proofs.YtiffgjodbcploaaGreat
set_option maxRecDepth 100000
open Go.RowKit Go.BigFrame
attribute [local go_sem ↓] Go.wp_at_zero Go.wp_at_succ
/-- three numbers written ahead of some bytes. -/
def nums3 (vs : List Nat) : List UInt8 := (vs.map formN).flatten
theorem nums3_at {vs : List Nat} {j a : Nat} (h : vs[j]? = some a) (tail : List UInt8) : (nums3 vs ++ tail).drop (nums3 (vs.take j)).length = formN a ++ (nums3 (vs.drop (j + 1)) ++ tail) := by
  obtain ⟨hj, he⟩ := List.getElem?_eq_some_iff.1 h
  have e : vs = vs.take j ++ a :: vs.drop (j + 1) := by
    conv => lhs; rw [← List.take_append_drop j vs]
    rw [List.drop_eq_getElem_cons hj, he]
  have e2 : nums3 vs = nums3 (vs.take j) ++ (formN a ++ nums3 (vs.drop (j + 1))) := by
    conv => lhs; rw [e]
    unfold nums3
    simp
  rw [e2, List.append_assoc, List.drop_left, List.append_assoc]
theorem nums3_snoc {vs : List Nat} {j a : Nat} (h : vs[j]? = some a) : nums3 (vs.take (j + 1)) = nums3 (vs.take j) ++ formN a := by
  unfold nums3
  rw [take_snoc h]
  simp
theorem Only.setNew {S : Nat → Prop} {a b : World} (h : Only S a b) {p : Addr} (hp : a.heap.size ≤ p.block) (u : Value) : Only S a (b.setCell p u) :=
  ⟨h.os, h.tape, h.output, by have := h.size; simp [World.setCell]; omega, fun i hi hS => (Below.heap_setCell b p u i (fun e => by omega)).trans (h.block i hi hS)⟩
set_option maxRecDepth 100000 in
set_option maxHeartbeats 4000000 in
theorem pairs_tells (nn : Nat) (w : World) (B Bw b o n c : Nat) (S0 : Nat → Prop) (ps : List Pr) (hK : PairsK w B Bw b o n c S0 (buildGo [] ps)) (hSw : ¬ S0 Bw) (hS0 : ∀ i, S0 i → i < w.heap.size) (hn : (buildGo [] ps).length = n) (hn40 : n ≤ 1099511627776) (hs : Short ps) (ha : Asc [] ps) (h4 : ps.length ≤ 4096) :
    Tells Fence.wide nn Tryz.prog 117 #[.pointer (some ⟨B, 0, none⟩), .pointer (some ⟨B + 1, 0, none⟩)] (fun x : Value × Pr => #[x.1]) (fun pre T x A => OkP w.heap.size T x A ∧ pre.length < ps.length)
      (fun xs W' => xs.map Prod.snd = ps ∧ Boxed W' Bw 30 (.int .i64 0)) (fun _ _ => True) (fun i => i < w.heap.size ∧ (i = B ∨ i = B + 1 ∨ i = Bw ∨ S0 i)) (fun i => i = Bw) w := by
  intro l J Jx T0 W hW hT0 hJ hJx hJT hY h0
  refine callsIn_wide.2 ?_
  have HJ := Lib.hid hJ
  have HJX := Lib.hid hJx
  have HJT := Lib.hid hJT
  have HY := Lib.hid hY
  have HSH := Lib.hid hs
  have HAS := Lib.hid ha
  have HN := Lib.hid hn
  have HT0 := Lib.hid hT0
  have HSW := Lib.hid hSw
  have HS0 := Lib.hid hS0
  have HWZ := Lib.hid hW.size
  have HB1 := Lib.hid (show B < w.heap.size ∧ B + 1 < w.heap.size ∧ Bw < w.heap.size from ⟨hK.b1.lt, hK.b2.lt, hK.b3.lt⟩)
  have HK0 := Lib.hid (hK.fr hW)
  have hcc : n ≤ c ∧ c ≤ 9223372036854775807 := by obtain ⟨A, ca, hE, h1, h2, _⟩ := hK.byt; injection hE with _ e2 e3; omega
  obtain ⟨bs, hbs⟩ : ∃ bs, buildGo [] ps = bs := ⟨_, rfl⟩
  rw [hbs] at HN HK0
  have HBS := Lib.hid hbs
  have HJ0 := Lib.hid h0
  clear hJ hJx hJT hY hs ha hn hT0 hSw hS0 hW hK hbs h0
  go_enter Tryz.func117, Tryz.ntmps117
  go_wp2
  go_loopw [4, 5, 6] (fun y x m wr => ∃ (pre : List (Value × Pr)) (T : Nat → Prop) (ah : List UInt8) (rs : List Pr) (k : Nat), x = .int .i64 k ∧ m = .int .i64 pre.length ∧ Byt wr (fun i => ¬ i = Bw ∧ ¬ T i) y ah ∧ k ≤ n ∧ bs.drop k = buildGo ah rs ∧ Asc ah rs ∧ pre.map Prod.snd ++ rs = ps ∧ PairsK wr B Bw b o n c S0 bs ∧
    (∀ i, T i → ¬ (i < w.heap.size ∧ (i = B ∨ i = B + 1 ∨ i = Bw ∨ S0 i))) ∧ W.heap.size ≤ wr.heap.size ∧ J pre T wr) (fun _ x _ _ => n - (intOf x).toNat)
  case atStart => exact ⟨[], T0, [], ps, 0, rfl, rfl, Byt.nil _ _, Nat.zero_le _, HBS.out.symm, HAS.out, rfl, HK0.out, HT0.out, Nat.le_refl _, HJ0.out⟩
  case round =>
    clear HJ0 HT0 HK0 HAS
    obtain ⟨pre, T, ah, rs, k, rfl, rfl, hah, hk, hdr, hasc, hps, hK, hT, hz, hj⟩ := hrel
    have HK := Lib.hid hK
    have HT := Lib.hid hT
    have HZ := Lib.hid hz
    have HJR := Lib.hid hj
    have HPS := Lib.hid hps
    have c1 := hK.b1.cell
    have c2 := hK.b2.cell
    have c3 := hK.b3.cell
    have z3 := hK.b3.frozen
    obtain ⟨w0, hw0⟩ : ∃ x, x = wr := ⟨_, rfl⟩
    subst hw0
    obtain ⟨m, hm⟩ : ∃ m, pre.length = m := ⟨_, rfl⟩
    rw [hm]
    have HM := Lib.hid hm
    clear hK hT hz hj hps hm
    cases rs with
    | nil =>
      have hkn : k = n := by
        have := congrArg List.length hdr
        rw [List.length_drop, HN.out] at this
        simp only [buildGo, List.length_nil] at this
        omega
      subst hkn
      clear hdr hasc hah
      go_wp2
      go_end0
      exact ⟨⟨_, rfl⟩, .inl ⟨pre, T, ⟨by simpa using HPS.out, HK.out.b3⟩, HJR.out⟩⟩
    | cons p rs =>
      obtain ⟨hlt, hasc2⟩ := hasc
      have hpm : p ∈ ps := by rw [← HPS.out]; simp
      obtain ⟨hs1, hs2⟩ := HSH.out p hpm
      have hsl := shared_lt hlt
      have hsa := shared_le (a := ah) (b := p.key)
      have hkey := key_of_shared (a := ah) (b := p.key)
      obtain ⟨nk, hnk⟩ : ∃ q, p.key.length = q := ⟨_, rfl⟩
      obtain ⟨nu, hnu⟩ : ∃ q, p.val.length = q := ⟨_, rfl⟩
      obtain ⟨sh, hsh⟩ : ∃ q, sharedN ah p.key = q := ⟨_, rfl⟩
      obtain ⟨dk, hdk⟩ : ∃ q, nk - sh = q := ⟨_, rfl⟩
      rw [hnk] at hs1 hsl
      rw [hnu] at hs2
      rw [hsh] at hsl hsa hkey
      obtain ⟨na, hna⟩ : ∃ q, ah.length = q := ⟨_, rfl⟩
      rw [hna] at hsa
      obtain ⟨vs, hvs⟩ : ∃ vs, [sh, dk, nu] = vs := ⟨_, rfl⟩
      have hdr2 : bs.drop k = nums3 vs ++ (p.key.drop sh ++ (p.val ++ buildGo p.key rs)) := by
        have e : buildGo ah (p :: rs) = oneP ah p ++ buildGo p.key rs := rfl
        rw [hdr, e, ← hvs]
        unfold oneP nums3
        rw [hnk, hnu, hsh, hdk]
        simp [List.append_assoc]
      have hkn : k < n := by
        have := congrArg List.length hdr
        rw [List.length_drop, HN.out] at this
        unfold buildGo at this
        rw [List.length_append] at this
        have := oneP_pos ah p
        omega
      have HDR := Lib.hid hdr2
      have HVS := Lib.hid hvs
      have HAH := Lib.hid hah
      have HNA := Lib.hid hna
      have HNK := Lib.hid hnk
      have HNU := Lib.hid hnu
      have HSHN := Lib.hid hsh
      have HDK := Lib.hid hdk
      have HLT := Lib.hid hlt
      have HASC := Lib.hid hasc2
      have HKEY := Lib.hid hkey
      have hvb : ∀ (j a : Nat), vs[j]? = some a → a < 1099511627776 := fun j a h => by
        have := List.mem_of_getElem? h
        rw [← hvs] at this
        simp at this
        omega
      have HVB := Lib.hid hvb
      have P0 : (w0.alloc (.cells #[.int .u64 0, .int .u64 0, .int .u64 0] 177)).heap[w0.heap.size]? = some (.cells #[.int .u64 0, .int .u64 0, .int .u64 0] 177 (0, 0)) := heap_alloc_new w0 _
      have F0 : fr w0 (w0.alloc (.cells #[.int .u64 0, .int .u64 0, .int .u64 0] 177)) := fr.alloc fr.refl _
      clear hah hdr hdr2 hvs hna hnk hnu hsh hdk hlt hasc2 hkey hvb hpm
      go_wp2
      generalize w0.alloc (.cells #[.int .u64 0, .int .u64 0, .int .u64 0] 177) = w1 at P0 F0 ⊢
      have HP0 := Lib.hid P0
      have HF0 := Lib.hid F0
      clear P0 F0 c1 c2 c3 z3
      obtain ⟨I, hI⟩ : ∃ I, w0.heap.size = I := ⟨_, rfl⟩
      rw [hI] at HP0 ⊢
      have HI := Lib.hid hI
      clear hI
      go_loopw [5, 19] (fun x t wx => ∃ (j : Nat) (arr : Array Value) (q : Nat), j ≤ 3 ∧ t = .int .i64 j ∧ x = .int .i64 q ∧ q = k + (nums3 (vs.take j)).length ∧ wx.heap[I]? = some (.cells arr 177 (0, 0)) ∧ arr.size = 3 ∧ (∀ i a : Nat, i < j → vs[i]? = some a → arr[i]? = some (.int .u64 a)) ∧ PairsK wx B Bw b o n c S0 bs ∧ Only (fun i => i = Bw) w0 wx) (fun _ t _ => 3 - (intOf t).toNat)
      case atStart => exact ⟨0, _, k, by omega, rfl, rfl, rfl, HP0.out, rfl, fun i a h => absurd h (by omega), HK.out.fr HF0.out, Only.of_below HF0.out⟩
      case round =>
        obtain ⟨j, arr, q, hj, rfl, rfl, hq, hp, harr, hcs, hKx, hox⟩ := hrel
        have HQ := Lib.hid hq
        have HP := Lib.hid hp
        have HARR := Lib.hid harr
        have HCS := Lib.hid hcs
        have HKX := Lib.hid hKx
        have HOX := Lib.hid hox
        have c1 := hKx.b1.cell
        have c2 := hKx.b2.cell
        have c3 := hKx.b3.cell
        have z3 := hKx.b3.frozen
        obtain ⟨w2, hw2⟩ : ∃ x, x = wr := ⟨_, rfl⟩
        subst hw2
        clear hq hcs hKx hox
        by_cases hj3 : j < 3
        · obtain ⟨a, haj⟩ : ∃ a, vs[j]? = some a := ⟨_, List.getElem?_eq_getElem (by rw [← HVS.out]; exact hj3)⟩
          have hab := HVB.out j a haj
          obtain ⟨old, hold⟩ : ∃ o, arr[j]? = some o := ⟨_, Array.getElem?_eq_getElem (by omega)⟩
          have hcell : w2.cell? ⟨I, j, none⟩ = some old := (cell_of_row w2 _ j _ _ _ hp).trans hold
          have hfz := frozen_of_row w2 _ j _ _ hp
          have hdq : bs.drop q = formN a ++ (nums3 (vs.drop (j + 1)) ++ (p.key.drop sh ++ (p.val ++ buildGo p.key rs))) := by
            rw [HQ.out, ← List.drop_drop, HDR.out, nums3_at haj]
          have hqn : q ≤ n := by
            have := congrArg List.length hdq
            rw [List.length_drop, HN.out, List.length_append] at this
            have := (formN_len a).1
            omega
          obtain ⟨fa, hfa⟩ : ∃ x, (formN a).length = x := ⟨_, rfl⟩
          have HFA := Lib.hid hfa
          have HU := Lib.hid (fun (wy : World) (hy : PairsK wy B Bw b o n c S0 bs) => uint_any S0 b o n c q a bs _ wy hy.byt HN.out hqn hdq (by omega))
          obtain ⟨q2, hq2⟩ : ∃ x, q + fa = x := ⟨_, rfl⟩
          rw [hfa, hq2] at HU
          have HQ2 := Lib.hid hq2
          have hKd : PairsK w2.drew B Bw b o n c S0 bs := HKX.out.fr (fr.drew fr.refl)
          have HKD := Lib.hid hKd
          have hIn : ¬ (I = B ∨ I = B + 1 ∨ I = Bw ∨ S0 I) := by
            have h1 := HB1.out
            have h2 := HI.out
            have h3 := HZ.out
            have h4 := HWZ.out
            rintro (h | h | h | h)
            · omega
            · omega
            · omega
            · have := HS0.out _ h
              omega
          have hK1 : PairsK (w2.setCell ⟨I, j, none⟩ (.int .u64 a)).drew B Bw b o n c S0 bs := hKd.set hIn _ _
          have hK2 : PairsK ((w2.setCell ⟨I, j, none⟩ (.int .u64 a)).setCell ⟨Bw, 0, none⟩ (.int .i64 0)).drew B Bw b o n c S0 bs := hK1.why HSW.out
          have k0 := Lib.hid (And.intro hKd.b1.cell hKd.b2.cell)
          have k1 := Lib.hid (And.intro hK1.b1.cell hK1.b2.cell)
          have k2 := Lib.hid (And.intro hK2.b1.cell hK2.b2.cell)
          have HAJ := Lib.hid haj
          have HIN := Lib.hid hIn
          have hne : ¬ I = Bw := fun e => hIn (.inr (.inr (.inl e)))
          have hne2 : ¬ Bw = I := fun e => hne e.symm
          have HK2 := Lib.hid hK2
          clear hp harr hold hdq haj hfa hIn hK2 hK1 hKd hq2
          go_wp2
          go_region_held3 (fun w' => w'.cell? ⟨B, 0, none⟩ = some (.slice (some ⟨b, o, none⟩) n c) ∧ w'.cell? ⟨B + 1, 0, none⟩ = some (.pointer (some ⟨Bw, 0, none⟩)))
            (first | with_reducible exact k0.out | with_reducible exact k1.out | with_reducible exact k2.out)
            (first | (go_split_ands; go_at_call 69; (with_reducible (refine Calls.mono (HU.out _ ?_) ?_)); (focus (with_reducible exact HKD.out)); rintro r w3 ⟨rfl, rfl⟩))
          all_goals
            have hz4 := HK2.out.b3.cell
            go_wp2
            have hp5 : ((w2.setCell ⟨I, j, none⟩ (.int .u64 a)).setCell ⟨Bw, 0, none⟩ (.int .i64 0)).heap[I]? = some (.cells (arr.setIfInBounds j (.int .u64 a)) 177 (0, 0)) := (heap_setCell_other _ ⟨Bw, 0, none⟩ I _ (fun e => HIN.out (.inr (.inr (.inl e))))).trans (heap_setCell_same w2 I j arr _ _ HP.out)
            refine ⟨⟨j + 1, _, q2, by omega, by go_num, by first | rfl | go_num, ?_, hp5, by rw [Array.size_setIfInBounds]; exact HARR.out, ?_, HK2.out, ?_⟩, by simp [intOf]; omega⟩
            · rw [nums3_snoc HAJ.out, List.length_append, HFA.out, ← HQ2.out, HQ.out]
              omega
            · intro i x hi hx
              by_cases hij : i = j
              · subst hij
                rw [HAJ.out] at hx
                injection hx with hx
                subst hx
                rw [Array.getElem?_setIfInBounds_self, if_pos (by rw [HARR.out]; exact hj3)]
              · rw [Array.getElem?_setIfInBounds_ne (fun e => hij e.symm)]
                exact HCS.out i x (by omega) hx
            · exact Only.drew (Only.setCell (S := fun i => i = Bw) (Only.setNew HOX.out (p := ⟨I, j, none⟩) (by rw [← HI.out]; exact Nat.le_refl _) _) (p := ⟨Bw, 0, none⟩) rfl _)
        · obtain rfl : j = 3 := by omega
          have e0 := HCS.out 0 sh (by omega) (by rw [← HVS.out]; rfl)
          have e1 := HCS.out 1 dk (by omega) (by rw [← HVS.out]; rfl)
          have e2 := HCS.out 2 nu (by omega) (by rw [← HVS.out]; rfl)
          have d0 := (cell_of_row w2 _ 0 _ _ _ hp).trans e0
          have d1 := (cell_of_row w2 _ 1 _ _ _ hp).trans e1
          have d2 := (cell_of_row w2 _ 2 _ _ _ hp).trans e2
          have hqe : q = k + (nums3 vs).length := by rw [HQ.out, List.take_of_length_le (by rw [← HVS.out]; simp)]
          have hdq : bs.drop q = p.key.drop sh ++ (p.val ++ buildGo p.key rs) := by rw [hqe, ← List.drop_drop, HDR.out, List.drop_left]
          have hdl : (p.key.drop sh).length = dk := by rw [List.length_drop, HNK.out, HDK.out]
          have hlen : n - q = dk + nu + (buildGo p.key rs).length := by
            have := congrArg List.length hdq
            rw [List.length_drop, HN.out, List.length_append, List.length_append, hdl, HNU.out] at this
            omega
          have hdk := HDK.out
          have hqn : q + dk + nu ≤ n := by omega
          have hdk0 : 0 < dk := by omega
          clear hlen hqe
          have HDQ := Lib.hid hdq
          have HDL := Lib.hid hdl
          have HP3 := Lib.hid hp
          obtain ⟨Ay, cy, rfl⟩ := slice_form HAH.out
          rw [HNA.out]
          have hcy : na ≤ cy ∧ cy ≤ 9223372036854775807 := by obtain ⟨A, ca, hE, h1, h2, _⟩ := HAH.out; simp only [Value.slice.injEq] at hE; obtain ⟨_, _, e3⟩ := hE; rw [HNA.out] at h1; omega
          have hnal : na ≤ 140737488355328 := by have := HAH.out.len; rw [HNA.out] at this; exact this
          have g1 : (na : Int) % 18446744073709551616 = (na : Int) := by omega
          have g2 : ¬ ((na : Int) < (sh : Int)) := by omega
          have g3 : ¬ ((200 : Int) < (dk : Int)) := by omega
          have g4 : ((sh : Int) + (dk : Int)) % 18446744073709551616 = (sh : Int) + (dk : Int) := by omega
          have g5 : ¬ ((200 : Int) < (sh : Int) + (dk : Int)) := by omega
          have g6 : ¬ ((4096 : Int) < (nu : Int)) := by omega
          have g7 : ((dk : Int) + (nu : Int)) % 18446744073709551616 = (dk : Int) + (nu : Int) := by omega
          have g8 : ((n : Int) - (q : Int)) % 18446744073709551616 = (n : Int) - (q : Int) := by omega
          have g9 : ¬ ((n : Int) - (q : Int) < (dk : Int) + (nu : Int)) := by omega
          clear hdq hdl e0 e1 e2 hp hdk
          go_upto_region 11 with (fail)
          go_quiet (fail)
          have e3 : (w2.drewN nq).cell? ⟨Bw, 0, none⟩ = some (.int .i64 0) := c3
          go_upto_region 19 with (fail)
          have hqc : ¬ c = q := by omega
          have hcq : ((c : Int) - (q : Int)) = ((c - q : Nat) : Int) := by omega
          obtain ⟨cq, hcqe⟩ : ∃ x, c - q = x := ⟨_, rfl⟩
          have hW0 : Only (fun i => i = Bw) w0 w2 := HOX.out
          have hfa : Byt w2 (fun i => ¬ i = Bw ∧ ¬ T i) (.slice Ay sh cy) (ah.take sh) := by
            have h1 := HAH.out
            rw [HNA.out] at h1
            exact Byt.front (Byt.only h1 hW0 (fun i _ hi e => hi.1 e)) hsa
          have hfb : Byt w2 S0 (.slice (some ⟨b, o + q, none⟩) dk cq) (p.key.drop sh) := by
            have := Byt.cut HKX.out.byt (f := q) (m := dk) (c' := cq) (by omega) (by omega) (by omega)
            rw [HDQ.out, List.take_left' HDL.out] at this
            exact this
          have hfl : [ah.take sh, p.key.drop sh].flatten = p.key := by simp only [List.flatten_cons, List.flatten_nil, List.append_nil]; exact HKEY.out
          have HC : Hid (Calls Tryz.prog 84 #[.slice (some ⟨w2.heap.size, 0, none⟩) 2 2] ((w2.drewN (nq + 1)).alloc (.cells #[.slice Ay sh cy, .slice (some ⟨b, o + q, none⟩) dk cq] 42)) fun r w' => ∃ A ck, r = .returned (.slice A nk ck) ∧ OwnF w' w2.heap.size (.slice A nk ck) p.key ∧ fr w2 w') := Lib.hid (by
            have hx : fr w2 (w2.drewN (nq + 1)) := ⟨rfl, rfl, rfl, Nat.le_refl _, fun _ _ => rfl⟩
            refine (concat_any _ _ _ _ (BytsV.two (hfa.below hx) (hfb.below hx)) (by rw [hfl, HNK.out]; omega)).mono ?_
            rintro r w' ⟨A, ck, hr, ho, hf⟩
            rw [hfl, HNK.out] at hr ho
            exact ⟨A, ck, hr, ho.mono (fun i hi => by rw [World.size_alloc] at hi; exact Nat.le_of_succ_le hi), fr.step (fr.alloc hx _) hf⟩)
          have kk1 := Lib.hid ((fr.alloc (show fr w2 (w2.drewN (nq + 1)) from ⟨rfl, rfl, rfl, Nat.le_refl _, fun _ _ => rfl⟩) (.cells #[.slice Ay sh cy, .slice (some ⟨b, o + q, none⟩) dk cq] 42)).cell c1)
          clear hfa hfb hfl hW0
          have i1 : (0 : Int) ≤ (sh : Int) := by omega
          have i2 : (sh : Int) ≤ (na : Int) := by omega
          have i3 : (sh : Int) ≤ (cy : Int) := by omega
          have i4 : IntKind.i64.wrap (dk : Int) = (dk : Int) := IntWalk.i64_in _ (by omega)
          have i5 : IntKind.i64.wrap ((q : Int) + (dk : Int)) = (q : Int) + (dk : Int) := IntWalk.i64_in _ (by omega)
          have i6 : (0 : Int) ≤ (q : Int) := by omega
          have i7 : (q : Int) ≤ (q : Int) + (dk : Int) := by omega
          have i8 : (q : Int) + (dk : Int) ≤ (c : Int) := by omega
          have i9 : ((q : Int) + (dk : Int) - (q : Int)) = (dk : Int) := by omega
          have i10 : ((q : Int) + (dk : Int)).toNat = q + dk := by omega
          have i11 : q + dk - q = dk := by omega
          have kk0 : (w2.drewN nq).drew.cell? ⟨B, 0, none⟩ = some (.slice (some ⟨b, o, none⟩) n c) := c1
          go_region_held3 (fun w' => w'.cell? ⟨B, 0, none⟩ = some (.slice (some ⟨b, o, none⟩) n c))
            (first | with_reducible exact kk0 | with_reducible exact kk1.out | with_reducible exact f3.cell c1)
            (first | (go_split_ands; go_at_call 84; (with_reducible (refine Calls.mono HC.out ?_)); rintro r w3 ⟨Ak, ck, rfl, ho3, f3⟩))
          have HF3 := Lib.hid f3
          have HO3 := Lib.hid ho3
          have HK3 := Lib.hid (HKX.out.fr f3)
          have HA3 : Hid (Byt w3 (fun i => ¬ i = Bw ∧ ¬ T i) (.slice Ay na cy) ah) := Lib.hid (by
            have h1 := HAH.out
            rw [HNA.out] at h1
            exact (Byt.only h1 HOX.out (fun i _ hi e => hi.1 e)).below f3)
          have hlt := HLT.out
          obtain ⟨zz, hzz⟩ : ∃ z, cmpB ah p.key = z := ⟨_, rfl⟩
          have HCM := Lib.hid (bcompare_any _ _ _ _ ah p.key w3 HA3.out HO3.out.byt)
          have HCS2 := Lib.hid (shared_any _ _ _ _ ah p.key w3 HA3.out HO3.out.byt)
          rw [hzz] at HCM hlt
          rw [HSHN.out] at HCS2
          have hz0 : ¬ (0 : Int) ≤ zz := by omega
          have hmN : pre.length < ps.length := by rw [← HPS.out]; simp
          have hm4 : ((m : Int) == 4096) = false := by have := HM.out; simp; omega
          obtain ⟨q3, hq3⟩ : ∃ x, q + dk = x := ⟨_, rfl⟩
          have i12 : (q : Int) + (dk : Int) = (q3 : Int) := by omega
          have i13 : IntKind.i64.wrap (q3 : Int) = (q3 : Int) := IntWalk.i64_in _ (by omega)
          have c3' := HK3.out.b3.cell
          have i14 : IntKind.i64.wrap (sh : Int) = (sh : Int) := IntWalk.i64_in _ (by omega)
          clear f3 ho3 hzz c1 c2 c3 z3 d0 d1 d2 kk0 kk1 e3
          go_upto_region 25 with (first
            | (go_at_call 60; refine HCM.out.mono ?_; rintro r w4 ⟨rfl, rfl⟩)
            | (go_at_call 61; refine HCS2.out.mono ?_; rintro r w4 ⟨rfl, f4⟩))
          have HF4 := Lib.hid f4
          have HK4 := Lib.hid (HK3.out.fr f4)
          have c1 := HK4.out.b1.cell
          have HQ3 := Lib.hid hq3
          have hq3n : q3 + nu ≤ n := by omega
          have j1 : IntKind.i64.wrap (nu : Int) = (nu : Int) := IntWalk.i64_in _ (by omega)
          have j2 : IntKind.i64.wrap ((q3 : Int) + (nu : Int)) = (q3 : Int) + (nu : Int) := IntWalk.i64_in _ (by omega)
          have j3 : (q3 : Int) ≤ (q3 : Int) + (nu : Int) := by omega
          have j4 : (q3 : Int) + (nu : Int) ≤ (c : Int) := by omega
          have j5 : ((q3 : Int) + (nu : Int) - (q3 : Int)) = (nu : Int) := by omega
          have j6 : ((q3 : Int) + (nu : Int)).toNat = q3 + nu := by omega
          have j7 : q3 + nu - q3 = nu := by omega
          have hdv : (bs.drop q3).take nu = p.val := by rw [HQ3.out.symm, ← List.drop_drop, HDQ.out, List.drop_left' HDL.out, List.take_left' HNU.out]
          have h0T : ∀ i, T i → i < w0.heap.size := fun i hi => HJT.out pre T w0 i HJR.out hi
          have hz02 := HOX.out.size
          have hz23 := Below.size HF3.out
          have hz34 := Below.size HF4.out
          have hlo : w.heap.size ≤ w0.heap.size := Nat.le_trans HWZ.out HZ.out
          have hJ5 : ∀ w5, fr w4 w5 → J pre T w5 := fun w5 f5 => HJ.out pre T w0 w5 HJR.out (Idle.of_only (Only.trans HOX.out (Only.of_below (fr.step (fr.step HF3.out HF4.out) f5))))
          have hokp : ∀ w5 vv, fr w4 w5 → BytL w5 w4.heap.size vv p.val → OkP w.heap.size T (.agg #[.slice Ak nk ck, vv], p) w5 := fun w5 vv f5 hvv => by
            refine ⟨_, _, rfl, ?_, ?_⟩
            · refine Byt.mono (S := fun i => w2.heap.size ≤ i ∧ Loose w5 i) (HO3.out.below (fr.step HF4.out f5)).byt fun i hi => ⟨⟨by omega, fun h => by have := h0T i h; omega⟩, hi.2⟩
            · refine Byt.mono (S := fun i => w4.heap.size ≤ i ∧ Loose w5 i) hvv fun i hi => ⟨⟨by omega, fun h => by have := h0T i h; omega⟩, hi.2⟩
          have HJ5 := Lib.hid hJ5
          have HOKP := Lib.hid hokp
          have H0T := Lib.hid h0T
          have HMN := Lib.hid hmN
          clear hJ5 hokp h0T hmN
          have hkq : k ≤ q := by have := HQ.out; omega
          have hk3 : k < q3 := by omega
          have hm5 : m < 4096 := by have := HM.out; have := HMN.out; omega
          have HFIN : Hid (∀ (x : Value × Pr) (w5 w6 : World) (T' : Nat → Prop), x.2 = p → fr w4 w5 → Grew w5.heap.size T T' → Only T w5 w6 → J (pre ++ [x]) T' w6 →
              ∃ (pre : List (Value × Pr)) (T : Nat → Prop) (ah : List UInt8) (rs : List Pr) (k : Nat), Value.int .i64 ((q3 : Int) + (nu : Int)) = .int .i64 k ∧ Value.int .i64 ((m : Int) + 1) = .int .i64 pre.length ∧ Byt w6 (fun i => ¬ i = Bw ∧ ¬ T i) (.slice Ak nk ck) ah ∧ k ≤ n ∧ bs.drop k = buildGo ah rs ∧ Asc ah rs ∧ pre.map Prod.snd ++ rs = ps ∧ PairsK w6 B Bw b o n c S0 bs ∧
                (∀ i, T i → ¬ (i < w.heap.size ∧ (i = B ∨ i = B + 1 ∨ i = Bw ∨ S0 i))) ∧ W.heap.size ≤ w6.heap.size ∧ J pre T w6) := Lib.hid fun x w5 w6 T' hx f5 g5 o5 hj6 => by
            have hb5 := f5.size
            have hb6 := o5.size
            refine ⟨_, T', p.key, rs, q3 + nu, by simp, by rw [List.length_append, HM.out]; rfl, ?_, by omega, ?_, HASC.out, ?_, ?_, ?_, ?_, hj6⟩
            · have h1 : Byt w5 (fun i => w2.heap.size ≤ i ∧ i < w5.heap.size) (.slice Ak nk ck) p.key := Byt.mono (S := fun i => w2.heap.size ≤ i ∧ Loose w5 i) (HO3.out.below (fr.step HF4.out f5)).byt fun i hi => ⟨hi.1, hi.2.lt⟩
              refine (Byt.only h1 o5 (fun i _ hi h => by have := H0T.out i h; omega)).mono fun i hi => ⟨fun e => by have := HB1.out; omega, fun h => ?_⟩
              rcases g5 i h with h | h
              · have := H0T.out i h; omega
              · omega
            · rw [← List.drop_drop, HQ3.out.symm, ← List.drop_drop, HDQ.out, List.drop_left' HDL.out, List.drop_left' HNU.out]
            · rw [← HPS.out, List.map_append, List.append_assoc, List.map_singleton, hx]; rfl
            · exact (HK4.out.fr f5).only o5 fun i h h' => HT.out i h ⟨by rcases h' with h' | h' | h' | h' <;> (have := HB1.out; first | omega | exact HS0.out i h'), h'⟩
            · intro i h h'
              rcases g5 i h with h | h
              · exact HT.out i h h'
              · omega
            · have := HZ.out; omega
          by_cases hcq3 : c = q3
          · obtain rfl : nu = 0 := by omega
            have HCL : Hid (Byt w4 S0 (.slice (some ⟨b, o, none⟩) 0 0) p.val) := Lib.hid (by
              have e : p.val = [] := List.eq_nil_of_length_eq_zero HNU.out
              rw [e]
              exact Byt.zero _ _ (by omega))
            clear hdv hq3 g1 g2 g3 g4 g5 g6 g7 g8 g9 i1 i2 i3 i4 i5 i6 i7 i8 i9 i10 i11 i12 i13 i14 hz0 hm4 hlt hz02 hz23 hz34 hlo c3' hnal hs1 hs2 hsl hsa hkn hk harr hj hdk0 hqc hn40 h4
            refine (wpIn_wide (n := nn)).1 ?_
            gi_wp2_with (refine ⟨trivial, fun h => absurd h (by decide), ?_⟩; gi_at_call 39; refine (callsIn_wide.2 (bcloneL_any _ _ p.val w4 HCL.out)).mono ?_; rintro r w5 ⟨vv, rfl, hvv, f5⟩; obtain ⟨Av, cv, rfl⟩ := slice_form hvv; rw [HNU.out] at hvv ⊢; obtain ⟨fn, tmps, assign, body, hy, hR⟩ := HY.out pre T (.agg #[.slice Ak nk ck, .slice Av 0 cv], p) w5 (HJ5.out w5 f5) ⟨HOKP.out w5 _ f5 hvv, HMN.out⟩; dsimp only at hy)
            refine ⟨fun h => absurd h (by decide), hR.mono ?_⟩
            rintro e w6 ⟨T', gT, oT, (⟨rfl, hj6⟩ | ⟨rfl, hj6⟩)⟩
            · have HFI := Lib.hid (HFIN.out _ w5 w6 T' rfl f5 gT oT hj6)
              clear hy hR
              gi_wp2
              go_wp2
              refine ⟨by simpa using HFI.out, by simp [intOf]; omega⟩
            · have HJX6 := Lib.hid hj6
              clear hy hR hj6
              gi_wp2
              go_wp2
              refine bodyPost_ret (results_none rfl _ _ _) rfl ?_
              exact ⟨⟨_, rfl⟩, .inr ⟨_, T', trivial, HJX6.out⟩⟩
          · have HCL : Hid (Byt w4 S0 (.slice (some ⟨b, o + q3, none⟩) nu (c - q3)) p.val) := Lib.hid (by
              have := Byt.cut HK4.out.byt (f := q3) (m := nu) (c' := c - q3) (by omega) (by omega) (by omega)
              rw [hdv] at this
              exact this)
            clear hdv hq3 g1 g2 g3 g4 g5 g6 g7 g8 g9 i1 i2 i3 i4 i5 i6 i7 i8 i9 i10 i11 i12 i13 i14 hz0 hm4 hlt hz02 hz23 hz34 hlo c3' hnal hs1 hs2 hsl hsa hkn hk harr hj hdk0 hqc hn40 h4
            refine (wpIn_wide (n := nn)).1 ?_
            gi_wp2_with (refine ⟨trivial, fun h => absurd h (by decide), ?_⟩; gi_at_call 39; refine (callsIn_wide.2 (bcloneL_any _ _ p.val w4 HCL.out)).mono ?_; rintro r w5 ⟨vv, rfl, hvv, f5⟩; obtain ⟨Av, cv, rfl⟩ := slice_form hvv; rw [HNU.out] at hvv ⊢; obtain ⟨fn, tmps, assign, body, hy, hR⟩ := HY.out pre T (.agg #[.slice Ak nk ck, .slice Av nu cv], p) w5 (HJ5.out w5 f5) ⟨HOKP.out w5 _ f5 hvv, HMN.out⟩; dsimp only at hy)
            refine ⟨fun h => absurd h (by decide), hR.mono ?_⟩
            rintro e w6 ⟨T', gT, oT, (⟨rfl, hj6⟩ | ⟨rfl, hj6⟩)⟩
            · have HFI := Lib.hid (HFIN.out _ w5 w6 T' rfl f5 gT oT hj6)
              clear hy hR
              gi_wp2
              go_wp2
              refine ⟨HFI.out, by simp [intOf]; omega⟩
            · have HJX6 := Lib.hid hj6
              clear hy hR hj6
              gi_wp2
              go_wp2
              refine bodyPost_ret (results_none rfl _ _ _) rfl ?_
              exact ⟨⟨_, rfl⟩, .inr ⟨_, T', trivial, HJX6.out⟩⟩
end Go.Proofs.YtiffgjodbcploaaGreat
end
section
namespace Go.Proofs.YtiffgjodbcploaaGreat
set_option maxRecDepth 100000
open Go.RowKit Go.BigFrame Go.Shelf
attribute [local go_sem ↓] Go.wp_at_zero Go.wp_at_succ
attribute [local go_sem] Oper.semAt_some
/-- what the rounds have gathered. -/
def CollP (n₀ lo : Nat) (Z : Nat → Prop) (w : World) (pre : List (Value × Pr)) (T : Nat → Prop) (W : World) : Prop :=
  ∃ v ys, Grows 76 78 2 n₀ n₀ T v pre.length ys W ∧ PrCells W (fun i => (lo ≤ i ∧ ¬ T i) ∧ Loose W i) ys (pre.map Prod.snd) ∧ Only Z w W
def AxP (N lo : Nat) (n₀ : Nat) (g : Value) (pre : List (Value × Pr)) (T : Nat → Prop) (x : Value × Pr) (a : Act) (W : World) : Prop :=
  ∃ Bx Ak nk ck Av nv cv, x.1 = .agg #[.slice Ak nk ck, .slice Av nv cv] ∧ pre.length < N ∧ n₀ ≤ Bx ∧ W.heap[Bx]? = some (.cells #[.slice Ak nk ck, .slice Av nv cv] 78 (0, 0)) ∧ Byt W (fun i => (lo ≤ i ∧ ¬ T i) ∧ Loose W i) (.slice Ak nk ck) x.2.key ∧ Byt W (fun i => (lo ≤ i ∧ ¬ T i) ∧ Loose W i) (.slice Av nv cv) x.2.val ∧
    a = { tmps := #[.slice none 0 0, g, .pointer (some ⟨n₀, 0, none⟩), undef, .slice none 0 0, .pointer (some ⟨Bx, 0, none⟩), g, x.1, undef, undef, undef, undef, undef], defers := [] }
set_option maxRecDepth 100000 in
set_option maxHeartbeats 4000000 in
theorem appendSeqP (nn : Nat) (w : World) (gf : Nat) (lb : Array Value) (N lo : Nat) (S Sp : List (Value × Pr) → World → Prop) (D Z : Nat → Prop)
    (hseq : Tells Fence.wide nn Tryz.prog gf lb (fun x : Value × Pr => #[x.1]) (fun pre T x A => OkP lo T x A ∧ pre.length < N) S Sp D Z w) (eg : ∀ args w, (callFunc gf args).run Tryz.prog w = .ok (.enter gf args) w)
    (hD : ∀ i, D i → i < w.heap.size) (hZ : ∀ i, Z i → D i ∧ i < lo) (_hlo : lo ≤ w.heap.size) (hS : ∀ base xs, w.heap.size ≤ base → Still (fun _ => False) base (S xs)) (hSp : ∀ base xs, w.heap.size ≤ base → Still (fun _ => False) base (Sp xs)) (hN : N * 48 ≤ 140737488355328) :
    Calls Tryz.prog 116 #[.slice none 0 0, .func (.func gf) #[] lb] w fun r w' => ∃ (v : Value) (ys : List Value) (xs : List (Value × Pr)) (T : Nat → Prop), r = .returned v ∧ S xs w' ∧ w'.ownsRow w.heap.size 78 2 v xs.length ys ∧ PrCells w' (fun i => (lo ≤ i ∧ ¬ T i) ∧ Loose w' i) ys (xs.map Prod.snd) ∧ (∀ g, v.ownBlock = some g → T g) ∧ Only Z w w' := by
  obtain ⟨i0, hi, hz0, hz1, hz2⟩ := info_parts info65
  refine (callsIn_wide (n := nn + 1)).1 ?_
  refine callsIn_of_wp_marks Tryz.func116 rfl trivial ?_
  simp only [Tryz.ntmps116, List.size_toArray, List.length_cons, List.length_nil, Nat.reduceAdd, Nat.reduceSub, Array.replicate_succ, Array.replicate_zero, List.push_toArray, List.append_toArray, List.nil_append, List.cons_append]
  gi_wp2
  have bO := Boxed.new w 76 (.slice none 0 0)
  have hA : fr w (w.alloc (.cells #[.slice none 0 0] 76)) := fr.alloc fr.refl _
  have hseq1 : Tells Fence.wide nn Tryz.prog gf lb (fun x : Value × Pr => #[x.1]) (fun pre T x A => OkP lo T x A ∧ pre.length < N) S Sp D Z (w.alloc (.cells #[.slice none 0 0] 76)) := fun l J Jx T0 W hW => hseq l J Jx T0 W (Below.trans hA (hW.mono hA.size))
  have hz : (w.alloc (.cells #[.slice none 0 0] 76)).heap.size = w.heap.size + 1 := by simp
  refine range_tells rfl (by omega) (gf := gf) (lb := lb) rfl trivial eg hseq1 (fun i h => by rw [hz]; have := hD i h; omega) (fun i h => (hZ i h).1) (fun pre T T' x A hT h => ⟨h.1.anti hT, h.2⟩)
    (fun xs => hS _ xs hA.size) (fun xs => hSp _ xs hA.size) (fun _ => rfl)
    (CollP w.heap.size lo Z w) (fun _ _ _ _ => False) ?still (fun _ _ _ _ _ h => h.elim) (fun i => i = w.heap.size) (fun i hi => ⟨by rw [hz]; omega, fun h => by have := hD i h; omega⟩) ⟨.slice none 0 0, [], ⟨bO, World.ownsRow_nil _ _ _ _, fun i => by simp [Value.ownBlock]⟩, trivial, Only.of_below hA⟩
    (AxP N lo w.heap.size (.func (.func gf) #[] lb)) ?ax ?assign ?body ?done (fun _ _ _ _ _ _ _ _ h => h.elim) ?lt (fun _ _ _ _ _ h => h.elim)
  case still =>
    rintro pre T A B ⟨v, ys, h1, h2, h3⟩ hi
    exact ⟨v, ys, h1.idle hi (fun i h => hD i (hZ i h).1) (Nat.le_refl _), PrCells.imp h2 fun _ _ h => h.idle hi (fun i h h' => by have := (hZ i h').2; omega), h3.idle hi hA.size⟩
  case lt =>
    rintro pre T W i ⟨v, ys, h1, _⟩ hT
    exact h1.lt hT
  case ax =>
    rintro pre T x a' A B ⟨Bx, Ak, nk, ck, Av, nv, cv, hx, hN, hB, hbx, hk, hu, rfl⟩ hi
    have hZ' : ∀ i, lo ≤ i ∧ ¬ T i → ¬ Z i := fun i h h' => by have := (hZ i h').2; omega
    exact ⟨Bx, Ak, nk, ck, Av, nv, cv, hx, hN, hB, hi.cells (fun h => by have := hD _ (hZ _ h).1; omega) hbx rfl, hk.idle hi hZ', hu.idle hi hZ', rfl⟩
  case assign =>
    rintro l pre T x W K hi' ⟨⟨k, u, hx, hk1, hu1⟩, hN⟩ hK
    obtain ⟨Ak, ck, rfl⟩ := slice_form hk1
    obtain ⟨Av, cv, rfl⟩ := slice_form hu1
    obtain ⟨x1, x2⟩ := x
    simp only at hx
    subst hx
    have hzW : w.heap.size ≤ W.heap.size := by obtain ⟨v, ys, h1, _, h3⟩ := hi'; exact h3.size
    gi_wp2
    have hal : fr W (W.alloc (.cells #[.slice Ak x2.key.length ck, .slice Av x2.val.length cv] 78)) := fr.alloc fr.refl _
    refine hK _ _ hal ?_ ⟨W.heap.size, Ak, _, ck, Av, _, cv, rfl, hN, hzW, heap_alloc_new W _, hk1.idle (Idle.of_below (Z := fun _ => False) (base := 0) hal) (fun _ _ h => h), hu1.idle (Idle.of_below (Z := fun _ => False) (base := 0) hal) (fun _ _ h => h), rfl⟩
    obtain ⟨v, ys, h1, h2, h3⟩ := hi'
    exact ⟨v, ys, h1.below hal, PrCells.imp h2 fun _ _ h => h.idle (Idle.of_below (Z := fun _ => False) (base := 0) hal) (fun _ _ h => h), h3.trans (Only.of_below hal)⟩
  case body =>
    rintro l pre T x a' sA W hl hlA hrec hTs hsA ⟨v, ys, hgr, hpc, hon⟩ ⟨Bx, Ak, nk, ck, Av, nv, cv, hx, hN, hBx, hbx, hk, hu, rfl⟩
    have hc := hgr.box.cell
    have d0 : W.cell? ⟨Bx, 0, none⟩ = some (.slice Ak nk ck) := cell_of_row W Bx 0 _ _ _ hbx
    have d1 : W.cell? ⟨Bx, 1, none⟩ = some (.slice Av nv cv) := cell_of_row W Bx 1 _ _ _ hbx
    have HG := Lib.hid hgr
    have HPC := Lib.hid hpc
    have HON := Lib.hid hon
    have HK := Lib.hid hk
    have HU := Lib.hid hu
    have HX := Lib.hid hx
    have hzW : w.heap.size ≤ W.heap.size := hon.size
    have hrow := hgr.row
    have HTS := Lib.hid hTs
    clear hgr hpc hon hk hu hx hTs hrec hl hlA
    gi_wp2_with (gi_at_builtin; refine wpListIn_append_at _ rfl _ _ 76 rfl w.heap.size 78 i0 _ 2 48 Tryz.underlying76 hi hz0 hz1 hz2 rfl (by decide) _ _ _ rfl (hrow.alloc _) ⟨W.heap.size, 0, none⟩ 1 1 [.slice Ak nk ck, .slice Av nv cv] rfl rfl (cell_two_new _ _ _ _) (by simp [Value.oneCell']) (by unfold maxLen; omega) (by omega) (by simp; omega) ?_; intro v' w2 hown' hgrow hat; obtain ⟨g', cap', rfl⟩ := ownsRow_succ hown'; obtain ⟨hv1, hg2, hgT, ho2⟩ := HG.out.push (by decide) (Nat.le_refl _) hzW (Nat.le_refl _) hown' hgrow hat; have hc1 := hv1.cell; have hf1 := hv1.frozen)
    refine ⟨_, fun i h => (hgT i h).imp id fun h => Nat.le_trans hsA h, Only.mono ho2 fun i h => h.imp id fun h => Nat.le_trans hsA h, _, _, by rw [List.length_append]; exact hg2, ?_, ?_⟩
    · rw [List.map_append]
      exact PrCells.append (PrCells.imp HPC.out fun _ _ h => h.grewT hgT ho2) (PrCells.one (HK.out.grewT hgT ho2) (HU.out.grewT hgT ho2))
    · have h0 := HON.out
      refine ⟨ho2.os.trans h0.os, ho2.tape.trans h0.tape, ho2.output.trans h0.output, Nat.le_trans h0.size ho2.size, fun i hlt hn => (ho2.block i (by omega) ?_).trans (h0.block i hlt hn)⟩
      rintro (h | h)
      · rcases (HG.out.set i).1 h with rfl | h
        · omega
        · have := (HG.out.blk h).1
          omega
      · omega
  case done =>
    rintro D' xs T W hD' hTs hs ⟨v, ys, hgr, hpc, hon⟩ hK
    have hc := hgr.box.cell
    have HD := Lib.hid hD'
    have HS1 := Lib.hid hs
    gi_wp2
    refine ⟨by simp, .inl ⟨_, _, rfl, run_takeDeferred hK, ?_⟩⟩
    have hid : Idle Z (w.alloc (.cells #[.slice none 0 0] 76)).heap.size W (W.putObj D' (.deferred none)) := Idle.putObj HD.out hK rfl
    have hg2 := hgr.idle hid (fun i h => hD i (hZ i h).1) (Nat.le_refl _)
    refine ⟨_, results_tmp rfl _ _ _, v, ys, xs, T, rfl, hS _ xs hA.size _ _ HS1.out (Idle.putObj HD.out hK rfl), hg2.row, PrCells.imp hpc fun _ _ h => h.idle hid (fun i h h' => by have := (hZ i h').2; omega), fun g hg => (hg2.set g).2 (.inr hg), hon.idle hid hA.size⟩
set_option maxRecDepth 100000 in
set_option maxHeartbeats 1000000 in
theorem collectP (nn : Nat) (w : World) (gf : Nat) (lb : Array Value) (N lo : Nat) (S Sp : List (Value × Pr) → World → Prop) (D Z : Nat → Prop)
    (hseq : Tells Fence.wide nn Tryz.prog gf lb (fun x : Value × Pr => #[x.1]) (fun pre T x A => OkP lo T x A ∧ pre.length < N) S Sp D Z w) (eg : ∀ args w, (callFunc gf args).run Tryz.prog w = .ok (.enter gf args) w)
    (hD : ∀ i, D i → i < w.heap.size) (hZ : ∀ i, Z i → D i ∧ i < lo) (hlo : lo ≤ w.heap.size) (hS : ∀ base xs, w.heap.size ≤ base → Still (fun _ => False) base (S xs)) (hSp : ∀ base xs, w.heap.size ≤ base → Still (fun _ => False) base (Sp xs)) (hN : N * 48 ≤ 140737488355328) :
    Calls Tryz.prog 101 #[.func (.func gf) #[] lb] w fun r w' => ∃ (v : Value) (ys : List Value) (xs : List (Value × Pr)) (T : Nat → Prop), r = .returned v ∧ S xs w' ∧ w'.ownsRow w.heap.size 78 2 v xs.length ys ∧ PrCells w' (fun i => (lo ≤ i ∧ ¬ T i) ∧ Loose w' i) ys (xs.map Prod.snd) ∧ (∀ g, v.ownBlock = some g → T g) ∧ Only Z w w' := by
  have HC := Lib.hid (appendSeqP nn w gf lb N lo S Sp D Z hseq eg hD hZ hlo hS hSp hN)
  clear hseq eg hD hZ hlo hS hSp hN
  go_enter Tryz.func101, Tryz.ntmps101
  go_wp2_with (go_at_call 116; refine HC.out.mono ?_; rintro r w1 ⟨v, ys, xs, T, rfl, h1, h2, h3, h4, h5⟩)
  go_ret
  exact ⟨v, ys, xs, T, rfl, h1, h2, h3, h4, h5⟩
set_option maxRecDepth 100000 in
set_option maxHeartbeats 1000000 in
theorem bread_any (S : Nat → Prop) (b o n c : Nat) (ps : List Pr) (w : World) (hv : Byt w S (.slice (some ⟨b, o, none⟩) n c) (buildGo [] ps)) (hn : (buildGo [] ps).length = n) (hn40 : n ≤ 1099511627776) (hs : Short ps) (ha : Asc [] ps) (h4 : ps.length ≤ 4096) :
    Calls Tryz.prog 91 #[.slice (some ⟨b, o, none⟩) n c] w fun r w' => ∃ (v : Value) (ys : List Value) (T : Nat → Prop), r = .returned (.tuple #[v, .int .i64 0]) ∧ w'.ownsRow w.heap.size 78 2 v ps.length ys ∧ PrCells w' (fun i => (w.heap.size ≤ i ∧ ¬ T i) ∧ Loose w' i) ys ps ∧ (∀ g, v.ownBlock = some g → T g) ∧ fr w w' := by
  have hvl : Byt w (fun i => i < w.heap.size) (.slice (some ⟨b, o, none⟩) n c) (buildGo [] ps) := hv.monoLt fun _ h _ => h
  have b1 := Boxed.new w 30 (.int .i64 0)
  have hP : ∀ w1, fr w w1 → Boxed w1 w.heap.size 30 (.int .i64 0) → w1.heap.size = w.heap.size + 1 →
      Calls Tryz.prog 102 #[.slice (some ⟨b, o, none⟩) n c, .pointer (some ⟨w.heap.size, 0, none⟩)] w1 fun r w2 => r = .returned (.func (.func 117) #[] #[.pointer (some ⟨w.heap.size + 1, 0, none⟩), .pointer (some ⟨w.heap.size + 1 + 1, 0, none⟩)]) ∧ PairsK w2 (w.heap.size + 1) w.heap.size b o n c (fun i => i < w.heap.size) (buildGo [] ps) ∧ fr w w2 ∧ w2.heap.size = w.heap.size + 3 := fun w1 hf hb hz => by
    have p1 := Boxed.new w1 42 (.slice (some ⟨b, o, none⟩) n c)
    have p2 := Boxed.new (w1.alloc (.cells #[.slice (some ⟨b, o, none⟩) n c] 42)) 162 (.pointer (some ⟨w.heap.size, 0, none⟩))
    rw [World.size_alloc, hz] at p2
    rw [hz] at p1
    have hf2 : fr w1 ((w1.alloc (.cells #[.slice (some ⟨b, o, none⟩) n c] 42)).alloc (.cells #[.pointer (some ⟨w.heap.size, 0, none⟩)] 162)) := fr.alloc (fr.alloc fr.refl _) _
    have hK : PairsK ((w1.alloc (.cells #[.slice (some ⟨b, o, none⟩) n c] 42)).alloc (.cells #[.pointer (some ⟨w.heap.size, 0, none⟩)] 162)) (w.heap.size + 1) w.heap.size b o n c (fun i => i < w.heap.size) (buildGo [] ps) := ⟨p1.alloc _, p2, boxedFr hb hf2, (hvl.below hf).below hf2⟩
    have HK := Lib.hid hK
    have HF := Lib.hid (fr.step hf hf2)
    have HZ := Lib.hid hz
    clear p1 p2 hf2 hK hf hb hz
    go_enter Tryz.func102, Tryz.ntmps102
    go_wp2
    go_ret
    rw [HZ.out]
    exact ⟨rfl, HK.out, HF.out, by simp [HZ.out]⟩
  have HP := Lib.hid hP
  clear hP
  go_enter Tryz.func91, Tryz.ntmps91
  go_wp2_with (first
    | (go_at_call 102; refine (HP.out _ (fr.alloc fr.refl _) b1 (by simp)).mono ?_; rintro r w2 ⟨rfl, hK2, hf2, hz2⟩)
    | (go_at_call 101; refine (collectP 0 w2 117 _ ps.length w2.heap.size _ _ _ _ (pairs_tells 0 w2 _ _ b o n c _ ps hK2 (Nat.lt_irrefl _) (fun i h => by omega) hn hn40 hs ha h4) (enters_of Tryz.func117 (by kernel_rfl) rfl) (fun i h => h.1) (fun i h => ⟨⟨by omega, .inr (.inr (.inl h))⟩, by omega⟩) (Nat.le_refl _) (fun _ _ _ A B h hi => ⟨h.1, hi.cells (fun h => h) h.2 rfl⟩) (fun _ _ _ _ _ h _ => h) (by omega)).mono ?_; rintro r w3 ⟨v, ys, xs, T, rfl, ⟨hm, hwhy⟩, hr, hp, hT, ho⟩; have c3 := hwhy.cell))
  refine bodyPost_ret (v := .tuple #[v, .int .i64 0]) (by simp [results, Tryz.results91, go_sem]) rfl ?_
  have hl : xs.length = ps.length := by rw [← hm]; simp
  rw [hm] at hp
  rw [hl] at hr
  refine ⟨v, ys, T, rfl, World.ownsRow.mono hr hf2.size, PrCells.mono hp (fun i h => ⟨⟨by have := hf2.size; omega, h.1.2⟩, h.2⟩), hT, ho.os.trans hf2.os, ho.tape.trans hf2.tape, ho.output.trans hf2.output, Nat.le_trans hf2.size ho.size, fun i hi => (ho.block i (by omega) (by omega)).trans (hf2.block i hi)⟩
end Go.Proofs.YtiffgjodbcploaaGreat
end
section
namespace Go.Proofs.YtiffgjodbcploaaGreat
set_option maxRecDepth 100000
open Go.RowKit Go.BigFrame Go.Shelf
attribute [local go_sem ↓] Go.wp_at_zero Go.wp_at_succ
/-- the k-th two of a row. -/
def twoV (g k : Nat) : Value := .slice (some ⟨g, 4 * k, none⟩) 2 2
set_option maxRecDepth 100000 in
set_option maxHeartbeats 1000000 in
theorem chunk_any (g n c : Nat) (w : World) :
    Calls Tryz.prog 92 #[.slice (some ⟨g, 0, none⟩) n c, .int .i64 2] w fun r w' => r = .returned (.func (.func 103) #[] #[.pointer (some ⟨w.heap.size, 0, none⟩), .pointer (some ⟨w.heap.size + 1, 0, none⟩)]) ∧ Boxed w' w.heap.size 76 (.slice (some ⟨g, 0, none⟩) n c) ∧ Boxed w' (w.heap.size + 1) 3 (.int .i64 2) ∧ fr w w' := by
  have p2 := Boxed.new (w.alloc (.cells #[.slice (some ⟨g, 0, none⟩) n c] 76)) 3 (.int .i64 2)
  have p1 := (Boxed.new w 76 (.slice (some ⟨g, 0, none⟩) n c)).alloc (.cells #[.int .i64 2] 3)
  have hf : fr w ((w.alloc (.cells #[.slice (some ⟨g, 0, none⟩) n c] 76)).alloc (.cells #[.int .i64 2] 3)) := fr.alloc (fr.alloc fr.refl _) _
  rw [World.size_alloc] at p2
  have P1 := Lib.hid p1
  have P2 := Lib.hid p2
  have HF := Lib.hid hf
  clear p1 p2 hf
  go_enter Tryz.func92, Tryz.ntmps92
  go_wp2
  go_ret
  exact ⟨rfl, P1.out, P2.out, HF.out⟩
set_option maxRecDepth 100000 in
set_option maxHeartbeats 2000000 in
theorem chunk_tells (nn : Nat) (w : World) (B g m c : Nat) (b1 : Boxed w B 76 (.slice (some ⟨g, 0, none⟩) (2 * m) c)) (b2 : Boxed w (B + 1) 3 (.int .i64 2)) (hm : 2 * m ≤ 1099511627776) (hc : 2 * m ≤ c) (hcm : c ≤ 9223372036854775807) :
    Tells Fence.wide nn Tryz.prog 103 #[.pointer (some ⟨B, 0, none⟩), .pointer (some ⟨B + 1, 0, none⟩)] (fun k : Nat => #[twoV g k]) (fun pre _ k _ => k = pre.length ∧ k < m)
      (fun xs _ => xs = List.range m) (fun _ _ => True) (fun i => i = B ∨ i = B + 1) (fun _ => False) w := by
  intro l J Jx T0 W hW hT0 hJ hJx hJT hY h0
  refine callsIn_wide.2 ?_
  have HJ := Lib.hid hJ
  have HJT := Lib.hid hJT
  have HY := Lib.hid hY
  have HT0 := Lib.hid hT0
  have HB := Lib.hid (show B < W.heap.size ∧ B + 1 < W.heap.size from ⟨Nat.lt_of_lt_of_le b1.lt hW.size, Nat.lt_of_lt_of_le b2.lt hW.size⟩)
  have HB1 := Lib.hid (boxedFr b1 hW)
  have HB2 := Lib.hid (boxedFr b2 hW)
  have HJ0 := Lib.hid h0
  clear hJ hJx hJT hY hT0 hW h0 b1 b2
  go_enter Tryz.func103, Tryz.ntmps103
  go_wp2
  go_loopw [4] (fun x wr => ∃ (k : Nat) (T : Nat → Prop), k ≤ m ∧ x = .int .i64 (2 * k : Nat) ∧ J (List.range k) T wr ∧ (∀ i, T i → ¬ (i = B ∨ i = B + 1)) ∧ Boxed wr B 76 (.slice (some ⟨g, 0, none⟩) (2 * m) c) ∧ Boxed wr (B + 1) 3 (.int .i64 2) ∧ W.heap.size ≤ wr.heap.size) (fun x _ => 2 * m - (intOf x).toNat)
  case atStart => exact ⟨0, T0, Nat.zero_le _, rfl, HJ0.out, HT0.out, HB1.out, HB2.out, Nat.le_refl _⟩
  case round =>
    clear HJ0 HT0 HB1 HB2
    obtain ⟨k, T, hk, rfl, hj, hT, b1, b2, hz⟩ := hrel
    have c1 := b1.cell
    have c2 := b2.cell
    have HJK := Lib.hid hj
    have HT := Lib.hid hT
    have HB1 := Lib.hid b1
    have HB2 := Lib.hid b2
    have HZ := Lib.hid hz
    obtain ⟨q, hq⟩ : ∃ q, 2 * k = q := ⟨_, rfl⟩
    obtain ⟨n, hn⟩ : ∃ n, 2 * m = n := ⟨_, rfl⟩
    rw [hq]
    rw [hn] at c1 hm hc
    have HQ := Lib.hid hq
    have HN := Lib.hid hn
    clear hj hT b1 b2 hz hq hn
    obtain ⟨w0, hw0⟩ : ∃ x, x = wr := ⟨_, rfl⟩
    subst hw0
    by_cases hkm : k < m
    · have hqn : q + 2 ≤ n := by have := HQ.out; have := HN.out; omega
      have hqc : ¬ c = q := by omega
      have i1 : (0 : Int) ≤ (q : Int) := by omega
      have i2 : (q : Int) ≤ (n : Int) := by omega
      have i3 : (q : Int) ≤ (c : Int) := by omega
      have i4 : ((n : Int) - (q : Int)) = ((n - q : Nat) : Int) := by omega
      have i5 : min (2 : Int) ((n - q : Nat) : Int) = 2 := by omega
      have hlt : q < n := by omega
      have HKM := Lib.hid hkm
      have hv : twoV g k = .slice (some ⟨g, q * 2, none⟩) 2 2 := by unfold twoV; rw [show 4 * k = q * 2 by have := HQ.out; omega]
      have HV := Lib.hid hv
      clear hkm hk hv
      go_upto_region 3 with (fail)
      go_quiet (fail)
      have c3 : (w0.drewN nq).cell? ⟨B, 0, none⟩ = some (.slice (some ⟨g, 0, none⟩) n c) := c1
      have c4 : (w0.drewN nq).cell? ⟨B + 1, 0, none⟩ = some (.int .i64 2) := c2
      go_upto_region 4 with (fail)
      refine (wpIn_wide (n := nn)).1 ?_
      gi_wp2_with (fail)
      have hid : ∀ x, Idle (fun _ => False) W.heap.size w0 (w0.drewN x) := fun x => ⟨rfl, rfl, rfl, Nat.le_refl _, fun _ _ _ => rfl⟩
      obtain ⟨fn, tmps, assign, body, hy, hR⟩ := HY.out (List.range k) T k (w0.drewN nq) (HJ.out _ _ _ _ HJK.out (hid _)) ⟨by simp, HKM.out⟩
      rw [HV.out] at hy
      rw [hy, Oper.uponIn_round]
      refine ⟨fun h => absurd h (by decide), hR.mono ?_⟩
      rintro e w6 ⟨T', gT, oT, (⟨rfl, hj6⟩ | ⟨rfl, hj6⟩)⟩
      · have gT' := Lib.hid gT
        have oT' := Lib.hid oT
        have HJ6 := Lib.hid hj6
        have hTB : ∀ i, T i → ¬ (i = B ∨ i = B + 1) := HT.out
        have B1 := Lib.hid (boxedOnly (S := T) (w := w0.drewN nq) HB1.out oT fun h => hTB _ h (.inl rfl))
        have B2 := Lib.hid (boxedOnly (S := T) (w := w0.drewN nq) HB2.out oT fun h => hTB _ h (.inr rfl))
        have c5 := B2.out.cell
        have hsz : w0.heap.size ≤ w6.heap.size := oT.size
        clear hy hR gT oT hj6 hid hTB c1 c2 c3 c4
        gi_wp2
        go_wp2
        refine ⟨⟨k + 1, T', HKM.out, ?_, by rw [List.range_succ]; exact HJ6.out, fun i hi => ?_, B1.out, B2.out, Nat.le_trans HZ.out hsz⟩, by have := HQ.out; have := HN.out; simp [intOf]; omega⟩
        · congr 1
          have := HQ.out
          omega
        · rcases gT'.out i hi with h | h
          · exact HT.out i h
          · have h1 := HB.out
            have h2 := HZ.out
            have h3 : w0.heap.size ≤ i := h
            omega
      · have HJX6 := Lib.hid hj6
        clear hy hR hj6 hid gT oT
        gi_wp2
        go_wp2
        refine bodyPost_ret (results_none rfl _ _ _) rfl ?_
        exact ⟨⟨_, rfl⟩, .inr ⟨_, T', trivial, HJX6.out⟩⟩
    · have hqn : q = n := by have := HQ.out; have := HN.out; omega
      obtain rfl : k = m := by omega
      subst hqn
      clear hkm
      go_wp2
      go_end0
      exact ⟨⟨_, rfl⟩, .inl ⟨_, T, rfl, HJK.out⟩⟩
end Go.Proofs.YtiffgjodbcploaaGreat
end
section
namespace Go.Proofs.YtiffgjodbcploaaGreat
set_option maxRecDepth 100000
open Go.RowKit
theorem wpIn_of_wp {P : Program} {l n : Nat} {o : Oper} {a : Act} {w : World} {K : Act → World → Prop} {Q : Exit → Act → World → Prop} (hd : ∀ c, o.op ≠ .defer c) (h : o.wp P a w K Q) : o.wpIn (Fence.wide.inRound l) n P a w K Q := by
  unfold Oper.wp at h
  unfold Oper.wpIn
  refine ⟨fun _ _ => trivial, ?_⟩
  rw [show (Fence.wide.inRound l).round = some l from rfl, Oper.semAt_some _ _ _ hd]
  generalize (execOp a.eval o).run P w = r at *
  cases r with
  | ok x w' =>
    cases x with
    | value v => exact h
    | skip => exact h
    | defer d => exact h
    | enter f args => exact ⟨fun h => absurd h (by simp [Fence.wide]), callsIn_wide.2 h⟩
    | row row args => exact ⟨fun h => absurd h (by simp [Fence.wide]), fun c cs _ => let ⟨v, w', r, s⟩ := h c cs; ⟨v, w', r, stepsIn_wide.2 s⟩⟩
    | _ => exact h.elim
  | halt x w' => cases x <;> first | exact h | exact h.elim
theorem anyIn_of_any {P : Program} {l n : Nat} {md : Region.Mode} {ops : Array Oper} {Q : Exit → Act → World → Prop} (hd : ∀ (i : Nat) (o : Oper), ops[i]? = some o → ∀ c, o.op ≠ .defer c) (hL : ¬ LetsOut Q) :
    ∀ (fuel : Nat) (listed : Array Bool) (a : Act) (w : World), wpAny P md ops Q fuel listed a w → wpAnyIn (Fence.wide.inRound l) n P md ops Q fuel listed a w
  | 0, _, _, _, h => h
  | fuel + 1, listed, a, w, h => by
    refine ⟨h.1, fun i hi => ?_⟩
    have h2 := h.2 i hi
    unfold wpOp at h2
    unfold wpOpIn
    split
    · rename_i e
      rw [e] at h2
      exact anyIn_of_any hd hL fuel _ a w h2
    · rename_i o e
      rw [e] at h2
      simp only at h2
      split
      · rename_i hw
        rw [if_pos hw] at h2
        rcases h2 with h2 | ⟨_, h2⟩
        · exact wpIn_of_wp (hd i o e) (Oper.wp_mono (fun a' w' h' => anyIn_of_any hd hL fuel _ a' w' h') h2)
        · exact absurd h2 hL
      · rename_i hw
        rw [if_neg hw] at h2
        exact ⟨fun _ _ => trivial, anyIn_of_any hd hL fuel _ _ w h2⟩
theorem regionIn_held {P : Program} {l n id : Nat} {ops : Array Oper} {Q : Exit → Act → World → Prop} {S : World → Prop} {a : Act} {w : World} (hm : P.follows .mixedOrders = true) (hd : ∀ (i : Nat) (o : Oper), ops[i]? = some o → ∀ c, o.op ≠ .defer c) (hL : ¬ LetsOut Q)
    (h : wpAnyH P .any ops Q S ops.size (Array.replicate ops.size false) a w.drew) : (Code.region id ops true).wpIn (Fence.wide.inRound l) n P Q a w :=
  wpIn_region_any hm (anyIn_of_any hd hL _ _ _ _ (wpAny_of_held _ _ _ _ h))
end Go.Proofs.YtiffgjodbcploaaGreat
end
section
namespace Go.Proofs.YtiffgjodbcploaaGreat
set_option maxRecDepth 100000
open Go.RowKit Go.BigFrame
theorem wpListIn_append_ownB {F : Fence} {n : Nat} {w : World} {ops : Array Oper} {rest : List Oper} {o : Oper} {a : Act} {Q : Exit → Act → World → Prop} (hgd : o.guard = none) (s x : Operand)
    (ho : o.op = .call { callee := .builtin .append, args := #[s, x], argTypes := #[42, 42] }) (FF F' : Nat → Prop) (v src : Value) (hs : a.eval s = v) (hx : a.eval x = src)
    (S : Nat → Prop) (bs cs : List UInt8) (hown : OwnB w FF v bs) (h : Byt w S src cs) (hl : bs.length + cs.length ≤ 140737488355328) (hF : ∀ i, FF i → F' i) (hnew : F' w.heap.size)
    (hK : ∀ v' w', OwnB w' F' v' (bs ++ cs) → w.grownBy w' (blkB v) → (blkB v' = blkB v ∨ blkB v' = some w.heap.size) → wpListIn F n Tryz.prog ops Q rest (a.put o.dst v') w') :
    wpListIn F n Tryz.prog ops Q (o :: rest) a w := by
  refine wpListIn_plain hgd fun K hK' => ?_
  obtain ⟨v', w', hrun, r1, r2, r3⟩ := run_append_ownB w FF F' o.type v src S bs cs hown h hl hF hnew
  unfold Oper.wpIn
  refine ⟨?_, ?_⟩
  · simp [Oper.about, ho, resolve, Target.leads, Sem.run_pure]
  · rw [Oper.semAt_plain F _ _ (by rw [ho]; intro c hc'; cases hc')]
    simp [execOp, ho, resolve, invoke, builtin, hs, hx, hrun, Result.andThen]
    exact hK' _ _ (hK v' w' r1 r2 r3)
set_option maxRecDepth 100000 in
/-- a slice that is full: the bytes go into new memory. -/
theorem run_append_fullB (w : World) (ty : TypeId) (g o n : Nat) (src : Value) (S S' : Nat → Prop) (bs cs : List UInt8) (hb : Byt w S (.slice (some ⟨g, o, none⟩) n n) bs) (h : Byt w S' src cs) (hn : bs.length = n) (h0 : 0 < cs.length) (hl : n + cs.length ≤ 140737488355328) :
    ∃ A c w', (Builtin.append_ #[42, 42] ty #[.slice (some ⟨g, o, none⟩) n n, src]).run Tryz.prog w = .ok (.slice A (n + cs.length) c) w' ∧ OwnF w' w.heap.size (.slice A (n + cs.length) c) (bs ++ cs) ∧ fr w w' := by
  obtain ⟨i0, hi, hz0, hz1, hz2⟩ := info_parts info5
  obtain ⟨B, d, rfl, g1, g2, g3, hr⟩ := h
  obtain ⟨b, ob, rfl, _, _, hc⟩ := hr.2 h0
  obtain ⟨A, ca, hE, h1, h2, h3, hr1⟩ := hb
  simp only [Value.slice.injEq] at hE
  obtain ⟨rfl, h5, rfl⟩ := hE
  have holds : ∀ j u, (bs.map bcell)[j]? = some u → w.cell? ((⟨g, o, none⟩ : Addr).add j) = some u := fun j u hu => by
    have hj := (List.getElem?_eq_some_iff.1 hu).1
    rw [List.length_map] at hj
    obtain ⟨b', o', e, _, _, hcc⟩ := hr1.2 (by omega)
    injection e with e
    injection e with e1 e2
    subst e1 e2
    rw [Addr.add_lit]
    exact hcc j u hu
  have hrun := run_append_grow (P := Tryz.prog) w 42 ty 5 i0 (.int .u8 0) Tryz.underlying42 hi hz0 ⟨g, o, none⟩ n n (bs.map bcell) (by simp [hz1, hn]) holds ⟨b, ob, none⟩ cs.length d (cs.map bcell) (by simp [hz1])
    (fun j u hu => by rw [Addr.add_lit]; exact hc j u hu) (by omega) (by omega) (growslice_fits (by omega) (by rw [hz2]; omega))
  have hge := grownCap_ge w (n + cs.length) n 5
  have hcm : grownCap w (n + cs.length) n 5 ≤ maxLen := grownCap_le_maxLen w (n + cs.length) n 5 (by unfold maxLen; omega)
  have hll : (bs ++ cs).length = n + cs.length := by rw [List.length_append, hn]
  refine ⟨_, _, _, hrun, ⟨_, _, by rw [hll], by omega, by unfold maxLen at hcm; omega, by omega, .inr ⟨w.heap.size, _, rfl, Nat.le_refl _, heap_alloc_new w.drew _, ?_, ?_⟩⟩, ((Below.refl w.heap.size w).drew).alloc (by simp) _⟩
  · simp only [Array.size_append, List.size_toArray, size_zeroCells, List.length_map]
    simp [Value.cells]
    omega
  · simp only [Array.toList_append, List.append_assoc]
    rw [← List.append_assoc, ← List.map_append, hll]
    have : ((bs ++ cs).map bcell).length = n + cs.length := by simp [hn]
    rw [← this]
    exact List.take_left
theorem step_fullB {w : World} {ops : Array Oper} {o : Oper} {a : Act} {K : Act → World → Prop} {Q : Exit → Act → World → Prop} {E : Prop} (hgd : o.guard = none) (s x : Operand)
    (ho : o.op = .call { callee := .builtin .append, args := #[s, x], argTypes := #[42, 42] }) (g ob n : Nat) (src : Value) (hs : a.eval s = .slice (some ⟨g, ob, none⟩) n n) (hx : a.eval x = src)
    (S S' : Nat → Prop) (bs cs : List UInt8) (hb : Byt w S (.slice (some ⟨g, ob, none⟩) n n) bs) (h : Byt w S' src cs) (hn : bs.length = n) (h0 : 0 < cs.length) (hl : n + cs.length ≤ 140737488355328)
    (hK : ∀ A c w', OwnF w' w.heap.size (.slice A (n + cs.length) c) (bs ++ cs) → fr w w' → K (a.put o.dst (.slice A (n + cs.length) c)) w') :
    if Region.wanted o (yielded ops a.tmps) = true then Oper.wp Tryz.prog o a w K Q else E := by
  have hw : Region.wanted o (yielded ops a.tmps) = true := by simp [Region.wanted, hgd]
  rw [if_pos hw]
  obtain ⟨A, c, w', hrun, h2, h3⟩ := run_append_fullB w o.type g ob n src S S' bs cs hb h hn h0 hl
  unfold Oper.wp execOp
  simp only [ho, resolve, invoke, builtin, Sem.run_bind, Sem.run_pure, Result.andThen_ok, List.map_toArray, List.map_cons, List.map_nil, hs, hx, hrun]
  exact hK A c w' h2 h3
theorem step_rowP {w : World} {ops : Array Oper} {o : Oper} {a : Act} {K : Act → World → Prop} {Q : Exit → Act → World → Prop} {E : Prop} (hgd : o.guard = none) (s x : Operand)
    (ho : o.op = .call { callee := .builtin .append, args := #[s, x], argTypes := #[76, 76] }) (base : Nat) (v : Value) (k : Nat) (xs : List Value) (hs : a.eval s = v) (hown : w.ownsRow base 78 2 v k xs)
    (g m : Nat) (news : List Value) (hx : a.eval x = .slice (some ⟨g, 0, none⟩) m m) (hn : news.length = m * 2) (hc : ∀ j u, news[j]? = some u → w.cell? ((⟨g, 0, none⟩ : Addr).add j) = some u) (h1c : ∀ u ∈ news, u.oneCell' = true) (hm : k + m ≤ 1048576) (hbase : base ≤ w.heap.size)
    (hK : ∀ v' w', w'.ownsRow base 78 2 v' (k + m) (xs ++ news) → w.grownBy w' v.ownBlock → (v'.ownBlock = v.ownBlock ∨ v'.ownBlock = some w.heap.size) → K (a.put o.dst v') w') :
    if Region.wanted o (yielded ops a.tmps) = true then Oper.wp Tryz.prog o a w K Q else E := by
  have hw : Region.wanted o (yielded ops a.tmps) = true := by simp [Region.wanted, hgd]
  rw [if_pos hw]
  obtain ⟨i0, hi, hz0, hz1, hz2⟩ := info_parts info65
  obtain ⟨v', w', hrun, h2, h3, _, h5⟩ := run_append_own_at (P := Tryz.prog) w base 76 o.type 78 i0 _ 2 48 Tryz.underlying76 hi hz0 hz1 hz2 rfl (by decide) v k xs hown ⟨g, 0, none⟩ m m news hn hc h1c (by unfold maxLen; omega) (by omega) hbase
  unfold Oper.wp execOp
  simp only [ho, resolve, invoke, builtin, Sem.run_bind, Sem.run_pure, Result.andThen_ok, List.map_toArray, List.map_cons, List.map_nil, hs, hx, hrun]
  exact hK v' w' h2 h3 h5
theorem noDefer_spec {ops : Array Oper} (h : (ops.toList.all fun o => match o.op with | .defer _ => false | _ => true) = true) : ∀ (i : Nat) (o : Oper), ops[i]? = some o → ∀ c, o.op ≠ .defer c := fun i o ho c hc => by
  have := List.all_eq_true.1 h o (Array.mem_toList_iff.2 (Array.mem_of_getElem? ho))
  rw [hc] at this
  cases this
theorem Only.cell' {S : Nat → Prop} {a b : World} (h : Only S a b) {B i : Nat} {v : Value} (hc : a.cell? ⟨B, i, none⟩ = some v) (hS : ¬ S B) : b.cell? ⟨B, i, none⟩ = some v :=
  (World.cell?_of_block (a := ⟨B, i, none⟩) (h.block B (World.block_lt_of_cell? a ⟨B, i, none⟩ hc) hS)).trans hc
end Go.Proofs.YtiffgjodbcploaaGreat
end
