/-
law 7: VdiskOwn.
-/
import Derived.Test.YtcmjoaepihbodaaQPOwnU17
import Derived.Test.YtcmjoaepihbodaaQPOwnU18
section
namespace Go.Proofs.Ytcmjoaepihbodaa
open Go.RowKit Go.BigFrame
attribute [local go_sem ↓] Go.wp_at_zero Go.wp_at_succ
set_option maxRecDepth 100000 in
set_option maxHeartbeats 8000000 in
theorem vdiskOwnLaw (v : Value) (fs : List Fl) (pv : Value) (pl : Int × Int × List Int) (bv : Value) (b : List UInt8) (w : World) (hv : FilesV w (fun _ => True) v fs) (hfs : (fs.map fun f => f.data.length + 1).sum ≤ 1048576) (hp : PlanV w (fun _ => True) pv pl) (hb : Byt w (fun _ => True) bv b) (hbl : b.length ≤ 1048576) :
    Calls Try.prog 4 #[v, pv, bv] w fun r w' => r = .returned (.bool true) ∧ Below w.heap.size w w' := by
  obtain ⟨ops, room, zs⟩ := pl
  obtain ⟨kv, rfl, hz, hl, _, hwr, _⟩ := hp
  simp only at hz hl hwr
  have hroom := wf_le hwr
  obtain ⟨A, c, rfl⟩ := hv.form
  obtain ⟨Ab, cb, rfl⟩ := slice_form hb
  obtain ⟨n, hn⟩ : ∃ n, fs.length = n := ⟨_, rfl⟩
  have hmany : n * 48 ≤ 140737488355328 := by obtain ⟨_, _, _, _, _, _, h3, _⟩ := hv; rw [← hn]; exact h3
  have hvl : FilesV w (fun i => i < w.heap.size) (.slice A fs.length c) fs := hv.lt flFine
  have hbb : Byt w (fun i => i < w.heap.size) (.slice Ab b.length cb) b := hb.monoLt fun _ hi _ => hi
  have hzl : IntsIn w (fun i => i < w.heap.size) kv zs := hz.keepR fun _ _ _ _ hr => hr.monoLt fun _ hi _ => hi
  rw [hn] at hvl ⊢
  have HN := Lib.hid hn
  have HV := Lib.hid hvl
  have HBV := Lib.hid hbb
  have HFS := Lib.hid hfs
  have HZ := Lib.hid hzl
  obtain ⟨Ak, ck, rfl, _⟩ := hz
  have hA : Below w.heap.size w (w.alloc (.cells #[.int .i64 ops, .int .i64 room, .slice Ak zs.length ck] 25)) := (Below.refl _ _).alloc (Nat.le_refl _) _
  have HA := Lib.hid hA
  clear hn hv hvl hb hbb hfs hzl hA hwr
  go_enter Try.func4, Try.ntmps4
  go_wp2_with (go_at_call 8; refine (wakes_any _).mono ?_; rintro r w1 ⟨rfl, hb1⟩)
  have hbx := (hb1.block w.heap.size (by simp)).trans (heap_alloc_new w (.cells #[.int .i64 ops, .int .i64 room, .slice Ak zs.length ck] 25))
  have b0 : w1.cell? ⟨w.heap.size, 0, none⟩ = some (.int .i64 ops) := cell_of_row w1 w.heap.size 0 _ _ _ hbx
  have b1 : w1.cell? ⟨w.heap.size, 1, none⟩ = some (.int .i64 room) := cell_of_row w1 w.heap.size 1 _ _ _ hbx
  have b2 : w1.cell? ⟨w.heap.size, 2, none⟩ = some (.slice Ak zs.length ck) := cell_of_row w1 w.heap.size 2 _ _ _ hbx
  have HB1 := Lib.hid (HA.out.trans (hb1.mono HA.out.size))
  have HV1 := Lib.hid (HV.out.below flFine HB1.out)
  have HZ1 := Lib.hid (HZ.out.below HB1.out)
  have HBV1 := Lib.hid (HBV.out.below HB1.out)
  have hzw : w.heap.size < w1.heap.size := by have := hb1.size; simp at this; omega
  obtain ⟨e, he⟩ : ∃ e, ofE fs = e := ⟨_, rfl⟩
  have HE := Lib.hid he
  clear hbx hb1 he
  have hm48 : fs.length * 48 ≤ 140737488355328 := by rw [HN.out]; exact hmany
  go_cut [7, 8, 9] (fun x y z wc => ∃ (Ai : Option Addr) (ci cy gy sz pb s : Nat) (Ap : Option Addr) (cp : Nat), x = .slice Ai n ci ∧ y = .slice (some ⟨gy, 0, none⟩) (b.length + 1) cy ∧ z = .pointer (some ⟨pb, 0, none⟩) ∧
    RowF wc w1.heap.size (fun i => w1.heap.size ≤ i ∧ i < s ∧ Loose wc i) (.slice Ai n ci) fs ∧ Counted wc gy sz (b ++ [7]) 0 ∧ s ≤ gy ∧ w1.heap.size ≤ gy ∧ b.length + 1 ≤ cy ∧ cy ≤ 9223372036854775807 ∧
    wc.heap[pb]? = some (.cells #[.int .i64 ops, .int .i64 room, .slice Ap zs.length cp] 25 (0, 0)) ∧ w1.heap.size ≤ pb ∧ KeepV wc (fun i => w1.heap.size ≤ i) (.slice Ap zs.length cp) zs ∧ fr w1 wc)
  case first =>
    have HCP : Hid (∀ wx, fr w1 wx → Calls Try.prog 10 #[.slice A n c] wx fun r w' => ∃ Ai ci, r = .returned (.slice Ai n ci) ∧ RowF w' w1.heap.size (fun i => w1.heap.size ≤ i ∧ i < w'.heap.size ∧ Loose w' i) (.slice Ai n ci) fs ∧ fr w1 w' ∧ fr wx w') := Lib.hid fun wx hx => (fcopy_any _ _ fs wx (HV1.out.below flFine hx)).mono fun r w' h => by
      obtain ⟨v, rfl, h1, h2⟩ := h
      obtain ⟨Ai, ci, rfl⟩ := OwnRows.fo h1
      have hz := Below.size hx
      rw [HN.out] at h1 ⊢
      exact ⟨Ai, ci, rfl, ((RowF.of_own h1).rebase fun g hg => Nat.le_trans hz ((RowF.of_own h1).lt hg).1).mono fun i hi h => ⟨Nat.le_trans hz h.1, hi, h.2.2⟩, fr.step hx h2, h2⟩
    have HPL : Hid (∀ wx, fr w1 wx → Calls Try.prog 11 #[.agg #[.int .i64 ops, .int .i64 room, .slice Ak zs.length ck]] wx fun r w' => ∃ Ap cp, r = .returned (.agg #[.int .i64 ops, .int .i64 room, .slice Ap zs.length cp]) ∧ KeepV w' (fun i => w1.heap.size ≤ i) (.slice Ap zs.length cp) zs ∧ fr wx w') := Lib.hid fun wx hx => (plan_any _ ops room _ zs wx (HZ1.out.below hx) hl).mono fun r w' h => by
      obtain ⟨v, rfl, h1, h2⟩ := h
      have hz := Below.size hx
      obtain ⟨Ap, cp, rfl⟩ : ∃ Ap cp, v = .slice Ap zs.length cp := by obtain ⟨A, c, rfl, _⟩ := h1; exact ⟨A, c, rfl⟩
      exact ⟨Ap, cp, rfl, h1.mono fun i hi _ => Nat.le_trans hz hi, h2⟩
    have f1 : fr w1 w1.drew := fr.refl.drew
    clear HN HFS HZ HA hroom hmany HB1 HV HV1 HZ1 HBV HE hm48 hl
    go_region_held3 (fun w' => w'.cell? ⟨w.heap.size, 0, none⟩ = some (.int .i64 ops) ∧ w'.cell? ⟨w.heap.size, 1, none⟩ = some (.int .i64 room) ∧ w'.cell? ⟨w.heap.size, 2, none⟩ = some (.slice Ak zs.length ck))
      ((first | (refine fr.three (?_ : fr w1 _) b0 b1 b2; (repeat (first | with_reducible assumption | with_reducible exact fr.refl | with_reducible refine fr.alloc ?_ _ | with_reducible refine fr.drew ?_)); done) | (refine three_put (W := w1) ?_ b0 b1 b2 hzw ?_; (focus ((repeat (first | with_reducible assumption | with_reducible exact fr.refl | with_reducible refine fr.alloc ?_ _ | with_reducible refine fr.drew ?_)))); omega)))
      (first
        | (go_split_ands; go_at_call 10; (with_reducible (refine Calls.mono (HCP.out _ ?_) ?_)); (focus ((repeat (first | with_reducible assumption | with_reducible exact fr.refl | with_reducible refine fr.alloc ?_ _ | with_reducible refine fr.drew ?_)))); rintro r w2 ⟨Ai, ci, rfl, hR, f2, h2⟩; (have z2 := Below.size f2); (first | with_reducible have pA := hpP_2_0_d h2 | with_reducible have pA := hpP_1_0_d h2 | with_reducible have pA := hpP_1_1_d h2 | with_reducible have pA := hpP_0_0_d h2 | with_reducible have pA := hpP_0_1_d h2 | with_reducible have pA := hpP_0_2_d h2 | skip); (try rw [World.size_drew] at pA); (first | with_reducible have pB := hpB_2_0_d h2 | with_reducible have pB := hpB_1_0_d h2 | with_reducible have pB := hpB_1_1_d h2 | with_reducible have pB := hpB_0_0_d h2 | with_reducible have pB := hpB_0_1_d h2 | with_reducible have pB := hpB_0_2_d h2 | skip); (try rw [World.size_drew] at pB))
        | (go_split_ands; go_at_call 11; (with_reducible (refine Calls.mono (HPL.out _ ?_) ?_)); (focus ((repeat (first | with_reducible assumption | with_reducible exact fr.refl | with_reducible refine fr.alloc ?_ _ | with_reducible refine fr.drew ?_)))); rintro r w5 ⟨Ap, cp, rfl, hK, h5⟩; (have g5 : fr w4 w5 := fr.step (by (repeat (first | with_reducible assumption | with_reducible exact fr.refl | with_reducible refine fr.alloc ?_ _ | with_reducible refine fr.drew ?_))) h5); (have f5 : fr w1 w5 := fr.step f4 g5); (have z5 := Below.size f5); (first | with_reducible have pA := hpP_1_0 h5 | with_reducible have pA := hpP_0_0 h5 | with_reducible have pA := hpo2 h5 pA | with_reducible have pA := hpo1 h5 pA | with_reducible have pA := fr.hp h5 pA | skip); (try (have a0 := cell_of_row w5 _ 0 _ _ _ pA; have a1 := cell_of_row w5 _ 1 _ _ _ pA; have a2 := cell_of_row w5 _ 2 _ _ _ pA; have af : ∀ i, w5.frozen? ⟨_, i, none⟩ = false := fun i => frozen_of_row w5 _ i _ _ pA)))
        | ((with_reducible refine at_op (A := #[.tmp 30, .tmp 31]) ?_); go_split_ands; refine step_own0 (by rfl) _ _ (by rfl) _ (.slice Ab b.length cb) (by rfl) (by rfl) (fun i => i < w.heap.size) b w2 ?_ ?_ ?_; (focus ((repeat (first | with_reducible assumption | with_reducible exact fr.refl | with_reducible refine fr.alloc ?_ _ | with_reducible refine fr.drew ?_)))); (focus (refine fr.byt (W := w1) ?_ HBV1.out; (repeat (first | with_reducible assumption | with_reducible exact fr.refl | with_reducible refine fr.alloc ?_ _ | with_reducible refine fr.drew ?_)))); intro A3 c3 w3 o3 h3; (have g3 : fr w2 w3 := fr.step (by (repeat (first | with_reducible assumption | with_reducible exact fr.refl | with_reducible refine fr.alloc ?_ _ | with_reducible refine fr.drew ?_))) h3); (have f3 : fr w1 w3 := fr.step f2 g3); (have z3 := Below.size f3); (first | with_reducible have pA := hpP_2_0 h3 | with_reducible have pA := hpP_1_0 h3 | with_reducible have pA := hpP_1_1 h3 | with_reducible have pA := hpP_0_0 h3 | with_reducible have pA := hpP_0_1 h3 | with_reducible have pA := hpP_0_2 h3 | with_reducible have pA := hpo2 h3 pA | with_reducible have pA := hpo1 h3 pA | with_reducible have pA := fr.hp h3 pA | skip); (first | with_reducible have pB := hpB_2_0 h3 | with_reducible have pB := hpB_1_0 h3 | with_reducible have pB := hpB_1_1 h3 | with_reducible have pB := hpB_0_0 h3 | with_reducible have pB := hpB_0_1 h3 | with_reducible have pB := hpB_0_2 h3 | with_reducible have pB := hpo2 h3 pB | with_reducible have pB := hpo1 h3 pB | with_reducible have pB := fr.hp h3 pB | skip); (try have hB7 : Has7 _ _ := pB))
        | ((with_reducible refine at_op (A := #[.tmp 32, .tmp 33]) ?_); go_split_ands; refine step_own7 (by rfl) _ _ (by rfl) _ (.slice A3 b.length c3) (by rfl) (by rfl) b w2 w3 hbl o3 g3 ?_ ?_ ?_; (focus ((repeat (first | with_reducible assumption | with_reducible exact fr.refl | with_reducible refine fr.alloc ?_ _ | with_reducible refine fr.drew ?_)))); (focus (repeat (first | with_reducible exact hB7 | with_reducible exact has7_new1 _ _ | with_reducible exact has7_new _ | with_reducible refine has7_old ?_))); intro A4 c4 w4 o4 g4 h4; (have f4 : fr w1 w4 := fr.step f2 g4); (have z4 := Below.size f4); (first | with_reducible have pA := kp_2_0 h4 | with_reducible have pA := kp_1_0 h4 | with_reducible have pA := kp_1_1 h4 | with_reducible have pA := kp_0_0 h4 | with_reducible have pA := kp_0_1 h4 | with_reducible have pA := kp_0_2 h4 | with_reducible have pA := kpo2 h4 pA | with_reducible have pA := kpo1 h4 pA | with_reducible have pA := KeepP.use h4 pA | skip)))
    all_goals
      as_aux_lemma =>
        go_wp2_with fail
        go_meet
        case rel =>
          first
            | (have hpA := pA; with_reducible refine own_meetC (wp := w5) ?_ rfl rfl rfl hR f2 g4 o4 g5 hpA ?_ hK; (focus (with_reducible rfl)); omega)
            | (with_reducible refine own_meet2C (wp := w5) ?_ rfl rfl rfl hR f2 g4 o4 g5 hK; with_reducible rfl)
  case rest =>
    obtain ⟨Ai, ci, cy, gy, sz, pb, s, Ap, cp, rfl, rfl, rfl, hin, hcnt, hsg, hgn, hcy, hcy2, hpb, hpn, hkp, hfc⟩ := hcut
    have hzc := Below.size hfc
    have hgl := hcnt.lt
    have hpl := (Array.getElem?_eq_some_iff.1 hpb).1
    have HIN := Lib.hid hin
    have HCN := Lib.hid hcnt
    have HPB := Lib.hid hpb
    have HKP := Lib.hid hkp
    have HFC := Lib.hid hfc
    have HBC := Lib.hid (HB1.out.trans (Below.mono hfc HB1.out.size))
    have d0 := fr.cell hfc b0
    have d1 := fr.cell hfc b1
    have d2 := fr.cell hfc b2
    have p0 : wc.cell? ⟨pb, 0, none⟩ = some (.int .i64 ops) := cell_of_row wc pb 0 _ _ _ hpb
    have p1 : wc.cell? ⟨pb, 1, none⟩ = some (.int .i64 room) := cell_of_row wc pb 1 _ _ _ hpb
    have p2 : wc.cell? ⟨pb, 2, none⟩ = some (.slice Ap zs.length cp) := cell_of_row wc pb 2 _ _ _ hpb
    have HOF := Lib.hid (of_e7 (ops := ops) (room := room) (hin.files hm48) hkp.ints hl HE.out)
    have HROF : Hid (∀ w4, Below wc.heap.size wc w4 → Calls Try.prog 17 #[.slice A n c, .agg #[.int .i64 ops, .int .i64 room, .slice Ak zs.length ck]] w4 fun e1 w' => ∃ q, e1 = .returned (.tuple #[q, .int .i64 e]) ∧ (e ≠ 0 → q = .pointer none) ∧ (e = 0 → ∃ r, q = .pointer (some ⟨r, 0, none⟩) ∧ RefP w' w4.heap.size (orNew (fun i => i < w.heap.size) w4.heap.size) r (ofK fs ops room zs)) ∧ Below w4.heap.size w4 w') := Lib.hid fun w4 hb4 => by
      have hbw := HBC.out.trans (hb4.mono HBC.out.size)
      have := rof_any _ _ (.slice A n c) fs ops room (.slice Ak zs.length ck) zs w4 (HV.out.below flFine hbw) (HZ.out.below hbw)
      rwa [HE.out] at this
    clear hin hcnt hpb hkp hfc b0 b1 b2
    by_cases h0 : e = 0
    · subst h0
      go_upto_region 8 with (first
        | (go_at_call 9; refine HOF.out.mono ?_; rintro r w4 ⟨q4, rfl, _, hq4, hb4⟩; obtain ⟨p, rfl, hd4⟩ := hq4 (by trivial); have v0 := fr.cell hb4 d0; have v1 := fr.cell hb4 d1; have v2 := fr.cell hb4 d2)
        | (go_at_call 17; refine (HROF.out w4 hb4).mono ?_; rintro r w5 ⟨q5, rfl, _, hq5, hb5⟩; obtain ⟨r5, rfl, hr5⟩ := hq5 (by trivial)))
      have hz4 := hb4.size
      have hz5 := hb5.size
      have hzn := HB1.out.size
      have hj5 : J2 w5 w1.heap.size (fun i => w1.heap.size ≤ i ∧ i < wc.heap.size) p r5 (ofK fs ops room zs) (ofK fs ops room zs) := by
        refine ⟨by omega, fun i hi => ⟨hi.1, by have := hi.2; omega⟩, fun i => wc.heap.size ≤ i ∧ i < w4.heap.size, fun i => orNew (fun i => i < w.heap.size) w4.heap.size i ∧ i < w5.heap.size, (hd4.mono fun i h1 h2 => ⟨h1, h2⟩).below hb5, (hr5.rebase (by omega)).mono fun i hi h => ⟨h, hi⟩, fun i hi => ⟨by have := hi.1; omega, by have := hi.2; omega, fun h => by have := h.2; have := hi.1; omega⟩, fun i hi => ⟨hi.2, fun h => ?_⟩, fun i hi h => ?_⟩
        · rcases hi.1 with h' | h'
          · have := h.1; omega
          · have := h.2; omega
        · rcases h.1 with h | h
          · have := hi.1; omega
          · have := hi.2; omega
      have HINV := Lib.hid (inv_of HE.out (by have := (fsum_le fs).2; have := HFS.out; omega) ops room zs)
      have hrk : (ofK fs ops room zs).room ≤ 9223372036854775807 := hroom
      have hN : (fs.length + 1) * 48 ≤ 140737488355328 := by have := (fsum_le fs).1; have := HFS.out; omega
      have hN0 : fs.length * 48 ≤ 140737488355328 := hm48
      have hBB : tot fs + b.length ≤ 1099511627776 := by have := (fsum_le fs).2; have := HFS.out; omega
      have HIV := Lib.hid (inv_append (x := [111, 119, 110]) (b := b) HINV.out hBB)
      obtain ⟨k0, hk0⟩ : ∃ k0, ofK fs ops room zs = k0 := ⟨_, rfl⟩
      rw [hk0] at hj5 HINV hrk HIV
      have HJ5 := Lib.hid hj5
      have hbyt : Byt w5 (fun i => w1.heap.size ≤ i ∧ i < wc.heap.size) (.slice (some ⟨gy, 0, none⟩) b.length cy) b := (((HCN.out.byt (by omega) hcy2 (by omega)).below hb4).below hb5).mono fun i hi => by rw [hi]; exact ⟨hgn, hgl⟩
      have HDA := Lib.hid (dappend_x [111, 119, 110] _ b hj5 hbyt (by decide) HINV.out hN0 hBB (by omega))
      have HRA : Hid (∀ w6, J2 w6 w1.heap.size (fun i => w1.heap.size ≤ i ∧ i < wc.heap.size) p r5 (appendK k0 [111, 119, 110] b) k0 → Only (Wr w1.heap.size fun i => w1.heap.size ≤ i ∧ i < wc.heap.size) w5 w6 → _) := Lib.hid fun w6 hj ho => rappend_j [111, 119, 110] (.slice Ab b.length cb) b hj (byt_wr (((HBV1.out.below HFC.out).below hb4).below hb5 |>.mono fun i hi => Nat.lt_trans hi hzw) ho) (by decide) HINV.out hN hBB (by omega) hrk
      obtain ⟨e1, he1⟩ : ∃ e1, appendE k0 [111, 119, 110] b = e1 := ⟨_, rfl⟩
      obtain ⟨k1, hk1⟩ : ∃ k1, appendK k0 [111, 119, 110] b = k1 := ⟨_, rfl⟩
      rw [he1, hk1] at HDA
      rw [hk1] at HIV
      rw [hk1, he1] at HRA
      have HB5 := Lib.hid (hb4.trans (hb5.mono hz4))
      clear hd4 hr5 hq4 hq5 hj5 hbyt hk0 he1 hk1 d0 d1 d2 v0 v1 v2 HOF HROF
      have hcyi : (b.length : Int) ≤ cy := by omega
      go_upto_region 10 with (first
        | (go_at_call 15; refine HDA.out.mono ?_; rintro r6 w6 ⟨rfl, hj6, ho6⟩)
        | (go_at_call 18; refine (HRA.out w6 hj6 ho6).mono ?_; rintro r7 w7 ⟨rfl, hj7, ho7⟩))
      have hz6 := ho6.size
      have hz7 := ho7.size
      have hX : ∀ i, w1.heap.size ≤ i → i < wc.heap.size → w7.heap[i]? = wc.heap[i]? := fun i h1 h2 =>
        (ho7.block i (by omega) fun h => h.2 ⟨h1, h2⟩).trans ((ho6.block i (by omega) fun h => h.2 ⟨h1, h2⟩).trans (HB5.out.block i h2))
      have HX := Lib.hid hX
      have HB7 := Lib.hid (((HBC.out.trans (HB5.out.mono HBC.out.size)).trans ((ho6.wr (by omega)).mono (Nat.le_of_lt hzw))).trans ((ho7.wr (by omega)).mono (Nat.le_of_lt hzw)))
      have HJ7 := Lib.hid hj7
      obtain ⟨T1, hT1⟩ : ∃ T1 : Nat → Prop, T1 = fun i => w1.heap.size ≤ i ∧ i < s ∧ Loose wc i := ⟨_, rfl⟩
      have hin7 : RowF w7 w1.heap.size T1 (.slice Ai n ci) fs := by
        have h := HIN.out.kept (w' := w7) (by omega) (fun g hg => hX g (HIN.out.lt hg).1 (HIN.out.lt hg).2) fun i _ hi => hX i hi.1 (by have := hi.2.1; omega)
        rw [hT1]
        exact h
      have hL1 : ∀ i, T1 i → i < w7.heap.size → Loose w7 i := fun i hi _ => by rw [hT1] at hi; exact hi.2.2.of_eq (hX i hi.1 (by have := hi.2.1; omega))
      have hrow1 : ∀ g, (Value.slice Ai n ci).ownBlock = some g → ¬ T1 g := fun g hg ht => by rw [hT1] at ht; exact rowF_loose HIN.out hg ht.2.2
      have HIN7 := Lib.hid hin7
      have HL1 := Lib.hid hL1
      have HR1 := Lib.hid hrow1
      have HT1 := Lib.hid hT1
      clear hj6 hj7 ho6 ho7 hX hin7 hL1 hrow1 hT1 HDA HRA HJ5
      go_wp2
      go_loopw [65] (fun t wr => ∃ i : Nat, i ≤ n ∧ t = .int .i64 i ∧ Spoil T1 w7 wr) (fun t _ => n - (intOf t).toNat)
      case atStart => exact ⟨0, Nat.zero_le _, rfl, Spoil.refl _ _⟩
      case round =>
        obtain ⟨i, hi, rfl, hsp⟩ := hrel
        have HSP := Lib.hid hsp
        clear hsp
        by_cases hin : i < n
        · obtain ⟨f, hf⟩ : ∃ f, fs[i]? = some f := ⟨_, List.getElem?_eq_getElem (by rw [HN.out]; exact hin)⟩
          obtain ⟨g, c2, Ad, dd, bs, hE, x1, hbs, hbl', _⟩ := spoil_file HIN7.out HR1.out HSP.out hf
          rw [HN.out] at hE
          have hgT := HR1.out g (by rw [hE]; rfl)
          cases hE
          have hgl1 : g < wr.heap.size := World.block_lt_of_cell? wr _ x1
          have hLr : ∀ i, T1 i → i < wr.heap.size → Loose wr i := fun j hj hl => HSP.out.loose j (HL1.out j hj (by rw [HT1.out] at hj; have := hj.2.1; omega))
          obtain ⟨m, hm⟩ : ∃ m, bs.length = m := ⟨_, rfl⟩
          rw [hm] at x1 hbs hbl'
          have HM := Lib.hid hm
          have HBS := Lib.hid hbs
          have HLR := Lib.hid hLr
          obtain ⟨wb, hwb⟩ : ∃ wb, wb = wr := ⟨_, rfl⟩
          rw [← hwb] at x1 HBS HLR HSP hgl1 ⊢
          clear hf hbs hm hLr hwb
          go_wp2
          go_loopw [74] (fun t wr => ∃ j : Nat, j ≤ m ∧ t = .int .i64 j ∧ Spoil T1 wb wr) (fun t _ => m - (intOf t).toNat)
          case atStart => exact ⟨0, Nat.zero_le _, rfl, Spoil.refl _ _⟩
          case round =>
            obtain ⟨j, hj, rfl, hsp⟩ := hrel
            have HS2 := Lib.hid hsp
            have y1 : wr.cell? ⟨g, i * 3 + 1, none⟩ = _ := (World.cell?_of_block (a := ⟨g, i * 3 + 1, none⟩) (hsp.only.block g hgl1 hgT)).trans x1
            clear hsp
            by_cases hjm : j < m
            · obtain ⟨bb, o, ch, rfl, hTb, hLo, hcell⟩ := spoil_at HBS.out HS2.out HLR.out (k := j) (by rw [HM.out]; exact hjm)
              have HTB := Lib.hid hTb
              have HLO := Lib.hid hLo
              have hfz := hLo.frozen (p := o + j)
              have hne : g ≠ bb := fun e => hgT (e ▸ hTb)
              unfold bcell at hcell
              have HU := Lib.hid (u8_next ch)
              clear hTb hLo
              go_wp2
              go_region
              all_goals
                go_wp2
                refine ⟨⟨j + 1, by omega, by go_num, ?_⟩, by simp [intOf]; omega⟩
                rw [HU.out]
                exact (HS2.out.trans (Spoil.store HTB.out HLO.out _)).trans Spoil.drew
            · obtain rfl : j = m := by omega
              go_wp2
              exact ⟨⟨i + 1, by omega, by go_num, HSP.out.trans HS2.out⟩, by simp [intOf]; omega⟩
        · obtain rfl : i = n := by omega
          obtain ⟨wA, hwA⟩ : ∃ wA, wA = wr := ⟨_, rfl⟩
          rw [← hwA] at HSP ⊢
          clear hwA
          have hT1X : ∀ j, T1 j → w1.heap.size ≤ j ∧ j < wc.heap.size := fun j hj => by rw [HT1.out] at hj; exact ⟨hj.1, by have := hj.2.1; omega⟩
          have HJA := Lib.hid (HJ7.out.spoil HSP.out.only hT1X)
          have hpT : ¬ T1 pb := fun ht => by
            rw [HT1.out] at ht
            obtain ⟨cs', h2⟩ := ht.2.2
            rw [HPB.out] at h2
            cases h2
          have hyT : ¬ T1 gy := fun ht => by rw [HT1.out] at ht; have := ht.2.1; omega
          have hXA : ∀ i, w1.heap.size ≤ i → i < wc.heap.size → ¬ T1 i → wA.heap[i]? = wc.heap[i]? := fun i h1 h2 h3 => (HSP.out.only.block i (by omega) h3).trans (HX.out i h1 h2)
          have HCA := Lib.hid (HCN.out.kept (hXA gy hgn hgl hyT))
          have hpbA : wA.heap[pb]? = _ := (hXA pb hpn hpl hpT).trans HPB.out
          have a2 : wA.cell? ⟨pb, 2, none⟩ = some (.slice Ap zs.length cp) := cell_of_row wA pb 2 _ _ _ hpbA
          have hpl2 := (Array.getElem?_eq_some_iff.1 hpbA).1
          have HB7A := Lib.hid (HB7.out.trans (HSP.out.only.below HB7.out.size fun j hj => by have := hT1X j hj; omega))
          obtain ⟨nz, hnz⟩ : ∃ nz, zs.length = nz := ⟨_, rfl⟩
          have hnz8 : nz ≤ 140737488355328 := by omega
          obtain ⟨gK, oK, hK⟩ : ∃ gK oK, 0 < nz → Ap = some ⟨gK, oK, none⟩ ∧ w1.heap.size ≤ gK ∧ gK < wc.heap.size ∧ Wiped wA gK oK nz ∧ gK ≠ pb ∧ gK ≠ gy := by
            rcases Nat.eq_zero_or_pos nz with h | h
            · exact ⟨0, 0, fun h' => by omega⟩
            · obtain ⟨A', c', hE, h1, h2, h3⟩ := HKP.out
              injection hE with e1 _ _
              obtain ⟨g, o, cs, q1, q2, q3, q4⟩ := h3 (by omega)
              have hlt := (Array.getElem?_eq_some_iff.1 q3).1
              have hTg : ¬ T1 g := fun ht => by
                rw [HT1.out] at ht
                obtain ⟨cs', h2⟩ := ht.2.2
                rw [q3] at h2
                cases h2
              refine ⟨g, o, fun _ => ⟨e1.trans q1, q2, hlt, ⟨cs, (hXA g q2 hlt hTg).trans q3, ?_⟩, fun e => ?_, fun e => ?_⟩⟩
              · obtain ⟨z, hz⟩ : ∃ z, zs[nz - 1]? = some z := ⟨_, List.getElem?_eq_getElem (by omega)⟩
                have := (Array.getElem?_eq_some_iff.1 (q4 _ _ hz)).1
                omega
              · subst e; rw [HPB.out] at q3; cases q3
              · subst e; obtain ⟨cur, h5, _⟩ := HCN.out; rw [h5] at q3; cases q3
          have HK := Lib.hid hK
          rw [hnz] at a2
          clear hK hXA hpbA hpT HIN7 HL1 HR1 HSP HJ7 HX hnz
          go_wp2
          go_loopw [98] (fun t wr => ∃ j : Nat, j ≤ nz ∧ t = .int .i64 j ∧ Only (fun i => i = gK ∧ 0 < nz) wA wr ∧ (0 < nz → Wiped wr gK oK nz)) (fun t _ => nz - (intOf t).toNat)
          case atStart => exact ⟨0, Nat.zero_le _, rfl, Only.refl _ _, fun h => (HK.out h).2.2.2.1⟩
          case round =>
            obtain ⟨j, hj, rfl, hon, hwi⟩ := hrel
            have HON := Lib.hid hon
            have HWI := Lib.hid hwi
            have y2 : wr.cell? ⟨pb, 2, none⟩ = _ := (World.cell?_of_block (a := ⟨pb, 2, none⟩) (hon.block pb hpl2 fun h => (HK.out h.2).2.2.2.2.1 h.1.symm)).trans a2
            clear hon hwi
            by_cases hjn : j < nz
            · obtain ⟨k1', k2', k3', _, k5', k6'⟩ := HK.out (by omega)
              subst k1'
              obtain ⟨⟨uu, hu⟩, hfz⟩ := (HWI.out (by omega)).at_ hjn
              go_wp2
              exact ⟨⟨j + 1, by omega, by go_num, HON.out.setCell (p := ⟨gK, oK + j, none⟩) ⟨rfl, by omega⟩ _, fun _ => (HWI.out (by omega)).step⟩, by simp [intOf]; omega⟩
            · obtain rfl : j = nz := by omega
              obtain ⟨wB, hwB⟩ : ∃ wB, wB = wr := ⟨_, rfl⟩
              rw [← hwB] at HON y2 ⊢
              clear hwB HWI
              have HJB := Lib.hid (HJA.out.spoil HON.out fun i hi => by rw [hi.1]; have := HK.out hi.2; exact ⟨this.2.1, this.2.2.1⟩)
              have HCB := Lib.hid (HCA.out.kept (HON.out.block gy HCA.out.lt fun h => (HK.out h.2).2.2.2.2.2 h.1.symm))
              have HBB := Lib.hid (HB7A.out.trans (HON.out.below HB7A.out.size fun i hi => by rw [hi.1]; have := (HK.out hi.2).2.1; omega))
              clear HJA HCA a2 y2 HB7A HON HK
              obtain ⟨nb, hnb⟩ : ∃ nb, b.length + 1 = nb := ⟨_, rfl⟩
              have hnbl : (b ++ [7] : List UInt8).length = nb := by rw [List.length_append, List.length_singleton]; exact hnb
              have HNB := Lib.hid hnbl
              have hnb2 : nb ≤ 1048577 := by omega
              go_upto_region 24 with (fail)
              rw [hnb]
              clear hnbl
              go_wp2
              go_loopw [108] (fun t wr => ∃ j : Nat, j ≤ nb ∧ t = .int .i64 j ∧ Only (fun i => i = gy) wB wr ∧ Counted wr gy sz (b ++ [7]) j) (fun t _ => nb - (intOf t).toNat)
              case atStart => exact ⟨0, Nat.zero_le _, rfl, Only.refl _ _, HCB.out⟩
              case round =>
                obtain ⟨j2, hj2, rfl, hon, hct⟩ := hrel
                have HON := Lib.hid hon
                have HCT := Lib.hid hct
                clear hon hct
                by_cases hjb : j2 < nb
                · obtain ⟨x, hx⟩ : ∃ x, (b ++ [7] : List UInt8)[j2]? = some x := ⟨_, List.getElem?_eq_getElem (by rw [HNB.out]; exact hjb)⟩
                  obtain ⟨hce, hfz⟩ := HCT.out.at_ hx
                  rw [if_neg (Nat.lt_irrefl _)] at hce
                  have HXX := Lib.hid hx
                  unfold bcell at hce
                  have HU := Lib.hid (u8_next x)
                  clear hx
                  go_wp2
                  refine ⟨⟨j2 + 1, by omega, by go_num, HON.out.setCell (p := ⟨gy, j2, none⟩) rfl _, ?_⟩, by simp [intOf]; omega⟩
                  rw [HU.out]
                  exact HCT.out.step HXX.out
                · obtain rfl : j2 = nb := by omega
                  obtain ⟨wC, hwC⟩ : ∃ wC, wC = wr := ⟨_, rfl⟩
                  rw [← hwC] at HON HCT ⊢
                  clear hwC
                  have HJC := Lib.hid (HJB.out.spoil HON.out fun i hi => by rw [hi]; exact ⟨hgn, hgl⟩)
                  have hlast := HCT.out.at_ (i := b.length) (x := 7) (by rw [List.getElem?_append_right (Nat.le_refl _), Nat.sub_self]; rfl)
                  rw [if_pos (by omega)] at hlast
                  have HLA := Lib.hid hlast.1
                  have HBC2 := Lib.hid (HBB.out.trans (HON.out.below HBB.out.size fun i hi => by rw [hi]; omega))
                  have hgyC := HCT.out.lt
                  clear hlast HCT HJB HBB HON
                  have hbn : b.length < j2 := by omega
                  have hl8 : bcell (7 + 1) = .int .u8 8 := rfl
                  rw [hl8] at HLA
                  have HDU := Lib.hid (ddump_j HJC.out HIV.out hN)
                  have hzC := HBC2.out.size
                  have hnC := HJC.out.1
                  clear hl8
                  go_upto_region 30 with (go_at_call 12; refine HDU.out.mono ?_; rintro r8 w8 ⟨vl, rfl, hown, hb8⟩; obtain ⟨Al, cl, rfl⟩ := OwnRows.fo hown)
                  have HJ8 := Lib.hid (HJC.out.more hb8)
                  have hz8 := hb8.size
                  obtain ⟨T4, hT4⟩ : ∃ T4 : Nat → Prop, T4 = fun i => wC.heap.size ≤ i ∧ (Value.slice Al k1.fs.length cl).ownBlock ≠ some i ∧ Loose w8 i := ⟨_, rfl⟩
                  have hrow8 : RowF w8 wC.heap.size T4 (.slice Al k1.fs.length cl) k1.fs := by rw [hT4]; exact RowF.of_own hown
                  have hR8 : ∀ g, (Value.slice Al k1.fs.length cl).ownBlock = some g → ¬ T4 g := fun g hg ht => by rw [hT4] at ht; exact ht.2.1 hg
                  have hL8 : ∀ i, T4 i → i < w8.heap.size → Loose w8 i := fun i hi _ => by rw [hT4] at hi; exact hi.2.2
                  have hT4b : ∀ i, T4 i → wC.heap.size ≤ i ∧ i < w8.heap.size := fun i hi => by rw [hT4] at hi; exact ⟨hi.1, hi.2.2.lt⟩
                  obtain ⟨nl, hnl⟩ : ∃ nl, k1.fs.length = nl := ⟨_, rfl⟩
                  have hnlm : nl ≤ 9223372036854775807 := by have := HIV.out.many; omega
                  rw [hnl] at hrow8 hR8 ⊢
                  have HNL := Lib.hid hnl
                  have HROW8 := Lib.hid hrow8
                  have HR8 := Lib.hid hR8
                  have HL8 := Lib.hid hL8
                  have HT4 := Lib.hid hT4b
                  have HLA8 := Lib.hid (fr.cell hb8 HLA.out)
                  have HB8 := Lib.hid (HBC2.out.trans (hb8.mono hzC))
                  clear hown hb8 hT4 hrow8 hR8 hL8 hT4b hnl HDU HJC HLA
                  go_wp2
                  go_loopw [124] (fun t wr => ∃ i : Nat, i ≤ nl ∧ t = .int .i64 i ∧ Spoil T4 w8 wr) (fun t _ => nl - (intOf t).toNat)
                  case atStart => exact ⟨0, Nat.zero_le _, rfl, Spoil.refl _ _⟩
                  case round =>
                    obtain ⟨i3, hi3, rfl, hsp⟩ := hrel
                    have HSP := Lib.hid hsp
                    clear hsp
                    by_cases hin3 : i3 < nl
                    · obtain ⟨f, hf⟩ : ∃ f, k1.fs[i3]? = some f := ⟨_, List.getElem?_eq_getElem (by rw [HNL.out]; exact hin3)⟩
                      obtain ⟨g, c2, Ad, dd, bs, hE, x1, hbs, hbl', _⟩ := spoil_file HROW8.out HR8.out HSP.out hf
                      rw [HNL.out] at hE
                      have hgT := HR8.out g (by rw [hE]; rfl)
                      cases hE
                      have hgl1 : g < wr.heap.size := World.block_lt_of_cell? wr _ x1
                      have hLr : ∀ i, T4 i → i < wr.heap.size → Loose wr i := fun j hj hl => HSP.out.loose j (HL8.out j hj (HT4.out j hj).2)
                      obtain ⟨m, hm⟩ : ∃ m, bs.length = m := ⟨_, rfl⟩
                      rw [hm] at x1 hbs hbl'
                      have HM := Lib.hid hm
                      have HBS := Lib.hid hbs
                      have HLR := Lib.hid hLr
                      obtain ⟨wb, hwb⟩ : ∃ wb, wb = wr := ⟨_, rfl⟩
                      rw [← hwb] at x1 HBS HLR HSP hgl1 ⊢
                      clear hf hbs hm hLr hwb
                      go_wp2
                      go_loopw [133] (fun t wr => ∃ j : Nat, j ≤ m ∧ t = .int .i64 j ∧ Spoil T4 wb wr) (fun t _ => m - (intOf t).toNat)
                      case atStart => exact ⟨0, Nat.zero_le _, rfl, Spoil.refl _ _⟩
                      case round =>
                        obtain ⟨j, hj, rfl, hsp⟩ := hrel
                        have HS2 := Lib.hid hsp
                        have y1 : wr.cell? ⟨g, i3 * 3 + 1, none⟩ = _ := (World.cell?_of_block (a := ⟨g, i3 * 3 + 1, none⟩) (hsp.only.block g hgl1 hgT)).trans x1
                        clear hsp
                        by_cases hjm : j < m
                        · obtain ⟨bb, o, ch, rfl, hTb, hLo, hcell⟩ := spoil_at HBS.out HS2.out HLR.out (k := j) (by rw [HM.out]; exact hjm)
                          have HTB := Lib.hid hTb
                          have HLO := Lib.hid hLo
                          have hfz := hLo.frozen (p := o + j)
                          have hne : g ≠ bb := fun e => hgT (e ▸ hTb)
                          unfold bcell at hcell
                          have HU := Lib.hid (u8_next ch)
                          clear hTb hLo
                          go_wp2
                          go_region
                          all_goals
                            go_wp2
                            refine ⟨⟨j + 1, by omega, by go_num, ?_⟩, by simp [intOf]; omega⟩
                            rw [HU.out]
                            exact (HS2.out.trans (Spoil.store HTB.out HLO.out _)).trans Spoil.drew
                        · obtain rfl : j = m := by omega
                          go_wp2
                          exact ⟨⟨i3 + 1, by omega, by go_num, HSP.out.trans HS2.out⟩, by simp [intOf]; omega⟩
                    · obtain rfl : i3 = nl := by omega
                      obtain ⟨wD, hwD⟩ : ∃ wD, wD = wr := ⟨_, rfl⟩
                      rw [← hwD] at HSP ⊢
                      clear hwD
                      have HJD := Lib.hid (HJ8.out.spoil HSP.out.only fun i hi => .inr (HT4.out i hi))
                      have HLAD := Lib.hid ((World.cell?_of_block (a := ⟨gy, b.length, none⟩) (HSP.out.only.block gy (by omega) fun ht => by have := (HT4.out gy ht).1; omega)).trans HLA8.out)
                      have HBD := Lib.hid (HB8.out.trans (HSP.out.only.below HB8.out.size fun i hi => by have := (HT4.out i hi).1; omega))
                      have hzD := HSP.out.only.size
                      have HRE := Lib.hid (dread_j [111, 119, 110] HJD.out (by decide))
                      obtain ⟨bs9, hbs9⟩ : ∃ bs, (if readyE k1 [[111, 119, 110]] = 0 then readD k1 [111, 119, 110] else []) = bs := ⟨_, rfl⟩
                      obtain ⟨e9, he9⟩ : ∃ e, readyE k1 [[111, 119, 110]] = e := ⟨_, rfl⟩
                      rw [hbs9, he9] at HRE
                      clear hbs9 he9 HSP HROW8 HR8 HL8 HT4 HLA8 HB8 HJ8
                      go_upto_region 40 with (go_at_call 19; refine HRE.out.mono ?_; rintro r9 w9 ⟨vz, rfl, hvz, hb9⟩; obtain ⟨Az, cz, rfl⟩ := slice_form hvz.byt)
                      have HJ9 := Lib.hid (HJD.out.more hb9)
                      have hz9 := hb9.size
                      obtain ⟨T5, hT5⟩ : ∃ T5 : Nat → Prop, T5 = fun i => wD.heap.size ≤ i ∧ Loose w9 i := ⟨_, rfl⟩
                      have hv5 : Byt w9 T5 (.slice Az bs9.length cz) bs9 := by rw [hT5]; exact hvz
                      have hL5 : ∀ i, T5 i → i < w9.heap.size → Loose w9 i := fun i hi _ => by rw [hT5] at hi; exact hi.2
                      have hT5b : ∀ i, T5 i → wD.heap.size ≤ i ∧ i < w9.heap.size := fun i hi => by rw [hT5] at hi; exact ⟨hi.1, hi.2.lt⟩
                      obtain ⟨m9, hm9⟩ : ∃ m, bs9.length = m := ⟨_, rfl⟩
                      have hm9b : m9 ≤ 140737488355328 := by rw [← hm9]; exact hv5.len
                      rw [hm9] at hv5 ⊢
                      have HM9 := Lib.hid hm9
                      have HV5 := Lib.hid hv5
                      have HL5 := Lib.hid hL5
                      have HT5 := Lib.hid hT5b
                      have HLA9 := Lib.hid (fr.cell hb9 HLAD.out)
                      have HB9 := Lib.hid (HBD.out.trans (hb9.mono HBD.out.size))
                      clear hvz hb9 hT5 hv5 hL5 hT5b hm9 HRE HJD HLAD HBD
                      go_wp2
                      go_loopw [161] (fun t wr => ∃ j : Nat, j ≤ m9 ∧ t = .int .i64 j ∧ Spoil T5 w9 wr) (fun t _ => m9 - (intOf t).toNat)
                      case atStart => exact ⟨0, Nat.zero_le _, rfl, Spoil.refl _ _⟩
                      case round =>
                        obtain ⟨j, hj, rfl, hsp⟩ := hrel
                        have HS2 := Lib.hid hsp
                        clear hsp
                        by_cases hjm : j < m9
                        · obtain ⟨bb, o, ch, rfl, hTb, hLo, hcell⟩ := spoil_at HV5.out HS2.out HL5.out (k := j) (by rw [HM9.out]; exact hjm)
                          have HTB := Lib.hid hTb
                          have HLO := Lib.hid hLo
                          have hfz := hLo.frozen (p := o + j)
                          unfold bcell at hcell
                          have HU := Lib.hid (u8_next ch)
                          clear hTb hLo
                          go_wp2
                          refine ⟨⟨j + 1, by omega, by go_num, ?_⟩, by simp [intOf]; omega⟩
                          rw [HU.out]
                          exact HS2.out.trans (Spoil.store HTB.out HLO.out _)
                        · obtain rfl : j = m9 := by omega
                          obtain ⟨wE, hwE⟩ : ∃ wE, wE = wr := ⟨_, rfl⟩
                          rw [← hwE] at HS2 ⊢
                          clear hwE
                          have HJE := Lib.hid ((HJ9.out.spoil HS2.out.only fun i hi => .inr (HT5.out i hi)).free)
                          have hla : wE.cell? ⟨gy, b.length, none⟩ = some (.int .u8 8) := (World.cell?_of_block (a := ⟨gy, b.length, none⟩) (HS2.out.only.block gy (by omega) fun ht => by have := (HT5.out gy ht).1; omega)).trans HLA9.out
                          have HBE := Lib.hid (HB9.out.trans (HS2.out.only.below HB9.out.size fun i hi => by have := (HT5.out i hi).1; omega))
                          have hf9 : fr wE wE.drew := fr.refl.drew
                          obtain ⟨A9, c9, y9, hfl9⟩ := HJE.out.files HIV.out hN
                          have hk48 : k1.fs.length * 48 ≤ 140737488355328 := by have := HIV.out.many; omega
                          have HDU9 : Hid (Calls Try.prog 12 #[.pointer (some ⟨p, 0, none⟩)] wE.drew fun e w' => ∃ A c, e = .returned (.slice A k1.fs.length c) ∧ OwnFiles w' wE.heap.size (.slice A k1.fs.length c) k1.fs ∧ fr wE w') := Lib.hid ((ddump_j (HJE.out.below hf9) HIV.out hN).mono fun e w' h => by
                            obtain ⟨v, h1, h2, h3⟩ := h
                            obtain ⟨A, c, rfl⟩ := OwnRows.fo h2
                            exact ⟨A, c, h1, h2, fr.step hf9 h3⟩)
                          clear HS2 HJ9 HT5 HL5 HV5 HLA9 HB9
                          have l0 := fr.cell hf9 hla
                          have f0 := fr.cell hf9 y9
                          go_upto_region 45 with (fail)
                          go_region_held3 (fun w' => w'.cell? ⟨gy, b.length, none⟩ = some (.int .u8 8) ∧ w'.cell? ⟨r5, 0, none⟩ = some (.slice A9 k1.fs.length c9))
                            (first
                              | with_reducible exact And.intro l0 f0
                              | with_reducible exact And.intro l1 t0
                              | with_reducible exact And.intro l2 u0')
                            (first
                              | (go_split_ands; go_at_call 12; (with_reducible (refine HDU9.out.mono ?_)); rintro e5 w11 ⟨A5, c5, rfl, hown, hf5⟩; have l1 := fr.cell hf5 hla; have t0 := fr.cell hf5 y9)
                              | (go_split_ands; go_at_call 16; (with_reducible (refine (fsame_any (fun _ => True) (fun _ => True) (.slice A5 k1.fs.length c5) (.slice A9 k1.fs.length c9) k1.fs w11 (OwnRows.fsl hown hk48) (fr.fls hf5 hfl9)).mono ?_)); rintro e6 w12 ⟨rfl, hb12⟩; have l2 := fr.cell hb12 l1; have u0' := fr.cell hb12 t0))
                          all_goals
                            have HJ12 := Lib.hid ((HJE.out.below hf5).below hb12)
                            have HB12 := Lib.hid (HBE.out.trans ((Below.mono hf5 HBE.out.size).trans (hb12.mono (Nat.le_trans HBE.out.size (Below.size hf5)))))
                            have HRR := Lib.hid (rrevive_j (-1) 0 (.slice none 0 0) [] HJ12.out (IntsIn.nil _ _) HIV.out hN hBB)
                            have HIV2 := Lib.hid (inv_revive HIV.out hBB (-1) 0 [])
                            have HDR : Hid (∀ (k2 : Pk) (wa w2 : World), J2 wa w1.heap.size (fun _ => False) p r5 k1 k2 → fr wa w2 → Calls Try.prog 13 #[.pointer (some ⟨p, 0, none⟩), .agg #[.int .i64 (-1), .int .i64 0, .slice none 0 0]] w2 fun e1 w' => e1 = .returned (.int .i64 0) ∧ J2 w' w1.heap.size (fun _ => False) p r5 (reviveK k1 (-1) 0 []) k2 ∧ Only (Wr w1.heap.size fun _ => False) w2 w' ∧ ∀ u, w2.cell? ⟨r5, 0, none⟩ = some u → w'.cell? ⟨r5, 0, none⟩ = some u) := Lib.hid fun k2 wa w2 hj hb => drevive_j (-1) 0 (.slice none 0 0) [] hj hb (IntsIn.nil _ _) (by simp) HIV.out hN
                            obtain ⟨k2, hk2⟩ : ∃ k2, reviveK k1 (-1) 0 [] = k2 := ⟨_, rfl⟩
                            rw [hk2] at HRR HIV2 HDR
                            have hk248 : k2.fs.length * 48 ≤ 140737488355328 := by have := HIV2.out.many; omega
                            have HDU2 : Hid (∀ (w4 : World), J2 w4 w1.heap.size (fun _ => False) p r5 k2 k2 → Calls Try.prog 12 #[.pointer (some ⟨p, 0, none⟩)] w4 fun e w' => ∃ A c, e = .returned (.slice A k2.fs.length c) ∧ OwnFiles w' w4.heap.size (.slice A k2.fs.length c) k2.fs ∧ Below w4.heap.size w4 w') := Lib.hid fun w4 hj => (ddump_j hj HIV2.out hN).mono fun e w' h => by
                              obtain ⟨v, h1, h2, h3⟩ := h
                              obtain ⟨A, c, rfl⟩ := OwnRows.fo h2
                              exact ⟨A, c, h1, h2, h3⟩
                            clear hk2 l0 l1 l2 f0 t0 u0' hown hf5 hb12 hfl9 y9 hla HDU9 HJE HBE hf9
                            go_upto_region 48 with (go_at_call 20; refine HRR.out.mono ?_; rintro e13 w13 ⟨rfl, hj13, ho13⟩)
                            have HJ13 := Lib.hid hj13
                            have HB13 := Lib.hid (HB12.out.trans ((ho13.wr HJ12.out.1).mono (Nat.le_of_lt hzw)))
                            have hg0 : fr w13 w13.drew := fr.refl.drew
                            obtain ⟨A14, c14, y14, hfl14⟩ := hj13.files HIV2.out hN
                            have f14 := fr.cell hg0 y14
                            clear hj13 ho13 HRR HJ12
                            go_region_held3 (fun w' => w'.cell? ⟨r5, 0, none⟩ = some (.slice A14 k2.fs.length c14))
                              (first
                                | with_reducible exact f14
                                | with_reducible exact y15
                                | with_reducible exact y16
                                | with_reducible exact y17)
                              (first
                                | (go_split_ands; go_at_call 13; (with_reducible (refine (HDR.out k2 w13 w13.drew HJ13.out hg0).mono ?_)); rintro e15 w15 ⟨rfl, hj15, ho15, hc15⟩; have y15 := hc15 _ f14; have hfl15 := hj15.files_at HIV2.out hN y15)
                                | (go_split_ands; go_at_call 12; (with_reducible (refine (HDU2.out w15 hj15).mono ?_)); rintro e16 w16 ⟨A16, c16, rfl, hown, hb16⟩; have y16 := fr.cell hb16 y15)
                                | (go_split_ands; go_at_call 16; (with_reducible (refine (fsame_any (fun _ => True) (fun _ => True) (.slice A16 k2.fs.length c16) (.slice A14 k2.fs.length c14) k2.fs w16 (OwnRows.fsl hown hk248) (Rows.below flFine hfl15 hb16)).mono ?_)); rintro e17 w17 ⟨rfl, hb17⟩; have y17 := fr.cell hb17 y16))
                            all_goals
                              go_wp2
                              refine bodyPost_ret (v := .bool true) (by simp [results, Try.results4, go_sem]) rfl ?_
                              have h15 := (HB13.out.trans (Below.mono hg0 HB13.out.size)).trans ((ho15.wr (Nat.le_trans HJ13.out.1 (Below.size hg0))).mono (Nat.le_of_lt hzw))
                              have h16 := h15.trans (hb16.mono h15.size)
                              exact ⟨rfl, h16.trans (hb17.mono h16.size)⟩
    · have hb0 : (e != 0) = true := by simpa using h0
      go_wp2_with (first
        | (go_at_call 9; refine HOF.out.mono ?_; rintro r w4 ⟨q4, rfl, hq4, _, hb4⟩; obtain rfl := hq4 h0; have v0 := fr.cell hb4 d0; have v1 := fr.cell hb4 d1; have v2 := fr.cell hb4 d2)
        | (go_at_call 17; refine (HROF.out w4 hb4).mono ?_; rintro r w5 ⟨q5, rfl, hq5, _, hb5⟩; obtain rfl := hq5 h0)
        | (go_at_call 16; refine (fsame_any _ _ (.slice Ai n ci) (.slice A n c) fs w5 (((HIN.out.files hm48).below flFine hb4).below flFine hb5) (((HV.out.below flFine HBC.out).below flFine hb4).below flFine hb5)).mono ?_; rintro r w6 ⟨rfl, hb6⟩))
      refine bodyPost_ret (v := .bool true) (by simp [results, Try.results4, go_sem]) rfl ?_
      have h5 := (HBC.out.trans (hb4.mono HBC.out.size))
      have h6 := h5.trans (hb5.mono h5.size)
      exact ⟨rfl, h6.trans (hb6.mono h6.size)⟩
end Go.Proofs.Ytcmjoaepihbodaa
end
