/-
law 7: VdiskPlays.
-/
import Derived.Test.YtcmjoaepihbodaaQPOwnU16
section
namespace Go.Proofs.Ytcmjoaepihbodaa
open Go.RowKit Go.BigFrame
attribute [local go_sem ↓] Go.wp_at_zero Go.wp_at_succ
theorem wf_le {z : Int} (h : (Lit.int .i64 z).wf = true) : z ≤ 9223372036854775807 := by
  simp only [Lit.wf, IntKind.min, IntKind.max, IntKind.signed, IntKind.bits, Bool.and_eq_true, decide_eq_true_eq, if_true] at h
  omega
def bsum (l : List Ac) : Nat := (l.map fun a => a.data.length + 1).sum
theorem bsum_take {l : List Ac} {i : Nat} {a : Ac} (h : l[i]? = some a) : bsum (l.take (i + 1)) = bsum (l.take i) + (a.data.length + 1) := by
  unfold bsum
  rw [take_snoc h, List.map_append, List.sum_append]
  simp
theorem bsum_le (l : List Ac) (i : Nat) : bsum (l.take i) ≤ bsum l := by
  unfold bsum
  conv => rhs; rw [← List.take_append_drop i l, List.map_append, List.sum_append]
  omega
theorem bsum_len (l : List Ac) : l.length ≤ bsum l := by
  unfold bsum
  induction l with
  | nil => simp
  | cons x l ih => simp only [List.length_cons, List.map_cons, List.sum_cons]; omega
theorem fsum_le (fs : List Fl) : fs.length ≤ (fs.map fun f => f.data.length + 1).sum ∧ tot fs ≤ (fs.map fun f => f.data.length + 1).sum := by
  unfold tot
  induction fs with
  | nil => simp
  | cons x l ih => simp only [List.length_cons, List.map_cons, List.sum_cons]; omega
theorem plays_small {fs : List Fl} {l : List Ac} {i : Nat} {a : Ac} (h1 : (fs.map fun f => f.data.length + 1).sum ≤ 1048576) (h2 : bsum l ≤ 1048576) (ha : l[i]? = some a) :
    (fs.length + i + 1) * 48 ≤ 140737488355328 ∧ tot fs + bsum (l.take i) + a.data.length ≤ 1099511627776 ∧ i < 4611686018427387904 := by
  have h3 := fsum_le fs
  have h4 := bsum_le l (i + 1)
  rw [bsum_take ha] at h4
  have h5 := bsum_len l
  have h6 := (List.getElem?_eq_some_iff.1 ha).1
  omega
theorem RefP.rebase {w : World} {base base' r : Nat} {D : Nat → Prop} {k : Pk} (h : RefP w base D r k) (hb : base' ≤ base) : RefP w base' D r k := by
  obtain ⟨v, kv, h⟩ := h
  exact ⟨v, kv, h.head, h.row.rebase fun g hg => Nat.le_trans hb (h.row.lt hg).1, h.keep, Nat.le_trans hb h.lo, h.inD, h.rowD⟩
theorem fr.fls {W w' : World} (h : fr W w') {S : Nat → Prop} {v : Value} {fs : List Fl} (hv : FilesV W S v fs) : FilesV w' S v fs := Rows.below flFine hv h
theorem of_e7 {S S' : Nat → Prop} {v : Value} {fs : List Fl} {ops room : Int} {kv : Value} {zs : List Int} {w : World} {e : Int} (hv : FilesV w S v fs) (hz : IntsIn w S' kv zs) (hl : zs.length * 8 ≤ 140737488355328) (he : ofE fs = e) :
    Calls Try.prog 9 #[v, .agg #[.int .i64 ops, .int .i64 room, kv]] w fun r w' => ∃ q, r = .returned (.tuple #[q, .int .i64 e]) ∧ (e ≠ 0 → q = .pointer none) ∧ (e = 0 → ∃ p, q = .pointer (some ⟨p, 0, none⟩) ∧ DiskP w' (fun i => w.heap.size ≤ i) p (ofK fs ops room zs)) ∧ Below w.heap.size w w' :=
  he ▸ of_any S S' v fs ops room kv zs w hv hz hl
set_option maxRecDepth 100000 in
set_option maxHeartbeats 8000000 in
theorem vdiskPlaysLaw (v : Value) (fs : List Fl) (pv : Value) (pl : Int × Int × List Int) (av : Value) (l : List Ac) (w : World) (hv : FilesV w (fun _ => True) v fs) (hfs : (fs.map fun f => f.data.length + 1).sum ≤ 1048576) (hp : PlanV w (fun _ => True) pv pl) (ha : Acs w (fun _ => True) av l) (hls : (l.map fun a => a.data.length + 1).sum ≤ 1048576) :
    Calls Try.prog 7 #[v, pv, av] w fun r w' => r = .returned (.bool true) ∧ Below w.heap.size w w' := by
  obtain ⟨ops, room, zs⟩ := pl
  obtain ⟨kv, rfl, hz, hl, _, hwr, _⟩ := hp
  simp only at hz hl hwr
  have hroom := wf_le hwr
  obtain ⟨A, c, rfl⟩ := hv.form
  obtain ⟨Ac', cc', rfl⟩ := ha.form
  obtain ⟨n, hn⟩ : ∃ n, fs.length = n := ⟨_, rfl⟩
  obtain ⟨m, hm⟩ : ∃ m, l.length = m := ⟨_, rfl⟩
  have hmany : n * 48 ≤ 140737488355328 := by obtain ⟨_, _, _, _, _, _, h3, _⟩ := hv; rw [← hn]; exact h3
  have hmax : m ≤ 1048576 := by have := bsum_len l; unfold bsum at this; omega
  have hvl : FilesV w (fun i => i < w.heap.size) (.slice A fs.length c) fs := hv.lt flFine
  have hal : Acs w (fun i => i < w.heap.size) (.slice Ac' l.length cc') l := ha.lt acFine
  have hzl : IntsIn w (fun i => i < w.heap.size) kv zs := hz.keepR fun _ _ _ _ hr => hr.monoLt fun _ hi _ => hi
  rw [hn] at hvl ⊢
  rw [hm] at hal ⊢
  have HN := Lib.hid hn
  have HM := Lib.hid hm
  have HV := Lib.hid hvl
  have HAC := Lib.hid hal
  have HFS := Lib.hid hfs
  have HLS : Hid (bsum l ≤ 1048576) := Lib.hid hls
  have HZ := Lib.hid hzl
  obtain ⟨Ak, ck, rfl, _⟩ := hz
  have hA : Below w.heap.size w (w.alloc (.cells #[.int .i64 ops, .int .i64 room, .slice Ak zs.length ck] 25)) := (Below.refl _ _).alloc (Nat.le_refl _) _
  have HA := Lib.hid hA
  clear hn hm hv hvl ha hal hfs hls hzl hA hwr
  go_enter Try.func7, Try.ntmps7
  go_wp2_with (go_at_call 8; refine (wakes_any _).mono ?_; rintro r w1 ⟨rfl, hb1⟩)
  have hbx := (hb1.block w.heap.size (by simp)).trans (heap_alloc_new w (.cells #[.int .i64 ops, .int .i64 room, .slice Ak zs.length ck] 25))
  have b0 : w1.cell? ⟨w.heap.size, 0, none⟩ = some (.int .i64 ops) := cell_of_row w1 w.heap.size 0 _ _ _ hbx
  have b1 : w1.cell? ⟨w.heap.size, 1, none⟩ = some (.int .i64 room) := cell_of_row w1 w.heap.size 1 _ _ _ hbx
  have b2 : w1.cell? ⟨w.heap.size, 2, none⟩ = some (.slice Ak zs.length ck) := cell_of_row w1 w.heap.size 2 _ _ _ hbx
  have HB1 := Lib.hid (HA.out.trans (hb1.mono HA.out.size))
  have HV1 := Lib.hid (HV.out.below flFine HB1.out)
  have HZ1 := Lib.hid (HZ.out.below HB1.out)
  obtain ⟨e, he⟩ : ∃ e, ofE fs = e := ⟨_, rfl⟩
  have HE := Lib.hid he
  clear hbx hb1 he
  have hf0 : fr w1 w1.drew := fr.refl.drew
  have hm48 : fs.length * 48 ≤ 140737488355328 := by rw [HN.out]; exact hmany
  go_cut [7, 8] (fun q t wc => t = .int .i64 e ∧ (e ≠ 0 → q = .pointer none) ∧ (e = 0 → ∃ p s, q = .pointer (some ⟨p, 0, none⟩) ∧ w1.heap.size ≤ s ∧ DiskP wc (fun i => s ≤ i) p (ofK fs ops room zs)) ∧ fr w1 wc)
  case first =>
    go_region_held3 (fun w' => w'.cell? ⟨w.heap.size, 0, none⟩ = some (.int .i64 ops) ∧ w'.cell? ⟨w.heap.size, 1, none⟩ = some (.int .i64 room) ∧ w'.cell? ⟨w.heap.size, 2, none⟩ = some (.slice Ak zs.length ck))
      (first
        | with_reducible exact fr.three hf0 b0 b1 b2
        | with_reducible exact fr.three hf4 b0 b1 b2
        | with_reducible exact fr.three hf3 b0 b1 b2
        | with_reducible exact fr.three hf2 b0 b1 b2)
      (first
        | (go_split_ands; go_at_call 10; (with_reducible (refine (fcopy_any _ (.slice A n c) fs w1.drew (fr.fls hf0 HV1.out)).mono ?_)); rintro r w2 ⟨vc, rfl, hc, hb2⟩; have hf2 := fr.step hf0 hb2; obtain ⟨Ac_, cc, rfl⟩ := OwnRows.fo hc)
        | (go_split_ands; go_at_call 11; (with_reducible (refine (plan_any _ ops room (.slice Ak zs.length ck) zs w1.drew (fr.ints2 hf0 HZ1.out) hl).mono ?_)); rintro r w3 ⟨kp, rfl, hk, hb3⟩; have hf3 := fr.step hf0 hb3; (obtain ⟨Ap, cp, rfl, _⟩ := id hk))
        | (go_split_ands; go_at_call 11; (with_reducible (refine (plan_any _ ops room (.slice Ak zs.length ck) zs w2 (fr.ints2 hf2 HZ1.out) hl).mono ?_)); rintro r w3 ⟨kp, rfl, hk, hb3⟩; have hf3 := fr.step hf2 hb3; (have hc3 := OwnRows.below flFine hc hb3); (obtain ⟨Ap, cp, rfl, _⟩ := id hk))
        | (go_split_ands; go_at_call 10; (with_reducible (refine (fcopy_any _ (.slice A n c) fs w3 (fr.fls hf3 HV1.out)).mono ?_)); rintro r w2 ⟨vc, rfl, hc, hb2⟩; have hf2 := fr.step hf3 hb2; (have hk2 := fr.ints2 hb2 hk.ints); (obtain ⟨Ac_, cc, rfl⟩ := OwnRows.fo hc))
        | (go_split_ands; go_at_call 9; (with_reducible (refine (of_e7 (OwnRows.rows flFine hc3 hm48) hk.ints hl HE.out).mono ?_)); rintro r w4 ⟨q, rfl, hq1, hq2, hb4⟩; have hf4 := fr.step hf3 hb4)
        | (go_split_ands; go_at_call 9; (with_reducible (refine (of_e7 (OwnRows.rows flFine hc hm48) hk2 hl HE.out).mono ?_)); rintro r w4 ⟨q, rfl, hq1, hq2, hb4⟩; have hf4 := fr.step hf2 hb4))
    all_goals
      go_wp2_with fail
      go_meet
      case rel =>
        refine ⟨rfl, hq1, fun h0 => ?_, hf4⟩
        obtain ⟨p, hq, hd⟩ := hq2 h0
        refine ⟨p, _, hq, ?_, hd⟩
        first
          | exact Below.size hf3
          | exact Below.size hf2
  case rest =>
    obtain ⟨rfl, hq1, hq2, hfc⟩ := hcut
    have HBC := Lib.hid (HB1.out.trans (Below.mono hfc HB1.out.size))
    have d0 := fr.cell hfc b0
    have d1 := fr.cell hfc b1
    have d2 := fr.cell hfc b2
    have HROF := Lib.hid (rof_any _ _ (.slice A n c) fs ops room (.slice Ak zs.length ck) zs wc (HV.out.below flFine HBC.out) (HZ.out.below HBC.out))
    rw [HE.out] at HROF
    have hzc := Below.size hfc
    clear hfc hf0 b0 b1 b2
    by_cases h0 : e = 0
    · subst h0
      obtain ⟨p, s, rfl, hs, hd⟩ := hq2 rfl
      have hsp : s < wc.heap.size := by
        obtain ⟨mb, kv', d, hdv, _⟩ := id hd
        exact Nat.lt_of_le_of_lt hdv.loP hdv.ltP
      have hD0 := hd.mono (F' := fun i => s ≤ i ∧ i < wc.heap.size) fun i h1 h2 => ⟨h1, h2⟩
      have HD0 := Lib.hid hD0
      have HINV := Lib.hid (inv_of HE.out (by have := (fsum_le fs).2; have := HFS.out; omega) ops room zs)
      have hrk : (ofK fs ops room zs).room ≤ 9223372036854775807 := hroom
      obtain ⟨k0, hk0⟩ : ∃ k0, ofK fs ops room zs = k0 := ⟨_, rfl⟩
      rw [hk0] at HD0 HINV HROF hrk
      clear hq1 hq2 hd hD0 hk0
      go_upto_region 7 with (go_at_call 17; refine HROF.out.mono ?_; rintro r w4 ⟨q4, rfl, _, hr4, hb4⟩; obtain ⟨r4, rfl, hr5⟩ := hr4 rfl)
      have hz4 := hb4.size
      have hzw := HB1.out.size
      have hj4 : J2 w4 s (fun _ => False) p r4 k0 k0 := by
        refine ⟨by omega, fun _ h => h.elim, fun i => s ≤ i ∧ i < wc.heap.size, fun i => orNew (fun i => i < w.heap.size) wc.heap.size i ∧ i < w4.heap.size, HD0.out.below hb4, (hr5.rebase (by omega)).mono fun i hi h => ⟨h, hi⟩, fun i hi => ⟨hi.1, by have := hi.2; omega, fun h => h⟩, fun i hi => ⟨hi.2, fun h => h⟩, fun i hi h => ?_⟩
        rcases h.1 with h | h
        · have := hi.1; omega
        · have := hi.2; omega
      have HJ4 := Lib.hid hj4
      have HB4 := Lib.hid (HBC.out.trans (hb4.mono HBC.out.size))
      clear hr4 hr5 hb4 hj4 HROF HD0 d0 d1 d2
      go_wp2
      go_loopw [44] (fun t wr => ∃ (i : Nat) (k : Pk), i ≤ m ∧ t = .int .i64 i ∧ J2 wr s (fun _ => False) p r4 k k ∧ InvK k (fs.length + i) (tot fs + bsum (l.take i)) i ∧ k.room ≤ 9223372036854775807 ∧ Below w.heap.size w wr) (fun t _ => m - (intOf t).toNat)
      case atStart => exact ⟨0, k0, Nat.zero_le _, rfl, HJ4.out, HINV.out.mono (by omega) (by omega) (by omega), hrk, HB4.out⟩
      case round =>
        obtain ⟨i, k, hi, rfl, hj, hinv, hkr, hbel⟩ := hrel
        have HJ := Lib.hid hj
        have HIN := Lib.hid hinv
        have HB := Lib.hid hbel
        clear hj hinv hbel HJ4 HB4 HINV
        by_cases hin : i < m
        · obtain ⟨a, ha⟩ : ∃ a, l[i]? = some a := ⟨_, List.getElem?_eq_getElem (by rw [HM.out]; exact hin)⟩
          obtain ⟨b, o, cs, rfl, _, _, ⟨va, ka, rfl, hva, hka, hk8, hnl, hdl, _, _, hrw, _⟩, hc⟩ := Rows.at_ acFine (HAC.out.below acFine HB.out) ha
          obtain ⟨Aa, ca, rfl⟩ := slice_form hva
          obtain ⟨Ak', ck', rfl, _⟩ := id hka
          have c0 : wr.cell? ⟨b, o + i * 7, none⟩ = _ := hc 0 _ rfl
          have c1 : wr.cell? ⟨b, o + i * 7 + 1, none⟩ = _ := hc 1 _ rfl
          have c2 : wr.cell? ⟨b, o + i * 7 + 2, none⟩ = _ := hc 2 _ rfl
          have c3 : wr.cell? ⟨b, o + i * 7 + 3, none⟩ = _ := hc 3 _ rfl
          have c4 : wr.cell? ⟨b, o + i * 7 + 4, none⟩ = _ := hc 4 _ rfl
          have c5 : wr.cell? ⟨b, o + i * 7 + 5, none⟩ = _ := hc 5 _ rfl
          have c6 : wr.cell? ⟨b, o + i * 7 + 6, none⟩ = _ := hc 6 _ rfl
          obtain ⟨z1, z2, z3⟩ := plays_small HFS.out HLS.out ha
          have HACT := Lib.hid (act_any s p r4 k a Aa Ak' ca ck' wr (fs.length + i) (tot fs + bsum (l.take i)) i HJ.out (hva.mono fun i hi => by omega) (hka.mono fun i hi => by omega) hk8 hnl hdl HIN.out z1 z2 z3 hkr)
          have hnext := inv_act (a := a) HIN.out z2
          have hnr := room_act (a := a) hkr (wf_le hrw)
          have HNX := Lib.hid hnext
          have HTK := Lib.hid (bsum_take ha)
          clear ha hva hka hc z1 z2 z3 hnext
          go_wp2_with (go_at_call 26; refine HACT.out.mono ?_; rintro e5 w5 ⟨rfl, hj5, hb5⟩)
          refine ⟨⟨i + 1, actK k a, by omega, by go_num, hj5, HNX.out.mono (by omega) (by rw [HTK.out]; omega) (by omega), hnr, HB.out.trans (hb5.mono (by omega))⟩, by simp [intOf]; omega⟩
        · obtain rfl : i = m := by omega
          have hN : (fs.length + i) * 48 ≤ 140737488355328 := by
            have h3 := (fsum_le fs).1
            have h4 := HFS.out
            omega
          have hf9 : fr wr wr.drew := fr.refl.drew
          have HJD := Lib.hid (HJ.out.below hf9)
          obtain ⟨A9, c9, y9, hfl9⟩ := HJ.out.files HIN.out hN
          have hk48 : k.fs.length * 48 ≤ 140737488355328 := by have := HIN.out.many; omega
          have HDU : Hid (Calls Try.prog 12 #[.pointer (some ⟨p, 0, none⟩)] wr.drew fun e w' => ∃ A c, e = .returned (.slice A k.fs.length c) ∧ OwnFiles w' wr.heap.size (.slice A k.fs.length c) k.fs ∧ fr wr w') := Lib.hid ((ddump_j HJD.out HIN.out hN).mono fun e w' h => by
            obtain ⟨v, h1, h2, h3⟩ := h
            obtain ⟨A, c, rfl⟩ := OwnRows.fo h2
            exact ⟨A, c, h1, h2, fr.step hf9 h3⟩)
          have f0 := fr.cell hf9 y9
          go_upto_region 13 with (fail)
          go_region_held3 (fun w' => w'.cell? ⟨r4, 0, none⟩ = some (.slice A9 k.fs.length c9))
            (first
              | with_reducible exact f0
              | with_reducible exact t0
              | with_reducible exact u0')
            (first
              | (go_split_ands; go_at_call 12; (with_reducible (refine HDU.out.mono ?_)); rintro e5 w5 ⟨A5, c5, rfl, hown, hf5⟩; have t0 := fr.cell hf5 y9)
              | (go_split_ands; go_at_call 16; (with_reducible (refine (fsame_any (fun _ => True) (fun _ => True) (.slice A5 k.fs.length c5) (.slice A9 k.fs.length c9) k.fs w5 (OwnRows.fsl hown hk48) (fr.fls hf5 hfl9)).mono ?_)); rintro e6 w6 ⟨rfl, hb6⟩; have u0' := fr.cell hb6 t0))
          all_goals
            go_wp2
            refine bodyPost_ret (v := .bool true) (by simp [results, Try.results7, go_sem]) rfl ?_
            exact ⟨rfl, HB.out.trans ((Below.mono hf5 HB.out.size).trans (hb6.mono (Nat.le_trans HB.out.size (Below.size hf5))))⟩
    · have hb : (e != 0) = true := by simpa using h0
      obtain rfl := hq1 h0
      clear hq1 hq2
      go_wp2_with (go_at_call 17; refine HROF.out.mono ?_; rintro r w4 ⟨q4, rfl, hr3, _, hb4⟩; obtain rfl := hr3 h0)
      refine bodyPost_ret (v := .bool true) (by simp [results, Try.results7, go_sem]) rfl ?_
      exact ⟨rfl, HBC.out.trans (hb4.mono HBC.out.size)⟩
end Go.Proofs.Ytcmjoaepihbodaa
end
