/-
law 7: VdiskSurvives.
-/
import Derived.Test.YtcmjoaepihbodaaDkH
import Derived.Test.YtcmjoaepihbodaaDkAc
import Derived.Test.YtcmjoaepihbodaaDkY
import Derived.Test.YtcmjoaepihbodaaDkM
namespace Go.Proofs.Ytcmjoaepihbodaa
open Go.RowKit Go.BigFrame
attribute [local go_sem ↓] Go.wp_at_zero Go.wp_at_succ

theorem Rows.kept {α : Type} {R : Rd α} {k bytes : Nat} (hR : Fine R k) {w w' : World} {S : Nat → Prop} {v : Value} {xs : List α} (h : Rows R k bytes w S v xs) (hz : w.heap.size ≤ w'.heap.size) (hk : ∀ i, i < w.heap.size → S i → w'.heap[i]? = w.heap[i]?) : Rows R k bytes w' S v xs :=
  h.keep hR fun _ _ _ _ hr => hr.keep hz hk

theorem fr.files {W w' : World} (h : fr W w') {S : Nat → Prop} {v : Value} {fs : List Fl} (hv : FilesV W S v fs) : FilesV w' S v fs := Rows.below flFine hv h
theorem fr.ints {W w' : World} (h : fr W w') {S : Nat → Prop} {v : Value} {zs : List Int} (hv : IntsIn W S v zs) : IntsIn w' S v zs := hv.below h
theorem of_e {S S' : Nat → Prop} {v : Value} {fs : List Fl} {ops room : Int} {kv : Value} {zs : List Int} {w : World} {e : Int} (hv : FilesV w S v fs) (hz : IntsIn w S' kv zs) (hl : zs.length * 8 ≤ 140737488355328) (he : ofE fs = e) :
    Calls Try.prog 9 #[v, .agg #[.int .i64 ops, .int .i64 room, kv]] w fun r w' => ∃ q, r = .returned (.tuple #[q, .int .i64 e]) ∧ (e ≠ 0 → q = .pointer none) ∧ (e = 0 → ∃ p, q = .pointer (some ⟨p, 0, none⟩) ∧ DiskP w' (fun i => w.heap.size ≤ i) p (ofK fs ops room zs)) ∧ Below w.heap.size w w' :=
  he ▸ of_any S S' v fs ops room kv zs w hv hz hl
theorem two_boxes (w : World) (o1 o2 : Obj) : ((w.alloc o1).alloc o2).drew.heap[w.heap.size]? = some o1 ∧ ((w.alloc o1).alloc o2).drew.heap[w.heap.size + 1]? = some o2 ∧ Below w.heap.size w ((w.alloc o1).alloc o2).drew := by
  have h2 := heap_alloc_new (w.alloc o1) o2
  simp only [World.size_alloc] at h2
  exact ⟨(Below.heap_alloc _ _ _ (by simp)).trans (heap_alloc_new w o1), h2, (((Below.refl _ _).alloc (Nat.le_refl _) _).alloc (by simp) _).drew⟩
theorem byt_take {w : World} {S : Nat → Prop} {A : Option Addr} {c : Nat} {bs cs : List UInt8} {n : Nat} (hva : Byt w S (.slice A n c) bs) (hk : cs.length ≤ bs.length) (he : cs = bs.take cs.length) : Byt w S (.slice A cs.length c) cs := by
  obtain ⟨A', c', e, h1, h2, h3, h4⟩ := hva
  injection e with e1 e2 e3
  subst e1 e3
  refine ⟨_, _, rfl, by omega, h2, by omega, by simp, fun hn => ?_⟩
  obtain ⟨b, o, hA, hS, hb, hc⟩ := h4.2 (by omega)
  refine ⟨b, o, hA, hS, hb, fun j u hu => hc j u ?_⟩
  rw [List.getElem?_map] at hu ⊢
  rw [he, List.getElem?_take] at hu
  split at hu
  · exact hu
  · cases hu
theorem DiskP.lens {w : World} {F : Nat → Prop} {p : Nat} {k : Pk} (h : DiskP w F p k) {f : Fl} (hf : f ∈ k.fs) : f.data.length ≤ 140737488355328 := by
  obtain ⟨mb, kv, d, h, rfl⟩ := h
  obtain ⟨a, ha, rfl⟩ := List.mem_map.1 hf
  exact (h.files a ha).own.len
theorem OwnRows.form {α : Type} {R : Rd α} {k : Nat} {t : TypeId} {w : World} {base : Nat} {v : Value} {xs : List α} (h : OwnRows R k t w base v xs) : ∃ A c, v = .slice A xs.length c := by
  obtain ⟨css, h1, _⟩ := h
  exact own_form h1

set_option maxRecDepth 100000 in
set_option maxHeartbeats 4000000 in
theorem vdiskSurvivesLaw (v : Value) (fs : List Fl) (pv : Value) (pl : Int × Int × List Int) (w : World) (hv : FilesV w (fun _ => True) v fs) (hp : PlanV w (fun _ => True) pv pl) :
    Calls Try.prog 3 #[v, pv] w fun r w' => r = .returned (.bool true) ∧ Below w.heap.size w w' := by
  obtain ⟨ops, room, zs⟩ := pl
  obtain ⟨kv, rfl, hz, hl, _⟩ := hp
  simp only at hz hl
  obtain ⟨A, c, rfl⟩ := hv.form
  obtain ⟨n, hn⟩ : ∃ n, fs.length = n := ⟨_, rfl⟩
  have hmany : n * 48 ≤ 140737488355328 := by obtain ⟨_, _, _, _, _, _, h3, _⟩ := hv; rw [← hn]; exact h3
  rw [hn] at hv ⊢
  have HN := Lib.hid hn
  have HV := Lib.hid hv
  have HZ := Lib.hid hz
  obtain ⟨Ak, ck, rfl, _⟩ := hz
  have hA : Below w.heap.size w (w.alloc (.cells #[.int .i64 ops, .int .i64 room, .slice Ak zs.length ck] 25)) := (Below.refl _ _).alloc (Nat.le_refl _) _
  have HA := Lib.hid hA
  clear hn hv hA
  go_enter Try.func3, Try.ntmps3
  go_wp2_with (go_at_call 8; refine (wakes_any _).mono ?_; rintro r w1 ⟨rfl, hb1⟩)
  have hbx := (hb1.block w.heap.size (by simp)).trans (heap_alloc_new w (.cells #[.int .i64 ops, .int .i64 room, .slice Ak zs.length ck] 25))
  have b0 : w1.cell? ⟨w.heap.size, 0, none⟩ = some (.int .i64 ops) := cell_of_row w1 w.heap.size 0 _ _ _ hbx
  have b1 : w1.cell? ⟨w.heap.size, 1, none⟩ = some (.int .i64 room) := cell_of_row w1 w.heap.size 1 _ _ _ hbx
  have b2 : w1.cell? ⟨w.heap.size, 2, none⟩ = some (.slice Ak zs.length ck) := cell_of_row w1 w.heap.size 2 _ _ _ hbx
  have HB1 := Lib.hid (HA.out.trans (hb1.mono HA.out.size))
  have HV1 := Lib.hid (HV.out.below flFine HB1.out)
  have HZ1 := Lib.hid (HZ.out.below HB1.out)
  obtain ⟨e, he⟩ : ∃ e, ofE fs = e := ⟨_, rfl⟩
  have HE := Lib.hid he
  clear hbx hb1 he
  have hf0 : fr w1 w1.drew := fr.refl.drew
  have hm48 : fs.length * 48 ≤ 140737488355328 := by rw [HN.out]; exact hmany
  go_cut [5, 6] (fun q t wc => t = .int .i64 e ∧ (e ≠ 0 → q = .pointer none) ∧ (e = 0 → ∃ p s, q = .pointer (some ⟨p, 0, none⟩) ∧ w.heap.size ≤ s ∧ DiskP wc (fun i => s ≤ i) p (ofK fs ops room zs)) ∧ Below w.heap.size w wc)
  case first =>
    go_region_held3 (fun w' => w'.cell? ⟨w.heap.size, 0, none⟩ = some (.int .i64 ops) ∧ w'.cell? ⟨w.heap.size, 1, none⟩ = some (.int .i64 room) ∧ w'.cell? ⟨w.heap.size, 2, none⟩ = some (.slice Ak zs.length ck))
      (first
        | with_reducible exact fr.three hf0 b0 b1 b2
        | with_reducible exact fr.three hf4 b0 b1 b2
        | with_reducible exact fr.three hf3 b0 b1 b2
        | with_reducible exact fr.three hf2 b0 b1 b2)
      (first
        | (go_split_ands; go_at_call 10; (with_reducible (refine (fcopy_any _ (.slice A n c) fs w1.drew (fr.files hf0 HV1.out)).mono ?_)); rintro r w2 ⟨vc, rfl, hc, hb2⟩; have hf2 := fr.step hf0 hb2; obtain ⟨Ac_, cc, rfl⟩ := hc.form)
        | (go_split_ands; go_at_call 11; (with_reducible (refine (plan_any _ ops room (.slice Ak zs.length ck) zs w1.drew (fr.ints hf0 HZ1.out) hl).mono ?_)); rintro r w3 ⟨kp, rfl, hk, hb3⟩; have hf3 := fr.step hf0 hb3; (obtain ⟨Ap, cp, rfl, _⟩ := id hk))
        | (go_split_ands; go_at_call 11; (with_reducible (refine (plan_any _ ops room (.slice Ak zs.length ck) zs w2 (fr.ints hf2 HZ1.out) hl).mono ?_)); rintro r w3 ⟨kp, rfl, hk, hb3⟩; have hf3 := fr.step hf2 hb3; (have hc3 := OwnRows.below flFine hc hb3); (obtain ⟨Ap, cp, rfl, _⟩ := id hk))
        | (go_split_ands; go_at_call 10; (with_reducible (refine (fcopy_any _ (.slice A n c) fs w3 (fr.files hf3 HV1.out)).mono ?_)); rintro r w2 ⟨vc, rfl, hc, hb2⟩; have hf2 := fr.step hf3 hb2; (have hk2 := fr.ints hb2 hk.ints); (obtain ⟨Ac_, cc, rfl⟩ := hc.form))
        | (go_split_ands; go_at_call 9; (with_reducible (refine (of_e (OwnRows.rows flFine hc3 hm48) hk.ints hl HE.out).mono ?_)); rintro r w4 ⟨q, rfl, hq1, hq2, hb4⟩; have hf4 := fr.step hf3 hb4)
        | (go_split_ands; go_at_call 9; (with_reducible (refine (of_e (OwnRows.rows flFine hc hm48) hk2 hl HE.out).mono ?_)); rintro r w4 ⟨q, rfl, hq1, hq2, hb4⟩; have hf4 := fr.step hf2 hb4))
    all_goals
      go_wp2_with fail
      go_meet
      case rel =>
        refine ⟨rfl, hq1, fun h0 => ?_, HB1.out.trans (Below.mono hf4 HB1.out.size)⟩
        obtain ⟨p, hq, hd⟩ := hq2 h0
        refine ⟨p, _, hq, ?_, hd⟩
        first
          | exact Nat.le_trans HB1.out.size (Below.size hf3)
          | exact Nat.le_trans HB1.out.size (Below.size hf2)
  case rest =>
    obtain ⟨rfl, hq1, hq2, hbc⟩ := hcut
    have HBC := Lib.hid hbc
    clear hbc hf0 b0 b1 b2
    by_cases h0 : e = 0
    · subst h0
      obtain ⟨p, s, rfl, hs, hd⟩ := hq2 rfl
      obtain ⟨r0, hr0, hok, hlen, _⟩ := of_ok HE.out
      have hfs := ofK_fs hr0 ops room zs
      have hdn : (ofK fs ops room zs).done = 0 := rfl
      obtain ⟨k0, hk0⟩ : ∃ k0, ofK fs ops room zs = k0 := ⟨_, rfl⟩
      rw [hk0] at hd hfs hdn
      subst hfs
      have HOK := Lib.hid hok
      have hlen' : k0.fs.length = n := hlen.trans HN.out
      have HL := Lib.hid hlen'
      clear hk0 hr0 hok hlen hq1 hq2
      have hd' := hd.mono (F' := fun i => s ≤ i ∧ i < wc.heap.size) fun i h1 h2 => ⟨h1, h2⟩
      have HD := Lib.hid hd'
      have h48 : k0.fs.length * 48 ≤ 140737488355328 := by rw [hlen']; exact hmany
      have HDUMP := Lib.hid (dump_any _ p k0 wc hd' h48)
      clear hd hd'
      go_wp2_with (go_at_call 12; refine HDUMP.out.mono ?_; rintro r w5 ⟨vw, rfl, hw5, hb5⟩; obtain ⟨A5, c5, rfl⟩ := hw5.form)
      have HW5 : Hid (FilesV w5 (fun i => wc.heap.size ≤ i ∧ i < w5.heap.size) (.slice A5 n c5) k0.fs) := Lib.hid (by have h := OwnRows.rows flFine hw5 h48; rw [hlen'] at h; exact h)
      have HB5 := Lib.hid (HBC.out.trans (hb5.mono HBC.out.size))
      have HZ5 := Lib.hid hb5.size
      have HREV := Lib.hid (revive_any _ p k0 (fun _ => False) 0 (-1) (.slice none 0 0) [] w5 (HD.out.below hb5) HOK.out (by omega) (IntsIn.nil _ _) (fun i hi => hi.elim) (by simp))
      clear hw5 hb5 HDUMP
      go_wp2_with (go_at_call 13; refine HREV.out.mono ?_; rintro r w6 ⟨rfl, hd6, ho6⟩)
      obtain ⟨k1, hk1⟩ : ∃ k1, reviveK k0 0 (-1) [] = k1 := ⟨_, rfl⟩
      rw [hk1] at hd6
      have HK1 := Lib.hid hk1
      have hl1 : k1.fs.length = n := by rw [← hk1]; show (revSt _ _ _ _).1.length = n; rw [rev_len]; exact hlen'
      have HW6 := Lib.hid (Rows.kept flFine HW5.out ho6.size fun i h1 h2 => ho6.block i h1 fun h3 => by omega)
      have HB6 := Lib.hid (HB5.out.trans (ho6.below HB5.out.size fun i hi => by omega))
      have hZ6 := ho6.size
      have hd6' := hd6.mono (F' := fun i => (s ≤ i ∧ i < wc.heap.size ∨ w5.heap.size ≤ i) ∧ i < w6.heap.size) fun i h1 h2 => ⟨h1, h2⟩
      have HD6 := Lib.hid hd6'
      have h48' : k1.fs.length * 48 ≤ 140737488355328 := by rw [hl1]; exact hmany
      have HDUMP := Lib.hid (dump_any _ p k1 w6 hd6' h48')
      clear hd6 hd6' ho6 HREV hk1
      go_wp2_with (go_at_call 12; refine HDUMP.out.mono ?_; rintro r w7 ⟨vn, rfl, hw7, hb7⟩; obtain ⟨A7, c7, hvn⟩ := hw7.form; rw [hl1] at hvn; subst hvn)
      have HN7 : Hid (FilesV w7 (fun i => w6.heap.size ≤ i ∧ i < w7.heap.size) (.slice A7 n c7) k1.fs) := Lib.hid (OwnRows.rows flFine hw7 h48')
      have HW7 := Lib.hid (HW6.out.below flFine hb7)
      have HB7 := Lib.hid (HB6.out.trans (hb7.mono HB6.out.size))
      have HD7 := Lib.hid (HD6.out.below hb7)
      have hZ7 := hb7.size
      clear hw7 hb7 HDUMP
      go_wp2
      go_loopw [48] (fun t wr => ∃ i : Nat, i ≤ n ∧ t = .int .i64 i ∧ Below w7.heap.size w7 wr) (fun t _ => n - (intOf t).toNat)
      case atStart => exact ⟨0, Nat.zero_le _, rfl, Below.refl _ _⟩
      case round =>
        obtain ⟨i, hi, rfl, hbel⟩ := hrel
        have HBL := Lib.hid hbel
        clear hbel
        by_cases hin : i < n
        · obtain ⟨a, ha⟩ : ∃ a, k0.fs[i]? = some a := ⟨_, List.getElem?_eq_getElem (by rw [HL.out]; exact hin)⟩
          obtain ⟨b, hb, hsv⟩ := rev_at (keep := k0.keep) (bt := k0.bytes) HOK.out ha
          have hb' : k1.fs[i]? = some b := by rw [← HK1.out]; exact hb
          obtain ⟨ba, oa, cs, rfl, hba, _, ⟨va, rfl, hva, _⟩, hca⟩ := Rows.at_ flFine HW7.out ha
          obtain ⟨bn, on, cs', rfl, hbn, _, ⟨vn, rfl, hvn, _⟩, hcn⟩ := Rows.at_ flFine HN7.out hb'
          obtain ⟨Aa, ca, rfl⟩ := slice_form hva
          obtain ⟨An, cn, rfl⟩ := slice_form hvn
          obtain ⟨an, ad, sa⟩ := a
          obtain ⟨bn', bd, bs⟩ := b
          obtain ⟨s1, s2, s3, s4, s5⟩ := hsv
          simp only at s1 s2 s3 s4 s5 hva hvn
          subst s1 s2
          have HVA := Lib.hid (hva.below HBL.out)
          have HVN := Lib.hid (hvn.below HBL.out)
          have c0 : wr.cell? ⟨ba, oa + i * 3, none⟩ = _ := fr.cell HBL.out (hca 0 _ rfl)
          have c1 : wr.cell? ⟨ba, oa + i * 3 + 1, none⟩ = _ := fr.cell HBL.out (hca 1 _ rfl)
          have c2 : wr.cell? ⟨ba, oa + i * 3 + 2, none⟩ = _ := fr.cell HBL.out (hca 2 _ rfl)
          have d0 : wr.cell? ⟨bn, on + i * 3, none⟩ = _ := fr.cell HBL.out (hcn 0 _ rfl)
          have d1 : wr.cell? ⟨bn, on + i * 3 + 1, none⟩ = _ := fr.cell HBL.out (hcn 1 _ rfl)
          have d2 : wr.cell? ⟨bn, on + i * 3 + 2, none⟩ = _ := fr.cell HBL.out (hcn 2 _ rfl)
          have HS5 := Lib.hid s5
          clear ha hb hb' hca hcn hva hvn s5
          go_upto_region 15 with (fail)
          go_cut [10, 11] (fun x y wd => ∃ X Y, x = .pointer (some ⟨X, 0, none⟩) ∧ y = .pointer (some ⟨Y, 0, none⟩) ∧ wd.heap[X]? = some (.cells #[.string ⟨an.toArray⟩, .slice Aa ad.length ca, .int .i64 sa] 37 (0, 0)) ∧ wd.heap[Y]? = some (.cells #[.string ⟨an.toArray⟩, .slice An bd.length cn, .int .i64 bd.length] 37 (0, 0)) ∧ Below wr.heap.size wr wd)
          case first =>
            have n0 := World.new_ne wr _ c0
            have n1 := World.new_ne wr _ d0
            simp only at n0 n1
            have m0 : ba < wr.heap.size := World.block_lt_of_cell? wr _ c0
            have m1 : bn < wr.heap.size := World.block_lt_of_cell? wr _ d0
            go_region_held3 (fun w' => w'.cell? ⟨ba, oa + i * 3, none⟩ = some (.string ⟨an.toArray⟩) ∧ w'.cell? ⟨ba, oa + i * 3 + 1, none⟩ = some (.slice Aa ad.length ca) ∧ w'.cell? ⟨ba, oa + i * 3 + 2, none⟩ = some (.int .i64 sa) ∧ w'.cell? ⟨bn, on + i * 3, none⟩ = some (.string ⟨an.toArray⟩) ∧ w'.cell? ⟨bn, on + i * 3 + 1, none⟩ = some (.slice An bd.length cn) ∧ w'.cell? ⟨bn, on + i * 3 + 2, none⟩ = some (.int .i64 bd.length)) (go_keep) (fail)
            · go_wp2_with fail
              go_meet
              case rel => exact ⟨_, _, rfl, rfl, (two_boxes wr _ _).1, (two_boxes wr _ _).2.1, (two_boxes wr _ _).2.2⟩
            · go_wp2_with fail
              go_meet
              case rel => exact ⟨_, _, rfl, rfl, (two_boxes wr _ _).2.1, (two_boxes wr _ _).1, (two_boxes wr _ _).2.2⟩
          case rest =>
            obtain ⟨X, Y, rfl, rfl, hX, hY, hbd⟩ := hcut
            have HBD := Lib.hid hbd
            have HVA2 := Lib.hid (byt_take (hva := HVA.out.below hbd) s4 HS5.out)
            have HVN2 := Lib.hid (HVN.out.below hbd)
            have e0 : wc.cell? ⟨X, 0, none⟩ = some (.string ⟨an.toArray⟩) := cell_of_row wc X 0 _ _ _ hX
            have e1 : wc.cell? ⟨X, 1, none⟩ = some (.slice Aa ad.length ca) := cell_of_row wc X 1 _ _ _ hX
            have e2 : wc.cell? ⟨X, 2, none⟩ = some (.int .i64 sa) := cell_of_row wc X 2 _ _ _ hX
            have f0 : wc.cell? ⟨Y, 0, none⟩ = some (.string ⟨an.toArray⟩) := cell_of_row wc Y 0 _ _ _ hY
            have f1 : wc.cell? ⟨Y, 1, none⟩ = some (.slice An bd.length cn) := cell_of_row wc Y 1 _ _ _ hY
            have f2 : wc.cell? ⟨Y, 2, none⟩ = some (.int .i64 bd.length) := cell_of_row wc Y 2 _ _ _ hY
            have E0 : ∀ q : Ext wc, q.w.cell? ⟨X, 0, none⟩ = _ := fun q => q.h.cell e0
            have E1 : ∀ q : Ext wc, q.w.cell? ⟨X, 1, none⟩ = _ := fun q => q.h.cell e1
            have E2 : ∀ q : Ext wc, q.w.cell? ⟨X, 2, none⟩ = _ := fun q => q.h.cell e2
            have F0 : ∀ q : Ext wc, q.w.cell? ⟨Y, 0, none⟩ = _ := fun q => q.h.cell f0
            have F1 : ∀ q : Ext wc, q.w.cell? ⟨Y, 1, none⟩ = _ := fun q => q.h.cell f1
            have F2 : ∀ q : Ext wc, q.w.cell? ⟨Y, 2, none⟩ = _ := fun q => q.h.cell f2
            have g1 : decide ((bd.length : Int) < sa) = false := decide_eq_false (by omega)
            have g2 : decide (ad.length < bd.length) = false := decide_eq_false (by omega)
            have g3 : (bd.length : Int) - 0 ≤ ca := by obtain ⟨_, _, e, h, _⟩ := HVA.out; injection e with _ _ e; omega
            clear hX hY hbd e0 e1 e2 f0 f1 f2 c0 c1 c2 d0 d1 d2
            have CS : ∀ q : Ext wc, Calls Try.prog 14 #[.slice An bd.length cn, .slice Aa bd.length ca] q.w fun r w'' => r = .returned (.bool true) ∧ ∃ q' : Ext wc, w'' = q'.w := fun q => (vsame_any _ _ _ _ bd q.w (fr.byt q.h HVN2.out) (fr.byt q.h HVA2.out)).mono fun r w'' h => ⟨h.1, q, h.2.symm⟩
            go_upto_region 16 with (fail)
            (refine wp_region_quiet_ext (by kernel_rfl) (by kernel_rfl) ?_; (repeat (go_big_quiet_step ((go_at_call 14; exact CS _)))); refine wpQuiet_nil ?_; intro wq hw'; obtain ⟨⟨_, hq⟩, hw''⟩ := hw'; subst hw'')
            go_wp2
            refine ⟨⟨i + 1, by omega, by go_num, HBL.out.trans ((HBD.out.trans (Below.mono hq HBD.out.size)).mono HBL.out.size)⟩, by simp [intOf]; omega⟩
        · obtain rfl : i = n := by omega
          have hcr := crash_append (k := k1) (by rw [← HK1.out]; rfl) (by rw [← HK1.out]; rfl) (by rw [← HK1.out]; show (-1 : Int) < 0; decide) (by rw [← HK1.out]; rfl)
          have HD8 := Lib.hid (HD7.out.below HBL.out)
          have hdn1 : k1.done = 0 := by rw [← HK1.out]; rfl
          have HAP := Lib.hid (append_any _ p k1 [97] (fun _ => False) (.slice none 0 0) [] wr HD8.out (Byt.nil _ _) (fun i hi => hi.elim) (by simp) (by rw [hdn1]; decide) (by rw [hdn1]; decide) (fun f hf => by have := DiskP.lens HD8.out (findP_mem hf).1; simpa using this) (by omega))
          rw [hcr.1, hcr.2] at HAP
          obtain ⟨k2, hk2⟩ : ∃ k2 : Pk, { k1 with down := true } = k2 := ⟨_, rfl⟩
          rw [hk2] at HAP
          have HN8 := Lib.hid (HN7.out.below flFine HBL.out)
          have HB8 := Lib.hid (HB7.out.trans (HBL.out.mono HB7.out.size))
          have hz8 := HBL.out.size
          have hz58 := HB5.out.size
          have hz88 := HB8.out.size
          have hst : ∀ f ∈ k1.fs, f.loose = 0 ∧ 0 ≤ f.synced ∧ f.synced ≤ f.data.length := by rw [← HK1.out]; exact rev_ok HOK.out
          have hfs2 : k2.fs = k1.fs := by rw [← hk2]
          have HST := Lib.hid hst
          have HFS2 := Lib.hid hfs2
          have HL1 := Lib.hid hl1
          clear hcr hk2 hst hfs2 hdn1 HD7 HD6
          have HREV := Lib.hid fun (w9 : World) (hd9 : DiskP w9 (fun i => (w.heap.size ≤ i ∧ i < w6.heap.size) ∨ wr.heap.size ≤ i) p k2) => revive_any _ p k2 (fun _ => False) (-1) (-1) (.slice none 0 0) [] w9 hd9 (fun f hf => (HST.out f (by rw [← HFS2.out]; exact hf)).2) (by rw [HFS2.out]; omega) (IntsIn.nil _ _) (fun i hi => hi.elim) (by simp)
          have h3 : (reviveK k2 (-1) (-1) []).fs = k1.fs := by
            show (revSt k2.fs k2.keep k2.bytes k2.fs.length).1 = _
            rw [rev_still (fun f hf => (HST.out f (by rw [← HFS2.out]; exact hf)).1), HFS2.out]
          obtain ⟨k3, hk3⟩ : ∃ k3, reviveK k2 (-1) (-1) [] = k3 := ⟨_, rfl⟩
          rw [hk3] at HREV h3
          have H3 := Lib.hid h3
          have HDUMP := Lib.hid fun (F : Nat → Prop) (w10 : World) (hd10 : DiskP w10 F p k3) => dump_any F p k3 w10 hd10 (by rw [H3.out]; exact h48')
          clear hk3 h3
          go_wp2_with (first
            | (go_at_call 15; refine HAP.out.mono ?_; rintro r w9 ⟨rfl, hd9, ho9⟩; have HD9 := Lib.hid (hd9.mono (F' := fun i => (w.heap.size ≤ i ∧ i < w6.heap.size) ∨ wr.heap.size ≤ i) fun i hi _ => hi.elim (fun h => .inl ⟨by omega, h.2⟩) .inr); have HN9 := Lib.hid (Rows.kept flFine HN8.out ho9.size fun i h1 h2 => ho9.block i h1 fun h3 => by omega); have HB9 := Lib.hid (HB8.out.trans (ho9.below HB8.out.size fun i hi => by omega)); clear hd9 ho9)
            | (go_at_call 13; refine (HREV.out w9 HD9.out).mono ?_; rintro r w10 ⟨rfl, hd10, ho10⟩; have HD10 := Lib.hid hd10; have HN10 := Lib.hid (Rows.kept flFine HN9.out ho10.size fun i h1 h2 => ho10.block i h1 fun h3 => by omega); have HB10 := Lib.hid (HB9.out.trans (ho10.below HB9.out.size fun i hi => by omega)); clear hd10 ho10)
            | (go_at_call 12; refine (HDUMP.out _ w10 HD10.out).mono ?_; rintro r w11 ⟨v11, rfl, hw11, hb11⟩; (have h11 := OwnRows.rows (bytes := 48) flFine hw11 (by rw [H3.out]; exact h48')); (obtain ⟨A11, c11, hv11⟩ := hw11.form); rw [H3.out] at h11; rw [H3.out, HL1.out] at hv11; subst hv11; have HW11 := Lib.hid h11; have HB11 := Lib.hid (HB10.out.trans (hb11.mono HB10.out.size)); have HN11 := Lib.hid (HN10.out.below flFine hb11); clear hw11 hb11 h11)
            | (go_at_call 16; refine (fsame_any _ _ _ _ k1.fs _ HW11.out HN11.out).mono ?_; rintro r w12 ⟨rfl, hb12⟩; have HB12 := Lib.hid (HB11.out.trans (hb12.mono HB11.out.size)); clear hb12))
          refine bodyPost_ret (v := .bool true) (by simp [results, Try.results3, go_sem]) rfl ?_
          exact ⟨rfl, HB12.out⟩
    · have hb : (e != 0) = true := by simpa using h0
      obtain rfl := hq1 h0
      clear hq1 hq2
      go_wp2
      refine bodyPost_ret (v := .bool true) (by simp [results, Try.results3, go_sem]) rfl ?_
      exact ⟨rfl, HBC.out⟩
end Go.Proofs.Ytcmjoaepihbodaa
