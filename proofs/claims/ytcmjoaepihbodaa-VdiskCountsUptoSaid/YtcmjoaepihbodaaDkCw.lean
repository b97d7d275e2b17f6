/-
law 7: VdiskCounts.
-/
import Derived.Test.YtcmjoaepihbodaaDkH
import Derived.Test.YtcmjoaepihbodaaDkAc
import Derived.Test.YtcmjoaepihbodaaDkCp
namespace Go.Proofs.Ytcmjoaepihbodaa
open Go.RowKit Go.BigFrame
attribute [local go_sem ↓] Go.wp_at_zero Go.wp_at_succ

theorem mod20 (z : Int) : 0 ≤ wrap64 ((IntKind.u64.wrap z).tmod 20) ∧ wrap64 ((IntKind.u64.wrap z).tmod 20) < 20 := by
  have h : 0 ≤ IntKind.u64.wrap z := by
    unfold IntKind.wrap
    simp only [IntKind.bits, IntKind.signed]
    first | omega | (simp; omega)
  have h1 := Int.tmod_nonneg 20 h
  have h2 := Int.tmod_lt_of_pos (IntKind.u64.wrap z) (b := 20) (by omega)
  generalize (IntKind.u64.wrap z).tmod 20 = x at h1 h2 ⊢
  unfold wrap64
  omega
def CntP (k : Pk) (N : Int) (as_ : List Ac) (i B : Nat) : Prop := k.ops = N ∧ k.room = -1 ∧ k.down = false ∧ fitP k.fs i B ∧ B ≤ ((as_.take i).map fun a => a.data.length + 1).sum
theorem take_sum {as_ : List Ac} {i : Nat} {a : Ac} (h : as_[i]? = some a) : ((as_.take (i + 1)).map fun a => a.data.length + 1).sum = ((as_.take i).map fun a => a.data.length + 1).sum + (a.data.length + 1) := by
  rw [take_snoc h, List.map_append, List.sum_append]
  simp
theorem cnt_same {k : Pk} {N : Int} {as_ : List Ac} {i B : Nat} {a : Ac} (h : CntP k N as_ i B) (ha : as_[i]? = some a) : CntP k N as_ (i + 1) (B + a.data.length) :=
  ⟨h.1, h.2.1, h.2.2.1, h.2.2.2.1.mono (by omega) (by omega), by rw [take_sum ha]; have := h.2.2.2.2; omega⟩
theorem cnt_next {k k' : Pk} {N e : Int} {as_ : List Ac} {i B : Nat} {a : Ac} (h : CntP k N as_ i B) (hc : stepC k e k' ∧ k'.fs.length ≤ i + 1 ∧ (∀ f ∈ k'.fs, f.data.length ≤ B + a.data.length) ∧ 0 ≤ k'.done ∧ k'.done < 4611686018427387904) (hdd : k'.down = false) (hoo : k'.ops = k.ops) (hrr : k'.room = k.room) (ha : as_[i]? = some a) :
    CntP k' N as_ (i + 1) (B + a.data.length) :=
  ⟨hoo.trans h.1, hrr.trans h.2.1, hdd, ⟨hc.2.1, hc.2.2.1⟩, by rw [take_sum ha]; have := h.2.2.2.2; omega⟩
theorem sum_le {as_ : List Ac} (i : Nat) : ((as_.take i).map fun a => a.data.length + 1).sum ≤ (as_.map fun a => a.data.length + 1).sum := by
  conv => rhs; rw [← List.take_append_drop i as_, List.map_append, List.sum_append]
  omega
theorem len_sum (l : List Ac) : l.length ≤ (l.map fun a => a.data.length + 1).sum := by
  induction l with
  | nil => simp
  | cons x l ih => simp only [List.length_cons, List.map_cons, List.sum_cons]; omega
theorem cnt_small {as_ : List Ac} {i B : Nat} {a : Ac} (hs : (as_.map fun a => a.data.length + 1).sum ≤ 1048576) (ha : as_[i]? = some a) (hB : B ≤ ((as_.take i).map fun a => a.data.length + 1).sum) : i < 1048576 ∧ B + a.data.length ≤ 1048576 := by
  have h1 := sum_le (as_ := as_) (i + 1)
  rw [take_sum ha] at h1
  have h2 := len_sum as_
  have h3 := (List.getElem?_eq_some_iff.1 ha).1
  omega
theorem cnt_done {k k' : Pk} {N e : Int} (h : stepC k e k') (h0 : 0 ≤ k.done) (h1 : k.done ≤ N) (hN : N < 20) : 0 ≤ k'.done ∧ k'.done < 4611686018427387904 := by
  rcases h with ⟨_, _, _, h⟩ | ⟨_, _, h, _⟩ | ⟨_, _, rfl⟩
  · omega
  · omega
  · omega
theorem fr.block {W w' w2 : World} {B i j : Nat} {a b : Value} (h : fr W w') (c0 : W.cell? ⟨B, i, none⟩ = some a) (c3 : W.cell? ⟨B, j, none⟩ = some b) (hb : w2.heap[B]? = w'.heap[B]?) :
    w2.cell? ⟨B, i, none⟩ = some a ∧ w2.cell? ⟨B, j, none⟩ = some b :=
  ⟨(World.cell?_of_block (w' := w2) (w := w') (a := ⟨B, i, none⟩) hb).trans (h.cell c0), (World.cell?_of_block (w' := w2) (w := w') (a := ⟨B, j, none⟩) hb).trans (h.cell c3)⟩
set_option maxRecDepth 100000 in
set_option maxHeartbeats 4000000 in
theorem vdiskCountsLaw (z : Int) (v : Value) (as_ : List Ac) (w : World) (_ : (Lit.int .i64 z).wf = true) (hv : Acs w (fun _ => True) v as_) (hs : (as_.map fun a => a.data.length + 1).sum ≤ 1048576) :
    Calls Try.prog 5 #[.int .i64 z, v] w fun r w' => r = .returned (.bool true) ∧ Below w.heap.size w w' := by
  obtain ⟨A, c, rfl⟩ := hv.form
  have HV := Lib.hid hv
  have HS := Lib.hid hs
  obtain ⟨m, hm⟩ : ∃ m, as_.length = m := ⟨_, rfl⟩
  rw [hm] at HV ⊢
  have HM := Lib.hid hm
  clear hv hs hm
  go_enter Try.func5, Try.ntmps5
  go_wp2_with (first
    | (go_at_call 8; refine (wakes_any _).mono ?_; rintro r w1 ⟨rfl, hb1⟩; have HB1 := Lib.hid hb1; clear hb1))
  obtain ⟨hN0, hN1⟩ := mod20 z
  generalize wrap64 ((IntKind.u64.wrap z).tmod 20) = N at hN0 hN1 ⊢
  refine (new_dk (fun _ => True) N (-1) _ [] w1 (IntsIn.nil _ _) (by simp) w.heap.size HB1.out.size).mono ?_
  rintro r w2 ⟨p, rfl, h2, hb2⟩
  have H2 := Lib.hid h2
  have HB2 := Lib.hid (HB1.out.trans (hb2.mono HB1.out.size))
  clear h2 hb2 HB1
  go_wp2
  go_loopw [6, 21] (fun t6 t21 wr => ∃ (i : Nat) (k : Pk) (B : Nat), i ≤ m ∧ t21 = .int .i64 i ∧ t6 = .int .i64 k.done ∧ DkP wr w.heap.size p k ∧ Below w.heap.size w wr ∧ 0 ≤ k.done ∧ k.done ≤ N ∧ CntP k N as_ i B) (fun _ t21 _ => m - (intOf t21).toNat)
  case atStart => exact ⟨0, _, 0, Nat.zero_le _, rfl, rfl, H2.out, HB2.out, by simp, hN0, rfl, rfl, rfl, ⟨by simp, fun f hf => by simp at hf⟩, by simp⟩
  case round =>
    obtain ⟨i, k, B, hi, rfl, rfl, hk, hbel, k0, k1, hp⟩ := hrel
    have HK := Lib.hid hk
    have HBL := Lib.hid hbel
    have HP := Lib.hid hp
    clear hk hbel hp
    by_cases him : i < m
    · obtain ⟨a, ha⟩ : ∃ a, as_[i]? = some a := ⟨_, List.getElem?_eq_getElem (by rw [HM.out]; exact him)⟩
      obtain ⟨b, o, cs, rfl, _, _, ⟨va, kva, rfl, hva, hkva, hk8, hna, hta, _⟩, hc⟩ := Rows.at_ acFine (HV.out.below acFine HBL.out) ha
      have c0 := hc 0 _ rfl
      have c1 : wr.cell? ⟨b, o + i * 7 + 1, none⟩ = _ := hc 1 _ rfl
      have c2 : wr.cell? ⟨b, o + i * 7 + 2, none⟩ = _ := hc 2 _ rfl
      have c3 : wr.cell? ⟨b, o + i * 7 + 3, none⟩ = _ := hc 3 _ rfl
      have c4 : wr.cell? ⟨b, o + i * 7 + 4, none⟩ = _ := hc 4 _ rfl
      have c5 : wr.cell? ⟨b, o + i * 7 + 5, none⟩ = _ := hc 5 _ rfl
      have c6 : wr.cell? ⟨b, o + i * 7 + 6, none⟩ = _ := hc 6 _ rfl
      simp only [Nat.add_zero] at c0
      have HA := Lib.hid ha
      obtain ⟨Aa, ca, rfl⟩ := slice_form hva
      obtain ⟨Ak, ck, rfl, _⟩ := id hkva
      have HVA := Lib.hid hva
      have HNA := Lib.hid (And.intro hna hta)
      clear hc ha hva hkva
      go_upto_region 11 with (fail)
      obtain ⟨W9, hW9⟩ : ∃ W9, W9 = wr.alloc (.cells #[.int .i64 a.kind, .string ⟨a.name.toArray⟩, .string ⟨a.dest.toArray⟩, .slice Aa a.data.length ca, .int .i64 a.ops, .int .i64 a.room, .slice Ak a.keep.length ck] 56) := ⟨_, rfl⟩
      have hbox : W9.heap[wr.heap.size]? = some (.cells #[.int .i64 a.kind, .string ⟨a.name.toArray⟩, .string ⟨a.dest.toArray⟩, .slice Aa a.data.length ca, .int .i64 a.ops, .int .i64 a.room, .slice Ak a.keep.length ck] 56 (0, 0)) := by rw [hW9]; exact heap_alloc_new wr _
      have hb9 : Below wr.heap.size wr W9 := by rw [hW9]; exact (Below.refl _ _).alloc (Nat.le_refl _) _
      have hz9 : wr.heap.size < W9.heap.size := by rw [hW9]; simp
      rw [← hW9]
      have y0 : W9.cell? ⟨wr.heap.size, 0, none⟩ = some (.int .i64 a.kind) := cell_of_row W9 wr.heap.size 0 _ _ _ hbox
      have y1 : W9.cell? ⟨wr.heap.size, 1, none⟩ = some (.string ⟨a.name.toArray⟩) := cell_of_row W9 wr.heap.size 1 _ _ _ hbox
      have y2 : W9.cell? ⟨wr.heap.size, 2, none⟩ = some (.string ⟨a.dest.toArray⟩) := cell_of_row W9 wr.heap.size 2 _ _ _ hbox
      have y3 : W9.cell? ⟨wr.heap.size, 3, none⟩ = some (.slice Aa a.data.length ca) := cell_of_row W9 wr.heap.size 3 _ _ _ hbox
      have HVA9 := Lib.hid (HVA.out.below hb9)
      have HB9 := Lib.hid (HBL.out.trans (hb9.mono HBL.out.size))
      have HF9 := Lib.hid hb9
      have HZ9 := Lib.hid hz9
      have HK9 := Lib.hid (HK.out.below hb9)
      have HSZ : Hid (i < 1048576 ∧ B + a.data.length ≤ 1048576) := Lib.hid (cnt_small HS.out HA.out HP.out.2.2.2.2 )
      have hi20 := HSZ.out.1
      clear hW9 hbox hb9 hz9 c0 c1 c2 c3 c4 c5 c6
      by_cases hr0 : a.kind.tmod 6 = 0
      · have g : (a.kind.tmod 6 == 0) = true := by rw [beq_iff_eq]; exact hr0
        obtain ⟨e, he⟩ : ∃ e, appendE k a.name a.data = e := ⟨_, rfl⟩
        obtain ⟨k', hk'⟩ : ∃ k', appendK k a.name a.data = k' := ⟨_, rfl⟩
        have HC : Hid (stepC k e k' ∧ k'.fs.length ≤ i + 1 ∧ (∀ f ∈ k'.fs, f.data.length ≤ B + a.data.length) ∧ 0 ≤ k'.done ∧ k'.done < 4611686018427387904) := Lib.hid (by
          have h1 : stepC k e k' := by rw [← he, ← hk']; exact step_append HP.out.2.2.1 (by rw [HP.out.1]; exact hN0) (by rw [HP.out.2.1]; decide)
          have h2 : fitP k'.fs (i + 1) (B + a.data.length) := by rw [← hk']; exact fit_appendK HP.out.2.2.2.1
          exact ⟨h1, h2.1, h2.2, cnt_done h1 k0 k1 hN1⟩)
        have HCALL := Lib.hid (fun (w5 : World) (v5 : Value) (hb5 : Below wr.heap.size wr w5) (hv5 : Byt w5 (fun i => wr.heap.size ≤ i) v5 a.data) => append_dk (k := k) a.name v5 a.data HK.out hb5 HBL.out.size hv5 HNA.out.1 k0 (by omega) (fun f hf => by have := HP.out.2.2.2.1.2 f (findP_mem hf).1; have := HSZ.out; omega) (by have := HP.out.2.2.2.1.1; have := HSZ.out; omega))
        rw [he, hk'] at HCALL
        clear he hk'
        go_upto_region 15 with (fail)
        have hf0 : fr W9 W9.drew := fr.refl.drew
        have hfa : fr W9 (W9.drew.alloc (.cells #[] 5)) := hf0.alloc _
        go_region_held3 (fun w' => w'.cell? ⟨wr.heap.size, 1, none⟩ = some (.string ⟨a.name.toArray⟩) ∧ w'.cell? ⟨wr.heap.size, 3, none⟩ = some (.slice Aa a.data.length ca))
          (first
            | with_reducible exact fr.two hf0 y1 y3
            | with_reducible exact fr.two hfa y1 y3
            | with_reducible exact hs3
            | with_reducible exact fr.two hf1 y1 y3)
          (first
            | (go_split_ands; refine step_append_byt0L (by rfl) _ _ (by rfl) _ (.slice Aa a.data.length ca) (by rfl) (by rfl) (fun _ => True) a.data (fr.byt hfa HVA9.out) ?_; intro v5 w5 hv5 hb5; obtain ⟨A5, c5, rfl⟩ := slice_form hv5.byt; have hf1 := fr.step hfa hb5)
            | (go_split_ands; go_at_call 15; refine (HCALL.out w5 _ (HF9.out.trans (Below.mono hf1 (Nat.le_of_lt HZ9.out))) (hv5.mono (lo' := wr.heap.size) (Nat.le_trans (Nat.le_of_lt HZ9.out) (Below.size hfa))).byt).mono ?_; rintro r w3 ⟨rfl, hk3, hb3, hkeep⟩; have hs3 := fr.block hf1 y1 y3 (hkeep _ (Nat.le_refl _) (Nat.lt_of_lt_of_le HZ9.out (Below.size hf1))))
          )
        have HK3 := Lib.hid hk3
        have HB3 := Lib.hid ((HB9.out.trans (Below.mono hf1 HB9.out.size)).trans hb3)
        clear hk3 hb3 hkeep hs3 hf1 hfa hf0 hv5 hb5
        go_upto_region 25 with (fail)

        rcases HC.out.1 with ⟨rfl, hd1, hd2, _⟩ | ⟨rfl, hlt, hdn, hdd, hoo, hrr⟩ | ⟨h0, h20, rfl⟩
        · have g : (k.done == N) = true := by have := HP.out.1; rw [beq_iff_eq]; omega
          have hnf : k'.fs.length < 9223372036854775807 := by have := HC.out.2.1; have := HSZ.out; omega
          have hap := append_down (x := [97]) (b := []) hd2
          have HAP := Lib.hid (append_dk (k := k') [97] (.slice none 0 0) [] HK3.out (Below.refl _ _) HB3.out.size (Byt.nil _ _) (by simp) HC.out.2.2.2.1 HC.out.2.2.2.2 (fun f hf => by have := HC.out.2.2.1 f (findP_mem hf).1; have := HSZ.out; simp; omega) hnf)
          rw [hap.1, hap.2] at HAP
          clear hap hnf
          go_wp2_with (go_at_call 15; refine HAP.out.mono ?_; rintro r w4 ⟨rfl, _, hb4, _⟩; have HB4 := Lib.hid (HB3.out.trans hb4); clear hb4)
          refine bodyPost_ret (v := .bool true) (by simp [results, Try.results5, go_sem]) rfl ?_
          exact ⟨rfl, HB4.out⟩
        · have HQ := Lib.hid (cnt_next HP.out HC.out hdd hoo hrr HA.out)
          go_wp2
          refine ⟨⟨i + 1, k', _, by omega, by go_num, by rw [hdn], HK3.out, HB3.out, HC.out.2.2.2.1, by have := HP.out.1; rw [hdn]; omega, HQ.out⟩, by simp [intOf]; omega⟩
        · have g0 : (e == 0) = false := by simpa using h0
          have g20 : (e == 20) = false := by simpa using h20
          have HQ := Lib.hid (cnt_same HP.out HA.out)
          go_wp2
          refine ⟨⟨i + 1, k', _, by omega, by go_num, rfl, HK3.out, HB3.out, by omega, by omega, HQ.out⟩, by simp [intOf]; omega⟩
      by_cases hr1 : a.kind.tmod 6 = 1
      · have g : (a.kind.tmod 6 == 1) = true := by rw [beq_iff_eq]; exact hr1
        obtain ⟨e, he⟩ : ∃ e, syncE k a.name = e := ⟨_, rfl⟩
        obtain ⟨k', hk'⟩ : ∃ k', syncK k a.name = k' := ⟨_, rfl⟩
        have HC : Hid (stepC k e k' ∧ k'.fs.length ≤ i + 1 ∧ (∀ f ∈ k'.fs, f.data.length ≤ B + a.data.length) ∧ 0 ≤ k'.done ∧ k'.done < 4611686018427387904) := Lib.hid (by
          have h1 : stepC k e k' := by rw [← he, ← hk']; exact step_sync HP.out.2.2.1 (by rw [HP.out.1]; exact hN0)
          have h2 : fitP k'.fs (i + 1) (B + a.data.length) := by rw [← hk']; exact (fit_syncK HP.out.2.2.2.1).mono (by omega) (by omega)
          exact ⟨h1, h2.1, h2.2, cnt_done h1 k0 k1 hN1⟩)
        have HCALL := Lib.hid (sync_dk (k := k) a.name HK9.out HB9.out.size HNA.out.1 k0 (by omega))
        rw [he, hk'] at HCALL
        clear he hk'
        go_upto_region 25 with (go_at_call 22; refine HCALL.out.mono ?_; rintro r w3 ⟨rfl, hk3, hb3⟩; have HK3 := Lib.hid hk3; have HB3 := Lib.hid (HB9.out.trans hb3); clear hk3 hb3)

        rcases HC.out.1 with ⟨rfl, hd1, hd2, _⟩ | ⟨rfl, hlt, hdn, hdd, hoo, hrr⟩ | ⟨h0, h20, rfl⟩
        · have g : (k.done == N) = true := by have := HP.out.1; rw [beq_iff_eq]; omega
          have hnf : k'.fs.length < 9223372036854775807 := by have := HC.out.2.1; have := HSZ.out; omega
          have hap := append_down (x := [97]) (b := []) hd2
          have HAP := Lib.hid (append_dk (k := k') [97] (.slice none 0 0) [] HK3.out (Below.refl _ _) HB3.out.size (Byt.nil _ _) (by simp) HC.out.2.2.2.1 HC.out.2.2.2.2 (fun f hf => by have := HC.out.2.2.1 f (findP_mem hf).1; have := HSZ.out; simp; omega) hnf)
          rw [hap.1, hap.2] at HAP
          clear hap hnf
          go_wp2_with (go_at_call 15; refine HAP.out.mono ?_; rintro r w4 ⟨rfl, _, hb4, _⟩; have HB4 := Lib.hid (HB3.out.trans hb4); clear hb4)
          refine bodyPost_ret (v := .bool true) (by simp [results, Try.results5, go_sem]) rfl ?_
          exact ⟨rfl, HB4.out⟩
        · have HQ := Lib.hid (cnt_next HP.out HC.out hdd hoo hrr HA.out)
          go_wp2
          refine ⟨⟨i + 1, k', _, by omega, by go_num, by rw [hdn], HK3.out, HB3.out, HC.out.2.2.2.1, by have := HP.out.1; rw [hdn]; omega, HQ.out⟩, by simp [intOf]; omega⟩
        · have g0 : (e == 0) = false := by simpa using h0
          have g20 : (e == 20) = false := by simpa using h20
          have HQ := Lib.hid (cnt_same HP.out HA.out)
          go_wp2
          refine ⟨⟨i + 1, k', _, by omega, by go_num, rfl, HK3.out, HB3.out, by omega, by omega, HQ.out⟩, by simp [intOf]; omega⟩
      by_cases hr2 : a.kind.tmod 6 = 2
      · have g : (a.kind.tmod 6 == 2) = true := by rw [beq_iff_eq]; exact hr2
        obtain ⟨e, he⟩ : ∃ e, renameE k a.name a.dest = e := ⟨_, rfl⟩
        obtain ⟨k', hk'⟩ : ∃ k', renameK k a.name a.dest = k' := ⟨_, rfl⟩
        have HC : Hid (stepC k e k' ∧ k'.fs.length ≤ i + 1 ∧ (∀ f ∈ k'.fs, f.data.length ≤ B + a.data.length) ∧ 0 ≤ k'.done ∧ k'.done < 4611686018427387904) := Lib.hid (by
          have h1 : stepC k e k' := by rw [← he, ← hk']; exact step_rename HP.out.2.2.1 (by rw [HP.out.1]; exact hN0)
          have h2 : fitP k'.fs (i + 1) (B + a.data.length) := by rw [← hk']; exact (fit_renameK HP.out.2.2.2.1).mono (by omega) (by omega)
          exact ⟨h1, h2.1, h2.2, cnt_done h1 k0 k1 hN1⟩)
        have HCALL := Lib.hid (rename_dk (k := k) a.name a.dest HK9.out HB9.out.size HNA.out.1 HNA.out.2 k0 (by omega) (by have := HP.out.2.2.2.1.1; have := HSZ.out; omega))
        rw [he, hk'] at HCALL
        clear he hk'
        go_upto_region 25 with (go_at_call 23; refine HCALL.out.mono ?_; rintro r w3 ⟨rfl, hk3, hb3⟩; have HK3 := Lib.hid hk3; have HB3 := Lib.hid (HB9.out.trans hb3); clear hk3 hb3)

        rcases HC.out.1 with ⟨rfl, hd1, hd2, _⟩ | ⟨rfl, hlt, hdn, hdd, hoo, hrr⟩ | ⟨h0, h20, rfl⟩
        · have g : (k.done == N) = true := by have := HP.out.1; rw [beq_iff_eq]; omega
          have hnf : k'.fs.length < 9223372036854775807 := by have := HC.out.2.1; have := HSZ.out; omega
          have hap := append_down (x := [97]) (b := []) hd2
          have HAP := Lib.hid (append_dk (k := k') [97] (.slice none 0 0) [] HK3.out (Below.refl _ _) HB3.out.size (Byt.nil _ _) (by simp) HC.out.2.2.2.1 HC.out.2.2.2.2 (fun f hf => by have := HC.out.2.2.1 f (findP_mem hf).1; have := HSZ.out; simp; omega) hnf)
          rw [hap.1, hap.2] at HAP
          clear hap hnf
          go_wp2_with (go_at_call 15; refine HAP.out.mono ?_; rintro r w4 ⟨rfl, _, hb4, _⟩; have HB4 := Lib.hid (HB3.out.trans hb4); clear hb4)
          refine bodyPost_ret (v := .bool true) (by simp [results, Try.results5, go_sem]) rfl ?_
          exact ⟨rfl, HB4.out⟩
        · have HQ := Lib.hid (cnt_next HP.out HC.out hdd hoo hrr HA.out)
          go_wp2
          refine ⟨⟨i + 1, k', _, by omega, by go_num, by rw [hdn], HK3.out, HB3.out, HC.out.2.2.2.1, by have := HP.out.1; rw [hdn]; omega, HQ.out⟩, by simp [intOf]; omega⟩
        · have g0 : (e == 0) = false := by simpa using h0
          have g20 : (e == 20) = false := by simpa using h20
          have HQ := Lib.hid (cnt_same HP.out HA.out)
          go_wp2
          refine ⟨⟨i + 1, k', _, by omega, by go_num, rfl, HK3.out, HB3.out, by omega, by omega, HQ.out⟩, by simp [intOf]; omega⟩
      by_cases hr3 : a.kind.tmod 6 = 3
      · have g : (a.kind.tmod 6 == 3) = true := by rw [beq_iff_eq]; exact hr3
        obtain ⟨e, he⟩ : ∃ e, syncE k a.name = e := ⟨_, rfl⟩
        obtain ⟨k', hk'⟩ : ∃ k', deleteK k a.name = k' := ⟨_, rfl⟩
        have HC : Hid (stepC k e k' ∧ k'.fs.length ≤ i + 1 ∧ (∀ f ∈ k'.fs, f.data.length ≤ B + a.data.length) ∧ 0 ≤ k'.done ∧ k'.done < 4611686018427387904) := Lib.hid (by
          have h1 : stepC k e k' := by rw [← he, ← hk']; exact step_delete HP.out.2.2.1 (by rw [HP.out.1]; exact hN0)
          have h2 : fitP k'.fs (i + 1) (B + a.data.length) := by rw [← hk']; exact (fit_deleteK HP.out.2.2.2.1).mono (by omega) (by omega)
          exact ⟨h1, h2.1, h2.2, cnt_done h1 k0 k1 hN1⟩)
        have HCALL := Lib.hid (delete_dk (k := k) a.name HK9.out HB9.out.size HNA.out.1 k0 (by omega))
        rw [he, hk'] at HCALL
        clear he hk'
        go_upto_region 25 with (go_at_call 24; refine HCALL.out.mono ?_; rintro r w3 ⟨rfl, hk3, hb3⟩; have HK3 := Lib.hid hk3; have HB3 := Lib.hid (HB9.out.trans hb3); clear hk3 hb3)

        rcases HC.out.1 with ⟨rfl, hd1, hd2, _⟩ | ⟨rfl, hlt, hdn, hdd, hoo, hrr⟩ | ⟨h0, h20, rfl⟩
        · have g : (k.done == N) = true := by have := HP.out.1; rw [beq_iff_eq]; omega
          have hnf : k'.fs.length < 9223372036854775807 := by have := HC.out.2.1; have := HSZ.out; omega
          have hap := append_down (x := [97]) (b := []) hd2
          have HAP := Lib.hid (append_dk (k := k') [97] (.slice none 0 0) [] HK3.out (Below.refl _ _) HB3.out.size (Byt.nil _ _) (by simp) HC.out.2.2.2.1 HC.out.2.2.2.2 (fun f hf => by have := HC.out.2.2.1 f (findP_mem hf).1; have := HSZ.out; simp; omega) hnf)
          rw [hap.1, hap.2] at HAP
          clear hap hnf
          go_wp2_with (go_at_call 15; refine HAP.out.mono ?_; rintro r w4 ⟨rfl, _, hb4, _⟩; have HB4 := Lib.hid (HB3.out.trans hb4); clear hb4)
          refine bodyPost_ret (v := .bool true) (by simp [results, Try.results5, go_sem]) rfl ?_
          exact ⟨rfl, HB4.out⟩
        · have HQ := Lib.hid (cnt_next HP.out HC.out hdd hoo hrr HA.out)
          go_wp2
          refine ⟨⟨i + 1, k', _, by omega, by go_num, by rw [hdn], HK3.out, HB3.out, HC.out.2.2.2.1, by have := HP.out.1; rw [hdn]; omega, HQ.out⟩, by simp [intOf]; omega⟩
        · have g0 : (e == 0) = false := by simpa using h0
          have g20 : (e == 20) = false := by simpa using h20
          have HQ := Lib.hid (cnt_same HP.out HA.out)
          go_wp2
          refine ⟨⟨i + 1, k', _, by omega, by go_num, rfl, HK3.out, HB3.out, by omega, by omega, HQ.out⟩, by simp [intOf]; omega⟩
      have HQ := Lib.hid (cnt_same HP.out HA.out)
      by_cases hr4 : a.kind.tmod 6 = 4
      · have g : (a.kind.tmod 6 == 4) = true := by rw [beq_iff_eq]; exact hr4
        have HCALL := Lib.hid (read_dk (k := k) a.name HK9.out HNA.out.1)
        obtain ⟨e, he⟩ : ∃ e, readyE k [a.name] = e := ⟨_, rfl⟩
        have HE := Lib.hid (ready_codes (ss := [a.name]) HP.out.2.2.1)
        rw [he] at HCALL HE
        clear he
        go_upto_region 24 with (go_at_call 19; refine HCALL.out.mono ?_; rintro r w3 ⟨v3, rfl, _, hk3, hb3⟩; have HK3 := Lib.hid hk3; have HB3 := Lib.hid (HB9.out.trans (hb3.mono HB9.out.size)); clear hk3 hb3)
        rcases HE.out with rfl | rfl | rfl
        · go_wp2
          refine ⟨⟨i + 1, k, _, by omega, by go_num, rfl, HK3.out, HB3.out, by omega, by omega, HQ.out⟩, by simp [intOf]; omega⟩
        · go_wp2
          refine ⟨⟨i + 1, k, _, by omega, by go_num, rfl, HK3.out, HB3.out, by omega, by omega, HQ.out⟩, by simp [intOf]; omega⟩
        · go_wp2
          refine ⟨⟨i + 1, k, _, by omega, by go_num, rfl, HK3.out, HB3.out, by omega, by omega, HQ.out⟩, by simp [intOf]; omega⟩
      · have g0 : (a.kind.tmod 6 == 0) = false := by simpa using hr0
        have g1 : (a.kind.tmod 6 == 1) = false := by simpa using hr1
        have g2 : (a.kind.tmod 6 == 2) = false := by simpa using hr2
        have g3 : (a.kind.tmod 6 == 3) = false := by simpa using hr3
        have g4 : (a.kind.tmod 6 == 4) = false := by simpa using hr4
        have hE : readyE k [] = 0 := by unfold readyE; rw [if_neg (by rw [HP.out.2.2.1]; simp)]; rfl
        have HCALL := Lib.hid (list_dk (k := k) HK9.out (by have := HP.out.2.2.2.1.1; have := HSZ.out; omega))
        rw [hE] at HCALL
        clear hE
        go_wp2_with (go_at_call 25; refine HCALL.out.mono ?_; rintro r w3 ⟨v3, rfl, _, hk3, hb3⟩; have HK3 := Lib.hid hk3; have HB3 := Lib.hid (HB9.out.trans (hb3.mono HB9.out.size)); clear hk3 hb3)
        refine ⟨⟨i + 1, k, _, by omega, by go_num, rfl, HK3.out, HB3.out, by omega, by omega, HQ.out⟩, by simp [intOf]; omega⟩
    · obtain rfl : i = m := by omega
      have g : decide (k.done ≤ N) = true := decide_eq_true k1
      go_wp2
      refine bodyPost_ret (v := .bool true) (by simp [results, Try.results5, go_sem]) rfl ?_
      exact ⟨rfl, HBL.out⟩
end Go.Proofs.Ytcmjoaepihbodaa
