/-
vdisk's Revive.
-/
import Derived.Test.YtcmjoaepihbodaaDkC
namespace Go.Proofs.Ytcmjoaepihbodaa
open Go.RowKit Go.BigFrame Go.Sort Go.Shelf Go.Lib Go.Maps
attribute [local go_sem ↓] Go.wp_at_zero Go.wp_at_succ

theorem revive_nil (v : Value) (w : World) (A : Option Addr) (n c : Nat) (a b : Int) (hv : v = .agg #[.int .i64 a, .int .i64 b, .slice A n c]) : Calls Try.prog 13 #[.pointer none, v] w fun r w' => r = .returned (.int .i64 1) ∧ Below w.heap.size w w' := by
  subst hv
  have hA : Below w.heap.size w (w.alloc (.cells #[.int .i64 a, .int .i64 b, .slice A n c] 25)) := (Below.refl _ _).alloc (Nat.le_refl _) _
  go_enter Try.func13, Try.ntmps13
  go_wp2
  refine bodyPost_ret (v := .int .i64 1) (by simp [results, Try.results13, go_sem]) rfl ?_
  exact ⟨rfl, hA⟩

theorem ne_loose {x : Int} {l s : Nat} (h : x = (l : Int) - s) (hu : ¬ s = l) : ¬ x = 0 := by omega
theorem IntsIn.only' {w w' : World} {T S : Nat → Prop} {v : Value} {xs : List Int} (h : IntsIn w T v xs) (ho : Only S w w') (hd : ∀ i, T i → ¬ S i) : IntsIn w' T v xs := by
  obtain ⟨A, c, e, h1, h2, h3⟩ := h
  exact ⟨A, c, e, h1, h2, h3.only ho fun i _ hi => hd i hi⟩
/-- the state of the loop. -/
structure RevInv (w1 : World) (F : Nat → Prop) (p mb : Nat) (kv : Value) (k : Pk) (i : Nat) (v5 : Value) (w : World) : Prop where
  disk : ∃ d, DiskV w F p mb kv d ∧ d.pk = { k with fs := (revSt k.fs k.keep k.bytes i).1, bytes := (revSt k.fs k.keep k.bytes i).2.2 }
  keep : KeepV w F v5 (revSt k.fs k.keep k.bytes i).2.1
  only : Only F w1 w
theorem RevInv.step {w1 w w' : World} {F : Nat → Prop} {p mb i : Nat} {kv v5 : Value} {k : Pk} (h : RevInv w1 F p mb kv k i v5 w) (hb : Below w.heap.size w w') : RevInv w1 F p mb kv k i v5 w' := by
  obtain ⟨⟨d, h1, h2⟩, h3, h4⟩ := h
  exact ⟨⟨d, h1.below hb, h2⟩, h3.kept fun g cs _ hc => hb.block g (Array.getElem?_eq_some_iff.1 hc).1, h4.trans (Only.of_below hb)⟩
theorem RevInv.skip {w1 w : World} {F : Nat → Prop} {p mb i : Nat} {kv v5 : Value} {k : Pk} (h : RevInv w1 F p mb kv k i v5 w) {f : Fl} (hf : k.fs[i]? = some f) (hl : f.loose = 0) : RevInv w1 F p mb kv k (i + 1) v5 w := by
  obtain ⟨h1, h2, h3⟩ := h
  refine ⟨?_, ?_, h3⟩ <;> rw [rev_step hf, if_pos hl] <;> assumption
theorem KeepV.tail {w : World} {F : Nat → Prop} {g o n c : Nat} {z : Int} {ks : List Int} (h : KeepV w F (.slice (some ⟨g, o, none⟩) n c) (z :: ks)) : KeepV w F (.slice (some ⟨g, o + 1, none⟩) (n - 1) (c - 1)) ks := by
  obtain ⟨A, c', hE, h1, h2, h3⟩ := h
  injection hE with e1 e2 e3
  subst e1 e2 e3
  obtain ⟨g', o', cs, e1, e2, e3, e4⟩ := h3 (by simp)
  injection e1 with e1
  injection e1 with e1 e5 _
  subst e1 e5
  simp only [List.length_cons] at h1 h2
  exact ⟨some ⟨g, o + 1, none⟩, c - 1, by simp, by omega, by omega, fun _ => ⟨g, o + 1, cs, rfl, e2, e3, fun j z hj => by rw [Nat.add_assoc, Nat.add_comm 1 j]; exact e4 (j + 1) z (by simpa using hj)⟩⟩
theorem KeepV.tail1 {w : World} {F : Nat → Prop} {A : Option Addr} {n : Nat} {z : Int} {ks : List Int} (h : KeepV w F (.slice A n 1) (z :: ks)) : KeepV w F (.slice A (n - 1) 0) ks := by
  obtain ⟨A', c', hE, h1, h2, h3⟩ := h
  injection hE with e1 e2 e3
  subst e1 e2 e3
  have : ks = [] := List.eq_nil_of_length_eq_zero (by rw [List.length_cons] at h1; omega)
  subst this
  exact ⟨A, 0, rfl, Nat.le_refl _, by simp, fun h => absurd h (by simp)⟩
theorem OwnB.cut {w : World} {F : Nat → Prop} {A : Option Addr} {n c m : Nat} {bs : List UInt8} (h : OwnB w F (.slice A n c) bs) (hm : m ≤ bs.length) : OwnB w F (.slice A m m) (bs.take m) := by
  obtain ⟨A', c', hE, h1, h2, h3, h4⟩ := h
  injection hE with e1 e2 e3
  subst e1 e2 e3
  have hl : (bs.take m).length = m := by rw [List.length_take]; omega
  refine ⟨A, m, by rw [hl], by omega, by omega, by omega, ?_⟩
  rcases h4 with h4 | ⟨g, cur, e1, e2, e3, e4, e5⟩
  · exact .inl (by omega)
  · refine .inr ⟨g, cur, e1, e2, e3, by omega, ?_⟩
    rw [hl, List.map_take]
    have := congrArg (List.take m) e5
    rw [List.take_take] at this
    rwa [Nat.min_eq_left hm] at this
theorem modP_neg {z m : Int} (h0 : 0 < m) (h1 : m ≤ 140737488355329) (h : z.tmod m < 0) : wrap64 (z.tmod m + m) = modP z m := by
  have h2 := modP_range (z := z) h0
  unfold modP at h2 ⊢
  rw [if_pos h] at h2 ⊢
  unfold wrap64
  omega
theorem modP_pos {z m : Int} (h : ¬ z.tmod m < 0) : z.tmod m = modP z m := by unfold modP; rw [if_neg h]
theorem KeepV.none_at (w : World) (F : Nat → Prop) (A : Option Addr) : KeepV w F (.slice A 0 0) [] := ⟨A, 0, rfl, Nat.le_refl _, by simp, fun h => absurd h (by simp)⟩
/-- the file of a round. -/
theorem RevInv.file {w1 w : World} {F : Nat → Prop} {p mb i : Nat} {kv v5 : Value} {k : Pk} (h : RevInv w1 F p mb kv k i v5 w) {f0 : Fl} (hf : k.fs[i]? = some f0) : ∃ d f, DiskV w F p mb kv d ∧ d.pk = { k with fs := (revSt k.fs k.keep k.bytes i).1, bytes := (revSt k.fs k.keep k.bytes i).2.2 } ∧ f.fl = f0 ∧ findF f0.name d.ns = some f := by
  obtain ⟨⟨d, h1, h2⟩, _, _⟩ := h
  have h3 : d.pk.fs[i]? = some f0 := by rw [h2]; exact (rev_later k.fs k.keep k.bytes i i (Nat.le_refl _)).trans hf
  have h4 : (d.ns.map Fd.fl)[i]? = some f0 := h3
  rw [List.getElem?_map] at h4
  cases hx : d.ns[i]? with
  | none => rw [hx] at h4; cases h4
  | some f =>
    rw [hx] at h4
    have e : f.fl = f0 := by simpa using h4
    refine ⟨d, f, h1, h2, e, ?_⟩
    rw [← e]
    exact find_mem h1.sorted (List.mem_of_getElem? hx)

set_option maxRecDepth 100000 in
set_option maxHeartbeats 8000000 in
theorem revive_any (F : Nat → Prop) (p : Nat) (k : Pk) (S : Nat → Prop) (ops room : Int) (v : Value) (zs : List Int) (w : World) (h : DiskP w F p k) (hok : okFs k.fs) (hmany : k.fs.length * 16 ≤ 140737488355328) (hz : IntsIn w S v zs) (hS : ∀ i, S i → ¬ F i) (hl : zs.length * 8 ≤ 140737488355328) :
    Calls Try.prog 13 #[.pointer (some ⟨p, 0, none⟩), .agg #[.int .i64 ops, .int .i64 room, v]] w fun r w' => r = .returned (.int .i64 0) ∧ DiskP w' (orNew F w.heap.size) p (reviveK k ops room zs) ∧ Only F w w' := by
  obtain ⟨mb, kv, d, h, rfl⟩ := h
  have H := Lib.hid h
  have hA : Below w.heap.size w (w.alloc (.cells #[.int .i64 ops, .int .i64 room, v] 25)) := (Below.refl _ _).alloc (Nat.le_refl _) _
  have HA := Lib.hid hA
  have HZ := Lib.hid hz
  obtain ⟨Az, cz, rfl, _⟩ := hz
  obtain ⟨Ak, ck, hkv, _⟩ := h.keep
  subst hkv
  have hv := h.below hA
  obtain ⟨_, _, _, x3, _⟩ := hv.cell
  have HN := Lib.hid (names_any F p mb _ d _ hv (by rw [← map_len]; exact hmany))
  rw [← map_len] at HN
  have HK := Lib.hid hok
  clear h hA hv hok
  go_enter Try.func13, Try.ntmps13
  go_wp2_with (go_at_call 32; refine HN.out.mono ?_; rintro r w1 ⟨vn, rfl, hrow, hb1⟩; obtain ⟨An, cn, rfl⟩ := own_form hrow)
  obtain ⟨F0, hF0⟩ : ∃ F0 : Nat → Prop, (∀ i, F0 i → F i ∧ i < w.heap.size) ∧ ∀ i, F i → i < w.heap.size → F0 i := ⟨fun i => F i ∧ i < w.heap.size, fun _ h => h, fun _ h1 h2 => ⟨h1, h2⟩⟩
  have HF0 := Lib.hid hF0
  have hbx := box_at hb1
  have hrow' : w1.ownsRow (w.heap.size + 1) 9 1 (.slice An d.pk.fs.length cn) d.pk.fs.length ((d.pk.fs.map Fl.name).map encStr) := by
    have e : d.pk.fs.map Fl.name = d.ns.map Fd.name := by show (d.ns.map Fd.fl).map Fl.name = _; rw [List.map_map]; rfl
    rw [e]
    simpa using hrow
  have HROW := Lib.hid hrow'
  have HBX := Lib.hid hbx
  have HB1 := Lib.hid (HA.out.trans (hb1.mono HA.out.size))
  have HZ1 : Hid (w.heap.size < w1.heap.size) := Lib.hid (by have := hb1.size; simp at this; omega)
  have hinv : RevInv w1 F0 p mb (.slice Ak d.keep.length ck) d.pk 0 (.slice Ak d.keep.length ck) w1 := by
    have hv := (H.out.mono fun i h1 h2 => hF0.2 i h1 h2).below HB1.out
    exact ⟨⟨d, hv, rfl⟩, hv.keep, Only.refl _ _⟩
  have HINV := Lib.hid hinv
  obtain ⟨n, hn⟩ : ∃ n, d.pk.fs.length = n := ⟨_, rfl⟩
  have HLN := Lib.hid hn
  rw [hn] at hmany HROW ⊢
  clear hF0 hbx hrow hrow' hb1 hinv hn x3 HN
  go_loopw [5, 21] (fun v5 t wr => ∃ i : Nat, i ≤ n ∧ t = .int .i64 i ∧ RevInv w1 F0 p mb (.slice Ak d.keep.length ck) d.pk i v5 wr) (fun _ t _ => n - (intOf t).toNat)
  case atStart => exact ⟨0, Nat.zero_le _, rfl, HINV.out⟩
  case round =>
    clear HINV
    obtain ⟨i, hi, rfl, hinv⟩ := hrel
    have HI := Lib.hid hinv
    clear hinv
    by_cases hin : i < n
    · as_aux_lemma =>
      obtain ⟨f0, hf0⟩ : ∃ f0, d.pk.fs[i]? = some f0 := ⟨_, List.getElem?_eq_getElem (by rw [HLN.out]; exact hin)⟩
      obtain ⟨d', f, hv, hpk, rfl, hf⟩ := HI.out.file hf0
      have hrow' := own_only HROW.out HI.out.only (fun g hg h => by have := (HROW.out.lt g hg).1; have := (HF0.out.1 g h).2; omega)
      obtain ⟨gn, cn', hE, _⟩ := own_pos hrow' (by omega)
      injection hE with e1 e2 e3
      subst e1 e3
      have hcn : wr.cell? ⟨gn, i, none⟩ = some (.string ⟨f.name.toArray⟩) := by
        rw [hrow'.cellAt i (by omega), List.getElem?_map, List.getElem?_map, hf0]
        rfl
      have hnl : f.name.length ≤ 140737488355328 := by have := nameB_len (hv.names f (find_name hf).2); omega
      obtain ⟨x0, _⟩ := hv.cell
      have hlk := hv.look f.name hnl
      rw [show findF f.name d'.ns = some f from hf] at hlk
      unfold ptrF at hlk
      obtain ⟨y0, y1, yf, hfv⟩ := hv.file hf
      obtain ⟨Af, cf, hfs⟩ := hfv.own.form
      rw [hfs] at y0
      have hlen := hfv.own.len
      have hokf := HK.out f.fl (List.mem_of_getElem? hf0)
      obtain ⟨s, hs⟩ : ∃ s : Nat, f.synced = s := ⟨f.synced.toNat, by have := hokf.1; show f.synced = _; have : f.fl.synced = f.synced := rfl; omega⟩
      have hsl : s ≤ f.data.length := by have h2 := hokf.2; have e1 : f.fl.synced = f.synced := rfl; have e2 : f.fl.data = f.data := rfl; rw [e1, e2, hs] at h2; omega
      rw [hs] at y1
      have HV := Lib.hid hv
      have HPK := Lib.hid hpk
      have HF := Lib.hid hf
      have HFV := Lib.hid hfv
      have HFS := Lib.hid hfs
      have HS := Lib.hid hs
      have HF00 := Lib.hid hf0
      have Y0 : ∀ q : Ext wr, q.w.cell? { block := f.blk, off := 0 } = _ := fun q => q.h.cell y0
      have Y1 : ∀ q : Ext wr, q.w.cell? { block := f.blk, off := 1 } = _ := fun q => q.h.cell y1
      clear hv hpk hf hfv hfs hs hf0 hokf hrow' e2
      by_cases hu : s = f.data.length
      · subst hu
        go_wp2
        (refine wp_region_quiet_ext (by kernel_rfl) (by kernel_rfl) ?_; (repeat (go_big_quiet_step (fail))); refine wpQuiet_nil ?_; intro wq hw'; obtain ⟨⟨_, hq⟩, hw''⟩ := hw'; subst hw'')
        go_wp2
        refine ⟨⟨i + 1, by omega, by go_num, (HI.out.step hq).skip HF00.out ?_⟩, by simp [intOf]; omega⟩
        show (f.data.length : Int) - f.synced = 0
        rw [HS.out]
        omega
      · have HU := Lib.hid hu
        obtain ⟨ks, hks⟩ : ∃ ks, (revSt d.pk.fs d.pk.keep d.pk.bytes i).2.1 = ks := ⟨_, rfl⟩
        have hkp := HI.out.keep
        rw [hks] at hkp
        have HKP := Lib.hid hkp
        have HKS := Lib.hid hks
        obtain ⟨A5, c5, rfl, hk1, hk2, _⟩ := hkp
        clear hks
        have hb0 : ((f.data.length : Int) - s == 0) = false := by simp; omega
        go_wp2
        (refine wp_region_quiet_ext (by kernel_rfl) (by kernel_rfl) ?_; (repeat (go_big_quiet_step (fail))); refine wpQuiet_nil ?_; intro wq hw'; obtain ⟨⟨_, hq⟩, hw''⟩ := hw'; subst hw'')
        have KQ : KeepV wq F0 (.slice A5 ks.length c5) ks := HKP.out.kept fun g cs _ hc => Below.block hq g (Array.getElem?_eq_some_iff.1 hc).1
        have HKQ := Lib.hid KQ
        clear KQ
        go_upto_if 45 with (fail)
        go_cut [5, 10] (fun v5' t wc => ∃ m : Nat, t = .int .i64 m ∧ (m : Int) = keptN f.fl ks ∧ KeepV wq F0 v5' ks.tail ∧ wc = wq)
        case first =>
          cases ks with
          | nil =>
            go_wp2_with fail
            go_meet
            case rel => exact ⟨0, rfl, rfl, HKQ.out, rfl⟩
          | cons z ks =>
            obtain ⟨g5, o5, hA5, hz5⟩ : ∃ g o, A5 = some ⟨g, o, none⟩ ∧ wq.cell? ⟨g, o, none⟩ = some (.int .i64 z) := by
              obtain ⟨A, c', hE, h1, h2, h3⟩ := HKQ.out
              injection hE with e1 e2 e3
              subst e1
              obtain ⟨g', o', cs, e1, e2, e3, e4⟩ := h3 (by simp)
              exact ⟨g', o', e1, by rw [cell_of_row wq _ _ _ _ _ e3]; simpa using e4 0 z rfl⟩
            subst hA5
            obtain ⟨n5, hn5⟩ : ∃ n, (z :: ks).length = n := ⟨_, rfl⟩
            have hn5' : 0 < n5 := by rw [← hn5]; simp
            have HN5 := Lib.hid hn5
            rw [hn5] at hk1 hk2 HKQ ⊢
            clear hn5 HKP
            have hmm : 0 < (f.data.length : Int) - s + 1 := by omega
            have hmm' : (f.data.length : Int) - s + 1 ≤ 140737488355329 := by omega
            have HMM := Lib.hid (And.intro hmm hmm')
            clear hmm hmm'
            have hK : keptN f.fl (z :: ks) = modP z ((f.data.length : Int) - s + 1) := by
              show modP z ((f.data.length : Int) - f.synced + 1) = _
              rw [HS.out]
            have HKK := Lib.hid hK
            have hT : ((modP z ((f.data.length : Int) - s + 1)).toNat : Int) = modP z ((f.data.length : Int) - s + 1) := Int.toNat_of_nonneg (modP_range HMM.out.1).1
            have HTT := Lib.hid hT
            clear hK hT
            by_cases hneg : z.tmod ((f.data.length : Int) - s + 1) < 0
            · have hw := Lib.hid (modP_neg HMM.out.1 HMM.out.2 hneg)
              by_cases hc1 : c5 = 1
              · have HC1 := Lib.hid hc1
                go_wp2_with fail
                go_meet
                case rel => exact ⟨(modP z ((f.data.length : Int) - s + 1)).toNat, by rw [hw.out, HTT.out], by rw [HTT.out, HKK.out], KeepV.tail1 (HC1.out ▸ HKQ.out), rfl⟩
              · go_wp2_with fail
                go_meet
                case rel => exact ⟨(modP z ((f.data.length : Int) - s + 1)).toNat, by rw [hw.out, HTT.out], by rw [HTT.out, HKK.out], HKQ.out.tail, rfl⟩
            · have hw := Lib.hid (modP_pos hneg)
              by_cases hc1 : c5 = 1
              · have HC1 := Lib.hid hc1
                go_wp2_with fail
                go_meet
                case rel => exact ⟨(modP z ((f.data.length : Int) - s + 1)).toNat, by rw [hw.out, HTT.out], by rw [HTT.out, HKK.out], KeepV.tail1 (HC1.out ▸ HKQ.out), rfl⟩
              · go_wp2_with fail
                go_meet
                case rel => exact ⟨(modP z ((f.data.length : Int) - s + 1)).toNat, by rw [hw.out, HTT.out], by rw [HTT.out, HKK.out], HKQ.out.tail, rfl⟩
        case rest =>
          obtain ⟨m, rfl, hm, hk5, hwc⟩ := hcut
          obtain rfl : wq = wc := hwc.symm
          have hkr := kept_range (f := f.fl) (by show f.synced ≤ _; rw [HS.out]; show (s : Int) ≤ f.data.length; omega) ks
          rw [← hm] at hkr
          have hsm : s + m ≤ f.data.length := by have h1 := hkr.2; have e : f.fl.loose = (f.data.length : Int) - f.synced := rfl; rw [e, HS.out] at h1; omega
          have HM := Lib.hid hm
          have HK5 := Lib.hid hk5
          have hvq := HV.out.below hq
          obtain ⟨_, _, _, _, _, z5, _⟩ := hvq.cell
          have zf := hvq.frozen
          obtain ⟨w0', w1', wf, hfq⟩ := hvq.file HF.out
          rw [HFS.out] at w0'
          rw [HS.out] at w1'
          obtain ⟨_, _, hEE, hlc, hcm, _⟩ := hfq.own
          rw [HFS.out] at hEE
          injection hEE with e1 _ e3
          subst e1 e3
          have HVQ := Lib.hid hvq
          have HFQ := Lib.hid hfq
          clear hm hk5 hkr hvq hfq
          go_wp2
          go_region
          have hcF := HFQ.out.cells
          rw [HFS.out, HS.out] at hcF
          have b1 : (wq.setCell ⟨f.blk, 0, none⟩ (.slice Af (s + m) (s + m))).drew.heap[f.blk]? = some (.cells #[.slice Af (s + m) (s + m), .int .i64 s] 75 (0, 0)) := heap_setCell_same wq f.blk 0 _ _ _ hcF
          have oth : ∀ j, j ≠ f.blk → (wq.setCell ⟨f.blk, 0, none⟩ (.slice Af (s + m) (s + m))).drew.heap[j]? = wq.heap[j]? := fun j hj => heap_setCell_other wq ⟨f.blk, 0, none⟩ j _ hj
          have on1 : Only (fun j => j = f.blk ∨ blkB f.sl = some j) wq (wq.setCell ⟨f.blk, 0, none⟩ (.slice Af (s + m) (s + m))).drew := ((Only.refl _ _).setCell (p := ⟨f.blk, 0, none⟩) (.inl rfl) _).drew
          obtain ⟨W1, hW1⟩ : ∃ W, W = (wq.setCell ⟨f.blk, 0, none⟩ (.slice Af (s + m) (s + m))).drew := ⟨_, rfl⟩
          rw [← hW1] at b1 oth on1 ⊢
          have v1 := cell_of_row W1 f.blk 1 _ _ _ b1
          have vf : ∀ j, W1.frozen? ⟨f.blk, j, none⟩ = false := fun j => frozen_of_row W1 _ j _ _ b1
          have B1 := Lib.hid b1
          have OTH := Lib.hid oth
          have ON1 := Lib.hid on1
          simp only [List.getElem?_toArray, List.getElem?_cons_zero, List.getElem?_cons_succ] at v1
          have hpf : p ≠ f.blk := cells_ne HVQ.out.head HFQ.out.cells (by decide)
          have p1 : W1.heap[p]? = _ := (oth p hpf).trans HVQ.out.head
          have q5 := cell_of_row W1 p 5 _ _ _ p1
          have qf : ∀ j, W1.frozen? ⟨p, j, none⟩ = false := fun j => frozen_of_row W1 _ j _ _ p1
          simp only [List.getElem?_toArray, List.getElem?_cons_zero, List.getElem?_cons_succ] at q5
          clear b1 oth on1 hW1 hcF w0' w1' wf z5 zf p1
          go_wp2
          have b2 : (W1.setCell ⟨f.blk, 1, none⟩ (.int .i64 (s + m))).heap[f.blk]? = some (.cells #[.slice Af (s + m) (s + m), .int .i64 (s + m)] 75 (0, 0)) := heap_setCell_same W1 f.blk 1 _ _ _ B1.out
          have oth2 : ∀ j, j ≠ f.blk → (W1.setCell ⟨f.blk, 1, none⟩ (.int .i64 (s + m))).heap[j]? = wq.heap[j]? := fun j hj => (heap_setCell_other W1 ⟨f.blk, 1, none⟩ j _ hj).trans (OTH.out j hj)
          have hown : OwnB wq F0 (.slice Af (s + m) (s + m)) (f.data.take (s + m)) := OwnB.cut (HFS.out ▸ HFQ.out.own) hsm
          have hblk : ∀ g, blkB (.slice Af (s + m) (s + m)) = some g → blkB f.sl = some g := fun g hg => by
            rw [HFS.out]
            cases Af with
            | none => simp [blkB] at hg
            | some a =>
              by_cases h0 : s + m = 0
              · simp [blkB, h0] at hg
              · simp only [blkB, if_neg h0] at hg
                simp only [blkB]
                rw [if_neg (by omega)]
                exact hg
          have hup := HVQ.out.upd (F' := F0) (fun _ h => h) (find_name HF.out).2 (data' := f.data.take (s + m)) (synced' := s + m) (sl' := .slice Af (s + m) (s + m)) (w' := W1.setCell ⟨f.blk, 1, none⟩ (.int .i64 (s + m))) (ON1.out.setCell (p := ⟨f.blk, 1, none⟩) (.inl rfl) _) b2
            (hown.kept fun g hg => oth2 g (by obtain ⟨_, ⟨cs, hL⟩, _⟩ := hown.blk hg; exact cells_ne hL HFQ.out.cells (by decide))) (fun g hg => .inl (hblk g hg))
          have hst := hup.store 5 (.int .i64 (wrap64 (d'.bytes - (f.data.length - s - m)))) { d' with ns := updF f.name (setF (f.data.take (s + m)) (s + m) (.slice Af (s + m) (s + m))) d'.ns, bytes := wrap64 (d'.bytes - (f.data.length - s - m)) } _ rfl hup.keep rfl
          have hlo : f.fl.loose = (f.data.length : Int) - s := by show (f.data.length : Int) - f.synced = _; rw [HS.out]
          have hne : ¬ f.fl.loose = 0 := ne_loose hlo HU.out
          have hat : d'.pk.fs[i]? = some f.fl := by rw [HPK.out]; exact (rev_later _ _ _ i i (Nat.le_refl _)).trans HF00.out
          have hdn : d'.pk.fs.Pairwise fun a b => a.name ≠ b.name := by
            show (d'.ns.map Fd.fl).Pairwise _
            rw [List.pairwise_map]
            exact HVQ.out.sorted.imp fun {a b} hab e => by
              have e' : a.name = b.name := e
              rw [e'] at hab
              exact List.lt_irrefl _ hab
          have hcut : (setF (f.data.take (s + m)) (s + m) (.slice Af (s + m) (s + m)) f).fl = cutP f.fl m := by
            show (⟨f.name, f.data.take (s + m), s + m⟩ : Fl) = ⟨f.name, f.data.take (f.synced + m).toNat, f.synced + m⟩
            rw [HS.out]
            congr 2
          have e1 := congrArg Pk.fs (pk_upd HVQ.out.sorted HF.out (setF (f.data.take (s + m)) (s + m) (.slice Af (s + m) (s + m))) (fun a => cutP a m) hcut)
          have e2 : updP f.fl.name (fun a => cutP a m) d'.pk.fs = d'.pk.fs.set i (cutP f.fl m) := updP_set hdn hat _
          have o1 : d'.pk.ops = d.pk.ops := by rw [HPK.out]
          have o2 : d'.pk.room = d.pk.room := by rw [HPK.out]
          have o3 : d'.pk.keep = d.pk.keep := by rw [HPK.out]
          have o4 : d'.pk.done = d.pk.done := by rw [HPK.out]
          have o5 : d'.pk.bytes = (revSt d.pk.fs d.pk.keep d.pk.bytes i).2.2 := by rw [HPK.out]
          have o6 : d'.pk.down = d.pk.down := by rw [HPK.out]
          have o7 : d'.pk.fs = (revSt d.pk.fs d.pk.keep d.pk.bytes i).1 := by rw [HPK.out]
          have hkn : keptN f.fl (revSt d.pk.fs d.pk.keep d.pk.bytes i).2.1 = m := by rw [HKS.out]; exact HM.out.symm
          have hstep := rev_step (fs := d.pk.fs) (keep := d.pk.keep) (b := d.pk.bytes) HF00.out
          rw [if_neg hne, hkn] at hstep
          have hw5 : ∀ g cs, F0 g → wq.heap[g]? = some (.cells cs 3 (0, 0)) → ((W1.setCell ⟨f.blk, 1, none⟩ (.int .i64 (s + m))).setCell ⟨p, 5, none⟩ (.int .i64 (wrap64 (d'.bytes - (f.data.length - s - m))))).heap[g]? = wq.heap[g]? := fun g cs _ hc =>
            (heap_setCell_other _ ⟨p, 5, none⟩ g _ (cells_ne hc HVQ.out.head (by decide))).trans (oth2 g (cells_ne hc HFQ.out.cells (by decide)))
          refine ⟨⟨i + 1, by omega, by go_num, ⟨⟨_, hst, ?_⟩, ?_, ?_⟩⟩, by simp [intOf]; omega⟩
          · rw [hstep]
            refine pk_ext ((e1.trans e2).trans (by rw [o7])) o1 o2 o3 o4 ?_ o6
            show wrap64 (d'.bytes - (f.data.length - s - m)) = wrap64 ((revSt d.pk.fs d.pk.keep d.pk.bytes i).2.2 - (f.fl.loose - m))
            rw [← o5, hlo]
            rfl
          · rw [hstep, HKS.out]
            exact HK5.out.kept hw5
          · refine (HI.out.only.trans (Only.of_below hq)).trans ((((ON1.out.mono fun j hj => ?_).setCell (p := ⟨f.blk, 1, none⟩) HFQ.out.lo _).setCell (p := ⟨p, 5, none⟩) HVQ.out.loP _))
            rcases hj with rfl | hj
            · exact HFQ.out.lo
            · exact (HFQ.out.own.blk hj).1
    · as_aux_lemma =>
      obtain rfl : i = n := by omega
      obtain ⟨d', hv, hpk⟩ := HI.out.disk
      have hbx : wr.heap[w.heap.size]? = _ := (HI.out.only.block w.heap.size HZ1.out (fun h => by have := (HF0.out.1 _ h).2; omega)).trans HBX.out
      have c0 := cell_of_row wr w.heap.size 0 _ _ _ hbx
      have c1 := cell_of_row wr w.heap.size 1 _ _ _ hbx
      have c2 := cell_of_row wr w.heap.size 2 _ _ _ hbx
      simp only [List.getElem?_toArray, List.getElem?_cons_zero, List.getElem?_cons_succ] at c0 c1 c2
      have HON := Lib.hid HI.out.only
      have HZR := Lib.hid ((HZ.out.below HB1.out).only' HI.out.only fun j hj h => hS j hj (HF0.out.1 j h).1)
      have HV := Lib.hid hv
      have HPK := Lib.hid hpk
      clear hv hpk hbx HI
      go_wp2_with (go_at_call 33; refine (begin_any F0 p mb _ d' S ops room _ zs _ HV.out HZR.out hl).mono ?_; rintro r w5 ⟨rfl, ⟨kv', hd5⟩, ho5⟩)
      refine bodyPost_ret (v := .int .i64 0) (by simp [results, Try.results13, go_sem]) rfl ?_
      have hF : ∀ j, F0 j → F j := fun j hj => (HF0.out.1 j hj).1
      have hzz : w.heap.size ≤ wr.heap.size := Nat.le_trans HB1.out.size HON.out.size
      have o5 : d'.pk.bytes = (revSt d.pk.fs d.pk.keep d.pk.bytes i).2.2 := by rw [HPK.out]
      have o7 : d'.pk.fs = (revSt d.pk.fs d.pk.keep d.pk.bytes i).1 := by rw [HPK.out]
      refine ⟨rfl, ⟨mb, kv', _, hd5.mono fun j hj _ => hj.elim (fun h => .inl (hF j h)) (fun h => .inr (Nat.le_trans hzz h)), ?_⟩, ((Only.of_below HB1.out).trans (HON.out.mono hF)).trans (ho5.mono hF)⟩
      have hln : d.pk.fs.length = i := HLN.out
      show (⟨d'.pk.fs, ops, room, zs, 0, d'.pk.bytes, false⟩ : Pk) = ⟨(revSt d.pk.fs d.pk.keep d.pk.bytes d.pk.fs.length).1, ops, room, zs, 0, (revSt d.pk.fs d.pk.keep d.pk.bytes d.pk.fs.length).2.2, false⟩
      rw [hln, o5, o7]
end Go.Proofs.Ytcmjoaepihbodaa
