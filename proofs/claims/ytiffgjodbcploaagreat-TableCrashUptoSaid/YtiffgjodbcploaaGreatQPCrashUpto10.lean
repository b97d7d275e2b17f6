/-
The disk's calls, where the disk lies in memory made since 'base'.
-/
import Derived.Test.YtiffgjodbcploaaGreatQPCrashUpto9
section
namespace Go.Proofs.YtiffgjodbcploaaGreat
set_option maxRecDepth 100000
open Go.RowKit Go.BigFrame Go.Sort Go.Shelf Go.Lib Go.Maps
attribute [local go_sem ↓] Go.wp_at_zero Go.wp_at_succ
theorem revive_nil (v : Value) (w : World) (A : Option Addr) (n c : Nat) (a b : Int) (hv : v = .agg #[.int .i64 a, .int .i64 b, .slice A n c]) : Calls Tryz.prog 23 #[.pointer none, v] w fun r w' => r = .returned (.int .i64 1) ∧ Below w.heap.size w w' := by
  subst hv
  have hA : Below w.heap.size w (w.alloc (.cells #[.int .i64 a, .int .i64 b, .slice A n c] 28)) := (Below.refl _ _).alloc (Nat.le_refl _) _
  go_enter Tryz.func23, Tryz.ntmps23
  go_wp2
  refine bodyPost_ret (v := .int .i64 1) (by simp [results, Tryz.results23, go_sem]) rfl ?_
  exact ⟨rfl, hA⟩
theorem ne_loose {x : Int} {l s : Nat} (h : x = (l : Int) - s) (hu : ¬ s = l) : ¬ x = 0 := by omega
theorem IntsIn.only' {w w' : World} {T S : Nat → Prop} {v : Value} {xs : List Int} (h : IntsIn w T v xs) (ho : Only S w w') (hd : ∀ i, T i → ¬ S i) : IntsIn w' T v xs := by
  obtain ⟨A, c, e, h1, h2, h3⟩ := h
  exact ⟨A, c, e, h1, h2, h3.only ho fun i _ hi => hd i hi⟩
/-- the state of the loop. -/
structure RevInv (w1 : World) (F : Nat → Prop) (p mb : Nat) (kv : Value) (k : Pk) (i : Nat) (v5 : Value) (w : World) : Prop where
  disk : ∃ d, DiskV w F p mb kv d ∧ d.pk = { k with fs := (revSt k.fs k.keep k.bytes i).1, bytes := (revSt k.fs k.keep k.bytes i).2.2 }
  keep : KeepV w F v5 (revSt k.fs k.keep k.bytes i).2.1
  only : Only F w1 w
theorem RevInv.step {w1 w w' : World} {F : Nat → Prop} {p mb i : Nat} {kv v5 : Value} {k : Pk} (h : RevInv w1 F p mb kv k i v5 w) (hb : Below w.heap.size w w') : RevInv w1 F p mb kv k i v5 w' := by
  obtain ⟨⟨d, h1, h2⟩, h3, h4⟩ := h
  exact ⟨⟨d, h1.below hb, h2⟩, h3.kept fun g cs _ hc => hb.block g (Array.getElem?_eq_some_iff.1 hc).1, h4.trans (Only.of_below hb)⟩
theorem RevInv.skip {w1 w : World} {F : Nat → Prop} {p mb i : Nat} {kv v5 : Value} {k : Pk} (h : RevInv w1 F p mb kv k i v5 w) {f : Fl} (hf : k.fs[i]? = some f) (hl : f.loose = 0) : RevInv w1 F p mb kv k (i + 1) v5 w := by
  obtain ⟨h1, h2, h3⟩ := h
  refine ⟨?_, ?_, h3⟩ <;> rw [rev_step hf, if_pos hl] <;> assumption
theorem KeepV.tail {w : World} {F : Nat → Prop} {g o n c : Nat} {z : Int} {ks : List Int} (h : KeepV w F (.slice (some ⟨g, o, none⟩) n c) (z :: ks)) : KeepV w F (.slice (some ⟨g, o + 1, none⟩) (n - 1) (c - 1)) ks := by
  obtain ⟨A, c', hE, h1, h2, h3⟩ := h
  injection hE with e1 e2 e3
  subst e1 e2 e3
  obtain ⟨g', o', cs, e1, e2, e3, e4⟩ := h3 (by simp)
  injection e1 with e1
  injection e1 with e1 e5 _
  subst e1 e5
  simp only [List.length_cons] at h1 h2
  exact ⟨some ⟨g, o + 1, none⟩, c - 1, by simp, by omega, by omega, fun _ => ⟨g, o + 1, cs, rfl, e2, e3, fun j z hj => by rw [Nat.add_assoc, Nat.add_comm 1 j]; exact e4 (j + 1) z (by simpa using hj)⟩⟩
theorem KeepV.tail1 {w : World} {F : Nat → Prop} {A : Option Addr} {n : Nat} {z : Int} {ks : List Int} (h : KeepV w F (.slice A n 1) (z :: ks)) : KeepV w F (.slice A (n - 1) 0) ks := by
  obtain ⟨A', c', hE, h1, h2, h3⟩ := h
  injection hE with e1 e2 e3
  subst e1 e2 e3
  have : ks = [] := List.eq_nil_of_length_eq_zero (by rw [List.length_cons] at h1; omega)
  subst this
  exact ⟨A, 0, rfl, Nat.le_refl _, by simp, fun h => absurd h (by simp)⟩
theorem OwnB.cut {w : World} {F : Nat → Prop} {A : Option Addr} {n c m : Nat} {bs : List UInt8} (h : OwnB w F (.slice A n c) bs) (hm : m ≤ bs.length) : OwnB w F (.slice A m m) (bs.take m) := by
  obtain ⟨A', c', hE, h1, h2, h3, h4⟩ := h
  injection hE with e1 e2 e3
  subst e1 e2 e3
  have hl : (bs.take m).length = m := by rw [List.length_take]; omega
  refine ⟨A, m, by rw [hl], by omega, by omega, by omega, ?_⟩
  rcases h4 with h4 | ⟨g, cur, e1, e2, e3, e4, e5⟩
  · exact .inl (by omega)
  · refine .inr ⟨g, cur, e1, e2, e3, by omega, ?_⟩
    rw [hl, List.map_take]
    have := congrArg (List.take m) e5
    rw [List.take_take] at this
    rwa [Nat.min_eq_left hm] at this
theorem modP_neg {z m : Int} (h0 : 0 < m) (h1 : m ≤ 140737488355329) (h : z.tmod m < 0) : wrap64 (z.tmod m + m) = modP z m := by
  have h2 := modP_range (z := z) h0
  unfold modP at h2 ⊢
  rw [if_pos h] at h2 ⊢
  unfold wrap64
  omega
theorem modP_pos {z m : Int} (h : ¬ z.tmod m < 0) : z.tmod m = modP z m := by unfold modP; rw [if_neg h]
theorem KeepV.none_at (w : World) (F : Nat → Prop) (A : Option Addr) : KeepV w F (.slice A 0 0) [] := ⟨A, 0, rfl, Nat.le_refl _, by simp, fun h => absurd h (by simp)⟩
/-- the file of a round. -/
theorem RevInv.file {w1 w : World} {F : Nat → Prop} {p mb i : Nat} {kv v5 : Value} {k : Pk} (h : RevInv w1 F p mb kv k i v5 w) {f0 : Fl} (hf : k.fs[i]? = some f0) : ∃ d f, DiskV w F p mb kv d ∧ d.pk = { k with fs := (revSt k.fs k.keep k.bytes i).1, bytes := (revSt k.fs k.keep k.bytes i).2.2 } ∧ f.fl = f0 ∧ findF f0.name d.ns = some f := by
  obtain ⟨⟨d, h1, h2⟩, _, _⟩ := h
  have h3 : d.pk.fs[i]? = some f0 := by rw [h2]; exact (rev_later k.fs k.keep k.bytes i i (Nat.le_refl _)).trans hf
  have h4 : (d.ns.map Fd.fl)[i]? = some f0 := h3
  rw [List.getElem?_map] at h4
  cases hx : d.ns[i]? with
  | none => rw [hx] at h4; cases h4
  | some f =>
    rw [hx] at h4
    have e : f.fl = f0 := by simpa using h4
    refine ⟨d, f, h1, h2, e, ?_⟩
    rw [← e]
    exact find_mem h1.sorted (List.mem_of_getElem? hx)
set_option maxRecDepth 100000 in
set_option maxHeartbeats 8000000 in
theorem revive_any (F : Nat → Prop) (p : Nat) (k : Pk) (S : Nat → Prop) (ops room : Int) (v : Value) (zs : List Int) (w : World) (h : DiskP w F p k) (hok : okFs k.fs) (hmany : k.fs.length * 16 ≤ 140737488355328) (hz : IntsIn w S v zs) (hS : ∀ i, S i → ¬ F i) (hl : zs.length * 8 ≤ 140737488355328) :
    Calls Tryz.prog 23 #[.pointer (some ⟨p, 0, none⟩), .agg #[.int .i64 ops, .int .i64 room, v]] w fun r w' => r = .returned (.int .i64 0) ∧ DiskP w' (orNew F w.heap.size) p (reviveK k ops room zs) ∧ Only F w w' := by
  obtain ⟨mb, kv, d, h, rfl⟩ := h
  have H := Lib.hid h
  have hA : Below w.heap.size w (w.alloc (.cells #[.int .i64 ops, .int .i64 room, v] 28)) := (Below.refl _ _).alloc (Nat.le_refl _) _
  have HA := Lib.hid hA
  have HZ := Lib.hid hz
  obtain ⟨Az, cz, rfl, _⟩ := hz
  obtain ⟨Ak, ck, hkv, _⟩ := h.keep
  subst hkv
  have hv := h.below hA
  obtain ⟨_, _, _, x3, _⟩ := hv.cell
  have HN := Lib.hid (names_any F p mb _ d _ hv (by rw [← map_len]; exact hmany))
  rw [← map_len] at HN
  have HK := Lib.hid hok
  clear h hA hv hok
  go_enter Tryz.func23, Tryz.ntmps23
  go_wp2_with (go_at_call 38; refine HN.out.mono ?_; rintro r w1 ⟨vn, rfl, hrow, hb1⟩; obtain ⟨An, cn, rfl⟩ := own_form hrow)
  obtain ⟨F0, hF0⟩ : ∃ F0 : Nat → Prop, (∀ i, F0 i → F i ∧ i < w.heap.size) ∧ ∀ i, F i → i < w.heap.size → F0 i := ⟨fun i => F i ∧ i < w.heap.size, fun _ h => h, fun _ h1 h2 => ⟨h1, h2⟩⟩
  have HF0 := Lib.hid hF0
  have hbx := box_at hb1
  have hrow' : w1.ownsRow (w.heap.size + 1) 9 1 (.slice An d.pk.fs.length cn) d.pk.fs.length ((d.pk.fs.map Fl.name).map encStr) := by
    have e : d.pk.fs.map Fl.name = d.ns.map Fd.name := by show (d.ns.map Fd.fl).map Fl.name = _; rw [List.map_map]; rfl
    rw [e]
    simpa using hrow
  have HROW := Lib.hid hrow'
  have HBX := Lib.hid hbx
  have HB1 := Lib.hid (HA.out.trans (hb1.mono HA.out.size))
  have HZ1 : Hid (w.heap.size < w1.heap.size) := Lib.hid (by have := hb1.size; simp at this; omega)
  have hinv : RevInv w1 F0 p mb (.slice Ak d.keep.length ck) d.pk 0 (.slice Ak d.keep.length ck) w1 := by
    have hv := (H.out.mono fun i h1 h2 => hF0.2 i h1 h2).below HB1.out
    exact ⟨⟨d, hv, rfl⟩, hv.keep, Only.refl _ _⟩
  have HINV := Lib.hid hinv
  obtain ⟨n, hn⟩ : ∃ n, d.pk.fs.length = n := ⟨_, rfl⟩
  have HLN := Lib.hid hn
  rw [hn] at hmany HROW ⊢
  clear hF0 hbx hrow hrow' hb1 hinv hn x3 HN
  go_loopw [5, 21] (fun v5 t wr => ∃ i : Nat, i ≤ n ∧ t = .int .i64 i ∧ RevInv w1 F0 p mb (.slice Ak d.keep.length ck) d.pk i v5 wr) (fun _ t _ => n - (intOf t).toNat)
  case atStart => exact ⟨0, Nat.zero_le _, rfl, HINV.out⟩
  case round =>
    clear HINV
    obtain ⟨i, hi, rfl, hinv⟩ := hrel
    have HI := Lib.hid hinv
    clear hinv
    by_cases hin : i < n
    · as_aux_lemma =>
      obtain ⟨f0, hf0⟩ : ∃ f0, d.pk.fs[i]? = some f0 := ⟨_, List.getElem?_eq_getElem (by rw [HLN.out]; exact hin)⟩
      obtain ⟨d', f, hv, hpk, rfl, hf⟩ := HI.out.file hf0
      have hrow' := own_only HROW.out HI.out.only (fun g hg h => by have := (HROW.out.lt g hg).1; have := (HF0.out.1 g h).2; omega)
      obtain ⟨gn, cn', hE, _⟩ := own_pos hrow' (by omega)
      injection hE with e1 e2 e3
      subst e1 e3
      have hcn : wr.cell? ⟨gn, i, none⟩ = some (.string ⟨f.name.toArray⟩) := by
        rw [hrow'.cellAt i (by omega), List.getElem?_map, List.getElem?_map, hf0]
        rfl
      have hnl : f.name.length ≤ 140737488355328 := by have := nameB_len (hv.names f (find_name hf).2); omega
      obtain ⟨x0, _⟩ := hv.cell
      have hlk := hv.look f.name hnl
      rw [show findF f.name d'.ns = some f from hf] at hlk
      unfold ptrF at hlk
      obtain ⟨y0, y1, yf, hfv⟩ := hv.file hf
      obtain ⟨Af, cf, hfs⟩ := hfv.own.form
      rw [hfs] at y0
      have hlen := hfv.own.len
      have hokf := HK.out f.fl (List.mem_of_getElem? hf0)
      obtain ⟨s, hs⟩ : ∃ s : Nat, f.synced = s := ⟨f.synced.toNat, by have := hokf.1; show f.synced = _; have : f.fl.synced = f.synced := rfl; omega⟩
      have hsl : s ≤ f.data.length := by have h2 := hokf.2; have e1 : f.fl.synced = f.synced := rfl; have e2 : f.fl.data = f.data := rfl; rw [e1, e2, hs] at h2; omega
      rw [hs] at y1
      have HV := Lib.hid hv
      have HPK := Lib.hid hpk
      have HF := Lib.hid hf
      have HFV := Lib.hid hfv
      have HFS := Lib.hid hfs
      have HS := Lib.hid hs
      have HF00 := Lib.hid hf0
      have Y0 : ∀ q : Ext wr, q.w.cell? { block := f.blk, off := 0 } = _ := fun q => q.h.cell y0
      have Y1 : ∀ q : Ext wr, q.w.cell? { block := f.blk, off := 1 } = _ := fun q => q.h.cell y1
      clear hv hpk hf hfv hfs hs hf0 hokf hrow' e2
      by_cases hu : s = f.data.length
      · subst hu
        go_wp2
        (refine wp_region_quiet_ext (by kernel_rfl) (by kernel_rfl) ?_; (repeat (go_big_quiet_step (fail))); refine wpQuiet_nil ?_; intro wq hw'; obtain ⟨⟨_, hq⟩, hw''⟩ := hw'; subst hw'')
        go_wp2
        refine ⟨⟨i + 1, by omega, by go_num, (HI.out.step hq).skip HF00.out ?_⟩, by simp [intOf]; omega⟩
        show (f.data.length : Int) - f.synced = 0
        rw [HS.out]
        omega
      · have HU := Lib.hid hu
        obtain ⟨ks, hks⟩ : ∃ ks, (revSt d.pk.fs d.pk.keep d.pk.bytes i).2.1 = ks := ⟨_, rfl⟩
        have hkp := HI.out.keep
        rw [hks] at hkp
        have HKP := Lib.hid hkp
        have HKS := Lib.hid hks
        obtain ⟨A5, c5, rfl, hk1, hk2, _⟩ := hkp
        clear hks
        have hb0 : ((f.data.length : Int) - s == 0) = false := by simp; omega
        go_wp2
        (refine wp_region_quiet_ext (by kernel_rfl) (by kernel_rfl) ?_; (repeat (go_big_quiet_step (fail))); refine wpQuiet_nil ?_; intro wq hw'; obtain ⟨⟨_, hq⟩, hw''⟩ := hw'; subst hw'')
        have KQ : KeepV wq F0 (.slice A5 ks.length c5) ks := HKP.out.kept fun g cs _ hc => Below.block hq g (Array.getElem?_eq_some_iff.1 hc).1
        have HKQ := Lib.hid KQ
        clear KQ
        go_upto_if 45 with (fail)
        go_cut [5, 10] (fun v5' t wc => ∃ m : Nat, t = .int .i64 m ∧ (m : Int) = keptN f.fl ks ∧ KeepV wq F0 v5' ks.tail ∧ wc = wq)
        case first =>
          cases ks with
          | nil =>
            go_wp2_with fail
            go_meet
            case rel => exact ⟨0, rfl, rfl, HKQ.out, rfl⟩
          | cons z ks =>
            obtain ⟨g5, o5, hA5, hz5⟩ : ∃ g o, A5 = some ⟨g, o, none⟩ ∧ wq.cell? ⟨g, o, none⟩ = some (.int .i64 z) := by
              obtain ⟨A, c', hE, h1, h2, h3⟩ := HKQ.out
              injection hE with e1 e2 e3
              subst e1
              obtain ⟨g', o', cs, e1, e2, e3, e4⟩ := h3 (by simp)
              exact ⟨g', o', e1, by rw [cell_of_row wq _ _ _ _ _ e3]; simpa using e4 0 z rfl⟩
            subst hA5
            obtain ⟨n5, hn5⟩ : ∃ n, (z :: ks).length = n := ⟨_, rfl⟩
            have hn5' : 0 < n5 := by rw [← hn5]; simp
            have HN5 := Lib.hid hn5
            rw [hn5] at hk1 hk2 HKQ ⊢
            clear hn5 HKP
            have hmm : 0 < (f.data.length : Int) - s + 1 := by omega
            have hmm' : (f.data.length : Int) - s + 1 ≤ 140737488355329 := by omega
            have HMM := Lib.hid (And.intro hmm hmm')
            clear hmm hmm'
            have hK : keptN f.fl (z :: ks) = modP z ((f.data.length : Int) - s + 1) := by
              show modP z ((f.data.length : Int) - f.synced + 1) = _
              rw [HS.out]
            have HKK := Lib.hid hK
            have hT : ((modP z ((f.data.length : Int) - s + 1)).toNat : Int) = modP z ((f.data.length : Int) - s + 1) := Int.toNat_of_nonneg (modP_range HMM.out.1).1
            have HTT := Lib.hid hT
            clear hK hT
            by_cases hneg : z.tmod ((f.data.length : Int) - s + 1) < 0
            · have hw := Lib.hid (modP_neg HMM.out.1 HMM.out.2 hneg)
              by_cases hc1 : c5 = 1
              · have HC1 := Lib.hid hc1
                go_wp2_with fail
                go_meet
                case rel => exact ⟨(modP z ((f.data.length : Int) - s + 1)).toNat, by rw [hw.out, HTT.out], by rw [HTT.out, HKK.out], KeepV.tail1 (HC1.out ▸ HKQ.out), rfl⟩
              · go_wp2_with fail
                go_meet
                case rel => exact ⟨(modP z ((f.data.length : Int) - s + 1)).toNat, by rw [hw.out, HTT.out], by rw [HTT.out, HKK.out], HKQ.out.tail, rfl⟩
            · have hw := Lib.hid (modP_pos hneg)
              by_cases hc1 : c5 = 1
              · have HC1 := Lib.hid hc1
                go_wp2_with fail
                go_meet
                case rel => exact ⟨(modP z ((f.data.length : Int) - s + 1)).toNat, by rw [hw.out, HTT.out], by rw [HTT.out, HKK.out], KeepV.tail1 (HC1.out ▸ HKQ.out), rfl⟩
              · go_wp2_with fail
                go_meet
                case rel => exact ⟨(modP z ((f.data.length : Int) - s + 1)).toNat, by rw [hw.out, HTT.out], by rw [HTT.out, HKK.out], HKQ.out.tail, rfl⟩
        case rest =>
          obtain ⟨m, rfl, hm, hk5, hwc⟩ := hcut
          obtain rfl : wq = wc := hwc.symm
          have hkr := kept_range (f := f.fl) (by show f.synced ≤ _; rw [HS.out]; show (s : Int) ≤ f.data.length; omega) ks
          rw [← hm] at hkr
          have hsm : s + m ≤ f.data.length := by have h1 := hkr.2; have e : f.fl.loose = (f.data.length : Int) - f.synced := rfl; rw [e, HS.out] at h1; omega
          have HM := Lib.hid hm
          have HK5 := Lib.hid hk5
          have hvq := HV.out.below hq
          obtain ⟨_, _, _, _, _, z5, _⟩ := hvq.cell
          have zf := hvq.frozen
          obtain ⟨w0', w1', wf, hfq⟩ := hvq.file HF.out
          rw [HFS.out] at w0'
          rw [HS.out] at w1'
          obtain ⟨_, _, hEE, hlc, hcm, _⟩ := hfq.own
          rw [HFS.out] at hEE
          injection hEE with e1 _ e3
          subst e1 e3
          have HVQ := Lib.hid hvq
          have HFQ := Lib.hid hfq
          clear hm hk5 hkr hvq hfq
          go_wp2
          go_region
          have hcF := HFQ.out.cells
          rw [HFS.out, HS.out] at hcF
          have b1 : (wq.setCell ⟨f.blk, 0, none⟩ (.slice Af (s + m) (s + m))).drew.heap[f.blk]? = some (.cells #[.slice Af (s + m) (s + m), .int .i64 s] 91 (0, 0)) := heap_setCell_same wq f.blk 0 _ _ _ hcF
          have oth : ∀ j, j ≠ f.blk → (wq.setCell ⟨f.blk, 0, none⟩ (.slice Af (s + m) (s + m))).drew.heap[j]? = wq.heap[j]? := fun j hj => heap_setCell_other wq ⟨f.blk, 0, none⟩ j _ hj
          have on1 : Only (fun j => j = f.blk ∨ blkB f.sl = some j) wq (wq.setCell ⟨f.blk, 0, none⟩ (.slice Af (s + m) (s + m))).drew := ((Only.refl _ _).setCell (p := ⟨f.blk, 0, none⟩) (.inl rfl) _).drew
          obtain ⟨W1, hW1⟩ : ∃ W, W = (wq.setCell ⟨f.blk, 0, none⟩ (.slice Af (s + m) (s + m))).drew := ⟨_, rfl⟩
          rw [← hW1] at b1 oth on1 ⊢
          have v1 := cell_of_row W1 f.blk 1 _ _ _ b1
          have vf : ∀ j, W1.frozen? ⟨f.blk, j, none⟩ = false := fun j => frozen_of_row W1 _ j _ _ b1
          have B1 := Lib.hid b1
          have OTH := Lib.hid oth
          have ON1 := Lib.hid on1
          simp only [List.getElem?_toArray, List.getElem?_cons_zero, List.getElem?_cons_succ] at v1
          have hpf : p ≠ f.blk := cells_ne HVQ.out.head HFQ.out.cells (by decide)
          have p1 : W1.heap[p]? = _ := (oth p hpf).trans HVQ.out.head
          have q5 := cell_of_row W1 p 5 _ _ _ p1
          have qf : ∀ j, W1.frozen? ⟨p, j, none⟩ = false := fun j => frozen_of_row W1 _ j _ _ p1
          simp only [List.getElem?_toArray, List.getElem?_cons_zero, List.getElem?_cons_succ] at q5
          clear b1 oth on1 hW1 hcF w0' w1' wf z5 zf p1
          go_wp2
          have b2 : (W1.setCell ⟨f.blk, 1, none⟩ (.int .i64 (s + m))).heap[f.blk]? = some (.cells #[.slice Af (s + m) (s + m), .int .i64 (s + m)] 91 (0, 0)) := heap_setCell_same W1 f.blk 1 _ _ _ B1.out
          have oth2 : ∀ j, j ≠ f.blk → (W1.setCell ⟨f.blk, 1, none⟩ (.int .i64 (s + m))).heap[j]? = wq.heap[j]? := fun j hj => (heap_setCell_other W1 ⟨f.blk, 1, none⟩ j _ hj).trans (OTH.out j hj)
          have hown : OwnB wq F0 (.slice Af (s + m) (s + m)) (f.data.take (s + m)) := OwnB.cut (HFS.out ▸ HFQ.out.own) hsm
          have hblk : ∀ g, blkB (.slice Af (s + m) (s + m)) = some g → blkB f.sl = some g := fun g hg => by
            rw [HFS.out]
            cases Af with
            | none => simp [blkB] at hg
            | some a =>
              by_cases h0 : s + m = 0
              · simp [blkB, h0] at hg
              · simp only [blkB, if_neg h0] at hg
                simp only [blkB]
                rw [if_neg (by omega)]
                exact hg
          have hup := HVQ.out.upd (F' := F0) (fun _ h => h) (find_name HF.out).2 (data' := f.data.take (s + m)) (synced' := s + m) (sl' := .slice Af (s + m) (s + m)) (w' := W1.setCell ⟨f.blk, 1, none⟩ (.int .i64 (s + m))) (ON1.out.setCell (p := ⟨f.blk, 1, none⟩) (.inl rfl) _) b2
            (hown.kept fun g hg => oth2 g (by obtain ⟨_, ⟨cs, hL⟩, _⟩ := hown.blk hg; exact cells_ne hL HFQ.out.cells (by decide))) (fun g hg => .inl (hblk g hg))
          have hst := hup.store 5 (.int .i64 (wrap64 (d'.bytes - (f.data.length - s - m)))) { d' with ns := updF f.name (setF (f.data.take (s + m)) (s + m) (.slice Af (s + m) (s + m))) d'.ns, bytes := wrap64 (d'.bytes - (f.data.length - s - m)) } _ rfl hup.keep rfl
          have hlo : f.fl.loose = (f.data.length : Int) - s := by show (f.data.length : Int) - f.synced = _; rw [HS.out]
          have hne : ¬ f.fl.loose = 0 := ne_loose hlo HU.out
          have hat : d'.pk.fs[i]? = some f.fl := by rw [HPK.out]; exact (rev_later _ _ _ i i (Nat.le_refl _)).trans HF00.out
          have hdn : d'.pk.fs.Pairwise fun a b => a.name ≠ b.name := by
            show (d'.ns.map Fd.fl).Pairwise _
            rw [List.pairwise_map]
            exact HVQ.out.sorted.imp fun {a b} hab e => by
              have e' : a.name = b.name := e
              rw [e'] at hab
              exact List.lt_irrefl _ hab
          have hcut : (setF (f.data.take (s + m)) (s + m) (.slice Af (s + m) (s + m)) f).fl = cutP f.fl m := by
            show (⟨f.name, f.data.take (s + m), s + m⟩ : Fl) = ⟨f.name, f.data.take (f.synced + m).toNat, f.synced + m⟩
            rw [HS.out]
            congr 2
          have e1 := congrArg Pk.fs (pk_upd HVQ.out.sorted HF.out (setF (f.data.take (s + m)) (s + m) (.slice Af (s + m) (s + m))) (fun a => cutP a m) hcut)
          have e2 : updP f.fl.name (fun a => cutP a m) d'.pk.fs = d'.pk.fs.set i (cutP f.fl m) := updP_set hdn hat _
          have o1 : d'.pk.ops = d.pk.ops := by rw [HPK.out]
          have o2 : d'.pk.room = d.pk.room := by rw [HPK.out]
          have o3 : d'.pk.keep = d.pk.keep := by rw [HPK.out]
          have o4 : d'.pk.done = d.pk.done := by rw [HPK.out]
          have o5 : d'.pk.bytes = (revSt d.pk.fs d.pk.keep d.pk.bytes i).2.2 := by rw [HPK.out]
          have o6 : d'.pk.down = d.pk.down := by rw [HPK.out]
          have o7 : d'.pk.fs = (revSt d.pk.fs d.pk.keep d.pk.bytes i).1 := by rw [HPK.out]
          have hkn : keptN f.fl (revSt d.pk.fs d.pk.keep d.pk.bytes i).2.1 = m := by rw [HKS.out]; exact HM.out.symm
          have hstep := rev_step (fs := d.pk.fs) (keep := d.pk.keep) (b := d.pk.bytes) HF00.out
          rw [if_neg hne, hkn] at hstep
          have hw5 : ∀ g cs, F0 g → wq.heap[g]? = some (.cells cs 3 (0, 0)) → ((W1.setCell ⟨f.blk, 1, none⟩ (.int .i64 (s + m))).setCell ⟨p, 5, none⟩ (.int .i64 (wrap64 (d'.bytes - (f.data.length - s - m))))).heap[g]? = wq.heap[g]? := fun g cs _ hc =>
            (heap_setCell_other _ ⟨p, 5, none⟩ g _ (cells_ne hc HVQ.out.head (by decide))).trans (oth2 g (cells_ne hc HFQ.out.cells (by decide)))
          refine ⟨⟨i + 1, by omega, by go_num, ⟨⟨_, hst, ?_⟩, ?_, ?_⟩⟩, by simp [intOf]; omega⟩
          · rw [hstep]
            refine pk_ext ((e1.trans e2).trans (by rw [o7])) o1 o2 o3 o4 ?_ o6
            show wrap64 (d'.bytes - (f.data.length - s - m)) = wrap64 ((revSt d.pk.fs d.pk.keep d.pk.bytes i).2.2 - (f.fl.loose - m))
            rw [← o5, hlo]
            rfl
          · rw [hstep, HKS.out]
            exact HK5.out.kept hw5
          · refine (HI.out.only.trans (Only.of_below hq)).trans ((((ON1.out.mono fun j hj => ?_).setCell (p := ⟨f.blk, 1, none⟩) HFQ.out.lo _).setCell (p := ⟨p, 5, none⟩) HVQ.out.loP _))
            rcases hj with rfl | hj
            · exact HFQ.out.lo
            · exact (HFQ.out.own.blk hj).1
    · as_aux_lemma =>
      obtain rfl : i = n := by omega
      obtain ⟨d', hv, hpk⟩ := HI.out.disk
      have hbx : wr.heap[w.heap.size]? = _ := (HI.out.only.block w.heap.size HZ1.out (fun h => by have := (HF0.out.1 _ h).2; omega)).trans HBX.out
      have c0 := cell_of_row wr w.heap.size 0 _ _ _ hbx
      have c1 := cell_of_row wr w.heap.size 1 _ _ _ hbx
      have c2 := cell_of_row wr w.heap.size 2 _ _ _ hbx
      simp only [List.getElem?_toArray, List.getElem?_cons_zero, List.getElem?_cons_succ] at c0 c1 c2
      have HON := Lib.hid HI.out.only
      have HZR := Lib.hid ((HZ.out.below HB1.out).only' HI.out.only fun j hj h => hS j hj (HF0.out.1 j h).1)
      have HV := Lib.hid hv
      have HPK := Lib.hid hpk
      clear hv hpk hbx HI
      go_wp2_with (go_at_call 25; refine (begin_any F0 p mb _ d' S ops room _ zs _ HV.out HZR.out hl).mono ?_; rintro r w5 ⟨rfl, ⟨kv', hd5⟩, ho5⟩)
      refine bodyPost_ret (v := .int .i64 0) (by simp [results, Tryz.results23, go_sem]) rfl ?_
      have hF : ∀ j, F0 j → F j := fun j hj => (HF0.out.1 j hj).1
      have hzz : w.heap.size ≤ wr.heap.size := Nat.le_trans HB1.out.size HON.out.size
      have o5 : d'.pk.bytes = (revSt d.pk.fs d.pk.keep d.pk.bytes i).2.2 := by rw [HPK.out]
      have o7 : d'.pk.fs = (revSt d.pk.fs d.pk.keep d.pk.bytes i).1 := by rw [HPK.out]
      refine ⟨rfl, ⟨mb, kv', _, hd5.mono fun j hj _ => hj.elim (fun h => .inl (hF j h)) (fun h => .inr (Nat.le_trans hzz h)), ?_⟩, ((Only.of_below HB1.out).trans (HON.out.mono hF)).trans (ho5.mono hF)⟩
      have hln : d.pk.fs.length = i := HLN.out
      show (⟨d'.pk.fs, ops, room, zs, 0, d'.pk.bytes, false⟩ : Pk) = ⟨(revSt d.pk.fs d.pk.keep d.pk.bytes d.pk.fs.length).1, ops, room, zs, 0, (revSt d.pk.fs d.pk.keep d.pk.bytes d.pk.fs.length).2.2, false⟩
      rw [hln, o5, o7]
end Go.Proofs.YtiffgjodbcploaaGreat
end
section
namespace Go.Proofs.YtiffgjodbcploaaGreat
set_option maxRecDepth 100000
open Go.RowKit Go.BigFrame Go.Sort Go.Shelf Go.Lib Go.Maps
attribute [local go_sem ↓] Go.wp_at_zero Go.wp_at_succ
theorem step_append_own_at {w : World} {ops : Array Oper} {o : Oper} {a : Act} {K : Act → World → Prop} {Q : Exit → Act → World → Prop} {E : Prop} (hgd : o.guard = none) (s x : Operand) (t : TypeId)
    (ho : o.op = .call { callee := .builtin .append, args := #[s, x], argTypes := #[t, t] })
    (base : Nat) (e : TypeId) (i : TypeInfo) (z : Value) (size bytes : Nat) (ht : Tryz.prog.underlying t = some (.slice e)) (hi : Tryz.prog.info? e = some i) (hz : i.zero = some z)
    (hsize : i.size = size) (hby : i.bytes = bytes) (hzs : z.cells.size = size) (hsz : 0 < size)
    (v : Value) (n : Nat) (xs : List Value) (hs : a.eval s = v) (hown : w.ownsRow base e size v n xs)
    (ad : Addr) (m c : Nat) (news : List Value) (hx : a.eval x = .slice (some ad) m c) (hl : news.length = m * size) (hnews : ∀ j u, news[j]? = some u → w.cell? (ad.add j) = some u) (h1 : ∀ u ∈ news, u.oneCell' = true)
    (h63 : n + m ≤ maxLen) (hbytes : (n + m) * bytes ≤ 140737488355328) (hbase : base ≤ w.heap.size)
    (hK : ∀ v' w', w'.ownsRow base e size v' (n + m) (xs ++ news) → w.grownBy w' v.ownBlock → (v'.ownBlock = v.ownBlock ∨ v'.ownBlock = some w.heap.size) → K (a.put o.dst v') w') :
    if Region.wanted o (yielded ops a.tmps) = true then Oper.wp Tryz.prog o a w K Q else E := by
  have hw : Region.wanted o (yielded ops a.tmps) = true := by simp [Region.wanted, hgd]
  rw [if_pos hw]
  obtain ⟨v', w', hr, h2, h3, h4, h5⟩ := run_append_own_at (P := Tryz.prog) w base t o.type e i z size bytes ht hi hz hsize hby hzs hsz v n xs hown ad m c news hl hnews h1 h63 hbytes hbase
  unfold Oper.wp execOp
  simp only [ho, resolve, invoke, builtin, Sem.run_bind, Sem.run_pure, Result.andThen_ok, List.map_toArray, List.map_cons, List.map_nil, hs, hx, hr]
  exact hK v' w' h2 h3 h5
theorem fr.byt {W w' : World} (h : fr W w') {S : Nat → Prop} {v : Value} {bs : List UInt8} (hv : Byt W S v bs) : Byt w' S v bs := hv.below h
theorem fr.two {W w' : World} {p q : Addr} {a b : Value} (h : fr W w') (c0 : W.cell? p = some a) (c3 : W.cell? q = some b) : w'.cell? p = some a ∧ w'.cell? q = some b := ⟨h.cell c0, h.cell c3⟩
theorem fr.grown {W w' w2 : World} {B i j : Nat} {a b : Value} {g : Option Nat} (h : fr W w') (c0 : W.cell? ⟨B, i, none⟩ = some a) (c3 : W.cell? ⟨B, j, none⟩ = some b) (hg : w'.grownBy w2 g) (hne : ¬ g = some B) :
    w2.cell? ⟨B, i, none⟩ = some a ∧ w2.cell? ⟨B, j, none⟩ = some b := by
  have hlt : B < W.heap.size := World.block_lt_of_cell? W _ c0
  have hb := hg.block B (by have := Below.size h; omega) (fun e => hne e.symm)
  exact ⟨(World.cell?_of_block (w' := w2) (w := w') (a := ⟨B, i, none⟩) hb).trans (h.cell c0), (World.cell?_of_block (w' := w2) (w := w') (a := ⟨B, j, none⟩) hb).trans (h.cell c3)⟩
theorem cells_new (w : World) (cs : List Value) (t : TypeId) : ∀ j u, cs[j]? = some u → (w.alloc (.cells cs.toArray t)).cell? ((⟨w.heap.size, 0, none⟩ : Addr).add j) = some u := by
  intro j u hu
  rw [Addr.add_lit, World.cell?_alloc_at _ _ _ _ rfl]
  simpa using hu
theorem Row.monoLt {w : World} {S S' : Nat → Prop} {A : Option Addr} {n sz : Nat} {xs : List Value} (h : Row w S A n sz xs) (hS : ∀ i, i < w.heap.size → S i → S' i) : Row w S' A n sz xs :=
  ⟨h.1, fun hn => by obtain ⟨b, o, e, h1, hb, hc⟩ := h.2 hn; exact ⟨b, o, e, hS b hb h1, hb, hc⟩⟩
theorem Row.push {w w2 : World} {S S' : Nat → Prop} {v' row : Value} {A : Option Addr} {n sz : Nat} {xs : List Value} (h : Row w S A n sz xs) (hg : w.grownBy w2 row.ownBlock) (hat : v'.ownBlock = row.ownBlock ∨ v'.ownBlock = some w.heap.size)
    (hne : ∀ i, i < w.heap.size → S i → row.ownBlock ≠ some i) (hS : ∀ i, i < w.heap.size → S i → v'.ownBlock ≠ some i → S' i) : Row w2 S' A n sz xs := by
  have h1 : Row w (fun i => S i ∧ i < w.heap.size) A n sz xs := h.monoLt fun i hi hs => ⟨hs, hi⟩
  have h2 : Row w2 (fun i => S i ∧ i < w.heap.size) A n sz xs := h1.only (S := fun i => row.ownBlock = some i) ⟨hg.os, hg.tape, hg.output, hg.size, fun i hi hS => hg.block i hi (fun e => hS e.symm)⟩ (fun i hi hT => hne i hi hT.1)
  refine h2.mono fun i hi => hS i hi.2 hi.1 (fun e => ?_)
  rcases hat with h | h
  · exact hne i hi.2 hi.1 (h ▸ e)
  · rw [h] at e
    injection e with e
    omega
/-- how an element reads: its cells, in memory of a set. -/
abbrev Rd (α : Type) := World → (Nat → Prop) → α → List Value → Prop
structure Fine {α : Type} (R : Rd α) (k : Nat) : Prop where
  len : ∀ {w S x cs}, R w S x cs → cs.length = k
  keep : ∀ {w w' : World} {S S' : Nat → Prop} {x cs}, R w S x cs → (∀ A n sz xs, Row w S A n sz xs → Row w' S' A n sz xs) → R w' S' x cs
inductive All2 {α β : Type} (P : α → β → Prop) : List α → List β → Prop
  | nil : All2 P [] []
  | cons {a b l m} : P a b → All2 P l m → All2 P (a :: l) (b :: m)
theorem All2.imp {α β : Type} {P Q : α → β → Prop} (h : ∀ a b, P a b → Q a b) {l : List α} {m : List β} (hl : All2 P l m) : All2 Q l m := by
  induction hl with
  | nil => exact .nil
  | cons h1 _ ih => exact .cons (h _ _ h1) ih
theorem All2.snoc {α β : Type} {P : α → β → Prop} {l : List α} {m : List β} {a : α} {b : β} (hl : All2 P l m) (h : P a b) : All2 P (l ++ [a]) (m ++ [b]) := by
  induction hl with
  | nil => exact .cons h .nil
  | cons h1 _ ih => exact .cons h1 ih
theorem All2.length {α β : Type} {P : α → β → Prop} {l : List α} {m : List β} (hl : All2 P l m) : l.length = m.length := by
  induction hl with
  | nil => rfl
  | cons _ _ ih => simp [ih]
theorem All2.at_ {α β : Type} {P : α → β → Prop} {l : List α} {m : List β} (hl : All2 P l m) {i : Nat} {a : α} (hi : l[i]? = some a) : ∃ b, m[i]? = some b ∧ P a b := by
  induction hl generalizing i with
  | nil => simp at hi
  | cons h1 _ ih =>
    cases i with
    | zero => simp at hi; subst hi; exact ⟨_, rfl, h1⟩
    | succ i => exact ih (by simpa using hi)
theorem flat_at {k : Nat} {css : List (List Value)} (h : ∀ cs ∈ css, cs.length = k) {i j : Nat} {cs : List Value} {u : Value} (hi : css[i]? = some cs) (hj : cs[j]? = some u) : css.flatten[i * k + j]? = some u := by
  induction css generalizing i with
  | nil => simp at hi
  | cons a l ih =>
    have ha : a.length = k := h a List.mem_cons_self
    rw [List.flatten_cons]
    cases i with
    | zero =>
      simp at hi
      subst hi
      rw [Nat.zero_mul, Nat.zero_add, List.getElem?_append_left (List.getElem?_eq_some_iff.1 hj).1]
      exact hj
    | succ i =>
      rw [List.getElem?_append_right (by rw [ha, Nat.succ_mul]; omega), ha, show (i + 1) * k + j - k = i * k + j by rw [Nat.succ_mul]; omega]
      exact ih (fun cs hc => h cs (List.mem_cons_of_mem _ hc)) (by simpa using hi)
section
variable {α : Type} {R : Rd α} {k bytes : Nat}
/-- a slice of structs. -/
def Rows (R : Rd α) (k bytes : Nat) (w : World) (S : Nat → Prop) (v : Value) (xs : List α) : Prop :=
  ∃ A c css, v = .slice A xs.length c ∧ xs.length ≤ c ∧ c ≤ 9223372036854775807 ∧ xs.length * bytes ≤ 140737488355328 ∧ Row w S A xs.length k css.flatten ∧ All2 (R w S) xs css
theorem Rows.keep (hR : Fine R k) {w w' : World} {S S' : Nat → Prop} {v : Value} {xs : List α} (h : Rows R k bytes w S v xs) (hk : ∀ A n sz ys, Row w S A n sz ys → Row w' S' A n sz ys) : Rows R k bytes w' S' v xs := by
  obtain ⟨A, c, css, e, h1, h2, h3, h4, h5⟩ := h
  exact ⟨A, c, css, e, h1, h2, h3, hk _ _ _ _ h4, h5.imp fun _ _ hx => hR.keep hx hk⟩
theorem Rows.below (hR : Fine R k) {w w' : World} {S : Nat → Prop} {v : Value} {xs : List α} (h : Rows R k bytes w S v xs) (hb : Below w.heap.size w w') : Rows R k bytes w' S v xs := h.keep hR fun _ _ _ _ hr => hr.below hb
theorem Rows.only (hR : Fine R k) {w w' : World} {T S : Nat → Prop} {v : Value} {xs : List α} (h : Rows R k bytes w T v xs) (ho : Only S w w') (hd : ∀ i, T i → ¬ S i) : Rows R k bytes w' T v xs := h.keep hR fun _ _ _ _ hr => hr.only ho fun i _ hi => hd i hi
theorem Rows.mono (hR : Fine R k) {w : World} {S S' : Nat → Prop} {v : Value} {xs : List α} (h : Rows R k bytes w S v xs) (hS : ∀ i, S i → S' i) : Rows R k bytes w S' v xs := h.keep hR fun _ _ _ _ hr => hr.mono hS
theorem Rows.lt (hR : Fine R k) {w : World} {S : Nat → Prop} {v : Value} {xs : List α} (h : Rows R k bytes w S v xs) : Rows R k bytes w (fun i => i < w.heap.size) v xs := h.keep hR fun _ _ _ _ hr => hr.monoLt fun _ hi _ => hi
theorem Rows.form {w : World} {S : Nat → Prop} {v : Value} {xs : List α} (h : Rows R k bytes w S v xs) : ∃ A c, v = .slice A xs.length c := by
  obtain ⟨A, c, _, e, _⟩ := h
  exact ⟨A, c, e⟩
theorem Rows.at_ (hR : Fine R k) {w : World} {S : Nat → Prop} {A : Option Addr} {n c : Nat} {xs : List α} (h : Rows R k bytes w S (.slice A n c) xs) {i : Nat} {x : α} (hi : xs[i]? = some x) :
    ∃ b o cs, A = some ⟨b, o, none⟩ ∧ b < w.heap.size ∧ S b ∧ R w S x cs ∧ ∀ j u, cs[j]? = some u → w.cell? ⟨b, o + (i * k + j), none⟩ = some u := by
  obtain ⟨A', c', css, hE, h1, h2, h3, h4, h5⟩ := h
  injection hE with e1 e2 e3
  subst e1
  have hlt := (List.getElem?_eq_some_iff.1 hi).1
  obtain ⟨b, o, rfl, hS, hb, hc⟩ := h4.2 (by omega)
  obtain ⟨cs, hcs, hx⟩ := h5.at_ hi
  have hall : ∀ cs ∈ css, cs.length = k := fun cs hm => by
    obtain ⟨j, hj⟩ := List.getElem?_of_mem hm
    have hjl : j < xs.length := by rw [h5.length]; exact (List.getElem?_eq_some_iff.1 hj).1
    obtain ⟨cs', h', hx'⟩ := h5.at_ (List.getElem?_eq_getElem hjl)
    rw [hj] at h'
    injection h' with h'
    subst h'
    exact hR.len hx'
  exact ⟨b, o, cs, rfl, hb, hS, hx, fun j u hu => hc _ _ (flat_at hall hcs hu)⟩
/-- what a row of the call's own holds: bytes in new blocks that may be written to, none of them the row's. -/
def freshL (w : World) (base : Nat) (v : Value) (i : Nat) : Prop := base ≤ i ∧ v.ownBlock ≠ some i ∧ Loose w i
def OwnRows (R : Rd α) (k : Nat) (t : TypeId) (w : World) (base : Nat) (v : Value) (xs : List α) : Prop := ∃ css, w.ownsRow base t k v xs.length css.flatten ∧ All2 (R w (freshL w base v)) xs css
theorem OwnRows.nil (t : TypeId) (w : World) (base : Nat) : OwnRows R k t w base (.slice none 0 0) [] := ⟨[], World.ownsRow_nil _ _ _ _, .nil⟩
theorem OwnRows.below (hR : Fine R k) {t : TypeId} {w w' : World} {base : Nat} {v : Value} {xs : List α} (h : OwnRows R k t w base v xs) (hb : Below w.heap.size w w') : OwnRows R k t w' base v xs := by
  obtain ⟨css, h1, h2⟩ := h
  exact ⟨css, own_below h1 hb, h2.imp fun _ _ hx => hR.keep hx fun _ _ _ _ hr => (hr.below hb).mono fun i hi => ⟨hi.1, hi.2.1, hi.2.2.below hb⟩⟩
theorem OwnRows.push (hR : Fine R k) {base : Nat} {wr w1 w2 : World} {v v' : Value} {xs : List α} {css : List (List Value)} {x : α} {cs : List Value} {o : Obj} {t : TypeId} (hown : wr.ownsRow base t k v xs.length css.flatten) (hys : All2 (R wr (freshL wr base v)) xs css) (hb1 : Below wr.heap.size wr w1)
    (hx : R w1 (fun i => wr.heap.size ≤ i ∧ Loose w1 i) x cs) (hbase : base ≤ wr.heap.size) (hg : (w1.alloc o).grownBy w2 v.ownBlock) (hat : v'.ownBlock = v.ownBlock ∨ v'.ownBlock = some (w1.alloc o).heap.size) (hown' : w2.ownsRow base t k v' (xs.length + 1) (css.flatten ++ cs)) :
    OwnRows R k t w2 base v' (xs ++ [x]) := by
  have hal : Below w1.heap.size w1 (w1.alloc o) := (Below.refl _ _).alloc (Nat.le_refl _) _
  have hz := hb1.size
  refine ⟨css ++ [cs], by rw [List.length_append, List.flatten_append]; simpa using hown', (hys.imp fun _ _ hy => hR.keep hy fun A n sz ys hr => ?_).snoc (hR.keep hx fun A n sz ys hr => ?_)⟩
  · exact ((hr.below hb1).below hal).push (row := v) hg hat (fun i _ hs => hs.2.1) (fun i _ hs hn => ⟨hs.1, hn, ((hs.2.2.below hb1).alloc o).grown hg hs.2.1⟩)
  · exact (hr.below hal).push (row := v) hg hat (fun i _ hs e => by have := hown.lt i e; omega) (fun i _ hs hn => ⟨by omega, hn, (hs.2.alloc o).grown hg (fun e => by have := hown.lt i e; omega)⟩)
theorem OwnRows.rows (hR : Fine R k) {t : TypeId} {w : World} {base : Nat} {v : Value} {xs : List α} (h : OwnRows R k t w base v xs) (hl : xs.length * bytes ≤ 140737488355328) : Rows R k bytes w (fun i => base ≤ i ∧ i < w.heap.size) v xs := by
  obtain ⟨css, h1, h2⟩ := h
  have h3 : All2 (R w (fun i => base ≤ i ∧ i < w.heap.size)) xs css := h2.imp fun _ _ hx => hR.keep hx fun _ _ _ _ hr => hr.mono fun i hi => ⟨hi.1, hi.2.2.lt⟩
  rcases h1.2 with ⟨rfl, h0⟩ | ⟨g, cap, cur, rfl, hbg, hh, hcap, hcm, _⟩
  · have : xs = [] := List.eq_nil_of_length_eq_zero h0
    subst this
    exact ⟨none, 0, css, rfl, Nat.le_refl _, by omega, by simp, ⟨h1.1, fun h => absurd h (by simp)⟩, h3⟩
  · have hlt : g < w.heap.size := (Array.getElem?_eq_some_iff.1 hh).1
    refine ⟨_, _, css, rfl, hcap, by unfold maxLen at hcm; omega, hl, ⟨h1.1, fun _ => ⟨g, 0, rfl, ⟨hbg, hlt⟩, hlt, fun j u hu => ?_⟩⟩, h3⟩
    have := h1.cells (g := g) rfl j u hu
    rwa [Addr.add_lit] at this
end
/-- a file as the interface has it. -/
def flR : Rd Fl := fun w S f cs => ∃ v, cs = [.string ⟨f.name.toArray⟩, v, .int .i64 f.synced] ∧ Byt w S v f.data ∧ f.name.length ≤ 140737488355328
theorem Byt.keepR {w w' : World} {S S' : Nat → Prop} {v : Value} {bs : List UInt8} (h : Byt w S v bs) (hk : ∀ A n sz xs, Row w S A n sz xs → Row w' S' A n sz xs) : Byt w' S' v bs := by
  obtain ⟨A, c, e, h1, h2, h3, h4⟩ := h
  exact ⟨A, c, e, h1, h2, h3, hk _ _ _ _ h4⟩
theorem flFine : Fine flR 3 := ⟨fun h => by obtain ⟨v, rfl, _⟩ := h; rfl, fun h hk => by obtain ⟨v, rfl, h1, h2⟩ := h; exact ⟨v, rfl, h1.keepR hk, h2⟩⟩
abbrev FilesV (w : World) (S : Nat → Prop) (v : Value) (fs : List Fl) : Prop := Rows flR 3 48 w S v fs
abbrev OwnFiles (w : World) (base : Nat) (v : Value) (fs : List Fl) : Prop := OwnRows flR 3 55 w base v fs
theorem infoF : (Tryz.prog.info? 55).map (fun i => (i.zero, i.size, i.bytes)) = some (some (.agg #[.string ⟨#[]⟩, .slice none 0 0, .int .i64 0]), 3, 48) := by kernel_rfl
end Go.Proofs.YtiffgjodbcploaaGreat
end
section
namespace Go.Proofs.YtiffgjodbcploaaGreat
set_option maxRecDepth 100000
open Go.RowKit Go.BigFrame Go.Sort Go.Shelf Go.Lib Go.Maps
attribute [local go_sem ↓] Go.wp_at_zero Go.wp_at_succ
theorem own_blk {w : World} {base size n g : Nat} {e : TypeId} {v : Value} {xs : List Value} (h : w.ownsRow base e size v n xs) (hv : v.ownBlock = some g) : ∃ cs : Array Value, w.heap[g]? = some (.cells cs e (0, 0)) := by
  rcases h.2 with ⟨rfl, _⟩ | ⟨g', cap, cur, rfl, _, hh, _⟩
  · cases hv
  · obtain rfl : g' = g := Option.some.inj hv
    exact ⟨_, hh⟩
theorem dump_nil (w : World) : Calls Tryz.prog 13 #[.pointer none] w fun r w' => r = .returned (.slice none 0 0) ∧ w = w' := by
  go_enter Tryz.func13, Tryz.ntmps13
  go_wp2
  go_ret
  exact ⟨rfl, rfl⟩
set_option maxRecDepth 100000 in
set_option maxHeartbeats 4000000 in
theorem dump_any (F : Nat → Prop) (p : Nat) (k : Pk) (w : World) (h : DiskP w F p k) (hmany : k.fs.length * 48 ≤ 140737488355328) :
    Calls Tryz.prog 13 #[.pointer (some ⟨p, 0, none⟩)] w fun r w' => ∃ v, r = .returned v ∧ OwnFiles w' w.heap.size v k.fs ∧ Below w.heap.size w w' := by
  obtain ⟨i0, hi, hz0, hz1, hz2⟩ := info_parts infoF
  have hby := Lib.hid hz2
  have hz1' := Lib.hid hz1
  clear hz2 hz1
  obtain ⟨mb, kv, d, h, rfl⟩ := h
  have H := Lib.hid h
  have HN := Lib.hid (names_any F p mb _ d _ h (by rw [← map_len]; omega))
  rw [← map_len] at HN
  obtain ⟨n, hn⟩ : ∃ n, d.pk.fs.length = n := ⟨_, rfl⟩
  have HLN := Lib.hid hn
  rw [hn] at hmany HN
  clear h hn
  go_enter Tryz.func13, Tryz.ntmps13
  go_wp2_with (go_at_call 38; refine HN.out.mono ?_; rintro r w1 ⟨vn, rfl, hrow, hb1⟩; obtain ⟨An, cn, rfl⟩ := own_form hrow)
  have HROW := Lib.hid hrow
  have HB1 := Lib.hid hb1
  clear hrow hb1 HN
  go_loopw [3, 12] (fun v3 t wr => ∃ i : Nat, i ≤ n ∧ t = .int .i64 i ∧ OwnFiles wr w1.heap.size v3 (d.pk.fs.take i) ∧ Below w1.heap.size w1 wr) (fun _ t _ => n - (intOf t).toNat)
  case atStart => exact ⟨0, Nat.zero_le _, rfl, OwnRows.nil _ _ _, Below.refl _ _⟩
  case round =>
    obtain ⟨i, hi', rfl, hown, hbel⟩ := hrel
    obtain ⟨css, hown, hys⟩ := hown
    have HO := Lib.hid hown
    have HYS := Lib.hid hys
    have HB := Lib.hid hbel
    obtain ⟨m, hm⟩ : ∃ m, (d.pk.fs.take i).length = m := ⟨_, rfl⟩
    have hmi : m = i := by rw [← hm, List.length_take, HLN.out]; omega
    subst hmi
    rw [hm] at HO
    have HMM := Lib.hid hm
    clear hown hys hbel hm
    by_cases hin : m < n
    · obtain ⟨f0, hf0⟩ : ∃ f0, d.pk.fs[m]? = some f0 := ⟨_, List.getElem?_eq_getElem (by rw [HLN.out]; exact hin)⟩
      have hf0' : (d.ns.map Fd.fl)[m]? = some f0 := hf0
      rw [List.getElem?_map] at hf0'
      obtain ⟨f, hfn, hfl⟩ : ∃ f, d.ns[m]? = some f ∧ f.fl = f0 := by
        cases hx : d.ns[m]? with
        | none => rw [hx] at hf0'; cases hf0'
        | some f => rw [hx] at hf0'; exact ⟨f, rfl, by simpa using hf0'⟩
      subst hfl
      have hv := (H.out.below HB1.out).below HB.out
      have hf := find_mem hv.sorted (List.mem_of_getElem? hfn)
      have hrow' := own_below HROW.out HB.out
      obtain ⟨gn, cn', hE, _⟩ := own_pos hrow' (by omega)
      injection hE with e1 e2 e3
      subst e1 e3
      have hcn : wr.cell? ⟨gn, m, none⟩ = some (.string ⟨f.name.toArray⟩) := by
        rw [hrow'.cellAt m (by omega), List.getElem?_map, List.getElem?_map, hfn]
        rfl
      have hnl : f.name.length ≤ 140737488355328 := by have := nameB_len (hv.names f (find_name hf).2); omega
      obtain ⟨x0, _⟩ := hv.cell
      have hlk := hv.look f.name hnl
      rw [hf] at hlk
      unfold ptrF at hlk
      obtain ⟨y0, y1, yf, hfv⟩ := hv.file hf
      obtain ⟨Af, cf, hfs⟩ := hfv.own.form
      rw [hfs] at y0
      have HFD := Lib.hid hfv.own.byt
      rw [hfs] at HFD
      have HF0 := Lib.hid hf0
      have K0h := Lib.hid y0
      have K1h := Lib.hid y1
      have hflt : f.blk < wr.heap.size := (Array.getElem?_eq_some_iff.1 hfv.cells).1
      have HNE : Hid (¬ u3.ownBlock = some f.blk) := Lib.hid fun e => by
        obtain ⟨cs, hh⟩ := own_blk HO.out e
        exact cells_ne hfv.cells hh (by decide) rfl
      clear hv hf hfn hf0 hf0' hrow' e2 hfv hfs y0 y1
      go_wp2
      have hf0 : fr wr wr.drew := fr.refl.drew
      go_region_held3 (fun w' => w'.cell? ⟨f.blk, 0, none⟩ = some (.slice Af f.data.length cf) ∧ w'.cell? ⟨f.blk, 1, none⟩ = some (.int .i64 f.synced))
        (first
          | with_reducible exact fr.two hf0 K0h.out K1h.out
          | with_reducible exact hs3
          | with_reducible exact fr.two hf1 K0h.out K1h.out
          | with_reducible exact fr.two (fr.alloc hf1 _) K0h.out K1h.out)
        (first
          | (go_split_ands; go_at_call 39; with_reducible (refine (bcloneL_any _ (.slice Af f.data.length cf) f.data _ (fr.byt hf0 HFD.out)).mono ?_); rintro r w2 ⟨v1, rfl, hk', hb2⟩; obtain ⟨Ak', ck', rfl⟩ := slice_form hk'.byt; have hf1 := fr.step hf0 hb2)
          | (go_split_ands; refine step_append_own_at (by rfl) _ _ 35 (by rfl) w1.heap.size 55 i0 _ 3 48 Tryz.underlying35 hi hz0 hz1'.out hby.out rfl (by decide) _ _ _ (by rfl) ((own_below HO.out hf1).alloc _) ⟨w2.heap.size, 0, none⟩ 1 1 [.string ⟨f.name.toArray⟩, .slice Ak' f.data.length ck', .int .i64 f.synced] (by rfl) rfl (cells_new _ _ _) (by simp [Value.oneCell']) (by unfold maxLen; omega) (by omega) (by have := HB.out.size; have := Below.size hf1; simp; omega) ?_; intro v' w3 hown' hgrow hat; have hs3 := fr.grown (fr.alloc hf1 _) K0h.out K1h.out hgrow HNE.out))
      have hx : flR w2 (fun i => wr.heap.size ≤ i ∧ Loose w2 i) f.fl [.string ⟨f.name.toArray⟩, .slice Ak' f.data.length ck', .int .i64 f.synced] := ⟨_, rfl, hk', hnl⟩
      have hpush := OwnRows.push flFine (by rw [HMM.out]; exact HO.out) HYS.out hf1 hx HB.out.size hgrow hat (by rw [HMM.out]; exact hown')
      rw [← take_snoc HF0.out] at hpush
      have HPUSH := Lib.hid hpush
      have hbw : Below w1.heap.size w1 w3 := ((HB.out.trans (Below.mono hf1 HB.out.size)).alloc (by have := HB.out.size; have := Below.size hf1; omega) _).grown hgrow (by have := HB.out.size; have := Below.size hf1; simp; omega) (fun j e => (HO.out.lt j e).1)
      have HBW := Lib.hid hbw
      clear hpush hbw hown' hgrow hat hs3 hx hk' hf1 hb2
      go_wp2
      exact ⟨⟨m + 1, by omega, by go_num, HPUSH.out, HBW.out⟩, by simp [intOf]; omega⟩
    · obtain rfl : m = n := by omega
      go_wp2
      refine bodyPost_ret (v := u3) (by simp [results, Tryz.results13, go_sem]) rfl ?_
      have e1 : d.pk.fs.take m = d.pk.fs := List.take_of_length_le (by rw [HLN.out]; exact Nat.le_refl _)
      have hys := HYS.out
      rw [e1] at hys
      have hle := HB1.out.size
      refine ⟨u3, rfl, ⟨css, by rw [HLN.out]; exact ownsRow_base_a HO.out hle, hys.imp fun _ _ hx => flFine.keep hx fun _ _ _ _ hr => hr.mono fun i hi => ⟨Nat.le_trans hle hi.1, hi.2⟩⟩, HB1.out.trans (HB.out.mono hle)⟩
end Go.Proofs.YtiffgjodbcploaaGreat
end
section
namespace Go.Proofs.YtiffgjodbcploaaGreat
set_option maxRecDepth 100000
open Go.RowKit Go.BigFrame Go.Sort Go.Shelf Go.Lib Go.Maps
attribute [local go_sem ↓] Go.wp_at_zero Go.wp_at_succ
/-- strings in new memory. -/
def OwnS (w : World) (base : Nat) (v : Value) (ss : List Nm) : Prop := w.ownsRow base 9 1 v ss.length (ss.map encStr)
theorem OwnS.nil (w : World) (base : Nat) : OwnS w base (.slice none 0 0) [] := World.ownsRow_nil _ _ _ _
theorem strs0 (w : World) : Strs w (fun _ => True) (.slice none 0 0) [] := ⟨_, _, rfl, Nat.le_refl _, by omega, by simp, fun h => by simp at h⟩
def listP (k : Pk) : List Nm := if k.down = true then [] else k.fs.map Fl.name
end Go.Proofs.YtiffgjodbcploaaGreat
end
section
namespace Go.Proofs.YtiffgjodbcploaaGreat
set_option maxRecDepth 100000
open Go.RowKit Go.BigFrame Go.Sort Go.Shelf Go.Lib Go.Maps
theorem Byt.lit (w : World) (S : Nat → Prop) (hS : S w.heap.size) (e : TypeId) (bs : List UInt8) (hl : bs.length ≤ 140737488355328) (o : Obj) (ho : o = .cells (bs.map bcell).toArray e (0, 0)) :
    Byt (w.alloc o) S (.slice (some ⟨w.heap.size, 0, none⟩) bs.length bs.length) bs := by
  subst ho
  refine ⟨_, _, rfl, Nat.le_refl _, by omega, hl, by simp, fun _ => ⟨w.heap.size, 0, rfl, hS, by simp, fun j u hu => ?_⟩⟩
  rw [World.cell?_alloc_at _ _ _ _ rfl]
  simpa using hu
/-- a disk at p that is k, in blocks from base on. -/
def DkP (w : World) (base p : Nat) (k : Pk) : Prop := ∃ F, DiskP w F p k ∧ ∀ i, F i → base ≤ i ∧ i < w.heap.size
theorem DkP.below {w w' : World} {base p : Nat} {k : Pk} (h : DkP w base p k) (hb : Below w.heap.size w w') : DkP w' base p k := by
  obtain ⟨F, h, hF⟩ := h
  exact ⟨F, h.below hb, fun i hi => ⟨(hF i hi).1, by have := (hF i hi).2; have := hb.size; omega⟩⟩
theorem DkP.made {w : World} {F : Nat → Prop} {base p : Nat} {k : Pk} (h : DiskP w F p k) (hF : ∀ i, F i → i < w.heap.size → base ≤ i) : DkP w base p k :=
  ⟨fun i => base ≤ i ∧ i < w.heap.size, h.mono fun i hi hl => ⟨hF i hi hl, hl⟩, fun _ hi => hi⟩
theorem DkP.base {w : World} {base b' p : Nat} {k : Pk} (h : DkP w base p k) (hb : b' ≤ base) : DkP w b' p k := by
  obtain ⟨F, h, hF⟩ := h
  exact ⟨F, h, fun i hi => ⟨Nat.le_trans hb (hF i hi).1, (hF i hi).2⟩⟩
section
variable {w w2 : World} {base p : Nat} {k : Pk}
theorem new_dk (S : Nat → Prop) (ops room : Int) (v : Value) (zs : List Int) (w : World) (hz : IntsIn w S v zs) (hl : zs.length * 8 ≤ 140737488355328) (base : Nat) (hbase : base ≤ w.heap.size) :
    Calls Tryz.prog 7 #[.agg #[.int .i64 ops, .int .i64 room, v]] w fun r w' => ∃ p, r = .returned (.pointer (some ⟨p, 0, none⟩)) ∧ DkP w' base p ⟨[], ops, room, zs, 0, 0, false⟩ ∧ Below w.heap.size w w' := by
  refine (new_any S ops room v zs w hz hl).mono ?_
  rintro r w' ⟨p, rfl, h, hb⟩
  exact ⟨p, rfl, .made h fun i hi _ => Nat.le_trans hbase hi, hb⟩
theorem append_dk (x : Nm) (v : Value) (b : List UInt8) (h : DkP w base p k) (hb : Below w.heap.size w w2) (hbase : base ≤ w.heap.size) (hv : Byt w2 (fun i => w.heap.size ≤ i) v b) (hx : x.length ≤ 140737488355328) (hd : 0 ≤ k.done) (hd' : k.done < 4611686018427387904)
    (hlen : ∀ f, findP x k.fs = some f → f.data.length + b.length ≤ 140737488355328) (hmany : k.fs.length < 9223372036854775807) :
    Calls Tryz.prog 32 #[.pointer (some ⟨p, 0, none⟩), .string ⟨x.toArray⟩, v] w2 fun r w' => r = .returned (.int .i64 (appendE k x b)) ∧ DkP w' base p (appendK k x b) ∧ Below base w2 w' ∧ ∀ X, w.heap.size ≤ X → X < w2.heap.size → w'.heap[X]? = w2.heap[X]? := by
  obtain ⟨F, h, hF⟩ := h
  refine (append_any F p k x _ v b w2 (h.below hb) hv (fun i hi hf => by have := (hF i hf).2; omega) hx hd hd' hlen hmany).mono ?_
  rintro r w' ⟨rfl, h', ho⟩
  have hs := hb.size
  exact ⟨rfl, .made h' fun i hi _ => hi.elim (fun hi => (hF i hi).1) (fun hi => by omega), ho.below (by omega) fun i hi => (hF i hi).1, fun X h1 h2 => ho.block X h2 fun hf => by have := (hF X hf).2; omega⟩
theorem sync_dk (x : Nm) (h : DkP w base p k) (hbase : base ≤ w.heap.size) (hx : x.length ≤ 140737488355328) (hd : 0 ≤ k.done) (hd' : k.done < 4611686018427387904) :
    Calls Tryz.prog 34 #[.pointer (some ⟨p, 0, none⟩), .string ⟨x.toArray⟩] w fun r w' => r = .returned (.int .i64 (syncE k x)) ∧ DkP w' base p (syncK k x) ∧ Below base w w' := by
  obtain ⟨F, h, hF⟩ := h
  refine (sync_any F p k x w h hx hd hd').mono ?_
  rintro r w' ⟨rfl, h', ho⟩
  exact ⟨rfl, .made h' fun i hi _ => (hF i hi).1, ho.below hbase fun i hi => (hF i hi).1⟩
theorem revive_dk (S : Nat → Prop) (ops room : Int) (v : Value) (zs : List Int) (h : DkP w base p k) (hb : Below w.heap.size w w2) (hbase : base ≤ w.heap.size) (hok : okFs k.fs) (hmany : k.fs.length * 16 ≤ 140737488355328) (hz : IntsIn w2 S v zs) (hS : ∀ i, S i → i < base ∨ w.heap.size ≤ i) (hl : zs.length * 8 ≤ 140737488355328) :
    Calls Tryz.prog 23 #[.pointer (some ⟨p, 0, none⟩), .agg #[.int .i64 ops, .int .i64 room, v]] w2 fun r w' => r = .returned (.int .i64 0) ∧ DkP w' base p (reviveK k ops room zs) ∧ Below base w2 w' ∧ ∀ X, w.heap.size ≤ X → X < w2.heap.size → w'.heap[X]? = w2.heap[X]? := by
  obtain ⟨F, h, hF⟩ := h
  refine (revive_any F p k S ops room v zs w2 (h.below hb) hok hmany hz (fun i hi hf => by have := (hF i hf); have := hS i hi; omega) hl).mono ?_
  rintro r w' ⟨rfl, h', ho⟩
  have hs := hb.size
  exact ⟨rfl, .made h' fun i hi _ => hi.elim (fun hi => (hF i hi).1) (fun hi => by omega), ho.below (by omega) fun i hi => (hF i hi).1, fun X h1 h2 => ho.block X h2 fun hf => by have := (hF X hf).2; omega⟩
theorem read_dk (x : Nm) (h : DkP w base p k) (hx : x.length ≤ 140737488355328) :
    Calls Tryz.prog 24 #[.pointer (some ⟨p, 0, none⟩), .string ⟨x.toArray⟩] w fun r w' => ∃ v, r = .returned (.tuple #[v, .int .i64 (readyE k [x])]) ∧ BytL w' w.heap.size v (if readyE k [x] = 0 then readD k x else []) ∧ DkP w' base p k ∧ Below w.heap.size w w' := by
  have h0 := h
  obtain ⟨F, h, hF⟩ := h
  refine (read_any F p k x w h hx).mono ?_
  rintro r w' ⟨v, rfl, hv, hb⟩
  exact ⟨v, rfl, hv, h0.below hb, hb⟩
theorem dump_dk (h : DkP w base p k) (hl : k.fs.length * 48 ≤ 140737488355328) :
    Calls Tryz.prog 13 #[.pointer (some ⟨p, 0, none⟩)] w fun r w' => ∃ v, r = .returned v ∧ OwnFiles w' w.heap.size v k.fs ∧ DkP w' base p k ∧ Below w.heap.size w w' := by
  have h0 := h
  obtain ⟨F, h, hF⟩ := h
  refine (dump_any F p k w h hl).mono ?_
  rintro r w' ⟨v, rfl, hv, hb⟩
  exact ⟨v, rfl, hv, h0.below hb, hb⟩
end
end Go.Proofs.YtiffgjodbcploaaGreat
end
