/-
ref07's Of.
-/
import Derived.Test.YtcmjoaepihbodaaQPOwnU11
section
namespace Go.Proofs.Ytcmjoaepihbodaa
open Go.RowKit Go.BigFrame
attribute [local go_sem ↓] Go.wp_at_zero Go.wp_at_succ
theorem fr.setFour {W w' : World} (_ : Below W.heap.size W w') {b r i j k : Nat} {x y z u : Value} (c0 : w'.cell? ⟨b, i, none⟩ = some x) (c1 : w'.cell? ⟨b, j, none⟩ = some y) (c2 : w'.cell? ⟨b, k, none⟩ = some z) (hne : b ≠ r) :
    (w'.setCell ⟨r, 0, none⟩ u).cell? ⟨b, i, none⟩ = some x ∧ (w'.setCell ⟨r, 0, none⟩ u).cell? ⟨b, j, none⟩ = some y ∧ (w'.setCell ⟨r, 0, none⟩ u).cell? ⟨b, k, none⟩ = some z ∧ True :=
  have hh : (w'.setCell ⟨r, 0, none⟩ u).heap[b]? = w'.heap[b]? := heap_setCell_other w' ⟨r, 0, none⟩ b u hne
  ⟨(World.cell?_of_block (a := ⟨b, i, none⟩) hh).trans c0, (World.cell?_of_block (a := ⟨b, j, none⟩) hh).trans c1, (World.cell?_of_block (a := ⟨b, k, none⟩) hh).trans c2, trivial⟩
theorem OwnRows.fo {w : World} {base : Nat} {v : Value} {fs : List Fl} (h : OwnFiles w base v fs) : ∃ A c, v = .slice A fs.length c := by
  obtain ⟨css, h1, _⟩ := h
  exact own_form h1
theorem fr.fil {W w' : World} (h : fr W w') {S : Nat → Prop} {v : Value} {fs : List Fl} (hv : FilesV W S v fs) : FilesV w' S v fs := Rows.below flFine hv h
set_option maxRecDepth 100000 in
set_option maxHeartbeats 8000000 in
theorem rof_any (S S' : Nat → Prop) (v : Value) (fs : List Fl) (ops room : Int) (kv : Value) (zs : List Int) (w : World) (hv : FilesV w S v fs) (hz : IntsIn w S' kv zs) :
    Calls Try.prog 17 #[v, .agg #[.int .i64 ops, .int .i64 room, kv]] w fun e w' => ∃ q, e = .returned (.tuple #[q, .int .i64 (ofE fs)]) ∧ (ofE fs ≠ 0 → q = .pointer none) ∧ (ofE fs = 0 → ∃ r, q = .pointer (some ⟨r, 0, none⟩) ∧ RefP w' w.heap.size (orNew S' w.heap.size) r (ofK fs ops room zs)) ∧ Below w.heap.size w w' := by
  obtain ⟨A, c, rfl⟩ := hv.form
  obtain ⟨n, hn⟩ : ∃ n, fs.length = n := ⟨_, rfl⟩
  have hmax : n * 48 ≤ 140737488355328 := by obtain ⟨_, _, _, _, _, _, h3, _⟩ := hv; rw [← hn]; exact h3
  rw [hn] at hv ⊢
  have HN := Lib.hid hn
  obtain ⟨Ak, ck, rfl, _⟩ := id hz
  obtain ⟨q0, hq0⟩ : ∃ e, ofE fs = e := ⟨_, rfl⟩
  rw [hq0]
  have HQ := Lib.hid hq0
  obtain ⟨W1, hW1⟩ : ∃ W1, W1 = (w.alloc (.cells #[.int .i64 ops, .int .i64 room, .slice Ak zs.length ck] 25)).alloc (.cells #[.slice none 0 0, .int .i64 ops, .int .i64 room, .slice Ak zs.length ck, .int .i64 0, .bool false] 49) := ⟨_, rfl⟩
  have hb1 : Below w.heap.size w W1 := by rw [hW1]; exact ((Below.refl _ _).alloc (Nat.le_refl _) _).alloc (by simp) _
  have hs1 : W1.heap.size = w.heap.size + 2 := by rw [hW1]; simp
  have hh1 : W1.heap[w.heap.size + 1]? = some (.cells #[.slice none 0 0, .int .i64 ops, .int .i64 room, .slice Ak zs.length ck, .int .i64 0, .bool false] 49 (0, 0)) := by
    rw [hW1]
    have := heap_alloc_new (w.alloc (.cells #[.int .i64 ops, .int .i64 room, .slice Ak zs.length ck] 25)) (.cells #[.slice none 0 0, .int .i64 ops, .int .i64 room, .slice Ak zs.length ck, .int .i64 0, .bool false] 49)
    simpa using this
  obtain ⟨D1, hD1⟩ : ∃ D1 : Nat → Prop, D1 = orNew (fun i => S i ∨ S' i) w.heap.size := ⟨_, rfl⟩
  have hz1 : IntsIn w (fun i => S' i ∧ i < w.heap.size) (.slice Ak zs.length ck) zs := hz.keepR fun _ _ _ _ hr => hr.monoLt fun i hi hs => ⟨hs, hi⟩
  have hr1 : RefV W1 w.heap.size D1 (w.heap.size + 1) (.slice none 0 0) (.slice Ak zs.length ck) ⟨[], ops, room, zs, 0, 0, false⟩ :=
    ⟨hh1, RowF.nil _ _ _, (hz1.below hb1).mono fun i hi => ⟨by rw [hD1]; exact .inl (.inr hi.1), by have := hi.2; omega, by simp [Value.ownBlock]⟩, by omega, by rw [hD1]; exact .inr (by omega), fun g hg => by simp [Value.ownBlock] at hg⟩
  have HZ := Lib.hid hz1
  have HB1 := Lib.hid hb1
  have HR1 := Lib.hid hr1
  have hvl : FilesV w (fun i => S i ∧ i < w.heap.size) (.slice A n c) fs := hv.keep flFine fun _ _ _ _ hr => hr.monoLt fun i hi hs => ⟨hs, hi⟩
  have HV := Lib.hid hvl
  have HV1 := Lib.hid (hvl.below flFine hb1)
  have HD1 := Lib.hid hD1
  clear hn hv hvl hz hq0 hb1 hh1 hr1 hz1 hD1
  go_enter Try.func17, Try.ntmps17
  go_wp2
  rw [← hW1]
  clear hW1
  go_loopw [15] (fun t wr => ∃ i : Nat, i ≤ n ∧ t = .int .i64 i ∧ (fs.take i).any nmB = false ∧ W1 = wr) (fun t _ => n - (intOf t).toNat)
  case atStart => exact ⟨0, Nat.zero_le _, rfl, rfl, rfl⟩
  case round =>
    obtain ⟨i, hi, rfl, hall, rfl⟩ := hrel
    have HALL := Lib.hid hall
    clear hall
    by_cases hin : i < n
    · obtain ⟨f, hf⟩ : ∃ f, fs[i]? = some f := ⟨_, List.getElem?_eq_getElem (by rw [HN.out]; exact hin)⟩
      obtain ⟨b, o, cs, rfl, _, _, ⟨vd, rfl, hvd, hxl⟩, hc⟩ := Rows.at_ flFine HV1.out hf
      have c0 : W1.cell? ⟨b, o + i * 3, none⟩ = _ := hc 0 _ rfl
      have HNM := Lib.hid (rname_any f.name W1 hxl)
      have HF := Lib.hid hf
      clear hf hvd hc
      cases hnm : nameB f.name with
      | false =>
        rw [hnm] at HNM
        have hE : ofE fs = 23 := by
          unfold ofE
          rw [if_pos]
          exact List.any_eq_true.2 ⟨f, List.mem_of_getElem? HF.out, by unfold nmB; rw [hnm]; rfl⟩
        obtain rfl : 23 = q0 := hE.symm.trans HQ.out
        clear hE hnm
        go_wp2_with (go_at_call 36; refine HNM.out.mono ?_; rintro r w2 ⟨rfl, rfl⟩)
        refine bodyPost_ret (v := .tuple #[.pointer none, .int .i64 23]) (by simp [results, Try.results17, go_sem]) rfl ?_
        exact ⟨_, rfl, fun _ => rfl, fun e => absurd e (by decide), HB1.out⟩
      | true =>
        rw [hnm] at HNM
        have HT := Lib.hid hnm
        clear hnm
        go_wp2_with (go_at_call 36; refine HNM.out.mono ?_; rintro r w2 ⟨rfl, rfl⟩)
        refine ⟨⟨i + 1, by omega, by go_num, ?_, by trivial⟩, by simp [intOf]; omega⟩
        rw [take_snoc HF.out, List.any_append, HALL.out, List.any_cons]
        unfold nmB
        rw [HT.out]
        rfl
    · obtain rfl : i = n := by omega
      have hnm : fs.any nmB = false := by have := HALL.out; rwa [List.take_of_length_le (by rw [HN.out]; exact Nat.le_refl _)] at this
      have HNM := Lib.hid hnm
      clear hnm HALL
      go_wp2
      go_loopw [28] (fun t wr => ∃ (i' : Nat) (acc : List Fl) (v1 : Value), i' ≤ i ∧ t = .int .i64 i' ∧ RefV wr w.heap.size D1 (w.heap.size + 1) v1 (.slice Ak zs.length ck) ⟨acc, ops, room, zs, 0, 0, false⟩ ∧ ofGo [] fs = ofGo acc (fs.drop i') ∧ acc.length ≤ i' ∧ Below w.heap.size w wr ∧ W1.heap.size ≤ wr.heap.size) (fun t _ => i - (intOf t).toNat)
      case atStart => exact ⟨0, [], _, Nat.zero_le _, rfl, HR1.out, rfl, Nat.le_refl _, HB1.out, Nat.le_refl _⟩
      case round =>
        obtain ⟨j, acc, v1, hj, rfl, hr, hgo, hal, hbel, hsz⟩ := hrel
        have HR := Lib.hid hr
        have HGO := Lib.hid hgo
        have HB := Lib.hid hbel
        have ham : acc.length * 48 ≤ 140737488355328 := by omega
        have HFA := Lib.hid (hr.files ham)
        obtain ⟨x0, _⟩ := hr.cell
        obtain ⟨Av, cv, rfl⟩ := hr.row.form
        clear hr hgo hbel
        by_cases hin : j < i
        · obtain ⟨f, hf⟩ : ∃ f, fs[j]? = some f := ⟨_, List.getElem?_eq_getElem (by rw [HN.out]; exact hin)⟩
          obtain ⟨b, o, cs, rfl, _, hbn, ⟨vd, rfl, hvd, hxl⟩, hc⟩ := Rows.at_ flFine (HV.out.below flFine HB.out) hf
          have hbn2 := hbn.2
          obtain ⟨A', c', rfl⟩ := slice_form hvd
          have c0 : wr.cell? ⟨b, o + j * 3, none⟩ = _ := hc 0 _ rfl
          have c1 : wr.cell? ⟨b, o + j * 3 + 1, none⟩ = _ := hc 1 _ rfl
          have c2 : wr.cell? ⟨b, o + j * 3 + 2, none⟩ = _ := hc 2 _ rfl
          have HFD := Lib.hid (find_any _ (w.heap.size + 1) _ acc f.name wr x0 HFA.out)
          have HF := Lib.hid hf
          have HVD := Lib.hid hvd
          clear hf hvd hc
          rcases idxP_find (x := f.name) (fs := acc) with ⟨hi1, hi2⟩ | ⟨m, g, hi1, hi2, _, _⟩
          · have hidx : idxI f.name acc = -1 := by unfold idxI; rw [hi1]
            rw [hidx] at HFD
            have hgo' : ofGo [] fs = ofGo (insP f acc) (fs.drop (j + 1)) := by rw [HGO.out, drop_cons HF.out, ofGo, if_neg (by rw [hi2]; simp)]
            have hii := insI_insP hi2
            have hlen' := len_insP f acc
            have HGO' := Lib.hid hgo'
            clear hi1 hi2 hidx hgo'
            go_upto_region 13 with (go_at_call 37; refine HFD.out.mono ?_; rintro r w2 ⟨rfl, rfl⟩)
            have HINS := Lib.hid (insert_any (fun i => D1 i ∧ i ≠ w.heap.size + 1) (.slice Av acc.length cv) acc f A' c' wr.drew (fr.fil fr.refl.drew HFA.out) ((fr.byt fr.refl.drew HVD.out).mono fun i hi => ⟨by rw [HD1.out]; exact .inl (.inl hi.1), by have := hi.2; omega⟩) hxl (by omega))
            rw [hii] at HINS
            have hrd := HR.out.below (w' := wr.drew) fr.refl.drew
            have HRD := Lib.hid hrd
            obtain ⟨xd, _⟩ := hrd.cell
            have zfd : ∀ q, Below wr.drew.heap.size wr.drew q → q.frozen? ⟨w.heap.size + 1, 0, none⟩ = false := fun q hb => (HRD.out.below hb).frozen 0
            have HBD := Lib.hid (HB.out.drew)
            clear hrd
            have e0 : wr.drew.cell? ⟨b, o + j * 3, none⟩ = _ := c0
            have e1 : wr.drew.cell? ⟨b, o + j * 3 + 1, none⟩ = _ := c1
            have e2 : wr.drew.cell? ⟨b, o + j * 3 + 2, none⟩ = _ := c2
            go_region_with (first
              | (go_at_call 38; refine HINS.out.mono ?_; rintro r w2 ⟨v2, rfl, hrow, hb2⟩; obtain ⟨A2, c2', rfl⟩ := hrow.form; have y0 := fr.cell hb2 xd; have HR2 := Lib.hid hrow; have HB2 := Lib.hid hb2; have z0 := zfd _ hb2; clear hrow hb2))
            all_goals
              go_wp2
              obtain ⟨hst, hso⟩ := HRD.out.reset (n := w.heap.size) HB2.out HB.out.size HR2.out
              have hst' : RefV _ w.heap.size D1 _ _ _ _ := hst.mono (D' := D1) fun i _ hi => by
                rcases hi with hi | hi
                · exact hi
                · rw [HD1.out]; exact .inr hi
              have hbo := HBD.out.trans (hso.below HBD.out.size fun i hi => hi.elim (fun h => h.2) id)
              refine ⟨⟨j + 1, insP f acc, _, by omega, by go_num, hst', HGO'.out, by omega, hbo, by have := hso.size; simp only [World.drew] at this; omega⟩, by simp [intOf]; omega⟩
          · have hidx : idxI f.name acc = (m : Int) := by unfold idxI; rw [hi1]
            rw [hidx] at HFD
            have hE : ofE fs = 31 := by
              unfold ofE
              rw [if_neg (by rw [HNM.out]; simp), HGO.out, drop_cons HF.out, ofGo, if_pos (by rw [hi2]; rfl)]
            obtain rfl : 31 = q0 := hE.symm.trans HQ.out
            clear hE hi1 hi2 hidx
            go_wp2_with (go_at_call 37; refine HFD.out.mono ?_; rintro r w2 ⟨rfl, rfl⟩)
            refine bodyPost_ret (v := .tuple #[.pointer none, .int .i64 31]) (by simp [results, Try.results17, go_sem]) rfl ?_
            exact ⟨_, rfl, fun _ => rfl, fun e => absurd e (by decide), HB.out⟩
        · obtain rfl : j = i := by omega
          have hd0 : fs.drop j = [] := List.drop_of_length_le (by rw [HN.out]; exact Nat.le_refl _)
          have hgo0 : ofGo [] fs = some acc := by rw [HGO.out, hd0]; rfl
          have hE : ofE fs = if fs.any rgB = true then 2 else 0 := by
            unfold ofE
            rw [if_neg (by rw [HNM.out]; simp), hgo0]
          have HE := Lib.hid hE
          have HG0 := Lib.hid hgo0
          obtain ⟨wx, hwx⟩ : ∃ wx, wx = wr := ⟨_, rfl⟩
          rw [← hwx] at HR HFA HB x0 ⊢
          clear hd0 hE hgo0 HGO hwx
          go_wp2
          go_loopw [54] (fun t wr => ∃ m : Nat, m ≤ j ∧ t = .int .i64 m ∧ (fs.take m).any rgB = false ∧ Below wx.heap.size wx wr) (fun t _ => j - (intOf t).toNat)
          case atStart => exact ⟨0, Nat.zero_le _, rfl, rfl, Below.refl _ _⟩
          case round =>
            obtain ⟨m, hm, rfl, hall, hbw⟩ := hrel
            have HALL3 := Lib.hid hall
            have HBW := Lib.hid hbw
            clear hall hbw
            by_cases hin3 : m < j
            · obtain ⟨f, hf⟩ : ∃ f, fs[m]? = some f := ⟨_, List.getElem?_eq_getElem (by rw [HN.out]; exact hin3)⟩
              obtain ⟨b, o, cs, rfl, _, _, ⟨vd, rfl, hvd, hxl⟩, hc⟩ := Rows.at_ flFine ((HV.out.below flFine HB.out).below flFine HBW.out) hf
              obtain ⟨A', c', rfl⟩ := slice_form hvd
              have c1 : wr.cell? ⟨b, o + m * 3 + 1, none⟩ = _ := hc 1 _ rfl
              have c2 : wr.cell? ⟨b, o + m * 3 + 2, none⟩ = _ := hc 2 _ rfl
              have C1 : ∀ q : Ext wr, q.w.cell? ⟨b, o + m * 3 + 1, none⟩ = _ := fun q => q.h.cell c1
              have C2 : ∀ q : Ext wr, q.w.cell? ⟨b, o + m * 3 + 2, none⟩ = _ := fun q => q.h.cell c2
              have HF := Lib.hid hf
              have hany : ∀ e, rgB f = e → (fs.take (m + 1)).any rgB = e := fun e h => by rw [take_snoc HF.out, List.any_append, HALL3.out, List.any_cons, h]; simp
              have HANY := Lib.hid hany
              have HBAD : Hid (rgB f = true → 2 = q0) := Lib.hid fun h => by
                rw [← HQ.out, HE.out, if_pos (List.any_eq_true.2 ⟨f, List.mem_of_getElem? HF.out, h⟩)]
              clear hf hvd hc hany
              go_wp2
              cases h1 : decide (f.synced < 0) with
              | true =>
                obtain rfl := HBAD.out (by unfold rgB; rw [h1]; rfl)
                (refine wp_region_quiet_ext (by kernel_rfl) (by kernel_rfl) ?_; (repeat (go_big_quiet_step (fail))); refine wpQuiet_nil ?_; intro wq hw'; obtain ⟨⟨_, hq⟩, hw''⟩ := hw'; subst hw'')
                go_wp2
                refine bodyPost_ret (v := .tuple #[.pointer none, .int .i64 2]) (by simp [results, Try.results17, go_sem]) rfl ?_
                first | exact ⟨_, rfl, fun _ => rfl, fun e => absurd e (by decide), HB.out.trans ((HBW.out.trans (Below.mono hq HBW.out.size)).mono HB.out.size)⟩ | exact ⟨_, rfl, rfl, HB.out.trans ((HBW.out.trans (Below.mono hq HBW.out.size)).mono HB.out.size)⟩
              | false =>
                by_cases h2 : (f.data.length : Int) < f.synced
                · obtain rfl := HBAD.out (by unfold rgB; rw [decide_eq_true h2, Bool.or_true])
                  (refine wp_region_quiet_ext (by kernel_rfl) (by kernel_rfl) ?_; (repeat (go_big_quiet_step (fail))); refine wpQuiet_nil ?_; intro wq hw'; obtain ⟨⟨_, hq⟩, hw''⟩ := hw'; subst hw'')
                  go_wp2
                  refine bodyPost_ret (v := .tuple #[.pointer none, .int .i64 2]) (by simp [results, Try.results17, go_sem]) rfl ?_
                  first | exact ⟨_, rfl, fun _ => rfl, fun e => absurd e (by decide), HB.out.trans ((HBW.out.trans (Below.mono hq HBW.out.size)).mono HB.out.size)⟩ | exact ⟨_, rfl, rfl, HB.out.trans ((HBW.out.trans (Below.mono hq HBW.out.size)).mono HB.out.size)⟩
                · have hg := HANY.out false (by unfold rgB; rw [h1, decide_eq_false h2]; rfl)
                  have HGD := Lib.hid hg
                  clear hg
                  (refine wp_region_quiet_ext (by kernel_rfl) (by kernel_rfl) ?_; (repeat (go_big_quiet_step (fail))); refine wpQuiet_nil ?_; intro wq hw'; obtain ⟨⟨_, hq⟩, hw''⟩ := hw'; subst hw'')
                  go_wp2
                  exact ⟨⟨m + 1, by omega, by go_num, HGD.out, HBW.out.trans (Below.mono hq HBW.out.size)⟩, by simp [intOf]; omega⟩
            · obtain rfl : m = j := by omega
              have hany : fs.any rgB = false := by have := HALL3.out; rwa [List.take_of_length_le (by rw [HN.out]; exact Nat.le_refl _)] at this
              obtain rfl : 0 = q0 := by rw [← HQ.out, HE.out, if_neg (by rw [hany]; simp)]
              have hrb := HR.out.below HBW.out
              have HRB := Lib.hid hrb
              obtain ⟨xb, _⟩ := hrb.cell
              have zfb : ∀ q, Below wr.heap.size wr q → q.frozen? ⟨w.heap.size + 1, 0, none⟩ = false := fun q hb => (HRB.out.below hb).frozen 0
              have HCP := Lib.hid (fcopy_any _ (.slice Av acc.length cv) acc wr (fr.fil HBW.out HFA.out))
              have HBB := Lib.hid (HB.out.trans (HBW.out.mono HB.out.size))
              clear hrb hany HALL3 x0
              go_wp2_with (go_at_call 10; refine HCP.out.mono ?_; rintro r w2 ⟨v2, rfl, hown, hb2⟩; obtain ⟨A2, c2', rfl⟩ := OwnRows.fo hown; have y0 := fr.cell hb2 xb; have HR2 := Lib.hid hown; have HB2 := Lib.hid hb2; have z0 := zfb _ hb2; clear hown hb2)
              refine bodyPost_ret (v := .tuple #[.pointer (some ⟨w.heap.size + 1, 0, none⟩), .int .i64 0]) (by simp [results, Try.results17, go_sem]) rfl ?_
              have hzz := HBB.out.size
              have hzx := HBW.out.size
              have hlt := HRB.out.ltR
              have hrow := RowF.of_own HR2.out
              have hst := (HRB.out.below HB2.out).store (D := orNew S' w.heap.size) (v' := .slice A2 acc.length c2') (kv' := .slice Ak zs.length ck) (k' := ⟨acc, ops, room, zs, 0, 0, false⟩) (.inr (by omega)) 0 (.slice A2 acc.length c2') ((hrow.rebase fun g hg => by have := (hrow.lt hg).1; omega).mono fun i _ hi => ⟨.inr (by have := hi.1; omega), by have := hi.1; omega, hi.2.1⟩)
                ((HZ.out.below (HBB.out.trans (HB2.out.mono HBB.out.size))).mono fun i hi => ⟨.inl hi.1, by have := hi.2; omega, fun e => by have := (hrow.lt e).1; have := hi.2; omega⟩) (fun g hg => .inr (by have := (hrow.lt hg).1; omega)) rfl
              have hfin : RefP _ w.heap.size (orNew S' w.heap.size) (w.heap.size + 1) (ofK fs ops room zs) := ⟨_, _, RefV.same (k' := ofK fs ops room zs) hst (ofK_fs HG0.out ops room zs) rfl rfl rfl rfl rfl⟩
              first | refine ⟨_, rfl, fun h => absurd rfl h, fun _ => ⟨w.heap.size + 1, rfl, hfin⟩, ?_⟩ | refine ⟨_, rfl, ⟨w.heap.size + 1, rfl, hfin⟩, ?_⟩
              exact HBB.out.trans (((Only.of_below (S := fun i => i = w.heap.size + 1) HB2.out).setCell (p := ⟨w.heap.size + 1, 0, none⟩) rfl _).below HBB.out.size fun i hi => by omega)
end Go.Proofs.Ytcmjoaepihbodaa
end
