/-
ref07's Revive.
-/
import Derived.Test.YtcmjoaepihbodaaQPOwnU11
import Derived.Deep.AppendLies
section
namespace Go.Proofs.Ytcmjoaepihbodaa
open Go.RowKit Go.BigFrame
attribute [local go_sem ↓] Go.wp_at_zero Go.wp_at_succ
theorem app_fin {x : Nm} {b : List UInt8} {fs fs2 : List Fl} {j : Nat} {f : Fl} (hs : sortedP fs) (h : fs2 = if (findP x fs).isSome = true then fs else insP ⟨x, [], 0⟩ fs) (hi : idxP x fs2 = some j) (hf : fs2[j]? = some f) : fs2.set j { f with data := f.data ++ b } = appFs x b fs := by
  have hs2 : sortedP fs2 := by
    rw [h]
    split
    · exact hs
    · exact srt_ins hs
  unfold appFs
  rw [← h]
  rcases upd_at hs2 (x := x) (fun f => { f with data := f.data ++ b }) with ⟨h1, _⟩ | ⟨i, f', h1, h2, _, _, h3⟩
  · rw [hi] at h1; cases h1
  · rw [hi] at h1
    obtain rfl := Option.some.inj h1
    rw [hf] at h2
    obtain rfl := Option.some.inj h2
    exact h3.symm
theorem find_ins_new {f : Fl} {fs : List Fl} (h : findP f.name fs = none) : ∃ j, idxP f.name (insP f fs) = some j ∧ (insP f fs)[j]? = some f := by
  induction fs with
  | nil => exact ⟨0, by simp [insP, idxP], by simp [insP]⟩
  | cons a l ih =>
    have ha := findP_none h a List.mem_cons_self
    unfold findP at h
    rw [if_neg ha] at h
    unfold insP
    split
    · exact ⟨0, by simp [idxP], by simp⟩
    · split
      · exact ⟨0, by simp [idxP], by simp⟩
      · obtain ⟨j, h1, h2⟩ := ih h
        exact ⟨j + 1, by rw [idxP, if_neg ha, h1]; rfl, by simpa using h2⟩
set_option maxRecDepth 100000 in
set_option maxHeartbeats 8000000 in
theorem rappend_any (base : Nat) (D : Nat → Prop) (r : Nat) (k : Pk) (x : Nm) (Sb : Nat → Prop) (vb : Value) (b : List UInt8) (w : World) (N B M : Nat) (h : RefP w base D r k) (hv : Byt w Sb vb b) (hS : ∀ i, Sb i → ¬ Own D base i) (hx : x.length ≤ 140737488355328) (hinv : InvK k N B M) (hN : (N + 1) * 48 ≤ 140737488355328) (hB : B + b.length ≤ 1099511627776) (hM : M < 4611686018427387904) (hroom : k.room ≤ 9223372036854775807) :
    Calls Try.prog 18 #[.pointer (some ⟨r, 0, none⟩), .string ⟨x.toArray⟩, vb] w fun e w' => e = .returned (.int .i64 (appendE k x b)) ∧ RefP w' base (orNew D w.heap.size) r (appendK k x b) ∧ Only (Own D base) w w' := by
  obtain ⟨Ab, cb, rfl⟩ := slice_form hv
  obtain ⟨v, kv, h⟩ := h
  have hmany := hinv.many
  have hm : k.fs.length * 48 ≤ 140737488355328 := by omega
  obtain ⟨c0, c1, c2, c3, c4, c5⟩ := h.cell
  have HX := Lib.hid (rname_any x w hx)
  have H := Lib.hid h
  have HINV := Lib.hid hinv
  have hdn : RefP w base (orNew D w.heap.size) r k := ⟨v, kv, h.mono fun i _ hi => .inl hi⟩
  have HDN := Lib.hid hdn
  have HBV := Lib.hid hv
  have hre : readyE k [x] = if k.down = true then 20 else if nameB x = false then 23 else if (findP x k.fs).isNone then 22 else 0 := by
    unfold readyE
    simp only [List.all_cons, List.all_nil, Bool.and_true]
  obtain ⟨e0, he⟩ : ∃ e, appendE k x b = e := ⟨_, rfl⟩
  obtain ⟨k', hk'⟩ : ∃ k', appendK k x b = k' := ⟨_, rfl⟩
  rw [he, hk']
  unfold appendE at he
  unfold appendK at hk'
  clear h hdn hv
  cases hd : k.down with
  | true =>
    rw [hd] at hre c5
    rw [if_pos rfl] at hre
    rw [hre, if_neg (by omega)] at he hk'
    subst he hk'
    clear hre
    go_enter Try.func18, Try.ntmps18
    go_wp2
    refine bodyPost_ret (v := .int .i64 20) (by simp [results, Try.results18, go_sem]) rfl ?_
    exact ⟨rfl, HDN.out, Only.refl _ _⟩
  | false =>
    rw [hd] at hre c5
    rw [if_neg (by simp)] at hre
    cases hnx : nameB x with
    | false =>
      rw [hnx] at hre HX
      rw [if_pos rfl] at hre
      rw [hre, if_neg (by omega)] at he hk'
      subst he hk'
      clear hre
      go_enter Try.func18, Try.ntmps18
      go_wp2_with (go_at_call 36; refine HX.out.mono ?_; rintro r w1 ⟨rfl, rfl⟩)
      refine bodyPost_ret (v := .int .i64 23) (by simp [results, Try.results18, go_sem]) rfl ?_
      exact ⟨rfl, HDN.out, Only.refl _ _⟩
    | true =>
      rw [hnx] at hre HX
      rw [if_neg (by simp)] at hre
      have h022 : readyE k [x] = 0 ∨ readyE k [x] = 22 := by rw [hre]; split <;> simp
      rw [if_pos h022] at he hk'
      have hful : fullP k b.length = (decide (0 ≤ k.room) && decide (k.room < (b.length : Int) + tot k.fs)) := by
        unfold fullP
        have h1 := hinv.bytes
        have h2 := hinv.much
        by_cases hr : 0 ≤ k.room
        · rw [decide_eq_true hr, wrap_id (by omega) (by omega)]
          congr 1
          exact decide_eq_decide.2 (by omega)
        · rw [decide_eq_false hr]; rfl
      rw [hful] at he hk'
      have HE := Lib.hid he
      have HK := Lib.hid hk'
      have HF := Lib.hid (H.out.files hm)
      obtain ⟨Av, cv, hvf⟩ := H.out.row.form
      obtain ⟨n, hn⟩ : ∃ n, k.fs.length = n := ⟨_, rfl⟩
      rw [hn] at hvf
      subst hvf
      have hmax : n * 48 ≤ 140737488355328 := by rw [← hn]; exact hm
      have HN := Lib.hid hn
      have htot := hinv.much
      have hbz : b.length ≤ 1099511627776 := by omega
      have HTOT := Lib.hid (fun i => tot_le (fs := k.fs) i)
      clear hre h022 hful he hk' hn hinv
      go_enter Try.func18, Try.ntmps18
      go_upto_region 6 with (go_at_call 36; refine HX.out.mono ?_; rintro r w1 ⟨rfl, rfl⟩)
      go_wp2
      go_loopw [7, 25] (fun a t wr => ∃ i : Nat, i ≤ n ∧ t = .int .i64 i ∧ a = .int .i64 ((b.length : Int) + (tot (k.fs.take i) : Nat)) ∧ w = wr) (fun _ t _ => n - (intOf t).toNat)
      case atStart => exact ⟨0, Nat.zero_le _, rfl, by simp [tot], rfl⟩
      case round =>
        obtain ⟨i, hi, rfl, rfl, rfl⟩ := hrel
        by_cases hin : i < n
        · obtain ⟨f, hf⟩ : ∃ f, k.fs[i]? = some f := ⟨_, List.getElem?_eq_getElem (by rw [HN.out]; exact hin)⟩
          obtain ⟨bb, o, cs, hAv, _, _, ⟨vd, rfl, hvd, _⟩, hc⟩ := Rows.at_ flFine HF.out hf
          subst hAv
          obtain ⟨Ad, cd, rfl⟩ := slice_form hvd
          have d1 : w.cell? ⟨bb, o + i * 3 + 1, none⟩ = _ := hc 1 _ rfl
          have ht := tot_take hf
          have hle := HTOT.out (i + 1)
          have HT := Lib.hid ht
          clear hf hvd hc ht
          go_wp2
          refine ⟨⟨i + 1, by omega, by go_num, ?_, by trivial⟩, by simp [intOf]; omega⟩
          have ht := HT.out
          rw [HT.out, wrap_id (by omega) (by omega)]
          go_num
        · obtain rfl : i = n := by omega
          have hall : tot (k.fs.take i) = tot k.fs := by rw [List.take_of_length_le (by rw [HN.out]; exact Nat.le_refl _)]
          rw [hall]
          clear hall
          by_cases hr : 0 ≤ k.room ∧ k.room < (b.length : Int) + tot k.fs
          · obtain ⟨hr1, hr2⟩ := hr
            have hE : 21 = e0 := by rw [← HE.out, decide_eq_true hr1, decide_eq_true hr2]; rfl
            have hK : k = k' := by rw [← HK.out, decide_eq_true hr1, decide_eq_true hr2]; rfl
            subst hE hK
            have g1 : decide (0 ≤ k.room) = true := decide_eq_true hr1
            go_wp2
            refine bodyPost_ret (v := .int .i64 21) (by simp [results, Try.results18, go_sem]) rfl ?_
            exact ⟨rfl, HDN.out, Only.refl _ _⟩
          · have hful : (decide (0 ≤ k.room) && decide (k.room < (b.length : Int) + tot k.fs)) = false := by
              by_cases h1 : 0 ≤ k.room
              · rw [decide_eq_false (fun h2 => hr ⟨h1, h2⟩), Bool.and_false]
              · rw [decide_eq_false h1, Bool.false_and]
            rw [hful] at HE HK
            have hnf : decide (0 ≤ k.room) = false ∨ (decide (0 ≤ k.room) = true ∧ ¬ k.room < (b.length : Int) + tot k.fs) := by
              by_cases h1 : 0 ≤ k.room
              · exact .inr ⟨decide_eq_true h1, fun h2 => hr ⟨h1, h2⟩⟩
              · exact .inl (decide_eq_false h1)
            clear hful hr
            go_upto_region 11 with (fail)
            go_cut [54] (fun t wc => t = .bool false ∧ w = wc)
            case first =>
              rcases hnf with g1 | ⟨g1, g2⟩
              · go_wp2_with fail
                go_meet
                case rel => exact ⟨rfl, rfl⟩
              · go_wp2_with fail
                go_meet
                case rel => exact ⟨rfl, rfl⟩
            case rest =>
              obtain ⟨rfl, rfl⟩ := hcut
              have HC := Lib.hid (rchange_any base D r _ kv k w H.out HINV.out.done0 (by have := HINV.out.done; omega))
              cases hcr : crashes k with
              | true =>
                have hE : 20 = e0 := by rw [← HE.out, changeE, hcr]; rfl
                have hK : k' = changeK k := by rw [← HK.out, hcr]; rfl
                have hce : changeE k = 20 := by rw [changeE, hcr]; rfl
                rw [hce] at HC
                have HKF := Lib.hid hK
                subst hE
                clear hK
                clear hce hcr
                go_wp2_with (go_at_call 39; refine HC.out.mono ?_; rintro r1 w1 ⟨rfl, hv1, ho1⟩; have HV1 := Lib.hid hv1; have HO1 := Lib.hid ho1; clear hv1 ho1)
                refine bodyPost_ret (v := .int .i64 20) (by simp [results, Try.results18, go_sem]) rfl ?_
                exact ⟨rfl, by rw [HKF.out]; exact ⟨_, _, HV1.out.mono fun i _ hi => .inl hi⟩, HO1.out.mono fun i hi => by rw [hi]; exact ⟨H.out.inD, H.out.lo⟩⟩
              | false =>
                have hE : 0 = e0 := by rw [← HE.out, changeE, hcr]; rfl
                have hK : k' = { changeK k with fs := appFs x b k.fs, bytes := wrap64 (k.bytes + b.length) } := by rw [← HK.out, hcr]; rfl
                have hce : changeE k = 0 := by rw [changeE, hcr]; rfl
                rw [hce] at HC
                subst hE
                have hcf : (changeK k).fs = k.fs := (change_same k).1
                clear hce hcr HE HK
                obtain ⟨k1, hk1⟩ : ∃ k1, changeK k = k1 := ⟨_, rfl⟩
                rw [hk1] at HC hcf hK
                have HKF := Lib.hid hK
                clear hk1 hK
                go_upto_region 16 with (go_at_call 39; refine HC.out.mono ?_; rintro r1 w1 ⟨rfl, hv1, ho1⟩; have HV1 := Lib.hid hv1; have HO1 := Lib.hid ho1; clear hv1 ho1)
                have hm1 : k1.fs.length * 48 ≤ 140737488355328 := by rw [hcf]; exact hm
                have HVB1 := Lib.hid ((HBV.out.monoLt (S' := fun i => Sb i ∧ i < w.heap.size) fun i hi hs => ⟨hs, hi⟩).only HO1.out fun i _ hi e => hS i hi.1 (by rw [e]; exact ⟨H.out.inD, H.out.lo⟩))
                have HOW1 : Hid (Only (orNew (Own D base) w.heap.size) w w1) := Lib.hid (HO1.out.mono fun i hi => .inl (by rw [hi]; exact ⟨H.out.inD, H.out.lo⟩))
                obtain ⟨y0, _⟩ := HV1.out.cell
                have HF1 := Lib.hid (HV1.out.files hm1)
                have HFD := Lib.hid (find_any _ r _ k1.fs x w1 y0 HF1.out)
                have hz1 := HO1.out.size
                have HCF := Lib.hid hcf
                clear hcf
                rcases idxP_find (x := x) (fs := k.fs) with ⟨hi1, hi2⟩ | ⟨j, f, hi1, hi2, hj, hjn⟩
                · -- new
                  have hidx : idxI x k1.fs = -1 := by rw [HCF.out]; unfold idxI; rw [hi1]
                  rw [hidx] at HFD
                  have hins : insI ⟨x, [], 0⟩ k1.fs = insP ⟨x, [], 0⟩ k.fs := by rw [HCF.out, insI_insP hi2]
                  obtain ⟨fs2, hfs2⟩ : ∃ fs2, insP ⟨x, [], 0⟩ k.fs = fs2 := ⟨_, rfl⟩
                  have HINS := Lib.hid (insert_any _ _ k1.fs ⟨x, [], 0⟩ none 0 w1 HF1.out (Byt.nil _ _) hx (by rw [HCF.out]; omega))
                  rw [hins, hfs2] at HINS
                  obtain ⟨j, hji, hj⟩ := find_ins_new (f := ⟨x, [], 0⟩) hi2
                  rw [hfs2] at hji hj
                  obtain ⟨f, hff⟩ : ∃ f : Fl, ⟨x, [], 0⟩ = f := ⟨_, rfl⟩
                  obtain ⟨k2, hk2⟩ : ∃ k2 : Pk, k2 = { k1 with fs := fs2 } := ⟨_, rfl⟩
                  have hkf : fs2 = k2.fs := by rw [hk2]
                  subst hkf
                  have HK2 := Lib.hid hk2
                  have HFIN : Hid (k2.fs.set j { f with data := f.data ++ b } = appFs x b k.fs) := Lib.hid (app_fin HINV.out.sorted (by rw [hi2, ← hfs2]; rfl) hji (by rw [hj, hff]))
                  have hm2 : k2.fs.length * 48 ≤ 140737488355328 := by rw [← hfs2]; have := len_insP ⟨x, [], 0⟩ k.fs; omega
                  have HFL : Hid (f.data.length + b.length ≤ 140737488355328) := Lib.hid (by rw [← hff]; simp; omega)
                  have HJI : Hid (idxI x k2.fs = (j : Int)) := Lib.hid (by unfold idxI; rw [show idxP x k2.fs = some j from hji])
                  rw [hff] at hj
                  clear hi1 hi2 hidx hins hfs2 hji hff hk2
                  go_upto_region 17 with (go_at_call 37; refine HFD.out.mono ?_; rintro r2 w2 ⟨rfl, rfl⟩)
                  go_upto_region 18 with (go_at_call 38; refine HINS.out.mono ?_; rintro r3 w3 ⟨v3, rfl, hrow3, hb3⟩; obtain ⟨A3, c3', rfl⟩ := hrow3.form; have y03 := fr.cell hb3 y0; have HR3 := Lib.hid hrow3; have HB3 := Lib.hid hb3; have z0 := (HV1.out.below hb3).frozen 0; clear hrow3 hb3)
                  obtain ⟨hst, hso⟩ := HV1.out.reset (n := w.heap.size) HB3.out hz1 HR3.out
                  rw [← HK2.out] at hst
                  obtain ⟨W, hW⟩ : ∃ W, W = w3.setCell ⟨r, 0, none⟩ (.slice A3 k2.fs.length c3') := ⟨_, rfl⟩
                  rw [← hW] at hst hso ⊢
                  have HVW := Lib.hid hst
                  have HOW := Lib.hid (HOW1.out.trans hso)
                  have HVB := Lib.hid (HVB1.out.only hso fun i _ hi e => e.elim (fun e => hS i hi.1 e) (fun e => by have := hi.2; omega))
                  clear hst hso hW y03 z0 y0 HINS HFD
                  obtain ⟨g, cg, Af, df, hVe, hgl, hgb, hgD, hgr, hbyt, hfnl, x0, x1, x2, xf⟩ := RefV.file HVW.out hm2 hj
                  cases hVe
                  obtain ⟨y0, _⟩ := HVW.out.cell
                  have hrl := HVW.out.ltR
                  have F0 : ∀ q : Ext W, q.w.cell? { block := r, off := 0 } = _ := fun q => q.h.cell y0
                  have CS : ∀ q : Ext W, Calls Try.prog 37 #[.pointer (some ⟨r, 0, none⟩), .string ⟨x.toArray⟩] q.w fun e w'' => e = .returned (.int .i64 (j : Int)) ∧ ∃ q' : Ext W, w'' = q'.w := fun q => (find_any _ r _ k2.fs x q.w (q.h.cell y0) ((HVW.out.files hm2).below flFine q.h)).mono fun e w'' h => ⟨by rw [h.1, HJI.out], q, h.2.symm⟩
                  have HBYT := Lib.hid hbyt
                  have HJ := Lib.hid hj
                  have jn : j < k2.fs.length := (List.getElem?_eq_some_iff.1 hj).1
                  clear hbyt x0 x2 hj
                  go_upto_region 18 with (fail)
                  (refine wp_region_quiet_ext (by kernel_rfl) (by kernel_rfl) ?_; (repeat (go_big_quiet_step ((go_at_call 37; exact CS _)))); refine wpQuiet_nil ?_; intro wq hw'; obtain ⟨⟨_, hq⟩, hw''⟩ := hw'; subst hw'')
                  have z1 := fr.cell hq x1
                  have n0 := World.new_ne wq _ z1
                  simp only at n0
                  have m0 : g < wq.heap.size := World.block_lt_of_cell? wq _ z1
                  have HVQ := Lib.hid (HVW.out.below hq)
                  have HBQ := Lib.hid (HBYT.out.below hq)
                  have HVBQ := Lib.hid (HVB.out.below hq)
                  have HOQ := Lib.hid (HOW.out.trans (Only.of_below hq))
                  have hqz := Below.size hq
                  clear x1 F0 CS
                  go_wp2_with (first
                    | (at_builtin; refine wpList_append_byt rfl _ _ rfl wq.heap.size _ _ (by rfl) (by rfl) _ f.data (lit0 wq) (HBQ.out.below ((Below.refl _ _).alloc (Nat.le_refl _) _)) (by simp) ?_; intro v1 w1 hown1 hgrow1; have HO1 := Lib.hid (OwnB.of_own (F := fun i => wq.heap.size ≤ i) hown1 HBQ.out.len (fun _ hi => hi)); have hb1 : Below wq.heap.size wq w1 := ((Below.refl _ _).alloc (Nat.le_refl _) _).grown hgrow1 (le_alloc (Nat.le_refl _) _) (fun j e => by cases e; exact Nat.le_refl _); have HB1 := Lib.hid hb1; clear hown1 hgrow1 hb1)
                    | (at_builtin; refine wpList_append_ownB rfl _ _ rfl (fun i => wq.heap.size ≤ i) (fun i => wq.heap.size ≤ i) v1 (.slice Ab b.length cb) (by rfl) (by rfl) _ f.data b HO1.out (HVBQ.out.below HB1.out) (by have := HFL.out; omega) (fun _ hi => hi) HB1.out.size ?_; intro v2 w2 hown2 hgrow2 hat2; have HO2 := Lib.hid hown2; have hb2 : Below wq.heap.size wq w2 := HB1.out.grown hgrow2 HB1.out.size (fun j e => (HO1.out.blk e).1); have HB2 := Lib.hid hb2; have u1 := fr.cell hb2 z1; have uf := (HVQ.out.below hb2).frozen 0; obtain ⟨A2, c2, rfl⟩ := hown2.form; (obtain ⟨_, _, _, _, e2, _, _, _, _, _, _, _, _, _, wf⟩ := RefV.file (HVQ.out.below hb2) hm2 HJ.out); cases e2; clear hown2 hgrow2 hat2 hb2))
                  refine bodyPost_ret (v := .int .i64 0) (by simp [results, Try.results18, go_sem]) rfl ?_
                  have hwz := HOQ.out.size
                  have hby : Byt w2 (fun i => orNew D w.heap.size i ∧ i ≠ r ∧ g ≠ i) (.slice A2 (f.data ++ b).length c2) (f.data ++ b) := (OwnB.byt HO2.out).mono fun i hi => ⟨.inr (by have := hi.1; omega), by have := hi.1; omega, by have := hi.1; omega⟩
                  rw [List.length_append] at hby
                  have hput := (HVQ.out.below HB2.out).put (f' := { f with data := f.data ++ b }) (u := .slice A2 (f.data.length + b.length) c2) HJ.out (t := 1) (by omega) (by
                    rintro cs ⟨vd, rfl, _, hn⟩
                    exact ⟨_, rfl, hby, hn⟩)
                  refine ⟨rfl, ⟨_, _, RefV.same (k' := k') hput (by rw [HKF.out]; exact HFIN.out.symm) ?_ ?_ ?_ ?_ ?_⟩, ?_⟩
                  all_goals first | (rw [HKF.out, HK2.out]; done) | skip
                  refine Only.new (((HOQ.out.trans (Only.of_below HB2.out)).setCell (p := ⟨g, j * 3 + 1, none⟩) ?_ _))
                  exact orOwn hgD hgb
                · -- there
                  have hidx : idxI x k1.fs = (j : Int) := by rw [HCF.out]; unfold idxI; rw [hi1]
                  rw [hidx] at HFD
                  have HFIN : Hid (k1.fs.set j { f with data := f.data ++ b } = appFs x b k.fs) := Lib.hid (by rw [HCF.out]; exact app_fin HINV.out.sorted (by rw [hi2]; rfl) hi1 hj)
                  have HFL : Hid (f.data.length + b.length ≤ 140737488355328) := Lib.hid (by have := tot_mem (List.mem_of_getElem? hj); omega)
                  rw [← HCF.out] at hj
                  obtain ⟨k2, hk2⟩ : ∃ k2 : Pk, k2 = k1 := ⟨_, rfl⟩
                  have HK2 : Hid (k2 = { k1 with fs := k2.fs }) := Lib.hid (by rw [hk2])
                  have HJI : Hid (idxI x k2.fs = (j : Int)) := Lib.hid (by rw [hk2]; exact hidx)
                  have hm2 : k2.fs.length * 48 ≤ 140737488355328 := by rw [hk2]; exact hm1
                  have HVB := HVB1
                  have HOW := HOW1
                  obtain ⟨V, hV⟩ : ∃ V, V = Value.slice Av i cv := ⟨_, rfl⟩
                  have HVW : Hid (RefV w1 base (orNew D w.heap.size) r V kv k2) := Lib.hid (by rw [hV, hk2]; exact HV1.out.mono fun i _ hi => .inl hi)
                  clear hV
                  rw [← hk2] at hj HFIN
                  obtain ⟨W, hW⟩ : ∃ W, W = w1 := ⟨_, rfl⟩
                  clear hi1 hi2 hidx hjn
                  go_upto_region 18 with (go_at_call 37; refine HFD.out.mono ?_; rintro r2 w2 ⟨rfl, rfl⟩)
                  rw [← hW] at HVW HVB HOW ⊢
                  clear hW hk2
                  obtain ⟨g, cg, Af, df, hVe, hgl, hgb, hgD, hgr, hbyt, hfnl, x0, x1, x2, xf⟩ := RefV.file HVW.out hm2 hj
                  cases hVe
                  obtain ⟨y0, _⟩ := HVW.out.cell
                  have hrl := HVW.out.ltR
                  have F0 : ∀ q : Ext W, q.w.cell? { block := r, off := 0 } = _ := fun q => q.h.cell y0
                  have CS : ∀ q : Ext W, Calls Try.prog 37 #[.pointer (some ⟨r, 0, none⟩), .string ⟨x.toArray⟩] q.w fun e w'' => e = .returned (.int .i64 (j : Int)) ∧ ∃ q' : Ext W, w'' = q'.w := fun q => (find_any _ r _ k2.fs x q.w (q.h.cell y0) ((HVW.out.files hm2).below flFine q.h)).mono fun e w'' h => ⟨by rw [h.1, HJI.out], q, h.2.symm⟩
                  have HBYT := Lib.hid hbyt
                  have HJ := Lib.hid hj
                  have jn : j < k2.fs.length := (List.getElem?_eq_some_iff.1 hj).1
                  clear hbyt x0 x2 hj
                  go_upto_region 18 with (fail)
                  (refine wp_region_quiet_ext (by kernel_rfl) (by kernel_rfl) ?_; (repeat (go_big_quiet_step ((go_at_call 37; exact CS _)))); refine wpQuiet_nil ?_; intro wq hw'; obtain ⟨⟨_, hq⟩, hw''⟩ := hw'; subst hw'')
                  have z1 := fr.cell hq x1
                  have n0 := World.new_ne wq _ z1
                  simp only at n0
                  have m0 : g < wq.heap.size := World.block_lt_of_cell? wq _ z1
                  have HVQ := Lib.hid (HVW.out.below hq)
                  have HBQ := Lib.hid (HBYT.out.below hq)
                  have HVBQ := Lib.hid (HVB.out.below hq)
                  have HOQ := Lib.hid (HOW.out.trans (Only.of_below hq))
                  have hqz := Below.size hq
                  clear x1 F0 CS
                  go_wp2_with (first
                    | (at_builtin; refine wpList_append_byt rfl _ _ rfl wq.heap.size _ _ (by rfl) (by rfl) _ f.data (lit0 wq) (HBQ.out.below ((Below.refl _ _).alloc (Nat.le_refl _) _)) (by simp) ?_; intro v1 w1 hown1 hgrow1; have HO1 := Lib.hid (OwnB.of_own (F := fun i => wq.heap.size ≤ i) hown1 HBQ.out.len (fun _ hi => hi)); have hb1 : Below wq.heap.size wq w1 := ((Below.refl _ _).alloc (Nat.le_refl _) _).grown hgrow1 (le_alloc (Nat.le_refl _) _) (fun j e => by cases e; exact Nat.le_refl _); have HB1 := Lib.hid hb1; clear hown1 hgrow1 hb1)
                    | (at_builtin; refine wpList_append_ownB rfl _ _ rfl (fun i => wq.heap.size ≤ i) (fun i => wq.heap.size ≤ i) v1 (.slice Ab b.length cb) (by rfl) (by rfl) _ f.data b HO1.out (HVBQ.out.below HB1.out) (by have := HFL.out; omega) (fun _ hi => hi) HB1.out.size ?_; intro v2 w2 hown2 hgrow2 hat2; have HO2 := Lib.hid hown2; have hb2 : Below wq.heap.size wq w2 := HB1.out.grown hgrow2 HB1.out.size (fun j e => (HO1.out.blk e).1); have HB2 := Lib.hid hb2; have u1 := fr.cell hb2 z1; have uf := (HVQ.out.below hb2).frozen 0; obtain ⟨A2, c2, rfl⟩ := hown2.form; (obtain ⟨_, _, _, _, e2, _, _, _, _, _, _, _, _, _, wf⟩ := RefV.file (HVQ.out.below hb2) hm2 HJ.out); cases e2; clear hown2 hgrow2 hat2 hb2))
                  refine bodyPost_ret (v := .int .i64 0) (by simp [results, Try.results18, go_sem]) rfl ?_
                  have hwz := HOQ.out.size
                  have hby : Byt w2 (fun i => orNew D w.heap.size i ∧ i ≠ r ∧ g ≠ i) (.slice A2 (f.data ++ b).length c2) (f.data ++ b) := (OwnB.byt HO2.out).mono fun i hi => ⟨.inr (by have := hi.1; omega), by have := hi.1; omega, by have := hi.1; omega⟩
                  rw [List.length_append] at hby
                  have hput := (HVQ.out.below HB2.out).put (f' := { f with data := f.data ++ b }) (u := .slice A2 (f.data.length + b.length) c2) HJ.out (t := 1) (by omega) (by
                    rintro cs ⟨vd, rfl, _, hn⟩
                    exact ⟨_, rfl, hby, hn⟩)
                  refine ⟨rfl, ⟨_, _, RefV.same (k' := k') hput (by rw [HKF.out]; exact HFIN.out.symm) ?_ ?_ ?_ ?_ ?_⟩, ?_⟩
                  all_goals first | (rw [HKF.out, HK2.out]; done) | skip
                  refine Only.new (((HOQ.out.trans (Only.of_below HB2.out)).setCell (p := ⟨g, j * 3 + 1, none⟩) ?_ _))
                  exact orOwn hgD hgb
end Go.Proofs.Ytcmjoaepihbodaa
end
section
namespace Go.Proofs.Ytcmjoaepihbodaa
open Go.RowKit Go.BigFrame
attribute [local go_sem ↓] Go.wp_at_zero Go.wp_at_succ
theorem fr.ints2 {W w' : World} (h : fr W w') {S : Nat → Prop} {v : Value} {zs : List Int} (hv : IntsIn W S v zs) : IntsIn w' S v zs := hv.below h
theorem set_same {α : Type} {l : List α} {i : Nat} {a : α} (h : l[i]? = some a) : l.set i a = l := by
  induction l generalizing i with
  | nil => rfl
  | cons b l ih =>
    cases i with
    | zero => simp at h; subst h; rfl
    | succ i => rw [List.set_cons_succ, ih (by simpa using h)]
theorem byt_cut {w : World} {S : Nat → Prop} {A : Option Addr} {n c m : Nat} {bs : List UInt8} (hva : Byt w S (.slice A n c) bs) (hk : m ≤ bs.length) : Byt w S (.slice A m c) (bs.take m) := by
  obtain ⟨A', c', e, h1, h2, h3, h4⟩ := hva
  injection e with e1 e2 e3
  subst e1 e3
  have hl : (bs.take m).length = m := by rw [List.length_take]; omega
  refine ⟨_, _, by rw [hl], by omega, h2, by omega, by rw [hl]; simp; omega, fun hn => ?_⟩
  obtain ⟨b, o, hA, hS, hb, hc⟩ := h4.2 (by omega)
  refine ⟨b, o, hA, hS, hb, fun j u hu => hc j u ?_⟩
  rw [List.getElem?_map] at hu ⊢
  rw [List.getElem?_take] at hu
  split at hu
  · exact hu
  · cases hu
/-- behind some rounds of Revive. -/
structure RRv (w : World) (base : Nat) (D : Nat → Prop) (r : Nat) (v kv : Value) (k : Pk) (box : Obj) (i m : Nat) (wr : World) : Prop where
  ref : RefV wr base (orNew D w.heap.size) r v kv { k with fs := (revSt k.fs k.keep k.bytes i).1 }
  rest : (revSt k.fs k.keep k.bytes i).2.1 = k.keep.drop m
  le : m ≤ i
  only : Only (orNew (Own D base) w.heap.size) w wr
  box : wr.heap[w.heap.size]? = some box
theorem RefV.rowFz {w : World} {base r : Nat} {D : Nat → Prop} {v kv : Value} {k : Pk} (h : RefV w base D r v kv k) {g : Nat} (hg : v.ownBlock = some g) (i : Nat) : w.frozen? ⟨g, i, none⟩ = false := by
  obtain ⟨cs, hc⟩ := h.row.blk hg
  exact frozen_of_row w g i cs _ hc
section
variable {w wr wq : World} {base r g n c i m : Nat} {D : Nat → Prop} {kv : Value} {k : Pk} {box : Obj} {f : Fl}
theorem RRv.skip (h : RRv w base D r (.slice (some ⟨g, 0, none⟩) n c) kv k box i m wr) (hgw : g < w.heap.size) (hb : Below wr.heap.size wr wq) (hf0 : k.fs[i]? = some f) (hl : f.synced = f.data.length) :
    RRv w base D r (.slice (some ⟨g, 0, none⟩) n c) kv k box (i + 1) m (wq.setCell ⟨g, i * 3 + 2, none⟩ (.int .i64 f.data.length)) := by
  have hlo : f.loose = 0 := by unfold Fl.loose; omega
  have hf := (rev_later k.fs k.keep k.bytes i i (Nat.le_refl _)).trans hf0
  have hs := rev_step (keep := k.keep) (b := k.bytes) hf0
  rw [if_pos hlo] at hs
  have hp := (h.ref.below hb).put (f' := f) (u := .int .i64 f.data.length) hf (t := 2) (by omega) (by
    rintro cs ⟨vd, rfl, h1, h2⟩
    exact ⟨vd, by rw [hl]; rfl, h1, h2⟩)
  simp only [set_same hf] at hp
  have hgD : orNew (Own D base) w.heap.size g := orOwn (h.ref.rowD g rfl) (h.ref.row.lt (g := g) rfl).1
  have hz := h.only.size
  refine ⟨by rw [hs]; exact hp, by rw [hs]; exact h.rest, by have := h.le; omega, (h.only.trans (Only.of_below hb)).setCell (p := ⟨g, i * 3 + 2, none⟩) hgD _, ?_⟩
  rw [heap_setCell_other wq ⟨g, i * 3 + 2, none⟩ _ _ (by simp only; omega), hb.block _ (Array.getElem?_eq_some_iff.1 h.box).1]
  exact h.box
theorem RRv.cut {w2 : World} {s q c2 : Nat} {A : Option Addr} (h : RRv w base D r (.slice (some ⟨g, 0, none⟩) n c) kv k box i m wr) (hgw : g < w.heap.size) (hb : Below wr.heap.size wr w2) (hf0 : k.fs[i]? = some f) (hs0 : f.synced = s) (hne : f.loose ≠ 0)
    (hq : (q : Int) = keptN f (k.keep.drop m)) (hv : Byt w2 (fun j => wr.heap.size ≤ j) (.slice A (s + q) c2) (f.data.take (s + q))) :
    RRv w base D r (.slice (some ⟨g, 0, none⟩) n c) kv k box (i + 1) (m + 1) ((w2.setCell ⟨g, i * 3 + 1, none⟩ (.slice A (s + q) c2)).setCell ⟨g, i * 3 + 2, none⟩ (.int .i64 ((s + q : Nat) : Int))) := by
  have hf := (rev_later k.fs k.keep k.bytes i i (Nat.le_refl _)).trans hf0
  have hs := rev_step (keep := k.keep) (b := k.bytes) hf0
  rw [if_neg hne, h.rest] at hs
  have hgl := (h.ref.row.lt (g := g) rfl)
  have hrl := h.ref.ltR
  have hz := h.only.size
  have hp1 := (h.ref.below hb).put (f' := { f with data := f.data.take (s + q) }) (u := .slice A (s + q) c2) hf (t := 1) (by omega) (by
    rintro cs ⟨vd, rfl, h1, h2⟩
    exact ⟨_, rfl, hv.mono fun i hi => ⟨.inr (by omega), by omega, by omega⟩, h2⟩)
  have hi : i < (revSt k.fs k.keep k.bytes i).1.length := (List.getElem?_eq_some_iff.1 hf).1
  have hf1 : ((revSt k.fs k.keep k.bytes i).1.set i { f with data := f.data.take (s + q) })[i]? = some { f with data := f.data.take (s + q) } := by rw [List.getElem?_set_self hi]
  have hp2 := hp1.put (f' := { f with data := f.data.take (s + q), synced := ((s + q : Nat) : Int) }) (u := .int .i64 ((s + q : Nat) : Int)) hf1 (t := 2) (by omega) (by
    rintro cs ⟨vd, rfl, h1, h2⟩
    exact ⟨vd, rfl, h1, h2⟩)
  simp only [List.set_set] at hp2
  have hcp : cutP f (keptN f (k.keep.drop m)) = { f with data := f.data.take (s + q), synced := ((s + q : Nat) : Int) } := by
    unfold cutP
    rw [← hq, hs0]
    have : ((s : Int) + (q : Int)).toNat = s + q := by omega
    rw [this]
    simp
  rw [hcp] at hs
  have hgD : orNew (Own D base) w.heap.size g := orOwn (h.ref.rowD g rfl) hgl.1
  refine ⟨by rw [hs]; exact hp2, by rw [hs]; show (k.keep.drop m).tail = _; rw [List.tail_drop], by have := h.le; omega, ((h.only.trans (Only.of_below hb)).setCell (p := ⟨g, i * 3 + 1, none⟩) hgD _).setCell (p := ⟨g, i * 3 + 2, none⟩) hgD _, ?_⟩
  rw [heap_setCell_other _ ⟨g, i * 3 + 2, none⟩ _ _ (by simp only; omega), heap_setCell_other w2 ⟨g, i * 3 + 1, none⟩ _ _ (by simp only; omega), hb.block _ (Array.getElem?_eq_some_iff.1 h.box).1]
  exact h.box
end
set_option maxRecDepth 100000 in
set_option maxHeartbeats 8000000 in
theorem rrevive_any (base : Nat) (D : Nat → Prop) (r : Nat) (k : Pk) (S' : Nat → Prop) (ops room : Int) (vk : Value) (zs : List Int) (w : World) (h : RefP w base D r k) (hok : okFs k.fs) (hm : k.fs.length * 48 ≤ 140737488355328) (hd : ∀ f ∈ k.fs, f.data.length ≤ 140737488355328) (hz : IntsIn w S' vk zs) (hlow : ∀ i, S' i → i < base) :
    Calls Try.prog 20 #[.pointer (some ⟨r, 0, none⟩), .agg #[.int .i64 ops, .int .i64 room, vk]] w fun e w' => e = .returned (.tuple #[]) ∧ RefP w' base (orNew (fun i => D i ∨ S' i) w.heap.size) r (reviveK k ops room zs) ∧ Only (Own D base) w w' := by
  obtain ⟨v, kv, h⟩ := h
  obtain ⟨Az, cz, rfl, _⟩ := id hz
  obtain ⟨n, hn⟩ : ∃ n, k.fs.length = n := ⟨_, rfl⟩
  have hmax : n * 48 ≤ 140737488355328 := by rw [← hn]; exact hm
  obtain ⟨W0, hW0⟩ : ∃ W0, W0 = w.alloc (.cells #[.int .i64 ops, .int .i64 room, .slice Az zs.length cz] 25) := ⟨_, rfl⟩
  have hb0 : Below w.heap.size w W0 := by rw [hW0]; exact (Below.refl _ _).alloc (Nat.le_refl _) _
  have hx0 : W0.heap[w.heap.size]? = some (.cells #[.int .i64 ops, .int .i64 room, .slice Az zs.length cz] 25 (0, 0)) := by rw [hW0]; exact heap_alloc_new w _
  have hr0 : RRv w base D r v kv k (.cells #[.int .i64 ops, .int .i64 room, .slice Az zs.length cz] 25 (0, 0)) 0 0 W0 :=
    ⟨(h.below hb0).mono fun i _ hi => .inl hi, rfl, Nat.le_refl _, Only.of_below hb0, hx0⟩
  obtain ⟨Av, cv, rfl⟩ := h.row.form
  obtain ⟨Ak, ck, rfl, _⟩ := id h.keep
  obtain ⟨c0, _⟩ := (h.below hb0).cell
  obtain ⟨kl, hkl⟩ : ∃ kl, k.keep.length = kl := ⟨_, rfl⟩
  have hkl' : kl ≤ 140737488355328 := by obtain ⟨_, _, _, _, h2, _⟩ := h.keep; rw [← hkl]; exact h2
  rw [hkl] at hr0 h
  rw [hn] at hr0 c0 h
  have H := Lib.hid h
  have HKL := Lib.hid hkl
  have HN := Lib.hid hn
  have HR0 := Lib.hid hr0
  have HOK := Lib.hid hok
  have HDL := Lib.hid hd
  have HZ := Lib.hid hz
  clear h hn hz hb0 hx0 hr0 hok hd hkl
  go_enter Try.func20, Try.ntmps20
  go_upto_region 1 with (fail)
  rw [← hW0]
  clear hW0
  go_wp2
  go_loopw [4, 14] (fun a t wr => ∃ i m : Nat, i ≤ n ∧ t = .int .i64 i ∧ a = .int .i64 m ∧ RRv w base D r (.slice Av n cv) (.slice Ak kl ck) k (.cells #[.int .i64 ops, .int .i64 room, .slice Az zs.length cz] 25 (0, 0)) i m wr) (fun _ t _ => n - (intOf t).toNat)
  case atStart => exact ⟨0, 0, Nat.zero_le _, rfl, rfl, HR0.out⟩
  case round =>
    obtain ⟨i, m, hi, rfl, rfl, hinv⟩ := hrel
    have HI := Lib.hid hinv
    have hmi := hinv.le
    clear hinv
    by_cases hin : i < n
    · obtain ⟨f, hf0⟩ : ∃ f, k.fs[i]? = some f := ⟨_, List.getElem?_eq_getElem (by rw [HN.out]; exact hin)⟩
      have hf : (revSt k.fs k.keep k.bytes i).1[i]? = some f := (rev_later k.fs k.keep k.bytes i i (Nat.le_refl _)).trans hf0
      obtain ⟨g, c', Af, df, hVe, hgl, hgb, hgD, hgr, hbyt, hnl, x0, x1, x2, xf⟩ := RefV.file HI.out.ref (by show (revSt _ _ _ _).1.length * 48 ≤ _; rw [rev_len]; exact hm) hf
      have hokf := HOK.out f (List.mem_of_getElem? hf0)
      have hlen := HDL.out f (List.mem_of_getElem? hf0)
      have hrs := rev_step (keep := k.keep) (b := k.bytes) hf0
      obtain ⟨fn, fd, fs⟩ := f
      simp only at x0 x1 x2 hbyt hokf hlen hnl
      obtain ⟨s, rfl⟩ : ∃ s : Nat, fs = s := ⟨fs.toNat, by have := hokf.1; omega⟩
      have hsl : s ≤ fd.length := by have := hokf.2; omega
      obtain ⟨y0, _, _, y3, _⟩ := HI.out.ref.cell
      have hE : (revSt k.fs k.keep k.bytes i).1.length = n := by rw [rev_len]; exact HN.out
      simp only at hVe
      rw [hE] at hVe
      cases hVe
      have hgw : g < w.heap.size := (H.out.row.lt (g := g) rfl).2
      have HRS := Lib.hid hrs
      have HF0 := Lib.hid hf0
      have HBYT := Lib.hid hbyt
      have HV := Lib.hid HI.out.ref
      have HKP : Hid (IntsIn wr _ (.slice Ak kl ck) k.keep) := Lib.hid HI.out.ref.keep
      have X1 : ∀ q : Ext wr, q.w.cell? { block := g, off := i * 3 + 1 } = _ := fun q => q.h.cell x1
      have X2 : ∀ q : Ext wr, q.w.cell? { block := g, off := i * 3 + 2 } = _ := fun q => q.h.cell x2
      clear hrs hf hf0 hbyt hokf hE
      by_cases hu : s = fd.length
      · subst hu
        have g0 : decide ((0 : Int) < (fd.length : Int) - fd.length) = false := decide_eq_false (by omega)
        go_upto_region 6 with (fail)
        (refine wp_region_quiet_ext (by kernel_rfl) (by kernel_rfl) ?_; (repeat (go_big_quiet_step (fail))); refine wpQuiet_nil ?_; intro wq hw'; obtain ⟨⟨_, hq⟩, hw''⟩ := hw'; subst hw'')
        have z1 := fr.cell hq x1
        have z2 := fr.cell hq x2
        have hvq := HV.out.below hq
        have zf := hvq.rowFz (g := g) rfl
        clear hvq
        go_wp2
        exact ⟨⟨i + 1, m, by omega, by go_num, rfl, HI.out.skip hgw hq HF0.out rfl⟩, by simp [intOf]; omega⟩
      · have HU := Lib.hid hu
        have g0 : decide ((0 : Int) < (fd.length : Int) - s) = true := decide_eq_true (by omega)
        go_upto_region 6 with (fail)
        (refine wp_region_quiet_ext (by kernel_rfl) (by kernel_rfl) ?_; (repeat (go_big_quiet_step (fail))); refine wpQuiet_nil ?_; intro wq hw'; obtain ⟨⟨_, hq⟩, hw''⟩ := hw'; subst hw'')
        have y3q := fr.cell hq y3
        have HKQ := Lib.hid (fr.ints2 hq HKP.out)
        go_upto_if 42 with (fail)
        go_cut [8] (fun t wc => ∃ q : Nat, t = .int .i64 q ∧ (q : Int) = keptN ⟨fn, fd, s⟩ (k.keep.drop m) ∧ wc = wq)
        case first =>
          by_cases hmk : m < kl
          · obtain ⟨z, hz⟩ : ∃ z, k.keep[m]? = some z := ⟨_, List.getElem?_eq_getElem (by rw [HKL.out]; exact hmk)⟩
            have hdrop := drop_cons hz
            obtain ⟨gk, ok, hAk, zc⟩ : ∃ g o, Ak = some ⟨g, o, none⟩ ∧ wq.cell? ⟨g, o + m, none⟩ = some (.int .i64 z) := by
              obtain ⟨A, c', hE, h1, h2, h3⟩ := HKQ.out
              injection hE with e1 e2 e3
              subst e1
              obtain ⟨g', o', e1, _, _, e4⟩ := h3.2 (by rw [HKL.out]; omega)
              exact ⟨g', o', e1, e4 m _ (by rw [List.getElem?_map, hz]; rfl)⟩
            subst hAk
            have hmm : 0 < (fd.length : Int) - s + 1 := by omega
            have hmm' : (fd.length : Int) - s + 1 ≤ 140737488355329 := by omega
            have HMM := Lib.hid (And.intro hmm hmm')
            clear hmm hmm'
            have hK : keptN ⟨fn, fd, s⟩ (k.keep.drop m) = modP z ((fd.length : Int) - s + 1) := by rw [hdrop]; rfl
            have HKK := Lib.hid hK
            have hT : ((modP z ((fd.length : Int) - s + 1)).toNat : Int) = modP z ((fd.length : Int) - s + 1) := Int.toNat_of_nonneg (modP_range HMM.out.1).1
            have HTT := Lib.hid hT
            clear hK hT hdrop hz
            by_cases hneg : z.tmod ((fd.length : Int) - s + 1) < 0
            · have hw := Lib.hid (modP_neg HMM.out.1 HMM.out.2 hneg)
              go_wp2_with fail
              go_meet
              case rel => exact ⟨(modP z ((fd.length : Int) - s + 1)).toNat, by rw [hw.out, HTT.out], by rw [HTT.out, HKK.out], rfl⟩
            · have hw := Lib.hid (modP_pos hneg)
              go_wp2_with fail
              go_meet
              case rel => exact ⟨(modP z ((fd.length : Int) - s + 1)).toNat, by rw [hw.out, HTT.out], by rw [HTT.out, HKK.out], rfl⟩
          · have hd0 : k.keep.drop m = [] := List.drop_of_length_le (by rw [HKL.out]; omega)
            have HD0 := Lib.hid hd0
            clear hd0
            go_wp2_with fail
            go_meet
            case rel => exact ⟨0, rfl, by rw [HD0.out]; rfl, rfl⟩
        case rest =>
          obtain ⟨q, rfl, hqk, hwc⟩ := hcut
          obtain rfl : wq = wc := hwc.symm
          have hkr := kept_range (f := ⟨fn, fd, s⟩) (by simp only; omega) (k.keep.drop m)
          rw [← hqk] at hkr
          have hsq : s + q ≤ fd.length := by have h1 := hkr.2; have e : Fl.loose ⟨fn, fd, s⟩ = (fd.length : Int) - s := rfl; rw [e] at h1; omega
          have z1 := fr.cell hq x1
          have z2 := fr.cell hq x2
          have n0 := World.new_ne wq _ z1
          simp only at n0
          have m0 : g < wq.heap.size := World.block_lt_of_cell? wq _ z1
          have HQK := Lib.hid hqk
          have hdf : fd.length ≤ df := by obtain ⟨_, _, e, h, _⟩ := HBYT.out; injection e with _ _ e; omega
          have HBQ := Lib.hid (byt_cut (HBYT.out.below hq) hsq)
          have hzf := (HV.out.below hq).rowFz (g := g) rfl
          have ZF := Lib.hid fun (W : World) (hb : Below wq.heap.size wq W) => ((HV.out.below hq).below hb).rowFz (g := g) rfl
          clear hqk hkr
          have hlt : (fd.take (s + q)).length = s + q := by rw [List.length_take]; omega
          have hne : Fl.loose ⟨fn, fd, s⟩ ≠ 0 := by show (fd.length : Int) - s ≠ 0; omega
          have hwr : IntKind.i64.wrap ((s : Int) + q) = s + q := by rw [IntKind.wrap_i64]; omega
          have hcd : 0 ≤ (s : Int) + q ∧ (s : Int) + q ≤ df := ⟨by omega, by omega⟩
          have HNE := Lib.hid hne
          have HLT := Lib.hid hlt
          clear hne hlt
          go_upto_region 13 with (fail)
          clear X1 X2 y0 y3 y3q x0 x1 x2 hm hkl'
          go_region_law (first
            | (refine step_append_byt0L (by rfl) _ _ (by rfl) wq.heap.size (.slice Af (s + q) df) (by rfl) (by rfl) _ (fd.take (s + q)) (fr.byt (fr.alloc (fr.drew fr.refl) _) HBQ.out) ?_; intro v5 w2 hv5 hb2; have hf2 := fr.step (fr.alloc (fr.drew fr.refl) _) hb2; have u1 := fr.cell hf2 z1; have u2 := fr.cell hf2 z2; have uz := ZF.out w2 hf2; obtain ⟨A5, c5, hv5e⟩ := slice_form hv5.byt; rw [HLT.out] at hv5e; subst hv5e; have HF2 := Lib.hid hf2; have HV5 := Lib.hid hv5.byt; clear hv5 hb2))
          all_goals
            go_wp2
            have hcut := HI.out.cut hgw (fr.step hq HF2.out) HF0.out rfl HNE.out HQK.out (HV5.out.mono fun j hj => by have := Below.size hq; simp only [World.size_alloc, World.drew] at hj; omega)
            refine ⟨⟨i + 1, m + 1, by omega, by go_num, by go_num, ?_⟩, by simp [intOf]; omega⟩
            first
              | exact hcut
              | (rw [Int.natCast_add] at hcut; exact hcut)
    · obtain rfl : i = n := by omega
      have hri := HI.out.ref
      have HRI := Lib.hid hri
      obtain ⟨y0, y1, y2, y3, y4, y5⟩ := hri.cell
      have yf := hri.frozen
      have hbx := HI.out.box
      have b0 : wr.cell? ⟨w.heap.size, 0, none⟩ = some (.int .i64 ops) := cell_of_row wr w.heap.size 0 _ _ _ hbx
      have b1 : wr.cell? ⟨w.heap.size, 1, none⟩ = some (.int .i64 room) := cell_of_row wr w.heap.size 1 _ _ _ hbx
      have b2 : wr.cell? ⟨w.heap.size, 2, none⟩ = some (.slice Az zs.length cz) := cell_of_row wr w.heap.size 2 _ _ _ hbx
      have HON := Lib.hid HI.out.only
      clear hri hbx
      go_wp2
      refine bodyPost_end (v := .tuple #[]) (by simp [results, Try.results20, go_sem]) rfl ?_
      have hlo := H.out.lo
      have hR0 := HRI.out.mono (D' := orNew (fun i => D i ∨ S' i) w.heap.size) fun j _ hj => hj.imp (fun h => .inl h) id
      have hR1 := hR0.stay (k' := { k with fs := (revSt k.fs k.keep k.bytes i).1, ops := ops }) 1 (.int .i64 ops) rfl rfl rfl
      have hR2 := hR1.stay (k' := { k with fs := (revSt k.fs k.keep k.bytes i).1, ops := ops, room := room }) 2 (.int .i64 room) rfl rfl rfl
      have hrD : orNew (Own D base) w.heap.size r := .inl ⟨H.out.inD, hlo⟩
      have ho2 := (HON.out.setCell (p := ⟨r, 1, none⟩) hrD (.int .i64 ops)).setCell (p := ⟨r, 2, none⟩) hrD (.int .i64 room)
      have hzk := (HZ.out.keepR (S' := S') (w' := (wr.setCell ⟨r, 1, none⟩ (.int .i64 ops)).setCell ⟨r, 2, none⟩ (.int .i64 room)) fun _ _ _ _ hr => hr.keep ho2.size fun j hj hs => ho2.block j hj fun h => by
        have := hlow j hs
        rcases h with h | h
        · have := h.2; omega
        · omega)
      have hR3 := hR2.store (v' := .slice Av i cv) (kv' := .slice Az zs.length cz) (k' := { k with fs := (revSt k.fs k.keep k.bytes i).1, ops := ops, room := room, keep := zs }) hR2.inD 3 (.slice Az zs.length cz) hR2.row
        (hzk.mono fun j hs => ⟨.inl (.inr hs), by have := hlow j hs; omega, fun e => by have := (H.out.row.lt e).1; have := hlow j hs; omega⟩) hR2.rowD rfl
      have hR4 := hR3.stay (k' := { k with fs := (revSt k.fs k.keep k.bytes i).1, ops := ops, room := room, keep := zs, done := 0 }) 4 (.int .i64 0) rfl rfl rfl
      have hR5 := hR4.stay (k' := { k with fs := (revSt k.fs k.keep k.bytes i).1, ops := ops, room := room, keep := zs, done := 0, down := false }) 5 (.bool false) rfl rfl rfl
      refine ⟨rfl, ⟨_, _, RefV.same (k' := reviveK k ops room zs) hR5 (by show (revSt _ _ _ k.fs.length).1 = (revSt _ _ _ i).1; rw [HN.out]) rfl rfl rfl rfl rfl⟩, ?_⟩
      exact Only.new (((ho2.setCell (p := ⟨r, 3, none⟩) hrD _).setCell (p := ⟨r, 4, none⟩) hrD _).setCell (p := ⟨r, 5, none⟩) hrD _)
end Go.Proofs.Ytcmjoaepihbodaa
end
