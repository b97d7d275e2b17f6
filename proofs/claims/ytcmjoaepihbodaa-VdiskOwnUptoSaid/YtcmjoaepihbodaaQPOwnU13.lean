/-
ref07's List, SameTexts.
-/
import Derived.Test.YtcmjoaepihbodaaQPOwnU12
import Derived.Deep.AppendLies
section
namespace Go.Proofs.Ytcmjoaepihbodaa
open Go.RowKit Go.BigFrame
attribute [local go_sem ↓] Go.wp_at_zero Go.wp_at_succ
theorem ready_at {k : Pk} {x : Nm} {l : List Nm} (h : readyE k (x :: l) = 0) : ∃ i f, idxP x k.fs = some i ∧ idxI x k.fs = (i : Int) ∧ findP x k.fs = some f ∧ k.fs[i]? = some f ∧ f.name = x := by
  rcases idxP_find (x := x) (fs := k.fs) with ⟨h1, h2⟩ | ⟨i, f, h1, h2, h3, h4⟩
  · exfalso
    unfold readyE at h
    split at h
    · cases h
    · split at h
      · cases h
      · simp [h2] at h
  · exact ⟨i, f, h1, by unfold idxI; rw [h1], h2, h3, h4⟩
theorem nm97 : ([97] : Nm).length ≤ 140737488355328 := by decide
set_option maxRecDepth 100000 in
set_option maxHeartbeats 4000000 in
theorem rsync_any (base : Nat) (D : Nat → Prop) (r : Nat) (k : Pk) (x : Nm) (w : World) (h : RefP w base D r k) (hx : x.length ≤ 140737488355328) (hs : sortedP k.fs) (hm : k.fs.length * 48 ≤ 140737488355328) (hd0 : 0 ≤ k.done) (hd1 : k.done < 4611686018427387904) :
    Calls Try.prog 40 #[.pointer (some ⟨r, 0, none⟩), .string ⟨x.toArray⟩] w fun e w' => e = .returned (.int .i64 (syncE k x)) ∧ RefP w' base D r (syncK k x) ∧ Only (Own D base) w w' := by
  obtain ⟨v, kv, h⟩ := h
  have HNM := Lib.hid (rnamed_any base D r v kv k x [97] w h hm hx nm97)
  rw [readyE_a] at HNM
  have HC := Lib.hid (rchange_any base D r v kv k w h hd0 hd1)
  have H := Lib.hid h
  have hrD : Own D base r := ⟨h.inD, h.lo⟩
  have HRD := Lib.hid hrD
  obtain ⟨e0, he⟩ : ∃ e, syncE k x = e := ⟨_, rfl⟩
  obtain ⟨k', hk'⟩ : ∃ k', syncK k x = k' := ⟨_, rfl⟩
  rw [he, hk']
  unfold syncE at he
  unfold syncK at hk'
  obtain ⟨e, hre⟩ : ∃ e, readyE k [x] = e := ⟨_, rfl⟩
  rw [hre] at HNM he hk'
  clear h hrD
  by_cases h0 : e = 0
  · subst h0
    rw [if_pos rfl] at he hk'
    cases hcr : crashes k with
    | true =>
      have hce : changeE k = 20 := by rw [changeE, hcr]; rfl
      rw [hce] at HC he
      rw [hcr, if_pos rfl] at hk'
      subst he hk'
      clear hcr hce hre
      go_enter Try.func40, Try.ntmps40
      go_wp2_with (first
        | (go_at_call 54; refine HNM.out.mono ?_; rintro r1 w1 ⟨rfl, rfl⟩)
        | (go_at_call 39; refine HC.out.mono ?_; rintro r1 w1 ⟨rfl, hv1, ho1⟩))
      refine bodyPost_ret (v := .int .i64 20) (by simp [results, Try.results40, go_sem]) rfl ?_
      exact ⟨rfl, ⟨_, _, hv1⟩, ho1.mono fun i hi => by rw [hi]; exact HRD.out⟩
    | false =>
      have hce : changeE k = 0 := by rw [changeE, hcr]; rfl
      rw [hce] at HC he
      rw [hcr, if_neg (by simp)] at hk'
      subst he
      have hcf : (changeK k).fs = k.fs := (change_same k).1
      obtain ⟨j, f, hj1, hj2, hj3, hj4, hj5⟩ := ready_at hre
      have hup : updP x (fun f => { f with synced := f.data.length }) k.fs = k.fs.set j { f with synced := f.data.length } := by rw [← hj5]; exact updP_set (sorted_ne hs) hj4 _
      unfold updK at hk'
      rw [hcf, hup] at hk'
      obtain ⟨k1, hk1⟩ : ∃ k1, changeK k = k1 := ⟨_, rfl⟩
      rw [hk1] at HC hcf hk'
      rw [← hcf] at hj4 hj2 hk' hm
      have HJ := Lib.hid hj4
      have HI := Lib.hid hj2
      have HK := Lib.hid hk'
      clear hcr hce hre hup hk1 hj1 hj2 hj3 hj4 hj5 hcf hk'
      go_enter Try.func40, Try.ntmps40
      go_upto_region 5 with (first
        | (go_at_call 54; refine HNM.out.mono ?_; rintro r1 w1 ⟨rfl, rfl⟩)
        | (go_at_call 39; refine HC.out.mono ?_; rintro r1 w1 ⟨rfl, hv1, ho1⟩; have HV1 := Lib.hid hv1; have HO1 := Lib.hid ho1; clear hv1 ho1))
      obtain ⟨g, cg, Af, df, hVe, hgl, hgb, hgD, hgr, hbyt, hfnl, x0, x1, x2, xf⟩ := RefV.file HV1.out hm HJ.out
      subst hVe
      obtain ⟨y0, _⟩ := HV1.out.cell
      have F0 : ∀ q : Ext w1, q.w.cell? { block := r, off := 0 } = _ := fun q => q.h.cell y0
      have CS : ∀ q : Ext w1, Calls Try.prog 37 #[.pointer (some ⟨r, 0, none⟩), .string ⟨x.toArray⟩] q.w fun e w'' => e = .returned (.int .i64 (j : Int)) ∧ ∃ q' : Ext w1, w'' = q'.w := fun q => (find_any _ r _ k1.fs x q.w (q.h.cell y0) ((HV1.out.files hm).below flFine q.h)).mono fun e w'' h => ⟨by rw [h.1, HI.out], q, h.2.symm⟩
      have jn : j < k1.fs.length := (List.getElem?_eq_some_iff.1 HJ.out).1
      clear hbyt x0
      (refine wp_region_quiet_ext (by kernel_rfl) (by kernel_rfl) ?_; (repeat (go_big_quiet_step ((go_at_call 37; exact CS _)))); refine wpQuiet_nil ?_; intro wq hw'; obtain ⟨⟨_, hq⟩, hw''⟩ := hw'; subst hw'')
      have z1 := fr.cell hq x1
      have z2 := fr.cell hq x2
      have zf : ∀ i, wq.frozen? ⟨g, i, none⟩ = false := by
        obtain ⟨_, _, _, _, e2, _, _, _, _, _, _, _, _, _, wf⟩ := RefV.file (HV1.out.below hq) hm HJ.out
        cases e2
        exact wf
      have HVQ := Lib.hid (HV1.out.below hq)
      clear x1 x2 F0 CS
      go_wp2
      refine bodyPost_ret (v := .int .i64 0) (by simp [results, Try.results40, go_sem]) rfl ?_
      have hput := HVQ.out.put (f' := { f with synced := f.data.length }) (u := .int .i64 f.data.length) HJ.out (t := 2) (by omega) (by
        rintro cs ⟨vd, rfl, h1, hn⟩
        exact ⟨vd, rfl, h1, hn⟩)
      refine ⟨rfl, ⟨_, _, RefV.same (k' := k') hput (by rw [HK.out]) ?_ ?_ ?_ ?_ ?_⟩, ?_⟩
      all_goals first | (rw [HK.out]; done) | skip
      exact ((HO1.out.mono fun i hi => by rw [hi]; exact HRD.out).trans (Only.of_below hq)).setCell (p := ⟨g, j * 3 + 2, none⟩) ⟨hgD, hgb⟩ _
  · rw [if_neg h0] at he hk'
    subst he hk'
    have hne : (e == 0) = false := by simpa using h0
    clear hre h0
    go_enter Try.func40, Try.ntmps40
    go_wp2_with (go_at_call 54; refine HNM.out.mono ?_; rintro r1 w1 ⟨rfl, rfl⟩)
    refine bodyPost_ret (v := .int .i64 e) (by simp [results, Try.results40, go_sem]) rfl ?_
    exact ⟨rfl, ⟨_, _, H.out⟩, Only.refl _ _⟩
set_option maxRecDepth 100000 in
set_option maxHeartbeats 4000000 in
theorem rread_any (base : Nat) (D : Nat → Prop) (r : Nat) (k : Pk) (x : Nm) (w : World) (h : RefP w base D r k) (hx : x.length ≤ 140737488355328) (hm : k.fs.length * 48 ≤ 140737488355328) :
    Calls Try.prog 43 #[.pointer (some ⟨r, 0, none⟩), .string ⟨x.toArray⟩] w fun e w' => ∃ v, e = .returned (.tuple #[v, .int .i64 (readyE k [x])]) ∧ BytL w' w.heap.size v (if readyE k [x] = 0 then readD k x else []) ∧ Below w.heap.size w w' := by
  obtain ⟨v, kv, h⟩ := h
  have HNM := Lib.hid (rnamed_any base D r v kv k x [97] w h hm hx nm97)
  rw [readyE_a] at HNM
  obtain ⟨e, hre⟩ : ∃ e, readyE k [x] = e := ⟨_, rfl⟩
  rw [hre] at HNM ⊢
  have H := Lib.hid h
  clear h
  by_cases h0 : e = 0
  · subst h0
    obtain ⟨j, f, hj1, hj2, hj3, hj4, hj5⟩ := ready_at hre
    have hrd : readD k x = f.data := by unfold readD; rw [hj3]
    rw [if_pos rfl, hrd]
    have HI := Lib.hid hj2
    have HJ := Lib.hid hj4
    clear hre hj1 hj2 hj3 hj4 hj5 hrd
    obtain ⟨g, cg, Af, df, hVe, hgl, hgb, hgD, hgr, hbyt, hfnl, x0, x1, x2, xf⟩ := RefV.file H.out hm HJ.out
    subst hVe
    obtain ⟨y0, _⟩ := H.out.cell
    have jn : j < k.fs.length := (List.getElem?_eq_some_iff.1 HJ.out).1
    have HBY := Lib.hid hbyt
    have HFI := Lib.hid (H.out.files hm)
    clear hbyt x0 x2 xf
    go_enter Try.func43, Try.ntmps43
    go_upto_region 4 with (go_at_call 54; refine HNM.out.mono ?_; rintro r1 w1 ⟨rfl, rfl⟩)
    have hf0 : fr w w.drew := fr.refl.drew
    have hfa : fr w (w.alloc (.cells #[] 5)).drew := (fr.refl.alloc _).drew
    have HF1 := Lib.hid (find_any (fun i => D i ∧ i ≠ r) r _ k.fs x w.drew (hf0.cell y0) (HFI.out.below flFine hf0))
    have HF2 := Lib.hid (find_any (fun i => D i ∧ i ≠ r) r _ k.fs x (w.alloc (.cells #[] 5)).drew (hfa.cell y0) (HFI.out.below flFine hfa))
    rw [HI.out] at HF1 HF2
    have n1 := World.new_ne w _ y0
    have n2 := World.new_ne w _ x1
    simp only at n1 n2
    have m1 : r < w.heap.size := World.block_lt_of_cell? w _ y0
    have m2 : g < w.heap.size := World.block_lt_of_cell? w _ x1
    go_region_law (first
      | (refine step_append_byt0L (by rfl) _ _ (by rfl) w.heap.size (.slice Af f.data.length df) (by rfl) (by rfl) (fun i => D i ∧ i ≠ r ∧ g ≠ i) f.data (fr.byt hfa HBY.out) ?_; intro v5 w2 hv5 hb2; have hf2 := fr.step hfa hb2)
      | (go_simp; go_at_call 37; (with_reducible (refine HF1.out.mono ?_)); rintro e w'' ⟨rfl, rfl⟩)
      | (go_simp; go_at_call 37; (with_reducible (refine HF2.out.mono ?_)); rintro e w'' ⟨rfl, rfl⟩))
    all_goals
      go_wp2
      refine bodyPost_ret (v := .tuple #[v5, .int .i64 0]) (by simp [results, Try.results43, go_sem]) rfl ?_
      exact ⟨_, rfl, hv5.mono (by simp), hf2⟩
  · rw [if_neg h0]
    have hne : (e != 0) = true := by simpa using h0
    have hne' : (e == 0) = false := by simpa using h0
    clear hre h0
    go_enter Try.func43, Try.ntmps43
    go_wp2_with (go_at_call 54; refine HNM.out.mono ?_; rintro r1 w1 ⟨rfl, rfl⟩)
    refine bodyPost_ret (v := .tuple #[.slice none 0 0, .int .i64 e]) (by simp [results, Try.results43, go_sem]) rfl ?_
    exact ⟨_, rfl, BytL.nil _ _, Below.refl _ _⟩
end Go.Proofs.Ytcmjoaepihbodaa
end
section
namespace Go.Proofs.Ytcmjoaepihbodaa
open Go.RowKit Go.BigFrame Go.Sort
attribute [local go_sem ↓] Go.wp_at_zero Go.wp_at_succ
theorem er_skip {l : List Fl} {i : Nat} {g : Fl} (h : l[i]? = some g) : (l.take (i + 1)).eraseIdx i = (l.take i).eraseIdx i := by
  have hl := (List.getElem?_eq_some_iff.1 h).1
  have hli : (l.take i).length = i := by rw [List.length_take]; omega
  rw [take_snoc h, List.eraseIdx_append_of_length_le (by omega), hli, Nat.sub_self, List.eraseIdx_cons_zero, List.append_nil, List.eraseIdx_of_length_le (by omega)]
theorem er_push {l : List Fl} {i k : Nat} {g : Fl} (h : l[i]? = some g) (hk : i ≠ k) : (l.take (i + 1)).eraseIdx k = (l.take i).eraseIdx k ++ [g] := by
  have hl := (List.getElem?_eq_some_iff.1 h).1
  have hli : (l.take i).length = i := by rw [List.length_take]; omega
  rw [take_snoc h]
  rcases Nat.lt_or_ge k i with hlt | hge
  · rw [List.eraseIdx_append_of_lt_length (by omega)]
  · rw [List.eraseIdx_of_length_le (by rw [List.length_append, List.length_singleton]; omega), List.eraseIdx_of_length_le (by omega)]
theorem er_len (l : List Fl) (i k : Nat) : ((l.take i).eraseIdx k).length ≤ i := by
  have h1 : ((l.take i).eraseIdx k).length ≤ (l.take i).length := by
    rw [List.length_eraseIdx]
    split <;> omega
  rw [List.length_take] at h1
  omega
set_option maxRecDepth 100000 in
set_option maxHeartbeats 4000000 in
theorem without_any (S : Nat → Prop) (v : Value) (fs : List Fl) (k : Nat) (w : World) (hv : FilesV w S v fs) :
    Calls Try.prog 55 #[v, .int .i64 k] w fun r w' => ∃ v', r = .returned v' ∧ RowF w' w.heap.size (fun i => S i ∧ i < w.heap.size) v' (fs.eraseIdx k) ∧ Below w.heap.size w w' := by
  obtain ⟨Av, cv, rfl⟩ := hv.form
  obtain ⟨n, hn⟩ : ∃ n, fs.length = n := ⟨_, rfl⟩
  have hmax : n * 48 ≤ 140737488355328 := by obtain ⟨_, _, _, _, _, _, h3, _⟩ := hv; rw [← hn]; exact h3
  obtain ⟨E, hE⟩ : ∃ E : Nat → Prop, E = fun i => S i ∧ i < w.heap.size := ⟨_, rfl⟩
  have hvE : FilesV w E (.slice Av fs.length cv) fs := hv.keep flFine fun _ _ _ _ hr => hr.monoLt fun i hi hs => by rw [hE]; exact ⟨hs, hi⟩
  have hEb : ∀ i, E i → i < w.heap.size := fun i hi => by rw [hE] at hi; exact hi.2
  rw [hn] at hvE ⊢
  have HN := Lib.hid hn
  have HE := Lib.hid hE
  have HEB := Lib.hid hEb
  have HV := Lib.hid hvE
  clear hn hE hEb hv hvE
  go_enter Try.func55, Try.ntmps55
  go_wp2
  go_loopw [5, 9] (fun v5 t wr => ∃ i : Nat, i ≤ n ∧ t = .int .i64 i ∧ RowF wr w.heap.size E v5 ((fs.take i).eraseIdx k) ∧ Below w.heap.size w wr) (fun _ t _ => n - (intOf t).toNat)
  case atStart => exact ⟨0, Nat.zero_le _, rfl, RowF.nil _ _ _, Below.refl _ _⟩
  case round =>
    obtain ⟨i, hi, rfl, hrow, hbel⟩ := hrel
    have HR := Lib.hid hrow
    have HB := Lib.hid hbel
    have hz0 : w.heap.size ≤ wr.heap.size := hbel.size
    clear hrow hbel
    by_cases hin : i < n
    · obtain ⟨g, hg⟩ : ∃ g, fs[i]? = some g := ⟨_, List.getElem?_eq_getElem (by rw [HN.out]; exact hin)⟩
      by_cases hik : i = k
      · subst hik
        have he := er_skip hg
        have HS := Lib.hid he
        clear he hg
        go_wp2
        exact ⟨⟨i + 1, by omega, by go_num, by rw [HS.out]; exact HR.out, HB.out⟩, by simp [intOf]; omega⟩
      · have he := er_push hg hik
        have HS := Lib.hid he
        have hll : ((fs.take i).eraseIdx k).length + 1 ≤ n := by have := er_len fs i k; omega
        have hl48 : (((fs.take i).eraseIdx k).length + 1) * 48 ≤ 140737488355328 := Nat.le_trans (Nat.mul_le_mul_right 48 hll) hmax
        obtain ⟨os, hos⟩ : ∃ os, (fs.take i).eraseIdx k = os := ⟨_, rfl⟩
        rw [hos] at HR HS hl48
        have g1 : ((i : Int) != k) = true := by simp; omega
        obtain ⟨b0, o0, cs, rfl, _, _, ⟨vd, rfl, hvd, hgn⟩, hc⟩ := Rows.at_ flFine (HV.out.below flFine HB.out) hg
        obtain ⟨Ag, cg, rfl⟩ := slice_form hvd
        have c0 : wr.cell? ⟨b0, o0 + i * 3, none⟩ = _ := hc 0 _ rfl
        have c1 : wr.cell? ⟨b0, o0 + i * 3 + 1, none⟩ = _ := hc 1 _ rfl
        have c2 : wr.cell? ⟨b0, o0 + i * 3 + 2, none⟩ = _ := hc 2 _ rfl
        have HG := Lib.hid (show flR wr E g [.string ⟨g.name.toArray⟩, .slice Ag g.data.length cg, .int .i64 g.synced] from ⟨_, rfl, hvd, hgn⟩)
        clear he hg hvd hc hos hll
        go_wp2_with (at_builtin; refine wpList_push_fl (by rfl) _ _ (by rfl) w.heap.size E _ os (by rfl) (HR.out.alloc _) wr.heap.size g Ag cg (by rfl) (heap_alloc_new wr _) (HG.out.alloc _) HEB.out hl48 (le_alloc hz0 _) ?_; intro v' w9 hrow9 hgrow9; have HR9 := Lib.hid hrow9; have HB9 := Lib.hid (RowF.grow (HR.out.alloc _) (HB.out.alloc hz0 _) (le_alloc hz0 _) hgrow9); clear hrow9 hgrow9)
        exact ⟨⟨i + 1, by omega, by go_num, by rw [HS.out]; exact HR9.out, HB9.out⟩, by simp [intOf]; omega⟩
    · obtain rfl : i = n := by omega
      go_wp2
      refine bodyPost_ret (v := u5) (by simp [results, Try.results55, go_sem]) rfl ?_
      refine ⟨u5, rfl, ?_, HB.out⟩
      have := HR.out
      rw [List.take_of_length_le (by rw [HN.out]; exact Nat.le_refl _), HE.out] at this
      exact this
set_option maxRecDepth 100000 in
set_option maxHeartbeats 4000000 in
theorem rdelete_any (base : Nat) (D : Nat → Prop) (r : Nat) (k : Pk) (x : Nm) (w : World) (h : RefP w base D r k) (hx : x.length ≤ 140737488355328) (hs : sortedP k.fs) (hm : k.fs.length * 48 ≤ 140737488355328) (hd0 : 0 ≤ k.done) (hd1 : k.done < 4611686018427387904) :
    Calls Try.prog 42 #[.pointer (some ⟨r, 0, none⟩), .string ⟨x.toArray⟩] w fun e w' => e = .returned (.int .i64 (syncE k x)) ∧ RefP w' base (orNew D w.heap.size) r (deleteK k x) ∧ Only (Own D base) w w' := by
  obtain ⟨v, kv, h⟩ := h
  have HNM := Lib.hid (rnamed_any base D r v kv k x [97] w h hm hx nm97)
  rw [readyE_a] at HNM
  have HC := Lib.hid (rchange_any base D r v kv k w h hd0 hd1)
  have H := Lib.hid h
  have hrD : Own D base r := ⟨h.inD, h.lo⟩
  have HRD := Lib.hid hrD
  obtain ⟨e0, he⟩ : ∃ e, syncE k x = e := ⟨_, rfl⟩
  obtain ⟨k', hk'⟩ : ∃ k', deleteK k x = k' := ⟨_, rfl⟩
  rw [he, hk']
  unfold syncE at he
  unfold deleteK at hk'
  obtain ⟨e, hre⟩ : ∃ e, readyE k [x] = e := ⟨_, rfl⟩
  rw [hre] at HNM he hk'
  clear h hrD
  by_cases h0 : e = 0
  · subst h0
    rw [if_pos rfl] at he hk'
    cases hcr : crashes k with
    | true =>
      have hce : changeE k = 20 := by rw [changeE, hcr]; rfl
      rw [hce] at HC he
      rw [hcr, if_pos rfl] at hk'
      subst he hk'
      clear hcr hce hre
      go_enter Try.func42, Try.ntmps42
      go_wp2_with (first
        | (go_at_call 54; refine HNM.out.mono ?_; rintro r1 w1 ⟨rfl, rfl⟩)
        | (go_at_call 39; refine HC.out.mono ?_; rintro r1 w1 ⟨rfl, hv1, ho1⟩))
      refine bodyPost_ret (v := .int .i64 20) (by simp [results, Try.results42, go_sem]) rfl ?_
      exact ⟨rfl, ⟨_, _, hv1.mono fun i _ hi => .inl hi⟩, ho1.mono fun i hi => by rw [hi]; exact HRD.out⟩
    | false =>
      have hce : changeE k = 0 := by rw [changeE, hcr]; rfl
      rw [hce] at HC he
      rw [hcr, if_neg (by simp)] at hk'
      subst he
      have hcf : (changeK k).fs = k.fs := (change_same k).1
      obtain ⟨j, f, hj1, hj2, hj3, hj4, hj5⟩ := ready_at hre
      have hde : delP x k.fs = k.fs.eraseIdx j := erase_delP hs hj1
      rw [hde] at hk'
      obtain ⟨k1, hk1⟩ : ∃ k1, changeK k = k1 := ⟨_, rfl⟩
      rw [hk1] at HC hcf hk'
      rw [← hcf] at hj2 hm
      have hk'' : k'.fs = k1.fs.eraseIdx j ∧ k'.ops = k1.ops ∧ k'.room = k1.room ∧ k'.keep = k1.keep ∧ k'.done = k1.done ∧ k'.down = k1.down := by
        rw [← hk']
        exact ⟨by rw [hcf], rfl, rfl, rfl, rfl, rfl⟩
      have HI := Lib.hid hj2
      have HK := Lib.hid hk''
      clear hcr hce hre hk1 hj1 hj2 hj3 hj4 hj5 hcf hk' hk'' hde
      go_enter Try.func42, Try.ntmps42
      go_upto_region 5 with (first
        | (go_at_call 54; refine HNM.out.mono ?_; rintro r1 w1 ⟨rfl, rfl⟩)
        | (go_at_call 39; refine HC.out.mono ?_; rintro r1 w1 ⟨rfl, hv1, ho1⟩; have HV1 := Lib.hid hv1; have HO1 := Lib.hid ho1; clear hv1 ho1))
      have hd := HV1.out.below (w' := w1.drew) fr.refl.drew
      have HVD := Lib.hid hd
      obtain ⟨y0, _⟩ := hd.cell
      have zfd : ∀ q, Below w1.drew.heap.size w1.drew q → q.frozen? ⟨r, 0, none⟩ = false := fun q hb => (HVD.out.below hb).frozen 0
      have HF1 := Lib.hid (find_any _ r _ k1.fs x w1.drew y0 (hd.files hm))
      rw [HI.out] at HF1
      have HWO := Lib.hid (without_any _ _ k1.fs j w1.drew (hd.files hm))
      have hz1 : w.heap.size ≤ w1.drew.heap.size := HO1.out.size
      clear hd
      go_region_with (first
        | (go_at_call 37; refine HF1.out.mono ?_; rintro r2 w2 ⟨rfl, rfl⟩)
        | (go_at_call 55; refine HWO.out.mono ?_; rintro r2 w2 ⟨v2, rfl, hrow, hb2⟩; obtain ⟨A2, c2', rfl⟩ := hrow.form; have y1 := fr.cell hb2 y0; have HR2 := Lib.hid hrow; have HB2 := Lib.hid hb2; have z0 := zfd _ hb2; clear hrow hb2))
      all_goals
        go_wp2
        refine bodyPost_ret (v := .int .i64 0) (by simp [results, Try.results42, go_sem]) rfl ?_
        obtain ⟨hst, hso⟩ := HVD.out.reset (n := w.heap.size) HB2.out hz1 HR2.out
        obtain ⟨q1, q2, q3, q4, q5, q6⟩ := HK.out
        refine ⟨rfl, ⟨_, _, RefV.same (k' := k') hst q1 q2 q3 q4 q5 q6⟩, Only.new ?_⟩
        exact ((HO1.out.mono fun i hi => .inl (by rw [hi]; exact HRD.out)).drew).trans hso
  · rw [if_neg h0] at he hk'
    subst he hk'
    have hne : (e == 0) = false := by simpa using h0
    clear hre h0
    go_enter Try.func42, Try.ntmps42
    go_wp2_with (go_at_call 54; refine HNM.out.mono ?_; rintro r1 w1 ⟨rfl, rfl⟩)
    refine bodyPost_ret (v := .int .i64 e) (by simp [results, Try.results42, go_sem]) rfl ?_
    exact ⟨rfl, ⟨_, _, H.out.mono fun i _ hi => .inl hi⟩, Only.refl _ _⟩
end Go.Proofs.Ytcmjoaepihbodaa
end
section
namespace Go.Proofs.Ytcmjoaepihbodaa
open Go.RowKit Go.BigFrame Go.Sort
attribute [local go_sem ↓] Go.wp_at_zero Go.wp_at_succ
theorem infoS : (Try.prog.info? 9).map (fun i => (i.zero, i.size, i.bytes)) = some (some (.string ⟨#[]⟩), 1, 16) := by kernel_rfl
theorem OwnS.below {w w' : World} {base : Nat} {v : Value} {ss : List Nm} (h : OwnS w base v ss) (hb : Below w.heap.size w w') : OwnS w' base v ss := own_below h hb
theorem OwnS.form {w : World} {base : Nat} {v : Value} {ss : List Nm} (h : OwnS w base v ss) : ∃ A c, v = .slice A ss.length c := own_form h
theorem OwnS.strs {w : World} {base : Nat} {v : Value} {ss : List Nm} (h : OwnS w base v ss) : Strs w (fun _ => True) v ss := by
  unfold OwnS at h
  rcases h.2 with ⟨rfl, h0⟩ | ⟨g, cap, cur, rfl, hbg, hh, hcap, hcm, _⟩
  · have : ss = [] := List.eq_nil_of_length_eq_zero h0
    subst this
    exact strs0 w
  · have hlt : g < w.heap.size := (Array.getElem?_eq_some_iff.1 hh).1
    refine ⟨_, _, rfl, hcap, by unfold maxLen at hcm; omega, by simp, fun _ => ⟨g, 0, rfl, trivial, hlt, fun j u hu => ?_⟩⟩
    have := h.cells (g := g) rfl j u hu
    rwa [Addr.add_lit] at this
theorem wpList_push_str {w : World} {ops : Array Oper} {rest : List Oper} {o : Oper} {a : Act} {Q : Exit → Act → World → Prop} (hgd : o.guard = none) (s x : Operand)
    (ho : o.op = .call { callee := .builtin .append, args := #[s, x], argTypes := #[59, 59] }) (base : Nat) (v : Value) (ss : List Nm) (hs : a.eval s = v) (hrow : OwnS w base v ss)
    (g : Nat) (n : Nm) (hx : a.eval x = .slice (some ⟨g, 0, none⟩) 1 1) (hg : w.heap[g]? = some (.cells #[.string ⟨n.toArray⟩] 9 (0, 0))) (hl : (ss.length + 1) * 16 ≤ 140737488355328) (hbase : base ≤ w.heap.size)
    (hK : ∀ v' w', OwnS w' base v' (ss ++ [n]) → w.grownBy w' v.ownBlock → wpList Try.prog ops Q rest (a.put o.dst v') w') : wpList Try.prog ops Q (o :: rest) a w := by
  obtain ⟨i0, hi, hz0, hz1, hz2⟩ := info_parts infoS
  refine wpList_append_own_at _ hgd s x 59 ho base 9 i0 _ 1 16 Try.underlying59 hi hz0 hz1 hz2 rfl (by decide) v _ _ hs hrow ⟨g, 0, none⟩ 1 1 [.string ⟨n.toArray⟩] hx rfl
    (fun j u hu => by rw [Addr.add_lit, cell_of_row w g _ _ _ _ hg, Nat.zero_add]; simpa using hu) (by simp [Value.oneCell']) (by unfold maxLen; omega) hl hbase ?_
  intro v' w' h1 h2 _ _
  refine hK v' w' ?_ h2
  unfold OwnS
  rw [List.length_append, List.map_append]
  exact h1
set_option maxRecDepth 100000 in
set_option maxHeartbeats 4000000 in
theorem rlist_any (base : Nat) (D : Nat → Prop) (r : Nat) (k : Pk) (w : World) (h : RefP w base D r k) (hm : k.fs.length * 48 ≤ 140737488355328) :
    Calls Try.prog 44 #[.pointer (some ⟨r, 0, none⟩)] w fun e w' => ∃ v, e = .returned (.tuple #[v, .int .i64 (readyE k [])]) ∧ OwnS w' w.heap.size v (listP k) ∧ Below w.heap.size w w' := by
  obtain ⟨v, kv, h⟩ := h
  obtain ⟨c0, _, _, _, _, c5⟩ := h.cell
  cases hd : k.down with
  | true =>
    rw [hd] at c5
    have e1 : readyE k [] = 20 := by unfold readyE; rw [if_pos hd]
    have e2 : listP k = [] := by unfold listP; rw [if_pos hd]
    rw [e1, e2]
    clear hd e1 e2 h
    go_enter Try.func44, Try.ntmps44
    go_wp2
    refine bodyPost_ret (v := .tuple #[.slice none 0 0, .int .i64 20]) (by simp [results, Try.results44, go_sem]) rfl ?_
    exact ⟨_, rfl, OwnS.nil _ _, Below.refl _ _⟩
  | false =>
    rw [hd] at c5
    have e1 : readyE k [] = 0 := by unfold readyE; rw [if_neg (by rw [hd]; simp)]; rfl
    have e2 : listP k = k.fs.map Fl.name := by unfold listP; rw [if_neg (by rw [hd]; simp)]
    rw [e1, e2]
    obtain ⟨A, c, rfl⟩ := h.row.form
    obtain ⟨n, hn⟩ : ∃ n, k.fs.length = n := ⟨_, rfl⟩
    have hmax : n * 48 ≤ 140737488355328 := by rw [← hn]; exact hm
    have HN := Lib.hid hn
    have HF := Lib.hid (h.files hm)
    rw [hn] at c0 HF
    clear hd e1 e2 h hn
    go_enter Try.func44, Try.ntmps44
    go_wp2
    go_loopw [4, 15] (fun v4 t wr => ∃ i : Nat, i ≤ n ∧ t = .int .i64 i ∧ OwnS wr w.heap.size v4 ((k.fs.take i).map Fl.name) ∧ Below w.heap.size w wr) (fun _ t _ => n - (intOf t).toNat)
    case atStart => exact ⟨0, Nat.zero_le _, rfl, OwnS.nil _ _, Below.refl _ _⟩
    case round =>
      obtain ⟨i, hi, rfl, hrow, hbel⟩ := hrel
      have HR := Lib.hid hrow
      have HB := Lib.hid hbel
      have hz0 : w.heap.size ≤ wr.heap.size := hbel.size
      have d0 := fr.cell hbel c0
      clear hrow hbel
      by_cases hin : i < n
      · obtain ⟨f, hf⟩ : ∃ f, k.fs[i]? = some f := ⟨_, List.getElem?_eq_getElem (by rw [HN.out]; exact hin)⟩
        obtain ⟨b0, o0, cs, rfl, _, _, ⟨vd, rfl, hvd, hgn⟩, hc⟩ := Rows.at_ flFine (HF.out.below flFine HB.out) hf
        have x0 : wr.cell? ⟨b0, o0 + i * 3, none⟩ = _ := hc 0 _ rfl
        have hl16 : (((k.fs.take i).map Fl.name).length + 1) * 16 ≤ 140737488355328 := by
          rw [List.length_map, List.length_take, HN.out, Nat.min_eq_left hi]
          omega
        obtain ⟨ss, hss⟩ : ∃ ss, (k.fs.take i).map Fl.name = ss := ⟨_, rfl⟩
        have hnext : (k.fs.take (i + 1)).map Fl.name = ss ++ [f.name] := by rw [take_snoc hf, List.map_append, hss]; rfl
        rw [hss] at HR hl16
        have HNX := Lib.hid hnext
        clear hf hvd hc hss hnext
        go_wp2_with (at_builtin; refine wpList_push_str (by rfl) _ _ (by rfl) w.heap.size _ ss (by rfl) (HR.out.below ((Below.refl _ _).alloc (Nat.le_refl _) _)) wr.heap.size f.name (by rfl) (heap_alloc_new wr _) hl16 (le_alloc hz0 _) ?_; intro v' w9 hrow9 hgrow9; have HR9 := Lib.hid hrow9; have HB9 := Lib.hid ((HB.out.alloc hz0 _).grown hgrow9 (le_alloc hz0 _) (fun j e => (World.ownsRow.lt HR.out j e).1)); clear hrow9 hgrow9)
        exact ⟨⟨i + 1, by omega, by go_num, by rw [HNX.out]; exact HR9.out, HB9.out⟩, by simp [intOf]; omega⟩
      · obtain rfl : i = n := by omega
        go_wp2
        refine bodyPost_ret (v := .tuple #[u4, .int .i64 0]) (by simp [results, Try.results44, go_sem]) rfl ?_
        refine ⟨u4, rfl, ?_, HB.out⟩
        have := HR.out
        rwa [List.take_of_length_le (by rw [HN.out]; exact Nat.le_refl _)] at this
set_option maxRecDepth 100000 in
set_option maxHeartbeats 4000000 in
theorem sametexts_any (S S' : Nat → Prop) (v v' : Value) (ss : List Nm) (w : World) (h : Strs w S v ss) (h' : Strs w S' v' ss) (hl : ss.length ≤ 140737488355328) :
    Calls Try.prog 45 #[v, v'] w fun r w' => r = .returned (.bool true) ∧ Below w.heap.size w w' := by
  have H := Lib.hid h
  have H' := Lib.hid h'
  obtain ⟨A, c, rfl, _⟩ := h
  obtain ⟨A', c', rfl, _⟩ := h'
  obtain ⟨n, hn⟩ : ∃ n, ss.length = n := ⟨_, rfl⟩
  rw [hn] at H H' hl ⊢
  have HN := Lib.hid hn
  clear hn
  go_enter Try.func45, Try.ntmps45
  go_wp2
  go_loopw [13] (fun t wr => ∃ k : Nat, k ≤ n ∧ t = .int .i64 k ∧ Below w.heap.size w wr) (fun t _ => n - (intOf t).toNat)
  case atStart => exact ⟨0, Nat.zero_le _, rfl, Below.refl _ _⟩
  case round =>
    obtain ⟨k, hk, rfl, hbel⟩ := hrel
    have HB := Lib.hid hbel
    clear hbel
    by_cases hkn : k < n
    · obtain ⟨x, hx⟩ : ∃ x, ss[k]? = some x := ⟨_, List.getElem?_eq_getElem (by rw [HN.out]; exact hkn)⟩
      have key : ∀ (S : Nat → Prop) (A : Option Addr) (c : Nat), Strs w S (.slice A n c) ss → ∃ b o, A = some ⟨b, o, none⟩ ∧ wr.cell? ⟨b, o + k, none⟩ = some (.string ⟨x.toArray⟩) := by
        intro S A c h
        obtain ⟨A', c', e, _, _, hr⟩ := h.below HB.out
        injection e with e1 _ _
        subst e1
        rw [HN.out] at hr
        obtain ⟨b, o, u, rfl, _, _, hu, hc⟩ := hr.at_ hkn
        rw [List.getElem?_map, hx] at hu
        obtain rfl := Option.some.inj hu
        exact ⟨b, o, rfl, hc⟩
      obtain ⟨b, o, rfl, c0⟩ := key _ _ _ H.out
      obtain ⟨b', o', rfl, d0⟩ := key _ _ _ H'.out
      have C0 : ∀ q : Ext wr, q.w.cell? ⟨b, o + k, none⟩ = _ := fun q => q.h.cell c0
      have D0 : ∀ q : Ext wr, q.w.cell? ⟨b', o' + k, none⟩ = _ := fun q => q.h.cell d0
      clear hx key c0 d0
      go_wp2
      (refine wp_region_quiet_ext (by kernel_rfl) (by kernel_rfl) ?_; (repeat (go_big_quiet_step (fail))); refine wpQuiet_nil ?_; intro wq hw'; obtain ⟨⟨_, hq⟩, hw''⟩ := hw'; subst hw'')
      go_wp2
      exact ⟨⟨k + 1, by omega, by go_num, HB.out.trans (Below.mono hq HB.out.size)⟩, by simp [intOf]; omega⟩
    · obtain rfl : k = n := by omega
      go_wp2
      go_ret
      exact ⟨rfl, HB.out⟩
end Go.Proofs.Ytcmjoaepihbodaa
end
