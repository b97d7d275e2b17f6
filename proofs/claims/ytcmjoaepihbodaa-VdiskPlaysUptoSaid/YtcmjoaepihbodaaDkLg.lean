/-
ref07's Sync, Read.
-/
import Derived.Test.YtcmjoaepihbodaaDkLd
import Derived.Deep.AppendLies
namespace Go.Proofs.Ytcmjoaepihbodaa
open Go.RowKit Go.BigFrame
attribute [local go_sem ↓] Go.wp_at_zero Go.wp_at_succ

theorem ready_at {k : Pk} {x : Nm} {l : List Nm} (h : readyE k (x :: l) = 0) : ∃ i f, idxP x k.fs = some i ∧ idxI x k.fs = (i : Int) ∧ findP x k.fs = some f ∧ k.fs[i]? = some f ∧ f.name = x := by
  rcases idxP_find (x := x) (fs := k.fs) with ⟨h1, h2⟩ | ⟨i, f, h1, h2, h3, h4⟩
  · exfalso
    unfold readyE at h
    split at h
    · cases h
    · split at h
      · cases h
      · simp [h2] at h
  · exact ⟨i, f, h1, by unfold idxI; rw [h1], h2, h3, h4⟩
theorem nm97 : ([97] : Nm).length ≤ 140737488355328 := by decide

set_option maxRecDepth 100000 in
set_option maxHeartbeats 4000000 in
theorem rsync_any (base : Nat) (D : Nat → Prop) (r : Nat) (k : Pk) (x : Nm) (w : World) (h : RefP w base D r k) (hx : x.length ≤ 140737488355328) (hs : sortedP k.fs) (hm : k.fs.length * 48 ≤ 140737488355328) (hd0 : 0 ≤ k.done) (hd1 : k.done < 4611686018427387904) :
    Calls Try.prog 40 #[.pointer (some ⟨r, 0, none⟩), .string ⟨x.toArray⟩] w fun e w' => e = .returned (.int .i64 (syncE k x)) ∧ RefP w' base D r (syncK k x) ∧ Only (Own D base) w w' := by
  obtain ⟨v, kv, h⟩ := h
  have HNM := Lib.hid (rnamed_any base D r v kv k x [97] w h hm hx nm97)
  rw [readyE_a] at HNM
  have HC := Lib.hid (rchange_any base D r v kv k w h hd0 hd1)
  have H := Lib.hid h
  have hrD : Own D base r := ⟨h.inD, h.lo⟩
  have HRD := Lib.hid hrD
  obtain ⟨e0, he⟩ : ∃ e, syncE k x = e := ⟨_, rfl⟩
  obtain ⟨k', hk'⟩ : ∃ k', syncK k x = k' := ⟨_, rfl⟩
  rw [he, hk']
  unfold syncE at he
  unfold syncK at hk'
  obtain ⟨e, hre⟩ : ∃ e, readyE k [x] = e := ⟨_, rfl⟩
  rw [hre] at HNM he hk'
  clear h hrD
  by_cases h0 : e = 0
  · subst h0
    rw [if_pos rfl] at he hk'
    cases hcr : crashes k with
    | true =>
      have hce : changeE k = 20 := by rw [changeE, hcr]; rfl
      rw [hce] at HC he
      rw [hcr, if_pos rfl] at hk'
      subst he hk'
      clear hcr hce hre
      go_enter Try.func40, Try.ntmps40
      go_wp2_with (first
        | (go_at_call 54; refine HNM.out.mono ?_; rintro r1 w1 ⟨rfl, rfl⟩)
        | (go_at_call 39; refine HC.out.mono ?_; rintro r1 w1 ⟨rfl, hv1, ho1⟩))
      refine bodyPost_ret (v := .int .i64 20) (by simp [results, Try.results40, go_sem]) rfl ?_
      exact ⟨rfl, ⟨_, _, hv1⟩, ho1.mono fun i hi => by rw [hi]; exact HRD.out⟩
    | false =>
      have hce : changeE k = 0 := by rw [changeE, hcr]; rfl
      rw [hce] at HC he
      rw [hcr, if_neg (by simp)] at hk'
      subst he
      have hcf : (changeK k).fs = k.fs := (change_same k).1
      obtain ⟨j, f, hj1, hj2, hj3, hj4, hj5⟩ := ready_at hre
      have hup : updP x (fun f => { f with synced := f.data.length }) k.fs = k.fs.set j { f with synced := f.data.length } := by rw [← hj5]; exact updP_set (sorted_ne hs) hj4 _
      unfold updK at hk'
      rw [hcf, hup] at hk'
      obtain ⟨k1, hk1⟩ : ∃ k1, changeK k = k1 := ⟨_, rfl⟩
      rw [hk1] at HC hcf hk'
      rw [← hcf] at hj4 hj2 hk' hm
      have HJ := Lib.hid hj4
      have HI := Lib.hid hj2
      have HK := Lib.hid hk'
      clear hcr hce hre hup hk1 hj1 hj2 hj3 hj4 hj5 hcf hk'
      go_enter Try.func40, Try.ntmps40
      go_upto_region 5 with (first
        | (go_at_call 54; refine HNM.out.mono ?_; rintro r1 w1 ⟨rfl, rfl⟩)
        | (go_at_call 39; refine HC.out.mono ?_; rintro r1 w1 ⟨rfl, hv1, ho1⟩; have HV1 := Lib.hid hv1; have HO1 := Lib.hid ho1; clear hv1 ho1))
      obtain ⟨g, cg, Af, df, hVe, hgl, hgb, hgD, hgr, hbyt, hfnl, x0, x1, x2, xf⟩ := RefV.file HV1.out hm HJ.out
      subst hVe
      obtain ⟨y0, _⟩ := HV1.out.cell
      have F0 : ∀ q : Ext w1, q.w.cell? { block := r, off := 0 } = _ := fun q => q.h.cell y0
      have CS : ∀ q : Ext w1, Calls Try.prog 37 #[.pointer (some ⟨r, 0, none⟩), .string ⟨x.toArray⟩] q.w fun e w'' => e = .returned (.int .i64 (j : Int)) ∧ ∃ q' : Ext w1, w'' = q'.w := fun q => (find_any _ r _ k1.fs x q.w (q.h.cell y0) ((HV1.out.files hm).below flFine q.h)).mono fun e w'' h => ⟨by rw [h.1, HI.out], q, h.2.symm⟩
      have jn : j < k1.fs.length := (List.getElem?_eq_some_iff.1 HJ.out).1
      clear hbyt x0
      (refine wp_region_quiet_ext (by kernel_rfl) (by kernel_rfl) ?_; (repeat (go_big_quiet_step ((go_at_call 37; exact CS _)))); refine wpQuiet_nil ?_; intro wq hw'; obtain ⟨⟨_, hq⟩, hw''⟩ := hw'; subst hw'')
      have z1 := fr.cell hq x1
      have z2 := fr.cell hq x2
      have zf : ∀ i, wq.frozen? ⟨g, i, none⟩ = false := by
        obtain ⟨_, _, _, _, e2, _, _, _, _, _, _, _, _, _, wf⟩ := RefV.file (HV1.out.below hq) hm HJ.out
        cases e2
        exact wf
      have HVQ := Lib.hid (HV1.out.below hq)
      clear x1 x2 F0 CS
      go_wp2
      refine bodyPost_ret (v := .int .i64 0) (by simp [results, Try.results40, go_sem]) rfl ?_
      have hput := HVQ.out.put (f' := { f with synced := f.data.length }) (u := .int .i64 f.data.length) HJ.out (t := 2) (by omega) (by
        rintro cs ⟨vd, rfl, h1, hn⟩
        exact ⟨vd, rfl, h1, hn⟩)
      refine ⟨rfl, ⟨_, _, RefV.same (k' := k') hput (by rw [HK.out]) ?_ ?_ ?_ ?_ ?_⟩, ?_⟩
      all_goals first | (rw [HK.out]; done) | skip
      exact ((HO1.out.mono fun i hi => by rw [hi]; exact HRD.out).trans (Only.of_below hq)).setCell (p := ⟨g, j * 3 + 2, none⟩) ⟨hgD, hgb⟩ _
  · rw [if_neg h0] at he hk'
    subst he hk'
    have hne : (e == 0) = false := by simpa using h0
    clear hre h0
    go_enter Try.func40, Try.ntmps40
    go_wp2_with (go_at_call 54; refine HNM.out.mono ?_; rintro r1 w1 ⟨rfl, rfl⟩)
    refine bodyPost_ret (v := .int .i64 e) (by simp [results, Try.results40, go_sem]) rfl ?_
    exact ⟨rfl, ⟨_, _, H.out⟩, Only.refl _ _⟩

set_option maxRecDepth 100000 in
set_option maxHeartbeats 4000000 in
theorem rread_any (base : Nat) (D : Nat → Prop) (r : Nat) (k : Pk) (x : Nm) (w : World) (h : RefP w base D r k) (hx : x.length ≤ 140737488355328) (hm : k.fs.length * 48 ≤ 140737488355328) :
    Calls Try.prog 43 #[.pointer (some ⟨r, 0, none⟩), .string ⟨x.toArray⟩] w fun e w' => ∃ v, e = .returned (.tuple #[v, .int .i64 (readyE k [x])]) ∧ BytL w' w.heap.size v (if readyE k [x] = 0 then readD k x else []) ∧ Below w.heap.size w w' := by
  obtain ⟨v, kv, h⟩ := h
  have HNM := Lib.hid (rnamed_any base D r v kv k x [97] w h hm hx nm97)
  rw [readyE_a] at HNM
  obtain ⟨e, hre⟩ : ∃ e, readyE k [x] = e := ⟨_, rfl⟩
  rw [hre] at HNM ⊢
  have H := Lib.hid h
  clear h
  by_cases h0 : e = 0
  · subst h0
    obtain ⟨j, f, hj1, hj2, hj3, hj4, hj5⟩ := ready_at hre
    have hrd : readD k x = f.data := by unfold readD; rw [hj3]
    rw [if_pos rfl, hrd]
    have HI := Lib.hid hj2
    have HJ := Lib.hid hj4
    clear hre hj1 hj2 hj3 hj4 hj5 hrd
    obtain ⟨g, cg, Af, df, hVe, hgl, hgb, hgD, hgr, hbyt, hfnl, x0, x1, x2, xf⟩ := RefV.file H.out hm HJ.out
    subst hVe
    obtain ⟨y0, _⟩ := H.out.cell
    have jn : j < k.fs.length := (List.getElem?_eq_some_iff.1 HJ.out).1
    have HBY := Lib.hid hbyt
    have HFI := Lib.hid (H.out.files hm)
    clear hbyt x0 x2 xf
    go_enter Try.func43, Try.ntmps43
    go_upto_region 4 with (go_at_call 54; refine HNM.out.mono ?_; rintro r1 w1 ⟨rfl, rfl⟩)
    have hf0 : fr w w.drew := fr.refl.drew
    have hfa : fr w (w.alloc (.cells #[] 5)).drew := (fr.refl.alloc _).drew
    have HF1 := Lib.hid (find_any (fun i => D i ∧ i ≠ r) r _ k.fs x w.drew (hf0.cell y0) (HFI.out.below flFine hf0))
    have HF2 := Lib.hid (find_any (fun i => D i ∧ i ≠ r) r _ k.fs x (w.alloc (.cells #[] 5)).drew (hfa.cell y0) (HFI.out.below flFine hfa))
    rw [HI.out] at HF1 HF2
    have n1 := World.new_ne w _ y0
    have n2 := World.new_ne w _ x1
    simp only at n1 n2
    have m1 : r < w.heap.size := World.block_lt_of_cell? w _ y0
    have m2 : g < w.heap.size := World.block_lt_of_cell? w _ x1
    go_region_law (first
      | (refine step_append_byt0L (by rfl) _ _ (by rfl) w.heap.size (.slice Af f.data.length df) (by rfl) (by rfl) (fun i => D i ∧ i ≠ r ∧ g ≠ i) f.data (fr.byt hfa HBY.out) ?_; intro v5 w2 hv5 hb2; have hf2 := fr.step hfa hb2)
      | (go_simp; go_at_call 37; (with_reducible (refine HF1.out.mono ?_)); rintro e w'' ⟨rfl, rfl⟩)
      | (go_simp; go_at_call 37; (with_reducible (refine HF2.out.mono ?_)); rintro e w'' ⟨rfl, rfl⟩))
    all_goals
      go_wp2
      refine bodyPost_ret (v := .tuple #[v5, .int .i64 0]) (by simp [results, Try.results43, go_sem]) rfl ?_
      exact ⟨_, rfl, hv5.mono (by simp), hf2⟩
  · rw [if_neg h0]
    have hne : (e != 0) = true := by simpa using h0
    have hne' : (e == 0) = false := by simpa using h0
    clear hre h0
    go_enter Try.func43, Try.ntmps43
    go_wp2_with (go_at_call 54; refine HNM.out.mono ?_; rintro r1 w1 ⟨rfl, rfl⟩)
    refine bodyPost_ret (v := .tuple #[.slice none 0 0, .int .i64 e]) (by simp [results, Try.results43, go_sem]) rfl ?_
    exact ⟨_, rfl, BytL.nil _ _, Below.refl _ _⟩
end Go.Proofs.Ytcmjoaepihbodaa
