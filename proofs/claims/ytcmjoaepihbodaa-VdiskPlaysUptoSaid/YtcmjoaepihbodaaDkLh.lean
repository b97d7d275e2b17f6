/-
ref07's without, Delete, List, SameTexts.
-/
import Derived.Test.YtcmjoaepihbodaaDkLg
namespace Go.Proofs.Ytcmjoaepihbodaa
open Go.RowKit Go.BigFrame Go.Sort
attribute [local go_sem ↓] Go.wp_at_zero Go.wp_at_succ

theorem er_skip {l : List Fl} {i : Nat} {g : Fl} (h : l[i]? = some g) : (l.take (i + 1)).eraseIdx i = (l.take i).eraseIdx i := by
  have hl := (List.getElem?_eq_some_iff.1 h).1
  have hli : (l.take i).length = i := by rw [List.length_take]; omega
  rw [take_snoc h, List.eraseIdx_append_of_length_le (by omega), hli, Nat.sub_self, List.eraseIdx_cons_zero, List.append_nil, List.eraseIdx_of_length_le (by omega)]
theorem er_push {l : List Fl} {i k : Nat} {g : Fl} (h : l[i]? = some g) (hk : i ≠ k) : (l.take (i + 1)).eraseIdx k = (l.take i).eraseIdx k ++ [g] := by
  have hl := (List.getElem?_eq_some_iff.1 h).1
  have hli : (l.take i).length = i := by rw [List.length_take]; omega
  rw [take_snoc h]
  rcases Nat.lt_or_ge k i with hlt | hge
  · rw [List.eraseIdx_append_of_lt_length (by omega)]
  · rw [List.eraseIdx_of_length_le (by rw [List.length_append, List.length_singleton]; omega), List.eraseIdx_of_length_le (by omega)]
theorem er_len (l : List Fl) (i k : Nat) : ((l.take i).eraseIdx k).length ≤ i := by
  have h1 : ((l.take i).eraseIdx k).length ≤ (l.take i).length := by
    rw [List.length_eraseIdx]
    split <;> omega
  rw [List.length_take] at h1
  omega
set_option maxRecDepth 100000 in
set_option maxHeartbeats 4000000 in
theorem without_any (S : Nat → Prop) (v : Value) (fs : List Fl) (k : Nat) (w : World) (hv : FilesV w S v fs) :
    Calls Try.prog 55 #[v, .int .i64 k] w fun r w' => ∃ v', r = .returned v' ∧ RowF w' w.heap.size (fun i => S i ∧ i < w.heap.size) v' (fs.eraseIdx k) ∧ Below w.heap.size w w' := by
  obtain ⟨Av, cv, rfl⟩ := hv.form
  obtain ⟨n, hn⟩ : ∃ n, fs.length = n := ⟨_, rfl⟩
  have hmax : n * 48 ≤ 140737488355328 := by obtain ⟨_, _, _, _, _, _, h3, _⟩ := hv; rw [← hn]; exact h3
  obtain ⟨E, hE⟩ : ∃ E : Nat → Prop, E = fun i => S i ∧ i < w.heap.size := ⟨_, rfl⟩
  have hvE : FilesV w E (.slice Av fs.length cv) fs := hv.keep flFine fun _ _ _ _ hr => hr.monoLt fun i hi hs => by rw [hE]; exact ⟨hs, hi⟩
  have hEb : ∀ i, E i → i < w.heap.size := fun i hi => by rw [hE] at hi; exact hi.2
  rw [hn] at hvE ⊢
  have HN := Lib.hid hn
  have HE := Lib.hid hE
  have HEB := Lib.hid hEb
  have HV := Lib.hid hvE
  clear hn hE hEb hv hvE
  go_enter Try.func55, Try.ntmps55
  go_wp2
  go_loopw [5, 9] (fun v5 t wr => ∃ i : Nat, i ≤ n ∧ t = .int .i64 i ∧ RowF wr w.heap.size E v5 ((fs.take i).eraseIdx k) ∧ Below w.heap.size w wr) (fun _ t _ => n - (intOf t).toNat)
  case atStart => exact ⟨0, Nat.zero_le _, rfl, RowF.nil _ _ _, Below.refl _ _⟩
  case round =>
    obtain ⟨i, hi, rfl, hrow, hbel⟩ := hrel
    have HR := Lib.hid hrow
    have HB := Lib.hid hbel
    have hz0 : w.heap.size ≤ wr.heap.size := hbel.size
    clear hrow hbel
    by_cases hin : i < n
    · obtain ⟨g, hg⟩ : ∃ g, fs[i]? = some g := ⟨_, List.getElem?_eq_getElem (by rw [HN.out]; exact hin)⟩
      by_cases hik : i = k
      · subst hik
        have he := er_skip hg
        have HS := Lib.hid he
        clear he hg
        go_wp2
        exact ⟨⟨i + 1, by omega, by go_num, by rw [HS.out]; exact HR.out, HB.out⟩, by simp [intOf]; omega⟩
      · have he := er_push hg hik
        have HS := Lib.hid he
        have hll : ((fs.take i).eraseIdx k).length + 1 ≤ n := by have := er_len fs i k; omega
        have hl48 : (((fs.take i).eraseIdx k).length + 1) * 48 ≤ 140737488355328 := Nat.le_trans (Nat.mul_le_mul_right 48 hll) hmax
        obtain ⟨os, hos⟩ : ∃ os, (fs.take i).eraseIdx k = os := ⟨_, rfl⟩
        rw [hos] at HR HS hl48
        have g1 : ((i : Int) != k) = true := by simp; omega
        obtain ⟨b0, o0, cs, rfl, _, _, ⟨vd, rfl, hvd, hgn⟩, hc⟩ := Rows.at_ flFine (HV.out.below flFine HB.out) hg
        obtain ⟨Ag, cg, rfl⟩ := slice_form hvd
        have c0 : wr.cell? ⟨b0, o0 + i * 3, none⟩ = _ := hc 0 _ rfl
        have c1 : wr.cell? ⟨b0, o0 + i * 3 + 1, none⟩ = _ := hc 1 _ rfl
        have c2 : wr.cell? ⟨b0, o0 + i * 3 + 2, none⟩ = _ := hc 2 _ rfl
        have HG := Lib.hid (show flR wr E g [.string ⟨g.name.toArray⟩, .slice Ag g.data.length cg, .int .i64 g.synced] from ⟨_, rfl, hvd, hgn⟩)
        clear he hg hvd hc hos hll
        go_wp2_with (at_builtin; refine wpList_push_fl (by rfl) _ _ (by rfl) w.heap.size E _ os (by rfl) (HR.out.alloc _) wr.heap.size g Ag cg (by rfl) (heap_alloc_new wr _) (HG.out.alloc _) HEB.out hl48 (le_alloc hz0 _) ?_; intro v' w9 hrow9 hgrow9; have HR9 := Lib.hid hrow9; have HB9 := Lib.hid (RowF.grow (HR.out.alloc _) (HB.out.alloc hz0 _) (le_alloc hz0 _) hgrow9); clear hrow9 hgrow9)
        exact ⟨⟨i + 1, by omega, by go_num, by rw [HS.out]; exact HR9.out, HB9.out⟩, by simp [intOf]; omega⟩
    · obtain rfl : i = n := by omega
      go_wp2
      refine bodyPost_ret (v := u5) (by simp [results, Try.results55, go_sem]) rfl ?_
      refine ⟨u5, rfl, ?_, HB.out⟩
      have := HR.out
      rw [List.take_of_length_le (by rw [HN.out]; exact Nat.le_refl _), HE.out] at this
      exact this

set_option maxRecDepth 100000 in
set_option maxHeartbeats 4000000 in
theorem rdelete_any (base : Nat) (D : Nat → Prop) (r : Nat) (k : Pk) (x : Nm) (w : World) (h : RefP w base D r k) (hx : x.length ≤ 140737488355328) (hs : sortedP k.fs) (hm : k.fs.length * 48 ≤ 140737488355328) (hd0 : 0 ≤ k.done) (hd1 : k.done < 4611686018427387904) :
    Calls Try.prog 42 #[.pointer (some ⟨r, 0, none⟩), .string ⟨x.toArray⟩] w fun e w' => e = .returned (.int .i64 (syncE k x)) ∧ RefP w' base (orNew D w.heap.size) r (deleteK k x) ∧ Only (Own D base) w w' := by
  obtain ⟨v, kv, h⟩ := h
  have HNM := Lib.hid (rnamed_any base D r v kv k x [97] w h hm hx nm97)
  rw [readyE_a] at HNM
  have HC := Lib.hid (rchange_any base D r v kv k w h hd0 hd1)
  have H := Lib.hid h
  have hrD : Own D base r := ⟨h.inD, h.lo⟩
  have HRD := Lib.hid hrD
  obtain ⟨e0, he⟩ : ∃ e, syncE k x = e := ⟨_, rfl⟩
  obtain ⟨k', hk'⟩ : ∃ k', deleteK k x = k' := ⟨_, rfl⟩
  rw [he, hk']
  unfold syncE at he
  unfold deleteK at hk'
  obtain ⟨e, hre⟩ : ∃ e, readyE k [x] = e := ⟨_, rfl⟩
  rw [hre] at HNM he hk'
  clear h hrD
  by_cases h0 : e = 0
  · subst h0
    rw [if_pos rfl] at he hk'
    cases hcr : crashes k with
    | true =>
      have hce : changeE k = 20 := by rw [changeE, hcr]; rfl
      rw [hce] at HC he
      rw [hcr, if_pos rfl] at hk'
      subst he hk'
      clear hcr hce hre
      go_enter Try.func42, Try.ntmps42
      go_wp2_with (first
        | (go_at_call 54; refine HNM.out.mono ?_; rintro r1 w1 ⟨rfl, rfl⟩)
        | (go_at_call 39; refine HC.out.mono ?_; rintro r1 w1 ⟨rfl, hv1, ho1⟩))
      refine bodyPost_ret (v := .int .i64 20) (by simp [results, Try.results42, go_sem]) rfl ?_
      exact ⟨rfl, ⟨_, _, hv1.mono fun i _ hi => .inl hi⟩, ho1.mono fun i hi => by rw [hi]; exact HRD.out⟩
    | false =>
      have hce : changeE k = 0 := by rw [changeE, hcr]; rfl
      rw [hce] at HC he
      rw [hcr, if_neg (by simp)] at hk'
      subst he
      have hcf : (changeK k).fs = k.fs := (change_same k).1
      obtain ⟨j, f, hj1, hj2, hj3, hj4, hj5⟩ := ready_at hre
      have hde : delP x k.fs = k.fs.eraseIdx j := erase_delP hs hj1
      rw [hde] at hk'
      obtain ⟨k1, hk1⟩ : ∃ k1, changeK k = k1 := ⟨_, rfl⟩
      rw [hk1] at HC hcf hk'
      rw [← hcf] at hj2 hm
      have hk'' : k'.fs = k1.fs.eraseIdx j ∧ k'.ops = k1.ops ∧ k'.room = k1.room ∧ k'.keep = k1.keep ∧ k'.done = k1.done ∧ k'.down = k1.down := by
        rw [← hk']
        exact ⟨by rw [hcf], rfl, rfl, rfl, rfl, rfl⟩
      have HI := Lib.hid hj2
      have HK := Lib.hid hk''
      clear hcr hce hre hk1 hj1 hj2 hj3 hj4 hj5 hcf hk' hk'' hde
      go_enter Try.func42, Try.ntmps42
      go_upto_region 5 with (first
        | (go_at_call 54; refine HNM.out.mono ?_; rintro r1 w1 ⟨rfl, rfl⟩)
        | (go_at_call 39; refine HC.out.mono ?_; rintro r1 w1 ⟨rfl, hv1, ho1⟩; have HV1 := Lib.hid hv1; have HO1 := Lib.hid ho1; clear hv1 ho1))
      have hd := HV1.out.below (w' := w1.drew) fr.refl.drew
      have HVD := Lib.hid hd
      obtain ⟨y0, _⟩ := hd.cell
      have zfd : ∀ q, Below w1.drew.heap.size w1.drew q → q.frozen? ⟨r, 0, none⟩ = false := fun q hb => (HVD.out.below hb).frozen 0
      have HF1 := Lib.hid (find_any _ r _ k1.fs x w1.drew y0 (hd.files hm))
      rw [HI.out] at HF1
      have HWO := Lib.hid (without_any _ _ k1.fs j w1.drew (hd.files hm))
      have hz1 : w.heap.size ≤ w1.drew.heap.size := HO1.out.size
      clear hd
      go_region_with (first
        | (go_at_call 37; refine HF1.out.mono ?_; rintro r2 w2 ⟨rfl, rfl⟩)
        | (go_at_call 55; refine HWO.out.mono ?_; rintro r2 w2 ⟨v2, rfl, hrow, hb2⟩; obtain ⟨A2, c2', rfl⟩ := hrow.form; have y1 := fr.cell hb2 y0; have HR2 := Lib.hid hrow; have HB2 := Lib.hid hb2; have z0 := zfd _ hb2; clear hrow hb2))
      all_goals
        go_wp2
        refine bodyPost_ret (v := .int .i64 0) (by simp [results, Try.results42, go_sem]) rfl ?_
        obtain ⟨hst, hso⟩ := HVD.out.reset (n := w.heap.size) HB2.out hz1 HR2.out
        obtain ⟨q1, q2, q3, q4, q5, q6⟩ := HK.out
        refine ⟨rfl, ⟨_, _, RefV.same (k' := k') hst q1 q2 q3 q4 q5 q6⟩, Only.new ?_⟩
        exact ((HO1.out.mono fun i hi => .inl (by rw [hi]; exact HRD.out)).drew).trans hso
  · rw [if_neg h0] at he hk'
    subst he hk'
    have hne : (e == 0) = false := by simpa using h0
    clear hre h0
    go_enter Try.func42, Try.ntmps42
    go_wp2_with (go_at_call 54; refine HNM.out.mono ?_; rintro r1 w1 ⟨rfl, rfl⟩)
    refine bodyPost_ret (v := .int .i64 e) (by simp [results, Try.results42, go_sem]) rfl ?_
    exact ⟨rfl, ⟨_, _, H.out.mono fun i _ hi => .inl hi⟩, Only.refl _ _⟩
end Go.Proofs.Ytcmjoaepihbodaa
