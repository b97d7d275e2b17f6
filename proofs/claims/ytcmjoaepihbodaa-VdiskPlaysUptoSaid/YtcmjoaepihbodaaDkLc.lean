/-
ref07's change, named.
-/
import Derived.Test.YtcmjoaepihbodaaDkLb
import Derived.Test.YtcmjoaepihbodaaDkLq
namespace Go.Proofs.Ytcmjoaepihbodaa
open Go.RowKit Go.BigFrame
attribute [local go_sem ↓] Go.wp_at_zero Go.wp_at_succ

/-- what a call at ref07's disk may write to. -/
def Own (D : Nat → Prop) (base : Nat) (i : Nat) : Prop := D i ∧ base ≤ i
theorem RefV.same {w : World} {base r : Nat} {D : Nat → Prop} {v kv : Value} {k k' : Pk} (h : RefV w base D r v kv k) (h1 : k'.fs = k.fs) (h2 : k'.ops = k.ops) (h3 : k'.room = k.room) (h4 : k'.keep = k.keep) (h5 : k'.done = k.done) (h7 : k'.down = k.down) : RefV w base D r v kv k' :=
  ⟨by rw [h2, h3, h5, h7]; exact h.head, by rw [h1]; exact h.row, by rw [h4]; exact h.keep, h.lo, h.inD, h.rowD⟩
theorem RefV.stay {w : World} {base r : Nat} {D : Nat → Prop} {v kv : Value} {k k' : Pk} (h : RefV w base D r v kv k) (i : Nat) (u : Value) (hf : k'.fs = k.fs) (hk : k'.keep = k.keep)
    (hc : #[v, .int .i64 k'.ops, .int .i64 k'.room, kv, .int .i64 k'.done, .bool k'.down] = (#[v, .int .i64 k.ops, .int .i64 k.room, kv, .int .i64 k.done, .bool k.down] : Array Value).setIfInBounds i u) : RefV (w.setCell ⟨r, i, none⟩ u) base D r v kv k' :=
  h.store h.inD i u (by rw [hf]; exact h.row) (by rw [hk]; exact h.keep) h.rowD hc

/-- the row of files is made anew. -/
theorem RefV.reset {w w3 : World} {base r n : Nat} {D : Nat → Prop} {v v3 kv : Value} {k : Pk} {fs2 : List Fl} (h : RefV w base D r v kv k) (hb : Below w.heap.size w w3) (hn : n ≤ w.heap.size) (hrow : RowF w3 w.heap.size (fun i => (D i ∧ i ≠ r) ∧ i < w.heap.size) v3 fs2) :
    RefV (w3.setCell ⟨r, 0, none⟩ v3) base (orNew D n) r v3 kv { k with fs := fs2 } ∧ Only (orNew (Own D base) n) w (w3.setCell ⟨r, 0, none⟩ v3) := by
  have hlo := h.lo
  have hl := h.ltR
  have hk : IntsIn w3 (fun i => orNew D n i ∧ i ≠ r ∧ v3.ownBlock ≠ some i) kv k.keep := by
    have h1 : IntsIn w (fun i => (D i ∧ i ≠ r) ∧ i < w.heap.size) kv k.keep := h.keep.keepR fun _ _ _ _ hr => hr.monoLt fun i hi hs => ⟨⟨hs.1, hs.2.1⟩, hi⟩
    exact (h1.below hb).mono fun i hi => ⟨.inl hi.1.1, hi.1.2, fun e => by have := (hrow.lt e).1; have := hi.2; omega⟩
  have hr : RowF w3 base (fun i => orNew D n i ∧ i ≠ r ∧ v3.ownBlock ≠ some i) v3 fs2 :=
    (hrow.rebase fun g hg => by have := (hrow.lt hg).1; omega).mono fun i _ hi => ⟨.inl hi.1.1, hi.1.2, fun e => by have := (hrow.lt e).1; have := hi.2; omega⟩
  exact ⟨(h.below hb).store (.inl h.inD) 0 v3 hr hk (fun g hg => .inr (by have := (hrow.lt hg).1; omega)) rfl, (Only.of_below hb).setCell (p := ⟨r, 0, none⟩) (.inl ⟨h.inD, hlo⟩) _⟩
theorem Only.new {F : Nat → Prop} {a b : World} (h : Only (orNew F a.heap.size) a b) : Only F a b := Only.later (Only.refl F a) h
theorem orOwn {D : Nat → Prop} {n g base : Nat} (h : orNew D n g) (hb : base ≤ g) : orNew (Own D base) n g := h.imp (fun h => ⟨h, hb⟩) id

set_option maxRecDepth 100000 in
set_option maxHeartbeats 2000000 in
theorem rchange_any (base : Nat) (D : Nat → Prop) (r : Nat) (v kv : Value) (k : Pk) (w : World) (h : RefV w base D r v kv k) (hd : 0 ≤ k.done) (hd' : k.done < 4611686018427387904) :
    Calls Try.prog 39 #[.pointer (some ⟨r, 0, none⟩)] w fun e w' => e = .returned (.int .i64 (changeE k)) ∧ RefV w' base D r v kv (changeK k) ∧ Only (fun i => i = r) w w' := by
  have H := Lib.hid h
  obtain ⟨c0, c1, c2, c3, c4, c5⟩ := h.cell
  have C1 : ∀ q : Ext w, q.w.cell? { block := r, off := 1 } = _ := fun q => q.h.cell c1
  have C4 : ∀ q : Ext w, q.w.cell? { block := r, off := 4 } = _ := fun q => q.h.cell c4
  clear h
  by_cases h1 : 0 ≤ k.ops
  · by_cases h2 : k.ops ≤ k.done
    · have hc : crashes k = true := by show (decide (0 ≤ k.ops) && decide (k.ops ≤ k.done)) = true; simp [h1, h2]
      have HC := Lib.hid hc
      clear hc
      go_enter Try.func39, Try.ntmps39
      go_wp2
      (refine wp_region_quiet_ext (by kernel_rfl) (by kernel_rfl) ?_; (repeat (go_big_quiet_step (fail))); refine wpQuiet_nil ?_; intro wq hw'; obtain ⟨⟨_, hq⟩, hw''⟩ := hw'; subst hw'')
      have hv := H.out.below hq
      obtain ⟨_, _, _, _, _, x5⟩ := hv.cell
      have x5f := hv.frozen 5
      have HV := Lib.hid hv
      clear hv
      go_wp2
      refine bodyPost_ret (v := .int .i64 20) (by simp [results, Try.results39, go_sem]) rfl ?_
      refine ⟨ret_int (by rw [changeE, if_pos HC.out]), ?_, (Only.of_below (S := fun i => i = r) hq).setCell (p := ⟨r, 5, none⟩) rfl _⟩
      rw [changeK, if_pos HC.out]
      exact HV.out.stay 5 (.bool true) rfl rfl rfl
    · have hc : crashes k = false := by show (decide (0 ≤ k.ops) && decide (k.ops ≤ k.done)) = false; simp [h2]
      have HC := Lib.hid hc
      clear hc
      go_enter Try.func39, Try.ntmps39
      go_wp2
      (refine wp_region_quiet_ext (by kernel_rfl) (by kernel_rfl) ?_; (repeat (go_big_quiet_step (fail))); refine wpQuiet_nil ?_; intro wq hw'; obtain ⟨⟨_, hq⟩, hw''⟩ := hw'; subst hw'')
      have hv := H.out.below hq
      obtain ⟨_, _, _, _, x4, _⟩ := hv.cell
      have x4f := hv.frozen 4
      have HV := Lib.hid hv
      clear hv
      go_wp2
      refine bodyPost_ret (v := .int .i64 0) (by simp [results, Try.results39, go_sem]) rfl ?_
      refine ⟨ret_int (by rw [changeE, if_neg (by rw [HC.out]; simp)]), ?_, (Only.of_below (S := fun i => i = r) hq).setCell (p := ⟨r, 4, none⟩) rfl _⟩
      rw [changeK, if_neg (by rw [HC.out]; simp)]
      exact HV.out.stay 4 (.int .i64 (k.done + 1)) rfl rfl rfl
  · have hc : crashes k = false := by show (decide (0 ≤ k.ops) && decide (k.ops ≤ k.done)) = false; simp [h1]
    have HC := Lib.hid hc
    have g1 : decide (0 ≤ k.ops) = false := decide_eq_false h1
    clear hc h1
    go_enter Try.func39, Try.ntmps39
    go_wp2
    (refine wp_region_quiet_ext (by kernel_rfl) (by kernel_rfl) ?_; (repeat (go_big_quiet_step (fail))); refine wpQuiet_nil ?_; intro wq hw'; obtain ⟨⟨_, hq⟩, hw''⟩ := hw'; subst hw'')
    have hv := H.out.below hq
    obtain ⟨_, _, _, _, x4, _⟩ := hv.cell
    have x4f := hv.frozen 4
    have HV := Lib.hid hv
    clear hv
    go_wp2
    refine bodyPost_ret (v := .int .i64 0) (by simp [results, Try.results39, go_sem]) rfl ?_
    refine ⟨ret_int (by rw [changeE, if_neg (by rw [HC.out]; simp)]), ?_, (Only.of_below (S := fun i => i = r) hq).setCell (p := ⟨r, 4, none⟩) rfl _⟩
    rw [changeK, if_neg (by rw [HC.out]; simp)]
    exact HV.out.stay 4 (.int .i64 (k.done + 1)) rfl rfl rfl

theorem readyE_a (k : Pk) (x : Nm) : readyE k [x, [97]] = readyE k [x] := by
  unfold readyE
  have : ([x, [97]] : List Nm).all nameB = [x].all nameB := by
    simp only [List.all_cons, List.all_nil, Bool.and_true]
    rw [show nameB [97] = true from by decide, Bool.and_true]
  rw [this]
theorem idxI_ready {k : Pk} {x : Nm} : (idxI x k.fs < 0 ↔ findP x k.fs = none) := by
  unfold idxI
  rcases idxP_find (x := x) (fs := k.fs) with ⟨h1, h2⟩ | ⟨i, f, h1, h2, _⟩
  · rw [h1, h2]; simp
  · rw [h1, h2]; simp

set_option maxRecDepth 100000 in
set_option maxHeartbeats 2000000 in
theorem rnamed_any (base : Nat) (D : Nat → Prop) (r : Nat) (v kv : Value) (k : Pk) (x y : Nm) (w : World) (h : RefV w base D r v kv k) (hm : k.fs.length * 48 ≤ 140737488355328) (hx : x.length ≤ 140737488355328) (hy : y.length ≤ 140737488355328) :
    Calls Try.prog 54 #[.pointer (some ⟨r, 0, none⟩), .string ⟨x.toArray⟩, .string ⟨y.toArray⟩] w fun e w' => e = .returned (.int .i64 (readyE k [x, y])) ∧ w = w' := by
  have HF := Lib.hid (h.files hm)
  obtain ⟨c0, c1, c2, c3, c4, c5⟩ := h.cell
  have HX := Lib.hid (rname_any x w hx)
  have HY := Lib.hid (rname_any y w hy)
  have HD := Lib.hid (find_any _ r v k.fs x w c0 HF.out)
  have HI := Lib.hid (idxI_ready (k := k) (x := x))
  obtain ⟨z, hz⟩ : ∃ z, idxI x k.fs = z := ⟨_, rfl⟩
  rw [hz] at HD HI
  clear hz
  obtain ⟨e, he⟩ : ∃ e, readyE k [x, y] = e := ⟨_, rfl⟩
  rw [he]
  unfold readyE at he
  simp only [List.all_cons, List.all_nil, Bool.and_true] at he
  clear h
  cases hdn : k.down with
  | true =>
    rw [hdn] at he c5
    rw [if_pos rfl] at he
    subst he
    go_enter Try.func54, Try.ntmps54
    go_wp2
    refine bodyPost_ret (v := .int .i64 20) (by simp [results, Try.results54, go_sem]) rfl ?_
    exact ⟨rfl, rfl⟩
  | false =>
    rw [hdn] at he c5
    rw [if_neg (by simp)] at he
    cases hnx : nameB x with
    | false =>
      rw [hnx] at he HX
      rw [if_pos (by rfl)] at he
      subst he
      go_enter Try.func54, Try.ntmps54
      go_wp2_with (go_at_call 36; (with_reducible (refine HX.out.mono ?_)); rintro r w1 ⟨rfl, rfl⟩)
      refine bodyPost_ret (v := .int .i64 23) (by simp [results, Try.results54, go_sem]) rfl ?_
      exact ⟨rfl, rfl⟩
    | true =>
      rw [hnx] at he HX
      cases hny : nameB y with
      | false =>
        rw [hny] at he HY
        rw [if_pos (by rfl)] at he
        subst he
        go_enter Try.func54, Try.ntmps54
        go_wp2_with (first
          | (go_at_call 36; (with_reducible (refine HX.out.mono ?_)); rintro r w1 ⟨rfl, rfl⟩)
          | (go_at_call 36; (with_reducible (refine HY.out.mono ?_)); rintro r w1 ⟨rfl, rfl⟩))
        refine bodyPost_ret (v := .int .i64 23) (by simp [results, Try.results54, go_sem]) rfl ?_
        exact ⟨rfl, rfl⟩
      | true =>
        rw [hny] at he HY
        rw [if_neg (by simp)] at he
        by_cases hi : z < 0
        · rw [HI.out.1 hi] at he
          obtain rfl : 22 = e := he
          go_enter Try.func54, Try.ntmps54
          go_wp2_with (first
            | (go_at_call 36; (with_reducible (refine HX.out.mono ?_)); rintro r w1 ⟨rfl, rfl⟩)
            | (go_at_call 36; (with_reducible (refine HY.out.mono ?_)); rintro r w1 ⟨rfl, rfl⟩)
            | (go_at_call 37; refine HD.out.mono ?_; rintro r w1 ⟨rfl, rfl⟩))
          refine bodyPost_ret (v := .int .i64 22) (by simp [results, Try.results54, go_sem]) rfl ?_
          exact ⟨rfl, rfl⟩
        · obtain rfl : 0 = e := by
            rw [← he]
            cases hfd : findP x k.fs with
            | none => exact absurd (HI.out.2 hfd) hi
            | some f => rfl
          clear he
          go_enter Try.func54, Try.ntmps54
          go_wp2_with (first
            | (go_at_call 36; (with_reducible (refine HX.out.mono ?_)); rintro r w1 ⟨rfl, rfl⟩)
            | (go_at_call 36; (with_reducible (refine HY.out.mono ?_)); rintro r w1 ⟨rfl, rfl⟩)
            | (go_at_call 37; refine HD.out.mono ?_; rintro r w1 ⟨rfl, rfl⟩))
          refine bodyPost_ret (v := .int .i64 0) (by simp [results, Try.results54, go_sem]) rfl ?_
          exact ⟨rfl, rfl⟩
end Go.Proofs.Ytcmjoaepihbodaa
