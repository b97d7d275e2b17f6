/-
vdisk's change, ready.
-/
import Derived.Test.YtcmjoaepihbodaaDkD
import Derived.Deep.Cut
import Derived.Deep.CutRange
import Derived.Deep.DeepCutAuto
namespace Go.Proofs.Ytcmjoaepihbodaa
open Go.RowKit Go.BigFrame Go.Sort Go.Shelf Go.Lib Go.Maps
attribute [local go_sem ↓] Go.wp_at_zero Go.wp_at_succ

set_option maxRecDepth 100000 in
set_option maxHeartbeats 2000000 in
theorem change_any (F : Nat → Prop) (p : Nat) (k : Pk) (w : World) (h : DiskP w F p k) (hd : 0 ≤ k.done) (hd' : k.done < 4611686018427387904) :
    Calls Try.prog 35 #[.pointer (some ⟨p, 0, none⟩)] w fun r w' => r = .returned (.int .i64 (changeE k)) ∧ DiskP w' F p (changeK k) ∧ Only F w w' := by
  obtain ⟨mb, kv, d, h, rfl⟩ := h
  have H := Lib.hid h
  have hbp : F p := h.loP
  obtain ⟨c0, c1, c2, c3, c4, c5, c6⟩ := h.cell
  have hfz := h.frozen
  have hd1 : 0 ≤ d.done := hd
  have hd2 : d.done < 4611686018427387904 := hd'
  have C1 : ∀ q : Ext w, q.w.cell? { block := p, off := 1 } = _ := fun q => q.h.cell c1
  have C4 : ∀ q : Ext w, q.w.cell? { block := p, off := 4 } = _ := fun q => q.h.cell c4
  clear h hd hd'
  by_cases h1 : 0 ≤ d.ops
  · by_cases h2 : d.ops ≤ d.done
    · have hc : crashes d.pk = true := by show (decide (0 ≤ d.ops) && decide (d.ops ≤ d.done)) = true; simp [h1, h2]
      have HC := Lib.hid hc
      clear hc
      go_enter Try.func35, Try.ntmps35
      go_wp2
      (refine wp_region_quiet_ext (by kernel_rfl) (by kernel_rfl) ?_; (repeat (go_big_quiet_step (fail))); refine wpQuiet_nil ?_; intro wq hw'; obtain ⟨⟨_, hq⟩, hw''⟩ := hw'; subst hw'')
      have hv := H.out.below hq
      obtain ⟨_, _, _, _, _, _, x6⟩ := hv.cell
      have x6f := hv.frozen 6
      have HV := Lib.hid hv
      clear hv
      go_wp2
      refine bodyPost_ret (v := .int .i64 20) (by simp [results, Try.results35, go_sem]) rfl ?_
      refine ⟨ret_int (by rw [changeE, if_pos HC.out]), ⟨mb, kv, { d with down := true }, ?_, by rw [changeK, if_pos HC.out]; rfl⟩, (Only.of_below hq).setCell (p := ⟨p, 6, none⟩) hbp _⟩
      exact HV.out.store 6 (.bool true) { d with down := true } kv rfl HV.out.keep rfl
    · have hc : crashes d.pk = false := by show (decide (0 ≤ d.ops) && decide (d.ops ≤ d.done)) = false; simp [h2]
      have HC := Lib.hid hc
      clear hc
      go_enter Try.func35, Try.ntmps35
      go_wp2
      (refine wp_region_quiet_ext (by kernel_rfl) (by kernel_rfl) ?_; (repeat (go_big_quiet_step (fail))); refine wpQuiet_nil ?_; intro wq hw'; obtain ⟨⟨_, hq⟩, hw''⟩ := hw'; subst hw'')
      have hv := H.out.below hq
      obtain ⟨_, _, _, _, x4, _, _⟩ := hv.cell
      have x4f := hv.frozen 4
      have HV := Lib.hid hv
      clear hv
      go_wp2
      refine bodyPost_ret (v := .int .i64 0) (by simp [results, Try.results35, go_sem]) rfl ?_
      refine ⟨ret_int (by rw [changeE, if_neg (by rw [HC.out]; simp)]), ⟨mb, kv, { d with done := d.done + 1 }, ?_, by rw [changeK, if_neg (by rw [HC.out]; simp)]; rfl⟩, (Only.of_below hq).setCell (p := ⟨p, 4, none⟩) hbp _⟩
      exact HV.out.store 4 (.int .i64 (d.done + 1)) { d with done := d.done + 1 } kv rfl HV.out.keep rfl
  · have hc : crashes d.pk = false := by show (decide (0 ≤ d.ops) && decide (d.ops ≤ d.done)) = false; simp [h1]
    have HC := Lib.hid hc
    have g1 : decide (0 ≤ d.ops) = false := decide_eq_false h1
    clear hc h1
    go_enter Try.func35, Try.ntmps35
    go_wp2
    (refine wp_region_quiet_ext (by kernel_rfl) (by kernel_rfl) ?_; (repeat (go_big_quiet_step (fail))); refine wpQuiet_nil ?_; intro wq hw'; obtain ⟨⟨_, hq⟩, hw''⟩ := hw'; subst hw'')
    have hv := H.out.below hq
    obtain ⟨_, _, _, _, x4, _, _⟩ := hv.cell
    have x4f := hv.frozen 4
    have HV := Lib.hid hv
    clear hv
    go_wp2
    refine bodyPost_ret (v := .int .i64 0) (by simp [results, Try.results35, go_sem]) rfl ?_
    refine ⟨ret_int (by rw [changeE, if_neg (by rw [HC.out]; simp)]), ⟨mb, kv, { d with done := d.done + 1 }, ?_, by rw [changeK, if_neg (by rw [HC.out]; simp)]; rfl⟩, (Only.of_below hq).setCell (p := ⟨p, 4, none⟩) hbp _⟩
    exact HV.out.store 4 (.int .i64 (d.done + 1)) { d with done := d.done + 1 } kv rfl HV.out.keep rfl

/-- a slice of strings. -/
def Strs (w : World) (S : Nat → Prop) (v : Value) (ss : List Nm) : Prop :=
  ∃ A c, v = .slice A ss.length c ∧ ss.length ≤ c ∧ c ≤ 9223372036854775807 ∧ Row w S A ss.length 1 (ss.map encStr)
theorem Strs.below {w w' : World} {S : Nat → Prop} {v : Value} {ss : List Nm} (h : Strs w S v ss) (hb : Below w.heap.size w w') : Strs w' S v ss := by
  obtain ⟨A, c, e, h1, h2, h3⟩ := h
  exact ⟨A, c, e, h1, h2, h3.below hb⟩

set_option maxHeartbeats 2000000 in
theorem ready1_any (x : Nm) (w : World) (hl : x.length ≤ 140737488355328) :
    Calls Try.prog 53 #[.string ⟨x.toArray⟩] w fun r w' => r = .returned (.bool (!nameB x)) ∧ Below w.heap.size w w' := by
  go_enter Try.func53, Try.ntmps53
  go_wp2_with (go_at_call 29; refine (named_any x _ hl).mono ?_; rintro r w1 ⟨rfl, hb1⟩)
  go_ret
  exact ⟨rfl, hb1⟩

set_option maxRecDepth 100000 in
set_option maxHeartbeats 2000000 in
theorem idxNames (S : Nat → Prop) (v : Value) (ss : List Nm) (w : World) (hv : Strs w S v ss) (hl : ∀ x ∈ ss, x.length ≤ 140737488355328) :
    Calls Try.prog 60 #[v, .func (.func 53) #[] #[]] w fun r w' => ∃ i : Int, r = .returned (.int .i64 i) ∧ (0 ≤ i ↔ ss.all nameB = false) ∧ Below w.heap.size w w' := by
  obtain ⟨A, c, rfl, hc, hcm, hr⟩ := hv
  obtain ⟨n, hn⟩ : ∃ n, ss.length = n := ⟨_, rfl⟩
  rw [hn] at hr hc ⊢
  have HN := Lib.hid hn
  have HL := Lib.hid hl
  have HR := Lib.hid hr
  clear hn hl hr
  go_enter Try.func60, Try.ntmps60
  go_wp2
  go_loopw [8] (fun t wr => ∃ k : Nat, k ≤ n ∧ t = .int .i64 k ∧ (ss.take k).all nameB = true ∧ Below w.heap.size w wr) (fun t _ => n - (intOf t).toNat)
  case atStart => exact ⟨0, Nat.zero_le _, rfl, rfl, Below.refl _ _⟩
  case round =>
    obtain ⟨k, hk, rfl, hall, hbel⟩ := hrel
    have HA := Lib.hid hall
    have HB := Lib.hid hbel
    clear hall hbel
    by_cases hkn : k < n
    · obtain ⟨x, hx⟩ : ∃ x, ss[k]? = some x := ⟨_, List.getElem?_eq_getElem (by rw [HN.out]; exact hkn)⟩
      obtain ⟨b, o, u, rfl, _, _, hu, hcell⟩ := (HR.out.below HB.out).at_ hkn
      obtain rfl : u = encStr x := by rw [List.getElem?_map, hx] at hu; injection hu with hu; exact hu.symm
      have hxl := HL.out x (List.mem_of_getElem? hx)
      have HX := Lib.hid hx
      unfold encStr at hcell
      clear hu hx
      cases hb : nameB x with
      | true =>
        have HNB := Lib.hid hb
        clear hb
        go_wp2_with (go_at_call 53; refine (ready1_any x _ hxl).mono ?_; rintro r w1 ⟨rfl, hb1⟩; rw [HNB.out])
        refine ⟨⟨k + 1, by omega, by go_num, ?_, HB.out.trans (hb1.mono HB.out.size)⟩, by simp [intOf]; omega⟩
        rw [take_snoc HX.out, List.all_append, HA.out]
        simp [HNB.out]
      | false =>
        have HNB := Lib.hid hb
        clear hb
        go_wp2_with (go_at_call 53; refine (ready1_any x _ hxl).mono ?_; rintro r w1 ⟨rfl, hb1⟩; rw [HNB.out])
        go_ret
        refine ⟨_, rfl, ⟨fun _ => ?_, fun _ => by omega⟩, HB.out.trans (hb1.mono HB.out.size)⟩
        rw [List.all_eq_false]
        exact ⟨x, List.mem_of_getElem? HX.out, by rw [HNB.out]; simp⟩
    · obtain rfl : k = n := by omega
      go_wp2
      go_ret
      refine ⟨-1, rfl, ⟨fun h => by omega, fun h => ?_⟩, HB.out⟩
      have := HA.out
      rw [List.take_of_length_le (by rw [HN.out]; exact Nat.le_refl _), h] at this
      cases this

set_option maxHeartbeats 2000000 in
theorem anyNames (S : Nat → Prop) (v : Value) (ss : List Nm) (w : World) (hv : Strs w S v ss) (hl : ∀ x ∈ ss, x.length ≤ 140737488355328) :
    Calls Try.prog 52 #[v, .func (.func 53) #[] #[]] w fun r w' => r = .returned (.bool (!ss.all nameB)) ∧ Below w.heap.size w w' := by
  have HC := Lib.hid (idxNames S v ss w hv hl)
  obtain ⟨A, c, rfl, _⟩ := hv
  go_enter Try.func52, Try.ntmps52
  go_wp2_with (go_at_call 60; refine HC.out.mono ?_; rintro r w1 ⟨i, rfl, hi, hb⟩)
  go_ret
  refine ⟨ret_bool ?_, hb⟩
  rw [Bool.eq_iff_iff, decide_eq_true_iff]
  simp

theorem ready_nil (v : Value) (w : World) : Calls Try.prog 34 #[.pointer none, v] w fun r w' => r = .returned (.int .i64 1) ∧ w = w' := by
  go_enter Try.func34, Try.ntmps34
  go_wp2
  go_ret
  exact ⟨rfl, rfl⟩

set_option maxRecDepth 100000 in
set_option maxHeartbeats 4000000 in
theorem ready_any (F : Nat → Prop) (p : Nat) (k : Pk) (S : Nat → Prop) (v : Value) (ss : List Nm) (w : World) (h : DiskP w F p k) (hv : Strs w S v ss) (hl : ∀ x ∈ ss, x.length ≤ 140737488355328) :
    Calls Try.prog 34 #[.pointer (some ⟨p, 0, none⟩), v] w fun r w' => r = .returned (.int .i64 (readyE k ss)) ∧ Below w.heap.size w w' := by
  obtain ⟨mb, kv, d, h, rfl⟩ := h
  have H := Lib.hid h
  obtain ⟨c0, _, _, _, _, _, c6⟩ := h.cell
  have HV := Lib.hid hv
  have HL := Lib.hid hl
  have hln : ss.length ≤ 9223372036854775807 := by obtain ⟨_, _, _, h1, h2, _⟩ := hv; omega
  obtain ⟨A, c, rfl, _⟩ := hv
  clear h hl
  cases hd : d.down with
  | true =>
    rw [hd] at c6
    have e1 : readyE d.pk ss = 20 := by show (if d.down = true then _ else _) = _; rw [hd]; rfl
    rw [e1]
    clear e1 hd
    go_enter Try.func34, Try.ntmps34
    go_wp2
    go_ret
    exact ⟨rfl, Below.refl _ _⟩
  | false =>
    rw [hd] at c6
    cases hb : ss.all nameB with
    | false =>
      have e1 : readyE d.pk ss = 23 := by show (if d.down = true then _ else _) = _; rw [hd, hb]; rfl
      rw [e1]
      have HB := Lib.hid hb
      clear e1 hd hb
      go_enter Try.func34, Try.ntmps34
      go_wp2_with (go_at_call 52; refine (anyNames S _ ss _ HV.out HL.out).mono ?_; rintro r w1 ⟨rfl, hb1⟩; rw [HB.out])
      go_ret
      exact ⟨rfl, hb1⟩
    | true =>
      have HB := Lib.hid hb
      cases ss with
      | nil =>
        have e1 : readyE d.pk [] = 0 := by show (if d.down = true then _ else _) = _; rw [hd, hb]; rfl
        rw [e1]
        clear e1 hd hb
        go_enter Try.func34, Try.ntmps34
        go_wp2_with (go_at_call 52; refine (anyNames S _ [] _ HV.out HL.out).mono ?_; rintro r w1 ⟨rfl, hb1⟩; rw [HB.out])
        (refine wp_region_quiet_ext (by kernel_rfl) (by kernel_rfl) ?_; (repeat (go_big_quiet_step (fail))); refine wpQuiet_nil ?_; intro wq hw'; obtain ⟨⟨_, hq⟩, hw''⟩ := hw'; subst hw'')
        go_wp2
        go_ret
        exact ⟨rfl, hb1.trans (Below.mono hq hb1.size)⟩
      | cons x l =>
        have e1 : readyE d.pk (x :: l) = if (findF x d.ns).isNone then 22 else 0 := by
          show (if d.down = true then _ else _) = _
          rw [hd, hb]
          show (if (findP x (d.ns.map Fd.fl)).isNone = true then _ else _) = _
          rw [findP_map]
          cases findF x d.ns <;> rfl
        rw [e1]
        obtain ⟨res, hres⟩ : ∃ res : Int, (if (findF x d.ns).isNone then (22 : Int) else 0) = res := ⟨_, rfl⟩
        rw [hres]
        have HRES := Lib.hid hres
        clear e1 hd hb hres
        obtain ⟨n, hn⟩ : ∃ n, (x :: l).length = n := ⟨_, rfl⟩
        have hn0 : 0 < n := by rw [← hn]; simp
        have HN := Lib.hid hn
        rw [hn] at hln ⊢
        obtain ⟨b, o, hA, hcell⟩ : ∃ b o, A = some ⟨b, o, none⟩ ∧ w.cell? ⟨b, o, none⟩ = some (.string ⟨x.toArray⟩) := by
          obtain ⟨A', c', hE, _, _, hr⟩ := HV.out
          injection hE with e1 e2 e3
          subst e1
          obtain ⟨b, o, u, hA, _, _, hu, hc⟩ := hr.at_ (k := 0) (by simp)
          simp [encStr] at hu
          exact ⟨b, o, hA, by rw [hu]; simpa using hc⟩
        subst hA
        have HX := Lib.hid hcell
        have hg : decide (0 < n) = true := decide_eq_true hn0
        have hxl := HL.out x List.mem_cons_self
        have HV' : Hid (Strs w S (.slice (some ⟨b, o, none⟩) n c) (x :: l)) := Lib.hid (hn ▸ HV.out)
        clear hcell hn
        go_enter Try.func34, Try.ntmps34
        go_upto_region 7 with (go_at_call 52; refine (anyNames S _ (x :: l) _ HV'.out HL.out).mono ?_; rintro r w1 ⟨rfl, hb1⟩; rw [HB.out])
        have hv1 := H.out.below hb1
        obtain ⟨x0, _⟩ := hv1.cell
        have hx1 := (World.cell?_of_block (a := ⟨b, o, none⟩) (hb1.block b (World.block_lt_of_cell? w _ HX.out))).trans HX.out
        have F0 : ∀ q : Ext w1, q.w.cell? { block := p, off := 0 } = _ := fun q => q.h.cell x0
        have F1 : ∀ q : Ext w1, q.w.cell? { block := b, off := o } = _ := fun q => q.h.cell hx1
        have F2 : ∀ q : Ext w1, (Instr.lookup 70 (.map (some mb)) (.string ⟨x.toArray⟩) false).run Try.prog q.w = .ok (ptrF (findF x d.ns)) q.w := fun q => (hv1.below q.h).look x hxl
        clear hv1
        cases hfx : findF x d.ns with
        | none =>
          have hr := HRES.out
          rw [hfx] at F2 hr
          obtain rfl : _ = res := hr
          unfold ptrF at F2
          clear hfx
          (refine wp_region_quiet_ext (by kernel_rfl) (by kernel_rfl) ?_; (repeat (go_big_quiet_step (fail))); refine wpQuiet_nil ?_; intro wq hw'; obtain ⟨⟨_, hq⟩, hw''⟩ := hw'; subst hw'')
          go_wp2
          go_ret
          exact ⟨rfl, hb1.trans (Below.mono hq hb1.size)⟩
        | some f =>
          have hr := HRES.out
          rw [hfx] at F2 hr
          obtain rfl : _ = res := hr
          unfold ptrF at F2
          clear hfx
          (refine wp_region_quiet_ext (by kernel_rfl) (by kernel_rfl) ?_; (repeat (go_big_quiet_step (fail))); refine wpQuiet_nil ?_; intro wq hw'; obtain ⟨⟨_, hq⟩, hw''⟩ := hw'; subst hw'')
          go_wp2
          go_ret
          exact ⟨rfl, hb1.trans (Below.mono hq hb1.size)⟩
end Go.Proofs.Ytcmjoaepihbodaa
