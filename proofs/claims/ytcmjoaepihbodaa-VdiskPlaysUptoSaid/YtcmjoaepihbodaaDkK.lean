/-
vdisk's Of: the two closures, looked for in the files.
-/
import Derived.Test.YtcmjoaepihbodaaDkJ
namespace Go.Proofs.Ytcmjoaepihbodaa
open Go.RowKit Go.BigFrame Go.Sort Go.Shelf Go.Lib Go.Maps
attribute [local go_sem ↓] Go.wp_at_zero Go.wp_at_succ

def nmB (f : Fl) : Bool := !nameB f.name
def rgB (f : Fl) : Bool := decide (f.synced < 0) || decide ((f.data.length : Int) < f.synced)
theorem flR.cells {w : World} {S : Nat → Prop} {f : Fl} {cs : List Value} (h : flR w S f cs) : ∃ A c, cs = [.string ⟨f.name.toArray⟩, .slice A f.data.length c, .int .i64 f.synced] := by
  obtain ⟨v, rfl, hv, _⟩ := h
  obtain ⟨A, c, rfl⟩ := slice_form hv
  exact ⟨A, c, rfl⟩
set_option maxRecDepth 100000 in
set_option maxHeartbeats 2000000 in
theorem cl1_any (f : Fl) (A : Option Addr) (c : Nat) (w : World) (hl : f.name.length ≤ 140737488355328) :
    Calls Try.prog 28 #[.agg #[.string ⟨f.name.toArray⟩, .slice A f.data.length c, .int .i64 f.synced]] w fun r w' => r = .returned (.bool (nmB f)) ∧ Below w.heap.size w w' := by
  have hA : Below w.heap.size w (w.alloc (.cells #[.string ⟨f.name.toArray⟩, .slice A f.data.length c, .int .i64 f.synced] 37)) := (Below.refl _ _).alloc (Nat.le_refl _) _
  have HA := Lib.hid hA
  clear hA
  go_enter Try.func28, Try.ntmps28
  go_wp2_with (go_at_call 29; refine (named_any f.name _ hl).mono ?_; rintro r w1 ⟨rfl, hb1⟩)
  go_ret
  exact ⟨rfl, HA.out.trans (hb1.mono HA.out.size)⟩
set_option maxRecDepth 100000 in
set_option maxHeartbeats 2000000 in
theorem cl2_any (f : Fl) (A : Option Addr) (c : Nat) (w : World) (_ : f.name.length ≤ 140737488355328) :
    Calls Try.prog 31 #[.agg #[.string ⟨f.name.toArray⟩, .slice A f.data.length c, .int .i64 f.synced]] w fun r w' => r = .returned (.bool (rgB f)) ∧ Below w.heap.size w w' := by
  have hA : Below w.heap.size w (w.alloc (.cells #[.string ⟨f.name.toArray⟩, .slice A f.data.length c, .int .i64 f.synced] 37)) := (Below.refl _ _).alloc (Nat.le_refl _) _
  have HA := Lib.hid hA
  clear hA
  cases h : decide (f.synced < 0) with
  | true =>
    go_enter Try.func31, Try.ntmps31
    go_wp2
    go_ret
    exact ⟨ret_bool (by unfold rgB; rw [h]; rfl), HA.out⟩
  | false =>
    go_enter Try.func31, Try.ntmps31
    go_wp2
    go_ret
    exact ⟨ret_bool (by unfold rgB; rw [h]; rfl), HA.out⟩

set_option maxRecDepth 100000 in
set_option maxHeartbeats 2000000 in
theorem idx1 (S : Nat → Prop) (v : Value) (fs : List Fl) (w : World) (hv : FilesV w S v fs) :
    Calls Try.prog 46 #[v, .func (.func 28) #[] #[]] w fun r w' => ∃ i : Int, r = .returned (.int .i64 i) ∧ (0 ≤ i ↔ fs.any nmB = true) ∧ Below w.heap.size w w' := by
  obtain ⟨A, c, rfl⟩ := hv.form
  obtain ⟨n, hn⟩ : ∃ n, fs.length = n := ⟨_, rfl⟩
  have hmax : n * 48 ≤ 140737488355328 := by obtain ⟨_, _, _, _, _, _, h3, _⟩ := hv; rw [← hn]; exact h3
  rw [hn] at hv ⊢
  have HN := Lib.hid hn
  have HV := Lib.hid hv
  clear hn hv
  go_enter Try.func46, Try.ntmps46
  go_wp2
  go_loopw [8] (fun t wr => ∃ k : Nat, k ≤ n ∧ t = .int .i64 k ∧ (fs.take k).any nmB = false ∧ Below w.heap.size w wr) (fun t _ => n - (intOf t).toNat)
  case atStart => exact ⟨0, Nat.zero_le _, rfl, rfl, Below.refl _ _⟩
  case round =>
    obtain ⟨k, hk, rfl, hall, hbel⟩ := hrel
    have HA := Lib.hid hall
    have HB := Lib.hid hbel
    clear hall hbel
    by_cases hkn : k < n
    · obtain ⟨f, hf⟩ : ∃ f, fs[k]? = some f := ⟨_, List.getElem?_eq_getElem (by rw [HN.out]; exact hkn)⟩
      obtain ⟨b, o, cs, rfl, _, _, hR, hc⟩ := Rows.at_ flFine (HV.out.below flFine HB.out) hf
      obtain ⟨A', c', rfl⟩ := hR.cells
      have hxl : f.name.length ≤ 140737488355328 := by obtain ⟨_, _, _, h⟩ := hR; exact h
      have c0 : wr.cell? ⟨b, o + k * 3, none⟩ = _ := hc 0 _ rfl
      have c1 : wr.cell? ⟨b, o + k * 3 + 1, none⟩ = _ := hc 1 _ rfl
      have c2 : wr.cell? ⟨b, o + k * 3 + 2, none⟩ = _ := hc 2 _ rfl
      have HX := Lib.hid hf
      clear hf hR hc
      cases hb : nmB f with
      | false =>
        have HNB := Lib.hid hb
        clear hb
        go_wp2_with (go_at_call 28; refine (cl1_any f _ _ _ hxl).mono ?_; rintro r w1 ⟨rfl, hb1⟩; rw [HNB.out])
        refine ⟨⟨k + 1, by omega, by go_num, ?_, HB.out.trans (hb1.mono HB.out.size)⟩, by simp [intOf]; omega⟩
        rw [take_snoc HX.out, List.any_append, HA.out]
        simp [HNB.out]
      | true =>
        have HNB := Lib.hid hb
        clear hb
        go_wp2_with (go_at_call 28; refine (cl1_any f _ _ _ hxl).mono ?_; rintro r w1 ⟨rfl, hb1⟩; rw [HNB.out])
        go_ret
        refine ⟨_, rfl, ⟨fun _ => ?_, fun _ => by omega⟩, HB.out.trans (hb1.mono HB.out.size)⟩
        exact List.any_eq_true.2 ⟨f, List.mem_of_getElem? HX.out, HNB.out⟩
    · obtain rfl : k = n := by omega
      go_wp2
      go_ret
      refine ⟨-1, rfl, ⟨fun h => by omega, fun h => ?_⟩, HB.out⟩
      have := HA.out
      rw [List.take_of_length_le (by rw [HN.out]; exact Nat.le_refl _), h] at this
      cases this

set_option maxHeartbeats 2000000 in
theorem any1 (S : Nat → Prop) (v : Value) (fs : List Fl) (w : World) (hv : FilesV w S v fs) :
    Calls Try.prog 27 #[v, .func (.func 28) #[] #[]] w fun r w' => r = .returned (.bool (fs.any nmB)) ∧ Below w.heap.size w w' := by
  have HC := Lib.hid (idx1 S v fs w hv)
  obtain ⟨A, c, rfl⟩ := hv.form
  clear hv
  go_enter Try.func27, Try.ntmps27
  go_wp2_with (go_at_call 46; refine HC.out.mono ?_; rintro r w1 ⟨i, rfl, hi, hb⟩; have HI := Lib.hid hi; clear hi)
  go_ret
  refine ⟨ret_bool ?_, hb⟩
  rw [Bool.eq_iff_iff, decide_eq_true_iff]
  exact HI.out

set_option maxRecDepth 100000 in
set_option maxHeartbeats 2000000 in
theorem idx2 (S : Nat → Prop) (v : Value) (fs : List Fl) (w : World) (hv : FilesV w S v fs) :
    Calls Try.prog 46 #[v, .func (.func 31) #[] #[]] w fun r w' => ∃ i : Int, r = .returned (.int .i64 i) ∧ (0 ≤ i ↔ fs.any rgB = true) ∧ Below w.heap.size w w' := by
  obtain ⟨A, c, rfl⟩ := hv.form
  obtain ⟨n, hn⟩ : ∃ n, fs.length = n := ⟨_, rfl⟩
  have hmax : n * 48 ≤ 140737488355328 := by obtain ⟨_, _, _, _, _, _, h3, _⟩ := hv; rw [← hn]; exact h3
  rw [hn] at hv ⊢
  have HN := Lib.hid hn
  have HV := Lib.hid hv
  clear hn hv
  go_enter Try.func46, Try.ntmps46
  go_wp2
  go_loopw [8] (fun t wr => ∃ k : Nat, k ≤ n ∧ t = .int .i64 k ∧ (fs.take k).any rgB = false ∧ Below w.heap.size w wr) (fun t _ => n - (intOf t).toNat)
  case atStart => exact ⟨0, Nat.zero_le _, rfl, rfl, Below.refl _ _⟩
  case round =>
    obtain ⟨k, hk, rfl, hall, hbel⟩ := hrel
    have HA := Lib.hid hall
    have HB := Lib.hid hbel
    clear hall hbel
    by_cases hkn : k < n
    · obtain ⟨f, hf⟩ : ∃ f, fs[k]? = some f := ⟨_, List.getElem?_eq_getElem (by rw [HN.out]; exact hkn)⟩
      obtain ⟨b, o, cs, rfl, _, _, hR, hc⟩ := Rows.at_ flFine (HV.out.below flFine HB.out) hf
      obtain ⟨A', c', rfl⟩ := hR.cells
      have hxl : f.name.length ≤ 140737488355328 := by obtain ⟨_, _, _, h⟩ := hR; exact h
      have c0 : wr.cell? ⟨b, o + k * 3, none⟩ = _ := hc 0 _ rfl
      have c1 : wr.cell? ⟨b, o + k * 3 + 1, none⟩ = _ := hc 1 _ rfl
      have c2 : wr.cell? ⟨b, o + k * 3 + 2, none⟩ = _ := hc 2 _ rfl
      have HX := Lib.hid hf
      clear hf hR hc
      cases hb : rgB f with
      | false =>
        have HNB := Lib.hid hb
        clear hb
        go_wp2_with (go_at_call 31; refine (cl2_any f _ _ _ hxl).mono ?_; rintro r w1 ⟨rfl, hb1⟩; rw [HNB.out])
        refine ⟨⟨k + 1, by omega, by go_num, ?_, HB.out.trans (hb1.mono HB.out.size)⟩, by simp [intOf]; omega⟩
        rw [take_snoc HX.out, List.any_append, HA.out]
        simp [HNB.out]
      | true =>
        have HNB := Lib.hid hb
        clear hb
        go_wp2_with (go_at_call 31; refine (cl2_any f _ _ _ hxl).mono ?_; rintro r w1 ⟨rfl, hb1⟩; rw [HNB.out])
        go_ret
        refine ⟨_, rfl, ⟨fun _ => ?_, fun _ => by omega⟩, HB.out.trans (hb1.mono HB.out.size)⟩
        exact List.any_eq_true.2 ⟨f, List.mem_of_getElem? HX.out, HNB.out⟩
    · obtain rfl : k = n := by omega
      go_wp2
      go_ret
      refine ⟨-1, rfl, ⟨fun h => by omega, fun h => ?_⟩, HB.out⟩
      have := HA.out
      rw [List.take_of_length_le (by rw [HN.out]; exact Nat.le_refl _), h] at this
      cases this

set_option maxHeartbeats 2000000 in
theorem any2 (S : Nat → Prop) (v : Value) (fs : List Fl) (w : World) (hv : FilesV w S v fs) :
    Calls Try.prog 27 #[v, .func (.func 31) #[] #[]] w fun r w' => r = .returned (.bool (fs.any rgB)) ∧ Below w.heap.size w w' := by
  have HC := Lib.hid (idx2 S v fs w hv)
  obtain ⟨A, c, rfl⟩ := hv.form
  clear hv
  go_enter Try.func27, Try.ntmps27
  go_wp2_with (go_at_call 46; refine HC.out.mono ?_; rintro r w1 ⟨i, rfl, hi, hb⟩; have HI := Lib.hid hi; clear hi)
  go_ret
  refine ⟨ret_bool ?_, hb⟩
  rw [Bool.eq_iff_iff, decide_eq_true_iff]
  exact HI.out
end Go.Proofs.Ytcmjoaepihbodaa
