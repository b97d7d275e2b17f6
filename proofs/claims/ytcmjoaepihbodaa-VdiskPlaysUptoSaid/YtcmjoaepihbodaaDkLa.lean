/-
ref07's Name, find.
-/
import Derived.Test.YtcmjoaepihbodaaDkL
import Derived.Test.YtcmjoaepihbodaaDkLp
import Derived.Sort.Walk0
namespace Go.Proofs.Ytcmjoaepihbodaa
open Go.RowKit Go.BigFrame
attribute [local go_sem ↓] Go.wp_at_zero Go.wp_at_succ

theorem ba_take (A : ByteArray) (k : Nat) (h : k < A.size) : A.data.toList.take (k + 1) = A.data.toList.take k ++ [A[k]] := by
  rw [List.take_add_one, List.getElem?_eq_getElem (by simpa using h)]; rfl
theorem ba_bad (A : ByteArray) (k : Nat) (h : k < A.size) (hb : okByte A[k] = false) : nameB A.data.toList = false := by
  have : A.data.toList.all okByte = false := by
    rw [List.all_eq_false]
    refine ⟨A[k], ?_, by rw [hb]; simp⟩
    have : A.data.toList[k]? = some A[k] := by rw [List.getElem?_eq_getElem (by simpa using h)]; rfl
    exact List.mem_of_getElem? this
  unfold nameB
  rw [this, Bool.and_false]
set_option maxRecDepth 100000 in
set_option maxHeartbeats 4000000 in
theorem rname_ba (A : ByteArray) (w : World) (hx : A.size ≤ 140737488355328) :
    Calls Try.prog 36 #[.string A] w fun e w' => e = .returned (.bool (nameB A.data.toList)) ∧ w = w' := by
  go_enter Try.func36, Try.ntmps36
  go_wp2
  go_loopw [3] (fun t wr => ∃ k : Nat, k ≤ A.size ∧ t = .int .i64 k ∧ (A.data.toList.take k).all okByte = true ∧ wr = w) (fun t _ => A.size - (intOf t).toNat)
  case atStart => exact ⟨0, by omega, rfl, rfl, rfl⟩
  case round =>
    obtain ⟨k, hk, rfl, hall, rfl⟩ := hrel
    have HALL := Lib.hid hall
    clear hall
    by_cases h1 : k < A.size
    · have HT := Lib.hid (ba_take A k h1)
      have HBAD := Lib.hid (ba_bad A k h1)
      have hok : Hid (okByte A[k] = !badRune A[k].toNat) := Lib.hid (by rw [badRune_byte, Bool.not_not])
      have hb := A[k].toNat_lt
      rcases (by omega : (A[k].toNat : Int) < 45 ∨ (A[k].toNat : Int) = 45 ∨ (A[k].toNat : Int) = 46 ∨ (A[k].toNat : Int) = 47 ∨ (48 ≤ (A[k].toNat : Int) ∧ (A[k].toNat : Int) ≤ 57) ∨ (58 ≤ (A[k].toNat : Int) ∧ (A[k].toNat : Int) < 97) ∨ (97 ≤ (A[k].toNat : Int) ∧ (A[k].toNat : Int) ≤ 122) ∨ 122 < (A[k].toNat : Int)) with h | h | h | h | h | h | h | h
      all_goals
        first
          | (have hg : okByte A[k] = true := by (rw [hok.out]; unfold badRune; generalize A[k].toNat = z at *; simp; omega)
             have HG := Lib.hid hg
             clear hg
             go_wp2
             all_goals first | (exfalso; omega) | skip
             refine ⟨⟨k + 1, by omega, by go_num, by rw [HT.out, List.all_append, HALL.out, List.all_cons, HG.out]; rfl, by trivial⟩, by simp [intOf]; omega⟩)
          | (have hg : okByte A[k] = false := by (rw [hok.out]; unfold badRune; generalize A[k].toNat = z at *; simp; omega)
             have HG := Lib.hid (HBAD.out hg)
             clear hg
             go_wp2
             all_goals first | (exfalso; omega) | (go_ret; exact ⟨ret_bool HG.out.symm, rfl⟩) | (exfalso; rename_i hh; revert hh; generalize (A[k].toNat : Int) = z at *; intro hh; simp at hh; omega))
    · have h1' : k = A.size := by omega
      have hlen : A.data.toList.length = A.size := by simp
      have hall' : A.data.toList.all okByte = true := by
        have := HALL.out
        rwa [List.take_of_length_le (by omega)] at this
      have HA' := Lib.hid hall'
      have HL := Lib.hid hlen
      clear hall' hlen
      by_cases h2 : A.size = 0
      · have h3 : Hid (nameB A.data.toList = false) := Lib.hid (by
          have : A.data.toList = [] := List.eq_nil_of_length_eq_zero (HL.out.trans h2)
          rw [this]; rfl)
        have g1 : decide (1 ≤ (A.size : Int)) = false := decide_eq_false (by omega)
        go_wp2
        go_ret
        exact ⟨ret_bool h3.out.symm, rfl⟩
      · by_cases h3 : A.size ≤ 32
        · have h4 : Hid (nameB A.data.toList = true) := Lib.hid (by
            unfold nameB
            rw [HA'.out, HL.out, decide_eq_true h3]
            rw [show A.data.toList.isEmpty = false from by rw [Bool.eq_false_iff]; intro e; exact h2 (by rw [← HL.out, List.isEmpty_iff.1 e]; rfl)]
            rfl)
          have g1 : decide (1 ≤ (A.size : Int)) = true := decide_eq_true (by omega)
          go_wp2
          go_ret
          exact ⟨ret_bool (by rw [h4.out, decide_eq_true (by omega)]), rfl⟩
        · have h4 : Hid (nameB A.data.toList = false) := Lib.hid (by
            unfold nameB
            rw [HL.out, decide_eq_false h3]
            simp)
          have g1 : decide (1 ≤ (A.size : Int)) = true := decide_eq_true (by omega)
          go_wp2
          go_ret
          exact ⟨ret_bool (by rw [h4.out, decide_eq_false (by omega)]), rfl⟩
theorem rname_any (s : Nm) (w : World) (hl : s.length ≤ 140737488355328) :
    Calls Try.prog 36 #[.string ⟨s.toArray⟩] w fun e w' => e = .returned (.bool (nameB s)) ∧ w = w' := by
  have h := rname_ba ⟨s.toArray⟩ w (by rw [ba_size]; exact hl)
  simpa using h

set_option maxRecDepth 100000 in
set_option maxHeartbeats 4000000 in
theorem find_any (S : Nat → Prop) (r : Nat) (v : Value) (fs : List Fl) (x : Nm) (w : World) (h0 : w.cell? ⟨r, 0, none⟩ = some v) (hv : FilesV w S v fs) :
    Calls Try.prog 37 #[.pointer (some ⟨r, 0, none⟩), .string ⟨x.toArray⟩] w fun e w' => e = .returned (.int .i64 (idxI x fs)) ∧ w = w' := by
  obtain ⟨A, c, rfl⟩ := hv.form
  obtain ⟨n, hn⟩ : ∃ n, fs.length = n := ⟨_, rfl⟩
  have hmax : n * 48 ≤ 140737488355328 := by obtain ⟨_, _, _, _, _, _, h3, _⟩ := hv; rw [← hn]; exact h3
  rw [hn] at hv h0
  have HN := Lib.hid hn
  have HV := Lib.hid hv
  clear hn hv
  go_enter Try.func37, Try.ntmps37
  go_wp2
  go_loopw [11] (fun t wr => ∃ k : Nat, k ≤ n ∧ t = .int .i64 k ∧ (∀ g ∈ fs.take k, g.name ≠ x) ∧ wr = w) (fun t _ => n - (intOf t).toNat)
  case atStart => exact ⟨0, Nat.zero_le _, rfl, by simp, rfl⟩
  case round =>
    obtain ⟨k, hk, rfl, hall, rfl⟩ := hrel
    have HALL := Lib.hid hall
    clear hall
    by_cases hkn : k < n
    · obtain ⟨f, hf⟩ : ∃ f, fs[k]? = some f := ⟨_, List.getElem?_eq_getElem (by rw [HN.out]; exact hkn)⟩
      obtain ⟨b, o, cs, rfl, _, _, ⟨vd, rfl, hvd, _⟩, hc⟩ := Rows.at_ flFine HV.out hf
      have c0 : wr.cell? ⟨b, o + k * 3, none⟩ = _ := hc 0 _ rfl
      have HF := Lib.hid hf
      clear hf hvd hc
      cases hb : f.name == x with
      | true =>
        have HB := Lib.hid hb
        go_wp2
        go_ret
        refine ⟨ret_int ?_, rfl⟩
        unfold idxI
        rw [idxP_at HF.out (by simpa using HB.out) HALL.out]
      | false =>
        have HB := Lib.hid hb
        go_wp2
        refine ⟨⟨k + 1, by omega, by go_num, fun g hg => ?_, by trivial⟩, by simp [intOf]; omega⟩
        rw [List.take_add_one, HF.out] at hg
        rcases List.mem_append.1 hg with hg | hg
        · exact HALL.out g hg
        · obtain rfl : g = f := by simpa using hg
          simpa using HB.out
    · obtain rfl : k = n := by omega
      go_wp2
      go_ret
      refine ⟨ret_int ?_, rfl⟩
      unfold idxI
      rw [idxP_none fun g hg => HALL.out g (by rw [List.take_of_length_le (by rw [HN.out]; exact Nat.le_refl _)]; exact hg)]
end Go.Proofs.Ytcmjoaepihbodaa
