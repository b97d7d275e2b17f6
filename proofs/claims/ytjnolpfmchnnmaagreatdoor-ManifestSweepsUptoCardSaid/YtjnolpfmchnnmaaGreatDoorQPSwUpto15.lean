/-
Law 13, ManifestSweeps: the disk and the rows of names while files are laid.
-/
import Derived.Test.YtjnolpfmchnnmaaGreatDoorQPSwUpto14
import Derived.Deep.Cut
import Derived.Deep.CutRange
import Derived.Deep.DeepCutAuto
import Derived.Test.YtjnolpfmchnnmaaGreatDoorQPSwUpto7
import Derived.Test.YtjnolpfmchnnmaaGreatDoorQPSwUpto11
section
namespace Go.Proofs.YtjnolpfmchnnmaaGreatDoor
set_option maxRecDepth 100000
open Go.RowKit Go.BigFrame
attribute [local go_sem ↓] Go.wp_at_zero Go.wp_at_succ
def SortedT (l : List Tbl) : Prop := l.Pairwise fun x y => x.id ≤ y.id
theorem stake_le {l : List Tbl} (h : SortedT l) {k : Nat} {z : Tbl} (hk : 0 < k) (hz : l[k - 1]? = some z) : ∀ y ∈ l.take k, y.id ≤ z.id := by
  intro y hy
  obtain ⟨hz1, hz2⟩ := List.getElem?_eq_some_iff.1 hz
  obtain ⟨i, hi, rfl⟩ := List.mem_take_iff_getElem.1 hy
  rcases Nat.lt_or_ge i (k - 1) with h1 | h1
  · have := List.pairwise_iff_getElem.1 h i (k - 1) (by omega) hz1 h1
    rw [hz2] at this
    exact this
  · have e : i = k - 1 := by omega
    subst e
    rw [hz2]
    exact Int.le_refl _
theorem sdrop_le {l : List Tbl} (h : SortedT l) {k : Nat} {z : Tbl} (hz : l[k]? = some z) : ∀ y ∈ l.drop k, z.id ≤ y.id := by
  intro y hy
  obtain ⟨hz1, hz2⟩ := List.getElem?_eq_some_iff.1 hz
  obtain ⟨i, hi, rfl⟩ := List.mem_drop_iff_getElem.1 hy
  rcases Nat.eq_zero_or_pos i with h1 | h1
  · subst h1
    simp [hz2]
  · have := List.pairwise_iff_getElem.1 h k (k + i) hz1 (by omega) (by omega)
    rw [hz2] at this
    simpa [Nat.add_comm] using this
theorem sorted_take {l : List Tbl} (h : SortedT l) (k : Nat) : SortedT (l.take k) := List.Pairwise.sublist (List.take_sublist k l) h
theorem sorted_drop {l : List Tbl} (h : SortedT l) (k : Nat) : SortedT (l.drop k) := List.Pairwise.sublist (List.drop_sublist k l) h
theorem get_in {α : Type} {A R S : List α} {m k : Nat} (hA : A.length = m) (hk : k < R.length) : (A ++ R ++ S)[m + k]? = R[k]? := by
  subst hA
  rw [List.append_assoc, List.getElem?_append_right (by omega), Nat.add_sub_cancel_left, List.getElem?_append_left hk]
theorem tabs_two {wr : World} {base g n c0 p q : Nat} {l : List Tbl} {x z : Tbl} (h : OwnTabs wr base (.slice (some ⟨g, 0, none⟩) n c0) l) (hn : l.length = n) (hx : l[p]? = some x) (hz : l[q]? = some z) :
    ∃ A1 c1 A2 c2 A3 c3 A4 c4, (wr.cell? ⟨g, p * 5, none⟩ = some (.int .i64 x.id) ∧ wr.cell? ⟨g, p * 5 + 1, none⟩ = some (.int .i64 x.level) ∧ wr.cell? ⟨g, p * 5 + 2, none⟩ = some (.int .i64 x.count) ∧ wr.cell? ⟨g, p * 5 + 3, none⟩ = some (.slice A1 x.lo.length c1) ∧ wr.cell? ⟨g, p * 5 + 4, none⟩ = some (.slice A2 x.hi.length c2)) ∧
      (wr.cell? ⟨g, q * 5, none⟩ = some (.int .i64 z.id) ∧ wr.cell? ⟨g, q * 5 + 1, none⟩ = some (.int .i64 z.level) ∧ wr.cell? ⟨g, q * 5 + 2, none⟩ = some (.int .i64 z.count) ∧ wr.cell? ⟨g, q * 5 + 3, none⟩ = some (.slice A3 z.lo.length c3) ∧ wr.cell? ⟨g, q * 5 + 4, none⟩ = some (.slice A4 z.hi.length c4)) ∧
      (∀ j, wr.frozen? ⟨g, j, none⟩ = false) ∧
      OwnTabs (put5 (put5 wr g (p * 5) (.int .i64 z.id) (.int .i64 z.level) (.int .i64 z.count) (.slice A3 z.lo.length c3) (.slice A4 z.hi.length c4)) g (q * 5) (.int .i64 x.id) (.int .i64 x.level) (.int .i64 x.count) (.slice A1 x.lo.length c1) (.slice A2 x.hi.length c2)) base (.slice (some ⟨g, 0, none⟩) n c0) ((l.set p z).set q x) := by
  obtain ⟨css, hown, hys⟩ := h
  rw [hn] at hown
  obtain ⟨cx, hcx, a1, a2, rfl, ha1, ha2⟩ := hys.at_ hx
  obtain ⟨cy, hcy, b1, b2, rfl, hb1, hb2⟩ := hys.at_ hz
  obtain ⟨A1, c1, rfl⟩ := slice_form ha1
  obtain ⟨A2, c2, rfl⟩ := slice_form ha2
  obtain ⟨A3, c3, rfl⟩ := slice_form hb1
  obtain ⟨A4, c4, rfl⟩ := slice_form hb2
  have hall := tbT_len hys
  exact ⟨A1, c1, A2, c2, A3, c3, A4, c4, ⟨ownT_cell hown (flat_at (j := 0) hall hcx rfl), ownT_cell hown (flat_at (j := 1) hall hcx rfl), ownT_cell hown (flat_at (j := 2) hall hcx rfl), ownT_cell hown (flat_at (j := 3) hall hcx rfl), ownT_cell hown (flat_at (j := 4) hall hcx rfl)⟩,
    ⟨ownT_cell hown (flat_at (j := 0) hall hcy rfl), ownT_cell hown (flat_at (j := 1) hall hcy rfl), ownT_cell hown (flat_at (j := 2) hall hcy rfl), ownT_cell hown (flat_at (j := 3) hall hcy rfl), ownT_cell hown (flat_at (j := 4) hall hcy rfl)⟩,
    fun j => hown.frozenAt j, tabs_swapG fr.refl hown hys hcy hcx hz hx hn⟩
def SymEnd (w w' : World) (base n g c : Nat) (P L R S : List Tbl) (r : Ending) : Prop :=
  r = .returned (.tuple #[]) ∧ ∃ M, M.Perm (L ++ R) ∧ SortedT M ∧ OwnTabs w' base (.slice (some ⟨g, 0, none⟩) n c) (P ++ M ++ S) ∧ Only (fun i => g = i) w w'
set_option maxRecDepth 100000 in
set_option maxHeartbeats 2000000 in
theorem sym_one (base n g c a m b : Nat) (P R S : List Tbl) (x : Tbl) (w : World) (h : OwnTabs w base (.slice (some ⟨g, 0, none⟩) n c) (P ++ [x] ++ R ++ S)) (hn : (P ++ [x] ++ R ++ S).length = n) (ha : P.length = a) (hm : a + 1 = m) (hb : m + R.length = b) (hR : SortedT R) (hbig : n ≤ 1073742848) :
    Calls Tryz.prog 239 #[.slice (some ⟨g, 0, none⟩) n c, .int .i64 a, .int .i64 m, .int .i64 b, lessTV] w fun r w' => SymEnd w w' base n g c P [x] R S r := by
  have hbn : b ≤ n := by simp at hn; omega
  have hmb : m ≤ b := by omega
  have ham : a < m := by omega
  obtain ⟨l, hl⟩ : ∃ l, P ++ [x] ++ R ++ S = l := ⟨_, rfl⟩
  have gx : l[a]? = some x := by rw [← hl]; have := get_in (A := P) (R := [x]) (S := R ++ S) (m := a) (k := 0) ha (by simp); simpa using this
  have gr : ∀ k, k < R.length → l[m + k]? = R[k]? := fun k hk => by rw [← hl]; exact get_in (by simp; omega) hk
  rw [hl] at h hn
  have e1 : ((m : Int) - (a : Int) == 1) = true := by simp; omega
  have H := Lib.hid h
  have HN := Lib.hid hn
  have HR := Lib.hid hR
  have HX := Lib.hid gx
  have HG := Lib.hid gr
  have HP := Lib.hid ha
  have HB := Lib.hid hb
  have HLL := Lib.hid hl
  have HM := Lib.hid hm
  clear h hn hR gx gr ha hb hl hm
  go_enter Tryz.func239, Tryz.ntmps239
  go_wp2_with (fail)
  go_loopw [10, 11] (fun s t wx => ∃ i j : Nat, s = .int .i64 i ∧ t = .int .i64 j ∧ m ≤ i ∧ i ≤ j ∧ j ≤ b ∧ (m < i → ∀ y, l[i - 1]? = some y → y.id < x.id) ∧ (j < b → ∀ y, l[j]? = some y → x.id ≤ y.id) ∧ fr w wx) (fun s t _ => (intOf t).toNat - (intOf s).toNat)
  case atStart => exact ⟨m, b, rfl, rfl, Nat.le_refl _, hmb, Nat.le_refl _, fun h => absurd h (Nat.lt_irrefl _), fun h => absurd h (Nat.lt_irrefl _), fr.refl⟩
  case round =>
    obtain ⟨i, j, rfl, rfl, hmi, hij, hjb, hlo, hhi, hfr⟩ := hrel
    have HLO := Lib.hid hlo
    have HHI := Lib.hid hhi
    have HFR := Lib.hid hfr
    clear hlo hhi hfr
    by_cases hlt : i < j
    · obtain ⟨q, hq⟩ : ∃ q, (i + j) / 2 = q := ⟨_, rfl⟩
      have hqq : ((i : Int) + (j : Int)) / 2 = (q : Int) := by omega
      have hq1 : i ≤ q ∧ q < j := by omega
      obtain ⟨y, hy⟩ : ∃ y, l[q]? = some y := ⟨_, List.getElem?_eq_getElem (by rw [HN.out]; omega)⟩
      have HY := Lib.hid hy
      obtain ⟨A1, c1, A2, c2, A3, c3, A4, c4, ⟨x0, x1, x2, x3, x4⟩, ⟨y0, y1, y2, y3, y4⟩, _, _⟩ := tabs_two (OwnRows.below tbFine H.out HFR.out) HN.out HX.out hy
      have hqn : (q : Int) < (n : Int) := by omega
      have han : (a : Int) < (n : Int) := by omega
      clear hy hq
      by_cases hyx : y.id < x.id
      · have hc : decide (cmpT y.id x.id < 0) = true := by rw [cmpT_lt]; exact decide_eq_true hyx
        go_upto_region 5 with (rw [hqq])
        go_still_tail 9, (by kernel_rfl)
        go_wp2_with ((first | go_at_call 126 | go_at_fn 126); refine (lessT_any _ _ _ _ _ _ _ _ _ _ _ ⟨_, _, _, rfl⟩ ⟨_, _, _, rfl⟩ ⟨_, _, _, rfl⟩ ⟨_, _, _, rfl⟩).mono ?_; rintro r w3 ⟨rfl, f3⟩)
        refine ⟨⟨q + 1, j, by go_num, rfl, by omega, by omega, hjb, fun _ y' hy' => ?_, HHI.out, fr.step HFR.out (fr.step (fr.drew fr.refl) f3)⟩, by simp [intOf]; omega⟩
        rw [Nat.add_sub_cancel, HY.out] at hy'
        obtain rfl := Option.some.inj hy'
        exact hyx
      · have hc : decide (cmpT y.id x.id < 0) = false := by rw [cmpT_lt]; exact decide_eq_false hyx
        go_upto_region 5 with (rw [hqq])
        go_still_tail 9, (by kernel_rfl)
        go_wp2_with ((first | go_at_call 126 | go_at_fn 126); refine (lessT_any _ _ _ _ _ _ _ _ _ _ _ ⟨_, _, _, rfl⟩ ⟨_, _, _, rfl⟩ ⟨_, _, _, rfl⟩ ⟨_, _, _, rfl⟩).mono ?_; rintro r w3 ⟨rfl, f3⟩)
        refine ⟨⟨i, q, rfl, by go_num, hmi, by omega, by omega, HLO.out, fun _ y' hy' => ?_, fr.step HFR.out (fr.step (fr.drew fr.refl) f3)⟩, by simp [intOf]; omega⟩
        rw [HY.out] at hy'
        obtain rfl := Option.some.inj hy'
        omega
    · obtain rfl : i = j := by omega
      obtain ⟨R1, hR1⟩ : ∃ R1, R.take (i - m) = R1 := ⟨_, rfl⟩
      obtain ⟨R2, hR2⟩ : ∃ R2, R.drop (i - m) = R2 := ⟨_, rfl⟩
      have hRR : R = R1 ++ R2 := by rw [← hR1, ← hR2, List.take_append_drop]
      have hl1 : R1.length = i - m := by rw [← hR1, List.length_take]; have := HB.out; omega
      have hlow : ∀ y ∈ R1, y.id ≤ x.id := by
        intro y hy
        have hpos : 0 < i - m := by rw [← hl1]; exact List.length_pos_of_mem hy
        have hk : i - m - 1 < R.length := by have := HB.out; omega
        have g1 := HG.out (i - m - 1) hk
        rw [show m + (i - m - 1) = i - 1 by omega] at g1
        have := HLO.out (by omega) _ (g1.trans (List.getElem?_eq_getElem hk))
        rw [← hR1] at hy
        have := stake_le HR.out hpos (List.getElem?_eq_getElem hk) y hy
        omega
      have hhigh : ∀ y ∈ R2, x.id ≤ y.id := by
        intro y hy
        have hpos : 0 < R2.length := List.length_pos_of_mem hy
        have hk : i - m < R.length := by rw [← hR2, List.length_drop] at hpos; omega
        have g1 := HG.out (i - m) hk
        rw [show m + (i - m) = i by omega] at g1
        have := HHI.out (by have := HB.out; omega) _ (g1.trans (List.getElem?_eq_getElem hk))
        rw [← hR2] at hy
        have := sdrop_le HR.out (List.getElem?_eq_getElem hk) y hy
        omega
      have HS1 := Lib.hid (hR1 ▸ sorted_take HR.out (i - m))
      have HS2 := Lib.hid (hR2 ▸ sorted_drop HR.out (i - m))
      have HRR := Lib.hid hRR
      have HL1 := Lib.hid hl1
      have HLOW := Lib.hid hlow
      have HHIGH := Lib.hid hhigh
      have h0 : OwnTabs wr base (.slice (some ⟨g, 0, none⟩) n c) (P ++ [] ++ x :: (R1 ++ R2 ++ S)) := by
        have := OwnRows.below tbFine H.out HFR.out
        rw [← HLL.out, hRR] at this
        simpa using this
      have H0 := Lib.hid h0
      have hlen : ∀ A B, R1 = A ++ B → (P ++ A ++ x :: (B ++ R2 ++ S)).length = n := fun A B e => by
        have := HN.out
        rw [← HLL.out, hRR, e] at this
        simp at this ⊢
        omega
      have HLEN := Lib.hid hlen
      clear hR1 hR2 hRR hl1 hlow hhigh h0 hlen HLO HHI HR HG
      obtain ⟨w1, hw1⟩ : ∃ w1, w1 = wr := ⟨_, rfl⟩
      subst hw1
      go_wp2_with (fail)
      go_loopw [13] (fun t wx => ∃ (k : Nat) (A B : List Tbl), t = .int .i64 k ∧ R1 = A ++ B ∧ k = a + A.length ∧ OwnTabs wx base (.slice (some ⟨g, 0, none⟩) n c) (P ++ A ++ x :: (B ++ R2 ++ S)) ∧ Only (fun i => g = i) w1 wx) (fun t _ => i - (intOf t).toNat)
      case atStart => exact ⟨a, [], R1, rfl, rfl, by simp, H0.out, Only.refl _ _⟩
      case round =>
        obtain ⟨k, A, B, rfl, hAB, hk, how, hon⟩ := hrel
        have HON := Lib.hid hon
        have HAB := Lib.hid hAB
        cases B with
        | cons y B =>
          have hlA : A.length + B.length + 1 = i - m := by have h1 := congrArg List.length hAB; have h2 := HL1.out; simp at h1; omega
          have hlen := HLEN.out A (y :: B) hAB
          obtain ⟨l2, hl2⟩ : ∃ l, P ++ A ++ x :: (y :: B ++ R2 ++ S) = l := ⟨_, rfl⟩
          rw [hl2] at how hlen
          obtain ⟨q, hq⟩ : ∃ q, k + 1 = q := ⟨_, rfl⟩
          have i1 : (P ++ A).length = k := by rw [List.length_append, HP.out, hk]
          have gx : l2[k]? = some x := by rw [← hl2]; exact get_mid i1
          have gy : l2[q]? = some y := by
            have e2 : l2 = ((P ++ A) ++ [x]) ++ y :: (B ++ R2 ++ S) := by rw [← hl2]; simp
            rw [e2]; exact get_mid (by rw [← hq, List.length_append, i1]; rfl)
          have gs : (l2.set k y).set q x = P ++ (A ++ [y]) ++ x :: (B ++ R2 ++ S) := by
            have e2 : l2 = (P ++ A) ++ x :: ([] ++ y :: (B ++ R2 ++ S)) := by rw [← hl2]; simp
            rw [e2, set_two i1 (by rw [i1]; simpa using hq)]; simp
          obtain ⟨A1, c1, A2, c2, A3, c3, A4, c4, ⟨x0, x1, x2, x3, x4⟩, ⟨y0, y1, y2, y3, y4⟩, hfz, hT⟩ := tabs_two how hlen gx gy
          rw [gs] at hT
          have p0 := hfz (k * 5)
          have p1 := hfz (k * 5 + 1)
          have p2 := hfz (k * 5 + 2)
          have p3 := hfz (k * 5 + 3)
          have p4 := hfz (k * 5 + 4)
          have q0 := hfz (q * 5)
          have q1 := hfz (q * 5 + 1)
          have q2 := hfz (q * 5 + 2)
          have q3 := hfz (q * 5 + 3)
          have q4 := hfz (q * 5 + 4)
          have HT := Lib.hid hT
          have HKK := Lib.hid hk
          have hkn : q < n := by omega
          have hk1 : (k : Int) < (n : Int) := by omega
          have hq1 : (q : Int) < (n : Int) := by omega
          have hqq : (k : Int) + 1 = (q : Int) := by omega
          have hd0 : decide ((k : Int) < (i : Int) - 1) = true := by have := HM.out; simp; omega
          have hne1 : ¬ k = q := by omega
          have hne2 : ¬ q = k := by omega
          have hkq : k < q := by omega
          clear how hon hAB hlen hl2 gx gy gs i1 hT hfz hk
          go_upto_region 11 with (fail)
          go_region
          go_wp2_with (fail)
          have hO := (HON.out.trans (put55_only wr g (k * 5) (q * 5) (.int .i64 y.id) (.int .i64 y.level) (.int .i64 y.count) (.slice A3 y.lo.length c3) (.slice A4 y.hi.length c4) (.int .i64 x.id) (.int .i64 x.level) (.int .i64 x.count) (.slice A1 x.lo.length c1) (.slice A2 x.hi.length c2))).drew
          have hT := OwnRows.below tbFine HT.out (fr.drew fr.refl)
          exact ⟨⟨q, A ++ [y], B, by go_num, by rw [HAB.out]; simp, by rw [List.length_append, ← Nat.add_assoc, ← HKK.out, ← hq]; rfl, hT, hO⟩, by have := HM.out; have := HKK.out; simp [intOf]; omega⟩
        | nil =>
          have hA : R1 = A := by rw [hAB, List.append_nil]
          subst hA
          have hd0 : decide ((k : Int) < (i : Int) - 1) = false := by have := HL1.out; have := HM.out; simp; omega
          have HOW := Lib.hid how
          have HFRR := HFR
          clear how hon hAB hk
          go_wp2_with (fail)
          refine bodyPost_ret (v := .tuple #[]) (by simp [results, Tryz.results239, go_sem]) rfl ?_
          refine ⟨rfl, R1 ++ x :: R2, ?_, ?_, ?_, (Only.of_below HFR.out).trans HON.out⟩
          · rw [HRR.out]
            exact List.perm_middle
          · exact List.pairwise_append.2 ⟨HS1.out, List.pairwise_cons.2 ⟨HHIGH.out, HS2.out⟩, fun p hp q hq => (List.mem_cons.1 hq).elim (fun e => e ▸ HLOW.out p hp) fun hq => Int.le_trans (HLOW.out p hp) (HHIGH.out q hq)⟩
          · simpa using HOW.out
end Go.Proofs.YtjnolpfmchnnmaaGreatDoor
end
section
namespace Go.Proofs.YtjnolpfmchnnmaaGreatDoor
set_option maxRecDepth 100000
open Go.RowKit Go.BigFrame
attribute [local go_sem ↓] Go.wp_at_zero Go.wp_at_succ
theorem set_two_r {α : Type} {A B C : List α} {x y : α} {i j : Nat} (hi : A.length = i) (hj : A.length + 1 + B.length = j) : ((A ++ x :: (B ++ y :: C)).set j x).set i y = A ++ y :: (B ++ x :: C) := by
  have e : A ++ x :: (B ++ y :: C) = (A ++ x :: B) ++ y :: C := by simp
  rw [e, set_mid (by simp; omega)]
  have e2 : (A ++ x :: B) ++ x :: C = A ++ x :: (B ++ x :: C) := by simp
  rw [e2, set_mid hi]
set_option maxRecDepth 100000 in
set_option maxHeartbeats 2000000 in
theorem sym_last (base n g c a m b : Nat) (P L S : List Tbl) (y : Tbl) (w : World) (h : OwnTabs w base (.slice (some ⟨g, 0, none⟩) n c) (P ++ L ++ [y] ++ S)) (hn : (P ++ L ++ [y] ++ S).length = n) (ha : P.length = a) (hm : a + L.length = m) (hb : m + 1 = b) (hL1 : 1 < L.length) (hL : SortedT L) (hbig : n ≤ 1073742848) :
    Calls Tryz.prog 239 #[.slice (some ⟨g, 0, none⟩) n c, .int .i64 a, .int .i64 m, .int .i64 b, lessTV] w fun r w' => SymEnd w w' base n g c P L [y] S r := by
  have hbn : b ≤ n := by simp at hn; omega
  have hmb : m < b := by omega
  have ham : a < m := by omega
  have hm1 : 1 < m - a := by omega
  obtain ⟨l, hl⟩ : ∃ l, P ++ L ++ [y] ++ S = l := ⟨_, rfl⟩
  have gy : l[m]? = some y := by rw [← hl]; have := get_in (A := P ++ L) (R := [y]) (S := S) (m := m) (k := 0) (by rw [List.length_append]; omega) (by simp); simpa using this
  have gl : ∀ k, k < L.length → l[a + k]? = L[k]? := fun k hk => by
    have e : l = P ++ L ++ ([y] ++ S) := by rw [← hl]; simp
    rw [e]; exact get_in ha hk
  rw [hl] at h hn
  have e1 : ((m : Int) - (a : Int) == 1) = false := by simp; omega
  have e2 : ((b : Int) - (m : Int) == 1) = true := by simp; omega
  have H := Lib.hid h
  have HN := Lib.hid hn
  have HL := Lib.hid hL
  have HY := Lib.hid gy
  have HG := Lib.hid gl
  have HP := Lib.hid ha
  have HB := Lib.hid hb
  have HLL := Lib.hid hl
  have HM := Lib.hid hm
  clear h hn hL gy gl ha hb hl hm hL1
  go_enter Tryz.func239, Tryz.ntmps239
  go_wp2_with (fail)
  go_loopw [14, 15] (fun s t wx => ∃ i j : Nat, s = .int .i64 i ∧ t = .int .i64 j ∧ a ≤ i ∧ i ≤ j ∧ j ≤ m ∧ (a < i → ∀ x, l[i - 1]? = some x → x.id ≤ y.id) ∧ (j < m → ∀ x, l[j]? = some x → y.id < x.id) ∧ fr w wx) (fun s t _ => (intOf t).toNat - (intOf s).toNat)
  case atStart => exact ⟨a, m, rfl, rfl, Nat.le_refl _, Nat.le_of_lt ham, Nat.le_refl _, fun h => absurd h (Nat.lt_irrefl _), fun h => absurd h (Nat.lt_irrefl _), fr.refl⟩
  case round =>
    obtain ⟨i, j, rfl, rfl, hmi, hij, hjb, hlo, hhi, hfr⟩ := hrel
    have HLO := Lib.hid hlo
    have HHI := Lib.hid hhi
    have HFR := Lib.hid hfr
    clear hlo hhi hfr
    by_cases hlt : i < j
    · obtain ⟨q, hq⟩ : ∃ q, (i + j) / 2 = q := ⟨_, rfl⟩
      have hqq : ((i : Int) + (j : Int)) / 2 = (q : Int) := by omega
      have hq1 : i ≤ q ∧ q < j := by omega
      obtain ⟨x, hx⟩ : ∃ x, l[q]? = some x := ⟨_, List.getElem?_eq_getElem (by rw [HN.out]; omega)⟩
      have HX := Lib.hid hx
      obtain ⟨A1, c1, A2, c2, A3, c3, A4, c4, ⟨x0, x1, x2, x3, x4⟩, ⟨y0, y1, y2, y3, y4⟩, _, _⟩ := tabs_two (OwnRows.below tbFine H.out HFR.out) HN.out HY.out hx
      have hqn : (q : Int) < (n : Int) := by omega
      have han : (m : Int) < (n : Int) := by omega
      clear hx hq
      by_cases hyx : y.id < x.id
      · have hc : decide (cmpT y.id x.id < 0) = true := by rw [cmpT_lt]; exact decide_eq_true hyx
        go_upto_region 17 with (rw [hqq])
        go_still_tail 9, (by kernel_rfl)
        go_wp2_with ((first | go_at_call 126 | go_at_fn 126); refine (lessT_any _ _ _ _ _ _ _ _ _ _ _ ⟨_, _, _, rfl⟩ ⟨_, _, _, rfl⟩ ⟨_, _, _, rfl⟩ ⟨_, _, _, rfl⟩).mono ?_; rintro r w3 ⟨rfl, f3⟩)
        refine ⟨⟨i, q, rfl, by go_num, hmi, by omega, by omega, HLO.out, fun _ y' hy' => ?_, fr.step HFR.out (fr.step (fr.drew fr.refl) f3)⟩, by simp [intOf]; omega⟩
        rw [HX.out] at hy'
        obtain rfl := Option.some.inj hy'
        exact hyx
      · have hc : decide (cmpT y.id x.id < 0) = false := by rw [cmpT_lt]; exact decide_eq_false hyx
        go_upto_region 17 with (rw [hqq])
        go_still_tail 9, (by kernel_rfl)
        go_wp2_with ((first | go_at_call 126 | go_at_fn 126); refine (lessT_any _ _ _ _ _ _ _ _ _ _ _ ⟨_, _, _, rfl⟩ ⟨_, _, _, rfl⟩ ⟨_, _, _, rfl⟩ ⟨_, _, _, rfl⟩).mono ?_; rintro r w3 ⟨rfl, f3⟩)
        refine ⟨⟨q + 1, j, by go_num, rfl, by omega, by omega, hjb, fun _ y' hy' => ?_, HHI.out, fr.step HFR.out (fr.step (fr.drew fr.refl) f3)⟩, by simp [intOf]; omega⟩
        rw [Nat.add_sub_cancel, HX.out] at hy'
        obtain rfl := Option.some.inj hy'
        omega
    · obtain rfl : i = j := by omega
      obtain ⟨L1, hL1⟩ : ∃ L1, L.take (i - a) = L1 := ⟨_, rfl⟩
      obtain ⟨L2, hL2⟩ : ∃ L2, L.drop (i - a) = L2 := ⟨_, rfl⟩
      have hLL : L = L1 ++ L2 := by rw [← hL1, ← hL2, List.take_append_drop]
      have hl1 : L1.length = i - a := by rw [← hL1, List.length_take]; have := HM.out; omega
      have hl2 : L2.length = m - i := by rw [← hL2, List.length_drop]; have := HM.out; omega
      have hlow : ∀ x ∈ L1, x.id ≤ y.id := by
        intro x hx
        have hpos : 0 < i - a := by rw [← hl1]; exact List.length_pos_of_mem hx
        have hk : i - a - 1 < L.length := by have := HM.out; omega
        have g1 := HG.out (i - a - 1) hk
        rw [show a + (i - a - 1) = i - 1 by omega] at g1
        have := HLO.out (by omega) _ (g1.trans (List.getElem?_eq_getElem hk))
        rw [← hL1] at hx
        have := stake_le HL.out hpos (List.getElem?_eq_getElem hk) x hx
        omega
      have hhigh : ∀ x ∈ L2, y.id ≤ x.id := by
        intro x hx
        have hpos : 0 < L2.length := List.length_pos_of_mem hx
        have hk : i - a < L.length := by rw [← hL2, List.length_drop] at hpos; omega
        have g1 := HG.out (i - a) hk
        rw [show a + (i - a) = i by omega] at g1
        have := HHI.out (by have := HM.out; omega) _ (g1.trans (List.getElem?_eq_getElem hk))
        rw [← hL2] at hx
        have := sdrop_le HL.out (List.getElem?_eq_getElem hk) x hx
        omega
      have HS1 := Lib.hid (hL1 ▸ sorted_take HL.out (i - a))
      have HS2 := Lib.hid (hL2 ▸ sorted_drop HL.out (i - a))
      have HRR := Lib.hid hLL
      have HL1 := Lib.hid hl1
      have HL2 := Lib.hid hl2
      have HLOW := Lib.hid hlow
      have HHIGH := Lib.hid hhigh
      have h0 : OwnTabs wr base (.slice (some ⟨g, 0, none⟩) n c) (P ++ L1 ++ L2 ++ y :: ([] ++ S)) := by
        have := OwnRows.below tbFine H.out HFR.out
        rw [← HLL.out, hLL] at this
        simpa using this
      have H0 := Lib.hid h0
      have hlen : ∀ A B, L2 = A ++ B → (P ++ L1 ++ A ++ y :: (B ++ S)).length = n := fun A B e => by
        have := HN.out
        rw [← HLL.out, hLL, e] at this
        simp at this ⊢
        omega
      have HLEN := Lib.hid hlen
      clear hL1 hL2 hLL hl1 hl2 hlow hhigh h0 hlen HLO HHI HL HG
      obtain ⟨w1, hw1⟩ : ∃ w1, w1 = wr := ⟨_, rfl⟩
      subst hw1
      go_wp2_with (fail)
      go_loopw [17] (fun t wx => ∃ (k : Nat) (A B : List Tbl), t = .int .i64 k ∧ L2 = A ++ B ∧ k = i + A.length ∧ OwnTabs wx base (.slice (some ⟨g, 0, none⟩) n c) (P ++ L1 ++ A ++ y :: (B ++ S)) ∧ Only (fun i => g = i) w1 wx) (fun t _ => (intOf t).toNat)
      case atStart => exact ⟨m, L2, [], rfl, by simp, by have := HL2.out; omega, H0.out, Only.refl _ _⟩
      case round =>
        obtain ⟨k, A, B, rfl, hAB, hk, how, hon⟩ := hrel
        have HON := Lib.hid hon
        have HAB := Lib.hid hAB
        rcases (show A = [] ∨ ∃ A' z, A = A' ++ [z] from (List.eq_nil_or_concat A).imp id fun ⟨A', z, e⟩ => ⟨A', z, by rw [e, List.concat_eq_append]⟩) with rfl | ⟨A, z, rfl⟩
        · have hB : L2 = B := by rw [hAB, List.nil_append]
          subst hB
          obtain rfl : k = i := by simpa using hk
          have hd0 : decide ((k : Int) < (k : Int)) = false := by simp
          have HOW := Lib.hid how
          clear how hon hAB hk
          go_wp2_with (fail)
          refine bodyPost_ret (v := .tuple #[]) (by simp [results, Tryz.results239, go_sem]) rfl ?_
          refine ⟨rfl, L1 ++ y :: L2, ?_, ?_, ?_, (Only.of_below HFR.out).trans HON.out⟩
          · rw [HRR.out]
            have : (L1 ++ y :: L2).Perm (y :: (L1 ++ L2)) := List.perm_middle
            exact this.trans (List.perm_append_comm (l₁ := [y]) (l₂ := L1 ++ L2))
          · exact List.pairwise_append.2 ⟨HS1.out, List.pairwise_cons.2 ⟨HHIGH.out, HS2.out⟩, fun p hp q hq => (List.mem_cons.1 hq).elim (fun e => e ▸ HLOW.out p hp) fun hq => Int.le_trans (HLOW.out p hp) (HHIGH.out q hq)⟩
          · simpa using HOW.out
        · have hlA : A.length + 1 + B.length = m - i := by have h1 := congrArg List.length hAB; have h2 := HL2.out; simp at h1; omega
          have hlen := HLEN.out (A ++ [z]) B hAB
          obtain ⟨l2, hl2⟩ : ∃ l, P ++ L1 ++ (A ++ [z]) ++ y :: (B ++ S) = l := ⟨_, rfl⟩
          rw [hl2] at how hlen
          obtain ⟨q, hq⟩ : ∃ q, i + A.length = q := ⟨_, rfl⟩
          have hkq : q + 1 = k := by rw [hk, ← hq]; simp; omega
          have i1 : (P ++ L1 ++ A).length = q := by have h1 := HP.out; have h2 := HL1.out; simp; omega
          have e3 : l2 = (P ++ L1 ++ A) ++ z :: ([] ++ y :: (B ++ S)) := by rw [← hl2]; simp
          have gz : l2[q]? = some z := by rw [e3]; exact get_mid i1
          have gy : l2[k]? = some y := by
            have e2 : l2 = ((P ++ L1 ++ A) ++ [z]) ++ y :: (B ++ S) := by rw [← hl2]; simp
            rw [e2]; exact get_mid (by rw [← hkq, List.length_append, i1]; rfl)
          have gs : (l2.set k z).set q y = P ++ L1 ++ A ++ y :: ((z :: B) ++ S) := by
            rw [e3, set_two_r i1 (by rw [i1]; simpa using hkq)]; simp
          obtain ⟨A1, c1, A2, c2, A3, c3, A4, c4, ⟨x0, x1, x2, x3, x4⟩, ⟨y0, y1, y2, y3, y4⟩, hfz, hT⟩ := tabs_two how hlen gy gz
          rw [gs] at hT
          have p0 := hfz (k * 5)
          have p1 := hfz (k * 5 + 1)
          have p2 := hfz (k * 5 + 2)
          have p3 := hfz (k * 5 + 3)
          have p4 := hfz (k * 5 + 4)
          have q0 := hfz (q * 5)
          have q1 := hfz (q * 5 + 1)
          have q2 := hfz (q * 5 + 2)
          have q3 := hfz (q * 5 + 3)
          have q4 := hfz (q * 5 + 4)
          have HT := Lib.hid hT
          have hkn : k < n := by omega
          have hk1 : (k : Int) < (n : Int) := by omega
          have hq1 : (q : Int) < (n : Int) := by omega
          have hqq : (k : Int) - 1 = (q : Int) := by omega
          have hd0 : i < k := by omega
          have hne1 : ¬ k = q := by omega
          have hne2 : ¬ q = k := by omega
          have HKQ := Lib.hid hkq
          have hkq2 : q < k := by omega
          have HQ := Lib.hid hq
          clear how hon hAB hlen hl2 gz gy gs i1 hT hfz hk hkq hq e3
          go_upto_region 23 with (fail)
          go_region
          go_wp2_with (fail)
          have hO := (HON.out.trans (put55_only wr g (k * 5) (q * 5) (.int .i64 z.id) (.int .i64 z.level) (.int .i64 z.count) (.slice A3 z.lo.length c3) (.slice A4 z.hi.length c4) (.int .i64 y.id) (.int .i64 y.level) (.int .i64 y.count) (.slice A1 y.lo.length c1) (.slice A2 y.hi.length c2))).drew
          have hT := OwnRows.below tbFine HT.out (fr.drew fr.refl)
          exact ⟨⟨q, A, z :: B, by go_num, by rw [HAB.out]; simp, HQ.out.symm, hT, hO⟩, by have := HKQ.out; simp [intOf]; omega⟩
end Go.Proofs.YtjnolpfmchnnmaaGreatDoor
end
section
namespace Go.Proofs.YtjnolpfmchnnmaaGreatDoor
set_option maxRecDepth 100000
open Go.RowKit Go.BigFrame
attribute [local go_sem ↓] Go.wp_at_zero Go.wp_at_succ
def SymSaid (d : Nat) : Prop := ∀ (base n g c a m b : Nat) (P L R S : List Tbl) (w : World), L.length + R.length ≤ d → OwnTabs w base (.slice (some ⟨g, 0, none⟩) n c) (P ++ L ++ R ++ S) → (P ++ L ++ R ++ S).length = n → P.length = a → a + L.length = m → m + R.length = b → 0 < L.length → 0 < R.length → SortedT L → SortedT R → n ≤ 1073742848 →
    Calls Tryz.prog 239 #[.slice (some ⟨g, 0, none⟩) n c, .int .i64 a, .int .i64 m, .int .i64 b, lessTV] w fun r w' => SymEnd w w' base n g c P L R S r
theorem cross_low {L R : List Tbl} {i k : Nat} (hL : SortedT L) (hR : SortedT R) (h : 0 < i → k < R.length → ∀ x y, L[i - 1]? = some x → R[k]? = some y → x.id ≤ y.id) (hi : i ≤ L.length) : ∀ x ∈ L.take i, ∀ y ∈ R.drop k, x.id ≤ y.id := by
  intro x hx y hy
  have h1 : 0 < i := by have := List.length_pos_of_mem hx; rw [List.length_take] at this; omega
  have h2 : k < R.length := by have := List.length_pos_of_mem hy; rw [List.length_drop] at this; omega
  have h3 : i - 1 < L.length := by omega
  have g1 := stake_le hL h1 (List.getElem?_eq_getElem h3) x hx
  have g2 := sdrop_le hR (List.getElem?_eq_getElem h2) y hy
  have g3 := h h1 h2 _ _ (List.getElem?_eq_getElem h3) (List.getElem?_eq_getElem h2)
  omega
theorem cross_high {L R : List Tbl} {i k : Nat} (hL : SortedT L) (hR : SortedT R) (h : 0 < k → i < L.length → ∀ x y, L[i]? = some x → R[k - 1]? = some y → y.id ≤ x.id) (hk : k ≤ R.length) : ∀ y ∈ R.take k, ∀ x ∈ L.drop i, y.id ≤ x.id := by
  intro y hy x hx
  have h1 : 0 < k := by have := List.length_pos_of_mem hy; rw [List.length_take] at this; omega
  have h2 : i < L.length := by have := List.length_pos_of_mem hx; rw [List.length_drop] at this; omega
  have h3 : k - 1 < R.length := by omega
  have g1 := stake_le hR h1 (List.getElem?_eq_getElem h3) y hy
  have g2 := sdrop_le hL (List.getElem?_eq_getElem h2) x hx
  have g3 := h h1 h2 _ _ (List.getElem?_eq_getElem h2) (List.getElem?_eq_getElem h3)
  omega
set_option maxRecDepth 100000 in
set_option maxHeartbeats 4000000 in
theorem sym_gen (d : Nat) (ih : SymSaid d) (base n g c a m b : Nat) (P L R S : List Tbl) (w : World) (hd : L.length + R.length ≤ d + 1) (h : OwnTabs w base (.slice (some ⟨g, 0, none⟩) n c) (P ++ L ++ R ++ S)) (hn : (P ++ L ++ R ++ S).length = n) (ha : P.length = a) (hm : a + L.length = m) (hb : m + R.length = b) (hL1 : 1 < L.length) (hR1 : 1 < R.length) (hL : SortedT L) (hR : SortedT R) (hbig : n ≤ 1073742848) :
    Calls Tryz.prog 239 #[.slice (some ⟨g, 0, none⟩) n c, .int .i64 a, .int .i64 m, .int .i64 b, lessTV] w fun r w' => SymEnd w w' base n g c P L R S r := by
  have hbn : b ≤ n := by simp at hn; omega
  have hmb : m + 1 < b := by omega
  have ham : a + 1 < m := by omega
  obtain ⟨l, hl⟩ : ∃ l, P ++ L ++ R ++ S = l := ⟨_, rfl⟩
  have gl : ∀ k, k < L.length → l[a + k]? = L[k]? := fun k hk => by
    have e : l = P ++ L ++ (R ++ S) := by rw [← hl]; simp
    rw [e]; exact get_in ha hk
  have gr : ∀ k, k < R.length → l[m + k]? = R[k]? := fun k hk => by rw [← hl]; exact get_in (by rw [List.length_append]; omega) hk
  rw [hl] at h hn
  have e1 : ((m : Int) - (a : Int) == 1) = false := by simp; omega
  have e2 : ((b : Int) - (m : Int) == 1) = false := by simp; omega
  obtain ⟨mid, hmid⟩ : ∃ mid, (a + b) / 2 = mid := ⟨_, rfl⟩
  have hmid2 : ((a : Int) + (b : Int)) / 2 = (mid : Int) := by omega
  have hmid3 : a < mid ∧ mid < b := by omega
  obtain ⟨nn, hnn⟩ : ∃ nn, mid + m = nn := ⟨_, rfl⟩
  have hnn2 : (mid : Int) + (m : Int) = (nn : Int) := by omega
  obtain ⟨pp, hpp⟩ : ∃ pp, nn - 1 = pp := ⟨_, rfl⟩
  have hpp2 : (nn : Int) - 1 = (pp : Int) := by omega
  have hnb : nn < 4611686018427387904 := by omega
  have hppb : pp < 4611686018427387904 := by omega
  have H := Lib.hid h
  have HN := Lib.hid hn
  have HL := Lib.hid hL
  have HR := Lib.hid hR
  have HGL := Lib.hid gl
  have HGR := Lib.hid gr
  have HP := Lib.hid ha
  have HB := Lib.hid hb
  have HLL := Lib.hid hl
  have HM := Lib.hid hm
  have HD := Lib.hid hd
  have HMID := Lib.hid hmid
  have HNNN := Lib.hid hnn
  have HPPP := Lib.hid hpp
  clear h hn hL hR gl gr ha hb hl hm hL1 hR1 hd hmid hnn hpp
  go_enter Tryz.func239, Tryz.ntmps239
  go_upto_if 140 with (first | rw [hmid2] | rw [hnn2])
  go_cut [20, 21] (fun s t wc => wc = w ∧ ∃ lo hi : Nat, s = .int .i64 lo ∧ t = .int .i64 hi ∧ lo ≤ hi ∧ a ≤ lo ∧ hi ≤ m ∧ m + hi ≤ nn ∧ nn ≤ b + lo ∧ (lo = a ∨ nn = b + lo) ∧ (hi = m ∨ nn = m + hi))
  case first =>
    by_cases hmm : mid < m
    · go_wp2_with (fail)
      go_meet
      case rel =>
        exact ⟨rfl, nn - b, mid, by have := HMID.out; have := HNNN.out; go_num, rfl, by have := HMID.out; have := HNNN.out; omega, by have := HMID.out; have := HNNN.out; omega, by omega, by have := HNNN.out; omega, by omega, by have := HMID.out; have := HNNN.out; omega, by have := HNNN.out; omega⟩
    · go_wp2_with (fail)
      go_meet
      case rel =>
        exact ⟨rfl, a, m, rfl, rfl, by omega, by omega, by omega, by have := HNNN.out; omega, by have := HMID.out; have := HNNN.out; omega, .inl rfl, .inl rfl⟩
  case rest =>
    obtain ⟨rfl, lo, hi, rfl, rfl, hlh, hal, hhm, hnh, hnl, hlo, hhi⟩ := hcut
    obtain ⟨w0, hw0⟩ : ∃ w0, w0 = wc := ⟨_, rfl⟩
    subst hw0
    have HLOW := Lib.hid hlo
    have HHIGH := Lib.hid hhi
    clear hlo hhi
    go_wp2_with (rw [hpp2])
    go_loopw [20, 21] (fun u v wx => ∃ s t : Nat, u = .int .i64 s ∧ v = .int .i64 t ∧ lo ≤ s ∧ s ≤ t ∧ t ≤ hi ∧ (lo < s → ∀ x y, l[s - 1]? = some x → l[nn - s]? = some y → x.id ≤ y.id) ∧ (t < hi → ∀ x y, l[t]? = some x → l[pp - t]? = some y → y.id < x.id) ∧ fr w0 wx) (fun u v _ => (intOf v).toNat - (intOf u).toNat)
    case atStart => exact ⟨lo, hi, rfl, rfl, Nat.le_refl _, hlh, Nat.le_refl _, fun h => absurd h (Nat.lt_irrefl _), fun h => absurd h (Nat.lt_irrefl _), fr.refl⟩
    case round =>
      obtain ⟨s, t, rfl, rfl, hls, hst, hth, hlo, hhi, hfr⟩ := hrel
      have HLO := Lib.hid hlo
      have HHI := Lib.hid hhi
      have HFR := Lib.hid hfr
      clear hlo hhi hfr
      by_cases hlt : s < t
      · as_aux_lemma =>
          obtain ⟨q, hq⟩ : ∃ q, (s + t) / 2 = q := ⟨_, rfl⟩
          have hqq : ((s : Int) + (t : Int)) / 2 = (q : Int) := by omega
          have hq1 : s ≤ q ∧ q < t := by omega
          obtain ⟨r, hr⟩ : ∃ r, pp - q = r := ⟨_, rfl⟩
          have hrr : (pp : Int) - (q : Int) = (r : Int) := by have := HPPP.out; omega
          have hrn : r < n := by have := HPPP.out; omega
          have hrw : IntKind.i64.wrap (r : Int) = (r : Int) := by simp [IntKind.wrap, IntKind.signed, IntKind.bits]; omega
          obtain ⟨x, hx⟩ : ∃ x, l[q]? = some x := ⟨_, List.getElem?_eq_getElem (by rw [HN.out]; omega)⟩
          obtain ⟨y, hy⟩ : ∃ y, l[r]? = some y := ⟨_, List.getElem?_eq_getElem (by rw [HN.out]; omega)⟩
          have HX := Lib.hid hx
          have HY := Lib.hid hy
          have HRR := Lib.hid hr
          obtain ⟨A1, c1, A2, c2, A3, c3, A4, c4, ⟨x0, x1, x2, x3, x4⟩, ⟨y0, y1, y2, y3, y4⟩, _, _⟩ := tabs_two (OwnRows.below tbFine H.out HFR.out) HN.out hx hy
          have hqn : (q : Int) < (n : Int) := by omega
          have hrn2 : (r : Int) < (n : Int) := by omega
          clear hx hy hq hr
          by_cases hyx : y.id < x.id
          · have hc : decide (cmpT y.id x.id < 0) = true := by rw [cmpT_lt]; exact decide_eq_true hyx
            go_upto_region 35 with (rw [hqq])
            go_still_tail 11, (by kernel_rfl)
            go_wp2_with (first | rw [hrr] | ((first | go_at_call 126 | go_at_fn 126); refine (lessT_any _ _ _ _ _ _ _ _ _ _ _ ⟨_, _, _, rfl⟩ ⟨_, _, _, rfl⟩ ⟨_, _, _, rfl⟩ ⟨_, _, _, rfl⟩).mono ?_; rintro r w3 ⟨rfl, f3⟩))
            refine ⟨⟨s, q, rfl, by go_num, hls, by omega, by omega, HLO.out, fun _ x' y' hx' hy' => ?_, fr.step HFR.out (fr.step (fr.drew fr.refl) f3)⟩, by simp [intOf]; omega⟩
            rw [HRR.out, HY.out] at hy'
            rw [HX.out] at hx'
            obtain rfl := Option.some.inj hy'
            obtain rfl := Option.some.inj hx'
            exact hyx
          · have hc : decide (cmpT y.id x.id < 0) = false := by rw [cmpT_lt]; exact decide_eq_false hyx
            go_upto_region 35 with (rw [hqq])
            go_still_tail 11, (by kernel_rfl)
            go_wp2_with (first | rw [hrr] | ((first | go_at_call 126 | go_at_fn 126); refine (lessT_any _ _ _ _ _ _ _ _ _ _ _ ⟨_, _, _, rfl⟩ ⟨_, _, _, rfl⟩ ⟨_, _, _, rfl⟩ ⟨_, _, _, rfl⟩).mono ?_; rintro r w3 ⟨rfl, f3⟩))
            refine ⟨⟨q + 1, t, by go_num, rfl, by omega, by omega, hth, fun _ x' y' hx' hy' => ?_, HHI.out, fr.step HFR.out (fr.step (fr.drew fr.refl) f3)⟩, by simp [intOf]; omega⟩
            rw [show nn - (q + 1) = r by have := HRR.out; have := HPPP.out; omega, HY.out] at hy'
            rw [Nat.add_sub_cancel, HX.out] at hx'
            obtain rfl := Option.some.inj hy'
            obtain rfl := Option.some.inj hx'
            omega
      · obtain rfl : s = t := by omega
        obtain ⟨e, he⟩ : ∃ e, nn - s = e := ⟨_, rfl⟩
        have hee : (nn : Int) - (s : Int) = (e : Int) := by omega
        have hme : m ≤ e ∧ e ≤ b ∧ a ≤ s ∧ s ≤ m := by omega
        have hse : s + (e - m) = mid := by have := HNNN.out; omega
        obtain ⟨i, hi1⟩ : ∃ i, s - a = i := ⟨_, rfl⟩
        obtain ⟨k, hk1⟩ : ∃ k, e - m = k := ⟨_, rfl⟩
        have hLl : L.length = m - a := by have := HM.out; omega
        have hRl : R.length = b - m := by have := HB.out; omega
        have hlow : ∀ x ∈ L.take i, ∀ y ∈ R.drop k, x.id ≤ y.id := cross_low HL.out HR.out (fun h1 h2 x y hx hy => by
          have g1 := (HGL.out (i - 1) (by omega)).trans hx
          have g2 := (HGR.out k h2).trans hy
          refine HLO.out (by have := HLOW.out; omega) x y ?_ ?_
          · rwa [show a + (i - 1) = s - 1 by omega] at g1
          · rwa [show m + k = nn - s by omega] at g2) (by omega)
        have hhigh : ∀ y ∈ R.take k, ∀ x ∈ L.drop i, y.id ≤ x.id := cross_high HL.out HR.out (fun h1 h2 x y hx hy => by
          have g1 := (HGL.out i h2).trans hx
          have g2 := (HGR.out (k - 1) (by omega)).trans hy
          refine Int.le_of_lt (HHI.out (by have := HHIGH.out; omega) x y ?_ ?_)
          · rwa [show a + i = s by omega] at g1
          · rwa [show m + (k - 1) = pp - s by have := HPPP.out; omega] at g2) (by omega)
        obtain ⟨L1, hL1⟩ : ∃ L1, L.take i = L1 := ⟨_, rfl⟩
        obtain ⟨L2, hL2⟩ : ∃ L2, L.drop i = L2 := ⟨_, rfl⟩
        obtain ⟨R1, hR1⟩ : ∃ R1, R.take k = R1 := ⟨_, rfl⟩
        obtain ⟨R2, hR2⟩ : ∃ R2, R.drop k = R2 := ⟨_, rfl⟩
        have hLL : L = L1 ++ L2 := by rw [← hL1, ← hL2, List.take_append_drop]
        have hRR : R = R1 ++ R2 := by rw [← hR1, ← hR2, List.take_append_drop]
        have l1 : L1.length = s - a := by rw [← hL1, List.length_take]; omega
        have l2 : L2.length = m - s := by rw [← hL2, List.length_drop]; omega
        have r1 : R1.length = e - m := by rw [← hR1, List.length_take]; omega
        have r2 : R2.length = b - e := by rw [← hR2, List.length_drop]; omega
        have s1 := hL1 ▸ sorted_take HL.out i
        have s2 := hL2 ▸ sorted_drop HL.out i
        have s3 := hR1 ▸ sorted_take HR.out k
        have s4 := hR2 ▸ sorted_drop HR.out k
        rw [hL1, hR2] at hlow
        rw [hR1, hL2] at hhigh
        have hnl : (P ++ L1 ++ L2 ++ R1 ++ R2 ++ S).length = n := by have := HN.out; rw [← HLL.out, hLL, hRR] at this; simpa using this
        have h0 : OwnTabs wr base (.slice (some ⟨g, 0, none⟩) n c) (P ++ L1 ++ L2 ++ R1 ++ R2 ++ S) := by
          have := OwnRows.below tbFine H.out HFR.out
          rw [← HLL.out, hLL, hRR] at this
          simpa using this
        have HLENS := Lib.hid (show L1.length = s - a ∧ L2.length = m - s ∧ R1.length = e - m ∧ R2.length = b - e from ⟨l1, l2, r1, r2⟩)
        have HS1 := Lib.hid s1
        have HS2 := Lib.hid s2
        have HS3 := Lib.hid s3
        have HS4 := Lib.hid s4
        have HCL := Lib.hid hlow
        have HCH := Lib.hid hhigh
        have HLE := Lib.hid hLL
        have HRE := Lib.hid hRR
        have HNL := Lib.hid hnl
        have H0 := Lib.hid h0
        have HSE := Lib.hid hse
        clear hlow hhigh hL1 hL2 hR1 hR2 hLL hRR l1 l2 r1 r2 s1 s2 s3 s4 hnl h0 hLl hRl hi1 hk1 he HLO HHI HGL HGR hse HLOW HHIGH
        obtain ⟨w1, hw1⟩ : ∃ w1, w1 = wr := ⟨_, rfl⟩
        subst hw1
        go_upto_region 39 with (rw [hee])
        go_cut [185] (fun v wc => wc = w1 ∧ v = .bool (decide (s < m ∧ m < e)))
        case first =>
          by_cases h1 : s < m
          · by_cases h2 : m < e
            · go_wp2_with (fail)
              go_meet
              case rel => exact ⟨rfl, by simp [h1, h2]⟩
            · go_wp2_with (fail)
              go_meet
              case rel => exact ⟨rfl, by simp [h2]⟩
          · go_wp2_with (fail)
            go_meet
            case rel => exact ⟨rfl, by simp [h1]⟩
        case rest =>
          as_aux_lemma =>
            obtain ⟨hwc, rfl⟩ := hcut
            subst hwc
            go_upto_if 185 with (fail)
            go_cut [185] (fun _ wd => OwnTabs wd base (.slice (some ⟨g, 0, none⟩) n c) (P ++ L1 ++ R1 ++ L2 ++ R2 ++ S) ∧ Only (fun i => g = i) wc wd)
            case first =>
              by_cases hb : s < m ∧ m < e
              · have hbt : decide (s < m ∧ m < e) = true := decide_eq_true hb
                have HC := Lib.hid (rotate_any base n g c s m e (P ++ L1) L2 R1 (R2 ++ S) wc (by simpa using H0.out) (by simpa using HNL.out) (by have := HLENS.out.1; have := HP.out; rw [List.length_append]; omega) (by have := HLENS.out.2.1; omega) (by have := HLENS.out.2.2.1; omega) (by have := HLENS.out.2.1; omega) (by have := HLENS.out.2.2.1; omega) hbig)
                go_wp2_with (go_at_call 273; refine HC.out.mono ?_; rintro r w2 ⟨rfl, ho2, hon2⟩)
                go_meet
                case rel => exact ⟨by simpa using ho2, hon2⟩
              · have hbt : decide (s < m ∧ m < e) = false := decide_eq_false hb
                go_wp2_with (fail)
                go_meet
                case rel =>
                  refine ⟨?_, Only.refl _ _⟩
                  rcases (show L2 = [] ∨ R1 = [] from by
                    have h1 := HLENS.out.2.1
                    have h2 := HLENS.out.2.2.1
                    rcases Nat.lt_or_ge s m with h3 | h3
                    · exact .inr (List.eq_nil_of_length_eq_zero (by omega))
                    · exact .inl (List.eq_nil_of_length_eq_zero (by omega))) with h3 | h3
                  · have := H0.out
                    rw [h3] at this ⊢
                    simpa using this
                  · have := H0.out
                    rw [h3] at this ⊢
                    simpa using this
            case rest =>
              as_aux_lemma =>
                obtain ⟨how2, hon2⟩ := hcut
                have HOW2 := Lib.hid how2
                have HON2 := Lib.hid hon2
                clear how2 hon2
                go_upto_region 41 with (fail)
                obtain ⟨w2, hw2⟩ : ∃ w2, w2 = wc := ⟨_, rfl⟩
                go_cut [199] (fun v wx => wx = w2 ∧ v = .bool (decide (a < s ∧ s < mid)))
                case first =>
                  by_cases h1 : a < s
                  · by_cases h2 : s < mid
                    · go_wp2_with (fail)
                      go_meet
                      case rel => exact ⟨hw2.symm, by simp [h1, h2]⟩
                    · go_wp2_with (fail)
                      go_meet
                      case rel => exact ⟨hw2.symm, by simp [h2]⟩
                  · go_wp2_with (fail)
                    go_meet
                    case rel => exact ⟨hw2.symm, by simp [h1]⟩
                case rest =>
                  obtain ⟨hwc, rfl⟩ := hcut
                  subst hw2
                  subst hwc
                  go_upto_if 199 with (fail)
                  obtain ⟨w2, hw2⟩ : ∃ w2, w2 = wc := ⟨_, rfl⟩
                  subst hw2
                  go_cut [199] (fun _ wd => ∃ M1, M1.Perm (L1 ++ R1) ∧ SortedT M1 ∧ OwnTabs wd base (.slice (some ⟨g, 0, none⟩) n c) (P ++ M1 ++ L2 ++ R2 ++ S) ∧ Only (fun i => g = i) w2 wd)
                  case first =>
                    by_cases hb : a < s ∧ s < mid
                    · have hbt : decide (a < s ∧ s < mid) = true := decide_eq_true hb
                      have HC := Lib.hid (ih base n g c a s mid P L1 R1 (L2 ++ R2 ++ S) w2 (by have := HLENS.out; have := HMID.out; have := HD.out; have := HM.out; have := HB.out; have := HSE.out; omega) (by simpa using HOW2.out) (by have := HNL.out; simp at this ⊢; omega) HP.out (by have := HLENS.out; omega) (by have := HLENS.out; have := HSE.out; omega) (by have := HLENS.out; omega) (by have := HLENS.out; have := HSE.out; omega) HS1.out HS3.out hbig)
                      go_wp2_with (go_at_call 239; refine HC.out.mono ?_; rintro r w3 ⟨rfl, M1, hp1, hs1, ho3, hon3⟩)
                      go_meet
                      case rel => exact ⟨M1, hp1, hs1, by simpa using ho3, hon3⟩
                    · have hbt : decide (a < s ∧ s < mid) = false := decide_eq_false hb
                      go_wp2_with (fail)
                      go_meet
                      case rel =>
                        refine ⟨L1 ++ R1, List.Perm.refl _, ?_, by simpa using HOW2.out, Only.refl _ _⟩
                        rcases (show L1 = [] ∨ R1 = [] from by
                          have h1 := HLENS.out.1
                          have h2 := HLENS.out.2.2.1
                          have h4 := HSE.out
                          rcases Nat.lt_or_ge a s with h3 | h3
                          · exact .inr (List.eq_nil_of_length_eq_zero (by omega))
                          · exact .inl (List.eq_nil_of_length_eq_zero (by omega))) with h3 | h3
                        · rw [h3]; exact HS3.out
                        · rw [h3, List.append_nil]; exact HS1.out
                  case rest =>
                    as_aux_lemma =>
                      obtain ⟨M1, hp1, hs1, how3, hon3⟩ := hcut
                      have HOW3 := Lib.hid how3
                      have HON3 := Lib.hid hon3
                      have HP1 := Lib.hid hp1
                      have HSM1 := Lib.hid hs1
                      have hlm : M1.length = mid - a := by have := hp1.length_eq; rw [List.length_append] at this; have := HLENS.out; have := HSE.out; omega
                      have HLM := Lib.hid hlm
                      clear how3 hon3 hp1 hs1 hlm
                      have hend : ∀ (wz : World) (M2 : List Tbl), M2.Perm (L2 ++ R2) → SortedT M2 → OwnTabs wz base (.slice (some ⟨g, 0, none⟩) n c) (P ++ M1 ++ M2 ++ S) → Only (fun i => g = i) wc wz → SymEnd w0 wz base n g c P L R S (.returned (.tuple #[])) := fun wz M2 hp2 hs2 ho4 hon4 => by
                        refine ⟨rfl, M1 ++ M2, ?_, ?_, by simpa using ho4, (((Only.of_below HFR.out).trans HON2.out).trans HON3.out).trans hon4⟩
                        · rw [HLE.out, HRE.out]
                          refine (HP1.out.append hp2).trans ?_
                          have e1 : L1 ++ R1 ++ (L2 ++ R2) = L1 ++ ((R1 ++ L2) ++ R2) := by simp
                          have e2 : L1 ++ L2 ++ (R1 ++ R2) = L1 ++ ((L2 ++ R1) ++ R2) := by simp
                          rw [e1, e2]
                          exact (List.perm_append_comm.append_right R2).append_left L1
                        · have hLs := HL.out
                          have hRs := HR.out
                          rw [HLE.out] at hLs
                          rw [HRE.out] at hRs
                          refine List.pairwise_append.2 ⟨HSM1.out, hs2, fun x hx y hy => ?_⟩
                          rcases List.mem_append.1 (HP1.out.mem_iff.1 hx) with hx | hx
                          · rcases List.mem_append.1 (hp2.mem_iff.1 hy) with hy | hy
                            · exact (List.pairwise_append.1 hLs).2.2 x hx y hy
                            · exact HCL.out x hx y hy
                          · rcases List.mem_append.1 (hp2.mem_iff.1 hy) with hy | hy
                            · exact HCH.out x hx y hy
                            · exact (List.pairwise_append.1 hRs).2.2 x hx y hy
                      have HEND := Lib.hid hend
                      clear hend
                      go_upto_region 43 with (fail)
                      obtain ⟨w3, hw3⟩ : ∃ w3, w3 = wc := ⟨_, rfl⟩
                      subst hw3
                      go_cut [213] (fun v wx => wx = w3 ∧ v = .bool (decide (mid < e ∧ e < b)))
                      case first =>
                        by_cases h1 : mid < e
                        · by_cases h2 : e < b
                          · go_wp2_with (fail)
                            go_meet
                            case rel => exact ⟨rfl, by simp [h1, h2]⟩
                          · go_wp2_with (fail)
                            go_meet
                            case rel => exact ⟨rfl, by simp [h2]⟩
                        · go_wp2_with (fail)
                          go_meet
                          case rel => exact ⟨rfl, by simp [h1]⟩
                      case rest =>
                        as_aux_lemma =>
                          obtain ⟨hwc, rfl⟩ := hcut
                          subst hwc
                          by_cases hb : mid < e ∧ e < b
                          · have hbt : decide (mid < e ∧ e < b) = true := decide_eq_true hb
                            have HC := Lib.hid (ih base n g c mid e b (P ++ M1) L2 R2 S wc (by have := HLENS.out; have := HMID.out; have := HD.out; have := HM.out; have := HB.out; have := HSE.out; omega) (by simpa using HOW3.out) (by have h1 := HNL.out; have h2 := HLM.out; have h3 := HLENS.out; have h4 := HSE.out; simp at h1 ⊢; omega) (by have := HLM.out; have := HP.out; rw [List.length_append]; omega) (by have := HLENS.out; have := HSE.out; omega) (by have := HLENS.out; omega) (by have := HLENS.out; have := HSE.out; omega) (by have := HLENS.out; omega) HS2.out HS4.out hbig)
                            go_wp2_with (go_at_call 239; refine HC.out.mono ?_; rintro r w4 ⟨rfl, M2, hp2, hs2, ho4, hon4⟩)
                            refine bodyPost_end (v := .tuple #[]) (by simp [results, Tryz.results239, go_sem]) rfl ?_
                            exact HEND.out _ M2 hp2 hs2 (by simpa using ho4) hon4
                          · have hbt : decide (mid < e ∧ e < b) = false := decide_eq_false hb
                            have hM2 : SortedT (L2 ++ R2) := by
                              rcases (show L2 = [] ∨ R2 = [] from by
                                have h1 := HLENS.out.2.1
                                have h2 := HLENS.out.2.2.2
                                have h4 := HSE.out
                                rcases Nat.lt_or_ge mid e with h3 | h3
                                · exact .inr (List.eq_nil_of_length_eq_zero (by omega))
                                · exact .inl (List.eq_nil_of_length_eq_zero (by omega))) with h3 | h3
                              · rw [h3]; exact HS4.out
                              · rw [h3, List.append_nil]; exact HS2.out
                            have HM2 := Lib.hid hM2
                            clear hM2
                            go_wp2_with (fail)
                            refine bodyPost_end (v := .tuple #[]) (by simp [results, Tryz.results239, go_sem]) rfl ?_
                            exact HEND.out _ (L2 ++ R2) (List.Perm.refl _) HM2.out (by simpa using HOW3.out) (Only.refl _ _)
end Go.Proofs.YtjnolpfmchnnmaaGreatDoor
end
section
namespace Go.Proofs.YtjnolpfmchnnmaaGreatDoor
set_option maxRecDepth 100000
open Go.RowKit Go.BigFrame
theorem sym_any : ∀ d : Nat, SymSaid d
  | 0 => fun _ _ _ _ _ _ _ _ _ _ _ _ hd _ _ _ _ _ hL _ _ _ _ => by omega
  | d + 1 => fun base n g c a m b P L R S w hd h hn ha hm hb hL0 hR0 hL hR hbig => by
    rcases Nat.lt_or_ge 1 L.length with h1 | h1
    · rcases Nat.lt_or_ge 1 R.length with h2 | h2
      · exact sym_gen d (sym_any d) base n g c a m b P L R S w hd h hn ha hm hb h1 h2 hL hR hbig
      · obtain ⟨y, rfl⟩ := List.length_eq_one_iff.1 (show R.length = 1 by omega)
        exact sym_last base n g c a m b P L S y w h hn ha hm hb h1 hL hbig
    · obtain ⟨x, rfl⟩ := List.length_eq_one_iff.1 (show L.length = 1 by omega)
      exact sym_one base n g c a m b P R S x w h hn ha hm hb hR hbig
theorem sorted_part {l : List Tbl} {a m : Nat} (h : OrdOn l a m) : SortedT ((l.drop a).take (m - a)) := by
  unfold SortedT
  rw [List.pairwise_iff_getElem]
  intro i j hi hj hij
  rw [List.length_take, List.length_drop] at hi hj
  rw [List.getElem_take, List.getElem_take, List.getElem_drop, List.getElem_drop]
  exact h (a + i) (a + j) _ _ (by omega) (by omega) (by omega) (List.getElem?_eq_getElem (by omega)) (List.getElem?_eq_getElem (by omega))
theorem ord_part {P M S : List Tbl} {a b : Nat} (ha : P.length = a) (hb : a + M.length = b) (h : SortedT M) : OrdOn (P ++ M ++ S) a b := by
  intro p q x y hp hpq hq hx hy
  obtain ⟨i, rfl⟩ := Nat.exists_eq_add_of_le hp
  obtain ⟨j, rfl⟩ := Nat.exists_eq_add_of_le (show a ≤ q by omega)
  rw [get_in ha (by omega)] at hx hy
  obtain ⟨h1, rfl⟩ := List.getElem?_eq_some_iff.1 hx
  obtain ⟨h2, rfl⟩ := List.getElem?_eq_some_iff.1 hy
  exact List.pairwise_iff_getElem.1 h i j h1 h2 (by omega)
theorem moved_part {P M N S : List Tbl} {a b : Nat} (ha : P.length = a) (hb : a + N.length = b) (h : M.Perm N) : Moved a b (P ++ N ++ S) (P ++ M ++ S) := by
  have hl := h.length_eq
  refine ⟨(h.append_left P).append_right S, fun p hp => ?_⟩
  rcases hp with hp | hp
  · rw [List.append_assoc, List.append_assoc, List.getElem?_append_left (by omega), List.getElem?_append_left (by omega)]
  · rw [List.getElem?_append_right (by rw [List.length_append]; omega), List.getElem?_append_right (by rw [List.length_append]; omega), List.length_append, List.length_append, hl]
set_option maxRecDepth 100000 in
theorem sym_idx (base n a m b : Nat) (v : Value) (l : List Tbl) (w : World) (h : OwnTabs w base v l) (hn : l.length = n) (ham : a < m) (hmb : m < b) (hbn : b ≤ n) (h1 : OrdOn l a m) (h2 : OrdOn l m b) (hbig : n ≤ 1073742848) :
    Calls Tryz.prog 239 #[v, .int .i64 a, .int .i64 m, .int .i64 b, lessTV] w fun r w' => r = .returned (.tuple #[]) ∧ ∃ l', OwnTabs w' base v l' ∧ Moved a b l l' ∧ OrdOn l' a b ∧ Only (fun i => v.ownBlock = some i) w w' := by
  obtain ⟨A, c, rfl⟩ := (show ∃ A c, v = .slice A l.length c by obtain ⟨css, h, _⟩ := h; exact own_form h)
  rw [hn] at h ⊢
  obtain ⟨g, rfl⟩ : ∃ g, A = some ⟨g, 0, none⟩ := by
    obtain ⟨css, h, _⟩ := h
    rcases h.2 with ⟨h1, h2⟩ | ⟨g, cap, cur, h1, _⟩
    · injection h1 with _ h3 _
      omega
    · injection h1 with h3 _ _
      exact ⟨g, h3⟩
  have hL : l.length = n := hn
  have e1 : l.take a ++ (l.drop a).take (m - a) ++ (l.drop m).take (b - m) ++ l.drop b = l := by
    have g1 : (l.drop m).take (b - m) ++ l.drop b = l.drop m := by
      have := List.take_append_drop (b - m) (l.drop m)
      rwa [List.drop_drop, show m + (b - m) = b by omega] at this
    have g2 : (l.drop a).take (m - a) ++ l.drop m = l.drop a := by
      have := List.take_append_drop (m - a) (l.drop a)
      rwa [List.drop_drop, show a + (m - a) = m by omega] at this
    rw [List.append_assoc, g1, List.append_assoc, g2, List.take_append_drop]
  have la : (l.take a).length = a := by rw [List.length_take]; omega
  have lL : ((l.drop a).take (m - a)).length = m - a := by rw [List.length_take, List.length_drop]; omega
  have lR : ((l.drop m).take (b - m)).length = b - m := by rw [List.length_take, List.length_drop]; omega
  refine (sym_any _ base n g c a m b (l.take a) ((l.drop a).take (m - a)) ((l.drop m).take (b - m)) (l.drop b) w (Nat.le_refl _) (by rw [e1]; exact h) (by rw [e1]; exact hn) la (by omega) (by omega) (by omega) (by omega) (sorted_part h1) (sorted_part h2) hbig).mono ?_
  rintro r w' ⟨rfl, M, hp, hs, ho, hon⟩
  have hM : a + M.length = b := by have := hp.length_eq; rw [List.length_append] at this; omega
  refine ⟨rfl, _, ho, ?_, ord_part la hM hs, hon.mono fun i hi => by rw [← hi]; rfl⟩
  have := moved_part (P := l.take a) (M := M) (N := (l.drop a).take (m - a) ++ (l.drop m).take (b - m)) (S := l.drop b) (a := a) (b := b) la (by rw [List.length_append, lL, lR]; omega) hp
  rwa [← List.append_assoc, e1] at this
end Go.Proofs.YtjnolpfmchnnmaaGreatDoor
end
section
namespace Go.Proofs.YtjnolpfmchnnmaaGreatDoor
set_option maxRecDepth 100000
open Go.RowKit Go.BigFrame
theorem Moved.wide {a b n : Nat} {l l' : List Tbl} (h : Moved a b l l') (hb : b ≤ n) : Moved 0 n l l' := ⟨h.perm, fun p hp => h.out p (by omega)⟩
theorem OrdOn.moved {l l' : List Tbl} {a b s e : Nat} (h : OrdOn l s e) (m : Moved a b l l') (d : e ≤ a ∨ b ≤ s) : OrdOn l' s e := fun p q x y hp hpq hq hx hy =>
  h p q x y hp hpq hq ((m.out p (by omega)) ▸ hx) ((m.out q (by omega)) ▸ hy)
theorem OrdOn.wide {l : List Tbl} {s e e' : Nat} (h : OrdOn l s e) (hl : l.length ≤ e) : OrdOn l s e' := fun p q x y hp hpq _ hx hy =>
  h p q x y hp hpq (by have := (List.getElem?_eq_some_iff.1 hy).1; omega) hx hy
theorem OrdOn.none {l : List Tbl} {s e : Nat} (hl : l.length ≤ s) : OrdOn l s e := fun p q x y hp hpq _ _ hy => by
  have := (List.getElem?_eq_some_iff.1 hy).1
  omega
def Blk (B : Nat) (l : List Tbl) : Prop := ∀ p, OrdOn l (p * B) (p * B + B)
def Blk2 (B q : Nat) (l : List Tbl) : Prop := (∀ p, p < q → OrdOn l (p * (2 * B)) (p * (2 * B) + 2 * B)) ∧ ∀ p, 2 * q ≤ p → OrdOn l (p * B) (p * B + B)
theorem mulBlk {p q B : Nat} (h : p < q) : p * B + B ≤ q * B := by rw [← Nat.succ_mul]; exact Nat.mul_le_mul_right B h
theorem twoBlk (q B : Nat) : (2 * q) * B = q * (2 * B) := by rw [Nat.mul_comm 2 q, Nat.mul_assoc]
theorem blk2_zero {B : Nat} {l : List Tbl} (h : Blk B l) : Blk2 B 0 l := ⟨fun _ h => absurd h (Nat.not_lt_zero _), fun p _ => h p⟩
theorem blk2_next {B q a : Nat} {l l' : List Tbl} (h : Blk2 B q l) (ha : q * (2 * B) = a) (m : Moved a (a + 2 * B) l l') (o : OrdOn l' a (a + 2 * B)) : Blk2 B (q + 1) l' := by
  refine ⟨fun p hp => ?_, fun p hp => ?_⟩
  · rcases Nat.lt_or_ge p q with hq | hq
    · exact (h.1 p hq).moved m (.inl (by have := mulBlk (B := 2 * B) hq; omega))
    · obtain rfl : p = q := by omega
      rw [ha]
      exact o
  · refine (h.2 p (by omega)).moved m (.inr ?_)
    have h1 := Nat.mul_le_mul_right B hp
    rw [twoBlk, Nat.succ_mul] at h1
    omega
theorem blk2_left {B q a : Nat} {l : List Tbl} (h : Blk2 B q l) (ha : q * (2 * B) = a) : OrdOn l a (a + B) := by
  have := h.2 (2 * q) (Nat.le_refl _)
  rwa [twoBlk, ha] at this
theorem blk2_right {B q a : Nat} {l : List Tbl} (h : Blk2 B q l) (ha : q * (2 * B) = a) : OrdOn l (a + B) (a + 2 * B) := by
  have := h.2 (2 * q + 1) (by omega)
  rw [Nat.succ_mul, twoBlk, ha] at this
  rwa [show a + 2 * B = a + B + B by omega]
theorem blk2_tail {B q a n : Nat} {l l' : List Tbl} (h : Blk2 B q l) (ha : q * (2 * B) = a) (m : Moved a n l l') (o : OrdOn l' a n) (hn : l'.length = n) (hb : n < a + 2 * B) : Blk (2 * B) l' := by
  intro p
  rcases Nat.lt_trichotomy p q with hq | hq | hq
  · exact (h.1 p hq).moved m (.inl (by have := mulBlk (B := 2 * B) hq; omega))
  · rw [hq, ha]
    exact o.wide (by omega)
  · exact OrdOn.none (by have := mulBlk (B := 2 * B) hq; omega)
theorem blk2_tail0 {B q a n : Nat} {l : List Tbl} (h : Blk2 B q l) (ha : q * (2 * B) = a) (hn : l.length = n) (hb : n ≤ a + B) : Blk (2 * B) l := by
  intro p
  rcases Nat.lt_trichotomy p q with hq | hq | hq
  · exact h.1 p hq
  · rw [hq, ha]
    exact (blk2_left h ha).wide (by omega)
  · exact OrdOn.none (by have := mulBlk (B := 2 * B) hq; omega)
theorem blk_done {B n : Nat} {l : List Tbl} (h : Blk B l) (hn : l.length = n) (hb : n ≤ B) : OrdOn l 0 n := by
  have := h 0
  rw [Nat.zero_mul, Nat.zero_add] at this
  exact this.wide (by omega)
theorem ins_next {B k : Nat} {l l' : List Tbl} (h : ∀ p, p < k → OrdOn l (p * B) (p * B + B)) (m : Moved (k * B) (k * B + B) l l') (o : OrdOn l' (k * B) (k * B + B)) : ∀ p, p < k + 1 → OrdOn l' (p * B) (p * B + B) := by
  intro p hp
  rcases Nat.lt_or_ge p k with hq | hq
  · exact (h p hq).moved m (.inl (mulBlk hq))
  · obtain rfl : p = k := by omega
    exact o
theorem ins_end {B k n : Nat} {l l' : List Tbl} (h : ∀ p, p < k → OrdOn l (p * B) (p * B + B)) (m : Moved (k * B) n l l') (o : OrdOn l' (k * B) n) (hn : l'.length = n) (hb : n < k * B + B) : Blk B l' := by
  intro p
  rcases Nat.lt_trichotomy p k with hq | hq | hq
  · exact (h p hq).moved m (.inl (mulBlk hq))
  · rw [hq]
    exact o.wide (by omega)
  · exact OrdOn.none (by have := mulBlk (B := B) hq; omega)
end Go.Proofs.YtjnolpfmchnnmaaGreatDoor
end
section
namespace Go.Proofs.YtjnolpfmchnnmaaGreatDoor
set_option maxRecDepth 100000
open Go.RowKit Go.BigFrame
attribute [local go_sem ↓] Go.wp_at_zero Go.wp_at_succ
set_option maxRecDepth 100000 in
set_option maxHeartbeats 4000000 in
theorem stable_any (base n : Nat) (v : Value) (l : List Tbl) (w : World) (h : OwnTabs w base v l) (hn : l.length = n) (hbig : n ≤ 1073742848) :
    Calls Tryz.prog 195 #[v, .int .i64 n, lessTV] w fun r w' => r = .returned (.tuple #[]) ∧ ∃ l', OwnTabs w' base v l' ∧ Moved 0 n l l' ∧ OrdOn l' 0 n ∧ Only (fun i => v.ownBlock = some i) w w' := by
  obtain ⟨A, c, rfl⟩ := (show ∃ A c, v = .slice A l.length c by obtain ⟨css, h, _⟩ := h; exact own_form h)
  rw [hn] at h ⊢
  have H := Lib.hid h
  have HN := Lib.hid hn
  clear h hn
  go_enter Tryz.func195, Tryz.ntmps195
  go_wp2
  go_loopw [7, 8] (fun u t wx => ∃ (k a b : Nat) (l1 : List Tbl), u = .int .i64 a ∧ t = .int .i64 b ∧ a + 20 = b ∧ k * 20 = a ∧ a ≤ n ∧ OwnTabs wx base (.slice A n c) l1 ∧ Moved 0 n l l1 ∧ (∀ p, p < k → OrdOn l1 (p * 20) (p * 20 + 20)) ∧ Only (fun i => (Value.slice A n c).ownBlock = some i) w wx) (fun u _ _ => n - (intOf u).toNat)
  case atStart => exact ⟨0, 0, 20, l, rfl, rfl, rfl, rfl, Nat.zero_le _, H.out, Moved.refl _ _ _, fun p hp => absurd hp (Nat.not_lt_zero _), Only.refl _ _⟩
  case round =>
    obtain ⟨k, a, b, l1, rfl, rfl, hab, hk, han, how, hmv, hord, hon⟩ := hrel
    have hl1 : l1.length = n := by have := hmv.perm.length_eq; have := HN.out; omega
    have hlt : a < b := by omega
    have hbb : b < 1073742900 := by omega
    have HK := Lib.hid hk
    have HAB := Lib.hid hab
    have HMV := Lib.hid hmv
    have HORD := Lib.hid hord
    have HON := Lib.hid hon
    by_cases hbn : b ≤ n
    · as_aux_lemma =>
        have HC := Lib.hid (insertion_any base a b n _ l1 wr how hl1 (by omega) hbn hbig)
        clear how hmv hord hon hk hab hl1
        have hd : decide ((b : Int) ≤ (n : Int)) = true := decide_eq_true (by omega)
        go_wp2_with (go_at_call 238; refine HC.out.mono ?_; rintro r w2 ⟨rfl, l2, how, hmv, hord, hon⟩)
        have hkb : k * 20 + 20 = b := by have := HK.out; have := HAB.out; omega
        refine ⟨⟨k + 1, b, b + 20, l2, rfl, by go_num, rfl, by have := hkb; omega, hbn, how, HMV.out.trans (hmv.wide hbn), ?_, HON.out.trans hon⟩, by have := HAB.out; simp [intOf]; omega⟩
        rw [← HK.out] at hmv hord
        have e : k * 20 + 20 = b := hkb
        rw [← e] at hmv hord
        exact ins_next HORD.out hmv hord
    · as_aux_lemma =>
        have HC := Lib.hid (insertion_any base a n n _ l1 wr how hl1 (by omega) (Nat.le_refl _) hbig)
        clear how hmv hord hon hk hab hl1
        have hd : decide ((b : Int) ≤ (n : Int)) = false := decide_eq_false (by omega)
        go_wp2_with (go_at_call 238; refine HC.out.mono ?_; rintro r w2 ⟨rfl, l2, how, hmv, hord, hon⟩)
        have hl2 : l2.length = n := by have := hmv.perm.length_eq; have := HMV.out.perm.length_eq; have := HN.out; omega
        have hblk : Blk 20 l2 := by
          have hmv2 := hmv
          have hord2 := hord
          rw [← HK.out] at hmv2 hord2
          exact ins_end HORD.out hmv2 hord2 hl2 (by have := HK.out; have := HAB.out; omega)
        have HOW2 := Lib.hid how
        have HMV2 := Lib.hid (HMV.out.trans (hmv.wide (Nat.le_refl _)))
        have HBLK := Lib.hid hblk
        have HON2 := Lib.hid (HON.out.trans hon)
        clear how hmv hord hon hl2 hblk
        obtain ⟨w0, hw0⟩ : ∃ w0, w0 = w2 := ⟨_, rfl⟩
        subst hw0
        go_loopw [6, 7, 8, 9] (fun t _ _ _ wx => ∃ (B : Nat) (l3 : List Tbl), t = .int .i64 B ∧ 0 < B ∧ B ≤ 2147485800 ∧ OwnTabs wx base (.slice A n c) l3 ∧ Moved 0 n l l3 ∧ Blk B l3 ∧ Only (fun i => (Value.slice A n c).ownBlock = some i) w wx) (fun t _ _ _ _ => n - (intOf t).toNat)
        case atStart => exact ⟨20, l2, rfl, by decide, by decide, HOW2.out, HMV2.out, HBLK.out, HON2.out⟩
        case round =>
          obtain ⟨B, l3, rfl, hB, hBb, how, hmv, hblk, hon⟩ := hrel
          have hl3 : l3.length = n := by have := hmv.perm.length_eq; have := HN.out; omega
          have HOW3 := Lib.hid how
          have HMV3 := Lib.hid hmv
          have HBLK3 := Lib.hid hblk
          have HON3 := Lib.hid hon
          clear how hmv hblk hon HOW2 HMV2 HBLK HON2
          by_cases hBn : B < n
          · as_aux_lemma =>
              have hd : decide ((B : Int) < (n : Int)) = true := decide_eq_true (by omega)
              clear hl3
              obtain ⟨w3, hw3⟩ : ∃ w3, w3 = wr := ⟨_, rfl⟩
              subst hw3
              go_wp2_with (fail)
              go_loopw [7, 8] (fun u t wx => ∃ (q a b : Nat) (l4 : List Tbl), u = .int .i64 a ∧ t = .int .i64 b ∧ a + 2 * B = b ∧ q * (2 * B) = a ∧ a ≤ n ∧ OwnTabs wx base (.slice A n c) l4 ∧ Moved 0 n l l4 ∧ Blk2 B q l4 ∧ Only (fun i => (Value.slice A n c).ownBlock = some i) w wx) (fun u _ _ => n - (intOf u).toNat)
              case atStart => exact ⟨0, 0, 2 * B, l3, rfl, by go_num, by omega, by omega, Nat.zero_le _, HOW3.out, HMV3.out, blk2_zero HBLK3.out, HON3.out⟩
              case round =>
                obtain ⟨q, a, b, l4, rfl, rfl, hab, hq, han, how, hmv, hblk, hon⟩ := hrel
                have hl4 : l4.length = n := by have := hmv.perm.length_eq; have := HN.out; omega
                have hbb : b < 4294971700 := by omega
                obtain ⟨m, hm⟩ : ∃ m, a + B = m := ⟨_, rfl⟩
                have hm2 : (a : Int) + (B : Int) = (m : Int) := by omega
                have hmb : m < b := by omega
                have ham : a < m := by omega
                have h1 := blk2_left hblk hq
                have h2 := blk2_right hblk hq
                rw [hm] at h1 h2
                rw [hab] at h2
                have HQ := Lib.hid hq
                have HAB := Lib.hid hab
                have HMB := Lib.hid hm
                have HL4 := Lib.hid hl4
                have HMV4 := Lib.hid hmv
                have HBLK4 := Lib.hid hblk
                have HON4 := Lib.hid hon
                by_cases hbn : b ≤ n
                · as_aux_lemma =>
                    have HC := Lib.hid (sym_idx base n a m b _ l4 wr how hl4 ham hmb hbn h1 h2 hbig)
                    clear how hmv hblk hon hq hab hl4 hm h1 h2
                    have hd2 : decide ((b : Int) ≤ (n : Int)) = true := decide_eq_true (by omega)
                    go_wp2_with (first | rw [hm2] | (go_at_call 239; refine HC.out.mono ?_; rintro r w5 ⟨rfl, l5, how, hmv, hord, hon⟩))
                    refine ⟨⟨q + 1, b, b + 2 * B, l5, rfl, by go_num, rfl, by have := HQ.out; have := HAB.out; rw [Nat.succ_mul]; omega, hbn, how, HMV4.out.trans (hmv.wide hbn), ?_, HON4.out.trans hon⟩, by simp [intOf]; omega⟩
                    rw [← HAB.out] at hmv hord
                    exact blk2_next HBLK4.out HQ.out hmv hord
                · as_aux_lemma =>
                    have hd2 : decide ((b : Int) ≤ (n : Int)) = false := decide_eq_false (by omega)
                    by_cases hmn : m < n
                    · have HC := Lib.hid (sym_idx base n a m n _ l4 wr how hl4 ham hmn (Nat.le_refl _) h1 (h2.wide (by omega)) hbig)
                      clear how hmv hblk hon hq hab hl4 hm h1 h2
                      have hd3 : decide ((m : Int) < (n : Int)) = true := decide_eq_true (by omega)
                      go_wp2_with (first | rw [hm2] | (go_at_call 239; refine HC.out.mono ?_; rintro r w5 ⟨rfl, l5, how, hmv, hord, hon⟩))
                      have hl5 : l5.length = n := by have := hmv.perm.length_eq; have := HL4.out; omega
                      refine ⟨⟨2 * B, l5, by go_num, by omega, by omega, how, HMV4.out.trans (hmv.wide (Nat.le_refl _)), ?_, HON4.out.trans hon⟩, by simp [intOf]; omega⟩
                      exact blk2_tail HBLK4.out HQ.out hmv hord hl5 (by have := HAB.out; omega)
                    · have HOW4 := Lib.hid how
                      clear how hmv hblk hon hq hab hl4 hm h1 h2
                      have hd3 : decide ((m : Int) < (n : Int)) = false := decide_eq_false (by omega)
                      go_wp2_with (rw [hm2])
                      refine ⟨⟨2 * B, l4, by go_num, by omega, by omega, HOW4.out, HMV4.out, ?_, HON4.out⟩, by simp [intOf]; omega⟩
                      exact blk2_tail0 HBLK4.out HQ.out HL4.out (by have := HMB.out; omega)
          · have hd : decide ((B : Int) < (n : Int)) = false := decide_eq_false (by omega)
            have HL3 := Lib.hid hl3
            clear hl3
            go_wp2_with (fail)
            refine bodyPost_end (v := .tuple #[]) (by simp [results, Tryz.results195, go_sem]) rfl ?_
            exact ⟨rfl, l3, HOW3.out, HMV3.out, blk_done HBLK3.out HL3.out (by omega), HON3.out⟩
set_option maxRecDepth 100000 in
theorem sort_any (base : Nat) (v : Value) (l : List Tbl) (w : World) (h : OwnTabs w base v l) (hs : l.length ≤ 1073742848) :
    Calls Tryz.prog 125 #[v, lessTV] w fun r w' => r = .returned (.tuple #[]) ∧ ∃ l', OwnTabs w' base v l' ∧ Moved 0 l.length l l' ∧ OrdOn l' 0 l.length ∧ Only (fun i => v.ownBlock = some i) w w' := by
  have HC := Lib.hid (stable_any base l.length v l w h rfl hs)
  obtain ⟨A, c, rfl⟩ := (show ∃ A c, v = .slice A l.length c by obtain ⟨css, h, _⟩ := h; exact own_form h)
  clear h
  go_enter Tryz.func125, Tryz.ntmps125
  go_wp2_with (go_at_call 195; refine HC.out.mono ?_; rintro r w2 ⟨rfl, l2, how, hmv, hord, hon⟩)
  refine bodyPost_end (v := .tuple #[]) (by simp [results, Tryz.results125, go_sem]) rfl ?_
  exact ⟨rfl, l2, how, hmv, hord, hon⟩
theorem sorts_any {l : List Tbl} (hs : l.length ≤ 1073742848) (hn : (idsT l).Nodup) : Sorts sortTb l := by
  intro w base x h
  refine (sort_any base x l w h hs).mono ?_
  rintro r w' ⟨rfl, l', h1, h2, h3, h4⟩
  rw [sortTb_only h2 h3 hn] at h1
  exact ⟨rfl, h1, h4⟩
end Go.Proofs.YtjnolpfmchnnmaaGreatDoor
end
section
namespace Go.Proofs.YtjnolpfmchnnmaaGreatDoor
set_option maxRecDepth 100000
open Go.RowKit Go.BigFrame Go.Sort Go.Shelf Go.Lib
structure SwT (wB wx : World) (F : Nat → Prop) (p dn i : Nat) (u : Value) (st sd : List Nm) : Prop where
  ex : ∃ (F' : Nat → Prop) (D' : Nm → Option (List UInt8)), SwD D' 1 sd ∧ DkC wx F' p (dn + i) D' ∧ (∀ x, ¬ isOwn 1 x → ((D' x).getD []).length ≤ i) ∧ Spread wB.heap.size F F' ∧ ∀ g, u.ownBlock = some g → ¬ F' g
  row : OwnS wx wB.heap.size u st
  few : sd.length ≤ i
  only : Only F wB wx
section
variable {wB wx wy : World} {F : Nat → Prop} {p dn i : Nat} {u v' : Value} {st sd : List Nm}
theorem SwT.below (h : SwT wB wx F p dn i u st sd) (hf : fr wx wy) : SwT wB wy F p dn i u st sd := by
  obtain ⟨⟨F', D', h1, h2, h3, h4, h5⟩, h6, h7, h8⟩ := h
  exact ⟨⟨F', D', h1, h2.below hf, h3, h4, h5⟩, h6.below hf, h7, h8.trans (Only.of_below hf)⟩
theorem SwT.mono (h : SwT wB wx F p dn i u st sd) {j : Nat} (hij : i ≤ j) : SwT wB wx F p dn j u st sd := by
  obtain ⟨⟨F', D', h1, h2, h3, h4, h5⟩, h6, h7, h8⟩ := h
  exact ⟨⟨F', D', h1, h2.mono (by omega), fun x hx => Nat.le_trans (h3 x hx) hij, h4, h5⟩, h6, by omega, h8⟩
theorem SwT.put (h : SwT wB wx F p dn i u st sd) (hv : v' = u ∨ ∀ g, v'.ownBlock = some g → wx.heap.size ≤ g) (ho : OwnS wy wB.heap.size v' sd) (hf : fr wx wy) : SwT wB wy F p dn i v' sd sd := by
  obtain ⟨⟨F', D', h1, h2, h3, h4, h5⟩, h6, h7, h8⟩ := h
  refine ⟨⟨F', D', h1, h2.below hf, h3, h4, fun g hg => ?_⟩, ho, h7, h8.trans (Only.of_below hf)⟩
  rcases hv with rfl | hv
  · exact h5 g hg
  · exact fun hF => by have := hv g hg; have := (h2.lies g hF).1; omega
theorem sw_append (h : SwT wB wx F p dn i u st st) (hxy : fr wx wy) (y : Nm) (hy : nameB y = true) (hown : ¬ isOwn 1 y) (v : Value) (b : List UInt8) (hb : b.length ≤ 1) (S : Nat → Prop) (hv : Byt wy S v b) (hS : ∀ j, S j → wx.heap.size ≤ j) (ht : TabW wy) (hi : dn + i ≤ 4398046511103) :
    Calls Tryz.prog 35 #[.pointer (some ⟨p, 0, none⟩), .string ⟨y.toArray⟩, v] wy fun r w' => r = .returned (.int .i64 0) ∧ SwT wB w' F p dn (i + 1) u st (if isTbl y = true then st else addS y st) := by
  obtain ⟨⟨F', D', h1, h2, h3, h4, h5⟩, h6, h7, h8⟩ := h
  have hsz := Below.size hxy
  refine (cappend (x := y) S v b (h2.below hxy) ht hy hv (fun j hj hF => by have := hS j hj; have := (h2.lies j hF).1; omega) (by have := h3 y hown; omega) (by omega)).mono ?_
  rintro r w' ⟨rfl, ⟨F'', hs, hk⟩, ho⟩
  refine ⟨rfl, ⟨F'', _, ?_, hk, fun x hx => ?_, ?_, fun g hg hF => ?_⟩, ?_, ?_, ?_⟩
  · by_cases ht : isTbl y = true
    · rw [if_pos ht]
      exact h1.tbl ht _
    · rw [if_neg ht]
      exact h1.add (by simpa using ht) hown _
  · unfold putD
    split
    · rw [Option.getD_some, List.length_append]
      have := h3 y hown
      omega
    · have := h3 x hx
      omega
  · exact h4.trans hs (by have := h8.size; omega)
  · rcases hs g hF with h | h
    · exact h5 g hg h
    · have := (World.ownsRow.lt h6 g hg).2
      omega
  · exact own_only (h6.below hxy) ho fun g hg hF => h5 g hg hF
  · by_cases ht : isTbl y = true
    · rw [if_pos ht]
      omega
    · rw [if_neg ht]
      have := addS_len y st
      omega
  · exact (h8.trans (Only.of_below hxy)).fresh ho fun j hj => h4 j hj
end
theorem sw_apply (F : Nat → Prop) (M p : Nat) (bs : List UInt8) (av dv : Value) (e : Edt) (w : World) (hm : ManC w F M p ver0 1 1000 (begunD (fun _ => none) 0 bs)) (ht : TabW w) (ha : TabsV w (fun _ => True) av e.add) (hd : IntsIn w (fun _ => True) dv e.drop)
    (hb : (∀ t ∈ e.add, t.count < 9223372036854775808) ∧ e.lg < 9223372036854775808 ∧ e.sq < 9223372036854775808) :
    Calls Tryz.prog 28 #[.pointer (some ⟨M, 0, none⟩), .agg #[av, dv, .int .i64 e.lg, .int .i64 e.sq]] w fun r w' => ∃ (q : Int) (v : Ver) (F' : Nat → Prop) (D' : Nm → Option (List UInt8)) (x : Value), r = .returned (.int .i64 q) ∧ VerOk v ∧ (∀ x, (D' x).isSome = true ↔ isOwn 1 x) ∧ Spread w.heap.size F F' ∧ DkC w' F' p 1002 D' ∧ ManR w' M p x v 1 ∧ TabsV w' (fun i => ¬ F' i ∧ i ≠ M) x v.tabs ∧ ¬ F' M ∧ Only (fun i => F i ∨ i = M) w w' := by
  refine (mapply_own (fun _ => True) F M p 1 1000 ver0 _ av dv e w hm ht ha hd (fun h => sorts_any (by
    have h1 := (foldE_ok.1 h).fewA
    have h2 := hm.ver.few
    have h3 : (foldT ver0 e).length ≤ ver0.tabs.length + e.add.length := by
      unfold foldT
      have := List.length_filter_le (fun t => !decide (t.id ∈ e.drop)) (ver0.tabs ++ e.add)
      rw [List.length_append] at this
      exact this
    omega) (foldT_nodup hm.ver.nodup (foldE_ok.1 h))) hb.1 hb.2.1 hb.2.2 (by omega)).mono ?_
  rintro r w' ⟨rfl, h2, h3⟩
  by_cases hE : foldE ver0 e = 0
  · rw [if_pos hE] at h2
    obtain ⟨F', g1, g2, _⟩ := h2
    obtain ⟨x, g3, g4⟩ := g2.row
    exact ⟨_, _, F', _, x, rfl, g2.ver, fun y => key_put (begun_key bs) _ y, g1, g2.dk, g3, g4, g2.out.1, h3⟩
  · rw [if_neg hE] at h2
    have g2 := hm.below h2
    obtain ⟨x, g3, g4⟩ := g2.row
    exact ⟨_, _, F, _, x, rfl, g2.ver, begun_key bs, Spread.refl _ _, g2.dk.mono (by omega), g3, g4, g2.out.1, h3⟩
end Go.Proofs.YtjnolpfmchnnmaaGreatDoor
end
