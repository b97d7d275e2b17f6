/-
manifest.Open on a calm disk.
-/
import Derived.Test.YtjnolpfmchnnmaaGreatDoorQPSwUpto8
import Derived.Test.YtjnolpfmchnnmaaGreatDoorQPSwUpto11
import Derived.Deep.QuietTactic
import Derived.BigQuiet
import Derived.Deep.Cut
import Derived.Deep.CutRange
import Derived.Deep.DeepCutAuto
section
namespace Go.Proofs.YtjnolpfmchnnmaaGreatDoor
set_option maxRecDepth 100000
open Go.RowKit Go.BigFrame Go.Sort Go.Shelf Go.Lib
attribute [local go_sem ↓] Go.wp_at_zero Go.wp_at_succ
theorem infoFn : (Tryz.prog.info? 41).map (fun i => (i.zero, i.size, i.bytes)) = some (some .nilFunc, 1, 8) := by kernel_rfl
def stepsL (z zo num : Nat) : List Value := [.func (.func 135) #[] #[.pointer (some ⟨z, 0, none⟩)], .func (.func 136) #[] #[.pointer (some ⟨z, 0, none⟩)], .func (.func 137) #[] #[.pointer (some ⟨z, 0, none⟩)], .func (.func 138) #[] #[.pointer (some ⟨z, 0, none⟩)]] ++ (if num = 0 then [] else [.func (.func 139) #[] #[.pointer (some ⟨z, 0, none⟩), .pointer (some ⟨zo, 0, none⟩)]])
def stepD (B : Nm → Option (List UInt8)) (num : Nat) (b : List UInt8) : Nat → Nm → Option (List UInt8)
  | 0 => B
  | 1 => B
  | 2 => putD B freshW b
  | 3 => putD B freshW b
  | 4 => putD (delD (putD B freshW b) freshW) curW b
  | _ => delD (putD (delD (putD B freshW b) freshW) curW b) (nameM num)
theorem begun_steps (D : Nm → Option (List UInt8)) (num : Nat) (b : List UInt8) : stepD (putD (sweptD D (ownM num)) (nameM (num + 1)) b) num (Lib.itoa ((num + 1 : Nat) : Int)) (if num = 0 then 4 else 5) = begunD D num b := by
  unfold begunD
  split <;> rfl
theorem stepD_own {D : Nm → Option (List UInt8)} {num : Nat} {b s c : List UInt8} (h0 : 0 < num) (hn : num + 1 < 1000000) (hD : D (nameM num) = some c) : stepD (putD (sweptD D (ownM num)) (nameM (num + 1)) b) num s 4 (nameM num) = some c := by
  show putD (delD (putD (putD (sweptD D (ownM num)) (nameM (num + 1)) b) freshW s) freshW) curW s (nameM num) = some c
  rw [putD_ne _ _ (nameM_ne_cur _), delD_ne _ (nameM_ne_fresh _), putD_ne _ _ (nameM_ne_fresh _), putD_ne _ _ (fun e => by have := nameM_inj (by omega) (by omega) e; omega)]
  have ho : ownM num = nameM num := by unfold ownM; rw [if_neg (by omega)]
  unfold sweptD junkM
  rw [ho, decide_eq_false (by simp)]
  exact hD
theorem stepD_fresh (D : Nm → Option (List UInt8)) (num : Nat) (b : List UInt8) : putD (sweptD D (ownM num)) (nameM (num + 1)) b freshW = none := by
  rw [putD_ne _ _ (fun e => nameM_ne_fresh _ e.symm)]
  unfold sweptD
  rw [if_pos fresh_junk]
set_option maxRecDepth 100000 in
set_option maxHeartbeats 8000000 in
theorem mbegin_any (F : Nat → Prop) (M p num dn : Nat) (D : Nm → Option (List UInt8)) (x : Value) (v : Ver) (w : World) (hm : ManR w M p x v num) (hM : ¬ F M ∧ tabG < M) (hx : TabsV w (fun i => ¬ F i ∧ i ≠ M) x v.tabs) (hk : DkC w F p dn D) (ht : TabW w) (hnum : num + 1 < 1000000)
    (hown : 0 < num → ∃ c, D (nameM num) = some c) (hver : VerOk v) (hsort : ∀ n, Sorts sortTb (v.tabs.take n)) (hdn : dn ≤ 400000) :
    Calls Tryz.prog 78 #[.pointer (some ⟨M, 0, none⟩)] w fun r w' => r = .returned (.int .i64 0) ∧ (∃ F', Spread w.heap.size F F' ∧ ManC w' F' M p v (num + 1) (dn + dn + 1000) (begunD D num (frB (recsM (splitL v))))) ∧ Only (fun i => F i ∨ i = M) w w' := by
  obtain ⟨Ax, cx, rfl⟩ := hx.form
  obtain ⟨nv, hnv⟩ : ∃ n, v.tabs.length = n := ⟨_, rfl⟩
  rw [hnv] at hx hm
  have HNV := Lib.hid hnv
  have HM := Lib.hid hm
  have HMO := Lib.hid hM
  have HX := Lib.hid hx
  have HK := Lib.hid hk
  have HT := Lib.hid ht
  have HOWN := Lib.hid hown
  have HVER := Lib.hid hver
  have HSORT := Lib.hid hsort
  have b0 := Boxed.new w 46 (.pointer (some ⟨M, 0, none⟩))
  have hf1 : fr w (w.alloc (.cells #[.pointer (some ⟨M, 0, none⟩)] 46)) := fr.alloc fr.refl _
  have hs1 : (w.alloc (.cells #[.pointer (some ⟨M, 0, none⟩)] 46)).heap.size = w.heap.size + 1 := by simp
  clear hm hM hx hk ht hown hver hsort hnv
  go_enter Tryz.func78, Tryz.ntmps78
  go_upto_region 1 with (fail)
  obtain ⟨z, hz⟩ : ∃ z, w.heap.size = z := ⟨_, rfl⟩
  rw [hz] at b0 hs1 ⊢
  generalize w.alloc (.cells #[.pointer (some ⟨M, 0, none⟩)] 46) = w1 at hf1 b0 hs1 ⊢
  have HZ := Lib.hid hz
  have HF1 := Lib.hid hf1
  have HB := Lib.hid b0
  have hb0 := b0.cell
  obtain ⟨e0, e1, e2, e3, e4, e5⟩ := (HM.out.below hf1).cells
  have HLI := Lib.hid (clist (HK.out.below hf1) (by omega))
  clear hf1 b0 hz
  go_upto_region 4 with (go_at_call 58; refine HLI.out.mono ?_; rintro r w2 ⟨lv, l, rfl, hlo, hls, hlm, hll, f2⟩)
  have HLO := Lib.hid hlo
  have HLS := Lib.hid hls
  have HLM := Lib.hid hlm
  have HLL := Lib.hid hll
  have HF2 := Lib.hid (fr.step HF1.out f2)
  have HB2 := Lib.hid (boxedFr HB.out f2)
  have hs2 : z + 1 ≤ w2.heap.size := by have := Below.size f2; omega
  have pO := Boxed.new w2 9 (.string ⟨#[]⟩)
  have hf3 : fr w2 (w2.alloc (.cells #[.string ⟨#[]⟩] 9)) := fr.alloc fr.refl _
  clear hlo hls hlm hll f2 hb0 e0 e1 e2 e3 e4 e5 HLI
  go_upto_region 5 with (fail)
  obtain ⟨zo, hzo⟩ : ∃ z, w2.heap.size = z := ⟨_, rfl⟩
  rw [hzo] at pO hs2 ⊢
  generalize w2.alloc (.cells #[.string ⟨#[]⟩] 9) = w3 at pO hf3 ⊢
  have HF3 := Lib.hid (fr.step HF2.out hf3)
  have HB3 := Lib.hid (boxedFr HB2.out hf3)
  have HPO := Lib.hid pO
  have HZO := Lib.hid hzo
  have HLO3 := Lib.hid (own_below HLO.out hf3)
  have hb0 := HB3.out.cell
  obtain ⟨e0, e1, e2, e3, e4, e5⟩ := (HM.out.below HF3.out).cells
  have o0 := pO.cell
  have oz := pO.frozen
  clear pO hf3 hzo
  go_upto_if 31 with (fail)
  go_cut [31] (fun _ wc => Boxed wc zo 9 (.string ⟨(ownM num).toArray⟩) ∧ Only (fun i => i = zo) w3 wc)
  case first =>
    by_cases hn0 : 0 < num
    · have hd0 : decide ((0 : Int) < (num : Int)) = true := decide_eq_true (by omega)
      have HO : Hid (ownM num = nameM num) := Lib.hid (by unfold ownM; rw [if_neg (by omega)])
      have HFI := Lib.hid (mfile_any num w3 (HT.out.below HF3.out) (by omega))
      go_wp2_with (go_at_call 84; refine HFI.out.mono ?_; rintro r w4 ⟨rfl, f4⟩; have o1 := (boxedFr HPO.out f4).cell; have oz1 := (boxedFr HPO.out f4).frozen)
      go_meet
      case rel => rw [HO.out]; exact ⟨(boxedFr HPO.out f4).set _, (Only.of_below f4).trans (only_set w4 zo 0 _)⟩
    · have hd0 : decide ((0 : Int) < (num : Int)) = false := decide_eq_false (by omega)
      have HO : Hid (ownM num = []) := Lib.hid (by unfold ownM; rw [if_pos (by omega)])
      go_wp2_with (fail)
      go_meet
      case rel => rw [HO.out]; exact ⟨HPO.out, Only.refl _ _⟩
  case rest =>
    obtain ⟨hpo, hon⟩ := hcut
    have HON := Lib.hid hon
    have HPO4 := Lib.hid hpo
    have hzw : w.heap.size ≤ zo := by have := HZ.out; omega
    have HF4 : Hid (fr w wc) := Lib.hid (HF3.out.trans (hon.below (Below.size HF3.out) fun i h => by omega))
    have HB4 := Lib.hid (boxedOnly HB3.out hon (by omega))
    have HLO4 := Lib.hid (own_only HLO3.out hon fun g hg h => by have := (HLO.out.lt g hg).2; have := HZO.out; omega)
    clear hpo hon hb0 e0 e1 e2 e3 e4 e5 o0 oz HB3 HPO HF3 HLO3
    obtain ⟨nl, hnl⟩ : ∃ n, l.length = n := ⟨_, rfl⟩
    have HNL := Lib.hid hnl
    have hnl1 : nl ≤ dn := by have := HLL.out; omega
    unfold OwnS at HLO4
    rw [hnl] at HLO4
    obtain ⟨Al, cl, rfl⟩ := own_form HLO4.out
    obtain ⟨O, hO⟩ : ∃ O : ByteArray, (⟨(ownM num).toArray⟩ : ByteArray) = O := ⟨_, rfl⟩
    have HO := Lib.hid hO
    rw [hO] at HPO4
    clear hnl hO
    go_wp2_with (fail)
    go_loopw [39] (fun t wr => ∃ i : Nat, i ≤ nl ∧ t = .int .i64 i ∧ DkC wr F p (dn + i) (sweptI D (ownM num) (l.take i)) ∧ Only F wc wr) (fun t _ => nl - (intOf t).toNat)
    case atStart => exact ⟨0, Nat.zero_le _, rfl, by rw [List.take_zero, sweptI_nil]; exact HK.out.below HF4.out, Only.refl _ _⟩
    case round =>
      obtain ⟨i, hi, rfl, hk, hon⟩ := hrel
      have HKW := Lib.hid hk
      have HOF := Lib.hid hon
      have HFl : Hid (∀ i, F i → i < w.heap.size) := Lib.hid fun i hi => (HK.out.lies i hi).1
      have hBW := boxedOnly HB4.out hon fun h => by have := HFl.out z h; have := HZ.out; omega
      have hOW := boxedOnly HPO4.out hon fun h => by have := HFl.out zo h; omega
      have HBW := Lib.hid hBW
      have HOW := Lib.hid hOW
      have HMW := Lib.hid ((HM.out.below HF4.out).only hon HMO.out.1)
      have HTW : Hid (TabW wr) := Lib.hid ((HT.out.below HF4.out).only hon fun i hi => (HK.out.lies i hi).2)
      have HLW := Lib.hid (own_only HLO4.out hon fun g hg h => by have h1 := HFl.out g h; have h2 := (HLO.out.lt g hg).1; have h3 := Below.size HF1.out; omega)
      have hb0 := hBW.cell
      have o0 := hOW.cell
      obtain ⟨e0, e1, e2, e3, e4, e5⟩ := HMW.out.cells
      clear hk hon hBW hOW
      by_cases hin : i < nl
      · obtain ⟨y, hy⟩ : ∃ y, l[i]? = some y := ⟨_, List.getElem?_eq_getElem (by rw [HNL.out]; exact hin)⟩
        obtain ⟨g, cg, hE, _, _⟩ := own_pos HLW.out (by omega)
        injection hE with hE1 hE2 hE3
        subst hE1
        clear hE2 hE3
        have x0 : wr.cell? ⟨g, i, none⟩ = some (.string ⟨y.toArray⟩) := by
          have := HLW.out.cells (g := g) rfl i (.string ⟨y.toArray⟩) (by rw [List.getElem?_map, hy]; rfl)
          rwa [Addr.add_lit, Nat.zero_add] at this
        have HY := Lib.hid hy
        obtain ⟨X, hX⟩ : ∃ X : ByteArray, (⟨y.toArray⟩ : ByteArray) = X := ⟨_, rfl⟩
        have hXO : (X.toList == O.toList) = decide (y = ownM num) := by rw [← hX, ← HO.out, Bool.eq_iff_iff]; simp [ByteArray.toList_eq]
        have HXO := Lib.hid hXO
        have HXX := Lib.hid hX
        rw [hX] at x0
        clear hy hX hXO
        have HSK : Hid (junkM (ownM num) y = false → ∀ t : Value, t = .int .i64 ((i : Int) + 1) → ∃ i : Nat, i ≤ nl ∧ t = .int .i64 i ∧ DkC wr F p (dn + i) (sweptI D (ownM num) (l.take i)) ∧ Only F wc wr) := Lib.hid fun hj t ht => ⟨i + 1, by omega, by rw [ht]; rfl, by rw [sweptI_skip HY.out hj]; exact HKW.out.mono (by omega), HOF.out⟩
        by_cases h1 : y = ownM num
        · have hb : (X.toList == O.toList) = true := by rw [HXO.out]; exact decide_eq_true h1
          have HJ : Hid (junkM (ownM num) y = false) := Lib.hid (by unfold junkM; rw [decide_eq_false (by simpa using h1)]; rfl)
          clear h1
          go_wp2_with (fail)
          exact ⟨HSK.out HJ.out _ rfl, by simp [intOf]; omega⟩
        · have hb : (X.toList == O.toList) = false := by rw [HXO.out]; exact decide_eq_false h1
          have HN1 := Lib.hid h1
          have hXl : X.toList = y := by rw [← HXX.out]; simp [ByteArray.toList_eq]
          have hXd : X.data.toList = y := by rw [← HXX.out]
          have hXs : X.size = y.length := by rw [← HXX.out, ba_size]
          have hym : ∃ cy, D y = some cy := by
            have := (HLM.out y).1 (List.mem_of_getElem? HY.out)
            exact Option.isSome_iff_exists.1 this
          obtain ⟨cy, hcy⟩ := hym
          have hyl : y.length ≤ 32 := nameB_len (HK.out.name hcy)
          have HCY : Hid (sweptI D (ownM num) (l.take i) y = some cy) := Lib.hid (by rw [sweptI_at HY.out HLS.out]; exact hcy)
          have HDE : Hid (∀ wx, fr wr wx → Calls Tryz.prog 62 #[.pointer (some ⟨p, 0, none⟩), .string X] wx fun r w' => r = .returned (.int .i64 0) ∧ DkC w' F p (dn + i + 1) (delD (sweptI D (ownM num) (l.take i)) y) ∧ Only F wx w') := Lib.hid fun wx hx => by
            rw [← HXX.out]
            exact cdelete (HKW.out.below hx) HCY.out (by omega)
          have HDL : Hid (junkM (ownM num) y = true → ∀ (t : Value) (wx wy : World), fr wr wx → Only F wx wy → DkC wy F p (dn + i + 1) (delD (sweptI D (ownM num) (l.take i)) y) → t = .int .i64 ((i : Int) + 1) → ∃ i : Nat, i ≤ nl ∧ t = .int .i64 i ∧ DkC wy F p (dn + i) (sweptI D (ownM num) (l.take i)) ∧ Only F wc wy) := Lib.hid fun hj t wx wy hx hy2 hd ht => ⟨i + 1, by omega, by rw [ht]; rfl, by rw [sweptI_del HY.out hj]; exact hd, (HOF.out.trans (Only.of_below hx)).trans hy2⟩
          by_cases h2 : y = freshW
          · have HJ : Hid (junkM (ownM num) y = true) := Lib.hid (by unfold junkM; rw [decide_eq_true h2, decide_eq_true (by simpa using HN1.out)]; rfl)
            have hfr : (X.toList == [99, 117, 114, 114, 101, 110, 116, 46, 116, 109, 112]) = true := by rw [hXl, h2]; rfl
            clear h1 h2 hXl hXd hXs hcy hyl
            go_wp2_with (go_at_call 62; refine (HDE.out _ fr.refl).mono ?_; rintro r w5 ⟨rfl, hk5, ho5⟩)
            exact ⟨HDL.out HJ.out _ _ _ fr.refl ho5 hk5 rfl, by simp [intOf]; omega⟩
          · have hfr : (X.toList == [99, 117, 114, 114, 101, 110, 116, 46, 116, 109, 112]) = false := by rw [hXl, beq_eq_false_iff_ne]; exact h2
            have HPF : Hid (Calls Tryz.prog 132 #[.string X, .string ⟨#[109]⟩] wr fun r w' => r = .returned (.bool (preM.isPrefixOf y)) ∧ w' = wr) := Lib.hid (by
              have := Tryz.strings_HasPrefix X ⟨#[109]⟩ wr
              rw [hXd] at this
              exact this)
            have HSF : Hid (Calls Tryz.prog 133 #[.string X, .string ⟨#[46, 108, 111, 103]⟩] wr fun r w' => r = .returned (.bool (sufW.isSuffixOf y)) ∧ w' = wr) := Lib.hid (by
              have := Tryz.strings_HasSuffix X ⟨#[46, 108, 111, 103]⟩ wr (by omega)
              rw [hXd] at this
              exact this)
            have HJJ : Hid (junkM (ownM num) y = (preM.isPrefixOf y && sufW.isSuffixOf y && decide (y.length = 11))) := Lib.hid (by unfold junkM; rw [decide_eq_false h2, decide_eq_true (by simpa using HN1.out)]; rfl)
            obtain ⟨q, hq⟩ : ∃ q, y.length = q := ⟨_, rfl⟩
            rw [hq] at HJJ hXs
            clear h1 h2 hXl hXd hcy hyl hq
            obtain ⟨b1, hb1⟩ : ∃ b, preM.isPrefixOf y = b := ⟨_, rfl⟩
            obtain ⟨b2, hb2⟩ : ∃ b, sufW.isSuffixOf y = b := ⟨_, rfl⟩
            rw [hb1] at HPF HJJ
            rw [hb2] at HSF HJJ
            clear hb1 hb2
            have HFI : Hid (Calls Tryz.prog 84 #[.int .i64 1] wr fun r w' => ∃ Y : ByteArray, r = .returned (.string Y) ∧ Y.size = 11 ∧ fr wr w') := Lib.hid (by
              refine (mfile_any 1 wr HTW.out (by omega)).mono ?_
              rintro r w' ⟨rfl, hf⟩
              exact ⟨_, rfl, by rw [ba_size, nameM_len], hf⟩)
            cases b1 with
            | false =>
              have HJ : Hid (junkM (ownM num) y = false) := Lib.hid (by rw [HJJ.out]; rfl)
              go_wp2_with (go_at_call 132; refine HPF.out.mono ?_; rintro r w5 ⟨rfl, rfl⟩)
              exact ⟨HSK.out HJ.out _ rfl, by simp [intOf]; omega⟩
            | true =>
              cases b2 with
              | false =>
                have HJ : Hid (junkM (ownM num) y = false) := Lib.hid (by rw [HJJ.out]; rfl)
                go_wp2_with (first | (go_at_call 132; refine HPF.out.mono ?_; rintro r w5 ⟨rfl, rfl⟩) | (go_at_call 133; refine HSF.out.mono ?_; rintro r w5 ⟨rfl, rfl⟩))
                exact ⟨HSK.out HJ.out _ rfl, by simp [intOf]; omega⟩
              | true =>
                by_cases hq11 : q = 11
                · have HJ : Hid (junkM (ownM num) y = true) := Lib.hid (by rw [HJJ.out, decide_eq_true hq11]; rfl)
                  have hq12 : ((q : Int) == 11) = true := by simp; omega
                  subst hq11
                  go_wp2_with (first | (go_at_call 132; refine HPF.out.mono ?_; rintro r w5 ⟨rfl, rfl⟩) | (go_at_call 133; refine HSF.out.mono ?_; rintro r w5 ⟨rfl, rfl⟩) | (go_at_call 84; refine HFI.out.mono ?_; rintro r w5 ⟨Y, rfl, hY, f5⟩; have g0 := f5.cell hb0; have g1 := f5.cell e0) | (go_at_call 62; refine (HDE.out _ f5).mono ?_; rintro r w6 ⟨rfl, hk6, ho6⟩))
                  exact ⟨HDL.out HJ.out _ _ _ f5 ho6 hk6 rfl, by simp [intOf]; omega⟩
                · have HJ : Hid (junkM (ownM num) y = false) := Lib.hid (by rw [HJJ.out, decide_eq_false hq11]; rfl)
                  have hq12 : ((q : Int) == 11) = false := by simp; omega
                  go_wp2_with (first | (go_at_call 132; refine HPF.out.mono ?_; rintro r w5 ⟨rfl, rfl⟩) | (go_at_call 133; refine HSF.out.mono ?_; rintro r w5 ⟨rfl, rfl⟩) | (go_at_call 84; refine HFI.out.mono ?_; rintro r w5 ⟨Y, rfl, hY, f5⟩))
                  obtain ⟨i2, j1, j2, j3, j4⟩ := HSK.out HJ.out _ rfl
                  exact ⟨⟨i2, j1, j2, j3.below f5, j4.trans (Only.of_below f5)⟩, by simp [intOf]; omega⟩
      · obtain rfl : i = nl := by omega
        rw [List.take_of_length_le (by rw [HNL.out]; exact Nat.le_refl _), sweptI_all HLM.out] at HKW
        have yz := frozen_of_row _ _ 5 _ _ HMW.out
        clear hin hi HLW HLO4
        have hrn : Hid (ManR (wr.setCell ⟨M, 5, none⟩ (.int .i64 ((num : Int) + 1))) M p (.slice Ax nv cx) v (num + 1)) := Lib.hid (heap_setCell_same wr M 5 _ _ _ HMW.out)
        have hon5 : Only (fun i => i = M) wr (wr.setCell ⟨M, 5, none⟩ (.int .i64 ((num : Int) + 1))) := only_set wr M 5 _
        go_upto_region 16 with (fail)
        have hlt5 : wr.heap.size = (wr.setCell ⟨M, 5, none⟩ (.int .i64 ((num : Int) + 1))).heap.size := by simp [World.setCell]
        generalize wr.setCell ⟨M, 5, none⟩ (.int .i64 ((num : Int) + 1)) = w5 at hrn hon5 hlt5 ⊢
        have hMz : M < w.heap.size := HM.out.lt
        have HK5 := Lib.hid (HKW.out.only hon5 fun i h hf => HMO.out.1 (h ▸ hf))
        have HB5 := Lib.hid (boxedOnly HBW.out hon5 fun h => by have := HZ.out; omega)
        have HO5 := Lib.hid (boxedOnly HOW.out hon5 fun h => by omega)
        have HT5 : Hid (TabW w5) := Lib.hid (HTW.out.only hon5 fun i h => by have := HMO.out.2; omega)
        have HON5 : Hid (Only (fun i => F i ∨ i = M) w w5) := Lib.hid ((Only.of_below HF4.out).trans ((HOF.out.mono fun i h => .inl h).trans (hon5.mono fun i h => .inr h)))
        have HX5 := Lib.hid (TabsV.only HX.out HON5.out fun i h => by intro h2; exact h2.elim h.1 h.2)
        clear HMW HBW HOW HTW HKW hon5 hb0 o0 e0 e1 e2 e3 e4 e5 yz
        obtain ⟨g, o, hgo⟩ : ∃ g o, 0 < nv → Ax = some ⟨g, o, none⟩ := by
          rcases Nat.eq_zero_or_pos nv with h0 | h0
          · exact ⟨0, 0, fun h => by omega⟩
          · obtain ⟨t0, ht0⟩ : ∃ t, v.tabs[0]? = some t := ⟨_, List.getElem?_eq_getElem (by rw [HNV.out]; exact h0)⟩
            obtain ⟨b, o, cs, rfl, _⟩ := Rows.at_ tbFine HX5.out ht0
            exact ⟨b, o, fun _ => rfl⟩
        have HGO := Lib.hid hgo
        have hvb : nv ≤ cx ∧ cx ≤ 9223372036854775807 ∧ nv ≤ 999999 := by
          have h9 := HVER.out.few
          obtain ⟨A', c', css, hE, h1, h2, _⟩ := HX5.out
          injection hE with _ hE2 hE3
          rw [HNV.out] at h9 h1
          omega
        obtain ⟨m, hm⟩ : ∃ m, chunksN nv = m := ⟨_, rfl⟩
        have hmb : m ≤ 977 := by rw [← hm]; unfold chunksN; omega
        have HSP := Lib.hid (split_any Ax g o nv cx m v.lg v.sq v.nx w5 hgo hvb.2.2 hvb.1 hvb.2.1 hm.symm)
        have HMM := Lib.hid hm
        have hb0 := HB5.out.cell
        obtain ⟨e0, e1, e2, e3, e4, e5⟩ := hrn.out.cells
        clear hgo hm hvb
        go_wp2_with (go_at_call 134; refine HSP.out.mono ?_; rintro r w6 ⟨A6, c6, rfl, ho6, f6⟩)
        have HO6 := Lib.hid ho6
        have hlo6 := Below.size f6
        have HR6 := Lib.hid (hrn.out.below f6)
        have HK6 := Lib.hid (HK5.out.below f6)
        have HB6 := Lib.hid (boxedFr HB5.out f6)
        have HOB6 := Lib.hid (boxedFr HO5.out f6)
        have HT6 := Lib.hid (HT5.out.below f6)
        have HX6 := Lib.hid (HX5.out.below tbFine f6)
        have HON6 := Lib.hid (HON5.out.trans (Only.of_below f6))
        have HSW : Hid (sweptD D (ownM num) (nameM (num + 1)) = none) := Lib.hid (swept_new hnum)
        obtain ⟨g6, cg6, hE6, hg6a, hg6b, _⟩ := own_pos HO6.out (Nat.succ_pos m)
        injection hE6 with hE1 hE2 hE3
        subst hE1
        clear hE2 hE3 ho6 f6 hb0 e0 e1 e2 e3 e4 e5 hrn
        have HCH := Lib.hid (split_ok HVER.out (by have := HVER.out.few; omega) HSORT.out)
        have HEOK := Lib.hid HCH.out.ok
        have hz6 : z < w6.heap.size ∧ zo < w6.heap.size := ⟨HB6.out.lt, HOB6.out.lt⟩
        have HF6 : Hid (∀ i, F i → i < w.heap.size) := Lib.hid fun i hi => (HK.out.lies i hi).1
        obtain ⟨lo, hlo⟩ : ∃ q, w6.heap.size = q := ⟨_, rfl⟩
        rw [hlo] at hg6b hz6 hlo6
        have HLO6 := Lib.hid hlo
        have hwz : w.heap.size ≤ w5.heap.size := HON5.out.size
        clear hlo
        go_loopw [88] (fun t wr => ∃ (j : Nat) (F' : Nat → Prop), j ≤ m + 1 ∧ t = .int .i64 j ∧ Spread lo F F' ∧ DkC wr F' p (dn + i + j) (begD (sweptD D (ownM num)) (nameM (num + 1)) (splitL v) j) ∧ Only F w6 wr) (fun t _ => m + 1 - (intOf t).toNat)
        case atStart => exact ⟨0, F, Nat.zero_le _, rfl, Spread.refl _ _, HK6.out, Only.refl _ _⟩
        case round =>
          obtain ⟨j, F', hj, rfl, hsp, hk, hon⟩ := hrel
          have HSPR := Lib.hid hsp
          have HKR := Lib.hid hk
          have HONR := Lib.hid hon
          have HRR := Lib.hid (HR6.out.only hon HMO.out.1)
          have HBR := Lib.hid (boxedOnly HB6.out hon fun h => by have := HF6.out z h; have := HZ.out; omega)
          have HOR := Lib.hid (boxedOnly HOB6.out hon fun h => by have := HF6.out zo h; omega)
          have HTR : Hid (TabW wr) := Lib.hid (HT6.out.only hon fun i hi => (HK.out.lies i hi).2)
          have HXR := Lib.hid (TabsV.only HX6.out hon fun i h => h.1)
          have HER := Lib.hid (own_only HO6.out hon fun q hq h => by have h1 := HF6.out q h; have h2 := (HO6.out.lt q hq).1; omega)
          clear hsp hk hon
          by_cases hjm : j < m + 1
          · obtain ⟨Aj, nj, cj, ej, s1, s2, s3, s4, s5, s6⟩ := split_at (j := j) HXR.out HNV.out HGO.out (by rw [HMM.out]; omega)
            have hcell : ∀ q u, q < 4 → (edC (.slice Aj nj cj) v.lg v.sq)[q]? = some u → wr.cell? ⟨g6, j * 4 + q, none⟩ = some u := fun q u hq hu => by
              have h1 := splC_at g o nv v.lg v.sq m j (by omega) q hq
              rw [s6] at h1
              rw [hu] at h1
              have := HER.out.cells (g := g6) rfl (j * 4 + q) u h1
              rwa [Addr.add_lit, Nat.zero_add] at this
            have x0 : wr.cell? ⟨g6, j * 4, none⟩ = some (.slice Aj nj cj) := hcell 0 _ (by omega) rfl
            have x1 : wr.cell? ⟨g6, j * 4 + 1, none⟩ = some (.slice none 0 0) := hcell 1 _ (by omega) rfl
            have x2 : wr.cell? ⟨g6, j * 4 + 2, none⟩ = some (.int .i64 v.lg) := hcell 2 _ (by omega) rfl
            have x3 : wr.cell? ⟨g6, j * 4 + 3, none⟩ = some (.int .i64 v.sq) := hcell 3 _ (by omega) rfl
            have hlj : (splitL v)[j]? = some (ej, v.nx) := by unfold splitL; rw [List.getElem?_map, s1]; rfl
            have HSTEP := Lib.hid (begD_step (D := sweptD D (ownM num)) HSW.out hlj)
            have HLEN := Lib.hid (begD_len (D := sweptD D (ownM num)) (l := splitL v) j HSW.out HEOK.out)
            have hsl : (splitL v).length ≤ 978 := by unfold splitL; rw [List.length_map, splitE_len, HNV.out, HMM.out]; omega
            have HPUT : Hid (∀ wx, fr wr wx → Calls Tryz.prog 83 #[.pointer (some ⟨M, 0, none⟩), .agg #[.slice Aj nj cj, .slice none 0 0, .int .i64 v.lg, .int .i64 v.sq], .int .i64 v.nx] wx fun r w' => r = .returned (.int .i64 0) ∧ (∃ F2, Spread wx.heap.size F' F2 ∧ DkC w' F2 p (dn + i + j + 1) (begD (sweptD D (ownM num)) (nameM (num + 1)) (splitL v) (j + 1))) ∧ Only F' wx w') := Lib.hid fun wx hx => by
              have := mput_any (fun _ => True) F' M p (num + 1) (dn + i + j) _ (.slice Ax nv cx) (.slice Aj nj cj) (.slice none 0 0) v ej v.nx wx (HRR.out.below hx) (HKR.out.below hx) (HTR.out.below hx) ((Rows.keep tbFine s5 fun _ _ _ _ hr => hr.mono fun _ _ => trivial).below tbFine hx) (by rw [s2]; exact IntsIn.nil _ _) (HEOK.out _ (List.mem_of_getElem? hlj)) hnum (by omega) (Nat.le_trans HLEN.out (by omega))
              rw [s3, s4, HSTEP.out] at this
              exact this
            clear s1 s2 s3 s4 s5 s6 hcell hlj
            have hwl : lo ≤ wr.heap.size := by have := HONR.out.size; have := HLO6.out; omega
            go_upto_region 19 with (fail)
            have pT := heap_alloc_new wr (.cells #[.slice Aj nj cj, .slice none 0 0, .int .i64 v.lg, .int .i64 v.sq] 45)
            have hf7 : fr wr (wr.alloc (.cells #[.slice Aj nj cj, .slice none 0 0, .int .i64 v.lg, .int .i64 v.sq] 45)) := fr.alloc fr.refl _
            obtain ⟨zb, hzb⟩ : ∃ q, wr.heap.size = q := ⟨_, rfl⟩
            rw [hzb] at pT ⊢
            generalize wr.alloc (.cells #[.slice Aj nj cj, .slice none 0 0, .int .i64 v.lg, .int .i64 v.sq] 45) = w7 at pT hf7 ⊢
            have HF7 := Lib.hid hf7
            have t0 := cell_of_row _ _ 0 _ _ _ pT
            have t1 := cell_of_row _ _ 1 _ _ _ pT
            have t2 := cell_of_row _ _ 2 _ _ _ pT
            have t3 := cell_of_row _ _ 3 _ _ _ pT
            have hb0 := (boxedFr HBR.out hf7).cell
            have e4 : w7.cell? ⟨M, 4, none⟩ = some (.int .i64 v.nx) := (HRR.out.below hf7).cells.2.2.2.2.1
            have qb := fun q : Ext w7 => q.cell hb0
            have q4 := fun q : Ext w7 => q.cell e4
            have r0 := fun q : Ext w7 => q.cell t0
            have r1 := fun q : Ext w7 => q.cell t1
            have r2 := fun q : Ext w7 => q.cell t2
            have r3 := fun q : Ext w7 => q.cell t3
            clear pT hf7 hzb x0 x1 x2 x3
            (refine wp_region_ext_tail 7 (by kernel_rfl) (by kernel_rfl) ?_; simp only [List.take_succ_cons, List.take_zero, List.drop_succ_cons, List.drop_zero]; (repeat (go_big_quiet_step (fail))); refine wpQuiet_nil ?_; intro wq hw'; obtain ⟨⟨_, hq⟩, hw''⟩ := hw'; subst hw'')
            clear qb q4 r0 r1 r2 r3 t0 t1 t2 t3 hb0 e4
            go_wp2_with (go_at_call 83; refine (HPUT.out _ (fr.step HF7.out hq)).mono ?_; rintro r w8 ⟨rfl, ⟨F2, hsp2, hk2⟩, hon2⟩)
            have hsq := Below.size (fr.step HF7.out hq)
            exact ⟨⟨j + 1, F2, by omega, by go_num, HSPR.out.trans hsp2 (by omega), hk2, (HONR.out.trans (Only.of_below (fr.step HF7.out hq))).fresh hon2 fun q h => (HSPR.out q h).imp id fun h => by have := HLO6.out; omega⟩, by simp [intOf]; omega⟩
          · obtain rfl : j = m + 1 := by omega
            have hB1 : begD (sweptD D (ownM num)) (nameM (num + 1)) (splitL v) (m + 1) = putD (sweptD D (ownM num)) (nameM (num + 1)) (frB (recsM (splitL v))) := by
              unfold begD
              rw [if_neg (Nat.succ_ne_zero m), List.take_of_length_le (by unfold splitL; rw [List.length_map, splitE_len, HNV.out, HMM.out]; exact Nat.le_refl _)]
            rw [hB1] at HKR
            clear hB1 hjm hj
            have HFB : Hid (∀ i, F' i → i < wr.heap.size) := Lib.hid fun i hi => (HKR.out.lies i hi).1
            have hz1 := HBR.out.lt
            have hz2 := HOR.out.lt
            have o0 := HOR.out.cell
            have lit := World.ownsRow_lit (base := wr.heap.size) (e := 41) (size := 1) wr #[.func (.func 135) #[] #[.pointer (some ⟨z, 0, none⟩)], .func (.func 136) #[] #[.pointer (some ⟨z, 0, none⟩)], .func (.func 137) #[] #[.pointer (some ⟨z, 0, none⟩)], .func (.func 138) #[] #[.pointer (some ⟨z, 0, none⟩)]] 4 (Nat.le_refl _) (by unfold maxLen; omega) (by simp)
            go_upto_region 26 with (fail)
            have hf9 : fr wr (wr.alloc (.cells #[.func (.func 135) #[] #[.pointer (some ⟨z, 0, none⟩)], .func (.func 136) #[] #[.pointer (some ⟨z, 0, none⟩)], .func (.func 137) #[] #[.pointer (some ⟨z, 0, none⟩)], .func (.func 138) #[] #[.pointer (some ⟨z, 0, none⟩)]] 41)) := fr.alloc fr.refl _
            obtain ⟨lo9, hlo9⟩ : ∃ q, wr.heap.size = q := ⟨_, rfl⟩
            rw [hlo9] at lit HFB hz1 hz2 ⊢
            have HLO9 := Lib.hid hlo9
            generalize wr.alloc (.cells #[.func (.func 135) #[] #[.pointer (some ⟨z, 0, none⟩)], .func (.func 136) #[] #[.pointer (some ⟨z, 0, none⟩)], .func (.func 137) #[] #[.pointer (some ⟨z, 0, none⟩)], .func (.func 138) #[] #[.pointer (some ⟨z, 0, none⟩)]] 41) = w9 at lit hf9 ⊢
            have HLIT := Lib.hid lit
            have HF9 := Lib.hid hf9
            have o1 := hf9.cell o0
            clear lit hlo9 o0
            go_upto_if 122 with (fail)
            go_cut [12] (fun s wc => ∃ gs cs, s = .slice (some ⟨gs, 0, none⟩) (if num = 0 then 4 else 5) cs ∧ wc.ownsRow lo9 41 1 s (if num = 0 then 4 else 5) (stepsL z zo num) ∧ fr wr wc)
            case first =>
              have hemp : (!O.toList.isEmpty) = decide (0 < num) := by
                have hl : O.toList = ownM num := by rw [← HO.out]; simp [ByteArray.toList_eq]
                rw [hl]
                unfold ownM
                by_cases hn0 : num = 0
                · rw [if_pos hn0, hn0]; rfl
                · rw [if_neg hn0, decide_eq_true (by omega)]; rfl
              have HEMP := Lib.hid hemp
              obtain ⟨iF, hiF, hzF0, hzF1, hzF2⟩ := info_parts infoFn
              have hal : fr w9 (w9.alloc (.cells #[.func (.func 139) #[] #[.pointer (some ⟨z, 0, none⟩), .pointer (some ⟨zo, 0, none⟩)]] 41)) := fr.alloc fr.refl _
              have hz9 : lo9 ≤ (w9.alloc (.cells #[.func (.func 139) #[] #[.pointer (some ⟨z, 0, none⟩), .pointer (some ⟨zo, 0, none⟩)]] 41)).heap.size := by have h1 := Below.size hf9; have h2 := HLO9.out; simp; omega
              clear hemp
              go_wp2_with (at_builtin; refine wpList_append_own_at _ rfl _ _ 132 rfl lo9 41 iF _ 1 8 Tryz.underlying132 hiF hzF0 hzF1 hzF2 rfl (by decide) _ _ _ rfl (HLIT.out.alloc _) ⟨w9.heap.size, 0, none⟩ 1 1 [.func (.func 139) #[] #[.pointer (some ⟨z, 0, none⟩), .pointer (some ⟨zo, 0, none⟩)]] rfl rfl (cell_one_new _ _ _) (by simp [Value.oneCell']) (by unfold maxLen; omega) (by omega) hz9 ?_; intro v' w11 hown' hgrow hnn hat; clear hnn; obtain ⟨g', cap', rfl⟩ := ownsRow_succ hown')
              · rename_i hq
                have hn0 : ¬ num = 0 := by
                  have := HEMP.out.symm.trans hq
                  have := of_decide_eq_true this
                  omega
                go_meet
                case rel =>
                  rw [if_neg hn0]
                  refine ⟨_, _, rfl, by unfold stepsL; rw [if_neg hn0]; exact hown', ?_⟩
                  have h1 : Only (fun i => lo9 ≤ i) wr w11 := ((Only.of_below HF9.out).trans (Only.of_below hal)).trans ((Only.of_grown hgrow).mono fun i h => (HLIT.out.lt i h).1)
                  exact h1.below (Nat.le_refl _) fun i h => by have := HLO9.out; omega
              · rename_i hq
                have hn0 : num = 0 := by
                  have := HEMP.out.symm.trans hq
                  have := of_decide_eq_false this
                  omega
                go_meet
                case rel => rw [if_pos hn0]; exact ⟨_, _, rfl, by unfold stepsL; rw [if_pos hn0, List.append_nil]; exact HLIT.out, HF9.out⟩
            case rest =>
              obtain ⟨gs, cs, rfl, hst, hfc⟩ := hcut
              have HST := Lib.hid hst
              have HFC := Lib.hid hfc
              obtain ⟨ns, hns⟩ : ∃ q, (if num = 0 then 4 else 5) = q := ⟨_, rfl⟩
              rw [hns] at HST ⊢
              have hns5 : ns ≤ 5 ∧ 4 ≤ ns ∧ (ns = 5 → 0 < num) := by rw [← hns]; split <;> omega
              have HNS := Lib.hid hns
              have HRC := Lib.hid (HRR.out.below hfc)
              have HKC := Lib.hid (HKR.out.below hfc)
              have HBC := Lib.hid (boxedFr HBR.out hfc)
              have HOC := Lib.hid (boxedFr HOR.out hfc)
              have HTC := Lib.hid (HTR.out.below hfc)
              have HXC := Lib.hid (HXR.out.below tbFine hfc)
              have hgs := HST.out.lt gs rfl
              obtain ⟨loC, hloC⟩ : ∃ q, wc.heap.size = q := ⟨_, rfl⟩
              rw [hloC] at hgs
              have HLOC := Lib.hid hloC
              have hlc : lo9 ≤ loC := by have h1 := Below.size hfc; have h2 := HLO9.out; omega
              have HZB : Hid (¬ F' z ∧ ¬ F' zo ∧ ¬ F' M) := Lib.hid ⟨fun h => (HSPR.out z h).elim (fun h => by have := HF6.out z h; have := HZ.out; omega) fun h => by omega, fun h => (HSPR.out zo h).elim (fun h => by have := HF6.out zo h; omega) fun h => by omega, fun h => (HSPR.out M h).elim HMO.out.1 fun h => by omega⟩
              clear hst hfc hns hloC HRR HBR HOR HTR HXR HER o1 hf9
              go_wp2_with (fail)
              go_loopw [129] (fun t wr => ∃ (q : Nat) (FC : Nat → Prop), q ≤ ns ∧ t = .int .i64 q ∧ Spread loC F' FC ∧ DkC wr FC p (dn + i + (m + 1) + q) (stepD (putD (sweptD D (ownM num)) (nameM (num + 1)) (frB (recsM (splitL v)))) num (Lib.itoa ((num + 1 : Nat) : Int)) q) ∧ Only F' wc wr) (fun t _ => ns - (intOf t).toNat)
              case atStart => exact ⟨0, F', Nat.zero_le _, rfl, Spread.refl _ _, HKC.out, Only.refl _ _⟩
              case round =>
                obtain ⟨q, FC, hi2, rfl, hsp, hk, hon⟩ := hrel
                have HSC := Lib.hid hsp
                have HKD := Lib.hid hk
                have HONC := Lib.hid hon
                have HRD := Lib.hid (HRC.out.only hon HZB.out.2.2)
                have HBD := Lib.hid (boxedOnly HBC.out hon HZB.out.1)
                have HOD := Lib.hid (boxedOnly HOC.out hon HZB.out.2.1)
                have HTD : Hid (TabW wr) := Lib.hid (HTC.out.only hon fun i hi => (HKC.out.lies i hi).2)
                have HSD := Lib.hid (own_only HST.out hon fun g hg h => by have h1 := HFB.out g h; have h2 := (HST.out.lt g hg).1; omega)
                have hwc2 : loC ≤ wr.heap.size := by have := hon.size; have := HLOC.out; omega
                clear hsp hk hon
                by_cases hqn : q < ns
                · have hcl : ∀ u, (stepsL z zo num)[q]? = some u → wr.cell? ⟨gs, q, none⟩ = some u := fun u hu => by
                    have := HSD.out.cells (g := gs) rfl q u hu
                    rwa [Addr.add_lit, Nat.zero_add] at this
                  rcases (by omega : q = 0 ∨ q = 1 ∨ q = 2 ∨ q = 3 ∨ q = 4) with rfl | rfl | rfl | rfl | rfl
                  · have x0 := hcl _ rfl
                    clear hi2 hcl
                    go_wp2_with ((first | go_at_call 135 | go_at_fn 135); refine (beg1_any HBD.out HRD.out HKD.out HTD.out hnum (putD_same _ _ _) (by omega)).mono ?_; rintro r w12 ⟨rfl, hk2, hon2⟩)
                    exact ⟨⟨1, FC, by omega, by go_num, HSC.out, hk2, HONC.out.fresh hon2 fun q h => (HSC.out q h).imp id fun h => by have := HLOC.out; omega⟩, by simp [intOf]; omega⟩
                  · have x0 := hcl _ rfl
                    clear hi2 hcl
                    go_wp2_with ((first | go_at_call 136 | go_at_fn 136); refine (beg2_any HBD.out HRD.out HKD.out HTD.out hnum (stepD_fresh _ _ _) (by omega)).mono ?_; rintro r w12 ⟨rfl, ⟨F2, hsp2, hk2⟩, hon2⟩)
                    exact ⟨⟨2, F2, by omega, by go_num, HSC.out.trans hsp2 hwc2, hk2, HONC.out.fresh hon2 fun q h => (HSC.out q h).imp id fun h => by have := HLOC.out; omega⟩, by simp [intOf]; omega⟩
                  · have x0 := hcl _ rfl
                    clear hi2 hcl
                    go_wp2_with ((first | go_at_call 137 | go_at_fn 137); refine (beg3_any HBD.out HRD.out HKD.out (putD_same _ _ _) (by omega)).mono ?_; rintro r w12 ⟨rfl, hk2, hon2⟩)
                    exact ⟨⟨3, FC, by omega, by go_num, HSC.out, hk2, HONC.out.fresh hon2 fun q h => (HSC.out q h).imp id fun h => by have := HLOC.out; omega⟩, by simp [intOf]; omega⟩
                  · have x0 := hcl _ rfl
                    clear hi2 hcl
                    go_wp2_with ((first | go_at_call 138 | go_at_fn 138); refine (beg4_any HBD.out HRD.out HKD.out (putD_same _ _ _) (by omega)).mono ?_; rintro r w12 ⟨rfl, hk2, hon2⟩)
                    exact ⟨⟨4, FC, by omega, by go_num, HSC.out, hk2, HONC.out.fresh hon2 fun q h => (HSC.out q h).imp id fun h => by have := HLOC.out; omega⟩, by simp [intOf]; omega⟩
                  · have hn0 : 0 < num := hns5.2.2 (by omega)
                    obtain ⟨co, hco⟩ := HOWN.out hn0
                    have hoo : O = ⟨(nameM num).toArray⟩ := by rw [← HO.out]; unfold ownM; rw [if_neg (by omega)]
                    have HOD2 : Hid (Boxed wr zo 9 (.string ⟨(nameM num).toArray⟩)) := Lib.hid (hoo ▸ HOD.out)
                    have HCO := Lib.hid (stepD_own (b := frB (recsM (splitL v))) (s := Lib.itoa ((num + 1 : Nat) : Int)) hn0 hnum hco)
                    have x0 := hcl (.func (.func 139) #[] #[.pointer (some ⟨z, 0, none⟩), .pointer (some ⟨zo, 0, none⟩)]) (by unfold stepsL; rw [if_neg (by omega)]; rfl)
                    clear hi2 hcl hoo hco
                    go_wp2_with ((first | go_at_call 139 | go_at_fn 139); refine (beg5_any HBD.out HOD2.out HRD.out HKD.out HCO.out (by omega)).mono ?_; rintro r w12 ⟨rfl, hk2, hon2⟩)
                    exact ⟨⟨5, FC, by omega, by go_num, HSC.out, hk2, HONC.out.fresh hon2 fun q h => (HSC.out q h).imp id fun h => by have := HLOC.out; omega⟩, by simp [intOf]; omega⟩
                · obtain rfl : q = ns := by omega
                  have hfin := begun_steps D num (frB (recsM (splitL v)))
                  rw [HNS.out] at hfin
                  have HEND := Lib.hid hfin
                  clear hfin hi2 hqn
                  go_wp2_with (fail)
                  go_ret
                  have hd0 := HKD.out
                  rw [HEND.out] at hd0
                  have hFCn : ∀ a, a < w.heap.size → ¬ F a → ¬ FC a := fun a ha hf h => (HSC.out a h).elim (fun h => (HSPR.out a h).elim hf fun h => by omega) fun h => by omega
                  have hxl : TabsV w (fun a => (¬ F a ∧ a ≠ M) ∧ a < w.heap.size) (.slice Ax nv cx) v.tabs := Rows.keep tbFine HX.out fun _ _ _ _ hr => hr.monoLt fun _ h1 h2 => ⟨h2, h1⟩
                  have honw : Only (fun a => F a ∨ a = M) w wr := ((((HON6.out.trans (HONR.out.mono fun _ h => .inl h)).trans (Only.of_below HFC.out))).fresh HONC.out fun a h => (HSPR.out a h).elim (fun h => .inl (.inl h)) fun h => .inr (by omega))
                  have hxw := TabsV.only hxl honw fun a h1 h2 => h2.elim h1.1.1 h1.1.2
                  refine ⟨rfl, ⟨FC, fun a h => (HSC.out a h).elim (fun h => (HSPR.out a h).imp id fun h => by omega) fun h => .inr (by omega), hd0.mono (by omega), ⟨hFCn M (by omega) HMO.out.1, HMO.out.2⟩, ⟨_, HRD.out, Rows.keep tbFine hxw fun _ _ _ _ hr => hr.mono fun a h => ⟨hFCn a h.2 h.1.1, h.1.2⟩⟩, ⟨begun_cur D num _, splitL v, ?_, ?_, begun_file D _ hnum, HCH.out⟩, HVER.out, by omega, hnum⟩, honw⟩
                  · unfold splitL splitE
                    simp
                  · unfold splitL
                    rw [List.length_map, splitE_len, HNV.out, HMM.out]
                    omega
end Go.Proofs.YtjnolpfmchnnmaaGreatDoor
end
section
namespace Go.Proofs.YtjnolpfmchnnmaaGreatDoor
set_option maxRecDepth 100000
open Go.RowKit Go.BigFrame Go.Sort Go.Shelf Go.Lib
attribute [local go_sem ↓] Go.wp_at_zero Go.wp_at_succ
def runV (v : Ver) (l : List (Edt × Int)) : Ver := l.foldl (fun v x => stepV v x.1 x.2) v
theorem runV_snoc (v : Ver) (l : List (Edt × Int)) (x : Edt × Int) : runV v (l ++ [x]) = stepV (runV v l) x.1 x.2 := by
  unfold runV
  rw [List.foldl_append]
  rfl
theorem chain_run {l : List (Edt × Int)} : ∀ {a b : Ver}, ChainOk a l b → runV a l = b := by
  induction l with
  | nil => intro a b h; exact h
  | cons x l ih => intro a b h; exact ih h.2
theorem chain_at {l : List (Edt × Int)} : ∀ {a b : Ver} {i : Nat} {x : Edt × Int}, ChainOk a l b → l[i]? = some x → StepOk (runV a (l.take i)) x.1 x.2 := by
  induction l with
  | nil => intro a b i x h hx; simp at hx
  | cons y l ih =>
    intro a b i x h hx
    cases i with
    | zero =>
      simp only [List.getElem?_cons_zero, Option.some.injEq] at hx
      subst hx
      exact h.1
    | succ i => exact ih h.2 hx
set_option maxRecDepth 100000 in
set_option maxHeartbeats 8000000 in
theorem mload_any (F : Nat → Prop) (M p num dn : Nat) (D : Nm → Option (List UInt8)) (l : List (Edt × Int)) (v : Ver) (w : World) (hm : ManR w M p (.slice none 0 0) ver0 num) (hM : ¬ F M ∧ tabG < M) (hk : DkC w F p dn D) (ht : TabW w) (hnum : num < 1000000)
    (hf : D (nameM num) = some (frB (recsM l))) (hch : ChainOk ver0 l v) (hl0 : l ≠ []) (hl1 : l.length ≤ 1000000) :
    Calls Tryz.prog 77 #[.pointer (some ⟨M, 0, none⟩)] w fun r w' => r = .returned (.int .i64 0) ∧ (∃ x, ManR w' M p x v num ∧ TabsV w' (fun i => w.heap.size ≤ i) x v.tabs) ∧ Only (fun i => i = M) w w' := by
  have hrl := recsM_len hch.ok
  have hre := recsM_each hch.ok
  obtain ⟨n, hn⟩ : ∃ n, (frB (recsM l)).length = n := ⟨_, rfl⟩
  have hn40 : n ≤ 1099511627776 := by
    rw [← hn]
    exact Nat.le_trans hrl (Nat.le_trans (Nat.mul_le_mul_right _ hl1) (by decide))
  have hn8 : 8 ≤ n := by
    rw [← hn]
    cases l with
    | nil => exact absurd rfl hl0
    | cons y l => exact frB_pos _ _
  obtain ⟨nl, hnl⟩ : ∃ q, l.length = q := ⟨_, rfl⟩
  have hnl0 : 0 < nl := by rw [← hnl]; exact List.length_pos_iff.2 hl0
  have hnl1 : nl ≤ 1000000 := by rw [← hnl]; exact hl1
  have HM := Lib.hid hm
  have HMO := Lib.hid hM
  have HK := Lib.hid hk
  have HT := Lib.hid ht
  have HF := Lib.hid hf
  have HCH := Lib.hid hch
  have HNN := Lib.hid hn
  have HNL := Lib.hid hnl
  have HRE := Lib.hid hre
  clear hm hM hk ht hf hch hl0 hl1 hrl hre hn hnl
  obtain ⟨e0, e1, e2, e3, e4, e5⟩ := HM.out.cells
  obtain ⟨X, hX⟩ : ∃ X : ByteArray, (⟨(nameM num).toArray⟩ : ByteArray) = X := ⟨_, rfl⟩
  have HFI : Hid (∀ wx, fr w wx → Calls Tryz.prog 84 #[.int .i64 num] wx fun r w' => r = .returned (.string X) ∧ Below wx.heap.size wx w') := Lib.hid fun wx hx => by
    rw [← hX]
    exact mfile_any num wx (HT.out.below hx) hnum
  have HRD : Hid (∀ wx, fr w wx → Calls Tryz.prog 64 #[.pointer (some ⟨p, 0, none⟩), .string X] wx fun r w' => ∃ b o c, r = .returned (.tuple #[.slice (some ⟨b, o, none⟩) n c, .int .i64 0]) ∧ BytL w' wx.heap.size (.slice (some ⟨b, o, none⟩) n c) (frB (recsM l)) ∧ fr wx w') := Lib.hid fun wx hx => by
    rw [← hX]
    refine (cread_some (HK.out.below hx) HF.out).mono ?_
    rintro r w' ⟨v', rfl, h1, h2⟩
    obtain ⟨A1, c1, rfl⟩ := slice_form h1
    obtain ⟨b1, o1, rfl⟩ := Byt.some_of h1 (by rw [HNN.out]; omega)
    rw [HNN.out] at h1 ⊢
    exact ⟨b1, o1, c1, rfl, h1, h2⟩
  have q0 := fun q : Ext w => q.cell e0
  have q5 := fun q : Ext w => q.cell e5
  clear hX e1 e2 e3 e4
  go_enter Tryz.func77, Tryz.ntmps77
  go_upto_region 1 with (fail)
  (refine wp_region_ext_mid 9 (by kernel_rfl) (by kernel_rfl) ?_; simp only [List.take_succ_cons, List.take_zero, List.drop_succ_cons, List.drop_zero]; (repeat (go_big_quiet_step ((go_at_call 84; exact Ext.calls (HFI.out _ (Ext.h _)))))); refine wpQuiet_nil ?_; intro wq hw'; obtain ⟨⟨_, hq⟩, hw''⟩ := hw'; subst hw''; intro Q2 hQ2; go_wp2_with (go_at_call 64; refine (HRD.out _ hq).mono ?_; rintro r w1 ⟨b, o, c, rfl, hby, f1⟩); (repeat (go_big_quiet_step (fail))); refine wpQuiet_nil ?_)
  have HF1 := Lib.hid (fr.step hq f1)
  clear hq f1 q0 q5 e0 e5 HFI HRD
  have HAL := Lib.hid (all_ok _ b o n c (recsM l) w1 hby.byt HNN.out hn40 HRE.out)
  clear hby
  go_upto_region 7 with (go_at_call 66; refine HAL.out.mono ?_; rintro r w2 ⟨lv, gg, rfl, hlo, f2⟩)
  have hrl : (recsM l).length = nl := by unfold recsM; rw [List.length_map]; exact HNL.out
  obtain ⟨Al, cl, rfl⟩ : ∃ A c, lv = .slice A nl c := by obtain ⟨css, h1, _⟩ := hlo; rw [hrl] at h1; exact own_form h1
  have HBV := Lib.hid (OwnRows.rows (bytes := 24) bvFine hlo (by rw [hrl]; omega))
  have HF2 := Lib.hid (fr.step HF1.out f2)
  have HRL := Lib.hid hrl
  clear hlo f2 hrl
  go_wp2_with (fail)
  go_loopw [41] (fun t wr => ∃ (i : Nat) (x : Value), i ≤ nl ∧ t = .int .i64 i ∧ ManR wr M p x (runV ver0 (l.take i)) num ∧ TabsV wr (fun a => w.heap.size ≤ a) x (runV ver0 (l.take i)).tabs ∧ Only (fun a => a = M) w2 wr) (fun t _ => nl - (intOf t).toNat)
  case atStart => exact ⟨0, _, Nat.zero_le _, rfl, HM.out.below HF2.out, ⟨none, 0, [], rfl, by simp [runV, ver0], by simp, by simp [runV, ver0], Row.nil _ _ _ _, .nil⟩, Only.refl _ _⟩
  case round =>
    obtain ⟨i, x, hi, rfl, hm, hx, hon⟩ := hrel
    by_cases hin : i < nl
    · obtain ⟨⟨e, nx⟩, hli⟩ : ∃ y, l[i]? = some y := ⟨_, List.getElem?_eq_getElem (by rw [HNL.out]; exact hin)⟩
      have hst := chain_at HCH.out hli
      obtain ⟨vi, hvi⟩ : ∃ q, runV ver0 (l.take i) = q := ⟨_, rfl⟩
      rw [hvi] at hm hx hst
      have HVI := Lib.hid hvi
      have HLI := Lib.hid hli
      have HST := Lib.hid hst
      obtain ⟨Ax, cx, rfl⟩ := hx.form
      obtain ⟨nv, hnv⟩ : ∃ q, vi.tabs.length = q := ⟨_, rfl⟩
      rw [hnv] at hm hx
      have HMR := Lib.hid hm
      have HXR := Lib.hid hx
      have HONR := Lib.hid hon
      have hri : (recsM l)[i]? = some (editF e nx) := by unfold recsM; rw [List.getElem?_map, hli]; rfl
      obtain ⟨b', o', cs', hE, hblt, _, ⟨va, rfl, hva⟩, hc⟩ := Rows.at_ bvFine (Rows.keep (S' := fun a => w1.heap.size ≤ a ∧ a < w2.heap.size) bvFine HBV.out fun _ _ _ _ hr => hr.only hon fun a _ hs h => by have h1 := Below.size HF1.out; have h2 := HM.out.lt; have h3 := hs.1; omega) hri
      subst hE
      obtain ⟨Ab, cb, rfl⟩ := slice_form hva
      have x0 : wr.cell? ⟨b', o' + i, none⟩ = some (.slice Ab (editF e nx).length cb) := by simpa using hc 0 _ rfl
      obtain ⟨na, hna⟩ : ∃ q, e.add.length = q := ⟨_, rfl⟩
      obtain ⟨nd, hnd⟩ : ∃ q, e.drop.length = q := ⟨_, rfl⟩
      obtain ⟨nb, hnb⟩ : ∃ q, (editF e nx).length = q := ⟨_, rfl⟩
      rw [hnb] at hva x0
      have hwz : w.heap.size ≤ wr.heap.size := by have := hon.size; have := Below.size HF2.out; omega
      have HREAD : Hid (Calls Tryz.prog 131 #[.slice Ab nb cb] wr fun r w' => ∃ Aa ca Ad cd, r = .returned (.tuple #[.agg #[.slice Aa na ca, .slice Ad nd cd, .int .i64 e.lg, .int .i64 e.sq], .int .i64 nx, .bool true]) ∧ TabsV w' (fun _ => True) (.slice Aa na ca) e.add ∧ IntsIn w' (fun _ => True) (.slice Ad nd cd) e.drop ∧ fr wr w') := Lib.hid (by
        refine (mread_any _ _ e nx wr hva hst.ok).mono ?_
        rintro r w' ⟨ax, dx, rfl, h1, h2, h3⟩
        obtain ⟨Aa, ca, rfl⟩ : ∃ A c, ax = .slice A na c := by obtain ⟨css, h4, _⟩ := h1; rw [hna] at h4; exact own_form h4
        obtain ⟨Ad, cd, rfl⟩ : ∃ A c, dx = .slice A nd c := by obtain ⟨A, c, h4, _⟩ := h2; rw [hnd] at h4; exact ⟨A, c, h4⟩
        exact ⟨Aa, ca, Ad, cd, rfl, Rows.keep tbFine (OwnRows.rows (bytes := 72) tbFine h1 (by have h5 : e.add.length ≤ 1024 := hst.ok.fewA; omega)) fun _ _ _ _ hr => hr.mono fun _ _ => trivial, h2.mono fun _ _ => trivial, h3⟩)
      have HLW := Lib.hid hwz
      have HMlt := Lib.hid (show M < wr.heap.size from hm.lt)
      clear hm hx hon hvi hli hst hnv hri hc hva hna hnd hnb hblt
      go_upto_region 13 with (go_at_call 131; refine HREAD.out.mono ?_; rintro r w5 ⟨Aa, ca, Ad, cd, rfl, hta, hid, f5⟩)
      have b0 := heap_alloc_new w5 (.cells #[.slice Aa na ca, .slice Ad nd cd, .int .i64 e.lg, .int .i64 e.sq] 45)
      have hf6 : fr w5 (w5.alloc (.cells #[.slice Aa na ca, .slice Ad nd cd, .int .i64 e.lg, .int .i64 e.sq] 45)) := fr.alloc fr.refl _
      obtain ⟨z, hz⟩ : ∃ q, w5.heap.size = q := ⟨_, rfl⟩
      rw [hz] at b0 ⊢
      generalize w5.alloc (.cells #[.slice Aa na ca, .slice Ad nd cd, .int .i64 e.lg, .int .i64 e.sq] 45) = w1 at b0 hf6 ⊢
      have HW1 := Lib.hid (fr.step f5 hf6)
      have HM1 := Lib.hid (HMR.out.below (fr.step f5 hf6))
      have HLW : Hid (w.heap.size ≤ w1.heap.size) := Lib.hid (Nat.le_trans HLW.out (Below.size (fr.step f5 hf6)))
      have HMlt : Hid (M < w1.heap.size) := Lib.hid HM1.out.lt
      have hta1 := Rows.below tbFine hta hf6
      have hid1 := hid.below hf6
      have hx1 : TabsV w1 (fun _ => True) (.slice Ax nv cx) vi.tabs := (Rows.keep tbFine HXR.out fun _ _ _ _ hr => hr.mono fun _ _ => trivial).below tbFine (fr.step f5 hf6)
      obtain ⟨n2, hn2⟩ : ∃ n, (sortTb (foldT vi e)).length = n := ⟨_, rfl⟩
      obtain ⟨nx2, hnx2⟩ : ∃ q, foldN vi e = q := ⟨_, rfl⟩
      have HF0 : Hid (∀ wx, fr w1 wx → Calls Tryz.prog 74 #[.agg #[.slice Ax nv cx, .int .i64 vi.lg, .int .i64 vi.sq, .int .i64 vi.nx], .agg #[.slice Aa na ca, .slice Ad nd cd, .int .i64 e.lg, .int .i64 e.sq]] wx fun r w' => ∃ A2 k2, r = .returned (.tuple #[.agg #[.slice A2 n2 k2, .int .i64 e.lg, .int .i64 e.sq, .int .i64 nx2], .int .i64 0]) ∧ OwnTabs w' wx.heap.size (.slice A2 n2 k2) (sortTb (foldT vi e)) ∧ fr wx w') := Lib.hid fun wx hxx => by
        refine (fold_any sortTb (fun _ => True) (.slice Ax nv cx) (.slice Aa na ca) (.slice Ad nd cd) vi e wx (hx1.below tbFine hxx) (hta1.below tbFine hxx) (hid1.below hxx) HST.out.nd HST.out.few HST.out.srt).mono ?_
        rintro r w' ⟨R, rfl, hR, hf⟩
        rw [if_pos HST.out.fold] at hR
        obtain ⟨x2, rfl, ho⟩ := hR
        obtain ⟨A2, k2, rfl⟩ : ∃ A c, x2 = .slice A n2 c := by obtain ⟨css, h1, _⟩ := ho; rw [hn2] at h1; exact own_form h1
        exact ⟨A2, k2, by rw [HST.out.fold, hnx2], ho, hf⟩
      have HN2 := Lib.hid hn2
      have HNX2 := Lib.hid hnx2
      have HVF : Hid (n2 * 72 ≤ 140737488355328) := Lib.hid (by
        have h1 := HST.out.few
        have h2 : e.add.length ≤ 1024 := HST.out.ok.fewA
        have h3 := (sortTb_perm (foldT vi e)).length_eq
        have h4 : (foldT vi e).length ≤ (vi.tabs ++ e.add).length := List.length_filter_le _ _
        rw [List.length_append] at h4
        omega)
      have c0 := cell_of_row _ _ 0 _ _ _ b0
      have c1 := cell_of_row _ _ 1 _ _ _ b0
      have c2 := cell_of_row _ _ 2 _ _ _ b0
      have c3 := cell_of_row _ _ 3 _ _ _ b0
      obtain ⟨e0, e1, e2, e3, e4, e5⟩ := HM1.out.cells
      have HDR : Hid (fr w1 w1.drew) := Lib.hid (fr.drew fr.refl)
      have hzz := heap_alloc_new w1 (.cells #[.slice none 0 0, .int .i64 0, .int .i64 0, .int .i64 0] 50)
      have HAD : Hid (fr w1 (w1.alloc (.cells #[.slice none 0 0, .int .i64 0, .int .i64 0, .int .i64 0] 50)).drew) := Lib.hid (fr.drew (fr.alloc fr.refl _))
      have HPZ : Hid ((w1.alloc (.cells #[.slice none 0 0, .int .i64 0, .int .i64 0, .int .i64 0] 50)).drew.heap[w1.heap.size]? = some (.cells #[.slice none 0 0, .int .i64 0, .int .i64 0, .int .i64 0] 50 (0, 0))) := Lib.hid hzz
      have HC8 : Hid (w1.cell? ⟨M, 1, none⟩ = some (.slice Ax nv cx) ∧ w1.cell? ⟨M, 2, none⟩ = some (.int .i64 vi.lg) ∧ w1.cell? ⟨M, 3, none⟩ = some (.int .i64 vi.sq) ∧ w1.cell? ⟨M, 4, none⟩ = some (.int .i64 vi.nx) ∧ w1.cell? ⟨z, 0, none⟩ = some (.slice Aa na ca) ∧ w1.cell? ⟨z, 1, none⟩ = some (.slice Ad nd cd) ∧ w1.cell? ⟨z, 2, none⟩ = some (.int .i64 e.lg) ∧ w1.cell? ⟨z, 3, none⟩ = some (.int .i64 e.sq)) := Lib.hid ⟨e1, e2, e3, e4, c0, c1, c2, c3⟩
      clear hzz e0 e1 e2 e3 e4 e5 c0 c1 c2 c3 b0 hf6 hta hid f5 hz hta1 hid1 hx1 hn2 hnx2 x0
      go_region_held3 (fun w' => w'.cell? ⟨M, 1, none⟩ = some (.slice Ax nv cx) ∧ w'.cell? ⟨M, 2, none⟩ = some (.int .i64 vi.lg) ∧ w'.cell? ⟨M, 3, none⟩ = some (.int .i64 vi.sq) ∧ w'.cell? ⟨M, 4, none⟩ = some (.int .i64 vi.nx) ∧ w'.cell? ⟨z, 0, none⟩ = some (.slice Aa na ca) ∧ w'.cell? ⟨z, 1, none⟩ = some (.slice Ad nd cd) ∧ w'.cell? ⟨z, 2, none⟩ = some (.int .i64 e.lg) ∧ w'.cell? ⟨z, 3, none⟩ = some (.int .i64 e.sq))
          (first
            | with_reducible exact cells8 HDR.out HC8.out
            | with_reducible exact cells8 HAD.out HC8.out
            | with_reducible exact cells8 f2 (cells8 HDR.out HC8.out)
            | with_reducible exact cells8 f2 (cells8 HAD.out HC8.out)
            | with_reducible exact cells8 (fr.alloc f2 _) (cells8 HDR.out HC8.out)
            | with_reducible exact cells8 (fr.putE (fr.putE (fr.putE (fr.putE (fr.stepR HAD.out f2) (Nat.le_refl _)) (Nat.le_refl _)) (Nat.le_refl _)) (Nat.le_refl _)) HC8.out)
          (first
            | (go_at_call 74; (with_reducible refine Calls.mono (HF0.out _ ?_) ?_); (focus (with_reducible exact HAD.out)); rintro r w2 ⟨A2, k2, rfl, ho2, f2⟩; have pz := boxRowFr HPZ.out f2; have g0 := cell_of_row _ _ 0 _ _ _ pz; have g1 := cell_of_row _ _ 1 _ _ _ pz; have g2 := cell_of_row _ _ 2 _ _ _ pz; have g3 := cell_of_row _ _ 3 _ _ _ pz; have y0 := frozen_of_row _ _ 0 _ _ pz; have y1 := frozen_of_row _ _ 1 _ _ pz; have y2 := frozen_of_row _ _ 2 _ _ pz; have y3 := frozen_of_row _ _ 3 _ _ pz)
            | (go_at_call 74; (with_reducible refine Calls.mono (HF0.out _ ?_) ?_); (focus (with_reducible exact HDR.out)); rintro r w2 ⟨A2, k2, rfl, ho2, f2⟩))
      · have hb9 : fr w1 (w2.alloc (.cells #[.slice A2 n2 k2, .int .i64 e.lg, .int .i64 e.sq, .int .i64 nx2] 50)) := fr.alloc (fr.stepR HDR.out f2) _
        have ho9 := OwnRows.below tbFine ho2 (fr.alloc fr.refl (.cells #[.slice A2 n2 k2, .int .i64 e.lg, .int .i64 e.sq, .int .i64 nx2] 50))
        have pz9 := heap_alloc_new w2 (.cells #[.slice A2 n2 k2, .int .i64 e.lg, .int .i64 e.sq, .int .i64 nx2] 50)
        have hlb : w1.heap.size ≤ w1.drew.heap.size := Below.size HDR.out
        have hzl := Below.size (fr.stepR HDR.out f2)
        obtain ⟨lb, hlbe⟩ : ∃ g, w1.drew.heap.size = g := ⟨_, rfl⟩
        rw [hlbe] at ho9 hlb
        obtain ⟨zb, hzb⟩ : ∃ g, w2.heap.size = g := ⟨_, rfl⟩
        rw [hzb] at pz9 hzl ⊢
        have HZBL : Hid (w1.heap.size ≤ zb ∧ w1.heap.size ≤ lb) := Lib.hid ⟨hzl, hlb⟩
        generalize w2.alloc (.cells #[.slice A2 n2 k2, .int .i64 e.lg, .int .i64 e.sq, .int .i64 nx2] 50) = w9 at ho9 hb9 pz9 ⊢
        clear ho2 f2 hzb hzl hlb hlbe
        have HB9 := Lib.hid hb9
        have HO9 := Lib.hid ho9
        have t0 := cell_of_row _ _ 0 _ _ _ pz9
        have t1 := cell_of_row _ _ 1 _ _ _ pz9
        have t2 := cell_of_row _ _ 2 _ _ _ pz9
        have t3 := cell_of_row _ _ 3 _ _ _ pz9
        have HM9 := Lib.hid (HM1.out.below hb9)
        obtain ⟨e0, e1, e2, e3, e4, e5⟩ := HM9.out.cells
        have y1 := frozen_of_row _ _ 1 _ _ HM9.out
        have y2 := frozen_of_row _ _ 2 _ _ HM9.out
        have y3 := frozen_of_row _ _ 3 _ _ HM9.out
        have y4 := frozen_of_row _ _ 4 _ _ HM9.out
        have hzbM : zb ≠ M := by have h1 := HMlt.out; have h2 := HZBL.out; omega
        obtain ⟨hRp, hOp⟩ := HM9.out.put (.slice A2 n2 k2) ⟨sortTb (foldT vi e), e.lg, e.sq, nx2⟩
        have HRP := Lib.hid hRp
        have HOP := Lib.hid hOp
        have pz10 := (hOp.block zb (Array.getElem?_eq_some_iff.1 pz9).1 hzbM).trans pz9
        simp only at pz10 hRp
        have t4 := cell_of_row _ _ 3 _ _ _ pz10
        have d4 := hRp.cells.2.2.2.2.1
        have y5 := frozen_of_row _ _ 4 _ _ hRp
        clear hb9 ho9 pz9 pz10 hRp hOp hzbM
        go_wp2_with (fail)
        have hRq : ManR (((((w9.setCell ⟨M, 1, none⟩ (.slice A2 n2 k2)).setCell ⟨M, 2, none⟩ (.int .i64 e.lg)).setCell ⟨M, 3, none⟩ (.int .i64 e.sq)).setCell ⟨M, 4, none⟩ (.int .i64 nx2)).setCell ⟨M, 4, none⟩ (.int .i64 (max nx2 nx))) M p (.slice A2 n2 k2) ⟨sortTb (foldT vi e), e.lg, e.sq, max nx2 nx⟩ num := heap_setCell_same _ M 4 _ _ _ HRP.out
        have hOq := HOP.out.trans (only_set _ M 4 (.int .i64 (max nx2 nx)))
        simp only at hOq
        have hst : runV ver0 (l.take (i + 1)) = ⟨sortTb (foldT vi e), e.lg, e.sq, max nx2 nx⟩ := by
          rw [take_snoc HLI.out, runV_snoc, HVI.out]
          unfold stepV
          rw [HNX2.out]
        refine ⟨⟨i + 1, _, by omega, by go_num, by rw [hst]; exact hRq, ?_, ?_⟩, by simp [intOf]; omega⟩
        · rw [hst]
          have h1 := OwnRows.rows (bytes := 72) tbFine HO9.out (by rw [HN2.out]; have := HVF.out; omega)
          refine TabsV.only (S := fun a => w.heap.size ≤ a) (Rows.keep tbFine h1 fun _ _ _ _ hr => hr.mono fun a h => by have h2 := HZBL.out; have h3 := HLW.out; have h4 := h.1; omega) hOq fun a h1 h2 => by have := HM.out.lt; omega
        · exact ((HONR.out.trans (Only.of_below HW1.out)).trans (Only.of_below HB9.out)).trans hOq
      · have F4 := fr.putE (fr.putE (fr.putE (fr.putE (fr.stepR HAD.out f2) (Nat.le_refl _) (j := 0) (u := .slice A2 n2 k2)) (Nat.le_refl _) (j := 1) (u := .int .i64 e.lg)) (Nat.le_refl _) (j := 2) (u := .int .i64 e.sq)) (Nat.le_refl _) (j := 3) (u := .int .i64 nx2)
        have hb9 : fr w1 (put4 w2 w1.heap.size (.slice A2 n2 k2) (.int .i64 e.lg) (.int .i64 e.sq) (.int .i64 nx2)) := F4
        have pz9 := put4_row pz (a := .slice A2 n2 k2) (b := .int .i64 e.lg) (c := .int .i64 e.sq) (d := .int .i64 nx2)
        have hso : w1.heap.size < (w1.alloc (.cells #[.slice none 0 0, .int .i64 0, .int .i64 0, .int .i64 0] 50)).drew.heap.size := by simp
        have ho9 := OwnRows.onlyF tbFine ho2 (put4_only (W := w2) (g := w1.heap.size) (a := .slice A2 n2 k2) (b := .int .i64 e.lg) (c := .int .i64 e.sq) (d := .int .i64 nx2)) (fun i hi _ h => by omega)
        have hlb : w1.heap.size ≤ (w1.alloc (.cells #[.slice none 0 0, .int .i64 0, .int .i64 0, .int .i64 0] 50)).drew.heap.size := Below.size HAD.out
        have hzl := Nat.le_refl w1.heap.size
        obtain ⟨lb, hlbe⟩ : ∃ g, (w1.alloc (.cells #[.slice none 0 0, .int .i64 0, .int .i64 0, .int .i64 0] 50)).drew.heap.size = g := ⟨_, rfl⟩
        rw [hlbe] at ho9 hlb
        obtain ⟨zb, hzb⟩ : ∃ g, w1.heap.size = g := ⟨_, rfl⟩
        unfold put4 at hb9 pz9 ho9
        rw [hzb] at pz9 hb9 ho9 ⊢
        have HZBL : Hid (w1.heap.size ≤ zb ∧ w1.heap.size ≤ lb) := Lib.hid ⟨by omega, hlb⟩
        generalize (((w2.setCell ⟨zb, 0, none⟩ (.slice A2 n2 k2)).setCell ⟨zb, 1, none⟩ (.int .i64 e.lg)).setCell ⟨zb, 2, none⟩ (.int .i64 e.sq)).setCell ⟨zb, 3, none⟩ (.int .i64 nx2) = w9 at ho9 hb9 pz9 ⊢
        clear ho2 f2 hzl hlb hlbe F4 pz g0 g1 g2 g3 y0 y1 y2 y3 hso
        have HB9 := Lib.hid hb9
        have HO9 := Lib.hid ho9
        have t0 := cell_of_row _ _ 0 _ _ _ pz9
        have t1 := cell_of_row _ _ 1 _ _ _ pz9
        have t2 := cell_of_row _ _ 2 _ _ _ pz9
        have t3 := cell_of_row _ _ 3 _ _ _ pz9
        have HM9 := Lib.hid (HM1.out.below hb9)
        obtain ⟨e0, e1, e2, e3, e4, e5⟩ := HM9.out.cells
        have y1 := frozen_of_row _ _ 1 _ _ HM9.out
        have y2 := frozen_of_row _ _ 2 _ _ HM9.out
        have y3 := frozen_of_row _ _ 3 _ _ HM9.out
        have y4 := frozen_of_row _ _ 4 _ _ HM9.out
        have hzbM : zb ≠ M := by have h1 := HMlt.out; have h2 := HZBL.out; omega
        obtain ⟨hRp, hOp⟩ := HM9.out.put (.slice A2 n2 k2) ⟨sortTb (foldT vi e), e.lg, e.sq, nx2⟩
        have HRP := Lib.hid hRp
        have HOP := Lib.hid hOp
        have pz10 := (hOp.block zb (Array.getElem?_eq_some_iff.1 pz9).1 hzbM).trans pz9
        simp only at pz10 hRp
        have t4 := cell_of_row _ _ 3 _ _ _ pz10
        have d4 := hRp.cells.2.2.2.2.1
        have y5 := frozen_of_row _ _ 4 _ _ hRp
        clear hb9 ho9 pz9 pz10 hRp hOp hzbM
        go_wp2_with (fail)
        have hRq : ManR (((((w9.setCell ⟨M, 1, none⟩ (.slice A2 n2 k2)).setCell ⟨M, 2, none⟩ (.int .i64 e.lg)).setCell ⟨M, 3, none⟩ (.int .i64 e.sq)).setCell ⟨M, 4, none⟩ (.int .i64 nx2)).setCell ⟨M, 4, none⟩ (.int .i64 (max nx2 nx))) M p (.slice A2 n2 k2) ⟨sortTb (foldT vi e), e.lg, e.sq, max nx2 nx⟩ num := heap_setCell_same _ M 4 _ _ _ HRP.out
        have hOq := HOP.out.trans (only_set _ M 4 (.int .i64 (max nx2 nx)))
        simp only at hOq
        have hst : runV ver0 (l.take (i + 1)) = ⟨sortTb (foldT vi e), e.lg, e.sq, max nx2 nx⟩ := by
          rw [take_snoc HLI.out, runV_snoc, HVI.out]
          unfold stepV
          rw [HNX2.out]
        refine ⟨⟨i + 1, _, by omega, by go_num, by rw [hst]; exact hRq, ?_, ?_⟩, by simp [intOf]; omega⟩
        · rw [hst]
          have h1 := OwnRows.rows (bytes := 72) tbFine HO9.out (by rw [HN2.out]; have := HVF.out; omega)
          refine TabsV.only (S := fun a => w.heap.size ≤ a) (Rows.keep tbFine h1 fun _ _ _ _ hr => hr.mono fun a h => by have h2 := HZBL.out; have h3 := HLW.out; have h4 := h.1; omega) hOq fun a h1 h2 => by have := HM.out.lt; omega
        · exact ((HONR.out.trans (Only.of_below HW1.out)).trans (Only.of_below HB9.out)).trans hOq
    · obtain rfl : i = nl := by omega
      have hd0 : ((i : Int) == 0) = false := by simp; omega
      have HMR := Lib.hid hm
      have HXR := Lib.hid hx
      have HONR := Lib.hid hon
      have HEND : Hid (runV ver0 (l.take i) = v) := Lib.hid (by rw [List.take_of_length_le (by rw [HNL.out]; exact Nat.le_refl _)]; exact chain_run HCH.out)
      rw [HEND.out] at HMR HXR
      clear hm hx hon hi hin
      go_wp2_with (fail)
      go_ret
      exact ⟨rfl, ⟨_, HMR.out, HXR.out⟩, (Only.of_below HF2.out).trans HONR.out⟩
end Go.Proofs.YtjnolpfmchnnmaaGreatDoor
end
section
namespace Go.Proofs.YtjnolpfmchnnmaaGreatDoor
set_option maxRecDepth 100000
open Go.RowKit Go.BigFrame Go.Sort Go.Shelf Go.Lib
attribute [local go_sem ↓] Go.wp_at_zero Go.wp_at_succ
theorem dk_lt {w : World} {F : Nat → Prop} {p dn : Nat} {D : Nm → Option (List UInt8)} (h : DkC w F p dn D) (ht : TabW w) : ¬ F w.heap.size ∧ tabG < w.heap.size :=
  ⟨fun hf => Nat.lt_irrefl _ (h.1 _ hf).1, ht.lt⟩
set_option maxRecDepth 100000 in
set_option maxHeartbeats 2000000 in
theorem mopen_fresh (F : Nat → Prop) (p dn : Nat) (D : Nm → Option (List UInt8)) (w : World) (hk : DkC w F p dn D) (ht : TabW w) (hc : D curW = none) (hdn : dn ≤ 400000) :
    Calls Tryz.prog 24 #[.pointer (some ⟨p, 0, none⟩)] w fun r w' => r = .returned (.tuple #[.pointer (some ⟨w.heap.size, 0, none⟩), .int .i64 0]) ∧ (∃ F', Spread w.heap.size F F' ∧ ManC w' F' w.heap.size p ver0 1 (dn + dn + 1000) (begunD D 0 (frB (recsM (splitL ver0))))) ∧ Only F w w' := by
  have b0 := heap_alloc_new w (.cells #[.pointer (some ⟨p, 0, none⟩), .slice none 0 0, .int .i64 0, .int .i64 0, .int .i64 1, .int .i64 0] 139)
  have hf1 : fr w (w.alloc (.cells #[.pointer (some ⟨p, 0, none⟩), .slice none 0 0, .int .i64 0, .int .i64 0, .int .i64 1, .int .i64 0] 139)) := fr.alloc fr.refl _
  have hMO := dk_lt hk ht
  have HMO := Lib.hid hMO
  have HF1 := Lib.hid hf1
  obtain ⟨M, hM⟩ : ∃ M, w.heap.size = M := ⟨_, rfl⟩
  have HSZ := Lib.hid hM
  have HK := Lib.hid hk
  have HT := Lib.hid ht
  have HC := Lib.hid hc
  rw [hM] at b0 HMO
  have HR := Lib.hid b0
  clear hMO b0 hf1 hk ht hc
  rw [hM]
  obtain ⟨wa, hwa⟩ : ∃ wa, (w.alloc (.cells #[.pointer (some ⟨p, 0, none⟩), .slice none 0 0, .int .i64 0, .int .i64 0, .int .i64 1, .int .i64 0] 139)) = wa := ⟨_, rfl⟩
  rw [hwa] at HR HF1
  have HRD : Hid (Calls Tryz.prog 64 #[.pointer (some ⟨p, 0, none⟩), .string ⟨#[99, 117, 114, 114, 101, 110, 116]⟩] wa fun r w' => ∃ v, r = .returned (.tuple #[v, .int .i64 22]) ∧ fr wa w') := Lib.hid (by
    refine (cread_none (x := curW) (HK.out.below HF1.out) (by decide) HC.out).mono ?_
    rintro r w' ⟨v', rfl, _, h2⟩
    exact ⟨v', rfl, h2⟩)
  go_enter Tryz.func24, Tryz.ntmps24
  go_upto_region 4 with (fail)
  go_upto_region 16 with (go_at_call 64; refine HRD.out.mono ?_; rintro r w2 ⟨v2, rfl, f2⟩)
  have HF2 := Lib.hid (fr.step HF1.out f2)
  have HR2 : Hid (ManR w2 M p (.slice none 0 0) ver0 0) := Lib.hid (ManR.below (v := ver0) (num := 0) HR.out f2)
  clear f2 hwa hM
  go_upto_region 17 with (go_at_call 78; refine (mbegin_any F M p 0 dn D (.slice none 0 0) ver0 w2 HR2.out HMO.out ⟨none, 0, [], rfl, by simp [ver0], by simp, by simp [ver0], Row.nil _ _ _ _, .nil⟩ (HK.out.below HF2.out) (HT.out.below HF2.out) (by decide) (fun h => absurd h (Nat.lt_irrefl _)) ver0_ok (fun n => sorts_small (by simp [ver0]) (by simp [ver0, idsT])) hdn).mono ?_; rintro r w3 ⟨rfl, ⟨F', hS, hC⟩, hO⟩)
  have HS := Lib.hid (hS.low (Below.size HF2.out))
  have HCC := Lib.hid hC
  have HO := Lib.hid hO
  clear hS hC hO
  go_wp2_with (fail)
  go_ret2
  refine ⟨rfl, ⟨F', HSZ.out ▸ HS.out, HCC.out⟩, ?_⟩
  exact (Only.of_below (S := F) HF2.out).fresh HO.out fun i h => h.imp id fun h => by rw [h, HSZ.out]; exact Nat.le_refl _
set_option maxRecDepth 100000 in
set_option maxHeartbeats 2000000 in
theorem mopen_again (F : Nat → Prop) (p num dn dl : Nat) (v : Ver) (D : Nm → Option (List UInt8)) (w : World) (hk : DkC w F p dn D) (ht : TabW w) (hfile : FileOk D num dl v) (hdl : dl ≤ 1000000) (hn1 : 1 ≤ num) (hn : num + 1 < 1000000) (hver : VerOk v) (hsort : ∀ n, Sorts sortTb (v.tabs.take n)) (hdn : dn ≤ 400000) :
    Calls Tryz.prog 24 #[.pointer (some ⟨p, 0, none⟩)] w fun r w' => r = .returned (.tuple #[.pointer (some ⟨w.heap.size, 0, none⟩), .int .i64 0]) ∧ (∃ F', Spread w.heap.size F F' ∧ ManC w' F' w.heap.size p v (num + 1) (dn + dn + 1000) (begunD D num (frB (recsM (splitL v))))) ∧ Only F w w' := by
  have b0 := heap_alloc_new w (.cells #[.pointer (some ⟨p, 0, none⟩), .slice none 0 0, .int .i64 0, .int .i64 0, .int .i64 1, .int .i64 0] 139)
  have hf1 : fr w (w.alloc (.cells #[.pointer (some ⟨p, 0, none⟩), .slice none 0 0, .int .i64 0, .int .i64 0, .int .i64 1, .int .i64 0] 139)) := fr.alloc fr.refl _
  have hMO := dk_lt hk ht
  have HMO := Lib.hid hMO
  have HF1 := Lib.hid hf1
  obtain ⟨M, hM⟩ : ∃ M, w.heap.size = M := ⟨_, rfl⟩
  obtain ⟨ws, hws⟩ : ∃ ws, (Lib.itoa (num : Int)) = ws := ⟨_, rfl⟩
  have hai := atoi_itoa (n := num) (by omega)
  obtain ⟨hc, l, hl0, hll, hlD, hch⟩ := hfile
  rw [hws] at hai hc
  have HSZ := Lib.hid hM
  have HK := Lib.hid hk
  have HT := Lib.hid ht
  have HC := Lib.hid hc
  have HAI := Lib.hid hai
  have HL0 := Lib.hid hl0
  have HLL := Lib.hid (Nat.le_trans hll hdl)
  have HLD := Lib.hid hlD
  have HCH := Lib.hid hch
  have HVER := Lib.hid hver
  have HSORT := Lib.hid hsort
  rw [hM] at b0 HMO
  have HR := Lib.hid b0
  obtain ⟨X, hX⟩ : ∃ X : ByteArray, (⟨ws.toArray⟩ : ByteArray) = X := ⟨_, rfl⟩
  have hXs : X.size ≤ 18 ∧ X.data.toList = ws := by rw [← hX]; exact ⟨by rw [ba_size]; have := hai.2; omega, by simp⟩
  have HX := Lib.hid hXs
  have hcw := hlD
  clear hMO b0 hf1 hk ht hc hai hl0 hll hlD hch hver hsort hcw
  rw [hM]
  obtain ⟨wa, hwa⟩ : ∃ wa, (w.alloc (.cells #[.pointer (some ⟨p, 0, none⟩), .slice none 0 0, .int .i64 0, .int .i64 0, .int .i64 1, .int .i64 0] 139)) = wa := ⟨_, rfl⟩
  rw [hwa] at HR HF1
  have HRD : Hid (Calls Tryz.prog 64 #[.pointer (some ⟨p, 0, none⟩), .string ⟨#[99, 117, 114, 114, 101, 110, 116]⟩] wa fun r w' => ∃ v, r = .returned (.tuple #[v, .int .i64 0]) ∧ BytL w' wa.heap.size v ws ∧ fr wa w') := Lib.hid (by
    refine (cread_some (x := curW) (HK.out.below HF1.out) HC.out).mono ?_
    rintro r w' ⟨v', rfl, h1, h2⟩
    exact ⟨v', rfl, h1, h2⟩)
  have HCA : Hid (∀ wx, Calls Tryz.prog 76 #[.string X] wx fun r w' => r = .returned (.tuple #[.int .i64 num, .nilIface]) ∧ fr wx w') := Lib.hid fun wx => by
    refine (Tryz.strconv_Atoi X num HX.out.1 (by rw [HX.out.2]; exact HAI.out.1) wx).mono ?_
    rintro r w' ⟨rfl, t, rfl⟩
    exact ⟨rfl, Lib.bytesWorld_below _ _ _⟩
  have hXX := Lib.hid hX
  clear hX hXs
  go_enter Tryz.func24, Tryz.ntmps24
  go_upto_region 4 with (fail)
  go_upto_region 8 with (go_at_call 64; refine HRD.out.mono ?_; rintro r w2 ⟨v2, rfl, hb2, f2⟩)
  have HF2 := Lib.hid (fr.step HF1.out f2)
  have HR2 : Hid (ManR w2 M p (.slice none 0 0) ver0 0) := Lib.hid (ManR.below (v := ver0) (num := 0) HR.out f2)
  have hcv := hb2.byt.convert
  rw [hXX.out] at hcv
  clear f2 hwa hM hb2
  go_upto_region 9 with (go_at_call 76; refine (HCA.out _).mono ?_; rintro r w3 ⟨rfl, f3⟩)
  have HF3 := Lib.hid (fr.step HF2.out f3)
  have HR3 := Lib.hid (HR2.out.below f3)
  clear hcv f3
  have c5 := HR3.out.cells.2.2.2.2.2
  have y5 := frozen_of_row _ _ 5 _ _ HR3.out
  have g1 : ((num : Int) < 1) = False := by simp; omega
  have g2 : ((num : Int) ≥ 999999) = False := by simp; omega
  go_upto_region 12 with (fail)
  have hR4 : ManR (w3.setCell ⟨M, 5, none⟩ (.int .i64 num)) M p (.slice none 0 0) ver0 num := heap_setCell_same _ M 5 _ _ _ HR3.out
  have hO4 : Only (fun i => i = M) w3 (w3.setCell ⟨M, 5, none⟩ (.int .i64 num)) := only_set _ M 5 (.int .i64 num)
  generalize w3.setCell ⟨M, 5, none⟩ (.int .i64 num) = w4 at hR4 hO4 ⊢
  have HO4 := Lib.hid ((Only.of_below (S := fun i => i = M) HF3.out).trans hO4)
  have HR4 := Lib.hid hR4
  have HMF : Hid (∀ i, i = M → ¬ F i) := Lib.hid fun i h => h ▸ HMO.out.1
  have HMT : Hid (∀ i, i = M → tabG < i) := Lib.hid fun i h => h ▸ HMO.out.2
  clear hR4 hO4 c5 y5
  go_upto_region 13 with (go_at_call 77; refine (mload_any F M p num dn D l v w4 HR4.out HMO.out (HK.out.only HO4.out HMF.out) (HT.out.only HO4.out HMT.out) (by omega) HLD.out HCH.out HL0.out HLL.out).mono ?_; rintro r w5 ⟨rfl, ⟨x, hR5, hx5⟩, hO5⟩)
  have HO5 := Lib.hid (HO4.out.trans hO5)
  have HR5 := Lib.hid hR5
  have HX5 : Hid (TabsV w5 (fun i => ¬ F i ∧ i ≠ M) x v.tabs) := Lib.hid (Rows.keep tbFine hx5 fun _ _ _ _ hr => hr.mono fun i h => ⟨fun hf => absurd (HK.out.1 i hf).1 (by have := HO4.out.size; omega), fun e => by have h1 := HR4.out.lt; omega⟩)
  clear hO5 hR5 hx5
  go_upto_region 17 with (go_at_call 78; refine (mbegin_any F M p num dn D x v w5 HR5.out HMO.out HX5.out (HK.out.only HO5.out HMF.out) (HT.out.only HO5.out HMT.out) hn (fun _ => ⟨_, HLD.out⟩) HVER.out HSORT.out hdn).mono ?_; rintro r w6 ⟨rfl, ⟨F', hS, hC⟩, hO⟩)
  have HS := Lib.hid (hS.low HO5.out.size)
  have HCC := Lib.hid hC
  have HO := Lib.hid hO
  clear hS hC hO
  go_wp2_with (fail)
  go_ret2
  refine ⟨rfl, ⟨F', HSZ.out ▸ HS.out, HCC.out⟩, ?_⟩
  refine ⟨HO.out.os.trans HO5.out.os, HO.out.tape.trans HO5.out.tape, HO.out.output.trans HO5.out.output, Nat.le_trans HO5.out.size HO.out.size, fun i hi hn => ?_⟩
  have hM : i ≠ M := by have := HSZ.out; omega
  exact (HO.out.block i (Nat.lt_of_lt_of_le hi HO5.out.size) fun h => h.elim hn hM).trans (HO5.out.block i hi hM)
end Go.Proofs.YtjnolpfmchnnmaaGreatDoor
end
