/-
manifest.begin on a calm disk.
-/
import Derived.Test.YtjnolpfmchnnmaaGreatDoorQPOwnM9
import Derived.Deep.RegionHeld3
import Derived.Test.YtjnolpfmchnnmaaGreatDoorQPOwnM7
import Derived.Deep.QuietTactic
import Derived.BigQuiet
import Derived.Deep.Cut
import Derived.Deep.CutRange
import Derived.Deep.DeepCutAuto
section
namespace Go.Proofs.YtjnolpfmchnnmaaGreatDoor
set_option maxRecDepth 100000
open Go.RowKit Go.BigFrame Go.Sort Go.Shelf Go.Lib
attribute [local go_sem ↓] Go.wp_at_zero Go.wp_at_succ
theorem TabsV.only {w w' : World} {S T : Nat → Prop} {v : Value} {ts : List Tbl} (h : TabsV w S v ts) (ho : Only T w w') (hS : ∀ i, S i → ¬ T i) : TabsV w' S v ts := Rows.keep tbFine h fun _ _ _ _ hr => hr.only ho fun i _ hs => hS i hs
theorem ManR.put {w : World} {M p num : Nat} {x : Value} {v : Ver} (h : ManR w M p x v num) (x' : Value) (v' : Ver) : ManR ((((w.setCell ⟨M, 1, none⟩ x').setCell ⟨M, 2, none⟩ (.int .i64 v'.lg)).setCell ⟨M, 3, none⟩ (.int .i64 v'.sq)).setCell ⟨M, 4, none⟩ (.int .i64 v'.nx)) M p x' v' num ∧ Only (fun i => i = M) w ((((w.setCell ⟨M, 1, none⟩ x').setCell ⟨M, 2, none⟩ (.int .i64 v'.lg)).setCell ⟨M, 3, none⟩ (.int .i64 v'.sq)).setCell ⟨M, 4, none⟩ (.int .i64 v'.nx)) :=
  ⟨heap_setCell_same _ M 4 _ _ _ (heap_setCell_same _ M 3 _ _ _ (heap_setCell_same _ M 2 _ _ _ (heap_setCell_same _ M 1 _ _ _ h))), (((only_set _ _ _ _).trans (only_set _ _ _ _)).trans (only_set _ _ _ _)).trans (only_set _ _ _ _)⟩
theorem cells8 {W w' : World} {p1 p2 p3 p4 p5 p6 p7 p8 : Addr} {x1 x2 x3 x4 x5 x6 x7 x8 : Value} (h : fr W w') (c : W.cell? p1 = some x1 ∧ W.cell? p2 = some x2 ∧ W.cell? p3 = some x3 ∧ W.cell? p4 = some x4 ∧ W.cell? p5 = some x5 ∧ W.cell? p6 = some x6 ∧ W.cell? p7 = some x7 ∧ W.cell? p8 = some x8) :
    w'.cell? p1 = some x1 ∧ w'.cell? p2 = some x2 ∧ w'.cell? p3 = some x3 ∧ w'.cell? p4 = some x4 ∧ w'.cell? p5 = some x5 ∧ w'.cell? p6 = some x6 ∧ w'.cell? p7 = some x7 ∧ w'.cell? p8 = some x8 := by
  obtain ⟨c1, c2, c3, c4, c5, c6, c7, c8⟩ := c
  exact ⟨h.cell c1, h.cell c2, h.cell c3, h.cell c4, h.cell c5, h.cell c6, h.cell c7, h.cell c8⟩
def ManG (w : World) (F : Nat → Prop) (M p : Nat) (v : Ver) (num dn : Nat) (D : Nm → Option (List UInt8)) (G : Nat → Prop) : Prop :=
  ManC w F M p v num dn D ∧ ∃ x, ManR w M p x v num ∧ TabsV w (fun i => G i ∧ ¬ F i ∧ i ≠ M) x v.tabs
theorem ManG.below {w w' : World} {F G : Nat → Prop} {M p num dn : Nat} {v : Ver} {D : Nm → Option (List UInt8)} (h : ManG w F M p v num dn D G) (hf : fr w w') : ManG w' F M p v num dn D G := by
  obtain ⟨h1, x, h2, h3⟩ := h
  exact ⟨h1.below hf, x, h2.below hf, h3.below tbFine hf⟩
set_option maxRecDepth 100000 in
set_option maxHeartbeats 4000000 in
theorem mapply_own (S F : Nat → Prop) (M p num dn : Nat) (v : Ver) (D : Nm → Option (List UInt8)) (av dv : Value) (e : Edt) (w : World) (hm : ManC w F M p v num dn D) (ht : TabW w) (ha : TabsV w S av e.add) (hd : IntsIn w S dv e.drop) (hsort : foldE v e = 0 → Sorts sortTb (foldT v e))
    (hc : ∀ t ∈ e.add, t.count < 9223372036854775808) (hlg : e.lg < 9223372036854775808) (hsq : e.sq < 9223372036854775808) (hdn : dn ≤ 999990) :
    Calls Tryz.prog 28 #[.pointer (some ⟨M, 0, none⟩), .agg #[av, dv, .int .i64 e.lg, .int .i64 e.sq]] w fun r w' => r = .returned (.int .i64 (foldE v e)) ∧ (if foldE v e = 0 then ∃ F', Spread w.heap.size F F' ∧ ManG w' F' M p ⟨sortTb (foldT v e), e.lg, e.sq, foldN v e⟩ num (dn + 2) (putD D (nameM num) ((D (nameM num)).getD [] ++ putF (editF e (foldN v e)))) (fun i => w.heap.size ≤ i) else fr w w') ∧ Only (fun i => F i ∨ i = M) w w' := by
  obtain ⟨x, hr, hx⟩ := hm.row
  obtain ⟨Aa, ca, rfl⟩ := ha.form
  obtain ⟨Ax, cx, rfl⟩ := hx.form
  obtain ⟨Ad, cd, rfl⟩ : ∃ A c, dv = .slice A e.drop.length c := by obtain ⟨A, c, h, _⟩ := hd; exact ⟨A, c, h⟩
  obtain ⟨na, hna⟩ : ∃ n, e.add.length = n := ⟨_, rfl⟩
  obtain ⟨nd, hnd⟩ : ∃ n, e.drop.length = n := ⟨_, rfl⟩
  obtain ⟨nv, hnv⟩ : ∃ n, v.tabs.length = n := ⟨_, rfl⟩
  rw [hna] at ha ⊢
  rw [hnd] at hd ⊢
  rw [hnv] at hx hr
  have HMC := Lib.hid hm
  have HT := Lib.hid ht
  have HA := Lib.hid ha
  have HD := Lib.hid hd
  have HX := Lib.hid hx
  have HR := Lib.hid hr
  have HC := Lib.hid hc
  have HFO := Lib.hid fun wx (hxx : fr w wx) => fold_if sortTb (fun _ => True) (.slice Ax nv cx) (.slice Aa na ca) (.slice Ad nd cd) v e wx ((Rows.keep tbFine hx fun _ _ _ _ hr => hr.mono fun _ _ => trivial).below tbFine hxx) ((Rows.keep tbFine ha fun _ _ _ _ hr => hr.mono fun _ _ => trivial).below tbFine hxx) ((hd.mono fun _ _ => trivial).below hxx) hm.ver.nodup (by have := hm.ver.few; omega) hsort
  by_cases hE : foldE v e = 0
  · rw [hE]
    simp only [if_true]
    obtain ⟨n2, hn2⟩ : ∃ n, (sortTb (foldT v e)).length = n := ⟨_, rfl⟩
    have HF0 : Hid (∀ wx, fr w wx → Calls Tryz.prog 74 #[.agg #[.slice Ax nv cx, .int .i64 v.lg, .int .i64 v.sq, .int .i64 v.nx], .agg #[.slice Aa na ca, .slice Ad nd cd, .int .i64 e.lg, .int .i64 e.sq]] wx fun r w' => ∃ A2 k2, r = .returned (.tuple #[.agg #[.slice A2 n2 k2, .int .i64 e.lg, .int .i64 e.sq, .int .i64 (foldN v e)], .int .i64 0]) ∧ OwnTabs w' wx.heap.size (.slice A2 n2 k2) (sortTb (foldT v e)) ∧ fr wx w') := Lib.hid fun wx hxx => by
      refine (HFO.out wx hxx).mono ?_
      rintro r w' ⟨R, rfl, hR, hf⟩
      rw [if_pos hE] at hR
      obtain ⟨x2, rfl, ho⟩ := hR
      obtain ⟨A2, k2, rfl⟩ : ∃ A c, x2 = .slice A n2 c := by obtain ⟨css, h1, _⟩ := ho; rw [hn2] at h1; exact own_form h1
      exact ⟨A2, k2, by rw [hE], ho, hf⟩
    have HE := Lib.hid hE
    have HN2 := Lib.hid hn2
    obtain ⟨nx2, hnx2⟩ : ∃ q, foldN v e = q := ⟨_, rfl⟩
    rw [hnx2] at HF0 ⊢
    have HNX2 := Lib.hid hnx2
    clear hE HFO hn2 hnx2
    have hf1 : fr w (w.alloc (.cells #[.slice Aa na ca, .slice Ad nd cd, .int .i64 e.lg, .int .i64 e.sq] 45)) := fr.alloc fr.refl _
    have b0 := heap_alloc_new w (.cells #[.slice Aa na ca, .slice Ad nd cd, .int .i64 e.lg, .int .i64 e.sq] 45)
    have HSORT := Lib.hid hsort
    clear hm ht ha hd hx hr hsort hc hna hnd hnv
    go_enter Tryz.func28, Tryz.ntmps28
    go_upto_region 3 with (fail)
    obtain ⟨z, hz⟩ : ∃ z, w.heap.size = z := ⟨_, rfl⟩
    rw [hz] at b0 ⊢
    generalize w.alloc (.cells #[.slice Aa na ca, .slice Ad nd cd, .int .i64 e.lg, .int .i64 e.sq] 45) = w1 at hf1 b0 ⊢
    have HF1 := Lib.hid hf1
    have HB := Lib.hid b0
    have HZ := Lib.hid hz
    have c0 := cell_of_row _ _ 0 _ _ _ b0
    have c1 := cell_of_row _ _ 1 _ _ _ b0
    have c2 := cell_of_row _ _ 2 _ _ _ b0
    have c3 := cell_of_row _ _ 3 _ _ _ b0
    obtain ⟨e0, e1, e2, e3, e4, e5⟩ := (HR.out.below hf1).cells
    have HDR : Hid (fr w1 w1.drew) := Lib.hid (fr.drew fr.refl)
    clear hf1 b0 hz
    have hzz := heap_alloc_new w1 (.cells #[.slice none 0 0, .int .i64 0, .int .i64 0, .int .i64 0] 50)
    have HAD : Hid (fr w1 (w1.alloc (.cells #[.slice none 0 0, .int .i64 0, .int .i64 0, .int .i64 0] 50)).drew) := Lib.hid (fr.drew (fr.alloc fr.refl _))
    have HPZ : Hid ((w1.alloc (.cells #[.slice none 0 0, .int .i64 0, .int .i64 0, .int .i64 0] 50)).drew.heap[w1.heap.size]? = some (.cells #[.slice none 0 0, .int .i64 0, .int .i64 0, .int .i64 0] 50 (0, 0))) := Lib.hid hzz
    have HFAD := Lib.hid (fr.step HF1.out HAD.out)
    have HFDR := Lib.hid (fr.step HF1.out HDR.out)
    have HC8 : Hid (w1.cell? ⟨M, 1, none⟩ = some (.slice Ax nv cx) ∧ w1.cell? ⟨M, 2, none⟩ = some (.int .i64 v.lg) ∧ w1.cell? ⟨M, 3, none⟩ = some (.int .i64 v.sq) ∧ w1.cell? ⟨M, 4, none⟩ = some (.int .i64 v.nx) ∧ w1.cell? ⟨z, 0, none⟩ = some (.slice Aa na ca) ∧ w1.cell? ⟨z, 1, none⟩ = some (.slice Ad nd cd) ∧ w1.cell? ⟨z, 2, none⟩ = some (.int .i64 e.lg) ∧ w1.cell? ⟨z, 3, none⟩ = some (.int .i64 e.sq)) := Lib.hid ⟨e1, e2, e3, e4, c0, c1, c2, c3⟩
    clear hzz e0 e1 e2 e3 e4 e5 c0 c1 c2 c3
    go_region_held3 (fun w' => w'.cell? ⟨M, 1, none⟩ = some (.slice Ax nv cx) ∧ w'.cell? ⟨M, 2, none⟩ = some (.int .i64 v.lg) ∧ w'.cell? ⟨M, 3, none⟩ = some (.int .i64 v.sq) ∧ w'.cell? ⟨M, 4, none⟩ = some (.int .i64 v.nx) ∧ w'.cell? ⟨z, 0, none⟩ = some (.slice Aa na ca) ∧ w'.cell? ⟨z, 1, none⟩ = some (.slice Ad nd cd) ∧ w'.cell? ⟨z, 2, none⟩ = some (.int .i64 e.lg) ∧ w'.cell? ⟨z, 3, none⟩ = some (.int .i64 e.sq))
      (first
        | with_reducible exact cells8 HDR.out HC8.out
        | with_reducible exact cells8 HAD.out HC8.out
        | with_reducible exact cells8 f2 (cells8 HDR.out HC8.out)
        | with_reducible exact cells8 f2 (cells8 HAD.out HC8.out)
        | with_reducible exact cells8 (fr.alloc f2 _) (cells8 HDR.out HC8.out)
        | with_reducible exact cells8 (fr.putE (fr.putE (fr.putE (fr.putE (fr.stepR HAD.out f2) (Nat.le_refl _)) (Nat.le_refl _)) (Nat.le_refl _)) (Nat.le_refl _)) HC8.out)
      (first
        | (go_at_call 74; (with_reducible refine Calls.mono (HF0.out _ ?_) ?_); (focus (with_reducible exact HFAD.out)); rintro r w2 ⟨A2, k2, rfl, ho2, f2⟩; have pz := boxRowFr HPZ.out f2; have g0 := cell_of_row _ _ 0 _ _ _ pz; have g1 := cell_of_row _ _ 1 _ _ _ pz; have g2 := cell_of_row _ _ 2 _ _ _ pz; have g3 := cell_of_row _ _ 3 _ _ _ pz; have y0 := frozen_of_row _ _ 0 _ _ pz; have y1 := frozen_of_row _ _ 1 _ _ pz; have y2 := frozen_of_row _ _ 2 _ _ pz; have y3 := frozen_of_row _ _ 3 _ _ pz)
        | (go_at_call 74; (with_reducible refine Calls.mono (HF0.out _ ?_) ?_); (focus (with_reducible exact HFDR.out)); rintro r w2 ⟨A2, k2, rfl, ho2, f2⟩))
    · have hf9 : fr w (w2.alloc (.cells #[.slice A2 n2 k2, .int .i64 e.lg, .int .i64 e.sq, .int .i64 nx2] 50)) := fr.alloc (fr.stepR HFDR.out f2) _
      have ho9 := OwnRows.below tbFine ho2 (fr.alloc fr.refl (.cells #[.slice A2 n2 k2, .int .i64 e.lg, .int .i64 e.sq, .int .i64 nx2] 50))
      have hb9 : fr w1 (w2.alloc (.cells #[.slice A2 n2 k2, .int .i64 e.lg, .int .i64 e.sq, .int .i64 nx2] 50)) := fr.alloc (fr.stepR HDR.out f2) _
      have pz9 := heap_alloc_new w2 (.cells #[.slice A2 n2 k2, .int .i64 e.lg, .int .i64 e.sq, .int .i64 nx2] 50)
      have hlb : w.heap.size ≤ w1.drew.heap.size := Below.size HFDR.out
      have hzl := Below.size (fr.stepR HFDR.out f2)
      obtain ⟨lb, hlbe⟩ : ∃ g, w1.drew.heap.size = g := ⟨_, rfl⟩
      rw [hlbe] at ho9 hlb
      obtain ⟨zb, hzb⟩ : ∃ g, w2.heap.size = g := ⟨_, rfl⟩
      rw [hzb] at pz9 hzl ⊢
      have HZBL : Hid (w.heap.size ≤ zb ∧ w.heap.size ≤ lb) := Lib.hid ⟨hzl, hlb⟩
      generalize w2.alloc (.cells #[.slice A2 n2 k2, .int .i64 e.lg, .int .i64 e.sq, .int .i64 nx2] 50) = w9 at hf9 ho9 hb9 pz9 ⊢
      clear ho2 f2 hzb hzl hlb hlbe
      have HF9 := Lib.hid hf9
      have HT9 := Lib.hid ho9
      have HB9 := Lib.hid (boxRowFr HB.out hb9)
      have HZB := Lib.hid pz9
      have t0 := cell_of_row _ _ 0 _ _ _ pz9
      have t1 := cell_of_row _ _ 1 _ _ _ pz9
      have t2 := cell_of_row _ _ 2 _ _ _ pz9
      have t3 := cell_of_row _ _ 3 _ _ _ pz9
      have d0 := cell_of_row _ _ 0 _ _ _ HB9.out
      have d1 := cell_of_row _ _ 1 _ _ _ HB9.out
      have d2 := cell_of_row _ _ 2 _ _ _ HB9.out
      have d3 := cell_of_row _ _ 3 _ _ _ HB9.out
      have hfok : FoldOk v e := foldE_ok.1 HE.out
      obtain ⟨k1, k2', k3, k4, k5⟩ := fold_ok HMC.out.ver hfok HC.out hlg hsq
      have HVE := Lib.hid k1
      have HEO := Lib.hid k2'
      have HPUT := Lib.hid fun wx (hx : fr w wx) => mput_any (fun _ => True) F M p num dn D (.slice Ax nv cx) (.slice Aa na ca) (.slice Ad nd cd) v e (foldN v e) wx (HR.out.below hx) (HMC.out.dk.below hx) (HT.out.below hx) ((Rows.keep tbFine HA.out fun _ _ _ _ hr => hr.mono fun _ _ => trivial).below tbFine hx) ((HD.out.mono fun _ _ => trivial).below hx) k2' HMC.out.num.2 (by omega) (by
        obtain ⟨_, l, _, hll, hlf, hch⟩ := HMC.out.file
        rw [hlf]
        have h1 := recsM_len hch.ok
        show (frB (recsM l)).length ≤ _
        omega)
      rw [HNX2.out] at HPUT
      clear ho9 hb9 hf9 pz9 hfok k1 k2' k3 k4 k5
      go_upto_region 9 with (go_at_call 83; refine (HPUT.out _ HF9.out).mono ?_; rintro r w11 ⟨rfl, ⟨F1, hsp1, hk1⟩, hon1⟩)
      have HSP := Lib.hid hsp1
      have HK1 := Lib.hid hk1
      have HON1 := Lib.hid hon1
      have HM1 := Lib.hid ((HR.out.below HF9.out).only hon1 HMC.out.out.1)
      have HTW : Hid (TabW w11) := Lib.hid (((HMC.out.dk.below HF9.out)).tab (HT.out.below HF9.out) hon1)
      have hzb11 : w11.heap[zb]? = some (.cells #[.slice A2 n2 k2, .int .i64 e.lg, .int .i64 e.sq, .int .i64 nx2] 50 (0, 0)) := (hon1.block zb (Array.getElem?_eq_some_iff.1 HZB.out).1 fun h => by have := (HMC.out.dk.lies zb h).1; have := HZBL.out; omega).trans HZB.out
      have HZ11 := Lib.hid hzb11
      have HT11 := Lib.hid (OwnRows.onlyF tbFine HT9.out hon1 fun i hi _ h => by have := (HMC.out.dk.lies i h).1; have := HZBL.out; omega)
      obtain ⟨e0, e1, e2, e3, e4, e5⟩ := HM1.out.cells
      obtain ⟨X, hX⟩ : ∃ X : ByteArray, (⟨(nameM num).toArray⟩ : ByteArray) = X := ⟨_, rfl⟩
      have HFI : Hid (∀ wx, fr w11 wx → Calls Tryz.prog 84 #[.int .i64 num] wx fun r w' => r = .returned (.string X) ∧ Below wx.heap.size wx w') := Lib.hid fun wx hx => by
        rw [← hX]
        exact mfile_any num wx (HTW.out.below hx) HMC.out.num.2
      have HSY : Hid (∀ wx, fr w11 wx → Calls Tryz.prog 70 #[.pointer (some ⟨p, 0, none⟩), .string X] wx fun r w' => r = .returned (.int .i64 0) ∧ DkC w' F1 p (dn + 2) (putD D (nameM num) ((D (nameM num)).getD [] ++ putF (editF e nx2))) ∧ Only F1 wx w') := Lib.hid fun wx hx => by
        rw [← hX]
        exact csync (HK1.out.below hx) (putD_same _ _ _) (by omega)
      clear hX hsp1 hk1 hon1 hzb11
      have q0 := fun q : Ext w11 => q.cell e0
      have q5 := fun q : Ext w11 => q.cell e5
      (refine wp_region_ext_tail 9 (by kernel_rfl) (by kernel_rfl) ?_; simp only [List.take_succ_cons, List.take_zero, List.drop_succ_cons, List.drop_zero]; (repeat (go_big_quiet_step ((go_at_call 84; exact Ext.calls (HFI.out _ (Ext.h _)))))); refine wpQuiet_nil ?_; intro wq hw'; obtain ⟨⟨_, hq⟩, hw''⟩ := hw'; subst hw'')
      clear q0 q5 e0 e1 e2 e3 e4 e5
      have hzF : ∀ i, F1 i → i < w11.heap.size := fun i hi => (HK1.out.lies i hi).1
      go_upto_region 12 with (go_at_call 70; refine (HSY.out _ hq).mono ?_; rintro r w12 ⟨rfl, hk2, hon2⟩)
      have HK2 := Lib.hid hk2
      have HON2 := Lib.hid hon2
      have hMw : M < w.heap.size := HMC.out.lt
      have hF1M : ¬ F1 M := fun h => (HSP.out M h).elim HMC.out.out.1 fun h => by have := Below.size HF9.out; omega
      have HM2 := Lib.hid ((HM1.out.below hq).only hon2 hF1M)
      have hzF1 : ¬ F1 zb := fun h => (HSP.out zb h).elim (fun h => by have := (HMC.out.dk.lies zb h).1; have := HZBL.out; omega) fun h => by have := (Array.getElem?_eq_some_iff.1 HZB.out).1; omega
      have hzb12 : w12.heap[zb]? = some (.cells #[.slice A2 n2 k2, .int .i64 e.lg, .int .i64 e.sq, .int .i64 nx2] 50 (0, 0)) := (hon2.block zb (Array.getElem?_eq_some_iff.1 (boxRowFr HZ11.out hq)).1 hzF1).trans (boxRowFr HZ11.out hq)
      have t0 := cell_of_row _ _ 0 _ _ _ hzb12
      have t1 := cell_of_row _ _ 1 _ _ _ hzb12
      have t2 := cell_of_row _ _ 2 _ _ _ hzb12
      have t3 := cell_of_row _ _ 3 _ _ _ hzb12
      obtain ⟨e0, e1, e2, e3, e4, e5⟩ := HM2.out.cells
      have y1 := frozen_of_row _ _ 1 _ _ HM2.out
      have y2 := frozen_of_row _ _ 2 _ _ HM2.out
      have y3 := frozen_of_row _ _ 3 _ _ HM2.out
      have y4 := frozen_of_row _ _ 4 _ _ HM2.out
      have HTW9 := Lib.hid (OwnRows.rows (bytes := 72) tbFine HT9.out (by rw [HN2.out]; have := HVE.out.few; rw [show (⟨sortTb (foldT v e), e.lg, e.sq, foldN v e⟩ : Ver).tabs = sortTb (foldT v e) from rfl, HN2.out] at this; omega))
      clear hk2 hon2 hzb12
      go_wp2_with (fail)
      go_ret
      obtain ⟨hR', hO'⟩ := HM2.out.put (.slice A2 n2 k2) ⟨sortTb (foldT v e), e.lg, e.sq, nx2⟩
      have hlo9 := HZBL.out
      have hG : ∀ i, lb ≤ i ∧ i < w9.heap.size → ¬ F1 i := fun i hi h => (HSP.out i h).elim (fun h => by have := (HMC.out.dk.lies i h).1; omega) fun h => by omega
      have hG0 : ∀ i, lb ≤ i ∧ i < w9.heap.size → ¬ F i := fun i hi h => by have := (HMC.out.dk.lies i h).1; omega
      have hT1 := TabsV.only HTW9.out HON1.out hG0
      have hT2 := TabsV.only (Rows.below tbFine hT1 hq) HON2.out hG
      have hT' := TabsV.only hT2 hO' fun i hi h => by omega
      have hon : Only (fun i => F i ∨ i = M) w _ := ((((Only.of_below HF9.out).trans (HON1.out.mono fun i h => .inl h)).trans (Only.of_below hq)).fresh HON2.out fun i h => (HSP.out i h).elim (fun h => .inl (.inl h)) fun h => .inr (by have := Below.size HF9.out; omega)).trans (hO'.mono fun i h => .inr h)
      refine ⟨rfl, ⟨F1, HSP.out.low (Below.size HF9.out), ⟨⟨HK2.out.only hO' fun i h hf => hF1M (h ▸ hf), ⟨hF1M, HMC.out.out.2⟩, ⟨_, hR', Rows.keep tbFine hT' fun _ _ _ _ hr => hr.mono fun i hi => ⟨hG i hi, by omega⟩⟩, ?_, by have := HVE.out; rw [HNX2.out] at this; exact this, HMC.out.num⟩, ⟨_, hR', Rows.keep tbFine hT' fun _ _ _ _ hr => hr.mono fun i hi => ⟨by omega, hG i hi, by omega⟩⟩⟩⟩, hon⟩
      obtain ⟨f1, l, f2, f3, f4, f5⟩ := HMC.out.file
      refine ⟨by rw [putD_ne _ _ (fun h => nameM_ne_cur num h.symm)]; exact f1, l ++ [(e, nx2)], by simp, by rw [List.length_append]; simp; omega, ?_, ?_⟩
      · rw [putD_same, f4, recsM_app, frB_append]
        show some (frB (recsM l) ++ putF (editF e nx2)) = some (frB (recsM l) ++ frB [editF e nx2])
        rw [frB_one]
      · have hst : StepOk v e nx2 := ⟨by have := HEO.out; rw [HNX2.out] at this; exact this, HE.out, HSORT.out HE.out, HMC.out.ver.nodup, by have := HMC.out.ver.few; omega⟩
        have := f5.snoc (x := (e, nx2)) hst
        have e9 : stepV v e nx2 = ⟨sortTb (foldT v e), e.lg, e.sq, nx2⟩ := by unfold stepV; rw [HNX2.out, Int.max_self]
        rw [← e9]
        exact this
    · have F4 := fr.putE (fr.putE (fr.putE (fr.putE (fr.stepR HAD.out f2) (Nat.le_refl _) (j := 0) (u := .slice A2 n2 k2)) (Nat.le_refl _) (j := 1) (u := .int .i64 e.lg)) (Nat.le_refl _) (j := 2) (u := .int .i64 e.sq)) (Nat.le_refl _) (j := 3) (u := .int .i64 nx2)
      have hb9 : fr w1 (put4 w2 w1.heap.size (.slice A2 n2 k2) (.int .i64 e.lg) (.int .i64 e.sq) (.int .i64 nx2)) := F4
      have hf9 := fr.stepR HF1.out hb9
      have pz9 := put4_row pz (a := .slice A2 n2 k2) (b := .int .i64 e.lg) (c := .int .i64 e.sq) (d := .int .i64 nx2)
      have hso : w1.heap.size < (w1.alloc (.cells #[.slice none 0 0, .int .i64 0, .int .i64 0, .int .i64 0] 50)).drew.heap.size := by simp
      have ho9 := OwnRows.onlyF tbFine ho2 (put4_only (W := w2) (g := w1.heap.size) (a := .slice A2 n2 k2) (b := .int .i64 e.lg) (c := .int .i64 e.sq) (d := .int .i64 nx2)) (fun i hi _ h => by omega)
      have hlb : w.heap.size ≤ (w1.alloc (.cells #[.slice none 0 0, .int .i64 0, .int .i64 0, .int .i64 0] 50)).drew.heap.size := Below.size HFAD.out
      have hzl := Below.size HF1.out
      obtain ⟨lb, hlbe⟩ : ∃ g, (w1.alloc (.cells #[.slice none 0 0, .int .i64 0, .int .i64 0, .int .i64 0] 50)).drew.heap.size = g := ⟨_, rfl⟩
      rw [hlbe] at ho9 hlb
      obtain ⟨zb, hzb⟩ : ∃ g, w1.heap.size = g := ⟨_, rfl⟩
      unfold put4 at hb9 hf9 pz9 ho9
      rw [hzb] at pz9 hzl hb9 hf9 ho9 ⊢
      have HZBL : Hid (w.heap.size ≤ zb ∧ w.heap.size ≤ lb) := Lib.hid ⟨hzl, hlb⟩
      generalize (((w2.setCell ⟨zb, 0, none⟩ (.slice A2 n2 k2)).setCell ⟨zb, 1, none⟩ (.int .i64 e.lg)).setCell ⟨zb, 2, none⟩ (.int .i64 e.sq)).setCell ⟨zb, 3, none⟩ (.int .i64 nx2) = w9 at hf9 ho9 hb9 pz9 ⊢
      clear ho2 f2 hzb hzl hlb hlbe F4 pz g0 g1 g2 g3 y0 y1 y2 y3 hso
      have HF9 := Lib.hid hf9
      have HT9 := Lib.hid ho9
      have HB9 := Lib.hid (boxRowFr HB.out hb9)
      have HZB := Lib.hid pz9
      have t0 := cell_of_row _ _ 0 _ _ _ pz9
      have t1 := cell_of_row _ _ 1 _ _ _ pz9
      have t2 := cell_of_row _ _ 2 _ _ _ pz9
      have t3 := cell_of_row _ _ 3 _ _ _ pz9
      have d0 := cell_of_row _ _ 0 _ _ _ HB9.out
      have d1 := cell_of_row _ _ 1 _ _ _ HB9.out
      have d2 := cell_of_row _ _ 2 _ _ _ HB9.out
      have d3 := cell_of_row _ _ 3 _ _ _ HB9.out
      have hfok : FoldOk v e := foldE_ok.1 HE.out
      obtain ⟨k1, k2', k3, k4, k5⟩ := fold_ok HMC.out.ver hfok HC.out hlg hsq
      have HVE := Lib.hid k1
      have HEO := Lib.hid k2'
      have HPUT := Lib.hid fun wx (hx : fr w wx) => mput_any (fun _ => True) F M p num dn D (.slice Ax nv cx) (.slice Aa na ca) (.slice Ad nd cd) v e (foldN v e) wx (HR.out.below hx) (HMC.out.dk.below hx) (HT.out.below hx) ((Rows.keep tbFine HA.out fun _ _ _ _ hr => hr.mono fun _ _ => trivial).below tbFine hx) ((HD.out.mono fun _ _ => trivial).below hx) k2' HMC.out.num.2 (by omega) (by
        obtain ⟨_, l, _, hll, hlf, hch⟩ := HMC.out.file
        rw [hlf]
        have h1 := recsM_len hch.ok
        show (frB (recsM l)).length ≤ _
        omega)
      rw [HNX2.out] at HPUT
      clear ho9 hb9 hf9 pz9 hfok k1 k2' k3 k4 k5
      go_upto_region 9 with (go_at_call 83; refine (HPUT.out _ HF9.out).mono ?_; rintro r w11 ⟨rfl, ⟨F1, hsp1, hk1⟩, hon1⟩)
      have HSP := Lib.hid hsp1
      have HK1 := Lib.hid hk1
      have HON1 := Lib.hid hon1
      have HM1 := Lib.hid ((HR.out.below HF9.out).only hon1 HMC.out.out.1)
      have HTW : Hid (TabW w11) := Lib.hid (((HMC.out.dk.below HF9.out)).tab (HT.out.below HF9.out) hon1)
      have hzb11 : w11.heap[zb]? = some (.cells #[.slice A2 n2 k2, .int .i64 e.lg, .int .i64 e.sq, .int .i64 nx2] 50 (0, 0)) := (hon1.block zb (Array.getElem?_eq_some_iff.1 HZB.out).1 fun h => by have := (HMC.out.dk.lies zb h).1; have := HZBL.out; omega).trans HZB.out
      have HZ11 := Lib.hid hzb11
      have HT11 := Lib.hid (OwnRows.onlyF tbFine HT9.out hon1 fun i hi _ h => by have := (HMC.out.dk.lies i h).1; have := HZBL.out; omega)
      obtain ⟨e0, e1, e2, e3, e4, e5⟩ := HM1.out.cells
      obtain ⟨X, hX⟩ : ∃ X : ByteArray, (⟨(nameM num).toArray⟩ : ByteArray) = X := ⟨_, rfl⟩
      have HFI : Hid (∀ wx, fr w11 wx → Calls Tryz.prog 84 #[.int .i64 num] wx fun r w' => r = .returned (.string X) ∧ Below wx.heap.size wx w') := Lib.hid fun wx hx => by
        rw [← hX]
        exact mfile_any num wx (HTW.out.below hx) HMC.out.num.2
      have HSY : Hid (∀ wx, fr w11 wx → Calls Tryz.prog 70 #[.pointer (some ⟨p, 0, none⟩), .string X] wx fun r w' => r = .returned (.int .i64 0) ∧ DkC w' F1 p (dn + 2) (putD D (nameM num) ((D (nameM num)).getD [] ++ putF (editF e nx2))) ∧ Only F1 wx w') := Lib.hid fun wx hx => by
        rw [← hX]
        exact csync (HK1.out.below hx) (putD_same _ _ _) (by omega)
      clear hX hsp1 hk1 hon1 hzb11
      have q0 := fun q : Ext w11 => q.cell e0
      have q5 := fun q : Ext w11 => q.cell e5
      (refine wp_region_ext_tail 9 (by kernel_rfl) (by kernel_rfl) ?_; simp only [List.take_succ_cons, List.take_zero, List.drop_succ_cons, List.drop_zero]; (repeat (go_big_quiet_step ((go_at_call 84; exact Ext.calls (HFI.out _ (Ext.h _)))))); refine wpQuiet_nil ?_; intro wq hw'; obtain ⟨⟨_, hq⟩, hw''⟩ := hw'; subst hw'')
      clear q0 q5 e0 e1 e2 e3 e4 e5
      have hzF : ∀ i, F1 i → i < w11.heap.size := fun i hi => (HK1.out.lies i hi).1
      go_upto_region 12 with (go_at_call 70; refine (HSY.out _ hq).mono ?_; rintro r w12 ⟨rfl, hk2, hon2⟩)
      have HK2 := Lib.hid hk2
      have HON2 := Lib.hid hon2
      have hMw : M < w.heap.size := HMC.out.lt
      have hF1M : ¬ F1 M := fun h => (HSP.out M h).elim HMC.out.out.1 fun h => by have := Below.size HF9.out; omega
      have HM2 := Lib.hid ((HM1.out.below hq).only hon2 hF1M)
      have hzF1 : ¬ F1 zb := fun h => (HSP.out zb h).elim (fun h => by have := (HMC.out.dk.lies zb h).1; have := HZBL.out; omega) fun h => by have := (Array.getElem?_eq_some_iff.1 HZB.out).1; omega
      have hzb12 : w12.heap[zb]? = some (.cells #[.slice A2 n2 k2, .int .i64 e.lg, .int .i64 e.sq, .int .i64 nx2] 50 (0, 0)) := (hon2.block zb (Array.getElem?_eq_some_iff.1 (boxRowFr HZ11.out hq)).1 hzF1).trans (boxRowFr HZ11.out hq)
      have t0 := cell_of_row _ _ 0 _ _ _ hzb12
      have t1 := cell_of_row _ _ 1 _ _ _ hzb12
      have t2 := cell_of_row _ _ 2 _ _ _ hzb12
      have t3 := cell_of_row _ _ 3 _ _ _ hzb12
      obtain ⟨e0, e1, e2, e3, e4, e5⟩ := HM2.out.cells
      have y1 := frozen_of_row _ _ 1 _ _ HM2.out
      have y2 := frozen_of_row _ _ 2 _ _ HM2.out
      have y3 := frozen_of_row _ _ 3 _ _ HM2.out
      have y4 := frozen_of_row _ _ 4 _ _ HM2.out
      have HTW9 := Lib.hid (OwnRows.rows (bytes := 72) tbFine HT9.out (by rw [HN2.out]; have := HVE.out.few; rw [show (⟨sortTb (foldT v e), e.lg, e.sq, foldN v e⟩ : Ver).tabs = sortTb (foldT v e) from rfl, HN2.out] at this; omega))
      clear hk2 hon2 hzb12
      go_wp2_with (fail)
      go_ret
      obtain ⟨hR', hO'⟩ := HM2.out.put (.slice A2 n2 k2) ⟨sortTb (foldT v e), e.lg, e.sq, nx2⟩
      have hlo9 := HZBL.out
      have hG : ∀ i, lb ≤ i ∧ i < w9.heap.size → ¬ F1 i := fun i hi h => (HSP.out i h).elim (fun h => by have := (HMC.out.dk.lies i h).1; omega) fun h => by omega
      have hG0 : ∀ i, lb ≤ i ∧ i < w9.heap.size → ¬ F i := fun i hi h => by have := (HMC.out.dk.lies i h).1; omega
      have hT1 := TabsV.only HTW9.out HON1.out hG0
      have hT2 := TabsV.only (Rows.below tbFine hT1 hq) HON2.out hG
      have hT' := TabsV.only hT2 hO' fun i hi h => by omega
      have hon : Only (fun i => F i ∨ i = M) w _ := ((((Only.of_below HF9.out).trans (HON1.out.mono fun i h => .inl h)).trans (Only.of_below hq)).fresh HON2.out fun i h => (HSP.out i h).elim (fun h => .inl (.inl h)) fun h => .inr (by have := Below.size HF9.out; omega)).trans (hO'.mono fun i h => .inr h)
      refine ⟨rfl, ⟨F1, HSP.out.low (Below.size HF9.out), ⟨⟨HK2.out.only hO' fun i h hf => hF1M (h ▸ hf), ⟨hF1M, HMC.out.out.2⟩, ⟨_, hR', Rows.keep tbFine hT' fun _ _ _ _ hr => hr.mono fun i hi => ⟨hG i hi, by omega⟩⟩, ?_, by have := HVE.out; rw [HNX2.out] at this; exact this, HMC.out.num⟩, ⟨_, hR', Rows.keep tbFine hT' fun _ _ _ _ hr => hr.mono fun i hi => ⟨by omega, hG i hi, by omega⟩⟩⟩⟩, hon⟩
      obtain ⟨f1, l, f2, f3, f4, f5⟩ := HMC.out.file
      refine ⟨by rw [putD_ne _ _ (fun h => nameM_ne_cur num h.symm)]; exact f1, l ++ [(e, nx2)], by simp, by rw [List.length_append]; simp; omega, ?_, ?_⟩
      · rw [putD_same, f4, recsM_app, frB_append]
        show some (frB (recsM l) ++ putF (editF e nx2)) = some (frB (recsM l) ++ frB [editF e nx2])
        rw [frB_one]
      · have hst : StepOk v e nx2 := ⟨by have := HEO.out; rw [HNX2.out] at this; exact this, HE.out, HSORT.out HE.out, HMC.out.ver.nodup, by have := HMC.out.ver.few; omega⟩
        have := f5.snoc (x := (e, nx2)) hst
        have e9 : stepV v e nx2 = ⟨sortTb (foldT v e), e.lg, e.sq, nx2⟩ := by unfold stepV; rw [HNX2.out, Int.max_self]
        rw [← e9]
        exact this
  · simp only [if_neg hE]
    have HF0 : Hid (∀ wx, fr w wx → Calls Tryz.prog 74 #[.agg #[.slice Ax nv cx, .int .i64 v.lg, .int .i64 v.sq, .int .i64 v.nx], .agg #[.slice Aa na ca, .slice Ad nd cd, .int .i64 e.lg, .int .i64 e.sq]] wx fun r w' => r = .returned (.tuple #[.agg #[.slice none 0 0, .int .i64 0, .int .i64 0, .int .i64 0], .int .i64 (foldE v e)]) ∧ fr wx w') := Lib.hid fun wx hxx => by
      refine (HFO.out wx hxx).mono ?_
      rintro r w' ⟨R, rfl, hR, hf⟩
      rw [if_neg hE] at hR
      subst hR
      exact ⟨rfl, hf⟩
    obtain ⟨ke, hke⟩ : ∃ q, foldE v e = q := ⟨_, rfl⟩
    rw [hke] at HF0 hE ⊢
    have hk0 : (ke == 0) = false := by simpa using hE
    clear HFO hE hke
    have hf1 : fr w (w.alloc (.cells #[.slice Aa na ca, .slice Ad nd cd, .int .i64 e.lg, .int .i64 e.sq] 45)) := fr.alloc fr.refl _
    have b0 := heap_alloc_new w (.cells #[.slice Aa na ca, .slice Ad nd cd, .int .i64 e.lg, .int .i64 e.sq] 45)
    clear hm ht ha hd hx hr hsort hc hna hnd hnv
    go_enter Tryz.func28, Tryz.ntmps28
    go_upto_region 3 with (fail)
    obtain ⟨z, hz⟩ : ∃ z, w.heap.size = z := ⟨_, rfl⟩
    rw [hz] at b0 ⊢
    generalize w.alloc (.cells #[.slice Aa na ca, .slice Ad nd cd, .int .i64 e.lg, .int .i64 e.sq] 45) = w1 at hf1 b0 ⊢
    have HF1 := Lib.hid hf1
    have HB := Lib.hid b0
    have HZ := Lib.hid hz
    have c0 := cell_of_row _ _ 0 _ _ _ b0
    have c1 := cell_of_row _ _ 1 _ _ _ b0
    have c2 := cell_of_row _ _ 2 _ _ _ b0
    have c3 := cell_of_row _ _ 3 _ _ _ b0
    obtain ⟨e0, e1, e2, e3, e4, e5⟩ := (HR.out.below hf1).cells
    have HDR : Hid (fr w1 w1.drew) := Lib.hid (fr.drew fr.refl)
    clear hf1 b0 hz
    have hzz := heap_alloc_new w1 (.cells #[.slice none 0 0, .int .i64 0, .int .i64 0, .int .i64 0] 50)
    have HAD : Hid (fr w1 (w1.alloc (.cells #[.slice none 0 0, .int .i64 0, .int .i64 0, .int .i64 0] 50)).drew) := Lib.hid (fr.drew (fr.alloc fr.refl _))
    have HPZ : Hid ((w1.alloc (.cells #[.slice none 0 0, .int .i64 0, .int .i64 0, .int .i64 0] 50)).drew.heap[w1.heap.size]? = some (.cells #[.slice none 0 0, .int .i64 0, .int .i64 0, .int .i64 0] 50 (0, 0))) := Lib.hid hzz
    have HFAD := Lib.hid (fr.step HF1.out HAD.out)
    have HFDR := Lib.hid (fr.step HF1.out HDR.out)
    have HC8 : Hid (w1.cell? ⟨M, 1, none⟩ = some (.slice Ax nv cx) ∧ w1.cell? ⟨M, 2, none⟩ = some (.int .i64 v.lg) ∧ w1.cell? ⟨M, 3, none⟩ = some (.int .i64 v.sq) ∧ w1.cell? ⟨M, 4, none⟩ = some (.int .i64 v.nx) ∧ w1.cell? ⟨z, 0, none⟩ = some (.slice Aa na ca) ∧ w1.cell? ⟨z, 1, none⟩ = some (.slice Ad nd cd) ∧ w1.cell? ⟨z, 2, none⟩ = some (.int .i64 e.lg) ∧ w1.cell? ⟨z, 3, none⟩ = some (.int .i64 e.sq)) := Lib.hid ⟨e1, e2, e3, e4, c0, c1, c2, c3⟩
    clear hzz e0 e1 e2 e3 e4 e5 c0 c1 c2 c3
    go_region_held3 (fun w' => w'.cell? ⟨M, 1, none⟩ = some (.slice Ax nv cx) ∧ w'.cell? ⟨M, 2, none⟩ = some (.int .i64 v.lg) ∧ w'.cell? ⟨M, 3, none⟩ = some (.int .i64 v.sq) ∧ w'.cell? ⟨M, 4, none⟩ = some (.int .i64 v.nx) ∧ w'.cell? ⟨z, 0, none⟩ = some (.slice Aa na ca) ∧ w'.cell? ⟨z, 1, none⟩ = some (.slice Ad nd cd) ∧ w'.cell? ⟨z, 2, none⟩ = some (.int .i64 e.lg) ∧ w'.cell? ⟨z, 3, none⟩ = some (.int .i64 e.sq))
      (first
        | with_reducible exact cells8 HDR.out HC8.out
        | with_reducible exact cells8 HAD.out HC8.out
        | with_reducible exact cells8 f2 (cells8 HDR.out HC8.out)
        | with_reducible exact cells8 f2 (cells8 HAD.out HC8.out)
        | with_reducible exact cells8 (fr.alloc f2 _) (cells8 HDR.out HC8.out)
        | with_reducible exact cells8 (fr.putE (fr.putE (fr.putE (fr.putE (fr.stepR HAD.out f2) (Nat.le_refl _)) (Nat.le_refl _)) (Nat.le_refl _)) (Nat.le_refl _)) HC8.out)
      (first
        | (go_at_call 74; (with_reducible refine Calls.mono (HF0.out _ ?_) ?_); (focus (with_reducible exact HFAD.out)); rintro r w2 ⟨rfl, f2⟩; have pz := boxRowFr HPZ.out f2; have g0 := cell_of_row _ _ 0 _ _ _ pz; have g1 := cell_of_row _ _ 1 _ _ _ pz; have g2 := cell_of_row _ _ 2 _ _ _ pz; have g3 := cell_of_row _ _ 3 _ _ _ pz; have y0 := frozen_of_row _ _ 0 _ _ pz; have y1 := frozen_of_row _ _ 1 _ _ pz; have y2 := frozen_of_row _ _ 2 _ _ pz; have y3 := frozen_of_row _ _ 3 _ _ pz)
        | (go_at_call 74; (with_reducible refine Calls.mono (HF0.out _ ?_) ?_); (focus (with_reducible exact HFDR.out)); rintro r w2 ⟨rfl, f2⟩))
    · go_wp2_with (fail)
      go_ret
      have hf := fr.alloc (fr.stepR HFDR.out f2) (.cells #[.slice none 0 0, .int .i64 0, .int .i64 0, .int .i64 0] 50)
      exact ⟨rfl, hf, Only.of_below hf⟩
    · go_wp2_with (fail)
      go_ret
      have F4 := fr.putE (fr.putE (fr.putE (fr.putE (fr.stepR HAD.out f2) (Nat.le_refl _) (j := 0) (u := .slice none 0 0)) (Nat.le_refl _) (j := 1) (u := .int .i64 0)) (Nat.le_refl _) (j := 2) (u := .int .i64 0)) (Nat.le_refl _) (j := 3) (u := .int .i64 0)
      have hf := fr.stepR HF1.out F4
      exact ⟨rfl, hf, Only.of_below hf⟩
theorem mapply_any (S F : Nat → Prop) (M p num dn : Nat) (v : Ver) (D : Nm → Option (List UInt8)) (av dv : Value) (e : Edt) (w : World) (hm : ManC w F M p v num dn D) (ht : TabW w) (ha : TabsV w S av e.add) (hd : IntsIn w S dv e.drop) (hsort : Sorts sortTb (foldT v e))
    (hc : ∀ t ∈ e.add, t.count < 9223372036854775808) (hlg : e.lg < 9223372036854775808) (hsq : e.sq < 9223372036854775808) (hdn : dn ≤ 999990) :
    Calls Tryz.prog 28 #[.pointer (some ⟨M, 0, none⟩), .agg #[av, dv, .int .i64 e.lg, .int .i64 e.sq]] w fun r w' => r = .returned (.int .i64 (foldE v e)) ∧ (if foldE v e = 0 then ∃ F', Spread w.heap.size F F' ∧ ManC w' F' M p ⟨sortTb (foldT v e), e.lg, e.sq, foldN v e⟩ num (dn + 2) (putD D (nameM num) ((D (nameM num)).getD [] ++ putF (editF e (foldN v e)))) else ManC w' F M p v num dn D) ∧ Only (fun i => F i ∨ i = M) w w' := by
  refine (mapply_own S F M p num dn v D av dv e w hm ht ha hd (fun _ => hsort) hc hlg hsq hdn).mono ?_
  rintro r w' ⟨h1, h2, h3⟩
  refine ⟨h1, ?_, h3⟩
  by_cases hE : foldE v e = 0
  · rw [if_pos hE] at h2 ⊢
    obtain ⟨F', g1, g2, _⟩ := h2
    exact ⟨F', g1, g2⟩
  · rw [if_neg hE] at h2 ⊢
    exact hm.below h2
end Go.Proofs.YtjnolpfmchnnmaaGreatDoor
end
section
namespace Go.Proofs.YtjnolpfmchnnmaaGreatDoor
set_option maxRecDepth 100000
open Go.RowKit Go.BigFrame Go.Sort Go.Shelf Go.Lib
attribute [local go_sem ↓] Go.wp_at_zero Go.wp_at_succ
theorem infoFn : (Tryz.prog.info? 41).map (fun i => (i.zero, i.size, i.bytes)) = some (some .nilFunc, 1, 8) := by kernel_rfl
def stepsL (z zo num : Nat) : List Value := [.func (.func 135) #[] #[.pointer (some ⟨z, 0, none⟩)], .func (.func 136) #[] #[.pointer (some ⟨z, 0, none⟩)], .func (.func 137) #[] #[.pointer (some ⟨z, 0, none⟩)], .func (.func 138) #[] #[.pointer (some ⟨z, 0, none⟩)]] ++ (if num = 0 then [] else [.func (.func 139) #[] #[.pointer (some ⟨z, 0, none⟩), .pointer (some ⟨zo, 0, none⟩)]])
def stepD (B : Nm → Option (List UInt8)) (num : Nat) (b : List UInt8) : Nat → Nm → Option (List UInt8)
  | 0 => B
  | 1 => B
  | 2 => putD B freshW b
  | 3 => putD B freshW b
  | 4 => putD (delD (putD B freshW b) freshW) curW b
  | _ => delD (putD (delD (putD B freshW b) freshW) curW b) (nameM num)
theorem begun_steps (D : Nm → Option (List UInt8)) (num : Nat) (b : List UInt8) : stepD (putD (sweptD D (ownM num)) (nameM (num + 1)) b) num (Lib.itoa ((num + 1 : Nat) : Int)) (if num = 0 then 4 else 5) = begunD D num b := by
  unfold begunD
  split <;> rfl
theorem stepD_own {D : Nm → Option (List UInt8)} {num : Nat} {b s c : List UInt8} (h0 : 0 < num) (hn : num + 1 < 1000000) (hD : D (nameM num) = some c) : stepD (putD (sweptD D (ownM num)) (nameM (num + 1)) b) num s 4 (nameM num) = some c := by
  show putD (delD (putD (putD (sweptD D (ownM num)) (nameM (num + 1)) b) freshW s) freshW) curW s (nameM num) = some c
  rw [putD_ne _ _ (nameM_ne_cur _), delD_ne _ (nameM_ne_fresh _), putD_ne _ _ (nameM_ne_fresh _), putD_ne _ _ (fun e => by have := nameM_inj (by omega) (by omega) e; omega)]
  have ho : ownM num = nameM num := by unfold ownM; rw [if_neg (by omega)]
  unfold sweptD junkM
  rw [ho, decide_eq_false (by simp)]
  exact hD
theorem stepD_fresh (D : Nm → Option (List UInt8)) (num : Nat) (b : List UInt8) : putD (sweptD D (ownM num)) (nameM (num + 1)) b freshW = none := by
  rw [putD_ne _ _ (fun e => nameM_ne_fresh _ e.symm)]
  unfold sweptD
  rw [if_pos fresh_junk]
set_option maxRecDepth 100000 in
set_option maxHeartbeats 8000000 in
theorem mbegin_any (F : Nat → Prop) (M p num dn : Nat) (D : Nm → Option (List UInt8)) (x : Value) (v : Ver) (w : World) (hm : ManR w M p x v num) (hM : ¬ F M ∧ tabG < M) (hx : TabsV w (fun i => ¬ F i ∧ i ≠ M) x v.tabs) (hk : DkC w F p dn D) (ht : TabW w) (hnum : num + 1 < 1000000)
    (hown : 0 < num → ∃ c, D (nameM num) = some c) (hver : VerOk v) (hsort : ∀ n, Sorts sortTb (v.tabs.take n)) (hdn : dn ≤ 400000) :
    Calls Tryz.prog 78 #[.pointer (some ⟨M, 0, none⟩)] w fun r w' => r = .returned (.int .i64 0) ∧ (∃ F', Spread w.heap.size F F' ∧ ManC w' F' M p v (num + 1) (dn + dn + 1000) (begunD D num (frB (recsM (splitL v))))) ∧ Only (fun i => F i ∨ i = M) w w' := by
  obtain ⟨Ax, cx, rfl⟩ := hx.form
  obtain ⟨nv, hnv⟩ : ∃ n, v.tabs.length = n := ⟨_, rfl⟩
  rw [hnv] at hx hm
  have HNV := Lib.hid hnv
  have HM := Lib.hid hm
  have HMO := Lib.hid hM
  have HX := Lib.hid hx
  have HK := Lib.hid hk
  have HT := Lib.hid ht
  have HOWN := Lib.hid hown
  have HVER := Lib.hid hver
  have HSORT := Lib.hid hsort
  have b0 := Boxed.new w 46 (.pointer (some ⟨M, 0, none⟩))
  have hf1 : fr w (w.alloc (.cells #[.pointer (some ⟨M, 0, none⟩)] 46)) := fr.alloc fr.refl _
  have hs1 : (w.alloc (.cells #[.pointer (some ⟨M, 0, none⟩)] 46)).heap.size = w.heap.size + 1 := by simp
  clear hm hM hx hk ht hown hver hsort hnv
  go_enter Tryz.func78, Tryz.ntmps78
  go_upto_region 1 with (fail)
  obtain ⟨z, hz⟩ : ∃ z, w.heap.size = z := ⟨_, rfl⟩
  rw [hz] at b0 hs1 ⊢
  generalize w.alloc (.cells #[.pointer (some ⟨M, 0, none⟩)] 46) = w1 at hf1 b0 hs1 ⊢
  have HZ := Lib.hid hz
  have HF1 := Lib.hid hf1
  have HB := Lib.hid b0
  have hb0 := b0.cell
  obtain ⟨e0, e1, e2, e3, e4, e5⟩ := (HM.out.below hf1).cells
  have HLI := Lib.hid (clist (HK.out.below hf1) (by omega))
  clear hf1 b0 hz
  go_upto_region 4 with (go_at_call 58; refine HLI.out.mono ?_; rintro r w2 ⟨lv, l, rfl, hlo, hls, hlm, hll, f2⟩)
  have HLO := Lib.hid hlo
  have HLS := Lib.hid hls
  have HLM := Lib.hid hlm
  have HLL := Lib.hid hll
  have HF2 := Lib.hid (fr.step HF1.out f2)
  have HB2 := Lib.hid (boxedFr HB.out f2)
  have hs2 : z + 1 ≤ w2.heap.size := by have := Below.size f2; omega
  have pO := Boxed.new w2 9 (.string ⟨#[]⟩)
  have hf3 : fr w2 (w2.alloc (.cells #[.string ⟨#[]⟩] 9)) := fr.alloc fr.refl _
  clear hlo hls hlm hll f2 hb0 e0 e1 e2 e3 e4 e5 HLI
  go_upto_region 5 with (fail)
  obtain ⟨zo, hzo⟩ : ∃ z, w2.heap.size = z := ⟨_, rfl⟩
  rw [hzo] at pO hs2 ⊢
  generalize w2.alloc (.cells #[.string ⟨#[]⟩] 9) = w3 at pO hf3 ⊢
  have HF3 := Lib.hid (fr.step HF2.out hf3)
  have HB3 := Lib.hid (boxedFr HB2.out hf3)
  have HPO := Lib.hid pO
  have HZO := Lib.hid hzo
  have HLO3 := Lib.hid (own_below HLO.out hf3)
  have hb0 := HB3.out.cell
  obtain ⟨e0, e1, e2, e3, e4, e5⟩ := (HM.out.below HF3.out).cells
  have o0 := pO.cell
  have oz := pO.frozen
  clear pO hf3 hzo
  go_upto_if 31 with (fail)
  go_cut [31] (fun _ wc => Boxed wc zo 9 (.string ⟨(ownM num).toArray⟩) ∧ Only (fun i => i = zo) w3 wc)
  case first =>
    by_cases hn0 : 0 < num
    · have hd0 : decide ((0 : Int) < (num : Int)) = true := decide_eq_true (by omega)
      have HO : Hid (ownM num = nameM num) := Lib.hid (by unfold ownM; rw [if_neg (by omega)])
      have HFI := Lib.hid (mfile_any num w3 (HT.out.below HF3.out) (by omega))
      go_wp2_with (go_at_call 84; refine HFI.out.mono ?_; rintro r w4 ⟨rfl, f4⟩; have o1 := (boxedFr HPO.out f4).cell; have oz1 := (boxedFr HPO.out f4).frozen)
      go_meet
      case rel => rw [HO.out]; exact ⟨(boxedFr HPO.out f4).set _, (Only.of_below f4).trans (only_set w4 zo 0 _)⟩
    · have hd0 : decide ((0 : Int) < (num : Int)) = false := decide_eq_false (by omega)
      have HO : Hid (ownM num = []) := Lib.hid (by unfold ownM; rw [if_pos (by omega)])
      go_wp2_with (fail)
      go_meet
      case rel => rw [HO.out]; exact ⟨HPO.out, Only.refl _ _⟩
  case rest =>
    obtain ⟨hpo, hon⟩ := hcut
    have HON := Lib.hid hon
    have HPO4 := Lib.hid hpo
    have hzw : w.heap.size ≤ zo := by have := HZ.out; omega
    have HF4 : Hid (fr w wc) := Lib.hid (HF3.out.trans (hon.below (Below.size HF3.out) fun i h => by omega))
    have HB4 := Lib.hid (boxedOnly HB3.out hon (by omega))
    have HLO4 := Lib.hid (own_only HLO3.out hon fun g hg h => by have := (HLO.out.lt g hg).2; have := HZO.out; omega)
    clear hpo hon hb0 e0 e1 e2 e3 e4 e5 o0 oz HB3 HPO HF3 HLO3
    obtain ⟨nl, hnl⟩ : ∃ n, l.length = n := ⟨_, rfl⟩
    have HNL := Lib.hid hnl
    have hnl1 : nl ≤ dn := by have := HLL.out; omega
    unfold OwnS at HLO4
    rw [hnl] at HLO4
    obtain ⟨Al, cl, rfl⟩ := own_form HLO4.out
    obtain ⟨O, hO⟩ : ∃ O : ByteArray, (⟨(ownM num).toArray⟩ : ByteArray) = O := ⟨_, rfl⟩
    have HO := Lib.hid hO
    rw [hO] at HPO4
    clear hnl hO
    go_wp2_with (fail)
    go_loopw [39] (fun t wr => ∃ i : Nat, i ≤ nl ∧ t = .int .i64 i ∧ DkC wr F p (dn + i) (sweptI D (ownM num) (l.take i)) ∧ Only F wc wr) (fun t _ => nl - (intOf t).toNat)
    case atStart => exact ⟨0, Nat.zero_le _, rfl, by rw [List.take_zero, sweptI_nil]; exact HK.out.below HF4.out, Only.refl _ _⟩
    case round =>
      obtain ⟨i, hi, rfl, hk, hon⟩ := hrel
      have HKW := Lib.hid hk
      have HOF := Lib.hid hon
      have HFl : Hid (∀ i, F i → i < w.heap.size) := Lib.hid fun i hi => (HK.out.lies i hi).1
      have hBW := boxedOnly HB4.out hon fun h => by have := HFl.out z h; have := HZ.out; omega
      have hOW := boxedOnly HPO4.out hon fun h => by have := HFl.out zo h; omega
      have HBW := Lib.hid hBW
      have HOW := Lib.hid hOW
      have HMW := Lib.hid ((HM.out.below HF4.out).only hon HMO.out.1)
      have HTW : Hid (TabW wr) := Lib.hid ((HT.out.below HF4.out).only hon fun i hi => (HK.out.lies i hi).2)
      have HLW := Lib.hid (own_only HLO4.out hon fun g hg h => by have h1 := HFl.out g h; have h2 := (HLO.out.lt g hg).1; have h3 := Below.size HF1.out; omega)
      have hb0 := hBW.cell
      have o0 := hOW.cell
      obtain ⟨e0, e1, e2, e3, e4, e5⟩ := HMW.out.cells
      clear hk hon hBW hOW
      by_cases hin : i < nl
      · obtain ⟨y, hy⟩ : ∃ y, l[i]? = some y := ⟨_, List.getElem?_eq_getElem (by rw [HNL.out]; exact hin)⟩
        obtain ⟨g, cg, hE, _, _⟩ := own_pos HLW.out (by omega)
        injection hE with hE1 hE2 hE3
        subst hE1
        clear hE2 hE3
        have x0 : wr.cell? ⟨g, i, none⟩ = some (.string ⟨y.toArray⟩) := by
          have := HLW.out.cells (g := g) rfl i (.string ⟨y.toArray⟩) (by rw [List.getElem?_map, hy]; rfl)
          rwa [Addr.add_lit, Nat.zero_add] at this
        have HY := Lib.hid hy
        obtain ⟨X, hX⟩ : ∃ X : ByteArray, (⟨y.toArray⟩ : ByteArray) = X := ⟨_, rfl⟩
        have hXO : (X.toList == O.toList) = decide (y = ownM num) := by rw [← hX, ← HO.out, Bool.eq_iff_iff]; simp [ByteArray.toList_eq]
        have HXO := Lib.hid hXO
        have HXX := Lib.hid hX
        rw [hX] at x0
        clear hy hX hXO
        have HSK : Hid (junkM (ownM num) y = false → ∀ t : Value, t = .int .i64 ((i : Int) + 1) → ∃ i : Nat, i ≤ nl ∧ t = .int .i64 i ∧ DkC wr F p (dn + i) (sweptI D (ownM num) (l.take i)) ∧ Only F wc wr) := Lib.hid fun hj t ht => ⟨i + 1, by omega, by rw [ht]; rfl, by rw [sweptI_skip HY.out hj]; exact HKW.out.mono (by omega), HOF.out⟩
        by_cases h1 : y = ownM num
        · have hb : (X.toList == O.toList) = true := by rw [HXO.out]; exact decide_eq_true h1
          have HJ : Hid (junkM (ownM num) y = false) := Lib.hid (by unfold junkM; rw [decide_eq_false (by simpa using h1)]; rfl)
          clear h1
          go_wp2_with (fail)
          exact ⟨HSK.out HJ.out _ rfl, by simp [intOf]; omega⟩
        · have hb : (X.toList == O.toList) = false := by rw [HXO.out]; exact decide_eq_false h1
          have HN1 := Lib.hid h1
          have hXl : X.toList = y := by rw [← HXX.out]; simp [ByteArray.toList_eq]
          have hXd : X.data.toList = y := by rw [← HXX.out]
          have hXs : X.size = y.length := by rw [← HXX.out, ba_size]
          have hym : ∃ cy, D y = some cy := by
            have := (HLM.out y).1 (List.mem_of_getElem? HY.out)
            exact Option.isSome_iff_exists.1 this
          obtain ⟨cy, hcy⟩ := hym
          have hyl : y.length ≤ 32 := nameB_len (HK.out.name hcy)
          have HCY : Hid (sweptI D (ownM num) (l.take i) y = some cy) := Lib.hid (by rw [sweptI_at HY.out HLS.out]; exact hcy)
          have HDE : Hid (∀ wx, fr wr wx → Calls Tryz.prog 62 #[.pointer (some ⟨p, 0, none⟩), .string X] wx fun r w' => r = .returned (.int .i64 0) ∧ DkC w' F p (dn + i + 1) (delD (sweptI D (ownM num) (l.take i)) y) ∧ Only F wx w') := Lib.hid fun wx hx => by
            rw [← HXX.out]
            exact cdelete (HKW.out.below hx) HCY.out (by omega)
          have HDL : Hid (junkM (ownM num) y = true → ∀ (t : Value) (wx wy : World), fr wr wx → Only F wx wy → DkC wy F p (dn + i + 1) (delD (sweptI D (ownM num) (l.take i)) y) → t = .int .i64 ((i : Int) + 1) → ∃ i : Nat, i ≤ nl ∧ t = .int .i64 i ∧ DkC wy F p (dn + i) (sweptI D (ownM num) (l.take i)) ∧ Only F wc wy) := Lib.hid fun hj t wx wy hx hy2 hd ht => ⟨i + 1, by omega, by rw [ht]; rfl, by rw [sweptI_del HY.out hj]; exact hd, (HOF.out.trans (Only.of_below hx)).trans hy2⟩
          by_cases h2 : y = freshW
          · have HJ : Hid (junkM (ownM num) y = true) := Lib.hid (by unfold junkM; rw [decide_eq_true h2, decide_eq_true (by simpa using HN1.out)]; rfl)
            have hfr : (X.toList == [99, 117, 114, 114, 101, 110, 116, 46, 116, 109, 112]) = true := by rw [hXl, h2]; rfl
            clear h1 h2 hXl hXd hXs hcy hyl
            go_wp2_with (go_at_call 62; refine (HDE.out _ fr.refl).mono ?_; rintro r w5 ⟨rfl, hk5, ho5⟩)
            exact ⟨HDL.out HJ.out _ _ _ fr.refl ho5 hk5 rfl, by simp [intOf]; omega⟩
          · have hfr : (X.toList == [99, 117, 114, 114, 101, 110, 116, 46, 116, 109, 112]) = false := by rw [hXl, beq_eq_false_iff_ne]; exact h2
            have HPF : Hid (Calls Tryz.prog 132 #[.string X, .string ⟨#[109]⟩] wr fun r w' => r = .returned (.bool (preM.isPrefixOf y)) ∧ w' = wr) := Lib.hid (by
              have := Tryz.strings_HasPrefix X ⟨#[109]⟩ wr
              rw [hXd] at this
              exact this)
            have HSF : Hid (Calls Tryz.prog 133 #[.string X, .string ⟨#[46, 108, 111, 103]⟩] wr fun r w' => r = .returned (.bool (sufW.isSuffixOf y)) ∧ w' = wr) := Lib.hid (by
              have := Tryz.strings_HasSuffix X ⟨#[46, 108, 111, 103]⟩ wr (by omega)
              rw [hXd] at this
              exact this)
            have HJJ : Hid (junkM (ownM num) y = (preM.isPrefixOf y && sufW.isSuffixOf y && decide (y.length = 11))) := Lib.hid (by unfold junkM; rw [decide_eq_false h2, decide_eq_true (by simpa using HN1.out)]; rfl)
            obtain ⟨q, hq⟩ : ∃ q, y.length = q := ⟨_, rfl⟩
            rw [hq] at HJJ hXs
            clear h1 h2 hXl hXd hcy hyl hq
            obtain ⟨b1, hb1⟩ : ∃ b, preM.isPrefixOf y = b := ⟨_, rfl⟩
            obtain ⟨b2, hb2⟩ : ∃ b, sufW.isSuffixOf y = b := ⟨_, rfl⟩
            rw [hb1] at HPF HJJ
            rw [hb2] at HSF HJJ
            clear hb1 hb2
            have HFI : Hid (Calls Tryz.prog 84 #[.int .i64 1] wr fun r w' => ∃ Y : ByteArray, r = .returned (.string Y) ∧ Y.size = 11 ∧ fr wr w') := Lib.hid (by
              refine (mfile_any 1 wr HTW.out (by omega)).mono ?_
              rintro r w' ⟨rfl, hf⟩
              exact ⟨_, rfl, by rw [ba_size, nameM_len], hf⟩)
            cases b1 with
            | false =>
              have HJ : Hid (junkM (ownM num) y = false) := Lib.hid (by rw [HJJ.out]; rfl)
              go_wp2_with (go_at_call 132; refine HPF.out.mono ?_; rintro r w5 ⟨rfl, rfl⟩)
              exact ⟨HSK.out HJ.out _ rfl, by simp [intOf]; omega⟩
            | true =>
              cases b2 with
              | false =>
                have HJ : Hid (junkM (ownM num) y = false) := Lib.hid (by rw [HJJ.out]; rfl)
                go_wp2_with (first | (go_at_call 132; refine HPF.out.mono ?_; rintro r w5 ⟨rfl, rfl⟩) | (go_at_call 133; refine HSF.out.mono ?_; rintro r w5 ⟨rfl, rfl⟩))
                exact ⟨HSK.out HJ.out _ rfl, by simp [intOf]; omega⟩
              | true =>
                by_cases hq11 : q = 11
                · have HJ : Hid (junkM (ownM num) y = true) := Lib.hid (by rw [HJJ.out, decide_eq_true hq11]; rfl)
                  have hq12 : ((q : Int) == 11) = true := by simp; omega
                  subst hq11
                  go_wp2_with (first | (go_at_call 132; refine HPF.out.mono ?_; rintro r w5 ⟨rfl, rfl⟩) | (go_at_call 133; refine HSF.out.mono ?_; rintro r w5 ⟨rfl, rfl⟩) | (go_at_call 84; refine HFI.out.mono ?_; rintro r w5 ⟨Y, rfl, hY, f5⟩; have g0 := f5.cell hb0; have g1 := f5.cell e0) | (go_at_call 62; refine (HDE.out _ f5).mono ?_; rintro r w6 ⟨rfl, hk6, ho6⟩))
                  exact ⟨HDL.out HJ.out _ _ _ f5 ho6 hk6 rfl, by simp [intOf]; omega⟩
                · have HJ : Hid (junkM (ownM num) y = false) := Lib.hid (by rw [HJJ.out, decide_eq_false hq11]; rfl)
                  have hq12 : ((q : Int) == 11) = false := by simp; omega
                  go_wp2_with (first | (go_at_call 132; refine HPF.out.mono ?_; rintro r w5 ⟨rfl, rfl⟩) | (go_at_call 133; refine HSF.out.mono ?_; rintro r w5 ⟨rfl, rfl⟩) | (go_at_call 84; refine HFI.out.mono ?_; rintro r w5 ⟨Y, rfl, hY, f5⟩))
                  obtain ⟨i2, j1, j2, j3, j4⟩ := HSK.out HJ.out _ rfl
                  exact ⟨⟨i2, j1, j2, j3.below f5, j4.trans (Only.of_below f5)⟩, by simp [intOf]; omega⟩
      · obtain rfl : i = nl := by omega
        rw [List.take_of_length_le (by rw [HNL.out]; exact Nat.le_refl _), sweptI_all HLM.out] at HKW
        have yz := frozen_of_row _ _ 5 _ _ HMW.out
        clear hin hi HLW HLO4
        have hrn : Hid (ManR (wr.setCell ⟨M, 5, none⟩ (.int .i64 ((num : Int) + 1))) M p (.slice Ax nv cx) v (num + 1)) := Lib.hid (heap_setCell_same wr M 5 _ _ _ HMW.out)
        have hon5 : Only (fun i => i = M) wr (wr.setCell ⟨M, 5, none⟩ (.int .i64 ((num : Int) + 1))) := only_set wr M 5 _
        go_upto_region 16 with (fail)
        have hlt5 : wr.heap.size = (wr.setCell ⟨M, 5, none⟩ (.int .i64 ((num : Int) + 1))).heap.size := by simp [World.setCell]
        generalize wr.setCell ⟨M, 5, none⟩ (.int .i64 ((num : Int) + 1)) = w5 at hrn hon5 hlt5 ⊢
        have hMz : M < w.heap.size := HM.out.lt
        have HK5 := Lib.hid (HKW.out.only hon5 fun i h hf => HMO.out.1 (h ▸ hf))
        have HB5 := Lib.hid (boxedOnly HBW.out hon5 fun h => by have := HZ.out; omega)
        have HO5 := Lib.hid (boxedOnly HOW.out hon5 fun h => by omega)
        have HT5 : Hid (TabW w5) := Lib.hid (HTW.out.only hon5 fun i h => by have := HMO.out.2; omega)
        have HON5 : Hid (Only (fun i => F i ∨ i = M) w w5) := Lib.hid ((Only.of_below HF4.out).trans ((HOF.out.mono fun i h => .inl h).trans (hon5.mono fun i h => .inr h)))
        have HX5 := Lib.hid (TabsV.only HX.out HON5.out fun i h => by intro h2; exact h2.elim h.1 h.2)
        clear HMW HBW HOW HTW HKW hon5 hb0 o0 e0 e1 e2 e3 e4 e5 yz
        obtain ⟨g, o, hgo⟩ : ∃ g o, 0 < nv → Ax = some ⟨g, o, none⟩ := by
          rcases Nat.eq_zero_or_pos nv with h0 | h0
          · exact ⟨0, 0, fun h => by omega⟩
          · obtain ⟨t0, ht0⟩ : ∃ t, v.tabs[0]? = some t := ⟨_, List.getElem?_eq_getElem (by rw [HNV.out]; exact h0)⟩
            obtain ⟨b, o, cs, rfl, _⟩ := Rows.at_ tbFine HX5.out ht0
            exact ⟨b, o, fun _ => rfl⟩
        have HGO := Lib.hid hgo
        have hvb : nv ≤ cx ∧ cx ≤ 9223372036854775807 ∧ nv ≤ 999999 := by
          have h9 := HVER.out.few
          obtain ⟨A', c', css, hE, h1, h2, _⟩ := HX5.out
          injection hE with _ hE2 hE3
          rw [HNV.out] at h9 h1
          omega
        obtain ⟨m, hm⟩ : ∃ m, chunksN nv = m := ⟨_, rfl⟩
        have hmb : m ≤ 977 := by rw [← hm]; unfold chunksN; omega
        have HSP := Lib.hid (split_any Ax g o nv cx m v.lg v.sq v.nx w5 hgo hvb.2.2 hvb.1 hvb.2.1 hm.symm)
        have HMM := Lib.hid hm
        have hb0 := HB5.out.cell
        obtain ⟨e0, e1, e2, e3, e4, e5⟩ := hrn.out.cells
        clear hgo hm hvb
        go_wp2_with (go_at_call 134; refine HSP.out.mono ?_; rintro r w6 ⟨A6, c6, rfl, ho6, f6⟩)
        have HO6 := Lib.hid ho6
        have hlo6 := Below.size f6
        have HR6 := Lib.hid (hrn.out.below f6)
        have HK6 := Lib.hid (HK5.out.below f6)
        have HB6 := Lib.hid (boxedFr HB5.out f6)
        have HOB6 := Lib.hid (boxedFr HO5.out f6)
        have HT6 := Lib.hid (HT5.out.below f6)
        have HX6 := Lib.hid (HX5.out.below tbFine f6)
        have HON6 := Lib.hid (HON5.out.trans (Only.of_below f6))
        have HSW : Hid (sweptD D (ownM num) (nameM (num + 1)) = none) := Lib.hid (swept_new hnum)
        obtain ⟨g6, cg6, hE6, hg6a, hg6b, _⟩ := own_pos HO6.out (Nat.succ_pos m)
        injection hE6 with hE1 hE2 hE3
        subst hE1
        clear hE2 hE3 ho6 f6 hb0 e0 e1 e2 e3 e4 e5 hrn
        have HCH := Lib.hid (split_ok HVER.out (by have := HVER.out.few; omega) HSORT.out)
        have HEOK := Lib.hid HCH.out.ok
        have hz6 : z < w6.heap.size ∧ zo < w6.heap.size := ⟨HB6.out.lt, HOB6.out.lt⟩
        have HF6 : Hid (∀ i, F i → i < w.heap.size) := Lib.hid fun i hi => (HK.out.lies i hi).1
        obtain ⟨lo, hlo⟩ : ∃ q, w6.heap.size = q := ⟨_, rfl⟩
        rw [hlo] at hg6b hz6 hlo6
        have HLO6 := Lib.hid hlo
        have hwz : w.heap.size ≤ w5.heap.size := HON5.out.size
        clear hlo
        go_loopw [88] (fun t wr => ∃ (j : Nat) (F' : Nat → Prop), j ≤ m + 1 ∧ t = .int .i64 j ∧ Spread lo F F' ∧ DkC wr F' p (dn + i + j) (begD (sweptD D (ownM num)) (nameM (num + 1)) (splitL v) j) ∧ Only F w6 wr) (fun t _ => m + 1 - (intOf t).toNat)
        case atStart => exact ⟨0, F, Nat.zero_le _, rfl, Spread.refl _ _, HK6.out, Only.refl _ _⟩
        case round =>
          obtain ⟨j, F', hj, rfl, hsp, hk, hon⟩ := hrel
          have HSPR := Lib.hid hsp
          have HKR := Lib.hid hk
          have HONR := Lib.hid hon
          have HRR := Lib.hid (HR6.out.only hon HMO.out.1)
          have HBR := Lib.hid (boxedOnly HB6.out hon fun h => by have := HF6.out z h; have := HZ.out; omega)
          have HOR := Lib.hid (boxedOnly HOB6.out hon fun h => by have := HF6.out zo h; omega)
          have HTR : Hid (TabW wr) := Lib.hid (HT6.out.only hon fun i hi => (HK.out.lies i hi).2)
          have HXR := Lib.hid (TabsV.only HX6.out hon fun i h => h.1)
          have HER := Lib.hid (own_only HO6.out hon fun q hq h => by have h1 := HF6.out q h; have h2 := (HO6.out.lt q hq).1; omega)
          clear hsp hk hon
          by_cases hjm : j < m + 1
          · obtain ⟨Aj, nj, cj, ej, s1, s2, s3, s4, s5, s6⟩ := split_at (j := j) HXR.out HNV.out HGO.out (by rw [HMM.out]; omega)
            have hcell : ∀ q u, q < 4 → (edC (.slice Aj nj cj) v.lg v.sq)[q]? = some u → wr.cell? ⟨g6, j * 4 + q, none⟩ = some u := fun q u hq hu => by
              have h1 := splC_at g o nv v.lg v.sq m j (by omega) q hq
              rw [s6] at h1
              rw [hu] at h1
              have := HER.out.cells (g := g6) rfl (j * 4 + q) u h1
              rwa [Addr.add_lit, Nat.zero_add] at this
            have x0 : wr.cell? ⟨g6, j * 4, none⟩ = some (.slice Aj nj cj) := hcell 0 _ (by omega) rfl
            have x1 : wr.cell? ⟨g6, j * 4 + 1, none⟩ = some (.slice none 0 0) := hcell 1 _ (by omega) rfl
            have x2 : wr.cell? ⟨g6, j * 4 + 2, none⟩ = some (.int .i64 v.lg) := hcell 2 _ (by omega) rfl
            have x3 : wr.cell? ⟨g6, j * 4 + 3, none⟩ = some (.int .i64 v.sq) := hcell 3 _ (by omega) rfl
            have hlj : (splitL v)[j]? = some (ej, v.nx) := by unfold splitL; rw [List.getElem?_map, s1]; rfl
            have HSTEP := Lib.hid (begD_step (D := sweptD D (ownM num)) HSW.out hlj)
            have HLEN := Lib.hid (begD_len (D := sweptD D (ownM num)) (l := splitL v) j HSW.out HEOK.out)
            have hsl : (splitL v).length ≤ 978 := by unfold splitL; rw [List.length_map, splitE_len, HNV.out, HMM.out]; omega
            have HPUT : Hid (∀ wx, fr wr wx → Calls Tryz.prog 83 #[.pointer (some ⟨M, 0, none⟩), .agg #[.slice Aj nj cj, .slice none 0 0, .int .i64 v.lg, .int .i64 v.sq], .int .i64 v.nx] wx fun r w' => r = .returned (.int .i64 0) ∧ (∃ F2, Spread wx.heap.size F' F2 ∧ DkC w' F2 p (dn + i + j + 1) (begD (sweptD D (ownM num)) (nameM (num + 1)) (splitL v) (j + 1))) ∧ Only F' wx w') := Lib.hid fun wx hx => by
              have := mput_any (fun _ => True) F' M p (num + 1) (dn + i + j) _ (.slice Ax nv cx) (.slice Aj nj cj) (.slice none 0 0) v ej v.nx wx (HRR.out.below hx) (HKR.out.below hx) (HTR.out.below hx) ((Rows.keep tbFine s5 fun _ _ _ _ hr => hr.mono fun _ _ => trivial).below tbFine hx) (by rw [s2]; exact IntsIn.nil _ _) (HEOK.out _ (List.mem_of_getElem? hlj)) hnum (by omega) (Nat.le_trans HLEN.out (by omega))
              rw [s3, s4, HSTEP.out] at this
              exact this
            clear s1 s2 s3 s4 s5 s6 hcell hlj
            have hwl : lo ≤ wr.heap.size := by have := HONR.out.size; have := HLO6.out; omega
            go_upto_region 19 with (fail)
            have pT := heap_alloc_new wr (.cells #[.slice Aj nj cj, .slice none 0 0, .int .i64 v.lg, .int .i64 v.sq] 45)
            have hf7 : fr wr (wr.alloc (.cells #[.slice Aj nj cj, .slice none 0 0, .int .i64 v.lg, .int .i64 v.sq] 45)) := fr.alloc fr.refl _
            obtain ⟨zb, hzb⟩ : ∃ q, wr.heap.size = q := ⟨_, rfl⟩
            rw [hzb] at pT ⊢
            generalize wr.alloc (.cells #[.slice Aj nj cj, .slice none 0 0, .int .i64 v.lg, .int .i64 v.sq] 45) = w7 at pT hf7 ⊢
            have HF7 := Lib.hid hf7
            have t0 := cell_of_row _ _ 0 _ _ _ pT
            have t1 := cell_of_row _ _ 1 _ _ _ pT
            have t2 := cell_of_row _ _ 2 _ _ _ pT
            have t3 := cell_of_row _ _ 3 _ _ _ pT
            have hb0 := (boxedFr HBR.out hf7).cell
            have e4 : w7.cell? ⟨M, 4, none⟩ = some (.int .i64 v.nx) := (HRR.out.below hf7).cells.2.2.2.2.1
            have qb := fun q : Ext w7 => q.cell hb0
            have q4 := fun q : Ext w7 => q.cell e4
            have r0 := fun q : Ext w7 => q.cell t0
            have r1 := fun q : Ext w7 => q.cell t1
            have r2 := fun q : Ext w7 => q.cell t2
            have r3 := fun q : Ext w7 => q.cell t3
            clear pT hf7 hzb x0 x1 x2 x3
            (refine wp_region_ext_tail 7 (by kernel_rfl) (by kernel_rfl) ?_; simp only [List.take_succ_cons, List.take_zero, List.drop_succ_cons, List.drop_zero]; (repeat (go_big_quiet_step (fail))); refine wpQuiet_nil ?_; intro wq hw'; obtain ⟨⟨_, hq⟩, hw''⟩ := hw'; subst hw'')
            clear qb q4 r0 r1 r2 r3 t0 t1 t2 t3 hb0 e4
            go_wp2_with (go_at_call 83; refine (HPUT.out _ (fr.step HF7.out hq)).mono ?_; rintro r w8 ⟨rfl, ⟨F2, hsp2, hk2⟩, hon2⟩)
            have hsq := Below.size (fr.step HF7.out hq)
            exact ⟨⟨j + 1, F2, by omega, by go_num, HSPR.out.trans hsp2 (by omega), hk2, (HONR.out.trans (Only.of_below (fr.step HF7.out hq))).fresh hon2 fun q h => (HSPR.out q h).imp id fun h => by have := HLO6.out; omega⟩, by simp [intOf]; omega⟩
          · obtain rfl : j = m + 1 := by omega
            have hB1 : begD (sweptD D (ownM num)) (nameM (num + 1)) (splitL v) (m + 1) = putD (sweptD D (ownM num)) (nameM (num + 1)) (frB (recsM (splitL v))) := by
              unfold begD
              rw [if_neg (Nat.succ_ne_zero m), List.take_of_length_le (by unfold splitL; rw [List.length_map, splitE_len, HNV.out, HMM.out]; exact Nat.le_refl _)]
            rw [hB1] at HKR
            clear hB1 hjm hj
            have HFB : Hid (∀ i, F' i → i < wr.heap.size) := Lib.hid fun i hi => (HKR.out.lies i hi).1
            have hz1 := HBR.out.lt
            have hz2 := HOR.out.lt
            have o0 := HOR.out.cell
            have lit := World.ownsRow_lit (base := wr.heap.size) (e := 41) (size := 1) wr #[.func (.func 135) #[] #[.pointer (some ⟨z, 0, none⟩)], .func (.func 136) #[] #[.pointer (some ⟨z, 0, none⟩)], .func (.func 137) #[] #[.pointer (some ⟨z, 0, none⟩)], .func (.func 138) #[] #[.pointer (some ⟨z, 0, none⟩)]] 4 (Nat.le_refl _) (by unfold maxLen; omega) (by simp)
            go_upto_region 26 with (fail)
            have hf9 : fr wr (wr.alloc (.cells #[.func (.func 135) #[] #[.pointer (some ⟨z, 0, none⟩)], .func (.func 136) #[] #[.pointer (some ⟨z, 0, none⟩)], .func (.func 137) #[] #[.pointer (some ⟨z, 0, none⟩)], .func (.func 138) #[] #[.pointer (some ⟨z, 0, none⟩)]] 41)) := fr.alloc fr.refl _
            obtain ⟨lo9, hlo9⟩ : ∃ q, wr.heap.size = q := ⟨_, rfl⟩
            rw [hlo9] at lit HFB hz1 hz2 ⊢
            have HLO9 := Lib.hid hlo9
            generalize wr.alloc (.cells #[.func (.func 135) #[] #[.pointer (some ⟨z, 0, none⟩)], .func (.func 136) #[] #[.pointer (some ⟨z, 0, none⟩)], .func (.func 137) #[] #[.pointer (some ⟨z, 0, none⟩)], .func (.func 138) #[] #[.pointer (some ⟨z, 0, none⟩)]] 41) = w9 at lit hf9 ⊢
            have HLIT := Lib.hid lit
            have HF9 := Lib.hid hf9
            have o1 := hf9.cell o0
            clear lit hlo9 o0
            go_upto_if 122 with (fail)
            go_cut [12] (fun s wc => ∃ gs cs, s = .slice (some ⟨gs, 0, none⟩) (if num = 0 then 4 else 5) cs ∧ wc.ownsRow lo9 41 1 s (if num = 0 then 4 else 5) (stepsL z zo num) ∧ fr wr wc)
            case first =>
              have hemp : (!O.toList.isEmpty) = decide (0 < num) := by
                have hl : O.toList = ownM num := by rw [← HO.out]; simp [ByteArray.toList_eq]
                rw [hl]
                unfold ownM
                by_cases hn0 : num = 0
                · rw [if_pos hn0, hn0]; rfl
                · rw [if_neg hn0, decide_eq_true (by omega)]; rfl
              have HEMP := Lib.hid hemp
              obtain ⟨iF, hiF, hzF0, hzF1, hzF2⟩ := info_parts infoFn
              have hal : fr w9 (w9.alloc (.cells #[.func (.func 139) #[] #[.pointer (some ⟨z, 0, none⟩), .pointer (some ⟨zo, 0, none⟩)]] 41)) := fr.alloc fr.refl _
              have hz9 : lo9 ≤ (w9.alloc (.cells #[.func (.func 139) #[] #[.pointer (some ⟨z, 0, none⟩), .pointer (some ⟨zo, 0, none⟩)]] 41)).heap.size := by have h1 := Below.size hf9; have h2 := HLO9.out; simp; omega
              clear hemp
              go_wp2_with (at_builtin; refine wpList_append_own_at _ rfl _ _ 132 rfl lo9 41 iF _ 1 8 Tryz.underlying132 hiF hzF0 hzF1 hzF2 rfl (by decide) _ _ _ rfl (HLIT.out.alloc _) ⟨w9.heap.size, 0, none⟩ 1 1 [.func (.func 139) #[] #[.pointer (some ⟨z, 0, none⟩), .pointer (some ⟨zo, 0, none⟩)]] rfl rfl (cell_one_new _ _ _) (by simp [Value.oneCell']) (by unfold maxLen; omega) (by omega) hz9 ?_; intro v' w11 hown' hgrow hnn hat; clear hnn; obtain ⟨g', cap', rfl⟩ := ownsRow_succ hown')
              · rename_i hq
                have hn0 : ¬ num = 0 := by
                  have := HEMP.out.symm.trans hq
                  have := of_decide_eq_true this
                  omega
                go_meet
                case rel =>
                  rw [if_neg hn0]
                  refine ⟨_, _, rfl, by unfold stepsL; rw [if_neg hn0]; exact hown', ?_⟩
                  have h1 : Only (fun i => lo9 ≤ i) wr w11 := ((Only.of_below HF9.out).trans (Only.of_below hal)).trans ((Only.of_grown hgrow).mono fun i h => (HLIT.out.lt i h).1)
                  exact h1.below (Nat.le_refl _) fun i h => by have := HLO9.out; omega
              · rename_i hq
                have hn0 : num = 0 := by
                  have := HEMP.out.symm.trans hq
                  have := of_decide_eq_false this
                  omega
                go_meet
                case rel => rw [if_pos hn0]; exact ⟨_, _, rfl, by unfold stepsL; rw [if_pos hn0, List.append_nil]; exact HLIT.out, HF9.out⟩
            case rest =>
              obtain ⟨gs, cs, rfl, hst, hfc⟩ := hcut
              have HST := Lib.hid hst
              have HFC := Lib.hid hfc
              obtain ⟨ns, hns⟩ : ∃ q, (if num = 0 then 4 else 5) = q := ⟨_, rfl⟩
              rw [hns] at HST ⊢
              have hns5 : ns ≤ 5 ∧ 4 ≤ ns ∧ (ns = 5 → 0 < num) := by rw [← hns]; split <;> omega
              have HNS := Lib.hid hns
              have HRC := Lib.hid (HRR.out.below hfc)
              have HKC := Lib.hid (HKR.out.below hfc)
              have HBC := Lib.hid (boxedFr HBR.out hfc)
              have HOC := Lib.hid (boxedFr HOR.out hfc)
              have HTC := Lib.hid (HTR.out.below hfc)
              have HXC := Lib.hid (HXR.out.below tbFine hfc)
              have hgs := HST.out.lt gs rfl
              obtain ⟨loC, hloC⟩ : ∃ q, wc.heap.size = q := ⟨_, rfl⟩
              rw [hloC] at hgs
              have HLOC := Lib.hid hloC
              have hlc : lo9 ≤ loC := by have h1 := Below.size hfc; have h2 := HLO9.out; omega
              have HZB : Hid (¬ F' z ∧ ¬ F' zo ∧ ¬ F' M) := Lib.hid ⟨fun h => (HSPR.out z h).elim (fun h => by have := HF6.out z h; have := HZ.out; omega) fun h => by omega, fun h => (HSPR.out zo h).elim (fun h => by have := HF6.out zo h; omega) fun h => by omega, fun h => (HSPR.out M h).elim HMO.out.1 fun h => by omega⟩
              clear hst hfc hns hloC HRR HBR HOR HTR HXR HER o1 hf9
              go_wp2_with (fail)
              go_loopw [129] (fun t wr => ∃ (q : Nat) (FC : Nat → Prop), q ≤ ns ∧ t = .int .i64 q ∧ Spread loC F' FC ∧ DkC wr FC p (dn + i + (m + 1) + q) (stepD (putD (sweptD D (ownM num)) (nameM (num + 1)) (frB (recsM (splitL v)))) num (Lib.itoa ((num + 1 : Nat) : Int)) q) ∧ Only F' wc wr) (fun t _ => ns - (intOf t).toNat)
              case atStart => exact ⟨0, F', Nat.zero_le _, rfl, Spread.refl _ _, HKC.out, Only.refl _ _⟩
              case round =>
                obtain ⟨q, FC, hi2, rfl, hsp, hk, hon⟩ := hrel
                have HSC := Lib.hid hsp
                have HKD := Lib.hid hk
                have HONC := Lib.hid hon
                have HRD := Lib.hid (HRC.out.only hon HZB.out.2.2)
                have HBD := Lib.hid (boxedOnly HBC.out hon HZB.out.1)
                have HOD := Lib.hid (boxedOnly HOC.out hon HZB.out.2.1)
                have HTD : Hid (TabW wr) := Lib.hid (HTC.out.only hon fun i hi => (HKC.out.lies i hi).2)
                have HSD := Lib.hid (own_only HST.out hon fun g hg h => by have h1 := HFB.out g h; have h2 := (HST.out.lt g hg).1; omega)
                have hwc2 : loC ≤ wr.heap.size := by have := hon.size; have := HLOC.out; omega
                clear hsp hk hon
                by_cases hqn : q < ns
                · have hcl : ∀ u, (stepsL z zo num)[q]? = some u → wr.cell? ⟨gs, q, none⟩ = some u := fun u hu => by
                    have := HSD.out.cells (g := gs) rfl q u hu
                    rwa [Addr.add_lit, Nat.zero_add] at this
                  rcases (by omega : q = 0 ∨ q = 1 ∨ q = 2 ∨ q = 3 ∨ q = 4) with rfl | rfl | rfl | rfl | rfl
                  · have x0 := hcl _ rfl
                    clear hi2 hcl
                    go_wp2_with ((first | go_at_call 135 | go_at_fn 135); refine (beg1_any HBD.out HRD.out HKD.out HTD.out hnum (putD_same _ _ _) (by omega)).mono ?_; rintro r w12 ⟨rfl, hk2, hon2⟩)
                    exact ⟨⟨1, FC, by omega, by go_num, HSC.out, hk2, HONC.out.fresh hon2 fun q h => (HSC.out q h).imp id fun h => by have := HLOC.out; omega⟩, by simp [intOf]; omega⟩
                  · have x0 := hcl _ rfl
                    clear hi2 hcl
                    go_wp2_with ((first | go_at_call 136 | go_at_fn 136); refine (beg2_any HBD.out HRD.out HKD.out HTD.out hnum (stepD_fresh _ _ _) (by omega)).mono ?_; rintro r w12 ⟨rfl, ⟨F2, hsp2, hk2⟩, hon2⟩)
                    exact ⟨⟨2, F2, by omega, by go_num, HSC.out.trans hsp2 hwc2, hk2, HONC.out.fresh hon2 fun q h => (HSC.out q h).imp id fun h => by have := HLOC.out; omega⟩, by simp [intOf]; omega⟩
                  · have x0 := hcl _ rfl
                    clear hi2 hcl
                    go_wp2_with ((first | go_at_call 137 | go_at_fn 137); refine (beg3_any HBD.out HRD.out HKD.out (putD_same _ _ _) (by omega)).mono ?_; rintro r w12 ⟨rfl, hk2, hon2⟩)
                    exact ⟨⟨3, FC, by omega, by go_num, HSC.out, hk2, HONC.out.fresh hon2 fun q h => (HSC.out q h).imp id fun h => by have := HLOC.out; omega⟩, by simp [intOf]; omega⟩
                  · have x0 := hcl _ rfl
                    clear hi2 hcl
                    go_wp2_with ((first | go_at_call 138 | go_at_fn 138); refine (beg4_any HBD.out HRD.out HKD.out (putD_same _ _ _) (by omega)).mono ?_; rintro r w12 ⟨rfl, hk2, hon2⟩)
                    exact ⟨⟨4, FC, by omega, by go_num, HSC.out, hk2, HONC.out.fresh hon2 fun q h => (HSC.out q h).imp id fun h => by have := HLOC.out; omega⟩, by simp [intOf]; omega⟩
                  · have hn0 : 0 < num := hns5.2.2 (by omega)
                    obtain ⟨co, hco⟩ := HOWN.out hn0
                    have hoo : O = ⟨(nameM num).toArray⟩ := by rw [← HO.out]; unfold ownM; rw [if_neg (by omega)]
                    have HOD2 : Hid (Boxed wr zo 9 (.string ⟨(nameM num).toArray⟩)) := Lib.hid (hoo ▸ HOD.out)
                    have HCO := Lib.hid (stepD_own (b := frB (recsM (splitL v))) (s := Lib.itoa ((num + 1 : Nat) : Int)) hn0 hnum hco)
                    have x0 := hcl (.func (.func 139) #[] #[.pointer (some ⟨z, 0, none⟩), .pointer (some ⟨zo, 0, none⟩)]) (by unfold stepsL; rw [if_neg (by omega)]; rfl)
                    clear hi2 hcl hoo hco
                    go_wp2_with ((first | go_at_call 139 | go_at_fn 139); refine (beg5_any HBD.out HOD2.out HRD.out HKD.out HCO.out (by omega)).mono ?_; rintro r w12 ⟨rfl, hk2, hon2⟩)
                    exact ⟨⟨5, FC, by omega, by go_num, HSC.out, hk2, HONC.out.fresh hon2 fun q h => (HSC.out q h).imp id fun h => by have := HLOC.out; omega⟩, by simp [intOf]; omega⟩
                · obtain rfl : q = ns := by omega
                  have hfin := begun_steps D num (frB (recsM (splitL v)))
                  rw [HNS.out] at hfin
                  have HEND := Lib.hid hfin
                  clear hfin hi2 hqn
                  go_wp2_with (fail)
                  go_ret
                  have hd0 := HKD.out
                  rw [HEND.out] at hd0
                  have hFCn : ∀ a, a < w.heap.size → ¬ F a → ¬ FC a := fun a ha hf h => (HSC.out a h).elim (fun h => (HSPR.out a h).elim hf fun h => by omega) fun h => by omega
                  have hxl : TabsV w (fun a => (¬ F a ∧ a ≠ M) ∧ a < w.heap.size) (.slice Ax nv cx) v.tabs := Rows.keep tbFine HX.out fun _ _ _ _ hr => hr.monoLt fun _ h1 h2 => ⟨h2, h1⟩
                  have honw : Only (fun a => F a ∨ a = M) w wr := ((((HON6.out.trans (HONR.out.mono fun _ h => .inl h)).trans (Only.of_below HFC.out))).fresh HONC.out fun a h => (HSPR.out a h).elim (fun h => .inl (.inl h)) fun h => .inr (by omega))
                  have hxw := TabsV.only hxl honw fun a h1 h2 => h2.elim h1.1.1 h1.1.2
                  refine ⟨rfl, ⟨FC, fun a h => (HSC.out a h).elim (fun h => (HSPR.out a h).imp id fun h => by omega) fun h => .inr (by omega), hd0.mono (by omega), ⟨hFCn M (by omega) HMO.out.1, HMO.out.2⟩, ⟨_, HRD.out, Rows.keep tbFine hxw fun _ _ _ _ hr => hr.mono fun a h => ⟨hFCn a h.2 h.1.1, h.1.2⟩⟩, ⟨begun_cur D num _, splitL v, ?_, ?_, begun_file D _ hnum, HCH.out⟩, HVER.out, by omega, hnum⟩, honw⟩
                  · unfold splitL splitE
                    simp
                  · unfold splitL
                    rw [List.length_map, splitE_len, HNV.out, HMM.out]
                    omega
end Go.Proofs.YtjnolpfmchnnmaaGreatDoor
end
