/-
slices.rotateCmpFunc over tables.
-/
import Derived.Test.YtjnolpfmchnnmaaGreatDoorQPOwnM10
import Derived.Test.YtjnolpfmchnnmaaGreatDoorQPOwnM3
import Derived.Test.YtjnolpfmchnnmaaGreatDoorQPOwnM4
import Derived.BigQuiet
import Derived.Test.YtjnolpfmchnnmaaGreatDoorQPOwnM6
section
namespace Go.Proofs.YtjnolpfmchnnmaaGreatDoor
set_option maxRecDepth 100000
open Go.RowKit Go.BigFrame Go.Sort Go.Shelf Go.Lib
attribute [local go_sem ↓] Go.wp_at_zero Go.wp_at_succ
def runV (v : Ver) (l : List (Edt × Int)) : Ver := l.foldl (fun v x => stepV v x.1 x.2) v
theorem runV_snoc (v : Ver) (l : List (Edt × Int)) (x : Edt × Int) : runV v (l ++ [x]) = stepV (runV v l) x.1 x.2 := by
  unfold runV
  rw [List.foldl_append]
  rfl
theorem chain_run {l : List (Edt × Int)} : ∀ {a b : Ver}, ChainOk a l b → runV a l = b := by
  induction l with
  | nil => intro a b h; exact h
  | cons x l ih => intro a b h; exact ih h.2
theorem chain_at {l : List (Edt × Int)} : ∀ {a b : Ver} {i : Nat} {x : Edt × Int}, ChainOk a l b → l[i]? = some x → StepOk (runV a (l.take i)) x.1 x.2 := by
  induction l with
  | nil => intro a b i x h hx; simp at hx
  | cons y l ih =>
    intro a b i x h hx
    cases i with
    | zero =>
      simp only [List.getElem?_cons_zero, Option.some.injEq] at hx
      subst hx
      exact h.1
    | succ i => exact ih h.2 hx
set_option maxRecDepth 100000 in
set_option maxHeartbeats 8000000 in
theorem mload_any (F : Nat → Prop) (M p num dn : Nat) (D : Nm → Option (List UInt8)) (l : List (Edt × Int)) (v : Ver) (w : World) (hm : ManR w M p (.slice none 0 0) ver0 num) (hM : ¬ F M ∧ tabG < M) (hk : DkC w F p dn D) (ht : TabW w) (hnum : num < 1000000)
    (hf : D (nameM num) = some (frB (recsM l))) (hch : ChainOk ver0 l v) (hl0 : l ≠ []) (hl1 : l.length ≤ 1000000) :
    Calls Tryz.prog 77 #[.pointer (some ⟨M, 0, none⟩)] w fun r w' => r = .returned (.int .i64 0) ∧ (∃ x, ManR w' M p x v num ∧ TabsV w' (fun i => w.heap.size ≤ i) x v.tabs) ∧ Only (fun i => i = M) w w' := by
  have hrl := recsM_len hch.ok
  have hre := recsM_each hch.ok
  obtain ⟨n, hn⟩ : ∃ n, (frB (recsM l)).length = n := ⟨_, rfl⟩
  have hn40 : n ≤ 1099511627776 := by
    rw [← hn]
    exact Nat.le_trans hrl (Nat.le_trans (Nat.mul_le_mul_right _ hl1) (by decide))
  have hn8 : 8 ≤ n := by
    rw [← hn]
    cases l with
    | nil => exact absurd rfl hl0
    | cons y l => exact frB_pos _ _
  obtain ⟨nl, hnl⟩ : ∃ q, l.length = q := ⟨_, rfl⟩
  have hnl0 : 0 < nl := by rw [← hnl]; exact List.length_pos_iff.2 hl0
  have hnl1 : nl ≤ 1000000 := by rw [← hnl]; exact hl1
  have HM := Lib.hid hm
  have HMO := Lib.hid hM
  have HK := Lib.hid hk
  have HT := Lib.hid ht
  have HF := Lib.hid hf
  have HCH := Lib.hid hch
  have HNN := Lib.hid hn
  have HNL := Lib.hid hnl
  have HRE := Lib.hid hre
  clear hm hM hk ht hf hch hl0 hl1 hrl hre hn hnl
  obtain ⟨e0, e1, e2, e3, e4, e5⟩ := HM.out.cells
  obtain ⟨X, hX⟩ : ∃ X : ByteArray, (⟨(nameM num).toArray⟩ : ByteArray) = X := ⟨_, rfl⟩
  have HFI : Hid (∀ wx, fr w wx → Calls Tryz.prog 84 #[.int .i64 num] wx fun r w' => r = .returned (.string X) ∧ Below wx.heap.size wx w') := Lib.hid fun wx hx => by
    rw [← hX]
    exact mfile_any num wx (HT.out.below hx) hnum
  have HRD : Hid (∀ wx, fr w wx → Calls Tryz.prog 64 #[.pointer (some ⟨p, 0, none⟩), .string X] wx fun r w' => ∃ b o c, r = .returned (.tuple #[.slice (some ⟨b, o, none⟩) n c, .int .i64 0]) ∧ BytL w' wx.heap.size (.slice (some ⟨b, o, none⟩) n c) (frB (recsM l)) ∧ fr wx w') := Lib.hid fun wx hx => by
    rw [← hX]
    refine (cread_some (HK.out.below hx) HF.out).mono ?_
    rintro r w' ⟨v', rfl, h1, h2⟩
    obtain ⟨A1, c1, rfl⟩ := slice_form h1
    obtain ⟨b1, o1, rfl⟩ := Byt.some_of h1 (by rw [HNN.out]; omega)
    rw [HNN.out] at h1 ⊢
    exact ⟨b1, o1, c1, rfl, h1, h2⟩
  have q0 := fun q : Ext w => q.cell e0
  have q5 := fun q : Ext w => q.cell e5
  clear hX e1 e2 e3 e4
  go_enter Tryz.func77, Tryz.ntmps77
  go_upto_region 1 with (fail)
  (refine wp_region_ext_mid 9 (by kernel_rfl) (by kernel_rfl) ?_; simp only [List.take_succ_cons, List.take_zero, List.drop_succ_cons, List.drop_zero]; (repeat (go_big_quiet_step ((go_at_call 84; exact Ext.calls (HFI.out _ (Ext.h _)))))); refine wpQuiet_nil ?_; intro wq hw'; obtain ⟨⟨_, hq⟩, hw''⟩ := hw'; subst hw''; intro Q2 hQ2; go_wp2_with (go_at_call 64; refine (HRD.out _ hq).mono ?_; rintro r w1 ⟨b, o, c, rfl, hby, f1⟩); (repeat (go_big_quiet_step (fail))); refine wpQuiet_nil ?_)
  have HF1 := Lib.hid (fr.step hq f1)
  clear hq f1 q0 q5 e0 e5 HFI HRD
  have HAL := Lib.hid (all_ok _ b o n c (recsM l) w1 hby.byt HNN.out hn40 HRE.out)
  clear hby
  go_upto_region 7 with (go_at_call 66; refine HAL.out.mono ?_; rintro r w2 ⟨lv, gg, rfl, hlo, f2⟩)
  have hrl : (recsM l).length = nl := by unfold recsM; rw [List.length_map]; exact HNL.out
  obtain ⟨Al, cl, rfl⟩ : ∃ A c, lv = .slice A nl c := by obtain ⟨css, h1, _⟩ := hlo; rw [hrl] at h1; exact own_form h1
  have HBV := Lib.hid (OwnRows.rows (bytes := 24) bvFine hlo (by rw [hrl]; omega))
  have HF2 := Lib.hid (fr.step HF1.out f2)
  have HRL := Lib.hid hrl
  clear hlo f2 hrl
  go_wp2_with (fail)
  go_loopw [41] (fun t wr => ∃ (i : Nat) (x : Value), i ≤ nl ∧ t = .int .i64 i ∧ ManR wr M p x (runV ver0 (l.take i)) num ∧ TabsV wr (fun a => w.heap.size ≤ a) x (runV ver0 (l.take i)).tabs ∧ Only (fun a => a = M) w2 wr) (fun t _ => nl - (intOf t).toNat)
  case atStart => exact ⟨0, _, Nat.zero_le _, rfl, HM.out.below HF2.out, ⟨none, 0, [], rfl, by simp [runV, ver0], by simp, by simp [runV, ver0], Row.nil _ _ _ _, .nil⟩, Only.refl _ _⟩
  case round =>
    obtain ⟨i, x, hi, rfl, hm, hx, hon⟩ := hrel
    by_cases hin : i < nl
    · obtain ⟨⟨e, nx⟩, hli⟩ : ∃ y, l[i]? = some y := ⟨_, List.getElem?_eq_getElem (by rw [HNL.out]; exact hin)⟩
      have hst := chain_at HCH.out hli
      obtain ⟨vi, hvi⟩ : ∃ q, runV ver0 (l.take i) = q := ⟨_, rfl⟩
      rw [hvi] at hm hx hst
      have HVI := Lib.hid hvi
      have HLI := Lib.hid hli
      have HST := Lib.hid hst
      obtain ⟨Ax, cx, rfl⟩ := hx.form
      obtain ⟨nv, hnv⟩ : ∃ q, vi.tabs.length = q := ⟨_, rfl⟩
      rw [hnv] at hm hx
      have HMR := Lib.hid hm
      have HXR := Lib.hid hx
      have HONR := Lib.hid hon
      have hri : (recsM l)[i]? = some (editF e nx) := by unfold recsM; rw [List.getElem?_map, hli]; rfl
      obtain ⟨b', o', cs', hE, hblt, _, ⟨va, rfl, hva⟩, hc⟩ := Rows.at_ bvFine (Rows.keep (S' := fun a => w1.heap.size ≤ a ∧ a < w2.heap.size) bvFine HBV.out fun _ _ _ _ hr => hr.only hon fun a _ hs h => by have h1 := Below.size HF1.out; have h2 := HM.out.lt; have h3 := hs.1; omega) hri
      subst hE
      obtain ⟨Ab, cb, rfl⟩ := slice_form hva
      have x0 : wr.cell? ⟨b', o' + i, none⟩ = some (.slice Ab (editF e nx).length cb) := by simpa using hc 0 _ rfl
      obtain ⟨na, hna⟩ : ∃ q, e.add.length = q := ⟨_, rfl⟩
      obtain ⟨nd, hnd⟩ : ∃ q, e.drop.length = q := ⟨_, rfl⟩
      obtain ⟨nb, hnb⟩ : ∃ q, (editF e nx).length = q := ⟨_, rfl⟩
      rw [hnb] at hva x0
      have hwz : w.heap.size ≤ wr.heap.size := by have := hon.size; have := Below.size HF2.out; omega
      have HREAD : Hid (Calls Tryz.prog 131 #[.slice Ab nb cb] wr fun r w' => ∃ Aa ca Ad cd, r = .returned (.tuple #[.agg #[.slice Aa na ca, .slice Ad nd cd, .int .i64 e.lg, .int .i64 e.sq], .int .i64 nx, .bool true]) ∧ TabsV w' (fun _ => True) (.slice Aa na ca) e.add ∧ IntsIn w' (fun _ => True) (.slice Ad nd cd) e.drop ∧ fr wr w') := Lib.hid (by
        refine (mread_any _ _ e nx wr hva hst.ok).mono ?_
        rintro r w' ⟨ax, dx, rfl, h1, h2, h3⟩
        obtain ⟨Aa, ca, rfl⟩ : ∃ A c, ax = .slice A na c := by obtain ⟨css, h4, _⟩ := h1; rw [hna] at h4; exact own_form h4
        obtain ⟨Ad, cd, rfl⟩ : ∃ A c, dx = .slice A nd c := by obtain ⟨A, c, h4, _⟩ := h2; rw [hnd] at h4; exact ⟨A, c, h4⟩
        exact ⟨Aa, ca, Ad, cd, rfl, Rows.keep tbFine (OwnRows.rows (bytes := 72) tbFine h1 (by have h5 : e.add.length ≤ 1024 := hst.ok.fewA; omega)) fun _ _ _ _ hr => hr.mono fun _ _ => trivial, h2.mono fun _ _ => trivial, h3⟩)
      have HLW := Lib.hid hwz
      have HMlt := Lib.hid (show M < wr.heap.size from hm.lt)
      clear hm hx hon hvi hli hst hnv hri hc hva hna hnd hnb hblt
      go_upto_region 13 with (go_at_call 131; refine HREAD.out.mono ?_; rintro r w5 ⟨Aa, ca, Ad, cd, rfl, hta, hid, f5⟩)
      have b0 := heap_alloc_new w5 (.cells #[.slice Aa na ca, .slice Ad nd cd, .int .i64 e.lg, .int .i64 e.sq] 45)
      have hf6 : fr w5 (w5.alloc (.cells #[.slice Aa na ca, .slice Ad nd cd, .int .i64 e.lg, .int .i64 e.sq] 45)) := fr.alloc fr.refl _
      obtain ⟨z, hz⟩ : ∃ q, w5.heap.size = q := ⟨_, rfl⟩
      rw [hz] at b0 ⊢
      generalize w5.alloc (.cells #[.slice Aa na ca, .slice Ad nd cd, .int .i64 e.lg, .int .i64 e.sq] 45) = w1 at b0 hf6 ⊢
      have HW1 := Lib.hid (fr.step f5 hf6)
      have HM1 := Lib.hid (HMR.out.below (fr.step f5 hf6))
      have HLW : Hid (w.heap.size ≤ w1.heap.size) := Lib.hid (Nat.le_trans HLW.out (Below.size (fr.step f5 hf6)))
      have HMlt : Hid (M < w1.heap.size) := Lib.hid HM1.out.lt
      have hta1 := Rows.below tbFine hta hf6
      have hid1 := hid.below hf6
      have hx1 : TabsV w1 (fun _ => True) (.slice Ax nv cx) vi.tabs := (Rows.keep tbFine HXR.out fun _ _ _ _ hr => hr.mono fun _ _ => trivial).below tbFine (fr.step f5 hf6)
      obtain ⟨n2, hn2⟩ : ∃ n, (sortTb (foldT vi e)).length = n := ⟨_, rfl⟩
      obtain ⟨nx2, hnx2⟩ : ∃ q, foldN vi e = q := ⟨_, rfl⟩
      have HF0 : Hid (∀ wx, fr w1 wx → Calls Tryz.prog 74 #[.agg #[.slice Ax nv cx, .int .i64 vi.lg, .int .i64 vi.sq, .int .i64 vi.nx], .agg #[.slice Aa na ca, .slice Ad nd cd, .int .i64 e.lg, .int .i64 e.sq]] wx fun r w' => ∃ A2 k2, r = .returned (.tuple #[.agg #[.slice A2 n2 k2, .int .i64 e.lg, .int .i64 e.sq, .int .i64 nx2], .int .i64 0]) ∧ OwnTabs w' wx.heap.size (.slice A2 n2 k2) (sortTb (foldT vi e)) ∧ fr wx w') := Lib.hid fun wx hxx => by
        refine (fold_any sortTb (fun _ => True) (.slice Ax nv cx) (.slice Aa na ca) (.slice Ad nd cd) vi e wx (hx1.below tbFine hxx) (hta1.below tbFine hxx) (hid1.below hxx) HST.out.nd HST.out.few HST.out.srt).mono ?_
        rintro r w' ⟨R, rfl, hR, hf⟩
        rw [if_pos HST.out.fold] at hR
        obtain ⟨x2, rfl, ho⟩ := hR
        obtain ⟨A2, k2, rfl⟩ : ∃ A c, x2 = .slice A n2 c := by obtain ⟨css, h1, _⟩ := ho; rw [hn2] at h1; exact own_form h1
        exact ⟨A2, k2, by rw [HST.out.fold, hnx2], ho, hf⟩
      have HN2 := Lib.hid hn2
      have HNX2 := Lib.hid hnx2
      have HVF : Hid (n2 * 72 ≤ 140737488355328) := Lib.hid (by
        have h1 := HST.out.few
        have h2 : e.add.length ≤ 1024 := HST.out.ok.fewA
        have h3 := (sortTb_perm (foldT vi e)).length_eq
        have h4 : (foldT vi e).length ≤ (vi.tabs ++ e.add).length := List.length_filter_le _ _
        rw [List.length_append] at h4
        omega)
      have c0 := cell_of_row _ _ 0 _ _ _ b0
      have c1 := cell_of_row _ _ 1 _ _ _ b0
      have c2 := cell_of_row _ _ 2 _ _ _ b0
      have c3 := cell_of_row _ _ 3 _ _ _ b0
      obtain ⟨e0, e1, e2, e3, e4, e5⟩ := HM1.out.cells
      have HDR : Hid (fr w1 w1.drew) := Lib.hid (fr.drew fr.refl)
      have hzz := heap_alloc_new w1 (.cells #[.slice none 0 0, .int .i64 0, .int .i64 0, .int .i64 0] 50)
      have HAD : Hid (fr w1 (w1.alloc (.cells #[.slice none 0 0, .int .i64 0, .int .i64 0, .int .i64 0] 50)).drew) := Lib.hid (fr.drew (fr.alloc fr.refl _))
      have HPZ : Hid ((w1.alloc (.cells #[.slice none 0 0, .int .i64 0, .int .i64 0, .int .i64 0] 50)).drew.heap[w1.heap.size]? = some (.cells #[.slice none 0 0, .int .i64 0, .int .i64 0, .int .i64 0] 50 (0, 0))) := Lib.hid hzz
      have HC8 : Hid (w1.cell? ⟨M, 1, none⟩ = some (.slice Ax nv cx) ∧ w1.cell? ⟨M, 2, none⟩ = some (.int .i64 vi.lg) ∧ w1.cell? ⟨M, 3, none⟩ = some (.int .i64 vi.sq) ∧ w1.cell? ⟨M, 4, none⟩ = some (.int .i64 vi.nx) ∧ w1.cell? ⟨z, 0, none⟩ = some (.slice Aa na ca) ∧ w1.cell? ⟨z, 1, none⟩ = some (.slice Ad nd cd) ∧ w1.cell? ⟨z, 2, none⟩ = some (.int .i64 e.lg) ∧ w1.cell? ⟨z, 3, none⟩ = some (.int .i64 e.sq)) := Lib.hid ⟨e1, e2, e3, e4, c0, c1, c2, c3⟩
      clear hzz e0 e1 e2 e3 e4 e5 c0 c1 c2 c3 b0 hf6 hta hid f5 hz hta1 hid1 hx1 hn2 hnx2 x0
      go_region_held3 (fun w' => w'.cell? ⟨M, 1, none⟩ = some (.slice Ax nv cx) ∧ w'.cell? ⟨M, 2, none⟩ = some (.int .i64 vi.lg) ∧ w'.cell? ⟨M, 3, none⟩ = some (.int .i64 vi.sq) ∧ w'.cell? ⟨M, 4, none⟩ = some (.int .i64 vi.nx) ∧ w'.cell? ⟨z, 0, none⟩ = some (.slice Aa na ca) ∧ w'.cell? ⟨z, 1, none⟩ = some (.slice Ad nd cd) ∧ w'.cell? ⟨z, 2, none⟩ = some (.int .i64 e.lg) ∧ w'.cell? ⟨z, 3, none⟩ = some (.int .i64 e.sq))
          (first
            | with_reducible exact cells8 HDR.out HC8.out
            | with_reducible exact cells8 HAD.out HC8.out
            | with_reducible exact cells8 f2 (cells8 HDR.out HC8.out)
            | with_reducible exact cells8 f2 (cells8 HAD.out HC8.out)
            | with_reducible exact cells8 (fr.alloc f2 _) (cells8 HDR.out HC8.out)
            | with_reducible exact cells8 (fr.putE (fr.putE (fr.putE (fr.putE (fr.stepR HAD.out f2) (Nat.le_refl _)) (Nat.le_refl _)) (Nat.le_refl _)) (Nat.le_refl _)) HC8.out)
          (first
            | (go_at_call 74; (with_reducible refine Calls.mono (HF0.out _ ?_) ?_); (focus (with_reducible exact HAD.out)); rintro r w2 ⟨A2, k2, rfl, ho2, f2⟩; have pz := boxRowFr HPZ.out f2; have g0 := cell_of_row _ _ 0 _ _ _ pz; have g1 := cell_of_row _ _ 1 _ _ _ pz; have g2 := cell_of_row _ _ 2 _ _ _ pz; have g3 := cell_of_row _ _ 3 _ _ _ pz; have y0 := frozen_of_row _ _ 0 _ _ pz; have y1 := frozen_of_row _ _ 1 _ _ pz; have y2 := frozen_of_row _ _ 2 _ _ pz; have y3 := frozen_of_row _ _ 3 _ _ pz)
            | (go_at_call 74; (with_reducible refine Calls.mono (HF0.out _ ?_) ?_); (focus (with_reducible exact HDR.out)); rintro r w2 ⟨A2, k2, rfl, ho2, f2⟩))
      · have hb9 : fr w1 (w2.alloc (.cells #[.slice A2 n2 k2, .int .i64 e.lg, .int .i64 e.sq, .int .i64 nx2] 50)) := fr.alloc (fr.stepR HDR.out f2) _
        have ho9 := OwnRows.below tbFine ho2 (fr.alloc fr.refl (.cells #[.slice A2 n2 k2, .int .i64 e.lg, .int .i64 e.sq, .int .i64 nx2] 50))
        have pz9 := heap_alloc_new w2 (.cells #[.slice A2 n2 k2, .int .i64 e.lg, .int .i64 e.sq, .int .i64 nx2] 50)
        have hlb : w1.heap.size ≤ w1.drew.heap.size := Below.size HDR.out
        have hzl := Below.size (fr.stepR HDR.out f2)
        obtain ⟨lb, hlbe⟩ : ∃ g, w1.drew.heap.size = g := ⟨_, rfl⟩
        rw [hlbe] at ho9 hlb
        obtain ⟨zb, hzb⟩ : ∃ g, w2.heap.size = g := ⟨_, rfl⟩
        rw [hzb] at pz9 hzl ⊢
        have HZBL : Hid (w1.heap.size ≤ zb ∧ w1.heap.size ≤ lb) := Lib.hid ⟨hzl, hlb⟩
        generalize w2.alloc (.cells #[.slice A2 n2 k2, .int .i64 e.lg, .int .i64 e.sq, .int .i64 nx2] 50) = w9 at ho9 hb9 pz9 ⊢
        clear ho2 f2 hzb hzl hlb hlbe
        have HB9 := Lib.hid hb9
        have HO9 := Lib.hid ho9
        have t0 := cell_of_row _ _ 0 _ _ _ pz9
        have t1 := cell_of_row _ _ 1 _ _ _ pz9
        have t2 := cell_of_row _ _ 2 _ _ _ pz9
        have t3 := cell_of_row _ _ 3 _ _ _ pz9
        have HM9 := Lib.hid (HM1.out.below hb9)
        obtain ⟨e0, e1, e2, e3, e4, e5⟩ := HM9.out.cells
        have y1 := frozen_of_row _ _ 1 _ _ HM9.out
        have y2 := frozen_of_row _ _ 2 _ _ HM9.out
        have y3 := frozen_of_row _ _ 3 _ _ HM9.out
        have y4 := frozen_of_row _ _ 4 _ _ HM9.out
        have hzbM : zb ≠ M := by have h1 := HMlt.out; have h2 := HZBL.out; omega
        obtain ⟨hRp, hOp⟩ := HM9.out.put (.slice A2 n2 k2) ⟨sortTb (foldT vi e), e.lg, e.sq, nx2⟩
        have HRP := Lib.hid hRp
        have HOP := Lib.hid hOp
        have pz10 := (hOp.block zb (Array.getElem?_eq_some_iff.1 pz9).1 hzbM).trans pz9
        simp only at pz10 hRp
        have t4 := cell_of_row _ _ 3 _ _ _ pz10
        have d4 := hRp.cells.2.2.2.2.1
        have y5 := frozen_of_row _ _ 4 _ _ hRp
        clear hb9 ho9 pz9 pz10 hRp hOp hzbM
        go_wp2_with (fail)
        have hRq : ManR (((((w9.setCell ⟨M, 1, none⟩ (.slice A2 n2 k2)).setCell ⟨M, 2, none⟩ (.int .i64 e.lg)).setCell ⟨M, 3, none⟩ (.int .i64 e.sq)).setCell ⟨M, 4, none⟩ (.int .i64 nx2)).setCell ⟨M, 4, none⟩ (.int .i64 (max nx2 nx))) M p (.slice A2 n2 k2) ⟨sortTb (foldT vi e), e.lg, e.sq, max nx2 nx⟩ num := heap_setCell_same _ M 4 _ _ _ HRP.out
        have hOq := HOP.out.trans (only_set _ M 4 (.int .i64 (max nx2 nx)))
        simp only at hOq
        have hst : runV ver0 (l.take (i + 1)) = ⟨sortTb (foldT vi e), e.lg, e.sq, max nx2 nx⟩ := by
          rw [take_snoc HLI.out, runV_snoc, HVI.out]
          unfold stepV
          rw [HNX2.out]
        refine ⟨⟨i + 1, _, by omega, by go_num, by rw [hst]; exact hRq, ?_, ?_⟩, by simp [intOf]; omega⟩
        · rw [hst]
          have h1 := OwnRows.rows (bytes := 72) tbFine HO9.out (by rw [HN2.out]; have := HVF.out; omega)
          refine TabsV.only (S := fun a => w.heap.size ≤ a) (Rows.keep tbFine h1 fun _ _ _ _ hr => hr.mono fun a h => by have h2 := HZBL.out; have h3 := HLW.out; have h4 := h.1; omega) hOq fun a h1 h2 => by have := HM.out.lt; omega
        · exact ((HONR.out.trans (Only.of_below HW1.out)).trans (Only.of_below HB9.out)).trans hOq
      · have F4 := fr.putE (fr.putE (fr.putE (fr.putE (fr.stepR HAD.out f2) (Nat.le_refl _) (j := 0) (u := .slice A2 n2 k2)) (Nat.le_refl _) (j := 1) (u := .int .i64 e.lg)) (Nat.le_refl _) (j := 2) (u := .int .i64 e.sq)) (Nat.le_refl _) (j := 3) (u := .int .i64 nx2)
        have hb9 : fr w1 (put4 w2 w1.heap.size (.slice A2 n2 k2) (.int .i64 e.lg) (.int .i64 e.sq) (.int .i64 nx2)) := F4
        have pz9 := put4_row pz (a := .slice A2 n2 k2) (b := .int .i64 e.lg) (c := .int .i64 e.sq) (d := .int .i64 nx2)
        have hso : w1.heap.size < (w1.alloc (.cells #[.slice none 0 0, .int .i64 0, .int .i64 0, .int .i64 0] 50)).drew.heap.size := by simp
        have ho9 := OwnRows.onlyF tbFine ho2 (put4_only (W := w2) (g := w1.heap.size) (a := .slice A2 n2 k2) (b := .int .i64 e.lg) (c := .int .i64 e.sq) (d := .int .i64 nx2)) (fun i hi _ h => by omega)
        have hlb : w1.heap.size ≤ (w1.alloc (.cells #[.slice none 0 0, .int .i64 0, .int .i64 0, .int .i64 0] 50)).drew.heap.size := Below.size HAD.out
        have hzl := Nat.le_refl w1.heap.size
        obtain ⟨lb, hlbe⟩ : ∃ g, (w1.alloc (.cells #[.slice none 0 0, .int .i64 0, .int .i64 0, .int .i64 0] 50)).drew.heap.size = g := ⟨_, rfl⟩
        rw [hlbe] at ho9 hlb
        obtain ⟨zb, hzb⟩ : ∃ g, w1.heap.size = g := ⟨_, rfl⟩
        unfold put4 at hb9 pz9 ho9
        rw [hzb] at pz9 hb9 ho9 ⊢
        have HZBL : Hid (w1.heap.size ≤ zb ∧ w1.heap.size ≤ lb) := Lib.hid ⟨by omega, hlb⟩
        generalize (((w2.setCell ⟨zb, 0, none⟩ (.slice A2 n2 k2)).setCell ⟨zb, 1, none⟩ (.int .i64 e.lg)).setCell ⟨zb, 2, none⟩ (.int .i64 e.sq)).setCell ⟨zb, 3, none⟩ (.int .i64 nx2) = w9 at ho9 hb9 pz9 ⊢
        clear ho2 f2 hzl hlb hlbe F4 pz g0 g1 g2 g3 y0 y1 y2 y3 hso
        have HB9 := Lib.hid hb9
        have HO9 := Lib.hid ho9
        have t0 := cell_of_row _ _ 0 _ _ _ pz9
        have t1 := cell_of_row _ _ 1 _ _ _ pz9
        have t2 := cell_of_row _ _ 2 _ _ _ pz9
        have t3 := cell_of_row _ _ 3 _ _ _ pz9
        have HM9 := Lib.hid (HM1.out.below hb9)
        obtain ⟨e0, e1, e2, e3, e4, e5⟩ := HM9.out.cells
        have y1 := frozen_of_row _ _ 1 _ _ HM9.out
        have y2 := frozen_of_row _ _ 2 _ _ HM9.out
        have y3 := frozen_of_row _ _ 3 _ _ HM9.out
        have y4 := frozen_of_row _ _ 4 _ _ HM9.out
        have hzbM : zb ≠ M := by have h1 := HMlt.out; have h2 := HZBL.out; omega
        obtain ⟨hRp, hOp⟩ := HM9.out.put (.slice A2 n2 k2) ⟨sortTb (foldT vi e), e.lg, e.sq, nx2⟩
        have HRP := Lib.hid hRp
        have HOP := Lib.hid hOp
        have pz10 := (hOp.block zb (Array.getElem?_eq_some_iff.1 pz9).1 hzbM).trans pz9
        simp only at pz10 hRp
        have t4 := cell_of_row _ _ 3 _ _ _ pz10
        have d4 := hRp.cells.2.2.2.2.1
        have y5 := frozen_of_row _ _ 4 _ _ hRp
        clear hb9 ho9 pz9 pz10 hRp hOp hzbM
        go_wp2_with (fail)
        have hRq : ManR (((((w9.setCell ⟨M, 1, none⟩ (.slice A2 n2 k2)).setCell ⟨M, 2, none⟩ (.int .i64 e.lg)).setCell ⟨M, 3, none⟩ (.int .i64 e.sq)).setCell ⟨M, 4, none⟩ (.int .i64 nx2)).setCell ⟨M, 4, none⟩ (.int .i64 (max nx2 nx))) M p (.slice A2 n2 k2) ⟨sortTb (foldT vi e), e.lg, e.sq, max nx2 nx⟩ num := heap_setCell_same _ M 4 _ _ _ HRP.out
        have hOq := HOP.out.trans (only_set _ M 4 (.int .i64 (max nx2 nx)))
        simp only at hOq
        have hst : runV ver0 (l.take (i + 1)) = ⟨sortTb (foldT vi e), e.lg, e.sq, max nx2 nx⟩ := by
          rw [take_snoc HLI.out, runV_snoc, HVI.out]
          unfold stepV
          rw [HNX2.out]
        refine ⟨⟨i + 1, _, by omega, by go_num, by rw [hst]; exact hRq, ?_, ?_⟩, by simp [intOf]; omega⟩
        · rw [hst]
          have h1 := OwnRows.rows (bytes := 72) tbFine HO9.out (by rw [HN2.out]; have := HVF.out; omega)
          refine TabsV.only (S := fun a => w.heap.size ≤ a) (Rows.keep tbFine h1 fun _ _ _ _ hr => hr.mono fun a h => by have h2 := HZBL.out; have h3 := HLW.out; have h4 := h.1; omega) hOq fun a h1 h2 => by have := HM.out.lt; omega
        · exact ((HONR.out.trans (Only.of_below HW1.out)).trans (Only.of_below HB9.out)).trans hOq
    · obtain rfl : i = nl := by omega
      have hd0 : ((i : Int) == 0) = false := by simp; omega
      have HMR := Lib.hid hm
      have HXR := Lib.hid hx
      have HONR := Lib.hid hon
      have HEND : Hid (runV ver0 (l.take i) = v) := Lib.hid (by rw [List.take_of_length_le (by rw [HNL.out]; exact Nat.le_refl _)]; exact chain_run HCH.out)
      rw [HEND.out] at HMR HXR
      clear hm hx hon hi hin
      go_wp2_with (fail)
      go_ret
      exact ⟨rfl, ⟨_, HMR.out, HXR.out⟩, (Only.of_below HF2.out).trans HONR.out⟩
end Go.Proofs.YtjnolpfmchnnmaaGreatDoor
end
section
namespace Go.Proofs.YtjnolpfmchnnmaaGreatDoor
set_option maxRecDepth 100000
open Go.RowKit Go.BigFrame Go.Sort Go.Shelf Go.Lib
attribute [local go_sem ↓] Go.wp_at_zero Go.wp_at_succ
theorem dk_lt {w : World} {F : Nat → Prop} {p dn : Nat} {D : Nm → Option (List UInt8)} (h : DkC w F p dn D) (ht : TabW w) : ¬ F w.heap.size ∧ tabG < w.heap.size :=
  ⟨fun hf => Nat.lt_irrefl _ (h.1 _ hf).1, ht.lt⟩
set_option maxRecDepth 100000 in
set_option maxHeartbeats 2000000 in
theorem mopen_fresh (F : Nat → Prop) (p dn : Nat) (D : Nm → Option (List UInt8)) (w : World) (hk : DkC w F p dn D) (ht : TabW w) (hc : D curW = none) (hdn : dn ≤ 400000) :
    Calls Tryz.prog 24 #[.pointer (some ⟨p, 0, none⟩)] w fun r w' => r = .returned (.tuple #[.pointer (some ⟨w.heap.size, 0, none⟩), .int .i64 0]) ∧ (∃ F', Spread w.heap.size F F' ∧ ManC w' F' w.heap.size p ver0 1 (dn + dn + 1000) (begunD D 0 (frB (recsM (splitL ver0))))) ∧ Only F w w' := by
  have b0 := heap_alloc_new w (.cells #[.pointer (some ⟨p, 0, none⟩), .slice none 0 0, .int .i64 0, .int .i64 0, .int .i64 1, .int .i64 0] 139)
  have hf1 : fr w (w.alloc (.cells #[.pointer (some ⟨p, 0, none⟩), .slice none 0 0, .int .i64 0, .int .i64 0, .int .i64 1, .int .i64 0] 139)) := fr.alloc fr.refl _
  have hMO := dk_lt hk ht
  have HMO := Lib.hid hMO
  have HF1 := Lib.hid hf1
  obtain ⟨M, hM⟩ : ∃ M, w.heap.size = M := ⟨_, rfl⟩
  have HSZ := Lib.hid hM
  have HK := Lib.hid hk
  have HT := Lib.hid ht
  have HC := Lib.hid hc
  rw [hM] at b0 HMO
  have HR := Lib.hid b0
  clear hMO b0 hf1 hk ht hc
  rw [hM]
  obtain ⟨wa, hwa⟩ : ∃ wa, (w.alloc (.cells #[.pointer (some ⟨p, 0, none⟩), .slice none 0 0, .int .i64 0, .int .i64 0, .int .i64 1, .int .i64 0] 139)) = wa := ⟨_, rfl⟩
  rw [hwa] at HR HF1
  have HRD : Hid (Calls Tryz.prog 64 #[.pointer (some ⟨p, 0, none⟩), .string ⟨#[99, 117, 114, 114, 101, 110, 116]⟩] wa fun r w' => ∃ v, r = .returned (.tuple #[v, .int .i64 22]) ∧ fr wa w') := Lib.hid (by
    refine (cread_none (x := curW) (HK.out.below HF1.out) (by decide) HC.out).mono ?_
    rintro r w' ⟨v', rfl, _, h2⟩
    exact ⟨v', rfl, h2⟩)
  go_enter Tryz.func24, Tryz.ntmps24
  go_upto_region 4 with (fail)
  go_upto_region 16 with (go_at_call 64; refine HRD.out.mono ?_; rintro r w2 ⟨v2, rfl, f2⟩)
  have HF2 := Lib.hid (fr.step HF1.out f2)
  have HR2 : Hid (ManR w2 M p (.slice none 0 0) ver0 0) := Lib.hid (ManR.below (v := ver0) (num := 0) HR.out f2)
  clear f2 hwa hM
  go_upto_region 17 with (go_at_call 78; refine (mbegin_any F M p 0 dn D (.slice none 0 0) ver0 w2 HR2.out HMO.out ⟨none, 0, [], rfl, by simp [ver0], by simp, by simp [ver0], Row.nil _ _ _ _, .nil⟩ (HK.out.below HF2.out) (HT.out.below HF2.out) (by decide) (fun h => absurd h (Nat.lt_irrefl _)) ver0_ok (fun n => sorts_small (by simp [ver0]) (by simp [ver0, idsT])) hdn).mono ?_; rintro r w3 ⟨rfl, ⟨F', hS, hC⟩, hO⟩)
  have HS := Lib.hid (hS.low (Below.size HF2.out))
  have HCC := Lib.hid hC
  have HO := Lib.hid hO
  clear hS hC hO
  go_wp2_with (fail)
  go_ret2
  refine ⟨rfl, ⟨F', HSZ.out ▸ HS.out, HCC.out⟩, ?_⟩
  exact (Only.of_below (S := F) HF2.out).fresh HO.out fun i h => h.imp id fun h => by rw [h, HSZ.out]; exact Nat.le_refl _
set_option maxRecDepth 100000 in
set_option maxHeartbeats 2000000 in
theorem mopen_again (F : Nat → Prop) (p num dn dl : Nat) (v : Ver) (D : Nm → Option (List UInt8)) (w : World) (hk : DkC w F p dn D) (ht : TabW w) (hfile : FileOk D num dl v) (hdl : dl ≤ 1000000) (hn1 : 1 ≤ num) (hn : num + 1 < 1000000) (hver : VerOk v) (hsort : ∀ n, Sorts sortTb (v.tabs.take n)) (hdn : dn ≤ 400000) :
    Calls Tryz.prog 24 #[.pointer (some ⟨p, 0, none⟩)] w fun r w' => r = .returned (.tuple #[.pointer (some ⟨w.heap.size, 0, none⟩), .int .i64 0]) ∧ (∃ F', Spread w.heap.size F F' ∧ ManC w' F' w.heap.size p v (num + 1) (dn + dn + 1000) (begunD D num (frB (recsM (splitL v))))) ∧ Only F w w' := by
  have b0 := heap_alloc_new w (.cells #[.pointer (some ⟨p, 0, none⟩), .slice none 0 0, .int .i64 0, .int .i64 0, .int .i64 1, .int .i64 0] 139)
  have hf1 : fr w (w.alloc (.cells #[.pointer (some ⟨p, 0, none⟩), .slice none 0 0, .int .i64 0, .int .i64 0, .int .i64 1, .int .i64 0] 139)) := fr.alloc fr.refl _
  have hMO := dk_lt hk ht
  have HMO := Lib.hid hMO
  have HF1 := Lib.hid hf1
  obtain ⟨M, hM⟩ : ∃ M, w.heap.size = M := ⟨_, rfl⟩
  obtain ⟨ws, hws⟩ : ∃ ws, (Lib.itoa (num : Int)) = ws := ⟨_, rfl⟩
  have hai := atoi_itoa (n := num) (by omega)
  obtain ⟨hc, l, hl0, hll, hlD, hch⟩ := hfile
  rw [hws] at hai hc
  have HSZ := Lib.hid hM
  have HK := Lib.hid hk
  have HT := Lib.hid ht
  have HC := Lib.hid hc
  have HAI := Lib.hid hai
  have HL0 := Lib.hid hl0
  have HLL := Lib.hid (Nat.le_trans hll hdl)
  have HLD := Lib.hid hlD
  have HCH := Lib.hid hch
  have HVER := Lib.hid hver
  have HSORT := Lib.hid hsort
  rw [hM] at b0 HMO
  have HR := Lib.hid b0
  obtain ⟨X, hX⟩ : ∃ X : ByteArray, (⟨ws.toArray⟩ : ByteArray) = X := ⟨_, rfl⟩
  have hXs : X.size ≤ 18 ∧ X.data.toList = ws := by rw [← hX]; exact ⟨by rw [ba_size]; have := hai.2; omega, by simp⟩
  have HX := Lib.hid hXs
  have hcw := hlD
  clear hMO b0 hf1 hk ht hc hai hl0 hll hlD hch hver hsort hcw
  rw [hM]
  obtain ⟨wa, hwa⟩ : ∃ wa, (w.alloc (.cells #[.pointer (some ⟨p, 0, none⟩), .slice none 0 0, .int .i64 0, .int .i64 0, .int .i64 1, .int .i64 0] 139)) = wa := ⟨_, rfl⟩
  rw [hwa] at HR HF1
  have HRD : Hid (Calls Tryz.prog 64 #[.pointer (some ⟨p, 0, none⟩), .string ⟨#[99, 117, 114, 114, 101, 110, 116]⟩] wa fun r w' => ∃ v, r = .returned (.tuple #[v, .int .i64 0]) ∧ BytL w' wa.heap.size v ws ∧ fr wa w') := Lib.hid (by
    refine (cread_some (x := curW) (HK.out.below HF1.out) HC.out).mono ?_
    rintro r w' ⟨v', rfl, h1, h2⟩
    exact ⟨v', rfl, h1, h2⟩)
  have HCA : Hid (∀ wx, Calls Tryz.prog 76 #[.string X] wx fun r w' => r = .returned (.tuple #[.int .i64 num, .nilIface]) ∧ fr wx w') := Lib.hid fun wx => by
    refine (Tryz.strconv_Atoi X num HX.out.1 (by rw [HX.out.2]; exact HAI.out.1) wx).mono ?_
    rintro r w' ⟨rfl, t, rfl⟩
    exact ⟨rfl, Lib.bytesWorld_below _ _ _⟩
  have hXX := Lib.hid hX
  clear hX hXs
  go_enter Tryz.func24, Tryz.ntmps24
  go_upto_region 4 with (fail)
  go_upto_region 8 with (go_at_call 64; refine HRD.out.mono ?_; rintro r w2 ⟨v2, rfl, hb2, f2⟩)
  have HF2 := Lib.hid (fr.step HF1.out f2)
  have HR2 : Hid (ManR w2 M p (.slice none 0 0) ver0 0) := Lib.hid (ManR.below (v := ver0) (num := 0) HR.out f2)
  have hcv := hb2.byt.convert
  rw [hXX.out] at hcv
  clear f2 hwa hM hb2
  go_upto_region 9 with (go_at_call 76; refine (HCA.out _).mono ?_; rintro r w3 ⟨rfl, f3⟩)
  have HF3 := Lib.hid (fr.step HF2.out f3)
  have HR3 := Lib.hid (HR2.out.below f3)
  clear hcv f3
  have c5 := HR3.out.cells.2.2.2.2.2
  have y5 := frozen_of_row _ _ 5 _ _ HR3.out
  have g1 : ((num : Int) < 1) = False := by simp; omega
  have g2 : ((num : Int) ≥ 999999) = False := by simp; omega
  go_upto_region 12 with (fail)
  have hR4 : ManR (w3.setCell ⟨M, 5, none⟩ (.int .i64 num)) M p (.slice none 0 0) ver0 num := heap_setCell_same _ M 5 _ _ _ HR3.out
  have hO4 : Only (fun i => i = M) w3 (w3.setCell ⟨M, 5, none⟩ (.int .i64 num)) := only_set _ M 5 (.int .i64 num)
  generalize w3.setCell ⟨M, 5, none⟩ (.int .i64 num) = w4 at hR4 hO4 ⊢
  have HO4 := Lib.hid ((Only.of_below (S := fun i => i = M) HF3.out).trans hO4)
  have HR4 := Lib.hid hR4
  have HMF : Hid (∀ i, i = M → ¬ F i) := Lib.hid fun i h => h ▸ HMO.out.1
  have HMT : Hid (∀ i, i = M → tabG < i) := Lib.hid fun i h => h ▸ HMO.out.2
  clear hR4 hO4 c5 y5
  go_upto_region 13 with (go_at_call 77; refine (mload_any F M p num dn D l v w4 HR4.out HMO.out (HK.out.only HO4.out HMF.out) (HT.out.only HO4.out HMT.out) (by omega) HLD.out HCH.out HL0.out HLL.out).mono ?_; rintro r w5 ⟨rfl, ⟨x, hR5, hx5⟩, hO5⟩)
  have HO5 := Lib.hid (HO4.out.trans hO5)
  have HR5 := Lib.hid hR5
  have HX5 : Hid (TabsV w5 (fun i => ¬ F i ∧ i ≠ M) x v.tabs) := Lib.hid (Rows.keep tbFine hx5 fun _ _ _ _ hr => hr.mono fun i h => ⟨fun hf => absurd (HK.out.1 i hf).1 (by have := HO4.out.size; omega), fun e => by have h1 := HR4.out.lt; omega⟩)
  clear hO5 hR5 hx5
  go_upto_region 17 with (go_at_call 78; refine (mbegin_any F M p num dn D x v w5 HR5.out HMO.out HX5.out (HK.out.only HO5.out HMF.out) (HT.out.only HO5.out HMT.out) hn (fun _ => ⟨_, HLD.out⟩) HVER.out HSORT.out hdn).mono ?_; rintro r w6 ⟨rfl, ⟨F', hS, hC⟩, hO⟩)
  have HS := Lib.hid (hS.low HO5.out.size)
  have HCC := Lib.hid hC
  have HO := Lib.hid hO
  clear hS hC hO
  go_wp2_with (fail)
  go_ret2
  refine ⟨rfl, ⟨F', HSZ.out ▸ HS.out, HCC.out⟩, ?_⟩
  refine ⟨HO.out.os.trans HO5.out.os, HO.out.tape.trans HO5.out.tape, HO.out.output.trans HO5.out.output, Nat.le_trans HO5.out.size HO.out.size, fun i hi hn => ?_⟩
  have hM : i ≠ M := by have := HSZ.out; omega
  exact (HO.out.block i (Nat.lt_of_lt_of_le hi HO5.out.size) fun h => h.elim hn hM).trans (HO5.out.block i hi hM)
end Go.Proofs.YtjnolpfmchnnmaaGreatDoor
end
section
namespace Go.Proofs.YtjnolpfmchnnmaaGreatDoor
set_option maxRecDepth 100000
open Go.RowKit Go.BigFrame
attribute [local go_sem ↓] Go.wp_at_zero Go.wp_at_succ
set_option maxRecDepth 100000 in
set_option maxHeartbeats 4000000 in
theorem versame_any (S S' : Nat → Prop) (v v' : Value) (ts : List Tbl) (lg sq nx : Int) (w : World) (h : TabsV w S v ts) (h' : TabsV w S' v' ts) :
    Calls Tryz.prog 30 #[.agg #[v, .int .i64 lg, .int .i64 sq, .int .i64 nx], .agg #[v', .int .i64 lg, .int .i64 sq, .int .i64 nx]] w fun r w' => r = .returned (.bool true) ∧ Below w.heap.size w w' := by
  obtain ⟨A, c, rfl⟩ := h.form
  obtain ⟨A', c', rfl⟩ := h'.form
  have hmany : ts.length * 72 ≤ 140737488355328 := by obtain ⟨_, _, _, _, _, _, h3, _⟩ := h; exact h3
  obtain ⟨n, hn⟩ : ∃ n, ts.length = n := ⟨_, rfl⟩
  rw [hn] at h h' hmany ⊢
  have H := Lib.hid h
  have H' := Lib.hid h'
  have HN := Lib.hid hn
  clear h h' hn
  have hal : fr w ((w.alloc (.cells #[.slice A n c, .int .i64 lg, .int .i64 sq, .int .i64 nx] 50)).alloc (.cells #[.slice A' n c', .int .i64 lg, .int .i64 sq, .int .i64 nx] 50)) := fr.alloc (fr.alloc fr.refl _) _
  have P0 : ((w.alloc (.cells #[.slice A n c, .int .i64 lg, .int .i64 sq, .int .i64 nx] 50)).alloc (.cells #[.slice A' n c', .int .i64 lg, .int .i64 sq, .int .i64 nx] 50)).heap[w.heap.size]? = some (.cells #[.slice A n c, .int .i64 lg, .int .i64 sq, .int .i64 nx] 50 (0, 0)) := (Below.heap_alloc _ _ _ (by simp)).trans (heap_alloc_new w _)
  have P1 : ((w.alloc (.cells #[.slice A n c, .int .i64 lg, .int .i64 sq, .int .i64 nx] 50)).alloc (.cells #[.slice A' n c', .int .i64 lg, .int .i64 sq, .int .i64 nx] 50)).heap[w.heap.size + 1]? = some (.cells #[.slice A' n c', .int .i64 lg, .int .i64 sq, .int .i64 nx] 50 (0, 0)) := heap_at_new _ trivial (by simp)
  go_enter Tryz.func30, Tryz.ntmps30
  go_wp2_with fail
  go_loopw [39] (fun t wr => ∃ k : Nat, k ≤ n ∧ t = .int .i64 k ∧ fr ((w.alloc (.cells #[.slice A n c, .int .i64 lg, .int .i64 sq, .int .i64 nx] 50)).alloc (.cells #[.slice A' n c', .int .i64 lg, .int .i64 sq, .int .i64 nx] 50)) wr) (fun t _ => n - (intOf t).toNat)
  case atStart => exact ⟨0, Nat.zero_le _, rfl, fr.refl⟩
  case round =>
    obtain ⟨k, hk, rfl, hbel⟩ := hrel
    have HB := Lib.hid hbel
    have p0 := fr.hp hbel P0
    have p1 := fr.hp hbel P1
    have HW := Lib.hid (fr.step hal hbel)
    clear hbel
    by_cases hkn : k < n
    · obtain ⟨t, hf⟩ : ∃ t, ts[k]? = some t := ⟨_, List.getElem?_eq_getElem (by rw [HN.out]; exact hkn)⟩
      obtain ⟨b, o, cs, rfl, hblt, _, ⟨va, vb, rfl, hva, hvb⟩, hc⟩ := Rows.at_ tbFine (H.out.below tbFine HW.out) hf
      obtain ⟨b', o', cs', rfl, hblt', _, ⟨va', vb', rfl, hva', hvb'⟩, hc'⟩ := Rows.at_ tbFine (H'.out.below tbFine HW.out) hf
      obtain ⟨Aa, ca, rfl⟩ := slice_form hva
      obtain ⟨Ab, cb, rfl⟩ := slice_form hvb
      obtain ⟨Aa', ca', rfl⟩ := slice_form hva'
      obtain ⟨Ab', cb', rfl⟩ := slice_form hvb'
      have x0 : wr.cell? ⟨b, o + k * 5, none⟩ = _ := hc 0 _ rfl
      have x1 : wr.cell? ⟨b, o + k * 5 + 1, none⟩ = _ := hc 1 _ rfl
      have x2 : wr.cell? ⟨b, o + k * 5 + 2, none⟩ = _ := hc 2 _ rfl
      have x3 : wr.cell? ⟨b, o + k * 5 + 3, none⟩ = _ := hc 3 _ rfl
      have x4 : wr.cell? ⟨b, o + k * 5 + 4, none⟩ = _ := hc 4 _ rfl
      have y0 : wr.cell? ⟨b', o' + k * 5, none⟩ = _ := hc' 0 _ rfl
      have y1 : wr.cell? ⟨b', o' + k * 5 + 1, none⟩ = _ := hc' 1 _ rfl
      have y2 : wr.cell? ⟨b', o' + k * 5 + 2, none⟩ = _ := hc' 2 _ rfl
      have y3 : wr.cell? ⟨b', o' + k * 5 + 3, none⟩ = _ := hc' 3 _ rfl
      have y4 : wr.cell? ⟨b', o' + k * 5 + 4, none⟩ = _ := hc' 4 _ rfl
      have q0 := cell_of_row _ _ 0 _ _ _ p0
      have q1 := cell_of_row _ _ 0 _ _ _ p1
      clear hc hc' hf
      have l0 : w.heap.size < wr.heap.size := (Array.getElem?_eq_some_iff.1 p0).1
      have l1 : w.heap.size + 1 < wr.heap.size := (Array.getElem?_eq_some_iff.1 p1).1
      go_wp2_with fail
      go_region
      all_goals
        have fe : ∀ x y : Obj, fr wr ((wr.alloc x).alloc y).drew := fun x y => fr.drew (fr.alloc (fr.alloc fr.refl x) y)
        have e1 : ∀ x y : Obj, (convert 35 9 (.slice Aa t.lo.length ca)).run Tryz.prog ((wr.alloc x).alloc y).drew = .ok (.string ⟨t.lo.toArray⟩) ((wr.alloc x).alloc y).drew := fun x y => (hva.below (fe x y)).convert
        have e2 : ∀ x y : Obj, (convert 35 9 (.slice Aa' t.lo.length ca')).run Tryz.prog ((wr.alloc x).alloc y).drew = .ok (.string ⟨t.lo.toArray⟩) ((wr.alloc x).alloc y).drew := fun x y => (hva'.below (fe x y)).convert
        have e3 : ∀ x y : Obj, (convert 35 9 (.slice Ab t.hi.length cb)).run Tryz.prog ((wr.alloc x).alloc y).drew = .ok (.string ⟨t.hi.toArray⟩) ((wr.alloc x).alloc y).drew := fun x y => (hvb.below (fe x y)).convert
        have e4 : ∀ x y : Obj, (convert 35 9 (.slice Ab' t.hi.length cb')).run Tryz.prog ((wr.alloc x).alloc y).drew = .ok (.string ⟨t.hi.toArray⟩) ((wr.alloc x).alloc y).drew := fun x y => (hvb'.below (fe x y)).convert
        have HF := Lib.hid (fe (.cells #[.int .i64 t.id, .int .i64 t.level, .int .i64 t.count, .slice Aa t.lo.length ca, .slice Ab t.hi.length cb] 57) (.cells #[.int .i64 t.id, .int .i64 t.level, .int .i64 t.count, .slice Aa' t.lo.length ca', .slice Ab' t.hi.length cb'] 57))
        have HF' := Lib.hid (fe (.cells #[.int .i64 t.id, .int .i64 t.level, .int .i64 t.count, .slice Aa' t.lo.length ca', .slice Ab' t.hi.length cb'] 57) (.cells #[.int .i64 t.id, .int .i64 t.level, .int .i64 t.count, .slice Aa t.lo.length ca, .slice Ab t.hi.length cb] 57))
        clear fe
        go_wp2_with fail
        first
          | exact ⟨⟨k + 1, by omega, by go_num, fr.step HB.out HF.out⟩, by simp [intOf]; omega⟩
          | exact ⟨⟨k + 1, by omega, by go_num, fr.step HB.out HF'.out⟩, by simp [intOf]; omega⟩
    · obtain rfl : k = n := by omega
      go_wp2_with fail
      refine bodyPost_ret (v := .bool true) (by simp [results, Tryz.results30, go_sem]) rfl ?_
      exact ⟨rfl, fr.step hal HB.out⟩
end Go.Proofs.YtjnolpfmchnnmaaGreatDoor
end
section
namespace Go.Proofs.YtjnolpfmchnnmaaGreatDoor
set_option maxRecDepth 100000
open Go.RowKit Go.BigFrame Go.Sort Go.Shelf Go.Lib
attribute [local go_sem ↓] Go.wp_at_zero Go.wp_at_succ
def editV (w : World) (S : Nat → Prop) (r : Value) (e : Edt) : Prop := ∃ av dv, r = .agg #[av, dv, .int .i64 e.lg, .int .i64 e.sq] ∧ TabsV w S av e.add ∧ IntsIn w S dv e.drop
theorem OwnTabs.form {w : World} {base : Nat} {v : Value} {ts : List Tbl} (h : OwnTabs w base v ts) : ∃ A c, v = .slice A ts.length c := by
  obtain ⟨css, h1, _⟩ := h
  exact own_form h1
end Go.Proofs.YtjnolpfmchnnmaaGreatDoor
end
section
namespace Go.Proofs.YtjnolpfmchnnmaaGreatDoor
set_option maxRecDepth 100000
open Go.RowKit Go.ChangeShapes Go.WideShapes Go.Deep
theorem cells_tb : Tryz.prog.cellsOf 57 = 5 := by kernel_rfl
theorem bytes_tb : Tryz.prog.bytesOf 57 = 72 := by kernel_rfl
theorem cells_tbs : Tryz.prog.cellsOf 43 = 1 := by kernel_rfl
theorem cells_bs8 : Tryz.prog.cellsOf 35 = 1 := by kernel_rfl
theorem cells_edt : Tryz.prog.cellsOf 45 = 4 := by kernel_rfl
instance : Inhabited Tbl := ⟨⟨0, 0, 0, [], []⟩⟩
section
variable {H : Type} {P : Program} {enc : TypeId × Value → H} {w : World} {base : Nat} {held : Bool} {spare : Nat → Bool}
theorem trod_struct4' {t : TypeId} {f0 f1 f2 f3 : Field} {fuel : Nat} {cs : List Value} {x : DataW H × List MemPlace} (ht : P.underlying t = some (.struct #[f0, f1, f2, f3])) (h : DataW.trod enc P w base spare held fuel t cs = some x) :
    ∃ y0 y1 y2 y3 n, x = (.agg [y0.1, y1.1, y2.1, y3.1], y0.2 ++ (y1.2 ++ (y2.2 ++ y3.2))) ∧ cs.length = P.cellsOf t ∧ DataW.trod enc P w base spare held n f0.type ((cs.drop f0.offset).take (P.cellsOf f0.type)) = some y0 ∧
      DataW.trod enc P w base spare held n f1.type ((cs.drop f1.offset).take (P.cellsOf f1.type)) = some y1 ∧ DataW.trod enc P w base spare held n f2.type ((cs.drop f2.offset).take (P.cellsOf f2.type)) = some y2 ∧
      DataW.trod enc P w base spare held n f3.type ((cs.drop f3.offset).take (P.cellsOf f3.type)) = some y3 := by
  obtain ⟨xs, n, _, rfl, hl, hlen, hf⟩ := DataW.trod_struct ht h
  match xs, hlen with
  | [y0, y1, y2, y3], _ => exact ⟨y0, y1, y2, y3, n, by simp, hl, by simpa using hf 0 f0 rfl, by simpa using hf 1 f1 rfl, by simpa using hf 2 f2 rfl, by simpa using hf 3 f3 rfl⟩
end
section
variable {H : Type} {enc : TypeId × Value → H} {w : World} {base : Nat} {held : Bool} {spare : Nat → Bool}
end
end Go.Proofs.YtjnolpfmchnnmaaGreatDoor
end
section
namespace Go.Proofs.YtjnolpfmchnnmaaGreatDoor
set_option maxRecDepth 100000
open Go.RowKit Go.ChangeShapes Go.WideShapes Go.Deep
theorem wf_lt {n : Int} (h : (Lit.int .i64 n).wf = true) : n < 9223372036854775808 := by
  simp [Lit.wf, IntKind.min, IntKind.max, IntKind.signed, IntKind.bits] at h
  omega
def tbQ : Rd Tbl := fun w S t cs => tbR w S t cs ∧ t.count < 9223372036854775808
theorem tbQ_tabs {w : World} {S : Nat → Prop} {v : Value} {ts : List Tbl} (h : Rows tbQ 5 72 w S v ts) : TabsV w S v ts ∧ ∀ t ∈ ts, t.count < 9223372036854775808 := by
  obtain ⟨A, c, css, e, h1, h2, h3, h4, h5⟩ := h
  refine ⟨⟨A, c, css, e, h1, h2, h3, h4, h5.imp fun _ _ hx => hx.1⟩, fun t ht => ?_⟩
  obtain ⟨i, hi⟩ := List.getElem?_of_mem ht
  obtain ⟨cs, _, hc⟩ := h5.at_ hi
  exact hc.2
section
variable {H : Type} {enc : TypeId × Value → H} {w : World} {base : Nat} {held : Bool} {spare : Nat → Bool}
set_option maxRecDepth 100000 in
theorem open_tbQ (fuel : Nat) (cs : List Value) (x : DataW H × List MemPlace) (h : DataW.trod enc Tryz.prog w base spare held fuel 57 cs = some x) (hw : ∀ n ∈ x.1.weights Tryz.prog 57, n ≤ reachBytes) :
    ∃ t : Tbl, tbQ w (fun _ => True) t cs ∧ 0 ≤ Rows.uptoBulk x.1 := by
  obtain ⟨y0, y1, y2, y3, y4, m, rfl, hl, h0, h1, h2, h3, h4⟩ := trod_struct5 Tryz.underlying57 h
  rw [cells_tb] at hl
  match cs, hl with
  | [c0, c1, c2, c3, c4], _ =>
    simp only [cells_bs8, cells_i, List.drop_zero, List.drop_succ_cons, List.take_succ_cons, List.take_zero] at h0 h1 h2 h3 h4
    simp only [DataW.weights, Tryz.underlying57, List.map_cons, List.map_nil, DataW.weightsEach, List.append_nil, List.mem_append] at hw
    obtain ⟨a, ha, _, _⟩ := DataW.trod_int Tryz.underlying3 h0
    obtain ⟨b, hb, _, _⟩ := DataW.trod_int Tryz.underlying3 h1
    obtain ⟨c, hc, _, hcw⟩ := DataW.trod_int Tryz.underlying3 h2
    obtain ⟨xs, hx⟩ := open_byt h3 (fun n hn => hw n (.inr (.inr (.inr (.inl hn)))))
    obtain ⟨ys, hy⟩ := open_byt h4 (fun n hn => hw n (.inr (.inr (.inr (.inr hn)))))
    obtain rfl : c0 = .int .i64 a := by simpa using ha
    obtain rfl : c1 = .int .i64 b := by simpa using hb
    obtain rfl : c2 = .int .i64 c := by simpa using hc
    exact ⟨⟨a, b, c, xs, ys⟩, ⟨⟨c3, c4, rfl, hx, hy⟩, wf_lt hcw⟩, Nat.zero_le _⟩
set_option maxRecDepth 100000 in
theorem arg_editQ {r : Reach} {b0 : Nat} {v : Value} {d : DataW H} {ps : List MemPlace} (hval : Value.okWide Tryz.prog w r b0 45 v) (hd : DataW.Trod enc Tryz.prog w base spare held 45 v d ps) (hw : ∀ n ∈ d.weights Tryz.prog 45, n ≤ reachBytes) :
    ∃ e : Edt, (editV w (fun _ => True) v e ∧ e.drop.length * 8 ≤ 140737488355328) ∧ (∀ t ∈ e.add, t.count < 9223372036854775808) ∧ e.lg < 9223372036854775808 ∧ e.sq < 9223372036854775808 := by
  obtain ⟨n, h⟩ := hd
  have hv : ∃ cs, v = .agg cs := by
    unfold Value.okWide at hval
    rw [Tryz.underlying45] at hval
    obtain ⟨cs, e, _⟩ := hval
    exact ⟨cs, e⟩
  obtain ⟨cs, rfl⟩ := hv
  replace h : DataW.trod enc Tryz.prog w base spare held n 45 cs.toList = some (d, ps) := h
  obtain ⟨y0, y1, y2, y3, m, hx, hl, h0, h1, h2, h3⟩ := trod_struct4' Tryz.underlying45 h
  injection hx with hx1 hx2
  subst hx1
  rw [cells_edt] at hl
  obtain ⟨l⟩ := cs
  simp only at hl h0 h1 h2 h3 ⊢
  match l, hl with
  | [c0, c1, c2, c3], _ =>
    simp only [cells_tbs, cells_is, cells_i, List.drop_zero, List.drop_succ_cons, List.take_succ_cons, List.take_zero] at h0 h1 h2 h3
    simp only [DataW.weights, Tryz.underlying45, List.map_cons, List.map_nil, DataW.weightsEach, List.append_nil, List.mem_append] at hw
    obtain ⟨ts, ht, _⟩ := open_rows (R := tbQ) (by decide) Tryz.underlying43 cells_tb bytes_tb (fun _ => 0) open_tbQ h0 (fun n hn => hw n (.inl hn))
    obtain ⟨zs, hz, hz8, _⟩ := open_zs h1 (fun n hn => hw n (.inr (.inl hn)))
    obtain ⟨b, hb, _, hbw⟩ := DataW.trod_int Tryz.underlying3 h2
    obtain ⟨c, hc, _, hcw⟩ := DataW.trod_int Tryz.underlying3 h3
    obtain rfl : c2 = .int .i64 b := by simpa using hb
    obtain rfl : c3 = .int .i64 c := by simpa using hc
    obtain ⟨ht1, ht2⟩ := tbQ_tabs ht
    exact ⟨⟨ts, zs, b, c⟩, ⟨⟨c0, c1, rfl, ht1, hz⟩, hz8⟩, ht2, wf_lt hbw, wf_lt hcw⟩
end
end Go.Proofs.YtjnolpfmchnnmaaGreatDoor
end
section
namespace Go.Proofs.YtjnolpfmchnnmaaGreatDoor
set_option maxRecDepth 100000
open Go.RowKit Go.BigFrame
attribute [local go_sem ↓] Go.wp_at_zero Go.wp_at_succ
theorem frH_drewN {w : World} {k : Nat} : fr w (w.drewN k) := ⟨rfl, rfl, rfl, Nat.le_refl _, fun _ _ => rfl⟩
def atG (id : Int) : List Tbl → Nat → Int
  | [], _ => -1
  | t :: l, k => if t.id = id then (k : Int) else atG id l (k + 1)
theorem atG_neg (id : Int) : ∀ (l : List Tbl) (k : Nat), atG id l k < 0 ↔ id ∉ idsT l
  | [], k => by simp [atG, idsT]
  | t :: l, k => by
    have ih := atG_neg id l (k + 1)
    unfold atG
    by_cases h : t.id = id
    · rw [if_pos h]
      exact ⟨fun h2 => by omega, fun h2 => absurd (List.mem_cons.2 (.inl h.symm)) h2⟩
    · rw [if_neg h, ih]
      unfold idsT
      rw [List.map_cons, List.mem_cons]
      exact ⟨fun h2 h3 => h3.elim (fun h4 => h h4.symm) h2, fun h2 h3 => h2 (.inr h3)⟩
theorem atG_neg' (id : Int) (l : List Tbl) : decide (atG id l 0 < 0) = decide (id ∉ idsT l) := by
  rw [decide_eq_decide]; exact atG_neg id l 0
set_option maxRecDepth 100000 in
set_option maxHeartbeats 2000000 in
theorem at_any (S : Nat → Prop) (v : Value) (ts : List Tbl) (id : Int) (w : World) (h : TabsV w S v ts) :
    Calls Tryz.prog 80 #[v, .int .i64 id] w fun r w' => r = .returned (.int .i64 (atG id ts 0)) ∧ w' = w := by
  obtain ⟨A, c, rfl⟩ := h.form
  have hmany : ts.length * 72 ≤ 140737488355328 := by obtain ⟨_, _, _, _, _, _, h3, _⟩ := h; exact h3
  obtain ⟨n, hn⟩ : ∃ n, ts.length = n := ⟨_, rfl⟩
  rw [hn] at h hmany ⊢
  have HN := Lib.hid hn
  have HR := Lib.hid h
  clear hn h
  go_enter Tryz.func80, Tryz.ntmps80
  go_wp2
  go_loopw [8] (fun t wr => ∃ k : Nat, k ≤ n ∧ t = .int .i64 k ∧ Hid (atG id ts 0 = atG id (ts.drop k) k) ∧ wr = w) (fun t _ => n - (intOf t).toNat)
  case atStart => exact ⟨0, Nat.zero_le _, rfl, Lib.hid rfl, rfl⟩
  case round =>
    obtain ⟨k, hk, rfl, hno, rfl⟩ := hrel
    by_cases hkn : k < n
    · obtain ⟨t, hf⟩ : ∃ t, ts[k]? = some t := ⟨_, List.getElem?_eq_getElem (by rw [HN.out]; exact hkn)⟩
      obtain ⟨b, o, cs, rfl, hblt, _, ⟨va, vb, rfl, hva, hvb⟩, hc⟩ := Rows.at_ tbFine HR.out hf
      have x0 : wr.cell? ⟨b, o + k * 5, none⟩ = some (.int .i64 t.id) := hc 0 _ rfl
      have HS : Hid (ts.drop k = t :: ts.drop (k + 1)) := Lib.hid (by
        obtain ⟨h1, h2⟩ := List.getElem?_eq_some_iff.1 hf
        rw [List.drop_eq_getElem_cons h1, h2])
      clear hc hva hvb hf
      by_cases hx : t.id = id
      · have hd : (t.id == id) = true := by simpa using hx
        go_wp2
        refine bodyPost_ret (v := .int .i64 k) (by simp [results, Tryz.results80, go_sem]) rfl ?_
        refine ⟨?_, by first | rfl | trivial⟩
        rw [hno.out, HS.out]
        unfold atG
        rw [if_pos hx]
      · have hd : (t.id == id) = false := by simpa using hx
        go_wp2
        refine ⟨⟨k + 1, by omega, by go_num, Lib.hid ?_, by first | rfl | trivial⟩, by simp [intOf]; omega⟩
        rw [hno.out, HS.out]
        exact if_neg hx
    · obtain rfl : k = n := by omega
      go_wp2
      refine bodyPost_ret (v := .int .i64 (-1)) (by simp [results, Tryz.results80, go_sem]) rfl ?_
      refine ⟨?_, by first | rfl | trivial⟩
      rw [hno.out, List.drop_of_length_le (by rw [HN.out]; exact Nat.le_refl _)]
      rfl
theorem cmpB_app : ∀ (p a b : List UInt8), cmpB (p ++ a) (p ++ b) = cmpB a b
  | [], _, _ => rfl
  | x :: p, a, b => by
    show (if x < x then -1 else if x < x then 1 else cmpB (p ++ a) (p ++ b)) = _
    rw [if_neg (UInt8.lt_irrefl x), if_neg (UInt8.lt_irrefl x)]
    exact cmpB_app p a b
end Go.Proofs.YtjnolpfmchnnmaaGreatDoor
end
section
namespace Go.Proofs.YtjnolpfmchnnmaaGreatDoor
set_option maxRecDepth 100000
open Go.RowKit Go.BigFrame
attribute [local go_sem ↓] Go.wp_at_zero Go.wp_at_succ
theorem rba_split (A : ByteArray) (k : Nat) (h : k < A.size) : A.data.toList = A.data.toList.take k ++ A[k] :: A.data.toList.drop (k + 1) := by
  have := List.drop_eq_getElem_cons (l := A.data.toList) (i := k) (by simpa using h)
  exact (List.take_append_drop k _).symm.trans (by rw [this]; rfl)
theorem rba_next (A : ByteArray) (k : Nat) (h : k < A.size) : A.data.toList.take (k + 1) = A.data.toList.take k ++ [A[k]] := by
  rw [List.take_add_one, List.getElem?_eq_getElem (by simpa using h)]; rfl
theorem rless_lt {A B : ByteArray} {k : Nat} (h : A.data.toList.take k = B.data.toList.take k) (hA : k < A.size) (hB : k < B.size) (hl : A[k].toNat < B[k].toNat) : cmpB A.data.toList B.data.toList = -1 := by
  rw [rba_split A k hA, rba_split B k hB, h, cmpB_app]
  exact if_pos (UInt8.lt_iff_toNat_lt.2 hl)
theorem rless_gt {A B : ByteArray} {k : Nat} (h : A.data.toList.take k = B.data.toList.take k) (hA : k < A.size) (hB : k < B.size) (hl : B[k].toNat < A[k].toNat) : cmpB A.data.toList B.data.toList = 1 := by
  rw [rba_split A k hA, rba_split B k hB, h, cmpB_app]
  exact (if_neg (fun h => by have := UInt8.lt_iff_toNat_lt.1 h; omega)).trans (if_pos (UInt8.lt_iff_toNat_lt.2 hl))
theorem rless_eq {A B : ByteArray} {k : Nat} (h : A.data.toList.take k = B.data.toList.take k) (hA : k < A.size) (hB : k < B.size) (hl : A[k].toNat = B[k].toNat) : A.data.toList.take (k + 1) = B.data.toList.take (k + 1) := by
  rw [rba_next A k hA, rba_next B k hB, h, UInt8.toNat_inj.1 hl]
theorem rba_len (A : ByteArray) : A.data.toList.length = A.size := by simp
theorem rless_end {A B : ByteArray} {k : Nat} (h : A.data.toList.take k = B.data.toList.take k) (hA : k ≤ A.size) (hB : k ≤ B.size) (he : k = A.size ∨ k = B.size) : (A.size < B.size → cmpB A.data.toList B.data.toList = -1) ∧ (B.size < A.size → cmpB A.data.toList B.data.toList = 1) ∧ (A.size = B.size → cmpB A.data.toList B.data.toList = 0) := by
  have la := rba_len A
  have lb := rba_len B
  refine ⟨fun hl => ?_, fun hl => ?_, fun hl => ?_⟩
  · have e : A.data.toList = B.data.toList.take k := by rw [← h, List.take_of_length_le (by omega)]
    rw [rba_split B k (by omega), e]
    have := cmpB_app (B.data.toList.take k) [] (B[k] :: B.data.toList.drop (k + 1))
    rw [List.append_nil] at this
    exact this
  · have e : B.data.toList = A.data.toList.take k := by rw [h, List.take_of_length_le (by omega)]
    rw [rba_split A k (by omega), e]
    have := cmpB_app (A.data.toList.take k) (A[k] :: A.data.toList.drop (k + 1)) []
    rw [List.append_nil] at this
    exact this
  · have e : A.data.toList = B.data.toList := by
      have := h
      rwa [List.take_of_length_le (by omega), List.take_of_length_le (by omega)] at this
    rw [e]
    have := cmpB_app B.data.toList [] []
    rw [List.append_nil] at this
    exact this
set_option maxRecDepth 100000 in
set_option maxHeartbeats 4000000 in
theorem rless_ba (A B : ByteArray) (w : World) (hA : A.size ≤ 140737488355328) (hB : B.size ≤ 140737488355328) :
    Calls Tryz.prog 81 #[.string A, .string B] w fun r w' => r = .returned (.int .i64 (cmpB A.data.toList B.data.toList)) ∧ fr w w' := by
  go_enter Tryz.func81, Tryz.ntmps81
  go_wp2
  go_loopw [5] (fun t wr => ∃ k : Nat, k ≤ A.size ∧ k ≤ B.size ∧ t = .int .i64 k ∧ A.data.toList.take k = B.data.toList.take k ∧ fr w wr) (fun t _ => A.size - (intOf t).toNat)
  case atStart => exact ⟨0, by omega, by omega, rfl, by simp, fr.refl⟩
  case round =>
    obtain ⟨k, hk, hk2, rfl, hs, hf⟩ := hrel
    have HS := Lib.hid hs
    have HF := Lib.hid hf
    clear hs hf
    by_cases h1 : k < A.size
    · by_cases h2 : k < B.size
      · have d1 : decide ((k : Int) < (A.size : Int)) = true := decide_eq_true (by omega)
        have d2 : decide ((k : Int) < (B.size : Int)) = true := decide_eq_true (by omega)
        rcases Nat.lt_trichotomy A[k].toNat B[k].toNat with hc | hc | hc
        · have HR := Lib.hid (rless_lt HS.out h1 h2 hc)
          have d3 : decide (A[k].toNat < B[k].toNat) = true := decide_eq_true (by omega)
          go_wp2_with (fail)
          go_quiet (fail)
          go_wp2_with (fail)
          refine bodyPost_ret (v := .int .i64 (-1)) (by simp [results, Tryz.results81, go_sem]) rfl ?_
          exact ⟨by rw [HR.out], fr.step HF.out (by first | exact fr.refl | exact fr.drew fr.refl | exact frH_drewN | exact fr.step frH_drewN frH_drewN)⟩
        · have HR := Lib.hid (rless_eq HS.out h1 h2 hc)
          have d3 : decide (A[k].toNat < B[k].toNat) = false := decide_eq_false (by omega)
          have d4 : decide (B[k].toNat < A[k].toNat) = false := decide_eq_false (by omega)
          clear hc
          go_wp2_with (fail)
          go_quiet (fail)
          go_wp2_with (fail)
          go_quiet (fail)
          go_wp2_with (fail)
          exact ⟨⟨k + 1, by omega, by omega, by go_num, HR.out, fr.step HF.out (by first | exact fr.refl | exact fr.drew fr.refl | exact frH_drewN | exact fr.step frH_drewN frH_drewN)⟩, by simp [intOf]; omega⟩
        · have HR := Lib.hid (rless_gt HS.out h1 h2 hc)
          have d3 : decide (A[k].toNat < B[k].toNat) = false := decide_eq_false (by omega)
          have d4 : decide (B[k].toNat < A[k].toNat) = true := decide_eq_true (by omega)
          go_wp2_with (fail)
          go_quiet (fail)
          go_wp2_with (fail)
          go_quiet (fail)
          go_wp2_with (fail)
          refine bodyPost_ret (v := .int .i64 1) (by simp [results, Tryz.results81, go_sem]) rfl ?_
          exact ⟨by rw [HR.out], fr.step HF.out (by first | exact fr.refl | exact fr.drew fr.refl | exact frH_drewN | exact fr.step frH_drewN frH_drewN)⟩
      · have HE := Lib.hid (rless_end HS.out hk hk2 (.inr (by omega)))
        have d1 : decide ((A.size : Int) < (B.size : Int)) = false := decide_eq_false (by omega)
        have d2 : decide ((B.size : Int) < (A.size : Int)) = true := decide_eq_true (by omega)
        go_wp2
        refine bodyPost_ret (v := .int .i64 1) (by simp [results, Tryz.results81, go_sem]) rfl ?_
        exact ⟨by rw [HE.out.2.1 (by omega)], HF.out⟩
    · have HE := Lib.hid (rless_end HS.out hk hk2 (.inl (by omega)))
      by_cases h2 : k < B.size
      · have d1 : decide ((A.size : Int) < (B.size : Int)) = true := decide_eq_true (by omega)
        go_wp2
        refine bodyPost_ret (v := .int .i64 (-1)) (by simp [results, Tryz.results81, go_sem]) rfl ?_
        exact ⟨by rw [HE.out.1 (by omega)], HF.out⟩
      · have d1 : decide ((A.size : Int) < (B.size : Int)) = false := decide_eq_false (by omega)
        have d2 : decide ((B.size : Int) < (A.size : Int)) = false := decide_eq_false (by omega)
        go_wp2
        refine bodyPost_ret (v := .int .i64 0) (by simp [results, Tryz.results81, go_sem]) rfl ?_
        exact ⟨by rw [HE.out.2.2 (by omega)], HF.out⟩
end Go.Proofs.YtjnolpfmchnnmaaGreatDoor
end
section
namespace Go.Proofs.YtjnolpfmchnnmaaGreatDoor
set_option maxRecDepth 100000
open Go.RowKit Go.BigFrame
attribute [local go_sem ↓] Go.wp_at_zero Go.wp_at_succ
theorem tabs_swapG {wr w3 : World} {base g n c0 i j c1 c2 c3 c4 : Nat} {A1 A2 A3 A4 : Option Addr} {l : List Tbl} {css : List (List Value)} {x y : Tbl} (hf : fr wr w3) (hown : wr.ownsRow base 57 5 (.slice (some ⟨g, 0, none⟩) n c0) n css.flatten)
    (hys : All2 (tbR wr (freshL wr base (.slice (some ⟨g, 0, none⟩) n c0))) l css) (hcx : css[j]? = some [.int .i64 x.id, .int .i64 x.level, .int .i64 x.count, .slice A1 x.lo.length c1, .slice A2 x.hi.length c2])
    (hcy : css[i]? = some [.int .i64 y.id, .int .i64 y.level, .int .i64 y.count, .slice A3 y.lo.length c3, .slice A4 y.hi.length c4]) (hx : l[j]? = some x) (hy : l[i]? = some y) (hn : l.length = n) :
    OwnTabs (put5 (put5 w3 g (i * 5) (.int .i64 x.id) (.int .i64 x.level) (.int .i64 x.count) (.slice A1 x.lo.length c1) (.slice A2 x.hi.length c2)) g (j * 5) (.int .i64 y.id) (.int .i64 y.level) (.int .i64 y.count) (.slice A3 y.lo.length c3) (.slice A4 y.hi.length c4)) base (.slice (some ⟨g, 0, none⟩) n c0) ((l.set i x).set j y) := by
  have hall := tbT_len hys
  have hi := (List.getElem?_eq_some_iff.1 hcy).1
  have hj := (List.getElem?_eq_some_iff.1 hcx).1
  have ho : Only (fun i => i = g) w3 _ := (put5_only w3 g (i * 5) (.int .i64 x.id) (.int .i64 x.level) (.int .i64 x.count) (.slice A1 x.lo.length c1) (.slice A2 x.hi.length c2)).trans (put5_only _ g (j * 5) (.int .i64 y.id) (.int .i64 y.level) (.int .i64 y.count) (.slice A3 y.lo.length c3) (.slice A4 y.hi.length c4))
  have o1 := put5_own (own_below hown hf) hall (i := i) hi (.int .i64 x.id) (.int .i64 x.level) (.int .i64 x.count) (.slice A1 x.lo.length c1) (.slice A2 x.hi.length c2)
  have hall2 : ∀ cs ∈ css.set i [.int .i64 x.id, .int .i64 x.level, .int .i64 x.count, .slice A1 x.lo.length c1, .slice A2 x.hi.length c2], cs.length = 5 := fun cs hm => by
    rcases List.mem_or_eq_of_mem_set hm with h | h
    · exact hall _ h
    · rw [h]; rfl
  have o2 := put5_own o1 hall2 (i := j) (by rw [List.length_set]; omega) (.int .i64 y.id) (.int .i64 y.level) (.int .i64 y.count) (.slice A3 y.lo.length c3) (.slice A4 y.hi.length c4)
  generalize hW : put5 (put5 w3 g (i * 5) _ _ _ _ _) g (j * 5) _ _ _ _ _ = W at ho o2 ⊢
  have hys2 : All2 (tbR W (freshL W base (.slice (some ⟨g, 0, none⟩) n c0))) l css := hys.imp fun _ _ hz => tbFine.keep hz fun _ _ _ _ hr =>
    ((hr.below hf).only ho fun i _ hi e => hi.2.1 (by rw [e]; rfl)).mono fun i hi => ⟨hi.1, hi.2.1, (hi.2.2.below hf).only ho fun e => hi.2.1 (by rw [e]; rfl)⟩
  obtain ⟨tx, htx, rx⟩ := hys2.at_ hx
  obtain ⟨ty, hty, ry⟩ := hys2.at_ hy
  rw [hcx] at htx
  rw [hcy] at hty
  obtain rfl := Option.some.inj htx
  obtain rfl := Option.some.inj hty
  exact ⟨_, by rw [List.length_set, List.length_set, hn]; exact o2, all2T_set (all2T_set hys2 rx _) ry _⟩
theorem set_mid {α : Type} {A B : List α} {x y : α} {k : Nat} (hk : A.length = k) : (A ++ x :: B).set k y = A ++ y :: B := by
  subst hk
  rw [List.set_append_right _ _ (Nat.le_refl _), Nat.sub_self, List.set_cons_zero]
theorem get_mid {α : Type} {A B : List α} {x : α} {k : Nat} (hk : A.length = k) : (A ++ x :: B)[k]? = some x := by
  subst hk
  simp
theorem set_two {α : Type} {A B C : List α} {x y : α} {i j : Nat} (hi : A.length = i) (hj : A.length + 1 + B.length = j) : ((A ++ x :: (B ++ y :: C)).set i y).set j x = A ++ y :: (B ++ x :: C) := by
  rw [set_mid hi]
  have e : A ++ y :: (B ++ y :: C) = (A ++ y :: B) ++ y :: C := by simp
  rw [e, set_mid (by simp; omega)]
  simp
theorem put55_only (w3 : World) (g o1 o2 : Nat) (a b c d e a' b' c' d' e' : Value) : Only (fun i => g = i) w3 (put5 (put5 w3 g o1 a b c d e) g o2 a' b' c' d' e') :=
  ((put5_only _ _ _ _ _ _ _ _).trans (put5_only _ _ _ _ _ _ _ _)).mono fun _ e => e.symm
set_option maxRecDepth 100000 in
set_option maxHeartbeats 1000000 in
theorem swapRange_any (base n g c a b m : Nat) (P X Y Z S : List Tbl) (w : World) (h : OwnTabs w base (.slice (some ⟨g, 0, none⟩) n c) (P ++ X ++ Y ++ Z ++ S)) (hn : (P ++ X ++ Y ++ Z ++ S).length = n) (ha : P.length = a) (hX : X.length = m) (hZ : Z.length = m) (hb : a + m + Y.length = b) (hbig : n ≤ 1073742848) :
    Calls Tryz.prog 298 #[.slice (some ⟨g, 0, none⟩) n c, .int .i64 a, .int .i64 b, .int .i64 m, lessTV] w fun r w' => r = .returned (.tuple #[]) ∧ OwnTabs w' base (.slice (some ⟨g, 0, none⟩) n c) (P ++ Z ++ Y ++ X ++ S) ∧ Only (fun i => g = i) w w' := by
  have H := Lib.hid h
  have HX := Lib.hid hX
  have HZ := Lib.hid hZ
  have HP := Lib.hid ha
  have HY := Lib.hid hb
  have hbm : b + m ≤ n := by simp at hn; omega
  have HBM := Lib.hid hbm
  clear h hX hZ ha hb hbm
  go_enter Tryz.func298, Tryz.ntmps298
  go_wp2
  go_loopw [10] (fun t wx => ∃ (k : Nat) (X1 X2 Z1 Z2 : List Tbl), k ≤ m ∧ t = .int .i64 k ∧ X = X1 ++ X2 ∧ Z = Z1 ++ Z2 ∧ X1.length = k ∧ Z1.length = k ∧ OwnTabs wx base (.slice (some ⟨g, 0, none⟩) n c) (P ++ (Z1 ++ X2) ++ Y ++ (X1 ++ Z2) ++ S) ∧ Only (fun i => g = i) w wx) (fun t _ => m - (intOf t).toNat)
  case atStart => exact ⟨0, [], X, [], Z, Nat.zero_le _, rfl, rfl, rfl, rfl, rfl, H.out, Only.refl _ _⟩
  case round =>
    obtain ⟨k, X1, X2, Z1, Z2, hkm, rfl, hX1, hZ1, hl1, hl2, how, hon⟩ := hrel
    have HON := Lib.hid hon
    have HOW := Lib.hid how
    have HX1 := Lib.hid hX1
    have HZ1 := Lib.hid hZ1
    have HL1 := Lib.hid hl1
    have HL2 := Lib.hid hl2
    clear hon how hX1 hZ1 hl1 hl2
    by_cases hlt : k < m
    · obtain ⟨x, X3, hx⟩ : ∃ x X3, X2 = x :: X3 := by
        cases X2 with
        | nil => have h1 := congrArg List.length HX1.out; have h2 := HX.out; have h3 := HL1.out; simp at h1; omega
        | cons x X3 => exact ⟨x, X3, rfl⟩
      obtain ⟨z, Z3, hz⟩ : ∃ z Z3, Z2 = z :: Z3 := by
        cases Z2 with
        | nil => have h1 := congrArg List.length HZ1.out; have h2 := HZ.out; have h3 := HL2.out; simp at h1; omega
        | cons z Z3 => exact ⟨z, Z3, rfl⟩
      subst hx hz
      obtain ⟨p, hp⟩ : ∃ p, a + k = p := ⟨_, rfl⟩
      obtain ⟨q, hq⟩ : ∃ q, b + k = q := ⟨_, rfl⟩
      have e1 : P ++ (Z1 ++ x :: X3) ++ Y ++ (X1 ++ z :: Z3) ++ S = (P ++ Z1) ++ x :: ((X3 ++ Y ++ X1) ++ z :: (Z3 ++ S)) := by simp
      have hlx : X3.length + k + 1 = m := by have h1 := congrArg List.length HX1.out; have h2 := HX.out; have h3 := HL1.out; simp at h1; omega
      have i1 : (P ++ Z1).length = p := by have h1 := HP.out; have h2 := HL2.out; simp; omega
      have i2 : (P ++ Z1).length + 1 + (X3 ++ Y ++ X1).length = q := by have h1 := HP.out; have h2 := HL2.out; have h3 := HL1.out; have h4 := HY.out; simp; omega
      obtain ⟨l2, hl2⟩ : ∃ l, P ++ (Z1 ++ x :: X3) ++ Y ++ (X1 ++ z :: Z3) ++ S = l := ⟨_, rfl⟩
      rw [hl2] at HOW e1
      have gx : l2[p]? = some x := by rw [e1]; exact get_mid i1
      have gz : l2[q]? = some z := by
        have e2 : l2 = ((P ++ Z1) ++ x :: (X3 ++ Y ++ X1)) ++ z :: (Z3 ++ S) := by rw [e1]; simp
        rw [e2]; exact get_mid (by rw [← i2]; simp; omega)
      have gs : (l2.set p z).set q x = P ++ (Z1 ++ [z] ++ X3) ++ Y ++ (X1 ++ [x] ++ Z3) ++ S := by
        rw [e1, set_two i1 i2]; simp
      have hqn : q < n := by have := HBM.out; omega
      have hpn : p < n := by have := HBM.out; have := HY.out; omega
      have hlen2 : l2.length = n := by
        have h1 := congrArg List.length HX1.out
        have h2 := congrArg List.length HZ1.out
        rw [← hn, ← hl2]
        simp at h1 h2 ⊢
        omega
      obtain ⟨css, hown, hys⟩ := HOW.out
      rw [hlen2] at hown
      obtain ⟨cx, hcx, a1, a2, rfl, ha1, ha2⟩ := hys.at_ gx
      obtain ⟨cy, hcy, b1, b2, rfl, hb1, hb2⟩ := hys.at_ gz
      obtain ⟨A1, c1, rfl⟩ := slice_form ha1
      obtain ⟨A2, c2, rfl⟩ := slice_form ha2
      obtain ⟨A3, c3, rfl⟩ := slice_form hb1
      obtain ⟨A4, c4, rfl⟩ := slice_form hb2
      have hall := tbT_len hys
      have x0 : wr.cell? ⟨g, p * 5, none⟩ = some (.int .i64 x.id) := ownT_cell hown (flat_at (j := 0) hall hcx rfl)
      have x1 : wr.cell? ⟨g, p * 5 + 1, none⟩ = some (.int .i64 x.level) := ownT_cell hown (flat_at (j := 1) hall hcx rfl)
      have x2 : wr.cell? ⟨g, p * 5 + 2, none⟩ = some (.int .i64 x.count) := ownT_cell hown (flat_at (j := 2) hall hcx rfl)
      have x3 : wr.cell? ⟨g, p * 5 + 3, none⟩ = some (.slice A1 x.lo.length c1) := ownT_cell hown (flat_at (j := 3) hall hcx rfl)
      have x4 : wr.cell? ⟨g, p * 5 + 4, none⟩ = some (.slice A2 x.hi.length c2) := ownT_cell hown (flat_at (j := 4) hall hcx rfl)
      have y0 : wr.cell? ⟨g, q * 5, none⟩ = some (.int .i64 z.id) := ownT_cell hown (flat_at (j := 0) hall hcy rfl)
      have y1 : wr.cell? ⟨g, q * 5 + 1, none⟩ = some (.int .i64 z.level) := ownT_cell hown (flat_at (j := 1) hall hcy rfl)
      have y2 : wr.cell? ⟨g, q * 5 + 2, none⟩ = some (.int .i64 z.count) := ownT_cell hown (flat_at (j := 2) hall hcy rfl)
      have y3 : wr.cell? ⟨g, q * 5 + 3, none⟩ = some (.slice A3 z.lo.length c3) := ownT_cell hown (flat_at (j := 3) hall hcy rfl)
      have y4 : wr.cell? ⟨g, q * 5 + 4, none⟩ = some (.slice A4 z.hi.length c4) := ownT_cell hown (flat_at (j := 4) hall hcy rfl)
      have p0 := hown.frozenAt (p * 5)
      have p1 := hown.frozenAt (p * 5 + 1)
      have p2 := hown.frozenAt (p * 5 + 2)
      have p3 := hown.frozenAt (p * 5 + 3)
      have p4 := hown.frozenAt (p * 5 + 4)
      have q0 := hown.frozenAt (q * 5)
      have q1 := hown.frozenAt (q * 5 + 1)
      have q2 := hown.frozenAt (q * 5 + 2)
      have q3 := hown.frozenAt (q * 5 + 3)
      have q4 := hown.frozenAt (q * 5 + 4)
      have HT := Lib.hid (tabs_swapG (i := p) (j := q) (x := z) (y := x) fr.refl hown hys hcy hcx gz gx hlen2)
      rw [gs] at HT
      have HLX := Lib.hid hlx
      clear hown hys hcx hcy ha1 ha2 hb1 hb2 hall gx gz gs e1 i1 i2 hlen2 hl2
      have hw1 : IntKind.i64.wrap ((a : Int) + (k : Int)) = (p : Int) := by rw [← hp]; simp [IntKind.wrap, IntKind.signed, IntKind.bits]; omega
      have hw2 : IntKind.i64.wrap ((b : Int) + (k : Int)) = (q : Int) := by rw [← hq]; simp [IntKind.wrap, IntKind.signed, IntKind.bits]; omega
      have hp1 : (p : Int) < (n : Int) := by omega
      have hq1 : (q : Int) < (n : Int) := by omega
      have hpq : p < q := by have := HLX.out; have := HY.out; omega
      have hne1 : ¬ p = q := by omega
      have hne2 : ¬ q = p := by omega
      go_upto_region 3 with (fail)
      go_region
      go_wp2_with (fail)
      have hO := (HON.out.trans (put55_only wr g (p * 5) (q * 5) (.int .i64 z.id) (.int .i64 z.level) (.int .i64 z.count) (.slice A3 z.lo.length c3) (.slice A4 z.hi.length c4) (.int .i64 x.id) (.int .i64 x.level) (.int .i64 x.count) (.slice A1 x.lo.length c1) (.slice A2 x.hi.length c2))).drew
      have hT := OwnRows.below tbFine HT.out (fr.drew fr.refl)
      refine ⟨⟨k + 1, X1 ++ [x], X3, Z1 ++ [z], Z3, by omega, by go_num, by rw [HX1.out]; simp, by rw [HZ1.out]; simp, by rw [List.length_append, HL1.out]; rfl, by rw [List.length_append, HL2.out]; rfl, hT, hO⟩, by simp [intOf]; omega⟩
    · obtain rfl : k = m := by omega
      have h1 : X2 = [] ∧ Z2 = [] := by
        have h1 := congrArg List.length HX1.out; have h2 := HX.out; have h3 := HL1.out
        have h4 := congrArg List.length HZ1.out; have h5 := HZ.out; have h6 := HL2.out
        simp at h1 h4
        exact ⟨List.eq_nil_of_length_eq_zero (by omega), List.eq_nil_of_length_eq_zero (by omega)⟩
      obtain ⟨rfl, rfl⟩ := h1
      have e1 := HX1.out
      have e2 := HZ1.out
      rw [List.append_nil] at e1 e2
      subst e1 e2
      have e3 := HOW.out
      rw [List.append_nil, List.append_nil] at e3
      have HE := Lib.hid e3
      clear e3
      go_wp2_with (fail)
      refine bodyPost_end (v := .tuple #[]) (by simp [results, Tryz.results298, go_sem]) rfl ?_
      exact ⟨rfl, HE.out, HON.out⟩
end Go.Proofs.YtjnolpfmchnnmaaGreatDoor
end
section
namespace Go.Proofs.YtjnolpfmchnnmaaGreatDoor
set_option maxRecDepth 100000
open Go.RowKit Go.BigFrame
attribute [local go_sem ↓] Go.wp_at_zero Go.wp_at_succ
set_option maxRecDepth 100000 in
set_option maxHeartbeats 1000000 in
theorem rotate_any (base n g c a m b : Nat) (P U V S : List Tbl) (w : World) (h : OwnTabs w base (.slice (some ⟨g, 0, none⟩) n c) (P ++ U ++ V ++ S)) (hn : (P ++ U ++ V ++ S).length = n) (ha : P.length = a) (hm : a + U.length = m) (hb : m + V.length = b) (hU : 0 < U.length) (hV : 0 < V.length) (hbig : n ≤ 1073742848) :
    Calls Tryz.prog 273 #[.slice (some ⟨g, 0, none⟩) n c, .int .i64 a, .int .i64 m, .int .i64 b, lessTV] w fun r w' => r = .returned (.tuple #[]) ∧ OwnTabs w' base (.slice (some ⟨g, 0, none⟩) n c) (P ++ V ++ U ++ S) ∧ Only (fun i => g = i) w w' := by
  obtain ⟨ul, hul⟩ : ∃ k, U.length = k := ⟨_, rfl⟩
  obtain ⟨vl, hvl⟩ : ∃ k, V.length = k := ⟨_, rfl⟩
  have hbn : b ≤ n := by simp at hn; omega
  have hi0 : IntKind.i64.wrap ((m : Int) - (a : Int)) = (ul : Int) := by rw [← hm, hul]; simp [IntKind.wrap, IntKind.signed, IntKind.bits]; omega
  have hj0 : IntKind.i64.wrap ((b : Int) - (m : Int)) = (vl : Int) := by rw [← hb, hvl]; simp [IntKind.wrap, IntKind.signed, IntKind.bits]; omega
  have H := Lib.hid h
  have HUL := Lib.hid hul
  have HVL := Lib.hid hvl
  have HM : Hid (P.length + ul = m) := Lib.hid (by rw [ha, ← hul]; exact hm)
  have HU : Hid (0 < ul) := Lib.hid (by rw [← hul]; exact hU)
  have HV : Hid (0 < vl) := Lib.hid (by rw [← hvl]; exact hV)
  have HN := Lib.hid hn
  clear h hul hvl hm ha hb hU hV hn
  go_enter Tryz.func273, Tryz.ntmps273
  go_wp2
  obtain ⟨T, hT⟩ : ∃ T, P ++ V ++ U ++ S = T := ⟨_, rfl⟩
  go_loopw [10, 11] (fun s t wx => ∃ (i j : Nat) (P' U' V' S' : List Tbl), s = .int .i64 i ∧ t = .int .i64 j ∧ 0 < i ∧ 0 < j ∧ P' ++ V' ++ U' ++ S' = T ∧ (P' ++ U' ++ V' ++ S').length = n ∧ U'.length = i ∧ V'.length = j ∧ P'.length + i = m ∧ OwnTabs wx base (.slice (some ⟨g, 0, none⟩) n c) (P' ++ U' ++ V' ++ S') ∧ Only (fun i => g = i) w wx) (fun s t _ => (intOf s).toNat + (intOf t).toNat)
  case atStart => exact ⟨ul, vl, P, U, V, S, rfl, rfl, HU.out, HV.out, hT, HN.out, HUL.out, HVL.out, HM.out, H.out, Only.refl _ _⟩
  case round =>
    obtain ⟨i, j, P', U', V', S', rfl, rfl, hi, hj, hT', hn', hu, hv, hm', how, hon⟩ := hrel
    have hjn : m + j ≤ n := by simp at hn'; omega
    obtain ⟨p, hp⟩ : ∃ p, P'.length = p := ⟨_, rfl⟩
    have hmi : IntKind.i64.wrap ((m : Int) - (i : Int)) = (p : Int) := by rw [← hm', hp]; simp [IntKind.wrap, IntKind.signed, IntKind.bits]; omega
    have HON := Lib.hid hon
    have HOW := Lib.hid how
    have HTT := Lib.hid hT'
    have HNN := Lib.hid hn'
    have HUU := Lib.hid hu
    have HVV := Lib.hid hv
    have HMM := Lib.hid hm'
    have HPP := Lib.hid hp
    clear hon how hT' hn' hu hv hm' hp
    have hin : i ≤ n := by have := HMM.out; omega
    rcases Nat.lt_trichotomy i j with hlt | rfl | hlt
    · obtain ⟨V1, V2, rfl, hv2⟩ : ∃ V1 V2, V' = V1 ++ V2 ∧ V2.length = i := ⟨V'.take (j - i), V'.drop (j - i), (List.take_append_drop _ _).symm, by rw [List.length_drop, HVV.out]; omega⟩
      have hv1 : V1.length = j - i := by have := HVV.out; simp at this; omega
      obtain ⟨q, hq⟩ : ∃ q, m + (j - i) = q := ⟨_, rfl⟩
      have hqi : (m : Int) + (j : Int) - (i : Int) = (q : Int) := by omega
      have h3 : ((i : Int) == (j : Int)) = false := by simp; omega
      have h4 : decide ((j : Int) < (i : Int)) = false := by simp; omega
      have HC := Lib.hid (swapRange_any base n g c p q i P' U' V1 V2 S' wr (by have := HOW.out; simpa using this) (by have := HNN.out; simpa using this) HPP.out HUU.out hv2 (by rw [← hq, hv1]; have := HMM.out; have := HPP.out; omega) hbig)
      have HV1 := Lib.hid hv1
      have HV2 := Lib.hid hv2
      clear hv1 hv2
      go_wp2_with (first | rw [hqi] | (go_at_call 298; refine HC.out.mono ?_; rintro r w2 ⟨rfl, ho2, hon2⟩))
      refine ⟨⟨i, j - i, P', V2, V1, U' ++ S', rfl, by go_num, hi, by omega, by rw [← HTT.out]; simp, ?_, HV2.out, HV1.out, HMM.out, ?_, HON.out.trans hon2⟩, by simp [intOf]; omega⟩
      · have := HNN.out; simp at this ⊢; omega
      · simpa using ho2
    · have h3 : ((i : Int) == (i : Int)) = true := by simp
      have HC := Lib.hid (swapRange_any base n g c p m i P' U' [] V' S' wr (by have := HOW.out; simpa using this) (by have := HNN.out; simpa using this) HPP.out HUU.out HVV.out (by have := HMM.out; have := HPP.out; simp; omega) hbig)
      go_wp2_with (go_at_call 298; refine HC.out.mono ?_; rintro r w2 ⟨rfl, ho2, hon2⟩)
      refine bodyPost_end (v := .tuple #[]) (by simp [results, Tryz.results273, go_sem]) rfl ?_
      exact ⟨rfl, by have h9 := HTT.out; rw [← hT] at h9; rw [hT, ← HTT.out]; simpa using ho2, HON.out.trans hon2⟩
    · obtain ⟨U1, U2, rfl, hu1⟩ : ∃ U1 U2, U' = U1 ++ U2 ∧ U1.length = j := ⟨U'.take j, U'.drop j, (List.take_append_drop _ _).symm, by rw [List.length_take, HUU.out]; omega⟩
      have hu2 : U2.length = i - j := by have := HUU.out; simp at this; omega
      have h3 : ((i : Int) == (j : Int)) = false := by simp; omega
      have h4 : decide ((j : Int) < (i : Int)) = true := by simp; omega
      have HC := Lib.hid (swapRange_any base n g c p m j P' U1 U2 V' S' wr (by have := HOW.out; simpa using this) (by have := HNN.out; simpa using this) HPP.out hu1 HVV.out (by rw [hu2]; have := HMM.out; have := HPP.out; omega) hbig)
      have HU1 := Lib.hid hu1
      have HU2 := Lib.hid hu2
      clear hu1 hu2
      go_wp2_with (go_at_call 298; refine HC.out.mono ?_; rintro r w2 ⟨rfl, ho2, hon2⟩)
      refine ⟨⟨i - j, j, P' ++ V', U2, U1, S', by go_num, rfl, by omega, hj, by rw [← HTT.out]; simp, ?_, HU2.out, HU1.out, ?_, ?_, HON.out.trans hon2⟩, by simp [intOf]; omega⟩
      · have := HNN.out; simp at this ⊢; omega
      · have := HMM.out; have := HVV.out; rw [List.length_append]; omega
      · simpa using ho2
end Go.Proofs.YtjnolpfmchnnmaaGreatDoor
end
