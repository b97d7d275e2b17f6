/-
usanceref13.Fold (printed by genrf.py).
-/
import Derived.Test.YtjnolpfmchnnmaaGreatDoorQPOwnM13
import Derived.Test.YtjnolpfmchnnmaaGreatDoorQPOwnM5
import Derived.Deep.Cut
import Derived.Deep.CutRange
import Derived.Deep.DeepCutAuto
section
namespace Go.Proofs.YtjnolpfmchnnmaaGreatDoor
set_option maxRecDepth 100000
open Go.RowKit Go.BigFrame
attribute [local go_sem ↓] Go.wp_at_zero Go.wp_at_succ
theorem rless_bytes (a b : List UInt8) (w : World) (ha : a.length ≤ 140737488355328) (hb : b.length ≤ 140737488355328) :
    Calls Tryz.prog 81 #[.string ⟨a.toArray⟩, .string ⟨b.toArray⟩] w fun r w' => r = .returned (.int .i64 (cmpB a b)) ∧ fr w w' := by
  have := rless_ba ⟨a.toArray⟩ ⟨b.toArray⟩ w (by simpa [ByteArray.size] using ha) (by simpa [ByteArray.size] using hb)
  simpa using this
theorem okA_step {ids add : List Int} {i : Nat} {d : Int} (hd : add[i]? = some d) (h : okA ids (add.take i) = true) (h1 : d ∉ ids) (h2 : d ∉ add.take i) : okA ids (add.take (i + 1)) = true := by
  have e : add.take (i + 1) = add.take i ++ [d] := by rw [List.take_add_one, hd]; rfl
  rw [e]
  unfold okA at h ⊢
  simp only [Bool.and_eq_true, decide_eq_true_eq, List.all_eq_true] at h ⊢
  refine ⟨List.nodup_append.2 ⟨h.1, List.pairwise_singleton _ _, fun a ha b hb => ?_⟩, fun x hx => ?_⟩
  · rw [List.mem_singleton.1 hb]; exact fun e => h2 (e ▸ ha)
  · rcases List.mem_append.1 hx with hx | hx
    · exact h.2 x hx
    · rw [List.mem_singleton.1 hx]; exact h1
theorem tabsV_nil (w : World) (S : Nat → Prop) : TabsV w S (.slice none 0 0) [] := ⟨none, 0, [], rfl, Nat.le_refl _, by simp, by simp, Row.nil _ _ _ _, .nil⟩
theorem okK_hi {t : Tbl} (h : t.lo.length ≠ 0) (h2 : t.hi.length = 0) : okK t = false := by
  have e : t.hi = [] := List.eq_nil_of_length_eq_zero h2
  unfold okK
  rw [e]
  cases hl : t.lo with
  | nil => rw [hl] at h; exact absurd rfl h
  | cons x l => simp [cmpB]
def RFoldR (S : Nat → Prop) (w w' : World) (v : Ver) (e : Edt) (r : Ending) : Prop :=
  ∃ x, r = .returned (.tuple #[x, .int .i64 (foldE v e)]) ∧ (∃ A n c a b d, x = .agg #[.slice A n c, .int .i64 a, .int .i64 b, .int .i64 d]) ∧ (foldE v e = 0 → VerV w' (fun i => S i ∨ w.heap.size ≤ i) x (sortTb (foldT v e)) e.lg e.sq (foldN v e)) ∧ fr w w'
set_option maxRecDepth 100000 in
set_option maxHeartbeats 8000000 in
theorem rfold_any (S : Nat → Prop) (vt at_ dr : Value) (v : Ver) (e : Edt) (w : World) (hv : TabsV w S vt v.tabs) (ha : TabsV w S at_ e.add) (hd : IntsIn w S dr e.drop) (hnd : (idsT v.tabs).Nodup) (hvl : v.tabs.length ≤ 1073741824) :
    Calls Tryz.prog 27 #[.agg #[vt, .int .i64 v.lg, .int .i64 v.sq, .int .i64 v.nx], .agg #[at_, dr, .int .i64 e.lg, .int .i64 e.sq]] w fun r w' => RFoldR S w w' v e r := by
  obtain ⟨Av, cv, rfl⟩ := hv.form
  obtain ⟨Aa, ca, rfl⟩ := ha.form
  obtain ⟨nv, hnv⟩ : ∃ n, v.tabs.length = n := ⟨_, rfl⟩
  obtain ⟨na, hna⟩ : ∃ n, e.add.length = n := ⟨_, rfl⟩
  obtain ⟨nd, hnd'⟩ : ∃ n, e.drop.length = n := ⟨_, rfl⟩
  obtain ⟨Ad, cd, rfl⟩ : ∃ A c, dr = .slice A e.drop.length c := by obtain ⟨A, c, h, _⟩ := hd; exact ⟨A, c, h⟩
  rw [hnv] at hv hvl ⊢
  rw [hna] at ha ⊢
  rw [hnd'] at hd ⊢
  obtain ⟨T, hT⟩ : ∃ T : Nat → Prop, T = fun i => S i ∧ i < w.heap.size := ⟨_, rfl⟩
  have HV : Hid (TabsV w T (.slice Av nv cv) v.tabs) := Lib.hid (Rows.keep tbFine hv fun _ _ _ _ hr => hr.monoLt (S' := T) fun i hi hs => by rw [hT]; exact ⟨hs, hi⟩)
  have HA : Hid (TabsV w T (.slice Aa na ca) e.add) := Lib.hid (Rows.keep tbFine ha fun _ _ _ _ hr => hr.monoLt (S' := T) fun i hi hs => by rw [hT]; exact ⟨hs, hi⟩)
  have HT0 := Lib.hid hT
  have HD := Lib.hid hd
  have HNV := Lib.hid hnv
  have HNA := Lib.hid hna
  have HND := Lib.hid hnd'
  have HNO := Lib.hid hnd
  have hnv72 : nv * 72 ≤ 140737488355328 := by obtain ⟨_, _, _, _, _, _, h3, _⟩ := hv; rw [← hnv]; exact h3
  have hnac : na ≤ ca ∧ ca ≤ 9223372036854775807 := by obtain ⟨_, _, _, hE, h1, h2, _⟩ := ha; injection hE with _ e2 e3; omega
  have hna72 : na * 72 ≤ 140737488355328 := by obtain ⟨_, _, _, _, _, _, h3, _⟩ := ha; rw [← hna]; exact h3
  clear hv ha hd hnv hna hnd' hnd hT
  go_enter Tryz.func27, Tryz.ntmps27
  go_upto_region 1 with (fail)
  have hb := FoldB.new w (.slice Av nv cv) (.slice Aa na ca) (.slice Ad nd cd) v.lg v.sq v.nx e.lg e.sq
  have hf1 : fr w (((w.alloc (.cells #[.slice Av nv cv, .int .i64 v.lg, .int .i64 v.sq, .int .i64 v.nx] 50)).alloc (.cells #[.slice Aa na ca, .slice Ad nd cd, .int .i64 e.lg, .int .i64 e.sq] 45)).alloc (.cells #[.slice none 0 0, .int .i64 0, .int .i64 0, .int .i64 0] 50)) := fr.alloc (fr.alloc (fr.alloc fr.refl _) _) _
  have hsz1 : (((w.alloc (.cells #[.slice Av nv cv, .int .i64 v.lg, .int .i64 v.sq, .int .i64 v.nx] 50)).alloc (.cells #[.slice Aa na ca, .slice Ad nd cd, .int .i64 e.lg, .int .i64 e.sq] 45)).alloc (.cells #[.slice none 0 0, .int .i64 0, .int .i64 0, .int .i64 0] 50)).heap.size = w.heap.size + 3 := by simp
  obtain ⟨z, hz⟩ : ∃ z, w.heap.size = z := ⟨_, rfl⟩
  have HZ := Lib.hid hz
  rw [hz] at hb hsz1 ⊢
  generalize ((w.alloc (.cells #[.slice Av nv cv, .int .i64 v.lg, .int .i64 v.sq, .int .i64 v.nx] 50)).alloc (.cells #[.slice Aa na ca, .slice Ad nd cd, .int .i64 e.lg, .int .i64 e.sq] 45)).alloc (.cells #[.slice none 0 0, .int .i64 0, .int .i64 0, .int .i64 0] 50) = w1 at hb hf1 hsz1 ⊢
  have HB := Lib.hid hb
  have HF1 := Lib.hid hf1
  have e0 := cell_of_row _ _ 0 _ _ _ hb.b1
  have e1 := cell_of_row _ _ 1 _ _ _ hb.b1
  clear hb hf1 hz
  by_cases hbig : 1024 < na ∨ 1024 < nd
  · have HE : Hid (foldE v e = 3) := Lib.hid (by unfold foldE; rw [if_pos (by rw [HNA.out, HND.out]; exact hbig)])
    rcases hbig with hbig | hbig
    · skip
      have r0 := cell_of_row _ _ 0 _ _ _ HB.out.b2
      have r1 := cell_of_row _ _ 1 _ _ _ HB.out.b2
      have r2 := cell_of_row _ _ 2 _ _ _ HB.out.b2
      have r3 := cell_of_row _ _ 3 _ _ _ HB.out.b2
      have z0 := frozen_of_row _ _ 0 _ _ HB.out.b2
      have z1 := frozen_of_row _ _ 1 _ _ HB.out.b2
      have z2 := frozen_of_row _ _ 2 _ _ HB.out.b2
      have z3 := frozen_of_row _ _ 3 _ _ HB.out.b2
      go_wp2_with (fail)
      rw [zero_same HB.out.b2]
      refine bodyPost_ret (v := .tuple #[zeroVer, .int .i64 3]) (by simp [results, Tryz.results27, go_sem, r0, r1, r2, r3]) rfl ?_
      exact ⟨_, by rw [HE.out], ⟨none, 0, 0, 0, 0, 0, rfl⟩, fun h => absurd h (by rw [HE.out]; decide), HF1.out⟩
    · have hd1 : decide ((1024 : Int) < (nd : Int)) = true := decide_eq_true (by omega)
      by_cases hb2 : 1024 < na
      · skip
        have r0 := cell_of_row _ _ 0 _ _ _ HB.out.b2
        have r1 := cell_of_row _ _ 1 _ _ _ HB.out.b2
        have r2 := cell_of_row _ _ 2 _ _ _ HB.out.b2
        have r3 := cell_of_row _ _ 3 _ _ _ HB.out.b2
        have z0 := frozen_of_row _ _ 0 _ _ HB.out.b2
        have z1 := frozen_of_row _ _ 1 _ _ HB.out.b2
        have z2 := frozen_of_row _ _ 2 _ _ HB.out.b2
        have z3 := frozen_of_row _ _ 3 _ _ HB.out.b2
        go_wp2_with (fail)
        rw [zero_same HB.out.b2]
        refine bodyPost_ret (v := .tuple #[zeroVer, .int .i64 3]) (by simp [results, Tryz.results27, go_sem, r0, r1, r2, r3]) rfl ?_
        exact ⟨_, by rw [HE.out], ⟨none, 0, 0, 0, 0, 0, rfl⟩, fun h => absurd h (by rw [HE.out]; decide), HF1.out⟩
      · have hd2 : decide ((1024 : Int) < (na : Int)) = false := decide_eq_false (by omega)
        have r0 := cell_of_row _ _ 0 _ _ _ HB.out.b2
        have r1 := cell_of_row _ _ 1 _ _ _ HB.out.b2
        have r2 := cell_of_row _ _ 2 _ _ _ HB.out.b2
        have r3 := cell_of_row _ _ 3 _ _ _ HB.out.b2
        have z0 := frozen_of_row _ _ 0 _ _ HB.out.b2
        have z1 := frozen_of_row _ _ 1 _ _ HB.out.b2
        have z2 := frozen_of_row _ _ 2 _ _ HB.out.b2
        have z3 := frozen_of_row _ _ 3 _ _ HB.out.b2
        go_wp2_with (fail)
        rw [zero_same HB.out.b2]
        refine bodyPost_ret (v := .tuple #[zeroVer, .int .i64 3]) (by simp [results, Tryz.results27, go_sem, r0, r1, r2, r3]) rfl ?_
        exact ⟨_, by rw [HE.out], ⟨none, 0, 0, 0, 0, 0, rfl⟩, fun h => absurd h (by rw [HE.out]; decide), HF1.out⟩
  have h1a : decide ((1024 : Int) < (na : Int)) = false := decide_eq_false (by omega)
  have h1d : decide ((1024 : Int) < (nd : Int)) = false := decide_eq_false (by omega)
  have H1A : Hid (¬ (1024 < e.add.length ∨ 1024 < e.drop.length)) := Lib.hid (by rw [HNA.out, HND.out]; exact hbig)
  have hnad : na ≤ 1024 ∧ nd ≤ 1024 := by omega
  clear hbig
  go_wp2_with (fail)
  clear h1a h1d
  go_loopw [32] (fun t wx => ∃ i : Nat, i ≤ nd ∧ t = .int .i64 i ∧ okD (idsT v.tabs) (e.drop.take i) = true ∧ fr w1 wx) (fun t _ => nd - (intOf t).toNat)
  case atStart => exact ⟨0, Nat.zero_le _, rfl, rfl, fr.refl⟩
  case round =>
    obtain ⟨i, hi, rfl, hok, hfx⟩ := hrel
    obtain ⟨wb, hwb⟩ : ∃ x, x = wr := ⟨_, rfl⟩
    subst hwb
    have HOK := Lib.hid hok
    have HFX1 := Lib.hid hfx
    have HFX := Lib.hid (fr.step HF1.out hfx)
    have HBX := Lib.hid (HB.out.below hfx)
    have b0 := cell_of_row _ _ 0 _ _ _ HBX.out.b0
    have b1 := cell_of_row _ _ 1 _ _ _ HBX.out.b1
    clear hok hfx e0 e1
    by_cases hin : i < nd
    · obtain ⟨d, hd⟩ : ∃ d, e.drop[i]? = some d := ⟨_, List.getElem?_eq_getElem (by rw [HND.out]; exact hin)⟩
      obtain ⟨A', c', hE, _, _, hr⟩ := HD.out.below HFX.out
      injection hE with hE1 _ _
      subst hE1
      rw [HND.out] at hr
      obtain ⟨b, o, rfl, _, _, hc⟩ := hr.2 (by omega)
      have x0 : wb.cell? ⟨b, o + i, none⟩ = some (.int .i64 d) := hc i _ (by rw [List.getElem?_map, hd]; rfl)
      have HDD := Lib.hid hd
      have HCC : Hid (∀ (j : Nat) (u : Value), (e.drop.map (Value.int .i64))[j]? = some u → wb.cell? ⟨b, o + j, none⟩ = some u) := Lib.hid hc
      have HQ : Hid (∀ m, Calls Tryz.prog 80 #[.slice Av nv cv, .int .i64 d] (wb.drewN m) fun r w' => r = .returned (.int .i64 (atG d v.tabs 0)) ∧ w' = wb.drewN m) := Lib.hid fun m => at_any T _ v.tabs d (wb.drewN m) (Rows.below tbFine HV.out (fr.step HFX.out frH_drewN))
      clear hc hr hd
      by_cases hmem : d ∈ idsT v.tabs
      · have hd1 : decide (atG d v.tabs 0 < 0) = false := by rw [atG_neg', decide_eq_false (fun h => h hmem)]
        have HMEM := Lib.hid hmem
        clear hmem
        go_wp2_with (fail)
        go_quiet ((go_at_call 80; exact Calls.quiet_of_same (HQ.out _)))
        obtain ⟨wq, hwq⟩ : ∃ wq, wb.drewN nq = wq := ⟨_, rfl⟩
        rw [hwq]
        have hfq : fr wb wq := by rw [← hwq]; exact frH_drewN
        clear hwq
        have HBQ := Lib.hid (HBX.out.below hfq)
        have HFQ := Lib.hid (fr.step HFX.out hfq)
        have HFQ1 := Lib.hid (fr.step HFX1.out hfq)
        have HCQ : Hid (∀ (j : Nat) (u : Value), (e.drop.map (Value.int .i64))[j]? = some u → wq.cell? ⟨b, o + j, none⟩ = some u) := Lib.hid fun j u hu => hfq.cell (HCC.out j u hu)
        have xq := hfq.cell x0
        clear hfq x0 hd1 b0 b1
        go_wp2_with (fail)
        go_loopw [7] (fun t wx => ∃ k : Nat, k ≤ i ∧ t = .int .i64 k ∧ d ∉ e.drop.take k ∧ fr wq wx) (fun t _ => i - (intOf t).toNat)
        case atStart => exact ⟨0, Nat.zero_le _, rfl, by simp, fr.refl⟩
        case round =>
          obtain ⟨k, hk, rfl, hno, hfk⟩ := hrel
          obtain ⟨wk, hwk⟩ : ∃ x, x = wr := ⟨_, rfl⟩
          subst hwk
          have HNK := Lib.hid hno
          have HFK := Lib.hid (fr.step HFQ.out hfk)
          have HFK1 := Lib.hid (fr.step HFQ1.out hfk)
          have HFKQ := Lib.hid hfk
          have HBK := Lib.hid (HBQ.out.below hfk)
          have xk := hfk.cell xq
          have b1 := cell_of_row _ _ 1 _ _ _ HBK.out.b1
          clear hno
          by_cases hki : k < i
          · obtain ⟨d2, hd2⟩ : ∃ d, e.drop[k]? = some d := ⟨_, List.getElem?_eq_getElem (by rw [HND.out]; omega)⟩
            have y0 : wk.cell? ⟨b, o + k, none⟩ = some (.int .i64 d2) := hfk.cell (HCQ.out k _ (by rw [List.getElem?_map, hd2]; rfl))
            have HD2 := Lib.hid hd2
            clear hfk hd2 xq
            by_cases hdd : d2 = d
            · have hd3 : (d2 == d) = true := by simpa using hdd
              have HE : Hid (foldE v e = 12) := Lib.hid (by unfold foldE; rw [if_neg H1A.out, if_pos (okD_bad HDD.out (.inr (by
                have : e.drop[k]? = some d := by rw [HD2.out, hdd]
                exact List.mem_of_getElem? (i := k) (by rw [List.getElem?_take_of_lt hki]; exact this))))])
              clear hdd
              go_wp2_with (fail)
              go_quiet (fail)
              obtain ⟨wq2, hwq2⟩ : ∃ wq, wk.drewN nq = wq := ⟨_, rfl⟩
              rw [hwq2]
              have hfq2 : fr wk wq2 := by rw [← hwq2]; exact frH_drewN
              clear hwq2
              have HB9 := Lib.hid (HBK.out.below hfq2)
              have HF9 := Lib.hid (fr.step HFK.out hfq2)
              clear hfq2
              have r0 := cell_of_row _ _ 0 _ _ _ HB9.out.b2
              have r1 := cell_of_row _ _ 1 _ _ _ HB9.out.b2
              have r2 := cell_of_row _ _ 2 _ _ _ HB9.out.b2
              have r3 := cell_of_row _ _ 3 _ _ _ HB9.out.b2
              have z0 := frozen_of_row _ _ 0 _ _ HB9.out.b2
              have z1 := frozen_of_row _ _ 1 _ _ HB9.out.b2
              have z2 := frozen_of_row _ _ 2 _ _ HB9.out.b2
              have z3 := frozen_of_row _ _ 3 _ _ HB9.out.b2
              go_wp2_with (fail)
              rw [zero_same HB9.out.b2]
              refine bodyPost_ret (v := .tuple #[zeroVer, .int .i64 12]) (by simp [results, Tryz.results27, go_sem, r0, r1, r2, r3]) rfl ?_
              exact ⟨_, by rw [HE.out], ⟨none, 0, 0, 0, 0, 0, rfl⟩, fun h => absurd h (by rw [HE.out]; decide), HF9.out⟩
            · have hd3 : (d2 == d) = false := by simpa using hdd
              have hno2 : d ∉ e.drop.take (k + 1) := by
                rw [take_snoc HD2.out, List.mem_append, List.mem_singleton]
                exact fun h => h.elim HNK.out fun h => hdd h.symm
              have HNO2 := Lib.hid hno2
              clear hdd hno2
              go_wp2_with (fail)
              go_quiet (fail)
              obtain ⟨wq2, hwq2⟩ : ∃ wq, wk.drewN nq = wq := ⟨_, rfl⟩
              rw [hwq2]
              have hfq2 : fr wk wq2 := by rw [← hwq2]; exact frH_drewN
              clear hwq2
              go_wp2_with (fail)
              exact ⟨⟨k + 1, by omega, by go_num, HNO2.out, fr.step HFKQ.out hfq2⟩, by simp [intOf]; omega⟩
          · obtain rfl : k = i := by omega
            have hk7 := okD_step HDD.out HOK.out HMEM.out HNK.out
            clear hfk xq xk b1
            go_wp2_with (fail)
            exact ⟨⟨k + 1, by omega, by go_num, hk7, HFK1.out⟩, by simp [intOf]; omega⟩
      · have hd1 : decide (atG d v.tabs 0 < 0) = true := by rw [atG_neg', decide_eq_true hmem]
        have HE : Hid (foldE v e = 12) := Lib.hid (by unfold foldE; rw [if_neg H1A.out, if_pos (okD_bad HDD.out (.inl hmem))])
        clear hmem
        go_wp2_with (fail)
        go_quiet ((go_at_call 80; exact Calls.quiet_of_same (HQ.out _)))
        obtain ⟨wq, hwq⟩ : ∃ wq, wb.drewN nq = wq := ⟨_, rfl⟩
        rw [hwq]
        have hfq : fr wb wq := by rw [← hwq]; exact frH_drewN
        clear hwq
        have HB9 := Lib.hid (HBX.out.below hfq)
        have HF9 := Lib.hid (fr.step HFX.out hfq)
        clear hfq
        have r0 := cell_of_row _ _ 0 _ _ _ HB9.out.b2
        have r1 := cell_of_row _ _ 1 _ _ _ HB9.out.b2
        have r2 := cell_of_row _ _ 2 _ _ _ HB9.out.b2
        have r3 := cell_of_row _ _ 3 _ _ _ HB9.out.b2
        have z0 := frozen_of_row _ _ 0 _ _ HB9.out.b2
        have z1 := frozen_of_row _ _ 1 _ _ HB9.out.b2
        have z2 := frozen_of_row _ _ 2 _ _ HB9.out.b2
        have z3 := frozen_of_row _ _ 3 _ _ HB9.out.b2
        go_wp2_with (fail)
        rw [zero_same HB9.out.b2]
        refine bodyPost_ret (v := .tuple #[zeroVer, .int .i64 12]) (by simp [results, Tryz.results27, go_sem, r0, r1, r2, r3]) rfl ?_
        exact ⟨_, by rw [HE.out], ⟨none, 0, 0, 0, 0, 0, rfl⟩, fun h => absurd h (by rw [HE.out]; decide), HF9.out⟩
    · obtain rfl : i = nd := by omega
      rw [List.take_of_length_le (by rw [HND.out]; exact Nat.le_refl _)] at HOK
      have e0 := cell_of_row _ _ 0 _ _ _ HBX.out.b1
      clear b0 b1
      go_wp2_with (fail)
      go_loopw [66] (fun t wx => ∃ j : Nat, j ≤ na ∧ t = .int .i64 j ∧ (e.add.take j).all okR = true ∧ fr wb wx) (fun t _ => na - (intOf t).toNat)
      case atStart => exact ⟨0, Nat.zero_le _, rfl, rfl, fr.refl⟩
      case round =>
        obtain ⟨j, hj, rfl, hall, hfx⟩ := hrel
        have HALL := Lib.hid hall
        have HFR := Lib.hid hfx
        have HFY := Lib.hid (fr.step HFX.out hfx)
        have HBY := Lib.hid (HBX.out.below hfx)
        clear hall hfx e0
        have e0 := cell_of_row _ _ 0 _ _ _ HBY.out.b1
        by_cases hin : j < na
        · obtain ⟨t, hf⟩ : ∃ t, e.add[j]? = some t := ⟨_, List.getElem?_eq_getElem (by rw [HNA.out]; exact hin)⟩
          obtain ⟨b, o, cs, rfl, hblt, _, ⟨va, vb, rfl, hva, hvb⟩, hc⟩ := Rows.at_ tbFine (Rows.below tbFine HA.out HFY.out) hf
          obtain ⟨A1, c1, rfl⟩ := slice_form hva
          obtain ⟨A2, c2, rfl⟩ := slice_form hvb
          have x0 : wr.cell? ⟨b, o + j * 5, none⟩ = _ := hc 0 _ rfl
          have x1 : wr.cell? ⟨b, o + j * 5 + 1, none⟩ = _ := hc 1 _ rfl
          have x2 : wr.cell? ⟨b, o + j * 5 + 2, none⟩ = _ := hc 2 _ rfl
          have x3 : wr.cell? ⟨b, o + j * 5 + 3, none⟩ = _ := hc 3 _ rfl
          have x4 : wr.cell? ⟨b, o + j * 5 + 4, none⟩ = _ := hc 4 _ rfl
          have HT := Lib.hid hf
          clear hc hf hva hvb
          go_upto_region 18 with (fail)
          have hal : fr wr (wr.alloc (.cells #[.int .i64 t.id, .int .i64 t.level, .int .i64 t.count, .slice A1 t.lo.length c1, .slice A2 t.hi.length c2] 57)) := fr.alloc fr.refl _
          have pT := heap_alloc_new wr (.cells #[.int .i64 t.id, .int .i64 t.level, .int .i64 t.count, .slice A1 t.lo.length c1, .slice A2 t.hi.length c2] 57)
          have y0 := cell_of_row _ _ 0 _ _ _ pT
          have y1 := cell_of_row _ _ 1 _ _ _ pT
          have y2 := cell_of_row _ _ 2 _ _ _ pT
          have HB8 := Lib.hid (HBY.out.below hal)
          have HF8 := Lib.hid (fr.step HFY.out hal)
          have HF8' := Lib.hid (fr.step HFR.out hal)
          generalize wr.alloc (.cells #[.int .i64 t.id, .int .i64 t.level, .int .i64 t.count, .slice A1 t.lo.length c1, .slice A2 t.hi.length c2] 57) = w8 at hal y0 y1 y2 HB8 HF8 HF8' ⊢
          clear pT hal x0 x1 x2 x3 x4 e0
          by_cases q0 : t.id < 1
          · have p0 : decide (t.id < 1) = true := decide_eq_true q0
            have HE : Hid (foldE v e = 2) := Lib.hid (by unfold foldE; rw [if_neg H1A.out, if_neg (by rw [HOK.out]; decide), if_pos (all_bad HT.out (by unfold okR; simp only [Bool.and_eq_false_iff, decide_eq_false_iff_not]; omega))])
            clear q0
            have r0 := cell_of_row _ _ 0 _ _ _ HB8.out.b2
            have r1 := cell_of_row _ _ 1 _ _ _ HB8.out.b2
            have r2 := cell_of_row _ _ 2 _ _ _ HB8.out.b2
            have r3 := cell_of_row _ _ 3 _ _ _ HB8.out.b2
            have z0 := frozen_of_row _ _ 0 _ _ HB8.out.b2
            have z1 := frozen_of_row _ _ 1 _ _ HB8.out.b2
            have z2 := frozen_of_row _ _ 2 _ _ HB8.out.b2
            have z3 := frozen_of_row _ _ 3 _ _ HB8.out.b2
            go_wp2_with (fail)
            rw [zero_same HB8.out.b2]
            refine bodyPost_ret (v := .tuple #[zeroVer, .int .i64 2]) (by simp [results, Tryz.results27, go_sem, r0, r1, r2, r3]) rfl ?_
            exact ⟨_, by rw [HE.out], ⟨none, 0, 0, 0, 0, 0, rfl⟩, fun h => absurd h (by rw [HE.out]; decide), HF8.out⟩
          · by_cases q1 : (999999 : Int) < t.id
            · have p1 : decide ((999999 : Int) < t.id) = true := decide_eq_true q1
              have p0 : decide (t.id < 1) = false := decide_eq_false q0
              have HE : Hid (foldE v e = 2) := Lib.hid (by unfold foldE; rw [if_neg H1A.out, if_neg (by rw [HOK.out]; decide), if_pos (all_bad HT.out (by unfold okR; simp only [Bool.and_eq_false_iff, decide_eq_false_iff_not]; omega))])
              clear q0 q1
              have r0 := cell_of_row _ _ 0 _ _ _ HB8.out.b2
              have r1 := cell_of_row _ _ 1 _ _ _ HB8.out.b2
              have r2 := cell_of_row _ _ 2 _ _ _ HB8.out.b2
              have r3 := cell_of_row _ _ 3 _ _ _ HB8.out.b2
              have z0 := frozen_of_row _ _ 0 _ _ HB8.out.b2
              have z1 := frozen_of_row _ _ 1 _ _ HB8.out.b2
              have z2 := frozen_of_row _ _ 2 _ _ HB8.out.b2
              have z3 := frozen_of_row _ _ 3 _ _ HB8.out.b2
              go_wp2_with (fail)
              rw [zero_same HB8.out.b2]
              refine bodyPost_ret (v := .tuple #[zeroVer, .int .i64 2]) (by simp [results, Tryz.results27, go_sem, r0, r1, r2, r3]) rfl ?_
              exact ⟨_, by rw [HE.out], ⟨none, 0, 0, 0, 0, 0, rfl⟩, fun h => absurd h (by rw [HE.out]; decide), HF8.out⟩
            · by_cases q2 : t.level < 0
              · have p2 : decide (t.level < 0) = true := decide_eq_true q2
                have p0 : decide (t.id < 1) = false := decide_eq_false q0
                have p1 : decide ((999999 : Int) < t.id) = false := decide_eq_false q1
                have HE : Hid (foldE v e = 2) := Lib.hid (by unfold foldE; rw [if_neg H1A.out, if_neg (by rw [HOK.out]; decide), if_pos (all_bad HT.out (by unfold okR; simp only [Bool.and_eq_false_iff, decide_eq_false_iff_not]; omega))])
                clear q0 q1 q2
                have r0 := cell_of_row _ _ 0 _ _ _ HB8.out.b2
                have r1 := cell_of_row _ _ 1 _ _ _ HB8.out.b2
                have r2 := cell_of_row _ _ 2 _ _ _ HB8.out.b2
                have r3 := cell_of_row _ _ 3 _ _ _ HB8.out.b2
                have z0 := frozen_of_row _ _ 0 _ _ HB8.out.b2
                have z1 := frozen_of_row _ _ 1 _ _ HB8.out.b2
                have z2 := frozen_of_row _ _ 2 _ _ HB8.out.b2
                have z3 := frozen_of_row _ _ 3 _ _ HB8.out.b2
                go_wp2_with (fail)
                rw [zero_same HB8.out.b2]
                refine bodyPost_ret (v := .tuple #[zeroVer, .int .i64 2]) (by simp [results, Tryz.results27, go_sem, r0, r1, r2, r3]) rfl ?_
                exact ⟨_, by rw [HE.out], ⟨none, 0, 0, 0, 0, 0, rfl⟩, fun h => absurd h (by rw [HE.out]; decide), HF8.out⟩
              · by_cases q3 : (3 : Int) < t.level
                · have p3 : decide ((3 : Int) < t.level) = true := decide_eq_true q3
                  have p0 : decide (t.id < 1) = false := decide_eq_false q0
                  have p1 : decide ((999999 : Int) < t.id) = false := decide_eq_false q1
                  have p2 : decide (t.level < 0) = false := decide_eq_false q2
                  have HE : Hid (foldE v e = 2) := Lib.hid (by unfold foldE; rw [if_neg H1A.out, if_neg (by rw [HOK.out]; decide), if_pos (all_bad HT.out (by unfold okR; simp only [Bool.and_eq_false_iff, decide_eq_false_iff_not]; omega))])
                  clear q0 q1 q2 q3
                  have r0 := cell_of_row _ _ 0 _ _ _ HB8.out.b2
                  have r1 := cell_of_row _ _ 1 _ _ _ HB8.out.b2
                  have r2 := cell_of_row _ _ 2 _ _ _ HB8.out.b2
                  have r3 := cell_of_row _ _ 3 _ _ _ HB8.out.b2
                  have z0 := frozen_of_row _ _ 0 _ _ HB8.out.b2
                  have z1 := frozen_of_row _ _ 1 _ _ HB8.out.b2
                  have z2 := frozen_of_row _ _ 2 _ _ HB8.out.b2
                  have z3 := frozen_of_row _ _ 3 _ _ HB8.out.b2
                  go_wp2_with (fail)
                  rw [zero_same HB8.out.b2]
                  refine bodyPost_ret (v := .tuple #[zeroVer, .int .i64 2]) (by simp [results, Tryz.results27, go_sem, r0, r1, r2, r3]) rfl ?_
                  exact ⟨_, by rw [HE.out], ⟨none, 0, 0, 0, 0, 0, rfl⟩, fun h => absurd h (by rw [HE.out]; decide), HF8.out⟩
                · by_cases q4 : t.count < 1
                  · have p4 : decide (t.count < 1) = true := decide_eq_true q4
                    have p0 : decide (t.id < 1) = false := decide_eq_false q0
                    have p1 : decide ((999999 : Int) < t.id) = false := decide_eq_false q1
                    have p2 : decide (t.level < 0) = false := decide_eq_false q2
                    have p3 : decide ((3 : Int) < t.level) = false := decide_eq_false q3
                    have HE : Hid (foldE v e = 2) := Lib.hid (by unfold foldE; rw [if_neg H1A.out, if_neg (by rw [HOK.out]; decide), if_pos (all_bad HT.out (by unfold okR; simp only [Bool.and_eq_false_iff, decide_eq_false_iff_not]; omega))])
                    clear q0 q1 q2 q3 q4
                    have r0 := cell_of_row _ _ 0 _ _ _ HB8.out.b2
                    have r1 := cell_of_row _ _ 1 _ _ _ HB8.out.b2
                    have r2 := cell_of_row _ _ 2 _ _ _ HB8.out.b2
                    have r3 := cell_of_row _ _ 3 _ _ _ HB8.out.b2
                    have z0 := frozen_of_row _ _ 0 _ _ HB8.out.b2
                    have z1 := frozen_of_row _ _ 1 _ _ HB8.out.b2
                    have z2 := frozen_of_row _ _ 2 _ _ HB8.out.b2
                    have z3 := frozen_of_row _ _ 3 _ _ HB8.out.b2
                    go_wp2_with (fail)
                    rw [zero_same HB8.out.b2]
                    refine bodyPost_ret (v := .tuple #[zeroVer, .int .i64 2]) (by simp [results, Tryz.results27, go_sem, r0, r1, r2, r3]) rfl ?_
                    exact ⟨_, by rw [HE.out], ⟨none, 0, 0, 0, 0, 0, rfl⟩, fun h => absurd h (by rw [HE.out]; decide), HF8.out⟩
                  · have p0 : decide (t.id < 1) = false := decide_eq_false q0
                    have p1 : decide ((999999 : Int) < t.id) = false := decide_eq_false q1
                    have p2 : decide (t.level < 0) = false := decide_eq_false q2
                    have p3 : decide ((3 : Int) < t.level) = false := decide_eq_false q3
                    have p4 : decide (t.count < 1) = false := decide_eq_false q4
                    have hk := all_step HT.out HALL.out (by unfold okR; simp only [Bool.and_eq_true, decide_eq_true_eq]; omega)
                    clear q0 q1 q2 q3 q4
                    go_wp2_with (fail)
                    exact ⟨⟨j + 1, by omega, by go_num, hk, HF8'.out⟩, by simp [intOf]; omega⟩
        · obtain rfl : j = na := by omega
          rw [List.take_of_length_le (by rw [HNA.out]; exact Nat.le_refl _)] at HALL
          have e2 := cell_of_row _ _ 2 _ _ _ HBY.out.b1
          have e3 := cell_of_row _ _ 3 _ _ _ HBY.out.b1
          have v1 := cell_of_row _ _ 1 _ _ _ HBY.out.b0
          have v2 := cell_of_row _ _ 2 _ _ _ HBY.out.b0
          by_cases s1 : e.lg < v.lg
          · have p1 : decide (e.lg < v.lg) = true := decide_eq_true s1
            have HE : Hid (foldE v e = 2) := Lib.hid (by unfold foldE; rw [if_neg H1A.out, if_neg (by rw [HOK.out]; decide), if_neg (by rw [HALL.out]; decide), if_pos (.inl s1)])
            clear s1
            have r0 := cell_of_row _ _ 0 _ _ _ HBY.out.b2
            have r1 := cell_of_row _ _ 1 _ _ _ HBY.out.b2
            have r2 := cell_of_row _ _ 2 _ _ _ HBY.out.b2
            have r3 := cell_of_row _ _ 3 _ _ _ HBY.out.b2
            have z0 := frozen_of_row _ _ 0 _ _ HBY.out.b2
            have z1 := frozen_of_row _ _ 1 _ _ HBY.out.b2
            have z2 := frozen_of_row _ _ 2 _ _ HBY.out.b2
            have z3 := frozen_of_row _ _ 3 _ _ HBY.out.b2
            go_wp2_with (fail)
            rw [zero_same HBY.out.b2]
            refine bodyPost_ret (v := .tuple #[zeroVer, .int .i64 2]) (by simp [results, Tryz.results27, go_sem, r0, r1, r2, r3]) rfl ?_
            exact ⟨_, by rw [HE.out], ⟨none, 0, 0, 0, 0, 0, rfl⟩, fun h => absurd h (by rw [HE.out]; decide), HFY.out⟩
          have p1 : decide (e.lg < v.lg) = false := decide_eq_false s1
          by_cases s2 : e.sq < v.sq
          · have p2 : decide (e.sq < v.sq) = true := decide_eq_true s2
            have HE : Hid (foldE v e = 2) := Lib.hid (by unfold foldE; rw [if_neg H1A.out, if_neg (by rw [HOK.out]; decide), if_neg (by rw [HALL.out]; decide), if_pos (.inr s2)])
            clear s2
            have r0 := cell_of_row _ _ 0 _ _ _ HBY.out.b2
            have r1 := cell_of_row _ _ 1 _ _ _ HBY.out.b2
            have r2 := cell_of_row _ _ 2 _ _ _ HBY.out.b2
            have r3 := cell_of_row _ _ 3 _ _ _ HBY.out.b2
            have z0 := frozen_of_row _ _ 0 _ _ HBY.out.b2
            have z1 := frozen_of_row _ _ 1 _ _ HBY.out.b2
            have z2 := frozen_of_row _ _ 2 _ _ HBY.out.b2
            have z3 := frozen_of_row _ _ 3 _ _ HBY.out.b2
            go_wp2_with (fail)
            rw [zero_same HBY.out.b2]
            refine bodyPost_ret (v := .tuple #[zeroVer, .int .i64 2]) (by simp [results, Tryz.results27, go_sem, r0, r1, r2, r3]) rfl ?_
            exact ⟨_, by rw [HE.out], ⟨none, 0, 0, 0, 0, 0, rfl⟩, fun h => absurd h (by rw [HE.out]; decide), HFY.out⟩
          have p2 : decide (e.sq < v.sq) = false := decide_eq_false s2
          have HS12 : Hid (¬ (e.lg < v.lg ∨ e.sq < v.sq)) := Lib.hid (fun h => h.elim s1 s2)
          clear s1 s2
          go_wp2_with (fail)
          clear p1 p2 e2 e3 v1 v2
          obtain ⟨wd, hwd⟩ : ∃ x, x = wr := ⟨_, rfl⟩
          subst hwd
          go_loopw [115] (fun t wx => ∃ j' : Nat, j' ≤ j ∧ t = .int .i64 j' ∧ (e.add.take j').all okK = true ∧ fr wd wx) (fun t _ => j - (intOf t).toNat)
          case atStart => exact ⟨0, Nat.zero_le _, rfl, rfl, fr.refl⟩
          case round =>
            obtain ⟨i', hi', rfl, hall, hfx⟩ := hrel
            have HALK := Lib.hid hall
            have HFS := Lib.hid hfx
            have HFZ := Lib.hid (fr.step HFY.out hfx)
            have HBZ := Lib.hid (HBY.out.below hfx)
            clear hall hfx e0
            have e0 := cell_of_row _ _ 0 _ _ _ HBZ.out.b1
            by_cases hin : i' < j
            · obtain ⟨t, hf⟩ : ∃ t, e.add[i']? = some t := ⟨_, List.getElem?_eq_getElem (by rw [HNA.out]; exact hin)⟩
              obtain ⟨b, o, cs, rfl, hblt, _, ⟨va, vb, rfl, hva, hvb⟩, hc⟩ := Rows.at_ tbFine (Rows.below tbFine HA.out HFZ.out) hf
              obtain ⟨A1, c1, rfl⟩ := slice_form hva
              obtain ⟨A2, c2, rfl⟩ := slice_form hvb
              have x0 : wr.cell? ⟨b, o + i' * 5, none⟩ = _ := hc 0 _ rfl
              have x1 : wr.cell? ⟨b, o + i' * 5 + 1, none⟩ = _ := hc 1 _ rfl
              have x2 : wr.cell? ⟨b, o + i' * 5 + 2, none⟩ = _ := hc 2 _ rfl
              have x3 : wr.cell? ⟨b, o + i' * 5 + 3, none⟩ = _ := hc 3 _ rfl
              have x4 : wr.cell? ⟨b, o + i' * 5 + 4, none⟩ = _ := hc 4 _ rfl
              have HT := Lib.hid hf
              go_upto_region 27 with (fail)
              have hal : fr wr (wr.alloc (.cells #[.int .i64 t.id, .int .i64 t.level, .int .i64 t.count, .slice A1 t.lo.length c1, .slice A2 t.hi.length c2] 57)) := fr.alloc fr.refl _
              have HVA := Lib.hid (hva.below hal)
              have HVB := Lib.hid (hvb.below hal)
              have pT := heap_alloc_new wr (.cells #[.int .i64 t.id, .int .i64 t.level, .int .i64 t.count, .slice A1 t.lo.length c1, .slice A2 t.hi.length c2] 57)
              have y3 := cell_of_row _ _ 3 _ _ _ pT
              have y4 := cell_of_row _ _ 4 _ _ _ pT
              have HB8 := Lib.hid (HBZ.out.below hal)
              have HF8 := Lib.hid (fr.step HFZ.out hal)
              have HF8' := Lib.hid (fr.step HFS.out hal)
              generalize wr.alloc (.cells #[.int .i64 t.id, .int .i64 t.level, .int .i64 t.count, .slice A1 t.lo.length c1, .slice A2 t.hi.length c2] 57) = w8 at hal y3 y4 HB8 HF8 HF8' HVA HVB ⊢
              clear pT hal x0 x1 x2 x3 x4 hc hf hva hvb e0
              have cv1 := HVA.out.convert
              have cv2 := HVB.out.convert
              by_cases q0 : t.lo.length = 0
              · have p0 : ((t.lo.length : Int) == 0) = true := by simpa using q0
                have HE : Hid (foldE v e = 30) := Lib.hid (by unfold foldE; rw [if_neg H1A.out, if_neg (by rw [HOK.out]; decide), if_neg (by rw [HALL.out]; decide), if_neg HS12.out, if_pos (all_bad HT.out (by unfold okK; simp only [Bool.and_eq_false_iff, decide_eq_false_iff_not]; exact .inl (.inl (.inl fun h => h (List.eq_nil_of_length_eq_zero q0)))))])
                clear q0
                have r0 := cell_of_row _ _ 0 _ _ _ HB8.out.b2
                have r1 := cell_of_row _ _ 1 _ _ _ HB8.out.b2
                have r2 := cell_of_row _ _ 2 _ _ _ HB8.out.b2
                have r3 := cell_of_row _ _ 3 _ _ _ HB8.out.b2
                have z0 := frozen_of_row _ _ 0 _ _ HB8.out.b2
                have z1 := frozen_of_row _ _ 1 _ _ HB8.out.b2
                have z2 := frozen_of_row _ _ 2 _ _ HB8.out.b2
                have z3 := frozen_of_row _ _ 3 _ _ HB8.out.b2
                go_wp2_with (fail)
                rw [zero_same HB8.out.b2]
                refine bodyPost_ret (v := .tuple #[zeroVer, .int .i64 30]) (by simp [results, Tryz.results27, go_sem, r0, r1, r2, r3]) rfl ?_
                exact ⟨_, by rw [HE.out], ⟨none, 0, 0, 0, 0, 0, rfl⟩, fun h => absurd h (by rw [HE.out]; decide), HF8.out⟩
              · by_cases q1 : t.hi.length = 0
                · have p1 : ((t.hi.length : Int) == 0) = true := by simpa using q1
                  have p0 : ((t.lo.length : Int) == 0) = false := by simpa using q0
                  have HE : Hid (foldE v e = 30) := Lib.hid (by unfold foldE; rw [if_neg H1A.out, if_neg (by rw [HOK.out]; decide), if_neg (by rw [HALL.out]; decide), if_neg HS12.out, if_pos (all_bad HT.out (by exact okK_hi q0 q1))])
                  clear q0 q1
                  have r0 := cell_of_row _ _ 0 _ _ _ HB8.out.b2
                  have r1 := cell_of_row _ _ 1 _ _ _ HB8.out.b2
                  have r2 := cell_of_row _ _ 2 _ _ _ HB8.out.b2
                  have r3 := cell_of_row _ _ 3 _ _ _ HB8.out.b2
                  have z0 := frozen_of_row _ _ 0 _ _ HB8.out.b2
                  have z1 := frozen_of_row _ _ 1 _ _ HB8.out.b2
                  have z2 := frozen_of_row _ _ 2 _ _ HB8.out.b2
                  have z3 := frozen_of_row _ _ 3 _ _ HB8.out.b2
                  go_wp2_with (fail)
                  rw [zero_same HB8.out.b2]
                  refine bodyPost_ret (v := .tuple #[zeroVer, .int .i64 30]) (by simp [results, Tryz.results27, go_sem, r0, r1, r2, r3]) rfl ?_
                  exact ⟨_, by rw [HE.out], ⟨none, 0, 0, 0, 0, 0, rfl⟩, fun h => absurd h (by rw [HE.out]; decide), HF8.out⟩
                · by_cases q2 : (200 : Int) < (t.lo.length : Int)
                  · have p2 : decide ((200 : Int) < (t.lo.length : Int)) = true := decide_eq_true q2
                    have p0 : ((t.lo.length : Int) == 0) = false := by simpa using q0
                    have p1 : ((t.hi.length : Int) == 0) = false := by simpa using q1
                    have HE : Hid (foldE v e = 30) := Lib.hid (by unfold foldE; rw [if_neg H1A.out, if_neg (by rw [HOK.out]; decide), if_neg (by rw [HALL.out]; decide), if_neg HS12.out, if_pos (all_bad HT.out (by unfold okK; simp only [Bool.and_eq_false_iff, decide_eq_false_iff_not]; exact .inl (.inl (.inr (by omega)))))])
                    clear q0 q1 q2
                    have r0 := cell_of_row _ _ 0 _ _ _ HB8.out.b2
                    have r1 := cell_of_row _ _ 1 _ _ _ HB8.out.b2
                    have r2 := cell_of_row _ _ 2 _ _ _ HB8.out.b2
                    have r3 := cell_of_row _ _ 3 _ _ _ HB8.out.b2
                    have z0 := frozen_of_row _ _ 0 _ _ HB8.out.b2
                    have z1 := frozen_of_row _ _ 1 _ _ HB8.out.b2
                    have z2 := frozen_of_row _ _ 2 _ _ HB8.out.b2
                    have z3 := frozen_of_row _ _ 3 _ _ HB8.out.b2
                    go_wp2_with (fail)
                    rw [zero_same HB8.out.b2]
                    refine bodyPost_ret (v := .tuple #[zeroVer, .int .i64 30]) (by simp [results, Tryz.results27, go_sem, r0, r1, r2, r3]) rfl ?_
                    exact ⟨_, by rw [HE.out], ⟨none, 0, 0, 0, 0, 0, rfl⟩, fun h => absurd h (by rw [HE.out]; decide), HF8.out⟩
                  · by_cases q3 : (200 : Int) < (t.hi.length : Int)
                    · have p3 : decide ((200 : Int) < (t.hi.length : Int)) = true := decide_eq_true q3
                      have p0 : ((t.lo.length : Int) == 0) = false := by simpa using q0
                      have p1 : ((t.hi.length : Int) == 0) = false := by simpa using q1
                      have p2 : decide ((200 : Int) < (t.lo.length : Int)) = false := decide_eq_false q2
                      have HE : Hid (foldE v e = 30) := Lib.hid (by unfold foldE; rw [if_neg H1A.out, if_neg (by rw [HOK.out]; decide), if_neg (by rw [HALL.out]; decide), if_neg HS12.out, if_pos (all_bad HT.out (by unfold okK; simp only [Bool.and_eq_false_iff, decide_eq_false_iff_not]; exact .inl (.inr (by omega))))])
                      clear q0 q1 q2 q3
                      have r0 := cell_of_row _ _ 0 _ _ _ HB8.out.b2
                      have r1 := cell_of_row _ _ 1 _ _ _ HB8.out.b2
                      have r2 := cell_of_row _ _ 2 _ _ _ HB8.out.b2
                      have r3 := cell_of_row _ _ 3 _ _ _ HB8.out.b2
                      have z0 := frozen_of_row _ _ 0 _ _ HB8.out.b2
                      have z1 := frozen_of_row _ _ 1 _ _ HB8.out.b2
                      have z2 := frozen_of_row _ _ 2 _ _ HB8.out.b2
                      have z3 := frozen_of_row _ _ 3 _ _ HB8.out.b2
                      go_wp2_with (fail)
                      rw [zero_same HB8.out.b2]
                      refine bodyPost_ret (v := .tuple #[zeroVer, .int .i64 30]) (by simp [results, Tryz.results27, go_sem, r0, r1, r2, r3]) rfl ?_
                      exact ⟨_, by rw [HE.out], ⟨none, 0, 0, 0, 0, 0, rfl⟩, fun h => absurd h (by rw [HE.out]; decide), HF8.out⟩
                    · by_cases q4 : (0 : Int) < cmpB t.lo t.hi
                      · have p4 : decide ((0 : Int) < cmpB t.lo t.hi) = true := decide_eq_true q4
                        have p0 : ((t.lo.length : Int) == 0) = false := by simpa using q0
                        have p1 : ((t.hi.length : Int) == 0) = false := by simpa using q1
                        have p2 : decide ((200 : Int) < (t.lo.length : Int)) = false := decide_eq_false q2
                        have p3 : decide ((200 : Int) < (t.hi.length : Int)) = false := decide_eq_false q3
                        have HE : Hid (foldE v e = 30) := Lib.hid (by unfold foldE; rw [if_neg H1A.out, if_neg (by rw [HOK.out]; decide), if_neg (by rw [HALL.out]; decide), if_neg HS12.out, if_pos (all_bad HT.out (by unfold okK; simp only [Bool.and_eq_false_iff, decide_eq_false_iff_not]; exact .inr (by omega)))])
                        clear q0 q1 q4
                        go_upto_if 154 with (go_at_call 81; refine (rless_bytes t.lo t.hi _ (by omega) (by omega)).mono ?_; rintro r w9 ⟨rfl, f9⟩)
                        have HB9 := Lib.hid (HB8.out.below f9)
                        have HF9 := Lib.hid (fr.step HF8.out f9)
                        clear q2 q3
                        have r0 := cell_of_row _ _ 0 _ _ _ HB9.out.b2
                        have r1 := cell_of_row _ _ 1 _ _ _ HB9.out.b2
                        have r2 := cell_of_row _ _ 2 _ _ _ HB9.out.b2
                        have r3 := cell_of_row _ _ 3 _ _ _ HB9.out.b2
                        have z0 := frozen_of_row _ _ 0 _ _ HB9.out.b2
                        have z1 := frozen_of_row _ _ 1 _ _ HB9.out.b2
                        have z2 := frozen_of_row _ _ 2 _ _ HB9.out.b2
                        have z3 := frozen_of_row _ _ 3 _ _ HB9.out.b2
                        go_wp2_with (fail)
                        rw [zero_same HB9.out.b2]
                        refine bodyPost_ret (v := .tuple #[zeroVer, .int .i64 30]) (by simp [results, Tryz.results27, go_sem, r0, r1, r2, r3]) rfl ?_
                        exact ⟨_, by rw [HE.out], ⟨none, 0, 0, 0, 0, 0, rfl⟩, fun h => absurd h (by rw [HE.out]; decide), HF9.out⟩
                      · have p0 : ((t.lo.length : Int) == 0) = false := by simpa using q0
                        have p1 : ((t.hi.length : Int) == 0) = false := by simpa using q1
                        have p2 : decide ((200 : Int) < (t.lo.length : Int)) = false := decide_eq_false q2
                        have p3 : decide ((200 : Int) < (t.hi.length : Int)) = false := decide_eq_false q3
                        have p4 : decide ((0 : Int) < cmpB t.lo t.hi) = false := decide_eq_false q4
                        have hk := all_step HT.out HALK.out (by unfold okK; simp only [Bool.and_eq_true, decide_eq_true_eq]; exact ⟨⟨⟨fun h => q0 (by rw [h]; rfl), by omega⟩, by omega⟩, by omega⟩)
                        clear q0 q1 q4
                        go_wp2_with (go_at_call 81; refine (rless_bytes t.lo t.hi _ (by omega) (by omega)).mono ?_; rintro r w9 ⟨rfl, f9⟩)
                        exact ⟨⟨i' + 1, by omega, by go_num, hk, fr.step HF8'.out f9⟩, by simp [intOf]; omega⟩
            · obtain rfl : i' = j := by omega
              rw [List.take_of_length_le (by rw [HNA.out]; exact Nat.le_refl _)] at HALK
              go_wp2_with (fail)
              clear e0
              obtain ⟨we, hwe⟩ : ∃ x, x = wr := ⟨_, rfl⟩
              subst hwe
              go_loopw [160] (fun t wx => ∃ k : Nat, k ≤ i' ∧ t = .int .i64 k ∧ okA (idsT v.tabs) ((idsT e.add).take k) = true ∧ fr we wx) (fun t _ => i' - (intOf t).toNat)
              case atStart => exact ⟨0, Nat.zero_le _, rfl, rfl, fr.refl⟩
              case round =>
                obtain ⟨k, hk, rfl, hoka, hfx⟩ := hrel
                have HOKA := Lib.hid hoka
                have HFU := Lib.hid hfx
                have HFV := Lib.hid (fr.step HFZ.out hfx)
                have HBV := Lib.hid (HBZ.out.below hfx)
                clear hoka hfx
                have e0 := cell_of_row _ _ 0 _ _ _ HBV.out.b1
                have v0 := cell_of_row _ _ 0 _ _ _ HBV.out.b0
                by_cases hin : k < i'
                · obtain ⟨t, hf⟩ : ∃ t, e.add[k]? = some t := ⟨_, List.getElem?_eq_getElem (by rw [HNA.out]; exact hin)⟩
                  obtain ⟨b, o, cs, rfl, hblt, _, ⟨va, vb, rfl, hva, hvb⟩, hc⟩ := Rows.at_ tbFine (Rows.below tbFine HA.out HFV.out) hf
                  obtain ⟨A1, c1, rfl⟩ := slice_form hva
                  obtain ⟨A2, c2, rfl⟩ := slice_form hvb
                  have x0 : wr.cell? ⟨b, o + k * 5, none⟩ = _ := hc 0 _ rfl
                  have x1 : wr.cell? ⟨b, o + k * 5 + 1, none⟩ = _ := hc 1 _ rfl
                  have x2 : wr.cell? ⟨b, o + k * 5 + 2, none⟩ = _ := hc 2 _ rfl
                  have x3 : wr.cell? ⟨b, o + k * 5 + 3, none⟩ = _ := hc 3 _ rfl
                  have x4 : wr.cell? ⟨b, o + k * 5 + 4, none⟩ = _ := hc 4 _ rfl
                  have HT := Lib.hid hf
                  have hidt : (idsT e.add)[k]? = some t.id := by unfold idsT; rw [List.getElem?_map, hf]; rfl
                  have HID := Lib.hid hidt
                  have HQ1 : Hid (∀ m, Calls Tryz.prog 80 #[.slice Av nv cv, .int .i64 t.id] (wr.drewN m) fun r w' => r = .returned (.int .i64 (atG t.id v.tabs 0)) ∧ w' = wr.drewN m) := Lib.hid fun m => at_any T _ v.tabs t.id (wr.drewN m) (Rows.below tbFine HV.out (fr.step HFV.out frH_drewN))
                  have HQ2 : Hid (∀ m, Calls Tryz.prog 80 #[.slice (some ⟨b, o, none⟩) k ca, .int .i64 t.id] (wr.drewN m) fun r w' => r = .returned (.int .i64 (atG t.id (e.add.take k) 0)) ∧ w' = wr.drewN m) := Lib.hid fun m => at_any T _ (e.add.take k) t.id (wr.drewN m) (tabs_take (Rows.below tbFine HA.out (fr.step HFV.out frH_drewN)) HNA.out (by omega))
                  clear hc hf hva hvb hidt x1 x2 x3 x4
                  by_cases m1 : t.id ∈ idsT v.tabs
                  · have hd1 : decide (0 ≤ atG t.id v.tabs 0) = true := decide_eq_true (by
                      have := (atG_neg t.id v.tabs 0)
                      exact Decidable.byContradiction fun h => this.1 (by omega) m1)
                    have HE : Hid (foldE v e = 31) := Lib.hid (by unfold foldE; rw [if_neg H1A.out, if_neg (by rw [HOK.out]; decide), if_neg (by rw [HALL.out]; decide), if_neg HS12.out, if_neg (by rw [HALK.out]; decide), if_pos (okA_bad HID.out (.inl m1))])
                    clear m1
                    go_wp2_with (fail)
                    go_quiet ((go_at_call 80; exact Calls.quiet_of_same (HQ1.out _)))
                    obtain ⟨wq, hwq⟩ : ∃ wq, wr.drewN nq = wq := ⟨_, rfl⟩
                    rw [hwq]
                    have hfq : fr wr wq := by rw [← hwq]; exact frH_drewN
                    clear hwq
                    have HB9 := Lib.hid (HBV.out.below hfq)
                    have HF9 := Lib.hid (fr.step HFV.out hfq)
                    clear hfq
                    have r0 := cell_of_row _ _ 0 _ _ _ HB9.out.b2
                    have r1 := cell_of_row _ _ 1 _ _ _ HB9.out.b2
                    have r2 := cell_of_row _ _ 2 _ _ _ HB9.out.b2
                    have r3 := cell_of_row _ _ 3 _ _ _ HB9.out.b2
                    have z0 := frozen_of_row _ _ 0 _ _ HB9.out.b2
                    have z1 := frozen_of_row _ _ 1 _ _ HB9.out.b2
                    have z2 := frozen_of_row _ _ 2 _ _ HB9.out.b2
                    have z3 := frozen_of_row _ _ 3 _ _ HB9.out.b2
                    go_wp2_with (fail)
                    rw [zero_same HB9.out.b2]
                    refine bodyPost_ret (v := .tuple #[zeroVer, .int .i64 31]) (by simp [results, Tryz.results27, go_sem, r0, r1, r2, r3]) rfl ?_
                    exact ⟨_, by rw [HE.out], ⟨none, 0, 0, 0, 0, 0, rfl⟩, fun h => absurd h (by rw [HE.out]; decide), HF9.out⟩
                  have hd1 : decide (0 ≤ atG t.id v.tabs 0) = false := decide_eq_false (by
                    have := (atG_neg t.id v.tabs 0).2 m1
                    omega)
                  have hml : (idsT e.add).take k = idsT (e.add.take k) := by unfold idsT; rw [List.map_take]
                  by_cases m2 : t.id ∈ (idsT e.add).take k
                  · have hd2 : decide (0 ≤ atG t.id (e.add.take k) 0) = true := decide_eq_true (by
                      rw [hml] at m2
                      have := (atG_neg t.id (e.add.take k) 0)
                      exact Decidable.byContradiction fun h => this.1 (by omega) m2)
                    have HE : Hid (foldE v e = 31) := Lib.hid (by unfold foldE; rw [if_neg H1A.out, if_neg (by rw [HOK.out]; decide), if_neg (by rw [HALL.out]; decide), if_neg HS12.out, if_neg (by rw [HALK.out]; decide), if_pos (okA_bad HID.out (.inr m2))])
                    clear m1 m2 hml
                    go_wp2_with (fail)
                    go_quiet ((go_at_call 80; first | with_reducible exact Calls.quiet_of_same (HQ1.out _) | with_reducible exact Calls.quiet_of_same (HQ2.out _)))
                    obtain ⟨wq, hwq⟩ : ∃ wq, wr.drewN nq = wq := ⟨_, rfl⟩
                    rw [hwq]
                    have hfq : fr wr wq := by rw [← hwq]; exact frH_drewN
                    clear hwq
                    have HB9 := Lib.hid (HBV.out.below hfq)
                    have HF9 := Lib.hid (fr.step HFV.out hfq)
                    clear hfq
                    have r0 := cell_of_row _ _ 0 _ _ _ HB9.out.b2
                    have r1 := cell_of_row _ _ 1 _ _ _ HB9.out.b2
                    have r2 := cell_of_row _ _ 2 _ _ _ HB9.out.b2
                    have r3 := cell_of_row _ _ 3 _ _ _ HB9.out.b2
                    have z0 := frozen_of_row _ _ 0 _ _ HB9.out.b2
                    have z1 := frozen_of_row _ _ 1 _ _ HB9.out.b2
                    have z2 := frozen_of_row _ _ 2 _ _ HB9.out.b2
                    have z3 := frozen_of_row _ _ 3 _ _ HB9.out.b2
                    go_wp2_with (fail)
                    rw [zero_same HB9.out.b2]
                    refine bodyPost_ret (v := .tuple #[zeroVer, .int .i64 31]) (by simp [results, Tryz.results27, go_sem, r0, r1, r2, r3]) rfl ?_
                    exact ⟨_, by rw [HE.out], ⟨none, 0, 0, 0, 0, 0, rfl⟩, fun h => absurd h (by rw [HE.out]; decide), HF9.out⟩
                  have hd2 : decide (0 ≤ atG t.id (e.add.take k) 0) = false := decide_eq_false (by
                    rw [hml] at m2
                    have := (atG_neg t.id (e.add.take k) 0).2 m2
                    omega)
                  have HK9 := Lib.hid (okA_step HID.out HOKA.out m1 m2)
                  clear m1 m2 hml
                  go_wp2_with (fail)
                  go_quiet ((go_at_call 80; first | with_reducible exact Calls.quiet_of_same (HQ1.out _) | with_reducible exact Calls.quiet_of_same (HQ2.out _)))
                  obtain ⟨wq, hwq⟩ : ∃ wq, wr.drewN nq = wq := ⟨_, rfl⟩
                  rw [hwq]
                  have hfq : fr wr wq := by rw [← hwq]; exact frH_drewN
                  clear hwq
                  go_wp2_with (fail)
                  exact ⟨⟨k + 1, by omega, by go_num, HK9.out, fr.step HFU.out hfq⟩, by simp [intOf]; omega⟩
                · obtain rfl : k = i' := by omega
                  rw [List.take_of_length_le (by unfold idsT; rw [List.length_map, HNA.out]; exact Nat.le_refl _)] at HOKA
                  have HE0 : Hid (foldE v e = 0) := Lib.hid (by
                    unfold foldE
                    rw [if_neg H1A.out, if_neg (by rw [HOK.out]; decide), if_neg (by rw [HALL.out]; decide), if_neg HS12.out, if_neg (by rw [HALK.out]; decide), if_neg (by rw [HOKA.out]; decide)])
                  have e2 := cell_of_row _ _ 2 _ _ _ HBV.out.b1
                  have e3 := cell_of_row _ _ 3 _ _ _ HBV.out.b1
                  have v3 := cell_of_row _ _ 3 _ _ _ HBV.out.b0
                  go_upto_region 37 with (fail)
                  obtain ⟨wp, hwp⟩ : ∃ x, x = wr := ⟨_, rfl⟩
                  subst hwp
                  have hal : fr wp (wp.alloc (.cells #[.slice none 0 0, .int .i64 e.lg, .int .i64 e.sq, .int .i64 (max v.nx 1)] 50)) := fr.alloc fr.refl _
                  have hrow := heap_alloc_new wp (.cells #[.slice none 0 0, .int .i64 e.lg, .int .i64 e.sq, .int .i64 (max v.nx 1)] 50)
                  obtain ⟨q, hq⟩ : ∃ q, wp.heap.size = q := ⟨_, rfl⟩
                  rw [hq] at hrow ⊢
                  generalize wp.alloc (.cells #[.slice none 0 0, .int .i64 e.lg, .int .i64 e.sq, .int .i64 (max v.nx 1)] 50) = w10 at hal hrow ⊢
                  have hzq : z + 3 ≤ q := by have := Below.size HFU.out; have := Below.size HFS.out; have := Below.size HFR.out; have := Below.size HFX1.out; omega
                  have HQS := Lib.hid hq
                  have HAL10 := Lib.hid hal
                  have HROW10 := Lib.hid hrow
                  have HB10 := Lib.hid (HBV.out.below hal)
                  have v0 := cell_of_row _ _ 0 _ _ _ HB10.out.b0
                  clear hal hrow hq e0 e2 e3 v3
                  go_wp2_with (fail)
                  go_loopw [200] (fun t wx => ∃ (m : Nat) (x : Value), m ≤ nv ∧ t = .int .i64 m ∧ wx.heap[q]? = some (.cells #[x, .int .i64 e.lg, .int .i64 e.sq, .int .i64 (max v.nx 1)] 50 (0, 0)) ∧ TabsV wx (fun j => T j ∨ q < j) x (insAll [] ((v.tabs.take m).filter (keepE e))) ∧ fr wp wx) (fun t _ => nv - (intOf t).toNat)
                  case atStart => exact ⟨0, _, Nat.zero_le _, rfl, HROW10.out, tabsV_nil _ _, HAL10.out⟩
                  case round =>
                    obtain ⟨m, x, hm, rfl, hrow, htab, hfx⟩ := hrel
                    obtain ⟨Ax, cx, rfl⟩ := htab.form
                    obtain ⟨nx, hnx⟩ : ∃ n, (insAll [] ((v.tabs.take m).filter (keepE e))).length = n := ⟨_, rfl⟩
                    have hnxl : nx ≤ m := by
                      rw [← hnx, insAll_len]
                      have h1 := List.length_filter_le (keepE e) (v.tabs.take m)
                      rw [List.length_take] at h1
                      simp
                      omega
                    rw [hnx] at htab hrow
                    have HROW := Lib.hid hrow
                    have HTAB := Lib.hid htab
                    have HNX := Lib.hid hnx
                    have HFP := Lib.hid hfx
                    have HFG := Lib.hid (fr.step HFV.out hfx)
                    have HBG := Lib.hid (HBV.out.below hfx)
                    clear hrow htab hfx hnx v0
                    have e1 := cell_of_row _ _ 1 _ _ _ HBG.out.b1
                    have v0 := cell_of_row _ _ 0 _ _ _ HBG.out.b0
                    obtain ⟨wl, hwl⟩ : ∃ x, x = wr := ⟨_, rfl⟩
                    subst hwl
                    by_cases hin : m < nv
                    · obtain ⟨t, hf⟩ : ∃ t, v.tabs[m]? = some t := ⟨_, List.getElem?_eq_getElem (by rw [HNV.out]; exact hin)⟩
                      obtain ⟨b, o, cs, rfl, hblt, _, ⟨va, vb, rfl, hva, hvb⟩, hc⟩ := Rows.at_ tbFine (Rows.below tbFine HV.out HFG.out) hf
                      obtain ⟨A1, c1, rfl⟩ := slice_form hva
                      obtain ⟨A2, c2, rfl⟩ := slice_form hvb
                      have x0 : wl.cell? ⟨b, o + m * 5, none⟩ = _ := hc 0 _ rfl
                      have x1 : wl.cell? ⟨b, o + m * 5 + 1, none⟩ = _ := hc 1 _ rfl
                      have x2 : wl.cell? ⟨b, o + m * 5 + 2, none⟩ = _ := hc 2 _ rfl
                      have x3 : wl.cell? ⟨b, o + m * 5 + 3, none⟩ = _ := hc 3 _ rfl
                      have x4 : wl.cell? ⟨b, o + m * 5 + 4, none⟩ = _ := hc 4 _ rfl
                      have HT := Lib.hid hf
                      have HXT : Hid (TblV wl T (.agg #[.int .i64 t.id, .int .i64 t.level, .int .i64 t.count, .slice A1 t.lo.length c1, .slice A2 t.hi.length c2]) t) := Lib.hid ⟨_, _, rfl, hva, hvb⟩
                      clear hc hf hva hvb
                      go_wp2_with (fail)
                      go_loopw [15, 206] (fun u s wx => ∃ (j : Nat) (gb : Bool), j ≤ i ∧ s = .int .i64 j ∧ u = .bool gb ∧ Hid (gb = decide (t.id ∈ e.drop.take j)) ∧ fr wl wx) (fun _ s _ => i - (intOf s).toNat)
                      case atStart => exact ⟨0, false, Nat.zero_le _, rfl, rfl, Lib.hid (by simp), fr.refl⟩
                      case round =>
                        obtain ⟨j, gb, hj, rfl, rfl, HGB, hfl⟩ := hrel
                        have HFL := Lib.hid hfl
                        have g1 := hfl.cell e1
                        have g0 := hfl.cell v0
                        have y0 := hfl.cell x0
                        have y1 := hfl.cell x1
                        have y2 := hfl.cell x2
                        have y3 := hfl.cell x3
                        have y4 := hfl.cell x4
                        clear hfl
                        by_cases hji : j < i
                        · obtain ⟨d, hd⟩ : ∃ d, e.drop[j]? = some d := ⟨_, List.getElem?_eq_getElem (by rw [HND.out]; exact hji)⟩
                          obtain ⟨A', c', hE, _, _, hr⟩ := HD.out.below (fr.step HFG.out HFL.out)
                          injection hE with hE1 _ _
                          subst hE1
                          rw [HND.out] at hr
                          obtain ⟨b', o', rfl, _, _, hc⟩ := hr.2 (by omega)
                          have d0 : wr.cell? ⟨b', o' + j, none⟩ = some (.int .i64 d) := hc j _ (by rw [List.getElem?_map, hd]; rfl)
                          have HTK := Lib.hid (take_snoc hd)
                          clear hc hr hd y1 y2 y3 y4 x0 x1 x2 x3 x4 e1 v0
                          by_cases hg : t.id ∈ e.drop.take j
                          · have HG : Hid (t.id ∈ e.drop.take (j + 1)) := Lib.hid (by rw [HTK.out]; exact List.mem_append_left _ hg)
                            obtain rfl : gb = true := HGB.out.trans (decide_eq_true hg)
                            clear hg
                            go_wp2_with (fail)
                            go_quiet (fail)
                            obtain ⟨wq, hwq⟩ : ∃ wq, wr.drewN nq = wq := ⟨_, rfl⟩
                            rw [hwq]
                            have hfq : fr wr wq := by rw [← hwq]; exact frH_drewN
                            clear hwq
                            go_wp2_with (fail)
                            exact ⟨⟨j + 1, true, by omega, by go_num, rfl, Lib.hid (decide_eq_true HG.out).symm, fr.step HFL.out hfq⟩, by simp [intOf]; omega⟩
                          · obtain rfl : gb = false := HGB.out.trans (decide_eq_false hg)
                            by_cases hdt : d = t.id
                            · have HG : Hid (t.id ∈ e.drop.take (j + 1)) := Lib.hid (by rw [HTK.out]; exact List.mem_append_right _ (by rw [hdt]; exact List.mem_singleton.2 rfl))
                              have hde : (d == t.id) = true := by simpa using hdt
                              clear hg hdt
                              go_wp2_with (fail)
                              go_quiet (fail)
                              obtain ⟨wq, hwq⟩ : ∃ wq, wr.drewN nq = wq := ⟨_, rfl⟩
                              rw [hwq]
                              have hfq : fr wr wq := by rw [← hwq]; exact frH_drewN
                              clear hwq
                              go_wp2_with (fail)
                              exact ⟨⟨j + 1, true, by omega, by go_num, rfl, Lib.hid (decide_eq_true HG.out).symm, fr.step HFL.out hfq⟩, by simp [intOf]; omega⟩
                            · have HG : Hid (¬ t.id ∈ e.drop.take (j + 1)) := Lib.hid (by rw [HTK.out, List.mem_append, List.mem_singleton]; exact fun h => h.elim hg fun h => hdt h.symm)
                              have hde : (d == t.id) = false := by simpa using hdt
                              clear hg hdt
                              go_wp2_with (fail)
                              go_quiet (fail)
                              obtain ⟨wq, hwq⟩ : ∃ wq, wr.drewN nq = wq := ⟨_, rfl⟩
                              rw [hwq]
                              have hfq : fr wr wq := by rw [← hwq]; exact frH_drewN
                              clear hwq
                              go_wp2_with (fail)
                              exact ⟨⟨j + 1, false, by omega, by go_num, rfl, Lib.hid (decide_eq_false HG.out).symm, fr.step HFL.out hfq⟩, by simp [intOf]; omega⟩
                        · obtain rfl : j = i := by omega
                          have HGB2 : Hid (gb = decide (t.id ∈ e.drop)) := Lib.hid (by rw [HGB.out, List.take_of_length_le (by rw [HND.out]; exact Nat.le_refl _)])
                          have HRW := Lib.hid ((Below.block HFL.out q (Array.getElem?_eq_some_iff.1 HROW.out).1).trans HROW.out)
                          have HTW := Lib.hid (Rows.below tbFine HTAB.out HFL.out)
                          have HPW := Lib.hid (fr.step HFP.out HFL.out)
                          have hks := keepE_snoc (e := e) HT.out
                          by_cases hg : t.id ∈ e.drop
                          · obtain rfl : gb = true := HGB2.out.trans (decide_eq_true hg)
                            have HKS : Hid ((v.tabs.take (m + 1)).filter (keepE e) = (v.tabs.take m).filter (keepE e)) := Lib.hid (by rw [hks, if_neg (by unfold keepE; rw [decide_eq_true hg]; decide), List.append_nil])
                            clear hg hks x0 x1 x2 x3 x4 y0 y1 y2 y3 y4 e1 v0 g1 g0
                            go_wp2_with (fail)
                            exact ⟨⟨m + 1, _, by omega, by go_num, HRW.out, by rw [HKS.out]; exact HTW.out, HPW.out⟩, by simp [intOf]; omega⟩
                          · obtain rfl : gb = false := HGB2.out.trans (decide_eq_false hg)
                            have HKS : Hid (insAll [] ((v.tabs.take (m + 1)).filter (keepE e)) = insT t (insAll [] ((v.tabs.take m).filter (keepE e)))) := Lib.hid (by rw [hks, if_pos (by unfold keepE; rw [decide_eq_false hg]; decide), insAll_snoc])
                            have HIN : Hid (∀ wx, fr wr wx → Calls Tryz.prog 82 #[.slice Ax nx cx, .agg #[.int .i64 t.id, .int .i64 t.level, .int .i64 t.count, .slice A1 t.lo.length c1, .slice A2 t.hi.length c2]] wx fun r w' => ∃ A' c', r = .returned (.slice A' (nx + 1) c') ∧ w'.heap[q]? = some (.cells #[.slice Ax nx cx, .int .i64 e.lg, .int .i64 e.sq, .int .i64 (max v.nx 1)] 50 (0, 0)) ∧ TabsV w' (fun j => T j ∨ q < j) (.slice A' (nx + 1) c') (insT t (insAll [] ((v.tabs.take m).filter (keepE e)))) ∧ fr wr w') := Lib.hid fun wx hx => by
                              refine (insert_any (fun j => T j ∨ q < j) _ _ _ t wx (Rows.below tbFine HTW.out hx) ?_ (by rw [HNX.out]; omega)).mono ?_
                              · obtain ⟨a, b, e, h1, h2⟩ := HXT.out.below (fr.step HFL.out hx)
                                exact ⟨a, b, e, h1.mono fun _ h => .inl h, h2.mono fun _ h => .inl h⟩
                              · rintro r w' ⟨v', rfl, h1, h2⟩
                                obtain ⟨A', c', rfl⟩ := h1.form
                                have hl : (insT t (insAll [] ((v.tabs.take m).filter (keepE e)))).length = nx + 1 := by rw [(insT_perm _ _).length_eq, List.length_cons, HNX.out]
                                rw [hl] at h1 ⊢
                                have hq1 := (Array.getElem?_eq_some_iff.1 HRW.out).1
                                refine ⟨A', c', rfl, ((Below.block (fr.step hx h2) q hq1).trans HRW.out), Rows.keep tbFine h1 fun _ _ _ _ hr => hr.mono fun k hk => ?_, fr.step hx h2⟩
                                rcases hk with hk | hk
                                · exact hk
                                · have := Below.size hx; exact .inr (by omega)
                            have q0 := cell_of_row _ _ 0 _ _ _ HRW.out
                            clear hg hks x0 x1 x2 x3 x4 e1 v0 g1
                            go_upto_region 47 with (fail)
                            go_still_tail 7, (by kernel_rfl)
                            go_wp2_with (go_at_call 82; refine (HIN.out _ (by first | exact fr.refl | exact frH_drewN | exact fr.drew fr.refl)).mono ?_; rintro r w5 ⟨A5, k5, rfl, hr5, ht5, f5⟩; have fz := frozen_of_row _ _ 0 _ _ hr5; have cz := cell_of_row _ _ 0 _ _ _ hr5)
                            refine ⟨⟨m + 1, .slice A5 (nx + 1) k5, by omega, by go_num, heap_setCell_same _ q 0 _ _ _ hr5, ?_, Below.setCell (fr.step HPW.out f5) (by rw [HQS.out]; exact Nat.le_refl _) _⟩, by simp [intOf]; omega⟩
                            rw [HKS.out]
                            refine Rows.only tbFine ht5 (only_set _ _ _ _) fun k hk h => ?_
                            rcases hk with hk | hk
                            · rw [HT0.out] at hk
                              have := hk.2
                              have := HZ.out
                              omega
                            · omega
                    · obtain rfl : m = nv := by omega
                      rw [List.take_of_length_le (by rw [HNV.out]; exact Nat.le_refl _)] at HTAB HNX
                      have HEND : Hid (insAll (insAll [] (v.tabs.filter (keepE e))) e.add = sortTb (foldT v e)) := Lib.hid (rfold_tabs HNO.out (foldE_ok.1 HE0.out))
                      obtain ⟨L0, hL0⟩ : ∃ l, insAll [] (v.tabs.filter (keepE e)) = l := ⟨_, rfl⟩
                      rw [hL0] at HTAB HNX HEND
                      have e0 := cell_of_row _ _ 0 _ _ _ HBG.out.b1
                      clear e1 v0 hL0
                      go_wp2_with (fail)
                      go_loopw [240] (fun t wx => ∃ (p : Nat) (y : Value) (ny : Int), p ≤ k ∧ t = .int .i64 p ∧ Hid (nextF (max v.nx 1) (e.add.take p) = ny) ∧ wx.heap[q]? = some (.cells #[y, .int .i64 e.lg, .int .i64 e.sq, .int .i64 ny] 50 (0, 0)) ∧ TabsV wx (fun j => T j ∨ q < j) y (insAll L0 (e.add.take p)) ∧ fr wp wx) (fun t _ => k - (intOf t).toNat)
                      case atStart => exact ⟨0, _, _, Nat.zero_le _, rfl, Lib.hid rfl, HROW.out, HTAB.out, HFP.out⟩
                      case round =>
                        obtain ⟨p, y, ny, hp, rfl, HNY, hrow, htab, hfx⟩ := hrel
                        obtain ⟨Ay, cy, rfl⟩ := htab.form
                        obtain ⟨my, hmy⟩ : ∃ n, (insAll L0 (e.add.take p)).length = n := ⟨_, rfl⟩
                        have hmyl : my ≤ nx + p := by
                          rw [← hmy, insAll_len, HNX.out, List.length_take]
                          omega
                        rw [hmy] at htab hrow
                        have HRY := Lib.hid hrow
                        have HTY := Lib.hid htab
                        have HMY := Lib.hid hmy
                        have HFP2 := Lib.hid hfx
                        have HFH := Lib.hid (fr.step HFV.out hfx)
                        have HBH := Lib.hid (HBV.out.below hfx)
                        clear hrow htab hfx hmy e0
                        have e0 := cell_of_row _ _ 0 _ _ _ HBH.out.b1
                        obtain ⟨wl2, hwl2⟩ : ∃ x, x = wr := ⟨_, rfl⟩
                        subst hwl2
                        have q0 := cell_of_row _ _ 0 _ _ _ HRY.out
                        by_cases hin : p < k
                        · obtain ⟨t, hf⟩ : ∃ t, e.add[p]? = some t := ⟨_, List.getElem?_eq_getElem (by rw [HNA.out]; exact hin)⟩
                          obtain ⟨b, o, cs, rfl, hblt, hTb, ⟨va, vb, rfl, hva, hvb⟩, hc⟩ := Rows.at_ tbFine (Rows.below tbFine HA.out HFH.out) hf
                          obtain ⟨A1, c1, rfl⟩ := slice_form hva
                          obtain ⟨A2, c2, rfl⟩ := slice_form hvb
                          have x0 : wl2.cell? ⟨b, o + p * 5, none⟩ = _ := hc 0 _ rfl
                          have x1 : wl2.cell? ⟨b, o + p * 5 + 1, none⟩ = _ := hc 1 _ rfl
                          have x2 : wl2.cell? ⟨b, o + p * 5 + 2, none⟩ = _ := hc 2 _ rfl
                          have x3 : wl2.cell? ⟨b, o + p * 5 + 3, none⟩ = _ := hc 3 _ rfl
                          have x4 : wl2.cell? ⟨b, o + p * 5 + 4, none⟩ = _ := hc 4 _ rfl
                          have HT := Lib.hid hf
                          have HXT : Hid (TblV wl2 T (.agg #[.int .i64 t.id, .int .i64 t.level, .int .i64 t.count, .slice A1 t.lo.length c1, .slice A2 t.hi.length c2]) t) := Lib.hid ⟨_, _, rfl, hva, hvb⟩
                          have hidr : 1 ≤ t.id ∧ t.id ≤ 999999 := by
                            have := List.all_eq_true.1 HALL.out t (List.mem_of_getElem? hf)
                            unfold okR at this
                            simp only [Bool.and_eq_true, decide_eq_true_eq] at this
                            omega
                          have hbq : b < q := by
                            rw [HT0.out] at hTb
                            have := hTb.2
                            have := HZ.out
                            omega
                          have HNS : Hid (nextF (max v.nx 1) (e.add.take (p + 1)) = max ny (t.id + 1)) := Lib.hid (by rw [take_snoc hf, nextF_snoc, HNY.out])
                          have HKS : Hid (insAll L0 (e.add.take (p + 1)) = insT t (insAll L0 (e.add.take p))) := Lib.hid (by rw [take_snoc hf, insAll_snoc])
                          clear hc hf hva hvb hTb
                          have HIN : Hid (∀ wx, fr wl2 wx → Calls Tryz.prog 82 #[.slice Ay my cy, .agg #[.int .i64 t.id, .int .i64 t.level, .int .i64 t.count, .slice A1 t.lo.length c1, .slice A2 t.hi.length c2]] wx fun r w' => ∃ A' c', r = .returned (.slice A' (my + 1) c') ∧ w'.heap[q]? = some (.cells #[.slice Ay my cy, .int .i64 e.lg, .int .i64 e.sq, .int .i64 ny] 50 (0, 0)) ∧ TabsV w' (fun j => T j ∨ q < j) (.slice A' (my + 1) c') (insT t (insAll L0 (e.add.take p))) ∧ fr wl2 w') := Lib.hid fun wx hx => by
                            refine (insert_any (fun j => T j ∨ q < j) _ _ _ t wx (Rows.below tbFine HTY.out hx) ?_ (by rw [HMY.out]; omega)).mono ?_
                            · obtain ⟨a, b, e, h1, h2⟩ := HXT.out.below hx
                              exact ⟨a, b, e, h1.mono fun _ h => .inl h, h2.mono fun _ h => .inl h⟩
                            · rintro r w' ⟨v', rfl, h1, h2⟩
                              obtain ⟨A', c', rfl⟩ := h1.form
                              have hl : (insT t (insAll L0 (e.add.take p))).length = my + 1 := by rw [(insT_perm _ _).length_eq, List.length_cons, HMY.out]
                              rw [hl] at h1 ⊢
                              have hq1 := (Array.getElem?_eq_some_iff.1 HRY.out).1
                              refine ⟨A', c', rfl, ((Below.block (fr.step hx h2) q hq1).trans HRY.out), Rows.keep tbFine h1 fun _ _ _ _ hr => hr.mono fun k hk => ?_, fr.step hx h2⟩
                              rcases hk with hk | hk
                              · exact hk
                              · have := Below.size hx; exact .inr (by omega)
                          go_upto_region 52 with (fail)
                          go_still_tail 7, (by kernel_rfl)
                          go_upto_region 53 with (go_at_call 82; refine (HIN.out _ (by first | exact fr.refl | exact frH_drewN | exact fr.drew fr.refl)).mono ?_; rintro r w5 ⟨A5, k5, rfl, hr5, ht5, f5⟩; have fz := frozen_of_row _ _ 0 _ _ hr5; have cz := cell_of_row _ _ 0 _ _ _ hr5)
                          have HR6 := Lib.hid (heap_setCell_same _ q 0 _ _ (.slice A5 (my + 1) k5) hr5)
                          have HO6 : Hid (Only (fun i => i = q) w5 (w5.setCell ⟨q, 0, none⟩ (.slice A5 (my + 1) k5))) := Lib.hid (only_set _ _ _ _)
                          generalize w5.setCell ⟨q, 0, none⟩ (.slice A5 (my + 1) k5) = w6 at HR6 HO6 ⊢
                          have HT6 : Hid (TabsV w6 (fun j => T j ∨ q < j) (.slice A5 (my + 1) k5) (insT t (insAll L0 (e.add.take p)))) := Lib.hid (Rows.only tbFine ht5 HO6.out fun k hk h => by
                            rcases hk with hk | hk
                            · rw [HT0.out] at hk
                              have := hk.2
                              have := HZ.out
                              omega
                            · omega)
                          have hf56 : fr wp w6 := (fr.step HFP2.out f5).trans (HO6.out.below (Below.size (fr.step HFP2.out f5)) fun i h => by rw [h, HQS.out]; exact Nat.le_refl _)
                          have HF6 := Lib.hid hf56
                          have u0 := (HBV.out.below hf56).b1
                          have u1 := cell_of_row _ _ 0 _ _ _ u0
                          have n3 := cell_of_row _ _ 3 _ _ _ HR6.out
                          have f3 := frozen_of_row _ _ 3 _ _ HR6.out
                          have i0 : w6.cell? ⟨b, o + p * 5, none⟩ = some (.int .i64 t.id) := (HO6.out.cellOf (f5.cell x0) (by omega))
                          clear x0 x1 x2 x3 x4 e0 q0 hr5 ht5 f5 fz cz hf56 u0
                          go_region
                          go_wp2_with (fail)
                          refine ⟨⟨p + 1, .slice A5 (my + 1) k5, _, by omega, by go_num, HNS, heap_setCell_same _ q 3 _ _ _ HR6.out, ?_, ?_⟩, by simp [intOf]; omega⟩
                          · rw [HKS.out]
                            refine Rows.only tbFine HT6.out (only_set _ _ _ _).drew fun k hk h => ?_
                            rcases hk with hk | hk
                            · rw [HT0.out] at hk
                              have := hk.2
                              have := HZ.out
                              omega
                            · omega
                          · exact Below.drew (Below.setCell HF6.out (by rw [HQS.out]; exact Nat.le_refl _) _)
                        · obtain rfl : p = k := by omega
                          rw [List.take_of_length_le (by rw [HNA.out]; exact Nat.le_refl _)] at HTY HNY HMY
                          rw [HEND.out] at HTY HMY
                          have q1 := cell_of_row _ _ 1 _ _ _ HRY.out
                          have q2 := cell_of_row _ _ 2 _ _ _ HRY.out
                          have q3 := cell_of_row _ _ 3 _ _ _ HRY.out
                          have r0 := cell_of_row _ _ 0 _ _ _ HBH.out.b2
                          have r1 := cell_of_row _ _ 1 _ _ _ HBH.out.b2
                          have r2 := cell_of_row _ _ 2 _ _ _ HBH.out.b2
                          have r3 := cell_of_row _ _ 3 _ _ _ HBH.out.b2
                          have z0 := frozen_of_row _ _ 0 _ _ HBH.out.b2
                          have z1 := frozen_of_row _ _ 1 _ _ HBH.out.b2
                          have z2 := frozen_of_row _ _ 2 _ _ HBH.out.b2
                          have z3 := frozen_of_row _ _ 3 _ _ HBH.out.b2
                          go_wp2_with (fail)
                          have P := put4_row HBH.out.b2 (a := .slice Ay my cy) (b := .int .i64 e.lg) (c := .int .i64 e.sq) (d := .int .i64 ny)
                          have O := put4_only (W := wl2) (g := z + 1 + 1) (a := .slice Ay my cy) (b := .int .i64 e.lg) (c := .int .i64 e.sq) (d := .int .i64 ny)
                          unfold put4 at P O
                          generalize (((wl2.setCell ⟨z + 1 + 1, 0, none⟩ (.slice Ay my cy)).setCell ⟨z + 1 + 1, 1, none⟩ (.int .i64 e.lg)).setCell ⟨z + 1 + 1, 2, none⟩ (.int .i64 e.sq)).setCell ⟨z + 1 + 1, 3, none⟩ (.int .i64 ny) = w9 at P O ⊢
                          have s0 := cell_of_row _ _ 0 _ _ _ P
                          have s1 := cell_of_row _ _ 1 _ _ _ P
                          have s2 := cell_of_row _ _ 2 _ _ _ P
                          have s3 := cell_of_row _ _ 3 _ _ _ P
                          refine bodyPost_ret (v := .tuple #[.agg #[.slice Ay my cy, .int .i64 e.lg, .int .i64 e.sq, .int .i64 ny], .int .i64 0]) (by simp [results, Tryz.results27, go_sem, s0, s1, s2, s3]) rfl ?_
                          refine ⟨_, by rw [HE0.out], ⟨_, _, _, _, _, _, rfl⟩, fun _ => ⟨.slice Ay my cy, ?_, ?_⟩, HFH.out.trans (O.below (Below.size HFH.out) fun i h => by have := HZ.out; omega)⟩
                          · have : foldN v e = ny := HNY.out
                            rw [this]
                          · have h1 := Rows.only tbFine HTY.out O fun k hk h => by
                              rcases hk with hk | hk
                              · rw [HT0.out] at hk
                                have := hk.2
                                have := HZ.out
                                omega
                              · omega
                            exact Rows.keep tbFine h1 fun _ _ _ _ hr => hr.mono fun k hk => by
                              rcases hk with hk | hk
                              · rw [HT0.out] at hk
                                exact .inl hk.1
                              · have := HZ.out; exact .inr (by omega)
end Go.Proofs.YtjnolpfmchnnmaaGreatDoor
end
