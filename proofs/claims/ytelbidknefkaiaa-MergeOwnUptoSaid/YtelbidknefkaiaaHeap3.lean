/-
merge's heap: pop.
-/
import Derived.Test.YtelbidknefkaiaaHeap2
namespace Go.Proofs.Ytelbidknefkaiaa
open Go.RowKit Go.BigFrame
attribute [local go_sem ↓] Go.wp_at_zero Go.wp_at_succ

/-- what pop leaves. -/
def Popped (base p : Nat) (S : Nat → Prop) (sl : Value) (qs : List (Value × List Ent)) (w w' : World) : Prop :=
  ∃ sl', HeapV w' base p S sl' qs ∧ Only (fun i => i = p ∨ sl.ownBlock = some i) w w' ∧ sl'.ownBlock = sl.ownBlock

set_option maxRecDepth 100000 in
set_option maxHeartbeats 4000000 in
theorem pop_any (base p : Nat) (S : Nat → Prop) (sl : Value) (ps : List (Value × List Ent)) (q0 : Value × List Ent) (w : World) (h : HeapV w base p S sl ps) (h0 : ps[0]? = some q0) (hsz : ps.length * 24 ≤ 140737488355328) :
    Calls Try.prog 45 #[.pointer (some ⟨p, 0, none⟩)] w fun r w' => r = .returned q0.1 ∧ Popped base p S sl (popL (·.2) ps) w w' := by
  obtain ⟨n, hn⟩ : ∃ n, ps.length = n + 1 := ⟨ps.length - 1, by have := (List.getElem?_eq_some_iff.1 h0).1; omega⟩
  obtain ⟨z, hz⟩ : ∃ z, ps[n]? = some z := ⟨_, List.getElem?_eq_getElem (by omega)⟩
  have HPOP := Lib.hid (show popL (·.2) ps = siftDown (·.2) ((ps.set 0 z).take n) 0 by unfold popL; rw [hn, Nat.add_sub_cancel, hz])
  obtain ⟨g, c, rfl, hbg, hgz, hnc, hc63⟩ := own_pos h.row (by omega)
  rw [hn] at h hsz hnc ⊢
  have hpz := h.lt
  have hgp : g ≠ p := fun e => h.ne (by rw [e]; rfl)
  obtain ⟨y0, y0n⟩ := h.vals q0 (List.mem_of_getElem? h0)
  obtain ⟨yz, yzn⟩ := h.vals z (List.mem_of_getElem? hz)
  obtain ⟨v0, l0⟩ := q0
  obtain ⟨vz, lz⟩ := z
  obtain ⟨A0, n0, x0, rfl⟩ := ents_form' y0
  obtain ⟨Az, nz, xz, rfl⟩ := ents_form' yz
  have c0 := h.box0
  have ca : w.cell? { block := g, off := 0 } = some (.slice A0 n0 x0) := h.cell hn h0
  have cb : w.cell? { block := g, off := n } = some (.slice Az nz xz) := h.cell hn hz
  have fa := h.frozen hn 0
  have H := Lib.hid h
  have HN := Lib.hid hn
  have HZ := Lib.hid (show Ents w S (.slice Az nz xz) lz ∧ lz ≠ [] from ⟨yz, yzn⟩)
  obtain ⟨ps1, hps1⟩ : ∃ ps1, (ps.set 0 (.slice Az nz xz, lz)).take n = ps1 := ⟨_, rfl⟩
  rw [HPOP.out, hps1]
  have HPS := Lib.hid hps1
  clear h hn h0 hz y0 yz y0n yzn HPOP hps1
  go_enter Try.func45, Try.ntmps45
  go_wp2
  go_region
  generalize hwa : (w.setCell { block := g, off := 0 } (.slice Az nz xz)).drew = wa
  have hset : HeapV wa base p S (.slice (some ⟨g, 0, none⟩) (n + 1) c) (ps.set 0 (.slice Az nz xz, lz)) := by
    rw [← hwa]
    exact (H.out.set HZ.out HN.out 0).below (Below.drew (Below.refl _ _))
  have honly : Only (fun i => i = p ∨ i = g) w wa := by
    rw [← hwa]
    exact ((only_set _ _ _ _).mono (fun i e => .inr e)).drew
  have HSET := Lib.hid hset
  have HON := Lib.hid honly
  have d0 := hset.box0
  have f0 := frozen_of_row wa p 0 _ _ hset.box
  clear hwa hset honly ca cb fa c0
  go_wp2
  have HCUT := HSET.out.cut (by rw [List.length_set]; exact HN.out)
  rw [HPS.out] at HCUT
  have HON1 := HON.out.trans ((only_set wa p 0 (.slice (some { block := g, off := 0 }) n c)).mono (fun i e => .inl e))
  generalize hwb : wa.setCell { block := p, off := 0 } (.slice (some { block := g, off := 0 }) n c) = wb at HCUT HON1 ⊢
  have hlen : ps1.length = n := by rw [← HPS.out]; simp [HN.out]
  have HC := Lib.hid HCUT
  have HO := Lib.hid HON1
  have HL := Lib.hid hlen
  clear hwb HCUT HON1 hlen d0 f0 HSET HON
  go_loopw [5] (fun t wr => ∃ (i : Nat) (ps' : List (Value × List Ent)), i ≤ n ∧ t = .int .i64 i ∧ HeapV wr base p S (.slice (some ⟨g, 0, none⟩) n c) ps' ∧ ps'.length = n ∧ siftDown (·.2) ps1 0 = siftDown (·.2) ps' i ∧ Only (fun i => i = p ∨ i = g) w wr) (fun t _ => n - (intOf t).toNat)
  case atStart => exact ⟨0, ps1, Nat.zero_le _, rfl, HC.out, HL.out, rfl, HO.out⟩
  case round =>
    obtain ⟨i, ps', hin, rfl, hh, hlen, hsift, honly⟩ := hrel
    obtain ⟨wo, hwo⟩ : ∃ wo, wo = wr := ⟨_, rfl⟩
    subst hwo
    have HH := Lib.hid hh
    have HLEN := Lib.hid hlen
    have HS := Lib.hid hsift
    have HON := Lib.hid honly
    clear hh hlen hsift honly
    go_wp2
    go_loopw [6, 7] (fun t6 t7 wi => ∃ k : Nat, 2 * i + 1 ≤ k ∧ k ≤ 2 * i + 3 ∧ t7 = .int .i64 k ∧ t6 = .int .i64 (lst (·.2) ps' i (k - (2 * i + 1)) : Nat) ∧ Below wo.heap.size wo wi) (fun _ t _ => 2 * i + 3 - (intOf t).toNat)
    case atStart => exact ⟨2 * i + 1, by omega, by omega, by go_num, by simp [lst], Below.refl _ _⟩
    case round =>
      obtain ⟨k, hk1, hk2, rfl, rfl, hbel⟩ := hrel
      have HI := Lib.hid (HH.out.below hbel)
      have HB := Lib.hid hbel
      clear hbel
      have hor := lst_or (·.2) ps' i (k - (2 * i + 1))
      have hex : Hid (k = 2 * i + 3 ∨ n ≤ k → lst (·.2) ps' i 2 = lst (·.2) ps' i (k - (2 * i + 1))) := Lib.hid fun h => lst_two _ _ _ _ (by omega) (by rw [HLEN.out]; omega)
      by_cases hgo : k ≤ 2 * i + 2 ∧ k < n
      · obtain ⟨hg1, hg2⟩ := hgo
        clear hex
        obtain ⟨m, hm⟩ : ∃ m, lst (·.2) ps' i (k - (2 * i + 1)) = m := ⟨_, rfl⟩
        rw [hm, HLEN.out] at hor
        rw [hm]
        have HMM := Lib.hid hm
        have hmn : m < n := by omega
        clear hm hor
        obtain ⟨a, ha⟩ : ∃ a, ps'[k]? = some a := ⟨_, List.getElem?_eq_getElem (by rw [HLEN.out]; omega)⟩
        obtain ⟨b, hb⟩ : ∃ b, ps'[m]? = some b := ⟨_, List.getElem?_eq_getElem (by rw [HLEN.out]; omega)⟩
        obtain ⟨ya, yan⟩ := HI.out.vals a (List.mem_of_getElem? ha)
        obtain ⟨yb, ybn⟩ := HI.out.vals b (List.mem_of_getElem? hb)
        obtain ⟨va, la⟩ := a
        obtain ⟨vb, lb⟩ := b
        obtain ⟨Aa, na, xa, rfl⟩ := ents_form' ya
        obtain ⟨Ab, nb, xb, rfl⟩ := ents_form' yb
        obtain ⟨ea, la, rfl⟩ := List.exists_cons_of_ne_nil yan
        obtain ⟨eb, lb, rfl⟩ := List.exists_cons_of_ne_nil ybn
        have c0 := HI.out.box0
        have c1' := HI.out.box1
        have ca := HI.out.cell HLEN.out ha
        have cb := HI.out.cell HLEN.out hb
        have F0 : ∀ q : Ext wr, q.w.cell? { block := p, off := 0 } = _ := fun q => q.h.cell c0
        have F1 : ∀ q : Ext wr, q.w.cell? { block := p, off := 1 } = _ := fun q => q.h.cell c1'
        have F2 : ∀ q : Ext wr, q.w.cell? { block := g, off := k } = some (.slice Aa na xa) := fun q => q.h.cell ca
        have F3 : ∀ q : Ext wr, q.w.cell? { block := g, off := m } = some (.slice Ab nb xb) := fun q => q.h.cell cb
        have CC : ∀ q : Ext wr, Calls Try.prog 42 #[.slice Aa na xa, .slice Ab nb xb] q.w fun r w'' => r = .returned (.int .i64 (cmpE ea eb)) ∧ ∃ q' : Ext wr, w'' = q'.w := fun q => Ext.calls (mclos_any S S _ _ ea eb la lb _ (ya.below q.h) (yb.below q.h))
        have HSTEP : Hid (lst (·.2) ps' i (k + 1 - (2 * i + 1)) = if cmpE ea eb < 0 then k else m) := by
          refine Lib.hid ?_
          rw [show k + 1 - (2 * i + 1) = (k - (2 * i + 1)) + 1 from by omega, lst, HMM.out, show 2 * i + 1 + (k - (2 * i + 1)) = k from by omega, leastStep, ha, hb]; rfl
        clear ha hb c0 c1' ca cb ya yb yan ybn
        by_cases hlt : cmpE ea eb < 0
        · go_wp2
          (refine wp_region_quiet_ext (by kernel_rfl) (by kernel_rfl) ?_; (repeat (go_big_quiet_step ((go_at_call 42; exact CC _)))); refine wpQuiet_nil ?_; intro wq hw'; obtain ⟨⟨_, hq⟩, hw''⟩ := hw'; subst hw'')
          go_wp2
          refine ⟨⟨k + 1, by omega, by omega, by go_num, by rw [HSTEP.out, if_pos hlt], HB.out.trans (Below.mono hq HB.out.size)⟩, by simp [intOf]; omega⟩
        · go_wp2
          (refine wp_region_quiet_ext (by kernel_rfl) (by kernel_rfl) ?_; (repeat (go_big_quiet_step ((go_at_call 42; exact CC _)))); refine wpQuiet_nil ?_; intro wq hw'; obtain ⟨⟨_, hq⟩, hw''⟩ := hw'; subst hw'')
          go_wp2
          refine ⟨⟨k + 1, by omega, by omega, by go_num, by rw [HSTEP.out, if_neg (by omega)], HB.out.trans (Below.mono hq HB.out.size)⟩, by simp [intOf]; omega⟩
      · have HEX := Lib.hid (hex.out (by omega))
        clear hex hor
        have hor := lst_or (·.2) ps' i 2
        rw [← HEX.out]
        generalize hM : lst (·.2) ps' i 2 = M at hor HEX ⊢
        rw [HLEN.out] at hor
        have HM := Lib.hid hM
        clear HEX hM
        by_cases hk : k ≤ 2 * i + 2
        all_goals
          by_cases hMi : M = i
          · subst hMi
            clear hor
            go_wp2
            refine bodyPost_ret (v := .slice A0 n0 x0) (by simp [results, Try.results45, go_sem]) rfl ?_
            refine ⟨rfl, .slice (some ⟨g, 0, none⟩) n c, ?_, (HON.out.trans (Only.of_below HB.out)).mono ?_, rfl⟩
            · rw [HS.out, siftDown, dif_pos HM.out]; exact HI.out
            · exact fun i h => h.elim .inl (fun e => .inr (by rw [e]; rfl))
          · have hi1 : i < M := by omega
            have hi2 : M < n := by omega
            clear hor
            obtain ⟨a, ha⟩ : ∃ a, ps'[i]? = some a := ⟨_, List.getElem?_eq_getElem (by rw [HLEN.out]; omega)⟩
            obtain ⟨b, hb⟩ : ∃ b, ps'[M]? = some b := ⟨_, List.getElem?_eq_getElem (by rw [HLEN.out]; omega)⟩
            obtain ⟨ya, yan⟩ := HI.out.vals a (List.mem_of_getElem? ha)
            obtain ⟨yb, ybn⟩ := HI.out.vals b (List.mem_of_getElem? hb)
            obtain ⟨va, la⟩ := a
            obtain ⟨vb, lb⟩ := b
            obtain ⟨Aa, na, xa, rfl⟩ := ents_form' ya
            obtain ⟨Ab, nb, xb, rfl⟩ := ents_form' yb
            have c0 := HI.out.box0
            have ca : wr.cell? { block := g, off := i } = some (.slice Aa na xa) := HI.out.cell HLEN.out ha
            have cb : wr.cell? { block := g, off := M } = some (.slice Ab nb xb) := HI.out.cell HLEN.out hb
            have fa := HI.out.frozen HLEN.out i
            have fb := HI.out.frozen HLEN.out M
            have HSW := Lib.hid ((HI.out.swap HLEN.out ha hb).below (Below.drew (Below.refl _ _)))
            clear ha hb ya yb yan ybn
            have HMI := Lib.hid hMi
            clear hMi
            go_wp2
            go_region
            go_wp2
            refine ⟨⟨M, swapL ps' i M, by omega, rfl, HSW.out, by rw [swapL_len]; exact HLEN.out, ?_, ?_⟩, by simp [intOf]; omega⟩
            · rw [HS.out, siftDown, dif_neg (by rw [HM.out]; exact HMI.out), HM.out]
            · exact (HON.out.trans (Only.of_below HB.out)).trans ((((only_set _ _ _ _).trans (only_set _ _ _ _)).mono (fun i e => .inr e)).drew)
end Go.Proofs.Ytelbidknefkaiaa
