/-
merge.Merge: how its lists, its heap and what it makes lie in memory.
-/
import Derived.Test.YtacdhkkelkplnaaQPOwn4
import Derived.BigRegion
import Derived.Laws.EntriesVeiled
import Derived.Deep.LoopGhost
import Derived.Test.YtacdhkkelkplnaaQPOwn2
section
namespace Go.Proofs.Ytacdhkkelkplnaa
open Go.RowKit Go.BigFrame
attribute [local go_sem ↓] Go.wp_at_zero Go.wp_at_succ
theorem Only.then_ {T U : Nat → Prop} {a b c : World} (h : Only T a b) (k : Only U b c) (hU : ∀ i, i < a.heap.size → U i → T i) : Only T a c :=
  ⟨k.os.trans h.os, k.tape.trans h.tape, k.output.trans h.output, Nat.le_trans h.size k.size, fun i hi hS => (k.block i (Nat.lt_of_lt_of_le hi h.size) (fun u => hS (hU i hi u))).trans (h.block i hi hS)⟩
theorem ents_form' {w : World} {S : Nat → Prop} {v : Value} {es : List Ent} (h : Ents w S v es) : ∃ A n c, v = .slice A n c := by
  obtain ⟨A, c, cs, rfl, _⟩ := h
  exact ⟨_, _, _, rfl⟩
/-- what push leaves. -/
def Pushed (base p : Nat) (S : Nat → Prop) (sl : Value) (qs : List (Value × List Ent)) (w w' : World) : Prop :=
  ∃ sl', HeapV w' base p S sl' qs ∧ Only (fun i => i = p ∨ sl.ownBlock = some i) w w' ∧ (sl'.ownBlock = sl.ownBlock ∨ ∃ g, sl'.ownBlock = some g ∧ w.heap.size ≤ g)
set_option maxRecDepth 100000 in
set_option maxHeartbeats 4000000 in
theorem push_any (base p : Nat) (S : Nat → Prop) (sl v : Value) (ps : List (Value × List Ent)) (l : List Ent) (w : World) (h : HeapV w base p S sl ps) (hv : Ents w S v l) (hl : l ≠ []) (hsz : (ps.length + 1) * 24 ≤ 140737488355328) :
    Calls Try.prog 49 #[.pointer (some ⟨p, 0, none⟩), v] w fun r w' => r = .returned (.tuple #[]) ∧ Pushed base p S sl (siftUp (·.2) (ps ++ [(v, l)]) ps.length) w w' := by
  obtain ⟨i0, hi, hz0, hz1, hz2⟩ := info_parts info22
  have hby := Lib.hid hz2
  have hz1' := Lib.hid hz1
  clear hz2 hz1
  have H := Lib.hid h
  have HV := Lib.hid hv
  have HL := Lib.hid hl
  have x0 := h.box0
  have hpz := h.lt
  have hbase : base ≤ w.heap.size := by have := h.hp; omega
  obtain ⟨n, hn⟩ : ∃ n, ps.length = n := ⟨_, rfl⟩
  have HN := Lib.hid hn
  rw [hn] at hsz ⊢
  have HR := Lib.hid (hn ▸ h.row)
  obtain ⟨A, c, rfl⟩ := own_form HR.out
  obtain ⟨Av, cv, rfl⟩ := ents_form hv
  obtain ⟨ps1, hps1⟩ : ∃ ps1, ps ++ [(.slice Av l.length cv, l)] = ps1 := ⟨_, rfl⟩
  have hlen1 : ps1.length = n + 1 := by rw [← hps1]; simp [HN.out]
  have HL1 := Lib.hid hlen1
  have HPS := Lib.hid hps1
  rw [hps1]
  clear h hn hv hl hps1 hlen1
  go_enter Try.func49, Try.ntmps49
  go_wp2_with (at_builtin; refine wpList_append_own_at _ rfl _ _ 30 rfl base 41 i0 _ 1 24 Try.underlying30 hi hz0 hz1'.out hby.out rfl (by decide) _ _ _ rfl (HR.out.alloc _) ⟨w.heap.size, 0, none⟩ 1 1 [.slice Av l.length cv] rfl rfl (cell_one_new _ _ _) (by simp [Value.oneCell']) (by unfold maxLen; omega) (by omega) (by simp; omega) ?_; intro v' w2 hown' hgrow hnn hat; clear hnn; obtain ⟨g, c1, rfl, hbg, hgz, hc1, hc2⟩ := own_pos hown' (Nat.succ_pos n); replace hgrow : (w.alloc (.cells #[.slice Av l.length cv] 41)).grownBy w2 (Value.slice A n c).ownBlock := hgrow; replace hat : some g = (Value.slice A n c).ownBlock ∨ some g = some (w.alloc (.cells #[.slice Av l.length cv] 41)).heap.size := hat; have hbox2 : w2.heap[p]? = some (boxOf (.slice A n c)) := (hgrow.block p (by simp; omega) (fun e => H.out.ne e.symm)).trans ((heap_alloc_old w _ hpz).trans H.out.box); have e0 : w2.cell? { block := p, off := 0 } = some (.slice A n c) := (by rw [cell_of_row w2 p 0 _ _ _ hbox2]; rfl); have e1 := frozen_of_row w2 p 0 _ _ hbox2; have HB2 := Lib.hid hbox2; have HOWN := Lib.hid hown'; have HG := Lib.hid hgrow; have HAT := Lib.hid hat; clear hbox2 hown' hgrow hat)
  obtain ⟨HP, HO⟩ := H.out.pushed HN.out HV.out HL.out HOWN.out HG.out HAT.out
  have HGG : Hid (∀ i, i < w.heap.size → (i = p ∨ i = g) → (i = p ∨ (Value.slice A n c).ownBlock = some i)) := by
    refine Lib.hid fun i hi hpg => ?_
    rcases hpg with h | h
    · exact .inl h
    · rcases HAT.out with e | e
      · exact .inr (h ▸ e.symm)
      · injection e with e
        simp at e
        omega
  have HGN : Hid ((Value.slice (some ⟨g, 0, none⟩) (n + 1) c1).ownBlock = (Value.slice A n c).ownBlock ∨ ∃ g', (Value.slice (some ⟨g, 0, none⟩) (n + 1) c1).ownBlock = some g' ∧ w.heap.size ≤ g') := by
    refine Lib.hid ?_
    rcases HAT.out with e | e
    · exact .inl e
    · refine .inr ⟨g, rfl, ?_⟩
      injection e with e
      simp at e
      omega
  clear e0 e1
  obtain ⟨w3, hw3⟩ : ∃ w3, w2.setCell { block := p, off := 0 } (.slice (some { block := g, off := 0 }) (n + 1) c1) = w3 := ⟨_, rfl⟩
  rw [hw3] at HP HO ⊢
  clear hw3
  rw [HPS.out] at HP
  have HP1 := Lib.hid HP
  clear HP HB2 HOWN
  have HO1 := Lib.hid HO
  clear HO
  go_loopw [4] (fun t wr => ∃ (i : Nat) (ps' : List (Value × List Ent)), i ≤ n ∧ t = .int .i64 i ∧ HeapV wr base p S (.slice (some ⟨g, 0, none⟩) (n + 1) c1) ps' ∧ ps'.length = n + 1 ∧ siftUp (·.2) ps1 n = siftUp (·.2) ps' i ∧ Only (fun i => i = p ∨ i = g) w3 wr) (fun t _ => (intOf t).toNat)
  case atStart => exact ⟨n, ps1, Nat.le_refl _, rfl, HP1.out, HL1.out, rfl, Only.refl _ _⟩
  case round =>
    obtain ⟨i, ps', hin, rfl, hh, hlen, hsift, honly⟩ := hrel
    have HH := Lib.hid hh
    have HLEN := Lib.hid hlen
    have HS := Lib.hid hsift
    have HON := Lib.hid honly
    clear hh hlen hsift honly
    cases i with
    | zero =>
      go_wp2
      refine bodyPost_end (v := .tuple #[]) (by simp [results, Try.results49, go_sem]) rfl ?_
      exact ⟨rfl, _, by rw [HS.out, siftUp]; exact HH.out, HO1.out.then_ HON.out HGG.out, HGN.out⟩
    | succ j =>
      obtain ⟨a, ha⟩ : ∃ a, ps'[j / 2]? = some a := ⟨_, List.getElem?_eq_getElem (by rw [HLEN.out]; omega)⟩
      obtain ⟨b, hb⟩ : ∃ b, ps'[j + 1]? = some b := ⟨_, List.getElem?_eq_getElem (by rw [HLEN.out]; omega)⟩
      obtain ⟨ya, yan⟩ := HH.out.vals a (List.mem_of_getElem? ha)
      obtain ⟨yb, ybn⟩ := HH.out.vals b (List.mem_of_getElem? hb)
      obtain ⟨va, la⟩ := a
      obtain ⟨vb, lb⟩ := b
      obtain ⟨Aa, na, xa, rfl⟩ := ents_form' ya
      obtain ⟨Ab, nb, xb, rfl⟩ := ents_form' yb
      obtain ⟨ea, la, rfl⟩ := List.exists_cons_of_ne_nil yan
      obtain ⟨eb, lb, rfl⟩ := List.exists_cons_of_ne_nil ybn
      have c0 := HH.out.box0
      have c1' := HH.out.box1
      have ca := HH.out.cell HLEN.out ha
      have cb := HH.out.cell HLEN.out hb
      have F0 : ∀ q : Ext wr, q.w.cell? { block := p, off := 0 } = _ := fun q => q.h.cell c0
      have F1 : ∀ q : Ext wr, q.w.cell? { block := p, off := 1 } = _ := fun q => q.h.cell c1'
      have F2 : ∀ q : Ext wr, q.w.cell? { block := g, off := j / 2 } = _ := fun q => q.h.cell ca
      have F3 : ∀ q : Ext wr, q.w.cell? { block := g, off := j + 1 } = _ := fun q => q.h.cell cb
      have CC : ∀ q : Ext wr, Calls Try.prog 46 #[.slice Aa na xa, .slice Ab nb xb] q.w fun r w'' => r = .returned (.int .i64 (cmpE ea eb)) ∧ ∃ q' : Ext wr, w'' = q'.w := fun q => Ext.calls (mclos_any S S _ _ ea eb la lb _ (ya.below q.h) (yb.below q.h))
      have HSTEP : Hid (siftUp (·.2) ps' (j + 1) = if cmpE ea eb ≤ 0 then ps' else siftUp (·.2) (swapL ps' (j / 2) (j + 1)) (j / 2)) := by
        refine Lib.hid ?_
        rw [siftUp, ha, hb]; rfl
      have HA := Lib.hid ha
      have HB := Lib.hid hb
      clear ha hb c0 c1' ca cb ya yb yan ybn
      by_cases hle : cmpE ea eb ≤ 0
      · go_wp2
        (refine wp_region_quiet_ext (by kernel_rfl) (by kernel_rfl) ?_; (repeat (go_big_quiet_step ((go_at_call 46; exact CC _)))); refine wpQuiet_nil ?_; intro wq hw'; obtain ⟨⟨_, hq⟩, hw''⟩ := hw'; subst hw'')
        go_wp2
        refine bodyPost_ret (v := .tuple #[]) (by simp [results, Try.results49, go_sem]) rfl ?_
        exact ⟨rfl, _, by rw [HS.out, HSTEP.out, if_pos hle]; exact HH.out.below hq, (HO1.out.then_ HON.out HGG.out).trans (Only.of_below hq), HGN.out⟩
      · go_wp2
        (refine wp_region_quiet_ext (by kernel_rfl) (by kernel_rfl) ?_; (repeat (go_big_quiet_step ((go_at_call 46; exact CC _)))); refine wpQuiet_nil ?_; intro wq hw'; obtain ⟨⟨_, hq⟩, hw''⟩ := hw'; subst hw'')
        go_wp2
        have HQ := Lib.hid (HH.out.below hq)
        have HONQ := Lib.hid (HON.out.trans (Only.of_below hq))
        have c0 := HQ.out.box0
        have ca : wq.cell? { block := g, off := j / 2 } = some (.slice Aa na xa) := HQ.out.cell HLEN.out HA.out
        have cb : wq.cell? { block := g, off := j + 1 } = some (.slice Ab nb xb) := HQ.out.cell HLEN.out HB.out
        have fa := HQ.out.frozen HLEN.out (j / 2)
        have fb := HQ.out.frozen HLEN.out (j + 1)
        have hgp : g ≠ p := fun e => HQ.out.ne (by rw [e]; rfl)
        clear F0 F1 F2 F3 CC hq
        go_region
        go_wp2
        refine ⟨⟨j / 2, swapL ps' (j / 2) (j + 1), by omega, by go_num, (HQ.out.swap HLEN.out HA.out HB.out).below (Below.drew (Below.refl _ _)), by rw [swapL_len]; exact HLEN.out, by rw [HS.out, HSTEP.out, if_neg (by omega)], ?_⟩, by simp [intOf]; omega⟩
        exact HONQ.out.trans ((((only_set _ _ _ _).trans (only_set _ _ _ _)).mono (fun i e => .inr e)).drew)
end Go.Proofs.Ytacdhkkelkplnaa
end
section
namespace Go.Proofs.Ytacdhkkelkplnaa
open Go.RowKit Go.BigFrame
attribute [local go_sem ↓] Go.wp_at_zero Go.wp_at_succ
/-- what pop leaves. -/
def Popped (base p : Nat) (S : Nat → Prop) (sl : Value) (qs : List (Value × List Ent)) (w w' : World) : Prop :=
  ∃ sl', HeapV w' base p S sl' qs ∧ Only (fun i => i = p ∨ sl.ownBlock = some i) w w' ∧ sl'.ownBlock = sl.ownBlock
set_option maxRecDepth 100000 in
set_option maxHeartbeats 4000000 in
theorem pop_any (base p : Nat) (S : Nat → Prop) (sl : Value) (ps : List (Value × List Ent)) (q0 : Value × List Ent) (w : World) (h : HeapV w base p S sl ps) (h0 : ps[0]? = some q0) (hsz : ps.length * 24 ≤ 140737488355328) :
    Calls Try.prog 50 #[.pointer (some ⟨p, 0, none⟩)] w fun r w' => r = .returned q0.1 ∧ Popped base p S sl (popL (·.2) ps) w w' := by
  obtain ⟨n, hn⟩ : ∃ n, ps.length = n + 1 := ⟨ps.length - 1, by have := (List.getElem?_eq_some_iff.1 h0).1; omega⟩
  obtain ⟨z, hz⟩ : ∃ z, ps[n]? = some z := ⟨_, List.getElem?_eq_getElem (by omega)⟩
  have HPOP := Lib.hid (show popL (·.2) ps = siftDown (·.2) ((ps.set 0 z).take n) 0 by unfold popL; rw [hn, Nat.add_sub_cancel, hz])
  obtain ⟨g, c, rfl, hbg, hgz, hnc, hc63⟩ := own_pos h.row (by omega)
  rw [hn] at h hsz hnc ⊢
  have hpz := h.lt
  have hgp : g ≠ p := fun e => h.ne (by rw [e]; rfl)
  obtain ⟨y0, y0n⟩ := h.vals q0 (List.mem_of_getElem? h0)
  obtain ⟨yz, yzn⟩ := h.vals z (List.mem_of_getElem? hz)
  obtain ⟨v0, l0⟩ := q0
  obtain ⟨vz, lz⟩ := z
  obtain ⟨A0, n0, x0, rfl⟩ := ents_form' y0
  obtain ⟨Az, nz, xz, rfl⟩ := ents_form' yz
  have c0 := h.box0
  have ca : w.cell? { block := g, off := 0 } = some (.slice A0 n0 x0) := h.cell hn h0
  have cb : w.cell? { block := g, off := n } = some (.slice Az nz xz) := h.cell hn hz
  have fa := h.frozen hn 0
  have H := Lib.hid h
  have HN := Lib.hid hn
  have HZ := Lib.hid (show Ents w S (.slice Az nz xz) lz ∧ lz ≠ [] from ⟨yz, yzn⟩)
  obtain ⟨ps1, hps1⟩ : ∃ ps1, (ps.set 0 (.slice Az nz xz, lz)).take n = ps1 := ⟨_, rfl⟩
  rw [HPOP.out, hps1]
  have HPS := Lib.hid hps1
  clear h hn h0 hz y0 yz y0n yzn HPOP hps1
  go_enter Try.func50, Try.ntmps50
  go_wp2
  go_region
  generalize hwa : (w.setCell { block := g, off := 0 } (.slice Az nz xz)).drew = wa
  have hset : HeapV wa base p S (.slice (some ⟨g, 0, none⟩) (n + 1) c) (ps.set 0 (.slice Az nz xz, lz)) := by
    rw [← hwa]
    exact (H.out.set HZ.out HN.out 0).below (Below.drew (Below.refl _ _))
  have honly : Only (fun i => i = p ∨ i = g) w wa := by
    rw [← hwa]
    exact ((only_set _ _ _ _).mono (fun i e => .inr e)).drew
  have HSET := Lib.hid hset
  have HON := Lib.hid honly
  have d0 := hset.box0
  have f0 := frozen_of_row wa p 0 _ _ hset.box
  clear hwa hset honly ca cb fa c0
  go_wp2
  have HCUT := HSET.out.cut (by rw [List.length_set]; exact HN.out)
  rw [HPS.out] at HCUT
  have HON1 := HON.out.trans ((only_set wa p 0 (.slice (some { block := g, off := 0 }) n c)).mono (fun i e => .inl e))
  generalize hwb : wa.setCell { block := p, off := 0 } (.slice (some { block := g, off := 0 }) n c) = wb at HCUT HON1 ⊢
  have hlen : ps1.length = n := by rw [← HPS.out]; simp [HN.out]
  have HC := Lib.hid HCUT
  have HO := Lib.hid HON1
  have HL := Lib.hid hlen
  clear hwb HCUT HON1 hlen d0 f0 HSET HON
  go_loopw [5] (fun t wr => ∃ (i : Nat) (ps' : List (Value × List Ent)), i ≤ n ∧ t = .int .i64 i ∧ HeapV wr base p S (.slice (some ⟨g, 0, none⟩) n c) ps' ∧ ps'.length = n ∧ siftDown (·.2) ps1 0 = siftDown (·.2) ps' i ∧ Only (fun i => i = p ∨ i = g) w wr) (fun t _ => n - (intOf t).toNat)
  case atStart => exact ⟨0, ps1, Nat.zero_le _, rfl, HC.out, HL.out, rfl, HO.out⟩
  case round =>
    obtain ⟨i, ps', hin, rfl, hh, hlen, hsift, honly⟩ := hrel
    obtain ⟨wo, hwo⟩ : ∃ wo, wo = wr := ⟨_, rfl⟩
    subst hwo
    have HH := Lib.hid hh
    have HLEN := Lib.hid hlen
    have HS := Lib.hid hsift
    have HON := Lib.hid honly
    clear hh hlen hsift honly
    go_wp2
    go_loopw [6, 7] (fun t6 t7 wi => ∃ k : Nat, 2 * i + 1 ≤ k ∧ k ≤ 2 * i + 3 ∧ t7 = .int .i64 k ∧ t6 = .int .i64 (lst (·.2) ps' i (k - (2 * i + 1)) : Nat) ∧ Below wo.heap.size wo wi) (fun _ t _ => 2 * i + 3 - (intOf t).toNat)
    case atStart => exact ⟨2 * i + 1, by omega, by omega, by go_num, by simp [lst], Below.refl _ _⟩
    case round =>
      obtain ⟨k, hk1, hk2, rfl, rfl, hbel⟩ := hrel
      have HI := Lib.hid (HH.out.below hbel)
      have HB := Lib.hid hbel
      clear hbel
      have hor := lst_or (·.2) ps' i (k - (2 * i + 1))
      have hex : Hid (k = 2 * i + 3 ∨ n ≤ k → lst (·.2) ps' i 2 = lst (·.2) ps' i (k - (2 * i + 1))) := Lib.hid fun h => lst_two _ _ _ _ (by omega) (by rw [HLEN.out]; omega)
      by_cases hgo : k ≤ 2 * i + 2 ∧ k < n
      · obtain ⟨hg1, hg2⟩ := hgo
        clear hex
        obtain ⟨m, hm⟩ : ∃ m, lst (·.2) ps' i (k - (2 * i + 1)) = m := ⟨_, rfl⟩
        rw [hm, HLEN.out] at hor
        rw [hm]
        have HMM := Lib.hid hm
        have hmn : m < n := by omega
        clear hm hor
        obtain ⟨a, ha⟩ : ∃ a, ps'[k]? = some a := ⟨_, List.getElem?_eq_getElem (by rw [HLEN.out]; omega)⟩
        obtain ⟨b, hb⟩ : ∃ b, ps'[m]? = some b := ⟨_, List.getElem?_eq_getElem (by rw [HLEN.out]; omega)⟩
        obtain ⟨ya, yan⟩ := HI.out.vals a (List.mem_of_getElem? ha)
        obtain ⟨yb, ybn⟩ := HI.out.vals b (List.mem_of_getElem? hb)
        obtain ⟨va, la⟩ := a
        obtain ⟨vb, lb⟩ := b
        obtain ⟨Aa, na, xa, rfl⟩ := ents_form' ya
        obtain ⟨Ab, nb, xb, rfl⟩ := ents_form' yb
        obtain ⟨ea, la, rfl⟩ := List.exists_cons_of_ne_nil yan
        obtain ⟨eb, lb, rfl⟩ := List.exists_cons_of_ne_nil ybn
        have c0 := HI.out.box0
        have c1' := HI.out.box1
        have ca := HI.out.cell HLEN.out ha
        have cb := HI.out.cell HLEN.out hb
        have F0 : ∀ q : Ext wr, q.w.cell? { block := p, off := 0 } = _ := fun q => q.h.cell c0
        have F1 : ∀ q : Ext wr, q.w.cell? { block := p, off := 1 } = _ := fun q => q.h.cell c1'
        have F2 : ∀ q : Ext wr, q.w.cell? { block := g, off := k } = some (.slice Aa na xa) := fun q => q.h.cell ca
        have F3 : ∀ q : Ext wr, q.w.cell? { block := g, off := m } = some (.slice Ab nb xb) := fun q => q.h.cell cb
        have CC : ∀ q : Ext wr, Calls Try.prog 46 #[.slice Aa na xa, .slice Ab nb xb] q.w fun r w'' => r = .returned (.int .i64 (cmpE ea eb)) ∧ ∃ q' : Ext wr, w'' = q'.w := fun q => Ext.calls (mclos_any S S _ _ ea eb la lb _ (ya.below q.h) (yb.below q.h))
        have HSTEP : Hid (lst (·.2) ps' i (k + 1 - (2 * i + 1)) = if cmpE ea eb < 0 then k else m) := by
          refine Lib.hid ?_
          rw [show k + 1 - (2 * i + 1) = (k - (2 * i + 1)) + 1 from by omega, lst, HMM.out, show 2 * i + 1 + (k - (2 * i + 1)) = k from by omega, leastStep, ha, hb]; rfl
        clear ha hb c0 c1' ca cb ya yb yan ybn
        by_cases hlt : cmpE ea eb < 0
        · go_wp2
          (refine wp_region_quiet_ext (by kernel_rfl) (by kernel_rfl) ?_; (repeat (go_big_quiet_step ((go_at_call 46; exact CC _)))); refine wpQuiet_nil ?_; intro wq hw'; obtain ⟨⟨_, hq⟩, hw''⟩ := hw'; subst hw'')
          go_wp2
          refine ⟨⟨k + 1, by omega, by omega, by go_num, by rw [HSTEP.out, if_pos hlt], HB.out.trans (Below.mono hq HB.out.size)⟩, by simp [intOf]; omega⟩
        · go_wp2
          (refine wp_region_quiet_ext (by kernel_rfl) (by kernel_rfl) ?_; (repeat (go_big_quiet_step ((go_at_call 46; exact CC _)))); refine wpQuiet_nil ?_; intro wq hw'; obtain ⟨⟨_, hq⟩, hw''⟩ := hw'; subst hw'')
          go_wp2
          refine ⟨⟨k + 1, by omega, by omega, by go_num, by rw [HSTEP.out, if_neg (by omega)], HB.out.trans (Below.mono hq HB.out.size)⟩, by simp [intOf]; omega⟩
      · have HEX := Lib.hid (hex.out (by omega))
        clear hex hor
        have hor := lst_or (·.2) ps' i 2
        rw [← HEX.out]
        generalize hM : lst (·.2) ps' i 2 = M at hor HEX ⊢
        rw [HLEN.out] at hor
        have HM := Lib.hid hM
        clear HEX hM
        by_cases hk : k ≤ 2 * i + 2
        all_goals
          by_cases hMi : M = i
          · subst hMi
            clear hor
            go_wp2
            refine bodyPost_ret (v := .slice A0 n0 x0) (by simp [results, Try.results50, go_sem]) rfl ?_
            refine ⟨rfl, .slice (some ⟨g, 0, none⟩) n c, ?_, (HON.out.trans (Only.of_below HB.out)).mono ?_, rfl⟩
            · rw [HS.out, siftDown, dif_pos HM.out]; exact HI.out
            · exact fun i h => h.elim .inl (fun e => .inr (by rw [e]; rfl))
          · have hi1 : i < M := by omega
            have hi2 : M < n := by omega
            clear hor
            obtain ⟨a, ha⟩ : ∃ a, ps'[i]? = some a := ⟨_, List.getElem?_eq_getElem (by rw [HLEN.out]; omega)⟩
            obtain ⟨b, hb⟩ : ∃ b, ps'[M]? = some b := ⟨_, List.getElem?_eq_getElem (by rw [HLEN.out]; omega)⟩
            obtain ⟨ya, yan⟩ := HI.out.vals a (List.mem_of_getElem? ha)
            obtain ⟨yb, ybn⟩ := HI.out.vals b (List.mem_of_getElem? hb)
            obtain ⟨va, la⟩ := a
            obtain ⟨vb, lb⟩ := b
            obtain ⟨Aa, na, xa, rfl⟩ := ents_form' ya
            obtain ⟨Ab, nb, xb, rfl⟩ := ents_form' yb
            have c0 := HI.out.box0
            have ca : wr.cell? { block := g, off := i } = some (.slice Aa na xa) := HI.out.cell HLEN.out ha
            have cb : wr.cell? { block := g, off := M } = some (.slice Ab nb xb) := HI.out.cell HLEN.out hb
            have fa := HI.out.frozen HLEN.out i
            have fb := HI.out.frozen HLEN.out M
            have HSW := Lib.hid ((HI.out.swap HLEN.out ha hb).below (Below.drew (Below.refl _ _)))
            clear ha hb ya yb yan ybn
            have HMI := Lib.hid hMi
            clear hMi
            go_wp2
            go_region
            go_wp2
            refine ⟨⟨M, swapL ps' i M, by omega, rfl, HSW.out, by rw [swapL_len]; exact HLEN.out, ?_, ?_⟩, by simp [intOf]; omega⟩
            · rw [HS.out, siftDown, dif_neg (by rw [HM.out]; exact HMI.out), HM.out]
            · exact (HON.out.trans (Only.of_below HB.out)).trans ((((only_set _ _ _ _).trans (only_set _ _ _ _)).mono (fun i e => .inr e)).drew)
end Go.Proofs.Ytacdhkkelkplnaa
end
section
namespace Go.Proofs.Ytacdhkkelkplnaa
section
variable {α β : Type}
theorem swapL_map (g : α → β) (l : List α) (i j : Nat) : (swapL l i j).map g = swapL (l.map g) i j := by
  unfold swapL
  simp only [List.getElem?_map]
  cases l[i]? <;> cases l[j]? <;> simp
theorem siftUp_map (g : α → β) (f : β → List Ent) (l : List α) (i : Nat) : (siftUp (fun x => f (g x)) l i).map g = siftUp f (l.map g) i := by
  induction i using Nat.strongRecOn generalizing l with
  | ind i ih =>
    cases i with
    | zero => rw [siftUp, siftUp]
    | succ i =>
      rw [siftUp, siftUp]
      simp only [List.getElem?_map]
      cases l[i / 2]? with
      | none => simp
      | some a =>
        cases l[i + 1]? with
        | none => simp
        | some b =>
          simp only [Option.map_some]
          split
          · rfl
          · rw [ih (i / 2) (by omega), swapL_map]
theorem leastStep_map (g : α → β) (f : β → List Ent) (l : List α) (k m : Nat) : leastStep (fun x => f (g x)) l k m = leastStep f (l.map g) k m := by
  unfold leastStep
  simp only [List.getElem?_map]
  cases l[k]? <;> cases l[m]? <;> simp
theorem lst_map (g : α → β) (f : β → List Ent) (l : List α) (i j : Nat) : lst (fun x => f (g x)) l i j = lst f (l.map g) i j := by
  induction j with
  | zero => rfl
  | succ j ih => rw [lst, lst, ih, leastStep_map]
theorem siftDown_map (g : α → β) (f : β → List Ent) (l : List α) (i : Nat) : (siftDown (fun x => f (g x)) l i).map g = siftDown f (l.map g) i := by
  induction hn : l.length - i using Nat.strongRecOn generalizing l i with
  | ind n ih =>
    conv => lhs; rw [siftDown]
    conv => rhs; rw [siftDown]
    rw [← lst_map]
    by_cases h : lst (fun x => f (g x)) l i 2 = i
    · rw [dif_pos h, dif_pos h]
    · rw [dif_neg h, dif_neg h, ← swapL_map]
      have := lst_or (fun x => f (g x)) l i 2
      exact ih _ (by rw [swapL_len]; omega) _ _ rfl
theorem popL_map (g : α → β) (f : β → List Ent) (l : List α) : (popL (fun x => f (g x)) l).map g = popL f (l.map g) := by
  unfold popL
  simp only [List.length_map, List.getElem?_map]
  cases l[l.length - 1]? with
  | none => simp
  | some z => simp [siftDown_map, List.map_take, List.map_set]
theorem popL_len (f : α → List Ent) (l : List α) : (popL f l).length = l.length - 1 := by
  unfold popL
  split
  · rw [(siftDown_perm _ _ _).length_eq]; simp
  · rename_i h
    have := List.getElem?_eq_none_iff.1 h
    simp; omega
def pushL (f : α → List Ent) (l : List α) (q : α) : List α := siftUp f (l ++ [q]) l.length
theorem pushL_map (g : α → β) (f : β → List Ent) (l : List α) (q : α) : (pushL (fun x => f (g x)) l q).map g = pushL f (l.map g) (g q) := by
  unfold pushL; rw [siftUp_map]; simp
theorem pushL_perm (f : α → List Ent) (l : List α) (q : α) : (pushL f l q).Perm (l ++ [q]) := siftUp_perm _ _ _
/-- all but the top is what pop leaves. -/
theorem popL_perm (f : α → List Ent) (a : α) (l : List α) : (a :: popL f (a :: l)).Perm (a :: l) := by
  refine List.Perm.cons a ?_
  unfold popL
  have e1 : (a :: l).length - 1 = l.length := by simp
  rw [e1]
  cases hz : (a :: l)[l.length]? with
  | none => have := List.getElem?_eq_none_iff.1 hz; simp only [List.length_cons] at this; omega
  | some z =>
    refine (siftDown_perm _ _ _).trans ?_
    cases l with
    | nil => simp
    | cons b l =>
      simp only [List.length_cons, List.getElem?_cons_succ] at hz
      have hz' : z = (b :: l).getLast (by simp) := by
        obtain ⟨_, e⟩ := List.getElem?_eq_some_iff.1 hz
        rw [List.getLast_eq_getElem, ← e]; rfl
      have e2 : ((a :: b :: l).set 0 z).take (b :: l).length = z :: (b :: l).dropLast := by
        simp [List.dropLast_eq_take]
      rw [e2]
      have e3 := List.dropLast_concat_getLast (l := b :: l) (by simp)
      rw [← hz'] at e3
      have : (z :: (b :: l).dropLast).Perm ((b :: l).dropLast ++ [z]) := by
        simpa using (List.perm_append_comm (l₁ := [z]) (l₂ := (b :: l).dropLast))
      rw [e3] at this
      exact this
end
/-- the heap of some lists. -/
def heapOf (ls : List (List Ent)) : List (List Ent) := ls.foldl (fun hs l => if l = [] then hs else pushL id hs l) []
theorem heapOf_snoc (ls : List (List Ent)) (l : List Ent) : heapOf (ls ++ [l]) = if l = [] then heapOf ls else pushL id (heapOf ls) l := by
  simp [heapOf, List.foldl_append]
/-- is the last one like this? -/
def twice (out : List Ent) (e : Ent) : Bool := match out.getLast? with | some o => decide (cmpE o e = 0) | none => false
theorem twice_snoc (out : List Ent) (o e : Ent) : twice (out ++ [o]) e = decide (cmpE o e = 0) := by simp [twice]
def mergeGo : Nat → List (List Ent) → List Ent → List Ent × Int
  | 0, _, out => (out, 0)
  | k + 1, hs, out =>
    match hs with
    | (e :: l) :: _ => if twice out e = true then ([], 31) else mergeGo k (if l = [] then popL id hs else pushL id (popL id hs) l) (out ++ [e])
    | _ => (out, 0)
def total (hs : List (List Ent)) : Nat := hs.flatten.length
theorem total_perm {a b : List (List Ent)} (h : a.Perm b) : total a = total b := h.flatten.length_eq
def mergeC (ls : List (List Ent)) : List Ent × Int := if ls.all orderedE = true then mergeGo (total ls) (heapOf ls) [] else ([], 30)
theorem heapOf_perm' (ls : List (List Ent)) : ∀ hs : List (List Ent), (ls.foldl (fun hs l => if l = [] then hs else pushL id hs l) hs).Perm (hs ++ ls.filter (fun l => decide (l ≠ []))) := by
  induction ls with
  | nil => intro hs; simp
  | cons l ls ih =>
    intro hs
    rw [List.foldl_cons]
    refine (ih _).trans ?_
    by_cases h : l = []
    · simp [h]
    · rw [if_neg h, List.filter_cons, if_pos (by simp [h])]
      refine ((pushL_perm _ _ _).append_right _).trans ?_
      rw [List.append_assoc]; exact List.Perm.refl _
theorem heapOf_perm (ls : List (List Ent)) : (heapOf ls).Perm (ls.filter (fun l => decide (l ≠ []))) := by
  have := heapOf_perm' ls []
  rw [List.nil_append] at this
  exact this
theorem filter_flatten (ls : List (List Ent)) : (ls.filter (fun l => decide (l ≠ []))).flatten = ls.flatten := by
  induction ls with
  | nil => rfl
  | cons l ls ih =>
    by_cases h : l = []
    · simp [h]; simpa using ih
    · rw [List.filter_cons, if_pos (by simp [h]), List.flatten_cons, List.flatten_cons, ih]
theorem heapOf_total (ls : List (List Ent)) : total (heapOf ls) = total ls := by
  rw [total_perm (heapOf_perm ls), total, filter_flatten]; rfl
theorem total_pop (e : Ent) (l : List Ent) (hs : List (List Ent)) : total (popL id ((e :: l) :: hs)) + (l.length + 1) = total ((e :: l) :: hs) := by
  have := total_perm (popL_perm id (e :: l) hs)
  unfold total at this ⊢
  rw [← this]; simp; omega
theorem total_push (l : List Ent) (hs : List (List Ent)) : total (pushL id hs l) = total hs + l.length := by
  rw [total_perm (pushL_perm id hs l)]
  simp [total]
end Go.Proofs.Ytacdhkkelkplnaa
end
section
namespace Go.Proofs.Ytacdhkkelkplnaa
open Go.RowKit
/-- a slice value of lists of entries. -/
def Lists (w : World) (S : Nat → Prop) (v : Value) (ls : List (List Ent)) : Prop :=
  ∃ (A : Option Addr) (c : Nat) (vs : List Value), v = .slice A ls.length c ∧ ls.length ≤ c ∧ c ≤ 9223372036854775807 ∧ ls.length * 24 ≤ 140737488355328 ∧ Row w S A ls.length 1 vs ∧ ∀ (i : Nat) (l : List Ent), ls[i]? = some l → ∃ x, vs[i]? = some x ∧ Ents w S x l
theorem Lists.below {w w' : World} {S : Nat → Prop} {v : Value} {ls : List (List Ent)} (h : Lists w S v ls) (hb : Below w.heap.size w w') : Lists w' S v ls := by
  obtain ⟨A, c, vs, e, h1, h2, h3, h4, h5⟩ := h
  exact ⟨A, c, vs, e, h1, h2, h3, h4.below hb, fun i l hl => by obtain ⟨x, hx, hy⟩ := h5 i l hl; exact ⟨x, hx, hy.below hb⟩⟩
theorem HeapV.init (w : World) (S : Nat → Prop) (hS : ∀ i, S i → i < w.heap.size) : HeapV (w.alloc (boxOf (.slice none 0 0))) w.heap.size w.heap.size S (.slice none 0 0) [] :=
  ⟨heap_alloc_new w _, World.ownsRow_nil _ _ _ _, by simp [Value.ownBlock], fun q hq => by simp at hq, hS, Nat.le_refl _⟩
theorem all_take_snoc {ls : List (List Ent)} {k : Nat} {l : List Ent} (h : ls[k]? = some l) (ha : (ls.take k).all orderedE = true) (ho : orderedE l = true) : (ls.take (k + 1)).all orderedE = true := by
  rw [take_snoc h, List.all_append, ha]; simp [ho]
theorem all_false_at {ls : List (List Ent)} {k : Nat} {l : List Ent} (h : ls[k]? = some l) (ho : orderedE l = false) : ls.all orderedE = false := by
  rw [List.all_eq_false]
  exact ⟨l, List.mem_of_getElem? h, by simp [ho]⟩
theorem Pushed.below {base p B : Nat} {S : Nat → Prop} {sl : Value} {qs : List (Value × List Ent)} {w w' : World} (h : Pushed base p S sl qs w w') (hp : B ≤ p) (hg : ∀ g, sl.ownBlock = some g → B ≤ g) (hB : B ≤ w.heap.size) : Below B w w' := by
  obtain ⟨sl', _, ho, _⟩ := h
  exact ho.below hB (fun i hi => hi.elim (fun e => e ▸ hp) (fun e => hg i e))
def outT (base : Nat) (v sl : Value) (i : Nat) : Prop := base < i ∧ v.ownBlock ≠ some i ∧ sl.ownBlock ≠ some i
theorem EntCells.monoLt {w : World} {S S' : Nat → Prop} {cs : List Value} {es : List Ent} (h : EntCells w S cs es) (hS : ∀ i, i < w.heap.size → S i → S' i) : EntCells w S' cs es := h.imp fun _ _ h => h.monoLt hS
theorem EntCells.pushT {base : Nat} {T T' : Nat → Prop} {wr w1 w2 : World} {v v' k u : Value} {n : Nat} {ys : List Value} {es : List Ent} {e : Ent} {o : Obj} {t : TypeId} (hown : wr.ownsRow base t 4 v n ys) (hys : EntCells wr T ys es) (hT : ∀ i, T i → v.ownBlock ≠ some i) (hb1 : Below wr.heap.size wr w1)
    (hk : Byt w1 (fun i => wr.heap.size ≤ i) k e.key) (hu : Byt w1 (fun i => wr.heap.size ≤ i) u e.val) (hg : (w1.alloc o).grownBy w2 v.ownBlock) (hat : v'.ownBlock = v.ownBlock ∨ v'.ownBlock = some (w1.alloc o).heap.size)
    (hT' : ∀ i, (T i ∨ wr.heap.size ≤ i) → v'.ownBlock ≠ some i → T' i) :
    EntCells w2 T' (ys ++ [k, .int .i64 e.seq, .bool e.dead, u]) (es ++ [e]) := by
  have hal : Below w1.heap.size w1 (w1.alloc o) := (Below.refl _ _).alloc (Nat.le_refl _) _
  have hz := hb1.size
  have old : ∀ x bs, Byt wr T x bs → Byt w2 T' x bs := fun x bs h =>
    ((h.below hb1).below hal).push hg hat (fun i _ hs => hT i hs) (fun i _ hs hn => hT' i (.inl hs) hn)
  have new : ∀ x bs, Byt w1 (fun i => wr.heap.size ≤ i) x bs → Byt w2 T' x bs := fun x bs h =>
    (h.below hal).push hg hat (fun i _ hs e => by have := hown.lt i e; omega) (fun i _ hs hn => hT' i (.inr hs) hn)
  exact (hys.imp old).append (EntCells.one (new _ _ hk) (new _ _ hu))
theorem Ents.tail {w : World} {S : Nat → Prop} {b o c n : Nat} {e : Ent} {l : List Ent} (h : Ents w S (.slice (some ⟨b, o, none⟩) n c) (e :: l)) (hl : l ≠ []) : Ents w S (.slice (some ⟨b, o + 4, none⟩) l.length (c - 1)) l := by
  obtain ⟨A, c', cs, he, h1, h2, h3, h4, h5⟩ := h
  injection he with e1 e2 e3
  subst e1 e2 e3
  simp only [List.length_cons] at h1 h3 h4
  have hlp : 0 < l.length := List.length_pos_iff.2 hl
  refine ⟨_, _, cs.drop 4, rfl, by omega, by omega, by omega, ?_, by simpa using h5.drop 1⟩
  have hcl := h5.len
  simp only [List.length_cons] at hcl
  refine ⟨by simp; omega, fun _ => ?_⟩
  obtain ⟨b', o', hb', hS, hlt, hc⟩ := h4.2 (by omega)
  injection hb' with hb'
  injection hb' with e1 e2
  subst e1 e2
  refine ⟨b, o + 4, rfl, hS, hlt, fun j u hu => ?_⟩
  rw [List.getElem?_drop] at hu
  have := hc (4 + j) u hu
  rwa [show o + (4 + j) = o + 4 + j from by omega] at this
theorem Ents.head' {w : World} {S : Nat → Prop} {b o n c : Nat} {e : Ent} {l : List Ent} (h : Ents w S (.slice (some ⟨b, o, none⟩) n c) (e :: l)) :
    n = l.length + 1 ∧ l.length + 1 ≤ c ∧ c ≤ 9223372036854775807 ∧ ∃ k u, w.cell? ⟨b, o, none⟩ = some k ∧ w.cell? ⟨b, o + 1, none⟩ = some (.int .i64 e.seq) ∧ w.cell? ⟨b, o + 2, none⟩ = some (.bool e.dead) ∧ w.cell? ⟨b, o + 3, none⟩ = some u ∧ Byt w S k e.key ∧ Byt w S u e.val := by
  obtain ⟨b', o', c', k, u, he, hr⟩ := h.head
  injection he with e1 e2 e3
  injection e1 with e1
  injection e1 with e1 e2'
  subst e1 e2' e3
  obtain ⟨A, c', cs, he, h1, h2, _⟩ := h
  injection he with _ _ e3
  subst e3
  exact ⟨e2, by simpa using h1, h2, k, u, hr⟩
theorem own_last {w : World} {base g c : Nat} {T : Nat → Prop} {t : TypeId} {ys : List Value} {os : List Ent} {o : Ent} {m : Nat} (h : w.ownsRow base t 4 (.slice (some ⟨g, 0, none⟩) m c) m ys) (hc : EntCells w T ys (os ++ [o])) (hm : m = os.length + 1) :
    ∃ k u, w.cell? ⟨g, (m - 1) * 4, none⟩ = some k ∧ w.cell? ⟨g, (m - 1) * 4 + 1, none⟩ = some (.int .i64 o.seq) ∧ w.cell? ⟨g, (m - 1) * 4 + 2, none⟩ = some (.bool o.dead) ∧ w.cell? ⟨g, (m - 1) * 4 + 3, none⟩ = some u ∧ Byt w T k o.key ∧ Byt w T u o.val := by
  subst hm
  obtain ⟨k, u, a1, a2, a3, a4, a5, a6⟩ := hc.at_ (i := os.length) (e := o) (by simp)
  refine ⟨k, u, ?_, ?_, ?_, ?_, a5, a6⟩
  · rw [h.cellAt _ (by omega), ← a1]; congr 1; omega
  · rw [h.cellAt _ (by omega), ← a2]; congr 1; omega
  · rw [h.cellAt _ (by omega), ← a3]; congr 1; omega
  · rw [h.cellAt _ (by omega), ← a4]; congr 1; omega
def sliceLen : Value → Nat
  | .slice _ n _ => n
  | _ => 0
theorem mergeGo_nil (k : Nat) (out : List Ent) : mergeGo k [] out = (out, 0) := by cases k <;> rfl
theorem mergeGo_step {K : Nat} {e : Ent} {l : List Ent} {hs : List (List Ent)} {out : List Ent} :
    mergeGo (K + 1) ((e :: l) :: hs) out = if twice out e = true then ([], 31) else mergeGo K (if l = [] then popL id ((e :: l) :: hs) else pushL id (popL id ((e :: l) :: hs)) l) (out ++ [e]) := rfl
theorem popV_map (ps : List (Value × List Ent)) : (popL (·.2) ps).map (·.2) = popL id (ps.map (·.2)) := popL_map (α := Value × List Ent) (fun x => x.2) id ps
theorem pushV_map (ps : List (Value × List Ent)) (q : Value × List Ent) : (pushL (·.2) ps q).map (·.2) = pushL id (ps.map (·.2)) q.2 := pushL_map (α := Value × List Ent) (fun x => x.2) id ps q
theorem HeapV.thru {w1 w3 w4 : World} {B p : Nat} {S : Nat → Prop} {sl v : Value} {ps : List (Value × List Ent)} {o : Obj} (h : HeapV w1 B p S sl ps) (hb : Below w1.heap.size w1 w3) (hg : (w3.alloc o).grownBy w4 v.ownBlock)
    (hd : ∀ g, v.ownBlock = some g → B ≤ g ∧ g ≠ p ∧ sl.ownBlock ≠ some g) : HeapV w4 B p S sl ps :=
  ((h.below hb).below ((Below.refl _ _).alloc (Nat.le_refl _) _)).only (Only.of_grown hg) hd
theorem Ents.thru {w1 w3 w4 : World} {S : Nat → Prop} {v x : Value} {es : List Ent} {o : Obj} (h : Ents w1 S x es) (hb : Below w1.heap.size w1 w3) (hg : (w3.alloc o).grownBy w4 v.ownBlock)
    (hd : ∀ g, v.ownBlock = some g → ¬ S g) : Ents w4 S x es :=
  ((h.below hb).below ((Below.refl _ _).alloc (Nat.le_refl _) _)).only (Only.of_grown hg) (fun i _ hs e => hd i e hs)
theorem out_pushed {w4 w5 : World} {B : Nat} {v sl1 sl2 : Value} {cs : List Value} {os : List Ent} (h : EntCells w4 (outT B v sl1) cs os) (ho : Only (fun i => i = B ∨ sl1.ownBlock = some i) w4 w5)
    (hs : sl2.ownBlock = sl1.ownBlock ∨ ∃ g, sl2.ownBlock = some g ∧ w4.heap.size ≤ g) : EntCells w5 (outT B v sl2) cs os := by
  have h1 : EntCells w4 (fun i => outT B v sl1 i ∧ i < w4.heap.size) cs os := h.monoLt fun i hi hs => ⟨hs, hi⟩
  refine (h1.only ho fun i _ ht t => ?_).mono fun i ht => ⟨ht.1.1, ht.1.2.1, fun e => ?_⟩
  · rcases t with t | t
    · have := ht.1.1; omega
    · exact ht.1.2.2 t
  · rcases hs with hs | ⟨g, hg, hlt⟩
    · exact ht.1.2.2 (hs ▸ e)
    · rw [hg] at e
      injection e with e
      have := ht.2
      omega
theorem dis_pushed {w4 : World} {B : Nat} {v sl1 sl2 : Value} (h : ∀ g, v.ownBlock = some g → g ≠ B ∧ sl1.ownBlock ≠ some g) (hlt : ∀ g, v.ownBlock = some g → g < w4.heap.size)
    (hs : sl2.ownBlock = sl1.ownBlock ∨ ∃ g, sl2.ownBlock = some g ∧ w4.heap.size ≤ g) : ∀ g, v.ownBlock = some g → g ≠ B ∧ sl2.ownBlock ≠ some g := by
  intro g hg
  refine ⟨(h g hg).1, fun e => ?_⟩
  rcases hs with hs | ⟨g', hg', hl⟩
  · exact (h g hg).2 (hs ▸ e)
  · rw [hg'] at e
    injection e with e
    have := hlt g hg
    omega
theorem dis_grown {w3 : World} {B : Nat} {v v' sl1 : Value} {o : Obj} (h : ∀ g, v.ownBlock = some g → g ≠ B ∧ sl1.ownBlock ≠ some g) (hat : v'.ownBlock = v.ownBlock ∨ v'.ownBlock = some (w3.alloc o).heap.size)
    (hB : B < w3.heap.size) (hlt : ∀ g, sl1.ownBlock = some g → g < w3.heap.size) : ∀ g, v'.ownBlock = some g → g ≠ B ∧ sl1.ownBlock ≠ some g := by
  intro g hg
  rcases hat with hat | hat
  · exact h g (hat ▸ hg)
  · rw [hat] at hg
    injection hg with hg
    simp at hg
    exact ⟨by omega, fun e => by have := hlt g e; omega⟩
theorem Ents.take1 {w : World} {S : Nat → Prop} {A : Option Addr} {n c : Nat} {es : List Ent} (h : Ents w S (.slice A n c) es) (k : Nat) (hk : k ≤ n) : Ents w S (.slice A k c) (es.take k) := by
  obtain ⟨A', c', cs, he, h1, h2, h3, h4, h5⟩ := h
  injection he with e1 e2 e3
  subst e1 e2 e3
  have hl : (es.take k).length = k := by simp; omega
  have hcl := h5.len
  refine ⟨_, _, cs.take (k * 4), by rw [hl], by omega, h2, by omega, ?_, h5.take k⟩
  rw [hl]
  refine ⟨by simp; omega, fun h0 => ?_⟩
  obtain ⟨b, o, hb, hS, hlt, hc⟩ := h4.2 (by omega)
  refine ⟨b, o, hb, hS, hlt, fun j u hu => ?_⟩
  rw [List.getElem?_take] at hu
  split at hu
  · exact hc j u hu
  · cases hu
end Go.Proofs.Ytacdhkkelkplnaa
end
