/-
merge's heap: push.
-/
import Derived.Test.YtelbidknefkaiaaHeapV
import Derived.BigRegion
import Derived.Laws.EntriesVeiled
import Derived.Deep.LoopGhost
namespace Go.Proofs.Ytelbidknefkaiaa
open Go.RowKit Go.BigFrame
attribute [local go_sem ↓] Go.wp_at_zero Go.wp_at_succ

theorem Only.then_ {T U : Nat → Prop} {a b c : World} (h : Only T a b) (k : Only U b c) (hU : ∀ i, i < a.heap.size → U i → T i) : Only T a c :=
  ⟨k.os.trans h.os, k.tape.trans h.tape, k.output.trans h.output, Nat.le_trans h.size k.size, fun i hi hS => (k.block i (Nat.lt_of_lt_of_le hi h.size) (fun u => hS (hU i hi u))).trans (h.block i hi hS)⟩
theorem ents_form' {w : World} {S : Nat → Prop} {v : Value} {es : List Ent} (h : Ents w S v es) : ∃ A n c, v = .slice A n c := by
  obtain ⟨A, c, cs, rfl, _⟩ := h
  exact ⟨_, _, _, rfl⟩
/-- what push leaves. -/
def Pushed (base p : Nat) (S : Nat → Prop) (sl : Value) (qs : List (Value × List Ent)) (w w' : World) : Prop :=
  ∃ sl', HeapV w' base p S sl' qs ∧ Only (fun i => i = p ∨ sl.ownBlock = some i) w w' ∧ (sl'.ownBlock = sl.ownBlock ∨ ∃ g, sl'.ownBlock = some g ∧ w.heap.size ≤ g)

set_option maxRecDepth 100000 in
set_option maxHeartbeats 4000000 in
theorem push_any (base p : Nat) (S : Nat → Prop) (sl v : Value) (ps : List (Value × List Ent)) (l : List Ent) (w : World) (h : HeapV w base p S sl ps) (hv : Ents w S v l) (hl : l ≠ []) (hsz : (ps.length + 1) * 24 ≤ 140737488355328) :
    Calls Try.prog 44 #[.pointer (some ⟨p, 0, none⟩), v] w fun r w' => r = .returned (.tuple #[]) ∧ Pushed base p S sl (siftUp (·.2) (ps ++ [(v, l)]) ps.length) w w' := by
  obtain ⟨i0, hi, hz0, hz1, hz2⟩ := info_parts info22
  have hby := Lib.hid hz2
  have hz1' := Lib.hid hz1
  clear hz2 hz1
  have H := Lib.hid h
  have HV := Lib.hid hv
  have HL := Lib.hid hl
  have x0 := h.box0
  have hpz := h.lt
  have hbase : base ≤ w.heap.size := by have := h.hp; omega
  obtain ⟨n, hn⟩ : ∃ n, ps.length = n := ⟨_, rfl⟩
  have HN := Lib.hid hn
  rw [hn] at hsz ⊢
  have HR := Lib.hid (hn ▸ h.row)
  obtain ⟨A, c, rfl⟩ := own_form HR.out
  obtain ⟨Av, cv, rfl⟩ := ents_form hv
  obtain ⟨ps1, hps1⟩ : ∃ ps1, ps ++ [(.slice Av l.length cv, l)] = ps1 := ⟨_, rfl⟩
  have hlen1 : ps1.length = n + 1 := by rw [← hps1]; simp [HN.out]
  have HL1 := Lib.hid hlen1
  have HPS := Lib.hid hps1
  rw [hps1]
  clear h hn hv hl hps1 hlen1
  go_enter Try.func44, Try.ntmps44
  go_wp2_with (at_builtin; refine wpList_append_own_at _ rfl _ _ 42 rfl base 22 i0 _ 1 24 Try.underlying42 hi hz0 hz1'.out hby.out rfl (by decide) _ _ _ rfl (HR.out.alloc _) ⟨w.heap.size, 0, none⟩ 1 1 [.slice Av l.length cv] rfl rfl (cell_one_new _ _ _) (by simp [Value.oneCell']) (by unfold maxLen; omega) (by omega) (by simp; omega) ?_; intro v' w2 hown' hgrow hnn hat; clear hnn; obtain ⟨g, c1, rfl, hbg, hgz, hc1, hc2⟩ := own_pos hown' (Nat.succ_pos n); replace hgrow : (w.alloc (.cells #[.slice Av l.length cv] 22)).grownBy w2 (Value.slice A n c).ownBlock := hgrow; replace hat : some g = (Value.slice A n c).ownBlock ∨ some g = some (w.alloc (.cells #[.slice Av l.length cv] 22)).heap.size := hat; have hbox2 : w2.heap[p]? = some (boxOf (.slice A n c)) := (hgrow.block p (by simp; omega) (fun e => H.out.ne e.symm)).trans ((heap_alloc_old w _ hpz).trans H.out.box); have e0 : w2.cell? { block := p, off := 0 } = some (.slice A n c) := (by rw [cell_of_row w2 p 0 _ _ _ hbox2]; rfl); have e1 := frozen_of_row w2 p 0 _ _ hbox2; have HB2 := Lib.hid hbox2; have HOWN := Lib.hid hown'; have HG := Lib.hid hgrow; have HAT := Lib.hid hat; clear hbox2 hown' hgrow hat)
  obtain ⟨HP, HO⟩ := H.out.pushed HN.out HV.out HL.out HOWN.out HG.out HAT.out
  have HGG : Hid (∀ i, i < w.heap.size → (i = p ∨ i = g) → (i = p ∨ (Value.slice A n c).ownBlock = some i)) := by
    refine Lib.hid fun i hi hpg => ?_
    rcases hpg with h | h
    · exact .inl h
    · rcases HAT.out with e | e
      · exact .inr (h ▸ e.symm)
      · injection e with e
        simp at e
        omega
  have HGN : Hid ((Value.slice (some ⟨g, 0, none⟩) (n + 1) c1).ownBlock = (Value.slice A n c).ownBlock ∨ ∃ g', (Value.slice (some ⟨g, 0, none⟩) (n + 1) c1).ownBlock = some g' ∧ w.heap.size ≤ g') := by
    refine Lib.hid ?_
    rcases HAT.out with e | e
    · exact .inl e
    · refine .inr ⟨g, rfl, ?_⟩
      injection e with e
      simp at e
      omega
  clear e0 e1
  obtain ⟨w3, hw3⟩ : ∃ w3, w2.setCell { block := p, off := 0 } (.slice (some { block := g, off := 0 }) (n + 1) c1) = w3 := ⟨_, rfl⟩
  rw [hw3] at HP HO ⊢
  clear hw3
  rw [HPS.out] at HP
  have HP1 := Lib.hid HP
  clear HP HB2 HOWN
  have HO1 := Lib.hid HO
  clear HO
  go_loopw [4] (fun t wr => ∃ (i : Nat) (ps' : List (Value × List Ent)), i ≤ n ∧ t = .int .i64 i ∧ HeapV wr base p S (.slice (some ⟨g, 0, none⟩) (n + 1) c1) ps' ∧ ps'.length = n + 1 ∧ siftUp (·.2) ps1 n = siftUp (·.2) ps' i ∧ Only (fun i => i = p ∨ i = g) w3 wr) (fun t _ => (intOf t).toNat)
  case atStart => exact ⟨n, ps1, Nat.le_refl _, rfl, HP1.out, HL1.out, rfl, Only.refl _ _⟩
  case round =>
    obtain ⟨i, ps', hin, rfl, hh, hlen, hsift, honly⟩ := hrel
    have HH := Lib.hid hh
    have HLEN := Lib.hid hlen
    have HS := Lib.hid hsift
    have HON := Lib.hid honly
    clear hh hlen hsift honly
    cases i with
    | zero =>
      go_wp2
      refine bodyPost_end (v := .tuple #[]) (by simp [results, Try.results44, go_sem]) rfl ?_
      exact ⟨rfl, _, by rw [HS.out, siftUp]; exact HH.out, HO1.out.then_ HON.out HGG.out, HGN.out⟩
    | succ j =>
      obtain ⟨a, ha⟩ : ∃ a, ps'[j / 2]? = some a := ⟨_, List.getElem?_eq_getElem (by rw [HLEN.out]; omega)⟩
      obtain ⟨b, hb⟩ : ∃ b, ps'[j + 1]? = some b := ⟨_, List.getElem?_eq_getElem (by rw [HLEN.out]; omega)⟩
      obtain ⟨ya, yan⟩ := HH.out.vals a (List.mem_of_getElem? ha)
      obtain ⟨yb, ybn⟩ := HH.out.vals b (List.mem_of_getElem? hb)
      obtain ⟨va, la⟩ := a
      obtain ⟨vb, lb⟩ := b
      obtain ⟨Aa, na, xa, rfl⟩ := ents_form' ya
      obtain ⟨Ab, nb, xb, rfl⟩ := ents_form' yb
      obtain ⟨ea, la, rfl⟩ := List.exists_cons_of_ne_nil yan
      obtain ⟨eb, lb, rfl⟩ := List.exists_cons_of_ne_nil ybn
      have c0 := HH.out.box0
      have c1' := HH.out.box1
      have ca := HH.out.cell HLEN.out ha
      have cb := HH.out.cell HLEN.out hb
      have F0 : ∀ q : Ext wr, q.w.cell? { block := p, off := 0 } = _ := fun q => q.h.cell c0
      have F1 : ∀ q : Ext wr, q.w.cell? { block := p, off := 1 } = _ := fun q => q.h.cell c1'
      have F2 : ∀ q : Ext wr, q.w.cell? { block := g, off := j / 2 } = _ := fun q => q.h.cell ca
      have F3 : ∀ q : Ext wr, q.w.cell? { block := g, off := j + 1 } = _ := fun q => q.h.cell cb
      have CC : ∀ q : Ext wr, Calls Try.prog 42 #[.slice Aa na xa, .slice Ab nb xb] q.w fun r w'' => r = .returned (.int .i64 (cmpE ea eb)) ∧ ∃ q' : Ext wr, w'' = q'.w := fun q => Ext.calls (mclos_any S S _ _ ea eb la lb _ (ya.below q.h) (yb.below q.h))
      have HSTEP : Hid (siftUp (·.2) ps' (j + 1) = if cmpE ea eb ≤ 0 then ps' else siftUp (·.2) (swapL ps' (j / 2) (j + 1)) (j / 2)) := by
        refine Lib.hid ?_
        rw [siftUp, ha, hb]; rfl
      have HA := Lib.hid ha
      have HB := Lib.hid hb
      clear ha hb c0 c1' ca cb ya yb yan ybn
      by_cases hle : cmpE ea eb ≤ 0
      · go_wp2
        (refine wp_region_quiet_ext (by kernel_rfl) (by kernel_rfl) ?_; (repeat (go_big_quiet_step ((go_at_call 42; exact CC _)))); refine wpQuiet_nil ?_; intro wq hw'; obtain ⟨⟨_, hq⟩, hw''⟩ := hw'; subst hw'')
        go_wp2
        refine bodyPost_ret (v := .tuple #[]) (by simp [results, Try.results44, go_sem]) rfl ?_
        exact ⟨rfl, _, by rw [HS.out, HSTEP.out, if_pos hle]; exact HH.out.below hq, (HO1.out.then_ HON.out HGG.out).trans (Only.of_below hq), HGN.out⟩
      · go_wp2
        (refine wp_region_quiet_ext (by kernel_rfl) (by kernel_rfl) ?_; (repeat (go_big_quiet_step ((go_at_call 42; exact CC _)))); refine wpQuiet_nil ?_; intro wq hw'; obtain ⟨⟨_, hq⟩, hw''⟩ := hw'; subst hw'')
        go_wp2
        have HQ := Lib.hid (HH.out.below hq)
        have HONQ := Lib.hid (HON.out.trans (Only.of_below hq))
        have c0 := HQ.out.box0
        have ca : wq.cell? { block := g, off := j / 2 } = some (.slice Aa na xa) := HQ.out.cell HLEN.out HA.out
        have cb : wq.cell? { block := g, off := j + 1 } = some (.slice Ab nb xb) := HQ.out.cell HLEN.out HB.out
        have fa := HQ.out.frozen HLEN.out (j / 2)
        have fb := HQ.out.frozen HLEN.out (j + 1)
        have hgp : g ≠ p := fun e => HQ.out.ne (by rw [e]; rfl)
        clear F0 F1 F2 F3 CC hq
        go_region
        go_wp2
        refine ⟨⟨j / 2, swapL ps' (j / 2) (j + 1), by omega, by go_num, (HQ.out.swap HLEN.out HA.out HB.out).below (Below.drew (Below.refl _ _)), by rw [swapL_len]; exact HLEN.out, by rw [HS.out, HSTEP.out, if_neg (by omega)], ?_⟩, by simp [intOf]; omega⟩
        exact HONQ.out.trans ((((only_set _ _ _ _).trans (only_set _ _ _ _)).mono (fun i e => .inr e)).drew)
end Go.Proofs.Ytelbidknefkaiaa
