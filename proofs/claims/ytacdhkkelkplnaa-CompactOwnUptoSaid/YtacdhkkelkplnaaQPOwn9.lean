/-
law 12's wakes.
-/
import Derived.Test.YtacdhkkelkplnaaQPOwn5
import Derived.Test.YtacdhkkelkplnaaQPOwn8
import Derived.Test.YtacdhkkelkplnaaQPOwn3
import Derived.Test.YtacdhkkelkplnaaQPOwn2
import Derived.Test.YtacdhkkelkplnaaQPOwn6
import Derived.Lib.SlBytesConst
import Derived.Deep.RegionWith
section
namespace Go.Proofs.Ytacdhkkelkplnaa
open Go.RowKit Go.BigFrame
attribute [local go_sem ↓] Go.wp_at_zero Go.wp_at_succ
def leB (a b : Ent) : Bool := decide (cmpE a b ≤ 0)
abbrev upTo (a b : Ent) : Prop := cmpE a b ≤ 0
theorem leB_t {a b : Ent} (h : cmpE a b ≤ 0) : leB a b = true := decide_eq_true h
theorem leB_f {a b : Ent} (h : ¬ cmpE a b ≤ 0) : ¬ leB a b = true := fun h' => h (of_decide_eq_true h')
theorem merge_sorted {a b : List Ent} (ha : a.Pairwise upTo) (hb : b.Pairwise upTo) : (List.merge a b leB).Pairwise upTo := by
  have tr : ∀ x y z : Ent, leB x y = true → leB y z = true → leB x z = true := fun x y z h1 h2 => leB_t (cmpE_le_trans (of_decide_eq_true h1) (of_decide_eq_true h2))
  have to : ∀ x y : Ent, (leB x y || leB y x) = true := fun x y => by
    have := cmpE_swap x y
    unfold leB
    simp only [Bool.or_eq_true, decide_eq_true_eq]
    omega
  have := List.pairwise_merge (le := leB) tr to (l₁ := a) (l₂ := b) (ha.imp fun h => leB_t h) (hb.imp fun h => leB_t h)
  exact this.imp fun h => of_decide_eq_true h
theorem Ents.tail' {w : World} {S : Nat → Prop} {b o c n : Nat} {e : Ent} {l : List Ent} (h : Ents w S (.slice (some ⟨b, o, none⟩) n c) (e :: l)) : (c = 1 → l = []) ∧ Ents w S (.slice (some ⟨b, o + 4, none⟩) l.length (c - 1)) l := by
  obtain ⟨h1, h2, h3, _⟩ := h.head'
  refine ⟨fun hc => List.eq_nil_of_length_eq_zero (by omega), ?_⟩
  by_cases hl : l = []
  · subst hl
    exact ⟨_, _, [], rfl, by simp, by omega, by simp, Row.nil _ _ _ _, trivial⟩
  · exact h.tail hl
theorem Ents.none_at {w : World} {S : Nat → Prop} {A : Option Addr} {c : Nat} (hc : c ≤ 9223372036854775807) : Ents w S (.slice A 0 c) [] := ⟨_, _, [], rfl, by simp, hc, by simp, Row.nil _ _ _ _, trivial⟩
set_option maxRecDepth 100000 in
set_option maxHeartbeats 4000000 in
theorem sorted_any (n : Nat) : ∀ (S : Nat → Prop) (v : Value) (es : List Ent) (w : World), es.length = n → Ents w S v es →
    Calls Try.prog 29 #[v] w fun r w' => ∃ v' rs, r = .returned v' ∧ Ents w' (fun _ => True) v' rs ∧ rs.Perm es ∧ rs.Pairwise upTo ∧ Below w.heap.size w w' := by
  induction n using Nat.strongRecOn with
  | ind n ih =>
    intro S v es w hn hv
    have IH := Lib.hid ih
    have HN := Lib.hid hn
    have HV := Lib.hid hv
    obtain ⟨A, c, rfl⟩ := ents_form hv
    obtain ⟨hc1, hc2, hb64⟩ : n ≤ c ∧ c ≤ 9223372036854775807 ∧ n * 64 ≤ 140737488355328 := by
      obtain ⟨_, _, _, he, h1, h2, h3, _⟩ := hv
      injection he with _ _ e3
      subst e3
      rw [hn] at h1 h3
      exact ⟨h1, h2, h3⟩
    rw [hn]
    clear ih hv
    by_cases h2 : n < 2
    · clear hn
      go_enter Try.func29, Try.ntmps29
      go_wp2
      refine bodyPost_ret (v := .slice A n c) (by simp [results, Try.results29, go_sem]) rfl ?_
      refine ⟨_, es, rfl, ?_, List.Perm.refl _, ?_, Below.refl _ _⟩
      · have := HV.out.mono (S' := fun _ => True) (fun _ _ => trivial)
        rwa [HN.out] at this
      · have := HN.out
        match es, this with
        | [], _ => exact List.Pairwise.nil
        | [a], _ => simp
        | a :: b :: l, h => simp at h; omega
    · have hlo := HV.out.take1 (n / 2) (by rw [hn]; omega)
      have hhi : Ents w S (.slice ((A.map fun a => ⟨a.block, a.off + n / 2 * 4, none⟩)) (n - n / 2) (c - n / 2)) (es.drop (n / 2)) := by
        obtain ⟨A', c', cs, he, h1, h2', h3, h4, h5⟩ := HV.out
        injection he with e1 e2 e3
        subst e1 e3
        have hl : (es.drop (n / 2)).length = n - n / 2 := by simp [hn]
        have hcl := h5.len
        refine ⟨_, _, cs.drop (n / 2 * 4), by rw [hl], by omega, by omega, by omega, ?_, h5.drop _⟩
        rw [hl]
        refine ⟨by simp; omega, fun _ => ?_⟩
        obtain ⟨b, o, hb, hS, hlt, hc⟩ := h4.2 (by omega)
        subst hb
        refine ⟨b, o + n / 2 * 4, rfl, hS, hlt, fun j u hu => ?_⟩
        rw [List.getElem?_drop] at hu
        have := hc _ u hu
        rwa [show o + (n / 2 * 4 + j) = o + n / 2 * 4 + j from by omega] at this
      obtain ⟨b, o, rfl⟩ : ∃ b o, A = some ⟨b, o, none⟩ := by
        obtain ⟨A', c', cs, he, h1, h2', h3, h4, h5⟩ := HV.out
        injection he with e1 e2 e3
        subst e1
        obtain ⟨b, o, hb, _⟩ := h4.2 (by omega)
        exact ⟨b, o, hb⟩
      have HLO := Lib.hid hlo
      have HHI := Lib.hid hhi
      clear hlo hhi hn
      go_enter Try.func29, Try.ntmps29
      go_wp2_with fail
      refine (IH.out (n / 2) (by omega) S _ _ w (by rw [List.length_take, HN.out]; omega) HLO.out).mono ?_
      rintro r w1 ⟨v3, ra, rfl, hea, hpa, hsa, hb1⟩
      have HEA := Lib.hid hea
      have HPA := Lib.hid hpa
      have HSA := Lib.hid hsa
      have HB1 := Lib.hid hb1
      have HHI1 : Hid (Ents w1 S (.slice (some ⟨b, o + n / 2 * 4, none⟩) (n - n / 2) (c - n / 2)) (es.drop (n / 2))) := Lib.hid (HHI.out.below hb1)
      clear hea hpa hsa hb1
      go_wp2_with fail
      refine (IH.out (n - n / 2) (by omega) S _ _ w1 (by rw [List.length_drop, HN.out]) HHI1.out).mono ?_
      rintro r w2 ⟨v4, rb, rfl, heb, hpb, hsb, hb2⟩
      have hlen : ra.length + rb.length = n := by
        rw [HPA.out.length_eq, hpb.length_eq, List.length_take, List.length_drop, HN.out]; omega
      have HPERM : Hid ((List.merge ra rb leB).Perm es) := Lib.hid (by
        refine (List.merge_perm_append leB).trans ?_
        have := HPA.out.append hpb
        rwa [List.take_append_drop] at this)
      have HSORT := Lib.hid (merge_sorted HSA.out hsb)
      have HEA2 := Lib.hid (HEA.out.below hb2).lt
      have HEB2 := Lib.hid heb.lt
      have HB2 := Lib.hid (HB1.out.trans (hb2.mono HB1.out.size))
      have HLEN := Lib.hid hlen
      clear HEA HPA HSA HB1 HHI1 heb hpb hsb hb2 hlen HLO HHI HV IH HN
      obtain ⟨S0, hS0⟩ : ∃ S0 : Nat → Prop, S0 = fun i => i < w2.heap.size := ⟨_, rfl⟩
      rw [← hS0] at HEA2 HEB2
      have HS0 := Lib.hid hS0
      clear hS0
      obtain ⟨i0, hi, hz0, hz1, hz2⟩ := info_parts info26
      have hby := Lib.hid hz2
      have hz1' := Lib.hid hz1
      clear hz2 hz1
      obtain ⟨R, hR⟩ : ∃ R, List.merge ra rb leB = R := ⟨_, rfl⟩
      rw [hR] at HPERM HSORT
      have HRR := Lib.hid hR
      clear hR
      go_wp2
      go_loopw [3, 4, 5] (fun v3 v4 v5 wr => ∃ (la lb os : List Ent) (ys : List Value), Ents wr S0 v3 la ∧ Ents wr S0 v4 lb ∧ wr.ownsRow w2.heap.size 46 4 v5 os.length ys ∧ EntCells wr S0 ys os ∧ R = os ++ List.merge la lb leB ∧ os.length + la.length + lb.length = n ∧ Below w2.heap.size w2 wr) (fun v3 v4 _ _ => sliceLen v3 + sliceLen v4)
      case atStart => exact ⟨ra, rb, [], [], HEA2.out, HEB2.out, World.ownsRow_nil _ _ _ _, trivial, by rw [HRR.out]; rfl, by have := HLEN.out; simp; omega, Below.refl _ _⟩
      case round =>
        clear HEA2 HEB2 HRR HLEN
        obtain ⟨la, lb, os, ys, hea, heb, hown, hys, hR, hlen, hbel⟩ := hrel
        have HO := Lib.hid hown
        have HYS := Lib.hid hys
        have HR := Lib.hid hR
        have HB := Lib.hid hbel
        have HLN := Lib.hid hlen
        have hol : os.length ≤ n := by omega
        obtain ⟨A3, c3, rfl⟩ := ents_form hea
        obtain ⟨A4, c4, rfl⟩ := ents_form heb
        obtain ⟨A5, c5, rfl⟩ := own_form hown
        have HEA := Lib.hid hea
        have HEB := Lib.hid heb
        clear hown hys hR hlen hbel hea heb
        rcases la with _ | ⟨x, la⟩
        · rcases lb with _ | ⟨y, lb⟩
          · go_wp2
            refine bodyPost_ret (v := .slice A5 os.length c5) (by simp [results, Try.results29, go_sem]) rfl ?_
            have e1 : R = os := by rw [HR.out]; simp
            refine ⟨_, os, rfl, ?_, e1 ▸ HPERM.out, e1 ▸ HSORT.out, HB2.out.trans (HB.out.mono HB2.out.size)⟩
            exact Ents.of_own HO.out (HYS.out.mono fun i hi => trivial) (fun i hi _ => trivial) (by omega)
          · obtain ⟨b1, o1, cg, kk, uu, hE, x0, x1, x2, x3, z1, z2⟩ := HEB.out.head
            cases hE
            obtain ⟨_, hcap, hcap2, _⟩ := HEB.out.head'
            obtain ⟨ht1, ht2⟩ := HEB.out.tail'
            have HT1 := Lib.hid ht1
            have HT2 := Lib.hid ht2
            obtain ⟨Ak, ck, rfl⟩ := slice_form z1
            obtain ⟨Au, cu, rfl⟩ := slice_form z2
            have F0 : ∀ q : Ext wr, q.w.cell? { block := b1, off := o1 } = _ := fun q => q.h.cell x0
            have F1 : ∀ q : Ext wr, q.w.cell? { block := b1, off := o1 + 1 } = _ := fun q => q.h.cell x1
            have F2 : ∀ q : Ext wr, q.w.cell? { block := b1, off := o1 + 2 } = _ := fun q => q.h.cell x2
            have F3 : ∀ q : Ext wr, q.w.cell? { block := b1, off := o1 + 3 } = _ := fun q => q.h.cell x3
            have X0 := Lib.hid x0
            have X1 := Lib.hid x1
            have X2 := Lib.hid x2
            have X3 := Lib.hid x3
            have Z1 := Lib.hid z1
            have Z2 := Lib.hid z2
            clear x0 x1 x2 x3 z1 z2 ht1 ht2
            have hol1 : os.length + 1 ≤ n := by have := HLN.out; simp at this; omega
            clear hol
            go_wp2
            have hlb0 : ((lb.length : Int) + 1 == 0) = false := by rw [beq_eq_false_iff_ne]; omega
            (refine wp_region_quiet_ext (by kernel_rfl) (by kernel_rfl) ?_; (repeat (go_big_quiet_step (fail))); refine wpQuiet_nil ?_; intro wq hw'; obtain ⟨⟨_, hq⟩, hw''⟩ := hw'; subst hw'')
            have HB1 := Lib.hid (show Below wr.heap.size wr wq from hq)
            have C0 := hq.cell X0.out
            have C1 := hq.cell X1.out
            have C2 := hq.cell X2.out
            have C3 := hq.cell X3.out
            clear hq F0 F1 F2 F3
            by_cases hc1' : c4 = 1
            all_goals
              go_wp2_with (at_builtin; refine wpList_append_own_at _ rfl _ _ 41 rfl w2.heap.size 46 i0 _ 4 64 Try.underlying41 hi hz0 hz1'.out hby.out rfl (by decide) _ _ _ rfl ((own_below HO.out HB1.out).alloc _) ⟨wq.heap.size, 0, none⟩ 1 1 [.slice Ak y.key.length ck, .int .i64 y.seq, .bool y.dead, .slice Au y.val.length cu] rfl rfl (cell_four_new _ _ _ _ _ _) (by simp [Value.oneCell']) (by unfold maxLen; omega) (by omega) (by have := HB.out.size; have := HB1.out.size; simp; omega) ?_; intro v' w5 hown' hgrow hnn hat; clear hnn)
              have hnS : ∀ g, (Value.slice A5 os.length c5).ownBlock = some g → ¬ S0 g := fun g hg hs => by have := (HO.out.lt g hg).1; rw [HS0.out] at hs; omega
              have hX := HT2.out.thru HB1.out hgrow hnS
              have hY := HEA.out.thru HB1.out hgrow hnS
              obtain ⟨A8, c8, rfl⟩ := own_form hown'
              refine ⟨⟨[], lb, os ++ [y], _, hY, ?_, (by rw [List.length_append]; exact hown'), EntCells.pushOld (e := y) (d := y.dead) rfl HO.out HYS.out HB1.out Z1.out Z2.out (fun i hs => by rw [HS0.out] at hs; exact hs) hgrow hat, ?_, ?_, ((HB.out.trans (HB1.out.mono HB.out.size)).alloc (by have := HB.out.size; have := HB1.out.size; omega) _).grown hgrow (by have := HB.out.size; have := HB1.out.size; simp; omega) (fun j e => (HO.out.lt j e).1)⟩, ?_⟩
              · first | exact hX | (have e1 := HT1.out (by omega); subst e1; exact Ents.none_at (by omega))
              · rw [HR.out]; simp
              · have := HLN.out; simp at this ⊢; omega
              · simp [sliceLen]
        · rcases lb with _ | ⟨y, lb⟩
          · obtain ⟨b1, o1, cg, kk, uu, hE, x0, x1, x2, x3, z1, z2⟩ := HEA.out.head
            cases hE
            obtain ⟨_, hcap, hcap2, _⟩ := HEA.out.head'
            obtain ⟨ht1, ht2⟩ := HEA.out.tail'
            have HT1 := Lib.hid ht1
            have HT2 := Lib.hid ht2
            obtain ⟨Ak, ck, rfl⟩ := slice_form z1
            obtain ⟨Au, cu, rfl⟩ := slice_form z2
            have F0 : ∀ q : Ext wr, q.w.cell? { block := b1, off := o1 } = _ := fun q => q.h.cell x0
            have F1 : ∀ q : Ext wr, q.w.cell? { block := b1, off := o1 + 1 } = _ := fun q => q.h.cell x1
            have F2 : ∀ q : Ext wr, q.w.cell? { block := b1, off := o1 + 2 } = _ := fun q => q.h.cell x2
            have F3 : ∀ q : Ext wr, q.w.cell? { block := b1, off := o1 + 3 } = _ := fun q => q.h.cell x3
            have X0 := Lib.hid x0
            have X1 := Lib.hid x1
            have X2 := Lib.hid x2
            have X3 := Lib.hid x3
            have Z1 := Lib.hid z1
            have Z2 := Lib.hid z2
            clear x0 x1 x2 x3 z1 z2 ht1 ht2
            have hol1 : os.length + 1 ≤ n := by have := HLN.out; simp at this; omega
            clear hol
            go_wp2
            (refine wp_region_quiet_ext (by kernel_rfl) (by kernel_rfl) ?_; (repeat (go_big_quiet_step (fail))); refine wpQuiet_nil ?_; intro wq hw'; obtain ⟨⟨_, hq⟩, hw''⟩ := hw'; subst hw'')
            have HB1 := Lib.hid (show Below wr.heap.size wr wq from hq)
            have C0 := hq.cell X0.out
            have C1 := hq.cell X1.out
            have C2 := hq.cell X2.out
            have C3 := hq.cell X3.out
            clear hq F0 F1 F2 F3
            by_cases hc1' : c3 = 1
            all_goals
              go_wp2_with (at_builtin; refine wpList_append_own_at _ rfl _ _ 41 rfl w2.heap.size 46 i0 _ 4 64 Try.underlying41 hi hz0 hz1'.out hby.out rfl (by decide) _ _ _ rfl ((own_below HO.out HB1.out).alloc _) ⟨wq.heap.size, 0, none⟩ 1 1 [.slice Ak x.key.length ck, .int .i64 x.seq, .bool x.dead, .slice Au x.val.length cu] rfl rfl (cell_four_new _ _ _ _ _ _) (by simp [Value.oneCell']) (by unfold maxLen; omega) (by omega) (by have := HB.out.size; have := HB1.out.size; simp; omega) ?_; intro v' w5 hown' hgrow hnn hat; clear hnn)
              have hnS : ∀ g, (Value.slice A5 os.length c5).ownBlock = some g → ¬ S0 g := fun g hg hs => by have := (HO.out.lt g hg).1; rw [HS0.out] at hs; omega
              have hX := HT2.out.thru HB1.out hgrow hnS
              have hY := HEB.out.thru HB1.out hgrow hnS
              obtain ⟨A8, c8, rfl⟩ := own_form hown'
              refine ⟨⟨la, [], os ++ [x], _, ?_, hY, (by rw [List.length_append]; exact hown'), EntCells.pushOld (e := x) (d := x.dead) rfl HO.out HYS.out HB1.out Z1.out Z2.out (fun i hs => by rw [HS0.out] at hs; exact hs) hgrow hat, ?_, ?_, ((HB.out.trans (HB1.out.mono HB.out.size)).alloc (by have := HB.out.size; have := HB1.out.size; omega) _).grown hgrow (by have := HB.out.size; have := HB1.out.size; simp; omega) (fun j e => (HO.out.lt j e).1)⟩, ?_⟩
              · first | exact hX | (have e1 := HT1.out (by omega); subst e1; exact Ents.none_at (by omega))
              · rw [HR.out]; simp
              · have := HLN.out; simp at this ⊢; omega
              · simp [sliceLen]
          · by_cases hle : cmpE x y ≤ 0
            · obtain ⟨b1, o1, cg, kk, uu, hE, x0, x1, x2, x3, z1, z2⟩ := HEA.out.head
              cases hE
              obtain ⟨_, hcap, hcap2, _⟩ := HEA.out.head'
              obtain ⟨ht1, ht2⟩ := HEA.out.tail'
              have HT1 := Lib.hid ht1
              have HT2 := Lib.hid ht2
              obtain ⟨Ak, ck, rfl⟩ := slice_form z1
              obtain ⟨Au, cu, rfl⟩ := slice_form z2
              obtain ⟨b2, o2, cg2, kk2, uu2, hE2, y0, y1, y2, y3, z3, z4⟩ := HEB.out.head
              cases hE2
              have CC : ∀ q : Ext wr, Calls Try.prog 30 #[.agg #[.slice Ak x.key.length ck, .int .i64 x.seq, .bool x.dead, .slice Au x.val.length cu], .agg #[kk2, .int .i64 y.seq, .bool y.dead, uu2]] q.w fun r w'' => r = .returned (.int .i64 (cmpE x y)) ∧ ∃ q' : Ext wr, w'' = q'.w := fun q => Ext.calls (rcmp_any S0 S0 _ _ x y _ (q.h.ent ⟨_, _, rfl, z1, z2⟩) (q.h.ent ⟨_, _, rfl, z3, z4⟩))
              have G0 : ∀ q : Ext wr, q.w.cell? { block := b2, off := o2 } = _ := fun q => q.h.cell y0
              have G1 : ∀ q : Ext wr, q.w.cell? { block := b2, off := o2 + 1 } = _ := fun q => q.h.cell y1
              have G2 : ∀ q : Ext wr, q.w.cell? { block := b2, off := o2 + 2 } = _ := fun q => q.h.cell y2
              have G3 : ∀ q : Ext wr, q.w.cell? { block := b2, off := o2 + 3 } = _ := fun q => q.h.cell y3
              have F0 : ∀ q : Ext wr, q.w.cell? { block := b1, off := o1 } = _ := fun q => q.h.cell x0
              have F1 : ∀ q : Ext wr, q.w.cell? { block := b1, off := o1 + 1 } = _ := fun q => q.h.cell x1
              have F2 : ∀ q : Ext wr, q.w.cell? { block := b1, off := o1 + 2 } = _ := fun q => q.h.cell x2
              have F3 : ∀ q : Ext wr, q.w.cell? { block := b1, off := o1 + 3 } = _ := fun q => q.h.cell x3
              have X0 := Lib.hid x0
              have X1 := Lib.hid x1
              have X2 := Lib.hid x2
              have X3 := Lib.hid x3
              have Z1 := Lib.hid z1
              have Z2 := Lib.hid z2
              clear x0 x1 x2 x3 z1 z2 ht1 ht2 y0 y1 y2 y3 z3 z4
              have hol1 : os.length + 1 ≤ n := by have := HLN.out; simp at this; omega
              clear hol
              go_wp2
              have hlb0 : ((lb.length : Int) + 1 == 0) = false := by rw [beq_eq_false_iff_ne]; omega
              (refine wp_region_quiet_ext (by kernel_rfl) (by kernel_rfl) ?_; (repeat (go_big_quiet_step (((go_at_call 30; exact CC _))))); refine wpQuiet_nil ?_; intro wq hw'; obtain ⟨⟨_, hq⟩, hw''⟩ := hw'; subst hw'')
              have HB1 := Lib.hid (show Below wr.heap.size wr wq from hq)
              have C0 := hq.cell X0.out
              have C1 := hq.cell X1.out
              have C2 := hq.cell X2.out
              have C3 := hq.cell X3.out
              clear hq F0 F1 F2 F3 G0 G1 G2 G3 CC
              by_cases hc1' : c3 = 1
              all_goals
                go_wp2_with (at_builtin; refine wpList_append_own_at _ rfl _ _ 41 rfl w2.heap.size 46 i0 _ 4 64 Try.underlying41 hi hz0 hz1'.out hby.out rfl (by decide) _ _ _ rfl ((own_below HO.out HB1.out).alloc _) ⟨wq.heap.size, 0, none⟩ 1 1 [.slice Ak x.key.length ck, .int .i64 x.seq, .bool x.dead, .slice Au x.val.length cu] rfl rfl (cell_four_new _ _ _ _ _ _) (by simp [Value.oneCell']) (by unfold maxLen; omega) (by omega) (by have := HB.out.size; have := HB1.out.size; simp; omega) ?_; intro v' w5 hown' hgrow hnn hat; clear hnn)
                have hnS : ∀ g, (Value.slice A5 os.length c5).ownBlock = some g → ¬ S0 g := fun g hg hs => by have := (HO.out.lt g hg).1; rw [HS0.out] at hs; omega
                have hX := HT2.out.thru HB1.out hgrow hnS
                have hY := HEB.out.thru HB1.out hgrow hnS
                obtain ⟨A8, c8, rfl⟩ := own_form hown'
                refine ⟨⟨la, y :: lb, os ++ [x], _, ?_, hY, (by rw [List.length_append]; exact hown'), EntCells.pushOld (e := x) (d := x.dead) rfl HO.out HYS.out HB1.out Z1.out Z2.out (fun i hs => by rw [HS0.out] at hs; exact hs) hgrow hat, ?_, ?_, ((HB.out.trans (HB1.out.mono HB.out.size)).alloc (by have := HB.out.size; have := HB1.out.size; omega) _).grown hgrow (by have := HB.out.size; have := HB1.out.size; simp; omega) (fun j e => (HO.out.lt j e).1)⟩, ?_⟩
                · first | exact hX | (have e1 := HT1.out (by omega); subst e1; exact Ents.none_at (by omega))
                · rw [HR.out, List.cons_merge_cons, if_pos (leB_t hle), List.append_assoc]; rfl
                · have := HLN.out; simp at this ⊢; omega
                · simp [sliceLen]
            · obtain ⟨b1, o1, cg, kk, uu, hE, x0, x1, x2, x3, z1, z2⟩ := HEB.out.head
              cases hE
              obtain ⟨_, hcap, hcap2, _⟩ := HEB.out.head'
              obtain ⟨ht1, ht2⟩ := HEB.out.tail'
              have HT1 := Lib.hid ht1
              have HT2 := Lib.hid ht2
              obtain ⟨Ak, ck, rfl⟩ := slice_form z1
              obtain ⟨Au, cu, rfl⟩ := slice_form z2
              obtain ⟨b2, o2, cg2, kk2, uu2, hE2, y0, y1, y2, y3, z3, z4⟩ := HEA.out.head
              cases hE2
              have CC : ∀ q : Ext wr, Calls Try.prog 30 #[.agg #[kk2, .int .i64 x.seq, .bool x.dead, uu2], .agg #[.slice Ak y.key.length ck, .int .i64 y.seq, .bool y.dead, .slice Au y.val.length cu]] q.w fun r w'' => r = .returned (.int .i64 (cmpE x y)) ∧ ∃ q' : Ext wr, w'' = q'.w := fun q => Ext.calls (rcmp_any S0 S0 _ _ x y _ (q.h.ent ⟨_, _, rfl, z3, z4⟩) (q.h.ent ⟨_, _, rfl, z1, z2⟩))
              have G0 : ∀ q : Ext wr, q.w.cell? { block := b2, off := o2 } = _ := fun q => q.h.cell y0
              have G1 : ∀ q : Ext wr, q.w.cell? { block := b2, off := o2 + 1 } = _ := fun q => q.h.cell y1
              have G2 : ∀ q : Ext wr, q.w.cell? { block := b2, off := o2 + 2 } = _ := fun q => q.h.cell y2
              have G3 : ∀ q : Ext wr, q.w.cell? { block := b2, off := o2 + 3 } = _ := fun q => q.h.cell y3
              have F0 : ∀ q : Ext wr, q.w.cell? { block := b1, off := o1 } = _ := fun q => q.h.cell x0
              have F1 : ∀ q : Ext wr, q.w.cell? { block := b1, off := o1 + 1 } = _ := fun q => q.h.cell x1
              have F2 : ∀ q : Ext wr, q.w.cell? { block := b1, off := o1 + 2 } = _ := fun q => q.h.cell x2
              have F3 : ∀ q : Ext wr, q.w.cell? { block := b1, off := o1 + 3 } = _ := fun q => q.h.cell x3
              have X0 := Lib.hid x0
              have X1 := Lib.hid x1
              have X2 := Lib.hid x2
              have X3 := Lib.hid x3
              have Z1 := Lib.hid z1
              have Z2 := Lib.hid z2
              clear x0 x1 x2 x3 z1 z2 ht1 ht2 y0 y1 y2 y3 z3 z4
              have hol1 : os.length + 1 ≤ n := by have := HLN.out; simp at this; omega
              clear hol
              go_wp2
              have hlb0 : ((lb.length : Int) + 1 == 0) = false := by rw [beq_eq_false_iff_ne]; omega
              (refine wp_region_quiet_ext (by kernel_rfl) (by kernel_rfl) ?_; (repeat (go_big_quiet_step (((go_at_call 30; exact CC _))))); refine wpQuiet_nil ?_; intro wq hw'; obtain ⟨⟨_, hq⟩, hw''⟩ := hw'; subst hw'')
              have HB1 := Lib.hid (show Below wr.heap.size wr wq from hq)
              have C0 := hq.cell X0.out
              have C1 := hq.cell X1.out
              have C2 := hq.cell X2.out
              have C3 := hq.cell X3.out
              clear hq F0 F1 F2 F3 G0 G1 G2 G3 CC
              by_cases hc1' : c4 = 1
              all_goals
                go_wp2_with (at_builtin; refine wpList_append_own_at _ rfl _ _ 41 rfl w2.heap.size 46 i0 _ 4 64 Try.underlying41 hi hz0 hz1'.out hby.out rfl (by decide) _ _ _ rfl ((own_below HO.out HB1.out).alloc _) ⟨wq.heap.size, 0, none⟩ 1 1 [.slice Ak y.key.length ck, .int .i64 y.seq, .bool y.dead, .slice Au y.val.length cu] rfl rfl (cell_four_new _ _ _ _ _ _) (by simp [Value.oneCell']) (by unfold maxLen; omega) (by omega) (by have := HB.out.size; have := HB1.out.size; simp; omega) ?_; intro v' w5 hown' hgrow hnn hat; clear hnn)
                have hnS : ∀ g, (Value.slice A5 os.length c5).ownBlock = some g → ¬ S0 g := fun g hg hs => by have := (HO.out.lt g hg).1; rw [HS0.out] at hs; omega
                have hX := HT2.out.thru HB1.out hgrow hnS
                have hY := HEA.out.thru HB1.out hgrow hnS
                obtain ⟨A8, c8, rfl⟩ := own_form hown'
                refine ⟨⟨x :: la, lb, os ++ [y], _, hY, ?_, (by rw [List.length_append]; exact hown'), EntCells.pushOld (e := y) (d := y.dead) rfl HO.out HYS.out HB1.out Z1.out Z2.out (fun i hs => by rw [HS0.out] at hs; exact hs) hgrow hat, ?_, ?_, ((HB.out.trans (HB1.out.mono HB.out.size)).alloc (by have := HB.out.size; have := HB1.out.size; omega) _).grown hgrow (by have := HB.out.size; have := HB1.out.size; simp; omega) (fun j e => (HO.out.lt j e).1)⟩, ?_⟩
                · first | exact hX | (have e1 := HT1.out (by omega); subst e1; exact Ents.none_at (by omega))
                · rw [HR.out, List.cons_merge_cons, if_neg (leB_f (show ¬ cmpE x y ≤ 0 by omega)), List.append_assoc]; rfl
                · have := HLN.out; simp at this ⊢; omega
                · simp [sliceLen]
end Go.Proofs.Ytacdhkkelkplnaa
end
section
namespace Go.Proofs.Ytacdhkkelkplnaa
open Go.RowKit Go.BigFrame
attribute [local go_sem ↓] Go.wp_at_zero Go.wp_at_succ
/-- no two neighbours are alike. -/
def NoAdj (s : List Ent) : Prop := ∀ (j : Nat) (a b : Ent), s[j]? = some a → s[j + 1]? = some b → cmpE a b ≠ 0
def RefMerge (ls : List (List Ent)) (rs : List Ent) (n : Int) : Prop :=
  (ls.all orderedE = false ∧ n = 30 ∧ rs = []) ∨ (ls.all orderedE = true ∧ ∃ s : List Ent, s.Perm ls.flatten ∧ s.Pairwise upTo ∧ ((n = 0 ∧ rs = s ∧ NoAdj s) ∨ (n = 31 ∧ rs = [] ∧ ¬ NoAdj s)))
theorem noAdj_before : ∀ {s : List Ent}, s.Pairwise upTo → NoAdj s → s.Pairwise before
  | [], _, _ => List.Pairwise.nil
  | a :: s, hp, hn => by
    have h1 := (List.pairwise_cons.1 hp).1
    have h2 := noAdj_before (List.pairwise_cons.1 hp).2 (fun j x y hx hy => hn (j + 1) x y (by simpa using hx) (by simpa using hy))
    refine List.pairwise_cons.2 ⟨fun x hx => ?_, h2⟩
    cases s with
    | nil => simp at hx
    | cons b s =>
      have hab : cmpE a b < 0 := by
        have e1 : cmpE a b ≤ 0 := h1 b (by simp)
        have e2 := hn 0 a b rfl rfl
        omega
      rcases List.mem_cons.1 hx with rfl | hx
      · exact hab
      · exact cmpE_trans hab ((List.pairwise_cons.1 h2).1 x hx)
theorem noTwice_noAdj {s : List Ent} (h : NoTwice s) : NoAdj s := by
  intro j a b ha hb
  obtain ⟨hj, e1⟩ := List.getElem?_eq_some_iff.1 ha
  obtain ⟨hj', e2⟩ := List.getElem?_eq_some_iff.1 hb
  have := List.pairwise_iff_getElem.1 h j (j + 1) hj hj' (by omega)
  rwa [e1, e2] at this
theorem merge_law {ls : List (List Ent)} {rs : List Ent} {n : Int} (h : RefMerge ls rs n) : mergeC ls = (rs, n) := by
  rcases h with ⟨h, rfl, rfl⟩ | ⟨h, s, hp, hs, h1⟩
  · unfold mergeC; rw [h]; rfl
  · rcases mergeC_spec ls h with ⟨r, e, hr1, hr2⟩ | ⟨e, hnt⟩
    · have hrs : r.Perm s := hr1.trans hp.symm
      rcases h1 with ⟨rfl, rfl, hna⟩ | ⟨rfl, rfl, hna⟩
      · rw [e, before_eq hrs hr2 (noAdj_before hs hna)]
      · exact absurd (noTwice_noAdj ((noTwice_perm hrs).1 (before_noTwice hr2))) hna
    · rcases h1 with ⟨rfl, rfl, hna⟩ | ⟨rfl, rfl, hna⟩
      · exact absurd ((noTwice_perm hp).1 (before_noTwice (noAdj_before hs hna))) hnt
      · exact e
theorem total_take {ls : List (List Ent)} {k : Nat} {l : List Ent} (h : ls[k]? = some l) : total (ls.take k) + l.length ≤ total ls ∧ (ls.take (k + 1)).flatten = (ls.take k).flatten ++ l := by
  have e1 := take_snoc h
  have e2 : (ls.take (k + 1)).flatten = (ls.take k).flatten ++ l := by rw [e1]; simp
  refine ⟨?_, e2⟩
  have e3 : ls.flatten = (ls.take (k + 1)).flatten ++ (ls.drop (k + 1)).flatten := by rw [← List.flatten_append, List.take_append_drop]
  unfold total
  rw [e3, e2]
  simp
set_option maxRecDepth 100000 in
set_option maxHeartbeats 4000000 in
theorem rmerge_any (S : Nat → Prop) (v : Value) (ls : List (List Ent)) (w : World) (hv : Lists w S v ls) (hN : total ls * 64 ≤ 140737488355328) :
    Calls Try.prog 14 #[v] w fun r w' => ∃ v' rs n, r = .returned (.tuple #[v', .int .i64 n]) ∧ RefMerge ls rs n ∧ Ents w' (fun _ => True) v' rs ∧ Below w.heap.size w w' := by
  obtain ⟨A, c, vs, rfl, hc, hcm, hl, hr, he⟩ := hv
  obtain ⟨n, hn⟩ : ∃ n, ls.length = n := ⟨_, rfl⟩
  rw [hn] at hr hl hc ⊢
  have HN := Lib.hid hn
  have HE := Lib.hid he
  have HR := Lib.hid hr
  obtain ⟨S0, hS0⟩ : ∃ S0 : Nat → Prop, S0 = fun i => i < w.heap.size := ⟨_, rfl⟩
  have HS0 := Lib.hid hS0
  clear hn he hr hS0
  go_enter Try.func14, Try.ntmps14
  go_wp2
  go_loopw [4, 9] (fun v4 t wr => ∃ (k : Nat) (ys : List Value), k ≤ n ∧ t = .int .i64 k ∧ wr.ownsRow w.heap.size 46 4 v4 (ls.take k).flatten.length ys ∧ EntCells wr S0 ys (ls.take k).flatten ∧ (ls.take k).all orderedE = true ∧ Below w.heap.size w wr) (fun _ t _ => n - (intOf t).toNat)
  case atStart => exact ⟨0, [], Nat.zero_le _, rfl, World.ownsRow_nil _ _ _ _, trivial, rfl, Below.refl _ _⟩
  case round =>
    obtain ⟨k, ys, hk, rfl, hown, hys, hall, hbel⟩ := hrel
    have HO := Lib.hid hown
    have HYS := Lib.hid hys
    have HALL := Lib.hid hall
    have HB := Lib.hid hbel
    clear hown hys hall hbel
    by_cases hkn : k < n
    · obtain ⟨l, hlk⟩ : ∃ l, ls[k]? = some l := ⟨_, List.getElem?_eq_getElem (by rw [HN.out]; exact hkn)⟩
      obtain ⟨x, hx, hxe⟩ := HE.out k l hlk
      obtain ⟨b, o, u, rfl, _, _, hu, hcell⟩ := (HR.out.below HB.out).at_ hkn
      obtain rfl : u = x := by rw [hx] at hu; injection hu with hu; exact hu.symm
      replace hxe := hxe.lt
      rw [← HS0.out] at hxe
      have HX := Lib.hid (hxe.below HB.out)
      have HLK := Lib.hid hlk
      have HORD := Lib.hid (rordered_any _ _ l wr HX.out)
      have HCELL := Lib.hid hcell
      clear hx hxe hu hlk
      rcases ho : orderedE l with _ | _
      · rw [ho] at HORD
        have HF := Lib.hid (all_false_at HLK.out ho)
        clear ho
        go_wp2_with (go_at_call 28; refine HORD.out.mono ?_; rintro r w1 ⟨rfl, hb1⟩)
        refine bodyPost_ret (v := .tuple #[_, _]) (by simp [results, Try.results14, go_sem]; exact ⟨rfl, rfl⟩) rfl ?_
        exact ⟨_, [], 30, rfl, .inl ⟨HF.out, rfl, rfl⟩, Ents.nil _ _, HB.out.trans (hb1.mono HB.out.size)⟩
      · rw [ho] at HORD
        have HT := Lib.hid (all_take_snoc HLK.out HALL.out ho)
        clear ho
        have htt := (total_take HLK.out).1
        have HFL := Lib.hid (total_take HLK.out).2
        unfold total at htt
        obtain ⟨M, hM⟩ : ∃ M, total ls = M := ⟨_, rfl⟩
        have hN' := hN
        unfold total at hM hN'
        rw [hM] at htt hN'
        clear hM
        go_wp2_with (first
          | (go_at_call 28; refine HORD.out.mono ?_; rintro r w1 ⟨rfl, hb1⟩; have hcell1 := fr.cell (show fr wr w1 from hb1) HCELL.out)
          | (at_builtin; refine wpList_append_ents rfl _ _ rfl w.heap.size _ _ rfl rfl S0 _ _ l (own_below HO.out hb1) (HX.out.below hb1) (by omega) (by have := HB.out.size; have := hb1.size; omega) ?_; intro v' w2 cs hown' hcs hgrow hat))
        have hB := HB.out.size
        have hB1 := hb1.size
        have hno : ∀ i, i < w1.heap.size → S0 i → ¬ (fun i => (_ : Value).ownBlock = some i) i := fun i _ hs e => by
          have h1 := (HO.out.lt i e).1
          rw [HS0.out] at hs
          omega
        refine ⟨⟨k + 1, _, by omega, by go_num, (by rw [HFL.out, List.length_append]; exact hown'), ?_, HT.out, (HB.out.trans (hb1.mono HB.out.size)).grown hgrow (by omega) (fun j e => (HO.out.lt j e).1)⟩, by simp [intOf]; omega⟩
        rw [HFL.out]
        exact ((HYS.out.below hb1).append hcs).only (Only.of_grown hgrow) hno
    · obtain rfl : k = n := by omega
      have htk : ls.take k = ls := List.take_of_length_le (by rw [HN.out]; exact Nat.le_refl _)
      rw [htk] at HO HYS HALL
      obtain ⟨A4, c4, rfl⟩ := own_form HO.out
      have hev : Ents wr (fun _ => True) (.slice A4 ls.flatten.length c4) ls.flatten := Ents.of_own HO.out (HYS.out.mono fun i hi => trivial) (fun i hi _ => trivial) hN
      have HEV := Lib.hid hev
      obtain ⟨m, hm⟩ : ∃ m, ls.flatten.length = m := ⟨_, rfl⟩
      have HM := Lib.hid hm
      unfold total at hN
      rw [hm] at HEV HO hN ⊢
      clear hev htk hm
      go_wp2_with (go_at_call 29; refine (sorted_any m _ _ ls.flatten _ HM.out HEV.out).mono ?_; rintro r w1 ⟨v1, s, rfl, hes, hps, hss, hb1⟩; obtain ⟨A1, c1, rfl⟩ := ents_form hes)
      have HES := Lib.hid hes
      have HPS := Lib.hid hps
      have HSS := Lib.hid hss
      have HB1 := Lib.hid (HB.out.trans (hb1.mono HB.out.size))
      have hsl : s.length = m := by rw [hps.length_eq]; exact HM.out
      obtain ⟨A1', c1', cs, hE, hc1, hc2, hc3, hrow, hcel⟩ := hes
      injection hE with e1 e2 e3
      subst e1 e3
      have HROW := Lib.hid hrow
      have HCEL := Lib.hid hcel
      rw [hsl] at HROW hc1 hc3 ⊢
      have HSL := Lib.hid hsl
      clear hps hss hb1 hrow hcel hsl e2
      go_loopw [6] (fun t w' => ∃ k : Nat, 1 ≤ k ∧ t = .int .i64 k ∧ (k ≤ m ∨ k = 1) ∧ (∀ (j : Nat) (a b : Ent), j + 1 < k → s[j]? = some a → s[j + 1]? = some b → cmpE a b ≠ 0) ∧ Below w1.heap.size w1 w') (fun t _ => m - (intOf t).toNat)
      case atStart => exact ⟨1, by omega, rfl, .inr rfl, fun j a b hj => absurd hj (by omega), Below.refl _ _⟩
      case round =>
        obtain ⟨i, hi1, rfl, hi2, hno, hbel⟩ := hrel
        have HNO := Lib.hid hno
        have HBL := Lib.hid hbel
        clear hno hbel
        by_cases him : i < m
        · obtain ⟨a, ha⟩ : ∃ a, s[i - 1]? = some a := ⟨_, List.getElem?_eq_getElem (by rw [HSL.out]; omega)⟩
          obtain ⟨e, hee⟩ : ∃ e, s[i]? = some e := ⟨_, List.getElem?_eq_getElem (by rw [HSL.out]; omega)⟩
          obtain ⟨b1, o1, k1, u1, rfl, x0, x1, x2, x3, z1, z2, _, _⟩ := (HROW.out.below HBL.out).ent (HCEL.out.below HBL.out) HSL.out ha
          obtain ⟨b2, o2, k2, u2, hE, y0, y1, y2, y3, z3, z4, _, _⟩ := (HROW.out.below HBL.out).ent (HCEL.out.below HBL.out) HSL.out hee
          cases hE
          have F0 : ∀ q : Ext wr, q.w.cell? { block := b1, off := o1 + (i - 1) * 4 } = _ := fun q => q.h.cell x0
          have F1 : ∀ q : Ext wr, q.w.cell? { block := b1, off := o1 + (i - 1) * 4 + 1 } = _ := fun q => q.h.cell x1
          have F2 : ∀ q : Ext wr, q.w.cell? { block := b1, off := o1 + (i - 1) * 4 + 2 } = _ := fun q => q.h.cell x2
          have F3 : ∀ q : Ext wr, q.w.cell? { block := b1, off := o1 + (i - 1) * 4 + 3 } = _ := fun q => q.h.cell x3
          have G0 : ∀ q : Ext wr, q.w.cell? { block := b1, off := o1 + i * 4 } = _ := fun q => q.h.cell y0
          have G1 : ∀ q : Ext wr, q.w.cell? { block := b1, off := o1 + i * 4 + 1 } = _ := fun q => q.h.cell y1
          have G2 : ∀ q : Ext wr, q.w.cell? { block := b1, off := o1 + i * 4 + 2 } = _ := fun q => q.h.cell y2
          have G3 : ∀ q : Ext wr, q.w.cell? { block := b1, off := o1 + i * 4 + 3 } = _ := fun q => q.h.cell y3
          have CC : ∀ q : Ext wr, Calls Try.prog 30 #[.agg #[k1, .int .i64 a.seq, .bool a.dead, u1], .agg #[k2, .int .i64 e.seq, .bool e.dead, u2]] q.w fun r w'' => r = .returned (.int .i64 (cmpE a e)) ∧ ∃ q' : Ext wr, w'' = q'.w := fun q => Ext.calls (rcmp_any _ _ _ _ a e _ (q.h.ent ⟨_, _, rfl, z1, z2⟩) (q.h.ent ⟨_, _, rfl, z3, z4⟩))
          have HA := Lib.hid ha
          have HEE := Lib.hid hee
          clear ha hee x0 x1 x2 x3 y0 y1 y2 y3 z1 z2 z3 z4
          by_cases heq : cmpE a e = 0
          · have hdq : (cmpE a e == 0) = true := by simp [heq]
            have HEQ := Lib.hid heq
            clear heq
            go_wp2
            (refine wp_region_quiet_ext (by kernel_rfl) (by kernel_rfl) ?_; (repeat (go_big_quiet_step ((go_at_call 30; exact CC _)))); refine wpQuiet_nil ?_; intro wq hw'; obtain ⟨⟨_, hq⟩, hw''⟩ := hw'; subst hw'')
            go_wp2
            refine bodyPost_ret (v := .tuple #[_, _]) (by simp [results, Try.results14, go_sem]; exact ⟨rfl, rfl⟩) rfl ?_
            refine ⟨_, [], 31, rfl, .inr ⟨HALL.out, s, HPS.out, HSS.out, .inr ⟨rfl, rfl, fun h => ?_⟩⟩, Ents.nil _ _, HB1.out.trans ((HBL.out.trans (Below.mono hq HBL.out.size)).mono HB1.out.size)⟩
            exact h (i - 1) a e HA.out (by rw [Nat.sub_add_cancel hi1]; exact HEE.out) HEQ.out
          · have hdq : (cmpE a e == 0) = false := by simp [heq]
            have HEQ := Lib.hid heq
            clear heq
            go_wp2
            (refine wp_region_quiet_ext (by kernel_rfl) (by kernel_rfl) ?_; (repeat (go_big_quiet_step ((go_at_call 30; exact CC _)))); refine wpQuiet_nil ?_; intro wq hw'; obtain ⟨⟨_, hq⟩, hw''⟩ := hw'; subst hw'')
            go_wp2
            refine ⟨⟨i + 1, by omega, by go_num, .inl (by omega), fun j x y hj hx hy => ?_, HBL.out.trans (Below.mono hq HBL.out.size)⟩, by simp [intOf]; omega⟩
            by_cases hji : j + 1 < i
            · exact HNO.out j x y hji hx hy
            · obtain rfl : j = i - 1 := by omega
              rw [HA.out] at hx
              rw [Nat.sub_add_cancel hi1, HEE.out] at hy
              injection hx with hx
              injection hy with hy
              subst hx hy
              exact HEQ.out
        · go_wp2
          refine bodyPost_ret (v := .tuple #[_, _]) (by simp [results, Try.results14, go_sem]; exact ⟨rfl, rfl⟩) rfl ?_
          refine ⟨_, s, 0, rfl, .inr ⟨HALL.out, s, HPS.out, HSS.out, .inl ⟨rfl, rfl, fun j x y hx hy => ?_⟩⟩, ?_, HB1.out.trans (HBL.out.mono HB1.out.size)⟩
          · have hjl := (List.getElem?_eq_some_iff.1 hy).1
            rw [HSL.out] at hjl
            exact HNO.out j x y (by omega) hx hy
          · have := HES.out.below HBL.out
            rwa [HSL.out] at this
end Go.Proofs.Ytacdhkkelkplnaa
end
section
namespace Go.Proofs.Ytacdhkkelkplnaa
open Go.RowKit Go.BigFrame
attribute [local go_sem ↓] Go.wp_at_zero Go.wp_at_succ
theorem Byt.one {w : World} {S : Nat → Prop} {g c : Nat} {b : UInt8} {v : Value} (h : w.cell? ⟨g, 0, none⟩ = some v) (hv : v = bcell b) (hS : S g) (hc : 1 ≤ c) (hc' : c ≤ 9223372036854775807) : Byt w S (.slice (some ⟨g, 0, none⟩) 1 c) [b] := by
  subst hv
  refine ⟨_, _, rfl, hc, hc', by simp, ⟨by simp, fun _ => ⟨g, 0, rfl, hS, World.block_lt_of_cell? w _ h, fun j u hu => ?_⟩⟩⟩
  match j, hu with
  | 0, hu => simp at hu; subst hu; simpa using h
theorem cell_marked (w : World) (cs : Array Value) (t : TypeId) (fr : Nat × Nat) (g j : Nat) (hg : g = w.heap.size) : (w.alloc (.cells cs t fr)).cell? ⟨g, j, none⟩ = cs[j]? := by
  subst hg; exact cell_of_row _ _ j cs t fr (heap_alloc_new w _)
/-- a literal of two lists. -/
theorem lists2 {w : World} {va vb : Value} {la lb : List Ent} {S S' : Nat → Prop} (ha : Ents w S va la) (hb : Ents w S' vb lb) (g : Nat) (hg : g = w.heap.size) :
    Lists (w.alloc (.cells #[va, vb] 41)) (fun i => i < (w.alloc (.cells #[va, vb] 41)).heap.size) (.slice (some ⟨g, 0, none⟩) 2 2) [la, lb] := by
  subst hg
  have hal : Below w.heap.size w (w.alloc (.cells #[va, vb] 41)) := (Below.refl _ _).alloc (Nat.le_refl _) _
  refine ⟨_, _, [va, vb], rfl, by simp, by simp, by simp, ⟨by simp, fun _ => ⟨_, 0, rfl, by simp, by simp, fun j u hu => ?_⟩⟩, fun i l hl => ?_⟩
  · rw [World.cell?_alloc_at _ _ _ _ (by simp)]
    simpa using hu
  · match i, hl with
    | 0, hl => simp at hl; subst hl; exact ⟨va, rfl, (ha.below hal).lt⟩
    | 1, hl => simp at hl; subst hl; exact ⟨vb, rfl, (hb.below hal).lt⟩
theorem Ents.three {w : World} {S : Nat → Prop} {v : Value} {es : List Ent} {n : Nat} (h : Ents w S v es) (hn : es.length = n) : ∃ A c, v = .slice A n c := by
  subst hn; exact ents_form h
theorem su0 {α : Type} (f : α → List Ent) (l : List α) : siftUp f l 0 = l := by rw [siftUp]
theorem su1 {α : Type} (f : α → List Ent) (a b : α) : siftUp f [a, b] 1 = if cmpL (f a) (f b) ≤ 0 then [a, b] else [b, a] := by
  rw [siftUp]
  simp only [Nat.zero_div, List.getElem?_cons_zero, List.getElem?_cons_succ]
  split
  · rfl
  · rw [su0]; rfl
theorem sd0 {α : Type} (f : α → List Ent) (l : List α) (hl : l.length ≤ 1) : siftDown f l 0 = l := by
  rw [siftDown, dif_pos]
  rcases lst_or f l 0 2 with h | h
  · exact h
  · omega
theorem push0 {α : Type} (f : α → List Ent) (a : α) : pushL f [] a = [a] := su0 f _
theorem push1 {α : Type} (f : α → List Ent) (a b : α) : pushL f [a] b = if cmpL (f a) (f b) ≤ 0 then [a, b] else [b, a] := su1 f a b
theorem pop1 {α : Type} (f : α → List Ent) (a : α) : popL f [a] = [] := sd0 f _ (by simp)
theorem pop2 {α : Type} (f : α → List Ent) (a b : α) : popL f [a, b] = [b] := sd0 f _ (by simp)
end Go.Proofs.Ytacdhkkelkplnaa
end
