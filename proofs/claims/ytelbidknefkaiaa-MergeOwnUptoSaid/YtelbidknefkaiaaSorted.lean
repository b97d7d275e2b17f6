/-
usanceref10.Sorted: the same entries, in order.
-/
import Derived.Test.YtelbidknefkaiaaMerge0
import Derived.Test.YtelbidknefkaiaaMergeQ
import Derived.Test.YtelbidknefkaiaaThin2
namespace Go.Proofs.Ytelbidknefkaiaa
open Go.RowKit Go.BigFrame
attribute [local go_sem ↓] Go.wp_at_zero Go.wp_at_succ

def leB (a b : Ent) : Bool := decide (cmpE a b ≤ 0)
abbrev upTo (a b : Ent) : Prop := cmpE a b ≤ 0
theorem leB_t {a b : Ent} (h : cmpE a b ≤ 0) : leB a b = true := decide_eq_true h
theorem leB_f {a b : Ent} (h : ¬ cmpE a b ≤ 0) : ¬ leB a b = true := fun h' => h (of_decide_eq_true h')
theorem merge_sorted {a b : List Ent} (ha : a.Pairwise upTo) (hb : b.Pairwise upTo) : (List.merge a b leB).Pairwise upTo := by
  have tr : ∀ x y z : Ent, leB x y = true → leB y z = true → leB x z = true := fun x y z h1 h2 => leB_t (cmpE_le_trans (of_decide_eq_true h1) (of_decide_eq_true h2))
  have to : ∀ x y : Ent, (leB x y || leB y x) = true := fun x y => by
    have := cmpE_swap x y
    unfold leB
    simp only [Bool.or_eq_true, decide_eq_true_eq]
    omega
  have := List.pairwise_merge (le := leB) tr to (l₁ := a) (l₂ := b) (ha.imp fun h => leB_t h) (hb.imp fun h => leB_t h)
  exact this.imp fun h => of_decide_eq_true h
theorem Ents.tail' {w : World} {S : Nat → Prop} {b o c n : Nat} {e : Ent} {l : List Ent} (h : Ents w S (.slice (some ⟨b, o, none⟩) n c) (e :: l)) : (c = 1 → l = []) ∧ Ents w S (.slice (some ⟨b, o + 4, none⟩) l.length (c - 1)) l := by
  obtain ⟨h1, h2, h3, _⟩ := h.head'
  refine ⟨fun hc => List.eq_nil_of_length_eq_zero (by omega), ?_⟩
  by_cases hl : l = []
  · subst hl
    exact ⟨_, _, [], rfl, by simp, by omega, by simp, Row.nil _ _ _ _, trivial⟩
  · exact h.tail hl
theorem Ents.none_at {w : World} {S : Nat → Prop} {A : Option Addr} {c : Nat} (hc : c ≤ 9223372036854775807) : Ents w S (.slice A 0 c) [] := ⟨_, _, [], rfl, by simp, hc, by simp, Row.nil _ _ _ _, trivial⟩

set_option maxRecDepth 100000 in
set_option maxHeartbeats 4000000 in
theorem sorted_any (n : Nat) : ∀ (S : Nat → Prop) (v : Value) (es : List Ent) (w : World), es.length = n → Ents w S v es →
    Calls Try.prog 21 #[v] w fun r w' => ∃ v' rs, r = .returned v' ∧ Ents w' (fun _ => True) v' rs ∧ rs.Perm es ∧ rs.Pairwise upTo ∧ Below w.heap.size w w' := by
  induction n using Nat.strongRecOn with
  | ind n ih =>
    intro S v es w hn hv
    have IH := Lib.hid ih
    have HN := Lib.hid hn
    have HV := Lib.hid hv
    obtain ⟨A, c, rfl⟩ := ents_form hv
    obtain ⟨hc1, hc2, hb64⟩ : n ≤ c ∧ c ≤ 9223372036854775807 ∧ n * 64 ≤ 140737488355328 := by
      obtain ⟨_, _, _, he, h1, h2, h3, _⟩ := hv
      injection he with _ _ e3
      subst e3
      rw [hn] at h1 h3
      exact ⟨h1, h2, h3⟩
    rw [hn]
    clear ih hv
    by_cases h2 : n < 2
    · clear hn
      go_enter Try.func21, Try.ntmps21
      go_wp2
      refine bodyPost_ret (v := .slice A n c) (by simp [results, Try.results21, go_sem]) rfl ?_
      refine ⟨_, es, rfl, ?_, List.Perm.refl _, ?_, Below.refl _ _⟩
      · have := HV.out.mono (S' := fun _ => True) (fun _ _ => trivial)
        rwa [HN.out] at this
      · have := HN.out
        match es, this with
        | [], _ => exact List.Pairwise.nil
        | [a], _ => simp
        | a :: b :: l, h => simp at h; omega
    · have hlo := HV.out.take1 (n / 2) (by rw [hn]; omega)
      have hhi : Ents w S (.slice ((A.map fun a => ⟨a.block, a.off + n / 2 * 4, none⟩)) (n - n / 2) (c - n / 2)) (es.drop (n / 2)) := by
        obtain ⟨A', c', cs, he, h1, h2', h3, h4, h5⟩ := HV.out
        injection he with e1 e2 e3
        subst e1 e3
        have hl : (es.drop (n / 2)).length = n - n / 2 := by simp [hn]
        have hcl := h5.len
        refine ⟨_, _, cs.drop (n / 2 * 4), by rw [hl], by omega, by omega, by omega, ?_, h5.drop _⟩
        rw [hl]
        refine ⟨by simp; omega, fun _ => ?_⟩
        obtain ⟨b, o, hb, hS, hlt, hc⟩ := h4.2 (by omega)
        subst hb
        refine ⟨b, o + n / 2 * 4, rfl, hS, hlt, fun j u hu => ?_⟩
        rw [List.getElem?_drop] at hu
        have := hc _ u hu
        rwa [show o + (n / 2 * 4 + j) = o + n / 2 * 4 + j from by omega] at this
      obtain ⟨b, o, rfl⟩ : ∃ b o, A = some ⟨b, o, none⟩ := by
        obtain ⟨A', c', cs, he, h1, h2', h3, h4, h5⟩ := HV.out
        injection he with e1 e2 e3
        subst e1
        obtain ⟨b, o, hb, _⟩ := h4.2 (by omega)
        exact ⟨b, o, hb⟩
      have HLO := Lib.hid hlo
      have HHI := Lib.hid hhi
      clear hlo hhi hn
      go_enter Try.func21, Try.ntmps21
      go_wp2_with fail
      refine (IH.out (n / 2) (by omega) S _ _ w (by rw [List.length_take, HN.out]; omega) HLO.out).mono ?_
      rintro r w1 ⟨v3, ra, rfl, hea, hpa, hsa, hb1⟩
      have HEA := Lib.hid hea
      have HPA := Lib.hid hpa
      have HSA := Lib.hid hsa
      have HB1 := Lib.hid hb1
      have HHI1 : Hid (Ents w1 S (.slice (some ⟨b, o + n / 2 * 4, none⟩) (n - n / 2) (c - n / 2)) (es.drop (n / 2))) := Lib.hid (HHI.out.below hb1)
      clear hea hpa hsa hb1
      go_wp2_with fail
      refine (IH.out (n - n / 2) (by omega) S _ _ w1 (by rw [List.length_drop, HN.out]) HHI1.out).mono ?_
      rintro r w2 ⟨v4, rb, rfl, heb, hpb, hsb, hb2⟩
      have hlen : ra.length + rb.length = n := by
        rw [HPA.out.length_eq, hpb.length_eq, List.length_take, List.length_drop, HN.out]; omega
      have HPERM : Hid ((List.merge ra rb leB).Perm es) := Lib.hid (by
        refine (List.merge_perm_append leB).trans ?_
        have := HPA.out.append hpb
        rwa [List.take_append_drop] at this)
      have HSORT := Lib.hid (merge_sorted HSA.out hsb)
      have HEA2 := Lib.hid (HEA.out.below hb2).lt
      have HEB2 := Lib.hid heb.lt
      have HB2 := Lib.hid (HB1.out.trans (hb2.mono HB1.out.size))
      have HLEN := Lib.hid hlen
      clear HEA HPA HSA HB1 HHI1 heb hpb hsb hb2 hlen HLO HHI HV IH HN
      obtain ⟨S0, hS0⟩ : ∃ S0 : Nat → Prop, S0 = fun i => i < w2.heap.size := ⟨_, rfl⟩
      rw [← hS0] at HEA2 HEB2
      have HS0 := Lib.hid hS0
      clear hS0
      obtain ⟨i0, hi, hz0, hz1, hz2⟩ := info_parts info26
      have hby := Lib.hid hz2
      have hz1' := Lib.hid hz1
      clear hz2 hz1
      obtain ⟨R, hR⟩ : ∃ R, List.merge ra rb leB = R := ⟨_, rfl⟩
      rw [hR] at HPERM HSORT
      have HRR := Lib.hid hR
      clear hR
      go_wp2
      go_loopw [3, 4, 5] (fun v3 v4 v5 wr => ∃ (la lb os : List Ent) (ys : List Value), Ents wr S0 v3 la ∧ Ents wr S0 v4 lb ∧ wr.ownsRow w2.heap.size 26 4 v5 os.length ys ∧ EntCells wr S0 ys os ∧ R = os ++ List.merge la lb leB ∧ os.length + la.length + lb.length = n ∧ Below w2.heap.size w2 wr) (fun v3 v4 _ _ => sliceLen v3 + sliceLen v4)
      case atStart => exact ⟨ra, rb, [], [], HEA2.out, HEB2.out, World.ownsRow_nil _ _ _ _, trivial, by rw [HRR.out]; rfl, by have := HLEN.out; simp; omega, Below.refl _ _⟩
      case round =>
        clear HEA2 HEB2 HRR HLEN
        obtain ⟨la, lb, os, ys, hea, heb, hown, hys, hR, hlen, hbel⟩ := hrel
        have HO := Lib.hid hown
        have HYS := Lib.hid hys
        have HR := Lib.hid hR
        have HB := Lib.hid hbel
        have HLN := Lib.hid hlen
        have hol : os.length ≤ n := by omega
        obtain ⟨A3, c3, rfl⟩ := ents_form hea
        obtain ⟨A4, c4, rfl⟩ := ents_form heb
        obtain ⟨A5, c5, rfl⟩ := own_form hown
        have HEA := Lib.hid hea
        have HEB := Lib.hid heb
        clear hown hys hR hlen hbel hea heb
        rcases la with _ | ⟨x, la⟩
        · rcases lb with _ | ⟨y, lb⟩
          · go_wp2
            refine bodyPost_ret (v := .slice A5 os.length c5) (by simp [results, Try.results21, go_sem]) rfl ?_
            have e1 : R = os := by rw [HR.out]; simp
            refine ⟨_, os, rfl, ?_, e1 ▸ HPERM.out, e1 ▸ HSORT.out, HB2.out.trans (HB.out.mono HB2.out.size)⟩
            exact Ents.of_own HO.out (HYS.out.mono fun i hi => trivial) (fun i hi _ => trivial) (by omega)
          · obtain ⟨b1, o1, cg, kk, uu, hE, x0, x1, x2, x3, z1, z2⟩ := HEB.out.head
            cases hE
            obtain ⟨_, hcap, hcap2, _⟩ := HEB.out.head'
            obtain ⟨ht1, ht2⟩ := HEB.out.tail'
            have HT1 := Lib.hid ht1
            have HT2 := Lib.hid ht2
            obtain ⟨Ak, ck, rfl⟩ := slice_form z1
            obtain ⟨Au, cu, rfl⟩ := slice_form z2
            have F0 : ∀ q : Ext wr, q.w.cell? { block := b1, off := o1 } = _ := fun q => q.h.cell x0
            have F1 : ∀ q : Ext wr, q.w.cell? { block := b1, off := o1 + 1 } = _ := fun q => q.h.cell x1
            have F2 : ∀ q : Ext wr, q.w.cell? { block := b1, off := o1 + 2 } = _ := fun q => q.h.cell x2
            have F3 : ∀ q : Ext wr, q.w.cell? { block := b1, off := o1 + 3 } = _ := fun q => q.h.cell x3
            have X0 := Lib.hid x0
            have X1 := Lib.hid x1
            have X2 := Lib.hid x2
            have X3 := Lib.hid x3
            have Z1 := Lib.hid z1
            have Z2 := Lib.hid z2
            clear x0 x1 x2 x3 z1 z2 ht1 ht2
            have hol1 : os.length + 1 ≤ n := by have := HLN.out; simp at this; omega
            clear hol
            go_wp2
            have hlb0 : ((lb.length : Int) + 1 == 0) = false := by rw [beq_eq_false_iff_ne]; omega
            (refine wp_region_quiet_ext (by kernel_rfl) (by kernel_rfl) ?_; (repeat (go_big_quiet_step (fail))); refine wpQuiet_nil ?_; intro wq hw'; obtain ⟨⟨_, hq⟩, hw''⟩ := hw'; subst hw'')
            have HB1 := Lib.hid (show Below wr.heap.size wr wq from hq)
            have C0 := hq.cell X0.out
            have C1 := hq.cell X1.out
            have C2 := hq.cell X2.out
            have C3 := hq.cell X3.out
            clear hq F0 F1 F2 F3
            by_cases hc1' : c4 = 1
            all_goals
              go_wp2_with (at_builtin; refine wpList_append_own_at _ rfl _ _ 22 rfl w2.heap.size 26 i0 _ 4 64 Try.underlying22 hi hz0 hz1'.out hby.out rfl (by decide) _ _ _ rfl ((own_below HO.out HB1.out).alloc _) ⟨wq.heap.size, 0, none⟩ 1 1 [.slice Ak y.key.length ck, .int .i64 y.seq, .bool y.dead, .slice Au y.val.length cu] rfl rfl (cell_four_new _ _ _ _ _ _) (by simp [Value.oneCell']) (by unfold maxLen; omega) (by omega) (by have := HB.out.size; have := HB1.out.size; simp; omega) ?_; intro v' w5 hown' hgrow hnn hat; clear hnn)
              have hnS : ∀ g, (Value.slice A5 os.length c5).ownBlock = some g → ¬ S0 g := fun g hg hs => by have := (HO.out.lt g hg).1; rw [HS0.out] at hs; omega
              have hX := HT2.out.thru HB1.out hgrow hnS
              have hY := HEA.out.thru HB1.out hgrow hnS
              obtain ⟨A8, c8, rfl⟩ := own_form hown'
              refine ⟨⟨[], lb, os ++ [y], _, hY, ?_, (by rw [List.length_append]; exact hown'), EntCells.pushOld (e := y) (d := y.dead) rfl HO.out HYS.out HB1.out Z1.out Z2.out (fun i hs => by rw [HS0.out] at hs; exact hs) hgrow hat, ?_, ?_, ((HB.out.trans (HB1.out.mono HB.out.size)).alloc (by have := HB.out.size; have := HB1.out.size; omega) _).grown hgrow (by have := HB.out.size; have := HB1.out.size; simp; omega) (fun j e => (HO.out.lt j e).1)⟩, ?_⟩
              · first | exact hX | (have e1 := HT1.out (by omega); subst e1; exact Ents.none_at (by omega))
              · rw [HR.out]; simp
              · have := HLN.out; simp at this ⊢; omega
              · simp [sliceLen]
        · rcases lb with _ | ⟨y, lb⟩
          · obtain ⟨b1, o1, cg, kk, uu, hE, x0, x1, x2, x3, z1, z2⟩ := HEA.out.head
            cases hE
            obtain ⟨_, hcap, hcap2, _⟩ := HEA.out.head'
            obtain ⟨ht1, ht2⟩ := HEA.out.tail'
            have HT1 := Lib.hid ht1
            have HT2 := Lib.hid ht2
            obtain ⟨Ak, ck, rfl⟩ := slice_form z1
            obtain ⟨Au, cu, rfl⟩ := slice_form z2
            have F0 : ∀ q : Ext wr, q.w.cell? { block := b1, off := o1 } = _ := fun q => q.h.cell x0
            have F1 : ∀ q : Ext wr, q.w.cell? { block := b1, off := o1 + 1 } = _ := fun q => q.h.cell x1
            have F2 : ∀ q : Ext wr, q.w.cell? { block := b1, off := o1 + 2 } = _ := fun q => q.h.cell x2
            have F3 : ∀ q : Ext wr, q.w.cell? { block := b1, off := o1 + 3 } = _ := fun q => q.h.cell x3
            have X0 := Lib.hid x0
            have X1 := Lib.hid x1
            have X2 := Lib.hid x2
            have X3 := Lib.hid x3
            have Z1 := Lib.hid z1
            have Z2 := Lib.hid z2
            clear x0 x1 x2 x3 z1 z2 ht1 ht2
            have hol1 : os.length + 1 ≤ n := by have := HLN.out; simp at this; omega
            clear hol
            go_wp2
            (refine wp_region_quiet_ext (by kernel_rfl) (by kernel_rfl) ?_; (repeat (go_big_quiet_step (fail))); refine wpQuiet_nil ?_; intro wq hw'; obtain ⟨⟨_, hq⟩, hw''⟩ := hw'; subst hw'')
            have HB1 := Lib.hid (show Below wr.heap.size wr wq from hq)
            have C0 := hq.cell X0.out
            have C1 := hq.cell X1.out
            have C2 := hq.cell X2.out
            have C3 := hq.cell X3.out
            clear hq F0 F1 F2 F3
            by_cases hc1' : c3 = 1
            all_goals
              go_wp2_with (at_builtin; refine wpList_append_own_at _ rfl _ _ 22 rfl w2.heap.size 26 i0 _ 4 64 Try.underlying22 hi hz0 hz1'.out hby.out rfl (by decide) _ _ _ rfl ((own_below HO.out HB1.out).alloc _) ⟨wq.heap.size, 0, none⟩ 1 1 [.slice Ak x.key.length ck, .int .i64 x.seq, .bool x.dead, .slice Au x.val.length cu] rfl rfl (cell_four_new _ _ _ _ _ _) (by simp [Value.oneCell']) (by unfold maxLen; omega) (by omega) (by have := HB.out.size; have := HB1.out.size; simp; omega) ?_; intro v' w5 hown' hgrow hnn hat; clear hnn)
              have hnS : ∀ g, (Value.slice A5 os.length c5).ownBlock = some g → ¬ S0 g := fun g hg hs => by have := (HO.out.lt g hg).1; rw [HS0.out] at hs; omega
              have hX := HT2.out.thru HB1.out hgrow hnS
              have hY := HEB.out.thru HB1.out hgrow hnS
              obtain ⟨A8, c8, rfl⟩ := own_form hown'
              refine ⟨⟨la, [], os ++ [x], _, ?_, hY, (by rw [List.length_append]; exact hown'), EntCells.pushOld (e := x) (d := x.dead) rfl HO.out HYS.out HB1.out Z1.out Z2.out (fun i hs => by rw [HS0.out] at hs; exact hs) hgrow hat, ?_, ?_, ((HB.out.trans (HB1.out.mono HB.out.size)).alloc (by have := HB.out.size; have := HB1.out.size; omega) _).grown hgrow (by have := HB.out.size; have := HB1.out.size; simp; omega) (fun j e => (HO.out.lt j e).1)⟩, ?_⟩
              · first | exact hX | (have e1 := HT1.out (by omega); subst e1; exact Ents.none_at (by omega))
              · rw [HR.out]; simp
              · have := HLN.out; simp at this ⊢; omega
              · simp [sliceLen]
          · by_cases hle : cmpE x y ≤ 0
            · obtain ⟨b1, o1, cg, kk, uu, hE, x0, x1, x2, x3, z1, z2⟩ := HEA.out.head
              cases hE
              obtain ⟨_, hcap, hcap2, _⟩ := HEA.out.head'
              obtain ⟨ht1, ht2⟩ := HEA.out.tail'
              have HT1 := Lib.hid ht1
              have HT2 := Lib.hid ht2
              obtain ⟨Ak, ck, rfl⟩ := slice_form z1
              obtain ⟨Au, cu, rfl⟩ := slice_form z2
              obtain ⟨b2, o2, cg2, kk2, uu2, hE2, y0, y1, y2, y3, z3, z4⟩ := HEB.out.head
              cases hE2
              have CC : ∀ q : Ext wr, Calls Try.prog 41 #[.agg #[.slice Ak x.key.length ck, .int .i64 x.seq, .bool x.dead, .slice Au x.val.length cu], .agg #[kk2, .int .i64 y.seq, .bool y.dead, uu2]] q.w fun r w'' => r = .returned (.int .i64 (cmpE x y)) ∧ ∃ q' : Ext wr, w'' = q'.w := fun q => Ext.calls (rcmp_any S0 S0 _ _ x y _ (q.h.ent ⟨_, _, rfl, z1, z2⟩) (q.h.ent ⟨_, _, rfl, z3, z4⟩))
              have G0 : ∀ q : Ext wr, q.w.cell? { block := b2, off := o2 } = _ := fun q => q.h.cell y0
              have G1 : ∀ q : Ext wr, q.w.cell? { block := b2, off := o2 + 1 } = _ := fun q => q.h.cell y1
              have G2 : ∀ q : Ext wr, q.w.cell? { block := b2, off := o2 + 2 } = _ := fun q => q.h.cell y2
              have G3 : ∀ q : Ext wr, q.w.cell? { block := b2, off := o2 + 3 } = _ := fun q => q.h.cell y3
              have F0 : ∀ q : Ext wr, q.w.cell? { block := b1, off := o1 } = _ := fun q => q.h.cell x0
              have F1 : ∀ q : Ext wr, q.w.cell? { block := b1, off := o1 + 1 } = _ := fun q => q.h.cell x1
              have F2 : ∀ q : Ext wr, q.w.cell? { block := b1, off := o1 + 2 } = _ := fun q => q.h.cell x2
              have F3 : ∀ q : Ext wr, q.w.cell? { block := b1, off := o1 + 3 } = _ := fun q => q.h.cell x3
              have X0 := Lib.hid x0
              have X1 := Lib.hid x1
              have X2 := Lib.hid x2
              have X3 := Lib.hid x3
              have Z1 := Lib.hid z1
              have Z2 := Lib.hid z2
              clear x0 x1 x2 x3 z1 z2 ht1 ht2 y0 y1 y2 y3 z3 z4
              have hol1 : os.length + 1 ≤ n := by have := HLN.out; simp at this; omega
              clear hol
              go_wp2
              have hlb0 : ((lb.length : Int) + 1 == 0) = false := by rw [beq_eq_false_iff_ne]; omega
              (refine wp_region_quiet_ext (by kernel_rfl) (by kernel_rfl) ?_; (repeat (go_big_quiet_step (((go_at_call 41; exact CC _))))); refine wpQuiet_nil ?_; intro wq hw'; obtain ⟨⟨_, hq⟩, hw''⟩ := hw'; subst hw'')
              have HB1 := Lib.hid (show Below wr.heap.size wr wq from hq)
              have C0 := hq.cell X0.out
              have C1 := hq.cell X1.out
              have C2 := hq.cell X2.out
              have C3 := hq.cell X3.out
              clear hq F0 F1 F2 F3 G0 G1 G2 G3 CC
              by_cases hc1' : c3 = 1
              all_goals
                go_wp2_with (at_builtin; refine wpList_append_own_at _ rfl _ _ 22 rfl w2.heap.size 26 i0 _ 4 64 Try.underlying22 hi hz0 hz1'.out hby.out rfl (by decide) _ _ _ rfl ((own_below HO.out HB1.out).alloc _) ⟨wq.heap.size, 0, none⟩ 1 1 [.slice Ak x.key.length ck, .int .i64 x.seq, .bool x.dead, .slice Au x.val.length cu] rfl rfl (cell_four_new _ _ _ _ _ _) (by simp [Value.oneCell']) (by unfold maxLen; omega) (by omega) (by have := HB.out.size; have := HB1.out.size; simp; omega) ?_; intro v' w5 hown' hgrow hnn hat; clear hnn)
                have hnS : ∀ g, (Value.slice A5 os.length c5).ownBlock = some g → ¬ S0 g := fun g hg hs => by have := (HO.out.lt g hg).1; rw [HS0.out] at hs; omega
                have hX := HT2.out.thru HB1.out hgrow hnS
                have hY := HEB.out.thru HB1.out hgrow hnS
                obtain ⟨A8, c8, rfl⟩ := own_form hown'
                refine ⟨⟨la, y :: lb, os ++ [x], _, ?_, hY, (by rw [List.length_append]; exact hown'), EntCells.pushOld (e := x) (d := x.dead) rfl HO.out HYS.out HB1.out Z1.out Z2.out (fun i hs => by rw [HS0.out] at hs; exact hs) hgrow hat, ?_, ?_, ((HB.out.trans (HB1.out.mono HB.out.size)).alloc (by have := HB.out.size; have := HB1.out.size; omega) _).grown hgrow (by have := HB.out.size; have := HB1.out.size; simp; omega) (fun j e => (HO.out.lt j e).1)⟩, ?_⟩
                · first | exact hX | (have e1 := HT1.out (by omega); subst e1; exact Ents.none_at (by omega))
                · rw [HR.out, List.cons_merge_cons, if_pos (leB_t hle), List.append_assoc]; rfl
                · have := HLN.out; simp at this ⊢; omega
                · simp [sliceLen]
            · obtain ⟨b1, o1, cg, kk, uu, hE, x0, x1, x2, x3, z1, z2⟩ := HEB.out.head
              cases hE
              obtain ⟨_, hcap, hcap2, _⟩ := HEB.out.head'
              obtain ⟨ht1, ht2⟩ := HEB.out.tail'
              have HT1 := Lib.hid ht1
              have HT2 := Lib.hid ht2
              obtain ⟨Ak, ck, rfl⟩ := slice_form z1
              obtain ⟨Au, cu, rfl⟩ := slice_form z2
              obtain ⟨b2, o2, cg2, kk2, uu2, hE2, y0, y1, y2, y3, z3, z4⟩ := HEA.out.head
              cases hE2
              have CC : ∀ q : Ext wr, Calls Try.prog 41 #[.agg #[kk2, .int .i64 x.seq, .bool x.dead, uu2], .agg #[.slice Ak y.key.length ck, .int .i64 y.seq, .bool y.dead, .slice Au y.val.length cu]] q.w fun r w'' => r = .returned (.int .i64 (cmpE x y)) ∧ ∃ q' : Ext wr, w'' = q'.w := fun q => Ext.calls (rcmp_any S0 S0 _ _ x y _ (q.h.ent ⟨_, _, rfl, z3, z4⟩) (q.h.ent ⟨_, _, rfl, z1, z2⟩))
              have G0 : ∀ q : Ext wr, q.w.cell? { block := b2, off := o2 } = _ := fun q => q.h.cell y0
              have G1 : ∀ q : Ext wr, q.w.cell? { block := b2, off := o2 + 1 } = _ := fun q => q.h.cell y1
              have G2 : ∀ q : Ext wr, q.w.cell? { block := b2, off := o2 + 2 } = _ := fun q => q.h.cell y2
              have G3 : ∀ q : Ext wr, q.w.cell? { block := b2, off := o2 + 3 } = _ := fun q => q.h.cell y3
              have F0 : ∀ q : Ext wr, q.w.cell? { block := b1, off := o1 } = _ := fun q => q.h.cell x0
              have F1 : ∀ q : Ext wr, q.w.cell? { block := b1, off := o1 + 1 } = _ := fun q => q.h.cell x1
              have F2 : ∀ q : Ext wr, q.w.cell? { block := b1, off := o1 + 2 } = _ := fun q => q.h.cell x2
              have F3 : ∀ q : Ext wr, q.w.cell? { block := b1, off := o1 + 3 } = _ := fun q => q.h.cell x3
              have X0 := Lib.hid x0
              have X1 := Lib.hid x1
              have X2 := Lib.hid x2
              have X3 := Lib.hid x3
              have Z1 := Lib.hid z1
              have Z2 := Lib.hid z2
              clear x0 x1 x2 x3 z1 z2 ht1 ht2 y0 y1 y2 y3 z3 z4
              have hol1 : os.length + 1 ≤ n := by have := HLN.out; simp at this; omega
              clear hol
              go_wp2
              have hlb0 : ((lb.length : Int) + 1 == 0) = false := by rw [beq_eq_false_iff_ne]; omega
              (refine wp_region_quiet_ext (by kernel_rfl) (by kernel_rfl) ?_; (repeat (go_big_quiet_step (((go_at_call 41; exact CC _))))); refine wpQuiet_nil ?_; intro wq hw'; obtain ⟨⟨_, hq⟩, hw''⟩ := hw'; subst hw'')
              have HB1 := Lib.hid (show Below wr.heap.size wr wq from hq)
              have C0 := hq.cell X0.out
              have C1 := hq.cell X1.out
              have C2 := hq.cell X2.out
              have C3 := hq.cell X3.out
              clear hq F0 F1 F2 F3 G0 G1 G2 G3 CC
              by_cases hc1' : c4 = 1
              all_goals
                go_wp2_with (at_builtin; refine wpList_append_own_at _ rfl _ _ 22 rfl w2.heap.size 26 i0 _ 4 64 Try.underlying22 hi hz0 hz1'.out hby.out rfl (by decide) _ _ _ rfl ((own_below HO.out HB1.out).alloc _) ⟨wq.heap.size, 0, none⟩ 1 1 [.slice Ak y.key.length ck, .int .i64 y.seq, .bool y.dead, .slice Au y.val.length cu] rfl rfl (cell_four_new _ _ _ _ _ _) (by simp [Value.oneCell']) (by unfold maxLen; omega) (by omega) (by have := HB.out.size; have := HB1.out.size; simp; omega) ?_; intro v' w5 hown' hgrow hnn hat; clear hnn)
                have hnS : ∀ g, (Value.slice A5 os.length c5).ownBlock = some g → ¬ S0 g := fun g hg hs => by have := (HO.out.lt g hg).1; rw [HS0.out] at hs; omega
                have hX := HT2.out.thru HB1.out hgrow hnS
                have hY := HEA.out.thru HB1.out hgrow hnS
                obtain ⟨A8, c8, rfl⟩ := own_form hown'
                refine ⟨⟨x :: la, lb, os ++ [y], _, hY, ?_, (by rw [List.length_append]; exact hown'), EntCells.pushOld (e := y) (d := y.dead) rfl HO.out HYS.out HB1.out Z1.out Z2.out (fun i hs => by rw [HS0.out] at hs; exact hs) hgrow hat, ?_, ?_, ((HB.out.trans (HB1.out.mono HB.out.size)).alloc (by have := HB.out.size; have := HB1.out.size; omega) _).grown hgrow (by have := HB.out.size; have := HB1.out.size; simp; omega) (fun j e => (HO.out.lt j e).1)⟩, ?_⟩
                · first | exact hX | (have e1 := HT1.out (by omega); subst e1; exact Ents.none_at (by omega))
                · rw [HR.out, List.cons_merge_cons, if_neg (leB_f (show ¬ cmpE x y ≤ 0 by omega)), List.append_assoc]; rfl
                · have := HLN.out; simp at this ⊢; omega
                · simp [sliceLen]
end Go.Proofs.Ytelbidknefkaiaa
