/-
usanceref10.Merge; the two answers of merging are one.
-/
import Derived.Test.YtelbidknefkaiaaLists
import Derived.Test.YtelbidknefkaiaaSorted
import Derived.Test.YtelbidknefkaiaaOrd2
namespace Go.Proofs.Ytelbidknefkaiaa
open Go.RowKit Go.BigFrame
attribute [local go_sem ↓] Go.wp_at_zero Go.wp_at_succ

/-- no two neighbours are alike. -/
def NoAdj (s : List Ent) : Prop := ∀ (j : Nat) (a b : Ent), s[j]? = some a → s[j + 1]? = some b → cmpE a b ≠ 0
def RefMerge (ls : List (List Ent)) (rs : List Ent) (n : Int) : Prop :=
  (ls.all orderedE = false ∧ n = 30 ∧ rs = []) ∨ (ls.all orderedE = true ∧ ∃ s : List Ent, s.Perm ls.flatten ∧ s.Pairwise upTo ∧ ((n = 0 ∧ rs = s ∧ NoAdj s) ∨ (n = 31 ∧ rs = [] ∧ ¬ NoAdj s)))
theorem noAdj_before : ∀ {s : List Ent}, s.Pairwise upTo → NoAdj s → s.Pairwise before
  | [], _, _ => List.Pairwise.nil
  | a :: s, hp, hn => by
    have h1 := (List.pairwise_cons.1 hp).1
    have h2 := noAdj_before (List.pairwise_cons.1 hp).2 (fun j x y hx hy => hn (j + 1) x y (by simpa using hx) (by simpa using hy))
    refine List.pairwise_cons.2 ⟨fun x hx => ?_, h2⟩
    cases s with
    | nil => simp at hx
    | cons b s =>
      have hab : cmpE a b < 0 := by
        have e1 : cmpE a b ≤ 0 := h1 b (by simp)
        have e2 := hn 0 a b rfl rfl
        omega
      rcases List.mem_cons.1 hx with rfl | hx
      · exact hab
      · exact cmpE_trans hab ((List.pairwise_cons.1 h2).1 x hx)
theorem noTwice_noAdj {s : List Ent} (h : NoTwice s) : NoAdj s := by
  intro j a b ha hb
  obtain ⟨hj, e1⟩ := List.getElem?_eq_some_iff.1 ha
  obtain ⟨hj', e2⟩ := List.getElem?_eq_some_iff.1 hb
  have := List.pairwise_iff_getElem.1 h j (j + 1) hj hj' (by omega)
  rwa [e1, e2] at this
theorem merge_law {ls : List (List Ent)} {rs : List Ent} {n : Int} (h : RefMerge ls rs n) : mergeC ls = (rs, n) := by
  rcases h with ⟨h, rfl, rfl⟩ | ⟨h, s, hp, hs, h1⟩
  · unfold mergeC; rw [h]; rfl
  · rcases mergeC_spec ls h with ⟨r, e, hr1, hr2⟩ | ⟨e, hnt⟩
    · have hrs : r.Perm s := hr1.trans hp.symm
      rcases h1 with ⟨rfl, rfl, hna⟩ | ⟨rfl, rfl, hna⟩
      · rw [e, before_eq hrs hr2 (noAdj_before hs hna)]
      · exact absurd (noTwice_noAdj ((noTwice_perm hrs).1 (before_noTwice hr2))) hna
    · rcases h1 with ⟨rfl, rfl, hna⟩ | ⟨rfl, rfl, hna⟩
      · exact absurd ((noTwice_perm hp).1 (before_noTwice (noAdj_before hs hna))) hnt
      · exact e
theorem total_take {ls : List (List Ent)} {k : Nat} {l : List Ent} (h : ls[k]? = some l) : total (ls.take k) + l.length ≤ total ls ∧ (ls.take (k + 1)).flatten = (ls.take k).flatten ++ l := by
  have e1 := take_snoc h
  have e2 : (ls.take (k + 1)).flatten = (ls.take k).flatten ++ l := by rw [e1]; simp
  refine ⟨?_, e2⟩
  have e3 : ls.flatten = (ls.take (k + 1)).flatten ++ (ls.drop (k + 1)).flatten := by rw [← List.flatten_append, List.take_append_drop]
  unfold total
  rw [e3, e2]
  simp

set_option maxRecDepth 100000 in
set_option maxHeartbeats 4000000 in
theorem rmerge_any (S : Nat → Prop) (v : Value) (ls : List (List Ent)) (w : World) (hv : Lists w S v ls) (hN : total ls * 64 ≤ 140737488355328) :
    Calls Try.prog 25 #[v] w fun r w' => ∃ v' rs n, r = .returned (.tuple #[v', .int .i64 n]) ∧ RefMerge ls rs n ∧ Ents w' (fun _ => True) v' rs ∧ Below w.heap.size w w' := by
  obtain ⟨A, c, vs, rfl, hc, hcm, hl, hr, he⟩ := hv
  obtain ⟨n, hn⟩ : ∃ n, ls.length = n := ⟨_, rfl⟩
  rw [hn] at hr hl hc ⊢
  have HN := Lib.hid hn
  have HE := Lib.hid he
  have HR := Lib.hid hr
  obtain ⟨S0, hS0⟩ : ∃ S0 : Nat → Prop, S0 = fun i => i < w.heap.size := ⟨_, rfl⟩
  have HS0 := Lib.hid hS0
  clear hn he hr hS0
  go_enter Try.func25, Try.ntmps25
  go_wp2
  go_loopw [4, 9] (fun v4 t wr => ∃ (k : Nat) (ys : List Value), k ≤ n ∧ t = .int .i64 k ∧ wr.ownsRow w.heap.size 26 4 v4 (ls.take k).flatten.length ys ∧ EntCells wr S0 ys (ls.take k).flatten ∧ (ls.take k).all orderedE = true ∧ Below w.heap.size w wr) (fun _ t _ => n - (intOf t).toNat)
  case atStart => exact ⟨0, [], Nat.zero_le _, rfl, World.ownsRow_nil _ _ _ _, trivial, rfl, Below.refl _ _⟩
  case round =>
    obtain ⟨k, ys, hk, rfl, hown, hys, hall, hbel⟩ := hrel
    have HO := Lib.hid hown
    have HYS := Lib.hid hys
    have HALL := Lib.hid hall
    have HB := Lib.hid hbel
    clear hown hys hall hbel
    by_cases hkn : k < n
    · obtain ⟨l, hlk⟩ : ∃ l, ls[k]? = some l := ⟨_, List.getElem?_eq_getElem (by rw [HN.out]; exact hkn)⟩
      obtain ⟨x, hx, hxe⟩ := HE.out k l hlk
      obtain ⟨b, o, u, rfl, _, _, hu, hcell⟩ := (HR.out.below HB.out).at_ hkn
      obtain rfl : u = x := by rw [hx] at hu; injection hu with hu; exact hu.symm
      replace hxe := hxe.lt
      rw [← HS0.out] at hxe
      have HX := Lib.hid (hxe.below HB.out)
      have HLK := Lib.hid hlk
      have HORD := Lib.hid (rordered_any _ _ l wr HX.out)
      have HCELL := Lib.hid hcell
      clear hx hxe hu hlk
      rcases ho : orderedE l with _ | _
      · rw [ho] at HORD
        have HF := Lib.hid (all_false_at HLK.out ho)
        clear ho
        go_wp2_with (go_at_call 31; refine HORD.out.mono ?_; rintro r w1 ⟨rfl, hb1⟩)
        refine bodyPost_ret (v := .tuple #[_, _]) (by simp [results, Try.results25, go_sem]; exact ⟨rfl, rfl⟩) rfl ?_
        exact ⟨_, [], 30, rfl, .inl ⟨HF.out, rfl, rfl⟩, Ents.nil _ _, HB.out.trans (hb1.mono HB.out.size)⟩
      · rw [ho] at HORD
        have HT := Lib.hid (all_take_snoc HLK.out HALL.out ho)
        clear ho
        have htt := (total_take HLK.out).1
        have HFL := Lib.hid (total_take HLK.out).2
        unfold total at htt
        obtain ⟨M, hM⟩ : ∃ M, total ls = M := ⟨_, rfl⟩
        have hN' := hN
        unfold total at hM hN'
        rw [hM] at htt hN'
        clear hM
        go_wp2_with (first
          | (go_at_call 31; refine HORD.out.mono ?_; rintro r w1 ⟨rfl, hb1⟩; have hcell1 := fr.cell (show fr wr w1 from hb1) HCELL.out)
          | (at_builtin; refine wpList_append_ents rfl _ _ rfl w.heap.size _ _ rfl rfl S0 _ _ l (own_below HO.out hb1) (HX.out.below hb1) (by omega) (by have := HB.out.size; have := hb1.size; omega) ?_; intro v' w2 cs hown' hcs hgrow hat))
        have hB := HB.out.size
        have hB1 := hb1.size
        have hno : ∀ i, i < w1.heap.size → S0 i → ¬ (fun i => (_ : Value).ownBlock = some i) i := fun i _ hs e => by
          have h1 := (HO.out.lt i e).1
          rw [HS0.out] at hs
          omega
        refine ⟨⟨k + 1, _, by omega, by go_num, (by rw [HFL.out, List.length_append]; exact hown'), ?_, HT.out, (HB.out.trans (hb1.mono HB.out.size)).grown hgrow (by omega) (fun j e => (HO.out.lt j e).1)⟩, by simp [intOf]; omega⟩
        rw [HFL.out]
        exact ((HYS.out.below hb1).append hcs).only (Only.of_grown hgrow) hno
    · obtain rfl : k = n := by omega
      have htk : ls.take k = ls := List.take_of_length_le (by rw [HN.out]; exact Nat.le_refl _)
      rw [htk] at HO HYS HALL
      obtain ⟨A4, c4, rfl⟩ := own_form HO.out
      have hev : Ents wr (fun _ => True) (.slice A4 ls.flatten.length c4) ls.flatten := Ents.of_own HO.out (HYS.out.mono fun i hi => trivial) (fun i hi _ => trivial) hN
      have HEV := Lib.hid hev
      obtain ⟨m, hm⟩ : ∃ m, ls.flatten.length = m := ⟨_, rfl⟩
      have HM := Lib.hid hm
      unfold total at hN
      rw [hm] at HEV HO hN ⊢
      clear hev htk hm
      go_wp2_with (go_at_call 21; refine (sorted_any m _ _ ls.flatten _ HM.out HEV.out).mono ?_; rintro r w1 ⟨v1, s, rfl, hes, hps, hss, hb1⟩; obtain ⟨A1, c1, rfl⟩ := ents_form hes)
      have HES := Lib.hid hes
      have HPS := Lib.hid hps
      have HSS := Lib.hid hss
      have HB1 := Lib.hid (HB.out.trans (hb1.mono HB.out.size))
      have hsl : s.length = m := by rw [hps.length_eq]; exact HM.out
      obtain ⟨A1', c1', cs, hE, hc1, hc2, hc3, hrow, hcel⟩ := hes
      injection hE with e1 e2 e3
      subst e1 e3
      have HROW := Lib.hid hrow
      have HCEL := Lib.hid hcel
      rw [hsl] at HROW hc1 hc3 ⊢
      have HSL := Lib.hid hsl
      clear hps hss hb1 hrow hcel hsl e2
      go_loopw [6] (fun t w' => ∃ k : Nat, 1 ≤ k ∧ t = .int .i64 k ∧ (k ≤ m ∨ k = 1) ∧ (∀ (j : Nat) (a b : Ent), j + 1 < k → s[j]? = some a → s[j + 1]? = some b → cmpE a b ≠ 0) ∧ Below w1.heap.size w1 w') (fun t _ => m - (intOf t).toNat)
      case atStart => exact ⟨1, by omega, rfl, .inr rfl, fun j a b hj => absurd hj (by omega), Below.refl _ _⟩
      case round =>
        obtain ⟨i, hi1, rfl, hi2, hno, hbel⟩ := hrel
        have HNO := Lib.hid hno
        have HBL := Lib.hid hbel
        clear hno hbel
        by_cases him : i < m
        · obtain ⟨a, ha⟩ : ∃ a, s[i - 1]? = some a := ⟨_, List.getElem?_eq_getElem (by rw [HSL.out]; omega)⟩
          obtain ⟨e, hee⟩ : ∃ e, s[i]? = some e := ⟨_, List.getElem?_eq_getElem (by rw [HSL.out]; omega)⟩
          obtain ⟨b1, o1, k1, u1, rfl, x0, x1, x2, x3, z1, z2, _, _⟩ := (HROW.out.below HBL.out).ent (HCEL.out.below HBL.out) HSL.out ha
          obtain ⟨b2, o2, k2, u2, hE, y0, y1, y2, y3, z3, z4, _, _⟩ := (HROW.out.below HBL.out).ent (HCEL.out.below HBL.out) HSL.out hee
          cases hE
          have F0 : ∀ q : Ext wr, q.w.cell? { block := b1, off := o1 + (i - 1) * 4 } = _ := fun q => q.h.cell x0
          have F1 : ∀ q : Ext wr, q.w.cell? { block := b1, off := o1 + (i - 1) * 4 + 1 } = _ := fun q => q.h.cell x1
          have F2 : ∀ q : Ext wr, q.w.cell? { block := b1, off := o1 + (i - 1) * 4 + 2 } = _ := fun q => q.h.cell x2
          have F3 : ∀ q : Ext wr, q.w.cell? { block := b1, off := o1 + (i - 1) * 4 + 3 } = _ := fun q => q.h.cell x3
          have G0 : ∀ q : Ext wr, q.w.cell? { block := b1, off := o1 + i * 4 } = _ := fun q => q.h.cell y0
          have G1 : ∀ q : Ext wr, q.w.cell? { block := b1, off := o1 + i * 4 + 1 } = _ := fun q => q.h.cell y1
          have G2 : ∀ q : Ext wr, q.w.cell? { block := b1, off := o1 + i * 4 + 2 } = _ := fun q => q.h.cell y2
          have G3 : ∀ q : Ext wr, q.w.cell? { block := b1, off := o1 + i * 4 + 3 } = _ := fun q => q.h.cell y3
          have CC : ∀ q : Ext wr, Calls Try.prog 41 #[.agg #[k1, .int .i64 a.seq, .bool a.dead, u1], .agg #[k2, .int .i64 e.seq, .bool e.dead, u2]] q.w fun r w'' => r = .returned (.int .i64 (cmpE a e)) ∧ ∃ q' : Ext wr, w'' = q'.w := fun q => Ext.calls (rcmp_any _ _ _ _ a e _ (q.h.ent ⟨_, _, rfl, z1, z2⟩) (q.h.ent ⟨_, _, rfl, z3, z4⟩))
          have HA := Lib.hid ha
          have HEE := Lib.hid hee
          clear ha hee x0 x1 x2 x3 y0 y1 y2 y3 z1 z2 z3 z4
          by_cases heq : cmpE a e = 0
          · have hdq : (cmpE a e == 0) = true := by simp [heq]
            have HEQ := Lib.hid heq
            clear heq
            go_wp2
            (refine wp_region_quiet_ext (by kernel_rfl) (by kernel_rfl) ?_; (repeat (go_big_quiet_step ((go_at_call 41; exact CC _)))); refine wpQuiet_nil ?_; intro wq hw'; obtain ⟨⟨_, hq⟩, hw''⟩ := hw'; subst hw'')
            go_wp2
            refine bodyPost_ret (v := .tuple #[_, _]) (by simp [results, Try.results25, go_sem]; exact ⟨rfl, rfl⟩) rfl ?_
            refine ⟨_, [], 31, rfl, .inr ⟨HALL.out, s, HPS.out, HSS.out, .inr ⟨rfl, rfl, fun h => ?_⟩⟩, Ents.nil _ _, HB1.out.trans ((HBL.out.trans (Below.mono hq HBL.out.size)).mono HB1.out.size)⟩
            exact h (i - 1) a e HA.out (by rw [Nat.sub_add_cancel hi1]; exact HEE.out) HEQ.out
          · have hdq : (cmpE a e == 0) = false := by simp [heq]
            have HEQ := Lib.hid heq
            clear heq
            go_wp2
            (refine wp_region_quiet_ext (by kernel_rfl) (by kernel_rfl) ?_; (repeat (go_big_quiet_step ((go_at_call 41; exact CC _)))); refine wpQuiet_nil ?_; intro wq hw'; obtain ⟨⟨_, hq⟩, hw''⟩ := hw'; subst hw'')
            go_wp2
            refine ⟨⟨i + 1, by omega, by go_num, .inl (by omega), fun j x y hj hx hy => ?_, HBL.out.trans (Below.mono hq HBL.out.size)⟩, by simp [intOf]; omega⟩
            by_cases hji : j + 1 < i
            · exact HNO.out j x y hji hx hy
            · obtain rfl : j = i - 1 := by omega
              rw [HA.out] at hx
              rw [Nat.sub_add_cancel hi1, HEE.out] at hy
              injection hx with hx
              injection hy with hy
              subst hx hy
              exact HEQ.out
        · go_wp2
          refine bodyPost_ret (v := .tuple #[_, _]) (by simp [results, Try.results25, go_sem]; exact ⟨rfl, rfl⟩) rfl ?_
          refine ⟨_, s, 0, rfl, .inr ⟨HALL.out, s, HPS.out, HSS.out, .inl ⟨rfl, rfl, fun j x y hx hy => ?_⟩⟩, ?_, HB1.out.trans (HBL.out.mono HB1.out.size)⟩
          · have hjl := (List.getElem?_eq_some_iff.1 hy).1
            rw [HSL.out] at hjl
            exact HNO.out j x y (by omega) hx hy
          · have := HES.out.below HBL.out
            rwa [HSL.out] at this
end Go.Proofs.Ytelbidknefkaiaa
