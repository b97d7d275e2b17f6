/-
usanceref13.Fold: what it stands on.
-/
import Derived.Test.YtjnolpfmchnnmaaGreatDoorQPOwnM12
import Derived.Test.YtjnolpfmchnnmaaGreatDoorQPOwnM11
import Derived.Test.YtjnolpfmchnnmaaGreatDoorQPOwnM5
import Derived.Deep.Cut
import Derived.Deep.CutRange
import Derived.Deep.DeepCutAuto
import Derived.Test.YtjnolpfmchnnmaaGreatDoorQPOwnM9
section
namespace Go.Proofs.YtjnolpfmchnnmaaGreatDoor
set_option maxRecDepth 100000
open Go.RowKit Go.BigFrame
attribute [local go_sem ↓] Go.wp_at_zero Go.wp_at_succ
theorem only_grown {w w' : World} {g : Option Nat} (h : w.grownBy w' g) : Only (fun i => g = some i) w w' := ⟨h.os, h.tape, h.output, h.size, fun i hi hne => h.block i hi fun e => hne e.symm⟩
abbrev RowT (w : World) (base : Nat) (T : Nat → Prop) (v : Value) (l : List Tbl) : Prop := ∃ css, OwnC w base v l.length css.flatten ∧ All2 (tbR w T) l css
theorem RowT.nil (w : World) (base : Nat) (T : Nat → Prop) : RowT w base T (.slice none 0 0) [] := ⟨[], World.ownsRow_nil _ _ _ _, .nil⟩
theorem wpList_append_tbl {ops : Array Oper} {rest : List Oper} {o : Oper} {a : Act} {Q : Exit → Act → World → Prop} {wr W : World} (hgd : o.guard = none) (s x : Operand)
    (ho : o.op = .call { callee := .builtin .append, args := #[s, x], argTypes := #[43, 43] }) (base : Nat) (T : Nat → Prop) (v : Value) (l : List Tbl) (hs : a.eval s = v) (hrow : RowT wr base T v l) (hf : fr wr W) (g : Nat) (hx : a.eval x = .slice (some ⟨g, 0, none⟩) 1 1) (t : Tbl) (c0 c1 c2 c3 c4 : Value) (hxt : tbR wr T t [c0, c1, c2, c3, c4])
    (hcell : ∀ j u, [c0, c1, c2, c3, c4][j]? = some u → W.cell? ((⟨g, 0, none⟩ : Addr).add j) = some u) (hT : ∀ i, T i → i < base) (hb : base ≤ wr.heap.size) (hm : (l.length + 1) * 72 ≤ 140737488355328)
    (hK : ∀ v' w', RowT w' base T v' (l ++ [t]) → Below base W w' → wpList Tryz.prog ops Q rest (a.put o.dst v') w') : wpList Tryz.prog ops Q (o :: rest) a W := by
  obtain ⟨i0, hi, hz0, hz1, hz2⟩ := info_parts infoT
  obtain ⟨css, hown, hys⟩ := hrow
  have hsz := Below.size hf
  have h1 : ∀ u ∈ [c0, c1, c2, c3, c4], u.oneCell' = true := by
    obtain ⟨a, b, e, ha, hb'⟩ := hxt
    obtain ⟨A1, k1, rfl⟩ := slice_form ha
    obtain ⟨A2, k2, rfl⟩ := slice_form hb'
    rw [e]
    simp [Value.oneCell']
  refine wpList_append_own_at _ hgd s x 43 ho base 57 i0 _ 5 72 Tryz.underlying43 hi hz0 hz1 hz2 rfl (by decide) v l.length css.flatten hs (own_below hown hf) ⟨g, 0, none⟩ 1 1 [c0, c1, c2, c3, c4] hx rfl hcell h1 (by unfold maxLen; omega) hm (by omega) ?_
  intro v' w' hown' hgrow _ _
  have hlt : ∀ k, v.ownBlock = some k → base ≤ k := fun k hk => (hown.lt k hk).1
  refine hK v' w' ⟨css ++ [[c0, c1, c2, c3, c4]], ?_, ?_⟩ ((Below.refl _ _).grown hgrow (by omega) hlt)
  · rw [List.length_append, List.flatten_append]
    simpa using hown'
  · have ho := only_grown hgrow
    refine All2.snoc (hys.imp fun _ _ h => tbFine.keep h fun _ _ _ _ hr => ?_) (tbFine.keep hxt fun _ _ _ _ hr => ?_)
    · exact (hr.below hf).only ho fun i _ hi hs => by have := hT i hi; have := hlt i hs; omega
    · exact (hr.below hf).only ho fun i _ hi hs => by have := hT i hi; have := hlt i hs; omega
theorem RowT.below {w w' : World} {base : Nat} {T : Nat → Prop} {v : Value} {l : List Tbl} (h : RowT w base T v l) (hf : fr w w') : RowT w' base T v l := by
  obtain ⟨css, h1, h2⟩ := h
  exact ⟨css, own_below h1 hf, h2.imp fun _ _ hx => tbFine.keep hx fun _ _ _ _ hr => hr.below hf⟩
theorem Row.keepBelow {w w' : World} {T : Nat → Prop} {A : Option Addr} {n sz B : Nat} {xs : List Value} (h : Row w T A n sz xs) (hb : Below B w w') (hT : ∀ i, T i → i < B) : Row w' T A n sz xs :=
  h.only (S := fun i => B ≤ i) ⟨hb.os, hb.tape, hb.output, hb.size, fun i _ hi => hb.block i (by omega)⟩ fun i _ hi hs => by have := hT i hi; omega
set_option maxRecDepth 100000 in
set_option maxHeartbeats 4000000 in
theorem insert_any (S : Nat → Prop) (v tv : Value) (ts : List Tbl) (t : Tbl) (w : World) (h : TabsV w S v ts) (ht : TblV w S tv t) (hmany : (ts.length + 1) * 72 ≤ 140737488355328) :
    Calls Tryz.prog 82 #[v, tv] w fun r w' => ∃ v', r = .returned v' ∧ TabsV w' (fun i => S i ∨ (w.heap.size ≤ i ∧ i < w'.heap.size)) v' (insT t ts) ∧ fr w w' := by
  obtain ⟨A, c, rfl⟩ := h.form
  obtain ⟨a3, a4, rfl, ha3, ha4⟩ := ht
  obtain ⟨A3, k3, rfl⟩ := slice_form ha3
  obtain ⟨A4, k4, rfl⟩ := slice_form ha4
  obtain ⟨n, hn⟩ : ∃ n, ts.length = n := ⟨_, rfl⟩
  rw [hn] at h hmany ⊢
  obtain ⟨T, hT⟩ : ∃ T : Nat → Prop, T = fun i => S i ∧ i < w.heap.size := ⟨_, rfl⟩
  obtain ⟨W0, hW0⟩ : ∃ W0, W0 = w.alloc (.cells #[.int .i64 t.id, .int .i64 t.level, .int .i64 t.count, .slice A3 t.lo.length k3, .slice A4 t.hi.length k4] 57) := ⟨_, rfl⟩
  have hf0 : fr w W0 := by rw [hW0]; exact fr.alloc fr.refl _
  have hbx : W0.heap[w.heap.size]? = some (.cells #[.int .i64 t.id, .int .i64 t.level, .int .i64 t.count, .slice A3 t.lo.length k3, .slice A4 t.hi.length k4] 57 (0, 0)) := by rw [hW0]; exact heap_alloc_new w _
  have hsz0 : W0.heap.size = w.heap.size + 1 := by rw [hW0]; simp
  have hlt0 : ∀ {x bs}, Byt w S x bs → Byt w T x bs := fun hx => hx.keepR fun _ _ _ _ hr => hr.monoLt fun i hi hs => by rw [hT]; exact ⟨hs, hi⟩
  have hx0 : tbR W0 T t [.int .i64 t.id, .int .i64 t.level, .int .i64 t.count, .slice A3 t.lo.length k3, .slice A4 t.hi.length k4] := ⟨_, _, rfl, (hlt0 ha3).below hf0, (hlt0 ha4).below hf0⟩
  have hTT : ∀ i, T i → i < w.heap.size + 1 := fun i hi => by rw [hT] at hi; have := hi.2; omega
  have HN := Lib.hid hn
  have HH := Lib.hid (Rows.keep tbFine h fun _ _ _ _ hr => hr.monoLt (S' := T) fun i hi hs => by rw [hT]; exact ⟨hs, hi⟩)
  have HF0 := Lib.hid hf0
  have HX0 := Lib.hid hx0
  have HBX := Lib.hid hbx
  have HTT := Lib.hid hTT
  have HT := Lib.hid hT
  have HSZ := Lib.hid hsz0
  clear h hn ha3 ha4 hf0 hx0 hbx hTT hT hsz0 hlt0
  go_enter Tryz.func82, Tryz.ntmps82
  go_upto_region 3 with (fail)
  rw [← hW0]
  clear hW0
  go_wp2
  go_loopw [5, 6, 10] (fun u b x wx => ∃ (i : Nat) (z : Value), z = u ∧ i ≤ n ∧ x = .int .i64 i ∧ b = .bool (aheadT t (ts.take i)) ∧ RowT wx (w.heap.size + 1) T u (midT t (ts.take i)) ∧ fr W0 wx) (fun _ _ x _ => n - (intOf x).toNat)
  case atStart => exact ⟨0, _, rfl, Nat.zero_le _, rfl, rfl, RowT.nil _ _ _, fr.refl⟩
  case round =>
    obtain ⟨i, z, rfl, hin, rfl, rfl, hrow, hfr⟩ := hrel
    have HROW := Lib.hid hrow
    have HFR := Lib.hid hfr
    clear hrow hfr
    have hbx := (Below.block HFR.out w.heap.size (by rw [HSZ.out]; omega)).trans HBX.out
    have c0 := cell_of_row _ _ 0 _ _ _ hbx
    have c1 := cell_of_row _ _ 1 _ _ _ hbx
    have c2 := cell_of_row _ _ 2 _ _ _ hbx
    have c3 := cell_of_row _ _ 3 _ _ _ hbx
    have c4 := cell_of_row _ _ 4 _ _ _ hbx
    have HBX1 := Lib.hid hbx
    clear hbx
    have hml : (midT t (ts.take i)).length ≤ i + 1 := by
      unfold midT
      split
      · have := (insT_perm t (ts.take i)).length_eq
        rw [this, List.length_cons, List.length_take]
        omega
      · rw [List.length_take]; omega
    by_cases hik : i < n
    · obtain ⟨x, hf⟩ : ∃ x, ts[i]? = some x := ⟨_, List.getElem?_eq_getElem (by rw [HN.out]; exact hik)⟩
      obtain ⟨b, o, cs, rfl, hblt, hTb, ⟨va, vb, rfl, hva, hvb⟩, hc⟩ := Rows.at_ tbFine (HH.out.below tbFine (fr.step HF0.out HFR.out)) hf
      obtain ⟨A5, k5, rfl⟩ := slice_form hva
      obtain ⟨A6, k6, rfl⟩ := slice_form hvb
      have x0 : wr.cell? ⟨b, o + i * 5, none⟩ = _ := hc 0 _ rfl
      have x1 : wr.cell? ⟨b, o + i * 5 + 1, none⟩ = _ := hc 1 _ rfl
      have x2 : wr.cell? ⟨b, o + i * 5 + 2, none⟩ = _ := hc 2 _ rfl
      have x3 : wr.cell? ⟨b, o + i * 5 + 3, none⟩ = _ := hc 3 _ rfl
      have x4 : wr.cell? ⟨b, o + i * 5 + 4, none⟩ = _ := hc 4 _ rfl
      have HXT : Hid (tbR wr T x [.int .i64 x.id, .int .i64 x.level, .int .i64 x.count, .slice A5 x.lo.length k5, .slice A6 x.hi.length k6]) := Lib.hid ⟨_, _, rfl, hva, hvb⟩
      have HXF := Lib.hid hf
      have HE := Lib.hid (take_snoc hf)
      have hbb : b < w.heap.size := by rw [HT.out] at hTb; exact hTb.2
      clear hc hva hvb hf hTb
      go_upto_region 6 with (fail)
      go_cut [6, 24] (fun u v wc => u = .bool (aheadT t (ts.take i)) ∧ (∃ q : Bool, v = .bool q ∧ q = (!aheadT t (ts.take i) && decide (t.id < x.id))) ∧ fr wr wc)
      case first =>
        cases hb : aheadT t (ts.take i) with
        | true =>
          go_quiet (fail)
          go_wp2_with (fail)
          go_meet
          case rel => exact ⟨by simp [hb], ⟨_, rfl, by simp [hb]⟩, frH_drewN⟩
        | false =>
          by_cases hx : t.id < x.id
          · have hd : decide (t.id < x.id) = true := decide_eq_true hx
            go_quiet (fail)
            go_wp2_with (fail)
            go_meet
            case rel => exact ⟨by simp [hb], ⟨_, rfl, by simp [hb, hx]⟩, frH_drewN⟩
          · have hd : decide (t.id < x.id) = false := decide_eq_false hx
            go_quiet (fail)
            go_wp2_with (fail)
            go_meet
            case rel => exact ⟨by simp [hb], ⟨_, rfl, by simp [hb, hx]⟩, frH_drewN⟩
      case rest =>
        obtain ⟨rfl, ⟨q, rfl, hq⟩, hfq⟩ := hcut
        have HQQ := Lib.hid hq
        clear hq
        obtain ⟨wq, hwq⟩ : ∃ wq, wq = wc := ⟨_, rfl⟩
        subst hwq
        have y0 := hfq.cell x0
        have y1 := hfq.cell x1
        have y2 := hfq.cell x2
        have y3 := hfq.cell x3
        have y4 := hfq.cell x4
        have q0 := hfq.cell c0
        have q1 := hfq.cell c1
        have q2 := hfq.cell c2
        have q3 := hfq.cell c3
        have q4 := hfq.cell c4
        have HFQ := Lib.hid hfq
        have hfW : fr W0 wq := fr.step HFR.out hfq
        have hlw : w.heap.size + 1 ≤ wq.heap.size := by have := Below.size hfW; have := HSZ.out; omega
        have HFW := Lib.hid hfW
        clear x0 x1 x2 x3 x4 c0 c1 c2 c3 c4 hfq hfW
        go_upto_if 24 with (fail)
        go_cut [5, 6, 24] (fun u b _ wc => b = .bool (aheadT t (ts.take (i + 1))) ∧ ∃ Z, Z ++ [x] = midT t (ts.take (i + 1)) ∧ Z.length ≤ i + 1 ∧ RowT wc (w.heap.size + 1) T u Z ∧ Below (w.heap.size + 1) wq wc)
        case first =>
          rcases Bool.eq_false_or_eq_true (aheadT t (ts.take i)) with hb | hb
          · have HM := Lib.hid (midT_ahead (x := x) hb)
            have HA := Lib.hid (ahead_snoc t x (ts.take i))
            rw [hb] at HA
            obtain rfl : q = false := by rw [HQQ.out]; simp [hb]
            have HB := Lib.hid hb
            clear hb
            go_wp2_with (fail)
            go_meet
            case rel => exact ⟨by rw [HE.out, HA.out, HB.out]; rfl, _, by rw [HE.out, HM.out], by omega, HROW.out.below HFQ.out, Below.refl _ _⟩
          · have hml2 : (midT t (ts.take i)).length = i := by
              unfold midT
              rw [if_neg (by rw [hb]; decide), List.length_take, HN.out]
              omega
            by_cases hx : t.id < x.id
            · have HM := Lib.hid (midT_here hb hx)
              have HA := Lib.hid (ahead_snoc t x (ts.take i))
              rw [hb, decide_eq_true hx] at HA
              obtain rfl : q = true := by rw [HQQ.out]; simp [hb, hx]
              have HB := Lib.hid hb
              clear hb hx
              go_wp2_with (at_builtin; refine wpList_append_tbl rfl _ _ rfl (w.heap.size + 1) T _ _ rfl HROW.out (fr.alloc HFQ.out _) wq.heap.size rfl t _ _ _ _ _ (tbFine.keep HX0.out fun _ _ _ _ hr => hr.below HFR.out) (cells_at rfl rfl) HTT.out (by have := Below.size HFR.out; have := HSZ.out; omega) (by omega) ?_; intro v5 w5 hr5 hb5)
              go_meet
              case rel =>
                refine ⟨by rw [HE.out, HA.out]; rfl, _, ?_, by rw [List.length_append, List.length_singleton]; omega, hr5, ((Below.refl _ _).alloc hlw _).trans hb5⟩
                rw [HE.out, HM.out]
                simp
            · have HM := Lib.hid (midT_not hb hx)
              have HA := Lib.hid (ahead_snoc t x (ts.take i))
              rw [hb, decide_eq_false hx] at HA
              obtain rfl : q = false := by rw [HQQ.out]; simp [hb, hx]
              have HB := Lib.hid hb
              clear hb hx
              go_wp2_with (fail)
              go_meet
              case rel => exact ⟨by rw [HE.out, HA.out, HB.out]; rfl, _, by rw [HE.out, HM.out], by omega, HROW.out.below HFQ.out, Below.refl _ _⟩
        case rest =>
          obtain ⟨rfl, Z, hZ, hZl, hrz, hbz⟩ := hcut
          obtain ⟨w5, hw5⟩ : ∃ w5, w5 = wc := ⟨_, rfl⟩
          subst hw5
          have z0 := (hbz.cell (p := ⟨b, o + i * 5, none⟩) (by show b < _; omega)).trans y0
          have z1 := (hbz.cell (p := ⟨b, o + i * 5 + 1, none⟩) (by show b < _; omega)).trans y1
          have z2 := (hbz.cell (p := ⟨b, o + i * 5 + 2, none⟩) (by show b < _; omega)).trans y2
          have z3 := (hbz.cell (p := ⟨b, o + i * 5 + 3, none⟩) (by show b < _; omega)).trans y3
          have z4 := (hbz.cell (p := ⟨b, o + i * 5 + 4, none⟩) (by show b < _; omega)).trans y4
          have HX5 : Hid (tbR w5 T x [.int .i64 x.id, .int .i64 x.level, .int .i64 x.count, .slice A5 x.lo.length k5, .slice A6 x.hi.length k6]) := Lib.hid (tbFine.keep HXT.out fun _ _ _ _ hr => (hr.below HFQ.out).keepBelow hbz HTT.out)
          have hl5 : w.heap.size + 1 ≤ w5.heap.size := Nat.le_trans hlw hbz.size
          have HRZ := Lib.hid hrz
          have HBZ := Lib.hid hbz
          have HZ := Lib.hid hZ
          clear hrz hbz hZ y0 y1 y2 y3 y4 q0 q1 q2 q3 q4
          go_wp2_with (at_builtin; refine wpList_append_tbl rfl _ _ rfl (w.heap.size + 1) T _ _ rfl HRZ.out (fr.alloc fr.refl _) w5.heap.size rfl x _ _ _ _ _ HX5.out (cells_at rfl rfl) HTT.out hl5 (by omega) ?_; intro v6 w6 hr6 hb6)
          refine ⟨⟨i + 1, _, rfl, by omega, by go_num, rfl, by rw [← HZ.out]; exact hr6, ?_⟩, by simp [intOf]; omega⟩
          have hz := HSZ.out
          have h1 : Below (w.heap.size + 1) w5 w6 := ((Below.refl _ _).alloc hl5 _).trans hb6
          have h2 : Below (w.heap.size + 1) wq w6 := HBZ.out.trans h1
          rw [← hz] at h2
          exact HFW.out.trans h2
    · obtain rfl : i = n := by omega
      have HTK : Hid (ts.take i = ts) := Lib.hid (List.take_of_length_le (by rw [HN.out]; exact Nat.le_refl _))
      have hend : ∀ (v' : Value) (w' : World), RowT w' (w.heap.size + 1) T v' (insT t ts) → Below W0.heap.size W0 w' → TabsV w' (fun i => S i ∨ (w.heap.size ≤ i ∧ i < w'.heap.size)) v' (insT t ts) ∧ fr w w' := fun v' w' hr hb => by
        refine ⟨?_, HF0.out.trans (Below.mono hb (Below.size HF0.out))⟩
        obtain ⟨css, h1, h2⟩ := hr
        obtain ⟨A', c', rfl⟩ := own_form h1
        have hl : (insT t ts).length * 72 ≤ 140737488355328 := by rw [(insT_perm t ts).length_eq, List.length_cons, HN.out]; exact hmany
        exact Rows.keep tbFine (rows_of_ownT h1 h2 rfl hl) fun _ _ _ _ hr => hr.mono fun i hi => by
          rcases hi with hi | hi
          · rw [HT.out] at hi; exact .inl hi.1
          · exact .inr ⟨by omega, hi.2⟩
      have HEND := Lib.hid hend
      clear hend
      cases hb : aheadT t (ts.take i) with
      | true =>
        have HM : Hid (midT t (ts.take i) = insT t ts) := Lib.hid (by unfold midT; rw [if_pos hb, HTK.out])
        clear hb
        obtain ⟨A9, c9, rfl⟩ : ∃ A c, z = .slice A (midT t (ts.take i)).length c := by obtain ⟨css, h1, _⟩ := HROW.out; exact own_form h1
        go_wp2_with (fail)
        refine bodyPost_ret (v := .slice A9 (midT t (ts.take i)).length c9) (by simp [results, Tryz.results82, go_sem]) rfl ?_
        have h1 := HROW.out
        rw [HM.out] at h1 ⊢
        exact ⟨_, rfl, HEND.out _ _ h1 HFR.out⟩
      | false =>
        have hml2 : (midT t (ts.take i)).length = i := by
          unfold midT
          rw [if_neg (by rw [hb]; decide), List.length_take, HN.out]
          omega
        have HM : Hid (midT t (ts.take i) ++ [t] = insT t ts) := Lib.hid (by unfold midT; rw [if_neg (by rw [hb]; decide), HTK.out]; rw [HTK.out] at hb; exact (insT_none hb).symm)
        clear hb
        go_wp2_with (at_builtin; refine wpList_append_tbl rfl _ _ rfl (w.heap.size + 1) T _ _ rfl HROW.out (fr.alloc fr.refl _) wr.heap.size rfl t _ _ _ _ _ (tbFine.keep HX0.out fun _ _ _ _ hr => hr.below HFR.out) (cells_at rfl rfl) HTT.out (by have := Below.size HFR.out; have := HSZ.out; omega) (by omega) ?_; intro v5 w5 hr5 hb5)
        have hz := HSZ.out
        rw [← hz] at hb5
        have h2 := HFR.out.trans ((Below.mono (fr.alloc fr.refl _) (Below.size HFR.out)).trans hb5)
        obtain ⟨A9, c9, rfl⟩ : ∃ A c, v5 = .slice A (midT t (ts.take i) ++ [t]).length c := by obtain ⟨css, h1, _⟩ := hr5; exact own_form h1
        refine bodyPost_ret (v := .slice A9 (midT t (ts.take i) ++ [t]).length c9) (by simp [results, Tryz.results82, go_sem]) rfl ?_
        rw [HM.out] at hr5 ⊢
        exact ⟨_, rfl, HEND.out _ _ hr5 h2⟩
end Go.Proofs.YtjnolpfmchnnmaaGreatDoor
end
section
namespace Go.Proofs.YtjnolpfmchnnmaaGreatDoor
set_option maxRecDepth 100000
open Go.RowKit Go.BigFrame
theorem tabs_take {w : World} {S : Nat → Prop} {A : Option Addr} {n c i : Nat} {ts : List Tbl} (h : TabsV w S (.slice A n c) ts) (hn : ts.length = n) (hi : i ≤ n) : TabsV w S (.slice A i c) (ts.take i) := by
  obtain ⟨A', c', css, hE, h1, h2, h3, h4, h5⟩ := h
  injection hE with e1 e2 e3
  subst e1 e3
  have hall := tbS_len h5
  have hl5 : css.length = n := by rw [← h5.length, hn]
  have hcl : (ts.take i).length = i := by rw [List.length_take]; omega
  refine ⟨_, _, css.take i, by rw [hcl], by rw [hcl]; omega, by omega, by rw [hcl]; omega, ?_, h5.takeT i⟩
  rw [hcl]
  rw [hn] at h4
  refine ⟨by rw [flat_len5 (fun cs hc => hall cs (List.mem_of_mem_take hc)), List.length_take]; omega, fun hi0 => ?_⟩
  obtain ⟨b, o', hb, hS, hlt, hc⟩ := h4.2 (by omega)
  refine ⟨b, o', hb, hS, hlt, fun j u hu => ?_⟩
  rw [flat_take5 hall] at hu
  have hj : j < i * 5 := by
    rcases Nat.lt_or_ge j (i * 5) with h | h
    · exact h
    · rw [List.getElem?_eq_none (by rw [List.length_take]; omega)] at hu; cases hu
  rw [List.getElem?_take_of_lt hj] at hu
  exact hc j u hu
def keepE (e : Edt) (t : Tbl) : Bool := !decide (t.id ∈ e.drop)
theorem foldT_ok {v : Ver} {e : Edt} (h : FoldOk v e) : foldT v e = v.tabs.filter (keepE e) ++ e.add := by
  unfold foldT
  rw [List.filter_append]
  congr 1
  rw [List.filter_eq_self]
  intro t ht
  have h1 := h.aout t.id (List.mem_map.2 ⟨t, ht, rfl⟩)
  have h2 : t.id ∉ e.drop := fun hd => h1 (h.din _ hd)
  rw [decide_eq_false h2]
  rfl
theorem insAll_len (l ts : List Tbl) : (insAll l ts).length = l.length + ts.length := by
  rw [(insAll_perm ts l).length_eq, List.length_append]
theorem keepE_snoc {e : Edt} {ts : List Tbl} {i : Nat} {t : Tbl} (h : ts[i]? = some t) : (ts.take (i + 1)).filter (keepE e) = (ts.take i).filter (keepE e) ++ (if keepE e t then [t] else []) := by
  rw [take_snoc h, List.filter_append]
  congr 1
  by_cases hk : keepE e t = true
  · rw [if_pos hk, List.filter_cons, if_pos hk]; rfl
  · rw [if_neg hk, List.filter_cons, if_neg hk]; rfl
theorem rfold_tabs {v : Ver} {e : Edt} (hv : (idsT v.tabs).Nodup) (h : FoldOk v e) : insAll (insAll [] (v.tabs.filter (keepE e))) e.add = sortTb (foldT v e) := by
  rw [insAll_app, ← foldT_ok h]
  exact insAll_sort (foldT_nodup hv h)
end Go.Proofs.YtjnolpfmchnnmaaGreatDoor
end
