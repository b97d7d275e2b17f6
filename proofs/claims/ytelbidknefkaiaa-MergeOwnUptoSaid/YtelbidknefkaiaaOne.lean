/-
usanceref10.One: a copy of an entry.
-/
import Derived.Test.YtelbidknefkaiaaClone2
import Derived.Laws.Rows
namespace Go.Proofs.Ytelbidknefkaiaa
open Go.RowKit
attribute [local go_sem ↓] Go.wp_at_zero Go.wp_at_succ

/-- append onto a []byte literal without an element: new memory. -/
theorem run_append_byt0 (w : World) (ty : TypeId) (g : Nat) (src : Value) (S : Nat → Prop) (bs : List UInt8) (h : Byt w S src bs) :
    ∃ v' w', (Builtin.append_ #[23, 23] ty #[.slice (some ⟨g, 0, none⟩) 0 0, src]).run Try.prog w = .ok v' w' ∧ Byt w' (fun i => w.heap.size ≤ i) v' bs ∧ Below w.heap.size w w' := by
  obtain ⟨i0, hi, hz0, hz1, hz2⟩ := info_parts info5
  have hl := h.len
  obtain ⟨A, c, rfl, h1, h2, h3, hr⟩ := h
  rcases Nat.eq_zero_or_pos bs.length with h0 | h0
  · have : bs = [] := List.eq_nil_of_length_eq_zero h0
    subst this
    refine ⟨.slice (some ⟨g, 0, none⟩) 0 0, w, ?_, ⟨_, _, rfl, by simp, by simp, by simp, Row.nil _ _ _ _⟩, Below.refl _ _⟩
    rcases A with _ | a
    · simp [Builtin.append_, run_underlying Try.underlying23, sizeOf, typeInfo, hi, Builtin.lenOf, Builtin.firstCells, storeCells]
    · simp [Builtin.append_, run_underlying Try.underlying23, sizeOf, typeInfo, hi, Builtin.lenOf, Builtin.firstCells, storeCells, loadCells, loadCellsFrom]
  · obtain ⟨b, o, rfl, _, _, hc⟩ := hr.2 h0
    have hrun := run_append_grow (P := Try.prog) w 23 ty 5 i0 (.int .u8 0) Try.underlying23 hi hz0 ⟨g, 0, none⟩ 0 0 [] (by simp) (fun j u hu => by simp at hu) ⟨b, o, none⟩ bs.length c (bs.map bcell) (by simp [hz1])
      (fun j u hu => by rw [Addr.add_lit]; exact hc j u hu) (by omega) (by omega) (growslice_fits (by omega) (by rw [hz2]; omega))
    have hge := grownCap_ge w (0 + bs.length) 0 5
    have hcm : grownCap w (0 + bs.length) 0 5 ≤ maxLen := grownCap_le_maxLen w (0 + bs.length) 0 5 (by unfold maxLen; omega)
    refine ⟨_, _, hrun, ?_, ((Below.refl w.heap.size w).drew).alloc (by simp) _⟩
    have e0 : 0 + bs.length = bs.length := by omega
    rw [e0] at hge hcm ⊢
    refine ⟨_, _, rfl, hge, by unfold maxLen at hcm; omega, hl, by simp, fun _ => ⟨w.heap.size, 0, rfl, Nat.le_refl _, by simp, fun j u hu => ?_⟩⟩
    rw [World.cell?_alloc_at _ _ _ _ (by simp)]
    have hj : j < bs.length := by
      have := (List.getElem?_eq_some_iff.1 hu).1
      simpa using this
    simp [Array.getElem?_append, hj]
    rw [List.getElem?_map, List.getElem?_eq_getElem hj] at hu
    simpa using hu

theorem step_append_byt0 {w : World} {ops : Array Oper} {o : Oper} {a : Act} {K : Act → World → Prop} {Q : Exit → Act → World → Prop} {E : Prop} (hgd : o.guard = none) (s x : Operand)
    (ho : o.op = .call { callee := .builtin .append, args := #[s, x], argTypes := #[23, 23] }) (g : Nat) (src : Value) (hs : a.eval s = .slice (some ⟨g, 0, none⟩) 0 0) (hx : a.eval x = src)
    (S : Nat → Prop) (bs : List UInt8) (h : Byt w S src bs)
    (hK : ∀ v' w', Byt w' (fun i => w.heap.size ≤ i) v' bs → Below w.heap.size w w' → K (a.put o.dst v') w') :
    if Region.wanted o (yielded ops a.tmps) = true then Oper.wp Try.prog o a w K Q else E := by
  have hw : Region.wanted o (yielded ops a.tmps) = true := by simp [Region.wanted, hgd]
  rw [if_pos hw]
  obtain ⟨v', w', hrun, h2, h3⟩ := run_append_byt0 w o.type g src S bs h
  unfold Oper.wp execOp
  simp only [ho, resolve, invoke, builtin, Sem.run_bind, Sem.run_pure, Result.andThen_ok, List.map_toArray, List.map_cons, List.map_nil, hs, hx, hrun]
  exact hK v' w' h2 h3

theorem one_end (w w2 : World) (e : Ent) (k u a b c d : Value) (hb : Below w.heap.size w w2) (hk : Byt w2 (fun i => w.heap.size + 2 ≤ i) k e.key) (hu : Byt w2 (fun i => w.heap.size + 2 ≤ i) u e.val) :
    ∃ v', Ending.returned (.agg #[k, .int .i64 e.seq, .bool e.dead, u]) = .returned v' ∧
      EntV ((((w2.setCell ⟨w.heap.size + 1, 0, none⟩ a).setCell ⟨w.heap.size + 1, 1, none⟩ b).setCell ⟨w.heap.size + 1, 2, none⟩ c).setCell ⟨w.heap.size + 1, 3, none⟩ d) (fun i => w.heap.size ≤ i) v' e ∧
      Below w.heap.size w ((((w2.setCell ⟨w.heap.size + 1, 0, none⟩ a).setCell ⟨w.heap.size + 1, 1, none⟩ b).setCell ⟨w.heap.size + 1, 2, none⟩ c).setCell ⟨w.heap.size + 1, 3, none⟩ d) := by
  have ho : Only (fun i => i = w.heap.size + 1 ∨ i = w.heap.size + 1) w2 ((((w2.setCell ⟨w.heap.size + 1, 0, none⟩ a).setCell ⟨w.heap.size + 1, 1, none⟩ b).setCell ⟨w.heap.size + 1, 2, none⟩ c).setCell ⟨w.heap.size + 1, 3, none⟩ d) :=
    ((((Only.refl _ w2).setCell (p := ⟨w.heap.size + 1, 0, none⟩) (.inl rfl) _).setCell (p := ⟨w.heap.size + 1, 1, none⟩) (.inl rfl) _).setCell (p := ⟨w.heap.size + 1, 2, none⟩) (.inl rfl) _).setCell (p := ⟨w.heap.size + 1, 3, none⟩) (.inl rfl) _
  exact ⟨_, rfl, ⟨k, u, rfl, (hk.only ho (fun i _ h => by omega)).mono (fun i hi => by omega), (hu.only ho (fun i _ h => by omega)).mono (fun i hi => by omega)⟩, hb.trans (ho.below hb.size (fun i h => by omega))⟩

theorem undrewR {B : Nat} {a w : World} (h : Below B a w.drew) : Below B a w := ⟨h.os, h.tape, h.output, h.size, h.block⟩
/-- the frame of a function that has boxed one entry and laid a block of four cells for its result: the box stands, the result's block is there. -/
structure frame1 (w : World) (c0 c1 c2 c3 : Value) (t : TypeId) (w' : World) : Prop where
  box : Below (w.heap.size + 1) (w.alloc (.cells #[c0, c1, c2, c3] t)) w'
  res : ∃ a b c d, w'.heap[w.heap.size + 1]? = some (.cells #[a, b, c, d] t (0, 0))
section
variable {w w' w2 : World} {c0 c1 c2 c3 : Value} {t : TypeId}
theorem frame1.start {a b c d : Value} : frame1 w c0 c1 c2 c3 t ((w.alloc (.cells #[c0, c1, c2, c3] t)).alloc (.cells #[a, b, c, d] t)) :=
  ⟨(Below.refl _ _).alloc (by simp) _, a, b, c, d, by simpa using heap_alloc_new (w.alloc (.cells #[c0, c1, c2, c3] t)) (.cells #[a, b, c, d] t)⟩
theorem frame1.lt (h : frame1 w c0 c1 c2 c3 t w') : w.heap.size + 1 < w'.heap.size := by
  obtain ⟨a, b, c, d, h⟩ := h.res
  exact (Array.getElem?_eq_some_iff.1 h).1
theorem frame1.drew (h : frame1 w c0 c1 c2 c3 t w') : frame1 w c0 c1 c2 c3 t w'.drew := ⟨h.box.drew, h.res⟩
theorem frame1.undrew (h : frame1 w c0 c1 c2 c3 t w'.drew) : frame1 w c0 c1 c2 c3 t w' := ⟨undrewR h.box, h.res⟩
theorem frame1.step (h : frame1 w c0 c1 c2 c3 t w') (hb : Below w'.heap.size w' w2) : frame1 w c0 c1 c2 c3 t w2 := by
  have hl := h.lt
  obtain ⟨a, b, c, d, hr⟩ := h.res
  exact ⟨h.box.trans (hb.mono (by omega)), a, b, c, d, by rw [hb.block _ hl]; exact hr⟩
theorem frame1.alloc (h : frame1 w c0 c1 c2 c3 t w') (o' : Obj) : frame1 w c0 c1 c2 c3 t (w'.alloc o') := h.step ((Below.refl _ _).alloc (Nat.le_refl _) _)
theorem frame1.setRes (h : frame1 w c0 c1 c2 c3 t w') (i : Nat) (v : Value) : frame1 w c0 c1 c2 c3 t (w'.setCell ⟨w.heap.size + 1, i, none⟩ v) := by
  obtain ⟨a, b, c, d, hr⟩ := h.res
  refine ⟨h.box.setCell (p := ⟨w.heap.size + 1, i, none⟩) (Nat.le_refl _) _, ?_⟩
  rw [heap_setCell_same w' (w.heap.size + 1) i #[a, b, c, d] t v hr]
  rcases (by omega : i = 0 ∨ i = 1 ∨ i = 2 ∨ i = 3 ∨ 4 ≤ i) with rfl | rfl | rfl | rfl | h4
  · exact ⟨v, b, c, d, rfl⟩
  · exact ⟨a, v, c, d, rfl⟩
  · exact ⟨a, b, v, d, rfl⟩
  · exact ⟨a, b, c, v, rfl⟩
  · exact ⟨a, b, c, d, by rw [Array.setIfInBounds_eq_of_size_le (by simpa using h4)]⟩
theorem frame1.cell (h : frame1 w c0 c1 c2 c3 t w') : w'.cell? ⟨w.heap.size, 0, none⟩ = some c0 ∧ w'.cell? ⟨w.heap.size, 1, none⟩ = some c1 ∧ w'.cell? ⟨w.heap.size, 2, none⟩ = some c2 ∧ w'.cell? ⟨w.heap.size, 3, none⟩ = some c3 := by
  refine ⟨?_, ?_, ?_, ?_⟩ <;> (rw [h.box.cell (by simp), World.cell?_alloc_at _ _ _ _ rfl]; rfl)
theorem frame1.below (h : frame1 w c0 c1 c2 c3 t w') : Below w.heap.size w w' := ((Below.refl w.heap.size w).alloc (Nat.le_refl _) _).trans (h.box.mono (by omega))
theorem frame1.byt (h : frame1 w c0 c1 c2 c3 t w') {S : Nat → Prop} {v : Value} {bs : List UInt8} (hv : Byt w S v bs) : Byt w' S v bs := hv.below h.below
theorem frame1.all (h : frame1 w c0 c1 c2 c3 t w') : w'.cell? ⟨w.heap.size, 0, none⟩ = some c0 ∧ w'.cell? ⟨w.heap.size, 1, none⟩ = some c1 ∧ w'.cell? ⟨w.heap.size, 2, none⟩ = some c2 ∧ w'.cell? ⟨w.heap.size, 3, none⟩ = some c3 ∧ frame1 w c0 c1 c2 c3 t w' :=
  ⟨h.cell.1, h.cell.2.1, h.cell.2.2.1, h.cell.2.2.2, h⟩
theorem frame1.resCells (h : frame1 w c0 c1 c2 c3 t w') : ∃ a b c d, w'.cell? ⟨w.heap.size + 1, 0, none⟩ = some a ∧ w'.cell? ⟨w.heap.size + 1, 1, none⟩ = some b ∧ w'.cell? ⟨w.heap.size + 1, 2, none⟩ = some c ∧ w'.cell? ⟨w.heap.size + 1, 3, none⟩ = some d ∧ ∀ i, w'.frozen? ⟨w.heap.size + 1, i, none⟩ = false := by
  obtain ⟨a, b, c, d, hr⟩ := h.res
  exact ⟨a, b, c, d, by rw [cell_of_row w' _ 0 _ t _ hr]; rfl, by rw [cell_of_row w' _ 1 _ t _ hr]; rfl, by rw [cell_of_row w' _ 2 _ t _ hr]; rfl, by rw [cell_of_row w' _ 3 _ t _ hr]; rfl, fun i => frozen_of_row w' _ i _ t hr⟩
end

set_option maxRecDepth 100000 in
set_option maxHeartbeats 4000000 in
theorem one_any (S : Nat → Prop) (v : Value) (e : Ent) (w : World) (hv : EntV w S v e) :
    Calls Try.prog 13 #[v] w fun r w' => ∃ v', r = .returned v' ∧ EntV w' (fun i => w.heap.size ≤ i) v' e ∧ Below w.heap.size w w' := by
  obtain ⟨k, u, rfl, h1, h2⟩ := hv
  have H1 := Lib.hid h1
  have H2 := Lib.hid h2
  obtain ⟨Ak, ck, rfl⟩ := slice_form h1
  obtain ⟨Au, cu, rfl⟩ := slice_form h2
  clear h1 h2
  go_enter Try.func13, Try.ntmps13
  go_wp2
  go_region_held3 (fun w' => w'.cell? ⟨w.heap.size, 0, none⟩ = some (.slice Ak e.key.length ck) ∧ w'.cell? ⟨w.heap.size, 1, none⟩ = some (.int .i64 e.seq) ∧ w'.cell? ⟨w.heap.size, 2, none⟩ = some (.bool e.dead) ∧ w'.cell? ⟨w.heap.size, 3, none⟩ = some (.slice Au e.val.length cu) ∧
      frame1 w (.slice Ak e.key.length ck) (.int .i64 e.seq) (.bool e.dead) (.slice Au e.val.length cu) 26 w')
    (first
      | with_reducible exact frame1.start.drew.all
      | with_reducible exact hf2.all
      | with_reducible exact hf1.all
      | with_reducible exact (frame1.alloc hf1 _).all
      | with_reducible exact (frame1.alloc hf2 _).all
      | with_reducible exact ((((hf2.setRes 0 _).setRes 1 _).setRes 2 _).setRes 3 _).all
      | with_reducible exact ((((hf1.setRes 0 _).setRes 1 _).setRes 2 _).setRes 3 _).all
      | (go_split_ands; with_reducible (refine (frame1.alloc (frame1.undrew ?_) _).drew.all); with_reducible assumption)
      | (go_split_ands; with_reducible (refine (frame1.alloc ?_ _).all); with_reducible assumption))
    (first
      | (go_split_ands; refine step_append_byt0 (by rfl) _ _ (by rfl) _ (.slice Ak e.key.length ck) (by rfl) (by rfl) S e.key ?_ ?_; (with_reducible exact frame1.byt (by with_reducible assumption) H1.out); intro k' w1 hk' hb1; obtain ⟨Ak', ck', rfl⟩ := slice_form hk'; have hf1 := frame1.step (by with_reducible assumption) hb1; obtain ⟨x0, x1, x2, x3, e0, e1, e2, e3, ef⟩ := hf1.resCells)
      | (go_split_ands; refine step_append_byt0 (by rfl) _ _ (by rfl) _ (.slice Au e.val.length cu) (by rfl) (by rfl) S e.val ?_ ?_; (with_reducible exact frame1.byt (by with_reducible assumption) H2.out); intro u' w2 hu' hb2; obtain ⟨Au', cu', rfl⟩ := slice_form hu'; have hf2 := frame1.step (by with_reducible assumption) hb2; obtain ⟨x0, x1, x2, x3, e0, e1, e2, e3, ef⟩ := hf2.resCells))
  all_goals
    first
      | (have hk2 := hk'.below hb2; have hu2 := hu'; have hf := hf2)
      | (have hk2 := (hk'.below ((Below.refl _ _).alloc (Nat.le_refl _) _)).below hb2; have hu2 := hu'; have hf := hf2)
      | (have hu2 := hu'.below hb1; have hk2 := hk'; have hf := hf1)
      | (have hu2 := (hu'.below ((Below.refl _ _).alloc (Nat.le_refl _) _)).below hb1; have hk2 := hk'; have hf := hf1)
    have hl1 := hf1.lt
    have hl2 := hf2.lt
    simp only [World.size_alloc, World.size_drew] at hk2 hu2
    go_wp2
    refine bodyPost_ret (v := .agg #[.slice Ak' e.key.length ck', .int .i64 e.seq, .bool e.dead, .slice Au' e.val.length cu']) (by simp [results, Try.results13, go_sem, e0, e1, e2, e3]) rfl ?_
    exact one_end w _ e _ _ _ _ _ _ hf.below (hk2.mono (fun i hi => by omega)) (hu2.mono (fun i hi => by omega))
end Go.Proofs.Ytelbidknefkaiaa
