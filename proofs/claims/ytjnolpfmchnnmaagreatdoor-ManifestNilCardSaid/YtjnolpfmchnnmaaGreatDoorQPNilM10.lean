/-
A region that draws its order and whose last operations wait for all others: loads may be taken first under a condition that those last ones need not keep.
-/
import Derived.Test.YtjnolpfmchnnmaaGreatDoorQPNilM7
import Derived.Test.YtjnolpfmchnnmaaGreatDoorQPNilM6
import Derived.Test.YtjnolpfmchnnmaaGreatDoorQPNilM9
import Derived.Test.YtjnolpfmchnnmaaGreatDoorQPNilM3
import Derived.Test.YtjnolpfmchnnmaaGreatDoorQPNilM2
import Derived.Test.YtjnolpfmchnnmaaGreatDoorQPNilM4
import Derived.OrdersHeld
import Derived.StillTail
import Derived.Deep.RegionHeld
import Derived.Test.YtjnolpfmchnnmaaGreatDoorProg
section
namespace Go.Proofs.YtjnolpfmchnnmaaGreatDoor
set_option maxRecDepth 100000
open Go.RowKit Go.BigFrame Go.Sort Go.Shelf Go.Lib
attribute [local go_sem ↓] Go.wp_at_zero Go.wp_at_succ
theorem ownC_empty (w : World) (base : Nat) (hb : base ≤ w.heap.size) : OwnC (w.alloc (.cells #[] 57)) base (.slice (some ⟨w.heap.size, 0, none⟩) 0 0) 0 [] :=
  ⟨rfl, .inr ⟨w.heap.size, 0, #[], rfl, hb, heap_alloc_new w _, Nat.le_refl _, Nat.zero_le _, rfl, by simp⟩⟩
set_option maxRecDepth 100000 in
set_option maxHeartbeats 1000000 in
theorem cloneT_any (S : Nat → Prop) (A : Option Addr) (n c : Nat) (cs : List Value) (w : World) (h : Row w S A n 5 cs) (h1 : ∀ u ∈ cs, u.oneCell' = true) (hb : n * 72 ≤ 140737488355328) :
    Calls Tryz.prog 141 #[.slice A n c] w fun r w' => ∃ A' c', r = .returned (.slice A' n c') ∧ OwnC w' w.heap.size (.slice A' n c') n cs ∧ fr w w' := by
  have H := Lib.hid h
  have H1 := Lib.hid h1
  have q22 : ∀ (w : World) (a : Option Addr) (n c n' c' : Nat), (binOp .eql 43 (.slice a n c) (.slice none n' c')).run Tryz.prog w = .ok (.bool a.isNone) w := fun w a n c n' c' => Lib.run_eql_slice_nil w _ _ a n c n' c' Tryz.underlying43
  cases A with
  | none =>
    have hn0 : n = 0 := by
      rcases Nat.eq_zero_or_pos n with h0 | h0
      · exact h0
      · obtain ⟨b, o, e, _⟩ := h.2 h0; cases e
    subst hn0
    have hcs : Hid (cs = []) := Lib.hid (List.eq_nil_of_length_eq_zero (by simpa using h.1))
    clear h h1
    go_enter Tryz.func141, Tryz.ntmps141
    go_wp2
    refine bodyPost_ret (v := .slice none 0 0) (by simp [results, Tryz.results141, go_sem]) rfl ?_
    exact ⟨_, _, rfl, by rw [hcs.out]; exact World.ownsRow_nil _ _ _ _, fr.refl⟩
  | some ad =>
    clear h h1
    have hal : fr w (w.alloc (.cells #[] 57)) := fr.alloc fr.refl _
    have HE := Lib.hid (ownC_empty w w.heap.size (Nat.le_refl _))
    have hz : w.heap.size ≤ (w.alloc (.cells #[] 57)).heap.size := by simp
    go_enter Tryz.func141, Tryz.ntmps141
    go_wp2_with (at_builtin; refine wpList_append_rowT rfl _ _ rfl w.heap.size _ 0 [] rfl HE.out S (some ad) n c cs rfl (H.out.below hal) H1.out (by omega) hz ?_; intro v5 w5 hown5 hgrow5)
    rw [Nat.zero_add, List.nil_append] at hown5
    obtain ⟨A5, c5, rfl⟩ := own_form hown5
    refine bodyPost_ret (v := .slice A5 n c5) (by simp [results, Tryz.results141, go_sem]) rfl ?_
    refine ⟨_, _, rfl, hown5, RowKit.Below.grown (B := w.heap.size) hal hgrow5 (by simp) fun j e => ?_⟩
    have h5 : w.heap.size = j := Option.some.inj e
    omega
theorem flat_set2 {css : List (List Value)} (h : ∀ cs ∈ css, cs.length = 5) {i : Nat} {x0 x1 x2 x3 x4 : Value} (d e : Value) (hi : css[i]? = some [x0, x1, x2, x3, x4]) :
    ((css.flatten.set (i * 5 + 3) d).set (i * 5 + 4) e) = (css.set i [x0, x1, x2, d, e]).flatten := by
  induction css generalizing i with
  | nil => simp at hi
  | cons cs r ih =>
    have h5 := h cs List.mem_cons_self
    match cs, h5 with
    | [p0, p1, p2, p3, p4], _ =>
      cases i with
      | zero =>
        simp only [List.getElem?_cons_zero, Option.some.injEq, List.cons.injEq, and_true] at hi
        obtain ⟨rfl, rfl, rfl, rfl, rfl⟩ := hi
        simp
      | succ i =>
        have := ih (fun c hc => h c (List.mem_cons_of_mem _ hc)) (i := i) (by simpa using hi)
        rw [List.set_cons_succ, List.flatten_cons, List.flatten_cons, ← this]
        have e0 : (i + 1) * 5 = i * 5 + 5 := by omega
        rw [e0]
        rfl
theorem table_box2 {wL wH : World} {x o1 o2 l1 l2 kL kH : Nat} {AL AH : Option Addr} {t : Tbl} (hL : BytL wL l1 (.slice AL t.lo.length kL) t.lo) (hH : BytL wH l2 (.slice AH t.hi.length kH) t.hi) (g : fr wL wH) (h1 : x < l1) (h2 : x < l2) (b : Nat) (hb1 : b ≤ l1) (hb2 : b ≤ l2) (n c : Nat) :
    tbR ((wH.setCell ⟨x, o1, none⟩ (.slice AL t.lo.length kL)).setCell ⟨x, o2, none⟩ (.slice AH t.hi.length kH)) (freshL ((wH.setCell ⟨x, o1, none⟩ (.slice AL t.lo.length kL)).setCell ⟨x, o2, none⟩ (.slice AH t.hi.length kH)) b (.slice (some ⟨x, 0, none⟩) n c)) t [.int .i64 t.id, .int .i64 t.level, .int .i64 t.count, .slice AL t.lo.length kL, .slice AH t.hi.length kH] := by
  have ha : Only (fun i => i = x) wH ((wH.setCell ⟨x, o1, none⟩ (.slice AL t.lo.length kL)).setCell ⟨x, o2, none⟩ (.slice AH t.hi.length kH)) := (only_set _ _ _ _).trans (only_set _ _ _ _)
  have r1 : BytL _ _ (.slice AL t.lo.length kL) t.lo := BytL.only hL ((Only.of_below g).trans ha) (fun i hi _ e => by omega)
  have r2 : BytL _ _ (.slice AH t.hi.length kH) t.hi := BytL.only hH ha (fun i hi _ e => by omega)
  refine ⟨_, _, rfl, Byt.mono r1 fun i hi => ⟨Nat.le_trans hb1 hi.1, fun e => ?_, hi.2⟩, Byt.mono r2 fun i hi => ⟨Nat.le_trans hb2 hi.1, fun e => ?_, hi.2⟩⟩
  · have h5 : x = i := Option.some.inj e
    have := hi.1; omega
  · have h5 : x = i := Option.some.inj e
    have := hi.1; omega
structure CloneI (wr : World) (base g n c i : Nat) (ts : List Tbl) (css0 css : List (List Value)) : Prop where
  own : OwnC wr base (.slice (some ⟨g, 0, none⟩) n c) n css.flatten
  all : ∀ cs ∈ css, cs.length = 5
  old : css.drop i = css0.drop i
  new : All2 (tbR wr (freshL wr base (.slice (some ⟨g, 0, none⟩) n c))) (ts.take i) (css.take i)
theorem CloneI.step {wr wL wH : World} {base g n c i l1 l2 kL kH c1 c2 : Nat} {AL AH A1 A2 : Option Addr} {ts : List Tbl} {css0 css : List (List Value)} {t : Tbl} (h : CloneI wr base g n c i ts css0 css) (ht : ts[i]? = some t)
    (hc : css[i]? = some [.int .i64 t.id, .int .i64 t.level, .int .i64 t.count, .slice A1 t.lo.length c1, .slice A2 t.hi.length c2]) (f1 : fr wr wL) (g1 : fr wL wH) (hL : BytL wL l1 (.slice AL t.lo.length kL) t.lo) (hH : BytL wH l2 (.slice AH t.hi.length kH) t.hi) (h1 : wr.heap.size ≤ l1) (h2 : wr.heap.size ≤ l2) (hb : base ≤ wr.heap.size) :
    CloneI ((wH.setCell ⟨g, i * 5 + 3, none⟩ (.slice AL t.lo.length kL)).setCell ⟨g, i * 5 + 4, none⟩ (.slice AH t.hi.length kH)) base g n c (i + 1) ts css0 (css.set i [.int .i64 t.id, .int .i64 t.level, .int .i64 t.count, .slice AL t.lo.length kL, .slice AH t.hi.length kH]) := by
  have hg : g < wr.heap.size := (h.own.lt g rfl).2
  have hi := (List.getElem?_eq_some_iff.1 hc).1
  have f2 : fr wr wH := fr.step f1 g1
  have hx := table_box2 (o1 := i * 5 + 3) (o2 := i * 5 + 4) hL hH g1 (x := g) (by omega) (by omega) base (by omega) (by omega) n c
  have ho : Only (fun i => i = g) wH ((wH.setCell ⟨g, i * 5 + 3, none⟩ (.slice AL t.lo.length kL)).setCell ⟨g, i * 5 + 4, none⟩ (.slice AH t.hi.length kH)) := (only_set _ _ _ _).trans (only_set _ _ _ _)
  have hown : OwnC ((wH.setCell ⟨g, i * 5 + 3, none⟩ (.slice AL t.lo.length kL)).setCell ⟨g, i * 5 + 4, none⟩ (.slice AH t.hi.length kH)) base (.slice (some ⟨g, 0, none⟩) n c) n (css.set i [.int .i64 t.id, .int .i64 t.level, .int .i64 t.count, .slice AL t.lo.length kL, .slice AH t.hi.length kH]).flatten := by
    rw [← flat_set2 h.all _ _ hc]
    exact (((own_below h.own f2).stored _ _).1.stored _ _).1
  generalize (wH.setCell ⟨g, i * 5 + 3, none⟩ (.slice AL t.lo.length kL)).setCell ⟨g, i * 5 + 4, none⟩ (.slice AH t.hi.length kH) = W at hx ho hown ⊢
  refine ⟨hown, fun cs hm => ?_, ?_, ?_⟩
  · rcases List.mem_or_eq_of_mem_set hm with h' | h'
    · exact h.all _ h'
    · rw [h']; rfl
  · rw [List.drop_set_of_lt (by omega), ← List.drop_drop, ← List.drop_drop, h.old]
  · have e1 : (css.set i [.int .i64 t.id, .int .i64 t.level, .int .i64 t.count, .slice AL t.lo.length kL, .slice AH t.hi.length kH]).take (i + 1) = css.take i ++ [[.int .i64 t.id, .int .i64 t.level, .int .i64 t.count, .slice AL t.lo.length kL, .slice AH t.hi.length kH]] := by
      rw [take_snoc (e := [.int .i64 t.id, .int .i64 t.level, .int .i64 t.count, .slice AL t.lo.length kL, .slice AH t.hi.length kH]) (by rw [List.getElem?_set_self hi]), List.take_set_of_le (Nat.le_refl _)]
    rw [e1, take_snoc ht]
    refine all2_app (h.new.imp fun _ _ hz => tbFine.keep hz fun _ _ _ _ hr => ?_) (.cons hx .nil)
    exact ((hr.below f2).only ho fun j _ hj e => hj.2.1 (by rw [e]; rfl)).mono fun j hj => ⟨hj.1, hj.2.1, (hj.2.2.below f2).only ho fun e => hj.2.1 (by rw [e]; rfl)⟩
set_option maxRecDepth 100000 in
set_option maxHeartbeats 2000000 in
theorem mclone_any (S : Nat → Prop) (v : Value) (ts : List Tbl) (lg sq nx : Int) (w : World) (h : TabsV w S v ts) :
    Calls Tryz.prog 85 #[.agg #[v, .int .i64 lg, .int .i64 sq, .int .i64 nx]] w fun r w' => ∃ x, r = .returned (.agg #[x, .int .i64 lg, .int .i64 sq, .int .i64 nx]) ∧ OwnTabs w' w.heap.size x ts ∧ fr w w' := by
  obtain ⟨A, c, css0, rfl, hc1, hc2, hc3, hrow, hall⟩ := h
  obtain ⟨n, hn⟩ : ∃ n, ts.length = n := ⟨_, rfl⟩
  rw [hn] at hc1 hc3 hrow ⊢
  have HN := Lib.hid hn
  have hf1 : fr w ((w.alloc (.cells #[.slice A n c, .int .i64 lg, .int .i64 sq, .int .i64 nx] 50)).alloc (.cells #[.slice none 0 0, .int .i64 0, .int .i64 0, .int .i64 0] 50)) := fr.alloc (fr.alloc fr.refl _) _
  have b0 : ((w.alloc (.cells #[.slice A n c, .int .i64 lg, .int .i64 sq, .int .i64 nx] 50)).alloc (.cells #[.slice none 0 0, .int .i64 0, .int .i64 0, .int .i64 0] 50)).heap[w.heap.size]? = some (.cells #[.slice A n c, .int .i64 lg, .int .i64 sq, .int .i64 nx] 50 (0, 0)) := (Below.heap_alloc _ _ _ (by simp)).trans (heap_alloc_new w _)
  have b1 : ((w.alloc (.cells #[.slice A n c, .int .i64 lg, .int .i64 sq, .int .i64 nx] 50)).alloc (.cells #[.slice none 0 0, .int .i64 0, .int .i64 0, .int .i64 0] 50)).heap[w.heap.size + 1]? = some (.cells #[.slice none 0 0, .int .i64 0, .int .i64 0, .int .i64 0] 50 (0, 0)) := heap_at_new _ trivial (by simp)
  have hs1 : ((w.alloc (.cells #[.slice A n c, .int .i64 lg, .int .i64 sq, .int .i64 nx] 50)).alloc (.cells #[.slice none 0 0, .int .i64 0, .int .i64 0, .int .i64 0] 50)).heap.size = w.heap.size + 2 := by simp
  have HALL := Lib.hid hall
  have HROW := Lib.hid hrow
  have HONE := Lib.hid (tb_one hall)
  have HC := Lib.hid fun wx (hx : fr w wx) => cloneT_any S A n c css0.flatten wx (HROW.out.below hx) HONE.out hc3
  clear hall hrow hn
  go_enter Tryz.func85, Tryz.ntmps85
  go_upto_region 1 with (fail)
  obtain ⟨z, hz⟩ : ∃ z, w.heap.size = z := ⟨_, rfl⟩
  have HZ := Lib.hid hz
  rw [hz] at b0 b1 hs1 ⊢
  generalize (w.alloc (.cells #[.slice A n c, .int .i64 lg, .int .i64 sq, .int .i64 nx] 50)).alloc (.cells #[.slice none 0 0, .int .i64 0, .int .i64 0, .int .i64 0] 50) = w1 at hf1 b0 b1 hs1 ⊢
  have a0 := cell_of_row _ _ 0 _ _ _ b0
  have HF1 := Lib.hid hf1
  have HB0 := Lib.hid b0
  have HB1 := Lib.hid b1
  clear hf1 b0 b1 hz
  go_upto_region 2 with (go_at_call 141; refine (HC.out _ HF1.out).mono ?_; rintro r w2 ⟨A', c', rfl, ho2, f2⟩)
  have HO2 := Lib.hid ho2
  have HF2 := Lib.hid f2
  clear ho2 f2 a0
  go_wp2_with (fail)
  rcases Nat.eq_zero_or_pos n with h0 | h0
  · subst h0
    have hts : ts = [] := List.eq_nil_of_length_eq_zero HN.out
    subst hts
    go_loopw [10] (fun t wr => t = .int .i64 0 ∧ wr = w2) (fun _ _ => 0)
    case atStart => exact ⟨rfl, rfl⟩
    case round =>
      obtain ⟨rfl, rfl⟩ := hrel
      clear hc1 hc2 hc3
      have b0 := boxRowFr HB0.out HF2.out
      have b1 := boxRowFr HB1.out HF2.out
      have z0 := frozen_of_row _ _ 0 _ _ b0
      have e0 := cell_of_row _ _ 0 _ _ _ b0
      have b2 : (wr.setCell ⟨z, 0, none⟩ (.slice A' 0 c')).heap[z]? = some (.cells #[(.slice A' 0 c'), .int .i64 lg, .int .i64 sq, .int .i64 nx] 50 (0, 0)) := heap_setCell_same wr z 0 _ _ _ b0
      have e1 := cell_of_row _ _ 0 _ _ _ b2
      have e2 := cell_of_row _ _ 1 _ _ _ b2
      have e3 := cell_of_row _ _ 2 _ _ _ b2
      have e4 := cell_of_row _ _ 3 _ _ _ b2
      have b3 : (wr.setCell ⟨z, 0, none⟩ (.slice A' 0 c')).heap[z + 1]? = some (.cells #[.slice none 0 0, .int .i64 0, .int .i64 0, .int .i64 0] 50 (0, 0)) := (heap_setCell_other wr ⟨z, 0, none⟩ (z + 1) (.slice A' 0 c') (by simp)).trans b1
      have r0 := cell_of_row _ _ 0 _ _ _ b3
      have r1 := cell_of_row _ _ 1 _ _ _ b3
      have r2 := cell_of_row _ _ 2 _ _ _ b3
      have r3 := cell_of_row _ _ 3 _ _ _ b3
      have y0 := frozen_of_row _ _ 0 _ _ b3
      have y1 := frozen_of_row _ _ 1 _ _ b3
      have y2 := frozen_of_row _ _ 2 _ _ b3
      have y3 := frozen_of_row _ _ 3 _ _ b3
      have HB3 := Lib.hid b3
      go_wp2_with (fail)
      have P := put4_row HB3.out (a := (.slice A' 0 c')) (b := .int .i64 lg) (c := .int .i64 sq) (d := .int .i64 nx)
      have O := (only_set wr z 0 (.slice A' 0 c')).mono (fun i e => (.inl e : i = z ∨ i = z + 1)) |>.trans ((put4_only (W := wr.setCell ⟨z, 0, none⟩ (.slice A' 0 c')) (g := z + 1) (a := (.slice A' 0 c')) (b := .int .i64 lg) (c := .int .i64 sq) (d := .int .i64 nx)).mono fun i e => .inr e)
      unfold put4 at P O
      generalize ((((wr.setCell ⟨z, 0, none⟩ (.slice A' 0 c')).setCell ⟨z + 1, 0, none⟩ (.slice A' 0 c')).setCell ⟨z + 1, 1, none⟩ (.int .i64 lg)).setCell ⟨z + 1, 2, none⟩ (.int .i64 sq)).setCell ⟨z + 1, 3, none⟩ (.int .i64 nx) = w9 at P O ⊢
      have s0 := cell_of_row _ _ 0 _ _ _ P
      have s1 := cell_of_row _ _ 1 _ _ _ P
      have s2 := cell_of_row _ _ 2 _ _ _ P
      have s3 := cell_of_row _ _ 3 _ _ _ P
      refine bodyPost_ret (v := .agg #[(.slice A' 0 c'), .int .i64 lg, .int .i64 sq, .int .i64 nx]) (by simp [results, Tryz.results85, go_sem, s0, s1, s2, s3]) rfl ?_
      have HO9 := own_only HO2.out O fun g hg hS => by have := (HO2.out.lt g hg).1; omega
      have hcs0 : css0.flatten = [] := List.eq_nil_of_length_eq_zero (by simpa using HROW.out.1)
      rw [hcs0] at HO9
      refine ⟨_, rfl, ⟨[], ?_, .nil⟩, ?_⟩
      · have := HO9
        exact ⟨this.1, this.2.imp id fun ⟨g, cap, cur, q1, q2, q3⟩ => ⟨g, cap, cur, q1, by have := HZ.out; omega, q3⟩⟩
      · exact (fr.step HF1.out HF2.out).trans (O.below (Below.size (fr.step HF1.out HF2.out)) fun i h => by have := HZ.out; omega)
  · obtain ⟨g, cg, hE, hwg, _⟩ := own_pos HO2.out h0
    injection hE with e1 e2 e3
    subst e1 e3
    have hl0 : css0.length = n := by rw [← HALL.out.length, HN.out]
    have HL0 := Lib.hid hl0
    clear hl0
    go_loopw [10] (fun t wr => ∃ (i : Nat) (css : List (List Value)), i ≤ n ∧ t = .int .i64 i ∧ CloneI wr (z + 2) g n c' i ts css0 css ∧ css.length = n ∧ fr w1 wr) (fun t _ => n - (intOf t).toNat)
    case atStart =>
      refine ⟨0, css0, Nat.zero_le _, rfl, ⟨?_, tbT_len HALL.out, rfl, by simpa using All2.nil⟩, HL0.out, HF2.out⟩
      have := HO2.out
      rwa [hs1] at this
    case round =>
      obtain ⟨i, css, hi, rfl, hcl, hlen, hf⟩ := hrel
      have HCL := Lib.hid hcl
      have HF := Lib.hid hf
      have HLEN := Lib.hid hlen
      clear hcl hf hlen
      by_cases hin : i < n
      · obtain ⟨t, ht⟩ : ∃ t, ts[i]? = some t := ⟨_, List.getElem?_eq_getElem (by rw [HN.out]; exact hin)⟩
        obtain ⟨cx, hcx, a1, a2, rfl, ha1, ha2⟩ := HALL.out.at_ ht
        obtain ⟨A1, c1, rfl⟩ := slice_form ha1
        obtain ⟨A2, c2, rfl⟩ := slice_form ha2
        have hcss : css[i]? = some [.int .i64 t.id, .int .i64 t.level, .int .i64 t.count, .slice A1 t.lo.length c1, .slice A2 t.hi.length c2] := by
          have h1 : (css.drop i)[0]? = (css0.drop i)[0]? := by rw [HCL.out.old]
          rw [List.getElem?_drop, List.getElem?_drop, Nat.add_zero, hcx] at h1
          exact h1
        have x3 : wr.cell? ⟨g, i * 5 + 3, none⟩ = some (.slice A1 t.lo.length c1) := ownT_cell HCL.out.own (flat_at (j := 3) HCL.out.all hcss rfl)
        have x4 : wr.cell? ⟨g, i * 5 + 4, none⟩ = some (.slice A2 t.hi.length c2) := ownT_cell HCL.out.own (flat_at (j := 4) HCL.out.all hcss rfl)
        have hfw := fr.step HF1.out HF.out
        have HCLO := Lib.hid (clone_fr _ _ _ _ _ _ (ha1.below hfw))
        have HCHI := Lib.hid (clone_fr _ _ _ _ _ _ (ha2.below hfw))
        have HDR : Hid (fr wr wr.drew) := Lib.hid (fr.drew fr.refl)
        have HT := Lib.hid ht
        have HCSS := Lib.hid hcss
        have X3 : wr.drew.cell? ⟨g, i * 5 + 3, none⟩ = some (.slice A1 t.lo.length c1) := x3
        have X4 : wr.drew.cell? ⟨g, i * 5 + 4, none⟩ = some (.slice A2 t.hi.length c2) := x4
        have hi0 : (0 : Int) ≤ (i : Int) := by omega
        have hi1 : (i : Int) < (n : Int) := by omega
        clear ht hcss hcx ha1 ha2 hfw
        go_upto_region 5 with (fail)
        go_region_with (first
          | (go_at_call 89; (with_reducible refine Calls.mono (HCLO.out _ ?_) ?_); (focus (with_reducible exact HDR.out)); rintro r wL ⟨AL, kL, rfl, hbL, gL⟩; have pL := own_below HCL.out.own (fr.stepR HDR.out gL); have yL : wL.cell? ⟨g, i * 5 + 4, none⟩ = some (.slice A2 t.hi.length c2) := fr.cell gL X4)
          | (go_at_call 89; (with_reducible refine Calls.mono (HCHI.out _ ?_) ?_); (focus (with_reducible exact fr.stepR HDR.out gL)); rintro r wH ⟨AH, kH, rfl, hbH, gH⟩; have pH := own_below pL gH; have zH := pH.frozenAt (i * 5 + 3); have cH : wH.cell? ⟨g, i * 5 + 3, none⟩ = some (.slice A1 t.lo.length c1) := fr.cell gH (fr.cell gL X3); have p6 := (pH.stored (i * 5 + 3) (.slice AL t.lo.length kL)).1; have z6 := p6.frozenAt (i * 5 + 4); have c6 : (wH.setCell ⟨g, i * 5 + 3, none⟩ (.slice AL t.lo.length kL)).cell? ⟨g, i * 5 + 4, none⟩ = some (.slice A2 t.hi.length c2) := (by rw [World.cell?_setCell_other _ _ _ _ (by simp)]; exact fr.cell gH yL)))
        all_goals
          go_wp2_with (fail)
          have hstep := HCL.out.step HT.out HCSS.out (fr.stepR HDR.out gL) gH hbL hbH (Nat.le_refl _) (Below.size (fr.stepR HDR.out gL)) (by have := Below.size HF.out; omega)
          refine ⟨⟨i + 1, _, by omega, by go_num, hstep, by rw [List.length_set]; exact HLEN.out, ?_⟩, by simp [intOf]; omega⟩
          exact fr.putE (fr.putE (fr.stepR (fr.stepR (fr.stepR HF.out HDR.out) gL) gH) (by omega)) (by omega)
      · obtain rfl : i = n := by omega
        clear hi hin hc1 hc2 hc3
        have b0 := boxRowFr HB0.out HF.out
        have b1 := boxRowFr HB1.out HF.out
        have z0 := frozen_of_row _ _ 0 _ _ b0
        have e0 := cell_of_row _ _ 0 _ _ _ b0
        have b2 : (wr.setCell ⟨z, 0, none⟩ (.slice (some ⟨g, 0, none⟩) i c')).heap[z]? = some (.cells #[(.slice (some ⟨g, 0, none⟩) i c'), .int .i64 lg, .int .i64 sq, .int .i64 nx] 50 (0, 0)) := heap_setCell_same wr z 0 _ _ _ b0
        have e1 := cell_of_row _ _ 0 _ _ _ b2
        have e2 := cell_of_row _ _ 1 _ _ _ b2
        have e3 := cell_of_row _ _ 2 _ _ _ b2
        have e4 := cell_of_row _ _ 3 _ _ _ b2
        have b3 : (wr.setCell ⟨z, 0, none⟩ (.slice (some ⟨g, 0, none⟩) i c')).heap[z + 1]? = some (.cells #[.slice none 0 0, .int .i64 0, .int .i64 0, .int .i64 0] 50 (0, 0)) := (heap_setCell_other wr ⟨z, 0, none⟩ (z + 1) (.slice (some ⟨g, 0, none⟩) i c') (by simp)).trans b1
        have r0 := cell_of_row _ _ 0 _ _ _ b3
        have r1 := cell_of_row _ _ 1 _ _ _ b3
        have r2 := cell_of_row _ _ 2 _ _ _ b3
        have r3 := cell_of_row _ _ 3 _ _ _ b3
        have y0 := frozen_of_row _ _ 0 _ _ b3
        have y1 := frozen_of_row _ _ 1 _ _ b3
        have y2 := frozen_of_row _ _ 2 _ _ b3
        have y3 := frozen_of_row _ _ 3 _ _ b3
        have HB3 := Lib.hid b3
        go_wp2_with (fail)
        have P := put4_row HB3.out (a := (.slice (some ⟨g, 0, none⟩) i c')) (b := .int .i64 lg) (c := .int .i64 sq) (d := .int .i64 nx)
        have O := (only_set wr z 0 (.slice (some ⟨g, 0, none⟩) i c')).mono (fun i e => (.inl e : i = z ∨ i = z + 1)) |>.trans ((put4_only (W := wr.setCell ⟨z, 0, none⟩ (.slice (some ⟨g, 0, none⟩) i c')) (g := z + 1) (a := (.slice (some ⟨g, 0, none⟩) i c')) (b := .int .i64 lg) (c := .int .i64 sq) (d := .int .i64 nx)).mono fun i e => .inr e)
        unfold put4 at P O
        generalize ((((wr.setCell ⟨z, 0, none⟩ (.slice (some ⟨g, 0, none⟩) i c')).setCell ⟨z + 1, 0, none⟩ (.slice (some ⟨g, 0, none⟩) i c')).setCell ⟨z + 1, 1, none⟩ (.int .i64 lg)).setCell ⟨z + 1, 2, none⟩ (.int .i64 sq)).setCell ⟨z + 1, 3, none⟩ (.int .i64 nx) = w9 at P O ⊢
        have s0 := cell_of_row _ _ 0 _ _ _ P
        have s1 := cell_of_row _ _ 1 _ _ _ P
        have s2 := cell_of_row _ _ 2 _ _ _ P
        have s3 := cell_of_row _ _ 3 _ _ _ P
        refine bodyPost_ret (v := .agg #[(.slice (some ⟨g, 0, none⟩) i c'), .int .i64 lg, .int .i64 sq, .int .i64 nx]) (by simp [results, Tryz.results85, go_sem, s0, s1, s2, s3]) rfl ?_
        have hnew := HCL.out.new
        rw [List.take_of_length_le (by rw [HN.out]; exact Nat.le_refl _), List.take_of_length_le (by rw [HLEN.out]; exact Nat.le_refl _)] at hnew
        have h5 : OwnTabs wr (z + 2) (.slice (some ⟨g, 0, none⟩) i c') ts := ⟨css, by rw [HN.out]; exact HCL.out.own, hnew⟩
        exact ⟨_, rfl, OwnRows.rebaseF tbFine (OwnRows.onlyF tbFine h5 O (fun j hj _ e => by omega)) (by have := HZ.out; omega), (fr.step HF1.out HF.out).trans (O.below (Below.size (fr.step HF1.out HF.out)) fun i h => by have := HZ.out; omega)⟩
end Go.Proofs.YtjnolpfmchnnmaaGreatDoor
end
section
namespace Go.Proofs.YtjnolpfmchnnmaaGreatDoor
set_option maxRecDepth 100000
open Go.RowKit Go.BigFrame Go.Sort Go.Shelf Go.Lib
attribute [local go_sem ↓] Go.wp_at_zero Go.wp_at_succ
abbrev numFV (B : Nat) : Value := .func (.func 202) #[] #[.pointer (some ⟨B + 3, 0, none⟩), .pointer (some ⟨B, 0, none⟩), .pointer (some ⟨B + 2, 0, none⟩)]
structure RdI (w : World) (B : Nat) (bv : Value) (k : Nat) : Prop where
  byts : Boxed w B 35 bv
  at_ : Boxed w (B + 2) 3 (.int .i64 k)
  why : Boxed w (B + 3) 31 (.int .i64 0)
  num : Boxed w (B + 4) 36 (numFV B)
theorem RdI.only {w w' : World} {B k : Nat} {bv : Value} {S : Nat → Prop} (h : RdI w B bv k) (ho : Only S w w') (hS : ∀ i, S i → i < B ∨ B + 4 < i) : RdI w' B bv k :=
  ⟨boxedOnly h.byts ho fun h => by have := hS _ h; omega, boxedOnly h.at_ ho fun h => by have := hS _ h; omega, boxedOnly h.why ho fun h => by have := hS _ h; omega, boxedOnly h.num ho fun h => by have := hS _ h; omega⟩
theorem RdI.below {w w' : World} {B k : Nat} {bv : Value} (h : RdI w B bv k) (hf : fr w w') : RdI w' B bv k := h.only (S := fun _ => False) (Only.of_below hf) fun _ h => h.elim
theorem RdI.step {w : World} {B k k' : Nat} {bv : Value} {z : Int} (h : RdI w B bv k) (hz : z = (k' : Int)) : RdI ((w.setCell ⟨B + 2, 0, none⟩ (.int .i64 z)).setCell ⟨B + 3, 0, none⟩ (.int .i64 0)) B bv k' ∧ Only (fun i => i = B + 2 ∨ i = B + 3) w ((w.setCell ⟨B + 2, 0, none⟩ (.int .i64 z)).setCell ⟨B + 3, 0, none⟩ (.int .i64 0)) := by
  subst hz
  refine ⟨⟨(h.byts.other (by omega) _).other (by omega) _, ((h.at_.set _).other (by omega) _), (h.why.other (by omega) _).set _, (h.num.other (by omega) _).other (by omega) _⟩, ?_⟩
  exact ((only_set w (B + 2) 0 _).mono fun i h => .inl h).trans ((only_set _ (B + 3) 0 _).mono fun i h => .inr h)
set_option maxRecDepth 100000 in
set_option maxHeartbeats 1000000 in
theorem numR_any (S : Nat → Prop) (B b o n c k v : Nat) (bs rest : List UInt8) (w : World) (h : RdI w B (.slice (some ⟨b, o, none⟩) n c) k) (hv : Byt w S (.slice (some ⟨b, o, none⟩) n c) bs) (hn : bs.length = n) (hk : k ≤ n) (hr : bs.drop k = formN v ++ rest) (h63 : v < 9223372036854775808) :
    Calls Tryz.prog 202 #[.pointer (some ⟨B + 3, 0, none⟩), .pointer (some ⟨B, 0, none⟩), .pointer (some ⟨B + 2, 0, none⟩)] w fun r w' => r = .returned (.int .i64 v) ∧ RdI w' B (.slice (some ⟨b, o, none⟩) n c) (k + (formN v).length) ∧ Only (fun i => i = B + 2 ∨ i = B + 3) w w' := by
  have HU := Lib.hid (uint_any S b o n c k v bs rest w hv hn hk hr (by omega))
  have h1 := h.byts.cell
  have h2 := h.at_.cell
  have h3 := h.why.cell
  have z2 := h.at_.frozen
  obtain ⟨q, hq⟩ : ∃ q, k + (formN v).length = q := ⟨_, rfl⟩
  rw [hq] at HU ⊢
  have H := Lib.hid h
  have h4 := (h.why.other (show B + 3 ≠ B + 2 by omega) (.int .i64 q)).cell
  have z4 := (h.why.other (show B + 3 ≠ B + 2 by omega) (.int .i64 q)).frozen
  clear hv hn hk hr h hq
  go_enter Tryz.func202, Tryz.ntmps202
  go_wp2_with (go_at_call 150; refine HU.out.mono ?_; rintro r w1 ⟨rfl, rfl⟩)
  go_ret
  obtain ⟨r1, r2⟩ := H.out.step (k' := q) rfl
  exact ⟨rfl, r1, r2⟩
set_option maxRecDepth 100000 in
set_option maxHeartbeats 1000000 in
theorem textR_any (S : Nat → Prop) (B b o n c k : Nat) (bs xs rest : List UInt8) (w : World) (h : RdI w B (.slice (some ⟨b, o, none⟩) n c) k) (hv : Byt w S (.slice (some ⟨b, o, none⟩) n c) bs) (hn : bs.length = n) (hk : k ≤ n) (hr : bs.drop k = formN xs.length ++ xs ++ rest) (h0 : 0 < xs.length ∧ xs.length ≤ 200) :
    Calls Tryz.prog 203 #[.pointer (some ⟨B + 3, 0, none⟩), .pointer (some ⟨B, 0, none⟩), .pointer (some ⟨B + 2, 0, none⟩)] w fun r w' => ∃ A c', r = .returned (.slice A xs.length c') ∧ BytL w' w.heap.size (.slice A xs.length c') xs ∧ RdI w' B (.slice (some ⟨b, o, none⟩) n c) (k + (formN xs.length).length + xs.length) ∧ Only (fun i => i = B + 2 ∨ i = B + 3) w w' := by
  have HU := Lib.hid (vbytes_any S b o n c k 200 bs xs rest w hv hn hk hr h0.2 (by omega) h0.1)
  have h1 := h.byts.cell
  have h2 := h.at_.cell
  have h3 := h.why.cell
  obtain ⟨q, hq⟩ : ∃ q, k + (formN xs.length).length + xs.length = q := ⟨_, rfl⟩
  obtain ⟨m, hm⟩ : ∃ m, xs.length = m := ⟨_, rfl⟩
  rw [hq] at HU ⊢
  rw [hm]
  have H := Lib.hid h
  have HM := Lib.hid hm
  clear hv hn hk hr h hq hm h0
  go_enter Tryz.func203, Tryz.ntmps203
  go_wp2_with (go_at_call 151; refine HU.out.mono ?_; rintro r w1 ⟨v', rfl, hv1, f1⟩; obtain ⟨A1, k1, rfl⟩ := slice_form hv1; have g2 := (boxedFr H.out.at_ f1).cell; have z2 := (boxedFr H.out.at_ f1).frozen; have g3 := ((boxedFr H.out.why f1).other (show B + 3 ≠ B + 2 by omega) (.int .i64 q)).cell; have z3 := ((boxedFr H.out.why f1).other (show B + 3 ≠ B + 2 by omega) (.int .i64 q)).frozen)
  go_ret
  obtain ⟨r1, r2⟩ := (H.out.below f1).step (k' := q) rfl
  have hl := H.out.num.lt
  rw [HM.out] at hv1 ⊢
  exact ⟨_, _, rfl, BytL.only hv1 r2 (fun i hi _ e => by omega), r1, (Only.of_below f1).trans r2⟩
set_option maxRecDepth 100000 in
set_option maxHeartbeats 1000000 in
theorem signR_any (S : Nat → Prop) (B b o n c k v : Nat) (bs rest : List UInt8) (w : World) (h : RdI w B (.slice (some ⟨b, o, none⟩) n c) k) (hv : Byt w S (.slice (some ⟨b, o, none⟩) n c) bs) (hn : bs.length = n) (hk : k ≤ n) (hr : bs.drop k = formN (2 * v) ++ rest) (h62 : v < 4611686018427387904) :
    Calls Tryz.prog 204 #[.pointer (some ⟨B + 4, 0, none⟩)] w fun r w' => r = .returned (.int .i64 v) ∧ RdI w' B (.slice (some ⟨b, o, none⟩) n c) (k + (formN (2 * v)).length) ∧ Only (fun i => i = B + 2 ∨ i = B + 3) w w' := by
  have HU := Lib.hid (numR_any S B b o n c k (2 * v) bs rest w h hv hn hk hr (by omega))
  have h1 := h.num.cell
  have hand : bits BinOp.and IntKind.u64 (2 * (v : Int)) 1 = 0 := by
    have := bits_mask .u64 64 (by decide) (fun n h0 h1 => by rw [IntKind.wrap_u64]; omega) 1 (by decide) (2 * (v : Int)) (by omega) (by omega)
    rw [show ((2 : Int) ^ 1 - 1) = 1 by decide] at this
    rw [this]
    omega
  have hxor : bits BinOp.xor IntKind.i64 (v : Int) 0 = (v : Int) := by
    simp [bits, IntKind.wrap, IntKind.signed, IntKind.bits]
    erw [BitVec.xor_zero]
    rw [BitVec.toNat_ofNat]
    split <;> omega
  have eg := enters_of Tryz.func202 (by kernel_rfl) rfl
  obtain ⟨q, hq⟩ : ∃ q, k + (formN (2 * v)).length = q := ⟨_, rfl⟩
  rw [hq] at HU ⊢
  clear hv hn hk hr h hq
  go_enter Tryz.func204, Tryz.ntmps204
  go_wp2_with ((first | go_at_call 202 | go_at_fn 202); refine HU.out.mono ?_; rintro r w1 ⟨rfl, hi1, ho1⟩)
  go_ret
  exact ⟨rfl, hi1, ho1⟩
end Go.Proofs.YtjnolpfmchnnmaaGreatDoor
end
section
namespace Go.Proofs.YtjnolpfmchnnmaaGreatDoor
set_option maxRecDepth 100000
open Go
section
variable {P : Program} {md : Region.Mode} {l : List Oper} {Q : Exit → Act → World → Prop} {S : World → Prop} {n : Nat}
def wpAnyT (P : Program) (md : Region.Mode) (ops : Array Oper) (Q : Exit → Act → World → Prop) (S : World → Prop) (n : Nat) : Nat → Array Bool → Act → World → Prop
  | 0, listed, a, w => Region.ready md ops listed = [] ∧ Q .normal a w
  | fuel + 1, listed, a, w =>
    (Region.ready md ops listed = [] → Q .normal a w) ∧
    ∀ i ∈ Region.ready md ops listed, wpOp P ops Q i (fun a' w' => (i < n → S w') ∧ wpAnyT P md ops Q S n fuel (listed.setIfInBounds i true) a' w') a w
theorem wpAny_of_T {ops : Array Oper} : ∀ (fuel : Nat) (listed : Array Bool) (a : Act) (w : World), wpAnyT P md ops Q S n fuel listed a w → wpAny P md ops Q fuel listed a w
  | 0, _, _, _, h => h
  | fuel + 1, _, _, _, h => ⟨h.1, fun i hi => wpOp_mono (fun a' w' h' => wpAny_of_T fuel _ a' w' h'.2) (h.2 i hi)⟩
theorem wpAnyT_first {ops : Array Oper} {i : Nat} {oi : Oper} {v : Value} (hi : ops[i]? = some oi) (hsel : ∀ (j : Nat) (o : Oper) cs b, ops[j]? = some o → o.op ≠ .select cs b)
    (hQ : ∀ c a w, Q (.panic c) (a.put oi.dst v) w → Q (.panic c) a w) (hk : Region.sinkB md ops n = true) (hc : Region.chainB md ops n = true) (hn : n < ops.size) (hin : i < n) :
    ∀ (fuel : Nat) (listed : Array Bool) (a : Act) (w : World), HeadInv md ops n listed →
      (∀ j oj, ops[j]? = some oj → j ≠ i → listed.getD j true = false → (∀ e ∈ oj.after, Region.binds md e = true → e.on ≠ i) → oi.apart ops oj = true) →
      i ∈ Region.ready md ops listed → YieldsIf P ops S oi v a → S w →
      wpAnyT P md ops Q S n fuel (listed.setIfInBounds i true) (a.put oi.dst v) w → wpAnyT P md ops Q S n (fuel + 1) listed a w := by
  intro fuel
  induction fuel with
  | zero =>
    intro listed a w inv _ hr hy hS H
    refine ⟨fun h => (by rw [h] at hr; cases hr), fun j hj => ?_⟩
    by_cases hji : j = i
    · subst hji; exact hy.wpOp hi hS ⟨fun _ => hS, H⟩
    · have := ready_mono hj hji
      rw [H.1] at this
      cases this
  | succ fuel ih =>
    intro listed a w inv hfree hr hy hS H
    have hun := (mem_ready.1 hr).1
    refine ⟨fun h => (by rw [h] at hr; cases hr), fun j hj => ?_⟩
    have hjn : j < n := by
      rcases Nat.lt_or_ge j n with h | h
      · exact h
      · exact absurd hj (tail_waits hk hc hn inv _ i rfl hin hun j h)
    by_cases hji : j = i
    · subst hji; exact hy.wpOp hi hS ⟨fun _ => hS, H⟩
    · have h1 := H.2 j (ready_mono hj hji)
      obtain ⟨hjun, oj, hoj, hall⟩ := mem_ready.1 hj
      have hnot : ∀ e ∈ oj.after, Region.binds md e = true → e.on ≠ i := fun e he hb heq => by
        have h1 := hall e he hb
        rw [heq, getD_both hun] at h1
        cases h1
      have h2 := wpOp_putIf hoj (hfree j oj hoj hji hjun hnot) (fun cs b => hsel i oi cs b hi) (fun cs b => hsel j oj cs b hoj) hQ hy h1
      have hfree' : ∀ k ok, ops[k]? = some ok → k ≠ i → (listed.setIfInBounds j true).getD k true = false →
          (∀ e ∈ ok.after, Region.binds md e = true → e.on ≠ i) → oi.apart ops ok = true := fun k ok hk hki hun hno => by
        refine hfree k ok hk hki ?_ hno
        by_cases hjk : j = k
        · subst hjk; exact hjun
        · rw [getD_set_ne true hjk] at hun; exact hun
      refine wpOp_mono (fun a' w' h3 => ⟨h3.2.1, ih (listed.setIfInBounds j true) a' w' (inv.set hj hjn) hfree' (ready_mono hr (Ne.symm hji)) h3.1 (h3.2.1 hjn) ?_⟩) h2
      rw [Array.setIfInBounds_comm _ _ hji]
      exact h3.2.2
def GoT (P : Program) (md : Region.Mode) (l : List Oper) (Q : Exit → Act → World → Prop) (S : World → Prop) (n fuel : Nat) (listed : Array Bool) (a : Act) (w : World) : Prop :=
  HeadInv md l.toArray n listed → wpAnyT P md l.toArray Q S n fuel listed a w
def Region.tailB (md : Region.Mode) (ops : Array Oper) (n : Nat) : Bool := Region.noSelect ops && decide (n < ops.size) && Region.sinkB md ops n && Region.chainB md ops n
theorem Region.tailB_spec {ops : Array Oper} (h : Region.tailB md ops n = true) : Region.noSelect ops = true ∧ n < ops.size ∧ Region.sinkB md ops n = true ∧ Region.chainB md ops n = true := by
  unfold Region.tailB at h
  simp only [Bool.and_eq_true, decide_eq_true_eq] at h
  exact ⟨h.1.1.1, h.1.1.2, h.1.2, h.2⟩
theorem got_take {i : Nat} {oi : Oper} {v : Value} {fuel : Nat} {listed : Array Bool} {a : Act} {w : World} (hB : Region.tailB md l.toArray n = true) (hi : l[i]? = some oi) (hin : i < n)
    (hf : Region.free md l.toArray listed i = true) (hr : (Region.ready md l.toArray listed).contains i = true)
    (hQ : ∀ c a w, Q (.panic c) (a.put oi.dst v) w → Q (.panic c) a w) (hy : YieldsIf P l.toArray S oi v a) (hS : S w)
    (h : GoT P md l Q S n fuel (listed.setIfInBounds i true) (a.put oi.dst v) w) : GoT P md l Q S n (fuel + 1) listed a w := fun inv => by
  obtain ⟨b1, b2, b3, b4⟩ := Region.tailB_spec hB
  have hi' : l.toArray[i]? = some oi := by simpa using hi
  have hr' : i ∈ Region.ready md l.toArray listed := by simpa using hr
  exact wpAnyT_first hi' (Region.noSelect_spec b1) hQ b3 b4 b2 hin fuel listed a w inv (Region.free_spec hi' hf) hr' hy hS (h (inv.set hr' hin))
theorem got_one {i : Nat} {o : Oper} {fuel : Nat} {listed : Array Bool} {a : Act} {w : World} (hi : l[i]? = some o) (hin : i < n) (hr : Region.ready md l.toArray listed = [i])
    (h : ∀ K' : Act → World → Prop, Shut (∀ a w, S w → (S w → GoT P md l Q S n fuel (listed.setIfInBounds i true) a w) → K' a w) → if Region.wanted o (yielded l.toArray a.tmps) = true then Oper.wp P o a w K' Q else K' (a.put o.dst undef) w) :
    GoT P md l Q S n (fuel + 1) listed a w := fun inv => by
  have hi' : l.toArray[i]? = some o := by simpa using hi
  refine ⟨fun h0 => (by rw [hr] at h0; cases h0), fun j hj => ?_⟩
  have hji : j = i := by rw [hr] at hj; simpa using hj
  subst hji
  exact wpOp_step hi' (fun K' hK => h K' (fun a w hS hW => hK a w ⟨fun _ => hS, hW hS (inv.set hj hin)⟩))
theorem wpAnyT_of_seq {ops : Array Oper} : ∀ (l : List Oper) (k : Nat) (listed : Array Bool) (a : Act) (w : World), n ≤ k → (∀ j, l[j]? = ops[k + j]?) →
    Region.seqB md ops l.length k listed = true → wpList P ops Q l a w → wpAnyT P md ops Q S n l.length listed a w
  | [], _, _, _, _, _, _, hB, h => ⟨by simpa [Region.seqB] using hB, h⟩
  | o :: l, k, listed, a, w, hnk, hl, hB, h => by
    have h0 : ops[k]? = some o := by simpa using (hl 0).symm
    simp only [List.length_cons, Region.seqB, Bool.and_eq_true, decide_eq_true_eq] at hB
    refine ⟨fun h1 => (by rw [hB.1] at h1; cases h1), fun i hi => ?_⟩
    rw [hB.1] at hi
    have hik : i = k := by simpa using hi
    subst hik
    have hw : wpOp P ops Q i (wpList P ops Q l) a w := by unfold wpOp; simp only [h0]; exact h
    exact wpOp_mono (fun a' w' h' => ⟨fun hlt => by omega, wpAnyT_of_seq l (i + 1) _ a' w' (by omega) (fun j => by have := hl (j + 1); simpa [Nat.add_assoc, Nat.add_comm 1 j] using this) hB.2 h'⟩) hw
theorem got_tail {fuel : Nat} {listed : Array Bool} {a : Act} {w : World} (hB : Region.seqB md l.toArray fuel n listed = true) (hn : fuel = (l.drop n).length) (h : wpList P l.toArray Q (l.drop n) a w) : GoT P md l Q S n fuel listed a w := fun _ => by
  subst hn
  exact wpAnyT_of_seq (l.drop n) n listed a w (Nat.le_refl _) (fun j => by simp [List.getElem?_drop]) hB h
theorem wp_region_got {id : Nat} {a : Act} {w : World} (n : Nat) (hm : P.follows .mixedOrders = true) (hB : Region.tailB .any l.toArray n = true) (hS : S w.drew)
    (h : S w.drew → GoT P .any l Q S n l.toArray.size (Array.replicate l.toArray.size false) a w.drew) : (Code.region id l.toArray true).wp P Q a w := by
  obtain ⟨b1, b2, b3, b4⟩ := Region.tailB_spec hB
  have inv0 : HeadInv .any l.toArray n (Array.replicate l.toArray.size false) :=
    ⟨by simp, fun j oj _ hl => (by rw [getD_replicate_false] at hl; cases hl), fun t _ ht => getD_in (by simpa using ht) (getD_replicate_false _ _)⟩
  exact wp_region_any hm (wpAny_of_T _ _ _ _ (h hS inv0))
end
end Go.Proofs.YtjnolpfmchnnmaaGreatDoor
end
