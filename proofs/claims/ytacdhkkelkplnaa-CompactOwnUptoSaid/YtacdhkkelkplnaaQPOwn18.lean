/-
law 14: CompactOwn, where it begins: the copies.
-/
import Derived.Test.YtacdhkkelkplnaaQPOwn17
import Derived.Test.YtacdhkkelkplnaaQPOwn13
import Derived.Test.YtacdhkkelkplnaaQPOwn11
import Derived.Deep.Cut
import Derived.Deep.CutRange
import Derived.Deep.DeepCutAuto
section
namespace Go.Proofs.Ytacdhkkelkplnaa
open Go.RowKit Go.BigFrame
attribute [local go_sem ↓] Go.wp_at_zero Go.wp_at_succ
theorem fr.four {W w' : World} {b : Nat} {x y z u : Value} (h : fr W w') (c0 : W.cell? ⟨b, 0, none⟩ = some x) (c1 : W.cell? ⟨b, 1, none⟩ = some y) (c2 : W.cell? ⟨b, 2, none⟩ = some z) (c3 : W.cell? ⟨b, 3, none⟩ = some u) : w'.cell? ⟨b, 0, none⟩ = some x ∧ w'.cell? ⟨b, 1, none⟩ = some y ∧ w'.cell? ⟨b, 2, none⟩ = some z ∧ w'.cell? ⟨b, 3, none⟩ = some u := ⟨h.cell c0, h.cell c1, h.cell c2, h.cell c3⟩
theorem fr.put {W X : World} {pb j : Nat} {u : Value} (h : fr W X) (hp : W.heap.size ≤ pb) : fr W (X.setCell ⟨pb, j, none⟩ u) := RowKit.Below.setCell h hp u
theorem drewH {w : World} {i : Nat} {x : Obj} (h : w.heap[i]? = some x) : w.drew.heap[i]? = some x := h
theorem newV (w : World) (a b c d : Value) : (w.alloc (.cells #[a, b, c, d] 54)).heap[w.heap.size]? = some (.cells #[a, b, c, d] 54 (0, 0)) := heap_alloc_new w _
theorem put4 {w : World} {pb : Nat} {a b c d u0 u1 u2 u3 : Value} (h : w.heap[pb]? = some (.cells #[a, b, c, d] 54 (0, 0))) :
    ((((w.setCell ⟨pb, 0, none⟩ u0).setCell ⟨pb, 1, none⟩ u1).setCell ⟨pb, 2, none⟩ u2).setCell ⟨pb, 3, none⟩ u3).heap[pb]? = some (.cells #[u0, u1, u2, u3] 54 (0, 0)) :=
  heap_setCell_same _ _ _ _ _ _ (heap_setCell_same _ _ _ _ _ _ (heap_setCell_same _ _ _ _ _ _ (heap_setCell_same w _ _ _ _ _ h)))
theorem hpA {w w' : World} {a b c d : Value} (g : fr (w.alloc (.cells #[a, b, c, d] 54)).drew w') : w'.heap[w.heap.size]? = some (.cells #[a, b, c, d] 54 (0, 0)) := fr.hp g (drewH (newV w a b c d))
theorem hpB {w w' : World} {a b c d : Value} (g : fr (w.alloc (.cells #[a, b, c, d] 54)) w') : w'.heap[w.heap.size]? = some (.cells #[a, b, c, d] 54 (0, 0)) := fr.hp g (newV w a b c d)
theorem hpC {w w' : World} {pb : Nat} {a b c d u0 u1 u2 u3 : Value} (g : fr ((((w.setCell ⟨pb, 0, none⟩ u0).setCell ⟨pb, 1, none⟩ u1).setCell ⟨pb, 2, none⟩ u2).setCell ⟨pb, 3, none⟩ u3) w') (h : w.heap[pb]? = some (.cells #[a, b, c, d] 54 (0, 0))) : w'.heap[pb]? = some (.cells #[u0, u1, u2, u3] 54 (0, 0)) := fr.hp g (put4 h)
theorem own_le' {w : World} {base : Nat} {e : TypeId} {size n : Nat} {v : Value} {xs : List Value} (h : w.ownsRow base e size v n xs) : n ≤ 9223372036854775807 := by
  rcases h.2 with ⟨_, rfl⟩ | ⟨g, cap, cur, _, _, _, h2, h3, _⟩
  · omega
  · unfold maxLen at h3; omega
theorem Only.step {S : Nat → Prop} {a b c : World} (h : Only S a b) (g : fr b c) : Only S a c := h.trans (Only.of_below g)
theorem Only.put {a b : World} {pb j : Nat} {u : Value} (h : Only (fun i => i = pb) a b) : Only (fun i => i = pb) a (b.setCell ⟨pb, j, none⟩ u) := Only.setCell (S := fun i => i = pb) (p := ⟨pb, j, none⟩) h rfl u
theorem leaf14 {w1 w2 w3 wc : World} {x y : Value} {A1 A2 : Option Addr} {n c1 pb m c2 lo2 lo3 : Nat} {lg sq nx : Int} {ls : List (List Ent)} {ts : List Tbl} (hx : x = .slice A1 n c1) (hy : y = .pointer (some ⟨pb, 0, none⟩)) (hl : Lists w2 (fun i => lo2 ≤ i ∧ i < w2.heap.size) (.slice A1 n c1) ls)
    (ht : OwnTabs w3 lo3 (.slice A2 m c2) ts) (hf : fr w1 wc) (hp : wc.heap[pb]? = some (.cells #[.slice A2 m c2, .int .i64 lg, .int .i64 sq, .int .i64 nx] 54 (0, 0))) (o2 : Only (fun i => i = pb) w2 wc) (o3 : Only (fun i => i = pb) w3 wc)
    (hlo2 : w1.heap.size ≤ lo2) (d2 : pb < lo2 ∨ w2.heap.size ≤ pb) (hlo3 : w1.heap.size ≤ lo3) (d3 : pb < lo3 ∨ w3.heap.size ≤ pb) (hpb : w1.heap.size ≤ pb) :
    ∃ (A1 : Option Addr) (c1 pb : Nat) (A2 : Option Addr) (c2 : Nat), x = .slice A1 n c1 ∧ y = .pointer (some ⟨pb, 0, none⟩) ∧ Lists wc (fun i => w1.heap.size ≤ i) (.slice A1 n c1) ls ∧ wc.heap[pb]? = some (.cells #[.slice A2 m c2, .int .i64 lg, .int .i64 sq, .int .i64 nx] 54 (0, 0)) ∧ w1.heap.size ≤ pb ∧ OwnTabs wc w1.heap.size (.slice A2 m c2) ts ∧ fr w1 wc :=
  ⟨A1, c1, pb, A2, c2, hx, hy, (hl.only o2 (fun i _ h1 h2 => by omega)).mono fun i _ h => by omega, hp, hpb, (OwnRows.only tbFine ht o3 fun i h1 h2 h3 => by omega).rebase tbFine hlo3, hf⟩
set_option maxRecDepth 100000 in
set_option maxHeartbeats 4000000 in
theorem ownLaw14 (v : Value) (ls : List (List Ent)) (vv : Value) (b : List Tbl × Int × Int × Int) (vh : Value) (a : Int × Int × Bool) (w : World) (hv : Lists w (fun _ => True) v ls) (hN : total ls ≤ 1048576) (hb : VerV w (fun _ => True) vv b.1 b.2.1 b.2.2.1 b.2.2.2) (hh : HowV vh a) :
    Calls Try.prog 6 #[v, vv, vh] w fun r w' => r = .returned (.bool true) ∧ Below w.heap.size w w' := by
  obtain ⟨mark, size, bottom⟩ := a
  obtain ⟨ts, lg, sq, nx⟩ := b
  obtain ⟨rfl, _, _⟩ := hh
  obtain ⟨xv, rfl, ht⟩ := hb
  simp only at ht ⊢
  obtain ⟨At, ct, rfl⟩ := ht.form
  obtain ⟨A, c, rfl⟩ : ∃ A c, v = .slice A ls.length c := by obtain ⟨A, c, _, e, _⟩ := hv; exact ⟨A, c, e⟩
  obtain ⟨n, hn⟩ : ∃ n, ls.length = n := ⟨_, rfl⟩
  obtain ⟨m, hm⟩ : ∃ m, ts.length = m := ⟨_, rfl⟩
  rw [hn] at hv ⊢
  rw [hm] at ht ⊢
  have HNN := Lib.hid hn
  have HMM := Lib.hid hm
  have HN := Lib.hid hN
  have HV := Lib.hid hv.lt
  have HT := Lib.hid (ht.lt tbFine)
  have P0 : ((w.alloc (.cells #[.slice At m ct, .int .i64 lg, .int .i64 sq, .int .i64 nx] 54)).alloc (.cells #[.int .i64 mark, .int .i64 size, .bool bottom] 32)).heap[w.heap.size]? = some (.cells #[.slice At m ct, .int .i64 lg, .int .i64 sq, .int .i64 nx] 54 (0, 0)) := (Below.heap_alloc _ _ _ (by simp)).trans (heap_alloc_new w _)
  have P1 : ((w.alloc (.cells #[.slice At m ct, .int .i64 lg, .int .i64 sq, .int .i64 nx] 54)).alloc (.cells #[.int .i64 mark, .int .i64 size, .bool bottom] 32)).heap[w.heap.size + 1]? = some (.cells #[.int .i64 mark, .int .i64 size, .bool bottom] 32 (0, 0)) := heap_at_new _ trivial (by simp)
  clear hv hN hn hm ht
  go_enter Try.func6, Try.ntmps6
  go_upto_region 3 with (go_at_call 7; refine (wakes_any _).mono ?_; rintro r w1 ⟨rfl, hb1⟩; have p0 := fr.hp hb1 P0; have p1 := fr.hp hb1 P1; have hf1 : fr w w1 := fr.step (fr.alloc (fr.alloc fr.refl _) _) hb1; clear hb1 P0 P1)
  have HF1 := Lib.hid hf1
  have HP0 := Lib.hid p0
  have HP1 := Lib.hid p1
  have b0 := cell_of_row w1 _ 0 _ _ _ p0
  have b1 := cell_of_row w1 _ 1 _ _ _ p0
  have b2 := cell_of_row w1 _ 2 _ _ _ p0
  have b3 := cell_of_row w1 _ 3 _ _ _ p0
  have CL : Hid (∀ wx, fr w1 wx → Calls Try.prog 11 #[.slice A n c] wx fun r w' => ∃ A' c', r = .returned (.slice A' n c') ∧ Lists w' (fun i => wx.heap.size ≤ i ∧ i < w'.heap.size) (.slice A' n c') ls ∧ fr w1 w' ∧ fr wx w') := Lib.hid fun wx hx => (lists_any _ _ ls wx ((HV.out.below HF1.out).below hx)).mono fun r w' h => by
    obtain ⟨v', rfl, h1, h2⟩ := h
    obtain ⟨A', c', _, e', _⟩ := id h1
    rw [HNN.out] at e'
    subst e'
    exact ⟨A', c', rfl, h1.mono fun i hi h => ⟨h, hi⟩, fr.step hx h2, h2⟩
  have CV : Hid (∀ wx, fr w1 wx → Calls Try.prog 17 #[.agg #[.slice At m ct, .int .i64 lg, .int .i64 sq, .int .i64 nx]] wx fun r w' => ∃ A' c', r = .returned (.agg #[.slice A' m c', .int .i64 lg, .int .i64 sq, .int .i64 nx]) ∧ OwnTabs w' wx.heap.size (.slice A' m c') ts ∧ fr w1 w' ∧ fr wx w') := Lib.hid fun wx hx => (vercopy_any _ _ ts lg sq nx wx ((HT.out.below tbFine HF1.out).below tbFine hx)).mono fun r w' h => by
    obtain ⟨A', c', rfl, h1, h2⟩ := h
    rw [HMM.out] at h1 ⊢
    exact ⟨A', c', rfl, h1, fr.step hx h2, h2⟩
  clear hf1 p0 p1
  go_cut [7, 8] (fun x y wc => ∃ (A1 : Option Addr) (c1 pb : Nat) (A2 : Option Addr) (c2 : Nat), x = .slice A1 n c1 ∧ y = .pointer (some ⟨pb, 0, none⟩) ∧ Lists wc (fun i => w1.heap.size ≤ i) (.slice A1 n c1) ls ∧ wc.heap[pb]? = some (.cells #[.slice A2 m c2, .int .i64 lg, .int .i64 sq, .int .i64 nx] 54 (0, 0)) ∧ w1.heap.size ≤ pb ∧ OwnTabs wc w1.heap.size (.slice A2 m c2) ts ∧ fr w1 wc)
  case first =>
    go_region_held3 (fun w' => w'.cell? ⟨w.heap.size, 0, none⟩ = some (.slice At m ct) ∧ w'.cell? ⟨w.heap.size, 1, none⟩ = some (.int .i64 lg) ∧ w'.cell? ⟨w.heap.size, 2, none⟩ = some (.int .i64 sq) ∧ w'.cell? ⟨w.heap.size, 3, none⟩ = some (.int .i64 nx))
      ((refine fr.four (W := w1) ?_ b0 b1 b2 b3; (focus ((repeat (first | with_reducible assumption | with_reducible exact fr.refl | with_reducible refine fr.alloc ?_ _ | with_reducible refine fr.drew ?_ | with_reducible refine fr.put ?_ ?_)); (all_goals (first | with_reducible assumption | with_reducible exact Nat.le_refl _)))); done))
      (first
        | (go_split_ands; go_at_call 11; (with_reducible (refine Calls.mono (CL.out _ ?_) ?_)); (focus ((repeat (first | with_reducible assumption | with_reducible exact fr.refl | with_reducible refine fr.alloc ?_ _ | with_reducible refine fr.drew ?_ | with_reducible refine fr.put ?_ ?_)); (all_goals (first | with_reducible assumption | with_reducible exact Nat.le_refl _)))); rintro r w2 ⟨A2, c2, rfl, hl2, f2, g2⟩; (have z2 := Below.size f2); (have y2 := Below.size g2); (try rw [World.size_alloc] at y2); (try rw [World.size_drew] at y2); (first | with_reducible have pA := hpA g2 | with_reducible have pA := hpB g2 | with_reducible have pA := hpC g2 pA | with_reducible have pA := fr.hp g2 pA | skip); (try rw [World.size_drew] at pA); (try (have a0 := cell_of_row w2 _ 0 _ _ _ pA; have a1 := cell_of_row w2 _ 1 _ _ _ pA; have a2 := cell_of_row w2 _ 2 _ _ _ pA; have a3 := cell_of_row w2 _ 3 _ _ _ pA; have af : ∀ i, w2.frozen? ⟨_, i, none⟩ = false := fun i => frozen_of_row w2 _ i _ _ pA)))
        | (go_split_ands; go_at_call 17; (with_reducible (refine Calls.mono (CV.out _ ?_) ?_)); (focus ((repeat (first | with_reducible assumption | with_reducible exact fr.refl | with_reducible refine fr.alloc ?_ _ | with_reducible refine fr.drew ?_ | with_reducible refine fr.put ?_ ?_)); (all_goals (first | with_reducible assumption | with_reducible exact Nat.le_refl _)))); rintro r w3 ⟨A3, c3, rfl, hl3, f3, g3⟩; (have z3 := Below.size f3); (have y3 := Below.size g3); (try rw [World.size_alloc] at y3); (try rw [World.size_drew] at y3); (first | with_reducible have pA := hpA g3 | with_reducible have pA := hpB g3 | with_reducible have pA := hpC g3 pA | with_reducible have pA := fr.hp g3 pA | skip); (try rw [World.size_drew] at pA); (try (have a0 := cell_of_row w3 _ 0 _ _ _ pA; have a1 := cell_of_row w3 _ 1 _ _ _ pA; have a2 := cell_of_row w3 _ 2 _ _ _ pA; have a3 := cell_of_row w3 _ 3 _ _ _ pA; have af : ∀ i, w3.frozen? ⟨_, i, none⟩ = false := fun i => frozen_of_row w3 _ i _ _ pA))))
    all_goals
      go_wp2_with fail
      go_meet
      case rel =>
        refine leaf14 rfl rfl hl2 hl3 ?_ ?_ ?_ ?_ ?_ ?_ ?_ ?_ ?_
        · (repeat (first | with_reducible assumption | with_reducible exact fr.refl | with_reducible refine fr.alloc ?_ _ | with_reducible refine fr.drew ?_ | with_reducible refine fr.put ?_ ?_)); (all_goals (first | with_reducible assumption | with_reducible exact Nat.le_refl _))
        · first
            | with_reducible exact pA
            | with_reducible exact put4 pA
            | with_reducible exact newV _ _ _ _ _
        · (repeat (first | with_reducible exact Only.refl _ _ | with_reducible refine Only.drew ?_ | with_reducible refine Only.alloc ?_ _ | with_reducible refine Only.put ?_ | with_reducible refine Only.step ?_ g2 | with_reducible refine Only.step ?_ g3))
        · (repeat (first | with_reducible exact Only.refl _ _ | with_reducible refine Only.drew ?_ | with_reducible refine Only.alloc ?_ _ | with_reducible refine Only.put ?_ | with_reducible refine Only.step ?_ g2 | with_reducible refine Only.step ?_ g3))
        all_goals (first | omega | (simp only [World.size_alloc, World.size_drew] at *; omega) | (trace_state; omega))
  case rest =>
    obtain ⟨A1, c1, pb, A2, c2, rfl, rfl, hli, hpb, hpn, hot, hfc⟩ := hcut
    have hm72 : ts.length * 72 ≤ 140737488355328 := by obtain ⟨_, _, _, _, _, _, h3, _⟩ := HT.out; exact h3
    have hpl := (Array.getElem?_eq_some_iff.1 hpb).1
    have HLI := Lib.hid hli.lt
    have HPB := Lib.hid hpb
    have HPL := Lib.hid hpl
    have HTC := Lib.hid ((OwnRows.rows (bytes := 72) tbFine hot hm72).mono tbFine (S' := fun i => i < wc.heap.size) fun i hi => hi.2)
    have HFC := Lib.hid (fr.step HF1.out hfc)
    have hz0 := HFC.out.size
    have HV0 := Lib.hid (HV.out.below HFC.out).lt
    have HT0 := Lib.hid ((HT.out.below tbFine HFC.out).lt tbFine)
    have hq0 := fr.hp hfc HP0.out
    have hq1 := fr.hp hfc HP1.out
    have HQ0 := Lib.hid hq0
    have HQ1 := Lib.hid hq1
    have d0 : wc.cell? ⟨w.heap.size + 1, 0, none⟩ = some (.int .i64 mark) := cell_of_row wc _ 0 _ _ _ hq1
    have d1 : wc.cell? ⟨w.heap.size + 1, 1, none⟩ = some (.int .i64 size) := cell_of_row wc _ 1 _ _ _ hq1
    have d2 : wc.cell? ⟨w.heap.size + 1, 2, none⟩ = some (.bool bottom) := cell_of_row wc _ 2 _ _ _ hq1
    have p0 : wc.cell? ⟨pb, 0, none⟩ = some (.slice A2 m c2) := cell_of_row wc pb 0 _ _ _ hpb
    have p1 : wc.cell? ⟨pb, 1, none⟩ = some (.int .i64 lg) := cell_of_row wc pb 1 _ _ _ hpb
    have p2 : wc.cell? ⟨pb, 2, none⟩ = some (.int .i64 sq) := cell_of_row wc pb 2 _ _ _ hpb
    have p3 : wc.cell? ⟨pb, 3, none⟩ = some (.int .i64 nx) := cell_of_row wc pb 3 _ _ _ hpb
    obtain ⟨P, hP⟩ : ∃ P, runL ls mark bottom size = P := ⟨_, rfl⟩
    obtain ⟨e, he⟩ : ∃ e, runN ls size = e := ⟨_, rfl⟩
    obtain ⟨np, hnp⟩ : ∃ k, P.length = k := ⟨_, rfl⟩
    obtain ⟨⟨ids, lv, ok⟩, hpk⟩ : ∃ x, pickC ts 2 = x := ⟨_, rfl⟩
    obtain ⟨q, hq⟩ : ∃ k, ids.length = k := ⟨_, rfl⟩
    have hN64 : total ls * 64 ≤ 140737488355328 := by have := HN.out; omega
    have CR : Hid (∀ wx, fr wc wx → Calls Try.prog 10 #[.slice A1 n c1, .int .i64 mark, .bool bottom, .int .i64 size] wx fun r w' => ∃ A3 c3, r = .returned (.tuple #[.slice A3 np c3, .int .i64 e]) ∧ Lists2 w' (hardB w' wx.heap.size) (softB w' wx.heap.size) (.slice A3 np c3) P ∧ fr wc w' ∧ fr wx w') := Lib.hid fun wx hx => (run_any _ _ ls mark bottom size wx (HLI.out.below hx).lt (fun _ h => h) hN64).mono fun r w' h => by
      obtain ⟨v', rfl, h1, h2⟩ := h
      rw [hP] at h1
      rw [he]
      obtain ⟨A3, c3, rfl⟩ := h1.form
      rw [hnp] at h1 ⊢
      exact ⟨A3, c3, rfl, h1, fr.step hx h2, h2⟩
    have CQ : Hid (∀ wx, Lists wx (fun i => i < wx.heap.size) (.slice A n c) ls → Calls Try.prog 12 #[.slice A n c, .int .i64 mark, .bool bottom, .int .i64 size] wx fun r w' => ∃ A3 c3, r = .returned (.tuple #[.slice A3 np c3, .int .i64 e]) ∧ Lists w' (fun _ => True) (.slice A3 np c3) P ∧ fr wx w') := Lib.hid fun wx hx => (rrun_any _ _ ls mark bottom size wx hx hN64).mono fun r w' h => by
      obtain ⟨v', rfl, h1, h2⟩ := h
      rw [hP] at h1
      rw [he]
      obtain ⟨A3, c3, _, rfl, _⟩ := id h1
      rw [hnp] at h1 ⊢
      exact ⟨A3, c3, rfl, h1, h2⟩
    have CP : Hid (∀ wx, fr wc wx → Calls Try.prog 18 #[.agg #[.slice A2 m c2, .int .i64 lg, .int .i64 sq, .int .i64 nx], .int .i64 2] wx fun r w' => ∃ A3 c3, r = .returned (.tuple #[.slice A3 q c3, .int .i64 lv, .bool ok]) ∧ w'.ownsRow wx.heap.size 3 1 (.slice A3 q c3) q (ids.map (Value.int .i64)) ∧ fr wc w' ∧ fr wx w') := Lib.hid fun wx hx => (pick_any _ _ ts lg sq nx 2 wx (HTC.out.below tbFine hx)).mono fun r w' h => by
      obtain ⟨A3, c3, rfl, h1, h2⟩ := h
      rw [hpk] at h1 ⊢
      simp only [hq] at h1 ⊢
      exact ⟨A3, c3, rfl, h1, fr.step hx h2, h2⟩
    have HNP := Lib.hid hnp
    clear hli hpb hot hfc hP he hnp hpk hq hq0 hq1 hpl hm72 hN64 CL CV HV HT HP0 HP1 HF1 b0 b1 b2 b3 hpn hz0
    go_upto_region 5 with (go_at_call 10; refine (CR.out _ fr.refl).mono ?_; rintro r w3 ⟨Ax, cx, rfl, hx3, f3, g3⟩; have e0 := fr.cell f3 d0; have e1 := fr.cell f3 d1; have e2 := fr.cell f3 d2)
    go_upto_region 6 with (go_at_call 10; refine (CR.out _ f3).mono ?_; rintro r w4 ⟨Ay, cy, rfl, hy4, f4, g4⟩; have u0 := fr.cell f4 p0; have u1 := fr.cell f4 p1; have u2 := fr.cell f4 p2; have u3 := fr.cell f4 p3)
    go_upto_region 7 with (go_at_call 18; refine (CP.out _ f4).mono ?_; rintro r w5 ⟨Ai, ci, rfl, hi5, f5, g5⟩)
    have z3 := Below.size f3
    have z4 := Below.size g4
    have z5 := Below.size g5
    have g35 : fr w3 w5 := fr.step g4 g5
    have HX := Lib.hid (hx3.turn g35)
    have HY := Lib.hid ((hy4.lists (S := fun i => w3.heap.size ≤ i) (fun _ h => h.1) (fun _ h => h.1)).mono (S' := fun i => w3.heap.size ≤ i ∧ i < w4.heap.size) (fun i hi h => ⟨h, hi⟩))
    have HY5 := Lib.hid (HY.out.below g5)
    have HI5 := Lib.hid hi5
    have HF5 := Lib.hid f5
    clear hx3 hy4 hi5 HY CR CP d0 d1 d2 e0 e1 e2 p0 p1 p2 p3 u0 u1 u2 u3 g3 g4 g5 g35 f3 f4 f5
    obtain ⟨T, hT⟩ : ∃ T, T = TB w5 wc.heap.size w3.heap.size := ⟨_, rfl⟩
    obtain ⟨R, hR⟩ : ∃ R : Nat → Prop, R = fun i => hardB w5 wc.heap.size i ∧ i < w3.heap.size := ⟨_, rfl⟩
    rw [← hT, ← hR] at HX
    have hnpb : np ≤ 9223372036854775807 := by obtain ⟨_, _, _, hE, h1, h2, _⟩ := HX.out; rw [HNP.out] at h1; omega
    have HRT : Hid (∀ i, R i → ¬ T i) := Lib.hid fun i h => by rw [hR] at h; rw [hT]; exact TB.hard h
    have HTL : Hid (∀ i, T i → Loose w5 i) := Lib.hid fun i h => by rw [hT] at h; exact h.2.2
    have HTT : Hid (∀ i, T i → wc.heap.size ≤ i ∧ i < w3.heap.size) := Lib.hid fun i h => by rw [hT] at h; exact ⟨h.1, h.2.1⟩
    clear hT hR
    go_wp2
    go_loopw [60] (fun t wr => ∃ k : Nat, k ≤ np ∧ t = .int .i64 k ∧ Spoil T w5 wr) (fun t _ => np - (intOf t).toNat)
    case atStart => exact ⟨0, Nat.zero_le _, rfl, Spoil.refl _ _⟩
    case round =>
      obtain ⟨k, hk, rfl, hsp⟩ := hrel
      have HSP := Lib.hid hsp
      clear hsp
      by_cases hkn : k < np
      · as_aux_lemma =>
        obtain ⟨p, hpk⟩ : ∃ p, P[k]? = some p := ⟨_, List.getElem?_eq_getElem (by rw [HNP.out]; exact hkn)⟩
        obtain ⟨b, o, cc, A3, c3, hE, hRb, hbz, hcell, hp2⟩ := HX.out.one hpk
        injection hE with e1 e2 e3
        subst e1
        clear e2 e3
        obtain ⟨m3, hm3⟩ : ∃ k, p.length = k := ⟨_, rfl⟩
        rw [hm3] at hcell hp2
        have hm3b : m3 ≤ 9223372036854775807 := by obtain ⟨_, _, _, hE, h1, h2, _⟩ := hp2; rw [hm3] at h1; omega
        have HM3 := Lib.hid hm3
        have HP2 := Lib.hid hp2
        have HC1 : Hid (∀ wr, Spoil T w5 wr → wr.cell? ⟨b, o + k, none⟩ = some (.slice A3 m3 c3)) := Lib.hid fun wr h => h.cellR hbz (HRT.out b hRb) hcell
        have x0 := HC1.out _ HSP.out
        clear hm3 hp2 hcell hbz hRb hpk HX
        go_wp2
        clear x0
        go_loopw [68] (fun t wr => ∃ j : Nat, j ≤ m3 ∧ t = .int .i64 j ∧ Spoil T w5 wr) (fun t _ => m3 - (intOf t).toNat)
        case atStart => exact ⟨0, Nat.zero_le _, rfl, HSP.out⟩
        case round =>
          clear HSP
          obtain ⟨j, hj, rfl, hsp⟩ := hrel
          have HSP := Lib.hid hsp
          clear hsp
          by_cases hjn : j < m3
          · as_aux_lemma =>
            obtain ⟨en, hen⟩ : ∃ x, p[j]? = some x := ⟨_, List.getElem?_eq_getElem (by rw [HM3.out]; exact hjn)⟩
            obtain ⟨b2, o2, cc2, A4, c4, A5, c5, hE, hRb, hbz, hc0, hc3, hb0, hb3⟩ := HP2.out.two hen
            injection hE with e1 e2 e3
            subst e1
            clear e2 e3
            obtain ⟨n0, hn0⟩ : ∃ k, en.key.length = k := ⟨_, rfl⟩
            obtain ⟨n3, hn3⟩ : ∃ k, en.val.length = k := ⟨_, rfl⟩
            rw [hn0] at hc0 hb0
            rw [hn3] at hc3 hb3
            have hl0 : n0 ≤ 9223372036854775807 := by have := hb0.len; omega
            have hl3 : n3 ≤ 9223372036854775807 := by have := hb3.len; omega
            have HB0 := Lib.hid hb0
            have HB3 := Lib.hid hb3
            have HK0 : Hid (∀ wr, Spoil T w5 wr → wr.cell? ⟨b2, o2 + j * 4, none⟩ = some (.slice A4 n0 c4)) := Lib.hid fun wr h => h.cellR hbz (HRT.out b2 hRb) hc0
            have HK3 : Hid (∀ wr, Spoil T w5 wr → wr.cell? ⟨b2, o2 + j * 4 + 3, none⟩ = some (.slice A5 n3 c5)) := Lib.hid fun wr h => h.cellR hbz (HRT.out b2 hRb) hc3
            have x0 := HC1.out _ HSP.out
            have x1 := HK0.out _ HSP.out
            clear hn0 hn3 hc0 hc3 hb0 hb3 hRb hbz hen HP2
            go_wp2
            clear x0 x1
            go_loopw [80] (fun t wr => ∃ i : Nat, i ≤ n0 ∧ t = .int .i64 i ∧ Spoil T w5 wr) (fun t _ => n0 - (intOf t).toNat)
            case atStart => exact ⟨0, Nat.zero_le _, rfl, HSP.out⟩
            case round =>
              clear HSP
              obtain ⟨i, hi, rfl, hsp⟩ := hrel
              have HSP := Lib.hid hsp
              clear hsp
              by_cases hin : i < n0
              · as_aux_lemma =>
                obtain ⟨b4, o4, x, rfl, hcell, hfz, hsp'⟩ := turn_at HSP.out HB0.out HTL.out hin
                have x0 := HC1.out _ HSP.out
                have x1 := HK0.out _ HSP.out
                have HS' := Lib.hid hsp'
                clear hsp'
                go_wp2
                go_region
                all_goals go_wp2_with fail
                all_goals exact ⟨⟨i + 1, by omega, by go_num, HS'.out.trans Spoil.drew⟩, by simp [intOf]; omega⟩
              · as_aux_lemma =>
                obtain rfl : i = n0 := by omega
                have x0 := HC1.out _ HSP.out
                have x3 := HK3.out _ HSP.out
                go_wp2
                clear x0 x3
                go_loopw [115] (fun t wr => ∃ i : Nat, i ≤ n3 ∧ t = .int .i64 i ∧ Spoil T w5 wr) (fun t _ => n3 - (intOf t).toNat)
                case atStart => exact ⟨0, Nat.zero_le _, rfl, HSP.out⟩
                case round =>
                  clear HSP
                  obtain ⟨i, hi, rfl, hsp⟩ := hrel
                  have HSP := Lib.hid hsp
                  clear hsp
                  by_cases hin : i < n3
                  · obtain ⟨b4, o4, x, rfl, hcell, hfz, hsp'⟩ := turn_at HSP.out HB3.out HTL.out hin
                    have x0 := HC1.out _ HSP.out
                    have x3 := HK3.out _ HSP.out
                    have HS' := Lib.hid hsp'
                    clear hsp'
                    go_wp2
                    go_region
                    all_goals go_wp2_with fail
                    all_goals exact ⟨⟨i + 1, by omega, by go_num, HS'.out.trans Spoil.drew⟩, by simp [intOf]; omega⟩
                  · obtain rfl : i = n3 := by omega
                    go_wp2
                    exact ⟨⟨j + 1, by omega, by go_num, HSP.out⟩, by simp [intOf]; omega⟩
          · as_aux_lemma =>
            obtain rfl : j = m3 := by omega
            go_wp2
            exact ⟨⟨k + 1, by omega, by go_num, HSP.out⟩, by simp [intOf]; omega⟩
      · as_aux_lemma =>
        obtain rfl : k = np := by omega
        obtain ⟨wA, hwA⟩ : ∃ w', w' = wr := ⟨_, rfl⟩
        subst hwA
        have SA := HSP.out
        have hqb : q ≤ 9223372036854775807 := own_le' HI5.out
        have HIA := Lib.hid (own_only HI5.out SA.only (fun g hg ht => by have h1 := (HI5.out.lt g hg).1; have h2 := (HTT.out g ht).2; omega))
        have HSA := Lib.hid SA
        clear SA HSP HI5 HX HRT HTL
        go_wp2
        go_loopw [145] (fun t wr => ∃ k : Nat, k ≤ q ∧ t = .int .i64 k ∧ (∃ zs, wr.ownsRow w4.heap.size 3 1 (.slice Ai q ci) q zs) ∧ Only (fun i => (Value.slice Ai q ci).ownBlock = some i) wA wr) (fun t _ => q - (intOf t).toNat)
        case atStart => exact ⟨0, Nat.zero_le _, rfl, ⟨_, HIA.out⟩, Only.refl _ _⟩
        case round =>
          obtain ⟨k5, hk5, rfl, ⟨zs, hrow⟩, hon⟩ := hrel
          have HON := Lib.hid hon
          have HRW := Lib.hid hrow
          clear hon HIA
          by_cases hkq : k5 < q
          · as_aux_lemma =>
            obtain ⟨g, cc, hE, _⟩ := own_pos hrow (by omega)
            injection hE with e1 e2 e3
            subst e1
            clear e2 e3
            have hfz := hrow.frozenAt k5
            have hcell := hrow.cellAt k5 (by omega)
            obtain ⟨u, hu⟩ : ∃ u, zs[k5]? = some u := ⟨_, List.getElem?_eq_getElem (by have := hrow.1; omega)⟩
            rw [hu] at hcell
            clear hrow hu
            go_wp2
            exact ⟨⟨k5 + 1, by omega, by go_num, ⟨_, (HRW.out.stored k5 _).1⟩, HON.out.trans (Only.of_grown (HRW.out.stored k5 _).2)⟩, by simp [intOf]; omega⟩
          · as_aux_lemma =>
            obtain rfl : k5 = q := by omega
            obtain ⟨wB, hwB⟩ : ∃ w', w' = wr := ⟨_, rfl⟩
            subst hwB
            have hU : Only (fun i => wc.heap.size ≤ i ∧ (i < w3.heap.size ∨ w4.heap.size ≤ i)) w5 wB :=
              (HSA.out.only.mono (fun i hi => by have := HTT.out i hi; exact ⟨this.1, .inl this.2⟩)).trans (HON.out.mono (fun i hi => by have := (HRW.out.lt i hi).1; exact ⟨by omega, .inr this⟩))
            have hUb : fr wc wB := Below.trans HF5.out (hU.below HF5.out.size (fun i hi => hi.1))
            have HVB := Lib.hid (HV0.out.below hUb)
            have HLB := Lib.hid (HLI.out.below hUb)
            have HTB := Lib.hid (HTC.out.below tbFine hUb)
            have HSB := Lib.hid (HT0.out.below tbFine hUb)
            have HYB := Lib.hid (HY5.out.only hU (fun i _ h1 h2 => by omega))
            have HPB' := Lib.hid (fr.hp hUb HPB.out)
            have HQ0' := Lib.hid (fr.hp hUb HQ0.out)
            have HQ1' := Lib.hid (fr.hp hUb HQ1.out)
            have HFB := Lib.hid (fr.step HFC.out hUb)
            clear hU hUb HON HRW HSA hrow HV0 HLI HTC HT0 HY5 HPB HQ0 HQ1 HF5 HTT HPL HFC
            obtain ⟨_, _, vs2, hE2, _, _, _, hr2, hel2⟩ := HLB.out
            injection hE2 with e1 e2 e3
            subst e1 e3
            rw [HNN.out] at hr2
            obtain ⟨_, _, vs0, hE0, _, _, hln, hr0, hel0⟩ := HVB.out
            injection hE0 with e1 e3 e4
            subst e1 e4
            rw [HNN.out] at hr0 hln
            have R2 := Lib.hid hr2
            have R0 := Lib.hid hr0
            have EL2 := Lib.hid hel2
            have EL0 := Lib.hid hel0
            clear hr2 hr0 hel2 hel0 e2 e3 HLB
            go_wp2
            go_loopw [154] (fun t wr => ∃ k : Nat, k ≤ n ∧ t = .int .i64 k ∧ Below wB.heap.size wB wr) (fun t _ => n - (intOf t).toNat)
            case atStart => exact ⟨0, Nat.zero_le _, rfl, Below.refl _ _⟩
            case round =>
              obtain ⟨k6, hk6, rfl, hbel⟩ := hrel
              have HB := Lib.hid hbel
              clear hbel
              by_cases hkm : k6 < n
              · as_aux_lemma =>
                obtain ⟨l, hlk⟩ : ∃ l, ls[k6]? = some l := ⟨_, List.getElem?_eq_getElem (by rw [HNN.out]; exact hkm)⟩
                obtain ⟨x2, hx2, hy2⟩ := EL2.out k6 l hlk
                obtain ⟨x0, hx0, hy0⟩ := EL0.out k6 l hlk
                obtain ⟨b2, o2, u2, rfl, _, _, hu2, hc2⟩ := (R2.out.below HB.out).at_ hkm
                obtain ⟨b0, o0, u0, rfl, _, _, hu0, hc0⟩ := (R0.out.below HB.out).at_ hkm
                obtain rfl : u2 = x2 := by rw [hx2] at hu2; injection hu2 with h; exact h.symm
                obtain rfl : u0 = x0 := by rw [hx0] at hu0; injection hu0 with h; exact h.symm
                obtain ⟨B2, d2, rfl⟩ := ents_form hy2
                obtain ⟨B0, d0, rfl⟩ := ents_form hy0
                have F2 : ∀ q : Ext wr, q.w.cell? { block := b2, off := o2 + k6 } = _ := fun q => q.h.cell hc2
                have F0 : ∀ q : Ext wr, q.w.cell? { block := b0, off := o0 + k6 } = _ := fun q => q.h.cell hc0
                have CC : ∀ q : Ext wr, Calls Try.prog 19 #[.slice B2 l.length d2, .slice B0 l.length d0] q.w fun r w'' => r = .returned (.bool true) ∧ ∃ q' : Ext wr, w'' = q'.w := fun q => Ext.calls (decide_eq_true (rfl : l = l) ▸ sameE_any _ _ _ _ l l _ ((hy2.below HB.out).below q.h) ((hy0.below HB.out).below q.h))
                clear hlk hx2 hx0 hu2 hu0 hc2 hc0 hy2 hy0
                go_wp2
                (refine wp_region_quiet_ext (by kernel_rfl) (by kernel_rfl) ?_; (repeat (go_big_quiet_step ((go_at_call 19; exact CC _)))); refine wpQuiet_nil ?_; intro wq hw'; obtain ⟨⟨_, hq⟩, hw''⟩ := hw'; subst hw'')
                go_wp2
                exact ⟨⟨k6 + 1, by omega, by go_num, HB.out.trans (Below.mono hq HB.out.size)⟩, by simp [intOf]; omega⟩
              · as_aux_lemma =>
                obtain rfl : k6 = n := by omega
                have hB : fr wB wr := HB.out
                have HFD := Lib.hid (fr.step HFB.out hB)
                have HVD := Lib.hid (HVB.out.below hB).lt
                have HTD := Lib.hid (HTB.out.below tbFine hB)
                have HSD := Lib.hid (HSB.out.below tbFine hB)
                have HYD := Lib.hid (HYB.out.below hB)
                have q0 := fr.hp hB HQ0'.out
                have q1 := fr.hp hB HQ1'.out
                have q2 := fr.hp hB HPB'.out
                have d0 : wr.cell? ⟨w.heap.size + 1, 0, none⟩ = some (.int .i64 mark) := cell_of_row wr _ 0 _ _ _ q1
                have d1 : wr.cell? ⟨w.heap.size + 1, 1, none⟩ = some (.int .i64 size) := cell_of_row wr _ 1 _ _ _ q1
                have d2 : wr.cell? ⟨w.heap.size + 1, 2, none⟩ = some (.bool bottom) := cell_of_row wr _ 2 _ _ _ q1
                have Q0 := Lib.hid q0
                have Q2 := Lib.hid q2
                clear hB HB HFB HVB HTB HSB HYB HQ0' HQ1' HPB' q0 q1 q2 R2 R0 EL2 EL0
                go_upto_region 37 with (go_at_call 12; refine (CQ.out _ HVD.out).mono ?_; rintro r w8 ⟨Aw, cw, rfl, hw8, f8⟩)
                have q0 := fr.hp f8 Q0.out
                have q2 := fr.hp f8 Q2.out
                have y0 : w8.cell? ⟨w.heap.size, 0, none⟩ = some (.slice At m ct) := cell_of_row w8 _ 0 _ _ _ q0
                have y1 : w8.cell? ⟨w.heap.size, 1, none⟩ = some (.int .i64 lg) := cell_of_row w8 _ 1 _ _ _ q0
                have y2 : w8.cell? ⟨w.heap.size, 2, none⟩ = some (.int .i64 sq) := cell_of_row w8 _ 2 _ _ _ q0
                have y3 : w8.cell? ⟨w.heap.size, 3, none⟩ = some (.int .i64 nx) := cell_of_row w8 _ 3 _ _ _ q0
                have v0 : w8.cell? ⟨pb, 0, none⟩ = some (.slice A2 m c2) := cell_of_row w8 _ 0 _ _ _ q2
                have v1 : w8.cell? ⟨pb, 1, none⟩ = some (.int .i64 lg) := cell_of_row w8 _ 1 _ _ _ q2
                have v2 : w8.cell? ⟨pb, 2, none⟩ = some (.int .i64 sq) := cell_of_row w8 _ 2 _ _ _ q2
                have v3 : w8.cell? ⟨pb, 3, none⟩ = some (.int .i64 nx) := cell_of_row w8 _ 3 _ _ _ q2
                have CS := Lib.hid (versame_any _ _ _ _ ts lg sq nx w8 (HTD.out.below tbFine f8) (HSD.out.below tbFine f8))
                have HY8 := Lib.hid (HYD.out.below f8)
                have HW8 := Lib.hid hw8
                have HF8 := Lib.hid (fr.step HFD.out f8)
                clear q0 q2 hw8 f8 d0 d1 d2 HTD HSD HYD HFD
                go_wp2_with (first
                  | (go_at_call 20; refine CS.out.mono ?_; rintro r w9 ⟨rfl, f9⟩)
                  | (go_at_call 13; refine (rsame_any _ _ _ _ P P _ (HY8.out.below f9) (HW8.out.below f9)).mono ?_; rintro r w10 ⟨rfl, f10⟩; rw [decide_eq_true rfl]))
                refine bodyPost_ret (v := .bool true) (by simp [results, Try.results6, go_sem]) rfl ?_
                exact ⟨rfl, fr.step (fr.step HF8.out f9) f10⟩
end Go.Proofs.Ytacdhkkelkplnaa
end
