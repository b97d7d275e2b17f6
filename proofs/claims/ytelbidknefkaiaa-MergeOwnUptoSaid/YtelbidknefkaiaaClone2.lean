/-
entry.Clone and usanceref10.One: copies of an entry.
-/
import Derived.Test.YtelbidknefkaiaaClone
import Derived.Test.YtelbidknefkaiaaOnly
import Derived.Deep.RegionWith
import Derived.Deep.RegionLaw
namespace Go.Proofs.Ytelbidknefkaiaa
open Go.RowKit
attribute [local go_sem ↓] Go.wp_at_zero Go.wp_at_succ

theorem Byt.drew {w : World} {S : Nat → Prop} {v : Value} {bs : List UInt8} (h : Byt w S v bs) : Byt w.drew S v bs := h

theorem undrew {B : Nat} {a w : World} (h : Below B a.drew w) : Below B a w := ⟨h.os, h.tape, h.output, h.size, h.block⟩
/-- a new block of four cells under one more: what its cells hold later. -/
theorem box4 {w w' : World} {a b c d : Value} {t : TypeId} {o : Obj} (hb : Below (w.heap.size + 2) ((w.alloc (.cells #[a, b, c, d] t)).alloc o) w') :
    (w'.cell? ⟨w.heap.size, 0, none⟩ = some a ∧ w'.cell? ⟨w.heap.size, 1, none⟩ = some b ∧ w'.cell? ⟨w.heap.size, 2, none⟩ = some c ∧ w'.cell? ⟨w.heap.size, 3, none⟩ = some d) ∧ (∀ i, w'.frozen? ⟨w.heap.size, i, none⟩ = false) := by
  refine ⟨⟨?_, ?_, ?_, ?_⟩, fun i => ?_⟩
  iterate 4 (rw [hb.cell (by simp), World.cell?_alloc_lt _ _ _ (by simp), World.cell?_alloc_at _ _ _ _ rfl]; rfl)
  rw [hb.frozen (by simp), World.frozen?_alloc_past _ _ _ (by simp), World.frozen?_alloc_at _ _ _ _ rfl]
theorem box4' {w w' : World} {a b c d : Value} {t : TypeId} {o : Obj} (hb : Below (w.heap.size + 2) ((w.alloc o).alloc (.cells #[a, b, c, d] t)) w') :
    (w'.cell? ⟨w.heap.size + 1, 0, none⟩ = some a ∧ w'.cell? ⟨w.heap.size + 1, 1, none⟩ = some b ∧ w'.cell? ⟨w.heap.size + 1, 2, none⟩ = some c ∧ w'.cell? ⟨w.heap.size + 1, 3, none⟩ = some d) ∧ (∀ i, w'.frozen? ⟨w.heap.size + 1, i, none⟩ = false) := by
  refine ⟨⟨?_, ?_, ?_, ?_⟩, fun i => ?_⟩
  iterate 4 (rw [hb.cell (by simp), World.cell?_alloc_at _ _ _ _ (by simp)]; rfl)
  rw [hb.frozen (by simp), World.frozen?_alloc_at _ _ _ _ (by simp)]

theorem clone_end (w w2 : World) (e : Ent) (k u a b c d : Value) (hb : Below w.heap.size w w2) (hk : Byt w2 (fun i => w.heap.size + 2 ≤ i) k e.key) (hu : Byt w2 (fun i => w.heap.size + 2 ≤ i) u e.val) (x y : Value) :
    ∃ v', Ending.returned (.agg #[k, .int .i64 e.seq, .bool e.dead, u]) = .returned v' ∧
      EntV ((((((w2.setCell ⟨w.heap.size, 0, none⟩ x).setCell ⟨w.heap.size, 3, none⟩ y).setCell ⟨w.heap.size + 1, 0, none⟩ a).setCell ⟨w.heap.size + 1, 1, none⟩ b).setCell ⟨w.heap.size + 1, 2, none⟩ c).setCell ⟨w.heap.size + 1, 3, none⟩ d) (fun i => w.heap.size ≤ i) v' e ∧
      Below w.heap.size w ((((((w2.setCell ⟨w.heap.size, 0, none⟩ x).setCell ⟨w.heap.size, 3, none⟩ y).setCell ⟨w.heap.size + 1, 0, none⟩ a).setCell ⟨w.heap.size + 1, 1, none⟩ b).setCell ⟨w.heap.size + 1, 2, none⟩ c).setCell ⟨w.heap.size + 1, 3, none⟩ d) := by
  have ho : Only (fun i => i = w.heap.size ∨ i = w.heap.size + 1) w2 ((((((w2.setCell ⟨w.heap.size, 0, none⟩ x).setCell ⟨w.heap.size, 3, none⟩ y).setCell ⟨w.heap.size + 1, 0, none⟩ a).setCell ⟨w.heap.size + 1, 1, none⟩ b).setCell ⟨w.heap.size + 1, 2, none⟩ c).setCell ⟨w.heap.size + 1, 3, none⟩ d) :=
    ((((((Only.refl _ w2).setCell (p := ⟨w.heap.size, 0, none⟩) (.inl rfl) _).setCell (p := ⟨w.heap.size, 3, none⟩) (.inl rfl) _).setCell (p := ⟨w.heap.size + 1, 0, none⟩) (.inr rfl) _).setCell (p := ⟨w.heap.size + 1, 1, none⟩) (.inr rfl) _).setCell (p := ⟨w.heap.size + 1, 2, none⟩) (.inr rfl) _).setCell (p := ⟨w.heap.size + 1, 3, none⟩) (.inr rfl) _
  exact ⟨_, rfl, ⟨k, u, rfl, (hk.only ho (fun i _ h => by omega)).mono (fun i hi => by omega), (hu.only ho (fun i _ h => by omega)).mono (fun i hi => by omega)⟩, hb.trans (ho.below hb.size (fun i h => by omega))⟩

set_option maxRecDepth 100000 in
set_option maxHeartbeats 4000000 in
theorem eclone_any (S : Nat → Prop) (v : Value) (e : Ent) (w : World) (hv : EntV w S v e) :
    Calls Try.prog 35 #[v] w fun r w' => ∃ v', r = .returned v' ∧ EntV w' (fun i => w.heap.size ≤ i) v' e ∧ Below w.heap.size w w' := by
  obtain ⟨k, u, rfl, h1, h2⟩ := hv
  have hA : Below w.heap.size w ((w.alloc (.cells #[k, .int .i64 e.seq, .bool e.dead, u] 26)).alloc (.cells #[.slice none 0 0, .int .i64 0, .bool false, .slice none 0 0] 26)) := ((Below.refl _ _).alloc (Nat.le_refl _) _).alloc (by simp) _
  have H1 := Lib.hid (h1.below hA)
  have H2 := Lib.hid (h2.below hA)
  have HA := Lib.hid hA
  clear h1 h2 hA
  go_enter Try.func35, Try.ntmps35
  go_wp2
  go_region_with (first
    | (go_at_call 46; refine (bclone_any S k e.key _ (by with_reducible exact H1.out.drew)).mono ?_; rintro r w1 ⟨k', rfl, hk', hb1⟩; obtain ⟨Ak, ck, rfl⟩ := slice_form hk'; obtain ⟨⟨c0, c1, c2, c3⟩, cf⟩ := box4 ((undrew hb1).mono (by simp)))
    | (go_at_call 46; refine (bclone_any S u e.val _ (by with_reducible exact H2.out.drew)).mono ?_; rintro r w2 ⟨u', rfl, hu', hb2⟩; obtain ⟨Au, cu, rfl⟩ := slice_form hu'; obtain ⟨⟨c0, c1, c2, c3⟩, cf⟩ := box4 ((undrew hb2).mono (by simp)))
    | (go_at_call 46; refine (bclone_any S u e.val w1 (H2.out.drew.below hb1)).mono ?_; rintro r w2 ⟨u', rfl, hu', hb2⟩; obtain ⟨Au, cu, rfl⟩ := slice_form hu'; obtain ⟨⟨c0, c1, c2, c3⟩, cf⟩ := box4 (((undrew hb1).trans (hb2.mono hb1.size)).mono (by simp)))
    | (go_at_call 46; refine (bclone_any S k e.key w2 (H1.out.drew.below hb2)).mono ?_; rintro r w1 ⟨k', rfl, hk', hb1⟩; obtain ⟨Ak, ck, rfl⟩ := slice_form hk'; obtain ⟨⟨c0, c1, c2, c3⟩, cf⟩ := box4 (((undrew hb2).trans (hb1.mono hb2.size)).mono (by simp))))
  all_goals
    first
      | (have hb := (undrew hb1).trans (hb2.mono hb1.size); have hk2 := hk'.below hb2; have hu2 := hu'; have hz1 := hb1.size)
      | (have hb := (undrew hb2).trans (hb1.mono hb2.size); have hk2 := hk'; have hu2 := hu'.below hb1; have hz1 := hb2.size)
    obtain ⟨⟨e0, e1, e2, e3⟩, ef⟩ := box4' (hb.mono (by simp))
    have HB := Lib.hid hb
    clear hb hb1 hb2 hk' hu'
    go_wp2
  all_goals
    refine bodyPost_ret (v := .agg #[.slice Ak e.key.length ck, .int .i64 e.seq, .bool e.dead, .slice Au e.val.length cu]) (by simp [results, Try.results35, go_sem, e0, e1, e2, e3]) rfl ?_
    have hz := HB.out.size
    simp only [World.size_alloc, World.size_drew] at hz hz1 hk2 hu2
    exact clone_end w _ e _ _ _ _ _ _ (HA.out.trans (HB.out.mono (by simp; omega))) (hk2.mono (fun i hi => by omega)) (hu2.mono (fun i hi => by omega)) _ _
end Go.Proofs.Ytelbidknefkaiaa
