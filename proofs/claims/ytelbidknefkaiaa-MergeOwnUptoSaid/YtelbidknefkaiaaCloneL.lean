/-
Clone: the copy may be written to.
-/
import Derived.Test.YtelbidknefkaiaaLoose
namespace Go.Proofs.Ytelbidknefkaiaa
open Go.RowKit
attribute [local go_sem ↓] Go.wp_at_zero Go.wp_at_succ

set_option maxHeartbeats 2000000 in
/-- slices.Clone at []byte: new memory, or nil -/
theorem bcloneL_any (S : Nat → Prop) (v : Value) (bs : List UInt8) (w : World) (h : Byt w S v bs) :
    Calls Try.prog 46 #[v] w fun r w' => ∃ v', r = .returned v' ∧ BytL w' w.heap.size v' bs ∧ Below w.heap.size w w' := by
  have hl := h.len
  have h' := Lib.hid h
  obtain ⟨A, c, rfl, _⟩ := h
  have q22 : ∀ (w : World) (a : Option Addr) (n c n' c' : Nat), (binOp .eql 23 (.slice a n c) (.slice none n' c')).run Try.prog w = .ok (.bool a.isNone) w := fun w a n c n' c' => Lib.run_eql_slice_nil w _ _ a n c n' c' Try.underlying23
  rcases A with _ | ad
  · have h0 : bs = [] := by
      obtain ⟨A, c', e, _, _, _, hr⟩ := h'.out
      rcases Nat.eq_zero_or_pos bs.length with h0 | h0
      · exact List.eq_nil_of_length_eq_zero h0
      · injection e with e1 _ _
        subst e1
        obtain ⟨b, o, h, _⟩ := hr.2 h0
        cases h
    subst h0
    go_enter Try.func46, Try.ntmps46
    go_wp2
    go_ret
    exact ⟨_, rfl, BytL.nil _ _, Below.refl _ _⟩
  · have hb1 := (Below.refl w.heap.size w).alloc (Nat.le_refl _) (.cells #[] 5)
    have HB := Lib.hid hb1
    clear hb1
    go_enter Try.func46, Try.ntmps46
    go_wp2_with (at_builtin; refine wpList_append_byt rfl _ _ rfl w.heap.size _ _ rfl rfl S bs (lit0 w) (h'.out.below HB.out) HB.out.size ?_; intro v' w1 hown hgrow)
    go_ret
    exact ⟨_, rfl, BytL.of_own hown hl, HB.out.grown hgrow HB.out.size (fun j e => by cases e; exact Nat.le_refl _)⟩
theorem clone_endL (w w2 : World) (e : Ent) (k u a b c d : Value) (hb : Below w.heap.size w w2) (hk : BytL w2 (w.heap.size + 2) k e.key) (hu : BytL w2 (w.heap.size + 2) u e.val) (x y : Value) :
    ∃ v', Ending.returned (.agg #[k, .int .i64 e.seq, .bool e.dead, u]) = .returned v' ∧
      EntVL ((((((w2.setCell ⟨w.heap.size, 0, none⟩ x).setCell ⟨w.heap.size, 3, none⟩ y).setCell ⟨w.heap.size + 1, 0, none⟩ a).setCell ⟨w.heap.size + 1, 1, none⟩ b).setCell ⟨w.heap.size + 1, 2, none⟩ c).setCell ⟨w.heap.size + 1, 3, none⟩ d) w.heap.size v' e ∧
      Below w.heap.size w ((((((w2.setCell ⟨w.heap.size, 0, none⟩ x).setCell ⟨w.heap.size, 3, none⟩ y).setCell ⟨w.heap.size + 1, 0, none⟩ a).setCell ⟨w.heap.size + 1, 1, none⟩ b).setCell ⟨w.heap.size + 1, 2, none⟩ c).setCell ⟨w.heap.size + 1, 3, none⟩ d) := by
  have ho : Only (fun i => i = w.heap.size ∨ i = w.heap.size + 1) w2 ((((((w2.setCell ⟨w.heap.size, 0, none⟩ x).setCell ⟨w.heap.size, 3, none⟩ y).setCell ⟨w.heap.size + 1, 0, none⟩ a).setCell ⟨w.heap.size + 1, 1, none⟩ b).setCell ⟨w.heap.size + 1, 2, none⟩ c).setCell ⟨w.heap.size + 1, 3, none⟩ d) :=
    ((((((Only.refl _ w2).setCell (p := ⟨w.heap.size, 0, none⟩) (.inl rfl) _).setCell (p := ⟨w.heap.size, 3, none⟩) (.inl rfl) _).setCell (p := ⟨w.heap.size + 1, 0, none⟩) (.inr rfl) _).setCell (p := ⟨w.heap.size + 1, 1, none⟩) (.inr rfl) _).setCell (p := ⟨w.heap.size + 1, 2, none⟩) (.inr rfl) _).setCell (p := ⟨w.heap.size + 1, 3, none⟩) (.inr rfl) _
  have go : ∀ v bs, BytL w2 (w.heap.size + 2) v bs → BytL _ w.heap.size v bs := fun v bs h =>
    Byt.mono (S := fun i => w.heap.size + 2 ≤ i ∧ Loose w2 i) (Byt.only (T := fun i => w.heap.size + 2 ≤ i ∧ Loose w2 i) h ho (fun i _ h => by have := h.1; omega)) fun i hi => ⟨by have := hi.1; omega, hi.2.only ho (by have := hi.1; omega)⟩
  exact ⟨_, rfl, ⟨k, u, rfl, go _ _ hk, go _ _ hu⟩, hb.trans (ho.below hb.size (fun i h => by omega))⟩

set_option maxRecDepth 100000 in
set_option maxHeartbeats 4000000 in
theorem ecloneL_any (S : Nat → Prop) (v : Value) (e : Ent) (w : World) (hv : EntV w S v e) :
    Calls Try.prog 35 #[v] w fun r w' => ∃ v', r = .returned v' ∧ EntVL w' w.heap.size v' e ∧ Below w.heap.size w w' := by
  obtain ⟨k, u, rfl, h1, h2⟩ := hv
  have hA : Below w.heap.size w ((w.alloc (.cells #[k, .int .i64 e.seq, .bool e.dead, u] 26)).alloc (.cells #[.slice none 0 0, .int .i64 0, .bool false, .slice none 0 0] 26)) := ((Below.refl _ _).alloc (Nat.le_refl _) _).alloc (by simp) _
  have H1 := Lib.hid (h1.below hA)
  have H2 := Lib.hid (h2.below hA)
  have HA := Lib.hid hA
  clear h1 h2 hA
  go_enter Try.func35, Try.ntmps35
  go_wp2
  go_region_with (first
    | (go_at_call 46; refine (bcloneL_any S k e.key _ (by with_reducible exact H1.out.drew)).mono ?_; rintro r w1 ⟨k', rfl, hk', hb1⟩; obtain ⟨Ak, ck, rfl⟩ := slice_form hk'; obtain ⟨⟨c0, c1, c2, c3⟩, cf⟩ := box4 ((undrew hb1).mono (by simp)))
    | (go_at_call 46; refine (bcloneL_any S u e.val _ (by with_reducible exact H2.out.drew)).mono ?_; rintro r w2 ⟨u', rfl, hu', hb2⟩; obtain ⟨Au, cu, rfl⟩ := slice_form hu'; obtain ⟨⟨c0, c1, c2, c3⟩, cf⟩ := box4 ((undrew hb2).mono (by simp)))
    | (go_at_call 46; refine (bcloneL_any S u e.val w1 (H2.out.drew.below hb1)).mono ?_; rintro r w2 ⟨u', rfl, hu', hb2⟩; obtain ⟨Au, cu, rfl⟩ := slice_form hu'; obtain ⟨⟨c0, c1, c2, c3⟩, cf⟩ := box4 (((undrew hb1).trans (hb2.mono hb1.size)).mono (by simp)))
    | (go_at_call 46; refine (bcloneL_any S k e.key w2 (H1.out.drew.below hb2)).mono ?_; rintro r w1 ⟨k', rfl, hk', hb1⟩; obtain ⟨Ak, ck, rfl⟩ := slice_form hk'; obtain ⟨⟨c0, c1, c2, c3⟩, cf⟩ := box4 (((undrew hb2).trans (hb1.mono hb2.size)).mono (by simp))))
  all_goals
    first
      | (have hb := (undrew hb1).trans (hb2.mono hb1.size); have hk2 := hk'.below hb2; have hu2 := hu'; have hz1 := hb1.size)
      | (have hb := (undrew hb2).trans (hb1.mono hb2.size); have hk2 := hk'; have hu2 := hu'.below hb1; have hz1 := hb2.size)
    obtain ⟨⟨e0, e1, e2, e3⟩, ef⟩ := box4' (hb.mono (by simp))
    have HB := Lib.hid hb
    clear hb hb1 hb2 hk' hu'
    go_wp2
  all_goals
    refine bodyPost_ret (v := .agg #[.slice Ak e.key.length ck, .int .i64 e.seq, .bool e.dead, .slice Au e.val.length cu]) (by simp [results, Try.results35, go_sem, e0, e1, e2, e3]) rfl ?_
    have hz := HB.out.size
    simp only [World.size_alloc, World.size_drew] at hz hz1 hk2 hu2
    exact clone_endL w _ e _ _ _ _ _ _ (HA.out.trans (HB.out.mono (by simp; omega))) (hk2.mono (by omega)) (hu2.mono (by omega)) _ _
end Go.Proofs.Ytelbidknefkaiaa
