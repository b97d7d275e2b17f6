/-
law MemtableNil.
-/
import Derived.Test.YtelbidknefkaiaaQPMemNil18
import Derived.Test.YtelbidknefkaiaaQPMemNil2
import Derived.Test.YtelbidknefkaiaaQPMemNil1
import Derived.Test.YtelbidknefkaiaaQPMemNil13
section
namespace Go.Proofs.Ytelbidknefkaiaa
open Go.RowKit Go.BigFrame
attribute [local go_sem ↓] Go.wp_at_zero Go.wp_at_succ
set_option maxRecDepth 100000 in
set_option maxHeartbeats 4000000 in
theorem memNilLaw (v : Value) (es : List Ent) (kv : Value) (key : List UInt8) (w : World) (hv : Ents w (fun _ => True) v es) (hkv : Byt w (fun _ => True) kv key) :
    Calls Try.prog 3 #[v, kv] w fun r w' => r = .returned (.bool true) ∧ Below w.heap.size w w' := by
  have HKV := Lib.hid hkv
  obtain ⟨Ak, ck, rfl⟩ := slice_form hkv
  obtain ⟨A, c, cs, rfl, hc, hcm, hl, hr, he⟩ := hv
  obtain ⟨n, hn⟩ : ∃ n, es.length = n := ⟨_, rfl⟩
  rw [hn] at hr hl ⊢
  have HN := Lib.hid hn
  have HR := Lib.hid hr
  have HE := Lib.hid he
  have hb1 := (Below.refl w.heap.size w).alloc (Nat.le_refl _) (.cells #[] 5)
  have HB := Lib.hid hb1
  clear hn hr he hb1 hkv
  go_enter Try.func3, Try.ntmps3
  go_wp2_with (first
    | (at_builtin; refine wpList_append_byt rfl _ _ rfl w.heap.size _ _ rfl rfl (fun _ => True) key (lit0 w) (HKV.out.below HB.out) HB.out.size ?_; intro v' w1 hown hgrow)
    | (go_at_call 11; refine (get_nil _ _ _).mono ?_; rintro r w2 ⟨rfl, hb2⟩))
  have hb3 : Below w.heap.size w (w2.alloc (.cells #[.slice none 0 0, .int .i64 0, .bool false, .slice none 0 0] 26)) := ((HB.out.grown hgrow HB.out.size (fun j e => by cases e; exact Nat.le_refl _)).trans (hb2.mono (by have := HB.out.size; have := hgrow.size; omega))).alloc (by have := HB.out.size; have := hgrow.size; have := hb2.size; omega) _
  obtain ⟨W0, hW0⟩ : ∃ W0, W0 = w2.alloc (.cells #[.slice none 0 0, .int .i64 0, .bool false, .slice none 0 0] 26) := ⟨_, rfl⟩
  have hbox : W0.heap[w2.heap.size]? = some (.cells #[.slice none 0 0, .int .i64 0, .bool false, .slice none 0 0] 26 (0, 0)) := by rw [hW0]; exact heap_alloc_new w2 _
  rw [← hW0] at hb3 ⊢
  obtain ⟨X, hX⟩ : ∃ X, w2.heap.size = X := ⟨_, rfl⟩
  rw [hX] at hbox ⊢
  have HB3 := Lib.hid hb3
  have HBOX := Lib.hid hbox
  clear hb3 hbox hW0 hX hb2 hown hgrow
  go_loopw [9, 21] (fun _ t wr => ∃ i : Nat, t = .int .i64 i ∧ i ≤ n ∧ Below W0.heap.size W0 wr) (fun _ t _ => n - (intOf t).toNat)
  case atStart => exact ⟨0, rfl, Nat.zero_le _, Below.refl _ _⟩
  case round =>
    obtain ⟨i, rfl, hi, hbel⟩ := hrel
    have HBL := Lib.hid hbel
    have HBW := Lib.hid (HB3.out.trans (hbel.mono HB3.out.size))
    by_cases hin : i < n
    · obtain ⟨e, hei⟩ : ∃ e, es[i]? = some e := ⟨_, List.getElem?_eq_getElem (by rw [HN.out]; exact hin)⟩
      obtain ⟨b, o, kk, uu, rfl, c0, c1, c2, c3, b1, b2, _, _⟩ := (HR.out.below HBW.out).ent (HE.out.below HBW.out) HN.out hei
      have hev : EntV wr (fun _ => True) (.agg #[kk, .int .i64 e.seq, .bool e.dead, uu]) e := ⟨_, _, rfl, b1, b2⟩
      have HEV := Lib.hid hev
      clear hei b1 b2 hbel hev
      go_wp2_with (first
        | (go_at_call 13; refine (one_any _ _ e _ HEV.out).mono ?_; rintro r w3 ⟨v1, rfl, ⟨k', u', rfl, hk', hu'⟩, hb4⟩; have HB4 := Lib.hid hb4; clear hk' hu' hb4)
        | (go_at_call 12; refine (put_nil _ _ e _).mono ?_; rintro r w4 ⟨rfl, hb5⟩; have HB5 := Lib.hid hb5; clear hb5))
      refine ⟨⟨i + 1, by go_num, by omega, HBL.out.trans ((HB4.out.trans (HB5.out.mono HB4.out.size)).mono HBL.out.size)⟩, by simp [intOf]; omega⟩
    · obtain rfl : i = n := by omega
      clear hbel
      go_wp2_with (first
        | (go_at_call 14; refine (wakesM_any _).mono ?_; rintro r w5 ⟨rfl, hb6⟩; have HB6 := Lib.hid (HBL.out.trans (hb6.mono HBL.out.size)); have hbx := (HB6.out.block X (Array.getElem?_eq_some_iff.1 HBOX.out).1).trans HBOX.out; have y0 := cell_of_row w5 X 0 _ _ _ hbx; have y1 := cell_of_row w5 X 1 _ _ _ hbx; have y2 := cell_of_row w5 X 2 _ _ _ hbx; have y3 := cell_of_row w5 X 3 _ _ _ hbx; clear hb6 hbx; simp only [List.getElem?_toArray, List.getElem?_cons_zero, List.getElem?_cons_succ] at y0 y1 y2 y3)
        | (go_at_call 15; refine (sameone_any (fun _ => True) (fun _ => True) _ _ ⟨[], 0, false, []⟩ ⟨[], 0, false, []⟩ _ ⟨_, _, rfl, Byt.nil _ _, Byt.nil _ _⟩ ⟨_, _, rfl, Byt.nil _ _, Byt.nil _ _⟩).mono ?_; rintro r w6 ⟨rfl, hb7⟩; have HB7 := Lib.hid (HB6.out.trans (hb7.mono HB6.out.size)); clear hb7; rw [decide_eq_true rfl])
        | (go_at_call 16; refine (len_nil _).mono ?_; rintro r w7 ⟨rfl, rfl⟩)
        | (go_at_call 17; refine (all_nil _).mono ?_; rintro r w8 ⟨A8, c8, rfl, hb8⟩; have HB8 := Lib.hid (HB7.out.trans (hb8.mono HB7.out.size)); clear hb8))
      refine bodyPost_ret (v := .bool true) (by simp [results, Try.results3, go_sem]) rfl ?_
      exact ⟨rfl, HB3.out.trans (HB8.out.mono HB3.out.size)⟩
end Go.Proofs.Ytelbidknefkaiaa
end
