/-
Law 13: nil objects refuse.
-/
import Derived.Test.YtjnolpfmchnnmaaGreatDoorQPNilM14
section
namespace Go.Proofs.YtjnolpfmchnnmaaGreatDoor
set_option maxRecDepth 100000
open Go.RowKit Go.BigFrame Go.Sort Go.Shelf Go.Lib
attribute [local go_sem ↓] Go.wp_at_zero Go.wp_at_succ
set_option maxRecDepth 100000 in
set_option maxHeartbeats 1000000 in
theorem msweep_nil (w : World) : Calls Tryz.prog 32 #[.pointer none] w fun r w' => r = .returned (.tuple #[.slice none 0 0, .int .i64 1]) ∧ fr w w' := by
  go_enter Tryz.func32, Tryz.ntmps32
  go_wp2
  go_ret2
  exact ⟨rfl, fr.refl⟩
set_option maxRecDepth 100000 in
set_option maxHeartbeats 2000000 in
theorem manifestNilLaw (v : Value) (e : Edt) (w : World) (hv : editV w (fun _ => True) v e ∧ e.drop.length * 8 ≤ 140737488355328) (ht : TabW w) :
    Calls Tryz.prog 8 #[v] w fun r w' => r = .returned (.bool true) ∧ Below w.heap.size w w' := by
  obtain ⟨⟨av, dv, rfl, ha, hd⟩, h8⟩ := hv
  have h72 : e.add.length * 72 ≤ 140737488355328 := by obtain ⟨_, _, _, _, _, _, h3, _⟩ := ha; exact h3
  have hf : fr w (w.alloc (.cells #[av, dv, .int .i64 e.lg, .int .i64 e.sq] 45)) := fr.alloc fr.refl _
  have b0 := heap_alloc_new w (.cells #[av, dv, .int .i64 e.lg, .int .i64 e.sq] 45)
  obtain ⟨Aa, ca, rfl⟩ := ha.form
  obtain ⟨Ad, cd, rfl⟩ : ∃ A c, dv = .slice A e.drop.length c := by obtain ⟨A, c, h, _⟩ := hd; exact ⟨A, c, h⟩
  have HWK := Lib.hid fun wx (hx : fr w wx) => mwakes_any wx (ht.below hx)
  have HED : Hid (∀ wx, fr w wx → Calls Tryz.prog 26 #[.agg #[.slice Aa e.add.length ca, .slice Ad e.drop.length cd, .int .i64 e.lg, .int .i64 e.sq]] wx fun r w' => (∃ a b c d, r = .returned (.agg #[a, b, c, d])) ∧ fr wx w') := Lib.hid fun wx hx => by
    refine (edit_any (fun _ => True) _ _ e wx (ha.below tbFine hx) (hd.below hx) h8 h72).mono ?_
    rintro r w' ⟨⟨v, rfl, _, _, rfl, _⟩, h⟩
    exact ⟨⟨_, _, _, _, rfl⟩, h⟩
  have HF := Lib.hid hf
  have HB := Lib.hid b0
  obtain ⟨E, hE⟩ : ∃ E, w.heap.size = E := ⟨_, rfl⟩
  have HSM : Hid (∀ wx, Calls Tryz.prog 30 #[.agg #[.slice none 0 0, .int .i64 0, .int .i64 0, .int .i64 0], .agg #[.slice none 0 0, .int .i64 0, .int .i64 0, .int .i64 0]] wx fun r w' => r = .returned (.bool true) ∧ fr wx w') := Lib.hid fun wx => versame_any (fun _ => True) (fun _ => True) _ _ [] 0 0 0 wx ⟨none, 0, [], rfl, by simp, by simp, by simp, Row.nil _ _ _ _, .nil⟩ ⟨none, 0, [], rfl, by simp, by simp, by simp, Row.nil _ _ _ _, .nil⟩
  clear ha hd hf b0 ht h8 h72
  go_enter Tryz.func8, Tryz.ntmps8
  go_upto_region 1 with (fail)
  generalize w.alloc (.cells #[.slice Aa e.add.length ca, .slice Ad e.drop.length cd, .int .i64 e.lg, .int .i64 e.sq] 45) = w0 at HF HB ⊢
  rw [hE] at HB
  go_upto_region 4 with (first
    | (go_at_call 32; refine (msweep_nil _).mono ?_; rintro r w1 ⟨rfl, f1⟩)
    | (go_at_call 24; refine (mopen_nil _).mono ?_; rintro r w2 ⟨rfl, f2⟩))
  have HF2 := Lib.hid (fr.step (fr.step HF.out f1) f2)
  have HB2 := Lib.hid (boxRowFr (boxRowFr HB.out f1) f2)
  clear f1 f2
  go_wp2_with (first
    | (go_at_call 23; refine (HWK.out _ HF2.out).mono ?_; rintro r w3 ⟨rfl, f3⟩; have b3 := boxRowFr HB2.out f3; have c0 := cell_of_row _ _ 0 _ _ _ b3; have c1 := cell_of_row _ _ 1 _ _ _ b3; have c2 := cell_of_row _ _ 2 _ _ _ b3; have c3 := cell_of_row _ _ 3 _ _ _ b3)
    | (go_at_call 26; refine (HED.out _ (fr.step HF2.out f3)).mono ?_; rintro r w4 ⟨⟨a1, a2, a3, a4, rfl⟩, f4⟩)
    | (go_at_call 28; refine (mapply_nil _ _ ⟨_, _, _, _, rfl⟩).mono ?_; rintro r w5 ⟨rfl, f5⟩)
    | (go_at_call 29; refine (mver_nil _).mono ?_; rintro r w6 ⟨rfl, f6⟩)
    | (go_at_call 30; refine (HSM.out _).mono ?_; rintro r w7 ⟨rfl, f7⟩))
  go_ret
  exact ⟨rfl, fr.step (fr.step (fr.step (fr.step (fr.step HF2.out f3) f4) f5) f6) f7⟩
end Go.Proofs.YtjnolpfmchnnmaaGreatDoor
end
