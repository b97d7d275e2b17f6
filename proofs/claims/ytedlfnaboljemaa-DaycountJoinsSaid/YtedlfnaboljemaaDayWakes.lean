/-
The contract of usancelaw03.wakes: it returns true.
-/
import Derived.Test.YtedlfnaboljemaaCut
namespace Go.Proofs.Ytedlfnaboljemaa
open Go.RowKit Go.Sort

theorem wk_date1 : Date (19753 + 719162) 2024 1 31 := by refine ⟨by decide, by decide, by decide, by decide, by decide, by decide⟩
theorem wk_date2 : Date (19782 + 719162) 2024 2 29 := by refine ⟨by decide, by decide, by decide, by decide, by decide, by decide⟩
theorem wk_dues : (∀ j, j < 3 → dueI 2024 1 31 1 ((j + 1 : Nat) : Int) ≠ none) ∧ duesI 2024 1 31 1 3 = [19782, 19813, 19843] := by
  constructor
  · intro j hj
    rcases (by omega : j = 0 ∨ j = 1 ∨ j = 2) with rfl | rfl | rfl <;> decide
  · decide
theorem wk_sort : (([5, 9] ++ ([7, 5, 6, 7, 12] : List Int).filter (inB 5 9)).mergeSort fun x y => decide (x ≤ y)) = [5, 6, 7, 7, 9] := by
  have e : ([5, 9] ++ ([7, 5, 6, 7, 12] : List Int).filter (inB 5 9)) = [5, 9, 7, 6, 7] := by decide
  rw [e]
  simp [List.mergeSort, List.MergeSort.Internal.splitInTwo]
theorem wk_cut : cutI 5 9 [7, 5, 6, 7, 12] = [5, 6, 7, 9] := by
  unfold cutI
  rw [wk_sort]
  decide +kernel
theorem wk_thirty : thirtyI 2024 1 31 2024 2 29 = 29 := by decide

theorem lit_at (w : World) (S : Nat → Prop) (g : Nat) (hg : g = w.heap.size) (hS : S w.heap.size) (e : TypeId) (xs : List Int) (n : Nat) (hn : n = xs.length) (hl : xs.length ≤ 140737488355328) (cs : Array Value) (ho : cs = (xs.map (Value.int .i64)).toArray) :
    IntsIn (w.alloc (.cells cs e)) S (.slice (some ⟨g, 0, none⟩) n n) xs := by
  subst hg ho hn
  exact IntsIn.lit w S hS e xs hl _ rfl

set_option maxHeartbeats 2000000 in
theorem wakes_any (w : World) :
    Calls Try.prog 6 #[] w fun e w' => e = .returned (.bool true) ∧ Below w.heap.size w w' := by
  go_enter Try.func6, Try.ntmps6
  go_wp2_with fail
  refine (ccount_1 19753 19782 _ _ _ _ _ _ w (by omega) (by omega) (by omega) wk_date1 wk_date2).mono ?_
  rintro e w1 ⟨rfl, hb1⟩
  rw [wk_thirty]
  unfold R3
  go_wp2_with fail
  refine (cdues_any 19753 2024 1 31 1 3 w1 (by omega) (by omega) wk_date1 (by omega) (by omega) (by omega)).mono ?_
  rintro e w2 ⟨hb2, ⟨_, v2, rfl, hv2⟩ | ⟨⟨j, hj, hx⟩, _⟩⟩
  · rw [wk_dues.2] at hv2
    go_wp2_with fail
    refine (cut_any (fun _ => True) 5 9 _ [7, 5, 6, 7, 12] _ (by omega) (by omega) (by omega) (IntsIn.lit w2 (fun _ => True) trivial 3 [7, 5, 6, 7, 12] (by simp) _ rfl) (by simp)).mono ?_
    rintro e w3 ⟨v3, rfl, hv3, hb3⟩
    rw [wk_cut] at hv3
    go_wp2_with fail
    refine (ccount_conv 4 1 2 _ (by omega)).mono ?_
    rintro e w4 ⟨rfl, hb4⟩
    unfold R3
    have hb2' : RowKit.Below w2.heap.size w2 w3 := ((RowKit.Below.refl _ _).alloc (Nat.le_refl _) _).trans (hb3.mono (by simp))
    have hb24 : RowKit.Below w2.heap.size w2 w4 := hb2'.trans (hb4.mono hb2'.size)
    have hv2' := hv2.below hb24
    have hv3' := hv3.below hb4
    have hb04 : RowKit.Below w.heap.size w w4 := hb1.trans ((hb2.trans (hb24.mono hb2.size)).mono hb1.size)
    go_wp2_with fail
    refine (same_any (fun _ => True) (fun _ => True) _ _ [19782, 19813, 19843] [19782, 19813, 19843] _ ?_ ?_).mono ?_
    · exact (hv2'.below ((RowKit.Below.refl _ _).alloc (Nat.le_refl _) _)).mono (fun _ _ => trivial)
    · exact IntsIn.lit w4 (fun _ => True) trivial 3 [19782, 19813, 19843] (by simp) _ rfl
    rintro e w5 ⟨rfl, q5, rfl⟩
    go_wp2_with fail
    refine (same_any (fun _ => True) (fun _ => True) _ _ [5, 6, 7, 9] [5, 6, 7, 9] _ ?_ ?_).mono ?_
    · exact ((hv3'.below (below_drewN ((RowKit.Below.refl _ _).alloc (Nat.le_refl _) _) q5)).below ((RowKit.Below.refl _ _).alloc (Nat.le_refl _) _)).mono (fun _ _ => trivial)
    · exact lit_at _ _ _ (by simp) trivial 3 [5, 6, 7, 9] 4 rfl (by simp) _ rfl
    rintro e w6 ⟨rfl, q6, rfl⟩
    go_wp2
    go_ret
    refine ⟨rfl, ?_⟩
    have h1 := hb04.alloc hb04.size (.cells #[.int .i64 19782, .int .i64 19813, .int .i64 19843] 3)
    have h2 := below_drewN h1 q5
    exact below_drewN (h2.alloc h2.size _) _
  · exact absurd hx (wk_dues.1 j hj)
end Go.Proofs.Ytedlfnaboljemaa
