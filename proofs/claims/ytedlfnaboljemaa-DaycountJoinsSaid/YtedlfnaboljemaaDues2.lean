/-
The loops of daycount.Dues and of the reference's Dues.
-/
import Derived.Test.YtedlfnaboljemaaDues
namespace Go.Proofs.Ytedlfnaboljemaa
open Go.RowKit

/-- WHAT Dues COMES TO for a start that is a day and n days. -/
def DuesPost (y m dd step : Int) (n : Nat) (w : World) (e : Ending) (w' : World) : Prop :=
  Below w.heap.size w w' ∧
    (((∀ j, j < n → dueI y m dd step ((j + 1 : Nat) : Int) ≠ none) ∧ ∃ v, e = .returned (.tuple #[v, .int .i64 0]) ∧ IntsIn w' (fun i => w.heap.size ≤ i) v (duesI y m dd step n)) ∨
     ((∃ j, j < n ∧ dueI y m dd step ((j + 1 : Nat) : Int) = none) ∧ e = .returned (.tuple #[.slice none 0 0, .int .i64 6])))

theorem dues_set (y m dd step x : Int) (n k : Nat) (hk : k < n) (hx : dueI y m dd step ((k + 1 : Nat) : Int) = some x) :
    ((duesI y m dd step k ++ List.replicate (n - k) 0).map (Value.int .i64)).set k (.int .i64 x) = (duesI y m dd step (k + 1) ++ List.replicate (n - (k + 1)) 0).map (Value.int .i64) := by
  have hl := duesI_len y m dd step k
  have hx' : (dueI y m dd step ((k : Int) + 1)).getD 0 = x := by
    have e1 : ((k + 1 : Nat) : Int) = (k : Int) + 1 := by omega
    rw [e1] at hx
    rw [hx]; rfl
  have e2 : n - k = (n - (k + 1)) + 1 := by omega
  rw [e2, List.replicate_succ, List.map_append, List.map_cons, List.set_append]
  simp only [List.length_map, hl, Nat.lt_irrefl, if_false, Nat.sub_self, List.set_cons_zero]
  simp [duesI, hx']

theorem info3 : (Try.prog.info? 3).map (fun i => (i.zero, i.size, i.bytes)) = some (some (.int .i64 0), 1, 8) := by kernel_rfl

theorem own_below {w w' : World} {base : Nat} {e : TypeId} {size n : Nat} {v : Value} {xs : List Value} (h : w.ownsRow base e size v n xs) (hb : Below w.heap.size w w') : w'.ownsRow base e size v n xs := by
  rcases h.2 with ⟨rfl, h0⟩ | ⟨g, cap, cur, rfl, hbg, hh, r⟩
  · exact ⟨h.1, .inl ⟨rfl, h0⟩⟩
  · have hlt : g < w.heap.size := by
      rcases Nat.lt_or_ge g w.heap.size with h1 | h1
      · exact h1
      · rw [Array.getElem?_eq_none h1] at hh; cases hh
    exact ⟨h.1, .inr ⟨g, cap, cur, rfl, hbg, (hb.block g hlt).trans hh, r⟩⟩

theorem own_int_at {w : World} {base : Nat} {e : TypeId} {g n c : Nat} {xs : List Int} (h : w.ownsRow base e 1 (.slice (some ⟨g, 0, none⟩) n c) n (xs.map (Value.int .i64))) (k : Nat) (hk : k < n) :
    ∃ z, w.cell? ⟨g, k, none⟩ = some (.int .i64 z) := by
  have h1 := h.cellAt k (by omega)
  have hl := h.1
  rw [List.length_map] at hl
  rw [List.getElem?_map, List.getElem?_eq_getElem (by omega)] at h1
  exact ⟨_, h1⟩

set_option maxHeartbeats 1000000 in
theorem cdues_any (d y m dd step : Int) (n : Nat) (w : World) (h0 : -719162 ≤ d) (h2 : d ≤ 2932896) (hD : Date (d + 719162) y m dd) (s1 : 1 ≤ step) (s2 : step ≤ 120) (n2 : n ≤ 480) :
    Calls Try.prog 9 #[.int .i64 d, .int .i64 step, .int .i64 (n : Int)] w (DuesPost y m dd step n w) := by
  have hDh := Lib.hid hD
  clear hD
  obtain ⟨i0, hi, hz0, hz1, hz2⟩ := info_parts info3
  have hby := Lib.hid hz2
  go_enter Try.func9, Try.ntmps9
  go_wp2_with (first | (go_at_call 17; refine (csplit_at _ _ _ _ _ h0 h2 hDh.out).mono ?_; rintro e w' ⟨rfl, rfl⟩) | (at_make; refine wpList_make_full _ rfl _ _ 29 rfl w.heap.size 3 i0 (.int .i64 0) 1 Try.underlying29 hi hz0 hz1 _ _ _ _ n rfl rfl rfl rfl (by rw [hby.out]; omega) (by unfold maxLen; omega) (Nat.le_refl _) ?_; intro w1 hown hgrow))
  have hb1 : Below w.heap.size w w1 := (Below.refl _ _).grown hgrow (Nat.le_refl _) (fun k e => by cases e)
  go_loopw [44] (fun t wr => ∃ k : Nat, k ≤ n ∧ t = .int .i64 k ∧ wr.ownsRow w.heap.size 3 1 (.slice (some ⟨w.heap.size, 0, none⟩) n n) n ((duesI y m dd step k ++ List.replicate (n - k) 0).map (Value.int .i64)) ∧ Below w.heap.size w wr ∧ (∀ j, j < k → dueI y m dd step ((j + 1 : Nat) : Int) ≠ none)) (fun t _ => n - (intOf t).toNat)
  case atStart => exact ⟨0, by omega, rfl, by simpa [duesI, toList_madeCells_one, Value.cells] using hown, hb1, fun j hj => absurd hj (by omega)⟩
  case round =>
    obtain ⟨k, hk, rfl, hown, hbel, hall⟩ := hrel
    have HO := Lib.hid hown
    have HA := Lib.hid hall
    clear hown hall
    by_cases hkn : k < n
    · have hst := steps_bd s1 s2 (by omega : k + 1 ≤ 480)
      rcases hx : dueI y m dd step ((k + 1 : Nat) : Int) with _ | x
      · have HX := Lib.hid hx
        have hcall := cadd_step d y m dd step k wr h0 h2 hDh.out s1 s2 (by omega)
        rw [hx] at hcall
        have HC := Lib.hid hcall
        clear hx hcall
        go_wp2_with (go_at_call 18; refine HC.out.mono ?_; rintro e w' ⟨rfl, hb⟩)
        go_ret2
        exact ⟨hbel.trans (hb.mono hbel.size), .inr ⟨⟨k, hkn, HX.out⟩, rfl⟩⟩
      · have HX := Lib.hid hx
        have hcall := cadd_step d y m dd step k wr h0 h2 hDh.out s1 s2 (by omega)
        rw [hx] at hcall
        have HC := Lib.hid hcall
        clear hx hcall
        go_wp2_with fail
        refine HC.out.mono ?_
        rintro e w' ⟨rfl, hb⟩
        have ho := Lib.hid (own_below HO.out hb)
        obtain ⟨z, hc0⟩ := own_int_at ho.out k hkn
        have hf0 := ho.out.frozenAt k
        go_wp2
        go_roundw
        case rel =>
          have hs := ho.out.stored k (.int .i64 x)
          rw [dues_set y m dd step x n k hkn HX.out] at hs
          exact ⟨k + 1, by omega, by go_num, hs.1, ((hbel.trans (hb.mono hbel.size)).setCell (p := ⟨w.heap.size, k, none⟩) (Nat.le_refl _) _), fun j hj => by
            rcases (by omega : j < k ∨ j = k) with h | rfl
            · exact HA.out j h
            · rw [HX.out]; simp⟩
        case measure => simp [intOf]; omega
    · obtain rfl : k = n := by omega
      go_wp2
      go_ret2
      refine ⟨hbel, .inl ⟨HA.out, _, rfl, ?_⟩⟩
      have h := HO.out
      simp only [Nat.sub_self, List.replicate_zero, List.append_nil] at h
      have hl := duesI_len y m dd step k
      exact IntsIn.of_own (xs := duesI y m dd step k) (by rw [hl]; exact h) (fun i hi _ => hi) (by rw [hl]; omega)

set_option maxHeartbeats 1000000 in
theorem rdues_any (d y m dd step : Int) (n : Nat) (w : World) (h0 : -719162 ≤ d) (h2 : d ≤ 2932896) (hD : Date (d + 719162) y m dd) (s1 : 1 ≤ step) (s2 : step ≤ 120) (n2 : n ≤ 480) :
    Calls Try.prog 10 #[.int .i64 d, .int .i64 step, .int .i64 (n : Int)] w (DuesPost y m dd step n w) := by
  have hDh := Lib.hid hD
  clear hD
  have hg := goodB_yes h0 h2
  obtain ⟨i0, hi, hz0, hz1, hz2⟩ := info_parts info3
  have hby := Lib.hid hz2
  have hz1' := Lib.hid hz1
  clear hz2 hz1
  go_enter Try.func10, Try.ntmps10
  go_wp2_with (go_at_call 15; refine (good_any _ _).mono ?_; rintro e w' ⟨rfl, rfl⟩)
  go_loopw [8, 9] (fun v t wr => ∃ k : Nat, k ≤ n ∧ t = .int .i64 ((k : Int) + 1) ∧ wr.ownsRow w.heap.size 3 1 v (duesI y m dd step k).length ((duesI y m dd step k).map (Value.int .i64)) ∧ Below w.heap.size w wr ∧ (∀ j, j < k → dueI y m dd step ((j + 1 : Nat) : Int) ≠ none)) (fun _ t _ => n + 1 - (intOf t).toNat)
  case atStart => exact ⟨0, by omega, by simp, World.ownsRow_nil _ _ _ _, Below.refl _ _, fun j hj => absurd hj (by omega)⟩
  case round =>
    obtain ⟨k, hk, rfl, hown, hbel, hall⟩ := hrel
    have HO := Lib.hid hown
    have HA := Lib.hid hall
    clear hown hall
    by_cases hkn : k < n
    · have hst := steps_bd s1 s2 (by omega : k + 1 ≤ 480)
      rcases hx : dueI y m dd step ((k + 1 : Nat) : Int) with _ | x
      · have HX := Lib.hid hx
        have hcall := radd_step d y m dd step k wr h0 h2 hDh.out s1 s2 (by omega)
        rw [hx] at hcall
        have HC := Lib.hid hcall
        clear hx hcall
        go_wp2_with (go_at_call 19; refine HC.out.mono ?_; rintro e w' ⟨rfl, rfl⟩)
        go_ret2
        exact ⟨hbel, .inr ⟨⟨k, hkn, HX.out⟩, rfl⟩⟩
      · have HX := Lib.hid hx
        have hcall := radd_step d y m dd step k wr h0 h2 hDh.out s1 s2 (by omega)
        rw [hx] at hcall
        have HC := Lib.hid hcall
        have hlen := duesI_len y m dd step k
        have HL := Lib.hid hlen
        have hl480 : (duesI y m dd step k).length + 1 ≤ 480 := by omega
        have e3 : (dueI y m dd step ((k : Int) + 1)).getD 0 = x := by
          have e1 : ((k + 1 : Nat) : Int) = (k : Int) + 1 := by omega
          rw [e1] at hx
          rw [hx]; rfl
        have HE := Lib.hid e3
        clear hx hcall hlen e3
        go_wp2_with (first | (go_at_call 19; refine HC.out.mono ?_; rintro e w' ⟨rfl, rfl⟩) | (at_builtin; refine wpList_append_own _ rfl _ _ 29 rfl w.heap.size 3 i0 (.int .i64 0) 1 8 Try.underlying29 hi hz0 hz1'.out hby.out rfl (by decide) _ _ _ rfl (HO.out.alloc _) ⟨wr.heap.size, 0, none⟩ 1 1 [.int .i64 x] rfl rfl (cell_one_new _ _ _) (by simp [Value.oneCell']) (by unfold maxLen; omega) (by omega) (by have := hbel.size; simp; omega) ?_; intro v' w1 hown' hgrow _))
        refine ⟨⟨k + 1, by omega, by go_num, ?_, ?_, ?_⟩, by simp [intOf]; omega⟩
        · have e4 : duesI y m dd step (k + 1) = duesI y m dd step k ++ [x] := by simp only [duesI]; rw [HE.out]
          rw [e4, List.length_append, List.map_append]
          exact hown'
        · exact (hbel.alloc hbel.size _).grown hgrow (by have := hbel.size; simp; omega) (fun j e => (HO.out.lt j e).1)
        · intro j hj
          rcases (by omega : j < k ∨ j = k) with h | rfl
          · exact HA.out j h
          · rw [HX.out]; simp
    · obtain rfl : k = n := by omega
      go_wp2
      go_ret2
      refine ⟨hbel, .inl ⟨HA.out, _, rfl, ?_⟩⟩
      exact IntsIn.of_own HO.out (fun i hi _ => hi) (by rw [duesI_len]; omega)
end Go.Proofs.Ytedlfnaboljemaa
