/-
Entries in memory, and the contracts of the functions on one or two entries.
-/
import Derived.Test.YtelbidknefkaiaaByt
import Derived.Deep.RegionHeld3
import Derived.Deep.DrawnRows
import Derived.StillTactics
import Derived.Laws.Pointers
namespace Go.Proofs.Ytelbidknefkaiaa
open Go.RowKit
attribute [local go_sem ↓] Go.wp_at_zero Go.wp_at_succ

/-- an entry by value -/
def EntV (w : World) (S : Nat → Prop) (v : Value) (e : Ent) : Prop :=
  ∃ k u, v = .agg #[k, .int .i64 e.seq, .bool e.dead, u] ∧ Byt w S k e.key ∧ Byt w S u e.val
theorem EntV.below {w w' : World} {S : Nat → Prop} {v : Value} {e : Ent} (h : EntV w S v e) (hb : Below w.heap.size w w') : EntV w' S v e := by
  obtain ⟨k, u, rfl, h1, h2⟩ := h
  exact ⟨k, u, rfl, h1.below hb, h2.below hb⟩
theorem EntV.mono {w : World} {S S' : Nat → Prop} {v : Value} {e : Ent} (h : EntV w S v e) (hS : ∀ i, S i → S' i) : EntV w S' v e := by
  obtain ⟨k, u, rfl, h1, h2⟩ := h
  exact ⟨k, u, rfl, h1.mono hS, h2.mono hS⟩

theorem Byt.len {w : World} {S : Nat → Prop} {v : Value} {bs : List UInt8} (h : Byt w S v bs) : bs.length ≤ 140737488355328 := by
  obtain ⟨A, c, e, _, _, hl, _⟩ := h
  exact hl
theorem slice_form {w : World} {S : Nat → Prop} {v : Value} {bs : List UInt8} (h : Byt w S v bs) : ∃ A c, v = .slice A bs.length c := by
  obtain ⟨A, c, e, _⟩ := h
  exact ⟨A, c, e⟩

set_option maxHeartbeats 2000000 in
theorem good_raw (A A' : Option Addr) (n c m c' : Nat) (seq : Int) (dead : Bool) (w : World) (hn : n ≤ 140737488355328) (hm : m ≤ 140737488355328) :
    Calls Try.prog 36 #[.agg #[.slice A n c, .int .i64 seq, .bool dead, .slice A' m c']] w fun r w' => r = .returned (.bool (goodR n seq dead m)) ∧ w' = w.alloc (.cells #[.slice A n c, .int .i64 seq, .bool dead, .slice A' m c'] 26) := by
  rcases (by omega : n = 0 ∨ 200 < n ∨ (0 < n ∧ n ≤ 200)) with h1 | h1 | ⟨h1, h1'⟩
  · subst h1
    rw [goodR_f (by omega)]
    go_enter Try.func36, Try.ntmps36
    go_wp2
    go_ret
    exact ⟨rfl, rfl⟩
  · rw [goodR_f (by omega)]
    go_enter Try.func36, Try.ntmps36
    go_wp2
    go_ret
    exact ⟨rfl, rfl⟩
  · rcases (by omega : seq ≤ 0 ∨ 1099511627776 < seq ∨ (0 < seq ∧ seq ≤ 1099511627776)) with h2 | h2 | ⟨h2, h2'⟩
    · rw [goodR_f (by omega)]
      go_enter Try.func36, Try.ntmps36
      go_wp2
      go_ret
      exact ⟨rfl, rfl⟩
    · rw [goodR_f (by omega)]
      go_enter Try.func36, Try.ntmps36
      go_wp2
      go_ret
      exact ⟨rfl, rfl⟩
    · rcases (by omega : 4096 < m ∨ m ≤ 4096) with h3 | h3
      · rw [goodR_f (by omega)]
        go_enter Try.func36, Try.ntmps36
        go_wp2
        go_ret
        exact ⟨rfl, rfl⟩
      · cases dead
        · rw [goodR_t.2 ⟨h1, h1', h2, h2', h3, by simp⟩]
          go_enter Try.func36, Try.ntmps36
          go_wp2
          go_ret
          exact ⟨rfl, rfl⟩
        · rcases (by omega : m = 0 ∨ 0 < m) with h4 | h4
          · subst h4
            rw [goodR_t.2 ⟨h1, h1', h2, h2', h3, by simp⟩]
            go_enter Try.func36, Try.ntmps36
            go_wp2
            go_ret
            exact ⟨rfl, rfl⟩
          · rw [goodR_f (by simp; omega)]
            go_enter Try.func36, Try.ntmps36
            go_wp2
            go_ret
            exact ⟨rfl, rfl⟩
theorem good_any (S : Nat → Prop) (v : Value) (e : Ent) (w : World) (hv : EntV w S v e) :
    Calls Try.prog 36 #[v] w fun r w' => r = .returned (.bool (goodE e)) ∧ Below w.heap.size w w' := by
  obtain ⟨k, u, rfl, h1, h2⟩ := hv
  obtain ⟨A, c, rfl, _, _, hl1, _⟩ := h1
  obtain ⟨A', c', rfl, _, _, hl2, _⟩ := h2
  exact (good_raw A A' _ c _ c' e.seq e.dead w hl1 hl2).mono fun r w' ⟨h, h'⟩ => ⟨h, h' ▸ (Below.refl _ _).alloc (Nat.le_refl _) _⟩
set_option maxHeartbeats 2000000 in
theorem rgood_raw (A A' : Option Addr) (n c m c' : Nat) (seq : Int) (dead : Bool) (w : World) (hn : n ≤ 140737488355328) (hm : m ≤ 140737488355328) :
    Calls Try.prog 47 #[.agg #[.slice A n c, .int .i64 seq, .bool dead, .slice A' m c']] w fun r w' => r = .returned (.bool (goodR n seq dead m)) ∧ w' = w.alloc (.cells #[.slice A n c, .int .i64 seq, .bool dead, .slice A' m c'] 26) := by
  rcases (by omega : n = 0 ∨ 200 < n ∨ (0 < n ∧ n ≤ 200)) with h1 | h1 | ⟨h1, h1'⟩
  · subst h1
    rw [goodR_f (by omega)]
    go_enter Try.func47, Try.ntmps47
    go_wp2
    go_ret
    exact ⟨rfl, rfl⟩
  · rw [goodR_f (by omega)]
    go_enter Try.func47, Try.ntmps47
    go_wp2
    go_ret
    exact ⟨rfl, rfl⟩
  · rcases (by omega : seq ≤ 0 ∨ 1099511627776 < seq ∨ (0 < seq ∧ seq ≤ 1099511627776)) with h2 | h2 | ⟨h2, h2'⟩
    · rw [goodR_f (by omega)]
      go_enter Try.func47, Try.ntmps47
      go_wp2
      go_ret
      exact ⟨rfl, rfl⟩
    · rw [goodR_f (by omega)]
      go_enter Try.func47, Try.ntmps47
      go_wp2
      go_ret
      exact ⟨rfl, rfl⟩
    · rcases (by omega : 4096 < m ∨ m ≤ 4096) with h3 | h3
      · rw [goodR_f (by omega)]
        go_enter Try.func47, Try.ntmps47
        go_wp2
        go_ret
        exact ⟨rfl, rfl⟩
      · cases dead
        · rw [goodR_t.2 ⟨h1, h1', h2, h2', h3, by simp⟩]
          go_enter Try.func47, Try.ntmps47
          go_wp2
          go_ret
          exact ⟨rfl, rfl⟩
        · rcases (by omega : m = 0 ∨ 0 < m) with h4 | h4
          · subst h4
            rw [goodR_t.2 ⟨h1, h1', h2, h2', h3, by simp⟩]
            go_enter Try.func47, Try.ntmps47
            go_wp2
            go_ret
            exact ⟨rfl, rfl⟩
          · rw [goodR_f (by simp; omega)]
            have hm0 : ((m : Int) == 0) = false := by simp; omega
            go_enter Try.func47, Try.ntmps47
            go_wp2
            go_ret
            exact ⟨rfl, rfl⟩
theorem rgood_any (S : Nat → Prop) (v : Value) (e : Ent) (w : World) (hv : EntV w S v e) :
    Calls Try.prog 47 #[v] w fun r w' => r = .returned (.bool (goodE e)) ∧ Below w.heap.size w w' := by
  obtain ⟨k, u, rfl, h1, h2⟩ := hv
  obtain ⟨A, c, rfl, _, _, hl1, _⟩ := h1
  obtain ⟨A', c', rfl, _, _, hl2, _⟩ := h2
  exact (rgood_raw A A' _ c _ c' e.seq e.dead w hl1 hl2).mono fun r w' ⟨h, h'⟩ => ⟨h, h' ▸ (Below.refl _ _).alloc (Nat.le_refl _) _⟩
end Go.Proofs.Ytelbidknefkaiaa
