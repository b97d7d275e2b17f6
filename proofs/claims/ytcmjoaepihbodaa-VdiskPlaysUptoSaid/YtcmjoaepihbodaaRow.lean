/-
Words for memory: a slice that reads as a list, in blocks of a set S; frames.
-/
import Derived.Test.YtcmjoaepihbodaaKit
import Derived.Laws.OwnMore
import Derived.Deep.Draws
namespace Go.Proofs.Ytcmjoaepihbodaa
open Go.RowKit

/-- 'w' is 'w' with all blocks as they were but those in S, and new ones. -/
structure Only (S : Nat → Prop) (w w' : World) : Prop where
  os : w'.os = w.os
  tape : w'.tape = w.tape
  output : w'.output = w.output
  size : w.heap.size ≤ w'.heap.size
  block : ∀ i, i < w.heap.size → ¬ S i → w'.heap[i]? = w.heap[i]?

def Row (w : World) (S : Nat → Prop) (A : Option Addr) (n size : Nat) (xs : List Value) : Prop :=
  xs.length = n * size ∧ (0 < n → ∃ b o, A = some ⟨b, o, none⟩ ∧ S b ∧ b < w.heap.size ∧ ∀ j u, xs[j]? = some u → w.cell? ⟨b, o + j, none⟩ = some u)

theorem Row.nil (w : World) (S : Nat → Prop) (A : Option Addr) (size : Nat) : Row w S A 0 size [] := ⟨by simp, fun h => absurd h (by omega)⟩
theorem Row.at_ {w : World} {S : Nat → Prop} {A : Option Addr} {n k : Nat} {xs : List Value} (h : Row w S A n 1 xs) (hk : k < n) :
    ∃ b o u, A = some ⟨b, o, none⟩ ∧ S b ∧ b < w.heap.size ∧ xs[k]? = some u ∧ w.cell? ⟨b, o + k, none⟩ = some u := by
  obtain ⟨b, o, e, hS, hb, hc⟩ := h.2 (by omega)
  have hl : k < xs.length := by have := h.1; omega
  exact ⟨b, o, xs[k], e, hS, hb, List.getElem?_eq_getElem hl, hc k _ (List.getElem?_eq_getElem hl)⟩
theorem Row.keep {w w' : World} {S : Nat → Prop} {A : Option Addr} {n size : Nat} {xs : List Value} (h : Row w S A n size xs) (hz : w.heap.size ≤ w'.heap.size)
    (hk : ∀ i, i < w.heap.size → S i → w'.heap[i]? = w.heap[i]?) : Row w' S A n size xs :=
  ⟨h.1, fun hn => by
    obtain ⟨b, o, e, hS, hb, hc⟩ := h.2 hn
    refine ⟨b, o, e, hS, by omega, fun j u hu => ?_⟩
    rw [World.cell?_of_block (w' := w') (w := w) (a := ⟨b, o + j, none⟩) (hk b hb hS)]
    exact hc j u hu⟩
theorem Row.mono {w : World} {S S' : Nat → Prop} {A : Option Addr} {n size : Nat} {xs : List Value} (h : Row w S A n size xs) (hS : ∀ i, S i → S' i) : Row w S' A n size xs :=
  ⟨h.1, fun hn => by
    obtain ⟨b, o, e, h1, hb, hc⟩ := h.2 hn
    exact ⟨b, o, e, hS b h1, hb, hc⟩⟩
theorem Row.below {w w' : World} {S : Nat → Prop} {A : Option Addr} {n size : Nat} {xs : List Value} (h : Row w S A n size xs) (hb : Below w.heap.size w w') : Row w' S A n size xs :=
  h.keep hb.size fun i hi _ => hb.block i hi
theorem Row.drewN {w : World} {S : Nat → Prop} {A : Option Addr} {n size : Nat} {xs : List Value} (h : Row w S A n size xs) (k : Nat) : Row (w.drewN k) S A n size xs := h
theorem Row.alloc {w : World} {S : Nat → Prop} {A : Option Addr} {n size : Nat} {xs : List Value} (h : Row w S A n size xs) (o : Obj) : Row (w.alloc o) S A n size xs :=
  h.keep (by simp) fun i hi _ => Below.heap_alloc w o i hi

/-- a slice value of ints. -/
def IntsIn (w : World) (S : Nat → Prop) (v : Value) (xs : List Int) : Prop :=
  ∃ A c, v = .slice A xs.length c ∧ xs.length ≤ c ∧ xs.length ≤ 140737488355328 ∧ Row w S A xs.length 1 (xs.map (Value.int .i64))
theorem IntsIn.nil (w : World) (S : Nat → Prop) : IntsIn w S (.slice none 0 0) [] := ⟨none, 0, rfl, by simp, by simp, Row.nil _ _ _ _⟩
theorem IntsIn.below {w w' : World} {S : Nat → Prop} {v : Value} {xs : List Int} (h : IntsIn w S v xs) (hb : Below w.heap.size w w') : IntsIn w' S v xs := by
  obtain ⟨A, c, e, h1, h2, h3⟩ := h
  exact ⟨A, c, e, h1, h2, h3.below hb⟩
theorem IntsIn.mono {w : World} {S S' : Nat → Prop} {v : Value} {xs : List Int} (h : IntsIn w S v xs) (hS : ∀ i, S i → S' i) : IntsIn w S' v xs := by
  obtain ⟨A, c, e, h1, h2, h3⟩ := h
  exact ⟨A, c, e, h1, h2, h3.mono hS⟩
theorem IntsIn.drewN {w : World} {S : Nat → Prop} {v : Value} {xs : List Int} (h : IntsIn w S v xs) (k : Nat) : IntsIn (w.drewN k) S v xs := h
theorem IntsIn.of_own {w : World} {S : Nat → Prop} {base : Nat} {e : TypeId} {v : Value} {xs : List Int} (h : w.ownsRow base e 1 v xs.length (xs.map (Value.int .i64))) (hS : ∀ i, base ≤ i → i < w.heap.size → S i)
    (hl : xs.length ≤ 140737488355328) : IntsIn w S v xs := by
  rcases h.2 with ⟨rfl, h0⟩ | ⟨g, cap, cur, rfl, hbg, hh, hcap, _⟩
  · have : xs = [] := List.eq_nil_of_length_eq_zero h0
    subst this
    exact IntsIn.nil _ _
  · have hlt : g < w.heap.size := by
      rcases Nat.lt_or_ge g w.heap.size with h1 | h1
      · exact h1
      · rw [Array.getElem?_eq_none h1] at hh; cases hh
    refine ⟨_, _, rfl, hcap, hl, by simp, fun _ => ⟨g, 0, rfl, hS _ hbg hlt, hlt, fun j u hu => ?_⟩⟩
    have := h.cells (g := g) rfl j u hu
    rwa [Addr.add_lit] at this

/-- a literal of ints. -/
theorem IntsIn.lit (w : World) (S : Nat → Prop) (hS : S w.heap.size) (e : TypeId) (xs : List Int) (hl : xs.length ≤ 140737488355328) (o : Obj) (ho : o = .cells (xs.map (Value.int .i64)).toArray e (0, 0)) :
    IntsIn (w.alloc o) S (.slice (some ⟨w.heap.size, 0, none⟩) xs.length xs.length) xs := by
  subst ho
  refine ⟨_, _, rfl, Nat.le_refl _, hl, by simp, fun _ => ⟨w.heap.size, 0, rfl, hS, by simp, fun j u hu => ?_⟩⟩
  rw [World.cell?_alloc_at _ _ _ _ rfl]
  simpa using hu
end Go.Proofs.Ytcmjoaepihbodaa
