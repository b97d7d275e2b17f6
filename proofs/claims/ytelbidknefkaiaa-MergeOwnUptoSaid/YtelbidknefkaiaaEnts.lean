/-
Slices of entries: how they read.
-/
import Derived.Test.YtelbidknefkaiaaOne
namespace Go.Proofs.Ytelbidknefkaiaa
open Go.RowKit

def EntCells (w : World) (S : Nat → Prop) : List Value → List Ent → Prop
  | [], [] => True
  | k :: s :: d :: u :: cs, e :: es => s = .int .i64 e.seq ∧ d = .bool e.dead ∧ Byt w S k e.key ∧ Byt w S u e.val ∧ EntCells w S cs es
  | _, _ => False
theorem EntCells.cons_inv {w : World} {S : Nat → Prop} {cs : List Value} {e : Ent} {es : List Ent} (h : EntCells w S cs (e :: es)) :
    ∃ k u cs', cs = k :: .int .i64 e.seq :: .bool e.dead :: u :: cs' ∧ Byt w S k e.key ∧ Byt w S u e.val ∧ EntCells w S cs' es := by
  match cs, h with
  | k :: s :: d :: u :: cs', h =>
    obtain ⟨rfl, rfl, h1, h2, h3⟩ := h
    exact ⟨k, u, cs', rfl, h1, h2, h3⟩
theorem EntCells.nil_inv {w : World} {S : Nat → Prop} {cs : List Value} (h : EntCells w S cs []) : cs = [] := by
  cases cs with
  | nil => rfl
  | cons x l => simp [EntCells] at h
theorem EntCells.len {w : World} {S : Nat → Prop} {cs : List Value} {es : List Ent} (h : EntCells w S cs es) : cs.length = es.length * 4 := by
  induction es generalizing cs with
  | nil => rw [h.nil_inv]; rfl
  | cons e es ih =>
    obtain ⟨k, u, cs', rfl, _, _, h3⟩ := h.cons_inv
    simp [ih h3]; omega
theorem EntCells.append {w : World} {S : Nat → Prop} {cs cs' : List Value} {es es' : List Ent} (h : EntCells w S cs es) (h' : EntCells w S cs' es') : EntCells w S (cs ++ cs') (es ++ es') := by
  induction es generalizing cs with
  | nil => rw [h.nil_inv]; exact h'
  | cons e es ih =>
    obtain ⟨k, u, cs1, rfl, h1, h2, h3⟩ := h.cons_inv
    exact ⟨rfl, rfl, h1, h2, ih h3⟩
theorem EntCells.one {w : World} {S : Nat → Prop} {k u : Value} {e : Ent} (h1 : Byt w S k e.key) (h2 : Byt w S u e.val) : EntCells w S [k, .int .i64 e.seq, .bool e.dead, u] [e] := ⟨rfl, rfl, h1, h2, trivial⟩
theorem EntCells.imp {w w' : World} {S S' : Nat → Prop} {cs : List Value} {es : List Ent} (h : EntCells w S cs es) (hi : ∀ v bs, Byt w S v bs → Byt w' S' v bs) : EntCells w' S' cs es := by
  induction es generalizing cs with
  | nil => rw [h.nil_inv]; trivial
  | cons e es ih =>
    obtain ⟨k, u, cs1, rfl, h1, h2, h3⟩ := h.cons_inv
    exact ⟨rfl, rfl, hi _ _ h1, hi _ _ h2, ih h3⟩
theorem EntCells.below {w w' : World} {S : Nat → Prop} {cs : List Value} {es : List Ent} (h : EntCells w S cs es) (hb : Below w.heap.size w w') : EntCells w' S cs es := h.imp fun _ _ h => h.below hb
theorem EntCells.only {w w' : World} {T S : Nat → Prop} {cs : List Value} {es : List Ent} (h : EntCells w T cs es) (ho : Only S w w') (hd : ∀ i, i < w.heap.size → T i → ¬ S i) : EntCells w' T cs es := h.imp fun _ _ h => h.only ho hd
theorem EntCells.mono {w : World} {S S' : Nat → Prop} {cs : List Value} {es : List Ent} (h : EntCells w S cs es) (hS : ∀ i, S i → S' i) : EntCells w S' cs es := h.imp fun _ _ h => h.mono hS
theorem EntCells.at_ {w : World} {S : Nat → Prop} {cs : List Value} {es : List Ent} (h : EntCells w S cs es) {i : Nat} {e : Ent} (hi : es[i]? = some e) :
    ∃ k u, cs[4 * i]? = some k ∧ cs[4 * i + 1]? = some (.int .i64 e.seq) ∧ cs[4 * i + 2]? = some (.bool e.dead) ∧ cs[4 * i + 3]? = some u ∧ Byt w S k e.key ∧ Byt w S u e.val := by
  induction es generalizing cs i with
  | nil => simp at hi
  | cons e' es ih =>
    obtain ⟨k, u, cs1, rfl, h1, h2, h3⟩ := h.cons_inv
    cases i with
    | zero =>
      simp at hi
      subst hi
      exact ⟨k, u, rfl, rfl, rfl, rfl, h1, h2⟩
    | succ i =>
      obtain ⟨k', u', a1, a2, a3, a4, a5, a6⟩ := ih h3 (i := i) (by simpa using hi)
      refine ⟨k', u', ?_, ?_, ?_, ?_, a5, a6⟩
      · rw [show 4 * (i + 1) = 4 * i + 4 from by omega]; simpa using a1
      · rw [show 4 * (i + 1) + 1 = (4 * i + 1) + 4 from by omega]; simpa using a2
      · rw [show 4 * (i + 1) + 2 = (4 * i + 2) + 4 from by omega]; simpa using a3
      · rw [show 4 * (i + 1) + 3 = (4 * i + 3) + 4 from by omega]; simpa using a4
theorem EntCells.drop {w : World} {S : Nat → Prop} {cs : List Value} {es : List Ent} (h : EntCells w S cs es) (i : Nat) : EntCells w S (cs.drop (i * 4)) (es.drop i) := by
  induction i generalizing cs es with
  | zero => simpa using h
  | succ i ih =>
    cases es with
    | nil => rw [h.nil_inv]; simp [EntCells]
    | cons e es =>
      obtain ⟨k, u, cs1, rfl, h1, h2, h3⟩ := h.cons_inv
      rw [show (i + 1) * 4 = i * 4 + 4 from by omega]
      simpa using ih h3
theorem EntCells.take {w : World} {S : Nat → Prop} {cs : List Value} {es : List Ent} (h : EntCells w S cs es) (i : Nat) : EntCells w S (cs.take (i * 4)) (es.take i) := by
  induction i generalizing cs es with
  | zero => simp [EntCells]
  | succ i ih =>
    cases es with
    | nil => rw [h.nil_inv]; simp [EntCells]
    | cons e es =>
      obtain ⟨k, u, cs1, rfl, h1, h2, h3⟩ := h.cons_inv
      rw [show (i + 1) * 4 = i * 4 + 4 from by omega]
      simpa [EntCells] using ⟨h1, h2, ih h3⟩

/-- a slice value of entries. -/
def Ents (w : World) (S : Nat → Prop) (v : Value) (es : List Ent) : Prop :=
  ∃ A c cs, v = .slice A es.length c ∧ es.length ≤ c ∧ c ≤ 9223372036854775807 ∧ es.length * 64 ≤ 140737488355328 ∧ Row w S A es.length 4 cs ∧ EntCells w S cs es
theorem Ents.nil (w : World) (S : Nat → Prop) : Ents w S (.slice none 0 0) [] := ⟨none, 0, [], rfl, by simp, by simp, by simp, Row.nil _ _ _ _, trivial⟩
theorem Ents.below {w w' : World} {S : Nat → Prop} {v : Value} {es : List Ent} (h : Ents w S v es) (hb : Below w.heap.size w w') : Ents w' S v es := by
  obtain ⟨A, c, cs, e, h1, h2, h3, h4, h5⟩ := h
  exact ⟨A, c, cs, e, h1, h2, h3, h4.below hb, h5.below hb⟩
theorem Ents.only {w w' : World} {T S : Nat → Prop} {v : Value} {es : List Ent} (h : Ents w T v es) (ho : Only S w w') (hd : ∀ i, i < w.heap.size → T i → ¬ S i) : Ents w' T v es := by
  obtain ⟨A, c, cs, e, h1, h2, h3, h4, h5⟩ := h
  exact ⟨A, c, cs, e, h1, h2, h3, h4.only ho hd, h5.only ho hd⟩
theorem Ents.mono {w : World} {S S' : Nat → Prop} {v : Value} {es : List Ent} (h : Ents w S v es) (hS : ∀ i, S i → S' i) : Ents w S' v es := by
  obtain ⟨A, c, cs, e, h1, h2, h3, h4, h5⟩ := h
  exact ⟨A, c, cs, e, h1, h2, h3, h4.mono hS, h5.mono hS⟩
theorem Ents.drewN {w : World} {S : Nat → Prop} {v : Value} {es : List Ent} (h : Ents w S v es) (k : Nat) : Ents (w.drewN k) S v es := by
  obtain ⟨A, c, cs, e, h1, h2, h3, h4, h5⟩ := h
  exact ⟨A, c, cs, e, h1, h2, h3, h4, h5.imp fun _ _ h => h⟩
/-- an element's cells, as a walk asks for them -/
theorem Row.ent {w : World} {S : Nat → Prop} {A : Option Addr} {n : Nat} {cs : List Value} {es : List Ent} (h : Row w S A n 4 cs) (he : EntCells w S cs es) (hn : es.length = n) {i : Nat} {e : Ent} (hi : es[i]? = some e) :
    ∃ b o k u, A = some ⟨b, o, none⟩ ∧ w.cell? ⟨b, o + i * 4, none⟩ = some k ∧ w.cell? ⟨b, o + i * 4 + 1, none⟩ = some (.int .i64 e.seq) ∧ w.cell? ⟨b, o + i * 4 + 2, none⟩ = some (.bool e.dead) ∧ w.cell? ⟨b, o + i * 4 + 3, none⟩ = some u ∧ Byt w S k e.key ∧ Byt w S u e.val ∧ b < w.heap.size ∧ S b := by
  have hl : i < es.length := (List.getElem?_eq_some_iff.1 hi).1
  obtain ⟨b, o, rfl, hS, hb, hc⟩ := h.2 (by omega)
  obtain ⟨k, u, a1, a2, a3, a4, a5, a6⟩ := he.at_ hi
  refine ⟨b, o, k, u, rfl, ?_, ?_, ?_, ?_, a5, a6, hb, hS⟩
  · have := hc _ _ a1; rwa [show o + 4 * i = o + i * 4 from by omega] at this
  · have := hc _ _ a2; rwa [show o + (4 * i + 1) = o + i * 4 + 1 from by omega] at this
  · have := hc _ _ a3; rwa [show o + (4 * i + 2) = o + i * 4 + 2 from by omega] at this
  · have := hc _ _ a4; rwa [show o + (4 * i + 3) = o + i * 4 + 3 from by omega] at this
theorem Ents.of_own {w : World} {S : Nat → Prop} {base : Nat} {e : TypeId} {v : Value} {cs : List Value} {es : List Ent} (h : w.ownsRow base e 4 v es.length cs) (hc : EntCells w S cs es) (hS : ∀ i, base ≤ i → i < w.heap.size → S i)
    (hl : es.length * 64 ≤ 140737488355328) : Ents w S v es := by
  rcases h.2 with ⟨rfl, h0⟩ | ⟨g, cap, cur, rfl, hbg, hh, hcap, hcm, _⟩
  · have : es = [] := List.eq_nil_of_length_eq_zero h0
    subst this
    exact Ents.nil _ _
  · have hlt : g < w.heap.size := by
      rcases Nat.lt_or_ge g w.heap.size with h1 | h1
      · exact h1
      · rw [Array.getElem?_eq_none h1] at hh; cases hh
    refine ⟨_, _, cs, rfl, hcap, by unfold maxLen at hcm; omega, hl, ⟨h.1, fun _ => ⟨g, 0, rfl, hS _ hbg hlt, hlt, fun j u hu => ?_⟩⟩, hc⟩
    have := h.cells (g := g) rfl j u hu
    rwa [Addr.add_lit] at this
end Go.Proofs.Ytelbidknefkaiaa
