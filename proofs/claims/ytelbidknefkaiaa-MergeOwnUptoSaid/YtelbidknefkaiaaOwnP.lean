/-
What MergeOwn's loops ask of memory.
-/
import Derived.Test.YtelbidknefkaiaaSpoil
import Derived.Test.YtelbidknefkaiaaThinL
import Derived.Test.YtelbidknefkaiaaVisL
import Derived.Test.YtelbidknefkaiaaMergeL
import Derived.Test.YtelbidknefkaiaaMerges
import Derived.Test.YtelbidknefkaiaaPartsP
namespace Go.Proofs.Ytelbidknefkaiaa
open Go.RowKit

theorem Spoil.cells {T : Nat → Prop} {w w' : World} (h : Spoil T w w') {cs : List Value} {es : List Ent} (hc : EntCells w T cs es) : ∃ es' : List Ent, es'.length = es.length ∧ EntCells w' T cs es' := by
  induction es generalizing cs with
  | nil => rw [hc.nil_inv]; exact ⟨[], rfl, trivial⟩
  | cons e es ih =>
    obtain ⟨k, u, cs1, rfl, h1, h2, h3⟩ := hc.cons_inv
    obtain ⟨es', hl, hc'⟩ := ih h3
    obtain ⟨b1, _, q1⟩ := h.byt k _ h1
    obtain ⟨b2, _, q2⟩ := h.byt u _ h2
    exact ⟨⟨b1, e.seq, e.dead, b2⟩ :: es', by simp [hl], rfl, rfl, q1, q2, hc'⟩
theorem Spoil.pairs {T : Nat → Prop} {w w' : World} (h : Spoil T w w') {cs : List Value} {es : List Pr} (hc : PrCells w T cs es) : ∃ es' : List Pr, es'.length = es.length ∧ PrCells w' T cs es' := by
  induction es generalizing cs with
  | nil => cases cs with
    | nil => exact ⟨[], rfl, trivial⟩
    | cons x l => simp [PrCells] at hc
  | cons e es ih =>
    match cs, hc with
    | k :: u :: cs1, hc =>
      obtain ⟨h1, h2, h3⟩ := hc
      obtain ⟨es', hl, hc'⟩ := ih h3
      obtain ⟨b1, _, q1⟩ := h.byt k _ h1
      obtain ⟨b2, _, q2⟩ := h.byt u _ h2
      exact ⟨⟨b1, b2⟩ :: es', by simp [hl], q1, q2, hc'⟩
theorem OwnE.ents {w : World} {B : Nat} {v : Value} {es : List Ent} (h : OwnE w B v es) (hl : es.length * 64 ≤ 140737488355328) : Ents w (fun i => B ≤ i ∧ i < w.heap.size) v es := by
  obtain ⟨ys, hrow, hf⟩ := h
  exact Ents.of_own hrow (EntCells.mono (S := freshL w B v) hf fun i hi => ⟨hi.1, hi.2.2.lt⟩) (fun i hi hz => ⟨hi, hz⟩) hl
theorem spoil_round {T : Nat → Prop} {w wr : World} {B n k : Nat} {v : Value} {ys : List Value} {es : List Ent} (hrow : w.ownsRow B 26 4 v n ys) (hc : EntCells w T ys es) (hn : es.length = n) (hT : ∀ g, v.ownBlock = some g → ¬ T g) (hs : Spoil T w wr) (hk : k < n) :
    ∃ g c A1 n1 c1 A2 n2 c2 b1 b2, v = .slice (some ⟨g, 0, none⟩) n c ∧ wr.cell? ⟨g, k * 4, none⟩ = some (.slice A1 n1 c1) ∧ wr.cell? ⟨g, k * 4 + 3, none⟩ = some (.slice A2 n2 c2) ∧ Byt wr T (.slice A1 n1 c1) b1 ∧ Byt wr T (.slice A2 n2 c2) b2 := by
  obtain ⟨es', hl, hc'⟩ := hs.cells hc
  have hrow' := own_only hrow hs.only hT
  obtain ⟨g, c, rfl, _⟩ := own_pos hrow' (by omega)
  obtain ⟨e, he⟩ : ∃ e, es'[k]? = some e := ⟨_, List.getElem?_eq_getElem (by omega)⟩
  obtain ⟨kk, uu, a1, _, _, a4, q1, q2⟩ := hc'.at_ he
  obtain ⟨A1, c1, rfl⟩ := slice_form q1
  obtain ⟨A2, c2, rfl⟩ := slice_form q2
  refine ⟨g, c, A1, _, c1, A2, _, c2, _, _, rfl, ?_, ?_, q1, q2⟩
  · rw [hrow'.cellAt _ (by omega), ← a1]; congr 1; omega
  · rw [hrow'.cellAt _ (by omega), ← a4]; congr 1; omega
theorem PrCells.at' {w : World} {S : Nat → Prop} {cs : List Value} {es : List Pr} (h : PrCells w S cs es) {i : Nat} {e : Pr} (hi : es[i]? = some e) :
    ∃ k u, cs[2 * i]? = some k ∧ cs[2 * i + 1]? = some u ∧ Byt w S k e.key ∧ Byt w S u e.val := by
  induction es generalizing cs i with
  | nil => simp at hi
  | cons e' es ih =>
    match cs, h with
    | k :: u :: cs1, h =>
      obtain ⟨h1, h2, h3⟩ := h
      cases i with
      | zero =>
        simp at hi
        subst hi
        exact ⟨k, u, rfl, rfl, h1, h2⟩
      | succ i =>
        obtain ⟨k', u', a1, a2, a3, a4⟩ := ih h3 (i := i) (by simpa using hi)
        refine ⟨k', u', ?_, ?_, a3, a4⟩
        · rw [show 2 * (i + 1) = 2 * i + 2 from by omega]; simpa using a1
        · rw [show 2 * (i + 1) + 1 = (2 * i + 1) + 2 from by omega]; simpa using a2
theorem spoil_roundP {T : Nat → Prop} {w wr : World} {B n k : Nat} {v : Value} {ys : List Value} {es : List Pr} (hrow : w.ownsRow B 65 2 v n ys) (hc : PrCells w T ys es) (hn : es.length = n) (hT : ∀ g, v.ownBlock = some g → ¬ T g) (hs : Spoil T w wr) (hk : k < n) :
    ∃ g c A1 n1 c1 A2 n2 c2 b1 b2, v = .slice (some ⟨g, 0, none⟩) n c ∧ wr.cell? ⟨g, k * 2, none⟩ = some (.slice A1 n1 c1) ∧ wr.cell? ⟨g, k * 2 + 1, none⟩ = some (.slice A2 n2 c2) ∧ Byt wr T (.slice A1 n1 c1) b1 ∧ Byt wr T (.slice A2 n2 c2) b2 := by
  obtain ⟨es', hl, hc'⟩ := hs.pairs hc
  have hrow' := own_only hrow hs.only hT
  obtain ⟨g, c, rfl, _⟩ := own_pos hrow' (by omega)
  obtain ⟨e, he⟩ : ∃ e, es'[k]? = some e := ⟨_, List.getElem?_eq_getElem (by omega)⟩
  obtain ⟨kk, uu, a1, a4, q1, q2⟩ := PrCells.at' hc' he
  obtain ⟨A1, c1, rfl⟩ := slice_form q1
  obtain ⟨A2, c2, rfl⟩ := slice_form q2
  refine ⟨g, c, A1, _, c1, A2, _, c2, _, _, rfl, ?_, ?_, q1, q2⟩
  · rw [hrow'.cellAt _ (by omega), ← a1]; congr 1; omega
  · rw [hrow'.cellAt _ (by omega), ← a4]; congr 1; omega
theorem Lists.only {w w' : World} {T S : Nat → Prop} {v : Value} {ls : List (List Ent)} (h : Lists w T v ls) (ho : Only S w w') (hd : ∀ i, i < w.heap.size → T i → ¬ S i) : Lists w' T v ls := by
  obtain ⟨A, c, vs, e, h1, h2, h3, h4, h5⟩ := h
  exact ⟨A, c, vs, e, h1, h2, h3, h4.only ho hd, fun i l hl => by obtain ⟨x, hx, hy⟩ := h5 i l hl; exact ⟨x, hx, hy.only ho hd⟩⟩
theorem merged_len (ls : List (List Ent)) : (mergeC ls).1.length ≤ total ls := by
  rcases mergeC_cases ls with ⟨_, r, e, hp, _⟩ | ⟨n, _, e⟩
  · rw [e]; exact Nat.le_of_eq hp.length_eq
  · rw [e]; exact Nat.zero_le _
end Go.Proofs.Ytelbidknefkaiaa
