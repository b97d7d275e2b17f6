/-
merge's heap: how it lies in memory, and what a store leaves of it.
-/
import Derived.Test.YtelbidknefkaiaaHeap
import Derived.Test.YtelbidknefkaiaaHeapP
import Derived.Laws.OwnMore
namespace Go.Proofs.Ytelbidknefkaiaa
open Go.RowKit

theorem info22 : (Try.prog.info? 22).map (fun i => (i.zero, i.size, i.bytes)) = some (some (.slice none 0 0), 1, 24) := by kernel_rfl

abbrev boxOf (sl : Value) : Obj := .cells #[sl, .func (.func 42) #[] #[]] 83 (0, 0)
structure HeapV (w : World) (base p : Nat) (S : Nat → Prop) (sl : Value) (ps : List (Value × List Ent)) : Prop where
  box : w.heap[p]? = some (boxOf sl)
  row : w.ownsRow base 22 1 sl ps.length (ps.map (·.1))
  ne : sl.ownBlock ≠ some p
  vals : ∀ q ∈ ps, Ents w S q.1 q.2 ∧ q.2 ≠ []
  old : ∀ i, S i → i < base
  hp : base ≤ p
theorem own_form {w : World} {base : Nat} {e : TypeId} {size n : Nat} {v : Value} {xs : List Value} (h : w.ownsRow base e size v n xs) : ∃ A c, v = .slice A n c := by
  rcases h.2 with ⟨rfl, rfl⟩ | ⟨g, cap, cur, rfl, _⟩
  · exact ⟨_, _, rfl⟩
  · exact ⟨_, _, rfl⟩
theorem ents_form {w : World} {S : Nat → Prop} {v : Value} {es : List Ent} (h : Ents w S v es) : ∃ A c, v = .slice A es.length c := by
  obtain ⟨A, c, cs, rfl, _⟩ := h
  exact ⟨_, _, rfl⟩
theorem own_pos {w : World} {base : Nat} {e : TypeId} {size n : Nat} {v : Value} {xs : List Value} (h : w.ownsRow base e size v n xs) (hn : 0 < n) :
    ∃ g c, v = .slice (some ⟨g, 0, none⟩) n c ∧ base ≤ g ∧ g < w.heap.size ∧ n ≤ c ∧ c ≤ 9223372036854775807 := by
  rcases h.2 with ⟨rfl, h0⟩ | ⟨g, cap, cur, rfl, hb, hh, hc, hm, _⟩
  · omega
  · refine ⟨g, cap, rfl, hb, ?_, hc, by unfold maxLen at hm; omega⟩
    rcases Nat.lt_or_ge g w.heap.size with h1 | h1
    · exact h1
    · rw [Array.getElem?_eq_none h1] at hh; cases hh
theorem HeapV.lt {w : World} {base p : Nat} {S : Nat → Prop} {sl : Value} {ps : List (Value × List Ent)} (h : HeapV w base p S sl ps) : p < w.heap.size := (Array.getElem?_eq_some_iff.1 h.box).1
theorem own_only {w w' : World} {base : Nat} {e : TypeId} {size n : Nat} {v : Value} {xs : List Value} {S : Nat → Prop} (h : w.ownsRow base e size v n xs) (hb : Only S w w') (hv : ∀ g, v.ownBlock = some g → ¬ S g) : w'.ownsRow base e size v n xs := by
  rcases h.2 with ⟨rfl, h0⟩ | ⟨g, cap, cur, rfl, hbg, hh, r⟩
  · exact ⟨h.1, .inl ⟨rfl, h0⟩⟩
  · have hlt : g < w.heap.size := by
      rcases Nat.lt_or_ge g w.heap.size with h1 | h1
      · exact h1
      · rw [Array.getElem?_eq_none h1] at hh; cases hh
    exact ⟨h.1, .inr ⟨g, cap, cur, rfl, hbg, (hb.block g hlt (hv g rfl)).trans hh, r⟩⟩
theorem only_set (w : World) (g j : Nat) (u : Value) : Only (fun i => i = g) w (w.setCell ⟨g, j, none⟩ u) := Only.setCell (S := fun i => i = g) (Only.refl _ _) (p := ⟨g, j, none⟩) rfl u
theorem Only.of_grown {w w' : World} {g : Option Nat} (h : w.grownBy w' g) : Only (fun i => g = some i) w w' :=
  ⟨h.os, h.tape, h.output, h.size, fun i hi hS => h.block i hi (fun e => hS e.symm)⟩

section
variable {w w' : World} {base p : Nat} {S : Nat → Prop} {sl : Value} {ps : List (Value × List Ent)}
/-- other blocks turn. -/
theorem HeapV.only {T : Nat → Prop} (h : HeapV w base p S sl ps) (ho : Only T w w') (hT : ∀ i, T i → base ≤ i ∧ i ≠ p ∧ sl.ownBlock ≠ some i) : HeapV w' base p S sl ps :=
  ⟨(ho.block p h.lt (fun t => (hT p t).2.1 rfl)).trans h.box, own_only h.row ho (fun g hg t => (hT g t).2.2 hg), h.ne,
    fun q hq => ⟨(h.vals q hq).1.only ho (fun i _ hs t => by have := h.old i hs; have := (hT i t).1; omega), (h.vals q hq).2⟩, h.old, h.hp⟩
theorem HeapV.below (h : HeapV w base p S sl ps) (hb : Below w.heap.size w w') : HeapV w' base p S sl ps :=
  ⟨(hb.block p h.lt).trans h.box, own_below h.row hb, h.ne, fun q hq => ⟨(h.vals q hq).1.below hb, (h.vals q hq).2⟩, h.old, h.hp⟩
/-- an element is stored. -/
theorem HeapV.set {g n c : Nat} (h : HeapV w base p S (.slice (some ⟨g, 0, none⟩) n c) ps) {q : Value × List Ent} (hq : Ents w S q.1 q.2 ∧ q.2 ≠ []) (hn : ps.length = n) (j : Nat) :
    HeapV (w.setCell ⟨g, j, none⟩ q.1) base p S (.slice (some ⟨g, 0, none⟩) n c) (ps.set j q) := by
  subst hn
  obtain ⟨hr, _⟩ := h.row.stored j q.1
  have hg : base ≤ g := (h.row.lt g rfl).1
  have hgp : p ≠ g := fun e => h.ne (by simp [Value.ownBlock, e])
  have ho : Only (fun i => i = g) w (w.setCell ⟨g, j, none⟩ q.1) := only_set _ _ _ _
  refine ⟨(heap_setCell_other w _ p _ hgp).trans h.box, ?_, h.ne, fun q' hq' => ?_, h.old, h.hp⟩
  · simpa [List.map_set] using hr
  · have : Ents w S q'.1 q'.2 ∧ q'.2 ≠ [] := by
      rcases List.mem_or_eq_of_mem_set hq' with h1 | h1
      · exact h.vals _ h1
      · exact h1 ▸ hq
    exact ⟨this.1.only ho (fun i _ hs t => by have := h.old i hs; omega), this.2⟩
/-- an exchange. -/
theorem HeapV.swap {g n c : Nat} (h : HeapV w base p S (.slice (some ⟨g, 0, none⟩) n c) ps) {i j : Nat} {a b : Value × List Ent} (hn : ps.length = n) (hi : ps[i]? = some a) (hj : ps[j]? = some b) :
    HeapV ((w.setCell ⟨g, i, none⟩ b.1).setCell ⟨g, j, none⟩ a.1) base p S (.slice (some ⟨g, 0, none⟩) n c) (swapL ps i j) := by
  rw [swapL_at hi hj]
  have h1 := h.set (h.vals b (List.mem_of_getElem? hj)) hn i
  refine h1.set ⟨?_, (h.vals a (List.mem_of_getElem? hi)).2⟩ (by simpa using hn) j
  have hg : base ≤ g := (h.row.lt g rfl).1
  exact (h.vals a (List.mem_of_getElem? hi)).1.only (S := fun i => i = g) (only_set _ _ _ _) (fun i _ hs t => by have := h.old i hs; omega)
theorem HeapV.cell {g n c : Nat} (h : HeapV w base p S (.slice (some ⟨g, 0, none⟩) n c) ps) {i : Nat} {a : Value × List Ent} (hn : ps.length = n) (hi : ps[i]? = some a) : w.cell? ⟨g, i, none⟩ = some a.1 := by
  subst hn
  rw [h.row.cellAt i (by have := (List.getElem?_eq_some_iff.1 hi).1; omega), List.getElem?_map, hi]; rfl
theorem HeapV.frozen {g n c : Nat} (h : HeapV w base p S (.slice (some ⟨g, 0, none⟩) n c) ps) (hn : ps.length = n) (i : Nat) : w.frozen? ⟨g, i, none⟩ = false := by
  subst hn; exact h.row.frozenAt i
theorem HeapV.box0 (h : HeapV w base p S sl ps) : w.cell? ⟨p, 0, none⟩ = some sl := by rw [cell_of_row w p 0 _ _ _ h.box]; rfl
theorem HeapV.box1 (h : HeapV w base p S sl ps) : w.cell? ⟨p, 1, none⟩ = some (.func (.func 42) #[] #[]) := by rw [cell_of_row w p 1 _ _ _ h.box]; rfl
/-- the row is stored in the box. -/
theorem HeapV.store {sl' : Value} {qs : List (Value × List Ent)} (hb : w.heap[p]? = some (boxOf sl)) (hr : w.ownsRow base 22 1 sl' qs.length (qs.map (·.1))) (hne : sl'.ownBlock ≠ some p)
    (hv : ∀ q ∈ qs, Ents w S q.1 q.2 ∧ q.2 ≠ []) (hold : ∀ i, S i → i < base) (hp : base ≤ p) : HeapV (w.setCell ⟨p, 0, none⟩ sl') base p S sl' qs := by
  have ho : Only (fun i => i = p) w (w.setCell ⟨p, 0, none⟩ sl') := only_set _ _ _ _
  refine ⟨?_, own_only hr ho (fun g hg e => hne (e ▸ hg)), hne, fun q hq => ⟨(hv q hq).1.only ho (fun i _ hs t => by have := hold i hs; omega), (hv q hq).2⟩, hold, hp⟩
  rw [heap_setCell_same w p 0 _ _ _ hb]; rfl
/-- the row is cut by one. -/
theorem own_cut {g n c : Nat} {e : TypeId} {xs : List Value} (h : w.ownsRow base e 1 (.slice (some ⟨g, 0, none⟩) (n + 1) c) (n + 1) xs) : w.ownsRow base e 1 (.slice (some ⟨g, 0, none⟩) n c) n (xs.take n) := by
  rcases h.2 with ⟨h', _⟩ | ⟨g', cap', cur, h', hb, hg, hnc, hcm, hcs, htake⟩
  · simp at h'
  · simp only [Value.slice.injEq, Option.some.injEq, Addr.mk.injEq, and_true, true_and] at h'
    obtain ⟨rfl, rfl⟩ := h'
    have := h.1
    refine ⟨by simp; omega, .inr ⟨g, c, cur, rfl, hb, hg, by omega, hcm, hcs, ?_⟩⟩
    rw [← htake, List.take_take]; congr 1; omega
/-- one more is behind. -/
theorem HeapV.pushed {g n c c1 : Nat} {A : Option Addr} {v : Value} {l : List Ent} {o : Obj} {w2 : World} (h : HeapV w base p S (.slice A n c) ps) (hn : ps.length = n) (hv : Ents w S v l) (hl : l ≠ [])
    (hown : w2.ownsRow base 22 1 (.slice (some ⟨g, 0, none⟩) (n + 1) c1) (n + 1) (ps.map (·.1) ++ [v])) (hg : (w.alloc o).grownBy w2 (Value.slice A n c).ownBlock)
    (hat : some g = (Value.slice A n c).ownBlock ∨ some g = some (w.alloc o).heap.size) :
    HeapV (w2.setCell ⟨p, 0, none⟩ (.slice (some ⟨g, 0, none⟩) (n + 1) c1)) base p S (.slice (some ⟨g, 0, none⟩) (n + 1) c1) (ps ++ [(v, l)]) ∧
      Only (fun i => i = p ∨ (Value.slice A n c).ownBlock = some i) w (w2.setCell ⟨p, 0, none⟩ (.slice (some ⟨g, 0, none⟩) (n + 1) c1)) := by
  subst hn
  have hpz := h.lt
  have ho : Only (fun i => (Value.slice A ps.length c).ownBlock = some i) w w2 := ((Only.refl _ w).alloc o).trans (Only.of_grown hg)
  have hout : ∀ i, S i → ¬ (Value.slice A ps.length c).ownBlock = some i := fun i hs e => by
    have := h.old i hs
    have := (h.row.lt i e).1
    omega
  refine ⟨HeapV.store (sl := .slice A ps.length c) ((ho.block p hpz (fun e => h.ne e)).trans h.box) (by simpa using hown) ?_ ?_ h.old h.hp, (ho.mono fun i e => .inr e).trans ((only_set _ _ _ _).mono fun i e => .inl e)⟩
  · rcases hat with e | e
    · exact fun e' => h.ne (e ▸ e')
    · injection e with e
      simp at e
      simp only [Value.ownBlock, ne_eq, Option.some.injEq]
      omega
  · intro q hq
    rcases List.mem_append.1 hq with h1 | h1
    · exact ⟨(h.vals q h1).1.only ho (fun i _ hs => hout i hs), (h.vals q h1).2⟩
    · simp at h1
      subst h1
      exact ⟨hv.only ho (fun i _ hs => hout i hs), hl⟩
/-- the last is cut off. -/
theorem HeapV.cut {g n c : Nat} (h : HeapV w base p S (.slice (some ⟨g, 0, none⟩) (n + 1) c) ps) (hn : ps.length = n + 1) : HeapV (w.setCell ⟨p, 0, none⟩ (.slice (some ⟨g, 0, none⟩) n c)) base p S (.slice (some ⟨g, 0, none⟩) n c) (ps.take n) := by
  refine HeapV.store h.box ?_ h.ne (fun q hq => h.vals q (List.mem_of_mem_take hq)) h.old h.hp
  have := h.row
  rw [hn] at this
  rw [List.map_take, List.length_take, hn, Nat.min_eq_left (by omega)]
  exact own_cut this
end
end Go.Proofs.Ytelbidknefkaiaa
