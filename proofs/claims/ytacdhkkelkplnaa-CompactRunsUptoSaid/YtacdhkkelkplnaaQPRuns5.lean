/-
Plain: what merge.Merge reckons, on lists.
-/
import Derived.Test.YtacdhkkelkplnaaQPRuns4
import Derived.Test.YtacdhkkelkplnaaQPRuns0
import Derived.Laws.OwnMore
import Derived.BigRegion
import Derived.Laws.EntriesVeiled
import Derived.Deep.LoopGhost
import Derived.Test.YtacdhkkelkplnaaQPRuns2
section
namespace Go.Proofs.Ytacdhkkelkplnaa
open Go.RowKit Go.BigFrame
attribute [local go_sem ↓] Go.wp_at_zero Go.wp_at_succ
theorem Ents.head {w : World} {S : Nat → Prop} {v : Value} {e : Ent} {l : List Ent} (h : Ents w S v (e :: l)) :
    ∃ b o c k u, v = .slice (some ⟨b, o, none⟩) (l.length + 1) c ∧ w.cell? ⟨b, o, none⟩ = some k ∧ w.cell? ⟨b, o + 1, none⟩ = some (.int .i64 e.seq) ∧ w.cell? ⟨b, o + 2, none⟩ = some (.bool e.dead) ∧ w.cell? ⟨b, o + 3, none⟩ = some u ∧ Byt w S k e.key ∧ Byt w S u e.val := by
  obtain ⟨A, c, cs, rfl, hc, hcm, hl, hr, he⟩ := h
  obtain ⟨b, o, k, u, rfl, c0, c1, c2, c3, b1, b2, _, _⟩ := hr.ent he rfl (i := 0) (e := e) rfl
  exact ⟨b, o, c, k, u, by simp, by simpa using c0, by simpa using c1, by simpa using c2, by simpa using c3, b1, b2⟩
set_option maxRecDepth 100000 in
set_option maxHeartbeats 2000000 in
theorem mclos_any (S S' : Nat → Prop) (v v' : Value) (a b : Ent) (la lb : List Ent) (w : World) (hv : Ents w S v (a :: la)) (hv' : Ents w S' v' (b :: lb)) :
    Calls Try.prog 46 #[v, v'] w fun r w' => r = .returned (.int .i64 (cmpE a b)) ∧ Below w.heap.size w w' := by
  obtain ⟨b1, o1, c1, k1, u1, rfl, x0, x1, x2, x3, y1, y2⟩ := hv.head
  obtain ⟨b2, o2, c2, k2, u2, rfl, z0, z1, z2, z3, t1, t2⟩ := hv'.head
  have F0 : ∀ q : Ext w, q.w.cell? { block := b1, off := o1 } = _ := fun q => q.h.cell x0
  have F1 : ∀ q : Ext w, q.w.cell? { block := b1, off := o1 + 1 } = _ := fun q => q.h.cell x1
  have F2 : ∀ q : Ext w, q.w.cell? { block := b1, off := o1 + 2 } = _ := fun q => q.h.cell x2
  have F3 : ∀ q : Ext w, q.w.cell? { block := b1, off := o1 + 3 } = _ := fun q => q.h.cell x3
  have G0 : ∀ q : Ext w, q.w.cell? { block := b2, off := o2 } = _ := fun q => q.h.cell z0
  have G1 : ∀ q : Ext w, q.w.cell? { block := b2, off := o2 + 1 } = _ := fun q => q.h.cell z1
  have G2 : ∀ q : Ext w, q.w.cell? { block := b2, off := o2 + 2 } = _ := fun q => q.h.cell z2
  have G3 : ∀ q : Ext w, q.w.cell? { block := b2, off := o2 + 3 } = _ := fun q => q.h.cell z3
  have CC : ∀ q : Ext w, Calls Try.prog 47 #[.agg #[k1, .int .i64 a.seq, .bool a.dead, u1], .agg #[k2, .int .i64 b.seq, .bool b.dead, u2]] q.w fun r w'' => r = .returned (.int .i64 (cmpE a b)) ∧ ∃ q' : Ext w, w'' = q'.w := fun q => Ext.calls (compare_any S S' _ _ a b _ (q.h.ent ⟨_, _, rfl, y1, y2⟩) (q.h.ent ⟨_, _, rfl, t1, t2⟩))
  clear hv hv' x0 x1 x2 x3 z0 z1 z2 z3 y1 y2 t1 t2
  go_enter Try.func46, Try.ntmps46
  go_wp2
  (refine wp_region_quiet_ext (by kernel_rfl) (by kernel_rfl) ?_; (repeat (go_big_quiet_step ((go_at_call 47; exact CC _)))); refine wpQuiet_nil ?_; intro wq hw'; obtain ⟨⟨_, hq⟩, hw''⟩ := hw'; subst hw'')
  go_wp2
  refine bodyPost_ret (v := .int .i64 _) (by simp [results, Try.results46, go_sem]; rfl) rfl ?_
  exact ⟨rfl, hq⟩
end Go.Proofs.Ytacdhkkelkplnaa
end
section
namespace Go.Proofs.Ytacdhkkelkplnaa
/-- the order of two lists: that of their heads. -/
def cmpL : List Ent → List Ent → Int
  | a :: _, b :: _ => cmpE a b
  | _, _ => 0
section
variable {α : Type}
def swapL (l : List α) (i j : Nat) : List α :=
  match l[i]?, l[j]? with
  | some a, some b => (l.set i b).set j a
  | _, _ => l
theorem swapL_len (l : List α) (i j : Nat) : (swapL l i j).length = l.length := by
  unfold swapL; split <;> simp
theorem swapL_at {l : List α} {i j : Nat} {a b : α} (hi : l[i]? = some a) (hj : l[j]? = some b) : swapL l i j = (l.set i b).set j a := by
  simp [swapL, hi, hj]
theorem swapL_perm (l : List α) (i j : Nat) : (swapL l i j).Perm l := by
  unfold swapL
  split
  · rename_i a b hi hj
    obtain ⟨h1, e1⟩ := List.getElem?_eq_some_iff.1 hi
    obtain ⟨h2, e2⟩ := List.getElem?_eq_some_iff.1 hj
    subst e1 e2
    exact List.set_set_perm h1 h2
  · exact List.Perm.refl _
/-- the way up. -/
def siftUp (f : α → List Ent) (l : List α) : Nat → List α
  | 0 => l
  | i + 1 =>
    match l[i / 2]?, l[i + 1]? with
    | some a, some b => if cmpL (f a) (f b) ≤ 0 then l else siftUp f (swapL l (i / 2) (i + 1)) (i / 2)
    | _, _ => l
termination_by i => i
theorem siftUp_perm (f : α → List Ent) (l : List α) (i : Nat) : (siftUp f l i).Perm l := by
  induction i using Nat.strongRecOn generalizing l with
  | ind i ih =>
    cases i with
    | zero => rw [siftUp]
    | succ i =>
      rw [siftUp]
      split
      · split
        · exact List.Perm.refl _
        · exact (ih (i / 2) (by omega) _).trans (swapL_perm _ _ _)
      · exact List.Perm.refl _
/-- the way down: the least of three. -/
def leastStep (f : α → List Ent) (l : List α) (k m : Nat) : Nat :=
  match l[k]?, l[m]? with
  | some a, some b => if cmpL (f a) (f b) < 0 then k else m
  | _, _ => m
def lst (f : α → List Ent) (l : List α) (i : Nat) : Nat → Nat
  | 0 => i
  | j + 1 => leastStep f l (2 * i + 1 + j) (lst f l i j)
theorem leastStep_or (f : α → List Ent) (l : List α) (k m : Nat) : leastStep f l k m = m ∨ (leastStep f l k m = k ∧ k < l.length) := by
  unfold leastStep
  split
  · rename_i a b hk hm
    split
    · exact .inr ⟨rfl, (List.getElem?_eq_some_iff.1 hk).1⟩
    · exact .inl rfl
  · exact .inl rfl
theorem lst_or (f : α → List Ent) (l : List α) (i j : Nat) : lst f l i j = i ∨ (i < lst f l i j ∧ lst f l i j < l.length) := by
  induction j with
  | zero => exact .inl rfl
  | succ j ih =>
    rw [lst]
    rcases leastStep_or f l (2 * i + 1 + j) (lst f l i j) with h | ⟨h, h'⟩
    · rw [h]; exact ih
    · rw [h]; exact .inr ⟨by omega, h'⟩
theorem lst_two (f : α → List Ent) (l : List α) (i j : Nat) (hj : j ≤ 2) (h : j = 2 ∨ l.length ≤ 2 * i + 1 + j) : lst f l i 2 = lst f l i j := by
  have st : ∀ k m, l.length ≤ k → leastStep f l k m = m := fun k m hk => by
    rcases leastStep_or f l k m with h | ⟨h, h'⟩
    · exact h
    · omega
  rcases h with rfl | h
  · rfl
  · match j, hj, h with
    | 0, _, h => exact (st _ _ (by omega)).trans (st _ _ (by omega))
    | 1, _, h => exact st _ _ (by omega)
    | 2, _, h => rfl
def siftDown (f : α → List Ent) (l : List α) (i : Nat) : List α :=
  if _h : lst f l i 2 = i then l else siftDown f (swapL l i (lst f l i 2)) (lst f l i 2)
termination_by l.length - i
decreasing_by
  rw [swapL_len]
  rcases lst_or f l i 2 with h' | h'
  · exact absurd h' _h
  · omega
theorem siftDown_perm (f : α → List Ent) (l : List α) (i : Nat) : (siftDown f l i).Perm l := by
  induction hn : l.length - i using Nat.strongRecOn generalizing l i with
  | ind n ih =>
    rw [siftDown]
    split
    · exact List.Perm.refl _
    · rename_i h
      have := lst_or f l i 2
      refine (ih _ ?_ _ _ rfl).trans (swapL_perm _ _ _)
      rw [swapL_len]; omega
/-- what pop leaves. -/
def popL (f : α → List Ent) (l : List α) : List α :=
  match l[l.length - 1]? with
  | some z => siftDown f ((l.set 0 z).take (l.length - 1)) 0
  | none => []
end
end Go.Proofs.Ytacdhkkelkplnaa
end
section
namespace Go.Proofs.Ytacdhkkelkplnaa
open Go.RowKit
theorem info22 : (Try.prog.info? 41).map (fun i => (i.zero, i.size, i.bytes)) = some (some (.slice none 0 0), 1, 24) := by kernel_rfl
abbrev boxOf (sl : Value) : Obj := .cells #[sl, .func (.func 46) #[] #[]] 90 (0, 0)
structure HeapV (w : World) (base p : Nat) (S : Nat → Prop) (sl : Value) (ps : List (Value × List Ent)) : Prop where
  box : w.heap[p]? = some (boxOf sl)
  row : w.ownsRow base 41 1 sl ps.length (ps.map (·.1))
  ne : sl.ownBlock ≠ some p
  vals : ∀ q ∈ ps, Ents w S q.1 q.2 ∧ q.2 ≠ []
  old : ∀ i, S i → i < base
  hp : base ≤ p
theorem own_form {w : World} {base : Nat} {e : TypeId} {size n : Nat} {v : Value} {xs : List Value} (h : w.ownsRow base e size v n xs) : ∃ A c, v = .slice A n c := by
  rcases h.2 with ⟨rfl, rfl⟩ | ⟨g, cap, cur, rfl, _⟩
  · exact ⟨_, _, rfl⟩
  · exact ⟨_, _, rfl⟩
theorem ents_form {w : World} {S : Nat → Prop} {v : Value} {es : List Ent} (h : Ents w S v es) : ∃ A c, v = .slice A es.length c := by
  obtain ⟨A, c, cs, rfl, _⟩ := h
  exact ⟨_, _, rfl⟩
theorem own_pos {w : World} {base : Nat} {e : TypeId} {size n : Nat} {v : Value} {xs : List Value} (h : w.ownsRow base e size v n xs) (hn : 0 < n) :
    ∃ g c, v = .slice (some ⟨g, 0, none⟩) n c ∧ base ≤ g ∧ g < w.heap.size ∧ n ≤ c ∧ c ≤ 9223372036854775807 := by
  rcases h.2 with ⟨rfl, h0⟩ | ⟨g, cap, cur, rfl, hb, hh, hc, hm, _⟩
  · omega
  · refine ⟨g, cap, rfl, hb, ?_, hc, by unfold maxLen at hm; omega⟩
    rcases Nat.lt_or_ge g w.heap.size with h1 | h1
    · exact h1
    · rw [Array.getElem?_eq_none h1] at hh; cases hh
theorem HeapV.lt {w : World} {base p : Nat} {S : Nat → Prop} {sl : Value} {ps : List (Value × List Ent)} (h : HeapV w base p S sl ps) : p < w.heap.size := (Array.getElem?_eq_some_iff.1 h.box).1
theorem own_only {w w' : World} {base : Nat} {e : TypeId} {size n : Nat} {v : Value} {xs : List Value} {S : Nat → Prop} (h : w.ownsRow base e size v n xs) (hb : Only S w w') (hv : ∀ g, v.ownBlock = some g → ¬ S g) : w'.ownsRow base e size v n xs := by
  rcases h.2 with ⟨rfl, h0⟩ | ⟨g, cap, cur, rfl, hbg, hh, r⟩
  · exact ⟨h.1, .inl ⟨rfl, h0⟩⟩
  · have hlt : g < w.heap.size := by
      rcases Nat.lt_or_ge g w.heap.size with h1 | h1
      · exact h1
      · rw [Array.getElem?_eq_none h1] at hh; cases hh
    exact ⟨h.1, .inr ⟨g, cap, cur, rfl, hbg, (hb.block g hlt (hv g rfl)).trans hh, r⟩⟩
theorem only_set (w : World) (g j : Nat) (u : Value) : Only (fun i => i = g) w (w.setCell ⟨g, j, none⟩ u) := Only.setCell (S := fun i => i = g) (Only.refl _ _) (p := ⟨g, j, none⟩) rfl u
theorem Only.of_grown {w w' : World} {g : Option Nat} (h : w.grownBy w' g) : Only (fun i => g = some i) w w' :=
  ⟨h.os, h.tape, h.output, h.size, fun i hi hS => h.block i hi (fun e => hS e.symm)⟩
section
variable {w w' : World} {base p : Nat} {S : Nat → Prop} {sl : Value} {ps : List (Value × List Ent)}
/-- other blocks turn. -/
theorem HeapV.only {T : Nat → Prop} (h : HeapV w base p S sl ps) (ho : Only T w w') (hT : ∀ i, T i → base ≤ i ∧ i ≠ p ∧ sl.ownBlock ≠ some i) : HeapV w' base p S sl ps :=
  ⟨(ho.block p h.lt (fun t => (hT p t).2.1 rfl)).trans h.box, own_only h.row ho (fun g hg t => (hT g t).2.2 hg), h.ne,
    fun q hq => ⟨(h.vals q hq).1.only ho (fun i _ hs t => by have := h.old i hs; have := (hT i t).1; omega), (h.vals q hq).2⟩, h.old, h.hp⟩
theorem HeapV.below (h : HeapV w base p S sl ps) (hb : Below w.heap.size w w') : HeapV w' base p S sl ps :=
  ⟨(hb.block p h.lt).trans h.box, own_below h.row hb, h.ne, fun q hq => ⟨(h.vals q hq).1.below hb, (h.vals q hq).2⟩, h.old, h.hp⟩
/-- an element is stored. -/
theorem HeapV.set {g n c : Nat} (h : HeapV w base p S (.slice (some ⟨g, 0, none⟩) n c) ps) {q : Value × List Ent} (hq : Ents w S q.1 q.2 ∧ q.2 ≠ []) (hn : ps.length = n) (j : Nat) :
    HeapV (w.setCell ⟨g, j, none⟩ q.1) base p S (.slice (some ⟨g, 0, none⟩) n c) (ps.set j q) := by
  subst hn
  obtain ⟨hr, _⟩ := h.row.stored j q.1
  have hg : base ≤ g := (h.row.lt g rfl).1
  have hgp : p ≠ g := fun e => h.ne (by simp [Value.ownBlock, e])
  have ho : Only (fun i => i = g) w (w.setCell ⟨g, j, none⟩ q.1) := only_set _ _ _ _
  refine ⟨(heap_setCell_other w _ p _ hgp).trans h.box, ?_, h.ne, fun q' hq' => ?_, h.old, h.hp⟩
  · simpa [List.map_set] using hr
  · have : Ents w S q'.1 q'.2 ∧ q'.2 ≠ [] := by
      rcases List.mem_or_eq_of_mem_set hq' with h1 | h1
      · exact h.vals _ h1
      · exact h1 ▸ hq
    exact ⟨this.1.only ho (fun i _ hs t => by have := h.old i hs; omega), this.2⟩
/-- an exchange. -/
theorem HeapV.swap {g n c : Nat} (h : HeapV w base p S (.slice (some ⟨g, 0, none⟩) n c) ps) {i j : Nat} {a b : Value × List Ent} (hn : ps.length = n) (hi : ps[i]? = some a) (hj : ps[j]? = some b) :
    HeapV ((w.setCell ⟨g, i, none⟩ b.1).setCell ⟨g, j, none⟩ a.1) base p S (.slice (some ⟨g, 0, none⟩) n c) (swapL ps i j) := by
  rw [swapL_at hi hj]
  have h1 := h.set (h.vals b (List.mem_of_getElem? hj)) hn i
  refine h1.set ⟨?_, (h.vals a (List.mem_of_getElem? hi)).2⟩ (by simpa using hn) j
  have hg : base ≤ g := (h.row.lt g rfl).1
  exact (h.vals a (List.mem_of_getElem? hi)).1.only (S := fun i => i = g) (only_set _ _ _ _) (fun i _ hs t => by have := h.old i hs; omega)
theorem HeapV.cell {g n c : Nat} (h : HeapV w base p S (.slice (some ⟨g, 0, none⟩) n c) ps) {i : Nat} {a : Value × List Ent} (hn : ps.length = n) (hi : ps[i]? = some a) : w.cell? ⟨g, i, none⟩ = some a.1 := by
  subst hn
  rw [h.row.cellAt i (by have := (List.getElem?_eq_some_iff.1 hi).1; omega), List.getElem?_map, hi]; rfl
theorem HeapV.frozen {g n c : Nat} (h : HeapV w base p S (.slice (some ⟨g, 0, none⟩) n c) ps) (hn : ps.length = n) (i : Nat) : w.frozen? ⟨g, i, none⟩ = false := by
  subst hn; exact h.row.frozenAt i
theorem HeapV.box0 (h : HeapV w base p S sl ps) : w.cell? ⟨p, 0, none⟩ = some sl := by rw [cell_of_row w p 0 _ _ _ h.box]; rfl
theorem HeapV.box1 (h : HeapV w base p S sl ps) : w.cell? ⟨p, 1, none⟩ = some (.func (.func 46) #[] #[]) := by rw [cell_of_row w p 1 _ _ _ h.box]; rfl
/-- the row is stored in the box. -/
theorem HeapV.store {sl' : Value} {qs : List (Value × List Ent)} (hb : w.heap[p]? = some (boxOf sl)) (hr : w.ownsRow base 41 1 sl' qs.length (qs.map (·.1))) (hne : sl'.ownBlock ≠ some p)
    (hv : ∀ q ∈ qs, Ents w S q.1 q.2 ∧ q.2 ≠ []) (hold : ∀ i, S i → i < base) (hp : base ≤ p) : HeapV (w.setCell ⟨p, 0, none⟩ sl') base p S sl' qs := by
  have ho : Only (fun i => i = p) w (w.setCell ⟨p, 0, none⟩ sl') := only_set _ _ _ _
  refine ⟨?_, own_only hr ho (fun g hg e => hne (e ▸ hg)), hne, fun q hq => ⟨(hv q hq).1.only ho (fun i _ hs t => by have := hold i hs; omega), (hv q hq).2⟩, hold, hp⟩
  rw [heap_setCell_same w p 0 _ _ _ hb]; rfl
/-- the row is cut by one. -/
theorem own_cut {g n c : Nat} {e : TypeId} {xs : List Value} (h : w.ownsRow base e 1 (.slice (some ⟨g, 0, none⟩) (n + 1) c) (n + 1) xs) : w.ownsRow base e 1 (.slice (some ⟨g, 0, none⟩) n c) n (xs.take n) := by
  rcases h.2 with ⟨h', _⟩ | ⟨g', cap', cur, h', hb, hg, hnc, hcm, hcs, htake⟩
  · simp at h'
  · simp only [Value.slice.injEq, Option.some.injEq, Addr.mk.injEq, and_true, true_and] at h'
    obtain ⟨rfl, rfl⟩ := h'
    have := h.1
    refine ⟨by simp; omega, .inr ⟨g, c, cur, rfl, hb, hg, by omega, hcm, hcs, ?_⟩⟩
    rw [← htake, List.take_take]; congr 1; omega
/-- one more is behind. -/
theorem HeapV.pushed {g n c c1 : Nat} {A : Option Addr} {v : Value} {l : List Ent} {o : Obj} {w2 : World} (h : HeapV w base p S (.slice A n c) ps) (hn : ps.length = n) (hv : Ents w S v l) (hl : l ≠ [])
    (hown : w2.ownsRow base 41 1 (.slice (some ⟨g, 0, none⟩) (n + 1) c1) (n + 1) (ps.map (·.1) ++ [v])) (hg : (w.alloc o).grownBy w2 (Value.slice A n c).ownBlock)
    (hat : some g = (Value.slice A n c).ownBlock ∨ some g = some (w.alloc o).heap.size) :
    HeapV (w2.setCell ⟨p, 0, none⟩ (.slice (some ⟨g, 0, none⟩) (n + 1) c1)) base p S (.slice (some ⟨g, 0, none⟩) (n + 1) c1) (ps ++ [(v, l)]) ∧
      Only (fun i => i = p ∨ (Value.slice A n c).ownBlock = some i) w (w2.setCell ⟨p, 0, none⟩ (.slice (some ⟨g, 0, none⟩) (n + 1) c1)) := by
  subst hn
  have hpz := h.lt
  have ho : Only (fun i => (Value.slice A ps.length c).ownBlock = some i) w w2 := ((Only.refl _ w).alloc o).trans (Only.of_grown hg)
  have hout : ∀ i, S i → ¬ (Value.slice A ps.length c).ownBlock = some i := fun i hs e => by
    have := h.old i hs
    have := (h.row.lt i e).1
    omega
  refine ⟨HeapV.store (sl := .slice A ps.length c) ((ho.block p hpz (fun e => h.ne e)).trans h.box) (by simpa using hown) ?_ ?_ h.old h.hp, (ho.mono fun i e => .inr e).trans ((only_set _ _ _ _).mono fun i e => .inl e)⟩
  · rcases hat with e | e
    · exact fun e' => h.ne (e ▸ e')
    · injection e with e
      simp at e
      simp only [Value.ownBlock, ne_eq, Option.some.injEq]
      omega
  · intro q hq
    rcases List.mem_append.1 hq with h1 | h1
    · exact ⟨(h.vals q h1).1.only ho (fun i _ hs => hout i hs), (h.vals q h1).2⟩
    · simp at h1
      subst h1
      exact ⟨hv.only ho (fun i _ hs => hout i hs), hl⟩
/-- the last is cut off. -/
theorem HeapV.cut {g n c : Nat} (h : HeapV w base p S (.slice (some ⟨g, 0, none⟩) (n + 1) c) ps) (hn : ps.length = n + 1) : HeapV (w.setCell ⟨p, 0, none⟩ (.slice (some ⟨g, 0, none⟩) n c)) base p S (.slice (some ⟨g, 0, none⟩) n c) (ps.take n) := by
  refine HeapV.store h.box ?_ h.ne (fun q hq => h.vals q (List.mem_of_mem_take hq)) h.old h.hp
  have := h.row
  rw [hn] at this
  rw [List.map_take, List.length_take, hn, Nat.min_eq_left (by omega)]
  exact own_cut this
end
end Go.Proofs.Ytacdhkkelkplnaa
end
section
namespace Go.Proofs.Ytacdhkkelkplnaa
open Go.RowKit Go.BigFrame
attribute [local go_sem ↓] Go.wp_at_zero Go.wp_at_succ
theorem Only.then_ {T U : Nat → Prop} {a b c : World} (h : Only T a b) (k : Only U b c) (hU : ∀ i, i < a.heap.size → U i → T i) : Only T a c :=
  ⟨k.os.trans h.os, k.tape.trans h.tape, k.output.trans h.output, Nat.le_trans h.size k.size, fun i hi hS => (k.block i (Nat.lt_of_lt_of_le hi h.size) (fun u => hS (hU i hi u))).trans (h.block i hi hS)⟩
theorem ents_form' {w : World} {S : Nat → Prop} {v : Value} {es : List Ent} (h : Ents w S v es) : ∃ A n c, v = .slice A n c := by
  obtain ⟨A, c, cs, rfl, _⟩ := h
  exact ⟨_, _, _, rfl⟩
/-- what push leaves. -/
def Pushed (base p : Nat) (S : Nat → Prop) (sl : Value) (qs : List (Value × List Ent)) (w w' : World) : Prop :=
  ∃ sl', HeapV w' base p S sl' qs ∧ Only (fun i => i = p ∨ sl.ownBlock = some i) w w' ∧ (sl'.ownBlock = sl.ownBlock ∨ ∃ g, sl'.ownBlock = some g ∧ w.heap.size ≤ g)
set_option maxRecDepth 100000 in
set_option maxHeartbeats 4000000 in
theorem push_any (base p : Nat) (S : Nat → Prop) (sl v : Value) (ps : List (Value × List Ent)) (l : List Ent) (w : World) (h : HeapV w base p S sl ps) (hv : Ents w S v l) (hl : l ≠ []) (hsz : (ps.length + 1) * 24 ≤ 140737488355328) :
    Calls Try.prog 49 #[.pointer (some ⟨p, 0, none⟩), v] w fun r w' => r = .returned (.tuple #[]) ∧ Pushed base p S sl (siftUp (·.2) (ps ++ [(v, l)]) ps.length) w w' := by
  obtain ⟨i0, hi, hz0, hz1, hz2⟩ := info_parts info22
  have hby := Lib.hid hz2
  have hz1' := Lib.hid hz1
  clear hz2 hz1
  have H := Lib.hid h
  have HV := Lib.hid hv
  have HL := Lib.hid hl
  have x0 := h.box0
  have hpz := h.lt
  have hbase : base ≤ w.heap.size := by have := h.hp; omega
  obtain ⟨n, hn⟩ : ∃ n, ps.length = n := ⟨_, rfl⟩
  have HN := Lib.hid hn
  rw [hn] at hsz ⊢
  have HR := Lib.hid (hn ▸ h.row)
  obtain ⟨A, c, rfl⟩ := own_form HR.out
  obtain ⟨Av, cv, rfl⟩ := ents_form hv
  obtain ⟨ps1, hps1⟩ : ∃ ps1, ps ++ [(.slice Av l.length cv, l)] = ps1 := ⟨_, rfl⟩
  have hlen1 : ps1.length = n + 1 := by rw [← hps1]; simp [HN.out]
  have HL1 := Lib.hid hlen1
  have HPS := Lib.hid hps1
  rw [hps1]
  clear h hn hv hl hps1 hlen1
  go_enter Try.func49, Try.ntmps49
  go_wp2_with (at_builtin; refine wpList_append_own_at _ rfl _ _ 30 rfl base 41 i0 _ 1 24 Try.underlying30 hi hz0 hz1'.out hby.out rfl (by decide) _ _ _ rfl (HR.out.alloc _) ⟨w.heap.size, 0, none⟩ 1 1 [.slice Av l.length cv] rfl rfl (cell_one_new _ _ _) (by simp [Value.oneCell']) (by unfold maxLen; omega) (by omega) (by simp; omega) ?_; intro v' w2 hown' hgrow hnn hat; clear hnn; obtain ⟨g, c1, rfl, hbg, hgz, hc1, hc2⟩ := own_pos hown' (Nat.succ_pos n); replace hgrow : (w.alloc (.cells #[.slice Av l.length cv] 41)).grownBy w2 (Value.slice A n c).ownBlock := hgrow; replace hat : some g = (Value.slice A n c).ownBlock ∨ some g = some (w.alloc (.cells #[.slice Av l.length cv] 41)).heap.size := hat; have hbox2 : w2.heap[p]? = some (boxOf (.slice A n c)) := (hgrow.block p (by simp; omega) (fun e => H.out.ne e.symm)).trans ((heap_alloc_old w _ hpz).trans H.out.box); have e0 : w2.cell? { block := p, off := 0 } = some (.slice A n c) := (by rw [cell_of_row w2 p 0 _ _ _ hbox2]; rfl); have e1 := frozen_of_row w2 p 0 _ _ hbox2; have HB2 := Lib.hid hbox2; have HOWN := Lib.hid hown'; have HG := Lib.hid hgrow; have HAT := Lib.hid hat; clear hbox2 hown' hgrow hat)
  obtain ⟨HP, HO⟩ := H.out.pushed HN.out HV.out HL.out HOWN.out HG.out HAT.out
  have HGG : Hid (∀ i, i < w.heap.size → (i = p ∨ i = g) → (i = p ∨ (Value.slice A n c).ownBlock = some i)) := by
    refine Lib.hid fun i hi hpg => ?_
    rcases hpg with h | h
    · exact .inl h
    · rcases HAT.out with e | e
      · exact .inr (h ▸ e.symm)
      · injection e with e
        simp at e
        omega
  have HGN : Hid ((Value.slice (some ⟨g, 0, none⟩) (n + 1) c1).ownBlock = (Value.slice A n c).ownBlock ∨ ∃ g', (Value.slice (some ⟨g, 0, none⟩) (n + 1) c1).ownBlock = some g' ∧ w.heap.size ≤ g') := by
    refine Lib.hid ?_
    rcases HAT.out with e | e
    · exact .inl e
    · refine .inr ⟨g, rfl, ?_⟩
      injection e with e
      simp at e
      omega
  clear e0 e1
  obtain ⟨w3, hw3⟩ : ∃ w3, w2.setCell { block := p, off := 0 } (.slice (some { block := g, off := 0 }) (n + 1) c1) = w3 := ⟨_, rfl⟩
  rw [hw3] at HP HO ⊢
  clear hw3
  rw [HPS.out] at HP
  have HP1 := Lib.hid HP
  clear HP HB2 HOWN
  have HO1 := Lib.hid HO
  clear HO
  go_loopw [4] (fun t wr => ∃ (i : Nat) (ps' : List (Value × List Ent)), i ≤ n ∧ t = .int .i64 i ∧ HeapV wr base p S (.slice (some ⟨g, 0, none⟩) (n + 1) c1) ps' ∧ ps'.length = n + 1 ∧ siftUp (·.2) ps1 n = siftUp (·.2) ps' i ∧ Only (fun i => i = p ∨ i = g) w3 wr) (fun t _ => (intOf t).toNat)
  case atStart => exact ⟨n, ps1, Nat.le_refl _, rfl, HP1.out, HL1.out, rfl, Only.refl _ _⟩
  case round =>
    obtain ⟨i, ps', hin, rfl, hh, hlen, hsift, honly⟩ := hrel
    have HH := Lib.hid hh
    have HLEN := Lib.hid hlen
    have HS := Lib.hid hsift
    have HON := Lib.hid honly
    clear hh hlen hsift honly
    cases i with
    | zero =>
      go_wp2
      refine bodyPost_end (v := .tuple #[]) (by simp [results, Try.results49, go_sem]) rfl ?_
      exact ⟨rfl, _, by rw [HS.out, siftUp]; exact HH.out, HO1.out.then_ HON.out HGG.out, HGN.out⟩
    | succ j =>
      obtain ⟨a, ha⟩ : ∃ a, ps'[j / 2]? = some a := ⟨_, List.getElem?_eq_getElem (by rw [HLEN.out]; omega)⟩
      obtain ⟨b, hb⟩ : ∃ b, ps'[j + 1]? = some b := ⟨_, List.getElem?_eq_getElem (by rw [HLEN.out]; omega)⟩
      obtain ⟨ya, yan⟩ := HH.out.vals a (List.mem_of_getElem? ha)
      obtain ⟨yb, ybn⟩ := HH.out.vals b (List.mem_of_getElem? hb)
      obtain ⟨va, la⟩ := a
      obtain ⟨vb, lb⟩ := b
      obtain ⟨Aa, na, xa, rfl⟩ := ents_form' ya
      obtain ⟨Ab, nb, xb, rfl⟩ := ents_form' yb
      obtain ⟨ea, la, rfl⟩ := List.exists_cons_of_ne_nil yan
      obtain ⟨eb, lb, rfl⟩ := List.exists_cons_of_ne_nil ybn
      have c0 := HH.out.box0
      have c1' := HH.out.box1
      have ca := HH.out.cell HLEN.out ha
      have cb := HH.out.cell HLEN.out hb
      have F0 : ∀ q : Ext wr, q.w.cell? { block := p, off := 0 } = _ := fun q => q.h.cell c0
      have F1 : ∀ q : Ext wr, q.w.cell? { block := p, off := 1 } = _ := fun q => q.h.cell c1'
      have F2 : ∀ q : Ext wr, q.w.cell? { block := g, off := j / 2 } = _ := fun q => q.h.cell ca
      have F3 : ∀ q : Ext wr, q.w.cell? { block := g, off := j + 1 } = _ := fun q => q.h.cell cb
      have CC : ∀ q : Ext wr, Calls Try.prog 46 #[.slice Aa na xa, .slice Ab nb xb] q.w fun r w'' => r = .returned (.int .i64 (cmpE ea eb)) ∧ ∃ q' : Ext wr, w'' = q'.w := fun q => Ext.calls (mclos_any S S _ _ ea eb la lb _ (ya.below q.h) (yb.below q.h))
      have HSTEP : Hid (siftUp (·.2) ps' (j + 1) = if cmpE ea eb ≤ 0 then ps' else siftUp (·.2) (swapL ps' (j / 2) (j + 1)) (j / 2)) := by
        refine Lib.hid ?_
        rw [siftUp, ha, hb]; rfl
      have HA := Lib.hid ha
      have HB := Lib.hid hb
      clear ha hb c0 c1' ca cb ya yb yan ybn
      by_cases hle : cmpE ea eb ≤ 0
      · go_wp2
        (refine wp_region_quiet_ext (by kernel_rfl) (by kernel_rfl) ?_; (repeat (go_big_quiet_step ((go_at_call 46; exact CC _)))); refine wpQuiet_nil ?_; intro wq hw'; obtain ⟨⟨_, hq⟩, hw''⟩ := hw'; subst hw'')
        go_wp2
        refine bodyPost_ret (v := .tuple #[]) (by simp [results, Try.results49, go_sem]) rfl ?_
        exact ⟨rfl, _, by rw [HS.out, HSTEP.out, if_pos hle]; exact HH.out.below hq, (HO1.out.then_ HON.out HGG.out).trans (Only.of_below hq), HGN.out⟩
      · go_wp2
        (refine wp_region_quiet_ext (by kernel_rfl) (by kernel_rfl) ?_; (repeat (go_big_quiet_step ((go_at_call 46; exact CC _)))); refine wpQuiet_nil ?_; intro wq hw'; obtain ⟨⟨_, hq⟩, hw''⟩ := hw'; subst hw'')
        go_wp2
        have HQ := Lib.hid (HH.out.below hq)
        have HONQ := Lib.hid (HON.out.trans (Only.of_below hq))
        have c0 := HQ.out.box0
        have ca : wq.cell? { block := g, off := j / 2 } = some (.slice Aa na xa) := HQ.out.cell HLEN.out HA.out
        have cb : wq.cell? { block := g, off := j + 1 } = some (.slice Ab nb xb) := HQ.out.cell HLEN.out HB.out
        have fa := HQ.out.frozen HLEN.out (j / 2)
        have fb := HQ.out.frozen HLEN.out (j + 1)
        have hgp : g ≠ p := fun e => HQ.out.ne (by rw [e]; rfl)
        clear F0 F1 F2 F3 CC hq
        go_region
        go_wp2
        refine ⟨⟨j / 2, swapL ps' (j / 2) (j + 1), by omega, by go_num, (HQ.out.swap HLEN.out HA.out HB.out).below (Below.drew (Below.refl _ _)), by rw [swapL_len]; exact HLEN.out, by rw [HS.out, HSTEP.out, if_neg (by omega)], ?_⟩, by simp [intOf]; omega⟩
        exact HONQ.out.trans ((((only_set _ _ _ _).trans (only_set _ _ _ _)).mono (fun i e => .inr e)).drew)
end Go.Proofs.Ytacdhkkelkplnaa
end
section
namespace Go.Proofs.Ytacdhkkelkplnaa
open Go.RowKit Go.BigFrame
attribute [local go_sem ↓] Go.wp_at_zero Go.wp_at_succ
/-- what pop leaves. -/
def Popped (base p : Nat) (S : Nat → Prop) (sl : Value) (qs : List (Value × List Ent)) (w w' : World) : Prop :=
  ∃ sl', HeapV w' base p S sl' qs ∧ Only (fun i => i = p ∨ sl.ownBlock = some i) w w' ∧ sl'.ownBlock = sl.ownBlock
set_option maxRecDepth 100000 in
set_option maxHeartbeats 4000000 in
theorem pop_any (base p : Nat) (S : Nat → Prop) (sl : Value) (ps : List (Value × List Ent)) (q0 : Value × List Ent) (w : World) (h : HeapV w base p S sl ps) (h0 : ps[0]? = some q0) (hsz : ps.length * 24 ≤ 140737488355328) :
    Calls Try.prog 50 #[.pointer (some ⟨p, 0, none⟩)] w fun r w' => r = .returned q0.1 ∧ Popped base p S sl (popL (·.2) ps) w w' := by
  obtain ⟨n, hn⟩ : ∃ n, ps.length = n + 1 := ⟨ps.length - 1, by have := (List.getElem?_eq_some_iff.1 h0).1; omega⟩
  obtain ⟨z, hz⟩ : ∃ z, ps[n]? = some z := ⟨_, List.getElem?_eq_getElem (by omega)⟩
  have HPOP := Lib.hid (show popL (·.2) ps = siftDown (·.2) ((ps.set 0 z).take n) 0 by unfold popL; rw [hn, Nat.add_sub_cancel, hz])
  obtain ⟨g, c, rfl, hbg, hgz, hnc, hc63⟩ := own_pos h.row (by omega)
  rw [hn] at h hsz hnc ⊢
  have hpz := h.lt
  have hgp : g ≠ p := fun e => h.ne (by rw [e]; rfl)
  obtain ⟨y0, y0n⟩ := h.vals q0 (List.mem_of_getElem? h0)
  obtain ⟨yz, yzn⟩ := h.vals z (List.mem_of_getElem? hz)
  obtain ⟨v0, l0⟩ := q0
  obtain ⟨vz, lz⟩ := z
  obtain ⟨A0, n0, x0, rfl⟩ := ents_form' y0
  obtain ⟨Az, nz, xz, rfl⟩ := ents_form' yz
  have c0 := h.box0
  have ca : w.cell? { block := g, off := 0 } = some (.slice A0 n0 x0) := h.cell hn h0
  have cb : w.cell? { block := g, off := n } = some (.slice Az nz xz) := h.cell hn hz
  have fa := h.frozen hn 0
  have H := Lib.hid h
  have HN := Lib.hid hn
  have HZ := Lib.hid (show Ents w S (.slice Az nz xz) lz ∧ lz ≠ [] from ⟨yz, yzn⟩)
  obtain ⟨ps1, hps1⟩ : ∃ ps1, (ps.set 0 (.slice Az nz xz, lz)).take n = ps1 := ⟨_, rfl⟩
  rw [HPOP.out, hps1]
  have HPS := Lib.hid hps1
  clear h hn h0 hz y0 yz y0n yzn HPOP hps1
  go_enter Try.func50, Try.ntmps50
  go_wp2
  go_region
  generalize hwa : (w.setCell { block := g, off := 0 } (.slice Az nz xz)).drew = wa
  have hset : HeapV wa base p S (.slice (some ⟨g, 0, none⟩) (n + 1) c) (ps.set 0 (.slice Az nz xz, lz)) := by
    rw [← hwa]
    exact (H.out.set HZ.out HN.out 0).below (Below.drew (Below.refl _ _))
  have honly : Only (fun i => i = p ∨ i = g) w wa := by
    rw [← hwa]
    exact ((only_set _ _ _ _).mono (fun i e => .inr e)).drew
  have HSET := Lib.hid hset
  have HON := Lib.hid honly
  have d0 := hset.box0
  have f0 := frozen_of_row wa p 0 _ _ hset.box
  clear hwa hset honly ca cb fa c0
  go_wp2
  have HCUT := HSET.out.cut (by rw [List.length_set]; exact HN.out)
  rw [HPS.out] at HCUT
  have HON1 := HON.out.trans ((only_set wa p 0 (.slice (some { block := g, off := 0 }) n c)).mono (fun i e => .inl e))
  generalize hwb : wa.setCell { block := p, off := 0 } (.slice (some { block := g, off := 0 }) n c) = wb at HCUT HON1 ⊢
  have hlen : ps1.length = n := by rw [← HPS.out]; simp [HN.out]
  have HC := Lib.hid HCUT
  have HO := Lib.hid HON1
  have HL := Lib.hid hlen
  clear hwb HCUT HON1 hlen d0 f0 HSET HON
  go_loopw [5] (fun t wr => ∃ (i : Nat) (ps' : List (Value × List Ent)), i ≤ n ∧ t = .int .i64 i ∧ HeapV wr base p S (.slice (some ⟨g, 0, none⟩) n c) ps' ∧ ps'.length = n ∧ siftDown (·.2) ps1 0 = siftDown (·.2) ps' i ∧ Only (fun i => i = p ∨ i = g) w wr) (fun t _ => n - (intOf t).toNat)
  case atStart => exact ⟨0, ps1, Nat.zero_le _, rfl, HC.out, HL.out, rfl, HO.out⟩
  case round =>
    obtain ⟨i, ps', hin, rfl, hh, hlen, hsift, honly⟩ := hrel
    obtain ⟨wo, hwo⟩ : ∃ wo, wo = wr := ⟨_, rfl⟩
    subst hwo
    have HH := Lib.hid hh
    have HLEN := Lib.hid hlen
    have HS := Lib.hid hsift
    have HON := Lib.hid honly
    clear hh hlen hsift honly
    go_wp2
    go_loopw [6, 7] (fun t6 t7 wi => ∃ k : Nat, 2 * i + 1 ≤ k ∧ k ≤ 2 * i + 3 ∧ t7 = .int .i64 k ∧ t6 = .int .i64 (lst (·.2) ps' i (k - (2 * i + 1)) : Nat) ∧ Below wo.heap.size wo wi) (fun _ t _ => 2 * i + 3 - (intOf t).toNat)
    case atStart => exact ⟨2 * i + 1, by omega, by omega, by go_num, by simp [lst], Below.refl _ _⟩
    case round =>
      obtain ⟨k, hk1, hk2, rfl, rfl, hbel⟩ := hrel
      have HI := Lib.hid (HH.out.below hbel)
      have HB := Lib.hid hbel
      clear hbel
      have hor := lst_or (·.2) ps' i (k - (2 * i + 1))
      have hex : Hid (k = 2 * i + 3 ∨ n ≤ k → lst (·.2) ps' i 2 = lst (·.2) ps' i (k - (2 * i + 1))) := Lib.hid fun h => lst_two _ _ _ _ (by omega) (by rw [HLEN.out]; omega)
      by_cases hgo : k ≤ 2 * i + 2 ∧ k < n
      · obtain ⟨hg1, hg2⟩ := hgo
        clear hex
        obtain ⟨m, hm⟩ : ∃ m, lst (·.2) ps' i (k - (2 * i + 1)) = m := ⟨_, rfl⟩
        rw [hm, HLEN.out] at hor
        rw [hm]
        have HMM := Lib.hid hm
        have hmn : m < n := by omega
        clear hm hor
        obtain ⟨a, ha⟩ : ∃ a, ps'[k]? = some a := ⟨_, List.getElem?_eq_getElem (by rw [HLEN.out]; omega)⟩
        obtain ⟨b, hb⟩ : ∃ b, ps'[m]? = some b := ⟨_, List.getElem?_eq_getElem (by rw [HLEN.out]; omega)⟩
        obtain ⟨ya, yan⟩ := HI.out.vals a (List.mem_of_getElem? ha)
        obtain ⟨yb, ybn⟩ := HI.out.vals b (List.mem_of_getElem? hb)
        obtain ⟨va, la⟩ := a
        obtain ⟨vb, lb⟩ := b
        obtain ⟨Aa, na, xa, rfl⟩ := ents_form' ya
        obtain ⟨Ab, nb, xb, rfl⟩ := ents_form' yb
        obtain ⟨ea, la, rfl⟩ := List.exists_cons_of_ne_nil yan
        obtain ⟨eb, lb, rfl⟩ := List.exists_cons_of_ne_nil ybn
        have c0 := HI.out.box0
        have c1' := HI.out.box1
        have ca := HI.out.cell HLEN.out ha
        have cb := HI.out.cell HLEN.out hb
        have F0 : ∀ q : Ext wr, q.w.cell? { block := p, off := 0 } = _ := fun q => q.h.cell c0
        have F1 : ∀ q : Ext wr, q.w.cell? { block := p, off := 1 } = _ := fun q => q.h.cell c1'
        have F2 : ∀ q : Ext wr, q.w.cell? { block := g, off := k } = some (.slice Aa na xa) := fun q => q.h.cell ca
        have F3 : ∀ q : Ext wr, q.w.cell? { block := g, off := m } = some (.slice Ab nb xb) := fun q => q.h.cell cb
        have CC : ∀ q : Ext wr, Calls Try.prog 46 #[.slice Aa na xa, .slice Ab nb xb] q.w fun r w'' => r = .returned (.int .i64 (cmpE ea eb)) ∧ ∃ q' : Ext wr, w'' = q'.w := fun q => Ext.calls (mclos_any S S _ _ ea eb la lb _ (ya.below q.h) (yb.below q.h))
        have HSTEP : Hid (lst (·.2) ps' i (k + 1 - (2 * i + 1)) = if cmpE ea eb < 0 then k else m) := by
          refine Lib.hid ?_
          rw [show k + 1 - (2 * i + 1) = (k - (2 * i + 1)) + 1 from by omega, lst, HMM.out, show 2 * i + 1 + (k - (2 * i + 1)) = k from by omega, leastStep, ha, hb]; rfl
        clear ha hb c0 c1' ca cb ya yb yan ybn
        by_cases hlt : cmpE ea eb < 0
        · go_wp2
          (refine wp_region_quiet_ext (by kernel_rfl) (by kernel_rfl) ?_; (repeat (go_big_quiet_step ((go_at_call 46; exact CC _)))); refine wpQuiet_nil ?_; intro wq hw'; obtain ⟨⟨_, hq⟩, hw''⟩ := hw'; subst hw'')
          go_wp2
          refine ⟨⟨k + 1, by omega, by omega, by go_num, by rw [HSTEP.out, if_pos hlt], HB.out.trans (Below.mono hq HB.out.size)⟩, by simp [intOf]; omega⟩
        · go_wp2
          (refine wp_region_quiet_ext (by kernel_rfl) (by kernel_rfl) ?_; (repeat (go_big_quiet_step ((go_at_call 46; exact CC _)))); refine wpQuiet_nil ?_; intro wq hw'; obtain ⟨⟨_, hq⟩, hw''⟩ := hw'; subst hw'')
          go_wp2
          refine ⟨⟨k + 1, by omega, by omega, by go_num, by rw [HSTEP.out, if_neg (by omega)], HB.out.trans (Below.mono hq HB.out.size)⟩, by simp [intOf]; omega⟩
      · have HEX := Lib.hid (hex.out (by omega))
        clear hex hor
        have hor := lst_or (·.2) ps' i 2
        rw [← HEX.out]
        generalize hM : lst (·.2) ps' i 2 = M at hor HEX ⊢
        rw [HLEN.out] at hor
        have HM := Lib.hid hM
        clear HEX hM
        by_cases hk : k ≤ 2 * i + 2
        all_goals
          by_cases hMi : M = i
          · subst hMi
            clear hor
            go_wp2
            refine bodyPost_ret (v := .slice A0 n0 x0) (by simp [results, Try.results50, go_sem]) rfl ?_
            refine ⟨rfl, .slice (some ⟨g, 0, none⟩) n c, ?_, (HON.out.trans (Only.of_below HB.out)).mono ?_, rfl⟩
            · rw [HS.out, siftDown, dif_pos HM.out]; exact HI.out
            · exact fun i h => h.elim .inl (fun e => .inr (by rw [e]; rfl))
          · have hi1 : i < M := by omega
            have hi2 : M < n := by omega
            clear hor
            obtain ⟨a, ha⟩ : ∃ a, ps'[i]? = some a := ⟨_, List.getElem?_eq_getElem (by rw [HLEN.out]; omega)⟩
            obtain ⟨b, hb⟩ : ∃ b, ps'[M]? = some b := ⟨_, List.getElem?_eq_getElem (by rw [HLEN.out]; omega)⟩
            obtain ⟨ya, yan⟩ := HI.out.vals a (List.mem_of_getElem? ha)
            obtain ⟨yb, ybn⟩ := HI.out.vals b (List.mem_of_getElem? hb)
            obtain ⟨va, la⟩ := a
            obtain ⟨vb, lb⟩ := b
            obtain ⟨Aa, na, xa, rfl⟩ := ents_form' ya
            obtain ⟨Ab, nb, xb, rfl⟩ := ents_form' yb
            have c0 := HI.out.box0
            have ca : wr.cell? { block := g, off := i } = some (.slice Aa na xa) := HI.out.cell HLEN.out ha
            have cb : wr.cell? { block := g, off := M } = some (.slice Ab nb xb) := HI.out.cell HLEN.out hb
            have fa := HI.out.frozen HLEN.out i
            have fb := HI.out.frozen HLEN.out M
            have HSW := Lib.hid ((HI.out.swap HLEN.out ha hb).below (Below.drew (Below.refl _ _)))
            clear ha hb ya yb yan ybn
            have HMI := Lib.hid hMi
            clear hMi
            go_wp2
            go_region
            go_wp2
            refine ⟨⟨M, swapL ps' i M, by omega, rfl, HSW.out, by rw [swapL_len]; exact HLEN.out, ?_, ?_⟩, by simp [intOf]; omega⟩
            · rw [HS.out, siftDown, dif_neg (by rw [HM.out]; exact HMI.out), HM.out]
            · exact (HON.out.trans (Only.of_below HB.out)).trans ((((only_set _ _ _ _).trans (only_set _ _ _ _)).mono (fun i e => .inr e)).drew)
end Go.Proofs.Ytacdhkkelkplnaa
end
section
namespace Go.Proofs.Ytacdhkkelkplnaa
section
variable {α β : Type}
theorem swapL_map (g : α → β) (l : List α) (i j : Nat) : (swapL l i j).map g = swapL (l.map g) i j := by
  unfold swapL
  simp only [List.getElem?_map]
  cases l[i]? <;> cases l[j]? <;> simp
theorem siftUp_map (g : α → β) (f : β → List Ent) (l : List α) (i : Nat) : (siftUp (fun x => f (g x)) l i).map g = siftUp f (l.map g) i := by
  induction i using Nat.strongRecOn generalizing l with
  | ind i ih =>
    cases i with
    | zero => rw [siftUp, siftUp]
    | succ i =>
      rw [siftUp, siftUp]
      simp only [List.getElem?_map]
      cases l[i / 2]? with
      | none => simp
      | some a =>
        cases l[i + 1]? with
        | none => simp
        | some b =>
          simp only [Option.map_some]
          split
          · rfl
          · rw [ih (i / 2) (by omega), swapL_map]
theorem leastStep_map (g : α → β) (f : β → List Ent) (l : List α) (k m : Nat) : leastStep (fun x => f (g x)) l k m = leastStep f (l.map g) k m := by
  unfold leastStep
  simp only [List.getElem?_map]
  cases l[k]? <;> cases l[m]? <;> simp
theorem lst_map (g : α → β) (f : β → List Ent) (l : List α) (i j : Nat) : lst (fun x => f (g x)) l i j = lst f (l.map g) i j := by
  induction j with
  | zero => rfl
  | succ j ih => rw [lst, lst, ih, leastStep_map]
theorem siftDown_map (g : α → β) (f : β → List Ent) (l : List α) (i : Nat) : (siftDown (fun x => f (g x)) l i).map g = siftDown f (l.map g) i := by
  induction hn : l.length - i using Nat.strongRecOn generalizing l i with
  | ind n ih =>
    conv => lhs; rw [siftDown]
    conv => rhs; rw [siftDown]
    rw [← lst_map]
    by_cases h : lst (fun x => f (g x)) l i 2 = i
    · rw [dif_pos h, dif_pos h]
    · rw [dif_neg h, dif_neg h, ← swapL_map]
      have := lst_or (fun x => f (g x)) l i 2
      exact ih _ (by rw [swapL_len]; omega) _ _ rfl
theorem popL_map (g : α → β) (f : β → List Ent) (l : List α) : (popL (fun x => f (g x)) l).map g = popL f (l.map g) := by
  unfold popL
  simp only [List.length_map, List.getElem?_map]
  cases l[l.length - 1]? with
  | none => simp
  | some z => simp [siftDown_map, List.map_take, List.map_set]
theorem popL_len (f : α → List Ent) (l : List α) : (popL f l).length = l.length - 1 := by
  unfold popL
  split
  · rw [(siftDown_perm _ _ _).length_eq]; simp
  · rename_i h
    have := List.getElem?_eq_none_iff.1 h
    simp; omega
def pushL (f : α → List Ent) (l : List α) (q : α) : List α := siftUp f (l ++ [q]) l.length
theorem pushL_map (g : α → β) (f : β → List Ent) (l : List α) (q : α) : (pushL (fun x => f (g x)) l q).map g = pushL f (l.map g) (g q) := by
  unfold pushL; rw [siftUp_map]; simp
theorem pushL_perm (f : α → List Ent) (l : List α) (q : α) : (pushL f l q).Perm (l ++ [q]) := siftUp_perm _ _ _
/-- all but the top is what pop leaves. -/
theorem popL_perm (f : α → List Ent) (a : α) (l : List α) : (a :: popL f (a :: l)).Perm (a :: l) := by
  refine List.Perm.cons a ?_
  unfold popL
  have e1 : (a :: l).length - 1 = l.length := by simp
  rw [e1]
  cases hz : (a :: l)[l.length]? with
  | none => have := List.getElem?_eq_none_iff.1 hz; simp only [List.length_cons] at this; omega
  | some z =>
    refine (siftDown_perm _ _ _).trans ?_
    cases l with
    | nil => simp
    | cons b l =>
      simp only [List.length_cons, List.getElem?_cons_succ] at hz
      have hz' : z = (b :: l).getLast (by simp) := by
        obtain ⟨_, e⟩ := List.getElem?_eq_some_iff.1 hz
        rw [List.getLast_eq_getElem, ← e]; rfl
      have e2 : ((a :: b :: l).set 0 z).take (b :: l).length = z :: (b :: l).dropLast := by
        simp [List.dropLast_eq_take]
      rw [e2]
      have e3 := List.dropLast_concat_getLast (l := b :: l) (by simp)
      rw [← hz'] at e3
      have : (z :: (b :: l).dropLast).Perm ((b :: l).dropLast ++ [z]) := by
        simpa using (List.perm_append_comm (l₁ := [z]) (l₂ := (b :: l).dropLast))
      rw [e3] at this
      exact this
end
/-- the heap of some lists. -/
def heapOf (ls : List (List Ent)) : List (List Ent) := ls.foldl (fun hs l => if l = [] then hs else pushL id hs l) []
theorem heapOf_snoc (ls : List (List Ent)) (l : List Ent) : heapOf (ls ++ [l]) = if l = [] then heapOf ls else pushL id (heapOf ls) l := by
  simp [heapOf, List.foldl_append]
/-- is the last one like this? -/
def twice (out : List Ent) (e : Ent) : Bool := match out.getLast? with | some o => decide (cmpE o e = 0) | none => false
theorem twice_snoc (out : List Ent) (o e : Ent) : twice (out ++ [o]) e = decide (cmpE o e = 0) := by simp [twice]
def mergeGo : Nat → List (List Ent) → List Ent → List Ent × Int
  | 0, _, out => (out, 0)
  | k + 1, hs, out =>
    match hs with
    | (e :: l) :: _ => if twice out e = true then ([], 31) else mergeGo k (if l = [] then popL id hs else pushL id (popL id hs) l) (out ++ [e])
    | _ => (out, 0)
def total (hs : List (List Ent)) : Nat := hs.flatten.length
theorem total_perm {a b : List (List Ent)} (h : a.Perm b) : total a = total b := h.flatten.length_eq
def mergeC (ls : List (List Ent)) : List Ent × Int := if ls.all orderedE = true then mergeGo (total ls) (heapOf ls) [] else ([], 30)
theorem heapOf_perm' (ls : List (List Ent)) : ∀ hs : List (List Ent), (ls.foldl (fun hs l => if l = [] then hs else pushL id hs l) hs).Perm (hs ++ ls.filter (fun l => decide (l ≠ []))) := by
  induction ls with
  | nil => intro hs; simp
  | cons l ls ih =>
    intro hs
    rw [List.foldl_cons]
    refine (ih _).trans ?_
    by_cases h : l = []
    · simp [h]
    · rw [if_neg h, List.filter_cons, if_pos (by simp [h])]
      refine ((pushL_perm _ _ _).append_right _).trans ?_
      rw [List.append_assoc]; exact List.Perm.refl _
theorem heapOf_perm (ls : List (List Ent)) : (heapOf ls).Perm (ls.filter (fun l => decide (l ≠ []))) := by
  have := heapOf_perm' ls []
  rw [List.nil_append] at this
  exact this
theorem filter_flatten (ls : List (List Ent)) : (ls.filter (fun l => decide (l ≠ []))).flatten = ls.flatten := by
  induction ls with
  | nil => rfl
  | cons l ls ih =>
    by_cases h : l = []
    · simp [h]; simpa using ih
    · rw [List.filter_cons, if_pos (by simp [h]), List.flatten_cons, List.flatten_cons, ih]
theorem heapOf_total (ls : List (List Ent)) : total (heapOf ls) = total ls := by
  rw [total_perm (heapOf_perm ls), total, filter_flatten]; rfl
theorem total_pop (e : Ent) (l : List Ent) (hs : List (List Ent)) : total (popL id ((e :: l) :: hs)) + (l.length + 1) = total ((e :: l) :: hs) := by
  have := total_perm (popL_perm id (e :: l) hs)
  unfold total at this ⊢
  rw [← this]; simp; omega
theorem total_push (l : List Ent) (hs : List (List Ent)) : total (pushL id hs l) = total hs + l.length := by
  rw [total_perm (pushL_perm id hs l)]
  simp [total]
end Go.Proofs.Ytacdhkkelkplnaa
end
