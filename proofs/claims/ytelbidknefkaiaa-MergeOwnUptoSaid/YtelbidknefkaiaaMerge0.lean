/-
merge.Merge: how its lists, its heap and what it makes lie in memory.
-/
import Derived.Test.YtelbidknefkaiaaHeap3
import Derived.Test.YtelbidknefkaiaaMergeP
namespace Go.Proofs.Ytelbidknefkaiaa
open Go.RowKit

/-- a slice value of lists of entries. -/
def Lists (w : World) (S : Nat → Prop) (v : Value) (ls : List (List Ent)) : Prop :=
  ∃ (A : Option Addr) (c : Nat) (vs : List Value), v = .slice A ls.length c ∧ ls.length ≤ c ∧ c ≤ 9223372036854775807 ∧ ls.length * 24 ≤ 140737488355328 ∧ Row w S A ls.length 1 vs ∧ ∀ (i : Nat) (l : List Ent), ls[i]? = some l → ∃ x, vs[i]? = some x ∧ Ents w S x l
theorem Lists.below {w w' : World} {S : Nat → Prop} {v : Value} {ls : List (List Ent)} (h : Lists w S v ls) (hb : Below w.heap.size w w') : Lists w' S v ls := by
  obtain ⟨A, c, vs, e, h1, h2, h3, h4, h5⟩ := h
  exact ⟨A, c, vs, e, h1, h2, h3, h4.below hb, fun i l hl => by obtain ⟨x, hx, hy⟩ := h5 i l hl; exact ⟨x, hx, hy.below hb⟩⟩

theorem HeapV.init (w : World) (S : Nat → Prop) (hS : ∀ i, S i → i < w.heap.size) : HeapV (w.alloc (boxOf (.slice none 0 0))) w.heap.size w.heap.size S (.slice none 0 0) [] :=
  ⟨heap_alloc_new w _, World.ownsRow_nil _ _ _ _, by simp [Value.ownBlock], fun q hq => by simp at hq, hS, Nat.le_refl _⟩
theorem all_take_snoc {ls : List (List Ent)} {k : Nat} {l : List Ent} (h : ls[k]? = some l) (ha : (ls.take k).all orderedE = true) (ho : orderedE l = true) : (ls.take (k + 1)).all orderedE = true := by
  rw [take_snoc h, List.all_append, ha]; simp [ho]
theorem all_false_at {ls : List (List Ent)} {k : Nat} {l : List Ent} (h : ls[k]? = some l) (ho : orderedE l = false) : ls.all orderedE = false := by
  rw [List.all_eq_false]
  exact ⟨l, List.mem_of_getElem? h, by simp [ho]⟩
theorem Pushed.below {base p B : Nat} {S : Nat → Prop} {sl : Value} {qs : List (Value × List Ent)} {w w' : World} (h : Pushed base p S sl qs w w') (hp : B ≤ p) (hg : ∀ g, sl.ownBlock = some g → B ≤ g) (hB : B ≤ w.heap.size) : Below B w w' := by
  obtain ⟨sl', _, ho, _⟩ := h
  exact ho.below hB (fun i hi => hi.elim (fun e => e ▸ hp) (fun e => hg i e))

def outT (base : Nat) (v sl : Value) (i : Nat) : Prop := base < i ∧ v.ownBlock ≠ some i ∧ sl.ownBlock ≠ some i
theorem EntCells.monoLt {w : World} {S S' : Nat → Prop} {cs : List Value} {es : List Ent} (h : EntCells w S cs es) (hS : ∀ i, i < w.heap.size → S i → S' i) : EntCells w S' cs es := h.imp fun _ _ h => h.monoLt hS
theorem EntCells.pushT {base : Nat} {T T' : Nat → Prop} {wr w1 w2 : World} {v v' k u : Value} {n : Nat} {ys : List Value} {es : List Ent} {e : Ent} {o : Obj} {t : TypeId} (hown : wr.ownsRow base t 4 v n ys) (hys : EntCells wr T ys es) (hT : ∀ i, T i → v.ownBlock ≠ some i) (hb1 : Below wr.heap.size wr w1)
    (hk : Byt w1 (fun i => wr.heap.size ≤ i) k e.key) (hu : Byt w1 (fun i => wr.heap.size ≤ i) u e.val) (hg : (w1.alloc o).grownBy w2 v.ownBlock) (hat : v'.ownBlock = v.ownBlock ∨ v'.ownBlock = some (w1.alloc o).heap.size)
    (hT' : ∀ i, (T i ∨ wr.heap.size ≤ i) → v'.ownBlock ≠ some i → T' i) :
    EntCells w2 T' (ys ++ [k, .int .i64 e.seq, .bool e.dead, u]) (es ++ [e]) := by
  have hal : Below w1.heap.size w1 (w1.alloc o) := (Below.refl _ _).alloc (Nat.le_refl _) _
  have hz := hb1.size
  have old : ∀ x bs, Byt wr T x bs → Byt w2 T' x bs := fun x bs h =>
    ((h.below hb1).below hal).push hg hat (fun i _ hs => hT i hs) (fun i _ hs hn => hT' i (.inl hs) hn)
  have new : ∀ x bs, Byt w1 (fun i => wr.heap.size ≤ i) x bs → Byt w2 T' x bs := fun x bs h =>
    (h.below hal).push hg hat (fun i _ hs e => by have := hown.lt i e; omega) (fun i _ hs hn => hT' i (.inr hs) hn)
  exact (hys.imp old).append (EntCells.one (new _ _ hk) (new _ _ hu))
theorem Ents.tail {w : World} {S : Nat → Prop} {b o c n : Nat} {e : Ent} {l : List Ent} (h : Ents w S (.slice (some ⟨b, o, none⟩) n c) (e :: l)) (hl : l ≠ []) : Ents w S (.slice (some ⟨b, o + 4, none⟩) l.length (c - 1)) l := by
  obtain ⟨A, c', cs, he, h1, h2, h3, h4, h5⟩ := h
  injection he with e1 e2 e3
  subst e1 e2 e3
  simp only [List.length_cons] at h1 h3 h4
  have hlp : 0 < l.length := List.length_pos_iff.2 hl
  refine ⟨_, _, cs.drop 4, rfl, by omega, by omega, by omega, ?_, by simpa using h5.drop 1⟩
  have hcl := h5.len
  simp only [List.length_cons] at hcl
  refine ⟨by simp; omega, fun _ => ?_⟩
  obtain ⟨b', o', hb', hS, hlt, hc⟩ := h4.2 (by omega)
  injection hb' with hb'
  injection hb' with e1 e2
  subst e1 e2
  refine ⟨b, o + 4, rfl, hS, hlt, fun j u hu => ?_⟩
  rw [List.getElem?_drop] at hu
  have := hc (4 + j) u hu
  rwa [show o + (4 + j) = o + 4 + j from by omega] at this
theorem Ents.head' {w : World} {S : Nat → Prop} {b o n c : Nat} {e : Ent} {l : List Ent} (h : Ents w S (.slice (some ⟨b, o, none⟩) n c) (e :: l)) :
    n = l.length + 1 ∧ l.length + 1 ≤ c ∧ c ≤ 9223372036854775807 ∧ ∃ k u, w.cell? ⟨b, o, none⟩ = some k ∧ w.cell? ⟨b, o + 1, none⟩ = some (.int .i64 e.seq) ∧ w.cell? ⟨b, o + 2, none⟩ = some (.bool e.dead) ∧ w.cell? ⟨b, o + 3, none⟩ = some u ∧ Byt w S k e.key ∧ Byt w S u e.val := by
  obtain ⟨b', o', c', k, u, he, hr⟩ := h.head
  injection he with e1 e2 e3
  injection e1 with e1
  injection e1 with e1 e2'
  subst e1 e2' e3
  obtain ⟨A, c', cs, he, h1, h2, _⟩ := h
  injection he with _ _ e3
  subst e3
  exact ⟨e2, by simpa using h1, h2, k, u, hr⟩
theorem own_last {w : World} {base g c : Nat} {T : Nat → Prop} {t : TypeId} {ys : List Value} {os : List Ent} {o : Ent} {m : Nat} (h : w.ownsRow base t 4 (.slice (some ⟨g, 0, none⟩) m c) m ys) (hc : EntCells w T ys (os ++ [o])) (hm : m = os.length + 1) :
    ∃ k u, w.cell? ⟨g, (m - 1) * 4, none⟩ = some k ∧ w.cell? ⟨g, (m - 1) * 4 + 1, none⟩ = some (.int .i64 o.seq) ∧ w.cell? ⟨g, (m - 1) * 4 + 2, none⟩ = some (.bool o.dead) ∧ w.cell? ⟨g, (m - 1) * 4 + 3, none⟩ = some u ∧ Byt w T k o.key ∧ Byt w T u o.val := by
  subst hm
  obtain ⟨k, u, a1, a2, a3, a4, a5, a6⟩ := hc.at_ (i := os.length) (e := o) (by simp)
  refine ⟨k, u, ?_, ?_, ?_, ?_, a5, a6⟩
  · rw [h.cellAt _ (by omega), ← a1]; congr 1; omega
  · rw [h.cellAt _ (by omega), ← a2]; congr 1; omega
  · rw [h.cellAt _ (by omega), ← a3]; congr 1; omega
  · rw [h.cellAt _ (by omega), ← a4]; congr 1; omega
def sliceLen : Value → Nat
  | .slice _ n _ => n
  | _ => 0
theorem mergeGo_nil (k : Nat) (out : List Ent) : mergeGo k [] out = (out, 0) := by cases k <;> rfl
theorem mergeGo_step {K : Nat} {e : Ent} {l : List Ent} {hs : List (List Ent)} {out : List Ent} :
    mergeGo (K + 1) ((e :: l) :: hs) out = if twice out e = true then ([], 31) else mergeGo K (if l = [] then popL id ((e :: l) :: hs) else pushL id (popL id ((e :: l) :: hs)) l) (out ++ [e]) := rfl

theorem popV_map (ps : List (Value × List Ent)) : (popL (·.2) ps).map (·.2) = popL id (ps.map (·.2)) := popL_map (α := Value × List Ent) (fun x => x.2) id ps
theorem pushV_map (ps : List (Value × List Ent)) (q : Value × List Ent) : (pushL (·.2) ps q).map (·.2) = pushL id (ps.map (·.2)) q.2 := pushL_map (α := Value × List Ent) (fun x => x.2) id ps q
theorem HeapV.thru {w1 w3 w4 : World} {B p : Nat} {S : Nat → Prop} {sl v : Value} {ps : List (Value × List Ent)} {o : Obj} (h : HeapV w1 B p S sl ps) (hb : Below w1.heap.size w1 w3) (hg : (w3.alloc o).grownBy w4 v.ownBlock)
    (hd : ∀ g, v.ownBlock = some g → B ≤ g ∧ g ≠ p ∧ sl.ownBlock ≠ some g) : HeapV w4 B p S sl ps :=
  ((h.below hb).below ((Below.refl _ _).alloc (Nat.le_refl _) _)).only (Only.of_grown hg) hd
theorem Ents.thru {w1 w3 w4 : World} {S : Nat → Prop} {v x : Value} {es : List Ent} {o : Obj} (h : Ents w1 S x es) (hb : Below w1.heap.size w1 w3) (hg : (w3.alloc o).grownBy w4 v.ownBlock)
    (hd : ∀ g, v.ownBlock = some g → ¬ S g) : Ents w4 S x es :=
  ((h.below hb).below ((Below.refl _ _).alloc (Nat.le_refl _) _)).only (Only.of_grown hg) (fun i _ hs e => hd i e hs)
theorem out_pushed {w4 w5 : World} {B : Nat} {v sl1 sl2 : Value} {cs : List Value} {os : List Ent} (h : EntCells w4 (outT B v sl1) cs os) (ho : Only (fun i => i = B ∨ sl1.ownBlock = some i) w4 w5)
    (hs : sl2.ownBlock = sl1.ownBlock ∨ ∃ g, sl2.ownBlock = some g ∧ w4.heap.size ≤ g) : EntCells w5 (outT B v sl2) cs os := by
  have h1 : EntCells w4 (fun i => outT B v sl1 i ∧ i < w4.heap.size) cs os := h.monoLt fun i hi hs => ⟨hs, hi⟩
  refine (h1.only ho fun i _ ht t => ?_).mono fun i ht => ⟨ht.1.1, ht.1.2.1, fun e => ?_⟩
  · rcases t with t | t
    · have := ht.1.1; omega
    · exact ht.1.2.2 t
  · rcases hs with hs | ⟨g, hg, hlt⟩
    · exact ht.1.2.2 (hs ▸ e)
    · rw [hg] at e
      injection e with e
      have := ht.2
      omega
theorem dis_pushed {w4 : World} {B : Nat} {v sl1 sl2 : Value} (h : ∀ g, v.ownBlock = some g → g ≠ B ∧ sl1.ownBlock ≠ some g) (hlt : ∀ g, v.ownBlock = some g → g < w4.heap.size)
    (hs : sl2.ownBlock = sl1.ownBlock ∨ ∃ g, sl2.ownBlock = some g ∧ w4.heap.size ≤ g) : ∀ g, v.ownBlock = some g → g ≠ B ∧ sl2.ownBlock ≠ some g := by
  intro g hg
  refine ⟨(h g hg).1, fun e => ?_⟩
  rcases hs with hs | ⟨g', hg', hl⟩
  · exact (h g hg).2 (hs ▸ e)
  · rw [hg'] at e
    injection e with e
    have := hlt g hg
    omega
theorem dis_grown {w3 : World} {B : Nat} {v v' sl1 : Value} {o : Obj} (h : ∀ g, v.ownBlock = some g → g ≠ B ∧ sl1.ownBlock ≠ some g) (hat : v'.ownBlock = v.ownBlock ∨ v'.ownBlock = some (w3.alloc o).heap.size)
    (hB : B < w3.heap.size) (hlt : ∀ g, sl1.ownBlock = some g → g < w3.heap.size) : ∀ g, v'.ownBlock = some g → g ≠ B ∧ sl1.ownBlock ≠ some g := by
  intro g hg
  rcases hat with hat | hat
  · exact h g (hat ▸ hg)
  · rw [hat] at hg
    injection hg with hg
    simp at hg
    exact ⟨by omega, fun e => by have := hlt g e; omega⟩
theorem Ents.take1 {w : World} {S : Nat → Prop} {A : Option Addr} {n c : Nat} {es : List Ent} (h : Ents w S (.slice A n c) es) (k : Nat) (hk : k ≤ n) : Ents w S (.slice A k c) (es.take k) := by
  obtain ⟨A', c', cs, he, h1, h2, h3, h4, h5⟩ := h
  injection he with e1 e2 e3
  subst e1 e2 e3
  have hl : (es.take k).length = k := by simp; omega
  have hcl := h5.len
  refine ⟨_, _, cs.take (k * 4), by rw [hl], by omega, h2, by omega, ?_, h5.take k⟩
  rw [hl]
  refine ⟨by simp; omega, fun h0 => ?_⟩
  obtain ⟨b, o, hb, hS, hlt, hc⟩ := h4.2 (by omega)
  refine ⟨b, o, hb, hS, hlt, fun j u hu => ?_⟩
  rw [List.getElem?_take] at hu
  split at hu
  · exact hc j u hu
  · cases hu
end Go.Proofs.Ytelbidknefkaiaa
