/-
New memory that may be written to: blocks that are not frozen, apart from the row that holds them.
-/
import Derived.Test.YtelbidknefkaiaaVis
import Derived.Test.YtelbidknefkaiaaMerge
namespace Go.Proofs.Ytelbidknefkaiaa
open Go.RowKit

def Loose (w : World) (i : Nat) : Prop := ∃ cs t, w.heap[i]? = some (.cells cs t (0, 0))
theorem Loose.lt {w : World} {i : Nat} (h : Loose w i) : i < w.heap.size := by
  obtain ⟨cs, t, h⟩ := h
  exact (Array.getElem?_eq_some_iff.1 h).1
theorem Loose.of_eq {w w' : World} {i : Nat} (h : Loose w i) (e : w'.heap[i]? = w.heap[i]?) : Loose w' i := by
  obtain ⟨cs, t, h⟩ := h
  exact ⟨cs, t, e.trans h⟩
theorem Loose.below {w w' : World} {i : Nat} (h : Loose w i) (hb : Below w.heap.size w w') : Loose w' i := h.of_eq (hb.block i h.lt)
theorem Loose.alloc {w : World} {i : Nat} (h : Loose w i) (o : Obj) : Loose (w.alloc o) i := h.below ((Below.refl _ _).alloc (Nat.le_refl _) _)
theorem Loose.grown {w w' : World} {i : Nat} {g : Option Nat} (h : Loose w i) (hg : w.grownBy w' g) (hn : g ≠ some i) : Loose w' i := h.of_eq (hg.block i h.lt (fun e => hn e.symm))
theorem Loose.only {w w' : World} {S : Nat → Prop} {i : Nat} (h : Loose w i) (ho : Only S w w') (hn : ¬ S i) : Loose w' i := h.of_eq (ho.block i h.lt hn)
/-- bytes in new blocks that may be written to. -/
def BytL (w : World) (lo : Nat) (v : Value) (bs : List UInt8) : Prop := Byt w (fun i => lo ≤ i ∧ Loose w i) v bs
theorem BytL.byt {w : World} {lo : Nat} {v : Value} {bs : List UInt8} (h : BytL w lo v bs) : Byt w (fun i => lo ≤ i) v bs := Byt.mono (S := fun i => lo ≤ i ∧ Loose w i) h fun _ hi => hi.1
theorem BytL.below {w w' : World} {lo : Nat} {v : Value} {bs : List UInt8} (h : BytL w lo v bs) (hb : Below w.heap.size w w') : BytL w' lo v bs := Byt.mono (S := fun i => lo ≤ i ∧ Loose w i) (Byt.below (S := fun i => lo ≤ i ∧ Loose w i) h hb) fun _ hi => ⟨hi.1, hi.2.below hb⟩
theorem BytL.mono {w : World} {lo lo' : Nat} {v : Value} {bs : List UInt8} (h : BytL w lo v bs) (hl : lo' ≤ lo) : BytL w lo' v bs := Byt.mono (S := fun i => lo ≤ i ∧ Loose w i) h fun _ hi => ⟨by omega, hi.2⟩
theorem BytL.nil (w : World) (lo : Nat) : BytL w lo (.slice none 0 0) [] := Byt.nil _ _
theorem BytL.of_own {w : World} {base : Nat} {v : Value} {bs : List UInt8} (h : w.ownsRow base 5 1 v bs.length (bs.map bcell)) (hl : bs.length ≤ 140737488355328) : BytL w base v bs := by
  rcases h.2 with ⟨rfl, h0⟩ | ⟨g, cap, cur, rfl, hbg, hh, hcap, hcm, _⟩
  · have : bs = [] := List.eq_nil_of_length_eq_zero h0
    subst this
    exact BytL.nil _ _
  · have hlt : g < w.heap.size := (Array.getElem?_eq_some_iff.1 hh).1
    refine ⟨_, _, rfl, hcap, by unfold maxLen at hcm; omega, hl, by simp, fun _ => ⟨g, 0, rfl, ⟨hbg, _, _, hh⟩, hlt, fun j u hu => ?_⟩⟩
    have := h.cells (g := g) rfl j u hu
    rwa [Addr.add_lit] at this
def EntVL (w : World) (lo : Nat) (v : Value) (e : Ent) : Prop := ∃ k u, v = .agg #[k, .int .i64 e.seq, .bool e.dead, u] ∧ BytL w lo k e.key ∧ BytL w lo u e.val

/-- what a row of the call's own holds: bytes in new blocks that may be written to, none of them the row's. -/
def freshL (w : World) (base : Nat) (v : Value) (i : Nat) : Prop := base ≤ i ∧ v.ownBlock ≠ some i ∧ Loose w i
theorem freshL_push {wr w1 w2 : World} {base : Nat} {v v' : Value} {o : Obj} (hb1 : Below wr.heap.size wr w1) (hg : (w1.alloc o).grownBy w2 v.ownBlock) {i : Nat} (h : freshL wr base v i) (hn : v'.ownBlock ≠ some i) : freshL w2 base v' i :=
  ⟨h.1, hn, ((h.2.2.below hb1).alloc o).grown hg h.2.1⟩
theorem new_push {wr w1 w2 : World} {base : Nat} {v v' : Value} {o : Obj} (hbase : base ≤ wr.heap.size) (hv : ∀ g, v.ownBlock = some g → g < wr.heap.size) (hg : (w1.alloc o).grownBy w2 v.ownBlock) {i : Nat} (h : wr.heap.size ≤ i ∧ Loose w1 i) (hn : v'.ownBlock ≠ some i) : freshL w2 base v' i :=
  ⟨by omega, hn, (h.2.alloc o).grown hg (fun e => by have := hv i e; omega)⟩
def FreshE (w : World) (base : Nat) (v : Value) (ys : List Value) (es : List Ent) : Prop := EntCells w (freshL w base v) ys es
theorem FreshE.below {w w' : World} {base : Nat} {v : Value} {ys : List Value} {es : List Ent} (h : FreshE w base v ys es) (hb : Below w.heap.size w w') : FreshE w' base v ys es :=
  EntCells.mono (S := freshL w base v) (EntCells.below (S := freshL w base v) h hb) fun _ hi => ⟨hi.1, hi.2.1, hi.2.2.below hb⟩
theorem FreshE.push {base : Nat} {wr w1 w2 : World} {v v' k u : Value} {n : Nat} {ys : List Value} {es : List Ent} {e : Ent} {o : Obj} {t : TypeId} (hown : wr.ownsRow base t 4 v n ys) (hys : FreshE wr base v ys es) (hb1 : Below wr.heap.size wr w1)
    (hk : BytL w1 wr.heap.size k e.key) (hu : BytL w1 wr.heap.size u e.val) (hbase : base ≤ wr.heap.size) (hg : (w1.alloc o).grownBy w2 v.ownBlock) (hat : v'.ownBlock = v.ownBlock ∨ v'.ownBlock = some (w1.alloc o).heap.size) :
    FreshE w2 base v' (ys ++ [k, .int .i64 e.seq, .bool e.dead, u]) (es ++ [e]) := by
  have hal : Below w1.heap.size w1 (w1.alloc o) := (Below.refl _ _).alloc (Nat.le_refl _) _
  have hz := hb1.size
  have old : ∀ x bs, Byt wr (freshL wr base v) x bs → Byt w2 (freshL w2 base v') x bs := fun x bs h =>
    ((h.below hb1).below hal).push hg hat (fun i _ hs => hs.2.1) (fun i _ hs hn => freshL_push hb1 hg hs hn)
  have new : ∀ x bs, BytL w1 wr.heap.size x bs → Byt w2 (freshL w2 base v') x bs := fun x bs h =>
    (Byt.below (S := fun i => wr.heap.size ≤ i ∧ Loose w1 i) h hal).push hg hat (fun i _ hs e => by have := hown.lt i e; omega) (fun i _ hs hn => new_push hbase (fun g hg => (hown.lt g hg).2) hg hs hn)
  exact (EntCells.imp (S := freshL wr base v) hys old).append (EntCells.one (new _ _ hk) (new _ _ hu))
def OwnE (w : World) (base : Nat) (v : Value) (es : List Ent) : Prop := ∃ ys, w.ownsRow base 26 4 v es.length ys ∧ FreshE w base v ys es
theorem OwnE.nil (w : World) (base : Nat) : OwnE w base (.slice none 0 0) [] := ⟨[], World.ownsRow_nil _ _ _ _, trivial⟩
def FreshP (w : World) (base : Nat) (v : Value) (ys : List Value) (es : List Pr) : Prop := PrCells w (freshL w base v) ys es
theorem FreshP.below {w w' : World} {base : Nat} {v : Value} {ys : List Value} {es : List Pr} (h : FreshP w base v ys es) (hb : Below w.heap.size w w') : FreshP w' base v ys es :=
  PrCells.imp (S := freshL w base v) h fun _ _ hx => (hx.below hb).mono fun _ hi => ⟨hi.1, hi.2.1, hi.2.2.below hb⟩
theorem FreshP.push {base : Nat} {wr w1 w2 : World} {v v' k u : Value} {n : Nat} {ys : List Value} {es : List Pr} {e : Pr} {o : Obj} {t : TypeId} (hown : wr.ownsRow base t 2 v n ys) (hys : FreshP wr base v ys es) (hb1 : Below wr.heap.size wr w1)
    (hk : BytL w1 wr.heap.size k e.key) (hu : BytL w1 wr.heap.size u e.val) (hbase : base ≤ wr.heap.size) (hg : (w1.alloc o).grownBy w2 v.ownBlock) (hat : v'.ownBlock = v.ownBlock ∨ v'.ownBlock = some (w1.alloc o).heap.size) :
    FreshP w2 base v' (ys ++ [k, u]) (es ++ [e]) := by
  have hal : Below w1.heap.size w1 (w1.alloc o) := (Below.refl _ _).alloc (Nat.le_refl _) _
  have hz := hb1.size
  have old : ∀ x bs, Byt wr (freshL wr base v) x bs → Byt w2 (freshL w2 base v') x bs := fun x bs h =>
    ((h.below hb1).below hal).push hg hat (fun i _ hs => hs.2.1) (fun i _ hs hn => freshL_push hb1 hg hs hn)
  have new : ∀ x bs, BytL w1 wr.heap.size x bs → Byt w2 (freshL w2 base v') x bs := fun x bs h =>
    (Byt.below (S := fun i => wr.heap.size ≤ i ∧ Loose w1 i) h hal).push hg hat (fun i _ hs e => by have := hown.lt i e; omega) (fun i _ hs hn => new_push hbase (fun g hg => (hown.lt g hg).2) hg hs hn)
  exact (PrCells.imp (S := freshL wr base v) hys old).append (PrCells.one (new _ _ hk) (new _ _ hu))
def OwnP (w : World) (base : Nat) (v : Value) (es : List Pr) : Prop := ∃ ys, w.ownsRow base 65 2 v es.length ys ∧ FreshP w base v ys es
theorem OwnP.nil (w : World) (base : Nat) : OwnP w base (.slice none 0 0) [] := ⟨[], World.ownsRow_nil _ _ _ _, trivial⟩
/-- Merge's: besides none of the heap's blocks. -/
def outL (w : World) (base : Nat) (v sl : Value) (i : Nat) : Prop := outT base v sl i ∧ Loose w i
def OutE (w : World) (base : Nat) (v sl : Value) (ys : List Value) (es : List Ent) : Prop := EntCells w (outL w base v sl) ys es
theorem OutE.below {w w' : World} {base : Nat} {v sl : Value} {ys : List Value} {es : List Ent} (h : OutE w base v sl ys es) (hb : Below w.heap.size w w') : OutE w' base v sl ys es :=
  EntCells.mono (S := outL w base v sl) (EntCells.below (S := outL w base v sl) h hb) fun _ hi => ⟨hi.1, hi.2.below hb⟩
theorem OutE.toFresh {w : World} {base : Nat} {v sl : Value} {ys : List Value} {es : List Ent} (h : OutE w base v sl ys es) : FreshE w base v ys es :=
  EntCells.mono (S := outL w base v sl) h fun _ hi => ⟨Nat.le_of_lt hi.1.1, hi.1.2.1, hi.2⟩
theorem OutE.popped {w w1 : World} {B : Nat} {v sl sl1 : Value} {ys : List Value} {es : List Ent} (h : OutE w B v sl ys es) (ho : Only (fun i => i = B ∨ sl.ownBlock = some i) w w1) (hs : sl1.ownBlock = sl.ownBlock) : OutE w1 B v sl1 ys es := by
  have hd : ∀ i, outL w B v sl i → ¬ (i = B ∨ sl.ownBlock = some i) := fun i ht t => t.elim (fun e => by have := ht.1.1; omega) (fun e => ht.1.2.2 e)
  exact EntCells.mono (S := outL w B v sl) (EntCells.only (T := outL w B v sl) h ho (fun i _ ht => hd i ht)) fun i ht => ⟨⟨ht.1.1, ht.1.2.1, hs ▸ ht.1.2.2⟩, ht.2.only ho (hd i ht)⟩
theorem OutE.push {B : Nat} {wr w1 w2 : World} {v v' sl k u : Value} {n : Nat} {ys : List Value} {es : List Ent} {e : Ent} {o : Obj} {t : TypeId} (hown : wr.ownsRow B t 4 v n ys) (hys : OutE wr B v sl ys es) (hb1 : Below wr.heap.size wr w1)
    (hk : BytL w1 wr.heap.size k e.key) (hu : BytL w1 wr.heap.size u e.val) (hB : B < wr.heap.size) (hsl : ∀ g, sl.ownBlock = some g → g < wr.heap.size) (hg : (w1.alloc o).grownBy w2 v.ownBlock) (hat : v'.ownBlock = v.ownBlock ∨ v'.ownBlock = some (w1.alloc o).heap.size) :
    OutE w2 B v' sl (ys ++ [k, .int .i64 e.seq, .bool e.dead, u]) (es ++ [e]) := by
  have hal : Below w1.heap.size w1 (w1.alloc o) := (Below.refl _ _).alloc (Nat.le_refl _) _
  have hz := hb1.size
  have old : ∀ x bs, Byt wr (outL wr B v sl) x bs → Byt w2 (outL w2 B v' sl) x bs := fun x bs h =>
    ((h.below hb1).below hal).push hg hat (fun i _ hs => hs.1.2.1) (fun i _ hs hn => ⟨⟨hs.1.1, hn, hs.1.2.2⟩, ((hs.2.below hb1).alloc o).grown hg hs.1.2.1⟩)
  have new : ∀ x bs, BytL w1 wr.heap.size x bs → Byt w2 (outL w2 B v' sl) x bs := fun x bs h =>
    (Byt.below (S := fun i => wr.heap.size ≤ i ∧ Loose w1 i) h hal).push hg hat (fun i _ hs e => by have := hown.lt i e; omega)
      (fun i _ hs hn => ⟨⟨by have := hs.1; omega, hn, fun e => by have := hsl i e; have := hs.1; omega⟩, (hs.2.alloc o).grown hg (fun e => by have := hown.lt i e; have := hs.1; omega)⟩)
  exact (EntCells.imp (S := outL wr B v sl) hys old).append (EntCells.one (new _ _ hk) (new _ _ hu))
theorem OutE.pushed {w4 w5 : World} {B : Nat} {v sl1 sl2 : Value} {cs : List Value} {os : List Ent} (h : OutE w4 B v sl1 cs os) (ho : Only (fun i => i = B ∨ sl1.ownBlock = some i) w4 w5)
    (hs : sl2.ownBlock = sl1.ownBlock ∨ ∃ g, sl2.ownBlock = some g ∧ w4.heap.size ≤ g) : OutE w5 B v sl2 cs os := by
  have hd : ∀ i, outL w4 B v sl1 i → ¬ (i = B ∨ sl1.ownBlock = some i) := fun i ht t => t.elim (fun e => by have := ht.1.1; omega) (fun e => ht.1.2.2 e)
  refine EntCells.mono (S := outL w4 B v sl1) (EntCells.only (T := outL w4 B v sl1) h ho (fun i _ ht => hd i ht)) fun i ht => ⟨⟨ht.1.1, ht.1.2.1, fun e => ?_⟩, ht.2.only ho (hd i ht)⟩
  rcases hs with hs | ⟨g, hg, hlt⟩
  · exact ht.1.2.2 (hs ▸ e)
  · rw [hg] at e
    injection e with e
    have := ht.2.lt
    omega
end Go.Proofs.Ytelbidknefkaiaa
