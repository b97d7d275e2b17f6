/-
Thin: what it answers may be written to.
-/
import Derived.Test.YtacdhkkelkplnaaQPRuns4
import Derived.Test.YtacdhkkelkplnaaQPRuns6
section
namespace Go.Proofs.Ytacdhkkelkplnaa
open Go.RowKit
def Loose (w : World) (i : Nat) : Prop := ∃ cs, w.heap[i]? = some (.cells cs 5 (0, 0))
theorem Loose.lt {w : World} {i : Nat} (h : Loose w i) : i < w.heap.size := by
  obtain ⟨cs, h⟩ := h
  exact (Array.getElem?_eq_some_iff.1 h).1
theorem Loose.of_eq {w w' : World} {i : Nat} (h : Loose w i) (e : w'.heap[i]? = w.heap[i]?) : Loose w' i := by
  obtain ⟨cs, h⟩ := h
  exact ⟨cs, e.trans h⟩
theorem Loose.below {w w' : World} {i : Nat} (h : Loose w i) (hb : Below w.heap.size w w') : Loose w' i := h.of_eq (hb.block i h.lt)
theorem Loose.alloc {w : World} {i : Nat} (h : Loose w i) (o : Obj) : Loose (w.alloc o) i := h.below ((Below.refl _ _).alloc (Nat.le_refl _) _)
theorem Loose.grown {w w' : World} {i : Nat} {g : Option Nat} (h : Loose w i) (hg : w.grownBy w' g) (hn : g ≠ some i) : Loose w' i := h.of_eq (hg.block i h.lt (fun e => hn e.symm))
theorem Loose.only {w w' : World} {S : Nat → Prop} {i : Nat} (h : Loose w i) (ho : Only S w w') (hn : ¬ S i) : Loose w' i := h.of_eq (ho.block i h.lt hn)
/-- bytes in new blocks that may be written to. -/
def BytL (w : World) (lo : Nat) (v : Value) (bs : List UInt8) : Prop := Byt w (fun i => lo ≤ i ∧ Loose w i) v bs
theorem BytL.byt {w : World} {lo : Nat} {v : Value} {bs : List UInt8} (h : BytL w lo v bs) : Byt w (fun i => lo ≤ i) v bs := Byt.mono (S := fun i => lo ≤ i ∧ Loose w i) h fun _ hi => hi.1
theorem BytL.below {w w' : World} {lo : Nat} {v : Value} {bs : List UInt8} (h : BytL w lo v bs) (hb : Below w.heap.size w w') : BytL w' lo v bs := Byt.mono (S := fun i => lo ≤ i ∧ Loose w i) (Byt.below (S := fun i => lo ≤ i ∧ Loose w i) h hb) fun _ hi => ⟨hi.1, hi.2.below hb⟩
theorem BytL.mono {w : World} {lo lo' : Nat} {v : Value} {bs : List UInt8} (h : BytL w lo v bs) (hl : lo' ≤ lo) : BytL w lo' v bs := Byt.mono (S := fun i => lo ≤ i ∧ Loose w i) h fun _ hi => ⟨by omega, hi.2⟩
theorem BytL.nil (w : World) (lo : Nat) : BytL w lo (.slice none 0 0) [] := Byt.nil _ _
theorem BytL.of_own {w : World} {base : Nat} {v : Value} {bs : List UInt8} (h : w.ownsRow base 5 1 v bs.length (bs.map bcell)) (hl : bs.length ≤ 140737488355328) : BytL w base v bs := by
  rcases h.2 with ⟨rfl, h0⟩ | ⟨g, cap, cur, rfl, hbg, hh, hcap, hcm, _⟩
  · have : bs = [] := List.eq_nil_of_length_eq_zero h0
    subst this
    exact BytL.nil _ _
  · have hlt : g < w.heap.size := (Array.getElem?_eq_some_iff.1 hh).1
    refine ⟨_, _, rfl, hcap, by unfold maxLen at hcm; omega, hl, by simp, fun _ => ⟨g, 0, rfl, ⟨hbg, _, hh⟩, hlt, fun j u hu => ?_⟩⟩
    have := h.cells (g := g) rfl j u hu
    rwa [Addr.add_lit] at this
def EntVL (w : World) (lo : Nat) (v : Value) (e : Ent) : Prop := ∃ k u, v = .agg #[k, .int .i64 e.seq, .bool e.dead, u] ∧ BytL w lo k e.key ∧ BytL w lo u e.val
/-- what a row of the call's own holds: bytes in new blocks that may be written to, none of them the row's. -/
def freshL (w : World) (base : Nat) (v : Value) (i : Nat) : Prop := base ≤ i ∧ v.ownBlock ≠ some i ∧ Loose w i
theorem freshL_push {wr w1 w2 : World} {base : Nat} {v v' : Value} {o : Obj} (hb1 : Below wr.heap.size wr w1) (hg : (w1.alloc o).grownBy w2 v.ownBlock) {i : Nat} (h : freshL wr base v i) (hn : v'.ownBlock ≠ some i) : freshL w2 base v' i :=
  ⟨h.1, hn, ((h.2.2.below hb1).alloc o).grown hg h.2.1⟩
theorem new_push {wr w1 w2 : World} {base : Nat} {v v' : Value} {o : Obj} (hbase : base ≤ wr.heap.size) (hv : ∀ g, v.ownBlock = some g → g < wr.heap.size) (hg : (w1.alloc o).grownBy w2 v.ownBlock) {i : Nat} (h : wr.heap.size ≤ i ∧ Loose w1 i) (hn : v'.ownBlock ≠ some i) : freshL w2 base v' i :=
  ⟨by omega, hn, (h.2.alloc o).grown hg (fun e => by have := hv i e; omega)⟩
def FreshE (w : World) (base : Nat) (v : Value) (ys : List Value) (es : List Ent) : Prop := EntCells w (freshL w base v) ys es
theorem FreshE.below {w w' : World} {base : Nat} {v : Value} {ys : List Value} {es : List Ent} (h : FreshE w base v ys es) (hb : Below w.heap.size w w') : FreshE w' base v ys es :=
  EntCells.mono (S := freshL w base v) (EntCells.below (S := freshL w base v) h hb) fun _ hi => ⟨hi.1, hi.2.1, hi.2.2.below hb⟩
theorem FreshE.push {base : Nat} {wr w1 w2 : World} {v v' k u : Value} {n : Nat} {ys : List Value} {es : List Ent} {e : Ent} {o : Obj} {t : TypeId} (hown : wr.ownsRow base t 4 v n ys) (hys : FreshE wr base v ys es) (hb1 : Below wr.heap.size wr w1)
    (hk : BytL w1 wr.heap.size k e.key) (hu : BytL w1 wr.heap.size u e.val) (hbase : base ≤ wr.heap.size) (hg : (w1.alloc o).grownBy w2 v.ownBlock) (hat : v'.ownBlock = v.ownBlock ∨ v'.ownBlock = some (w1.alloc o).heap.size) :
    FreshE w2 base v' (ys ++ [k, .int .i64 e.seq, .bool e.dead, u]) (es ++ [e]) := by
  have hal : Below w1.heap.size w1 (w1.alloc o) := (Below.refl _ _).alloc (Nat.le_refl _) _
  have hz := hb1.size
  have old : ∀ x bs, Byt wr (freshL wr base v) x bs → Byt w2 (freshL w2 base v') x bs := fun x bs h =>
    ((h.below hb1).below hal).push hg hat (fun i _ hs => hs.2.1) (fun i _ hs hn => freshL_push hb1 hg hs hn)
  have new : ∀ x bs, BytL w1 wr.heap.size x bs → Byt w2 (freshL w2 base v') x bs := fun x bs h =>
    (Byt.below (S := fun i => wr.heap.size ≤ i ∧ Loose w1 i) h hal).push hg hat (fun i _ hs e => by have := hown.lt i e; omega) (fun i _ hs hn => new_push hbase (fun g hg => (hown.lt g hg).2) hg hs hn)
  exact (EntCells.imp (S := freshL wr base v) hys old).append (EntCells.one (new _ _ hk) (new _ _ hu))
def OwnE (w : World) (base : Nat) (v : Value) (es : List Ent) : Prop := ∃ ys, w.ownsRow base 46 4 v es.length ys ∧ FreshE w base v ys es
theorem OwnE.nil (w : World) (base : Nat) : OwnE w base (.slice none 0 0) [] := ⟨[], World.ownsRow_nil _ _ _ _, trivial⟩
def FreshP (w : World) (base : Nat) (v : Value) (ys : List Value) (es : List Pr) : Prop := PrCells w (freshL w base v) ys es
theorem FreshP.below {w w' : World} {base : Nat} {v : Value} {ys : List Value} {es : List Pr} (h : FreshP w base v ys es) (hb : Below w.heap.size w w') : FreshP w' base v ys es :=
  PrCells.imp (S := freshL w base v) h fun _ _ hx => (hx.below hb).mono fun _ hi => ⟨hi.1, hi.2.1, hi.2.2.below hb⟩
theorem FreshP.push {base : Nat} {wr w1 w2 : World} {v v' k u : Value} {n : Nat} {ys : List Value} {es : List Pr} {e : Pr} {o : Obj} {t : TypeId} (hown : wr.ownsRow base t 2 v n ys) (hys : FreshP wr base v ys es) (hb1 : Below wr.heap.size wr w1)
    (hk : BytL w1 wr.heap.size k e.key) (hu : BytL w1 wr.heap.size u e.val) (hbase : base ≤ wr.heap.size) (hg : (w1.alloc o).grownBy w2 v.ownBlock) (hat : v'.ownBlock = v.ownBlock ∨ v'.ownBlock = some (w1.alloc o).heap.size) :
    FreshP w2 base v' (ys ++ [k, u]) (es ++ [e]) := by
  have hal : Below w1.heap.size w1 (w1.alloc o) := (Below.refl _ _).alloc (Nat.le_refl _) _
  have hz := hb1.size
  have old : ∀ x bs, Byt wr (freshL wr base v) x bs → Byt w2 (freshL w2 base v') x bs := fun x bs h =>
    ((h.below hb1).below hal).push hg hat (fun i _ hs => hs.2.1) (fun i _ hs hn => freshL_push hb1 hg hs hn)
  have new : ∀ x bs, BytL w1 wr.heap.size x bs → Byt w2 (freshL w2 base v') x bs := fun x bs h =>
    (Byt.below (S := fun i => wr.heap.size ≤ i ∧ Loose w1 i) h hal).push hg hat (fun i _ hs e => by have := hown.lt i e; omega) (fun i _ hs hn => new_push hbase (fun g hg => (hown.lt g hg).2) hg hs hn)
  exact (PrCells.imp (S := freshL wr base v) hys old).append (PrCells.one (new _ _ hk) (new _ _ hu))
def OwnP (w : World) (base : Nat) (v : Value) (es : List Pr) : Prop := ∃ ys, w.ownsRow base 75 2 v es.length ys ∧ FreshP w base v ys es
theorem OwnP.nil (w : World) (base : Nat) : OwnP w base (.slice none 0 0) [] := ⟨[], World.ownsRow_nil _ _ _ _, trivial⟩
/-- Merge's: besides none of the heap's blocks. -/
def outL (w : World) (base : Nat) (v sl : Value) (i : Nat) : Prop := outT base v sl i ∧ Loose w i
def OutE (w : World) (base : Nat) (v sl : Value) (ys : List Value) (es : List Ent) : Prop := EntCells w (outL w base v sl) ys es
theorem OutE.below {w w' : World} {base : Nat} {v sl : Value} {ys : List Value} {es : List Ent} (h : OutE w base v sl ys es) (hb : Below w.heap.size w w') : OutE w' base v sl ys es :=
  EntCells.mono (S := outL w base v sl) (EntCells.below (S := outL w base v sl) h hb) fun _ hi => ⟨hi.1, hi.2.below hb⟩
theorem OutE.toFresh {w : World} {base : Nat} {v sl : Value} {ys : List Value} {es : List Ent} (h : OutE w base v sl ys es) : FreshE w base v ys es :=
  EntCells.mono (S := outL w base v sl) h fun _ hi => ⟨Nat.le_of_lt hi.1.1, hi.1.2.1, hi.2⟩
theorem OutE.popped {w w1 : World} {B : Nat} {v sl sl1 : Value} {ys : List Value} {es : List Ent} (h : OutE w B v sl ys es) (ho : Only (fun i => i = B ∨ sl.ownBlock = some i) w w1) (hs : sl1.ownBlock = sl.ownBlock) : OutE w1 B v sl1 ys es := by
  have hd : ∀ i, outL w B v sl i → ¬ (i = B ∨ sl.ownBlock = some i) := fun i ht t => t.elim (fun e => by have := ht.1.1; omega) (fun e => ht.1.2.2 e)
  exact EntCells.mono (S := outL w B v sl) (EntCells.only (T := outL w B v sl) h ho (fun i _ ht => hd i ht)) fun i ht => ⟨⟨ht.1.1, ht.1.2.1, hs ▸ ht.1.2.2⟩, ht.2.only ho (hd i ht)⟩
theorem OutE.push {B : Nat} {wr w1 w2 : World} {v v' sl k u : Value} {n : Nat} {ys : List Value} {es : List Ent} {e : Ent} {o : Obj} {t : TypeId} (hown : wr.ownsRow B t 4 v n ys) (hys : OutE wr B v sl ys es) (hb1 : Below wr.heap.size wr w1)
    (hk : BytL w1 wr.heap.size k e.key) (hu : BytL w1 wr.heap.size u e.val) (hB : B < wr.heap.size) (hsl : ∀ g, sl.ownBlock = some g → g < wr.heap.size) (hg : (w1.alloc o).grownBy w2 v.ownBlock) (hat : v'.ownBlock = v.ownBlock ∨ v'.ownBlock = some (w1.alloc o).heap.size) :
    OutE w2 B v' sl (ys ++ [k, .int .i64 e.seq, .bool e.dead, u]) (es ++ [e]) := by
  have hal : Below w1.heap.size w1 (w1.alloc o) := (Below.refl _ _).alloc (Nat.le_refl _) _
  have hz := hb1.size
  have old : ∀ x bs, Byt wr (outL wr B v sl) x bs → Byt w2 (outL w2 B v' sl) x bs := fun x bs h =>
    ((h.below hb1).below hal).push hg hat (fun i _ hs => hs.1.2.1) (fun i _ hs hn => ⟨⟨hs.1.1, hn, hs.1.2.2⟩, ((hs.2.below hb1).alloc o).grown hg hs.1.2.1⟩)
  have new : ∀ x bs, BytL w1 wr.heap.size x bs → Byt w2 (outL w2 B v' sl) x bs := fun x bs h =>
    (Byt.below (S := fun i => wr.heap.size ≤ i ∧ Loose w1 i) h hal).push hg hat (fun i _ hs e => by have := hown.lt i e; omega)
      (fun i _ hs hn => ⟨⟨by have := hs.1; omega, hn, fun e => by have := hsl i e; have := hs.1; omega⟩, (hs.2.alloc o).grown hg (fun e => by have := hown.lt i e; have := hs.1; omega)⟩)
  exact (EntCells.imp (S := outL wr B v sl) hys old).append (EntCells.one (new _ _ hk) (new _ _ hu))
theorem OutE.pushed {w4 w5 : World} {B : Nat} {v sl1 sl2 : Value} {cs : List Value} {os : List Ent} (h : OutE w4 B v sl1 cs os) (ho : Only (fun i => i = B ∨ sl1.ownBlock = some i) w4 w5)
    (hs : sl2.ownBlock = sl1.ownBlock ∨ ∃ g, sl2.ownBlock = some g ∧ w4.heap.size ≤ g) : OutE w5 B v sl2 cs os := by
  have hd : ∀ i, outL w4 B v sl1 i → ¬ (i = B ∨ sl1.ownBlock = some i) := fun i ht t => t.elim (fun e => by have := ht.1.1; omega) (fun e => ht.1.2.2 e)
  refine EntCells.mono (S := outL w4 B v sl1) (EntCells.only (T := outL w4 B v sl1) h ho (fun i _ ht => hd i ht)) fun i ht => ⟨⟨ht.1.1, ht.1.2.1, fun e => ?_⟩, ht.2.only ho (hd i ht)⟩
  rcases hs with hs | ⟨g, hg, hlt⟩
  · exact ht.1.2.2 (hs ▸ e)
  · rw [hg] at e
    injection e with e
    have := ht.2.lt
    omega
end Go.Proofs.Ytacdhkkelkplnaa
end
section
namespace Go.Proofs.Ytacdhkkelkplnaa
open Go.RowKit Go.BigFrame
attribute [local go_sem ↓] Go.wp_at_zero Go.wp_at_succ
/-- blocks of T alone have turned, and bytes there are still xs many bytes. -/
structure Spoil (T : Nat → Prop) (w w' : World) : Prop where
  only : Only T w w'
  byt : ∀ v bs, Byt w T v bs → ∃ bs' : List UInt8, bs'.length = bs.length ∧ Byt w' T v bs'
  loose : ∀ i, Loose w i → Loose w' i
theorem Spoil.refl (T : Nat → Prop) (w : World) : Spoil T w w := ⟨Only.refl _ _, fun _ bs h => ⟨bs, rfl, h⟩, fun _ h => h⟩
theorem Spoil.trans {T : Nat → Prop} {a b c : World} (h : Spoil T a b) (k : Spoil T b c) : Spoil T a c :=
  ⟨h.only.trans k.only, fun v bs hb => by
    obtain ⟨b1, l1, h1⟩ := h.byt v bs hb
    obtain ⟨b2, l2, h2⟩ := k.byt v b1 h1
    exact ⟨b2, by omega, h2⟩, fun i hi => k.loose i (h.loose i hi)⟩
theorem Spoil.drew {T : Nat → Prop} {w : World} : Spoil T w w.drew := ⟨(Only.refl _ _).drew, fun _ bs h => ⟨bs, rfl, h⟩, fun _ h => h⟩
theorem Spoil.store {T : Nat → Prop} {w : World} {b p : Nat} (hT : T b) (hL : Loose w b) (c : UInt8) : Spoil T w (w.setCell ⟨b, p, none⟩ (bcell c)) := by
  obtain ⟨cs, hh⟩ := hL
  have hs := heap_setCell_same w b p cs _ (bcell c) hh
  refine ⟨(only_set w b p (bcell c)).mono fun i hi => hi ▸ hT, fun v bs h => ?_, fun i hi => ?_⟩
  · obtain ⟨A, ca, rfl, h1, h2, h3, hr⟩ := h
    rcases Nat.eq_zero_or_pos bs.length with h0 | h0
    · have : bs = [] := List.eq_nil_of_length_eq_zero h0
      subst this
      exact ⟨[], rfl, A, ca, rfl, h1, h2, h3, Row.nil _ _ _ _⟩
    · obtain ⟨b', o, rfl, hS, hlt, hc⟩ := hr.2 h0
      by_cases hbb : b' = b
      · subst hbb
        refine ⟨if o ≤ p then bs.set (p - o) c else bs, by split <;> simp, some ⟨b', o, none⟩, ca, by split <;> simp, by split <;> simpa using h1, h2, by split <;> simpa using h3, by split <;> simp, fun _ => ⟨b', o, rfl, hS, by simpa [World.setCell] using hlt, fun j u hu => ?_⟩⟩
        rw [cell_of_row _ _ _ _ _ _ hs]
        have key : ∀ j u, (bs.map bcell)[j]? = some u → cs[o + j]? = some u := fun j u hu => by
          have := hc j u hu
          rwa [cell_of_row _ _ _ _ _ _ hh] at this
        by_cases hop : o ≤ p
        · rw [if_pos hop, List.map_set, List.getElem?_set] at hu
          by_cases hj : p - o = j
          · rw [if_pos hj] at hu
            split at hu
            · rename_i hjl
              simp only [Option.some.injEq] at hu
              have hjl' : j < bs.length := by simpa [hj] using hjl
              obtain ⟨u0, hu0⟩ : ∃ u, (bs.map bcell)[j]? = some u := ⟨_, List.getElem?_eq_getElem (by simpa using hjl')⟩
              have h5 := (Array.getElem?_eq_some_iff.1 (key j u0 hu0)).1
              rw [show o + j = p by omega] at h5 ⊢
              rw [Array.getElem?_setIfInBounds_self, if_pos h5, hu]
            · cases hu
          · rw [if_neg hj] at hu
            rw [Array.getElem?_setIfInBounds_ne (by omega)]
            exact key j u hu
        · rw [if_neg hop] at hu
          rw [Array.getElem?_setIfInBounds_ne (by omega)]
          exact key j u hu
      · refine ⟨bs, rfl, some ⟨b', o, none⟩, ca, rfl, h1, h2, h3, hr.1, fun _ => ⟨b', o, rfl, hS, by simpa [World.setCell] using hlt, fun j u hu => ?_⟩⟩
        rw [World.cell?_of_block (w' := w.setCell ⟨b, p, none⟩ (bcell c)) (w := w) (a := ⟨b', o + j, none⟩) (heap_setCell_other w ⟨b, p, none⟩ b' _ hbb)]
        exact hc j u hu
  · by_cases hib : i = b
    · subst hib; exact ⟨_, hs⟩
    · exact hi.of_eq (heap_setCell_other w ⟨b, p, none⟩ i _ hib)
theorem u8_next (c : UInt8) : Value.int .u8 (((c.toNat : Int) + 1) % 256) = bcell (c + 1) := by
  unfold bcell
  have : ((c.toNat : Int) + 1) % 256 = ((c + 1).toNat : Int) := by simp [UInt8.toNat_add]
  rw [this]
theorem Loose.frozen {w : World} {b p : Nat} (h : Loose w b) : w.frozen? ⟨b, p, none⟩ = false := by
  obtain ⟨cs, h⟩ := h
  exact frozen_of_row w b p cs _ h
end Go.Proofs.Ytacdhkkelkplnaa
end
section
namespace Go.Proofs.Ytacdhkkelkplnaa
open Go.RowKit
attribute [local go_sem ↓] Go.wp_at_zero Go.wp_at_succ
set_option maxHeartbeats 2000000 in
/-- slices.Clone at []byte: new memory, or nil -/
theorem bcloneL_any (S : Nat → Prop) (v : Value) (bs : List UInt8) (w : World) (h : Byt w S v bs) :
    Calls Try.prog 66 #[v] w fun r w' => ∃ v', r = .returned v' ∧ BytL w' w.heap.size v' bs ∧ Below w.heap.size w w' := by
  have hl := h.len
  have h' := Lib.hid h
  obtain ⟨A, c, rfl, _⟩ := h
  have q22 : ∀ (w : World) (a : Option Addr) (n c n' c' : Nat), (binOp .eql 44 (.slice a n c) (.slice none n' c')).run Try.prog w = .ok (.bool a.isNone) w := fun w a n c n' c' => Lib.run_eql_slice_nil w _ _ a n c n' c' Try.underlying44
  rcases A with _ | ad
  · have h0 : bs = [] := by
      obtain ⟨A, c', e, _, _, _, hr⟩ := h'.out
      rcases Nat.eq_zero_or_pos bs.length with h0 | h0
      · exact List.eq_nil_of_length_eq_zero h0
      · injection e with e1 _ _
        subst e1
        obtain ⟨b, o, h, _⟩ := hr.2 h0
        cases h
    subst h0
    go_enter Try.func66, Try.ntmps66
    go_wp2
    go_ret
    exact ⟨_, rfl, BytL.nil _ _, Below.refl _ _⟩
  · have hb1 := (Below.refl w.heap.size w).alloc (Nat.le_refl _) (.cells #[] 5)
    have HB := Lib.hid hb1
    clear hb1
    go_enter Try.func66, Try.ntmps66
    go_wp2_with (at_builtin; refine wpList_append_byt rfl _ _ rfl w.heap.size _ _ rfl rfl S bs (lit0 w) (h'.out.below HB.out) HB.out.size ?_; intro v' w1 hown hgrow)
    go_ret
    exact ⟨_, rfl, BytL.of_own hown hl, HB.out.grown hgrow HB.out.size (fun j e => by cases e; exact Nat.le_refl _)⟩
theorem clone_endL (w w2 : World) (e : Ent) (k u a b c d : Value) (hb : Below w.heap.size w w2) (hk : BytL w2 (w.heap.size + 2) k e.key) (hu : BytL w2 (w.heap.size + 2) u e.val) (x y : Value) :
    ∃ v', Ending.returned (.agg #[k, .int .i64 e.seq, .bool e.dead, u]) = .returned v' ∧
      EntVL ((((((w2.setCell ⟨w.heap.size, 0, none⟩ x).setCell ⟨w.heap.size, 3, none⟩ y).setCell ⟨w.heap.size + 1, 0, none⟩ a).setCell ⟨w.heap.size + 1, 1, none⟩ b).setCell ⟨w.heap.size + 1, 2, none⟩ c).setCell ⟨w.heap.size + 1, 3, none⟩ d) w.heap.size v' e ∧
      Below w.heap.size w ((((((w2.setCell ⟨w.heap.size, 0, none⟩ x).setCell ⟨w.heap.size, 3, none⟩ y).setCell ⟨w.heap.size + 1, 0, none⟩ a).setCell ⟨w.heap.size + 1, 1, none⟩ b).setCell ⟨w.heap.size + 1, 2, none⟩ c).setCell ⟨w.heap.size + 1, 3, none⟩ d) := by
  have ho : Only (fun i => i = w.heap.size ∨ i = w.heap.size + 1) w2 ((((((w2.setCell ⟨w.heap.size, 0, none⟩ x).setCell ⟨w.heap.size, 3, none⟩ y).setCell ⟨w.heap.size + 1, 0, none⟩ a).setCell ⟨w.heap.size + 1, 1, none⟩ b).setCell ⟨w.heap.size + 1, 2, none⟩ c).setCell ⟨w.heap.size + 1, 3, none⟩ d) :=
    ((((((Only.refl _ w2).setCell (p := ⟨w.heap.size, 0, none⟩) (.inl rfl) _).setCell (p := ⟨w.heap.size, 3, none⟩) (.inl rfl) _).setCell (p := ⟨w.heap.size + 1, 0, none⟩) (.inr rfl) _).setCell (p := ⟨w.heap.size + 1, 1, none⟩) (.inr rfl) _).setCell (p := ⟨w.heap.size + 1, 2, none⟩) (.inr rfl) _).setCell (p := ⟨w.heap.size + 1, 3, none⟩) (.inr rfl) _
  have go : ∀ v bs, BytL w2 (w.heap.size + 2) v bs → BytL _ w.heap.size v bs := fun v bs h =>
    Byt.mono (S := fun i => w.heap.size + 2 ≤ i ∧ Loose w2 i) (Byt.only (T := fun i => w.heap.size + 2 ≤ i ∧ Loose w2 i) h ho (fun i _ h => by have := h.1; omega)) fun i hi => ⟨by have := hi.1; omega, hi.2.only ho (by have := hi.1; omega)⟩
  exact ⟨_, rfl, ⟨k, u, rfl, go _ _ hk, go _ _ hu⟩, hb.trans (ho.below hb.size (fun i h => by omega))⟩
set_option maxRecDepth 100000 in
set_option maxHeartbeats 4000000 in
theorem ecloneL_any (S : Nat → Prop) (v : Value) (e : Ent) (w : World) (hv : EntV w S v e) :
    Calls Try.prog 51 #[v] w fun r w' => ∃ v', r = .returned v' ∧ EntVL w' w.heap.size v' e ∧ Below w.heap.size w w' := by
  obtain ⟨k, u, rfl, h1, h2⟩ := hv
  have hA : Below w.heap.size w ((w.alloc (.cells #[k, .int .i64 e.seq, .bool e.dead, u] 46)).alloc (.cells #[.slice none 0 0, .int .i64 0, .bool false, .slice none 0 0] 46)) := ((Below.refl _ _).alloc (Nat.le_refl _) _).alloc (by simp) _
  have H1 := Lib.hid (h1.below hA)
  have H2 := Lib.hid (h2.below hA)
  have HA := Lib.hid hA
  clear h1 h2 hA
  go_enter Try.func51, Try.ntmps51
  go_wp2
  go_region_with (first
    | (go_at_call 66; refine (bcloneL_any S k e.key _ (by with_reducible exact H1.out.drew)).mono ?_; rintro r w1 ⟨k', rfl, hk', hb1⟩; obtain ⟨Ak, ck, rfl⟩ := slice_form hk'; obtain ⟨⟨c0, c1, c2, c3⟩, cf⟩ := box4 ((undrew hb1).mono (by simp)))
    | (go_at_call 66; refine (bcloneL_any S u e.val _ (by with_reducible exact H2.out.drew)).mono ?_; rintro r w2 ⟨u', rfl, hu', hb2⟩; obtain ⟨Au, cu, rfl⟩ := slice_form hu'; obtain ⟨⟨c0, c1, c2, c3⟩, cf⟩ := box4 ((undrew hb2).mono (by simp)))
    | (go_at_call 66; refine (bcloneL_any S u e.val w1 (H2.out.drew.below hb1)).mono ?_; rintro r w2 ⟨u', rfl, hu', hb2⟩; obtain ⟨Au, cu, rfl⟩ := slice_form hu'; obtain ⟨⟨c0, c1, c2, c3⟩, cf⟩ := box4 (((undrew hb1).trans (hb2.mono hb1.size)).mono (by simp)))
    | (go_at_call 66; refine (bcloneL_any S k e.key w2 (H1.out.drew.below hb2)).mono ?_; rintro r w1 ⟨k', rfl, hk', hb1⟩; obtain ⟨Ak, ck, rfl⟩ := slice_form hk'; obtain ⟨⟨c0, c1, c2, c3⟩, cf⟩ := box4 (((undrew hb2).trans (hb1.mono hb2.size)).mono (by simp))))
  all_goals
    first
      | (have hb := (undrew hb1).trans (hb2.mono hb1.size); have hk2 := hk'.below hb2; have hu2 := hu'; have hz1 := hb1.size)
      | (have hb := (undrew hb2).trans (hb1.mono hb2.size); have hk2 := hk'; have hu2 := hu'.below hb1; have hz1 := hb2.size)
    obtain ⟨⟨e0, e1, e2, e3⟩, ef⟩ := box4' (hb.mono (by simp))
    have HB := Lib.hid hb
    clear hb hb1 hb2 hk' hu'
    go_wp2
  all_goals
    refine bodyPost_ret (v := .agg #[.slice Ak e.key.length ck, .int .i64 e.seq, .bool e.dead, .slice Au e.val.length cu]) (by simp [results, Try.results51, go_sem, e0, e1, e2, e3]) rfl ?_
    have hz := HB.out.size
    simp only [World.size_alloc, World.size_drew] at hz hz1 hk2 hu2
    exact clone_endL w _ e _ _ _ _ _ _ (HA.out.trans (HB.out.mono (by simp; omega))) (hk2.mono (by omega)) (hu2.mono (by omega)) _ _
end Go.Proofs.Ytacdhkkelkplnaa
end
section
namespace Go.Proofs.Ytacdhkkelkplnaa
open Go.RowKit
attribute [local go_sem ↓] Go.wp_at_zero Go.wp_at_succ
set_option maxRecDepth 100000 in
set_option maxHeartbeats 2000000 in
theorem thinL_any (S : Nat → Prop) (v : Value) (es : List Ent) (mark : Int) (bottom : Bool) (w : World) (hv : Ents w S v es) :
    Calls Try.prog 24 #[v, .int .i64 mark, .bool bottom] w fun r w' => ∃ v', r = .returned (.tuple #[v', .int .i64 (if orderedE es then 0 else 30)]) ∧ OwnE w' w.heap.size v' (if orderedE es then thinC mark bottom [] es else []) ∧ Below w.heap.size w w' := by
  obtain ⟨i0, hi, hz0, hz1, hz2⟩ := info_parts info26
  have hby := Lib.hid hz2
  have hz1' := Lib.hid hz1
  clear hz2 hz1
  have HORD := Lib.hid (ordered_any S v es w hv)
  replace hv := hv.lt
  obtain ⟨S0, hS0⟩ : ∃ S0 : Nat → Prop, S0 = fun i => i < w.heap.size := ⟨_, rfl⟩
  rw [← hS0] at hv
  have HS0 := Lib.hid hS0
  clear hS0
  obtain ⟨A, c, cs, rfl, hc, hcm, hl, hr, he⟩ := hv
  obtain ⟨n, hn⟩ : ∃ n, es.length = n := ⟨_, rfl⟩
  rw [hn] at hr hl HORD ⊢
  have HN := Lib.hid hn
  clear hn
  rcases ho : orderedE es with _ | _
  · rw [ho] at HORD
    clear ho
    go_enter Try.func24, Try.ntmps24
    go_wp2_with (go_at_call 48; refine HORD.out.mono ?_; rintro r w1 ⟨rfl, hb1⟩)
    refine bodyPost_ret (v := .tuple #[_, _]) (by simp [results, Try.results24, go_sem]; exact ⟨rfl, rfl⟩) rfl ?_
    exact ⟨_, rfl, OwnE.nil _ _, hb1⟩
  · rw [ho] at HORD
    clear ho
    go_enter Try.func24, Try.ntmps24
    go_wp2_with (go_at_call 48; refine HORD.out.mono ?_; rintro r w0 ⟨rfl, hb0⟩)
    go_loopw [8, 9, 11, 17] (fun v8 v9 _ t wr => ∃ k : Nat, ∃ a : List UInt8, ∃ ys : List Value, ∃ os : List Ent, k ≤ n ∧ t = .int .i64 k ∧ wr.ownsRow w.heap.size 46 4 v8 os.length ys ∧ FreshE wr w.heap.size v8 ys os ∧ Byt wr S0 v9 a ∧ thinC mark bottom [] es = os ++ thinC mark bottom a (es.drop k) ∧ os.length ≤ k ∧ Below w.heap.size w wr) (fun _ _ _ t _ => n - (intOf t).toNat)
    case atStart => exact ⟨0, [], [], [], by omega, rfl, World.ownsRow_nil _ _ _ _, trivial, Byt.nil _ _, rfl, by simp, hb0⟩
    case round =>
      obtain ⟨k, a, ys, os, hk, rfl, hown, hys, hah, hpre, hol, hbel⟩ := hrel
      by_cases hkn : k < n
      · obtain ⟨e, hek⟩ : ∃ e, es[k]? = some e := ⟨_, List.getElem?_eq_getElem (by rw [HN.out]; exact hkn)⟩
        obtain ⟨b, o, kk, uu, rfl, c0, c1, c2, c3, b1, b2, _, _⟩ := (hr.below hbel).ent (he.below hbel) HN.out hek
        obtain ⟨dd, hdd⟩ : ∃ d, e.dead = d := ⟨_, rfl⟩
        rw [hdd] at c2
        have HDD := Lib.hid hdd
        have HO := Lib.hid hown
        have HEK := Lib.hid hek
        have HST := Lib.hid (thinC_step (mark := mark) (bottom := bottom) a hek)
        have HPRE := Lib.hid hpre
        have hal : Below wr.heap.size wr (wr.alloc (.cells #[kk, .int .i64 e.seq, .bool dd, uu] 46)) := (Below.refl _ _).alloc (Nat.le_refl _) _
        have HB := Lib.hid (hbel.trans (hal.mono hbel.size))
        have hev := Lib.hid ((show EntV wr S0 (.agg #[kk, .int .i64 e.seq, .bool dd, uu]) e from ⟨_, _, by rw [hdd], b1, b2⟩).below hal)
        have HK := Lib.hid b1
        have HKA := Lib.hid (b1.below hal)
        have HAH := Lib.hid (hah.below hal)
        have HO1 := Lib.hid (own_below hown hal)
        have HYS := Lib.hid (hys.below hal)
        obtain ⟨Ak, ck, rfl⟩ := slice_form b1
        obtain ⟨Au, cu, rfl⟩ := slice_form b2
        obtain ⟨Aa, ca, rfl⟩ := slice_form hah
        clear hek hdd b1 b2 hown hpre hbel hah hys
        have HEQ := bequal_any S0 S0 _ _ a e.key _ HAH.out HKA.out
        by_cases hs : e.seq ≤ mark
        · by_cases hak : a = e.key
          · rw [decide_eq_true hak] at HEQ
            have HE := Lib.hid HEQ
            have HAK := Lib.hid hak
            clear HEQ hak
            go_wp2_with (go_at_call 25; refine HE.out.mono ?_; rintro r w1 ⟨rfl, rfl⟩)
            refine ⟨⟨k + 1, a, ys, os, by omega, by go_num, HO1.out, HYS.out, HAH.out, ?_, by omega, HB.out⟩, by simp [intOf]; omega⟩
            rw [HPRE.out, HST.out, if_pos hs, if_pos HAK.out]
          · rw [decide_eq_false hak] at HEQ
            have HE := Lib.hid HEQ
            clear HEQ
            by_cases hdb : (dd && bottom) = true
            · obtain ⟨rfl, rfl⟩ : dd = true ∧ bottom = true := by simpa using hdb
              go_wp2_with (go_at_call 25; refine HE.out.mono ?_; rintro r w1 ⟨rfl, rfl⟩)
              refine ⟨⟨k + 1, e.key, ys, os, by omega, by go_num, HO1.out, HYS.out, HKA.out, ?_, by omega, HB.out⟩, by simp [intOf]; omega⟩
              rw [HPRE.out, HST.out, if_pos hs, if_neg hak, HDD.out, if_pos (show (true && true) = true from rfl)]
            · have hdb2 := Lib.hid hdb
              clear hdb
              rcases dd with _ | _
              · go_wp2_with (first
                  | (go_at_call 25; refine HE.out.mono ?_; rintro r w1 ⟨rfl, rfl⟩)
                  | (go_at_call 51; refine (ecloneL_any S0 _ e _ hev.out).mono ?_; rintro r w1 ⟨v1, rfl, ⟨k', u', rfl, hk', hu'⟩, hb1⟩; obtain ⟨Ak, ck, rfl⟩ := slice_form hk'; obtain ⟨Au, cu, rfl⟩ := slice_form hu')
                  | (at_builtin; refine wpList_append_own_at _ rfl _ _ 41 rfl w.heap.size 46 i0 _ 4 64 Try.underlying41 hi hz0 hz1'.out hby.out rfl (by decide) _ _ _ rfl ((own_below HO1.out hb1).alloc _) ⟨w1.heap.size, 0, none⟩ 1 1 [.slice Ak e.key.length ck, .int .i64 e.seq, .bool e.dead, .slice Au e.val.length cu] rfl rfl (cell_four_new _ _ _ _ _ _) (by simp [Value.oneCell']) (by unfold maxLen; omega) (by omega) (by have := HB.out.size; have := hb1.size; simp; omega) ?_; intro v' w2 hown' hgrow _ hat))
                refine ⟨⟨k + 1, e.key, _, os ++ [e], by omega, by go_num, (by rw [List.length_append]; exact hown'), FreshE.push HO1.out HYS.out hb1 hk' hu' HB.out.size hgrow hat, ((HKA.out.below hb1).below ((Below.refl _ _).alloc (Nat.le_refl _) _)).push hgrow hat (fun i _ hs e => by have := HO1.out.lt i e; rw [HS0.out] at hs; omega) (fun i _ hs _ => hs), ?_, by simp; omega, ((HB.out.trans (hb1.mono HB.out.size)).alloc (by have := HB.out.size; have := hb1.size; omega) _).grown hgrow (by have := HB.out.size; have := hb1.size; simp; omega) (fun j e => (HO1.out.lt j e).1)⟩, by simp [intOf]; omega⟩
                rw [HPRE.out, HST.out, if_pos hs, if_neg hak, HDD.out]; simp
              · obtain rfl : bottom = false := by simpa using hdb2.out
                go_wp2_with (first
                  | (go_at_call 25; refine HE.out.mono ?_; rintro r w1 ⟨rfl, rfl⟩)
                  | (go_at_call 51; refine (ecloneL_any S0 _ e _ hev.out).mono ?_; rintro r w1 ⟨v1, rfl, ⟨k', u', rfl, hk', hu'⟩, hb1⟩; obtain ⟨Ak, ck, rfl⟩ := slice_form hk'; obtain ⟨Au, cu, rfl⟩ := slice_form hu')
                  | (at_builtin; refine wpList_append_own_at _ rfl _ _ 41 rfl w.heap.size 46 i0 _ 4 64 Try.underlying41 hi hz0 hz1'.out hby.out rfl (by decide) _ _ _ rfl ((own_below HO1.out hb1).alloc _) ⟨w1.heap.size, 0, none⟩ 1 1 [.slice Ak e.key.length ck, .int .i64 e.seq, .bool e.dead, .slice Au e.val.length cu] rfl rfl (cell_four_new _ _ _ _ _ _) (by simp [Value.oneCell']) (by unfold maxLen; omega) (by omega) (by have := HB.out.size; have := hb1.size; simp; omega) ?_; intro v' w2 hown' hgrow _ hat))
                refine ⟨⟨k + 1, e.key, _, os ++ [e], by omega, by go_num, (by rw [List.length_append]; exact hown'), FreshE.push HO1.out HYS.out hb1 hk' hu' HB.out.size hgrow hat, ((HKA.out.below hb1).below ((Below.refl _ _).alloc (Nat.le_refl _) _)).push hgrow hat (fun i _ hs e => by have := HO1.out.lt i e; rw [HS0.out] at hs; omega) (fun i _ hs _ => hs), ?_, by simp; omega, ((HB.out.trans (hb1.mono HB.out.size)).alloc (by have := HB.out.size; have := hb1.size; omega) _).grown hgrow (by have := HB.out.size; have := hb1.size; simp; omega) (fun j e => (HO1.out.lt j e).1)⟩, by simp [intOf]; omega⟩
                rw [HPRE.out, HST.out, if_pos hs, if_neg hak, HDD.out]; simp
        · go_wp2_with (first
            | (go_at_call 25; refine HE.out.mono ?_; rintro r w1 ⟨rfl, rfl⟩)
            | (go_at_call 51; refine (ecloneL_any S0 _ e _ hev.out).mono ?_; rintro r w1 ⟨v1, rfl, ⟨k', u', rfl, hk', hu'⟩, hb1⟩; obtain ⟨Ak, ck, rfl⟩ := slice_form hk'; obtain ⟨Au, cu, rfl⟩ := slice_form hu')
            | (at_builtin; refine wpList_append_own_at _ rfl _ _ 41 rfl w.heap.size 46 i0 _ 4 64 Try.underlying41 hi hz0 hz1'.out hby.out rfl (by decide) _ _ _ rfl ((own_below HO1.out hb1).alloc _) ⟨w1.heap.size, 0, none⟩ 1 1 [.slice Ak e.key.length ck, .int .i64 e.seq, .bool e.dead, .slice Au e.val.length cu] rfl rfl (cell_four_new _ _ _ _ _ _) (by simp [Value.oneCell']) (by unfold maxLen; omega) (by omega) (by have := HB.out.size; have := hb1.size; simp; omega) ?_; intro v' w2 hown' hgrow _ hat))
          refine ⟨⟨k + 1, a, _, os ++ [e], by omega, by go_num, (by rw [List.length_append]; exact hown'), FreshE.push HO1.out HYS.out hb1 hk' hu' HB.out.size hgrow hat, ((HAH.out.below hb1).below ((Below.refl _ _).alloc (Nat.le_refl _) _)).push hgrow hat (fun i _ hs e => by have := HO1.out.lt i e; rw [HS0.out] at hs; omega) (fun i _ hs _ => hs), ?_, by simp; omega, ((HB.out.trans (hb1.mono HB.out.size)).alloc (by have := HB.out.size; have := hb1.size; omega) _).grown hgrow (by have := HB.out.size; have := hb1.size; simp; omega) (fun j e => (HO1.out.lt j e).1)⟩, by simp [intOf]; omega⟩
          rw [HPRE.out, HST.out, if_neg (show ¬ e.seq ≤ mark by omega)]; simp
      · obtain rfl : k = n := by omega
        have HO := Lib.hid hown
        have HP := Lib.hid hpre
        clear hown hpre
        go_wp2
        refine bodyPost_ret (v := .tuple #[_, _]) (by simp [results, Try.results24, go_sem]; exact ⟨rfl, rfl⟩) rfl ?_
        refine ⟨_, rfl, ?_, hbel⟩
        have e1 : es.drop k = [] := List.drop_eq_nil_of_le (by rw [HN.out]; exact Nat.le_refl _)
        rw [HP.out, e1, thinC, List.append_nil]
        exact ⟨ys, HO.out, hys⟩
end Go.Proofs.Ytacdhkkelkplnaa
end
