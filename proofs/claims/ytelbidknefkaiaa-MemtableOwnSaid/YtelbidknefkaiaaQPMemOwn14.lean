/-
memtable's ahead: on each floor the last node that lies below an entry.
-/
import Derived.Test.YtelbidknefkaiaaQPMemOwn9
import Derived.Test.YtelbidknefkaiaaQPMemOwn10
import Derived.Test.YtelbidknefkaiaaQPMemOwn13
import Derived.Test.YtelbidknefkaiaaQPMemOwn6
import Derived.Deep.LoopGhost
section
namespace Go.Proofs.Ytelbidknefkaiaa
open Go.RowKit
theorem Spoil.cells {T : Nat → Prop} {w w' : World} (h : Spoil T w w') {cs : List Value} {es : List Ent} (hc : EntCells w T cs es) : ∃ es' : List Ent, es'.length = es.length ∧ EntCells w' T cs es' := by
  induction es generalizing cs with
  | nil => rw [hc.nil_inv]; exact ⟨[], rfl, trivial⟩
  | cons e es ih =>
    obtain ⟨k, u, cs1, rfl, h1, h2, h3⟩ := hc.cons_inv
    obtain ⟨es', hl, hc'⟩ := ih h3
    obtain ⟨b1, _, q1⟩ := h.byt k _ h1
    obtain ⟨b2, _, q2⟩ := h.byt u _ h2
    exact ⟨⟨b1, e.seq, e.dead, b2⟩ :: es', by simp [hl], rfl, rfl, q1, q2, hc'⟩
theorem Spoil.pairs {T : Nat → Prop} {w w' : World} (h : Spoil T w w') {cs : List Value} {es : List Pr} (hc : PrCells w T cs es) : ∃ es' : List Pr, es'.length = es.length ∧ PrCells w' T cs es' := by
  induction es generalizing cs with
  | nil => cases cs with
    | nil => exact ⟨[], rfl, trivial⟩
    | cons x l => simp [PrCells] at hc
  | cons e es ih =>
    match cs, hc with
    | k :: u :: cs1, hc =>
      obtain ⟨h1, h2, h3⟩ := hc
      obtain ⟨es', hl, hc'⟩ := ih h3
      obtain ⟨b1, _, q1⟩ := h.byt k _ h1
      obtain ⟨b2, _, q2⟩ := h.byt u _ h2
      exact ⟨⟨b1, b2⟩ :: es', by simp [hl], q1, q2, hc'⟩
theorem OwnE.ents {w : World} {B : Nat} {v : Value} {es : List Ent} (h : OwnE w B v es) (hl : es.length * 64 ≤ 140737488355328) : Ents w (fun i => B ≤ i ∧ i < w.heap.size) v es := by
  obtain ⟨ys, hrow, hf⟩ := h
  exact Ents.of_own hrow (EntCells.mono (S := freshL w B v) hf fun i hi => ⟨hi.1, hi.2.2.lt⟩) (fun i hi hz => ⟨hi, hz⟩) hl
theorem spoil_round {T : Nat → Prop} {w wr : World} {B n k : Nat} {v : Value} {ys : List Value} {es : List Ent} (hrow : w.ownsRow B 26 4 v n ys) (hc : EntCells w T ys es) (hn : es.length = n) (hT : ∀ g, v.ownBlock = some g → ¬ T g) (hs : Spoil T w wr) (hk : k < n) :
    ∃ g c A1 n1 c1 A2 n2 c2 b1 b2, v = .slice (some ⟨g, 0, none⟩) n c ∧ wr.cell? ⟨g, k * 4, none⟩ = some (.slice A1 n1 c1) ∧ wr.cell? ⟨g, k * 4 + 3, none⟩ = some (.slice A2 n2 c2) ∧ Byt wr T (.slice A1 n1 c1) b1 ∧ Byt wr T (.slice A2 n2 c2) b2 := by
  obtain ⟨es', hl, hc'⟩ := hs.cells hc
  have hrow' := own_only hrow hs.only hT
  obtain ⟨g, c, rfl, _⟩ := own_pos hrow' (by omega)
  obtain ⟨e, he⟩ : ∃ e, es'[k]? = some e := ⟨_, List.getElem?_eq_getElem (by omega)⟩
  obtain ⟨kk, uu, a1, _, _, a4, q1, q2⟩ := hc'.at_ he
  obtain ⟨A1, c1, rfl⟩ := slice_form q1
  obtain ⟨A2, c2, rfl⟩ := slice_form q2
  refine ⟨g, c, A1, _, c1, A2, _, c2, _, _, rfl, ?_, ?_, q1, q2⟩
  · rw [hrow'.cellAt _ (by omega), ← a1]; congr 1; omega
  · rw [hrow'.cellAt _ (by omega), ← a4]; congr 1; omega
theorem PrCells.at' {w : World} {S : Nat → Prop} {cs : List Value} {es : List Pr} (h : PrCells w S cs es) {i : Nat} {e : Pr} (hi : es[i]? = some e) :
    ∃ k u, cs[2 * i]? = some k ∧ cs[2 * i + 1]? = some u ∧ Byt w S k e.key ∧ Byt w S u e.val := by
  induction es generalizing cs i with
  | nil => simp at hi
  | cons e' es ih =>
    match cs, h with
    | k :: u :: cs1, h =>
      obtain ⟨h1, h2, h3⟩ := h
      cases i with
      | zero =>
        simp at hi
        subst hi
        exact ⟨k, u, rfl, rfl, h1, h2⟩
      | succ i =>
        obtain ⟨k', u', a1, a2, a3, a4⟩ := ih h3 (i := i) (by simpa using hi)
        refine ⟨k', u', ?_, ?_, a3, a4⟩
        · rw [show 2 * (i + 1) = 2 * i + 2 from by omega]; simpa using a1
        · rw [show 2 * (i + 1) + 1 = (2 * i + 1) + 2 from by omega]; simpa using a2
theorem spoil_roundP {T : Nat → Prop} {w wr : World} {B n k : Nat} {v : Value} {ys : List Value} {es : List Pr} (hrow : w.ownsRow B 65 2 v n ys) (hc : PrCells w T ys es) (hn : es.length = n) (hT : ∀ g, v.ownBlock = some g → ¬ T g) (hs : Spoil T w wr) (hk : k < n) :
    ∃ g c A1 n1 c1 A2 n2 c2 b1 b2, v = .slice (some ⟨g, 0, none⟩) n c ∧ wr.cell? ⟨g, k * 2, none⟩ = some (.slice A1 n1 c1) ∧ wr.cell? ⟨g, k * 2 + 1, none⟩ = some (.slice A2 n2 c2) ∧ Byt wr T (.slice A1 n1 c1) b1 ∧ Byt wr T (.slice A2 n2 c2) b2 := by
  obtain ⟨es', hl, hc'⟩ := hs.pairs hc
  have hrow' := own_only hrow hs.only hT
  obtain ⟨g, c, rfl, _⟩ := own_pos hrow' (by omega)
  obtain ⟨e, he⟩ : ∃ e, es'[k]? = some e := ⟨_, List.getElem?_eq_getElem (by omega)⟩
  obtain ⟨kk, uu, a1, a4, q1, q2⟩ := PrCells.at' hc' he
  obtain ⟨A1, c1, rfl⟩ := slice_form q1
  obtain ⟨A2, c2, rfl⟩ := slice_form q2
  refine ⟨g, c, A1, _, c1, A2, _, c2, _, _, rfl, ?_, ?_, q1, q2⟩
  · rw [hrow'.cellAt _ (by omega), ← a1]; congr 1; omega
  · rw [hrow'.cellAt _ (by omega), ← a4]; congr 1; omega
theorem Lists.only {w w' : World} {T S : Nat → Prop} {v : Value} {ls : List (List Ent)} (h : Lists w T v ls) (ho : Only S w w') (hd : ∀ i, i < w.heap.size → T i → ¬ S i) : Lists w' T v ls := by
  obtain ⟨A, c, vs, e, h1, h2, h3, h4, h5⟩ := h
  exact ⟨A, c, vs, e, h1, h2, h3, h4.only ho hd, fun i l hl => by obtain ⟨x, hx, hy⟩ := h5 i l hl; exact ⟨x, hx, hy.only ho hd⟩⟩
theorem merged_len (ls : List (List Ent)) : (mergeC ls).1.length ≤ total ls := by
  rcases mergeC_cases ls with ⟨_, r, e, hp, _⟩ | ⟨n, _, e⟩
  · rw [e]; exact Nat.le_of_eq hp.length_eq
  · rw [e]; exact Nat.zero_le _
end Go.Proofs.Ytelbidknefkaiaa
end
section
namespace Go.Proofs.Ytelbidknefkaiaa
open Go.RowKit
def ptrN (o : Option Nd) : Value := .pointer (o.map fun n => (⟨n.blk, 0, none⟩ : Addr))
def blkOf (T : Nat) (o : Option Nd) : Nat := match o with | some n => n.blk | none => T
/-- what stands on floor f of the node behind which 'l' follows. -/
def nextV (f : Nat) (n : Nd) (l : List Nd) : Value := if f < n.h then ptrN (nextF f l) else .pointer none
structure SkipV (w : World) (base T : Nat) (ns : List Nd) (hs : Value) (many : Int) : Prop where
  ord : inOrder ns
  tab : ∃ cs : Array Value, w.heap[T]? = some (.cells cs 76 (0, 0)) ∧ cs.size = 18 ∧ cs[16]? = some hs ∧ cs[17]? = some (.int .i64 many) ∧ ∀ f, f < 12 → cs[4 + f]? = some (ptrN (nextF f ns))
  node : ∀ (i : Nat) (n : Nd), ns[i]? = some n → ∃ cs : Array Value, w.heap[n.blk]? = some (.cells cs 71 (0, 0)) ∧ cs.size = 16 ∧ cs[0]? = some n.k ∧ cs[1]? = some (.int .i64 n.ent.seq) ∧ cs[2]? = some (.bool n.ent.dead) ∧ cs[3]? = some n.u ∧
    ∀ f, f < 12 → cs[4 + f]? = some (nextV f n (ns.drop (i + 1)))
  byt : ∀ n ∈ ns, BytL w base n.k n.ent.key ∧ BytL w base n.u n.ent.val
  hi : ∀ n ∈ ns, n.h ≤ 12
  diff : ∀ (i j : Nat) (n m : Nd), ns[i]? = some n → ns[j]? = some m → n.blk = m.blk → i = j
  lo : ∀ n ∈ ns, base ≤ n.blk
section
variable {w w' : World} {base T : Nat} {ns : List Nd} {hs : Value} {many : Int}
theorem SkipV.below (h : SkipV w base T ns hs many) (hb : Below w.heap.size w w') : SkipV w' base T ns hs many := by
  refine ⟨h.ord, ?_, fun i n hn => ?_, fun n hn => ⟨(h.byt n hn).1.below hb, (h.byt n hn).2.below hb⟩, h.hi, h.diff, h.lo⟩
  · obtain ⟨cs, h1, h2⟩ := h.tab
    exact ⟨cs, (hb.block T (Array.getElem?_eq_some_iff.1 h1).1).trans h1, h2⟩
  · obtain ⟨cs, h1, h2⟩ := h.node i n hn
    exact ⟨cs, (hb.block _ (Array.getElem?_eq_some_iff.1 h1).1).trans h1, h2⟩
theorem SkipV.ltT (h : SkipV w base T ns hs many) : T < w.heap.size := by
  obtain ⟨cs, h1, _⟩ := h.tab
  exact (Array.getElem?_eq_some_iff.1 h1).1
theorem SkipV.ltN (h : SkipV w base T ns hs many) {n : Nd} (hn : n ∈ ns) : n.blk < w.heap.size := by
  obtain ⟨i, hi⟩ := List.getElem?_of_mem hn
  obtain ⟨cs, h1, _⟩ := h.node i n hi
  exact (Array.getElem?_eq_some_iff.1 h1).1
theorem SkipV.neT (h : SkipV w base T ns hs many) {n : Nd} (hn : n ∈ ns) : n.blk ≠ T := by
  obtain ⟨i, hi⟩ := List.getElem?_of_mem hn
  obtain ⟨cs, h1, _⟩ := h.node i n hi
  obtain ⟨ct, h2, _⟩ := h.tab
  intro e
  rw [e, h2] at h1
  injection h1 with h1
  injection h1 with _ h1
  exact absurd h1 (by decide)
/-- a place of the walk: the head, or a node. -/
def At (ns : List Nd) (f pos : Nat) (a : Option Nd) : Prop := (a = none ∧ pos = 0) ∨ ∃ n, a = some n ∧ 0 < pos ∧ ns[pos - 1]? = some n ∧ f < n.h
theorem SkipV.next (h : SkipV w base T ns hs many) {f pos : Nat} {a : Option Nd} (ha : At ns f pos a) (hf : f < 12) : w.cell? ⟨blkOf T a, 4 + f, none⟩ = some (ptrN (nextF f (ns.drop pos))) := by
  rcases ha with ⟨rfl, rfl⟩ | ⟨n, rfl, hp, hn, hh⟩
  · obtain ⟨cs, h1, _, _, _, h2⟩ := h.tab
    show w.cell? ⟨T, 4 + f, none⟩ = _
    rw [cell_of_row w T (4 + f) cs _ _ h1]
    simpa using h2 f hf
  · obtain ⟨cs, h1, _, _, _, _, _, h2⟩ := h.node _ n hn
    show w.cell? ⟨n.blk, 4 + f, none⟩ = _
    rw [cell_of_row w n.blk (4 + f) cs _ _ h1, h2 f hf, nextV, if_pos hh, show pos - 1 + 1 = pos by omega]
theorem SkipV.cells (h : SkipV w base T ns hs many) {i : Nat} {n : Nd} (hn : ns[i]? = some n) : w.cell? ⟨n.blk, 0, none⟩ = some n.k ∧ w.cell? ⟨n.blk, 1, none⟩ = some (.int .i64 n.ent.seq) ∧ w.cell? ⟨n.blk, 2, none⟩ = some (.bool n.ent.dead) ∧ w.cell? ⟨n.blk, 3, none⟩ = some n.u := by
  obtain ⟨cs, h1, _, c0, c1, c2, c3, _⟩ := h.node i n hn
  simp only [cell_of_row w n.blk _ cs _ _ h1]
  exact ⟨c0, c1, c2, c3⟩
theorem SkipV.ent (h : SkipV w base T ns hs many) {n : Nd} (hn : n ∈ ns) : EntV w (fun _ => True) (.agg #[n.k, .int .i64 n.ent.seq, .bool n.ent.dead, n.u]) n.ent :=
  ⟨_, _, rfl, (h.byt n hn).1.byt.mono fun _ _ => trivial, (h.byt n hn).2.byt.mono fun _ _ => trivial⟩
end
/-- the way down: on each floor the last that lies below. -/
def pathV (T : Nat) (pre : List Nd) (f : Nat) : Value := .pointer (some ⟨blkOf T (lastF f pre), 0, none⟩)
/-- the path's block, from floor g on. -/
def Path (w : World) (P T : Nat) (pre : List Nd) (g : Nat) : Prop := ∃ cs : Array Value, w.heap[P]? = some (.cells cs 69 (0, 0)) ∧ cs.size = 12 ∧ ∀ f, g ≤ f → f < 12 → cs[f]? = some (pathV T pre f)
theorem Path.below {w w' : World} {P T : Nat} {pre : List Nd} {g : Nat} (h : Path w P T pre g) (hb : Below w.heap.size w w') : Path w' P T pre g := by
  obtain ⟨cs, h1, h2⟩ := h
  exact ⟨cs, (hb.block P (Array.getElem?_eq_some_iff.1 h1).1).trans h1, h2⟩
theorem Path.store {w : World} {P T : Nat} {pre : List Nd} {g : Nat} (h : Path w P T pre (g + 1)) (hg : g < 12) : Path (w.setCell ⟨P, g, none⟩ (pathV T pre g)) P T pre g := by
  obtain ⟨cs, h1, h2, h3⟩ := h
  refine ⟨cs.setIfInBounds g (pathV T pre g), heap_setCell_same w P g cs _ _ h1, by simpa using h2, fun f hf hf' => ?_⟩
  by_cases e : f = g
  · subst e
    rw [Array.getElem?_setIfInBounds_self, if_pos (by omega)]
  · rw [Array.getElem?_setIfInBounds_ne (by omega)]
    exact h3 f (by omega) hf'
theorem Path.at_ {w : World} {P T : Nat} {pre : List Nd} {g : Nat} (h : Path w P T pre g) (f : Nat) (h1 : g ≤ f) (h2 : f < 12) : w.cell? ⟨P, f, none⟩ = some (pathV T pre f) := by
  obtain ⟨cs, e, _, h3⟩ := h
  rw [cell_of_row w P f cs _ _ e]
  exact h3 f h1 h2
end Go.Proofs.Ytelbidknefkaiaa
end
section
namespace Go.Proofs.Ytelbidknefkaiaa
open Go.RowKit Go.BigFrame
attribute [local go_sem ↓] Go.wp_at_zero Go.wp_at_succ
theorem at_none {ns : List Nd} (f : Nat) : At ns f 0 none := .inl ⟨rfl, rfl⟩
theorem stands_at {ns : List Nd} {m f pos : Nat} {a : Option Nd} (h : At ns (f + 1) pos a) (hm : pos ≤ m) : Stands f ns m pos a := by
  rcases h with ⟨rfl, rfl⟩ | ⟨n, rfl, hp, hn, hh⟩
  · refine ⟨by omega, ?_⟩
    rw [List.drop_zero]
    cases lastF f (ns.take m) <;> rfl
  · have := stands_down (f := f) (ns := ns) (m := m) (pos := pos - 1) (by omega) hn (by simpa [up] using hh)
    rwa [Nat.sub_add_cancel hp] at this
theorem At.down {ns : List Nd} {f pos : Nat} {a : Option Nd} (h : At ns (f + 1) pos a) : At ns f pos a := by
  rcases h with h | ⟨n, h1, h2, h3, h4⟩
  · exact .inl h
  · exact .inr ⟨n, h1, h2, h3, by omega⟩
theorem Path.slot {w : World} {P T : Nat} {pre : List Nd} {g : Nat} (h : Path w P T pre g) : (∀ i, i < 12 → ∃ v, w.cell? ⟨P, i, none⟩ = some v) ∧ ∀ i, w.frozen? ⟨P, i, none⟩ = false := by
  obtain ⟨cs, e, hs, _⟩ := h
  exact ⟨fun i hi => ⟨_, (cell_of_row w P i cs _ _ e).trans (Array.getElem?_eq_getElem (by omega))⟩, fun i => frozen_of_row w P i cs _ e⟩
theorem drop_take_sub {ns : List Nd} {m p j : Nat} (h : m ≤ p + j) : ∀ x ∈ (ns.take m).drop p, x ∈ (ns.drop p).take j := by
  intro x hx
  rw [List.drop_take] at hx
  have : (ns.drop p).take (m - p) = ((ns.drop p).take j).take (m - p) := by rw [List.take_take, Nat.min_eq_left (by omega)]
  rw [this] at hx
  exact List.mem_of_mem_take hx
theorem drop_take_sub' {ns : List Nd} {m p : Nat} : ∀ x ∈ (ns.take m).drop p, x ∈ ns.drop p := by
  intro x hx
  rw [List.drop_take] at hx
  exact List.mem_of_mem_take hx
theorem ahead_start (w : World) (k u : Value) (e : Ent) (T : Nat) (pre : List Nd) (W0 : World) (hW : W0 = ((w.alloc (.cells #[k, .int .i64 e.seq, .bool e.dead, u] 26)).alloc (.cells #[.pointer none, .pointer none, .pointer none, .pointer none, .pointer none, .pointer none, .pointer none, .pointer none, .pointer none, .pointer none, .pointer none, .pointer none] 69)).alloc (.cells #[.pointer none, .pointer none, .pointer none, .pointer none, .pointer none, .pointer none, .pointer none, .pointer none, .pointer none, .pointer none, .pointer none, .pointer none] 69)) :
    Below w.heap.size w W0 ∧ W0.heap.size = w.heap.size + 3 ∧ (W0.cell? ⟨w.heap.size, 0, none⟩ = some k ∧ W0.cell? ⟨w.heap.size, 1, none⟩ = some (.int .i64 e.seq) ∧ W0.cell? ⟨w.heap.size, 2, none⟩ = some (.bool e.dead) ∧ W0.cell? ⟨w.heap.size, 3, none⟩ = some u) ∧
      (∃ cs : Array Value, W0.heap[w.heap.size + 1]? = some (.cells cs 69 (0, 0)) ∧ cs.size = 12) ∧ Path W0 (w.heap.size + 1 + 1) T pre 12 := by
  subst hW
  refine ⟨(((Below.refl _ _).alloc (Nat.le_refl _) _).alloc (by simp) _).alloc (by simp; omega) _, by simp, ⟨?_, ?_, ?_, ?_⟩, ⟨#[.pointer none, .pointer none, .pointer none, .pointer none, .pointer none, .pointer none, .pointer none, .pointer none, .pointer none, .pointer none, .pointer none, .pointer none], ?_, rfl⟩, ⟨#[.pointer none, .pointer none, .pointer none, .pointer none, .pointer none, .pointer none, .pointer none, .pointer none, .pointer none, .pointer none, .pointer none, .pointer none], ?_, rfl, fun f h1 h2 => absurd h1 (by omega)⟩⟩
  iterate 4 (rw [World.cell?_alloc_lt _ _ _ (by simp; omega), World.cell?_alloc_lt _ _ _ (by simp), World.cell?_alloc_at _ _ _ _ rfl]; rfl)
  · rw [heap_alloc_old _ _ (by simp)]
    have := heap_alloc_new (w.alloc (.cells #[k, .int .i64 e.seq, .bool e.dead, u] 26)) (.cells #[.pointer none, .pointer none, .pointer none, .pointer none, .pointer none, .pointer none, .pointer none, .pointer none, .pointer none, .pointer none, .pointer none, .pointer none] 69)
    simpa using this
  · have := heap_alloc_new ((w.alloc (.cells #[k, .int .i64 e.seq, .bool e.dead, u] 26)).alloc (.cells #[.pointer none, .pointer none, .pointer none, .pointer none, .pointer none, .pointer none, .pointer none, .pointer none, .pointer none, .pointer none, .pointer none, .pointer none] 69)) (.cells #[.pointer none, .pointer none, .pointer none, .pointer none, .pointer none, .pointer none, .pointer none, .pointer none, .pointer none, .pointer none, .pointer none, .pointer none] 69)
    simpa using this
set_option maxRecDepth 100000 in
set_option maxHeartbeats 4000000 in
theorem ahead_any (S : Nat → Prop) (base T : Nat) (ns : List Nd) (hs : Value) (many : Int) (v : Value) (e : Ent) (w : World) (h : SkipV w base T ns hs many) (hv : EntV w S v e) :
    Calls Try.prog 37 #[.pointer (some ⟨T, 0, none⟩), v] w fun r w' => r = .returned (.agg ((List.range 12).map (pathV T (ns.take (cnt e ns)))).toArray) ∧ Below w.heap.size w w' := by
  obtain ⟨k, u, rfl, q1, q2⟩ := hv
  obtain ⟨m, hm⟩ : ∃ m, cnt e ns = m := ⟨_, rfl⟩
  have HM := Lib.hid hm
  rw [hm]
  have H := Lib.hid h
  have Q1 := Lib.hid q1
  have Q2 := Lib.hid q2
  obtain ⟨Ak, ck, rfl⟩ := slice_form q1
  obtain ⟨Au, cu, rfl⟩ := slice_form q2
  clear hm h q1 q2
  go_enter Try.func37, Try.ntmps37
  go_wp2
  obtain ⟨W0, hW0⟩ : ∃ W0, W0 = ((w.alloc (.cells #[.slice Ak e.key.length ck, .int .i64 e.seq, .bool e.dead, .slice Au e.val.length cu] 26)).alloc (.cells #[.pointer none, .pointer none, .pointer none, .pointer none, .pointer none, .pointer none, .pointer none, .pointer none, .pointer none, .pointer none, .pointer none, .pointer none] 69)).alloc (.cells #[.pointer none, .pointer none, .pointer none, .pointer none, .pointer none, .pointer none, .pointer none, .pointer none, .pointer none, .pointer none, .pointer none, .pointer none] 69) := ⟨_, rfl⟩
  rw [← hW0]
  obtain ⟨b0, hz0, ⟨x0, x1, x2, x3⟩, hR, hP⟩ := ahead_start w _ _ e T (ns.take m) W0 hW0
  have HB0 := Lib.hid b0
  have HR := Lib.hid hR
  have HP := Lib.hid hP
  have X0 := Lib.hid x0
  have X1 := Lib.hid x1
  have X2 := Lib.hid x2
  have X3 := Lib.hid x3
  have hTw := H.out.ltT
  have QE := Lib.hid (show EntV w S (.agg #[.slice Ak e.key.length ck, .int .i64 e.seq, .bool e.dead, .slice Au e.val.length cu]) e from ⟨_, _, rfl, Q1.out, Q2.out⟩)
  obtain ⟨E, hE⟩ : ∃ E, w.heap.size = E := ⟨_, rfl⟩
  rw [hE] at HR HP X0 X1 X2 X3 hz0 hTw HB0 ⊢
  have HEE := Lib.hid hE
  clear hW0 b0 x0 x1 x2 x3 hR hP hE Q1 Q2
  have hmn : m ≤ ns.length := by rw [← HM.out]; exact cnt_le e ns
  go_loopw [6, 7] (fun t6 t7 wr => ∃ (g pos : Nat) (a : Option Nd) (z : Int), g ≤ 12 ∧ z + 1 = g ∧ t7 = .int .i64 z ∧ t6 = .pointer (some ⟨blkOf T a, 0, none⟩) ∧ At ns g pos a ∧ pos ≤ m ∧ Path wr (E + 1 + 1) T (ns.take m) g ∧ Only (fun i => i = E + 1 + 1) W0 wr) (fun _ t _ => (intOf t + 1).toNat)
  case atStart => exact ⟨12, 0, none, 11, Nat.le_refl _, by omega, rfl, rfl, at_none _, Nat.zero_le _, HP.out, Only.refl _ _⟩
  case round =>
    obtain ⟨g, pos, a, z, hg, hz, rfl, rfl, hat, hpm, hpath, honly⟩ := hrel
    obtain ⟨wo, hwo⟩ : ∃ wo, wo = wr := ⟨_, rfl⟩
    subst hwo
    have HAT := Lib.hid hat
    have HPA := Lib.hid hpath
    have HON := Lib.hid honly
    clear hat hpath honly
    cases g with
    | zero =>
      have hz0' : z < 0 := by omega
      obtain ⟨cs, hcs, hsz⟩ := HR.out
      have hcs' : wo.heap[E + 1]? = some (.cells cs 69 (0, 0)) := (HON.out.block (E + 1) (by omega) (by omega)).trans hcs
      have fz : ∀ i, wo.frozen? ⟨E + 1, i, none⟩ = false := fun i => frozen_of_row wo (E + 1) i cs _ hcs'
      have rc : ∀ i, i < 12 → ∃ v, wo.cell? ⟨E + 1, i, none⟩ = some v := fun i hi => ⟨_, (cell_of_row wo (E + 1) i cs _ _ hcs').trans (Array.getElem?_eq_getElem (by omega))⟩
      obtain ⟨z0, r0⟩ := rc 0 (by omega)
      have p0 : wo.cell? ⟨E + 1 + 1, 0, none⟩ = some (.pointer (some ⟨blkOf T (lastF 0 (ns.take m)), 0, none⟩)) := HPA.out.at_ 0 (by omega) (by omega)
      obtain ⟨z1, r1⟩ := rc 1 (by omega)
      have p1 : wo.cell? ⟨E + 1 + 1, 1, none⟩ = some (.pointer (some ⟨blkOf T (lastF 1 (ns.take m)), 0, none⟩)) := HPA.out.at_ 1 (by omega) (by omega)
      obtain ⟨z2, r2⟩ := rc 2 (by omega)
      have p2 : wo.cell? ⟨E + 1 + 1, 2, none⟩ = some (.pointer (some ⟨blkOf T (lastF 2 (ns.take m)), 0, none⟩)) := HPA.out.at_ 2 (by omega) (by omega)
      obtain ⟨z3, r3⟩ := rc 3 (by omega)
      have p3 : wo.cell? ⟨E + 1 + 1, 3, none⟩ = some (.pointer (some ⟨blkOf T (lastF 3 (ns.take m)), 0, none⟩)) := HPA.out.at_ 3 (by omega) (by omega)
      obtain ⟨z4, r4⟩ := rc 4 (by omega)
      have p4 : wo.cell? ⟨E + 1 + 1, 4, none⟩ = some (.pointer (some ⟨blkOf T (lastF 4 (ns.take m)), 0, none⟩)) := HPA.out.at_ 4 (by omega) (by omega)
      obtain ⟨z5, r5⟩ := rc 5 (by omega)
      have p5 : wo.cell? ⟨E + 1 + 1, 5, none⟩ = some (.pointer (some ⟨blkOf T (lastF 5 (ns.take m)), 0, none⟩)) := HPA.out.at_ 5 (by omega) (by omega)
      obtain ⟨z6, r6⟩ := rc 6 (by omega)
      have p6 : wo.cell? ⟨E + 1 + 1, 6, none⟩ = some (.pointer (some ⟨blkOf T (lastF 6 (ns.take m)), 0, none⟩)) := HPA.out.at_ 6 (by omega) (by omega)
      obtain ⟨z7, r7⟩ := rc 7 (by omega)
      have p7 : wo.cell? ⟨E + 1 + 1, 7, none⟩ = some (.pointer (some ⟨blkOf T (lastF 7 (ns.take m)), 0, none⟩)) := HPA.out.at_ 7 (by omega) (by omega)
      obtain ⟨z8, r8⟩ := rc 8 (by omega)
      have p8 : wo.cell? ⟨E + 1 + 1, 8, none⟩ = some (.pointer (some ⟨blkOf T (lastF 8 (ns.take m)), 0, none⟩)) := HPA.out.at_ 8 (by omega) (by omega)
      obtain ⟨z9, r9⟩ := rc 9 (by omega)
      have p9 : wo.cell? ⟨E + 1 + 1, 9, none⟩ = some (.pointer (some ⟨blkOf T (lastF 9 (ns.take m)), 0, none⟩)) := HPA.out.at_ 9 (by omega) (by omega)
      obtain ⟨z10, r10⟩ := rc 10 (by omega)
      have p10 : wo.cell? ⟨E + 1 + 1, 10, none⟩ = some (.pointer (some ⟨blkOf T (lastF 10 (ns.take m)), 0, none⟩)) := HPA.out.at_ 10 (by omega) (by omega)
      obtain ⟨z11, r11⟩ := rc 11 (by omega)
      have p11 : wo.cell? ⟨E + 1 + 1, 11, none⟩ = some (.pointer (some ⟨blkOf T (lastF 11 (ns.take m)), 0, none⟩)) := HPA.out.at_ 11 (by omega) (by omega)
      have HCS := Lib.hid hcs'
      clear hcs hsz hcs' rc
      go_wp2
      refine bodyPost_ret (v := .agg #[.pointer (some ⟨blkOf T (lastF 0 (ns.take m)), 0, none⟩), .pointer (some ⟨blkOf T (lastF 1 (ns.take m)), 0, none⟩), .pointer (some ⟨blkOf T (lastF 2 (ns.take m)), 0, none⟩), .pointer (some ⟨blkOf T (lastF 3 (ns.take m)), 0, none⟩), .pointer (some ⟨blkOf T (lastF 4 (ns.take m)), 0, none⟩), .pointer (some ⟨blkOf T (lastF 5 (ns.take m)), 0, none⟩), .pointer (some ⟨blkOf T (lastF 6 (ns.take m)), 0, none⟩), .pointer (some ⟨blkOf T (lastF 7 (ns.take m)), 0, none⟩), .pointer (some ⟨blkOf T (lastF 8 (ns.take m)), 0, none⟩), .pointer (some ⟨blkOf T (lastF 9 (ns.take m)), 0, none⟩), .pointer (some ⟨blkOf T (lastF 10 (ns.take m)), 0, none⟩), .pointer (some ⟨blkOf T (lastF 11 (ns.take m)), 0, none⟩)]) (by simp [results, Try.results37, go_sem, r0, r1, r2, r3, r4, r5, r6, r7, r8, r9, r10, r11]) rfl ?_
      refine ⟨rfl, ?_⟩
      have hb : Below E w wo := HB0.out.trans (HON.out.below (by omega) (fun i hi => by omega))
      rw [HEE.out]
      exact hb.trans ((((((((((((((Only.refl (fun i => i = E + 1) wo).setCell (p := ⟨E + 1, 0, none⟩) rfl _).setCell (p := ⟨E + 1, 1, none⟩) rfl _).setCell (p := ⟨E + 1, 2, none⟩) rfl _).setCell (p := ⟨E + 1, 3, none⟩) rfl _).setCell (p := ⟨E + 1, 4, none⟩) rfl _).setCell (p := ⟨E + 1, 5, none⟩) rfl _).setCell (p := ⟨E + 1, 6, none⟩) rfl _).setCell (p := ⟨E + 1, 7, none⟩) rfl _).setCell (p := ⟨E + 1, 8, none⟩) rfl _).setCell (p := ⟨E + 1, 9, none⟩) rfl _).setCell (p := ⟨E + 1, 10, none⟩) rfl _).setCell (p := ⟨E + 1, 11, none⟩) rfl _).below (by have := HON.out.size; omega) (fun i hi => by omega))
    | succ f =>
      have hf : f < 12 := by omega
      obtain rfl : z = (f : Int) := by omega
      have hst := stands_at HAT.out hpm
      have HST := Lib.hid hst
      clear hst hz
      go_wp2
      go_loopg [6] (ns.length - pos) (fun gk t6 wr => ∃ (p : Nat) (b : Option Nd), gk = ns.length - p ∧ t6 = .pointer (some ⟨blkOf T b, 0, none⟩) ∧ At ns f p b ∧ Stands f ns m p b ∧ Below wo.heap.size wo wr)
      case atStart => exact ⟨pos, a, rfl, rfl, HAT.out.down, HST.out, Below.refl _ _⟩
      case round =>
        obtain ⟨p, b, hgk, rfl, hatb, hstb, hbel⟩ := hrel
        have HGK := Lib.hid hgk
        have HATB := Lib.hid hatb
        have HSTB := Lib.hid hstb
        have HBEL := Lib.hid hbel
        clear hgk hatb hstb hbel
        have hon : Only (fun i => i = E + 1 + 1) W0 wr := HON.out.trans (Only.of_below HBEL.out)
        have hbw : Below w.heap.size w wr := by
          rw [HEE.out]
          exact HB0.out.trans (hon.below (by omega) (fun i hi => by omega))
        have HW := Lib.hid (H.out.below hbw)
        have hnext := HW.out.next HATB.out hf
        have blk : ∀ i, wr.cell? ⟨E, i, none⟩ = W0.cell? ⟨E, i, none⟩ := fun i => World.cell?_of_block (a := ⟨E, i, none⟩) (hon.block E (by omega) (by omega))
        have y0 := (blk 0).trans X0.out
        have y1 := (blk 1).trans X1.out
        have y2 := (blk 2).trans X2.out
        have y3 := (blk 3).trans X3.out
        have HQE := Lib.hid (QE.out.below hbw)
        clear blk hon hbw
        have G0 : ∀ q : Ext wr, q.w.cell? { block := E, off := 0 } = _ := fun q => q.h.cell y0
        have G1 : ∀ q : Ext wr, q.w.cell? { block := E, off := 1 } = _ := fun q => q.h.cell y1
        have G2 : ∀ q : Ext wr, q.w.cell? { block := E, off := 2 } = _ := fun q => q.h.cell y2
        have G3 : ∀ q : Ext wr, q.w.cell? { block := E, off := 3 } = _ := fun q => q.h.cell y3
        clear y0 y1 y2 y3
        cases hnx : nextF f (ns.drop p) with
        | none =>
          rw [hnx] at hnext
          have HN := Lib.hid (nextF_none hnx)
          have F0 : ∀ q : Ext wr, q.w.cell? { block := blkOf T b, off := 4 + f } = some (.pointer none) := fun q => q.h.cell hnext
          have HLAST := Lib.hid (stands_end HSTB.out (fun x hx => HN.out x (drop_take_sub' x hx)))
          clear hnx hnext
          go_wp2
          (refine wp_region_quiet_ext (by kernel_rfl) (by kernel_rfl) ?_; (repeat (go_big_quiet_step (fail))); refine wpQuiet_nil ?_; intro wq hw'; obtain ⟨⟨_, hq⟩, hw''⟩ := hw'; subst hw'')
          have HPQ := Lib.hid ((HPA.out.below HBEL.out).below hq)
          have HQB := Lib.hid (show Below wr.heap.size wr wq from hq)
          obtain ⟨pv, hpv⟩ := HPQ.out.slot.1 f hf
          have hpf := HPQ.out.slot.2 f
          clear hq F0 G0 G1 G2 G3
          go_wp2
          have hst := HPQ.out.store hf
          unfold pathV at hst
          rw [HLAST.out] at hst
          refine ⟨⟨f, p, b, (f : Int) - 1, by omega, by omega, rfl, rfl, HATB.out, HSTB.out.1, hst, (HON.out.trans (Only.of_below (HBEL.out.trans (HQB.out.mono HBEL.out.size)))).setCell (p := ⟨E + 1 + 1, f, none⟩) rfl _⟩, by simp [intOf]⟩
        | some n =>
          obtain ⟨j, hj, hup, hsk⟩ := nextF_some hnx
          rw [hnx] at hnext
          have F0 : ∀ q : Ext wr, q.w.cell? { block := blkOf T b, off := 4 + f } = some (.pointer (some ⟨n.blk, 0, none⟩)) := fun q => q.h.cell hnext
          have HJ := Lib.hid hj
          have hj' : ns[p + j]? = some n := by rw [← List.getElem?_drop]; exact hj
          obtain ⟨n0, n1, n2, n3⟩ := HW.out.cells hj'
          have N0 : ∀ q : Ext wr, q.w.cell? { block := n.blk, off := 0 } = _ := fun q => q.h.cell n0
          have N1 : ∀ q : Ext wr, q.w.cell? { block := n.blk, off := 1 } = _ := fun q => q.h.cell n1
          have N2 : ∀ q : Ext wr, q.w.cell? { block := n.blk, off := 2 } = _ := fun q => q.h.cell n2
          have N3 : ∀ q : Ext wr, q.w.cell? { block := n.blk, off := 3 } = _ := fun q => q.h.cell n3
          have CC : ∀ q : Ext wr, Calls Try.prog 38 #[.agg #[n.k, .int .i64 n.ent.seq, .bool n.ent.dead, n.u], .agg #[.slice Ak e.key.length ck, .int .i64 e.seq, .bool e.dead, .slice Au e.val.length cu]] q.w fun r w'' => r = .returned (.int .i64 (cmpE n.ent e)) ∧ ∃ q' : Ext wr, w'' = q'.w := fun q => Ext.calls (compare_any _ _ _ _ n.ent e _ ((HW.out.ent (List.mem_of_getElem? hj')).below q.h) (HQE.out.below q.h))
          have HJ' := Lib.hid hj'
          have HUP := Lib.hid hup
          have HSK := Lib.hid hsk
          have hcl := cnt_lt H.out.ord hj' (e := e)
          rw [HM.out] at hcl
          have HCL := Lib.hid hcl
          have HNX := Lib.hid hnext
          clear hnx hnext hj hj' hup hsk n0 n1 n2 n3 hcl
          by_cases hlt : cmpE n.ent e < 0
          · go_wp2
            (refine wp_region_quiet_ext (by kernel_rfl) (by kernel_rfl) ?_; (repeat (go_big_quiet_step ((go_at_call 38; exact CC _)))); refine wpQuiet_nil ?_; intro wq hw'; obtain ⟨⟨_, hq⟩, hw''⟩ := hw'; subst hw'')
            have C0 := hq.cell HNX.out
            have HQB := Lib.hid (show Below wr.heap.size wr wq from hq)
            clear hq F0 G0 G1 G2 G3 N0 N1 N2 N3 CC
            go_wp2
            go_roundg (ns.length - (p + j + 1))
            case rel =>
              exact ⟨p + j + 1, some n, rfl, rfl, .inr ⟨n, rfl, by omega, by rw [Nat.add_sub_cancel]; exact HJ'.out, by have := HUP.out; simpa [up] using this⟩, stands_move HSTB.out HJ.out HUP.out HSK.out (HCL.out.2 hlt), HBEL.out.trans (HQB.out.mono HBEL.out.size)⟩
            case measure =>
              have h1 := HGK.out
              have h2 := (List.getElem?_eq_some_iff.1 HJ'.out).1
              omega
          · have HLAST := Lib.hid (stands_end HSTB.out (fun x hx => HSK.out x (drop_take_sub (by have h1 := HCL.out; by_cases h2 : p + j < m; exact absurd (h1.1 h2) hlt; omega) x hx)))
            go_wp2
            (refine wp_region_quiet_ext (by kernel_rfl) (by kernel_rfl) ?_; (repeat (go_big_quiet_step ((go_at_call 38; exact CC _)))); refine wpQuiet_nil ?_; intro wq hw'; obtain ⟨⟨_, hq⟩, hw''⟩ := hw'; subst hw'')
            have HPQ := Lib.hid ((HPA.out.below HBEL.out).below hq)
            have HQB := Lib.hid (show Below wr.heap.size wr wq from hq)
            obtain ⟨pv, hpv⟩ := HPQ.out.slot.1 f hf
            have hpf := HPQ.out.slot.2 f
            clear hq F0 G0 G1 G2 G3 N0 N1 N2 N3 CC
            go_wp2
            have hst := HPQ.out.store hf
            unfold pathV at hst
            rw [HLAST.out] at hst
            refine ⟨⟨f, p, b, (f : Int) - 1, by omega, by omega, rfl, rfl, HATB.out, HSTB.out.1, hst, (HON.out.trans (Only.of_below (HBEL.out.trans (HQB.out.mono HBEL.out.size)))).setCell (p := ⟨E + 1 + 1, f, none⟩) rfl _⟩, by simp [intOf]⟩
end Go.Proofs.Ytelbidknefkaiaa
end
