/-
ref07's disk in memory: a struct, a row of files in a block of its own, bytes that nobody writes to.
-/
import Derived.Test.YtcmjoaepihbodaaDkY
import Derived.Test.YtcmjoaepihbodaaDkM
import Derived.Test.YtcmjoaepihbodaaDkAc
namespace Go.Proofs.Ytcmjoaepihbodaa
open Go.RowKit Go.BigFrame

/-- a row of files in a block that may be written to; what the files hold lies in blocks of S. -/
def RowF (w : World) (base : Nat) (S : Nat → Prop) (v : Value) (fs : List Fl) : Prop := ∃ css, w.ownsRow base 37 3 v fs.length css.flatten ∧ All2 (flR w S) fs css
section
variable {w w' : World} {base : Nat} {S S' : Nat → Prop} {v : Value} {fs : List Fl}
theorem RowF.nil (w : World) (base : Nat) (S : Nat → Prop) : RowF w base S (.slice none 0 0) [] := ⟨[], World.ownsRow_nil _ _ _ _, .nil⟩
theorem RowF.form (h : RowF w base S v fs) : ∃ A c, v = .slice A fs.length c := by
  obtain ⟨css, h1, _⟩ := h
  exact own_form h1
theorem own_kept {e : TypeId} {size n : Nat} {xs : List Value} (h : w.ownsRow base e size v n xs) (hv : ∀ g, v.ownBlock = some g → w'.heap[g]? = w.heap[g]?) : w'.ownsRow base e size v n xs := by
  rcases h.2 with ⟨rfl, h0⟩ | ⟨g, cap, cur, rfl, hbg, hh, r⟩
  · exact ⟨h.1, .inl ⟨rfl, h0⟩⟩
  · exact ⟨h.1, .inr ⟨g, cap, cur, rfl, hbg, (hv g rfl).trans hh, r⟩⟩
theorem RowF.kept (h : RowF w base S v fs) (hz : w.heap.size ≤ w'.heap.size) (hv : ∀ g, v.ownBlock = some g → w'.heap[g]? = w.heap[g]?) (hk : ∀ i, i < w.heap.size → S i → w'.heap[i]? = w.heap[i]?) : RowF w' base S v fs := by
  obtain ⟨css, h1, h2⟩ := h
  exact ⟨css, own_kept h1 hv, h2.imp fun _ _ hx => flFine.keep hx fun _ _ _ _ hr => hr.keep hz hk⟩
theorem RowF.lt (h : RowF w base S v fs) {g : Nat} (hg : v.ownBlock = some g) : base ≤ g ∧ g < w.heap.size := by
  obtain ⟨css, h1, _⟩ := h
  exact h1.lt g hg
theorem RowF.blk (h : RowF w base S v fs) {g : Nat} (hg : v.ownBlock = some g) : ∃ cs : Array Value, w.heap[g]? = some (.cells cs 37 (0, 0)) := by
  obtain ⟨css, h1, _⟩ := h
  exact own_blk h1 hg
theorem RowF.mono (h : RowF w base S v fs) (hS : ∀ i, i < w.heap.size → S i → S' i) : RowF w base S' v fs := by
  obtain ⟨css, h1, h2⟩ := h
  exact ⟨css, h1, h2.imp fun _ _ hx => flFine.keep hx fun _ _ _ _ hr => hr.monoLt hS⟩
theorem RowF.rebase {base' : Nat} (h : RowF w base S v fs) (hb : ∀ g, v.ownBlock = some g → base' ≤ g) : RowF w base' S v fs := by
  obtain ⟨css, h1, h2⟩ := h
  refine ⟨css, ?_, h2⟩
  rcases h1.2 with ⟨rfl, h0⟩ | ⟨g, cap, cur, rfl, hbg, r⟩
  · exact ⟨h1.1, .inl ⟨rfl, h0⟩⟩
  · exact ⟨h1.1, .inr ⟨g, cap, cur, rfl, hb g rfl, r⟩⟩
theorem RowF.below (h : RowF w base S v fs) (hb : Below w.heap.size w w') : RowF w' base S v fs :=
  h.kept hb.size (fun g hg => hb.block g (h.lt hg).2) fun i hi _ => hb.block i hi
theorem RowF.of_own (h : OwnFiles w base v fs) : RowF w base (fun i => base ≤ i ∧ v.ownBlock ≠ some i ∧ Loose w i) v fs := h
theorem RowF.files (h : RowF w base S v fs) (hl : fs.length * 48 ≤ 140737488355328) : FilesV w (fun i => S i ∨ v.ownBlock = some i) v fs := by
  obtain ⟨css, h1, h2⟩ := h
  have h3 : All2 (flR w (fun i => S i ∨ v.ownBlock = some i)) fs css := h2.imp fun _ _ hx => flFine.keep hx fun _ _ _ _ hr => hr.mono fun i hi => .inl hi
  rcases h1.2 with ⟨rfl, h0⟩ | ⟨g, cap, cur, rfl, hbg, hh, hcap, hcm, _⟩
  · have : fs = [] := List.eq_nil_of_length_eq_zero h0
    subst this
    exact ⟨none, 0, css, rfl, Nat.le_refl _, by omega, by simp, ⟨h1.1, fun h => absurd h (by simp)⟩, h3⟩
  · have hlt : g < w.heap.size := (Array.getElem?_eq_some_iff.1 hh).1
    refine ⟨_, _, css, rfl, hcap, by unfold maxLen at hcm; omega, hl, ⟨h1.1, fun _ => ⟨g, 0, rfl, .inr rfl, hlt, fun j u hu => ?_⟩⟩, h3⟩
    have := h1.cells (g := g) rfl j u hu
    rwa [Addr.add_lit] at this
/-- one more at the end. -/
theorem RowF.push {wr w1 w2 : World} {v' : Value} {css : List (List Value)} {x : Fl} {cs : List Value} (hown : wr.ownsRow base 37 3 v fs.length css.flatten) (hys : All2 (flR wr S) fs css) (hb : Below wr.heap.size wr w1) (hx : flR w1 S x cs)
    (hg : w1.grownBy w2 v.ownBlock) (hS : ∀ i, S i → i < base) (hown' : w2.ownsRow base 37 3 v' (fs.length + 1) (css.flatten ++ cs)) : RowF w2 base S v' (fs ++ [x]) := by
  refine ⟨css ++ [cs], by rw [List.length_append, List.flatten_append]; simpa using hown', (hys.imp fun _ _ hy => flFine.keep hy fun A n sz ys hr => ?_).snoc (flFine.keep hx fun A n sz ys hr => ?_)⟩
  · exact (hr.below hb).keep hg.size fun i hi hs => hg.block i hi fun e => by have := hS i hs; have := (hown.lt i e.symm).1; omega
  · exact hr.keep hg.size fun i hi hs => hg.block i hi fun e => by have := hS i hs; have := (hown.lt i e.symm).1; omega
theorem flatten_set {css : List (List Value)} (h : ∀ cs ∈ css, cs.length = 3) {j t : Nat} {cs : List Value} (hj : css[j]? = some cs) (ht : t < 3) (u : Value) : css.flatten.set (j * 3 + t) u = (css.set j (cs.set t u)).flatten := by
  induction css generalizing j with
  | nil => simp at hj
  | cons a l ih =>
    have ha := h a List.mem_cons_self
    cases j with
    | zero =>
      simp at hj
      subst hj
      rw [Nat.zero_mul, Nat.zero_add, List.set_cons_zero, List.flatten_cons, List.flatten_cons, List.set_append_left _ _ (by omega)]
    | succ j =>
      rw [List.set_cons_succ, List.flatten_cons, List.flatten_cons, List.set_append_right _ _ (by rw [ha]; omega), ha, show (j + 1) * 3 + t - 3 = j * 3 + t by omega]
      rw [ih (fun cs hc => h cs (List.mem_cons_of_mem _ hc)) (by simpa using hj)]
theorem All2.set {α β : Type} {P : α → β → Prop} {l : List α} {m : List β} (hl : All2 P l m) (j : Nat) {a : α} {b : β} (h : P a b) : All2 P (l.set j a) (m.set j b) := by
  induction hl generalizing j with
  | nil => exact .nil
  | cons h1 h2 ih =>
    cases j with
    | zero => exact .cons h h2
    | succ j => exact .cons h1 (ih j)
theorem All2.lens {w : World} {S : Nat → Prop} {fs : List Fl} {css : List (List Value)} (h : All2 (flR w S) fs css) : ∀ cs ∈ css, cs.length = 3 := by
  induction h with
  | nil => simp
  | cons h1 _ ih =>
    intro cs hc
    rcases List.mem_cons.1 hc with rfl | hc
    · exact flFine.len h1
    · exact ih cs hc
/-- a store into one of the files. -/
theorem RowF.set {g n c j t : Nat} {f f' : Fl} {u : Value} (h : RowF w base S (.slice (some ⟨g, 0, none⟩) n c) fs) (hS : ∀ i, S i → i ≠ g) (hf : fs[j]? = some f) (ht : t < 3)
    (hR : ∀ cs, flR w S f cs → flR w S f' (cs.set t u)) : RowF (w.setCell ⟨g, j * 3 + t, none⟩ u) base S (.slice (some ⟨g, 0, none⟩) n c) (fs.set j f') := by
  obtain ⟨css, h1, h2⟩ := h
  obtain ⟨cs, hcs, hx⟩ := h2.at_ hf
  have hn : n = fs.length := by
    obtain ⟨A, c', e⟩ := own_form h1
    injection e
  subst hn
  have h3 := (h1.stored (j * 3 + t) u).1
  rw [flatten_set h2.lens hcs ht] at h3
  refine ⟨css.set j (cs.set t u), by rw [List.length_set]; exact h3, ((h2.set j (hR cs hx))).imp fun _ _ hy => flFine.keep hy fun _ _ _ _ hr => hr.keep (by simp [World.setCell]) fun i _ hs => heap_setCell_other w ⟨g, j * 3 + t, none⟩ i u (hS i hs)⟩
end

/-- ref07's disk: what it reads lies in blocks of D. -/
structure RefV (w : World) (base : Nat) (D : Nat → Prop) (r : Nat) (v kv : Value) (k : Pk) : Prop where
  head : w.heap[r]? = some (.cells #[v, .int .i64 k.ops, .int .i64 k.room, kv, .int .i64 k.done, .bool k.down] 49 (0, 0))
  row : RowF w base (fun i => D i ∧ i ≠ r ∧ v.ownBlock ≠ some i) v k.fs
  keep : IntsIn w (fun i => D i ∧ i ≠ r ∧ v.ownBlock ≠ some i) kv k.keep
  lo : base ≤ r
  inD : D r
  rowD : ∀ g, v.ownBlock = some g → D g
def RefP (w : World) (base : Nat) (D : Nat → Prop) (r : Nat) (k : Pk) : Prop := ∃ v kv, RefV w base D r v kv k
section
variable {w w' : World} {base r : Nat} {D D' : Nat → Prop} {v kv : Value} {k : Pk}
theorem RefV.ltR (h : RefV w base D r v kv k) : r < w.heap.size := (Array.getElem?_eq_some_iff.1 h.head).1
theorem RefV.ne (h : RefV w base D r v kv k) {g : Nat} (hg : v.ownBlock = some g) : g ≠ r := by
  rintro rfl
  obtain ⟨cs, hc⟩ := h.row.blk hg
  rw [h.head] at hc
  cases hc
theorem RefV.kept (h : RefV w base D r v kv k) (hz : w.heap.size ≤ w'.heap.size) (hk : ∀ i, i < w.heap.size → D i → w'.heap[i]? = w.heap[i]?) : RefV w' base D r v kv k :=
  ⟨(hk r h.ltR h.inD).trans h.head, h.row.kept hz (fun g hg => hk g (h.row.lt hg).2 (h.rowD g hg)) fun i hi hs => hk i hi hs.1, h.keep.keepR fun _ _ _ _ hr => hr.keep hz fun i hi hs => hk i hi hs.1, h.lo, h.inD, h.rowD⟩
theorem RefV.below (h : RefV w base D r v kv k) (hb : Below w.heap.size w w') : RefV w' base D r v kv k := h.kept hb.size fun i hi _ => hb.block i hi
theorem RefV.mono (h : RefV w base D r v kv k) (hD : ∀ i, i < w.heap.size → D i → D' i) : RefV w base D' r v kv k :=
  ⟨h.head, h.row.mono fun i hi hs => ⟨hD i hi hs.1, hs.2⟩, h.keep.keepR fun _ _ _ _ hr => hr.monoLt fun i hi hs => ⟨hD i hi hs.1, hs.2⟩, h.lo, hD r h.ltR h.inD, fun g hg => hD g (h.row.lt hg).2 (h.rowD g hg)⟩
theorem RefP.below (h : RefP w base D r k) (hb : Below w.heap.size w w') : RefP w' base D r k := by
  obtain ⟨v, kv, h⟩ := h
  exact ⟨v, kv, h.below hb⟩
theorem RefP.only {S : Nat → Prop} (h : RefP w base D r k) (ho : Only S w w') (hS : ∀ i, S i → ¬ D i) : RefP w' base D r k := by
  obtain ⟨v, kv, h⟩ := h
  exact ⟨v, kv, h.kept ho.size fun i hi hd => ho.block i hi fun hs => hS i hs hd⟩
theorem RefP.mono (h : RefP w base D r k) (hD : ∀ i, i < w.heap.size → D i → D' i) : RefP w base D' r k := by
  obtain ⟨v, kv, h⟩ := h
  exact ⟨v, kv, h.mono hD⟩
theorem RefV.cell (h : RefV w base D r v kv k) : w.cell? ⟨r, 0, none⟩ = some v ∧ w.cell? ⟨r, 1, none⟩ = some (.int .i64 k.ops) ∧ w.cell? ⟨r, 2, none⟩ = some (.int .i64 k.room) ∧ w.cell? ⟨r, 3, none⟩ = some kv ∧ w.cell? ⟨r, 4, none⟩ = some (.int .i64 k.done) ∧ w.cell? ⟨r, 5, none⟩ = some (.bool k.down) := by
  refine ⟨?_, ?_, ?_, ?_, ?_, ?_⟩ <;> (rw [cell_of_row w r _ _ _ _ h.head]; rfl)
theorem RefV.frozen (h : RefV w base D r v kv k) (i : Nat) : w.frozen? ⟨r, i, none⟩ = false := frozen_of_row w r i _ _ h.head
theorem RefV.files (h : RefV w base D r v kv k) (hl : k.fs.length * 48 ≤ 140737488355328) : FilesV w (fun i => D i ∧ i ≠ r) v k.fs :=
  (h.row.files hl).mono flFine fun i hi => hi.elim (fun h => ⟨h.1, h.2.1⟩) fun e => ⟨h.rowD i e, h.ne e⟩
/-- a store into the head. -/
theorem RefV.store {v' kv' : Value} {k' : Pk} {D0 : Nat → Prop} (h : RefV w base D0 r v kv k) (hDr : D r) (i : Nat) (u : Value) (hrow : RowF w base (fun i => D i ∧ i ≠ r ∧ v'.ownBlock ≠ some i) v' k'.fs) (hkeep : IntsIn w (fun i => D i ∧ i ≠ r ∧ v'.ownBlock ≠ some i) kv' k'.keep) (hD : ∀ g, v'.ownBlock = some g → D g)
    (hc : #[v', .int .i64 k'.ops, .int .i64 k'.room, kv', .int .i64 k'.done, .bool k'.down] = (#[v, .int .i64 k.ops, .int .i64 k.room, kv, .int .i64 k.done, .bool k.down] : Array Value).setIfInBounds i u) : RefV (w.setCell ⟨r, i, none⟩ u) base D r v' kv' k' := by
  have hne : ∀ j, j ≠ r → (w.setCell ⟨r, i, none⟩ u).heap[j]? = w.heap[j]? := fun j hj => heap_setCell_other w ⟨r, i, none⟩ j u hj
  have hz : w.heap.size ≤ (w.setCell ⟨r, i, none⟩ u).heap.size := by simp [World.setCell]
  refine ⟨?_, hrow.kept hz (fun g hg => hne g ?_) fun j _ hs => hne j hs.2.1, hkeep.keepR fun _ _ _ _ hr => hr.keep hz fun j _ hs => hne j hs.2.1, h.lo, hDr, hD⟩
  · rw [hc]
    exact heap_setCell_same w r i _ _ u h.head
  · rintro rfl
    obtain ⟨cs, hc⟩ := hrow.blk hg
    rw [h.head] at hc
    cases hc
/-- a store into one of the files. -/
theorem RefV.put {g n c j t : Nat} {f f' : Fl} {u : Value} (h : RefV w base D r (.slice (some ⟨g, 0, none⟩) n c) kv k) (hf : k.fs[j]? = some f) (ht : t < 3)
    (hR : ∀ cs, flR w (fun i => D i ∧ i ≠ r ∧ g ≠ i) f cs → flR w (fun i => D i ∧ i ≠ r ∧ g ≠ i) f' (cs.set t u)) : RefV (w.setCell ⟨g, j * 3 + t, none⟩ u) base D r (.slice (some ⟨g, 0, none⟩) n c) kv { k with fs := k.fs.set j f' } := by
  have hne : ∀ i, i ≠ g → (w.setCell ⟨g, j * 3 + t, none⟩ u).heap[i]? = w.heap[i]? := fun i hi => heap_setCell_other w ⟨g, j * 3 + t, none⟩ i u hi
  have hz : w.heap.size ≤ (w.setCell ⟨g, j * 3 + t, none⟩ u).heap.size := by simp [World.setCell]
  have hE : ∀ i, (D i ∧ i ≠ r ∧ g ≠ i) → (D i ∧ i ≠ r ∧ Value.ownBlock (.slice (some ⟨g, 0, none⟩) n c) ≠ some i) := fun i hi => ⟨hi.1, hi.2.1, fun e => hi.2.2 (Option.some.inj e)⟩
  have hE' : ∀ i, (D i ∧ i ≠ r ∧ Value.ownBlock (.slice (some ⟨g, 0, none⟩) n c) ≠ some i) → (D i ∧ i ≠ r ∧ g ≠ i) := fun i hi => ⟨hi.1, hi.2.1, fun e => hi.2.2 (by rw [e]; rfl)⟩
  refine ⟨(hne r fun e => h.ne (g := g) rfl e.symm).trans h.head, ?_, h.keep.keepR fun _ _ _ _ hr => hr.keep hz fun i _ hs => hne i fun e => (hE' i hs).2.2 e.symm, h.lo, h.inD, h.rowD⟩
  exact ((h.row.mono fun i _ hi => hE' i hi).set (fun i hi e => hi.2.2 e.symm) hf ht hR).mono fun i _ hi => hE i hi
/-- what a file's cells hold. -/
theorem RefV.file {j : Nat} {f : Fl} (h : RefV w base D r v kv k) (hl : k.fs.length * 48 ≤ 140737488355328) (hf : k.fs[j]? = some f) :
    ∃ g c A d, v = .slice (some ⟨g, 0, none⟩) k.fs.length c ∧ g < w.heap.size ∧ base ≤ g ∧ D g ∧ g ≠ r ∧ Byt w (fun i => D i ∧ i ≠ r ∧ g ≠ i) (.slice A f.data.length d) f.data ∧ f.name.length ≤ 140737488355328 ∧
      w.cell? ⟨g, j * 3, none⟩ = some (.string ⟨f.name.toArray⟩) ∧ w.cell? ⟨g, j * 3 + 1, none⟩ = some (.slice A f.data.length d) ∧ w.cell? ⟨g, j * 3 + 2, none⟩ = some (.int .i64 f.synced) ∧ ∀ i, w.frozen? ⟨g, i, none⟩ = false := by
  obtain ⟨css, h1, h2⟩ := h.row
  have hlt := (List.getElem?_eq_some_iff.1 hf).1
  obtain ⟨g, c, rfl, hb, hg, _, _⟩ := own_pos h1 (by omega)
  obtain ⟨cs, hcs, ⟨vd, rfl, hvd, hnl⟩⟩ := h2.at_ hf
  obtain ⟨A, d, rfl⟩ := slice_form hvd
  have hc : ∀ t u, [Value.string ⟨f.name.toArray⟩, .slice A f.data.length d, .int .i64 f.synced][t]? = some u → w.cell? ⟨g, j * 3 + t, none⟩ = some u := fun t u hu => by
    have := h1.cells (g := g) rfl _ _ (flat_at h2.lens hcs hu)
    rwa [Addr.add_lit, Nat.zero_add] at this
  exact ⟨g, c, A, d, rfl, hg, hb, h.rowD g rfl, h.ne rfl, hvd.mono fun i hi => ⟨hi.1, hi.2.1, fun e => hi.2.2 (by rw [e]; rfl)⟩, hnl, hc 0 _ rfl, hc 1 _ rfl, hc 2 _ rfl, fun i => h1.frozenAt i⟩
end
end Go.Proofs.Ytcmjoaepihbodaa
