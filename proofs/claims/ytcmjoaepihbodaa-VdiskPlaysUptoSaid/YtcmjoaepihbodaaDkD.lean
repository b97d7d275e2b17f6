/-
The disk in memory, and what leaves it as it is.
-/
import Derived.Test.YtcmjoaepihbodaaDkP
namespace Go.Proofs.Ytcmjoaepihbodaa
open Go.RowKit Go.BigFrame Go.Sort Go.Shelf Go.Lib Go.Maps
attribute [local go_sem ↓] Go.wp_at_zero Go.wp_at_succ

structure FileV (w : World) (F : Nat → Prop) (f : Fd) : Prop where
  cells : w.heap[f.blk]? = some (.cells #[f.sl, .int .i64 f.synced] 75 (0, 0))
  own : OwnB w F f.sl f.data
  lo : F f.blk
/-- the plan's own copy of the numbers. -/
def KeepV (w : World) (F : Nat → Prop) (kv : Value) (keep : List Int) : Prop :=
  ∃ A c, kv = .slice A keep.length c ∧ keep.length ≤ c ∧ keep.length ≤ 140737488355328 ∧ (0 < keep.length → ∃ (g o : Nat) (cs : Array Value), A = some ⟨g, o, none⟩ ∧ F g ∧ w.heap[g]? = some (.cells cs 3 (0, 0)) ∧ ∀ j z, keep[j]? = some z → cs[o + j]? = some (.int .i64 z))
structure DiskV (w : World) (F : Nat → Prop) (p mb : Nat) (kv : Value) (d : Dk) : Prop where
  head : w.heap[p]? = some (.cells #[.map (some mb), .int .i64 d.ops, .int .i64 d.room, kv, .int .i64 d.done, .int .i64 d.bytes, .bool d.down] 72 (0, 0))
  map : ∃ D, w.ownsMap Try.prog 9 ptrR mb d.ns.length D ∧ MapIs D d.ns
  files : ∀ f ∈ d.ns, FileV w F f
  keep : KeepV w F kv d.keep
  names : ∀ f ∈ d.ns, nameB f.name = true
  sorted : sortedF d.ns
  blks : d.ns.Pairwise fun a b => a.blk ≠ b.blk
  sls : d.ns.Pairwise fun a b => ∀ g, blkB a.sl = some g → blkB b.sl ≠ some g
  loP : F p
  loM : F mb
/-- a disk at p that is k. -/
def DiskP (w : World) (F : Nat → Prop) (p : Nat) (k : Pk) : Prop := ∃ mb kv d, DiskV w F p mb kv d ∧ d.pk = k
section
variable {w w' : World} {F : Nat → Prop} {p mb : Nat} {kv : Value} {d : Dk}
theorem KeepV.kept {keep : List Int} (h : KeepV w F kv keep) (hk : ∀ g cs, F g → w.heap[g]? = some (.cells cs 3 (0, 0)) → w'.heap[g]? = w.heap[g]?) : KeepV w' F kv keep := by
  obtain ⟨A, c, e, h1, h2, h3⟩ := h
  refine ⟨A, c, e, h1, h2, fun hn => ?_⟩
  obtain ⟨g, o, cs, e1, e2, e3, e4⟩ := h3 hn
  exact ⟨g, o, cs, e1, e2, (hk g cs e2 e3).trans e3, e4⟩
theorem FileV.below {f : Fd} (h : FileV w F f) (hb : Below w.heap.size w w') : FileV w' F f :=
  ⟨(hb.block _ (Array.getElem?_eq_some_iff.1 h.cells).1).trans h.cells, h.own.below hb, h.lo⟩
theorem DiskV.ltP (h : DiskV w F p mb kv d) : p < w.heap.size := (Array.getElem?_eq_some_iff.1 h.head).1
theorem DiskV.ltM (h : DiskV w F p mb kv d) : mb < w.heap.size := by obtain ⟨D, h, _⟩ := h.map; exact h.lt
theorem ownsMap_block {D : DataW Unit} {n : Nat} (h : w.ownsMap Try.prog 9 ptrR mb n D) (he : w'.heap[mb]? = w.heap[mb]?) : w'.ownsMap Try.prog 9 ptrR mb n D := by
  obtain ⟨es, clock, hb, r⟩ := h
  exact ⟨es, clock, he.trans hb, r⟩
/-- the disk stands where none of its blocks turns. -/
theorem DiskV.kept (h : DiskV w F p mb kv d) (hk : ∀ i, F i → i < w.heap.size → w'.heap[i]? = w.heap[i]?) : DiskV w' F p mb kv d := by
  obtain ⟨D, hm, hD⟩ := h.map
  refine ⟨(hk p h.loP h.ltP).trans h.head, ⟨D, ownsMap_block hm (hk mb h.loM h.ltM), hD⟩, fun f hf => ?_, h.keep.kept fun g cs hg hc => hk g hg (Array.getElem?_eq_some_iff.1 hc).1, h.names, h.sorted, h.blks, h.sls, h.loP, h.loM⟩
  have hv := h.files f hf
  exact ⟨(hk _ hv.lo (Array.getElem?_eq_some_iff.1 hv.cells).1).trans hv.cells, hv.own.kept fun g hg => hk g (hv.own.blk hg).1 (hv.own.blk hg).2.2, hv.lo⟩
theorem DiskV.below (h : DiskV w F p mb kv d) (hb : Below w.heap.size w w') : DiskV w' F p mb kv d := h.kept fun i _ hi => hb.block i hi
theorem DiskV.only {S : Nat → Prop} (h : DiskV w F p mb kv d) (ho : Only S w w') (hS : ∀ i, S i → ¬ F i) : DiskV w' F p mb kv d := h.kept fun i hb hi => ho.block i hi fun hs => hS i hs hb
theorem DiskP.below {k : Pk} (h : DiskP w F p k) (hb : Below w.heap.size w w') : DiskP w' F p k := by
  obtain ⟨mb, kv, d, h, e⟩ := h
  exact ⟨mb, kv, d, h.below hb, e⟩
theorem DiskP.only {S : Nat → Prop} {k : Pk} (h : DiskP w F p k) (ho : Only S w w') (hS : ∀ i, S i → ¬ F i) : DiskP w' F p k := by
  obtain ⟨mb, kv, d, h, e⟩ := h
  exact ⟨mb, kv, d, h.only ho hS, e⟩
theorem FileV.mono {F' : Nat → Prop} {f : Fd} (h : FileV w F f) (hF : ∀ i, F i → i < w.heap.size → F' i) : FileV w F' f := by
  refine ⟨h.cells, ?_, hF _ h.lo (Array.getElem?_eq_some_iff.1 h.cells).1⟩
  obtain ⟨A, c, e, h1, h2, h3, h4⟩ := h.own
  exact ⟨A, c, e, h1, h2, h3, h4.imp id fun ⟨g, cur, a, b, e1, r⟩ => ⟨g, cur, a, hF g b (Array.getElem?_eq_some_iff.1 e1).1, e1, r⟩⟩
theorem KeepV.mono {F' : Nat → Prop} {keep : List Int} (h : KeepV w F kv keep) (hF : ∀ i, F i → i < w.heap.size → F' i) : KeepV w F' kv keep := by
  obtain ⟨A, c, e, h1, h2, h3⟩ := h
  refine ⟨A, c, e, h1, h2, fun hn => ?_⟩
  obtain ⟨g, o, cs, e1, e2, e3, e4⟩ := h3 hn
  exact ⟨g, o, cs, e1, hF g e2 (Array.getElem?_eq_some_iff.1 e3).1, e3, e4⟩
/-- another set that holds the disk's blocks. -/
theorem DiskV.mono {F' : Nat → Prop} (h : DiskV w F p mb kv d) (hF : ∀ i, F i → i < w.heap.size → F' i) : DiskV w F' p mb kv d :=
  ⟨h.head, h.map, fun f hf => (h.files f hf).mono hF, h.keep.mono hF, h.names, h.sorted, h.blks, h.sls, hF p h.loP h.ltP, hF mb h.loM h.ltM⟩
theorem DiskP.mono {F' : Nat → Prop} {k : Pk} (h : DiskP w F p k) (hF : ∀ i, F i → i < w.heap.size → F' i) : DiskP w F' p k := by
  obtain ⟨mb, kv, d, h, e⟩ := h
  exact ⟨mb, kv, d, h.mono hF, e⟩
/-- the blocks of F and whatever is laid from n on. -/
def orNew (F : Nat → Prop) (n i : Nat) : Prop := F i ∨ n ≤ i
/-- the head's cells. -/
theorem DiskV.cell (h : DiskV w F p mb kv d) : w.cell? ⟨p, 0, none⟩ = some (.map (some mb)) ∧ w.cell? ⟨p, 1, none⟩ = some (.int .i64 d.ops) ∧ w.cell? ⟨p, 2, none⟩ = some (.int .i64 d.room) ∧ w.cell? ⟨p, 3, none⟩ = some kv ∧ w.cell? ⟨p, 4, none⟩ = some (.int .i64 d.done) ∧ w.cell? ⟨p, 5, none⟩ = some (.int .i64 d.bytes) ∧ w.cell? ⟨p, 6, none⟩ = some (.bool d.down) := by
  refine ⟨?_, ?_, ?_, ?_, ?_, ?_, ?_⟩ <;> (rw [cell_of_row w p _ _ _ _ h.head]; rfl)
theorem DiskV.frozen (h : DiskV w F p mb kv d) (i : Nat) : w.frozen? ⟨p, i, none⟩ = false := frozen_of_row w p i _ _ h.head
/-- a store into the head. -/
theorem DiskV.store (h : DiskV w F p mb kv d) (i : Nat) (v : Value) (d' : Dk) (kv' : Value) (hn : d'.ns = d.ns) (hkp : KeepV w F kv' d'.keep)
    (hc : #[Value.map (some mb), .int .i64 d'.ops, .int .i64 d'.room, kv', .int .i64 d'.done, .int .i64 d'.bytes, .bool d'.down] = (#[Value.map (some mb), .int .i64 d.ops, .int .i64 d.room, kv, .int .i64 d.done, .int .i64 d.bytes, .bool d.down] : Array Value).setIfInBounds i v) : DiskV (w.setCell ⟨p, i, none⟩ v) F p mb kv' d' := by
  obtain ⟨D, hm, hD⟩ := h.map
  have hne : ∀ j, j ≠ p → (w.setCell ⟨p, i, none⟩ v).heap[j]? = w.heap[j]? := fun j hj => heap_setCell_other w ⟨p, i, none⟩ j v hj
  have hty : ∀ j cs (t : TypeId), w.heap[j]? = some (.cells cs t (0, 0)) → t ≠ 72 → j ≠ p := fun j cs t hj ht e => by
    subst e
    rw [h.head] at hj
    injection hj with hj
    injection hj with _ hj
    exact ht hj.symm
  have hmp : mb ≠ p := by
    rintro rfl
    obtain ⟨es, clock, hb, _⟩ := hm
    rw [h.head] at hb
    cases hb
  refine ⟨?_, ⟨D, by rw [hn]; exact ownsMap_block hm (hne mb hmp), by rw [hn]; exact hD⟩, fun f hf => ?_, hkp.kept fun g cs hg hcs => hne g (hty g cs _ hcs (by decide)), by rw [hn]; exact h.names, by rw [hn]; exact h.sorted, by rw [hn]; exact h.blks, by rw [hn]; exact h.sls, h.loP, h.loM⟩
  · rw [hc]
    exact heap_setCell_same w p i _ _ v h.head
  · rw [hn] at hf
    have hv := h.files f hf
    exact ⟨(hne _ (hty _ _ _ hv.cells (by decide))).trans hv.cells, hv.own.kept fun g hg => hne g (by obtain ⟨cs, hL⟩ := (hv.own.blk hg).2.1; exact hty g cs _ hL (by decide)), hv.lo⟩
end
theorem law_str : Keyed Try.prog 9 := string_keyed Try.underlying9
theorem zero_ptr (w : World) : (zeroValue 69).run Try.prog w = .ok (.pointer none) w := by kernel_rfl
theorem key_str (x : Nm) (hl : x.length ≤ 140737488355328) : keyOf Try.prog 9 (.string ⟨x.toArray⟩) = some (.string x) := by
  have := WideMaps.keyOf_string_mk (P := Try.prog) (k := 9) Try.underlying9 (s := ⟨x.toArray⟩) (by simp [ByteArray.size, maxLen]; omega)
  simpa using this
/-- the look-up of a name. -/
theorem DiskV.look {w : World} {F : Nat → Prop} {p mb : Nat} {kv : Value} {d : Dk} (h : DiskV w F p mb kv d) (x : Nm) (hl : x.length ≤ 140737488355328) :
    (Instr.lookup 70 (.map (some mb)) (.string ⟨x.toArray⟩) false).run Try.prog w = .ok (ptrF (findF x d.ns)) w := by
  obtain ⟨D, hm, hD⟩ := h.map
  obtain ⟨v, ps, hrun, hR⟩ := hm.lookup law_str Try.underlying70 (zero_ptr w) (zd := .lit (.bool false)) (zp := []) rfl (key_str x hl)
  rw [hD.at_] at hR
  rw [hrun, ptrR_inv hR]
end Go.Proofs.Ytcmjoaepihbodaa
