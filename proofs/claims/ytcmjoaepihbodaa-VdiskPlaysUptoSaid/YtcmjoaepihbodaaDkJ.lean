/-
The disk's calls, where the disk lies in memory made since 'base'.
-/
import Derived.Test.YtcmjoaepihbodaaDkI
namespace Go.Proofs.Ytcmjoaepihbodaa
open Go.RowKit Go.BigFrame Go.Sort Go.Shelf Go.Lib Go.Maps

theorem Byt.lit (w : World) (S : Nat → Prop) (hS : S w.heap.size) (e : TypeId) (bs : List UInt8) (hl : bs.length ≤ 140737488355328) (o : Obj) (ho : o = .cells (bs.map bcell).toArray e (0, 0)) :
    Byt (w.alloc o) S (.slice (some ⟨w.heap.size, 0, none⟩) bs.length bs.length) bs := by
  subst ho
  refine ⟨_, _, rfl, Nat.le_refl _, by omega, hl, by simp, fun _ => ⟨w.heap.size, 0, rfl, hS, by simp, fun j u hu => ?_⟩⟩
  rw [World.cell?_alloc_at _ _ _ _ rfl]
  simpa using hu
/-- a disk at p that is k, in blocks from base on. -/
def DkP (w : World) (base p : Nat) (k : Pk) : Prop := ∃ F, DiskP w F p k ∧ ∀ i, F i → base ≤ i ∧ i < w.heap.size
theorem DkP.below {w w' : World} {base p : Nat} {k : Pk} (h : DkP w base p k) (hb : Below w.heap.size w w') : DkP w' base p k := by
  obtain ⟨F, h, hF⟩ := h
  exact ⟨F, h.below hb, fun i hi => ⟨(hF i hi).1, by have := (hF i hi).2; have := hb.size; omega⟩⟩
theorem DkP.made {w : World} {F : Nat → Prop} {base p : Nat} {k : Pk} (h : DiskP w F p k) (hF : ∀ i, F i → i < w.heap.size → base ≤ i) : DkP w base p k :=
  ⟨fun i => base ≤ i ∧ i < w.heap.size, h.mono fun i hi hl => ⟨hF i hi hl, hl⟩, fun _ hi => hi⟩
theorem DkP.base {w : World} {base b' p : Nat} {k : Pk} (h : DkP w base p k) (hb : b' ≤ base) : DkP w b' p k := by
  obtain ⟨F, h, hF⟩ := h
  exact ⟨F, h, fun i hi => ⟨Nat.le_trans hb (hF i hi).1, (hF i hi).2⟩⟩
section
variable {w w2 : World} {base p : Nat} {k : Pk}
theorem new_dk (S : Nat → Prop) (ops room : Int) (v : Value) (zs : List Int) (w : World) (hz : IntsIn w S v zs) (hl : zs.length * 8 ≤ 140737488355328) (base : Nat) (hbase : base ≤ w.heap.size) :
    Calls Try.prog 21 #[.agg #[.int .i64 ops, .int .i64 room, v]] w fun r w' => ∃ p, r = .returned (.pointer (some ⟨p, 0, none⟩)) ∧ DkP w' base p ⟨[], ops, room, zs, 0, 0, false⟩ ∧ Below w.heap.size w w' := by
  refine (new_any S ops room v zs w hz hl).mono ?_
  rintro r w' ⟨p, rfl, h, hb⟩
  exact ⟨p, rfl, .made h fun i hi _ => Nat.le_trans hbase hi, hb⟩
theorem append_dk (x : Nm) (v : Value) (b : List UInt8) (h : DkP w base p k) (hb : Below w.heap.size w w2) (hbase : base ≤ w.heap.size) (hv : Byt w2 (fun i => w.heap.size ≤ i) v b) (hx : x.length ≤ 140737488355328) (hd : 0 ≤ k.done) (hd' : k.done < 4611686018427387904)
    (hlen : ∀ f, findP x k.fs = some f → f.data.length + b.length ≤ 140737488355328) (hmany : k.fs.length < 9223372036854775807) :
    Calls Try.prog 15 #[.pointer (some ⟨p, 0, none⟩), .string ⟨x.toArray⟩, v] w2 fun r w' => r = .returned (.int .i64 (appendE k x b)) ∧ DkP w' base p (appendK k x b) ∧ Below base w2 w' ∧ ∀ X, w.heap.size ≤ X → X < w2.heap.size → w'.heap[X]? = w2.heap[X]? := by
  obtain ⟨F, h, hF⟩ := h
  refine (append_any F p k x _ v b w2 (h.below hb) hv (fun i hi hf => by have := (hF i hf).2; omega) hx hd hd' hlen hmany).mono ?_
  rintro r w' ⟨rfl, h', ho⟩
  have hs := hb.size
  exact ⟨rfl, .made h' fun i hi _ => hi.elim (fun hi => (hF i hi).1) (fun hi => by omega), ho.below (by omega) fun i hi => (hF i hi).1, fun X h1 h2 => ho.block X h2 fun hf => by have := (hF X hf).2; omega⟩
theorem sync_dk (x : Nm) (h : DkP w base p k) (hbase : base ≤ w.heap.size) (hx : x.length ≤ 140737488355328) (hd : 0 ≤ k.done) (hd' : k.done < 4611686018427387904) :
    Calls Try.prog 22 #[.pointer (some ⟨p, 0, none⟩), .string ⟨x.toArray⟩] w fun r w' => r = .returned (.int .i64 (syncE k x)) ∧ DkP w' base p (syncK k x) ∧ Below base w w' := by
  obtain ⟨F, h, hF⟩ := h
  refine (sync_any F p k x w h hx hd hd').mono ?_
  rintro r w' ⟨rfl, h', ho⟩
  exact ⟨rfl, .made h' fun i hi _ => (hF i hi).1, ho.below hbase fun i hi => (hF i hi).1⟩
theorem delete_dk (x : Nm) (h : DkP w base p k) (hbase : base ≤ w.heap.size) (hx : x.length ≤ 140737488355328) (hd : 0 ≤ k.done) (hd' : k.done < 4611686018427387904) :
    Calls Try.prog 24 #[.pointer (some ⟨p, 0, none⟩), .string ⟨x.toArray⟩] w fun r w' => r = .returned (.int .i64 (syncE k x)) ∧ DkP w' base p (deleteK k x) ∧ Below base w w' := by
  obtain ⟨F, h, hF⟩ := h
  refine (delete_any F p k x w h hx hd hd').mono ?_
  rintro r w' ⟨rfl, h', ho⟩
  exact ⟨rfl, .made h' fun i hi _ => (hF i hi).1, ho.below hbase fun i hi => (hF i hi).1⟩
theorem rename_dk (x y : Nm) (h : DkP w base p k) (hbase : base ≤ w.heap.size) (hx : x.length ≤ 140737488355328) (hy : y.length ≤ 140737488355328) (hd : 0 ≤ k.done) (hd' : k.done < 4611686018427387904) (hmany : k.fs.length < 9223372036854775807) :
    Calls Try.prog 23 #[.pointer (some ⟨p, 0, none⟩), .string ⟨x.toArray⟩, .string ⟨y.toArray⟩] w fun r w' => r = .returned (.int .i64 (renameE k x y)) ∧ DkP w' base p (renameK k x y) ∧ Below base w w' := by
  obtain ⟨F, h, hF⟩ := h
  refine (rename_any F p k x y w h hx hy hd hd' hmany).mono ?_
  rintro r w' ⟨rfl, h', ho⟩
  exact ⟨rfl, .made h' fun i hi _ => (hF i hi).1, ho.below hbase fun i hi => (hF i hi).1⟩
theorem revive_dk (S : Nat → Prop) (ops room : Int) (v : Value) (zs : List Int) (h : DkP w base p k) (hb : Below w.heap.size w w2) (hbase : base ≤ w.heap.size) (hok : okFs k.fs) (hmany : k.fs.length * 16 ≤ 140737488355328) (hz : IntsIn w2 S v zs) (hS : ∀ i, S i → i < base ∨ w.heap.size ≤ i) (hl : zs.length * 8 ≤ 140737488355328) :
    Calls Try.prog 13 #[.pointer (some ⟨p, 0, none⟩), .agg #[.int .i64 ops, .int .i64 room, v]] w2 fun r w' => r = .returned (.int .i64 0) ∧ DkP w' base p (reviveK k ops room zs) ∧ Below base w2 w' ∧ ∀ X, w.heap.size ≤ X → X < w2.heap.size → w'.heap[X]? = w2.heap[X]? := by
  obtain ⟨F, h, hF⟩ := h
  refine (revive_any F p k S ops room v zs w2 (h.below hb) hok hmany hz (fun i hi hf => by have := (hF i hf); have := hS i hi; omega) hl).mono ?_
  rintro r w' ⟨rfl, h', ho⟩
  have hs := hb.size
  exact ⟨rfl, .made h' fun i hi _ => hi.elim (fun hi => (hF i hi).1) (fun hi => by omega), ho.below (by omega) fun i hi => (hF i hi).1, fun X h1 h2 => ho.block X h2 fun hf => by have := (hF X hf).2; omega⟩
theorem read_dk (x : Nm) (h : DkP w base p k) (hx : x.length ≤ 140737488355328) :
    Calls Try.prog 19 #[.pointer (some ⟨p, 0, none⟩), .string ⟨x.toArray⟩] w fun r w' => ∃ v, r = .returned (.tuple #[v, .int .i64 (readyE k [x])]) ∧ BytL w' w.heap.size v (if readyE k [x] = 0 then readD k x else []) ∧ DkP w' base p k ∧ Below w.heap.size w w' := by
  have h0 := h
  obtain ⟨F, h, hF⟩ := h
  refine (read_any F p k x w h hx).mono ?_
  rintro r w' ⟨v, rfl, hv, hb⟩
  exact ⟨v, rfl, hv, h0.below hb, hb⟩
theorem list_dk (h : DkP w base p k) (hl : k.fs.length * 16 ≤ 140737488355328) :
    Calls Try.prog 25 #[.pointer (some ⟨p, 0, none⟩)] w fun r w' => ∃ v, r = .returned (.tuple #[v, .int .i64 (readyE k [])]) ∧ OwnS w' w.heap.size v (listP k) ∧ DkP w' base p k ∧ Below w.heap.size w w' := by
  have h0 := h
  obtain ⟨F, h, hF⟩ := h
  refine (list_any F p k w h hl).mono ?_
  rintro r w' ⟨v, rfl, hv, hb⟩
  exact ⟨v, rfl, hv, h0.below hb, hb⟩
theorem dump_dk (h : DkP w base p k) (hl : k.fs.length * 48 ≤ 140737488355328) :
    Calls Try.prog 12 #[.pointer (some ⟨p, 0, none⟩)] w fun r w' => ∃ v, r = .returned v ∧ OwnFiles w' w.heap.size v k.fs ∧ DkP w' base p k ∧ Below w.heap.size w w' := by
  have h0 := h
  obtain ⟨F, h, hF⟩ := h
  refine (dump_any F p k w h hl).mono ?_
  rintro r w' ⟨v, rfl, hv, hb⟩
  exact ⟨v, rfl, hv, h0.below hb, hb⟩
end
end Go.Proofs.Ytcmjoaepihbodaa
