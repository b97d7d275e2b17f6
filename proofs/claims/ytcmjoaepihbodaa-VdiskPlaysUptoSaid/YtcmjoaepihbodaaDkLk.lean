/-
vdisk's disk and ref07's, side by side in memory.
-/
import Derived.Test.YtcmjoaepihbodaaDkLf
import Derived.Test.YtcmjoaepihbodaaDkLj
namespace Go.Proofs.Ytcmjoaepihbodaa
open Go.RowKit Go.BigFrame

/-- the two disks, in blocks from 'base' on, apart, and apart from the blocks of X. -/
def J2 (w : World) (base : Nat) (X : Nat → Prop) (p r : Nat) (k1 k2 : Pk) : Prop :=
  base ≤ w.heap.size ∧ (∀ i, X i → base ≤ i ∧ i < w.heap.size) ∧ ∃ F D, DiskP w F p k1 ∧ RefP w base D r k2 ∧ (∀ i, F i → base ≤ i ∧ i < w.heap.size ∧ ¬ X i) ∧ (∀ i, D i → i < w.heap.size ∧ ¬ X i) ∧ ∀ i, F i → ¬ D i
/-- what a call at one of them may write to. -/
abbrev Wr (base : Nat) (X : Nat → Prop) (i : Nat) : Prop := base ≤ i ∧ ¬ X i
section
variable {w w' : World} {base p r : Nat} {X : Nat → Prop} {k1 k2 k' : Pk}
theorem J2.below (h : J2 w base X p r k1 k2) (hb : Below w.heap.size w w') : J2 w' base X p r k1 k2 := by
  obtain ⟨h1, h2, F, D, h3, h4, h5, h6, h7⟩ := h
  have hz := hb.size
  exact ⟨Nat.le_trans h1 hz, fun i hi => ⟨(h2 i hi).1, Nat.lt_of_lt_of_le (h2 i hi).2 hz⟩, F, D, h3.below hb, h4.below hb, fun i hi => ⟨(h5 i hi).1, Nat.lt_of_lt_of_le (h5 i hi).2.1 hz, (h5 i hi).2.2⟩, fun i hi => ⟨Nat.lt_of_lt_of_le (h6 i hi).1 hz, (h6 i hi).2⟩, h7⟩
theorem J2.guard {Y : Nat → Prop} (h : J2 w base (fun _ => False) p r k1 k2) (hb : Below w.heap.size w w') (hY : ∀ i, Y i → w.heap.size ≤ i ∧ i < w'.heap.size) : J2 w' base Y p r k1 k2 := by
  obtain ⟨h1, h2, F, D, h3, h4, h5, h6, h7⟩ := h
  have hz := hb.size
  exact ⟨Nat.le_trans h1 hz, fun i hi => ⟨Nat.le_trans h1 (hY i hi).1, (hY i hi).2⟩, F, D, h3.below hb, h4.below hb, fun i hi => ⟨(h5 i hi).1, Nat.lt_of_lt_of_le (h5 i hi).2.1 hz, fun hy => by have := (hY i hy).1; have := (h5 i hi).2.1; omega⟩, fun i hi => ⟨Nat.lt_of_lt_of_le (h6 i hi).1 hz, fun hy => by have := (hY i hy).1; have := (h6 i hi).1; omega⟩, h7⟩
theorem J2.free (h : J2 w base X p r k1 k2) : J2 w base (fun _ => False) p r k1 k2 := by
  obtain ⟨h1, h2, F, D, h3, h4, h5, h6, h7⟩ := h
  exact ⟨h1, fun _ h => h.elim, F, D, h3, h4, fun i hi => ⟨(h5 i hi).1, (h5 i hi).2.1, fun h => h⟩, fun i hi => ⟨(h6 i hi).1, fun h => h⟩, h7⟩
/-- behind a call at vdisk's disk. -/
theorem J2.dmove {F D : Nat → Prop} (h1 : base ≤ w.heap.size) (h2 : ∀ i, X i → base ≤ i ∧ i < w.heap.size) (h4 : RefP w base D r k2) (h5 : ∀ i, F i → base ≤ i ∧ i < w.heap.size ∧ ¬ X i) (h6 : ∀ i, D i → i < w.heap.size ∧ ¬ X i) (h7 : ∀ i, F i → ¬ D i)
    (hd : DiskP w' (orNew F w.heap.size) p k') (ho : Only F w w') : J2 w' base X p r k' k2 ∧ Only (Wr base X) w w' := by
  have hz := ho.size
  refine ⟨⟨Nat.le_trans h1 hz, fun i hi => ⟨(h2 i hi).1, Nat.lt_of_lt_of_le (h2 i hi).2 hz⟩, fun i => orNew F w.heap.size i ∧ i < w'.heap.size, D, hd.mono fun i hi hl => ⟨hi, hl⟩, h4.only ho fun i hi hd => h7 i hi hd, fun i hi => ?_, fun i hi => ⟨Nat.lt_of_lt_of_le (h6 i hi).1 hz, (h6 i hi).2⟩, fun i hi hd => ?_⟩, ho.mono fun i hi => ⟨(h5 i hi).1, (h5 i hi).2.2⟩⟩
  · rcases hi.1 with h | h
    · exact ⟨(h5 i h).1, hi.2, (h5 i h).2.2⟩
    · exact ⟨Nat.le_trans h1 h, hi.2, fun hx => by have := (h2 i hx).2; omega⟩
  · rcases hi.1 with h | h
    · exact h7 i h hd
    · have := (h6 i hd).1; omega
/-- behind a call at ref07's disk. -/
theorem J2.rmove {F D D' : Nat → Prop} (h1 : base ≤ w.heap.size) (h2 : ∀ i, X i → base ≤ i ∧ i < w.heap.size) (h3 : DiskP w F p k1) (h5 : ∀ i, F i → base ≤ i ∧ i < w.heap.size ∧ ¬ X i) (h6 : ∀ i, D i → i < w.heap.size ∧ ¬ X i) (h7 : ∀ i, F i → ¬ D i)
    (hD' : ∀ i, D' i → D i ∨ i < base) (hr : RefP w' base (orNew D' w.heap.size) r k') (ho : Only (Own D base) w w') : J2 w' base X p r k1 k' ∧ Only (Wr base X) w w' := by
  have hz := ho.size
  refine ⟨⟨Nat.le_trans h1 hz, fun i hi => ⟨(h2 i hi).1, Nat.lt_of_lt_of_le (h2 i hi).2 hz⟩, F, fun i => orNew D' w.heap.size i ∧ i < w'.heap.size, h3.only ho fun i hi hf => h7 i hf hi.1, hr.mono fun i hl hi => ⟨hi, hl⟩, fun i hi => ⟨(h5 i hi).1, Nat.lt_of_lt_of_le (h5 i hi).2.1 hz, (h5 i hi).2.2⟩, fun i hi => ?_, fun i hi hd => ?_⟩, ho.mono fun i hi => ⟨hi.2, (h6 i hi.1).2⟩⟩
  · rcases hi.1 with h | h
    · rcases hD' i h with h | h
      · exact ⟨hi.2, (h6 i h).2⟩
      · exact ⟨hi.2, fun hx => by have := (h2 i hx).1; omega⟩
    · exact ⟨hi.2, fun hx => by have := (h2 i hx).2; omega⟩
  · rcases hd.1 with h | h
    · rcases hD' i h with h | h
      · exact h7 i hi h
      · have := (h5 i hi).1; omega
    · have := (h5 i hi).2.1; omega
variable {w2 : World} {N B M : Nat}
theorem dappend_j (x : Nm) (v : Value) (b : List UInt8) (h : J2 w base X p r k1 k2) (hb : Below w.heap.size w w2) (hv : Byt w2 (fun i => w.heap.size ≤ i) v b) (hx : x.length ≤ 140737488355328) (hi : InvK k1 N B M) (hN : N * 48 ≤ 140737488355328) (hB : B + b.length ≤ 1099511627776) (hM : M < 4611686018427387904) :
    Calls Try.prog 15 #[.pointer (some ⟨p, 0, none⟩), .string ⟨x.toArray⟩, v] w2 fun e w' => e = .returned (.int .i64 (appendE k1 x b)) ∧ J2 w' base X p r (appendK k1 x b) k2 ∧ Only (Wr base X) w2 w' := by
  have hF : ∀ (F : Nat → Prop), (∀ i, F i → base ≤ i ∧ i < w.heap.size ∧ ¬ X i) → ∀ i, w.heap.size ≤ i → ¬ F i := fun F h i hi hf => by have := (h i hf).2.1; omega
  obtain ⟨h1, h2, F, D, h3, h4, h5, h6, h7⟩ := h
  have hz := hb.size
  have hm := hi.many
  have hd := hi.done
  refine (append_any F p k1 x _ v b w2 (h3.below hb) hv (hF F h5) hx hi.done0 (by omega) (fun f hf => by have := tot_mem (findP_mem hf).1; have := hi.much; omega) (by omega)).mono ?_
  rintro e w' ⟨rfl, hd, ho⟩
  exact ⟨rfl, J2.dmove (Nat.le_trans h1 hz) (fun i hi => ⟨(h2 i hi).1, Nat.lt_of_lt_of_le (h2 i hi).2 hz⟩) (h4.below hb) (fun i hi => ⟨(h5 i hi).1, Nat.lt_of_lt_of_le (h5 i hi).2.1 hz, (h5 i hi).2.2⟩) (fun i hi => ⟨Nat.lt_of_lt_of_le (h6 i hi).1 hz, (h6 i hi).2⟩) h7 hd ho⟩
theorem drevive_j (ops room : Int) (v : Value) (zs : List Int) (h : J2 w base X p r k1 k2) (hb : Below w.heap.size w w2) (hv : IntsIn w2 (fun i => w.heap.size ≤ i) v zs) (hl : zs.length * 8 ≤ 140737488355328) (hi : InvK k1 N B M) (hN : N * 48 ≤ 140737488355328) :
    Calls Try.prog 13 #[.pointer (some ⟨p, 0, none⟩), .agg #[.int .i64 ops, .int .i64 room, v]] w2 fun e w' => e = .returned (.int .i64 0) ∧ J2 w' base X p r (reviveK k1 ops room zs) k2 ∧ Only (Wr base X) w2 w' ∧ ∀ u, w2.cell? ⟨r, 0, none⟩ = some u → w'.cell? ⟨r, 0, none⟩ = some u := by
  obtain ⟨h1, h2, F, D, h3, h4, h5, h6, h7⟩ := h
  have hz := hb.size
  have hm := hi.many
  refine (revive_any F p k1 _ ops room v zs w2 (h3.below hb) hi.ok (by omega) hv (fun i hs hf => by have := (h5 i hf).2.1; omega) hl).mono ?_
  rintro e w' ⟨rfl, hd, ho⟩
  have hmv := J2.dmove (Nat.le_trans h1 hz) (fun i hi => ⟨(h2 i hi).1, Nat.lt_of_lt_of_le (h2 i hi).2 hz⟩) (h4.below hb) (fun i hi => ⟨(h5 i hi).1, Nat.lt_of_lt_of_le (h5 i hi).2.1 hz, (h5 i hi).2.2⟩) (fun i hi => ⟨Nat.lt_of_lt_of_le (h6 i hi).1 hz, (h6 i hi).2⟩) h7 hd ho
  refine ⟨rfl, hmv.1, hmv.2, fun u hu => ?_⟩
  obtain ⟨v', kv', h4'⟩ := h4
  exact (World.cell?_of_block (a := ⟨r, 0, none⟩) (ho.block r (World.block_lt_of_cell? w2 _ hu) fun hf => h7 r hf h4'.inD)).trans hu
theorem rappend_j (x : Nm) (v : Value) (b : List UInt8) (h : J2 w base X p r k1 k2) (hv : Byt w (fun i => i < base) v b) (hx : x.length ≤ 140737488355328) (hi : InvK k2 N B M) (hN : (N + 1) * 48 ≤ 140737488355328) (hB : B + b.length ≤ 1099511627776) (hM : M < 4611686018427387904) (hroom : k2.room ≤ 9223372036854775807) :
    Calls Try.prog 18 #[.pointer (some ⟨r, 0, none⟩), .string ⟨x.toArray⟩, v] w fun e w' => e = .returned (.int .i64 (appendE k2 x b)) ∧ J2 w' base X p r k1 (appendK k2 x b) ∧ Only (Wr base X) w w' := by
  obtain ⟨h1, h2, F, D, h3, h4, h5, h6, h7⟩ := h
  refine (rappend_any base D r k2 x _ v b w N B M h4 hv (fun i hs ho => by have := ho.2; omega) hx hi hN hB hM hroom).mono ?_
  rintro e w' ⟨rfl, hr, ho⟩
  exact ⟨rfl, J2.rmove (D' := D) h1 h2 h3 h5 h6 h7 (fun i hi => .inl hi) hr ho⟩
theorem rrevive_j (ops room : Int) (v : Value) (zs : List Int) (h : J2 w base X p r k1 k2) (hv : IntsIn w (fun i => i < base) v zs) (hi : InvK k2 N B M) (hN : N * 48 ≤ 140737488355328) (hB : B ≤ 1099511627776) :
    Calls Try.prog 20 #[.pointer (some ⟨r, 0, none⟩), .agg #[.int .i64 ops, .int .i64 room, v]] w fun e w' => e = .returned (.tuple #[]) ∧ J2 w' base X p r k1 (reviveK k2 ops room zs) ∧ Only (Wr base X) w w' := by
  obtain ⟨h1, h2, F, D, h3, h4, h5, h6, h7⟩ := h
  have hm := hi.many
  refine (rrevive_any base D r k2 _ ops room v zs w h4 hi.ok (by omega) (fun f hf => by have := tot_mem hf; have := hi.much; omega) hv (fun i hi => hi)).mono ?_
  rintro e w' ⟨rfl, hr, ho⟩
  exact ⟨rfl, J2.rmove (D' := fun i => D i ∨ i < base) h1 h2 h3 h5 h6 h7 (fun i hi => hi) hr ho⟩
theorem dsync_j (x : Nm) (h : J2 w base X p r k1 k2) (hx : x.length ≤ 140737488355328) (hi : InvK k1 N B M) (hM : M < 4611686018427387904) :
    Calls Try.prog 22 #[.pointer (some ⟨p, 0, none⟩), .string ⟨x.toArray⟩] w fun e w' => e = .returned (.int .i64 (syncE k1 x)) ∧ J2 w' base X p r (syncK k1 x) k2 ∧ Only (Wr base X) w w' := by
  obtain ⟨h1, h2, F, D, h3, h4, h5, h6, h7⟩ := h
  have hd := hi.done
  refine (sync_any F p k1 x w h3 hx hi.done0 (by omega)).mono ?_
  rintro e w' ⟨rfl, hd, ho⟩
  exact ⟨rfl, J2.dmove h1 h2 h4 h5 h6 h7 (hd.mono fun i hi _ => .inl hi) ho⟩
theorem rsync_j (x : Nm) (h : J2 w base X p r k1 k2) (hx : x.length ≤ 140737488355328) (hi : InvK k2 N B M) (hN : N * 48 ≤ 140737488355328) (hM : M < 4611686018427387904) :
    Calls Try.prog 40 #[.pointer (some ⟨r, 0, none⟩), .string ⟨x.toArray⟩] w fun e w' => e = .returned (.int .i64 (syncE k2 x)) ∧ J2 w' base X p r k1 (syncK k2 x) ∧ Only (Wr base X) w w' := by
  obtain ⟨h1, h2, F, D, h3, h4, h5, h6, h7⟩ := h
  have hd := hi.done
  have hm := hi.many
  refine (rsync_any base D r k2 x w h4 hx hi.sorted (by omega) hi.done0 (by omega)).mono ?_
  rintro e w' ⟨rfl, hr, ho⟩
  exact ⟨rfl, J2.rmove (D' := D) h1 h2 h3 h5 h6 h7 (fun i hi => .inl hi) (hr.mono fun i _ hi => .inl hi) ho⟩
theorem ddelete_j (x : Nm) (h : J2 w base X p r k1 k2) (hx : x.length ≤ 140737488355328) (hi : InvK k1 N B M) (hM : M < 4611686018427387904) :
    Calls Try.prog 24 #[.pointer (some ⟨p, 0, none⟩), .string ⟨x.toArray⟩] w fun e w' => e = .returned (.int .i64 (syncE k1 x)) ∧ J2 w' base X p r (deleteK k1 x) k2 ∧ Only (Wr base X) w w' := by
  obtain ⟨h1, h2, F, D, h3, h4, h5, h6, h7⟩ := h
  have hd := hi.done
  refine (delete_any F p k1 x w h3 hx hi.done0 (by omega)).mono ?_
  rintro e w' ⟨rfl, hd, ho⟩
  exact ⟨rfl, J2.dmove h1 h2 h4 h5 h6 h7 (hd.mono fun i hi _ => .inl hi) ho⟩
theorem rdelete_j (x : Nm) (h : J2 w base X p r k1 k2) (hx : x.length ≤ 140737488355328) (hi : InvK k2 N B M) (hN : N * 48 ≤ 140737488355328) (hM : M < 4611686018427387904) :
    Calls Try.prog 42 #[.pointer (some ⟨r, 0, none⟩), .string ⟨x.toArray⟩] w fun e w' => e = .returned (.int .i64 (syncE k2 x)) ∧ J2 w' base X p r k1 (deleteK k2 x) ∧ Only (Wr base X) w w' := by
  obtain ⟨h1, h2, F, D, h3, h4, h5, h6, h7⟩ := h
  have hd := hi.done
  have hm := hi.many
  refine (rdelete_any base D r k2 x w h4 hx hi.sorted (by omega) hi.done0 (by omega)).mono ?_
  rintro e w' ⟨rfl, hr, ho⟩
  exact ⟨rfl, J2.rmove (D' := D) h1 h2 h3 h5 h6 h7 (fun i hi => .inl hi) hr ho⟩
theorem drename_j (x y : Nm) (h : J2 w base X p r k1 k2) (hx : x.length ≤ 140737488355328) (hy : y.length ≤ 140737488355328) (hi : InvK k1 N B M) (hN : N * 48 ≤ 140737488355328) (hM : M < 4611686018427387904) :
    Calls Try.prog 23 #[.pointer (some ⟨p, 0, none⟩), .string ⟨x.toArray⟩, .string ⟨y.toArray⟩] w fun e w' => e = .returned (.int .i64 (renameE k1 x y)) ∧ J2 w' base X p r (renameK k1 x y) k2 ∧ Only (Wr base X) w w' := by
  obtain ⟨h1, h2, F, D, h3, h4, h5, h6, h7⟩ := h
  have hd := hi.done
  have hm := hi.many
  refine (rename_any F p k1 x y w h3 hx hy hi.done0 (by omega) (by omega)).mono ?_
  rintro e w' ⟨rfl, hd, ho⟩
  exact ⟨rfl, J2.dmove h1 h2 h4 h5 h6 h7 (hd.mono fun i hi _ => .inl hi) ho⟩
theorem rrename_j (x y : Nm) (h : J2 w base X p r k1 k2) (hx : x.length ≤ 140737488355328) (hy : y.length ≤ 140737488355328) (hi : InvK k2 N B M) (hN : N * 48 ≤ 140737488355328) (hM : M < 4611686018427387904) :
    Calls Try.prog 41 #[.pointer (some ⟨r, 0, none⟩), .string ⟨x.toArray⟩, .string ⟨y.toArray⟩] w fun e w' => e = .returned (.int .i64 (renameE k2 x y)) ∧ J2 w' base X p r k1 (renameK k2 x y) ∧ Only (Wr base X) w w' := by
  obtain ⟨h1, h2, F, D, h3, h4, h5, h6, h7⟩ := h
  have hd := hi.done
  have hm := hi.many
  refine (rrename_any base D r k2 x y w h4 hx hy hi.sorted (by omega) hi.done0 (by omega)).mono ?_
  rintro e w' ⟨rfl, hr, ho⟩
  exact ⟨rfl, J2.rmove (D' := D) h1 h2 h3 h5 h6 h7 (fun i hi => .inl hi) hr ho⟩
theorem dread_j (x : Nm) (h : J2 w base X p r k1 k2) (hx : x.length ≤ 140737488355328) :
    Calls Try.prog 19 #[.pointer (some ⟨p, 0, none⟩), .string ⟨x.toArray⟩] w fun e w' => ∃ v, e = .returned (.tuple #[v, .int .i64 (readyE k1 [x])]) ∧ BytL w' w.heap.size v (if readyE k1 [x] = 0 then readD k1 x else []) ∧ Below w.heap.size w w' := by
  obtain ⟨_, _, F, D, h3, _⟩ := h
  exact read_any F p k1 x w h3 hx
theorem rread_j (x : Nm) (h : J2 w base X p r k1 k2) (hx : x.length ≤ 140737488355328) (hi : InvK k2 N B M) (hN : N * 48 ≤ 140737488355328) :
    Calls Try.prog 43 #[.pointer (some ⟨r, 0, none⟩), .string ⟨x.toArray⟩] w fun e w' => ∃ v, e = .returned (.tuple #[v, .int .i64 (readyE k2 [x])]) ∧ BytL w' w.heap.size v (if readyE k2 [x] = 0 then readD k2 x else []) ∧ Below w.heap.size w w' := by
  obtain ⟨_, _, F, D, _, h4, _⟩ := h
  have hm := hi.many
  exact rread_any base D r k2 x w h4 hx (by omega)
theorem dlist_j (h : J2 w base X p r k1 k2) (hi : InvK k1 N B M) (hN : N * 48 ≤ 140737488355328) :
    Calls Try.prog 25 #[.pointer (some ⟨p, 0, none⟩)] w fun e w' => ∃ v, e = .returned (.tuple #[v, .int .i64 (readyE k1 [])]) ∧ OwnS w' w.heap.size v (listP k1) ∧ Below w.heap.size w w' := by
  obtain ⟨_, _, F, D, h3, _⟩ := h
  have hm := hi.many
  exact list_any F p k1 w h3 (by omega)
theorem rlist_j (h : J2 w base X p r k1 k2) (hi : InvK k2 N B M) (hN : N * 48 ≤ 140737488355328) :
    Calls Try.prog 44 #[.pointer (some ⟨r, 0, none⟩)] w fun e w' => ∃ v, e = .returned (.tuple #[v, .int .i64 (readyE k2 [])]) ∧ OwnS w' w.heap.size v (listP k2) ∧ Below w.heap.size w w' := by
  obtain ⟨_, _, F, D, _, h4, _⟩ := h
  have hm := hi.many
  exact rlist_any base D r k2 w h4 (by omega)
theorem ddump_j (h : J2 w base X p r k1 k2) (hi : InvK k1 N B M) (hN : N * 48 ≤ 140737488355328) :
    Calls Try.prog 12 #[.pointer (some ⟨p, 0, none⟩)] w fun e w' => ∃ v, e = .returned v ∧ OwnFiles w' w.heap.size v k1.fs ∧ Below w.heap.size w w' := by
  obtain ⟨_, _, F, D, h3, _⟩ := h
  have hm := hi.many
  exact dump_any F p k1 w h3 (by omega)
theorem J2.files (h : J2 w base X p r k1 k2) (hi : InvK k2 N B M) (hN : N * 48 ≤ 140737488355328) :
    ∃ A c, w.cell? ⟨r, 0, none⟩ = some (.slice A k2.fs.length c) ∧ FilesV w (fun _ => True) (.slice A k2.fs.length c) k2.fs := by
  obtain ⟨_, _, F, D, _, ⟨v, kv, h4⟩, _⟩ := h
  have hm := hi.many
  obtain ⟨A, c, rfl⟩ := h4.row.form
  exact ⟨A, c, h4.cell.1, (h4.files (by omega)).mono flFine fun _ _ => trivial⟩
theorem J2.files_at {v : Value} (h : J2 w base X p r k1 k2) (hi : InvK k2 N B M) (hN : N * 48 ≤ 140737488355328) (hc : w.cell? ⟨r, 0, none⟩ = some v) : FilesV w (fun _ => True) v k2.fs := by
  obtain ⟨A, c, h1, h2⟩ := h.files hi hN
  rw [h1] at hc
  cases hc
  exact h2
end
end Go.Proofs.Ytcmjoaepihbodaa
