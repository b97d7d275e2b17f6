/-
What VdiskOwn's first copies want, II: where a block lies, told from the shape of the world that a step began in.
-/
import Derived.Test.YtcmjoaepihbodaaQPOwnU16
section
namespace Go.Proofs.Ytcmjoaepihbodaa
open Go.RowKit Go.BigFrame
section
variable {w w' w2 : World} {base p r : Nat} {X T : Nat → Prop} {k1 k2 : Pk} {N B M : Nat}
theorem J2.spoil (h : J2 w base X p r k1 k2) (ho : Only T w w') (hT : ∀ i, T i → X i) : J2 w' base X p r k1 k2 := by
  obtain ⟨h1, h2, F, D, h3, h4, h5, h6, h7⟩ := h
  have hz := ho.size
  exact ⟨Nat.le_trans h1 hz, fun i hi => ⟨(h2 i hi).1, Nat.lt_of_lt_of_le (h2 i hi).2 hz⟩, F, D, h3.only ho (fun i hi hf => (h5 i hf).2.2 (hT i hi)), h4.only ho (fun i hi hd => (h6 i hd).2 (hT i hi)), fun i hi => ⟨(h5 i hi).1, Nat.lt_of_lt_of_le (h5 i hi).2.1 hz, (h5 i hi).2.2⟩, fun i hi => ⟨Nat.lt_of_lt_of_le (h6 i hi).1 hz, (h6 i hi).2⟩, h7⟩
theorem J2.more (h : J2 w base X p r k1 k2) (hb : Below w.heap.size w w') : J2 w' base (fun i => X i ∨ (w.heap.size ≤ i ∧ i < w'.heap.size)) p r k1 k2 := by
  obtain ⟨h1, h2, F, D, h3, h4, h5, h6, h7⟩ := h
  have hz := hb.size
  refine ⟨Nat.le_trans h1 hz, fun i hi => ?_, F, D, h3.below hb, h4.below hb, fun i hi => ⟨(h5 i hi).1, Nat.lt_of_lt_of_le (h5 i hi).2.1 hz, fun hx => ?_⟩, fun i hi => ⟨Nat.lt_of_lt_of_le (h6 i hi).1 hz, fun hx => ?_⟩, h7⟩
  · rcases hi with hi | hi
    · exact ⟨(h2 i hi).1, Nat.lt_of_lt_of_le (h2 i hi).2 hz⟩
    · exact ⟨Nat.le_trans h1 hi.1, hi.2⟩
  · rcases hx with hx | hx
    · exact (h5 i hi).2.2 hx
    · have := (h5 i hi).2.1; omega
  · rcases hx with hx | hx
    · exact (h6 i hi).2 hx
    · have := (h6 i hi).1; omega
theorem dappend_x (x : Nm) (v : Value) (b : List UInt8) (h : J2 w base X p r k1 k2) (hv : Byt w X v b) (hx : x.length ≤ 140737488355328) (hi : InvK k1 N B M) (hN : N * 48 ≤ 140737488355328) (hB : B + b.length ≤ 1099511627776) (hM : M < 4611686018427387904) :
    Calls Try.prog 15 #[.pointer (some ⟨p, 0, none⟩), .string ⟨x.toArray⟩, v] w fun e w' => e = .returned (.int .i64 (appendE k1 x b)) ∧ J2 w' base X p r (appendK k1 x b) k2 ∧ Only (Wr base X) w w' := by
  obtain ⟨h1, h2, F, D, h3, h4, h5, h6, h7⟩ := h
  have hm := hi.many
  have hd := hi.done
  refine (append_any F p k1 x _ v b w h3 hv (fun i hs hf => (h5 i hf).2.2 hs) hx hi.done0 (by omega) (fun f hf => by have := tot_mem (findP_mem hf).1; have := hi.much; omega) (by omega)).mono ?_
  rintro e w' ⟨rfl, hd, ho⟩
  exact ⟨rfl, J2.dmove h1 h2 h4 h5 h6 h7 hd ho⟩
end
/-- the bytes xs in block g, the first j of them counted up by one. -/
def Counted (w : World) (g n : Nat) (xs : List UInt8) (j : Nat) : Prop := ∃ cur : Array Value, w.heap[g]? = some (.cells cur 5 (0, 0)) ∧ cur.size = n ∧ ∀ i x, xs[i]? = some x → cur[i]? = some (bcell (if i < j then x + 1 else x))
theorem Counted.at_ {w : World} {g n j : Nat} {xs : List UInt8} (h : Counted w g n xs j) {i : Nat} {x : UInt8} (hi : xs[i]? = some x) : w.cell? ⟨g, i, none⟩ = some (bcell (if i < j then x + 1 else x)) ∧ w.frozen? ⟨g, i, none⟩ = false := by
  obtain ⟨cur, h1, _, h3⟩ := h
  exact ⟨by rw [cell_of_row w g _ cur _ _ h1]; exact h3 i x hi, frozen_of_row w g i cur _ h1⟩
theorem Counted.kept {w w' : World} {g n j : Nat} {xs : List UInt8} (h : Counted w g n xs j) (hk : w'.heap[g]? = w.heap[g]?) : Counted w' g n xs j := by
  obtain ⟨cur, h1, h2, h3⟩ := h
  exact ⟨cur, hk.trans h1, h2, h3⟩
theorem Counted.step {w : World} {g n j : Nat} {xs : List UInt8} {x : UInt8} (h : Counted w g n xs j) (hj : xs[j]? = some x) : Counted (w.setCell ⟨g, j, none⟩ (bcell (x + 1))) g n xs (j + 1) := by
  obtain ⟨cur, h1, h2, h3⟩ := h
  refine ⟨cur.setIfInBounds j (bcell (x + 1)), heap_setCell_same w g j cur _ _ h1, by simpa using h2, fun i y hi => ?_⟩
  by_cases he : i = j
  · subst he
    rw [hj] at hi
    obtain rfl := Option.some.inj hi
    have := (Array.getElem?_eq_some_iff.1 (h3 i x hj)).1
    rw [Array.getElem?_setIfInBounds_self, if_pos this, if_pos (by omega)]
  · rw [Array.getElem?_setIfInBounds_ne (by omega), h3 i y hi]
    by_cases hl : i < j
    · rw [if_pos hl, if_pos (by omega)]
    · rw [if_neg hl, if_neg (by omega)]
theorem Counted.lt {w : World} {g n j : Nat} {xs : List UInt8} (h : Counted w g n xs j) : g < w.heap.size := by
  obtain ⟨cur, h1, _⟩ := h
  exact (Array.getElem?_eq_some_iff.1 h1).1
theorem Counted.byt {w : World} {g n c : Nat} {b xs : List UInt8} (h : Counted w g n (b ++ xs) 0) (hc : b.length ≤ c) (hc2 : c ≤ 9223372036854775807) (hl : b.length ≤ 140737488355328) : Byt w (fun i => i = g) (.slice (some ⟨g, 0, none⟩) b.length c) b := by
  refine ⟨_, _, rfl, hc, hc2, hl, by simp, fun _ => ⟨g, 0, rfl, rfl, h.lt, fun j u hu => ?_⟩⟩
  rw [Nat.zero_add]
  rw [List.getElem?_map] at hu
  cases hb : b[j]? with
  | none => rw [hb] at hu; cases hu
  | some x =>
    rw [hb] at hu
    obtain rfl := Option.some.inj hu
    have hlt := (List.getElem?_eq_some_iff.1 hb).1
    have := (h.at_ (i := j) (x := x) (by rw [List.getElem?_append_left hlt]; exact hb)).1
    rwa [if_neg (by omega)] at this
/-- a row of n numbers in block g from o on. -/
def Wiped (w : World) (g o n : Nat) : Prop := ∃ cs : Array Value, w.heap[g]? = some (.cells cs 3 (0, 0)) ∧ o + n ≤ cs.size
theorem Wiped.at_ {w : World} {g o n j : Nat} (h : Wiped w g o n) (hj : j < n) : (∃ u, w.cell? ⟨g, o + j, none⟩ = some u) ∧ w.frozen? ⟨g, o + j, none⟩ = false := by
  obtain ⟨cs, h1, h2⟩ := h
  exact ⟨⟨_, (cell_of_row w g _ cs _ _ h1).trans (Array.getElem?_eq_getElem (by omega))⟩, frozen_of_row w g _ cs _ h1⟩
theorem Wiped.step {w : World} {g o n j : Nat} {u : Value} (h : Wiped w g o n) : Wiped (w.setCell ⟨g, j, none⟩ u) g o n := by
  obtain ⟨cs, h1, h2⟩ := h
  exact ⟨_, heap_setCell_same w g j cs _ u h1, by simpa using h2⟩
theorem rowF_loose {w : World} {base : Nat} {S : Nat → Prop} {v : Value} {fs : List Fl} (h : RowF w base S v fs) {g : Nat} (hg : v.ownBlock = some g) : ¬ Loose w g := fun hl => by
  obtain ⟨cs, h1⟩ := h.blk hg
  obtain ⟨cs', h2⟩ := hl
  rw [h1] at h2
  cases h2
end Go.Proofs.Ytcmjoaepihbodaa
end
section
namespace Go.Proofs.Ytcmjoaepihbodaa
open Go.RowKit Go.BigFrame
/-- the blocks of plans stay. -/
def KeepP (w w' : World) : Prop := ∀ (i : Nat) (cs : Array Value), w.heap[i]? = some (.cells cs 25 (0, 0)) → w'.heap[i]? = some (.cells cs 25 (0, 0))
theorem KeepP.of_fr {w w' : World} (h : fr w w') : KeepP w w' := fun i _ hi => (Below.block h i (Array.getElem?_eq_some_iff.1 hi).1).trans hi
theorem KeepP.use {w w' : World} {i : Nat} {cs : Array Value} (h : KeepP w w') (hi : w.heap[i]? = some (.cells cs 25 (0, 0))) : w'.heap[i]? = some (.cells cs 25 (0, 0)) := h i cs hi
theorem newP (w : World) : (w.alloc (.cells #[.int .i64 0, .int .i64 0, .slice none 0 0] 25)).heap[w.heap.size]? = some (.cells #[.int .i64 0, .int .i64 0, .slice none 0 0] 25 (0, 0)) := heap_alloc_new w _
theorem oldP {w : World} {i : Nat} {o x : Obj} (h : w.heap[i]? = some x) : (w.alloc o).heap[i]? = some x := (Below.heap_alloc w o i (Array.getElem?_eq_some_iff.1 h).1).trans h
theorem newB (w : World) : (w.alloc (.cells #[.int .u8 7] 5)).heap[w.heap.size]? = some (.cells #[.int .u8 7] 5 (0, 0)) := heap_alloc_new w _
theorem drewP {w : World} {i : Nat} {x : Obj} (h : w.heap[i]? = some x) : w.drew.heap[i]? = some x := h
theorem newP1 (w : World) (o : Obj) : ((w.alloc o).alloc (.cells #[.int .i64 0, .int .i64 0, .slice none 0 0] 25)).heap[w.heap.size + 1]? = some (.cells #[.int .i64 0, .int .i64 0, .slice none 0 0] 25 (0, 0)) := by
  have := newP (w.alloc o)
  rwa [World.size_alloc] at this
theorem newP2 (w : World) (o o' : Obj) : (((w.alloc o).alloc o').alloc (.cells #[.int .i64 0, .int .i64 0, .slice none 0 0] 25)).heap[w.heap.size + 1 + 1]? = some (.cells #[.int .i64 0, .int .i64 0, .slice none 0 0] 25 (0, 0)) := by
  have := newP1 (w.alloc o) o'
  rwa [World.size_alloc] at this
theorem newB1 (w : World) (o : Obj) : ((w.alloc o).alloc (.cells #[.int .u8 7] 5)).heap[w.heap.size + 1]? = some (.cells #[.int .u8 7] 5 (0, 0)) := by
  have := newB (w.alloc o)
  rwa [World.size_alloc] at this
theorem newB2 (w : World) (o o' : Obj) : (((w.alloc o).alloc o').alloc (.cells #[.int .u8 7] 5)).heap[w.heap.size + 1 + 1]? = some (.cells #[.int .u8 7] 5 (0, 0)) := by
  have := newB1 (w.alloc o) o'
  rwa [World.size_alloc] at this
theorem fr.hp {w w' : World} {i : Nat} {x : Obj} (h : fr w w') (hi : w.heap[i]? = some x) : w'.heap[i]? = some x := (Below.block h i (Array.getElem?_eq_some_iff.1 hi).1).trans hi
theorem step_own0 {w : World} {ops : Array Oper} {o : Oper} {a : Act} {K : Act → World → Prop} {Q : Exit → Act → World → Prop} {E : Prop} (hgd : o.guard = none) (s x : Operand)
    (ho : o.op = .call { callee := .builtin .append, args := #[s, x], argTypes := #[35, 35] }) (g : Nat) (src : Value) (hs : a.eval s = .slice (some ⟨g, 0, none⟩) 0 0) (hx : a.eval x = src)
    (S : Nat → Prop) (bs : List UInt8) (W2 : World) (hf : fr W2 w) (h : Byt w S src bs)
    (hK : ∀ A c w', OwnB w' (fun i => W2.heap.size ≤ i) (.slice A bs.length c) bs → fr w w' → K (a.put o.dst (.slice A bs.length c)) w') :
    if Region.wanted o (yielded ops a.tmps) = true then Oper.wp Try.prog o a w K Q else E := by
  have hw : Region.wanted o (yielded ops a.tmps) = true := by simp [Region.wanted, hgd]
  rw [if_pos hw]
  have hl := h.len
  obtain ⟨v', w', hrun, h2, h3, _⟩ := run_append_ownB w (fun i => W2.heap.size ≤ i) (fun i => W2.heap.size ≤ i) o.type (.slice (some ⟨g, 0, none⟩) 0 0) src S [] bs ⟨_, _, rfl, Nat.le_refl _, by omega, by simp, .inl rfl⟩ h (by simpa using hl) (fun _ h => h) (Below.size hf)
  rw [List.nil_append] at h2
  obtain ⟨A, c, rfl⟩ := h2.form
  unfold Oper.wp execOp
  simp only [ho, resolve, invoke, builtin, Sem.run_bind, Sem.run_pure, Result.andThen_ok, List.map_toArray, List.map_cons, List.map_nil, hs, hx, hrun]
  exact hK A c w' h2 ((Below.refl _ _).grown h3 (Nat.le_refl _) (fun k hk => by simp [blkB] at hk))
theorem step_own1 {w : World} {ops : Array Oper} {o : Oper} {a : Act} {K : Act → World → Prop} {Q : Exit → Act → World → Prop} {E : Prop} (hgd : o.guard = none) (s x : Operand)
    (ho : o.op = .call { callee := .builtin .append, args := #[s, x], argTypes := #[35, 35] }) (g : Nat) (v : Value) (hs : a.eval s = v) (hx : a.eval x = .slice (some ⟨g, 0, none⟩) 1 1)
    (bs : List UInt8) (W2 W3 : World) (hl : bs.length ≤ 1048576) (hown : OwnB W3 (fun i => W2.heap.size ≤ i) v bs) (hf2 : fr W2 W3) (hf : fr W3 w) (hg : w.heap[g]? = some (.cells #[.int .u8 7] 5 (0, 0)))
    (hK : ∀ A c w', OwnB w' (fun i => W2.heap.size ≤ i) (.slice A (bs.length + 1) c) (bs ++ [7]) → fr W2 w' → KeepP w w' → K (a.put o.dst (.slice A (bs.length + 1) c)) w') :
    if Region.wanted o (yielded ops a.tmps) = true then Oper.wp Try.prog o a w K Q else E := by
  have hw : Region.wanted o (yielded ops a.tmps) = true := by simp [Region.wanted, hgd]
  rw [if_pos hw]
  have hsz := (Array.getElem?_eq_some_iff.1 hg).1
  have hbyt : Byt w (fun _ => True) (.slice (some ⟨g, 0, none⟩) 1 1) [7] := by
    refine ⟨_, _, rfl, Nat.le_refl _, by omega, by simp, by simp, fun _ => ⟨g, 0, rfl, trivial, hsz, fun j u hu => ?_⟩⟩
    rw [cell_of_row w g _ _ _ _ hg, Nat.zero_add]
    have e : (#[Value.int .u8 7] : Array Value)[j]? = ([7].map bcell)[j]? := by simp [bcell]
    rw [e]
    exact hu
  have hown' := hown.below hf
  obtain ⟨v', w', hrun, h2, h3, _⟩ := run_append_ownB w (fun i => W2.heap.size ≤ i) (fun i => W2.heap.size ≤ i) o.type v _ _ bs [7] hown' hbyt (by simp; omega) (fun _ h => h) (Nat.le_trans (Below.size hf2) (Below.size hf))
  obtain ⟨A, c, hv'⟩ := h2.form
  rw [List.length_append, List.length_singleton] at hv'
  subst hv'
  unfold Oper.wp execOp
  simp only [ho, resolve, invoke, builtin, Sem.run_bind, Sem.run_pure, Result.andThen_ok, List.map_toArray, List.map_cons, List.map_nil, hs, hx, hrun]
  refine hK A c w' h2 (Below.grown (fr.step hf2 hf) h3 (Nat.le_trans (Below.size hf2) (Below.size hf)) fun k hk => (hown'.blk hk).1) fun i cs hi => ?_
  refine (h3.block i (Array.getElem?_eq_some_iff.1 hi).1 fun e => ?_).trans hi
  obtain ⟨cs', h4⟩ := (hown'.blk e.symm).2.1
  rw [hi] at h4
  cases h4
theorem three_put {W X : World} {B pb : Nat} {a b c u0 u1 u2 : Value} (h : fr W X) (c0 : W.cell? ⟨B, 0, none⟩ = some a) (c1 : W.cell? ⟨B, 1, none⟩ = some b) (c2 : W.cell? ⟨B, 2, none⟩ = some c) (hB : B < W.heap.size) (hp : W.heap.size ≤ pb) :
    (((X.setCell ⟨pb, 0, none⟩ u0).setCell ⟨pb, 1, none⟩ u1).setCell ⟨pb, 2, none⟩ u2).cell? ⟨B, 0, none⟩ = some a ∧ (((X.setCell ⟨pb, 0, none⟩ u0).setCell ⟨pb, 1, none⟩ u1).setCell ⟨pb, 2, none⟩ u2).cell? ⟨B, 1, none⟩ = some b ∧ (((X.setCell ⟨pb, 0, none⟩ u0).setCell ⟨pb, 1, none⟩ u1).setCell ⟨pb, 2, none⟩ u2).cell? ⟨B, 2, none⟩ = some c := by
  have hs := Below.size h
  have ho : Only (fun i => i = pb) X (((X.setCell ⟨pb, 0, none⟩ u0).setCell ⟨pb, 1, none⟩ u1).setCell ⟨pb, 2, none⟩ u2) := (((Only.refl (fun i => i = pb) X).setCell (p := ⟨pb, 0, none⟩) rfl _).setCell (p := ⟨pb, 1, none⟩) rfl _).setCell (p := ⟨pb, 2, none⟩) rfl _
  have hb := ho.block B (by omega) (by omega)
  exact ⟨(World.cell?_of_block (a := ⟨B, 0, none⟩) hb).trans (h.cell c0), (World.cell?_of_block (a := ⟨B, 1, none⟩) hb).trans (h.cell c1), (World.cell?_of_block (a := ⟨B, 2, none⟩) hb).trans (h.cell c2)⟩
theorem KeepV.allocK {w : World} {F : Nat → Prop} {kv : Value} {ks : List Int} (h : KeepV w F kv ks) (o : Obj) : KeepV (w.alloc o) F kv ks :=
  h.kept fun g _ _ hg => Below.heap_alloc _ _ g (Array.getElem?_eq_some_iff.1 hg).1
/-- what the cut behind the three copies says, from what each step left. -/
theorem own_meet {w1 w2 w4 wp : World} {n pb : Nat} {Ai : Option Addr} {ci : Nat} {fs : List Fl} {A4 : Option Addr} {c4 : Nat} {b : List UInt8} {Ap : Option Addr} {cp : Nat} {zs : List Int} {ops room : Int} {x y z : Value}
    (hx : x = .slice Ai n ci) (hy : y = .slice A4 (b.length + 1) c4) (hz : z = .pointer (some ⟨pb, 0, none⟩))
    (hR : RowF w2 w1.heap.size (fun i => w1.heap.size ≤ i ∧ i < w2.heap.size ∧ Loose w2 i) (.slice Ai n ci) fs) (f2 : fr w1 w2) (g4 : fr w2 w4) (o4 : OwnB w4 (fun i => w2.heap.size ≤ i) (.slice A4 (b.length + 1) c4) (b ++ [7])) (fp : fr w4 wp)
    (hp : wp.heap[pb]? = some (.cells #[.int .i64 0, .int .i64 0, .slice none 0 0] 25 (0, 0))) (hpn : w1.heap.size ≤ pb) (hK : KeepV wp (fun i => w1.heap.size ≤ i) (.slice Ap zs.length cp) zs) :
    let wc := ((wp.setCell ⟨pb, 0, none⟩ (.int .i64 ops)).setCell ⟨pb, 1, none⟩ (.int .i64 room)).setCell ⟨pb, 2, none⟩ (.slice Ap zs.length cp)
    ∃ (Ai : Option Addr) (ci cy gy sz pb s : Nat) (Ap : Option Addr) (cp : Nat), x = .slice Ai n ci ∧ y = .slice (some ⟨gy, 0, none⟩) (b.length + 1) cy ∧ z = .pointer (some ⟨pb, 0, none⟩) ∧
    RowF wc w1.heap.size (fun i => w1.heap.size ≤ i ∧ i < s ∧ Loose wc i) (.slice Ai n ci) fs ∧ Counted wc gy sz (b ++ [7]) 0 ∧ s ≤ gy ∧ w1.heap.size ≤ gy ∧ b.length + 1 ≤ cy ∧ cy ≤ 9223372036854775807 ∧
    wc.heap[pb]? = some (.cells #[.int .i64 ops, .int .i64 room, .slice Ap zs.length cp] 25 (0, 0)) ∧ w1.heap.size ≤ pb ∧ KeepV wc (fun i => w1.heap.size ≤ i) (.slice Ap zs.length cp) zs ∧ fr w1 wc := by
  intro wc
  have hs12 := Below.size f2
  have hs24 := Below.size g4
  have hs4p := Below.size fp
  have ho : Only (fun i => i = pb) wp wc := (((Only.refl (fun i => i = pb) wp).setCell (p := ⟨pb, 0, none⟩) rfl _).setCell (p := ⟨pb, 1, none⟩) rfl _).setCell (p := ⟨pb, 2, none⟩) rfl _
  have hpl := (Array.getElem?_eq_some_iff.1 hp).1
  have hpc : wc.heap[pb]? = some (.cells #[.int .i64 ops, .int .i64 room, .slice Ap zs.length cp] 25 (0, 0)) := by
    have h1 := heap_setCell_same wp pb 0 _ _ (.int .i64 ops) hp
    have h2 := heap_setCell_same _ pb 1 _ _ (.int .i64 room) h1
    exact heap_setCell_same _ pb 2 _ _ (.slice Ap zs.length cp) h2
  obtain ⟨A, c, hv, l1, l2, l3, l4⟩ := o4
  injection hv with e1 _ e3
  subst e1 e3
  have hlen : (b ++ [7]).length = b.length + 1 := by simp
  obtain ⟨gy, cur, rfl, hgy, hh, hcs, ht⟩ : ∃ (g : Nat) (cur : Array Value), A4 = some ⟨g, 0, none⟩ ∧ w2.heap.size ≤ g ∧ w4.heap[g]? = some (.cells cur 5 (0, 0)) ∧ c4 ≤ cur.size ∧ cur.toList.take (b ++ [7]).length = (b ++ [7]).map bcell := by
    rcases l4 with h | h
    · omega
    · exact h
  have hwp : wp.heap[gy]? = some (.cells cur 5 (0, 0)) := fr.hp fp hh
  have hgp : gy ≠ pb := fun e => by rw [e, hp] at hwp; cases hwp
  have hgc : wc.heap[gy]? = some (.cells cur 5 (0, 0)) := (ho.block gy (Array.getElem?_eq_some_iff.1 hwp).1 hgp).trans hwp
  have hX : ∀ i, i < w2.heap.size → i ≠ pb → wc.heap[i]? = w2.heap[i]? := fun i h1 h2 =>
    (ho.block i (by omega) h2).trans ((Below.block fp i (by omega)).trans (Below.block g4 i h1))
  have hpx : ∀ u, pb < w2.heap.size → w2.heap[pb]? = some u → u = .cells #[.int .i64 0, .int .i64 0, .slice none 0 0] 25 (0, 0) := fun u h1 h2 => by
    have := (Below.block fp pb (by omega)).trans ((Below.block g4 pb h1).trans h2)
    rw [hp] at this
    exact (Option.some.inj this).symm
  refine ⟨Ai, ci, c4, gy, cur.size, pb, w2.heap.size, Ap, cp, hx, hy, hz, ?_, ⟨cur, hgc, rfl, fun i x hi => ?_⟩, hgy, by omega, by omega, l2, hpc, hpn, ?_, ?_⟩
  · refine (hR.kept (w' := wc) (by have := ho.size; omega) (fun g hg => hX g (hR.lt hg).2 fun e => ?_) fun i hi hs => hX i hi fun e => ?_).mono fun i _ hi => ⟨hi.1, hi.2.1, hi.2.2.of_eq (hX i hi.2.1 fun e => ?_)⟩
    · obtain ⟨cs, h1⟩ := hR.blk hg
      rw [e] at h1
      have := hpx _ (by rw [← e]; exact (hR.lt hg).2) h1
      cases this
    · obtain ⟨cs, h1⟩ := hs.2.2
      rw [e] at h1
      have := hpx _ (by rw [← e]; exact hi) h1
      cases this
    · obtain ⟨cs, h1⟩ := hi.2.2
      rw [e] at h1
      have := hpx _ (by rw [← e]; exact hi.2.1) h1
      cases this
  · rw [if_neg (by omega)]
    have h1 : ((b ++ [7]).map bcell)[i]? = some (bcell x) := by rw [List.getElem?_map, hi]; rfl
    rw [← ht, List.getElem?_take] at h1
    split at h1
    · simpa using h1
    · cases h1
  · exact hK.kept fun g cs _ hg => ho.block g (Array.getElem?_eq_some_iff.1 hg).1 fun e => by rw [e, hp] at hg; cases hg
  · exact ho.below (Nat.le_trans hs12 (by omega)) (fun i hi => by omega) |> fun h => Below.trans (Below.mono (fr.step (fr.step f2 g4) fp) (Nat.le_refl _)) h
end Go.Proofs.Ytcmjoaepihbodaa
end
section
namespace Go.Proofs.Ytcmjoaepihbodaa
open Go.RowKit Go.BigFrame
theorem hpP_0_0_d {w w' : World} (g : fr (w.alloc (.cells #[.int .i64 0, .int .i64 0, .slice none 0 0] 25)).drew w') : w'.heap[w.heap.size]? = some (.cells #[.int .i64 0, .int .i64 0, .slice none 0 0] 25 (0, 0)) := fr.hp g (drewP (newP w))
theorem hpP_0_0 {w w' : World} (g : fr (w.alloc (.cells #[.int .i64 0, .int .i64 0, .slice none 0 0] 25)) w') : w'.heap[w.heap.size]? = some (.cells #[.int .i64 0, .int .i64 0, .slice none 0 0] 25 (0, 0)) := fr.hp g (newP w)
theorem kp_0_0 {w w' : World} (g : KeepP (w.alloc (.cells #[.int .i64 0, .int .i64 0, .slice none 0 0] 25)) w') : w'.heap[w.heap.size]? = some (.cells #[.int .i64 0, .int .i64 0, .slice none 0 0] 25 (0, 0)) := KeepP.use g (newP w)
theorem hpP_0_1_d {w w' : World} {o0 : Obj} (g : fr ((w.alloc (.cells #[.int .i64 0, .int .i64 0, .slice none 0 0] 25)).alloc o0).drew w') : w'.heap[w.heap.size]? = some (.cells #[.int .i64 0, .int .i64 0, .slice none 0 0] 25 (0, 0)) := fr.hp g (drewP (oldP (newP w)))
theorem hpP_0_1 {w w' : World} {o0 : Obj} (g : fr ((w.alloc (.cells #[.int .i64 0, .int .i64 0, .slice none 0 0] 25)).alloc o0) w') : w'.heap[w.heap.size]? = some (.cells #[.int .i64 0, .int .i64 0, .slice none 0 0] 25 (0, 0)) := fr.hp g (oldP (newP w))
theorem kp_0_1 {w w' : World} {o0 : Obj} (g : KeepP ((w.alloc (.cells #[.int .i64 0, .int .i64 0, .slice none 0 0] 25)).alloc o0) w') : w'.heap[w.heap.size]? = some (.cells #[.int .i64 0, .int .i64 0, .slice none 0 0] 25 (0, 0)) := KeepP.use g (oldP (newP w))
theorem hpP_1_0_d {w w' : World} {o0 : Obj} (g : fr ((w.alloc o0).alloc (.cells #[.int .i64 0, .int .i64 0, .slice none 0 0] 25)).drew w') : w'.heap[w.heap.size + 1]? = some (.cells #[.int .i64 0, .int .i64 0, .slice none 0 0] 25 (0, 0)) := fr.hp g (drewP (newP1 w o0))
theorem hpP_1_0 {w w' : World} {o0 : Obj} (g : fr ((w.alloc o0).alloc (.cells #[.int .i64 0, .int .i64 0, .slice none 0 0] 25)) w') : w'.heap[w.heap.size + 1]? = some (.cells #[.int .i64 0, .int .i64 0, .slice none 0 0] 25 (0, 0)) := fr.hp g (newP1 w o0)
theorem kp_1_0 {w w' : World} {o0 : Obj} (g : KeepP ((w.alloc o0).alloc (.cells #[.int .i64 0, .int .i64 0, .slice none 0 0] 25)) w') : w'.heap[w.heap.size + 1]? = some (.cells #[.int .i64 0, .int .i64 0, .slice none 0 0] 25 (0, 0)) := KeepP.use g (newP1 w o0)
theorem hpP_0_2_d {w w' : World} {o0 o1 : Obj} (g : fr (((w.alloc (.cells #[.int .i64 0, .int .i64 0, .slice none 0 0] 25)).alloc o0).alloc o1).drew w') : w'.heap[w.heap.size]? = some (.cells #[.int .i64 0, .int .i64 0, .slice none 0 0] 25 (0, 0)) := fr.hp g (drewP (oldP (oldP (newP w))))
theorem hpP_0_2 {w w' : World} {o0 o1 : Obj} (g : fr (((w.alloc (.cells #[.int .i64 0, .int .i64 0, .slice none 0 0] 25)).alloc o0).alloc o1) w') : w'.heap[w.heap.size]? = some (.cells #[.int .i64 0, .int .i64 0, .slice none 0 0] 25 (0, 0)) := fr.hp g (oldP (oldP (newP w)))
theorem kp_0_2 {w w' : World} {o0 o1 : Obj} (g : KeepP (((w.alloc (.cells #[.int .i64 0, .int .i64 0, .slice none 0 0] 25)).alloc o0).alloc o1) w') : w'.heap[w.heap.size]? = some (.cells #[.int .i64 0, .int .i64 0, .slice none 0 0] 25 (0, 0)) := KeepP.use g (oldP (oldP (newP w)))
theorem hpP_1_1_d {w w' : World} {o0 o1 : Obj} (g : fr (((w.alloc o0).alloc (.cells #[.int .i64 0, .int .i64 0, .slice none 0 0] 25)).alloc o1).drew w') : w'.heap[w.heap.size + 1]? = some (.cells #[.int .i64 0, .int .i64 0, .slice none 0 0] 25 (0, 0)) := fr.hp g (drewP (oldP (newP1 w o0)))
theorem hpP_1_1 {w w' : World} {o0 o1 : Obj} (g : fr (((w.alloc o0).alloc (.cells #[.int .i64 0, .int .i64 0, .slice none 0 0] 25)).alloc o1) w') : w'.heap[w.heap.size + 1]? = some (.cells #[.int .i64 0, .int .i64 0, .slice none 0 0] 25 (0, 0)) := fr.hp g (oldP (newP1 w o0))
theorem kp_1_1 {w w' : World} {o0 o1 : Obj} (g : KeepP (((w.alloc o0).alloc (.cells #[.int .i64 0, .int .i64 0, .slice none 0 0] 25)).alloc o1) w') : w'.heap[w.heap.size + 1]? = some (.cells #[.int .i64 0, .int .i64 0, .slice none 0 0] 25 (0, 0)) := KeepP.use g (oldP (newP1 w o0))
theorem hpP_2_0_d {w w' : World} {o0 o1 : Obj} (g : fr (((w.alloc o0).alloc o1).alloc (.cells #[.int .i64 0, .int .i64 0, .slice none 0 0] 25)).drew w') : w'.heap[w.heap.size + 1 + 1]? = some (.cells #[.int .i64 0, .int .i64 0, .slice none 0 0] 25 (0, 0)) := fr.hp g (drewP (newP2 w o0 o1))
theorem hpP_2_0 {w w' : World} {o0 o1 : Obj} (g : fr (((w.alloc o0).alloc o1).alloc (.cells #[.int .i64 0, .int .i64 0, .slice none 0 0] 25)) w') : w'.heap[w.heap.size + 1 + 1]? = some (.cells #[.int .i64 0, .int .i64 0, .slice none 0 0] 25 (0, 0)) := fr.hp g (newP2 w o0 o1)
theorem kp_2_0 {w w' : World} {o0 o1 : Obj} (g : KeepP (((w.alloc o0).alloc o1).alloc (.cells #[.int .i64 0, .int .i64 0, .slice none 0 0] 25)) w') : w'.heap[w.heap.size + 1 + 1]? = some (.cells #[.int .i64 0, .int .i64 0, .slice none 0 0] 25 (0, 0)) := KeepP.use g (newP2 w o0 o1)
theorem hpB_0_0_d {w w' : World} (g : fr (w.alloc (.cells #[.int .u8 7] 5)).drew w') : w'.heap[w.heap.size]? = some (.cells #[.int .u8 7] 5 (0, 0)) := fr.hp g (drewP (newB w))
theorem hpB_0_0 {w w' : World} (g : fr (w.alloc (.cells #[.int .u8 7] 5)) w') : w'.heap[w.heap.size]? = some (.cells #[.int .u8 7] 5 (0, 0)) := fr.hp g (newB w)
theorem hpB_0_1_d {w w' : World} {o0 : Obj} (g : fr ((w.alloc (.cells #[.int .u8 7] 5)).alloc o0).drew w') : w'.heap[w.heap.size]? = some (.cells #[.int .u8 7] 5 (0, 0)) := fr.hp g (drewP (oldP (newB w)))
theorem hpB_0_1 {w w' : World} {o0 : Obj} (g : fr ((w.alloc (.cells #[.int .u8 7] 5)).alloc o0) w') : w'.heap[w.heap.size]? = some (.cells #[.int .u8 7] 5 (0, 0)) := fr.hp g (oldP (newB w))
theorem hpB_1_0_d {w w' : World} {o0 : Obj} (g : fr ((w.alloc o0).alloc (.cells #[.int .u8 7] 5)).drew w') : w'.heap[w.heap.size + 1]? = some (.cells #[.int .u8 7] 5 (0, 0)) := fr.hp g (drewP (newB1 w o0))
theorem hpB_1_0 {w w' : World} {o0 : Obj} (g : fr ((w.alloc o0).alloc (.cells #[.int .u8 7] 5)) w') : w'.heap[w.heap.size + 1]? = some (.cells #[.int .u8 7] 5 (0, 0)) := fr.hp g (newB1 w o0)
theorem hpB_0_2_d {w w' : World} {o0 o1 : Obj} (g : fr (((w.alloc (.cells #[.int .u8 7] 5)).alloc o0).alloc o1).drew w') : w'.heap[w.heap.size]? = some (.cells #[.int .u8 7] 5 (0, 0)) := fr.hp g (drewP (oldP (oldP (newB w))))
theorem hpB_0_2 {w w' : World} {o0 o1 : Obj} (g : fr (((w.alloc (.cells #[.int .u8 7] 5)).alloc o0).alloc o1) w') : w'.heap[w.heap.size]? = some (.cells #[.int .u8 7] 5 (0, 0)) := fr.hp g (oldP (oldP (newB w)))
theorem hpB_1_1_d {w w' : World} {o0 o1 : Obj} (g : fr (((w.alloc o0).alloc (.cells #[.int .u8 7] 5)).alloc o1).drew w') : w'.heap[w.heap.size + 1]? = some (.cells #[.int .u8 7] 5 (0, 0)) := fr.hp g (drewP (oldP (newB1 w o0)))
theorem hpB_1_1 {w w' : World} {o0 o1 : Obj} (g : fr (((w.alloc o0).alloc (.cells #[.int .u8 7] 5)).alloc o1) w') : w'.heap[w.heap.size + 1]? = some (.cells #[.int .u8 7] 5 (0, 0)) := fr.hp g (oldP (newB1 w o0))
theorem hpB_2_0_d {w w' : World} {o0 o1 : Obj} (g : fr (((w.alloc o0).alloc o1).alloc (.cells #[.int .u8 7] 5)).drew w') : w'.heap[w.heap.size + 1 + 1]? = some (.cells #[.int .u8 7] 5 (0, 0)) := fr.hp g (drewP (newB2 w o0 o1))
theorem hpB_2_0 {w w' : World} {o0 o1 : Obj} (g : fr (((w.alloc o0).alloc o1).alloc (.cells #[.int .u8 7] 5)) w') : w'.heap[w.heap.size + 1 + 1]? = some (.cells #[.int .u8 7] 5 (0, 0)) := fr.hp g (newB2 w o0 o1)
theorem hpo1 {w w' : World} {o x : Obj} {i : Nat} (g : fr (w.alloc o) w') (h : w.heap[i]? = some x) : w'.heap[i]? = some x := fr.hp g (oldP h)
theorem hpo2 {w w' : World} {o o' x : Obj} {i : Nat} (g : fr ((w.alloc o).alloc o') w') (h : w.heap[i]? = some x) : w'.heap[i]? = some x := fr.hp g (oldP (oldP h))
theorem kpo1 {w w' : World} {o : Obj} {i : Nat} {cs : Array Value} (g : KeepP (w.alloc o) w') (h : w.heap[i]? = some (.cells cs 25 (0, 0))) : w'.heap[i]? = some (.cells cs 25 (0, 0)) := KeepP.use g (oldP h)
theorem kpo2 {w w' : World} {o o' : Obj} {i : Nat} {cs : Array Value} (g : KeepP ((w.alloc o).alloc o') w') (h : w.heap[i]? = some (.cells cs 25 (0, 0))) : w'.heap[i]? = some (.cells cs 25 (0, 0)) := KeepP.use g (oldP (oldP h))
/-- the block of the one byte 7. -/
def Has7 (w : World) (g : Nat) : Prop := w.heap[g]? = some (.cells #[.int .u8 7] 5 (0, 0))
theorem has7_new (w : World) : Has7 (w.alloc (.cells #[.int .u8 7] 5)) w.heap.size := newB w
theorem has7_new1 (w : World) (o : Obj) : Has7 ((w.alloc o).alloc (.cells #[.int .u8 7] 5)) (w.heap.size + 1) := newB1 w o
theorem has7_old {w : World} {g : Nat} {o : Obj} (h : Has7 w g) : Has7 (w.alloc o) g := oldP h
theorem step_own7 {w : World} {ops : Array Oper} {o : Oper} {a : Act} {K : Act → World → Prop} {Q : Exit → Act → World → Prop} {E : Prop} (hgd : o.guard = none) (s x : Operand)
    (ho : o.op = .call { callee := .builtin .append, args := #[s, x], argTypes := #[35, 35] }) (g : Nat) (v : Value) (hs : a.eval s = v) (hx : a.eval x = .slice (some ⟨g, 0, none⟩) 1 1)
    (bs : List UInt8) (W2 W3 : World) (hl : bs.length ≤ 1048576) (hown : OwnB W3 (fun i => W2.heap.size ≤ i) v bs) (hf2 : fr W2 W3) (hf : fr W3 w) (hg : Has7 w g)
    (hK : ∀ A c w', OwnB w' (fun i => W2.heap.size ≤ i) (.slice A (bs.length + 1) c) (bs ++ [7]) → fr W2 w' → KeepP w w' → K (a.put o.dst (.slice A (bs.length + 1) c)) w') :
    if Region.wanted o (yielded ops a.tmps) = true then Oper.wp Try.prog o a w K Q else E := step_own1 hgd s x ho g v hs hx bs W2 W3 hl hown hf2 hf hg hK
theorem own_meet2 {w1 w2 w4 wp : World} {n : Nat} {Ai : Option Addr} {ci : Nat} {fs : List Fl} {A4 : Option Addr} {c4 : Nat} {b : List UInt8} {Ap : Option Addr} {cp : Nat} {zs : List Int} {ops room : Int} {x y z : Value}
    (hx : x = .slice Ai n ci) (hy : y = .slice A4 (b.length + 1) c4) (hz : z = .pointer (some ⟨wp.heap.size, 0, none⟩))
    (hR : RowF w2 w1.heap.size (fun i => w1.heap.size ≤ i ∧ i < w2.heap.size ∧ Loose w2 i) (.slice Ai n ci) fs) (f2 : fr w1 w2) (g4 : fr w2 w4) (o4 : OwnB w4 (fun i => w2.heap.size ≤ i) (.slice A4 (b.length + 1) c4) (b ++ [7])) (fp : fr w4 wp)
    (hK : KeepV wp (fun i => w1.heap.size ≤ i) (.slice Ap zs.length cp) zs) :
    let wc := wp.alloc (.cells #[.int .i64 ops, .int .i64 room, .slice Ap zs.length cp] 25)
    ∃ (Ai : Option Addr) (ci cy gy sz pb s : Nat) (Ap : Option Addr) (cp : Nat), x = .slice Ai n ci ∧ y = .slice (some ⟨gy, 0, none⟩) (b.length + 1) cy ∧ z = .pointer (some ⟨pb, 0, none⟩) ∧
    RowF wc w1.heap.size (fun i => w1.heap.size ≤ i ∧ i < s ∧ Loose wc i) (.slice Ai n ci) fs ∧ Counted wc gy sz (b ++ [7]) 0 ∧ s ≤ gy ∧ w1.heap.size ≤ gy ∧ b.length + 1 ≤ cy ∧ cy ≤ 9223372036854775807 ∧
    wc.heap[pb]? = some (.cells #[.int .i64 ops, .int .i64 room, .slice Ap zs.length cp] 25 (0, 0)) ∧ w1.heap.size ≤ pb ∧ KeepV wc (fun i => w1.heap.size ≤ i) (.slice Ap zs.length cp) zs ∧ fr w1 wc := by
  intro wc
  have hs12 := Below.size f2
  have hs24 := Below.size g4
  have hs4p := Below.size fp
  have hwc : fr wp wc := fr.alloc fr.refl _
  have hpc : wc.heap[wp.heap.size]? = some (.cells #[.int .i64 ops, .int .i64 room, .slice Ap zs.length cp] 25 (0, 0)) := heap_alloc_new wp _
  obtain ⟨A, c, hv, l1, l2, l3, l4⟩ := o4
  injection hv with e1 _ e3
  subst e1 e3
  have hlen : (b ++ [7]).length = b.length + 1 := by simp
  obtain ⟨gy, cur, rfl, hgy, hh, hcs, ht⟩ : ∃ (g : Nat) (cur : Array Value), A4 = some ⟨g, 0, none⟩ ∧ w2.heap.size ≤ g ∧ w4.heap[g]? = some (.cells cur 5 (0, 0)) ∧ c4 ≤ cur.size ∧ cur.toList.take (b ++ [7]).length = (b ++ [7]).map bcell := by
    rcases l4 with h | h
    · omega
    · exact h
  have hgc : wc.heap[gy]? = some (.cells cur 5 (0, 0)) := fr.hp hwc (fr.hp fp hh)
  have hX : ∀ i, i < w2.heap.size → wc.heap[i]? = w2.heap[i]? := fun i h1 =>
    (Below.block hwc i (by omega)).trans ((Below.block fp i (by omega)).trans (Below.block g4 i h1))
  refine ⟨Ai, ci, c4, gy, cur.size, wp.heap.size, w2.heap.size, Ap, cp, hx, hy, hz, ?_, ⟨cur, hgc, rfl, fun i x hi => ?_⟩, hgy, by omega, by omega, l2, hpc, by omega, hK.allocK _, fr.step (fr.step (fr.step f2 g4) fp) hwc⟩
  · exact (hR.kept (w' := wc) (by have := Below.size hwc; omega) (fun g hg => hX g (hR.lt hg).2) fun i hi hs => hX i hi).mono fun i _ hi => ⟨hi.1, hi.2.1, hi.2.2.of_eq (hX i hi.2.1)⟩
  · rw [if_neg (by omega)]
    have h1 : ((b ++ [7]).map bcell)[i]? = some (bcell x) := by rw [List.getElem?_map, hi]; rfl
    rw [← ht, List.getElem?_take] at h1
    split at h1
    · simpa using h1
    · cases h1
theorem own_meetC {w1 w2 w4 wp wc : World} {n pb : Nat} {Ai : Option Addr} {ci : Nat} {fs : List Fl} {A4 : Option Addr} {c4 : Nat} {b : List UInt8} {Ap : Option Addr} {cp : Nat} {zs : List Int} {ops room : Int} {x y z : Value}
    (hwc : wc = ((wp.setCell ⟨pb, 0, none⟩ (.int .i64 ops)).setCell ⟨pb, 1, none⟩ (.int .i64 room)).setCell ⟨pb, 2, none⟩ (.slice Ap zs.length cp)) (hx : x = .slice Ai n ci) (hy : y = .slice A4 (b.length + 1) c4) (hz : z = .pointer (some ⟨pb, 0, none⟩))
    (hR : RowF w2 w1.heap.size (fun i => w1.heap.size ≤ i ∧ i < w2.heap.size ∧ Loose w2 i) (.slice Ai n ci) fs) (f2 : fr w1 w2) (g4 : fr w2 w4) (o4 : OwnB w4 (fun i => w2.heap.size ≤ i) (.slice A4 (b.length + 1) c4) (b ++ [7])) (fp : fr w4 wp)
    (hp : wp.heap[pb]? = some (.cells #[.int .i64 0, .int .i64 0, .slice none 0 0] 25 (0, 0))) (hpn : w1.heap.size ≤ pb) (hK : KeepV wp (fun i => w1.heap.size ≤ i) (.slice Ap zs.length cp) zs) :
    ∃ (Ai : Option Addr) (ci cy gy sz pb s : Nat) (Ap : Option Addr) (cp : Nat), x = .slice Ai n ci ∧ y = .slice (some ⟨gy, 0, none⟩) (b.length + 1) cy ∧ z = .pointer (some ⟨pb, 0, none⟩) ∧
    RowF wc w1.heap.size (fun i => w1.heap.size ≤ i ∧ i < s ∧ Loose wc i) (.slice Ai n ci) fs ∧ Counted wc gy sz (b ++ [7]) 0 ∧ s ≤ gy ∧ w1.heap.size ≤ gy ∧ b.length + 1 ≤ cy ∧ cy ≤ 9223372036854775807 ∧
    wc.heap[pb]? = some (.cells #[.int .i64 ops, .int .i64 room, .slice Ap zs.length cp] 25 (0, 0)) ∧ w1.heap.size ≤ pb ∧ KeepV wc (fun i => w1.heap.size ≤ i) (.slice Ap zs.length cp) zs ∧ fr w1 wc := by
  subst hwc
  exact own_meet hx hy hz hR f2 g4 o4 fp hp hpn hK
theorem own_meet2C {w1 w2 w4 wp wc : World} {n : Nat} {Ai : Option Addr} {ci : Nat} {fs : List Fl} {A4 : Option Addr} {c4 : Nat} {b : List UInt8} {Ap : Option Addr} {cp : Nat} {zs : List Int} {ops room : Int} {x y z : Value}
    (hwc : wc = wp.alloc (.cells #[.int .i64 ops, .int .i64 room, .slice Ap zs.length cp] 25)) (hx : x = .slice Ai n ci) (hy : y = .slice A4 (b.length + 1) c4) (hz : z = .pointer (some ⟨wp.heap.size, 0, none⟩))
    (hR : RowF w2 w1.heap.size (fun i => w1.heap.size ≤ i ∧ i < w2.heap.size ∧ Loose w2 i) (.slice Ai n ci) fs) (f2 : fr w1 w2) (g4 : fr w2 w4) (o4 : OwnB w4 (fun i => w2.heap.size ≤ i) (.slice A4 (b.length + 1) c4) (b ++ [7])) (fp : fr w4 wp)
    (hK : KeepV wp (fun i => w1.heap.size ≤ i) (.slice Ap zs.length cp) zs) :
    ∃ (Ai : Option Addr) (ci cy gy sz pb s : Nat) (Ap : Option Addr) (cp : Nat), x = .slice Ai n ci ∧ y = .slice (some ⟨gy, 0, none⟩) (b.length + 1) cy ∧ z = .pointer (some ⟨pb, 0, none⟩) ∧
    RowF wc w1.heap.size (fun i => w1.heap.size ≤ i ∧ i < s ∧ Loose wc i) (.slice Ai n ci) fs ∧ Counted wc gy sz (b ++ [7]) 0 ∧ s ≤ gy ∧ w1.heap.size ≤ gy ∧ b.length + 1 ≤ cy ∧ cy ≤ 9223372036854775807 ∧
    wc.heap[pb]? = some (.cells #[.int .i64 ops, .int .i64 room, .slice Ap zs.length cp] 25 (0, 0)) ∧ w1.heap.size ≤ pb ∧ KeepV wc (fun i => w1.heap.size ≤ i) (.slice Ap zs.length cp) zs ∧ fr w1 wc := by
  subst hwc
  exact own_meet2 hx hy hz hR f2 g4 o4 fp hK
/-- the operation is the append into that temporary: else the arm is left at once. -/
theorem at_op {d : Option Tmp} {A : Array Operand} {T : Array TypeId} {t : TypeId} {pos : String} {af : Array Edge} {g : Option (Nat × Bool)} {Y : Nat → Option Bool} {Z E : Prop}
    (h : if Region.wanted { dst := d, op := .call { callee := .builtin .append, args := A, argTypes := T }, type := t, pos := pos, after := af, guard := g } Y = true then Z else E) :
    if Region.wanted { dst := d, op := .call { callee := .builtin .append, args := A, argTypes := T }, type := t, pos := pos, after := af, guard := g } Y = true then Z else E := h
end Go.Proofs.Ytcmjoaepihbodaa
end
