/-
A range over a function: what an iterator and its rounds owe each other. The rounds turn blocks of their own alone (T); between rounds the iterator turns no cells that lay. A round may leave early.
-/
import Derived.Test.YtiffgjodbcploaaGreatProg
import Derived.WalkKit
import Derived.WalkSpells
import Derived.WalkLawsBesides
import Derived.Lib.Hide
import Derived.Deep.QuietTactic
import Derived.BigQuiet
import Derived.Laws.OwnMore
import Derived.Deep.Draws
import Derived.Lib.BytesEntry
import Derived.Shelf.Bytes.SlSmallAll
import Derived.Laws.IdiomStrings
import Derived.Laws.Externs
import Derived.LoopTactic
import Derived.Deep.LoopGhost
import Derived.Laws.AppendOwn
import Derived.Maps.AppendAt
import Derived.Deep.RegionHeld3
import Derived.Deep.DrawnRows
import Derived.StillTactics
import Derived.StillTailTactics
import Derived.Laws.Pointers
import Derived.OwnWalk
import Derived.Deep.RegionWith
import Derived.Deep.RegionLaw
import Derived.Laws.Rows
import Derived.RangeFuncNested
import Derived.RangeFuncBound
import Derived.RangeFuncCalls
import Derived.RangeFuncLeaves
section
namespace Go.Proofs.YtiffgjodbcploaaGreat
set_option maxRecDepth 100000
open Go.RowKit
theorem ret_int {k : IntKind} {a b : Int} (h : a = b) : Ending.returned (.int k a) = .returned (.int k b) := by rw [h]
theorem ret_bool {a b : Bool} (h : a = b) : Ending.returned (.bool a) = .returned (.bool b) := by rw [h]
theorem results_tmp4 {fn : Func} {t u v x : Tmp} (h : fn.results = #[.tmp t, .tmp u, .tmp v, .tmp x]) (tmps : Array Value) (P : Program) (w : World) :
    (results fn tmps).run P w = .ok (.tuple #[tmps.getD t undef, tmps.getD u undef, tmps.getD v undef, tmps.getD x undef]) w := by simp [results, h]
theorem quiet_add_left {P : Program} {f : FuncId} {args : Array Value} {w : World} {a n : Nat} {v : Value}
    (h : Calls P f args (w.drewN (a + n)) fun e w' => e = .returned v ∧ w.drewN (a + n) = w') :
    Calls P f args (w.drewN (a + n)) fun e w'' => e = .returned v ∧ ∃ m, w'' = w.drewN (a + m) :=
  h.mono fun _ _ ⟨he, hm⟩ => ⟨he, n, hm.symm⟩
theorem quiet_left {P : Program} {f : FuncId} {args : Array Value} {w : World} {n : Nat} {v : Value}
    (h : Calls P f args (w.drewN n) fun e w' => e = .returned v ∧ w.drewN n = w') : Calls P f args (w.drewN n) fun e w'' => e = .returned v ∧ ∃ m, w'' = w.drewN m :=
  h.mono fun _ _ ⟨he, hm⟩ => ⟨he, n, hm.symm⟩
theorem below_drewN {B : Nat} {a w : World} (h : Below B a w) (n : Nat) : Below B a (w.drewN n) := ⟨h.os, h.tape, h.output, h.size, h.block⟩
end Go.Proofs.YtiffgjodbcploaaGreat
end
section
namespace Go.Proofs.YtiffgjodbcploaaGreat
set_option maxRecDepth 100000
open Go.RowKit
/-- 'w' is 'w' with all blocks as they were but those in S, and new ones. -/
structure Only (S : Nat → Prop) (w w' : World) : Prop where
  os : w'.os = w.os
  tape : w'.tape = w.tape
  output : w'.output = w.output
  size : w.heap.size ≤ w'.heap.size
  block : ∀ i, i < w.heap.size → ¬ S i → w'.heap[i]? = w.heap[i]?
def Row (w : World) (S : Nat → Prop) (A : Option Addr) (n size : Nat) (xs : List Value) : Prop :=
  xs.length = n * size ∧ (0 < n → ∃ b o, A = some ⟨b, o, none⟩ ∧ S b ∧ b < w.heap.size ∧ ∀ j u, xs[j]? = some u → w.cell? ⟨b, o + j, none⟩ = some u)
theorem Row.nil (w : World) (S : Nat → Prop) (A : Option Addr) (size : Nat) : Row w S A 0 size [] := ⟨by simp, fun h => absurd h (by omega)⟩
theorem Row.at_ {w : World} {S : Nat → Prop} {A : Option Addr} {n k : Nat} {xs : List Value} (h : Row w S A n 1 xs) (hk : k < n) :
    ∃ b o u, A = some ⟨b, o, none⟩ ∧ S b ∧ b < w.heap.size ∧ xs[k]? = some u ∧ w.cell? ⟨b, o + k, none⟩ = some u := by
  obtain ⟨b, o, e, hS, hb, hc⟩ := h.2 (by omega)
  have hl : k < xs.length := by have := h.1; omega
  exact ⟨b, o, xs[k], e, hS, hb, List.getElem?_eq_getElem hl, hc k _ (List.getElem?_eq_getElem hl)⟩
theorem Row.keep {w w' : World} {S : Nat → Prop} {A : Option Addr} {n size : Nat} {xs : List Value} (h : Row w S A n size xs) (hz : w.heap.size ≤ w'.heap.size)
    (hk : ∀ i, i < w.heap.size → S i → w'.heap[i]? = w.heap[i]?) : Row w' S A n size xs :=
  ⟨h.1, fun hn => by
    obtain ⟨b, o, e, hS, hb, hc⟩ := h.2 hn
    refine ⟨b, o, e, hS, by omega, fun j u hu => ?_⟩
    rw [World.cell?_of_block (w' := w') (w := w) (a := ⟨b, o + j, none⟩) (hk b hb hS)]
    exact hc j u hu⟩
theorem Row.mono {w : World} {S S' : Nat → Prop} {A : Option Addr} {n size : Nat} {xs : List Value} (h : Row w S A n size xs) (hS : ∀ i, S i → S' i) : Row w S' A n size xs :=
  ⟨h.1, fun hn => by
    obtain ⟨b, o, e, h1, hb, hc⟩ := h.2 hn
    exact ⟨b, o, e, hS b h1, hb, hc⟩⟩
theorem Row.below {w w' : World} {S : Nat → Prop} {A : Option Addr} {n size : Nat} {xs : List Value} (h : Row w S A n size xs) (hb : Below w.heap.size w w') : Row w' S A n size xs :=
  h.keep hb.size fun i hi _ => hb.block i hi
theorem Row.drewN {w : World} {S : Nat → Prop} {A : Option Addr} {n size : Nat} {xs : List Value} (h : Row w S A n size xs) (k : Nat) : Row (w.drewN k) S A n size xs := h
theorem Row.alloc {w : World} {S : Nat → Prop} {A : Option Addr} {n size : Nat} {xs : List Value} (h : Row w S A n size xs) (o : Obj) : Row (w.alloc o) S A n size xs :=
  h.keep (by simp) fun i hi _ => Below.heap_alloc w o i hi
/-- a slice value of ints. -/
def IntsIn (w : World) (S : Nat → Prop) (v : Value) (xs : List Int) : Prop :=
  ∃ A c, v = .slice A xs.length c ∧ xs.length ≤ c ∧ xs.length ≤ 140737488355328 ∧ Row w S A xs.length 1 (xs.map (Value.int .i64))
theorem IntsIn.nil (w : World) (S : Nat → Prop) : IntsIn w S (.slice none 0 0) [] := ⟨none, 0, rfl, by simp, by simp, Row.nil _ _ _ _⟩
theorem IntsIn.below {w w' : World} {S : Nat → Prop} {v : Value} {xs : List Int} (h : IntsIn w S v xs) (hb : Below w.heap.size w w') : IntsIn w' S v xs := by
  obtain ⟨A, c, e, h1, h2, h3⟩ := h
  exact ⟨A, c, e, h1, h2, h3.below hb⟩
theorem IntsIn.mono {w : World} {S S' : Nat → Prop} {v : Value} {xs : List Int} (h : IntsIn w S v xs) (hS : ∀ i, S i → S' i) : IntsIn w S' v xs := by
  obtain ⟨A, c, e, h1, h2, h3⟩ := h
  exact ⟨A, c, e, h1, h2, h3.mono hS⟩
theorem IntsIn.drewN {w : World} {S : Nat → Prop} {v : Value} {xs : List Int} (h : IntsIn w S v xs) (k : Nat) : IntsIn (w.drewN k) S v xs := h
theorem IntsIn.of_own {w : World} {S : Nat → Prop} {base : Nat} {e : TypeId} {v : Value} {xs : List Int} (h : w.ownsRow base e 1 v xs.length (xs.map (Value.int .i64))) (hS : ∀ i, base ≤ i → i < w.heap.size → S i)
    (hl : xs.length ≤ 140737488355328) : IntsIn w S v xs := by
  rcases h.2 with ⟨rfl, h0⟩ | ⟨g, cap, cur, rfl, hbg, hh, hcap, _⟩
  · have : xs = [] := List.eq_nil_of_length_eq_zero h0
    subst this
    exact IntsIn.nil _ _
  · have hlt : g < w.heap.size := by
      rcases Nat.lt_or_ge g w.heap.size with h1 | h1
      · exact h1
      · rw [Array.getElem?_eq_none h1] at hh; cases hh
    refine ⟨_, _, rfl, hcap, hl, by simp, fun _ => ⟨g, 0, rfl, hS _ hbg hlt, hlt, fun j u hu => ?_⟩⟩
    have := h.cells (g := g) rfl j u hu
    rwa [Addr.add_lit] at this
/-- a literal of ints. -/
theorem IntsIn.lit (w : World) (S : Nat → Prop) (hS : S w.heap.size) (e : TypeId) (xs : List Int) (hl : xs.length ≤ 140737488355328) (o : Obj) (ho : o = .cells (xs.map (Value.int .i64)).toArray e (0, 0)) :
    IntsIn (w.alloc o) S (.slice (some ⟨w.heap.size, 0, none⟩) xs.length xs.length) xs := by
  subst ho
  refine ⟨_, _, rfl, Nat.le_refl _, hl, by simp, fun _ => ⟨w.heap.size, 0, rfl, hS, by simp, fun j u hu => ?_⟩⟩
  rw [World.cell?_alloc_at _ _ _ _ rfl]
  simpa using hu
end Go.Proofs.YtiffgjodbcploaaGreat
end
section
namespace Go.Proofs.YtiffgjodbcploaaGreat
set_option maxRecDepth 100000
open Go.RowKit Go.BigFrame
attribute [local go_sem ↓] Go.wp_at_zero Go.wp_at_succ
def bcell (b : UInt8) : Value := .int .u8 (b.toNat : Int)
def Byt (w : World) (S : Nat → Prop) (v : Value) (bs : List UInt8) : Prop :=
  ∃ A c, v = .slice A bs.length c ∧ bs.length ≤ c ∧ c ≤ 9223372036854775807 ∧ bs.length ≤ 140737488355328 ∧ Row w S A bs.length 1 (bs.map bcell)
theorem Byt.nil (w : World) (S : Nat → Prop) : Byt w S (.slice none 0 0) [] := ⟨none, 0, rfl, by simp, by simp, by simp, Row.nil _ _ _ _⟩
theorem Byt.below {w w' : World} {S : Nat → Prop} {v : Value} {bs : List UInt8} (h : Byt w S v bs) (hb : Below w.heap.size w w') : Byt w' S v bs := by
  obtain ⟨A, c, e, h1, h2, h3, h4⟩ := h
  exact ⟨A, c, e, h1, h2, h3, h4.below hb⟩
theorem Byt.keep {w w' : World} {S : Nat → Prop} {v : Value} {bs : List UInt8} (h : Byt w S v bs) (hz : w.heap.size ≤ w'.heap.size) (hk : ∀ i, i < w.heap.size → S i → w'.heap[i]? = w.heap[i]?) : Byt w' S v bs := by
  obtain ⟨A, c, e, h1, h2, h3, h4⟩ := h
  exact ⟨A, c, e, h1, h2, h3, h4.keep hz hk⟩
theorem Byt.mono {w : World} {S S' : Nat → Prop} {v : Value} {bs : List UInt8} (h : Byt w S v bs) (hS : ∀ i, S i → S' i) : Byt w S' v bs := by
  obtain ⟨A, c, e, h1, h2, h3, h4⟩ := h
  exact ⟨A, c, e, h1, h2, h3, h4.mono hS⟩
theorem Byt.drewN {w : World} {S : Nat → Prop} {v : Value} {bs : List UInt8} (h : Byt w S v bs) (k : Nat) : Byt (w.drewN k) S v bs := h
theorem byte_back (b : UInt8) : UInt8.ofNat (b.toNat : Int).toNat = b := by simp
theorem bytesOf_bcell (bs : List UInt8) : Lib.bytesOf (bs.map fun b => (b.toNat : Int)) = bs := by
  unfold Lib.bytesOf
  rw [List.map_map]
  conv => rhs; rw [← List.map_id bs]
  apply List.map_congr_left
  intro b _
  simp
theorem Byt.convert {w : World} {S : Nat → Prop} {v : Value} {bs : List UInt8} (h : Byt w S v bs) : (convert 42 9 v).run Tryz.prog w = .ok (.string ⟨bs.toArray⟩) w := by
  obtain ⟨A, c, rfl, h1, h2, h3, hr⟩ := h
  rcases Nat.eq_zero_or_pos bs.length with h0 | h0
  · have : bs = [] := List.eq_nil_of_length_eq_zero h0
    subst this
    exact run_convert_bytes_zero w 42 5 Tryz.underlying42 Tryz.underlying5 A c 9 Tryz.underlying9
  · obtain ⟨b, o, rfl, _, _, hc⟩ := hr.2 h0
    exact run_convert_bytes_back w 42 9 5 ⟨b, o, none⟩ c bs Tryz.underlying42 Tryz.underlying5 Tryz.underlying9 (fun j hj => by
      rw [Addr.add_lit]
      exact hc j _ (by rw [List.getElem?_map, List.getElem?_eq_getElem hj]; rfl))
theorem Byt.bytesOf {w : World} {S : Nat → Prop} {v : Value} {bs : List UInt8} (h : Byt w S v bs) : (Extern.Bytes.bytesOf v).run Tryz.prog w = .ok ⟨bs.toArray⟩ w := by
  obtain ⟨A, c, rfl, h1, h2, h3, hr⟩ := h
  rcases Nat.eq_zero_or_pos bs.length with h0 | h0
  · have : bs = [] := List.eq_nil_of_length_eq_zero h0
    subst this
    rcases A with _ | a
    · rfl
    · rfl
  · obtain ⟨b, o, rfl, _, _, hc⟩ := hr.2 h0
    have hl := Lib.run_loadBytesX (P := Tryz.prog) w (bs.map fun b => (b.toNat : Int)) ⟨b, o, none⟩ .empty (fun j x hj => by
      rw [Addr.add_lit]
      rw [List.getElem?_map] at hj
      rcases hb : bs[j]? with _ | y
      · rw [hb] at hj; cases hj
      · rw [hb] at hj
        injection hj with hj
        subst hj
        exact hc j _ (by rw [List.getElem?_map, hb]; rfl))
    rw [List.length_map, bytesOf_bcell] at hl
    show (Extern.Bytes.loadBytes ⟨b, o, none⟩ bs.length .empty).run Tryz.prog w = _
    rw [hl]
    congr 1
    apply ByteArray.ext
    show (#[] : Array UInt8) ++ bs.toArray = bs.toArray
    simp
theorem ba_get (l : List UInt8) (i : Nat) : (⟨l.toArray⟩ : ByteArray)[i]! = l.getD i default := by
  by_cases h : i < l.length
  · have h' : i < (⟨l.toArray⟩ : ByteArray).size := by simpa [ByteArray.size] using h
    rw [getElem!_pos (⟨l.toArray⟩ : ByteArray) i h', List.getD_eq_getElem?_getD, List.getElem?_eq_getElem h]
    rfl
  · have h' : ¬ i < (⟨l.toArray⟩ : ByteArray).size := by simpa [ByteArray.size] using h
    rw [getElem!_neg (⟨l.toArray⟩ : ByteArray) i h', List.getD_eq_getElem?_getD, List.getElem?_eq_none (by omega)]
    rfl
theorem ba_size (l : List UInt8) : (⟨l.toArray⟩ : ByteArray).size = l.length := by simp [ByteArray.size]
theorem drop_at (A : ByteArray) (k : Nat) (h : k < A.size) : A.data.toList.drop k = A[k] :: A.data.toList.drop (k + 1) := by
  rw [List.drop_eq_getElem_cons (by simpa using h)]; rfl
theorem Byt.len {w : World} {S : Nat → Prop} {v : Value} {bs : List UInt8} (h : Byt w S v bs) : bs.length ≤ 140737488355328 := by
  obtain ⟨A, c, e, _, _, hl, _⟩ := h
  exact hl
theorem slice_form {w : World} {S : Nat → Prop} {v : Value} {bs : List UInt8} (h : Byt w S v bs) : ∃ A c, v = .slice A bs.length c := by
  obtain ⟨A, c, e, _⟩ := h
  exact ⟨A, c, e⟩
theorem Only.refl (S : Nat → Prop) (w : World) : Only S w w := ⟨rfl, rfl, rfl, Nat.le_refl _, fun _ _ _ => rfl⟩
theorem Only.trans {S : Nat → Prop} {a b c : World} (h : Only S a b) (k : Only S b c) : Only S a c :=
  ⟨k.os.trans h.os, k.tape.trans h.tape, k.output.trans h.output, Nat.le_trans h.size k.size, fun i hi hS => (k.block i (Nat.lt_of_lt_of_le hi h.size) hS).trans (h.block i hi hS)⟩
theorem Only.mono {S S' : Nat → Prop} {a b : World} (h : Only S a b) (hS : ∀ i, S i → S' i) : Only S' a b :=
  ⟨h.os, h.tape, h.output, h.size, fun i hi hn => h.block i hi (fun h' => hn (hS i h'))⟩
theorem Only.of_below {S : Nat → Prop} {a b : World} (h : Below a.heap.size a b) : Only S a b := ⟨h.os, h.tape, h.output, h.size, fun i hi _ => h.block i hi⟩
theorem Only.below {S : Nat → Prop} {a b : World} {B : Nat} (h : Only S a b) (hB : B ≤ a.heap.size) (hS : ∀ i, S i → B ≤ i) : Below B a b :=
  ⟨h.os, h.tape, h.output, h.size, fun i hi => h.block i (Nat.lt_of_lt_of_le hi hB) (fun h' => by have := hS i h'; omega)⟩
theorem Only.setCell {S : Nat → Prop} {a b : World} (h : Only S a b) {p : Addr} (hp : S p.block) (u : Value) : Only S a (b.setCell p u) :=
  h.trans ⟨rfl, rfl, rfl, by simp [World.setCell], fun i _ hS => Below.heap_setCell _ _ _ _ (fun e => hS (by rw [e]; exact hp))⟩
theorem Only.alloc {S : Nat → Prop} {a b : World} (h : Only S a b) (o : Obj) : Only S a (b.alloc o) :=
  h.trans ⟨rfl, rfl, rfl, by simp, fun _ hi _ => Below.heap_alloc _ _ _ hi⟩
theorem Only.drew {S : Nat → Prop} {a b : World} (h : Only S a b) : Only S a b.drew := ⟨h.os, h.tape, h.output, h.size, h.block⟩
theorem Only.drewN {S : Nat → Prop} {a b : World} (h : Only S a b) (k : Nat) : Only S a (b.drewN k) := ⟨h.os, h.tape, h.output, h.size, h.block⟩
theorem Row.only {w w' : World} {T S : Nat → Prop} {A : Option Addr} {n size : Nat} {xs : List Value} (h : Row w T A n size xs) (ho : Only S w w') (hd : ∀ i, i < w.heap.size → T i → ¬ S i) : Row w' T A n size xs :=
  h.keep ho.size fun i hi hT => ho.block i hi (hd i hi hT)
theorem Byt.only {w w' : World} {T S : Nat → Prop} {v : Value} {bs : List UInt8} (h : Byt w T v bs) (ho : Only S w w') (hd : ∀ i, i < w.heap.size → T i → ¬ S i) : Byt w' T v bs :=
  h.keep ho.size fun i hi hT => ho.block i hi (hd i hi hT)
theorem info5 : (Tryz.prog.info? 5).map (fun i => (i.zero, i.size, i.bytes)) = some (some (.int .u8 0), 1, 1) := by kernel_rfl
theorem Byt.of_own {w : World} {S : Nat → Prop} {base : Nat} {e : TypeId} {v : Value} {bs : List UInt8} (h : w.ownsRow base e 1 v bs.length (bs.map bcell)) (hS : ∀ i, base ≤ i → i < w.heap.size → S i)
    (hl : bs.length ≤ 140737488355328) : Byt w S v bs := by
  rcases h.2 with ⟨rfl, h0⟩ | ⟨g, cap, cur, rfl, hbg, hh, hcap, hcm, _⟩
  · have : bs = [] := List.eq_nil_of_length_eq_zero h0
    subst this
    exact Byt.nil _ _
  · have hlt : g < w.heap.size := by
      rcases Nat.lt_or_ge g w.heap.size with h1 | h1
      · exact h1
      · rw [Array.getElem?_eq_none h1] at hh; cases hh
    refine ⟨_, _, rfl, hcap, by unfold maxLen at hcm; omega, hl, by simp, fun _ => ⟨g, 0, rfl, hS _ hbg hlt, hlt, fun j u hu => ?_⟩⟩
    have := h.cells (g := g) rfl j u hu
    rwa [Addr.add_lit] at this
theorem run_append_byt (w : World) (base : Nat) (ty : TypeId) (v0 src : Value) (S : Nat → Prop) (bs : List UInt8) (hown : w.ownsRow base 5 1 v0 0 []) (h : Byt w S src bs) (hbase : base ≤ w.heap.size) :
    ∃ v' w', (Builtin.append_ #[42, 42] ty #[v0, src]).run Tryz.prog w = .ok v' w' ∧ w'.ownsRow base 5 1 v' bs.length (bs.map bcell) ∧ w.grownBy w' v0.ownBlock := by
  obtain ⟨i0, hi, hz0, hz1, hz2⟩ := info_parts info5
  obtain ⟨A, c, rfl, h1, h2, h3, hr⟩ := h
  rcases A with _ | ad
  · have hm : bs.length = 0 := by
      rcases Nat.eq_zero_or_pos bs.length with h0 | h0
      · exact h0
      · obtain ⟨b, o, h, _⟩ := hr.2 h0
        cases h
    have : bs = [] := List.eq_nil_of_length_eq_zero hm
    subst this
    refine ⟨v0, w, ?_, by simpa using hown, World.grownBy.refl w _⟩
    rcases hown.2 with ⟨rfl, _⟩ | ⟨g, cap, cur, rfl, _, _, hnc, _⟩
    · simp [Builtin.append_, run_underlying Tryz.underlying42, sizeOf, typeInfo, hi, Builtin.lenOf, Builtin.firstCells]
    · simp [Builtin.append_, run_underlying Tryz.underlying42, sizeOf, typeInfo, hi, Builtin.lenOf, Builtin.firstCells, hnc, storeCells]
  · obtain ⟨v', w', e1, e2, e3, _, _⟩ := run_append_own_at (P := Tryz.prog) w base 42 ty 5 i0 (.int .u8 0) 1 1 Tryz.underlying42 hi hz0 hz1 hz2 rfl (by decide) v0 0 [] hown ad bs.length c (bs.map bcell) (by simp)
      (fun j u hu => by
        rcases Nat.eq_zero_or_pos bs.length with h0 | h0
        · have : bs = [] := List.eq_nil_of_length_eq_zero h0
          subst this
          simp at hu
        · obtain ⟨b, o, e, _, _, hc⟩ := hr.2 h0
          obtain rfl := Option.some.inj e
          rw [Addr.add_lit]
          exact hc j u hu) (by simp [Value.oneCell', bcell]) (by unfold maxLen; omega) (by omega) hbase
    exact ⟨v', w', e1, by simpa using e2, e3⟩
theorem wpList_append_byt {w : World} {ops : Array Oper} {rest : List Oper} {o : Oper} {a : Act} {Q : Exit → Act → World → Prop} (hgd : o.guard = none) (s x : Operand)
    (ho : o.op = .call { callee := .builtin .append, args := #[s, x], argTypes := #[42, 42] }) (base : Nat) (v0 src : Value) (hs : a.eval s = v0) (hx : a.eval x = src)
    (S : Nat → Prop) (bs : List UInt8) (hown : w.ownsRow base 5 1 v0 0 []) (h : Byt w S src bs) (hbase : base ≤ w.heap.size)
    (hK : ∀ v' w', w'.ownsRow base 5 1 v' bs.length (bs.map bcell) → w.grownBy w' v0.ownBlock → wpList Tryz.prog ops Q rest (a.put o.dst v') w') : wpList Tryz.prog ops Q (o :: rest) a w :=
  wpList_plain hgd fun _ hk => by
    obtain ⟨v', w', hrun, h2, h3⟩ := run_append_byt w base o.type v0 src S bs hown h hbase
    unfold Oper.wp execOp
    simp only [ho, resolve, invoke, builtin, Sem.run_bind, Sem.run_pure, Result.andThen_ok, List.map_toArray, List.map_cons, List.map_nil, hs, hx, hrun]
    exact hk _ _ (hK v' w' h2 h3)
theorem step_append_byt {w : World} {ops : Array Oper} {o : Oper} {a : Act} {K : Act → World → Prop} {Q : Exit → Act → World → Prop} {E : Prop} (hgd : o.guard = none) (s x : Operand)
    (ho : o.op = .call { callee := .builtin .append, args := #[s, x], argTypes := #[42, 42] }) (base : Nat) (v0 src : Value) (hs : a.eval s = v0) (hx : a.eval x = src)
    (S : Nat → Prop) (bs : List UInt8) (hown : w.ownsRow base 5 1 v0 0 []) (h : Byt w S src bs) (hbase : base ≤ w.heap.size)
    (hK : ∀ v' w', w'.ownsRow base 5 1 v' bs.length (bs.map bcell) → w.grownBy w' v0.ownBlock → K (a.put o.dst v') w') :
    if Region.wanted o (yielded ops a.tmps) = true then Oper.wp Tryz.prog o a w K Q else E := by
  have hw : Region.wanted o (yielded ops a.tmps) = true := by simp [Region.wanted, hgd]
  rw [if_pos hw]
  obtain ⟨v', w', hrun, h2, h3⟩ := run_append_byt w base o.type v0 src S bs hown h hbase
  unfold Oper.wp execOp
  simp only [ho, resolve, invoke, builtin, Sem.run_bind, Sem.run_pure, Result.andThen_ok, List.map_toArray, List.map_cons, List.map_nil, hs, hx, hrun]
  exact hK v' w' h2 h3
theorem lit0 (w : World) : (w.alloc (.cells #[] 5)).ownsRow w.heap.size 5 1 (.slice (some ⟨w.heap.size, 0, none⟩) 0 0) 0 [] := by
  simpa using World.ownsRow_lit (base := w.heap.size) (e := 5) (size := 1) w #[] 0 (Nat.le_refl _) (by unfold maxLen; omega) (by simp)
theorem bclone_any (S : Nat → Prop) (v : Value) (bs : List UInt8) (w : World) (h : Byt w S v bs) :
    Calls Tryz.prog 39 #[v] w fun r w' => ∃ v', r = .returned v' ∧ Byt w' (fun i => w.heap.size ≤ i) v' bs ∧ Below w.heap.size w w' := by
  have hl := h.len
  have h' := Lib.hid h
  obtain ⟨A, c, rfl, _⟩ := h
  have q22 : ∀ (w : World) (a : Option Addr) (n c n' c' : Nat), (binOp .eql 42 (.slice a n c) (.slice none n' c')).run Tryz.prog w = .ok (.bool a.isNone) w := fun w a n c n' c' => Lib.run_eql_slice_nil w _ _ a n c n' c' Tryz.underlying42
  rcases A with _ | ad
  · have h0 : bs = [] := by
      obtain ⟨A, c', e, _, _, _, hr⟩ := h'.out
      rcases Nat.eq_zero_or_pos bs.length with h0 | h0
      · exact List.eq_nil_of_length_eq_zero h0
      · injection e with e1 _ _
        subst e1
        obtain ⟨b, o, h, _⟩ := hr.2 h0
        cases h
    subst h0
    go_enter Tryz.func39, Tryz.ntmps39
    go_wp2
    go_ret
    exact ⟨_, rfl, Byt.nil _ _, Below.refl _ _⟩
  · have hb1 := (Below.refl w.heap.size w).alloc (Nat.le_refl _) (.cells #[] 5)
    have HB := Lib.hid hb1
    clear hb1
    go_enter Tryz.func39, Tryz.ntmps39
    go_wp2_with (at_builtin; refine wpList_append_byt rfl _ _ rfl w.heap.size _ _ rfl rfl S bs (lit0 w) (h'.out.below HB.out) HB.out.size ?_; intro v' w1 hown hgrow)
    go_ret
    exact ⟨_, rfl, Byt.of_own hown (fun i hi _ => hi) hl, HB.out.grown hgrow HB.out.size (fun j e => by cases e; exact Nat.le_refl _)⟩
theorem Byt.drew {w : World} {S : Nat → Prop} {v : Value} {bs : List UInt8} (h : Byt w S v bs) : Byt w.drew S v bs := h
theorem undrew {B : Nat} {a w : World} (h : Below B a.drew w) : Below B a w := ⟨h.os, h.tape, h.output, h.size, h.block⟩
theorem own_below {w w' : World} {base : Nat} {e : TypeId} {size n : Nat} {v : Value} {xs : List Value} (h : w.ownsRow base e size v n xs) (hb : Below w.heap.size w w') : w'.ownsRow base e size v n xs := by
  rcases h.2 with ⟨rfl, h0⟩ | ⟨g, cap, cur, rfl, hbg, hh, r⟩
  · exact ⟨h.1, .inl ⟨rfl, h0⟩⟩
  · have hlt : g < w.heap.size := by
      rcases Nat.lt_or_ge g w.heap.size with h1 | h1
      · exact h1
      · rw [Array.getElem?_eq_none h1] at hh; cases hh
    exact ⟨h.1, .inr ⟨g, cap, cur, rfl, hbg, (hb.block g hlt).trans hh, r⟩⟩
theorem take_snoc {α : Type} {l : List α} {k : Nat} {e : α} (h : l[k]? = some e) : l.take (k + 1) = l.take k ++ [e] := by
  rw [List.take_add_one, h]; rfl
theorem Byt.monoLt {w : World} {S S' : Nat → Prop} {v : Value} {bs : List UInt8} (h : Byt w S v bs) (hS : ∀ i, i < w.heap.size → S i → S' i) : Byt w S' v bs := by
  obtain ⟨A, c, e, h1, h2, h3, h4, h5⟩ := h
  refine ⟨A, c, e, h1, h2, h3, h4, fun hn => ?_⟩
  obtain ⟨b, o, e, hb, hlt, hc⟩ := h5 hn
  exact ⟨b, o, e, hS b hlt hb, hlt, hc⟩
theorem Byt.push {w w2 : World} {S S' : Nat → Prop} {v v' row : Value} {bs : List UInt8} (h : Byt w S v bs) (hg : w.grownBy w2 row.ownBlock) (hat : v'.ownBlock = row.ownBlock ∨ v'.ownBlock = some w.heap.size)
    (hne : ∀ i, i < w.heap.size → S i → row.ownBlock ≠ some i) (hS : ∀ i, i < w.heap.size → S i → v'.ownBlock ≠ some i → S' i) : Byt w2 S' v bs := by
  have h1 : Byt w (fun i => S i ∧ i < w.heap.size) v bs := h.monoLt fun i hi hs => ⟨hs, hi⟩
  have h2 : Byt w2 (fun i => S i ∧ i < w.heap.size) v bs := h1.only (S := fun i => row.ownBlock = some i) ⟨hg.os, hg.tape, hg.output, hg.size, fun i hi hS => hg.block i hi (fun e => hS e.symm)⟩ (fun i hi hT => hne i hi hT.1)
  refine h2.mono fun i hi => hS i hi.2 hi.1 (fun e => ?_)
  rcases hat with h | h
  · exact hne i hi.2 hi.1 (h ▸ e)
  · rw [h] at e
    injection e with e
    omega
theorem own_form {w : World} {base : Nat} {e : TypeId} {size n : Nat} {v : Value} {xs : List Value} (h : w.ownsRow base e size v n xs) : ∃ A c, v = .slice A n c := by
  rcases h.2 with ⟨rfl, rfl⟩ | ⟨g, cap, cur, rfl, _⟩
  · exact ⟨_, _, rfl⟩
  · exact ⟨_, _, rfl⟩
theorem own_pos {w : World} {base : Nat} {e : TypeId} {size n : Nat} {v : Value} {xs : List Value} (h : w.ownsRow base e size v n xs) (hn : 0 < n) :
    ∃ g c, v = .slice (some ⟨g, 0, none⟩) n c ∧ base ≤ g ∧ g < w.heap.size ∧ n ≤ c ∧ c ≤ 9223372036854775807 := by
  rcases h.2 with ⟨rfl, h0⟩ | ⟨g, cap, cur, rfl, hb, hh, hc, hm, _⟩
  · omega
  · refine ⟨g, cap, rfl, hb, ?_, hc, by unfold maxLen at hm; omega⟩
    rcases Nat.lt_or_ge g w.heap.size with h1 | h1
    · exact h1
    · rw [Array.getElem?_eq_none h1] at hh; cases hh
theorem own_only {w w' : World} {base : Nat} {e : TypeId} {size n : Nat} {v : Value} {xs : List Value} {S : Nat → Prop} (h : w.ownsRow base e size v n xs) (hb : Only S w w') (hv : ∀ g, v.ownBlock = some g → ¬ S g) : w'.ownsRow base e size v n xs := by
  rcases h.2 with ⟨rfl, h0⟩ | ⟨g, cap, cur, rfl, hbg, hh, r⟩
  · exact ⟨h.1, .inl ⟨rfl, h0⟩⟩
  · have hlt : g < w.heap.size := by
      rcases Nat.lt_or_ge g w.heap.size with h1 | h1
      · exact h1
      · rw [Array.getElem?_eq_none h1] at hh; cases hh
    exact ⟨h.1, .inr ⟨g, cap, cur, rfl, hbg, (hb.block g hlt (hv g rfl)).trans hh, r⟩⟩
theorem only_set (w : World) (g j : Nat) (u : Value) : Only (fun i => i = g) w (w.setCell ⟨g, j, none⟩ u) := Only.setCell (S := fun i => i = g) (Only.refl _ _) (p := ⟨g, j, none⟩) rfl u
theorem Only.of_grown {w w' : World} {g : Option Nat} (h : w.grownBy w' g) : Only (fun i => g = some i) w w' :=
  ⟨h.os, h.tape, h.output, h.size, fun i hi hS => h.block i hi (fun e => hS e.symm)⟩
def Loose (w : World) (i : Nat) : Prop := ∃ cs, w.heap[i]? = some (.cells cs 5 (0, 0))
theorem Loose.lt {w : World} {i : Nat} (h : Loose w i) : i < w.heap.size := by
  obtain ⟨cs, h⟩ := h
  exact (Array.getElem?_eq_some_iff.1 h).1
theorem Loose.of_eq {w w' : World} {i : Nat} (h : Loose w i) (e : w'.heap[i]? = w.heap[i]?) : Loose w' i := by
  obtain ⟨cs, h⟩ := h
  exact ⟨cs, e.trans h⟩
theorem Loose.below {w w' : World} {i : Nat} (h : Loose w i) (hb : Below w.heap.size w w') : Loose w' i := h.of_eq (hb.block i h.lt)
theorem Loose.alloc {w : World} {i : Nat} (h : Loose w i) (o : Obj) : Loose (w.alloc o) i := h.below ((Below.refl _ _).alloc (Nat.le_refl _) _)
theorem Loose.grown {w w' : World} {i : Nat} {g : Option Nat} (h : Loose w i) (hg : w.grownBy w' g) (hn : g ≠ some i) : Loose w' i := h.of_eq (hg.block i h.lt (fun e => hn e.symm))
theorem Loose.only {w w' : World} {S : Nat → Prop} {i : Nat} (h : Loose w i) (ho : Only S w w') (hn : ¬ S i) : Loose w' i := h.of_eq (ho.block i h.lt hn)
def BytL (w : World) (lo : Nat) (v : Value) (bs : List UInt8) : Prop := Byt w (fun i => lo ≤ i ∧ Loose w i) v bs
theorem BytL.byt {w : World} {lo : Nat} {v : Value} {bs : List UInt8} (h : BytL w lo v bs) : Byt w (fun i => lo ≤ i) v bs := Byt.mono (S := fun i => lo ≤ i ∧ Loose w i) h fun _ hi => hi.1
theorem BytL.below {w w' : World} {lo : Nat} {v : Value} {bs : List UInt8} (h : BytL w lo v bs) (hb : Below w.heap.size w w') : BytL w' lo v bs := Byt.mono (S := fun i => lo ≤ i ∧ Loose w i) (Byt.below (S := fun i => lo ≤ i ∧ Loose w i) h hb) fun _ hi => ⟨hi.1, hi.2.below hb⟩
theorem BytL.mono {w : World} {lo lo' : Nat} {v : Value} {bs : List UInt8} (h : BytL w lo v bs) (hl : lo' ≤ lo) : BytL w lo' v bs := Byt.mono (S := fun i => lo ≤ i ∧ Loose w i) h fun _ hi => ⟨by omega, hi.2⟩
theorem BytL.nil (w : World) (lo : Nat) : BytL w lo (.slice none 0 0) [] := Byt.nil _ _
theorem BytL.of_own {w : World} {base : Nat} {v : Value} {bs : List UInt8} (h : w.ownsRow base 5 1 v bs.length (bs.map bcell)) (hl : bs.length ≤ 140737488355328) : BytL w base v bs := by
  rcases h.2 with ⟨rfl, h0⟩ | ⟨g, cap, cur, rfl, hbg, hh, hcap, hcm, _⟩
  · have : bs = [] := List.eq_nil_of_length_eq_zero h0
    subst this
    exact BytL.nil _ _
  · have hlt : g < w.heap.size := (Array.getElem?_eq_some_iff.1 hh).1
    refine ⟨_, _, rfl, hcap, by unfold maxLen at hcm; omega, hl, by simp, fun _ => ⟨g, 0, rfl, ⟨hbg, _, hh⟩, hlt, fun j u hu => ?_⟩⟩
    have := h.cells (g := g) rfl j u hu
    rwa [Addr.add_lit] at this
theorem BytL.only {w w' : World} {lo : Nat} {v : Value} {bs : List UInt8} {S : Nat → Prop} (h : BytL w lo v bs) (ho : Only S w w') (hd : ∀ i, lo ≤ i → Loose w i → ¬ S i) : BytL w' lo v bs :=
  Byt.mono (S := fun i => lo ≤ i ∧ Loose w i) (Byt.only (T := fun i => lo ≤ i ∧ Loose w i) h ho fun i _ hi => hd i hi.1 hi.2) fun i hi => ⟨hi.1, hi.2.only ho (hd i hi.1 hi.2)⟩
theorem run_append_byt0L (w : World) (ty : TypeId) (g : Nat) (src : Value) (S : Nat → Prop) (bs : List UInt8) (h : Byt w S src bs) :
    ∃ v' w', (Builtin.append_ #[42, 42] ty #[.slice (some ⟨g, 0, none⟩) 0 0, src]).run Tryz.prog w = .ok v' w' ∧ BytL w' w.heap.size v' bs ∧ Below w.heap.size w w' := by
  obtain ⟨i0, hi, hz0, hz1, hz2⟩ := info_parts info5
  have hl := h.len
  obtain ⟨A, c, rfl, h1, h2, h3, hr⟩ := h
  rcases Nat.eq_zero_or_pos bs.length with h0 | h0
  · have : bs = [] := List.eq_nil_of_length_eq_zero h0
    subst this
    refine ⟨.slice (some ⟨g, 0, none⟩) 0 0, w, ?_, ⟨_, _, rfl, by simp, by simp, by simp, Row.nil _ _ _ _⟩, Below.refl _ _⟩
    rcases A with _ | a
    · simp [Builtin.append_, run_underlying Tryz.underlying42, sizeOf, typeInfo, hi, Builtin.lenOf, Builtin.firstCells, storeCells]
    · simp [Builtin.append_, run_underlying Tryz.underlying42, sizeOf, typeInfo, hi, Builtin.lenOf, Builtin.firstCells, storeCells, loadCells, loadCellsFrom]
  · obtain ⟨b, o, rfl, _, _, hc⟩ := hr.2 h0
    have hrun := run_append_grow (P := Tryz.prog) w 42 ty 5 i0 (.int .u8 0) Tryz.underlying42 hi hz0 ⟨g, 0, none⟩ 0 0 [] (by simp) (fun j u hu => by simp at hu) ⟨b, o, none⟩ bs.length c (bs.map bcell) (by simp [hz1])
      (fun j u hu => by rw [Addr.add_lit]; exact hc j u hu) (by omega) (by omega) (growslice_fits (by omega) (by rw [hz2]; omega))
    have hge := grownCap_ge w (0 + bs.length) 0 5
    have hcm : grownCap w (0 + bs.length) 0 5 ≤ maxLen := grownCap_le_maxLen w (0 + bs.length) 0 5 (by unfold maxLen; omega)
    refine ⟨_, _, hrun, ?_, ((Below.refl w.heap.size w).drew).alloc (by simp) _⟩
    have e0 : 0 + bs.length = bs.length := by omega
    rw [e0] at hge hcm ⊢
    refine ⟨_, _, rfl, hge, by unfold maxLen at hcm; omega, hl, by simp, fun _ => ⟨w.heap.size, 0, rfl, ⟨Nat.le_refl _, _, heap_alloc_new w.drew _⟩, by simp, fun j u hu => ?_⟩⟩
    rw [World.cell?_alloc_at _ _ _ _ (by simp)]
    have hj : j < bs.length := by
      have := (List.getElem?_eq_some_iff.1 hu).1
      simpa using this
    simp [Array.getElem?_append, hj]
    rw [List.getElem?_map, List.getElem?_eq_getElem hj] at hu
    simpa using hu
theorem step_append_byt0L {w : World} {ops : Array Oper} {o : Oper} {a : Act} {K : Act → World → Prop} {Q : Exit → Act → World → Prop} {E : Prop} (hgd : o.guard = none) (s x : Operand)
    (ho : o.op = .call { callee := .builtin .append, args := #[s, x], argTypes := #[42, 42] }) (g : Nat) (src : Value) (hs : a.eval s = .slice (some ⟨g, 0, none⟩) 0 0) (hx : a.eval x = src)
    (S : Nat → Prop) (bs : List UInt8) (h : Byt w S src bs)
    (hK : ∀ v' w', BytL w' w.heap.size v' bs → Below w.heap.size w w' → K (a.put o.dst v') w') :
    if Region.wanted o (yielded ops a.tmps) = true then Oper.wp Tryz.prog o a w K Q else E := by
  have hw : Region.wanted o (yielded ops a.tmps) = true := by simp [Region.wanted, hgd]
  rw [if_pos hw]
  obtain ⟨v', w', hrun, h2, h3⟩ := run_append_byt0L w o.type g src S bs h
  unfold Oper.wp execOp
  simp only [ho, resolve, invoke, builtin, Sem.run_bind, Sem.run_pure, Result.andThen_ok, List.map_toArray, List.map_cons, List.map_nil, hs, hx, hrun]
  exact hK v' w' h2 h3
theorem bcloneL_any (S : Nat → Prop) (v : Value) (bs : List UInt8) (w : World) (h : Byt w S v bs) :
    Calls Tryz.prog 39 #[v] w fun r w' => ∃ v', r = .returned v' ∧ BytL w' w.heap.size v' bs ∧ Below w.heap.size w w' := by
  have hl := h.len
  have h' := Lib.hid h
  obtain ⟨A, c, rfl, _⟩ := h
  have q22 : ∀ (w : World) (a : Option Addr) (n c n' c' : Nat), (binOp .eql 42 (.slice a n c) (.slice none n' c')).run Tryz.prog w = .ok (.bool a.isNone) w := fun w a n c n' c' => Lib.run_eql_slice_nil w _ _ a n c n' c' Tryz.underlying42
  rcases A with _ | ad
  · have h0 : bs = [] := by
      obtain ⟨A, c', e, _, _, _, hr⟩ := h'.out
      rcases Nat.eq_zero_or_pos bs.length with h0 | h0
      · exact List.eq_nil_of_length_eq_zero h0
      · injection e with e1 _ _
        subst e1
        obtain ⟨b, o, h, _⟩ := hr.2 h0
        cases h
    subst h0
    go_enter Tryz.func39, Tryz.ntmps39
    go_wp2
    go_ret
    exact ⟨_, rfl, BytL.nil _ _, Below.refl _ _⟩
  · have hb1 := (Below.refl w.heap.size w).alloc (Nat.le_refl _) (.cells #[] 5)
    have HB := Lib.hid hb1
    clear hb1
    go_enter Tryz.func39, Tryz.ntmps39
    go_wp2_with (at_builtin; refine wpList_append_byt rfl _ _ rfl w.heap.size _ _ rfl rfl S bs (lit0 w) (h'.out.below HB.out) HB.out.size ?_; intro v' w1 hown hgrow)
    go_ret
    exact ⟨_, rfl, BytL.of_own hown hl, HB.out.grown hgrow HB.out.size (fun j e => by cases e; exact Nat.le_refl _)⟩
def Shape (w : World) (b : Nat) (t : TypeId) (k : Nat) : Prop := ∃ cs : Array Value, w.heap[b]? = some (.cells cs t (0, 0)) ∧ cs.size = k
section
variable {w : World} {b k : Nat} {t : TypeId}
theorem Shape.lt (h : Shape w b t k) : b < w.heap.size := by
  obtain ⟨cs, h1, _⟩ := h
  exact (Array.getElem?_eq_some_iff.1 h1).1
theorem Shape.of_eq {w' : World} (h : Shape w b t k) (e : w'.heap[b]? = w.heap[b]?) : Shape w' b t k := by
  obtain ⟨cs, h1, h2⟩ := h
  exact ⟨cs, e.trans h1, h2⟩
theorem Shape.below {w' : World} (h : Shape w b t k) (hb : Below w.heap.size w w') : Shape w' b t k := h.of_eq (hb.block b h.lt)
theorem Shape.setCell (h : Shape w b t k) (c i : Nat) (v : Value) : Shape (w.setCell ⟨c, i, none⟩ v) b t k := by
  obtain ⟨cs, h1, h2⟩ := h
  by_cases e : b = c
  · subst e
    exact ⟨_, heap_setCell_same w b i cs t v h1, by simpa using h2⟩
  · exact ⟨cs, (heap_setCell_other w ⟨c, i, none⟩ b v e).trans h1, h2⟩
theorem Shape.cell (h : Shape w b t k) {i : Nat} (hi : i < k) : ∃ v, w.cell? ⟨b, i, none⟩ = some v := by
  obtain ⟨cs, h1, h2⟩ := h
  exact ⟨_, (cell_of_row w b i cs _ _ h1).trans (Array.getElem?_eq_getElem (by omega))⟩
theorem Shape.frozen (h : Shape w b t k) (i : Nat) : w.frozen? ⟨b, i, none⟩ = false := by
  obtain ⟨cs, h1, _⟩ := h
  exact frozen_of_row w b i cs _ h1
theorem Shape.uniq {t' : TypeId} {k' : Nat} (h : Shape w b t k) (h' : Shape w b t' k') : t = t' := by
  obtain ⟨cs, h1, _⟩ := h
  obtain ⟨cs', h2, _⟩ := h'
  rw [h1] at h2
  injection h2 with h2
  injection h2
theorem set_cell (h : Shape w b t k) {i : Nat} (hi : i < k) (v : Value) (c j : Nat) : (w.setCell ⟨b, i, none⟩ v).cell? ⟨c, j, none⟩ = if c = b ∧ j = i then some v else w.cell? ⟨c, j, none⟩ := by
  split
  · rename_i e
    obtain ⟨rfl, rfl⟩ := e
    obtain ⟨u, hu⟩ := h.cell hi
    exact World.cell?_setCell_same _ _ _ hu
  · rename_i e
    exact World.cell?_setCell_other _ _ _ _ (by rintro ⟨⟩; exact e ⟨rfl, rfl⟩)
end
theorem infoI : (Tryz.prog.info? 3).map (fun i => (i.zero, i.size, i.bytes)) = some (some (.int .i64 0), 1, 8) := by kernel_rfl
theorem run_append_ints (w : World) (base : Nat) (ty : TypeId) (v0 src : Value) (S : Nat → Prop) (zs : List Int) (hown : w.ownsRow base 3 1 v0 0 []) (h : IntsIn w S src zs) (h8 : zs.length * 8 ≤ 140737488355328) (hbase : base ≤ w.heap.size) :
    ∃ v' w', (Builtin.append_ #[26, 26] ty #[v0, src]).run Tryz.prog w = .ok v' w' ∧ w'.ownsRow base 3 1 v' zs.length (zs.map (Value.int .i64)) ∧ w.grownBy w' v0.ownBlock := by
  obtain ⟨i0, hi, hz0, hz1, hz2⟩ := info_parts infoI
  obtain ⟨A, c, rfl, h1, h2, hr⟩ := h
  rcases A with _ | ad
  · have hm : zs.length = 0 := by
      rcases Nat.eq_zero_or_pos zs.length with h0 | h0
      · exact h0
      · obtain ⟨b, o, h, _⟩ := hr.2 h0
        cases h
    have : zs = [] := List.eq_nil_of_length_eq_zero hm
    subst this
    refine ⟨v0, w, ?_, by simpa using hown, World.grownBy.refl w _⟩
    rcases hown.2 with ⟨rfl, _⟩ | ⟨g, cap, cur, rfl, _, _, hnc, _⟩
    · simp [Builtin.append_, run_underlying Tryz.underlying26, sizeOf, typeInfo, hi, Builtin.lenOf, Builtin.firstCells]
    · simp [Builtin.append_, run_underlying Tryz.underlying26, sizeOf, typeInfo, hi, Builtin.lenOf, Builtin.firstCells, hnc, storeCells]
  · obtain ⟨v', w', e1, e2, e3, _, _⟩ := run_append_own_at (P := Tryz.prog) w base 26 ty 3 i0 (.int .i64 0) 1 8 Tryz.underlying26 hi hz0 hz1 hz2 rfl (by decide) v0 0 [] hown ad zs.length c (zs.map (Value.int .i64)) (by simp)
      (fun j u hu => by
        rcases Nat.eq_zero_or_pos zs.length with h0 | h0
        · have : zs = [] := List.eq_nil_of_length_eq_zero h0
          subst this
          simp at hu
        · obtain ⟨b, o, e, _, _, hc⟩ := hr.2 h0
          obtain rfl := Option.some.inj e
          rw [Addr.add_lit]
          exact hc j u hu) (by simp [Value.oneCell']) (by unfold maxLen; omega) (by omega) hbase
    exact ⟨v', w', e1, by simpa using e2, e3⟩
theorem wpList_append_ints {w : World} {ops : Array Oper} {rest : List Oper} {o : Oper} {a : Act} {Q : Exit → Act → World → Prop} (hgd : o.guard = none) (s x : Operand)
    (ho : o.op = .call { callee := .builtin .append, args := #[s, x], argTypes := #[26, 26] }) (base : Nat) (v0 src : Value) (hs : a.eval s = v0) (hx : a.eval x = src)
    (S : Nat → Prop) (zs : List Int) (hown : w.ownsRow base 3 1 v0 0 []) (h : IntsIn w S src zs) (h8 : zs.length * 8 ≤ 140737488355328) (hbase : base ≤ w.heap.size)
    (hK : ∀ v' w', w'.ownsRow base 3 1 v' zs.length (zs.map (Value.int .i64)) → w.grownBy w' v0.ownBlock → wpList Tryz.prog ops Q rest (a.put o.dst v') w') : wpList Tryz.prog ops Q (o :: rest) a w :=
  wpList_plain hgd fun _ hk => by
    obtain ⟨v', w', hrun, h2, h3⟩ := run_append_ints w base o.type v0 src S zs hown h h8 hbase
    unfold Oper.wp execOp
    simp only [ho, resolve, invoke, builtin, Sem.run_bind, Sem.run_pure, Result.andThen_ok, List.map_toArray, List.map_cons, List.map_nil, hs, hx, hrun]
    exact hk _ _ (hK v' w' h2 h3)
theorem lit0i (w : World) : (w.alloc (.cells #[] 3)).ownsRow w.heap.size 3 1 (.slice (some ⟨w.heap.size, 0, none⟩) 0 0) 0 [] := by
  simpa using World.ownsRow_lit (base := w.heap.size) (e := 3) (size := 1) w #[] 0 (Nat.le_refl _) (by unfold maxLen; omega) (by simp)
theorem own_shape {w : World} {base n c : Nat} {A : Option Addr} {e : TypeId} {xs : List Value} (h : w.ownsRow base e 1 (.slice A n c) n xs) (hn : 0 < n) : ∃ g z, A = some ⟨g, 0, none⟩ ∧ base ≤ g ∧ Shape w g e z ∧ n ≤ z := by
  rcases h.2 with ⟨_, h0⟩ | ⟨g, cap, cur, hv, hb, hh, hc, _, hs, _⟩
  · omega
  · injection hv with h1 h2 h3
    exact ⟨g, cur.size, h1, hb, ⟨cur, hh, rfl⟩, by omega⟩
def fr (W w' : World) : Prop := Below W.heap.size W w'
section
variable {W w' w2 : World}
theorem fr.refl : fr W W := Below.refl _ _
theorem fr.drew (h : fr W w') : fr W w'.drew := Below.drew h
theorem fr.step (h : fr W w') (hb : Below w'.heap.size w' w2) : fr W w2 := Below.trans h (hb.mono (Below.size h))
theorem fr.alloc (h : fr W w') (o : Obj) : fr W (w'.alloc o) := h.step ((Below.refl _ _).alloc (Nat.le_refl _) _)
theorem fr.cell (h : fr W w') {p : Addr} {v : Value} (hc : W.cell? p = some v) : w'.cell? p = some v := (Below.cell h (World.block_lt_of_cell? W p hc)).trans hc
end
structure Ext (W : World) where
  w : World
  h : fr W w
instance {W : World} : Nonempty (Ext W) := ⟨⟨W, fr.refl⟩⟩
theorem Ext.cell {W : World} {p : Addr} {v : Value} (hc : W.cell? p = some v) (q : Ext W) : q.w.cell? p = some v := q.h.cell hc
theorem wp_region_quiet_ext {P : Program} {id : Nat} {Q : Exit → Act → World → Prop} {a : Act} {w : World} {l : List Oper} (hm : P.follows .mixedOrders = true) (hB : Region.lexB .any l.toArray = true)
    (h : wpQuiet P l.toArray (fun w' => ∃ p : Ext w, w' = p.w) (fun a' => ∀ w', (∃ p : Ext w, w' = p.w) → Q .normal a' w') l a) : (Code.region id l.toArray true).wp P Q a w :=
  wp_region_quiet (C := fun w' => ∃ p : Ext w, w' = p.w) hm hB ⟨⟨w.drew, fr.refl.drew⟩, rfl⟩ (by simpa using h)
theorem Ext.calls {P : Program} {f : FuncId} {args : Array Value} {W : World} {p : Ext W} {v : Value}
    (h : Calls P f args p.w fun e w' => e = .returned v ∧ Below p.w.heap.size p.w w') : Calls P f args p.w fun e w'' => e = .returned v ∧ ∃ q : Ext W, w'' = q.w :=
  h.mono fun _ _ ⟨he, hb⟩ => ⟨he, ⟨_, p.h.step hb⟩, rfl⟩
theorem Ext.calls_same {P : Program} {f : FuncId} {args : Array Value} {W : World} {p : Ext W} {v : Value}
    (h : Calls P f args p.w fun e w' => e = .returned v ∧ p.w = w') : Calls P f args p.w fun e w'' => e = .returned v ∧ ∃ q : Ext W, w'' = q.w :=
  h.mono fun _ _ ⟨he, hb⟩ => ⟨he, ⟨_, p.h⟩, hb.symm⟩
end Go.Proofs.YtiffgjodbcploaaGreat
end
section
namespace Go.Proofs.YtiffgjodbcploaaGreat
set_option maxRecDepth 100000
open Go.RowKit
/-- what an iterator may do between rounds: new memory; its own cells (Z); what is no cells, and was made since it began. -/
def Idle (Z : Nat → Prop) (base : Nat) (A B : World) : Prop := Only (fun i => Z i ∨ (base ≤ i ∧ ∃ o, A.heap[i]? = some o ∧ o.isCells = false)) A B
theorem Idle.refl (Z : Nat → Prop) (base : Nat) (A : World) : Idle Z base A A := Only.refl _ _
theorem Idle.mono {Z : Nat → Prop} {b b' : Nat} {A B : World} (h : Idle Z b A B) (hb : b' ≤ b) : Idle Z b' A B := Only.mono h fun _ hi => hi.imp id fun hi => ⟨Nat.le_trans hb hi.1, hi.2⟩
theorem Idle.wide {Z Z' : Nat → Prop} {b : Nat} {A B : World} (h : Idle Z b A B) (hZ : ∀ i, Z i → Z' i) : Idle Z' b A B := Only.mono h fun i hi => hi.imp (hZ i) id
theorem Idle.trans {Z : Nat → Prop} {base : Nat} {A B C : World} (h : Idle Z base A B) (k : Idle Z base B C) : Idle Z base A C :=
  ⟨k.os.trans h.os, k.tape.trans h.tape, k.output.trans h.output, Nat.le_trans h.size k.size, fun i hi hn => by
    have e := h.block i hi hn
    exact (k.block i (Nat.lt_of_lt_of_le hi h.size) fun hk => hn (hk.imp id fun hk => ⟨hk.1, by rw [← e]; exact hk.2⟩)).trans e⟩
theorem Idle.of_below {Z : Nat → Prop} {base : Nat} {A B : World} (h : Below A.heap.size A B) : Idle Z base A B := Only.of_below h
theorem Idle.of_only {Z : Nat → Prop} {base : Nat} {A B : World} (h : Only Z A B) : Idle Z base A B := Only.mono h fun _ hi => .inl hi
theorem Idle.putObj {Z : Nat → Prop} {base l : Nat} {A : World} {o o' : Obj} (hl : base ≤ l) (hlo : A.heap[l]? = some o) (ho : o.isCells = false) : Idle Z base A (A.putObj l o') :=
  ⟨rfl, rfl, rfl, by simp, fun i _ hn => World.putObj_heap_other fun e => hn (by subst e; exact .inr ⟨hl, o, hlo, ho⟩)⟩
/-- what lies in cells lies there behind. -/
theorem Idle.cells {Z : Nat → Prop} {base i : Nat} {A B : World} {o : Obj} (h : Idle Z base A B) (hZ : ¬ Z i) (hi : A.heap[i]? = some o) (ho : o.isCells = true) : B.heap[i]? = some o :=
  (h.block i (Array.getElem?_eq_some_iff.1 hi).1 fun hk => by
    rcases hk with hk | ⟨_, o', e, h'⟩
    · exact hZ hk
    · rw [hi] at e; injection e with e; subst e; rw [ho] at h'; cases h').trans hi
theorem Idle.low {Z : Nat → Prop} {base i : Nat} {A B : World} {o : Obj} (h : Idle Z base A B) (hZ : ¬ Z i) (hi : A.heap[i]? = some o) (hb : i < base) : B.heap[i]? = some o :=
  (h.block i (Array.getElem?_eq_some_iff.1 hi).1 fun hk => hk.elim hZ fun hk => by omega).trans hi
/-- a set of blocks that has grown by new ones alone. -/
def Grew (s : Nat) (T T' : Nat → Prop) : Prop := ∀ i, T' i → T i ∨ s ≤ i
/-- a thing that minds nothing that is idle. -/
def Still (Z : Nat → Prop) (base : Nat) (I : World → Prop) : Prop := ∀ A B, I A → Idle Z base A B → I B
variable {F : Fence} {n : Nat} {P : Program}
/-- the iterator's word. -/
def Tells {α : Type} (F : Fence) (n : Nat) (P : Program) (gf : Nat) (lb : Array Value) (encs : α → Array Value) (Ok : List α → (Nat → Prop) → α → World → Prop) (S Sp : List α → World → Prop) (D Z : Nat → Prop) (w : World) : Prop :=
  ∀ (l : Nat) (J Jx : List α → (Nat → Prop) → World → Prop) (T0 : Nat → Prop) (W : World), Below w.heap.size w W → (∀ i, T0 i → ¬ D i) →
    (∀ pre T, Still Z W.heap.size (J pre T)) → (∀ pre T, Still Z W.heap.size (Jx pre T)) → (∀ pre T A i, J pre T A → T i → i < A.heap.size) →
    (∀ pre T x A, J pre T A → Ok pre T x A → YieldAt F (n - 1) P l (encs x) A fun e B => ∃ T', Grew A.heap.size T T' ∧ Only T A B ∧ ((e = .returned (.bool true) ∧ J (pre ++ [x]) T' B) ∨ (e = .returned (.bool false) ∧ Jx (pre ++ [x]) T' B))) →
    J [] T0 W → CallsIn F n P gf (#[.func (.yield l) #[] #[]] ++ lb) W fun e W' => (∃ v, e = .returned v) ∧ ((∃ xs T, S xs W' ∧ J xs T W') ∨ (∃ xs T, Sp xs W' ∧ Jx xs T W'))
/-- how a round's body may be left. -/
def offPost {α : Type} (sA : Nat) (T : Nat → Prop) (I : List α → (Nat → Prop) → World → Prop) (Ix : Code → List α → (Nat → Prop) → World → Prop) (xs : List α) (W : World) : Exit → Act → World → Prop
  | .normal, _, W' => ∃ T', Grew sA T T' ∧ Only (fun i => T i ∨ sA ≤ i) W W' ∧ I xs T' W'
  | .ret, _, W' => ∃ T', Grew sA T T' ∧ Only (fun i => T i ∨ sA ≤ i) W W' ∧ Ix .ret xs T' W'
  | .exit id, _, W' => ∃ T', Grew sA T T' ∧ Only (fun i => T i ∨ sA ≤ i) W W' ∧ Ix (.exit id) xs T' W'
  | .goto t, _, W' => ∃ T', Grew sA T T' ∧ Only (fun i => T i ∨ sA ≤ i) W W' ∧ Ix (.goto t) xs T' W'
  | _, _, _ => False
theorem range_tells {α : Type} {g : Operand} {ps : Array Tmp} {assign body : Code} {Q : Exit → Act → World → Prop} {a : Act} {w : World}
    (hro : F.round = none) (h1 : 1 ≤ n) {gf : Nat} {lb : Array Value} (hg : a.eval g = .func (.func gf) #[] lb) (hFg : F.fn gf) (eg : ∀ args w, (callFunc gf args).run P w = .ok (.enter gf args) w)
    {encs : α → Array Value} {Ok : List α → (Nat → Prop) → α → World → Prop} {S Sp : List α → World → Prop} {D Z : Nat → Prop} (hseq : Tells F (n - 1) P gf lb encs Ok S Sp D Z w) (hD : ∀ i, D i → i < w.heap.size) (hZ : ∀ i, Z i → D i)
    (hOk : ∀ pre T T' x A, (∀ i, T' i → T i) → Ok pre T x A → Ok pre T' x A)
    (hS : ∀ xs, Still (fun _ => False) w.heap.size (S xs)) (hSp : ∀ xs, Still (fun _ => False) w.heap.size (Sp xs)) (hps : ∀ x, (encs x).size = ps.size)
    (I : List α → (Nat → Prop) → World → Prop) (Ix : Code → List α → (Nat → Prop) → World → Prop) (hI : ∀ pre T, Still Z w.heap.size (I pre T)) (hIx : ∀ c pre T, Still Z w.heap.size (Ix c pre T))
    (T0 : Nat → Prop) (hT0 : ∀ i, T0 i → i < w.heap.size ∧ ¬ D i) (h0 : I [] T0 w)
    (Ax : List α → (Nat → Prop) → α → Act → World → Prop) (hAx : ∀ pre T x a', Still Z w.heap.size (Ax pre T x a'))
    (hassign : ∀ (l : Nat) (pre : List α) (T : Nat → Prop) (x : α) (W : World) (K : Act → World → Prop), I pre T W → Ok pre T x W → (∀ a' W', Below W.heap.size W W' → I pre T W' → Ax pre T x a' W' → K a' W') →
      assign.wpIn (F.inRound l) (n - 1 - 1) P (Exit.then K (fun _ _ _ => False)) { tmps := (ps.zip (encs x)).foldl (fun t (p, v) => t.setIfInBounds p v) a.tmps, defers := [] } W)
    (hbody : ∀ (l : Nat) (pre : List α) (T : Nat → Prop) (x : α) (a' : Act) (sA : Nat) (W : World), w.heap.size ≤ l → l < sA → (∃ r, W.heap[l]? = some (.loop r)) → (∀ i, T i → T0 i ∨ (w.heap.size + 1 < i ∧ i < sA)) → sA ≤ W.heap.size → I pre T W → Ax pre T x a' W → body.wpIn (F.inRound l) (n - 1 - 1) P (offPost sA T I Ix (pre ++ [x]) W) a' W)
    (hdone : ∀ (D' : Nat) (xs : List α) (T : Nat → Prop) (W : World), w.heap.size ≤ D' → (∀ i, T i → T0 i ∨ (D' < i ∧ i < W.heap.size)) → S xs W → I xs T W → W.heap[D']? = some (.deferred (some [])) → Q .normal { a with defers := { target := .collected D', args := #[] } :: a.defers } W)
    (hstop : ∀ (D' : Nat) (c : Code) (xs : List α) (T : Nat → Prop) (W : World), w.heap.size ≤ D' → (∀ i, T i → T0 i ∨ (D' < i ∧ i < W.heap.size)) → Sp xs W → Ix c xs T W → W.heap[D']? = some (.deferred (some [])) → c.wpIn F n P Q { a with defers := { target := .collected D', args := #[] } :: a.defers } W)
    (hIs : ∀ pre T W i, I pre T W → T i → i < W.heap.size) (hIxs : ∀ c pre T W i, Ix c pre T W → T i → i < W.heap.size) :
    (Code.rangeFunc g ps assign body).wpIn F n P Q a w := by
  refine wpIn_rangeFunc fun fn hfn => ?_
  rw [hro]
  obtain ⟨rec, hrec⟩ : ∃ rec : LoopState → Option Code → Loop, rec = fun st pe => { state := st, pending := pe, fn, tmps := a.tmps, params := ps, assign, body, defers := w.heap.size } := ⟨_, rfl⟩
  obtain ⟨W1, hW1⟩ : ∃ W1, (w.alloc (.deferred (some []))).alloc (.loop (rec .ready none)) = W1 := ⟨_, rfl⟩
  have hL1 : W1.heap[w.heap.size + 1]? = some (.loop (rec .ready none)) := by
    rw [← hW1]; have := World.alloc_heap_new (w.alloc (.deferred (some []))) (.loop (rec .ready none)); rwa [World.size_alloc] at this
  have hK1 : W1.heap[w.heap.size]? = some (.deferred (some [])) := by
    rw [← hW1]; exact (Below.heap_alloc _ _ _ (by simp)).trans (World.alloc_heap_new w _)
  have hb1 : Below w.heap.size w W1 := by
    rw [← hW1]; exact ((Below.refl _ w).alloc (Nat.le_refl _) _).alloc (by simp) _
  have hz1 : W1.heap.size = w.heap.size + 2 := by rw [← hW1]; simp
  have hI1 : I [] T0 W1 := hI _ _ _ _ h0 (Idle.of_below hb1)
  refine ⟨w.heap.size + 1, [{ target := .collected w.heap.size, args := #[] }], W1, { target := .fn (.func gf) lb, args := #[.func (.yield (w.heap.size + 1)) #[] #[]] }, W1, gf,
    #[.func (.yield (w.heap.size + 1)) #[] #[]] ++ lb, W1, ?_, ?_, ?_, ?_, fun _ => h1, ?_⟩
  · rw [← hW1, hrec]; exact run_enterLoop_outer _ _ _ _ _
  · simp only [resolve, hg]
    simp [go_sem]
  · intro f' hf'; simp [Target.leads] at hf'; subst hf'; exact hFg
  · simp [invoke, go_sem, eg]
  refine (hseq (w.heap.size + 1)
    (fun pre T W => ∃ Tc, (∀ i, T i → Tc i ∨ i = w.heap.size + 1) ∧ T (w.heap.size + 1) ∧ (∀ i, Tc i → T i) ∧ (∀ i, Tc i → T0 i ∨ (w.heap.size + 1 < i ∧ i < W.heap.size)) ∧ I pre Tc W ∧ W.heap[w.heap.size + 1]? = some (.loop (rec .ready none)) ∧ W.heap[w.heap.size]? = some (.deferred (some [])))
    (fun pre T W => ∃ c Tc, (∀ i, Tc i → T0 i ∨ (w.heap.size + 1 < i ∧ i < W.heap.size)) ∧ Ix c pre Tc W ∧ W.heap[w.heap.size + 1]? = some (.loop (rec .done (some c))) ∧ W.heap[w.heap.size]? = some (.deferred (some [])))
    (fun i => T0 i ∨ i = w.heap.size + 1) W1 hb1 ?_ ?_ ?_ ?_ ?_ ⟨T0, fun i hi => hi, .inr rfl, fun i hi => .inl hi, fun i hi => .inl hi, hI1, hL1, hK1⟩).mono ?_
  · rintro i (hi | rfl) hd
    · exact (hT0 i hi).2 hd
    · have := hD _ hd
      omega
  · rintro pre T A B ⟨Tc, c1, c2, c3, c4, hi, hl, hk⟩ hAB
    have hid : Idle Z w.heap.size A B := hAB.mono (by omega)
    exact ⟨Tc, c1, c2, c3, fun i hi => (c4 i hi).imp id fun h => ⟨h.1, Nat.lt_of_lt_of_le h.2 hAB.size⟩, hI _ _ _ _ hi hid, hAB.low (fun h => by have := hD _ (hZ _ h); omega) hl (by omega), hAB.low (fun h => by have := hD _ (hZ _ h); omega) hk (by omega)⟩
  · rintro pre T A B ⟨c, Tc, c4, hi, hl, hk⟩ hAB
    have hid : Idle Z w.heap.size A B := hAB.mono (by omega)
    exact ⟨c, Tc, fun i hi => (c4 i hi).imp id fun h => ⟨h.1, Nat.lt_of_lt_of_le h.2 hAB.size⟩, hIx _ _ _ _ _ hi hid, hAB.low (fun h => by have := hD _ (hZ _ h); omega) hl (by omega), hAB.low (fun h => by have := hD _ (hZ _ h); omega) hk (by omega)⟩
  · rintro pre T A i ⟨Tc, c1, c2, c3, c4, hi, hl, hk⟩ hTi
    rcases c1 i hTi with h | rfl
    · exact hIs _ _ _ _ hi h
    · exact (Array.getElem?_eq_some_iff.1 hl).1
  · rintro pre T x A ⟨Tc, c1, c2, c3, c4, hi, hl, hk⟩ hok
    replace hok := hOk _ _ _ _ _ c3 hok
    have hlt : w.heap.size + 1 < A.heap.size := (Array.getElem?_eq_some_iff.1 hl).1
    have hy := run_yield (P := P) (args := encs x) hl (by rw [hrec]; exact hps x)
    rw [hrec] at hy
    refine ⟨fn, _, assign, body, hy, roundIn_of_wpIn hfn (hassign _ pre Tc x A _ hi hok ?_)⟩
    clear hy
    intro a' W hbA hia hax
    replace hl := (hbA.block _ hlt).trans hl
    replace hk := (hbA.block _ (by omega)).trans hk
    have hltW : w.heap.size + 1 < W.heap.size := (Array.getElem?_eq_some_iff.1 hl).1
    refine ⟨_, run_beginRound hl (by rw [hrec]), ?_⟩
    have hid2 : Idle Z w.heap.size W (W.putObj (w.heap.size + 1) (.loop { rec .ready none with state := .busy })) := Idle.putObj (by omega) hl rfl
    have hl2 : (W.putObj (w.heap.size + 1) (.loop { rec .ready none with state := .busy })).heap[w.heap.size + 1]? = some (.loop { rec .ready none with state := .busy }) := World.putObj_heap_same hltW
    have hk2 : (W.putObj (w.heap.size + 1) (.loop { rec .ready none with state := .busy })).heap[w.heap.size]? = some (.deferred (some [])) := (World.putObj_heap_other (by omega)).trans hk
    obtain ⟨W2, hW2⟩ : ∃ W2, W.putObj (w.heap.size + 1) (.loop { rec .ready none with state := .busy }) = W2 := ⟨_, rfl⟩
    rw [hW2] at hid2 hl2 hk2 ⊢
    have ho2 : Only (fun i => Tc i ∨ i = w.heap.size + 1) A W2 := by
      refine Only.trans (Only.of_below hbA) ⟨hid2.os, hid2.tape, hid2.output, hid2.size, fun i _ hn => ?_⟩
      rw [← hW2]
      exact World.putObj_heap_other fun e => hn (.inr e)
    refine wpIn_mono (hbody _ pre Tc x a' A.heap.size W2 (by omega) hlt ⟨_, hl2⟩ c4 (Nat.le_trans hbA.size hid2.size) (hI _ _ _ _ hia hid2) (hAx _ _ _ _ _ _ hax hid2)) ?_
    have hnT : ∀ i, i ≤ w.heap.size + 1 → w.heap.size ≤ i → ¬ (Tc i ∨ A.heap.size ≤ i) := fun i h1 h2 h => by
      rcases h with h | h
      · rcases c4 i h with h | h
        · have := (hT0 i h).1
          omega
        · omega
      · omega
    have fin : ∀ (jump : Option Code) (W3 : World), Only (fun i => Tc i ∨ A.heap.size ≤ i) W2 W3 →
        (Instr.endRound (w.heap.size + 1) jump).run P W3 = .ok (.bool jump.isNone) (W3.putObj (w.heap.size + 1) (.loop (rec (if jump.isNone then .ready else .done) jump))) ∧
        Idle Z w.heap.size W3 (W3.putObj (w.heap.size + 1) (.loop (rec (if jump.isNone then .ready else .done) jump))) ∧
        (W3.putObj (w.heap.size + 1) (.loop (rec (if jump.isNone then .ready else .done) jump))).heap[w.heap.size + 1]? = some (.loop (rec (if jump.isNone then .ready else .done) jump)) ∧
        (W3.putObj (w.heap.size + 1) (.loop (rec (if jump.isNone then .ready else .done) jump))).heap[w.heap.size]? = some (.deferred (some [])) ∧
        Only T A (W3.putObj (w.heap.size + 1) (.loop (rec (if jump.isNone then .ready else .done) jump))) := fun jump W3 h3 => by
      have hl3 := (h3.block _ (Array.getElem?_eq_some_iff.1 hl2).1 (hnT _ (by omega) (by omega))).trans hl2
      have hk3 := (h3.block _ (Array.getElem?_eq_some_iff.1 hk2).1 (hnT _ (by omega) (by omega))).trans hk2
      have := run_endRound (P := P) jump hl3
      rw [hrec] at this ⊢
      refine ⟨this, Idle.putObj (by omega) hl3 rfl, World.putObj_heap_same (Array.getElem?_eq_some_iff.1 hl3).1, (World.putObj_heap_other (by omega)).trans hk3, h3.os.trans ho2.os, h3.tape.trans ho2.tape, h3.output.trans ho2.output, ?_, fun i hi hn => ?_⟩
      · have := h3.size
        have := ho2.size
        simp
        omega
      · have hne : i ≠ w.heap.size + 1 := fun e => hn (by rw [e]; exact c2)
        refine (World.putObj_heap_other hne).trans ((h3.block i (Nat.lt_of_lt_of_le hi ho2.size) ?_).trans (ho2.block i hi ?_))
        · rintro (h | h)
          · exact hn (c3 i h)
          · omega
        · rintro (h | h)
          · exact hn (c3 i h)
          · exact hne h
    have grow : ∀ (T' : Nat → Prop) (W4 : World), Grew A.heap.size Tc T' → (∀ i, T' i → i < W4.heap.size) → A.heap.size ≤ W4.heap.size → ∀ i, T' i → T0 i ∨ (w.heap.size + 1 < i ∧ i < W4.heap.size) := fun T' W4 h1 h2 h3 i hi => by
      rcases h1 i hi with h | h
      · exact (c4 i h).imp id fun h => ⟨h.1, by omega⟩
      · exact .inr ⟨by omega, h2 i hi⟩
    have wrap : ∀ (T' : Nat → Prop), Grew A.heap.size Tc T' → Grew A.heap.size T (fun i => T' i ∨ i = w.heap.size + 1) := fun T' h1 i hi => by
      rcases hi with hi | rfl
      · exact (h1 i hi).imp (c3 i) id
      · exact .inl c2
    rintro e a3 W3 hp
    cases e with
    | normal =>
      obtain ⟨T', g1, o1, hi3⟩ := hp
      obtain ⟨hr, hid, hl4, hk4, ho4⟩ := fin none W3 o1
      have hi4 := hI _ _ _ _ hi3 hid
      exact ⟨_, _, hr, _, wrap T' g1, ho4, .inl ⟨rfl, T', fun i hi => hi, .inr rfl, fun i hi => .inl hi, grow T' _ g1 (fun i hi => hIs _ _ _ _ hi4 hi) ho4.size, hi4, hl4, hk4⟩⟩
    | ret =>
      obtain ⟨T', g1, o1, hi3⟩ := hp
      obtain ⟨hr, hid, hl4, hk4, ho4⟩ := fin (some .ret) W3 o1
      have hi4 := hIx _ _ _ _ _ hi3 hid
      exact ⟨_, _, hr, _, wrap T' g1, ho4, .inr ⟨rfl, .ret, T', grow T' _ g1 (fun i hi => hIxs _ _ _ _ _ hi4 hi) ho4.size, hi4, hl4, hk4⟩⟩
    | exit id =>
      obtain ⟨T', g1, o1, hi3⟩ := hp
      obtain ⟨hr, hid, hl4, hk4, ho4⟩ := fin (some (.exit id)) W3 o1
      have hi4 := hIx _ _ _ _ _ hi3 hid
      exact ⟨_, _, hr, _, wrap T' g1, ho4, .inr ⟨rfl, .exit id, T', grow T' _ g1 (fun i hi => hIxs _ _ _ _ _ hi4 hi) ho4.size, hi4, hl4, hk4⟩⟩
    | goto t =>
      obtain ⟨T', g1, o1, hi3⟩ := hp
      obtain ⟨hr, hid, hl4, hk4, ho4⟩ := fin (some (.goto t)) W3 o1
      have hi4 := hIx _ _ _ _ _ hi3 hid
      exact ⟨_, _, hr, _, wrap T' g1, ho4, .inr ⟨rfl, .goto t, T', grow T' _ g1 (fun i hi => hIxs _ _ _ _ _ hi4 hi) ho4.size, hi4, hl4, hk4⟩⟩
    | panic ch => exact hp.elim
    | outgrown => exact hp.elim
  · rintro e W2 ⟨⟨v, rfl⟩, (⟨xs, T, hs, Tc, c1, c2, c3, c4, hi, hl, hk⟩ | ⟨xs, T, hs, c, Tc, c4, hi, hl, hk⟩)⟩
    · have hend := run_endLoop (P := P) hl (by rw [hrec]; simp)
      rw [hrec] at hend
      have hid : ∀ Z o', Idle Z w.heap.size W2 (W2.putObj (w.heap.size + 1) o') := fun Z o' => Idle.putObj (by omega) hl rfl
      exact ⟨none, _, hend, hdone _ xs Tc _ (Nat.le_refl _) (fun i hi => (c4 i hi).imp id fun h => ⟨by omega, by simpa using h.2⟩) (hS _ _ _ hs (hid _ _)) (hI _ _ _ _ hi (hid _ _)) ((World.putObj_heap_other (by omega)).trans hk)⟩
    · have hend := run_endLoop (P := P) hl (by rw [hrec]; simp)
      rw [hrec] at hend
      have hid : ∀ Z o', Idle Z w.heap.size W2 (W2.putObj (w.heap.size + 1) o') := fun Z o' => Idle.putObj (by omega) hl rfl
      exact ⟨some c, _, hend, hstop _ c xs Tc _ (Nat.le_refl _) (fun i hi => (c4 i hi).imp id fun h => ⟨by omega, by simpa using h.2⟩) (hSp _ _ _ hs (hid _ _)) (hIx _ _ _ _ _ hi (hid _ _)) ((World.putObj_heap_other (by omega)).trans hk)⟩
end Go.Proofs.YtiffgjodbcploaaGreat
end
