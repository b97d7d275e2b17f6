/-
The contracts of the library's functions at this seat's numbers, laid by the kit's tool. Conditions: each theorem's own.
-/
import Derived.Test.YtjnolpfmchnnmaaGreatDoorProg
import Derived.WalkKit
import Derived.WalkSpells
import Derived.WalkLawsBesides
import Derived.Lib.Hide
import Derived.Deep.QuietTactic
import Derived.BigQuiet
import Derived.Laws.OwnMore
import Derived.Deep.Draws
import Derived.Lib.BytesEntry
import Derived.Shelf.Bytes.SlSmallAll
import Derived.Laws.IdiomStrings
import Derived.Laws.Externs
import Derived.LoopTactic
import Derived.Deep.LoopGhost
import Derived.Laws.AppendOwn
import Derived.Maps.AppendAt
import Derived.Deep.RegionHeld3
import Derived.Deep.DrawnRows
import Derived.StillTactics
import Derived.StillTailTactics
import Derived.Laws.Pointers
import Derived.OwnWalk
import Derived.Deep.RegionWith
import Derived.Deep.RegionLaw
import Derived.Laws.Rows
import Derived.Shelf.Small.Bits
import Derived.Shelf.Small.Wraps
import Derived.Shelf.Strconv.Atoi
import Derived.Shelf.Strconv.Itoa0
import Derived.Shelf.Strconv.Itoa1
import Derived.Shelf.LaysM
import Derived.Shelf.Strconv.Itoa2
import Derived.Shelf.Strconv.Itoa3
import Derived.Shelf.Strconv.AtoiErrFast
import Derived.Shelf.Strconv.ParseIntEmpty
import Derived.Shelf.Strconv.AtoiFail
import Derived.Shelf.Strconv.Clone
import Derived.Shelf.Strconv.SyntaxError
import Derived.Shelf.Strconv.Lower
import Derived.Shelf.Strconv.ParseUint10
import Derived.Shelf.Strconv.ParseUint10Empty
import Derived.Shelf.Strconv.RangeError
import Derived.Shelf.Strconv.ParseUintEmpty
import Derived.Shelf.Strconv.ParseUint10b64
import Derived.Shelf.Strconv.ParseUint10b32
import Derived.Shelf.Strconv.ParseUint10b16
import Derived.Shelf.Strconv.ParseUint10b8
import Derived.Shelf.Sort.Plain
import Derived.Shelf.GgClosure.StringsIndexFunc
import Derived.Ground.GgwProg
import Derived.Shelf.GgClosure.StringsIndexFuncTop
import Derived.Shelf.Strings.Prefix
import Derived.Ground.Names2Prog
import Derived.Shelf.Slices.Clone
import Derived.Shelf.Slices.SearchI
import Derived.Shelf.Slices.In.SortNone
import Derived.Ground.SlgnProg
import Derived.Shelf.SlicesE.Clone
import Derived.Ground.SlgfProg
import Derived.Shelf.SlicesE.IndexFunc
import Derived.Shelf.Bytes.SlEqualAll
import Derived.Shelf.Bytes.Small
section
namespace Go.Proofs.YtjnolpfmchnnmaaGreatDoor
set_option maxRecDepth 100000
open Go.RowKit
theorem ret_int {k : IntKind} {a b : Int} (h : a = b) : Ending.returned (.int k a) = .returned (.int k b) := by rw [h]
theorem ret_bool {a b : Bool} (h : a = b) : Ending.returned (.bool a) = .returned (.bool b) := by rw [h]
end Go.Proofs.YtjnolpfmchnnmaaGreatDoor
end
section
namespace Go.Proofs.YtjnolpfmchnnmaaGreatDoor
set_option maxRecDepth 100000
open Go.RowKit
structure Only (S : Nat → Prop) (w w' : World) : Prop where
  os : w'.os = w.os
  tape : w'.tape = w.tape
  output : w'.output = w.output
  size : w.heap.size ≤ w'.heap.size
  block : ∀ i, i < w.heap.size → ¬ S i → w'.heap[i]? = w.heap[i]?
def Row (w : World) (S : Nat → Prop) (A : Option Addr) (n size : Nat) (xs : List Value) : Prop :=
  xs.length = n * size ∧ (0 < n → ∃ b o, A = some ⟨b, o, none⟩ ∧ S b ∧ b < w.heap.size ∧ ∀ j u, xs[j]? = some u → w.cell? ⟨b, o + j, none⟩ = some u)
theorem Row.nil (w : World) (S : Nat → Prop) (A : Option Addr) (size : Nat) : Row w S A 0 size [] := ⟨by simp, fun h => absurd h (by omega)⟩
theorem Row.at_ {w : World} {S : Nat → Prop} {A : Option Addr} {n k : Nat} {xs : List Value} (h : Row w S A n 1 xs) (hk : k < n) :
    ∃ b o u, A = some ⟨b, o, none⟩ ∧ S b ∧ b < w.heap.size ∧ xs[k]? = some u ∧ w.cell? ⟨b, o + k, none⟩ = some u := by
  obtain ⟨b, o, e, hS, hb, hc⟩ := h.2 (by omega)
  have hl : k < xs.length := by have := h.1; omega
  exact ⟨b, o, xs[k], e, hS, hb, List.getElem?_eq_getElem hl, hc k _ (List.getElem?_eq_getElem hl)⟩
theorem Row.keep {w w' : World} {S : Nat → Prop} {A : Option Addr} {n size : Nat} {xs : List Value} (h : Row w S A n size xs) (hz : w.heap.size ≤ w'.heap.size)
    (hk : ∀ i, i < w.heap.size → S i → w'.heap[i]? = w.heap[i]?) : Row w' S A n size xs :=
  ⟨h.1, fun hn => by
    obtain ⟨b, o, e, hS, hb, hc⟩ := h.2 hn
    refine ⟨b, o, e, hS, by omega, fun j u hu => ?_⟩
    rw [World.cell?_of_block (w' := w') (w := w) (a := ⟨b, o + j, none⟩) (hk b hb hS)]
    exact hc j u hu⟩
theorem Row.mono {w : World} {S S' : Nat → Prop} {A : Option Addr} {n size : Nat} {xs : List Value} (h : Row w S A n size xs) (hS : ∀ i, S i → S' i) : Row w S' A n size xs :=
  ⟨h.1, fun hn => by
    obtain ⟨b, o, e, h1, hb, hc⟩ := h.2 hn
    exact ⟨b, o, e, hS b h1, hb, hc⟩⟩
theorem Row.below {w w' : World} {S : Nat → Prop} {A : Option Addr} {n size : Nat} {xs : List Value} (h : Row w S A n size xs) (hb : Below w.heap.size w w') : Row w' S A n size xs :=
  h.keep hb.size fun i hi _ => hb.block i hi
def IntsIn (w : World) (S : Nat → Prop) (v : Value) (xs : List Int) : Prop :=
  ∃ A c, v = .slice A xs.length c ∧ xs.length ≤ c ∧ xs.length ≤ 140737488355328 ∧ Row w S A xs.length 1 (xs.map (Value.int .i64))
theorem IntsIn.nil (w : World) (S : Nat → Prop) : IntsIn w S (.slice none 0 0) [] := ⟨none, 0, rfl, by simp, by simp, Row.nil _ _ _ _⟩
theorem IntsIn.below {w w' : World} {S : Nat → Prop} {v : Value} {xs : List Int} (h : IntsIn w S v xs) (hb : Below w.heap.size w w') : IntsIn w' S v xs := by
  obtain ⟨A, c, e, h1, h2, h3⟩ := h
  exact ⟨A, c, e, h1, h2, h3.below hb⟩
end Go.Proofs.YtjnolpfmchnnmaaGreatDoor
end
section
namespace Go.Proofs.YtjnolpfmchnnmaaGreatDoor
set_option maxRecDepth 100000
open Go.RowKit Go.BigFrame
attribute [local go_sem ↓] Go.wp_at_zero Go.wp_at_succ
def bcell (b : UInt8) : Value := .int .u8 (b.toNat : Int)
def Byt (w : World) (S : Nat → Prop) (v : Value) (bs : List UInt8) : Prop :=
  ∃ A c, v = .slice A bs.length c ∧ bs.length ≤ c ∧ c ≤ 9223372036854775807 ∧ bs.length ≤ 140737488355328 ∧ Row w S A bs.length 1 (bs.map bcell)
theorem Byt.nil (w : World) (S : Nat → Prop) : Byt w S (.slice none 0 0) [] := ⟨none, 0, rfl, by simp, by simp, by simp, Row.nil _ _ _ _⟩
theorem Byt.below {w w' : World} {S : Nat → Prop} {v : Value} {bs : List UInt8} (h : Byt w S v bs) (hb : Below w.heap.size w w') : Byt w' S v bs := by
  obtain ⟨A, c, e, h1, h2, h3, h4⟩ := h
  exact ⟨A, c, e, h1, h2, h3, h4.below hb⟩
theorem Byt.keep {w w' : World} {S : Nat → Prop} {v : Value} {bs : List UInt8} (h : Byt w S v bs) (hz : w.heap.size ≤ w'.heap.size) (hk : ∀ i, i < w.heap.size → S i → w'.heap[i]? = w.heap[i]?) : Byt w' S v bs := by
  obtain ⟨A, c, e, h1, h2, h3, h4⟩ := h
  exact ⟨A, c, e, h1, h2, h3, h4.keep hz hk⟩
theorem Byt.mono {w : World} {S S' : Nat → Prop} {v : Value} {bs : List UInt8} (h : Byt w S v bs) (hS : ∀ i, S i → S' i) : Byt w S' v bs := by
  obtain ⟨A, c, e, h1, h2, h3, h4⟩ := h
  exact ⟨A, c, e, h1, h2, h3, h4.mono hS⟩
theorem Byt.convert {w : World} {S : Nat → Prop} {v : Value} {bs : List UInt8} (h : Byt w S v bs) : (convert 35 9 v).run Tryz.prog w = .ok (.string ⟨bs.toArray⟩) w := by
  obtain ⟨A, c, rfl, h1, h2, h3, hr⟩ := h
  rcases Nat.eq_zero_or_pos bs.length with h0 | h0
  · have : bs = [] := List.eq_nil_of_length_eq_zero h0
    subst this
    exact run_convert_bytes_zero w 35 5 Tryz.underlying35 Tryz.underlying5 A c 9 Tryz.underlying9
  · obtain ⟨b, o, rfl, _, _, hc⟩ := hr.2 h0
    exact run_convert_bytes_back w 35 9 5 ⟨b, o, none⟩ c bs Tryz.underlying35 Tryz.underlying5 Tryz.underlying9 (fun j hj => by
      rw [Addr.add_lit]
      exact hc j _ (by rw [List.getElem?_map, List.getElem?_eq_getElem hj]; rfl))
theorem ba_size (l : List UInt8) : (⟨l.toArray⟩ : ByteArray).size = l.length := by simp [ByteArray.size]
theorem Byt.len {w : World} {S : Nat → Prop} {v : Value} {bs : List UInt8} (h : Byt w S v bs) : bs.length ≤ 140737488355328 := by
  obtain ⟨A, c, e, _, _, hl, _⟩ := h
  exact hl
theorem slice_form {w : World} {S : Nat → Prop} {v : Value} {bs : List UInt8} (h : Byt w S v bs) : ∃ A c, v = .slice A bs.length c := by
  obtain ⟨A, c, e, _⟩ := h
  exact ⟨A, c, e⟩
theorem Only.refl (S : Nat → Prop) (w : World) : Only S w w := ⟨rfl, rfl, rfl, Nat.le_refl _, fun _ _ _ => rfl⟩
theorem Only.trans {S : Nat → Prop} {a b c : World} (h : Only S a b) (k : Only S b c) : Only S a c :=
  ⟨k.os.trans h.os, k.tape.trans h.tape, k.output.trans h.output, Nat.le_trans h.size k.size, fun i hi hS => (k.block i (Nat.lt_of_lt_of_le hi h.size) hS).trans (h.block i hi hS)⟩
theorem Only.mono {S S' : Nat → Prop} {a b : World} (h : Only S a b) (hS : ∀ i, S i → S' i) : Only S' a b :=
  ⟨h.os, h.tape, h.output, h.size, fun i hi hn => h.block i hi (fun h' => hn (hS i h'))⟩
theorem Only.of_below {S : Nat → Prop} {a b : World} (h : Below a.heap.size a b) : Only S a b := ⟨h.os, h.tape, h.output, h.size, fun i hi _ => h.block i hi⟩
theorem Only.below {S : Nat → Prop} {a b : World} {B : Nat} (h : Only S a b) (hB : B ≤ a.heap.size) (hS : ∀ i, S i → B ≤ i) : Below B a b :=
  ⟨h.os, h.tape, h.output, h.size, fun i hi => h.block i (Nat.lt_of_lt_of_le hi hB) (fun h' => by have := hS i h'; omega)⟩
theorem Only.setCell {S : Nat → Prop} {a b : World} (h : Only S a b) {p : Addr} (hp : S p.block) (u : Value) : Only S a (b.setCell p u) :=
  h.trans ⟨rfl, rfl, rfl, by simp [World.setCell], fun i _ hS => Below.heap_setCell _ _ _ _ (fun e => hS (by rw [e]; exact hp))⟩
theorem Only.alloc {S : Nat → Prop} {a b : World} (h : Only S a b) (o : Obj) : Only S a (b.alloc o) :=
  h.trans ⟨rfl, rfl, rfl, by simp, fun _ hi _ => Below.heap_alloc _ _ _ hi⟩
theorem Only.drew {S : Nat → Prop} {a b : World} (h : Only S a b) : Only S a b.drew := ⟨h.os, h.tape, h.output, h.size, h.block⟩
theorem Row.only {w w' : World} {T S : Nat → Prop} {A : Option Addr} {n size : Nat} {xs : List Value} (h : Row w T A n size xs) (ho : Only S w w') (hd : ∀ i, i < w.heap.size → T i → ¬ S i) : Row w' T A n size xs :=
  h.keep ho.size fun i hi hT => ho.block i hi (hd i hi hT)
theorem Byt.only {w w' : World} {T S : Nat → Prop} {v : Value} {bs : List UInt8} (h : Byt w T v bs) (ho : Only S w w') (hd : ∀ i, i < w.heap.size → T i → ¬ S i) : Byt w' T v bs :=
  h.keep ho.size fun i hi hT => ho.block i hi (hd i hi hT)
theorem info5 : (Tryz.prog.info? 5).map (fun i => (i.zero, i.size, i.bytes)) = some (some (.int .u8 0), 1, 1) := by kernel_rfl
theorem run_append_byt (w : World) (base : Nat) (ty : TypeId) (v0 src : Value) (S : Nat → Prop) (bs : List UInt8) (hown : w.ownsRow base 5 1 v0 0 []) (h : Byt w S src bs) (hbase : base ≤ w.heap.size) :
    ∃ v' w', (Builtin.append_ #[35, 35] ty #[v0, src]).run Tryz.prog w = .ok v' w' ∧ w'.ownsRow base 5 1 v' bs.length (bs.map bcell) ∧ w.grownBy w' v0.ownBlock := by
  obtain ⟨i0, hi, hz0, hz1, hz2⟩ := info_parts info5
  obtain ⟨A, c, rfl, h1, h2, h3, hr⟩ := h
  rcases A with _ | ad
  · have hm : bs.length = 0 := by
      rcases Nat.eq_zero_or_pos bs.length with h0 | h0
      · exact h0
      · obtain ⟨b, o, h, _⟩ := hr.2 h0
        cases h
    have : bs = [] := List.eq_nil_of_length_eq_zero hm
    subst this
    refine ⟨v0, w, ?_, by simpa using hown, World.grownBy.refl w _⟩
    rcases hown.2 with ⟨rfl, _⟩ | ⟨g, cap, cur, rfl, _, _, hnc, _⟩
    · simp [Builtin.append_, run_underlying Tryz.underlying35, sizeOf, typeInfo, hi, Builtin.lenOf, Builtin.firstCells]
    · simp [Builtin.append_, run_underlying Tryz.underlying35, sizeOf, typeInfo, hi, Builtin.lenOf, Builtin.firstCells, hnc, storeCells]
  · obtain ⟨v', w', e1, e2, e3, _, _⟩ := run_append_own_at (P := Tryz.prog) w base 35 ty 5 i0 (.int .u8 0) 1 1 Tryz.underlying35 hi hz0 hz1 hz2 rfl (by decide) v0 0 [] hown ad bs.length c (bs.map bcell) (by simp)
      (fun j u hu => by
        rcases Nat.eq_zero_or_pos bs.length with h0 | h0
        · have : bs = [] := List.eq_nil_of_length_eq_zero h0
          subst this
          simp at hu
        · obtain ⟨b, o, e, _, _, hc⟩ := hr.2 h0
          obtain rfl := Option.some.inj e
          rw [Addr.add_lit]
          exact hc j u hu) (by simp [Value.oneCell', bcell]) (by unfold maxLen; omega) (by omega) hbase
    exact ⟨v', w', e1, by simpa using e2, e3⟩
theorem wpList_append_byt {w : World} {ops : Array Oper} {rest : List Oper} {o : Oper} {a : Act} {Q : Exit → Act → World → Prop} (hgd : o.guard = none) (s x : Operand)
    (ho : o.op = .call { callee := .builtin .append, args := #[s, x], argTypes := #[35, 35] }) (base : Nat) (v0 src : Value) (hs : a.eval s = v0) (hx : a.eval x = src)
    (S : Nat → Prop) (bs : List UInt8) (hown : w.ownsRow base 5 1 v0 0 []) (h : Byt w S src bs) (hbase : base ≤ w.heap.size)
    (hK : ∀ v' w', w'.ownsRow base 5 1 v' bs.length (bs.map bcell) → w.grownBy w' v0.ownBlock → wpList Tryz.prog ops Q rest (a.put o.dst v') w') : wpList Tryz.prog ops Q (o :: rest) a w :=
  wpList_plain hgd fun _ hk => by
    obtain ⟨v', w', hrun, h2, h3⟩ := run_append_byt w base o.type v0 src S bs hown h hbase
    unfold Oper.wp execOp
    simp only [ho, resolve, invoke, builtin, Sem.run_bind, Sem.run_pure, Result.andThen_ok, List.map_toArray, List.map_cons, List.map_nil, hs, hx, hrun]
    exact hk _ _ (hK v' w' h2 h3)
theorem lit0 (w : World) : (w.alloc (.cells #[] 5)).ownsRow w.heap.size 5 1 (.slice (some ⟨w.heap.size, 0, none⟩) 0 0) 0 [] := by
  simpa using World.ownsRow_lit (base := w.heap.size) (e := 5) (size := 1) w #[] 0 (Nat.le_refl _) (by unfold maxLen; omega) (by simp)
theorem own_below {w w' : World} {base : Nat} {e : TypeId} {size n : Nat} {v : Value} {xs : List Value} (h : w.ownsRow base e size v n xs) (hb : Below w.heap.size w w') : w'.ownsRow base e size v n xs := by
  rcases h.2 with ⟨rfl, h0⟩ | ⟨g, cap, cur, rfl, hbg, hh, r⟩
  · exact ⟨h.1, .inl ⟨rfl, h0⟩⟩
  · have hlt : g < w.heap.size := by
      rcases Nat.lt_or_ge g w.heap.size with h1 | h1
      · exact h1
      · rw [Array.getElem?_eq_none h1] at hh; cases hh
    exact ⟨h.1, .inr ⟨g, cap, cur, rfl, hbg, (hb.block g hlt).trans hh, r⟩⟩
theorem take_snoc {α : Type} {l : List α} {k : Nat} {e : α} (h : l[k]? = some e) : l.take (k + 1) = l.take k ++ [e] := by
  rw [List.take_add_one, h]; rfl
theorem Byt.monoLt {w : World} {S S' : Nat → Prop} {v : Value} {bs : List UInt8} (h : Byt w S v bs) (hS : ∀ i, i < w.heap.size → S i → S' i) : Byt w S' v bs := by
  obtain ⟨A, c, e, h1, h2, h3, h4, h5⟩ := h
  refine ⟨A, c, e, h1, h2, h3, h4, fun hn => ?_⟩
  obtain ⟨b, o, e, hb, hlt, hc⟩ := h5 hn
  exact ⟨b, o, e, hS b hlt hb, hlt, hc⟩
theorem own_form {w : World} {base : Nat} {e : TypeId} {size n : Nat} {v : Value} {xs : List Value} (h : w.ownsRow base e size v n xs) : ∃ A c, v = .slice A n c := by
  rcases h.2 with ⟨rfl, rfl⟩ | ⟨g, cap, cur, rfl, _⟩
  · exact ⟨_, _, rfl⟩
  · exact ⟨_, _, rfl⟩
theorem own_pos {w : World} {base : Nat} {e : TypeId} {size n : Nat} {v : Value} {xs : List Value} (h : w.ownsRow base e size v n xs) (hn : 0 < n) :
    ∃ g c, v = .slice (some ⟨g, 0, none⟩) n c ∧ base ≤ g ∧ g < w.heap.size ∧ n ≤ c ∧ c ≤ 9223372036854775807 := by
  rcases h.2 with ⟨rfl, h0⟩ | ⟨g, cap, cur, rfl, hb, hh, hc, hm, _⟩
  · omega
  · refine ⟨g, cap, rfl, hb, ?_, hc, by unfold maxLen at hm; omega⟩
    rcases Nat.lt_or_ge g w.heap.size with h1 | h1
    · exact h1
    · rw [Array.getElem?_eq_none h1] at hh; cases hh
theorem own_only {w w' : World} {base : Nat} {e : TypeId} {size n : Nat} {v : Value} {xs : List Value} {S : Nat → Prop} (h : w.ownsRow base e size v n xs) (hb : Only S w w') (hv : ∀ g, v.ownBlock = some g → ¬ S g) : w'.ownsRow base e size v n xs := by
  rcases h.2 with ⟨rfl, h0⟩ | ⟨g, cap, cur, rfl, hbg, hh, r⟩
  · exact ⟨h.1, .inl ⟨rfl, h0⟩⟩
  · have hlt : g < w.heap.size := by
      rcases Nat.lt_or_ge g w.heap.size with h1 | h1
      · exact h1
      · rw [Array.getElem?_eq_none h1] at hh; cases hh
    exact ⟨h.1, .inr ⟨g, cap, cur, rfl, hbg, (hb.block g hlt (hv g rfl)).trans hh, r⟩⟩
theorem only_set (w : World) (g j : Nat) (u : Value) : Only (fun i => i = g) w (w.setCell ⟨g, j, none⟩ u) := Only.setCell (S := fun i => i = g) (Only.refl _ _) (p := ⟨g, j, none⟩) rfl u
theorem Only.of_grown {w w' : World} {g : Option Nat} (h : w.grownBy w' g) : Only (fun i => g = some i) w w' :=
  ⟨h.os, h.tape, h.output, h.size, fun i hi hS => h.block i hi (fun e => hS e.symm)⟩
def Loose (w : World) (i : Nat) : Prop := ∃ cs, w.heap[i]? = some (.cells cs 5 (0, 0))
theorem Loose.lt {w : World} {i : Nat} (h : Loose w i) : i < w.heap.size := by
  obtain ⟨cs, h⟩ := h
  exact (Array.getElem?_eq_some_iff.1 h).1
theorem Loose.of_eq {w w' : World} {i : Nat} (h : Loose w i) (e : w'.heap[i]? = w.heap[i]?) : Loose w' i := by
  obtain ⟨cs, h⟩ := h
  exact ⟨cs, e.trans h⟩
theorem Loose.below {w w' : World} {i : Nat} (h : Loose w i) (hb : Below w.heap.size w w') : Loose w' i := h.of_eq (hb.block i h.lt)
theorem Loose.grown {w w' : World} {i : Nat} {g : Option Nat} (h : Loose w i) (hg : w.grownBy w' g) (hn : g ≠ some i) : Loose w' i := h.of_eq (hg.block i h.lt (fun e => hn e.symm))
theorem Loose.only {w w' : World} {S : Nat → Prop} {i : Nat} (h : Loose w i) (ho : Only S w w') (hn : ¬ S i) : Loose w' i := h.of_eq (ho.block i h.lt hn)
def BytL (w : World) (lo : Nat) (v : Value) (bs : List UInt8) : Prop := Byt w (fun i => lo ≤ i ∧ Loose w i) v bs
theorem BytL.mono {w : World} {lo lo' : Nat} {v : Value} {bs : List UInt8} (h : BytL w lo v bs) (hl : lo' ≤ lo) : BytL w lo' v bs := Byt.mono (S := fun i => lo ≤ i ∧ Loose w i) h fun _ hi => ⟨by omega, hi.2⟩
theorem BytL.nil (w : World) (lo : Nat) : BytL w lo (.slice none 0 0) [] := Byt.nil _ _
theorem BytL.of_own {w : World} {base : Nat} {v : Value} {bs : List UInt8} (h : w.ownsRow base 5 1 v bs.length (bs.map bcell)) (hl : bs.length ≤ 140737488355328) : BytL w base v bs := by
  rcases h.2 with ⟨rfl, h0⟩ | ⟨g, cap, cur, rfl, hbg, hh, hcap, hcm, _⟩
  · have : bs = [] := List.eq_nil_of_length_eq_zero h0
    subst this
    exact BytL.nil _ _
  · have hlt : g < w.heap.size := (Array.getElem?_eq_some_iff.1 hh).1
    refine ⟨_, _, rfl, hcap, by unfold maxLen at hcm; omega, hl, by simp, fun _ => ⟨g, 0, rfl, ⟨hbg, _, hh⟩, hlt, fun j u hu => ?_⟩⟩
    have := h.cells (g := g) rfl j u hu
    rwa [Addr.add_lit] at this
theorem bcloneL_any (S : Nat → Prop) (v : Value) (bs : List UInt8) (w : World) (h : Byt w S v bs) :
    Calls Tryz.prog 89 #[v] w fun r w' => ∃ v', r = .returned v' ∧ BytL w' w.heap.size v' bs ∧ Below w.heap.size w w' := by
  have hl := h.len
  have h' := Lib.hid h
  obtain ⟨A, c, rfl, _⟩ := h
  have q22 : ∀ (w : World) (a : Option Addr) (n c n' c' : Nat), (binOp .eql 35 (.slice a n c) (.slice none n' c')).run Tryz.prog w = .ok (.bool a.isNone) w := fun w a n c n' c' => Lib.run_eql_slice_nil w _ _ a n c n' c' Tryz.underlying35
  rcases A with _ | ad
  · have h0 : bs = [] := by
      obtain ⟨A, c', e, _, _, _, hr⟩ := h'.out
      rcases Nat.eq_zero_or_pos bs.length with h0 | h0
      · exact List.eq_nil_of_length_eq_zero h0
      · injection e with e1 _ _
        subst e1
        obtain ⟨b, o, h, _⟩ := hr.2 h0
        cases h
    subst h0
    go_enter Tryz.func89, Tryz.ntmps89
    go_wp2
    go_ret
    exact ⟨_, rfl, BytL.nil _ _, Below.refl _ _⟩
  · have hb1 := (Below.refl w.heap.size w).alloc (Nat.le_refl _) (.cells #[] 5)
    have HB := Lib.hid hb1
    clear hb1
    go_enter Tryz.func89, Tryz.ntmps89
    go_wp2_with (at_builtin; refine wpList_append_byt rfl _ _ rfl w.heap.size _ _ rfl rfl S bs (lit0 w) (h'.out.below HB.out) HB.out.size ?_; intro v' w1 hown hgrow)
    go_ret
    exact ⟨_, rfl, BytL.of_own hown hl, HB.out.grown hgrow HB.out.size (fun j e => by cases e; exact Nat.le_refl _)⟩
section
variable {w : World} {b k : Nat} {t : TypeId}
end
theorem infoI : (Tryz.prog.info? 3).map (fun i => (i.zero, i.size, i.bytes)) = some (some (.int .i64 0), 1, 8) := by kernel_rfl
def fr (W w' : World) : Prop := Below W.heap.size W w'
section
variable {W w' w2 : World}
theorem fr.refl : fr W W := Below.refl _ _
theorem fr.drew (h : fr W w') : fr W w'.drew := Below.drew h
theorem fr.step (h : fr W w') (hb : Below w'.heap.size w' w2) : fr W w2 := Below.trans h (hb.mono (Below.size h))
theorem fr.alloc (h : fr W w') (o : Obj) : fr W (w'.alloc o) := h.step ((Below.refl _ _).alloc (Nat.le_refl _) _)
theorem fr.cell (h : fr W w') {p : Addr} {v : Value} (hc : W.cell? p = some v) : w'.cell? p = some v := (Below.cell h (World.block_lt_of_cell? W p hc)).trans hc
end
structure Ext (W : World) where
  w : World
  h : fr W w
instance {W : World} : Nonempty (Ext W) := ⟨⟨W, fr.refl⟩⟩
theorem Ext.cell {W : World} {p : Addr} {v : Value} (hc : W.cell? p = some v) (q : Ext W) : q.w.cell? p = some v := q.h.cell hc
theorem wp_region_quiet_ext {P : Program} {id : Nat} {Q : Exit → Act → World → Prop} {a : Act} {w : World} {l : List Oper} (hm : P.follows .mixedOrders = true) (hB : Region.lexB .any l.toArray = true)
    (h : wpQuiet P l.toArray (fun w' => ∃ p : Ext w, w' = p.w) (fun a' => ∀ w', (∃ p : Ext w, w' = p.w) → Q .normal a' w') l a) : (Code.region id l.toArray true).wp P Q a w :=
  wp_region_quiet (C := fun w' => ∃ p : Ext w, w' = p.w) hm hB ⟨⟨w.drew, fr.refl.drew⟩, rfl⟩ (by simpa using h)
theorem Ext.calls {P : Program} {f : FuncId} {args : Array Value} {W : World} {p : Ext W} {v : Value}
    (h : Calls P f args p.w fun e w' => e = .returned v ∧ Below p.w.heap.size p.w w') : Calls P f args p.w fun e w'' => e = .returned v ∧ ∃ q : Ext W, w'' = q.w :=
  h.mono fun _ _ ⟨he, hb⟩ => ⟨he, ⟨_, p.h.step hb⟩, rfl⟩
end Go.Proofs.YtjnolpfmchnnmaaGreatDoor
end
section
namespace Go.Proofs
open Go.Shelf
def Tryz.lays103_ren : Go.Shelf.Ren := ⟨fun | 103 => 87 | 210 => 144 | 206 => 205 | n => n, fun | 9 => 9 | 4 => 4 | 24 => 155 | 3 => 3 | n => n, fun | n => n⟩
theorem Tryz.lays103 : Go.Proofs.Lays.n103 Tryz.prog Tryz.lays103_ren := {
  mixed := by kernel_rfl
  f103 := Tryz.func87.trans (congrArg some (by kernel_rfl))
  f206 := Tryz.func205.trans (congrArg some (by kernel_rfl))
  f210 := Tryz.func144.trans (congrArg some (by kernel_rfl))
  t3 := Tryz.underlying3
  a3 := Tryz.isAgg3
  z3 := Tryz.sizeOf3
  v3 := Tryz.zeroValue3
  t4 := Tryz.underlying4
  a4 := Tryz.isAgg4
  z4 := Tryz.sizeOf4
  v4 := Tryz.zeroValue4
  t9 := Tryz.underlying9
  a9 := Tryz.isAgg9
  z9 := Tryz.sizeOf9
  v9 := Tryz.zeroValue9
  t24 := Tryz.underlying155
  a24 := Tryz.isAgg155
  z24 := Tryz.sizeOf155
  v24 := Tryz.zeroValue155 }
open Go.RowKit in
theorem Tryz.strings_CutPrefix (s p : ByteArray) (w : World) :
    Calls Tryz.prog 87 #[.string s, .string p] w fun e w' => e = .returned (.tuple #[.string ⟨(Lib.trimPrefix s.data.toList p.data.toList).toArray⟩, .bool (Lib.hasPrefix s.data.toList p.data.toList)]) ∧ w' = w := Any.strings_CutPrefix Tryz.lays103 s p w
def Tryz.lays104_ren : Go.Shelf.Ren := ⟨fun | 104 => 88 | 211 => 145 | 207 => 206 | n => n, fun | 9 => 9 | 4 => 4 | 24 => 155 | 3 => 3 | n => n, fun | n => n⟩
theorem Tryz.lays104 : Go.Proofs.Lays.n104 Tryz.prog Tryz.lays104_ren := {
  mixed := by kernel_rfl
  f104 := Tryz.func88.trans (congrArg some (by kernel_rfl))
  f207 := Tryz.func206.trans (congrArg some (by kernel_rfl))
  f211 := Tryz.func145.trans (congrArg some (by kernel_rfl))
  t3 := Tryz.underlying3
  a3 := Tryz.isAgg3
  z3 := Tryz.sizeOf3
  v3 := Tryz.zeroValue3
  t4 := Tryz.underlying4
  a4 := Tryz.isAgg4
  z4 := Tryz.sizeOf4
  v4 := Tryz.zeroValue4
  t9 := Tryz.underlying9
  a9 := Tryz.isAgg9
  z9 := Tryz.sizeOf9
  v9 := Tryz.zeroValue9
  t24 := Tryz.underlying155
  a24 := Tryz.isAgg155
  z24 := Tryz.sizeOf155
  v24 := Tryz.zeroValue155 }
open Go.RowKit in
theorem Tryz.strings_CutSuffix (s p : ByteArray) (w : World) (hs : s.size ≤ 9223372036854775807) :
    Calls Tryz.prog 88 #[.string s, .string p] w fun e w' => e = .returned (.tuple #[.string ⟨(Lib.trimSuffix s.data.toList p.data.toList).toArray⟩, .bool (Lib.hasSuffix s.data.toList p.data.toList)]) ∧ w' = w := Any.strings_CutSuffix Tryz.lays104 s p w hs
def Tryz.lays172_ren : Go.Shelf.Ren := ⟨fun | 172 => 76 | 244 => 129 | 245 => 130 | 247 => 197 | 279 => 198 | 280 => 199 | 281 => 200 | 282 => 201 | 287 => 240 | 316 => 241 | 171 => 119 | 205 => 242 | 321 => 274 | 322 => 275 | 243 => 190 | 246 => 236 | 283 => 269 | 284 => 270 | 285 => 271 | 286 => 272 | 129 => 263 | 317 => 294 | 318 => 295 | 319 => 296 | 320 => 297 | 337 => 307 | 338 => 308 | n => n, fun | 9 => 9 | 3 => 3 | 75 => 141 | 76 => 142 | 4 => 4 | 5 => 5 | 167 => 285 | 37 => 35 | 0 => 0 | 85 => 286 | 2 => 2 | 168 => 288 | 53 => 240 | 175 => 322 | 46 => 34 | 210 => 326 | 127 => 357 | 145 => 360 | 143 => 358 | 21 => 21 | 171 => 352 | 173 => 354 | 212 => 380 | 51 => 209 | 20 => 20 | 213 => 381 | 232 => 394 | 233 => 395 | 80 => 396 | n => n, fun | 15 => 1 | 16 => 2 | 17 => 3 | 18 => 4 | 19 => 5 | n => n⟩
theorem Tryz.lays172 : Go.Proofs.Lays.n172 Tryz.prog Tryz.lays172_ren := {
  mixed := by kernel_rfl
  f129 := Tryz.func263.trans (congrArg some (by kernel_rfl))
  f171 := Tryz.func119.trans (congrArg some (by kernel_rfl))
  f172 := Tryz.func76.trans (congrArg some (by kernel_rfl))
  f205 := Tryz.func242.trans (congrArg some (by kernel_rfl))
  f243 := Tryz.func190.trans (congrArg some (by kernel_rfl))
  f244 := Tryz.func129.trans (congrArg some (by kernel_rfl))
  f245 := Tryz.func130.trans (congrArg some (by kernel_rfl))
  f246 := Tryz.func236.trans (congrArg some (by kernel_rfl))
  f247 := Tryz.func197.trans (congrArg some (by kernel_rfl))
  f279 := Tryz.func198.trans (congrArg some (by kernel_rfl))
  f280 := Tryz.func199.trans (congrArg some (by kernel_rfl))
  f281 := Tryz.func200.trans (congrArg some (by kernel_rfl))
  f282 := Tryz.func201.trans (congrArg some (by kernel_rfl))
  f283 := Tryz.func269.trans (congrArg some (by kernel_rfl))
  f284 := Tryz.func270.trans (congrArg some (by kernel_rfl))
  f285 := Tryz.func271.trans (congrArg some (by kernel_rfl))
  f286 := Tryz.func272.trans (congrArg some (by kernel_rfl))
  f287 := Tryz.func240.trans (congrArg some (by kernel_rfl))
  f316 := Tryz.func241.trans (congrArg some (by kernel_rfl))
  f317 := Tryz.func294.trans (congrArg some (by kernel_rfl))
  f318 := Tryz.func295.trans (congrArg some (by kernel_rfl))
  f319 := Tryz.func296.trans (congrArg some (by kernel_rfl))
  f320 := Tryz.func297.trans (congrArg some (by kernel_rfl))
  f321 := Tryz.func274.trans (congrArg some (by kernel_rfl))
  f322 := Tryz.func275.trans (congrArg some (by kernel_rfl))
  f337 := Tryz.func307.trans (congrArg some (by kernel_rfl))
  f338 := Tryz.func308.trans (congrArg some (by kernel_rfl))
  t0 := Tryz.underlying0
  a0 := Tryz.isAgg0
  z0 := Tryz.sizeOf0
  v0 := Tryz.zeroValue0
  t2 := Tryz.underlying2
  a2 := Tryz.isAgg2
  z2 := Tryz.sizeOf2
  v2 := Tryz.zeroValue2
  t3 := Tryz.underlying3
  a3 := Tryz.isAgg3
  z3 := Tryz.sizeOf3
  v3 := Tryz.zeroValue3
  t4 := Tryz.underlying4
  a4 := Tryz.isAgg4
  z4 := Tryz.sizeOf4
  v4 := Tryz.zeroValue4
  t5 := Tryz.underlying5
  a5 := Tryz.isAgg5
  z5 := Tryz.sizeOf5
  v5 := Tryz.zeroValue5
  t9 := Tryz.underlying9
  a9 := Tryz.isAgg9
  z9 := Tryz.sizeOf9
  v9 := Tryz.zeroValue9
  t20 := Tryz.underlying20
  a20 := Tryz.isAgg20
  z20 := Tryz.sizeOf20
  v20 := Tryz.zeroValue20
  t21 := Tryz.underlying21
  a21 := Tryz.isAgg21
  z21 := Tryz.sizeOf21
  v21 := Tryz.zeroValue21
  t37 := Tryz.underlying35
  a37 := Tryz.isAgg35
  z37 := Tryz.sizeOf35
  v37 := Tryz.zeroValue35
  t46 := Tryz.underlying34
  a46 := Tryz.isAgg34
  z46 := Tryz.sizeOf34
  v46 := Tryz.zeroValue34
  t51 := Tryz.underlying209
  a51 := Tryz.isAgg209
  z51 := Tryz.sizeOf209
  v51 := Tryz.zeroValue209
  t53 := Tryz.underlying240
  a53 := Tryz.isAgg240
  z53 := Tryz.sizeOf240
  v53 := Tryz.zeroValue240
  t75 := Tryz.underlying141
  a75 := Tryz.isAgg141
  z75 := Tryz.sizeOf141
  v75 := Tryz.zeroValue141
  t76 := Tryz.underlying142
  a76 := Tryz.isAgg142
  z76 := Tryz.sizeOf142
  v76 := Tryz.zeroValue142
  t85 := Tryz.underlying286
  a85 := Tryz.isAgg286
  z85 := Tryz.sizeOf286
  v85 := Tryz.zeroValue286
  t127 := Tryz.underlying357
  a127 := Tryz.isAgg357
  z127 := Tryz.sizeOf357
  v127 := Tryz.zeroValue357
  t143 := Tryz.underlying358
  a143 := Tryz.isAgg358
  z143 := Tryz.sizeOf358
  v143 := Tryz.zeroValue358
  t145 := Tryz.underlying360
  a145 := Tryz.isAgg360
  z145 := Tryz.sizeOf360
  v145 := Tryz.zeroValue360
  t167 := Tryz.underlying285
  a167 := Tryz.isAgg285
  z167 := Tryz.sizeOf285
  v167 := Tryz.zeroValue285
  t168 := Tryz.underlying288
  a168 := Tryz.isAgg288
  z168 := Tryz.sizeOf288
  v168 := Tryz.zeroValue288
  t171 := Tryz.underlying352
  a171 := Tryz.isAgg352
  z171 := Tryz.sizeOf352
  v171 := Tryz.zeroValue352
  t173 := Tryz.underlying354
  a173 := Tryz.isAgg354
  z173 := Tryz.sizeOf354
  v173 := Tryz.zeroValue354
  t175 := Tryz.underlying322
  a175 := Tryz.isAgg322
  z175 := Tryz.sizeOf322
  v175 := Tryz.zeroValue322
  t210 := Tryz.underlying326
  a210 := Tryz.isAgg326
  z210 := Tryz.sizeOf326
  v210 := Tryz.zeroValue326
  t212 := Tryz.underlying380
  a212 := Tryz.isAgg380
  z212 := Tryz.sizeOf380
  v212 := Tryz.zeroValue380
  t213 := Tryz.underlying381
  a213 := Tryz.isAgg381
  z213 := Tryz.sizeOf381
  t232 := Tryz.underlying394
  a232 := Tryz.isAgg394
  z232 := Tryz.sizeOf394
  v232 := Tryz.zeroValue394
  t233 := Tryz.underlying395
  a233 := Tryz.isAgg395
  z233 := Tryz.sizeOf395
  v233 := Tryz.zeroValue395
  g15 := by kernel_rfl
  g16 := by kernel_rfl
  g17 := by kernel_rfl
  g18 := by kernel_rfl
  g19 := by kernel_rfl }
open Go.RowKit in
theorem Tryz.strconv_Atoi (s : ByteArray) (n : Int) (hl : s.size ≤ 18) (h : Lib.atoi s.data.toList = some n) (w : World) :
    Calls Tryz.prog 76 #[.string s] w fun e w' => e = .returned (.tuple #[.int .i64 n, .nilIface]) ∧ ∃ t, w' = Lib.bytesWorld w 5 t := Any.strconv_Atoi Tryz.lays172 s n hl h w
def Tryz.laysM246_ren : Go.Shelf.Ren := ⟨fun | 246 => 236 | 283 => 269 | 284 => 270 | 285 => 271 | 286 => 272 | 129 => 263 | 317 => 294 | 318 => 295 | 319 => 296 | 320 => 297 | 337 => 307 | 338 => 308 | n => n, fun | 2 => 2 | 3 => 3 | 9 => 9 | 4 => 4 | 171 => 352 | 0 => 0 | 53 => 240 | 37 => 35 | 5 => 5 | 173 => 354 | 212 => 380 | 51 => 209 | 20 => 20 | 213 => 381 | 46 => 34 | 232 => 394 | 233 => 395 | n => n, fun | 17 => 3 | 18 => 4 | 19 => 5 | n => n⟩
def Tryz.laysM243_ren : Go.Shelf.Ren := ⟨fun | 243 => 190 | 246 => 236 | 283 => 269 | 284 => 270 | 285 => 271 | 286 => 272 | 129 => 263 | 317 => 294 | 318 => 295 | 319 => 296 | 320 => 297 | 337 => 307 | 338 => 308 | n => n, fun | 3 => 3 | 9 => 9 | 2 => 2 | 4 => 4 | 171 => 352 | 0 => 0 | 53 => 240 | 37 => 35 | 5 => 5 | 173 => 354 | 212 => 380 | 51 => 209 | 20 => 20 | 213 => 381 | 46 => 34 | 232 => 394 | 233 => 395 | n => n, fun | 17 => 3 | 18 => 4 | 19 => 5 | n => n⟩
def Tryz.laysM171_ren : Go.Shelf.Ren := ⟨fun | 171 => 119 | 243 => 190 | 246 => 236 | 283 => 269 | 284 => 270 | 285 => 271 | 286 => 272 | 129 => 263 | 317 => 294 | 318 => 295 | 319 => 296 | 320 => 297 | 337 => 307 | 338 => 308 | n => n, fun | 3 => 3 | 9 => 9 | 2 => 2 | 4 => 4 | 171 => 352 | 0 => 0 | 53 => 240 | 37 => 35 | 5 => 5 | 173 => 354 | 212 => 380 | 51 => 209 | 20 => 20 | 213 => 381 | 46 => 34 | 232 => 394 | 233 => 395 | n => n, fun | 17 => 3 | 18 => 4 | 19 => 5 | n => n⟩
theorem Tryz.laysM171 : Go.Proofs.LaysM.n171 Tryz.prog Tryz.laysM171_ren := {
  mixed := by kernel_rfl
  f129 := Tryz.func263.trans (congrArg some (by kernel_rfl))
  f171 := Tryz.func119.trans (congrArg some (by kernel_rfl))
  f243 := Tryz.func190.trans (congrArg some (by kernel_rfl))
  f246 := Tryz.func236.trans (congrArg some (by kernel_rfl))
  f283 := Tryz.func269.trans (congrArg some (by kernel_rfl))
  f284 := Tryz.func270.trans (congrArg some (by kernel_rfl))
  f285 := Tryz.func271.trans (congrArg some (by kernel_rfl))
  f286 := Tryz.func272.trans (congrArg some (by kernel_rfl))
  f317 := Tryz.func294.trans (congrArg some (by kernel_rfl))
  f318 := Tryz.func295.trans (congrArg some (by kernel_rfl))
  f319 := Tryz.func296.trans (congrArg some (by kernel_rfl))
  f320 := Tryz.func297.trans (congrArg some (by kernel_rfl))
  f337 := Tryz.func307.trans (congrArg some (by kernel_rfl))
  f338 := Tryz.func308.trans (congrArg some (by kernel_rfl))
  t0 := Tryz.underlying0
  a0 := Tryz.isAgg0
  z0 := Tryz.sizeOf0
  v0 := Tryz.zeroValue0
  t2 := Tryz.underlying2
  a2 := Tryz.isAgg2
  z2 := Tryz.sizeOf2
  v2 := Tryz.zeroValue2
  t3 := Tryz.underlying3
  a3 := Tryz.isAgg3
  z3 := Tryz.sizeOf3
  v3 := Tryz.zeroValue3
  t4 := Tryz.underlying4
  a4 := Tryz.isAgg4
  z4 := Tryz.sizeOf4
  v4 := Tryz.zeroValue4
  t5 := Tryz.underlying5
  a5 := Tryz.isAgg5
  z5 := Tryz.sizeOf5
  v5 := Tryz.zeroValue5
  t9 := Tryz.underlying9
  a9 := Tryz.isAgg9
  z9 := Tryz.sizeOf9
  v9 := Tryz.zeroValue9
  t20 := Tryz.underlying20
  a20 := Tryz.isAgg20
  z20 := Tryz.sizeOf20
  v20 := Tryz.zeroValue20
  t37 := Tryz.underlying35
  a37 := Tryz.isAgg35
  z37 := Tryz.sizeOf35
  v37 := Tryz.zeroValue35
  t46 := Tryz.underlying34
  a46 := Tryz.isAgg34
  z46 := Tryz.sizeOf34
  v46 := Tryz.zeroValue34
  t51 := Tryz.underlying209
  a51 := Tryz.isAgg209
  z51 := Tryz.sizeOf209
  v51 := Tryz.zeroValue209
  t53 := Tryz.underlying240
  a53 := Tryz.isAgg240
  z53 := Tryz.sizeOf240
  v53 := Tryz.zeroValue240
  t171 := Tryz.underlying352
  a171 := Tryz.isAgg352
  z171 := Tryz.sizeOf352
  v171 := Tryz.zeroValue352
  t173 := Tryz.underlying354
  a173 := Tryz.isAgg354
  z173 := Tryz.sizeOf354
  v173 := Tryz.zeroValue354
  t212 := Tryz.underlying380
  a212 := Tryz.isAgg380
  z212 := Tryz.sizeOf380
  v212 := Tryz.zeroValue380
  t213 := Tryz.underlying381
  a213 := Tryz.isAgg381
  z213 := Tryz.sizeOf381
  t232 := Tryz.underlying394
  a232 := Tryz.isAgg394
  z232 := Tryz.sizeOf394
  v232 := Tryz.zeroValue394
  t233 := Tryz.underlying395
  a233 := Tryz.isAgg395
  z233 := Tryz.sizeOf395
  v233 := Tryz.zeroValue395
  g17 := by kernel_rfl
  g18 := by kernel_rfl
  g19 := by kernel_rfl
  i0 := by kernel_rfl
  i2 := by kernel_rfl
  i3 := by kernel_rfl
  i4 := by kernel_rfl
  i5 := by kernel_rfl
  i9 := by kernel_rfl
  i20 := by kernel_rfl
  i37 := by kernel_rfl
  i46 := by kernel_rfl
  i51 := by kernel_rfl
  i53 := by kernel_rfl
  i171 := by kernel_rfl
  i173 := by kernel_rfl
  i212 := by kernel_rfl
  i232 := by kernel_rfl
  i233 := by kernel_rfl
  m17 := by kernel_rfl
  m18 := by kernel_rfl
  m19 := by kernel_rfl }
open Go.RowKit Go.Sort Go.Lib in
theorem Tryz.strconv_Itoa (n : Int) (h0 : -9223372036854775808 ≤ n) (h1 : n ≤ 9223372036854775807) (w : World) (htab : Lib.TabIs Tryz.prog w "internal/strconv.uint64pow10" .u64 Lib.pow10Tab) :
    Calls Tryz.prog 119 #[.int .i64 n] w fun e w' => e = .returned (.string ⟨(Lib.itoa n).toArray⟩) ∧ ∃ k os, w' = grow (w.drewN k) os := Any.strconv_Itoa Tryz.laysM171 n h0 h1 w htab
def Tryz.laysGw17_ren : Go.Shelf.Ren := ⟨fun | 17 => 60 | 15 => 117 | 20 => 189 | n => n, fun | 9 => 9 | 23 => 119 | 4 => 4 | 3 => 3 | 0 => 0 | 21 => 21 | n => n, fun | n => n⟩
theorem Tryz.laysGw17 : Go.Proofs.LaysGw.n17 Tryz.prog Tryz.laysGw17_ren := {
  mixed := by kernel_rfl
  f15 := Tryz.func117.trans (congrArg some (by kernel_rfl))
  f17 := Tryz.func60.trans (congrArg some (by kernel_rfl))
  f20 := Tryz.func189.trans (congrArg some (by kernel_rfl))
  t0 := Tryz.underlying0
  a0 := Tryz.isAgg0
  z0 := Tryz.sizeOf0
  v0 := Tryz.zeroValue0
  i0 := by kernel_rfl
  t3 := Tryz.underlying3
  a3 := Tryz.isAgg3
  z3 := Tryz.sizeOf3
  v3 := Tryz.zeroValue3
  i3 := by kernel_rfl
  t4 := Tryz.underlying4
  a4 := Tryz.isAgg4
  z4 := Tryz.sizeOf4
  v4 := Tryz.zeroValue4
  i4 := by kernel_rfl
  t9 := Tryz.underlying9
  a9 := Tryz.isAgg9
  z9 := Tryz.sizeOf9
  v9 := Tryz.zeroValue9
  i9 := by kernel_rfl
  t21 := Tryz.underlying21
  a21 := Tryz.isAgg21
  z21 := Tryz.sizeOf21
  v21 := Tryz.zeroValue21
  i21 := by kernel_rfl
  t23 := Tryz.underlying119
  a23 := Tryz.isAgg119
  z23 := Tryz.sizeOf119
  v23 := Tryz.zeroValue119
  i23 := by kernel_rfl }
open Go.RowKit Go.Lib in
theorem Tryz.strings_ContainsFunc (g : Nat) (lb : Array Value) (eg : ∀ args w, (callFunc g args).run Tryz.prog w = .ok (.enter g args) w) (p : Nat → Bool) (s : ByteArray) (w : World) (hp : PredAt Tryz.prog g lb encR p w) :
    Calls Tryz.prog 60 #[.string s, .func (.func g) #[] lb] w fun e w' => e = .returned (.bool (decide (0 ≤ Lib.idxFunc p true s))) ∧ Below w.heap.size w w' := Any.strings_ContainsFunc Tryz.laysGw17 g lb eg p s w hp
def Tryz.laysNm215_ren : Go.Shelf.Ren := ⟨fun | 15 => 93 | n => n, fun | 22 => 26 | 3 => 3 | 4 => 4 | n => n, fun | n => n⟩
theorem Tryz.laysNm215 : Go.Proofs.Lays2.n15 Tryz.prog Tryz.laysNm215_ren := {
  mixed := by kernel_rfl
  f15 := Tryz.func93.trans (congrArg some (by kernel_rfl))
  t3 := Tryz.underlying3
  a3 := Tryz.isAgg3
  z3 := Tryz.sizeOf3
  v3 := Tryz.zeroValue3
  t4 := Tryz.underlying4
  a4 := Tryz.isAgg4
  z4 := Tryz.sizeOf4
  v4 := Tryz.zeroValue4
  t22 := Tryz.underlying26
  a22 := Tryz.isAgg26
  z22 := Tryz.sizeOf26
  v22 := Tryz.zeroValue26
  i3 := by kernel_rfl }
open Go.RowKit Go.Lib in
theorem Tryz.slices_Clone_int (b off n c : Nat) (zs : List Int) (w : World) (hz : n ≤ zs.length) (hbig : n * 8 ≤ 140737488355328) (hc : ∀ j, j < zs.length → w.cell? ⟨b, off + j, none⟩ = some (.int .i64 (zs.getD j 0))) :
    Calls Tryz.prog 93 #[.slice (some ⟨b, off, none⟩) n c] w fun e w' => ∃ v', e = .returned v' ∧ w'.ownsRow w.heap.size 3 1 v' n ((zs.take n).map (Value.int .i64)) ∧ v' ≠ .slice none 0 0 ∧ Below w.heap.size w w' := Any.slices_Clone_int Tryz.laysNm215 b off n c zs w hz hbig hc
open Go.RowKit Go.Lib in
theorem Tryz.slices_Clone_int_nil (n c : Nat) (w : World) :
    Calls Tryz.prog 93 #[.slice none n c] w fun e w' => e = .returned (.slice none 0 0) ∧ w' = w := Any.slices_Clone_int_nil Tryz.laysNm215 n c w
open Go.RowKit Go.Lib in
theorem Tryz.slices_Clone_int_zero (a : Addr) (c : Nat) (w : World) :
    Calls Tryz.prog 93 #[.slice (some a) 0 c] w fun e w' => ∃ v', e = .returned v' ∧ w'.ownsRow w.heap.size 3 1 v' 0 [] ∧ v' ≠ .slice none 0 0 ∧ Below w.heap.size w w' := Any.slices_Clone_int_zero Tryz.laysNm215 a c w
end Go.Proofs
end
