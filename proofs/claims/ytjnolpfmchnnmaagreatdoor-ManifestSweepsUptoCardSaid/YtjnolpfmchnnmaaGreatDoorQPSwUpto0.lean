/-
The disk as plain data, and what the calls make of it.
-/
import Derived.Test.YtjnolpfmchnnmaaGreatDoorProg
import Derived.WalkKit
import Derived.WalkSpells
import Derived.WalkLawsBesides
import Derived.Lib.Hide
import Derived.Deep.QuietTactic
import Derived.BigQuiet
import Derived.Laws.OwnMore
import Derived.Deep.Draws
import Derived.Lib.BytesEntry
import Derived.Shelf.Bytes.SlSmallAll
import Derived.Laws.IdiomStrings
import Derived.Laws.Externs
import Derived.LoopTactic
import Derived.Deep.LoopGhost
import Derived.Laws.AppendOwn
import Derived.Maps.AppendAt
import Derived.Deep.RegionHeld3
import Derived.Deep.DrawnRows
import Derived.StillTactics
import Derived.StillTailTactics
import Derived.Laws.Pointers
import Derived.OwnWalk
import Derived.Deep.RegionWith
import Derived.Deep.RegionLaw
import Derived.Laws.Rows
import Derived.Shelf.Small.Bits
import Derived.Shelf.Small.Wraps
import Derived.Shelf.Strconv.Atoi
import Derived.Shelf.Strconv.Itoa0
import Derived.Shelf.Strconv.Itoa1
import Derived.Shelf.LaysM
import Derived.Shelf.Strconv.Itoa2
import Derived.Shelf.Strconv.Itoa3
import Derived.Shelf.Strconv.AtoiErrFast
import Derived.Shelf.Strconv.ParseIntEmpty
import Derived.Shelf.Strconv.AtoiFail
import Derived.Shelf.Strconv.Clone
import Derived.Shelf.Strconv.SyntaxError
import Derived.Shelf.Strconv.Lower
import Derived.Shelf.Strconv.ParseUint10
import Derived.Shelf.Strconv.ParseUint10Empty
import Derived.Shelf.Strconv.RangeError
import Derived.Shelf.Strconv.ParseUintEmpty
import Derived.Shelf.Strconv.ParseUint10b64
import Derived.Shelf.Strconv.ParseUint10b32
import Derived.Shelf.Strconv.ParseUint10b16
import Derived.Shelf.Strconv.ParseUint10b8
import Derived.Shelf.Sort.Plain
import Derived.Shelf.GgClosure.StringsIndexFunc
import Derived.Ground.GgwProg
import Derived.Shelf.GgClosure.StringsIndexFuncTop
import Derived.Shelf.Strings.Prefix
import Derived.Ground.Names2Prog
import Derived.Shelf.Slices.Clone
import Derived.Shelf.Slices.SearchI
import Derived.Shelf.Slices.In.SortNone
import Derived.Ground.SlgnProg
import Derived.Shelf.SlicesE.Clone
import Derived.Ground.SlgfProg
import Derived.Shelf.SlicesE.IndexFunc
import Derived.Shelf.Bytes.SlEqualAll
import Derived.Shelf.Bytes.Small
import Derived.Laws.RangeAny
import Derived.Sort.KeysCollected
import Derived.Maps.OwnSet
import Derived.Maps.Ext
section
namespace Go.Proofs.YtjnolpfmchnnmaaGreatDoor
set_option maxRecDepth 100000
open Go.RowKit
theorem ret_int {k : IntKind} {a b : Int} (h : a = b) : Ending.returned (.int k a) = .returned (.int k b) := by rw [h]
theorem ret_bool {a b : Bool} (h : a = b) : Ending.returned (.bool a) = .returned (.bool b) := by rw [h]
end Go.Proofs.YtjnolpfmchnnmaaGreatDoor
end
section
namespace Go.Proofs.YtjnolpfmchnnmaaGreatDoor
set_option maxRecDepth 100000
open Go.RowKit
structure Only (S : Nat → Prop) (w w' : World) : Prop where
  os : w'.os = w.os
  tape : w'.tape = w.tape
  output : w'.output = w.output
  size : w.heap.size ≤ w'.heap.size
  block : ∀ i, i < w.heap.size → ¬ S i → w'.heap[i]? = w.heap[i]?
def Row (w : World) (S : Nat → Prop) (A : Option Addr) (n size : Nat) (xs : List Value) : Prop :=
  xs.length = n * size ∧ (0 < n → ∃ b o, A = some ⟨b, o, none⟩ ∧ S b ∧ b < w.heap.size ∧ ∀ j u, xs[j]? = some u → w.cell? ⟨b, o + j, none⟩ = some u)
theorem Row.nil (w : World) (S : Nat → Prop) (A : Option Addr) (size : Nat) : Row w S A 0 size [] := ⟨by simp, fun h => absurd h (by omega)⟩
theorem Row.at_ {w : World} {S : Nat → Prop} {A : Option Addr} {n k : Nat} {xs : List Value} (h : Row w S A n 1 xs) (hk : k < n) :
    ∃ b o u, A = some ⟨b, o, none⟩ ∧ S b ∧ b < w.heap.size ∧ xs[k]? = some u ∧ w.cell? ⟨b, o + k, none⟩ = some u := by
  obtain ⟨b, o, e, hS, hb, hc⟩ := h.2 (by omega)
  have hl : k < xs.length := by have := h.1; omega
  exact ⟨b, o, xs[k], e, hS, hb, List.getElem?_eq_getElem hl, hc k _ (List.getElem?_eq_getElem hl)⟩
theorem Row.keep {w w' : World} {S : Nat → Prop} {A : Option Addr} {n size : Nat} {xs : List Value} (h : Row w S A n size xs) (hz : w.heap.size ≤ w'.heap.size)
    (hk : ∀ i, i < w.heap.size → S i → w'.heap[i]? = w.heap[i]?) : Row w' S A n size xs :=
  ⟨h.1, fun hn => by
    obtain ⟨b, o, e, hS, hb, hc⟩ := h.2 hn
    refine ⟨b, o, e, hS, by omega, fun j u hu => ?_⟩
    rw [World.cell?_of_block (w' := w') (w := w) (a := ⟨b, o + j, none⟩) (hk b hb hS)]
    exact hc j u hu⟩
theorem Row.mono {w : World} {S S' : Nat → Prop} {A : Option Addr} {n size : Nat} {xs : List Value} (h : Row w S A n size xs) (hS : ∀ i, S i → S' i) : Row w S' A n size xs :=
  ⟨h.1, fun hn => by
    obtain ⟨b, o, e, h1, hb, hc⟩ := h.2 hn
    exact ⟨b, o, e, hS b h1, hb, hc⟩⟩
theorem Row.below {w w' : World} {S : Nat → Prop} {A : Option Addr} {n size : Nat} {xs : List Value} (h : Row w S A n size xs) (hb : Below w.heap.size w w') : Row w' S A n size xs :=
  h.keep hb.size fun i hi _ => hb.block i hi
def IntsIn (w : World) (S : Nat → Prop) (v : Value) (xs : List Int) : Prop :=
  ∃ A c, v = .slice A xs.length c ∧ xs.length ≤ c ∧ xs.length ≤ 140737488355328 ∧ Row w S A xs.length 1 (xs.map (Value.int .i64))
theorem IntsIn.nil (w : World) (S : Nat → Prop) : IntsIn w S (.slice none 0 0) [] := ⟨none, 0, rfl, by simp, by simp, Row.nil _ _ _ _⟩
theorem IntsIn.below {w w' : World} {S : Nat → Prop} {v : Value} {xs : List Int} (h : IntsIn w S v xs) (hb : Below w.heap.size w w') : IntsIn w' S v xs := by
  obtain ⟨A, c, e, h1, h2, h3⟩ := h
  exact ⟨A, c, e, h1, h2, h3.below hb⟩
theorem IntsIn.mono {w : World} {S S' : Nat → Prop} {v : Value} {xs : List Int} (h : IntsIn w S v xs) (hS : ∀ i, S i → S' i) : IntsIn w S' v xs := by
  obtain ⟨A, c, e, h1, h2, h3⟩ := h
  exact ⟨A, c, e, h1, h2, h3.mono hS⟩
end Go.Proofs.YtjnolpfmchnnmaaGreatDoor
end
section
namespace Go.Proofs.YtjnolpfmchnnmaaGreatDoor
set_option maxRecDepth 100000
open Go.RowKit Go.BigFrame
attribute [local go_sem ↓] Go.wp_at_zero Go.wp_at_succ
def bcell (b : UInt8) : Value := .int .u8 (b.toNat : Int)
def Byt (w : World) (S : Nat → Prop) (v : Value) (bs : List UInt8) : Prop :=
  ∃ A c, v = .slice A bs.length c ∧ bs.length ≤ c ∧ c ≤ 9223372036854775807 ∧ bs.length ≤ 140737488355328 ∧ Row w S A bs.length 1 (bs.map bcell)
theorem Byt.nil (w : World) (S : Nat → Prop) : Byt w S (.slice none 0 0) [] := ⟨none, 0, rfl, by simp, by simp, by simp, Row.nil _ _ _ _⟩
theorem Byt.below {w w' : World} {S : Nat → Prop} {v : Value} {bs : List UInt8} (h : Byt w S v bs) (hb : Below w.heap.size w w') : Byt w' S v bs := by
  obtain ⟨A, c, e, h1, h2, h3, h4⟩ := h
  exact ⟨A, c, e, h1, h2, h3, h4.below hb⟩
theorem Byt.keep {w w' : World} {S : Nat → Prop} {v : Value} {bs : List UInt8} (h : Byt w S v bs) (hz : w.heap.size ≤ w'.heap.size) (hk : ∀ i, i < w.heap.size → S i → w'.heap[i]? = w.heap[i]?) : Byt w' S v bs := by
  obtain ⟨A, c, e, h1, h2, h3, h4⟩ := h
  exact ⟨A, c, e, h1, h2, h3, h4.keep hz hk⟩
theorem Byt.mono {w : World} {S S' : Nat → Prop} {v : Value} {bs : List UInt8} (h : Byt w S v bs) (hS : ∀ i, S i → S' i) : Byt w S' v bs := by
  obtain ⟨A, c, e, h1, h2, h3, h4⟩ := h
  exact ⟨A, c, e, h1, h2, h3, h4.mono hS⟩
theorem bytesOf_bcell (bs : List UInt8) : Lib.bytesOf (bs.map fun b => (b.toNat : Int)) = bs := by
  unfold Lib.bytesOf
  rw [List.map_map]
  conv => rhs; rw [← List.map_id bs]
  apply List.map_congr_left
  intro b _
  simp
theorem Byt.convert {w : World} {S : Nat → Prop} {v : Value} {bs : List UInt8} (h : Byt w S v bs) : (convert 35 9 v).run Tryz.prog w = .ok (.string ⟨bs.toArray⟩) w := by
  obtain ⟨A, c, rfl, h1, h2, h3, hr⟩ := h
  rcases Nat.eq_zero_or_pos bs.length with h0 | h0
  · have : bs = [] := List.eq_nil_of_length_eq_zero h0
    subst this
    exact run_convert_bytes_zero w 35 5 Tryz.underlying35 Tryz.underlying5 A c 9 Tryz.underlying9
  · obtain ⟨b, o, rfl, _, _, hc⟩ := hr.2 h0
    exact run_convert_bytes_back w 35 9 5 ⟨b, o, none⟩ c bs Tryz.underlying35 Tryz.underlying5 Tryz.underlying9 (fun j hj => by
      rw [Addr.add_lit]
      exact hc j _ (by rw [List.getElem?_map, List.getElem?_eq_getElem hj]; rfl))
theorem Byt.bytesOf {w : World} {S : Nat → Prop} {v : Value} {bs : List UInt8} (h : Byt w S v bs) : (Extern.Bytes.bytesOf v).run Tryz.prog w = .ok ⟨bs.toArray⟩ w := by
  obtain ⟨A, c, rfl, h1, h2, h3, hr⟩ := h
  rcases Nat.eq_zero_or_pos bs.length with h0 | h0
  · have : bs = [] := List.eq_nil_of_length_eq_zero h0
    subst this
    rcases A with _ | a
    · rfl
    · rfl
  · obtain ⟨b, o, rfl, _, _, hc⟩ := hr.2 h0
    have hl := Lib.run_loadBytesX (P := Tryz.prog) w (bs.map fun b => (b.toNat : Int)) ⟨b, o, none⟩ .empty (fun j x hj => by
      rw [Addr.add_lit]
      rw [List.getElem?_map] at hj
      rcases hb : bs[j]? with _ | y
      · rw [hb] at hj; cases hj
      · rw [hb] at hj
        injection hj with hj
        subst hj
        exact hc j _ (by rw [List.getElem?_map, hb]; rfl))
    rw [List.length_map, bytesOf_bcell] at hl
    show (Extern.Bytes.loadBytes ⟨b, o, none⟩ bs.length .empty).run Tryz.prog w = _
    rw [hl]
    congr 1
    apply ByteArray.ext
    show (#[] : Array UInt8) ++ bs.toArray = bs.toArray
    simp
theorem ba_get (l : List UInt8) (i : Nat) : (⟨l.toArray⟩ : ByteArray)[i]! = l.getD i default := by
  by_cases h : i < l.length
  · have h' : i < (⟨l.toArray⟩ : ByteArray).size := by simpa [ByteArray.size] using h
    rw [getElem!_pos (⟨l.toArray⟩ : ByteArray) i h', List.getD_eq_getElem?_getD, List.getElem?_eq_getElem h]
    rfl
  · have h' : ¬ i < (⟨l.toArray⟩ : ByteArray).size := by simpa [ByteArray.size] using h
    rw [getElem!_neg (⟨l.toArray⟩ : ByteArray) i h', List.getD_eq_getElem?_getD, List.getElem?_eq_none (by omega)]
    rfl
theorem ba_size (l : List UInt8) : (⟨l.toArray⟩ : ByteArray).size = l.length := by simp [ByteArray.size]
theorem Byt.len {w : World} {S : Nat → Prop} {v : Value} {bs : List UInt8} (h : Byt w S v bs) : bs.length ≤ 140737488355328 := by
  obtain ⟨A, c, e, _, _, hl, _⟩ := h
  exact hl
theorem slice_form {w : World} {S : Nat → Prop} {v : Value} {bs : List UInt8} (h : Byt w S v bs) : ∃ A c, v = .slice A bs.length c := by
  obtain ⟨A, c, e, _⟩ := h
  exact ⟨A, c, e⟩
theorem Only.refl (S : Nat → Prop) (w : World) : Only S w w := ⟨rfl, rfl, rfl, Nat.le_refl _, fun _ _ _ => rfl⟩
theorem Only.trans {S : Nat → Prop} {a b c : World} (h : Only S a b) (k : Only S b c) : Only S a c :=
  ⟨k.os.trans h.os, k.tape.trans h.tape, k.output.trans h.output, Nat.le_trans h.size k.size, fun i hi hS => (k.block i (Nat.lt_of_lt_of_le hi h.size) hS).trans (h.block i hi hS)⟩
theorem Only.mono {S S' : Nat → Prop} {a b : World} (h : Only S a b) (hS : ∀ i, S i → S' i) : Only S' a b :=
  ⟨h.os, h.tape, h.output, h.size, fun i hi hn => h.block i hi (fun h' => hn (hS i h'))⟩
theorem Only.of_below {S : Nat → Prop} {a b : World} (h : Below a.heap.size a b) : Only S a b := ⟨h.os, h.tape, h.output, h.size, fun i hi _ => h.block i hi⟩
theorem Only.below {S : Nat → Prop} {a b : World} {B : Nat} (h : Only S a b) (hB : B ≤ a.heap.size) (hS : ∀ i, S i → B ≤ i) : Below B a b :=
  ⟨h.os, h.tape, h.output, h.size, fun i hi => h.block i (Nat.lt_of_lt_of_le hi hB) (fun h' => by have := hS i h'; omega)⟩
theorem Only.setCell {S : Nat → Prop} {a b : World} (h : Only S a b) {p : Addr} (hp : S p.block) (u : Value) : Only S a (b.setCell p u) :=
  h.trans ⟨rfl, rfl, rfl, by simp [World.setCell], fun i _ hS => Below.heap_setCell _ _ _ _ (fun e => hS (by rw [e]; exact hp))⟩
theorem Only.alloc {S : Nat → Prop} {a b : World} (h : Only S a b) (o : Obj) : Only S a (b.alloc o) :=
  h.trans ⟨rfl, rfl, rfl, by simp, fun _ hi _ => Below.heap_alloc _ _ _ hi⟩
theorem Only.drew {S : Nat → Prop} {a b : World} (h : Only S a b) : Only S a b.drew := ⟨h.os, h.tape, h.output, h.size, h.block⟩
theorem Only.drewN {S : Nat → Prop} {a b : World} (h : Only S a b) (k : Nat) : Only S a (b.drewN k) := ⟨h.os, h.tape, h.output, h.size, h.block⟩
theorem Row.only {w w' : World} {T S : Nat → Prop} {A : Option Addr} {n size : Nat} {xs : List Value} (h : Row w T A n size xs) (ho : Only S w w') (hd : ∀ i, i < w.heap.size → T i → ¬ S i) : Row w' T A n size xs :=
  h.keep ho.size fun i hi hT => ho.block i hi (hd i hi hT)
theorem Byt.only {w w' : World} {T S : Nat → Prop} {v : Value} {bs : List UInt8} (h : Byt w T v bs) (ho : Only S w w') (hd : ∀ i, i < w.heap.size → T i → ¬ S i) : Byt w' T v bs :=
  h.keep ho.size fun i hi hT => ho.block i hi (hd i hi hT)
theorem info5 : (Tryz.prog.info? 5).map (fun i => (i.zero, i.size, i.bytes)) = some (some (.int .u8 0), 1, 1) := by kernel_rfl
theorem run_append_byt (w : World) (base : Nat) (ty : TypeId) (v0 src : Value) (S : Nat → Prop) (bs : List UInt8) (hown : w.ownsRow base 5 1 v0 0 []) (h : Byt w S src bs) (hbase : base ≤ w.heap.size) :
    ∃ v' w', (Builtin.append_ #[35, 35] ty #[v0, src]).run Tryz.prog w = .ok v' w' ∧ w'.ownsRow base 5 1 v' bs.length (bs.map bcell) ∧ w.grownBy w' v0.ownBlock := by
  obtain ⟨i0, hi, hz0, hz1, hz2⟩ := info_parts info5
  obtain ⟨A, c, rfl, h1, h2, h3, hr⟩ := h
  rcases A with _ | ad
  · have hm : bs.length = 0 := by
      rcases Nat.eq_zero_or_pos bs.length with h0 | h0
      · exact h0
      · obtain ⟨b, o, h, _⟩ := hr.2 h0
        cases h
    have : bs = [] := List.eq_nil_of_length_eq_zero hm
    subst this
    refine ⟨v0, w, ?_, by simpa using hown, World.grownBy.refl w _⟩
    rcases hown.2 with ⟨rfl, _⟩ | ⟨g, cap, cur, rfl, _, _, hnc, _⟩
    · simp [Builtin.append_, run_underlying Tryz.underlying35, sizeOf, typeInfo, hi, Builtin.lenOf, Builtin.firstCells]
    · simp [Builtin.append_, run_underlying Tryz.underlying35, sizeOf, typeInfo, hi, Builtin.lenOf, Builtin.firstCells, hnc, storeCells]
  · obtain ⟨v', w', e1, e2, e3, _, _⟩ := run_append_own_at (P := Tryz.prog) w base 35 ty 5 i0 (.int .u8 0) 1 1 Tryz.underlying35 hi hz0 hz1 hz2 rfl (by decide) v0 0 [] hown ad bs.length c (bs.map bcell) (by simp)
      (fun j u hu => by
        rcases Nat.eq_zero_or_pos bs.length with h0 | h0
        · have : bs = [] := List.eq_nil_of_length_eq_zero h0
          subst this
          simp at hu
        · obtain ⟨b, o, e, _, _, hc⟩ := hr.2 h0
          obtain rfl := Option.some.inj e
          rw [Addr.add_lit]
          exact hc j u hu) (by simp [Value.oneCell', bcell]) (by unfold maxLen; omega) (by omega) hbase
    exact ⟨v', w', e1, by simpa using e2, e3⟩
theorem wpList_append_byt {w : World} {ops : Array Oper} {rest : List Oper} {o : Oper} {a : Act} {Q : Exit → Act → World → Prop} (hgd : o.guard = none) (s x : Operand)
    (ho : o.op = .call { callee := .builtin .append, args := #[s, x], argTypes := #[35, 35] }) (base : Nat) (v0 src : Value) (hs : a.eval s = v0) (hx : a.eval x = src)
    (S : Nat → Prop) (bs : List UInt8) (hown : w.ownsRow base 5 1 v0 0 []) (h : Byt w S src bs) (hbase : base ≤ w.heap.size)
    (hK : ∀ v' w', w'.ownsRow base 5 1 v' bs.length (bs.map bcell) → w.grownBy w' v0.ownBlock → wpList Tryz.prog ops Q rest (a.put o.dst v') w') : wpList Tryz.prog ops Q (o :: rest) a w :=
  wpList_plain hgd fun _ hk => by
    obtain ⟨v', w', hrun, h2, h3⟩ := run_append_byt w base o.type v0 src S bs hown h hbase
    unfold Oper.wp execOp
    simp only [ho, resolve, invoke, builtin, Sem.run_bind, Sem.run_pure, Result.andThen_ok, List.map_toArray, List.map_cons, List.map_nil, hs, hx, hrun]
    exact hk _ _ (hK v' w' h2 h3)
theorem lit0 (w : World) : (w.alloc (.cells #[] 5)).ownsRow w.heap.size 5 1 (.slice (some ⟨w.heap.size, 0, none⟩) 0 0) 0 [] := by
  simpa using World.ownsRow_lit (base := w.heap.size) (e := 5) (size := 1) w #[] 0 (Nat.le_refl _) (by unfold maxLen; omega) (by simp)
theorem own_below {w w' : World} {base : Nat} {e : TypeId} {size n : Nat} {v : Value} {xs : List Value} (h : w.ownsRow base e size v n xs) (hb : Below w.heap.size w w') : w'.ownsRow base e size v n xs := by
  rcases h.2 with ⟨rfl, h0⟩ | ⟨g, cap, cur, rfl, hbg, hh, r⟩
  · exact ⟨h.1, .inl ⟨rfl, h0⟩⟩
  · have hlt : g < w.heap.size := by
      rcases Nat.lt_or_ge g w.heap.size with h1 | h1
      · exact h1
      · rw [Array.getElem?_eq_none h1] at hh; cases hh
    exact ⟨h.1, .inr ⟨g, cap, cur, rfl, hbg, (hb.block g hlt).trans hh, r⟩⟩
theorem take_snoc {α : Type} {l : List α} {k : Nat} {e : α} (h : l[k]? = some e) : l.take (k + 1) = l.take k ++ [e] := by
  rw [List.take_add_one, h]; rfl
theorem Byt.monoLt {w : World} {S S' : Nat → Prop} {v : Value} {bs : List UInt8} (h : Byt w S v bs) (hS : ∀ i, i < w.heap.size → S i → S' i) : Byt w S' v bs := by
  obtain ⟨A, c, e, h1, h2, h3, h4, h5⟩ := h
  refine ⟨A, c, e, h1, h2, h3, h4, fun hn => ?_⟩
  obtain ⟨b, o, e, hb, hlt, hc⟩ := h5 hn
  exact ⟨b, o, e, hS b hlt hb, hlt, hc⟩
theorem own_form {w : World} {base : Nat} {e : TypeId} {size n : Nat} {v : Value} {xs : List Value} (h : w.ownsRow base e size v n xs) : ∃ A c, v = .slice A n c := by
  rcases h.2 with ⟨rfl, rfl⟩ | ⟨g, cap, cur, rfl, _⟩
  · exact ⟨_, _, rfl⟩
  · exact ⟨_, _, rfl⟩
theorem own_pos {w : World} {base : Nat} {e : TypeId} {size n : Nat} {v : Value} {xs : List Value} (h : w.ownsRow base e size v n xs) (hn : 0 < n) :
    ∃ g c, v = .slice (some ⟨g, 0, none⟩) n c ∧ base ≤ g ∧ g < w.heap.size ∧ n ≤ c ∧ c ≤ 9223372036854775807 := by
  rcases h.2 with ⟨rfl, h0⟩ | ⟨g, cap, cur, rfl, hb, hh, hc, hm, _⟩
  · omega
  · refine ⟨g, cap, rfl, hb, ?_, hc, by unfold maxLen at hm; omega⟩
    rcases Nat.lt_or_ge g w.heap.size with h1 | h1
    · exact h1
    · rw [Array.getElem?_eq_none h1] at hh; cases hh
theorem own_only {w w' : World} {base : Nat} {e : TypeId} {size n : Nat} {v : Value} {xs : List Value} {S : Nat → Prop} (h : w.ownsRow base e size v n xs) (hb : Only S w w') (hv : ∀ g, v.ownBlock = some g → ¬ S g) : w'.ownsRow base e size v n xs := by
  rcases h.2 with ⟨rfl, h0⟩ | ⟨g, cap, cur, rfl, hbg, hh, r⟩
  · exact ⟨h.1, .inl ⟨rfl, h0⟩⟩
  · have hlt : g < w.heap.size := by
      rcases Nat.lt_or_ge g w.heap.size with h1 | h1
      · exact h1
      · rw [Array.getElem?_eq_none h1] at hh; cases hh
    exact ⟨h.1, .inr ⟨g, cap, cur, rfl, hbg, (hb.block g hlt (hv g rfl)).trans hh, r⟩⟩
theorem only_set (w : World) (g j : Nat) (u : Value) : Only (fun i => i = g) w (w.setCell ⟨g, j, none⟩ u) := Only.setCell (S := fun i => i = g) (Only.refl _ _) (p := ⟨g, j, none⟩) rfl u
theorem Only.of_grown {w w' : World} {g : Option Nat} (h : w.grownBy w' g) : Only (fun i => g = some i) w w' :=
  ⟨h.os, h.tape, h.output, h.size, fun i hi hS => h.block i hi (fun e => hS e.symm)⟩
def Loose (w : World) (i : Nat) : Prop := ∃ cs, w.heap[i]? = some (.cells cs 5 (0, 0))
theorem Loose.lt {w : World} {i : Nat} (h : Loose w i) : i < w.heap.size := by
  obtain ⟨cs, h⟩ := h
  exact (Array.getElem?_eq_some_iff.1 h).1
theorem Loose.of_eq {w w' : World} {i : Nat} (h : Loose w i) (e : w'.heap[i]? = w.heap[i]?) : Loose w' i := by
  obtain ⟨cs, h⟩ := h
  exact ⟨cs, e.trans h⟩
theorem Loose.below {w w' : World} {i : Nat} (h : Loose w i) (hb : Below w.heap.size w w') : Loose w' i := h.of_eq (hb.block i h.lt)
theorem Loose.alloc {w : World} {i : Nat} (h : Loose w i) (o : Obj) : Loose (w.alloc o) i := h.below ((Below.refl _ _).alloc (Nat.le_refl _) _)
theorem Loose.grown {w w' : World} {i : Nat} {g : Option Nat} (h : Loose w i) (hg : w.grownBy w' g) (hn : g ≠ some i) : Loose w' i := h.of_eq (hg.block i h.lt (fun e => hn e.symm))
theorem Loose.only {w w' : World} {S : Nat → Prop} {i : Nat} (h : Loose w i) (ho : Only S w w') (hn : ¬ S i) : Loose w' i := h.of_eq (ho.block i h.lt hn)
def BytL (w : World) (lo : Nat) (v : Value) (bs : List UInt8) : Prop := Byt w (fun i => lo ≤ i ∧ Loose w i) v bs
theorem BytL.byt {w : World} {lo : Nat} {v : Value} {bs : List UInt8} (h : BytL w lo v bs) : Byt w (fun i => lo ≤ i) v bs := Byt.mono (S := fun i => lo ≤ i ∧ Loose w i) h fun _ hi => hi.1
theorem BytL.mono {w : World} {lo lo' : Nat} {v : Value} {bs : List UInt8} (h : BytL w lo v bs) (hl : lo' ≤ lo) : BytL w lo' v bs := Byt.mono (S := fun i => lo ≤ i ∧ Loose w i) h fun _ hi => ⟨by omega, hi.2⟩
theorem BytL.nil (w : World) (lo : Nat) : BytL w lo (.slice none 0 0) [] := Byt.nil _ _
theorem BytL.of_own {w : World} {base : Nat} {v : Value} {bs : List UInt8} (h : w.ownsRow base 5 1 v bs.length (bs.map bcell)) (hl : bs.length ≤ 140737488355328) : BytL w base v bs := by
  rcases h.2 with ⟨rfl, h0⟩ | ⟨g, cap, cur, rfl, hbg, hh, hcap, hcm, _⟩
  · have : bs = [] := List.eq_nil_of_length_eq_zero h0
    subst this
    exact BytL.nil _ _
  · have hlt : g < w.heap.size := (Array.getElem?_eq_some_iff.1 hh).1
    refine ⟨_, _, rfl, hcap, by unfold maxLen at hcm; omega, hl, by simp, fun _ => ⟨g, 0, rfl, ⟨hbg, _, hh⟩, hlt, fun j u hu => ?_⟩⟩
    have := h.cells (g := g) rfl j u hu
    rwa [Addr.add_lit] at this
theorem BytL.only {w w' : World} {lo : Nat} {v : Value} {bs : List UInt8} {S : Nat → Prop} (h : BytL w lo v bs) (ho : Only S w w') (hd : ∀ i, lo ≤ i → Loose w i → ¬ S i) : BytL w' lo v bs :=
  Byt.mono (S := fun i => lo ≤ i ∧ Loose w i) (Byt.only (T := fun i => lo ≤ i ∧ Loose w i) h ho fun i _ hi => hd i hi.1 hi.2) fun i hi => ⟨hi.1, hi.2.only ho (hd i hi.1 hi.2)⟩
theorem run_append_byt0L (w : World) (ty : TypeId) (g : Nat) (src : Value) (S : Nat → Prop) (bs : List UInt8) (h : Byt w S src bs) :
    ∃ v' w', (Builtin.append_ #[35, 35] ty #[.slice (some ⟨g, 0, none⟩) 0 0, src]).run Tryz.prog w = .ok v' w' ∧ BytL w' w.heap.size v' bs ∧ Below w.heap.size w w' := by
  obtain ⟨i0, hi, hz0, hz1, hz2⟩ := info_parts info5
  have hl := h.len
  obtain ⟨A, c, rfl, h1, h2, h3, hr⟩ := h
  rcases Nat.eq_zero_or_pos bs.length with h0 | h0
  · have : bs = [] := List.eq_nil_of_length_eq_zero h0
    subst this
    refine ⟨.slice (some ⟨g, 0, none⟩) 0 0, w, ?_, ⟨_, _, rfl, by simp, by simp, by simp, Row.nil _ _ _ _⟩, Below.refl _ _⟩
    rcases A with _ | a
    · simp [Builtin.append_, run_underlying Tryz.underlying35, sizeOf, typeInfo, hi, Builtin.lenOf, Builtin.firstCells, storeCells]
    · simp [Builtin.append_, run_underlying Tryz.underlying35, sizeOf, typeInfo, hi, Builtin.lenOf, Builtin.firstCells, storeCells, loadCells, loadCellsFrom]
  · obtain ⟨b, o, rfl, _, _, hc⟩ := hr.2 h0
    have hrun := run_append_grow (P := Tryz.prog) w 35 ty 5 i0 (.int .u8 0) Tryz.underlying35 hi hz0 ⟨g, 0, none⟩ 0 0 [] (by simp) (fun j u hu => by simp at hu) ⟨b, o, none⟩ bs.length c (bs.map bcell) (by simp [hz1])
      (fun j u hu => by rw [Addr.add_lit]; exact hc j u hu) (by omega) (by omega) (growslice_fits (by omega) (by rw [hz2]; omega))
    have hge := grownCap_ge w (0 + bs.length) 0 5
    have hcm : grownCap w (0 + bs.length) 0 5 ≤ maxLen := grownCap_le_maxLen w (0 + bs.length) 0 5 (by unfold maxLen; omega)
    refine ⟨_, _, hrun, ?_, ((Below.refl w.heap.size w).drew).alloc (by simp) _⟩
    have e0 : 0 + bs.length = bs.length := by omega
    rw [e0] at hge hcm ⊢
    refine ⟨_, _, rfl, hge, by unfold maxLen at hcm; omega, hl, by simp, fun _ => ⟨w.heap.size, 0, rfl, ⟨Nat.le_refl _, _, heap_alloc_new w.drew _⟩, by simp, fun j u hu => ?_⟩⟩
    rw [World.cell?_alloc_at _ _ _ _ (by simp)]
    have hj : j < bs.length := by
      have := (List.getElem?_eq_some_iff.1 hu).1
      simpa using this
    simp [Array.getElem?_append, hj]
    rw [List.getElem?_map, List.getElem?_eq_getElem hj] at hu
    simpa using hu
theorem bcloneL_any (S : Nat → Prop) (v : Value) (bs : List UInt8) (w : World) (h : Byt w S v bs) :
    Calls Tryz.prog 89 #[v] w fun r w' => ∃ v', r = .returned v' ∧ BytL w' w.heap.size v' bs ∧ Below w.heap.size w w' := by
  have hl := h.len
  have h' := Lib.hid h
  obtain ⟨A, c, rfl, _⟩ := h
  have q22 : ∀ (w : World) (a : Option Addr) (n c n' c' : Nat), (binOp .eql 35 (.slice a n c) (.slice none n' c')).run Tryz.prog w = .ok (.bool a.isNone) w := fun w a n c n' c' => Lib.run_eql_slice_nil w _ _ a n c n' c' Tryz.underlying35
  rcases A with _ | ad
  · have h0 : bs = [] := by
      obtain ⟨A, c', e, _, _, _, hr⟩ := h'.out
      rcases Nat.eq_zero_or_pos bs.length with h0 | h0
      · exact List.eq_nil_of_length_eq_zero h0
      · injection e with e1 _ _
        subst e1
        obtain ⟨b, o, h, _⟩ := hr.2 h0
        cases h
    subst h0
    go_enter Tryz.func89, Tryz.ntmps89
    go_wp2
    go_ret
    exact ⟨_, rfl, BytL.nil _ _, Below.refl _ _⟩
  · have hb1 := (Below.refl w.heap.size w).alloc (Nat.le_refl _) (.cells #[] 5)
    have HB := Lib.hid hb1
    clear hb1
    go_enter Tryz.func89, Tryz.ntmps89
    go_wp2_with (at_builtin; refine wpList_append_byt rfl _ _ rfl w.heap.size _ _ rfl rfl S bs (lit0 w) (h'.out.below HB.out) HB.out.size ?_; intro v' w1 hown hgrow)
    go_ret
    exact ⟨_, rfl, BytL.of_own hown hl, HB.out.grown hgrow HB.out.size (fun j e => by cases e; exact Nat.le_refl _)⟩
section
variable {w : World} {b k : Nat} {t : TypeId}
end
theorem infoI : (Tryz.prog.info? 3).map (fun i => (i.zero, i.size, i.bytes)) = some (some (.int .i64 0), 1, 8) := by kernel_rfl
theorem run_append_ints (w : World) (base : Nat) (ty : TypeId) (v0 src : Value) (S : Nat → Prop) (zs : List Int) (hown : w.ownsRow base 3 1 v0 0 []) (h : IntsIn w S src zs) (h8 : zs.length * 8 ≤ 140737488355328) (hbase : base ≤ w.heap.size) :
    ∃ v' w', (Builtin.append_ #[26, 26] ty #[v0, src]).run Tryz.prog w = .ok v' w' ∧ w'.ownsRow base 3 1 v' zs.length (zs.map (Value.int .i64)) ∧ w.grownBy w' v0.ownBlock := by
  obtain ⟨i0, hi, hz0, hz1, hz2⟩ := info_parts infoI
  obtain ⟨A, c, rfl, h1, h2, hr⟩ := h
  rcases A with _ | ad
  · have hm : zs.length = 0 := by
      rcases Nat.eq_zero_or_pos zs.length with h0 | h0
      · exact h0
      · obtain ⟨b, o, h, _⟩ := hr.2 h0
        cases h
    have : zs = [] := List.eq_nil_of_length_eq_zero hm
    subst this
    refine ⟨v0, w, ?_, by simpa using hown, World.grownBy.refl w _⟩
    rcases hown.2 with ⟨rfl, _⟩ | ⟨g, cap, cur, rfl, _, _, hnc, _⟩
    · simp [Builtin.append_, run_underlying Tryz.underlying26, sizeOf, typeInfo, hi, Builtin.lenOf, Builtin.firstCells]
    · simp [Builtin.append_, run_underlying Tryz.underlying26, sizeOf, typeInfo, hi, Builtin.lenOf, Builtin.firstCells, hnc, storeCells]
  · obtain ⟨v', w', e1, e2, e3, _, _⟩ := run_append_own_at (P := Tryz.prog) w base 26 ty 3 i0 (.int .i64 0) 1 8 Tryz.underlying26 hi hz0 hz1 hz2 rfl (by decide) v0 0 [] hown ad zs.length c (zs.map (Value.int .i64)) (by simp)
      (fun j u hu => by
        rcases Nat.eq_zero_or_pos zs.length with h0 | h0
        · have : zs = [] := List.eq_nil_of_length_eq_zero h0
          subst this
          simp at hu
        · obtain ⟨b, o, e, _, _, hc⟩ := hr.2 h0
          obtain rfl := Option.some.inj e
          rw [Addr.add_lit]
          exact hc j u hu) (by simp [Value.oneCell']) (by unfold maxLen; omega) (by omega) hbase
    exact ⟨v', w', e1, by simpa using e2, e3⟩
theorem wpList_append_ints {w : World} {ops : Array Oper} {rest : List Oper} {o : Oper} {a : Act} {Q : Exit → Act → World → Prop} (hgd : o.guard = none) (s x : Operand)
    (ho : o.op = .call { callee := .builtin .append, args := #[s, x], argTypes := #[26, 26] }) (base : Nat) (v0 src : Value) (hs : a.eval s = v0) (hx : a.eval x = src)
    (S : Nat → Prop) (zs : List Int) (hown : w.ownsRow base 3 1 v0 0 []) (h : IntsIn w S src zs) (h8 : zs.length * 8 ≤ 140737488355328) (hbase : base ≤ w.heap.size)
    (hK : ∀ v' w', w'.ownsRow base 3 1 v' zs.length (zs.map (Value.int .i64)) → w.grownBy w' v0.ownBlock → wpList Tryz.prog ops Q rest (a.put o.dst v') w') : wpList Tryz.prog ops Q (o :: rest) a w :=
  wpList_plain hgd fun _ hk => by
    obtain ⟨v', w', hrun, h2, h3⟩ := run_append_ints w base o.type v0 src S zs hown h h8 hbase
    unfold Oper.wp execOp
    simp only [ho, resolve, invoke, builtin, Sem.run_bind, Sem.run_pure, Result.andThen_ok, List.map_toArray, List.map_cons, List.map_nil, hs, hx, hrun]
    exact hk _ _ (hK v' w' h2 h3)
theorem lit0i (w : World) : (w.alloc (.cells #[] 3)).ownsRow w.heap.size 3 1 (.slice (some ⟨w.heap.size, 0, none⟩) 0 0) 0 [] := by
  simpa using World.ownsRow_lit (base := w.heap.size) (e := 3) (size := 1) w #[] 0 (Nat.le_refl _) (by unfold maxLen; omega) (by simp)
def fr (W w' : World) : Prop := Below W.heap.size W w'
section
variable {W w' w2 : World}
theorem fr.refl : fr W W := Below.refl _ _
theorem fr.drew (h : fr W w') : fr W w'.drew := Below.drew h
theorem fr.step (h : fr W w') (hb : Below w'.heap.size w' w2) : fr W w2 := Below.trans h (hb.mono (Below.size h))
theorem fr.alloc (h : fr W w') (o : Obj) : fr W (w'.alloc o) := h.step ((Below.refl _ _).alloc (Nat.le_refl _) _)
theorem fr.cell (h : fr W w') {p : Addr} {v : Value} (hc : W.cell? p = some v) : w'.cell? p = some v := (Below.cell h (World.block_lt_of_cell? W p hc)).trans hc
end
structure Ext (W : World) where
  w : World
  h : fr W w
instance {W : World} : Nonempty (Ext W) := ⟨⟨W, fr.refl⟩⟩
theorem Ext.cell {W : World} {p : Addr} {v : Value} (hc : W.cell? p = some v) (q : Ext W) : q.w.cell? p = some v := q.h.cell hc
theorem wp_region_quiet_ext {P : Program} {id : Nat} {Q : Exit → Act → World → Prop} {a : Act} {w : World} {l : List Oper} (hm : P.follows .mixedOrders = true) (hB : Region.lexB .any l.toArray = true)
    (h : wpQuiet P l.toArray (fun w' => ∃ p : Ext w, w' = p.w) (fun a' => ∀ w', (∃ p : Ext w, w' = p.w) → Q .normal a' w') l a) : (Code.region id l.toArray true).wp P Q a w :=
  wp_region_quiet (C := fun w' => ∃ p : Ext w, w' = p.w) hm hB ⟨⟨w.drew, fr.refl.drew⟩, rfl⟩ (by simpa using h)
theorem Ext.calls {P : Program} {f : FuncId} {args : Array Value} {W : World} {p : Ext W} {v : Value}
    (h : Calls P f args p.w fun e w' => e = .returned v ∧ Below p.w.heap.size p.w w') : Calls P f args p.w fun e w'' => e = .returned v ∧ ∃ q : Ext W, w'' = q.w :=
  h.mono fun _ _ ⟨he, hb⟩ => ⟨he, ⟨_, p.h.step hb⟩, rfl⟩
end Go.Proofs.YtjnolpfmchnnmaaGreatDoor
end
section
namespace Go.Proofs
open Go.Shelf
def Tryz.lays210_ren : Go.Shelf.Ren := ⟨fun | 210 => 144 | 206 => 205 | n => n, fun | 9 => 9 | 4 => 4 | 3 => 3 | n => n, fun | n => n⟩
def Tryz.lays103_ren : Go.Shelf.Ren := ⟨fun | 103 => 87 | 210 => 144 | 206 => 205 | n => n, fun | 9 => 9 | 4 => 4 | 24 => 155 | 3 => 3 | n => n, fun | n => n⟩
theorem Tryz.lays103 : Go.Proofs.Lays.n103 Tryz.prog Tryz.lays103_ren := {
  mixed := by kernel_rfl
  f103 := Tryz.func87.trans (congrArg some (by kernel_rfl))
  f206 := Tryz.func205.trans (congrArg some (by kernel_rfl))
  f210 := Tryz.func144.trans (congrArg some (by kernel_rfl))
  t3 := Tryz.underlying3
  a3 := Tryz.isAgg3
  z3 := Tryz.sizeOf3
  v3 := Tryz.zeroValue3
  t4 := Tryz.underlying4
  a4 := Tryz.isAgg4
  z4 := Tryz.sizeOf4
  v4 := Tryz.zeroValue4
  t9 := Tryz.underlying9
  a9 := Tryz.isAgg9
  z9 := Tryz.sizeOf9
  v9 := Tryz.zeroValue9
  t24 := Tryz.underlying155
  a24 := Tryz.isAgg155
  z24 := Tryz.sizeOf155
  v24 := Tryz.zeroValue155 }
open Go.RowKit in
theorem Tryz.strings_CutPrefix (s p : ByteArray) (w : World) :
    Calls Tryz.prog 87 #[.string s, .string p] w fun e w' => e = .returned (.tuple #[.string ⟨(Lib.trimPrefix s.data.toList p.data.toList).toArray⟩, .bool (Lib.hasPrefix s.data.toList p.data.toList)]) ∧ w' = w := Any.strings_CutPrefix Tryz.lays103 s p w
def Tryz.lays104_ren : Go.Shelf.Ren := ⟨fun | 104 => 88 | 211 => 145 | 207 => 206 | n => n, fun | 9 => 9 | 4 => 4 | 24 => 155 | 3 => 3 | n => n, fun | n => n⟩
theorem Tryz.lays104 : Go.Proofs.Lays.n104 Tryz.prog Tryz.lays104_ren := {
  mixed := by kernel_rfl
  f104 := Tryz.func88.trans (congrArg some (by kernel_rfl))
  f207 := Tryz.func206.trans (congrArg some (by kernel_rfl))
  f211 := Tryz.func145.trans (congrArg some (by kernel_rfl))
  t3 := Tryz.underlying3
  a3 := Tryz.isAgg3
  z3 := Tryz.sizeOf3
  v3 := Tryz.zeroValue3
  t4 := Tryz.underlying4
  a4 := Tryz.isAgg4
  z4 := Tryz.sizeOf4
  v4 := Tryz.zeroValue4
  t9 := Tryz.underlying9
  a9 := Tryz.isAgg9
  z9 := Tryz.sizeOf9
  v9 := Tryz.zeroValue9
  t24 := Tryz.underlying155
  a24 := Tryz.isAgg155
  z24 := Tryz.sizeOf155
  v24 := Tryz.zeroValue155 }
open Go.RowKit in
theorem Tryz.strings_CutSuffix (s p : ByteArray) (w : World) (hs : s.size ≤ 9223372036854775807) :
    Calls Tryz.prog 88 #[.string s, .string p] w fun e w' => e = .returned (.tuple #[.string ⟨(Lib.trimSuffix s.data.toList p.data.toList).toArray⟩, .bool (Lib.hasSuffix s.data.toList p.data.toList)]) ∧ w' = w := Any.strings_CutSuffix Tryz.lays104 s p w hs
def Tryz.lays172_ren : Go.Shelf.Ren := ⟨fun | 172 => 76 | 244 => 129 | 245 => 130 | 247 => 197 | 279 => 198 | 280 => 199 | 281 => 200 | 282 => 201 | 287 => 240 | 316 => 241 | 171 => 119 | 205 => 242 | 321 => 274 | 322 => 275 | 243 => 190 | 246 => 236 | 283 => 269 | 284 => 270 | 285 => 271 | 286 => 272 | 129 => 263 | 317 => 294 | 318 => 295 | 319 => 296 | 320 => 297 | 337 => 307 | 338 => 308 | n => n, fun | 9 => 9 | 3 => 3 | 75 => 141 | 76 => 142 | 4 => 4 | 5 => 5 | 167 => 285 | 37 => 35 | 0 => 0 | 85 => 286 | 2 => 2 | 168 => 288 | 53 => 240 | 175 => 322 | 46 => 34 | 210 => 326 | 127 => 357 | 145 => 360 | 143 => 358 | 21 => 21 | 171 => 352 | 173 => 354 | 212 => 380 | 51 => 209 | 20 => 20 | 213 => 381 | 232 => 394 | 233 => 395 | 80 => 396 | n => n, fun | 15 => 1 | 16 => 2 | 17 => 3 | 18 => 4 | 19 => 5 | n => n⟩
theorem Tryz.lays172 : Go.Proofs.Lays.n172 Tryz.prog Tryz.lays172_ren := {
  mixed := by kernel_rfl
  f129 := Tryz.func263.trans (congrArg some (by kernel_rfl))
  f171 := Tryz.func119.trans (congrArg some (by kernel_rfl))
  f172 := Tryz.func76.trans (congrArg some (by kernel_rfl))
  f205 := Tryz.func242.trans (congrArg some (by kernel_rfl))
  f243 := Tryz.func190.trans (congrArg some (by kernel_rfl))
  f244 := Tryz.func129.trans (congrArg some (by kernel_rfl))
  f245 := Tryz.func130.trans (congrArg some (by kernel_rfl))
  f246 := Tryz.func236.trans (congrArg some (by kernel_rfl))
  f247 := Tryz.func197.trans (congrArg some (by kernel_rfl))
  f279 := Tryz.func198.trans (congrArg some (by kernel_rfl))
  f280 := Tryz.func199.trans (congrArg some (by kernel_rfl))
  f281 := Tryz.func200.trans (congrArg some (by kernel_rfl))
  f282 := Tryz.func201.trans (congrArg some (by kernel_rfl))
  f283 := Tryz.func269.trans (congrArg some (by kernel_rfl))
  f284 := Tryz.func270.trans (congrArg some (by kernel_rfl))
  f285 := Tryz.func271.trans (congrArg some (by kernel_rfl))
  f286 := Tryz.func272.trans (congrArg some (by kernel_rfl))
  f287 := Tryz.func240.trans (congrArg some (by kernel_rfl))
  f316 := Tryz.func241.trans (congrArg some (by kernel_rfl))
  f317 := Tryz.func294.trans (congrArg some (by kernel_rfl))
  f318 := Tryz.func295.trans (congrArg some (by kernel_rfl))
  f319 := Tryz.func296.trans (congrArg some (by kernel_rfl))
  f320 := Tryz.func297.trans (congrArg some (by kernel_rfl))
  f321 := Tryz.func274.trans (congrArg some (by kernel_rfl))
  f322 := Tryz.func275.trans (congrArg some (by kernel_rfl))
  f337 := Tryz.func307.trans (congrArg some (by kernel_rfl))
  f338 := Tryz.func308.trans (congrArg some (by kernel_rfl))
  t0 := Tryz.underlying0
  a0 := Tryz.isAgg0
  z0 := Tryz.sizeOf0
  v0 := Tryz.zeroValue0
  t2 := Tryz.underlying2
  a2 := Tryz.isAgg2
  z2 := Tryz.sizeOf2
  v2 := Tryz.zeroValue2
  t3 := Tryz.underlying3
  a3 := Tryz.isAgg3
  z3 := Tryz.sizeOf3
  v3 := Tryz.zeroValue3
  t4 := Tryz.underlying4
  a4 := Tryz.isAgg4
  z4 := Tryz.sizeOf4
  v4 := Tryz.zeroValue4
  t5 := Tryz.underlying5
  a5 := Tryz.isAgg5
  z5 := Tryz.sizeOf5
  v5 := Tryz.zeroValue5
  t9 := Tryz.underlying9
  a9 := Tryz.isAgg9
  z9 := Tryz.sizeOf9
  v9 := Tryz.zeroValue9
  t20 := Tryz.underlying20
  a20 := Tryz.isAgg20
  z20 := Tryz.sizeOf20
  v20 := Tryz.zeroValue20
  t21 := Tryz.underlying21
  a21 := Tryz.isAgg21
  z21 := Tryz.sizeOf21
  v21 := Tryz.zeroValue21
  t37 := Tryz.underlying35
  a37 := Tryz.isAgg35
  z37 := Tryz.sizeOf35
  v37 := Tryz.zeroValue35
  t46 := Tryz.underlying34
  a46 := Tryz.isAgg34
  z46 := Tryz.sizeOf34
  v46 := Tryz.zeroValue34
  t51 := Tryz.underlying209
  a51 := Tryz.isAgg209
  z51 := Tryz.sizeOf209
  v51 := Tryz.zeroValue209
  t53 := Tryz.underlying240
  a53 := Tryz.isAgg240
  z53 := Tryz.sizeOf240
  v53 := Tryz.zeroValue240
  t75 := Tryz.underlying141
  a75 := Tryz.isAgg141
  z75 := Tryz.sizeOf141
  v75 := Tryz.zeroValue141
  t76 := Tryz.underlying142
  a76 := Tryz.isAgg142
  z76 := Tryz.sizeOf142
  v76 := Tryz.zeroValue142
  t85 := Tryz.underlying286
  a85 := Tryz.isAgg286
  z85 := Tryz.sizeOf286
  v85 := Tryz.zeroValue286
  t127 := Tryz.underlying357
  a127 := Tryz.isAgg357
  z127 := Tryz.sizeOf357
  v127 := Tryz.zeroValue357
  t143 := Tryz.underlying358
  a143 := Tryz.isAgg358
  z143 := Tryz.sizeOf358
  v143 := Tryz.zeroValue358
  t145 := Tryz.underlying360
  a145 := Tryz.isAgg360
  z145 := Tryz.sizeOf360
  v145 := Tryz.zeroValue360
  t167 := Tryz.underlying285
  a167 := Tryz.isAgg285
  z167 := Tryz.sizeOf285
  v167 := Tryz.zeroValue285
  t168 := Tryz.underlying288
  a168 := Tryz.isAgg288
  z168 := Tryz.sizeOf288
  v168 := Tryz.zeroValue288
  t171 := Tryz.underlying352
  a171 := Tryz.isAgg352
  z171 := Tryz.sizeOf352
  v171 := Tryz.zeroValue352
  t173 := Tryz.underlying354
  a173 := Tryz.isAgg354
  z173 := Tryz.sizeOf354
  v173 := Tryz.zeroValue354
  t175 := Tryz.underlying322
  a175 := Tryz.isAgg322
  z175 := Tryz.sizeOf322
  v175 := Tryz.zeroValue322
  t210 := Tryz.underlying326
  a210 := Tryz.isAgg326
  z210 := Tryz.sizeOf326
  v210 := Tryz.zeroValue326
  t212 := Tryz.underlying380
  a212 := Tryz.isAgg380
  z212 := Tryz.sizeOf380
  v212 := Tryz.zeroValue380
  t213 := Tryz.underlying381
  a213 := Tryz.isAgg381
  z213 := Tryz.sizeOf381
  t232 := Tryz.underlying394
  a232 := Tryz.isAgg394
  z232 := Tryz.sizeOf394
  v232 := Tryz.zeroValue394
  t233 := Tryz.underlying395
  a233 := Tryz.isAgg395
  z233 := Tryz.sizeOf395
  v233 := Tryz.zeroValue395
  g15 := by kernel_rfl
  g16 := by kernel_rfl
  g17 := by kernel_rfl
  g18 := by kernel_rfl
  g19 := by kernel_rfl }
open Go.RowKit in
theorem Tryz.strconv_Atoi (s : ByteArray) (n : Int) (hl : s.size ≤ 18) (h : Lib.atoi s.data.toList = some n) (w : World) :
    Calls Tryz.prog 76 #[.string s] w fun e w' => e = .returned (.tuple #[.int .i64 n, .nilIface]) ∧ ∃ t, w' = Lib.bytesWorld w 5 t := Any.strconv_Atoi Tryz.lays172 s n hl h w
def Tryz.laysM246_ren : Go.Shelf.Ren := ⟨fun | 246 => 236 | 283 => 269 | 284 => 270 | 285 => 271 | 286 => 272 | 129 => 263 | 317 => 294 | 318 => 295 | 319 => 296 | 320 => 297 | 337 => 307 | 338 => 308 | n => n, fun | 2 => 2 | 3 => 3 | 9 => 9 | 4 => 4 | 171 => 352 | 0 => 0 | 53 => 240 | 37 => 35 | 5 => 5 | 173 => 354 | 212 => 380 | 51 => 209 | 20 => 20 | 213 => 381 | 46 => 34 | 232 => 394 | 233 => 395 | n => n, fun | 17 => 3 | 18 => 4 | 19 => 5 | n => n⟩
def Tryz.laysM243_ren : Go.Shelf.Ren := ⟨fun | 243 => 190 | 246 => 236 | 283 => 269 | 284 => 270 | 285 => 271 | 286 => 272 | 129 => 263 | 317 => 294 | 318 => 295 | 319 => 296 | 320 => 297 | 337 => 307 | 338 => 308 | n => n, fun | 3 => 3 | 9 => 9 | 2 => 2 | 4 => 4 | 171 => 352 | 0 => 0 | 53 => 240 | 37 => 35 | 5 => 5 | 173 => 354 | 212 => 380 | 51 => 209 | 20 => 20 | 213 => 381 | 46 => 34 | 232 => 394 | 233 => 395 | n => n, fun | 17 => 3 | 18 => 4 | 19 => 5 | n => n⟩
def Tryz.laysM171_ren : Go.Shelf.Ren := ⟨fun | 171 => 119 | 243 => 190 | 246 => 236 | 283 => 269 | 284 => 270 | 285 => 271 | 286 => 272 | 129 => 263 | 317 => 294 | 318 => 295 | 319 => 296 | 320 => 297 | 337 => 307 | 338 => 308 | n => n, fun | 3 => 3 | 9 => 9 | 2 => 2 | 4 => 4 | 171 => 352 | 0 => 0 | 53 => 240 | 37 => 35 | 5 => 5 | 173 => 354 | 212 => 380 | 51 => 209 | 20 => 20 | 213 => 381 | 46 => 34 | 232 => 394 | 233 => 395 | n => n, fun | 17 => 3 | 18 => 4 | 19 => 5 | n => n⟩
theorem Tryz.laysM171 : Go.Proofs.LaysM.n171 Tryz.prog Tryz.laysM171_ren := {
  mixed := by kernel_rfl
  f129 := Tryz.func263.trans (congrArg some (by kernel_rfl))
  f171 := Tryz.func119.trans (congrArg some (by kernel_rfl))
  f243 := Tryz.func190.trans (congrArg some (by kernel_rfl))
  f246 := Tryz.func236.trans (congrArg some (by kernel_rfl))
  f283 := Tryz.func269.trans (congrArg some (by kernel_rfl))
  f284 := Tryz.func270.trans (congrArg some (by kernel_rfl))
  f285 := Tryz.func271.trans (congrArg some (by kernel_rfl))
  f286 := Tryz.func272.trans (congrArg some (by kernel_rfl))
  f317 := Tryz.func294.trans (congrArg some (by kernel_rfl))
  f318 := Tryz.func295.trans (congrArg some (by kernel_rfl))
  f319 := Tryz.func296.trans (congrArg some (by kernel_rfl))
  f320 := Tryz.func297.trans (congrArg some (by kernel_rfl))
  f337 := Tryz.func307.trans (congrArg some (by kernel_rfl))
  f338 := Tryz.func308.trans (congrArg some (by kernel_rfl))
  t0 := Tryz.underlying0
  a0 := Tryz.isAgg0
  z0 := Tryz.sizeOf0
  v0 := Tryz.zeroValue0
  t2 := Tryz.underlying2
  a2 := Tryz.isAgg2
  z2 := Tryz.sizeOf2
  v2 := Tryz.zeroValue2
  t3 := Tryz.underlying3
  a3 := Tryz.isAgg3
  z3 := Tryz.sizeOf3
  v3 := Tryz.zeroValue3
  t4 := Tryz.underlying4
  a4 := Tryz.isAgg4
  z4 := Tryz.sizeOf4
  v4 := Tryz.zeroValue4
  t5 := Tryz.underlying5
  a5 := Tryz.isAgg5
  z5 := Tryz.sizeOf5
  v5 := Tryz.zeroValue5
  t9 := Tryz.underlying9
  a9 := Tryz.isAgg9
  z9 := Tryz.sizeOf9
  v9 := Tryz.zeroValue9
  t20 := Tryz.underlying20
  a20 := Tryz.isAgg20
  z20 := Tryz.sizeOf20
  v20 := Tryz.zeroValue20
  t37 := Tryz.underlying35
  a37 := Tryz.isAgg35
  z37 := Tryz.sizeOf35
  v37 := Tryz.zeroValue35
  t46 := Tryz.underlying34
  a46 := Tryz.isAgg34
  z46 := Tryz.sizeOf34
  v46 := Tryz.zeroValue34
  t51 := Tryz.underlying209
  a51 := Tryz.isAgg209
  z51 := Tryz.sizeOf209
  v51 := Tryz.zeroValue209
  t53 := Tryz.underlying240
  a53 := Tryz.isAgg240
  z53 := Tryz.sizeOf240
  v53 := Tryz.zeroValue240
  t171 := Tryz.underlying352
  a171 := Tryz.isAgg352
  z171 := Tryz.sizeOf352
  v171 := Tryz.zeroValue352
  t173 := Tryz.underlying354
  a173 := Tryz.isAgg354
  z173 := Tryz.sizeOf354
  v173 := Tryz.zeroValue354
  t212 := Tryz.underlying380
  a212 := Tryz.isAgg380
  z212 := Tryz.sizeOf380
  v212 := Tryz.zeroValue380
  t213 := Tryz.underlying381
  a213 := Tryz.isAgg381
  z213 := Tryz.sizeOf381
  t232 := Tryz.underlying394
  a232 := Tryz.isAgg394
  z232 := Tryz.sizeOf394
  v232 := Tryz.zeroValue394
  t233 := Tryz.underlying395
  a233 := Tryz.isAgg395
  z233 := Tryz.sizeOf395
  v233 := Tryz.zeroValue395
  g17 := by kernel_rfl
  g18 := by kernel_rfl
  g19 := by kernel_rfl
  i0 := by kernel_rfl
  i2 := by kernel_rfl
  i3 := by kernel_rfl
  i4 := by kernel_rfl
  i5 := by kernel_rfl
  i9 := by kernel_rfl
  i20 := by kernel_rfl
  i37 := by kernel_rfl
  i46 := by kernel_rfl
  i51 := by kernel_rfl
  i53 := by kernel_rfl
  i171 := by kernel_rfl
  i173 := by kernel_rfl
  i212 := by kernel_rfl
  i232 := by kernel_rfl
  i233 := by kernel_rfl
  m17 := by kernel_rfl
  m18 := by kernel_rfl
  m19 := by kernel_rfl }
open Go.RowKit Go.Sort Go.Lib in
theorem Tryz.strconv_Itoa (n : Int) (h0 : -9223372036854775808 ≤ n) (h1 : n ≤ 9223372036854775807) (w : World) (htab : Lib.TabIs Tryz.prog w "internal/strconv.uint64pow10" .u64 Lib.pow10Tab) :
    Calls Tryz.prog 119 #[.int .i64 n] w fun e w' => e = .returned (.string ⟨(Lib.itoa n).toArray⟩) ∧ ∃ k os, w' = grow (w.drewN k) os := Any.strconv_Itoa Tryz.laysM171 n h0 h1 w htab
def Tryz.laysGw17_ren : Go.Shelf.Ren := ⟨fun | 17 => 60 | 15 => 117 | 20 => 189 | n => n, fun | 9 => 9 | 23 => 119 | 4 => 4 | 3 => 3 | 0 => 0 | 21 => 21 | n => n, fun | n => n⟩
theorem Tryz.laysGw17 : Go.Proofs.LaysGw.n17 Tryz.prog Tryz.laysGw17_ren := {
  mixed := by kernel_rfl
  f15 := Tryz.func117.trans (congrArg some (by kernel_rfl))
  f17 := Tryz.func60.trans (congrArg some (by kernel_rfl))
  f20 := Tryz.func189.trans (congrArg some (by kernel_rfl))
  t0 := Tryz.underlying0
  a0 := Tryz.isAgg0
  z0 := Tryz.sizeOf0
  v0 := Tryz.zeroValue0
  i0 := by kernel_rfl
  t3 := Tryz.underlying3
  a3 := Tryz.isAgg3
  z3 := Tryz.sizeOf3
  v3 := Tryz.zeroValue3
  i3 := by kernel_rfl
  t4 := Tryz.underlying4
  a4 := Tryz.isAgg4
  z4 := Tryz.sizeOf4
  v4 := Tryz.zeroValue4
  i4 := by kernel_rfl
  t9 := Tryz.underlying9
  a9 := Tryz.isAgg9
  z9 := Tryz.sizeOf9
  v9 := Tryz.zeroValue9
  i9 := by kernel_rfl
  t21 := Tryz.underlying21
  a21 := Tryz.isAgg21
  z21 := Tryz.sizeOf21
  v21 := Tryz.zeroValue21
  i21 := by kernel_rfl
  t23 := Tryz.underlying119
  a23 := Tryz.isAgg119
  z23 := Tryz.sizeOf119
  v23 := Tryz.zeroValue119
  i23 := by kernel_rfl }
open Go.RowKit Go.Lib in
theorem Tryz.strings_ContainsFunc (g : Nat) (lb : Array Value) (eg : ∀ args w, (callFunc g args).run Tryz.prog w = .ok (.enter g args) w) (p : Nat → Bool) (s : ByteArray) (w : World) (hp : PredAt Tryz.prog g lb encR p w) :
    Calls Tryz.prog 60 #[.string s, .func (.func g) #[] lb] w fun e w' => e = .returned (.bool (decide (0 ≤ Lib.idxFunc p true s))) ∧ Below w.heap.size w w' := Any.strings_ContainsFunc Tryz.laysGw17 g lb eg p s w hp
def Tryz.lays99_ren : Go.Shelf.Ren := ⟨fun | 99 => 132 | 206 => 205 | n => n, fun | 9 => 9 | 4 => 4 | 3 => 3 | n => n, fun | n => n⟩
theorem Tryz.lays99 : Go.Proofs.Lays.n99 Tryz.prog Tryz.lays99_ren := {
  mixed := by kernel_rfl
  f99 := Tryz.func132.trans (congrArg some (by kernel_rfl))
  f206 := Tryz.func205.trans (congrArg some (by kernel_rfl))
  t3 := Tryz.underlying3
  a3 := Tryz.isAgg3
  z3 := Tryz.sizeOf3
  v3 := Tryz.zeroValue3
  t4 := Tryz.underlying4
  a4 := Tryz.isAgg4
  z4 := Tryz.sizeOf4
  v4 := Tryz.zeroValue4
  t9 := Tryz.underlying9
  a9 := Tryz.isAgg9
  z9 := Tryz.sizeOf9
  v9 := Tryz.zeroValue9 }
open Go.RowKit Go.Lib in
theorem Tryz.strings_HasPrefix (s p : ByteArray) (w : World) :
    Calls Tryz.prog 132 #[.string s, .string p] w fun e w' => e = .returned (.bool (Lib.hasPrefix s.data.toList p.data.toList)) ∧ w' = w := Any.strings_HasPrefix Tryz.lays99 s p w
def Tryz.lays100_ren : Go.Shelf.Ren := ⟨fun | 100 => 133 | 207 => 206 | n => n, fun | 9 => 9 | 4 => 4 | 3 => 3 | n => n, fun | n => n⟩
theorem Tryz.lays100 : Go.Proofs.Lays.n100 Tryz.prog Tryz.lays100_ren := {
  mixed := by kernel_rfl
  f100 := Tryz.func133.trans (congrArg some (by kernel_rfl))
  f207 := Tryz.func206.trans (congrArg some (by kernel_rfl))
  t3 := Tryz.underlying3
  a3 := Tryz.isAgg3
  z3 := Tryz.sizeOf3
  v3 := Tryz.zeroValue3
  t4 := Tryz.underlying4
  a4 := Tryz.isAgg4
  z4 := Tryz.sizeOf4
  v4 := Tryz.zeroValue4
  t9 := Tryz.underlying9
  a9 := Tryz.isAgg9
  z9 := Tryz.sizeOf9
  v9 := Tryz.zeroValue9 }
open Go.RowKit Go.Lib in
theorem Tryz.strings_HasSuffix (s p : ByteArray) (w : World) (hs : s.size ≤ 9223372036854775807) :
    Calls Tryz.prog 133 #[.string s, .string p] w fun e w' => e = .returned (.bool (Lib.hasSuffix s.data.toList p.data.toList)) ∧ w' = w := Any.strings_HasSuffix Tryz.lays100 s p w hs
def Tryz.laysNm215_ren : Go.Shelf.Ren := ⟨fun | 15 => 93 | n => n, fun | 22 => 26 | 3 => 3 | 4 => 4 | n => n, fun | n => n⟩
theorem Tryz.laysNm215 : Go.Proofs.Lays2.n15 Tryz.prog Tryz.laysNm215_ren := {
  mixed := by kernel_rfl
  f15 := Tryz.func93.trans (congrArg some (by kernel_rfl))
  t3 := Tryz.underlying3
  a3 := Tryz.isAgg3
  z3 := Tryz.sizeOf3
  v3 := Tryz.zeroValue3
  t4 := Tryz.underlying4
  a4 := Tryz.isAgg4
  z4 := Tryz.sizeOf4
  v4 := Tryz.zeroValue4
  t22 := Tryz.underlying26
  a22 := Tryz.isAgg26
  z22 := Tryz.sizeOf26
  v22 := Tryz.zeroValue26
  i3 := by kernel_rfl }
open Go.RowKit Go.Lib in
theorem Tryz.slices_Clone_int (b off n c : Nat) (zs : List Int) (w : World) (hz : n ≤ zs.length) (hbig : n * 8 ≤ 140737488355328) (hc : ∀ j, j < zs.length → w.cell? ⟨b, off + j, none⟩ = some (.int .i64 (zs.getD j 0))) :
    Calls Tryz.prog 93 #[.slice (some ⟨b, off, none⟩) n c] w fun e w' => ∃ v', e = .returned v' ∧ w'.ownsRow w.heap.size 3 1 v' n ((zs.take n).map (Value.int .i64)) ∧ v' ≠ .slice none 0 0 ∧ Below w.heap.size w w' := Any.slices_Clone_int Tryz.laysNm215 b off n c zs w hz hbig hc
open Go.RowKit Go.Lib in
theorem Tryz.slices_Clone_int_nil (n c : Nat) (w : World) :
    Calls Tryz.prog 93 #[.slice none n c] w fun e w' => e = .returned (.slice none 0 0) ∧ w' = w := Any.slices_Clone_int_nil Tryz.laysNm215 n c w
open Go.RowKit Go.Lib in
theorem Tryz.slices_Clone_int_zero (a : Addr) (c : Nat) (w : World) :
    Calls Tryz.prog 93 #[.slice (some a) 0 c] w fun e w' => ∃ v', e = .returned v' ∧ w'.ownsRow w.heap.size 3 1 v' 0 [] ∧ v' ≠ .slice none 0 0 ∧ Below w.heap.size w w' := Any.slices_Clone_int_zero Tryz.laysNm215 a c w
end Go.Proofs
end
section
namespace Go.Proofs.YtjnolpfmchnnmaaGreatDoor
set_option maxRecDepth 100000
open Go.RowKit Go.BigFrame Go.Sort Go.Shelf Go.Lib
attribute [local go_sem ↓] Go.wp_at_zero Go.wp_at_succ
def okByte (b : UInt8) : Bool := (decide (97 ≤ b.toNat) && decide (b.toNat ≤ 122)) || (decide (48 ≤ b.toNat) && decide (b.toNat ≤ 57)) || b.toNat == 46 || b.toNat == 45
def badRune (r : Nat) : Bool := !((decide (97 ≤ r) && decide (r ≤ 122)) || (decide (48 ≤ r) && decide (r ≤ 57)) || r == 46 || r == 45)
def nameB (s : List UInt8) : Bool := !s.isEmpty && decide (s.length ≤ 32) && s.all okByte
theorem badRune_high {r : Nat} (h : 128 ≤ r) : badRune r = true := by
  unfold badRune
  simp
  omega
theorem badRune_byte (b : UInt8) : badRune b.toNat = !okByte b := rfl
theorem idx_bad (l : List UInt8) : ∀ (f pos : Nat), l.length ≤ pos + f → (0 ≤ Lib.idxFuncFrom badRune true ⟨l.toArray⟩ f pos ↔ ∃ b ∈ l.drop pos, okByte b = false)
  | 0, pos, h => by
    rw [List.drop_eq_nil_of_le (by omega)]
    simp [Lib.idxFuncFrom]
  | f + 1, pos, h => by
    unfold Lib.idxFuncFrom
    by_cases hp : pos < l.length
    · have hs : pos < (⟨l.toArray⟩ : ByteArray).size := by rw [ba_size]; exact hp
      rw [if_pos hs]
      have hd : l.drop pos = l[pos] :: l.drop (pos + 1) := List.drop_eq_getElem_cons hp
      have hb : (⟨l.toArray⟩ : ByteArray)[pos]'hs = l[pos] := rfl
      by_cases ha : l[pos].toNat < 128
      · rw [decode_ascii _ _ hs (by rw [hb]; exact ha), hb]
        dsimp only
        by_cases ho : okByte l[pos] = true
        · have := idx_bad l f (pos + 1) (by omega)
          rw [if_neg (by rw [badRune_byte, ho]; simp), this, hd]
          refine ⟨fun ⟨b, h1, h2⟩ => ⟨b, List.mem_cons_of_mem _ h1, h2⟩, fun ⟨b, h1, h2⟩ => ?_⟩
          rcases List.mem_cons.1 h1 with rfl | h1
          · rw [ho] at h2; cases h2
          · exact ⟨b, h1, h2⟩
        · have ho' : okByte l[pos] = false := by simpa using ho
          rw [if_pos (by rw [badRune_byte, ho']; rfl), hd]
          refine ⟨fun _ => ⟨l[pos], List.mem_cons_self, ho'⟩, fun _ => by omega⟩
      · have hh := decode_high _ _ hs (by rw [hb]; omega)
        rw [if_pos (badRune_high hh.1)]
        refine ⟨fun _ => ⟨l[pos], by rw [hd]; exact List.mem_cons_self, ?_⟩, fun _ => by omega⟩
        unfold okByte
        simp
        omega
    · rw [if_neg (by rw [ba_size]; exact hp), List.drop_eq_nil_of_le (by omega)]
      simp
theorem idx_name (l : List UInt8) : decide (0 ≤ Lib.idxFunc badRune true ⟨l.toArray⟩) = !l.all okByte := by
  have h := idx_bad l (⟨l.toArray⟩ : ByteArray).size 0 (by rw [ba_size]; omega)
  rw [List.drop_zero] at h
  unfold Lib.idxFunc
  rw [Bool.eq_iff_iff, decide_eq_true_iff, h]
  simp
set_option maxHeartbeats 2000000 in
theorem named1 (w : World) : PredAt Tryz.prog 213 #[] encR badRune w := fun W r _ => by
  unfold FnGives
  rcases (by omega : r < 45 ∨ r = 45 ∨ r = 46 ∨ r = 47 ∨ (48 ≤ r ∧ r ≤ 57) ∨ (58 ≤ r ∧ r < 97) ∨ (97 ≤ r ∧ r ≤ 122) ∨ 122 < r) with h | h | h | h | h | h | h | h
  all_goals
    have z1 : ((r : Int) < 97) ↔ r < 97 := by omega
    have z2 : (122 < (r : Int)) ↔ 122 < r := by omega
    have z3 : ((r : Int) < 48) ↔ r < 48 := by omega
    have z4 : (57 < (r : Int)) ↔ 57 < r := by omega
    have z5 : ((r : Int) = 46) ↔ r = 46 := by omega
    have z6 : ((r : Int) = 45) ↔ r = 45 := by omega
    go_enter Tryz.func213, Tryz.ntmps213
    go_wp2
    all_goals first | (exfalso; omega) | (go_ret; exact ⟨ret_bool (by rw [Bool.eq_iff_iff]; simp [badRune]; omega), 0, rfl⟩)
set_option maxHeartbeats 2000000 in
theorem named_any (s : List UInt8) (w : World) (hl : s.length ≤ 140737488355328) :
    Calls Tryz.prog 148 #[.string ⟨s.toArray⟩] w fun r w' => r = .returned (.bool (nameB s)) ∧ Below w.heap.size w w' := by
  have HC := fun W => Tryz.strings_ContainsFunc 213 #[] (enters_of Tryz.func213 (by kernel_rfl) rfl) badRune ⟨s.toArray⟩ W (named1 W)
  simp only [idx_name] at HC
  have hsz : (⟨s.toArray⟩ : ByteArray).size = s.length := ba_size s
  cases s with
  | nil =>
    go_enter Tryz.func148, Tryz.ntmps148
    go_wp2
    go_ret
    exact ⟨rfl, Below.refl _ _⟩
  | cons b l =>
    have hb : nameB (b :: l) = (decide ((b :: l).length ≤ 32) && (b :: l).all okByte) := rfl
    by_cases h32 : l.length + 1 ≤ 32
    · go_enter Tryz.func148, Tryz.ntmps148
      go_wp2_with (go_at_call 60; refine (HC _).mono ?_; rintro r w1 ⟨rfl, hb1⟩)
      all_goals first | (exfalso; omega) | skip
      go_ret
      exact ⟨ret_bool (by rw [hb]; simp [h32]), hb1⟩
    · go_enter Tryz.func148, Tryz.ntmps148
      go_wp2
      all_goals first | (exfalso; omega) | skip
      go_ret
      exact ⟨rfl, Below.refl _ _⟩
end Go.Proofs.YtjnolpfmchnnmaaGreatDoor
end
section
namespace Go.Proofs.YtjnolpfmchnnmaaGreatDoor
set_option maxRecDepth 100000
open Go.RowKit Go.BigFrame Go.Sort Go.Shelf Go.Lib Go.Maps
abbrev Nm := List UInt8
structure Fd where
  name : Nm
  data : List UInt8
  synced : Int
  blk : Nat
  sl : Value
structure Dk where
  ns : List Fd
  ops : Int
  room : Int
  keep : List Int
  done : Int
  bytes : Int
  down : Bool
def findF (x : Nm) : List Fd → Option Fd
  | [] => none
  | f :: l => if f.name = x then some f else findF x l
def insF (f : Fd) : List Fd → List Fd
  | [] => [f]
  | g :: l => if f.name < g.name then f :: g :: l else if f.name = g.name then f :: l else g :: insF f l
def delF (x : Nm) : List Fd → List Fd
  | [] => []
  | f :: l => if f.name = x then delF x l else f :: delF x l
def updF (x : Nm) (g : Fd → Fd) (ns : List Fd) : List Fd := ns.map fun f => if f.name = x then g f else f
def sortedF (ns : List Fd) : Prop := ns.Pairwise fun a b => a.name < b.name
def ptrF (o : Option Fd) : Value := .pointer (o.map fun f => (⟨f.blk, 0, none⟩ : Addr))
def ptrR : Value → Option (DataW Unit × List MemPlace)
  | .pointer none => some (.lit (.bool false), [])
  | .pointer (some ⟨b, 0, none⟩) => some (.lit (.int .i64 b), [])
  | _ => none
def datF (o : Option Fd) : DataW Unit := match o with | some f => .lit (.int .i64 f.blk) | none => .lit (.bool false)
theorem ptrR_inv {v : Value} {o : Option Fd} {ps : List MemPlace} (h : ptrR v = some (datF o, ps)) : v = ptrF o := by
  unfold ptrR at h
  split at h
  · cases o with
    | none => rfl
    | some f => simp [datF] at h
  · cases o with
    | none => simp [datF] at h
    | some f =>
      simp only [datF, Option.some.injEq, Prod.mk.injEq, DataW.lit.injEq, Lit.int.injEq, true_and] at h
      obtain ⟨h, _⟩ := h
      have h : _ = f.blk := Int.ofNat.inj h
      subst h
      rfl
  · cases h
structure MapIs (D : DataW Unit) (ns : List Fd) : Prop where
  at_ : ∀ x, D.atKey (.string x) (.lit (.bool false)) = datF (findF x ns)
  has : ∀ x, Maps.has D (.string x) = (findF x ns).isSome
  size : Maps.size D = ns.length
theorem find_ins (x : Nm) (f : Fd) (ns : List Fd) : findF x (insF f ns) = if f.name = x then some f else findF x ns := by
  induction ns with
  | nil => rfl
  | cons g l ih =>
    unfold insF
    split
    · rfl
    · split
      · rename_i h1 h2
        simp only [findF, h2]
        split <;> rfl
      · rename_i h1 h2
        simp only [findF, ih]
        by_cases hg : g.name = x
        · have : ¬ f.name = x := fun e => h2 (e.trans hg.symm)
          simp only [if_pos hg, if_neg this]
        · simp only [if_neg hg]
theorem find_del (x y : Nm) (ns : List Fd) : findF x (delF y ns) = if x = y then none else findF x ns := by
  induction ns with
  | nil => simp [delF, findF]
  | cons g l ih =>
    unfold delF
    split
    · rename_i h
      rw [ih]
      by_cases hx : x = y
      · simp only [if_pos hx]
      · have : ¬ g.name = x := fun e => hx (e.symm.trans h)
        simp only [if_neg hx, findF, if_neg this]
    · rename_i h
      simp only [findF, ih]
      by_cases hg : g.name = x
      · have : ¬ x = y := fun e => h (hg.trans e)
        simp only [if_pos hg, if_neg this]
      · simp only [if_neg hg]
theorem find_upd (x y : Nm) (g : Fd → Fd) (hg : ∀ f, (g f).name = f.name) (ns : List Fd) : findF x (updF y g ns) = if x = y then (findF x ns).map g else findF x ns := by
  induction ns with
  | nil => simp [updF, findF]
  | cons f l ih =>
    have e : updF y g (f :: l) = (if f.name = y then g f else f) :: updF y g l := rfl
    rw [e]
    simp only [findF, ih]
    by_cases hf : f.name = y
    · simp only [if_pos hf, hg]
      by_cases hx : f.name = x
      · simp [hx, hf.symm.trans hx]
      · simp only [if_neg hx]
    · simp only [if_neg hf]
      by_cases hx : f.name = x
      · have : ¬ x = y := fun e => hf (hx.trans e)
        simp only [if_pos hx, if_neg this]
      · simp only [if_neg hx]
theorem find_name {x : Nm} {ns : List Fd} {f : Fd} (h : findF x ns = some f) : f.name = x ∧ f ∈ ns := by
  induction ns with
  | nil => cases h
  | cons g l ih =>
    unfold findF at h
    split at h
    · injection h with h
      subst h
      exact ⟨by assumption, List.mem_cons_self⟩
    · exact ⟨(ih h).1, List.mem_cons_of_mem _ (ih h).2⟩
theorem find_none {x : Nm} {ns : List Fd} : findF x ns = none ↔ ∀ f ∈ ns, f.name ≠ x := by
  induction ns with
  | nil => simp [findF]
  | cons g l ih =>
    unfold findF
    split
    · rename_i h
      simp [h]
    · rename_i h
      simp [ih, h]
theorem mem_ins {f g : Fd} {ns : List Fd} (h : g ∈ insF f ns) : g = f ∨ g ∈ ns := by
  induction ns with
  | nil => simpa [insF] using h
  | cons a l ih =>
    unfold insF at h
    split at h
    · simpa using h
    · split at h
      · rcases List.mem_cons.1 h with h | h
        · exact .inl h
        · exact .inr (List.mem_cons_of_mem _ h)
      · rcases List.mem_cons.1 h with h | h
        · exact .inr (by rw [h]; exact List.mem_cons_self)
        · rcases ih h with h | h
          · exact .inl h
          · exact .inr (List.mem_cons_of_mem _ h)
theorem mem_del {y : Nm} {g : Fd} {ns : List Fd} : g ∈ delF y ns ↔ g ∈ ns ∧ g.name ≠ y := by
  induction ns with
  | nil => simp [delF]
  | cons a l ih =>
    unfold delF
    split
    · rename_i h
      simp only [ih, List.mem_cons]
      exact ⟨fun ⟨h1, h2⟩ => ⟨.inr h1, h2⟩, fun ⟨h1, h2⟩ => ⟨h1.resolve_left (fun e => h2 (e ▸ h)), h2⟩⟩
    · rename_i h
      simp only [List.mem_cons, ih]
      exact ⟨fun h1 => h1.elim (fun e => ⟨.inl e, e ▸ h⟩) (fun h => ⟨.inr h.1, h.2⟩), fun ⟨h1, h2⟩ => h1.elim .inl (fun h => .inr ⟨h, h2⟩)⟩
theorem sub_del (y : Nm) (ns : List Fd) : (delF y ns).Sublist ns := by
  induction ns with
  | nil => exact .slnil
  | cons a l ih => unfold delF; split; exact .cons _ ih; exact .cons_cons _ ih
theorem lt_tri (a b : Nm) (h1 : ¬ a < b) (h2 : ¬ a = b) : b < a := by
  rcases Std.lt_trichotomy a b with h | h | h
  · exact absurd h h1
  · exact absurd h h2
  · exact h
theorem sorted_ins {f : Fd} {ns : List Fd} (h : sortedF ns) : sortedF (insF f ns) := by
  induction ns with
  | nil => exact List.pairwise_singleton _ _
  | cons a l ih =>
    have ha := (List.pairwise_cons.1 h).1
    have hl := (List.pairwise_cons.1 h).2
    unfold insF
    split
    · rename_i h1
      refine List.pairwise_cons.2 ⟨fun x hx => ?_, h⟩
      rcases List.mem_cons.1 hx with rfl | hx
      · exact h1
      · exact List.lt_trans h1 (ha x hx)
    · split
      · rename_i h1 h2
        exact List.pairwise_cons.2 ⟨fun x hx => by show f.name < x.name; rw [h2]; exact ha x hx, hl⟩
      · rename_i h1 h2
        refine List.pairwise_cons.2 ⟨fun x hx => ?_, ih hl⟩
        rcases mem_ins hx with rfl | hx
        · exact lt_tri _ _ h1 h2
        · exact ha x hx
theorem sorted_del {y : Nm} {ns : List Fd} (h : sortedF ns) : sortedF (delF y ns) := h.sublist (sub_del y ns)
theorem sorted_upd {y : Nm} {g : Fd → Fd} (hg : ∀ f, (g f).name = f.name) {ns : List Fd} (h : sortedF ns) : sortedF (updF y g ns) := by
  unfold sortedF updF
  rw [List.pairwise_map]
  refine h.imp fun {a b} hab => ?_
  show (if a.name = y then g a else a).name < (if b.name = y then g b else b).name
  have e : ∀ f : Fd, (if f.name = y then g f else f).name = f.name := fun f => by split <;> simp [hg]
  rw [e, e]
  exact hab
end Go.Proofs.YtjnolpfmchnnmaaGreatDoor
end
section
namespace Go.Proofs.YtjnolpfmchnnmaaGreatDoor
set_option maxRecDepth 100000
open Go.RowKit Go.BigFrame Go.Sort Go.Shelf Go.Lib Go.Maps
attribute [local go_sem ↓] Go.wp_at_zero Go.wp_at_succ
def blkB : Value → Option Nat
  | .slice (some a) _ c => if c = 0 then none else some a.block
  | _ => none
def OwnB (w : World) (F : Nat → Prop) (v : Value) (bs : List UInt8) : Prop :=
  ∃ A c, v = .slice A bs.length c ∧ bs.length ≤ c ∧ c ≤ 9223372036854775807 ∧ bs.length ≤ 140737488355328 ∧ (c = 0 ∨ ∃ (g : Nat) (cur : Array Value), A = some ⟨g, 0, none⟩ ∧ F g ∧ w.heap[g]? = some (.cells cur 5 (0, 0)) ∧ c ≤ cur.size ∧ cur.toList.take bs.length = bs.map bcell)
theorem OwnB.nil (w : World) (F : Nat → Prop) : OwnB w F (.slice none 0 0) [] := ⟨none, 0, rfl, Nat.le_refl _, by omega, by simp, .inl rfl⟩
theorem OwnB.form {w : World} {F : Nat → Prop} {v : Value} {bs : List UInt8} (h : OwnB w F v bs) : ∃ A c, v = .slice A bs.length c := by
  obtain ⟨A, c, e, _⟩ := h
  exact ⟨A, c, e⟩
theorem OwnB.mono {w : World} {F F' : Nat → Prop} {v : Value} {bs : List UInt8} (h : OwnB w F v bs) (hb : ∀ i, F i → F' i) : OwnB w F' v bs := by
  obtain ⟨A, c, e, h1, h2, h3, h4⟩ := h
  refine ⟨A, c, e, h1, h2, h3, h4.imp id fun ⟨g, cur, a, b, r⟩ => ⟨g, cur, a, hb g b, r⟩⟩
theorem OwnB.blk {w : World} {F : Nat → Prop} {v : Value} {bs : List UInt8} (h : OwnB w F v bs) {g : Nat} (hg : blkB v = some g) : F g ∧ Loose w g ∧ g < w.heap.size := by
  obtain ⟨A, c, rfl, h1, h2, h3, h4⟩ := h
  rcases h4 with rfl | ⟨g', cur, rfl, hb, hh, _⟩
  · cases A <;> simp [blkB] at hg
  · by_cases hc : c = 0
    · simp [blkB, hc] at hg
    · simp only [blkB, if_neg hc, Option.some.injEq] at hg
      subst hg
      exact ⟨hb, ⟨cur, hh⟩, (Array.getElem?_eq_some_iff.1 hh).1⟩
theorem OwnB.kept {w w' : World} {F : Nat → Prop} {v : Value} {bs : List UInt8} (h : OwnB w F v bs) (hk : ∀ g, blkB v = some g → w'.heap[g]? = w.heap[g]?) : OwnB w' F v bs := by
  obtain ⟨A, c, rfl, h1, h2, h3, h4⟩ := h
  refine ⟨A, c, rfl, h1, h2, h3, ?_⟩
  rcases h4 with rfl | ⟨g, cur, rfl, hb, hh, r⟩
  · exact .inl rfl
  · by_cases hc : c = 0
    · exact .inl hc
    · exact .inr ⟨g, cur, rfl, hb, (hk g (by simp [blkB, hc])).trans hh, r⟩
theorem OwnB.below {w w' : World} {F : Nat → Prop} {v : Value} {bs : List UInt8} (h : OwnB w F v bs) (hb : Below w.heap.size w w') : OwnB w' F v bs :=
  h.kept fun g hg => hb.block g (h.blk hg).2.2
theorem OwnB.only {w w' : World} {F : Nat → Prop} {v : Value} {bs : List UInt8} {S : Nat → Prop} (h : OwnB w F v bs) (ho : Only S w w') (hd : ∀ g, blkB v = some g → ¬ S g) : OwnB w' F v bs :=
  h.kept fun g hg => ho.block g (h.blk hg).2.2 (hd g hg)
theorem OwnB.byt {w : World} {F : Nat → Prop} {v : Value} {bs : List UInt8} (h : OwnB w F v bs) : Byt w (fun i => F i ∧ Loose w i) v bs := by
  obtain ⟨A, c, rfl, h1, h2, h3, h4⟩ := h
  refine ⟨A, c, rfl, h1, h2, h3, by simp, fun hn => ?_⟩
  rcases h4 with rfl | ⟨g, cur, rfl, hb, hh, hc, ht⟩
  · omega
  · refine ⟨g, 0, rfl, ⟨hb, cur, hh⟩, (Array.getElem?_eq_some_iff.1 hh).1, fun j u hu => ?_⟩
    rw [cell_of_row w g _ cur _ _ hh, Nat.zero_add]
    rw [← ht, List.getElem?_take] at hu
    split at hu
    · simpa using hu
    · cases hu
theorem OwnB.of_own {w : World} {base : Nat} {F : Nat → Prop} {v : Value} {bs : List UInt8} (h : w.ownsRow base 5 1 v bs.length (bs.map bcell)) (hl : bs.length ≤ 140737488355328) (hF : ∀ i, base ≤ i → F i) : OwnB w F v bs := by
  rcases h.2 with ⟨rfl, h0⟩ | ⟨g, cap, cur, rfl, hbg, hh, hcap, hcm, hcs, ht⟩
  · have : bs = [] := List.eq_nil_of_length_eq_zero h0
    subst this
    exact OwnB.nil _ _
  · exact ⟨_, _, rfl, hcap, by unfold maxLen at hcm; omega, hl, .inr ⟨g, cur, rfl, hF g hbg, hh, by omega, by simpa using ht⟩⟩
theorem run_append_ownB (w : World) (F F' : Nat → Prop) (ty : TypeId) (v src : Value) (S : Nat → Prop) (bs cs : List UInt8) (hown : OwnB w F v bs) (h : Byt w S src cs) (hl : bs.length + cs.length ≤ 140737488355328) (hF : ∀ i, F i → F' i) (hnew : F' w.heap.size) :
    ∃ v' w', (Builtin.append_ #[35, 35] ty #[v, src]).run Tryz.prog w = .ok v' w' ∧ OwnB w' F' v' (bs ++ cs) ∧ w.grownBy w' (blkB v) ∧ (blkB v' = blkB v ∨ blkB v' = some w.heap.size) := by
  obtain ⟨i0, hi, hz0, hz1, hz2⟩ := info_parts info5
  obtain ⟨B, d, rfl, g1, g2, g3, hr⟩ := h
  rcases Nat.eq_zero_or_pos cs.length with h0 | h0
  · have : cs = [] := List.eq_nil_of_length_eq_zero h0
    subst this
    rw [List.append_nil]
    have hown' := hown.mono hF
    obtain ⟨A, c, rfl, h1, h2, h3, h4⟩ := hown
    refine ⟨_, w, ?_, hown', World.grownBy.refl w _, .inl rfl⟩
    rcases A with _ | a
    · have hn : bs.length = 0 := by rcases h4 with h4 | ⟨g, cur, h4, _⟩; omega; cases h4
      rcases B with _ | b <;> simp [Builtin.append_, run_underlying Tryz.underlying35, sizeOf, typeInfo, hi, Builtin.lenOf, Builtin.firstCells, loadCells, loadCellsFrom, hn]
    · rcases B with _ | b <;> simp [Builtin.append_, run_underlying Tryz.underlying35, sizeOf, typeInfo, hi, Builtin.lenOf, Builtin.firstCells, loadCells, loadCellsFrom, h1, storeCells]
  · obtain ⟨b, o, rfl, _, _, hc⟩ := hr.2 h0
    have hnews : ∀ j u, (cs.map bcell)[j]? = some u → w.cell? ((⟨b, o, none⟩ : Addr).add j) = some u := fun j u hu => by rw [Addr.add_lit]; exact hc j u hu
    obtain ⟨A, c, rfl, h1, h2, h3, h4⟩ := hown
    have hll : (bs ++ cs).length = bs.length + cs.length := by simp
    by_cases hroom : bs.length + cs.length ≤ c
    · rcases h4 with rfl | ⟨g, cur, rfl, hb, hh, hcc, ht⟩
      · omega
      · have hrun := run_append_room (P := Tryz.prog) w 35 ty 5 i0 Tryz.underlying35 hi g bs.length c cur hh ⟨b, o, none⟩ cs.length d (cs.map bcell) (by simp [hz1]) hnews (by simp [Value.oneCell', bcell]) hroom (by simp [hz1]; omega)
        refine ⟨_, _, hrun, ⟨_, _, by rw [hll], by omega, h2, by omega, .inr ⟨g, _, rfl, hF g hb, setRow_heap w g cur _ 5 _ hh, ?_, ?_⟩⟩, ⟨rfl, rfl, rfl, by simp, fun k _ hk => setRow_other w g k _ (fun e => hk (by rw [e]; simp [blkB]; omega))⟩, .inl rfl⟩
        · simp [hz1]
          omega
        · rw [hz1, Nat.mul_one, ht, hll, ← List.map_append]
          have : ((bs ++ cs).map bcell).length = bs.length + cs.length := by simp
          rw [← this]
          exact List.take_left
    · have hA : ∃ olds : List Value, olds = bs.map bcell ∧ ∀ a, A = some a → ∀ j u, olds[j]? = some u → w.cell? (a.add j) = some u := by
        refine ⟨_, rfl, fun a ha j u hu => ?_⟩
        rcases h4 with rfl | ⟨g, cur, rfl, hb, hh, hcc, ht⟩
        · have : bs = [] := List.eq_nil_of_length_eq_zero (by omega)
          subst this
          simp at hu
        · obtain rfl := Option.some.inj ha
          rw [Addr.add_lit, cell_of_row w g _ cur _ _ hh, Nat.zero_add]
          rw [← ht, List.getElem?_take] at hu
          split at hu
          · simpa using hu
          · cases hu
      obtain ⟨olds, ho, hA⟩ := hA
      have key : ∀ (w' : World) (cap : Nat), bs.length + cs.length ≤ cap → cap ≤ maxLen → w' = w.drew.alloc (.cells (olds.toArray ++ (cs.map bcell).toArray ++ Builtin.zeroCells (Value.cells (.int .u8 0)) (cap - (bs.length + cs.length))) 5) →
          OwnB w' F' (.slice (some ⟨w.heap.size, 0, none⟩) (bs.length + cs.length) cap) (bs ++ cs) ∧ w.grownBy w' (blkB (.slice A bs.length c)) ∧ blkB (.slice (some ⟨w.heap.size, 0, none⟩) (bs.length + cs.length) cap) = some w.heap.size := by
        intro w' cap hc1 hc2 hw
        subst hw
        refine ⟨⟨_, _, by rw [hll], by omega, by unfold maxLen at hc2; omega, by omega, .inr ⟨w.heap.size, _, rfl, hnew, heap_alloc_new w.drew _, ?_, ?_⟩⟩, ⟨rfl, rfl, rfl, by simp, fun k hk _ => Below.heap_alloc w.drew _ k hk⟩, by simp [blkB]; omega⟩
        · simp only [Array.size_append, List.size_toArray, size_zeroCells, ho, List.length_map]
          simp [Value.cells]
          omega
        · simp only [Array.toList_append, ho, List.append_assoc]
          rw [← List.append_assoc, ← List.map_append, hll]
          have : ((bs ++ cs).map bcell).length = bs.length + cs.length := by simp
          rw [← this]
          exact List.take_left
      rcases A with _ | a
      · have hbs : bs = [] := by
          rcases h4 with rfl | ⟨g, cur, h4, _⟩
          · exact List.eq_nil_of_length_eq_zero (by omega)
          · cases h4
        subst hbs
        have hc0 : c = 0 := by rcases h4 with h4 | ⟨g, cur, h4, _⟩; exact h4; cases h4
        subst hc0
        have hrun := run_append_nil (P := Tryz.prog) w 35 ty 5 i0 (.int .u8 0) Tryz.underlying35 hi hz0 ⟨b, o, none⟩ cs.length d (cs.map bcell) (by simp [hz1]) hnews (by omega) (by simp at hl; omega) (by rw [hz2]; simp at hl; omega)
        have hk := key _ _ (by simpa using grownCap_ge w cs.length 0 5) (grownCap_le_maxLen w cs.length 0 5 (by unfold maxLen; omega)) rfl
        subst ho
        simp only [List.length_nil, Nat.zero_add, List.map_nil, List.append_toArray, List.nil_append] at hk ⊢
        exact ⟨_, _, hrun, hk.1, hk.2.1, .inr hk.2.2⟩
      · have hrun := run_append_grow (P := Tryz.prog) w 35 ty 5 i0 (.int .u8 0) Tryz.underlying35 hi hz0 a bs.length c olds (by simp [ho, hz1]) (hA a rfl) ⟨b, o, none⟩ cs.length d (cs.map bcell) (by simp [hz1]) hnews (by omega) (by omega) (growslice_fits (by omega) (by rw [hz2]; omega))
        have hk := key _ (grownCap w (bs.length + cs.length) c 5) (grownCap_ge w _ c 5) (grownCap_le_maxLen w _ c 5 (by unfold maxLen; omega)) rfl
        exact ⟨_, _, hrun, hk.1, hk.2.1, .inr hk.2.2⟩
theorem wpList_append_ownB {w : World} {ops : Array Oper} {rest : List Oper} {o : Oper} {a : Act} {Q : Exit → Act → World → Prop} (hgd : o.guard = none) (s x : Operand)
    (ho : o.op = .call { callee := .builtin .append, args := #[s, x], argTypes := #[35, 35] }) (F F' : Nat → Prop) (v src : Value) (hs : a.eval s = v) (hx : a.eval x = src)
    (S : Nat → Prop) (bs cs : List UInt8) (hown : OwnB w F v bs) (h : Byt w S src cs) (hl : bs.length + cs.length ≤ 140737488355328) (hF : ∀ i, F i → F' i) (hnew : F' w.heap.size)
    (hK : ∀ v' w', OwnB w' F' v' (bs ++ cs) → w.grownBy w' (blkB v) → (blkB v' = blkB v ∨ blkB v' = some w.heap.size) → wpList Tryz.prog ops Q rest (a.put o.dst v') w') : wpList Tryz.prog ops Q (o :: rest) a w :=
  wpList_plain hgd fun _ hk => by
    obtain ⟨v', w', hrun, h2, h3, h4⟩ := run_append_ownB w F F' o.type v src S bs cs hown h hl hF hnew
    unfold Oper.wp execOp
    simp only [ho, resolve, invoke, builtin, Sem.run_bind, Sem.run_pure, Result.andThen_ok, List.map_toArray, List.map_cons, List.map_nil, hs, hx, hrun]
    exact hk _ _ (hK v' w' h2 h3 h4)
end Go.Proofs.YtjnolpfmchnnmaaGreatDoor
end
section
namespace Go.Proofs.YtjnolpfmchnnmaaGreatDoor
set_option maxRecDepth 100000
open Go.RowKit
structure Fl where
  name : Nm
  data : List UInt8
  synced : Int
structure Pk where
  fs : List Fl
  ops : Int
  room : Int
  keep : List Int
  done : Int
  bytes : Int
  down : Bool
def Fd.fl (f : Fd) : Fl := ⟨f.name, f.data, f.synced⟩
def Dk.pk (d : Dk) : Pk := ⟨d.ns.map Fd.fl, d.ops, d.room, d.keep, d.done, d.bytes, d.down⟩
def findP (x : Nm) : List Fl → Option Fl
  | [] => none
  | f :: l => if f.name = x then some f else findP x l
def insP (f : Fl) : List Fl → List Fl
  | [] => [f]
  | g :: l => if f.name < g.name then f :: g :: l else if f.name = g.name then f :: l else g :: insP f l
def delP (x : Nm) : List Fl → List Fl
  | [] => []
  | f :: l => if f.name = x then delP x l else f :: delP x l
def updP (x : Nm) (g : Fl → Fl) (ns : List Fl) : List Fl := ns.map fun f => if f.name = x then g f else f
theorem findP_map (x : Nm) (ns : List Fd) : findP x (ns.map Fd.fl) = (findF x ns).map Fd.fl := by
  induction ns with
  | nil => rfl
  | cons f l ih =>
    show (if f.name = x then some f.fl else findP x (l.map Fd.fl)) = _
    unfold findF
    split
    · rfl
    · exact ih
theorem insP_map (f : Fd) (ns : List Fd) : insP f.fl (ns.map Fd.fl) = (insF f ns).map Fd.fl := by
  induction ns with
  | nil => rfl
  | cons g l ih =>
    show (if f.name < g.name then f.fl :: g.fl :: l.map Fd.fl else if f.name = g.name then f.fl :: l.map Fd.fl else g.fl :: insP f.fl (l.map Fd.fl)) = _
    unfold insF
    split
    · rfl
    · split
      · rfl
      · rw [ih]; rfl
theorem delP_map (x : Nm) (ns : List Fd) : delP x (ns.map Fd.fl) = (delF x ns).map Fd.fl := by
  induction ns with
  | nil => rfl
  | cons g l ih =>
    show (if g.name = x then delP x (l.map Fd.fl) else g.fl :: delP x (l.map Fd.fl)) = _
    unfold delF
    split
    · exact ih
    · rw [ih]; rfl
def readyE (k : Pk) (ss : List Nm) : Int :=
  if k.down = true then 20 else if ss.all nameB = false then 23 else match ss with
    | [] => 0
    | x :: _ => if (findP x k.fs).isNone then 22 else 0
def crashes (k : Pk) : Bool := decide (0 ≤ k.ops) && decide (k.ops ≤ k.done)
def changeE (k : Pk) : Int := if crashes k = true then 20 else 0
def changeK (k : Pk) : Pk := if crashes k = true then { k with down := true } else { k with done := k.done + 1 }
def updK (k : Pk) (x : Nm) (g : Fl → Fl) : Pk := { k with fs := updP x g k.fs }
def syncE (k : Pk) (x : Nm) : Int := if readyE k [x] = 0 then changeE k else readyE k [x]
def syncK (k : Pk) (x : Nm) : Pk := if readyE k [x] = 0 then (if crashes k = true then changeK k else updK (changeK k) x fun f => { f with synced := f.data.length }) else k
def lenP (k : Pk) (x : Nm) : Nat := match findP x k.fs with | some f => f.data.length | none => 0
def deleteK (k : Pk) (x : Nm) : Pk := if readyE k [x] = 0 then (if crashes k = true then changeK k else { changeK k with fs := delP x k.fs, bytes := wrap64 (k.bytes - lenP k x) }) else k
def renameE (k : Pk) (x y : Nm) : Int := if readyE k [x, y] = 0 then changeE k else readyE k [x, y]
def renFs (x y : Nm) (fs : List Fl) : List Fl := match findP x fs with | some f => insP { f with name := y } (delP x fs) | none => fs
def renameK (k : Pk) (x y : Nm) : Pk := if readyE k [x, y] = 0 then (if crashes k = true then changeK k else if x = y then changeK k else { changeK k with fs := renFs x y k.fs, bytes := if (findP y (delP x k.fs)).isSome = true then wrap64 (k.bytes - lenP k y) else k.bytes }) else k
def fullP (k : Pk) (n : Nat) : Bool := decide (0 ≤ k.room) && decide (wrap64 (k.room - k.bytes) < (n : Int))
def appFs (x : Nm) (b : List UInt8) (fs : List Fl) : List Fl := updP x (fun f => { f with data := f.data ++ b }) (if (findP x fs).isSome = true then fs else insP ⟨x, [], 0⟩ fs)
def appendE (k : Pk) (x : Nm) (b : List UInt8) : Int := if readyE k [x] = 0 ∨ readyE k [x] = 22 then (if fullP k b.length = true then 21 else changeE k) else readyE k [x]
def appendK (k : Pk) (x : Nm) (b : List UInt8) : Pk := if readyE k [x] = 0 ∨ readyE k [x] = 22 then (if fullP k b.length = true then k else if crashes k = true then changeK k else { changeK k with fs := appFs x b k.fs, bytes := wrap64 (k.bytes + b.length) }) else k
end Go.Proofs.YtjnolpfmchnnmaaGreatDoor
end
