/-
slices.Grow of nil and slices.Concat of two, of tables.
-/
import Derived.Test.YtjnolpfmchnnmaaGreatDoorQPNilM4
import Derived.Test.YtjnolpfmchnnmaaGreatDoorQPNilM2
import Derived.DeepKeys4
import Derived.Maps.Keyed
import Derived.Carry
import Derived.Test.YtjnolpfmchnnmaaGreatDoorQPNilM0
import Derived.Lib.BytesEntry
import Derived.Shelf.Bytes.SlSmallAll
import Derived.Laws.IdiomStrings
import Derived.Laws.Externs
import Derived.LoopTactic
import Derived.Deep.LoopGhost
import Derived.Laws.AppendOwn
import Derived.Maps.AppendAt
import Derived.Lib.AppendZerosOnto
section
namespace Go.Proofs.YtjnolpfmchnnmaaGreatDoor
set_option maxRecDepth 100000
open Go.RowKit Go.BigFrame
def DkC (w : World) (F : Nat → Prop) (p dn : Nat) (D : Nm → Option (List UInt8)) : Prop :=
  (∀ i, F i → i < w.heap.size ∧ tabG < i) ∧ ∃ k, DiskP w F p k ∧ CalmK k dn ∧ fileD k = D
def Spread (n : Nat) (F F' : Nat → Prop) : Prop := ∀ i, F' i → F i ∨ n ≤ i
theorem Spread.refl (n : Nat) (F : Nat → Prop) : Spread n F F := fun _ h => .inl h
theorem Spread.trans {n m : Nat} {F F' F'' : Nat → Prop} (h : Spread n F F') (g : Spread m F' F'') (hn : n ≤ m) : Spread n F F'' := fun i hi => (g i hi).elim (h i) fun hm => .inr (Nat.le_trans hn hm)
theorem Spread.low {n m : Nat} {F F' : Nat → Prop} (h : Spread n F F') (hn : m ≤ n) : Spread m F F' := fun i hi => (h i hi).imp id (Nat.le_trans hn)
section
variable {w w' : World} {F : Nat → Prop} {p dn : Nat} {D : Nm → Option (List UInt8)} {x y : Nm} {c : List UInt8}
theorem DkC.lies (h : DkC w F p dn D) : ∀ i, F i → i < w.heap.size ∧ tabG < i := h.1
theorem DkC.below (h : DkC w F p dn D) (hf : fr w w') : DkC w' F p dn D := by
  obtain ⟨h0, k, h1, h2⟩ := h
  exact ⟨fun i hi => ⟨Nat.lt_of_lt_of_le (h0 i hi).1 (Below.size hf), (h0 i hi).2⟩, k, h1.below hf, h2⟩
theorem DkC.only {S : Nat → Prop} (h : DkC w F p dn D) (ho : Only S w w') (hS : ∀ i, S i → ¬ F i) : DkC w' F p dn D := by
  obtain ⟨h0, k, h1, h2⟩ := h
  exact ⟨fun i hi => ⟨Nat.lt_of_lt_of_le (h0 i hi).1 ho.size, (h0 i hi).2⟩, k, h1.only ho hS, h2⟩
theorem DkC.mono (h : DkC w F p dn D) {dn' : Nat} (hd : dn ≤ dn') : DkC w F p dn' D := by
  obtain ⟨h0, k, h1, h2, h3⟩ := h
  exact ⟨h0, k, h1, h2.mono hd, h3⟩
theorem nmLong (h : nameB x = true) : x.length ≤ 140737488355328 := by
  unfold nameB at h
  simp only [Bool.and_eq_true, decide_eq_true_eq] at h
  omega
theorem DkC.name (h : DkC w F p dn D) (hf : D x = some c) : nameB x = true := by
  obtain ⟨h0, k, h1, h2, h3⟩ := h
  exact h2.name_ok (by rw [h3, hf]; rfl)
theorem cread_some (h : DkC w F p dn D) (hf : D x = some c) :
    Calls Tryz.prog 64 #[.pointer (some ⟨p, 0, none⟩), .string ⟨x.toArray⟩] w fun r w' => ∃ v, r = .returned (.tuple #[v, .int .i64 0]) ∧ BytL w' w.heap.size v c ∧ fr w w' := by
  have hx := h.name hf
  obtain ⟨h0, k, h1, h2, h3⟩ := h
  subst h3
  refine (read_any F p k x w h1 (nmLong hx)).mono ?_
  rintro r w' ⟨v, rfl, hv, hb⟩
  rw [h2.ready_some hx hf, if_pos rfl, fileD_readD, hf] at hv
  rw [h2.ready_some hx hf]
  exact ⟨v, rfl, hv, hb⟩
theorem cread_none (h : DkC w F p dn D) (hx : nameB x = true) (hf : D x = none) :
    Calls Tryz.prog 64 #[.pointer (some ⟨p, 0, none⟩), .string ⟨x.toArray⟩] w fun r w' => ∃ v, r = .returned (.tuple #[v, .int .i64 22]) ∧ BytL w' w.heap.size v [] ∧ fr w w' := by
  obtain ⟨h0, k, h1, h2, h3⟩ := h
  subst h3
  refine (read_any F p k x w h1 (nmLong hx)).mono ?_
  rintro r w' ⟨v, rfl, hv, hb⟩
  rw [h2.ready_none hx hf, if_neg (by decide)] at hv
  rw [h2.ready_none hx hf]
  exact ⟨v, rfl, hv, hb⟩
theorem clist (h : DkC w F p dn D) (hd : dn ≤ 4398046511104) :
    Calls Tryz.prog 58 #[.pointer (some ⟨p, 0, none⟩)] w fun r w' => ∃ v l, r = .returned (.tuple #[v, .int .i64 0]) ∧ OwnS w' w.heap.size v l ∧ (l.Pairwise fun a b => a < b) ∧ (∀ x, x ∈ l ↔ (D x).isSome = true) ∧ l.length ≤ dn ∧ fr w w' := by
  obtain ⟨h0, k, h1, h2, h3⟩ := h
  subst h3
  refine (list_any F p k w h1 (by have := h2.few; omega)).mono ?_
  rintro r w' ⟨v, rfl, hv, hb⟩
  rw [h2.ready0]
  refine ⟨v, _, rfl, hv, h2.listSorted, fun x => h2.mem_list, ?_, hb⟩
  rw [h2.list, List.length_map]
  exact h2.few
theorem cappend (S : Nat → Prop) (v : Value) (b : List UInt8) (h : DkC w F p dn D) (ht : TabW w) (hx : nameB x = true) (hv : Byt w S v b) (hS : ∀ i, S i → ¬ F i) (hl : ((D x).getD []).length + b.length ≤ 140737488355328) (hd : dn ≤ 4398046511104) :
    Calls Tryz.prog 35 #[.pointer (some ⟨p, 0, none⟩), .string ⟨x.toArray⟩, v] w fun r w' => r = .returned (.int .i64 0) ∧ (∃ F', Spread w.heap.size F F' ∧ DkC w' F' p (dn + 1) (putD D x ((D x).getD [] ++ b))) ∧ Only F w w' := by
  obtain ⟨h0, k, h1, h2, h3⟩ := h
  subst h3
  obtain ⟨a1, a2, a3⟩ := h2.append hx b
  refine (append_any F p k x S v b w h1 hv hS (nmLong hx) h2.d0 (by have := h2.d1; omega) (fun f hf => ?_) (by have := h2.few; omega)).mono ?_
  · have e : fileD k x = some f.data := by unfold fileD; rw [hf]; rfl
    rw [e] at hl
    exact hl
  · rintro r w' ⟨rfl, hk, ho⟩
    rw [a1]
    refine ⟨rfl, ⟨fun i => (F i ∨ w.heap.size ≤ i) ∧ i < w'.heap.size, fun i hi => hi.1, fun i hi => ⟨hi.2, ?_⟩, _, hk.mono fun i hi hlt => ⟨hi, hlt⟩, a2, a3⟩, ho⟩
    have := ht.lt
    rcases hi.1 with h | h
    · exact (h0 i h).2
    · omega
theorem csync (h : DkC w F p dn D) (hf : D x = some c) (hd : dn ≤ 4398046511104) :
    Calls Tryz.prog 70 #[.pointer (some ⟨p, 0, none⟩), .string ⟨x.toArray⟩] w fun r w' => r = .returned (.int .i64 0) ∧ DkC w' F p (dn + 1) D ∧ Only F w w' := by
  have hx := h.name hf
  obtain ⟨h0, k, h1, h2, h3⟩ := h
  subst h3
  obtain ⟨a1, a2, a3⟩ := h2.sync hx hf
  refine (sync_any F p k x w h1 (nmLong hx) h2.d0 (by have := h2.d1; omega)).mono ?_
  rintro r w' ⟨rfl, hk, ho⟩
  rw [a1]
  exact ⟨rfl, ⟨fun i hi => ⟨Nat.lt_of_lt_of_le (h0 i hi).1 ho.size, (h0 i hi).2⟩, _, hk, a2, a3⟩, ho⟩
theorem cdelete (h : DkC w F p dn D) (hf : D x = some c) (hd : dn ≤ 4398046511104) :
    Calls Tryz.prog 62 #[.pointer (some ⟨p, 0, none⟩), .string ⟨x.toArray⟩] w fun r w' => r = .returned (.int .i64 0) ∧ DkC w' F p (dn + 1) (delD D x) ∧ Only F w w' := by
  have hx := h.name hf
  obtain ⟨h0, k, h1, h2, h3⟩ := h
  subst h3
  obtain ⟨a1, a2, a3⟩ := h2.delete hx hf
  refine (delete_any F p k x w h1 (nmLong hx) h2.d0 (by have := h2.d1; omega)).mono ?_
  rintro r w' ⟨rfl, hk, ho⟩
  rw [a1]
  exact ⟨rfl, ⟨fun i hi => ⟨Nat.lt_of_lt_of_le (h0 i hi).1 ho.size, (h0 i hi).2⟩, _, hk, a2, a3⟩, ho⟩
theorem crename (h : DkC w F p dn D) (hy : nameB y = true) (hxy : x ≠ y) (hf : D x = some c) (hd : dn ≤ 4398046511104) :
    Calls Tryz.prog 72 #[.pointer (some ⟨p, 0, none⟩), .string ⟨x.toArray⟩, .string ⟨y.toArray⟩] w fun r w' => r = .returned (.int .i64 0) ∧ DkC w' F p (dn + 1) (putD (delD D x) y c) ∧ Only F w w' := by
  have hx := h.name hf
  obtain ⟨h0, k, h1, h2, h3⟩ := h
  subst h3
  obtain ⟨a1, a2, a3⟩ := h2.rename hx hy hxy hf
  refine (rename_any F p k x y w h1 (nmLong hx) (nmLong hy) h2.d0 (by have := h2.d1; omega) (by have := h2.few; omega)).mono ?_
  rintro r w' ⟨rfl, hk, ho⟩
  rw [a1]
  exact ⟨rfl, ⟨fun i hi => ⟨Nat.lt_of_lt_of_le (h0 i hi).1 ho.size, (h0 i hi).2⟩, _, hk, a2, a3⟩, ho⟩
theorem DkC.tab (h : DkC w F p dn D) (ht : TabW w) (ho : Only F w w') : TabW w' := ht.only ho fun i hi => (h.1 i hi).2
end
end Go.Proofs.YtjnolpfmchnnmaaGreatDoor
end
section
namespace Go.Proofs.YtjnolpfmchnnmaaGreatDoor
set_option maxRecDepth 100000
open Go.RowKit Go.BigFrame Go.Shelf
abbrev mkV (i : Int) : Value := .agg #[.int .i64 i]
theorem mk_map : Tryz.prog.underlying 211 = some (.map 213 4) := by kernel_rfl
theorem mk_und : Tryz.prog.underlying 213 = some (.struct (Tryz.prog.fieldsOf 213)) := by kernel_rfl
theorem mk_check (e : Bool) (i : Int) (w : World) : (Instr.checkKey e 10000 213 (mkV i)).run Tryz.prog w = .ok () w := by kernel_rfl
theorem mk_flds : (Tryz.prog.fieldsOf 213).toList.map (fun f => (f.name, f.type, f.offset)) = [("id", 3, 0)] := by kernel_rfl
theorem mk_equal (i a : Int) (w : World) : (Op.equal 213 (mkV i) (mkV a)).run Tryz.prog w = .ok (i == a) w := by
  have hs : Tryz.prog.stoodInHeld 213 = false := by kernel_rfl
  have e : (Op.equal 213 (mkV i) (mkV a)).run Tryz.prog w = (Op.eqFields 9999 #[.int .i64 i] #[.int .i64 a] (Tryz.prog.fieldsOf 213).toList).run Tryz.prog w := run_equalIn_struct w 9999 213 _ _ mk_und hs
  rw [e]
  have hf := mk_flds
  obtain ⟨f1, he⟩ : ∃ f1, (Tryz.prog.fieldsOf 213).toList = [f1] := by
    match h : (Tryz.prog.fieldsOf 213).toList with
    | [f1] => exact ⟨f1, rfl⟩
    | [] => rw [h] at hf; simp at hf
    | _ :: _ :: _ => rw [h] at hf; simp at hf
  rw [he] at hf ⊢
  simp only [List.map_cons, List.map_nil, List.cons.injEq, Prod.mk.injEq, and_true] at hf
  obtain ⟨n1, t1, o1⟩ := hf
  have p1 : ∀ (x : Int) (W : World), (part f1.type #[.int .i64 x] f1.offset).run Tryz.prog W = .ok (.int .i64 x) W := fun x W => by rw [t1, o1]; kernel_rfl
  have q1 : ∀ (W : World), (Op.equalIn 9999 3 (.int .i64 i) (.int .i64 a)).run Tryz.prog W = .ok (i == a) W := fun W => by
    rw [run_equalIn_int W 9998 3 .i64 .i64 i a Tryz.underlying3]
  rw [t1] at p1
  cases hb : (i == a) <;> simp [Op.eqFields, n1, p1, t1, q1, hb, Result.andThen]
theorem Only.cellOf {S : Nat → Prop} {a b : World} (h : Only S a b) {B i : Nat} {v : Value} (hc : a.cell? ⟨B, i, none⟩ = some v) (hS : ¬ S B) : b.cell? ⟨B, i, none⟩ = some v := by
  have hB := World.block_lt_of_cell? _ _ hc
  unfold World.cell? at hc ⊢
  rw [h.block B hB hS]
  exact hc
def MarkV (w : World) (M : Nat) (ids : List Int) : Prop := ∃ (es : Array MapEntry) (c : Nat), w.heap[M]? = some (.map es c) ∧ es.toList.map (fun e => (e.key, e.val)) = ids.map fun i => (mkV i, Value.bool true)
theorem MarkV.only {w w' : World} {M : Nat} {ids : List Int} {S : Nat → Prop} (h : MarkV w M ids) (ho : Only S w w') (hS : ¬ S M) : MarkV w' M ids := by
  obtain ⟨es, c, h1, h2⟩ := h
  exact ⟨es, c, (ho.block M (Array.getElem?_eq_some_iff.1 h1).1 hS).trans h1, h2⟩
theorem MarkV.below {w w' : World} {M : Nat} {ids : List Int} (h : MarkV w M ids) (hb : fr w w') : MarkV w' M ids := h.only (S := fun _ => False) (Only.of_below hb) fun h => h
theorem MarkV.new (w : World) (c : Nat) : MarkV (w.alloc (.map #[] c)) w.heap.size [] := ⟨#[], c, heap_alloc_new w _, rfl⟩
theorem mk_asking (i : Int) (w : World) : ∀ (es : List MapEntry) (ids : List Int) (k : Nat), es.map (fun e => (e.key, e.val)) = ids.map (fun i => (mkV i, Value.bool true)) →
    ∃ r, (Instr.findAsking 213 (mkV i) es k).run Tryz.prog w = .ok r w ∧ (i ∈ ids → ∃ j, r = some (j, .bool true)) ∧ (i ∉ ids → r = none)
  | [], ids, k, h => by
    cases ids with
    | nil => exact ⟨none, by simp [Instr.findAsking], fun h => (by cases h), fun _ => rfl⟩
    | cons a l => simp at h
  | e :: es, ids, k, h => by
    cases ids with
    | nil => simp at h
    | cons a l =>
      simp only [List.map_cons, List.cons.injEq, Prod.mk.injEq] at h
      obtain ⟨⟨h1, h2⟩, h3⟩ := h
      obtain ⟨r, g1, g2, g3⟩ := mk_asking i w es l (k + 1) h3
      by_cases hia : i = a
      · subst hia
        refine ⟨some (k, .bool true), ?_, fun _ => ⟨k, rfl⟩, fun hn => absurd List.mem_cons_self hn⟩
        simp [Instr.findAsking, h1, h2, mk_equal, Result.andThen]
      · have hb : (i == a) = false := by simpa using hia
        refine ⟨r, ?_, fun hm => g2 ((List.mem_cons.1 hm).resolve_left hia), fun hn => g3 fun hm => hn (List.mem_cons_of_mem _ hm)⟩
        simp [Instr.findAsking, h1, mk_equal, hb, Result.andThen, g1]
theorem mk_find (i : Int) (w : World) (es : List MapEntry) (ids : List Int) (h : es.map (fun e => (e.key, e.val)) = ids.map fun i => (mkV i, Value.bool true)) :
    ∃ r, (Instr.findKey 213 (mkV i) es).run Tryz.prog w = .ok r w ∧ (i ∈ ids → ∃ j, r = some (j, .bool true)) ∧ (i ∉ ids → r = none) := by
  cases es with
  | nil =>
    cases ids with
    | nil => exact ⟨none, by simp [Instr.findKey, run_underlying mk_und, Instr.findNow], fun h => (by cases h), fun _ => rfl⟩
    | cons a l => simp at h
  | cons e es =>
    obtain ⟨r, h1, h2⟩ := mk_asking i w (e :: es) ids 0 h
    refine ⟨r, ?_, h2⟩
    simp [Instr.findKey, run_underlying mk_und, Instr.findNow, Instr.sameNow, h1]
theorem MarkV.look {w : World} {M : Nat} {ids : List Int} (h : MarkV w M ids) (i : Int) :
    (Instr.lookup 211 (.map (some M)) (mkV i) false).run Tryz.prog w = .ok (.bool (decide (i ∈ ids))) w := by
  obtain ⟨es, c, h1, h2⟩ := h
  obtain ⟨r, h3, h4, h5⟩ := mk_find i w es.toList ids h2
  by_cases hm : i ∈ ids
  · obtain ⟨j, rfl⟩ := h4 hm
    simp [Instr.lookup, run_underlying mk_map, MapKept.run_getObj_map h1, mk_check, h3, Result.andThen, hm]
  · obtain rfl := h5 hm
    simp [Instr.lookup, run_underlying mk_map, MapKept.run_getObj_map h1, mk_check, h3, Result.andThen, hm]
theorem MarkV.put {w : World} {M : Nat} {ids : List Int} (h : MarkV w M ids) {i : Int} (hi : i ∉ ids) :
    ∃ w', (Instr.mapUpdate 211 (.map (some M)) (mkV i) (.bool true)).run Tryz.prog w = .ok () w' ∧ MarkV w' M (ids ++ [i]) ∧ Only (fun j => j = M) w w' := by
  obtain ⟨es, c, h1, h2⟩ := h
  obtain ⟨r, h3, h4, h5⟩ := mk_find i w es.toList ids h2
  obtain rfl := h5 hi
  have hlt := (Array.getElem?_eq_some_iff.1 h1).1
  refine ⟨{ w with heap := w.heap.setIfInBounds M (.map (es.push { key := mkV i, val := .bool true, born := c }) (c + 1)) }, ?_, ⟨es.push { key := mkV i, val := .bool true, born := c }, c + 1, ?_, ?_⟩, ⟨rfl, rfl, rfl, by simp, fun j hj hn => ?_⟩⟩
  · simp [Instr.mapUpdate, run_underlying mk_map, MapKept.run_getObj_map h1, mk_check, h3, MapKept.run_setObj_map _ h1, Result.andThen]
  · simp [hlt]
  · simp [h2]
  · show (w.heap.setIfInBounds M _)[j]? = _
    rw [Array.getElem?_setIfInBounds_ne fun e => hn e.symm]
end Go.Proofs.YtjnolpfmchnnmaaGreatDoor
end
section
namespace Go.Proofs.YtjnolpfmchnnmaaGreatDoor
set_option maxRecDepth 100000
open Go.RowKit
theorem cmp_lists (l m : List UInt8) : Extern.BytealgCompare.cmp ⟨l.toArray⟩ ⟨m.toArray⟩ = cmpB l m := by
  unfold Extern.BytealgCompare.cmp
  simp only [ba_get, ba_size]
  induction l generalizing m with
  | nil => cases m <;> simp [cmpB]
  | cons x l ih =>
    cases m with
    | nil => simp [cmpB]
    | cons y m =>
      have ih := ih m
      have e : min (x :: l).length (y :: m).length = min l.length m.length + 1 := by simp
      rw [e, List.range_succ_eq_map, List.find?_cons]
      by_cases hxy : x = y
      · subst hxy
        have h0 : ((x :: l).getD 0 default != (x :: m).getD 0 default) = false := by simp
        rw [h0]
        simp only [List.find?_map, Function.comp_def, Nat.succ_eq_add_one, List.getD_cons_succ]
        simp only [cmpB, UInt8.lt_irrefl, if_false]
        rw [← ih]
        rcases (List.range (min l.length m.length)).find? (fun i => l.getD i default != m.getD i default) with _ | i
        · simp
        · simp
      · have h0 : ((x :: l).getD 0 default != (y :: m).getD 0 default) = true := by simpa using hxy
        rw [h0]
        simp only [cmpB, List.getD_cons_zero]
        by_cases h1 : x < y
        · simp [h1]
        · have h2 : y < x := by
            rcases UInt8.lt_or_lt_of_ne hxy with h | h
            · exact absurd h h1
            · exact h
          simp [h1, h2]
set_option maxHeartbeats 1000000 in
theorem bcompare_any (S S' : Nat → Prop) (v v' : Value) (xs ys : List UInt8) (w : World) (hx : Byt w S v xs) (hy : Byt w S' v' ys) :
    Calls Tryz.prog 111 #[v, v'] w fun e w' => e = .returned (.int .i64 (cmpB xs ys)) ∧ w = w' := by
  have h1 := hx.bytesOf
  have h2 := hy.bytesOf
  have hrun : (Extern.BytealgCompare.compare #[v, v']).run Tryz.prog w = .ok (.int .i64 (cmpB xs ys)) w := by
    show Sem.run Tryz.prog (do pure (goInt (Extern.BytealgCompare.cmp (← Extern.Bytes.bytesOf v) (← Extern.Bytes.bytesOf v')))) w = _
    simp only [Sem.run_bind, h1, h2, Result.andThen, Sem.run_pure, cmp_lists]
    rfl
  have HR := Lib.hid hrun
  clear hrun h1 h2 hx hy
  go_enter Tryz.func111, Tryz.ntmps111
  go_wp2
  rw [run_callFunc_extern Tryz.func174 (by kernel_rfl) (by kernel_rfl) (by kernel_rfl) (e := Extern.BytealgCompare.compare) (by kernel_rfl), HR.out]
  simp only [Result.andThen]
  rw [Oper.upon_value]
  go_wp2
  go_ret
  exact ⟨rfl, rfl⟩
end Go.Proofs.YtjnolpfmchnnmaaGreatDoor
end
section
namespace Go.Proofs.YtjnolpfmchnnmaaGreatDoor
set_option maxRecDepth 100000
open Go.RowKit Go.BigFrame Go.Sort Go.Shelf Go.Lib
attribute [local go_sem ↓] Go.wp_at_zero Go.wp_at_succ
abbrev OwnC (w : World) (base : Nat) (v : Value) (n : Nat) (cs : List Value) : Prop := w.ownsRow base 57 5 v n cs
theorem cellsT : (Value.agg #[.int .i64 0, .int .i64 0, .int .i64 0, .slice none 0 0, .slice none 0 0]).cells.size = 5 := by decide
theorem run_append_noneT (w : World) (ty : TypeId) (base : Nat) (v : Value) (n c : Nat) (cs : List Value) (h : OwnC w base v n cs) :
    (Builtin.append_ #[43, 43] ty #[v, .slice none 0 c]).run Tryz.prog w = .ok v w := by
  obtain ⟨i0, hi, hz0, hz1, hz2⟩ := info_parts infoT
  rcases h.2 with ⟨rfl, h0⟩ | ⟨g, cap, cur, rfl, _, _, hc, _⟩
  · simp [Builtin.append_, run_underlying Tryz.underlying43, sizeOf, typeInfo, hi, Builtin.lenOf, Builtin.firstCells]
  · simp [Builtin.append_, run_underlying Tryz.underlying43, sizeOf, typeInfo, hi, Builtin.lenOf, Builtin.firstCells, storeCells, hc]
theorem wpList_append_rowT {w : World} {ops : Array Oper} {rest : List Oper} {o : Oper} {a : Act} {Q : Exit → Act → World → Prop} (hgd : o.guard = none) (s x : Operand)
    (ho : o.op = .call { callee := .builtin .append, args := #[s, x], argTypes := #[43, 43] }) (base : Nat) (v : Value) (n : Nat) (xs : List Value) (hs : a.eval s = v) (hown : OwnC w base v n xs)
    (S : Nat → Prop) (A : Option Addr) (m c : Nat) (news : List Value) (hx : a.eval x = .slice A m c) (hr : Row w S A m 5 news) (h1 : ∀ u ∈ news, u.oneCell' = true) (hb : (n + m) * 72 ≤ 140737488355328) (hbase : base ≤ w.heap.size)
    (hK : ∀ v' w', OwnC w' base v' (n + m) (xs ++ news) → w.grownBy w' v.ownBlock → wpList Tryz.prog ops Q rest (a.put o.dst v') w') : wpList Tryz.prog ops Q (o :: rest) a w := by
  obtain ⟨i0, hi, hz0, hz1, hz2⟩ := info_parts infoT
  rcases Nat.eq_zero_or_pos m with hm | hm
  · subst hm
    obtain rfl : news = [] := List.eq_nil_of_length_eq_zero (by simpa using hr.1)
    cases A with
    | none =>
      refine wpList_plain hgd fun K hk => ?_
      have hrun := run_append_noneT w o.type base v n c xs hown
      unfold Oper.wp execOp
      simp only [ho, resolve, invoke, builtin, Sem.run_bind, Sem.run_pure, Result.andThen_ok, List.map_toArray, List.map_cons, List.map_nil, hs, hx, hrun]
      exact hk _ _ (hK v w (by rw [List.append_nil]; exact hown) ⟨rfl, rfl, rfl, Nat.le_refl _, fun _ _ _ => rfl⟩)
    | some ad =>
      exact wpList_append_own_at w hgd s x 43 ho base 57 i0 _ 5 72 Tryz.underlying43 hi hz0 hz1 hz2 cellsT (by decide) v n xs hs hown ad 0 c [] hx (by simp) (fun j u hu => by simp at hu) h1 (by unfold maxLen; omega) hb hbase (fun v' w' a1 a2 _ _ => hK v' w' a1 a2)
  · obtain ⟨b, o', rfl, _, _, hc⟩ := hr.2 hm
    exact wpList_append_own_at w hgd s x 43 ho base 57 i0 _ 5 72 Tryz.underlying43 hi hz0 hz1 hz2 cellsT (by decide) v n xs hs hown ⟨b, o', none⟩ m c news hx hr.1 (fun j u hu => by rw [Addr.add_lit]; exact hc j u hu) h1 (by unfold maxLen; omega) hb hbase (fun v' w' a1 a2 _ _ => hK v' w' a1 a2)
theorem rows_of_ownT {w : World} {base n c : Nat} {A : Option Addr} {T : Nat → Prop} {ts : List Tbl} {css : List (List Value)} (h : OwnC w base (.slice A n c) n css.flatten) (ha : All2 (tbR w T) ts css) (hl : ts.length = n) (hb : n * 72 ≤ 140737488355328) : TabsV w (fun i => T i ∨ (base ≤ i ∧ i < w.heap.size)) (.slice A n c) ts := by
  have h3 : All2 (tbR w fun i => T i ∨ (base ≤ i ∧ i < w.heap.size)) ts css := ha.imp fun _ _ hx => tbFine.keep hx fun _ _ _ _ hr => hr.mono fun _ h => .inl h
  rcases h.2 with ⟨hE, h0⟩ | ⟨g, cap, cur, hE, hbg, hh, hcap, hcm, _⟩
  · injection hE with e1 e2 e3
    subst h0 e1 e3
    obtain rfl : ts = [] := List.eq_nil_of_length_eq_zero hl
    exact ⟨none, 0, css, rfl, Nat.le_refl _, by omega, by simp, ⟨h.1, fun h => absurd h (by simp)⟩, h3⟩
  · injection hE with e1 e2 e3
    subst e1 e3
    have hlt : g < w.heap.size := (Array.getElem?_eq_some_iff.1 hh).1
    refine ⟨_, _, css, by rw [hl], by rw [hl]; exact hcap, by unfold maxLen at hcm; omega, by rw [hl]; exact hb, ?_, h3⟩
    rw [hl]
    refine ⟨h.1, fun _ => ⟨g, 0, rfl, .inr ⟨hbg, hlt⟩, hlt, fun j u hu => ?_⟩⟩
    have := h.cells (g := g) rfl j u hu
    rwa [Addr.add_lit] at this
theorem wpList_growNilT {w : World} {ops : Array Oper} {rest : List Oper} {o : Oper} {a : Act} {Q : Exit → Act → World → Prop} (hgd : o.guard = none) (s x : Operand)
    (ho : o.op = .call { callee := .builtin .append, args := #[s, x], argTypes := #[43, 3] }) (n : Nat) (hs : a.eval s = .slice none 0 0) (hx : a.eval x = .int .i64 n) (hn : 0 < n) (hb : n * 72 ≤ 140737488355328)
    (hK : ∀ c w', OwnC w' w.heap.size (.slice (some ⟨w.heap.size, 0, none⟩) 0 c) 0 [] → c ≤ 9223372036854775807 → n ≤ c → fr w w' → wpList Tryz.prog ops Q rest (a.put o.dst (.slice (some ⟨w.heap.size, 0, none⟩) n c)) w') : wpList Tryz.prog ops Q (o :: rest) a w :=
  wpList_plain hgd fun _ hk => by
    obtain ⟨i0, hi, hz0, hz1, hz2⟩ := info_parts infoT
    have hrun := Lib.run_append_grow_zeros (P := Tryz.prog) w 43 3 o.type 57 i0 _ .i64 .i64 Tryz.underlying43 Tryz.underlying3 hi hz0 none 0 0 [] (by simp [Builtin.firstCells]) n hn (by omega) (by omega) (by omega) (by rw [hz2]; omega) (growslice_fits (by omega) (by rw [hz2]; omega))
    have hge := grownCap_ge w (0 + n) 0 57
    have hle := grownCap_le_maxLen w (0 + n) 0 57 (by unfold maxLen; omega)
    rw [Nat.zero_add] at hrun hge hle
    generalize grownCap w n 0 57 = c at hrun hge hle
    have hsz : (([] : List Value).toArray ++ Builtin.zeroCells (Value.agg #[.int .i64 0, .int .i64 0, .int .i64 0, .slice none 0 0, .slice none 0 0]).cells n ++ Builtin.zeroCells (Value.agg #[.int .i64 0, .int .i64 0, .int .i64 0, .slice none 0 0, .slice none 0 0]).cells (c - n)).size = c * 5 := by
      simp only [Array.size_append, size_zeroCells, cellsT, List.size_toArray, List.length_nil]
      omega
    have hle' : c ≤ 9223372036854775807 := by unfold maxLen at hle; omega
    generalize ([] : List Value).toArray ++ Builtin.zeroCells (Value.agg #[.int .i64 0, .int .i64 0, .int .i64 0, .slice none 0 0, .slice none 0 0]).cells n ++ Builtin.zeroCells (Value.agg #[.int .i64 0, .int .i64 0, .int .i64 0, .slice none 0 0, .slice none 0 0]).cells (c - n) = cur at hrun hsz
    unfold Oper.wp execOp
    simp only [ho, resolve, invoke, builtin, Sem.run_bind, Sem.run_pure, Result.andThen_ok, List.map_toArray, List.map_cons, List.map_nil, hs, hx, hrun]
    refine hk _ _ (hK c _ ⟨rfl, .inr ⟨w.heap.size, c, cur, rfl, Nat.le_refl _, ?_, Nat.zero_le _, hle, hsz, by simp⟩⟩ hle' hge (fr.alloc fr.refl.drew _))
    have := heap_alloc_new w.drew (.cells cur 57)
    rwa [World.size_drew] at this
set_option maxRecDepth 100000 in
set_option maxHeartbeats 1000000 in
theorem growNilT_any (n : Nat) (w : World) (hb : n * 72 ≤ 140737488355328) :
    Calls Tryz.prog 194 #[.slice none 0 0, .int .i64 n] w fun r w' => ∃ A c, r = .returned (.slice A 0 c) ∧ OwnC w' w.heap.size (.slice A 0 c) 0 [] ∧ fr w w' := by
  have h1 : ¬ ((n : Int) < 0) := by omega
  rcases Nat.eq_zero_or_pos n with h0 | h0
  · subst h0
    go_enter Tryz.func194, Tryz.ntmps194
    go_wp2
    refine bodyPost_ret (v := .slice none 0 0) (by simp [results, Tryz.results194, go_sem]) rfl ?_
    exact ⟨_, _, rfl, World.ownsRow_nil _ _ _ _, fr.refl⟩
  · have hpos : (0 : Int) < (n : Int) := by omega
    go_enter Tryz.func194, Tryz.ntmps194
    go_wp2_with (at_builtin; refine wpList_growNilT rfl _ _ rfl n rfl rfl h0 hb ?_; intro c w2 hown hc hnc hf)
    refine bodyPost_ret (v := .slice (some ⟨w.heap.size, 0, none⟩) 0 c) (by simp [results, Tryz.results194, go_sem]) rfl ?_
    exact ⟨_, _, rfl, hown, hf⟩
set_option maxRecDepth 100000 in
set_option maxHeartbeats 2000000 in
theorem concatT_any (B : Nat) (S S' : Nat → Prop) (A1 A2 : Option Addr) (n1 n2 c1 c2 : Nat) (cs1 cs2 : List Value) (w : World) (hrow : w.heap[B]? = some (.cells #[.slice A1 n1 c1, .slice A2 n2 c2] 43 (0, 0))) (h1 : Row w S A1 n1 5 cs1) (h2 : Row w S' A2 n2 5 cs2)
    (o1 : ∀ u ∈ cs1, u.oneCell' = true) (o2 : ∀ u ∈ cs2, u.oneCell' = true) (hb : (n1 + n2) * 72 ≤ 140737488355328) :
    Calls Tryz.prog 124 #[.slice (some ⟨B, 0, none⟩) 2 2] w fun r w' => ∃ A c, r = .returned (.slice A (n1 + n2) c) ∧ OwnC w' w.heap.size (.slice A (n1 + n2) c) (n1 + n2) (cs1 ++ cs2) ∧ fr w w' := by
  have x0 := cell_of_row _ _ 0 _ _ _ hrow
  have x1 := cell_of_row _ _ 1 _ _ _ hrow
  have H1 := Lib.hid h1
  have H2 := Lib.hid h2
  have HROW := Lib.hid hrow
  have O1 := Lib.hid o1
  have O2 := Lib.hid o2
  clear h1 h2 hrow o1 o2
  go_enter Tryz.func124, Tryz.ntmps124
  go_wp2
  go_loopw [3, 11] (fun x t wr => ∃ k m : Nat, k ≤ 2 ∧ t = .int .i64 k ∧ x = .int .i64 m ∧ m = (if k = 0 then 0 else if k = 1 then n1 else n1 + n2) ∧ wr = w) (fun _ t _ => 2 - (intOf t).toNat)
  case atStart => exact ⟨0, 0, Nat.zero_le _, rfl, rfl, rfl, rfl⟩
  case round =>
    obtain ⟨k, m, hk, rfl, rfl, hm, rfl⟩ := hrel
    rcases (by omega : k = 0 ∨ k = 1 ∨ k = 2) with rfl | rfl | rfl
    · obtain rfl : m = 0 := hm
      clear hk
      go_wp2
      exact ⟨⟨1, n1, by omega, by go_num, by go_num, rfl, trivial⟩, by simp [intOf]⟩
    · obtain rfl : m = n1 := hm
      clear hk
      go_wp2
      exact ⟨⟨2, m + n2, by omega, by go_num, by go_num, rfl, trivial⟩, by simp [intOf]⟩
    · have hmm : m = n1 + n2 := hm
      clear hm hk
      have hmb : m * 72 ≤ 140737488355328 := by rw [hmm]; exact hb
      have HMM := Lib.hid hmm
      clear hmm
      obtain ⟨w0, hw0⟩ : ∃ w', w' = wr := ⟨_, rfl⟩
      subst hw0
      go_wp2_with (go_at_call 194; refine (growNilT_any m _ hmb).mono ?_; rintro r w1 ⟨A1', c1', rfl, ho1, f1⟩)
      go_loopw [6, 27] (fun x t wx => ∃ j : Nat, j ≤ 2 ∧ t = .int .i64 j ∧ OwnC wx w0.heap.size x (if j = 0 then 0 else if j = 1 then n1 else n1 + n2) (if j = 0 then [] else if j = 1 then cs1 else cs1 ++ cs2) ∧ fr w0 wx) (fun _ t _ => 2 - (intOf t).toNat)
      case atStart => exact ⟨0, Nat.zero_le _, rfl, ho1, f1⟩
      case round =>
        clear ho1 f1 x0 x1
        obtain ⟨j, hj, rfl, ho, hf⟩ := hrel
        have HF := Lib.hid hf
        have hrw := (Below.block hf B (Array.getElem?_eq_some_iff.1 HROW.out).1).trans HROW.out
        have x0 := cell_of_row _ _ 0 _ _ _ hrw
        have x1 := cell_of_row _ _ 1 _ _ _ hrw
        rcases (by omega : j = 0 ∨ j = 1 ∨ j = 2) with rfl | rfl | rfl
        · have HO := Lib.hid (show OwnC wr w0.heap.size u6 0 [] from ho)
          clear ho hf hrw hj
          go_wp2_with (at_builtin; refine wpList_append_rowT rfl _ _ rfl w0.heap.size _ 0 [] rfl HO.out S A1 n1 c1 cs1 rfl (H1.out.below HF.out) O1.out (by omega) HF.out.size ?_; intro v5 w5 hown5 hgrow5)
          exact ⟨⟨1, by omega, by go_num, by rw [Nat.zero_add, List.nil_append] at hown5; exact hown5, RowKit.Below.grown (B := w0.heap.size) HF.out hgrow5 HF.out.size (fun j e => (HO.out.lt j e).1)⟩, by simp [intOf]⟩
        · have HO := Lib.hid (show OwnC wr w0.heap.size u6 n1 cs1 from ho)
          clear ho hf hrw hj
          go_wp2_with (at_builtin; refine wpList_append_rowT rfl _ _ rfl w0.heap.size _ n1 cs1 rfl HO.out S' A2 n2 c2 cs2 rfl (H2.out.below HF.out) O2.out hb HF.out.size ?_; intro v5 w5 hown5 hgrow5)
          exact ⟨⟨2, by omega, by go_num, hown5, RowKit.Below.grown (B := w0.heap.size) HF.out hgrow5 HF.out.size (fun j e => (HO.out.lt j e).1)⟩, by simp [intOf]⟩
        · have HO := Lib.hid (show OwnC wr w0.heap.size u6 (n1 + n2) (cs1 ++ cs2) from ho)
          obtain ⟨A6, c6, rfl⟩ := own_form HO.out
          clear ho hf hrw hj
          go_wp2
          refine bodyPost_ret (v := .slice A6 (n1 + n2) c6) (by simp [results, Tryz.results124, go_sem]) rfl ?_
          exact ⟨_, _, rfl, HO.out, HF.out⟩
end Go.Proofs.YtjnolpfmchnnmaaGreatDoor
end
