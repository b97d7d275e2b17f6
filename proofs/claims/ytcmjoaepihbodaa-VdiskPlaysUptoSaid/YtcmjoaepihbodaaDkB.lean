/-
Bytes that a file owns, appended to in place or in a new block; the map of the files.
-/
import Derived.Test.YtcmjoaepihbodaaDkV
namespace Go.Proofs.Ytcmjoaepihbodaa
open Go.RowKit Go.BigFrame Go.Sort Go.Shelf Go.Lib Go.Maps
attribute [local go_sem ↓] Go.wp_at_zero Go.wp_at_succ

/-- the block that a slice with room leads to. -/
def blkB : Value → Option Nat
  | .slice (some a) _ c => if c = 0 then none else some a.block
  | _ => none
/-- a slice of bytes in a block of its own, from its beginning on. -/
def OwnB (w : World) (F : Nat → Prop) (v : Value) (bs : List UInt8) : Prop :=
  ∃ A c, v = .slice A bs.length c ∧ bs.length ≤ c ∧ c ≤ 9223372036854775807 ∧ bs.length ≤ 140737488355328 ∧ (c = 0 ∨ ∃ (g : Nat) (cur : Array Value), A = some ⟨g, 0, none⟩ ∧ F g ∧ w.heap[g]? = some (.cells cur 5 (0, 0)) ∧ c ≤ cur.size ∧ cur.toList.take bs.length = bs.map bcell)
theorem OwnB.nil (w : World) (F : Nat → Prop) : OwnB w F (.slice none 0 0) [] := ⟨none, 0, rfl, Nat.le_refl _, by omega, by simp, .inl rfl⟩
theorem OwnB.form {w : World} {F : Nat → Prop} {v : Value} {bs : List UInt8} (h : OwnB w F v bs) : ∃ A c, v = .slice A bs.length c := by
  obtain ⟨A, c, e, _⟩ := h
  exact ⟨A, c, e⟩
theorem OwnB.len {w : World} {F : Nat → Prop} {v : Value} {bs : List UInt8} (h : OwnB w F v bs) : bs.length ≤ 140737488355328 := by
  obtain ⟨A, c, e, _, _, h, _⟩ := h
  exact h
theorem OwnB.mono {w : World} {F F' : Nat → Prop} {v : Value} {bs : List UInt8} (h : OwnB w F v bs) (hb : ∀ i, F i → F' i) : OwnB w F' v bs := by
  obtain ⟨A, c, e, h1, h2, h3, h4⟩ := h
  refine ⟨A, c, e, h1, h2, h3, h4.imp id fun ⟨g, cur, a, b, r⟩ => ⟨g, cur, a, hb g b, r⟩⟩
/-- its block. -/
theorem OwnB.blk {w : World} {F : Nat → Prop} {v : Value} {bs : List UInt8} (h : OwnB w F v bs) {g : Nat} (hg : blkB v = some g) : F g ∧ Loose w g ∧ g < w.heap.size := by
  obtain ⟨A, c, rfl, h1, h2, h3, h4⟩ := h
  rcases h4 with rfl | ⟨g', cur, rfl, hb, hh, _⟩
  · cases A <;> simp [blkB] at hg
  · by_cases hc : c = 0
    · simp [blkB, hc] at hg
    · simp only [blkB, if_neg hc, Option.some.injEq] at hg
      subst hg
      exact ⟨hb, ⟨cur, hh⟩, (Array.getElem?_eq_some_iff.1 hh).1⟩
theorem OwnB.kept {w w' : World} {F : Nat → Prop} {v : Value} {bs : List UInt8} (h : OwnB w F v bs) (hk : ∀ g, blkB v = some g → w'.heap[g]? = w.heap[g]?) : OwnB w' F v bs := by
  obtain ⟨A, c, rfl, h1, h2, h3, h4⟩ := h
  refine ⟨A, c, rfl, h1, h2, h3, ?_⟩
  rcases h4 with rfl | ⟨g, cur, rfl, hb, hh, r⟩
  · exact .inl rfl
  · by_cases hc : c = 0
    · exact .inl hc
    · exact .inr ⟨g, cur, rfl, hb, (hk g (by simp [blkB, hc])).trans hh, r⟩
theorem OwnB.below {w w' : World} {F : Nat → Prop} {v : Value} {bs : List UInt8} (h : OwnB w F v bs) (hb : Below w.heap.size w w') : OwnB w' F v bs :=
  h.kept fun g hg => hb.block g (h.blk hg).2.2
theorem OwnB.only {w w' : World} {F : Nat → Prop} {v : Value} {bs : List UInt8} {S : Nat → Prop} (h : OwnB w F v bs) (ho : Only S w w') (hd : ∀ g, blkB v = some g → ¬ S g) : OwnB w' F v bs :=
  h.kept fun g hg => ho.block g (h.blk hg).2.2 (hd g hg)
theorem OwnB.byt {w : World} {F : Nat → Prop} {v : Value} {bs : List UInt8} (h : OwnB w F v bs) : Byt w (fun i => F i ∧ Loose w i) v bs := by
  obtain ⟨A, c, rfl, h1, h2, h3, h4⟩ := h
  refine ⟨A, c, rfl, h1, h2, h3, by simp, fun hn => ?_⟩
  rcases h4 with rfl | ⟨g, cur, rfl, hb, hh, hc, ht⟩
  · omega
  · refine ⟨g, 0, rfl, ⟨hb, cur, hh⟩, (Array.getElem?_eq_some_iff.1 hh).1, fun j u hu => ?_⟩
    rw [cell_of_row w g _ cur _ _ hh, Nat.zero_add]
    rw [← ht, List.getElem?_take] at hu
    split at hu
    · simpa using hu
    · cases hu
theorem OwnB.of_own {w : World} {base : Nat} {F : Nat → Prop} {v : Value} {bs : List UInt8} (h : w.ownsRow base 5 1 v bs.length (bs.map bcell)) (hl : bs.length ≤ 140737488355328) (hF : ∀ i, base ≤ i → F i) : OwnB w F v bs := by
  rcases h.2 with ⟨rfl, h0⟩ | ⟨g, cap, cur, rfl, hbg, hh, hcap, hcm, hcs, ht⟩
  · have : bs = [] := List.eq_nil_of_length_eq_zero h0
    subst this
    exact OwnB.nil _ _
  · exact ⟨_, _, rfl, hcap, by unfold maxLen at hcm; omega, hl, .inr ⟨g, cur, rfl, hF g hbg, hh, by omega, by simpa using ht⟩⟩

theorem run_append_ownB (w : World) (F F' : Nat → Prop) (ty : TypeId) (v src : Value) (S : Nat → Prop) (bs cs : List UInt8) (hown : OwnB w F v bs) (h : Byt w S src cs) (hl : bs.length + cs.length ≤ 140737488355328) (hF : ∀ i, F i → F' i) (hnew : F' w.heap.size) :
    ∃ v' w', (Builtin.append_ #[35, 35] ty #[v, src]).run Try.prog w = .ok v' w' ∧ OwnB w' F' v' (bs ++ cs) ∧ w.grownBy w' (blkB v) ∧ (blkB v' = blkB v ∨ blkB v' = some w.heap.size) := by
  obtain ⟨i0, hi, hz0, hz1, hz2⟩ := info_parts info5
  obtain ⟨B, d, rfl, g1, g2, g3, hr⟩ := h
  rcases Nat.eq_zero_or_pos cs.length with h0 | h0
  · have : cs = [] := List.eq_nil_of_length_eq_zero h0
    subst this
    rw [List.append_nil]
    have hown' := hown.mono hF
    obtain ⟨A, c, rfl, h1, h2, h3, h4⟩ := hown
    refine ⟨_, w, ?_, hown', World.grownBy.refl w _, .inl rfl⟩
    rcases A with _ | a
    · have hn : bs.length = 0 := by rcases h4 with h4 | ⟨g, cur, h4, _⟩; omega; cases h4
      rcases B with _ | b <;> simp [Builtin.append_, run_underlying Try.underlying35, sizeOf, typeInfo, hi, Builtin.lenOf, Builtin.firstCells, loadCells, loadCellsFrom, hn]
    · rcases B with _ | b <;> simp [Builtin.append_, run_underlying Try.underlying35, sizeOf, typeInfo, hi, Builtin.lenOf, Builtin.firstCells, loadCells, loadCellsFrom, h1, storeCells]
  · obtain ⟨b, o, rfl, _, _, hc⟩ := hr.2 h0
    have hnews : ∀ j u, (cs.map bcell)[j]? = some u → w.cell? ((⟨b, o, none⟩ : Addr).add j) = some u := fun j u hu => by rw [Addr.add_lit]; exact hc j u hu
    obtain ⟨A, c, rfl, h1, h2, h3, h4⟩ := hown
    have hll : (bs ++ cs).length = bs.length + cs.length := by simp
    by_cases hroom : bs.length + cs.length ≤ c
    · rcases h4 with rfl | ⟨g, cur, rfl, hb, hh, hcc, ht⟩
      · omega
      · have hrun := run_append_room (P := Try.prog) w 35 ty 5 i0 Try.underlying35 hi g bs.length c cur hh ⟨b, o, none⟩ cs.length d (cs.map bcell) (by simp [hz1]) hnews (by simp [Value.oneCell', bcell]) hroom (by simp [hz1]; omega)
        refine ⟨_, _, hrun, ⟨_, _, by rw [hll], by omega, h2, by omega, .inr ⟨g, _, rfl, hF g hb, setRow_heap w g cur _ 5 _ hh, ?_, ?_⟩⟩, ⟨rfl, rfl, rfl, by simp, fun k _ hk => setRow_other w g k _ (fun e => hk (by rw [e]; simp [blkB]; omega))⟩, .inl rfl⟩
        · simp [hz1]
          omega
        · rw [hz1, Nat.mul_one, ht, hll, ← List.map_append]
          have : ((bs ++ cs).map bcell).length = bs.length + cs.length := by simp
          rw [← this]
          exact List.take_left
    · have hA : ∃ olds : List Value, olds = bs.map bcell ∧ ∀ a, A = some a → ∀ j u, olds[j]? = some u → w.cell? (a.add j) = some u := by
        refine ⟨_, rfl, fun a ha j u hu => ?_⟩
        rcases h4 with rfl | ⟨g, cur, rfl, hb, hh, hcc, ht⟩
        · have : bs = [] := List.eq_nil_of_length_eq_zero (by omega)
          subst this
          simp at hu
        · obtain rfl := Option.some.inj ha
          rw [Addr.add_lit, cell_of_row w g _ cur _ _ hh, Nat.zero_add]
          rw [← ht, List.getElem?_take] at hu
          split at hu
          · simpa using hu
          · cases hu
      obtain ⟨olds, ho, hA⟩ := hA
      have key : ∀ (w' : World) (cap : Nat), bs.length + cs.length ≤ cap → cap ≤ maxLen → w' = w.drew.alloc (.cells (olds.toArray ++ (cs.map bcell).toArray ++ Builtin.zeroCells (Value.cells (.int .u8 0)) (cap - (bs.length + cs.length))) 5) →
          OwnB w' F' (.slice (some ⟨w.heap.size, 0, none⟩) (bs.length + cs.length) cap) (bs ++ cs) ∧ w.grownBy w' (blkB (.slice A bs.length c)) ∧ blkB (.slice (some ⟨w.heap.size, 0, none⟩) (bs.length + cs.length) cap) = some w.heap.size := by
        intro w' cap hc1 hc2 hw
        subst hw
        refine ⟨⟨_, _, by rw [hll], by omega, by unfold maxLen at hc2; omega, by omega, .inr ⟨w.heap.size, _, rfl, hnew, heap_alloc_new w.drew _, ?_, ?_⟩⟩, ⟨rfl, rfl, rfl, by simp, fun k hk _ => Below.heap_alloc w.drew _ k hk⟩, by simp [blkB]; omega⟩
        · simp only [Array.size_append, List.size_toArray, size_zeroCells, ho, List.length_map]
          simp [Value.cells]
          omega
        · simp only [Array.toList_append, ho, List.append_assoc]
          rw [← List.append_assoc, ← List.map_append, hll]
          have : ((bs ++ cs).map bcell).length = bs.length + cs.length := by simp
          rw [← this]
          exact List.take_left
      rcases A with _ | a
      · have hbs : bs = [] := by
          rcases h4 with rfl | ⟨g, cur, h4, _⟩
          · exact List.eq_nil_of_length_eq_zero (by omega)
          · cases h4
        subst hbs
        have hc0 : c = 0 := by rcases h4 with h4 | ⟨g, cur, h4, _⟩; exact h4; cases h4
        subst hc0
        have hrun := run_append_nil (P := Try.prog) w 35 ty 5 i0 (.int .u8 0) Try.underlying35 hi hz0 ⟨b, o, none⟩ cs.length d (cs.map bcell) (by simp [hz1]) hnews (by omega) (by simp at hl; omega) (by rw [hz2]; simp at hl; omega)
        have hk := key _ _ (by simpa using grownCap_ge w cs.length 0 5) (grownCap_le_maxLen w cs.length 0 5 (by unfold maxLen; omega)) rfl
        subst ho
        simp only [List.length_nil, Nat.zero_add, List.map_nil, List.append_toArray, List.nil_append] at hk ⊢
        exact ⟨_, _, hrun, hk.1, hk.2.1, .inr hk.2.2⟩
      · have hrun := run_append_grow (P := Try.prog) w 35 ty 5 i0 (.int .u8 0) Try.underlying35 hi hz0 a bs.length c olds (by simp [ho, hz1]) (hA a rfl) ⟨b, o, none⟩ cs.length d (cs.map bcell) (by simp [hz1]) hnews (by omega) (by omega) (growslice_fits (by omega) (by rw [hz2]; omega))
        have hk := key _ (grownCap w (bs.length + cs.length) c 5) (grownCap_ge w _ c 5) (grownCap_le_maxLen w _ c 5 (by unfold maxLen; omega)) rfl
        exact ⟨_, _, hrun, hk.1, hk.2.1, .inr hk.2.2⟩
theorem wpList_append_ownB {w : World} {ops : Array Oper} {rest : List Oper} {o : Oper} {a : Act} {Q : Exit → Act → World → Prop} (hgd : o.guard = none) (s x : Operand)
    (ho : o.op = .call { callee := .builtin .append, args := #[s, x], argTypes := #[35, 35] }) (F F' : Nat → Prop) (v src : Value) (hs : a.eval s = v) (hx : a.eval x = src)
    (S : Nat → Prop) (bs cs : List UInt8) (hown : OwnB w F v bs) (h : Byt w S src cs) (hl : bs.length + cs.length ≤ 140737488355328) (hF : ∀ i, F i → F' i) (hnew : F' w.heap.size)
    (hK : ∀ v' w', OwnB w' F' v' (bs ++ cs) → w.grownBy w' (blkB v) → (blkB v' = blkB v ∨ blkB v' = some w.heap.size) → wpList Try.prog ops Q rest (a.put o.dst v') w') : wpList Try.prog ops Q (o :: rest) a w :=
  wpList_plain hgd fun _ hk => by
    obtain ⟨v', w', hrun, h2, h3, h4⟩ := run_append_ownB w F F' o.type v src S bs cs hown h hl hF hnew
    unfold Oper.wp execOp
    simp only [ho, resolve, invoke, builtin, Sem.run_bind, Sem.run_pure, Result.andThen_ok, List.map_toArray, List.map_cons, List.map_nil, hs, hx, hrun]
    exact hk _ _ (hK v' w' h2 h3 h4)
end Go.Proofs.Ytcmjoaepihbodaa
