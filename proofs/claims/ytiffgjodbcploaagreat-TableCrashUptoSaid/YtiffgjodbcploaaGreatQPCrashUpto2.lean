/-
varint.form, AppendUint, AppendBytes.
-/
import Derived.Test.YtiffgjodbcploaaGreatQPCrashUpto1
import Derived.Deep.Cut
import Derived.OwnWalk
import Derived.Lib.AppendZerosOnto
section
namespace Go.Proofs.YtiffgjodbcploaaGreat
set_option maxRecDepth 100000
open Go.RowKit Go.BigFrame Go.Sort Go.Shelf Go.Lib Go.Maps
attribute [local go_sem ↓] Go.wp_at_zero Go.wp_at_succ
/-- the block that a slice with room leads to. -/
def blkB : Value → Option Nat
  | .slice (some a) _ c => if c = 0 then none else some a.block
  | _ => none
/-- a slice of bytes in a block of its own, from its beginning on. -/
def OwnB (w : World) (F : Nat → Prop) (v : Value) (bs : List UInt8) : Prop :=
  ∃ A c, v = .slice A bs.length c ∧ bs.length ≤ c ∧ c ≤ 9223372036854775807 ∧ bs.length ≤ 140737488355328 ∧ (c = 0 ∨ ∃ (g : Nat) (cur : Array Value), A = some ⟨g, 0, none⟩ ∧ F g ∧ w.heap[g]? = some (.cells cur 5 (0, 0)) ∧ c ≤ cur.size ∧ cur.toList.take bs.length = bs.map bcell)
theorem OwnB.nil (w : World) (F : Nat → Prop) : OwnB w F (.slice none 0 0) [] := ⟨none, 0, rfl, Nat.le_refl _, by omega, by simp, .inl rfl⟩
theorem OwnB.form {w : World} {F : Nat → Prop} {v : Value} {bs : List UInt8} (h : OwnB w F v bs) : ∃ A c, v = .slice A bs.length c := by
  obtain ⟨A, c, e, _⟩ := h
  exact ⟨A, c, e⟩
theorem OwnB.len {w : World} {F : Nat → Prop} {v : Value} {bs : List UInt8} (h : OwnB w F v bs) : bs.length ≤ 140737488355328 := by
  obtain ⟨A, c, e, _, _, h, _⟩ := h
  exact h
theorem OwnB.mono {w : World} {F F' : Nat → Prop} {v : Value} {bs : List UInt8} (h : OwnB w F v bs) (hb : ∀ i, F i → F' i) : OwnB w F' v bs := by
  obtain ⟨A, c, e, h1, h2, h3, h4⟩ := h
  refine ⟨A, c, e, h1, h2, h3, h4.imp id fun ⟨g, cur, a, b, r⟩ => ⟨g, cur, a, hb g b, r⟩⟩
/-- its block. -/
theorem OwnB.blk {w : World} {F : Nat → Prop} {v : Value} {bs : List UInt8} (h : OwnB w F v bs) {g : Nat} (hg : blkB v = some g) : F g ∧ Loose w g ∧ g < w.heap.size := by
  obtain ⟨A, c, rfl, h1, h2, h3, h4⟩ := h
  rcases h4 with rfl | ⟨g', cur, rfl, hb, hh, _⟩
  · cases A <;> simp [blkB] at hg
  · by_cases hc : c = 0
    · simp [blkB, hc] at hg
    · simp only [blkB, if_neg hc, Option.some.injEq] at hg
      subst hg
      exact ⟨hb, ⟨cur, hh⟩, (Array.getElem?_eq_some_iff.1 hh).1⟩
theorem OwnB.kept {w w' : World} {F : Nat → Prop} {v : Value} {bs : List UInt8} (h : OwnB w F v bs) (hk : ∀ g, blkB v = some g → w'.heap[g]? = w.heap[g]?) : OwnB w' F v bs := by
  obtain ⟨A, c, rfl, h1, h2, h3, h4⟩ := h
  refine ⟨A, c, rfl, h1, h2, h3, ?_⟩
  rcases h4 with rfl | ⟨g, cur, rfl, hb, hh, r⟩
  · exact .inl rfl
  · by_cases hc : c = 0
    · exact .inl hc
    · exact .inr ⟨g, cur, rfl, hb, (hk g (by simp [blkB, hc])).trans hh, r⟩
theorem OwnB.below {w w' : World} {F : Nat → Prop} {v : Value} {bs : List UInt8} (h : OwnB w F v bs) (hb : Below w.heap.size w w') : OwnB w' F v bs :=
  h.kept fun g hg => hb.block g (h.blk hg).2.2
theorem OwnB.only {w w' : World} {F : Nat → Prop} {v : Value} {bs : List UInt8} {S : Nat → Prop} (h : OwnB w F v bs) (ho : Only S w w') (hd : ∀ g, blkB v = some g → ¬ S g) : OwnB w' F v bs :=
  h.kept fun g hg => ho.block g (h.blk hg).2.2 (hd g hg)
theorem OwnB.byt {w : World} {F : Nat → Prop} {v : Value} {bs : List UInt8} (h : OwnB w F v bs) : Byt w (fun i => F i ∧ Loose w i) v bs := by
  obtain ⟨A, c, rfl, h1, h2, h3, h4⟩ := h
  refine ⟨A, c, rfl, h1, h2, h3, by simp, fun hn => ?_⟩
  rcases h4 with rfl | ⟨g, cur, rfl, hb, hh, hc, ht⟩
  · omega
  · refine ⟨g, 0, rfl, ⟨hb, cur, hh⟩, (Array.getElem?_eq_some_iff.1 hh).1, fun j u hu => ?_⟩
    rw [cell_of_row w g _ cur _ _ hh, Nat.zero_add]
    rw [← ht, List.getElem?_take] at hu
    split at hu
    · simpa using hu
    · cases hu
theorem OwnB.of_own {w : World} {base : Nat} {F : Nat → Prop} {v : Value} {bs : List UInt8} (h : w.ownsRow base 5 1 v bs.length (bs.map bcell)) (hl : bs.length ≤ 140737488355328) (hF : ∀ i, base ≤ i → F i) : OwnB w F v bs := by
  rcases h.2 with ⟨rfl, h0⟩ | ⟨g, cap, cur, rfl, hbg, hh, hcap, hcm, hcs, ht⟩
  · have : bs = [] := List.eq_nil_of_length_eq_zero h0
    subst this
    exact OwnB.nil _ _
  · exact ⟨_, _, rfl, hcap, by unfold maxLen at hcm; omega, hl, .inr ⟨g, cur, rfl, hF g hbg, hh, by omega, by simpa using ht⟩⟩
theorem run_append_ownB (w : World) (F F' : Nat → Prop) (ty : TypeId) (v src : Value) (S : Nat → Prop) (bs cs : List UInt8) (hown : OwnB w F v bs) (h : Byt w S src cs) (hl : bs.length + cs.length ≤ 140737488355328) (hF : ∀ i, F i → F' i) (hnew : F' w.heap.size) :
    ∃ v' w', (Builtin.append_ #[42, 42] ty #[v, src]).run Tryz.prog w = .ok v' w' ∧ OwnB w' F' v' (bs ++ cs) ∧ w.grownBy w' (blkB v) ∧ (blkB v' = blkB v ∨ blkB v' = some w.heap.size) := by
  obtain ⟨i0, hi, hz0, hz1, hz2⟩ := info_parts info5
  obtain ⟨B, d, rfl, g1, g2, g3, hr⟩ := h
  rcases Nat.eq_zero_or_pos cs.length with h0 | h0
  · have : cs = [] := List.eq_nil_of_length_eq_zero h0
    subst this
    rw [List.append_nil]
    have hown' := hown.mono hF
    obtain ⟨A, c, rfl, h1, h2, h3, h4⟩ := hown
    refine ⟨_, w, ?_, hown', World.grownBy.refl w _, .inl rfl⟩
    rcases A with _ | a
    · have hn : bs.length = 0 := by rcases h4 with h4 | ⟨g, cur, h4, _⟩; omega; cases h4
      rcases B with _ | b <;> simp [Builtin.append_, run_underlying Tryz.underlying42, sizeOf, typeInfo, hi, Builtin.lenOf, Builtin.firstCells, loadCells, loadCellsFrom, hn]
    · rcases B with _ | b <;> simp [Builtin.append_, run_underlying Tryz.underlying42, sizeOf, typeInfo, hi, Builtin.lenOf, Builtin.firstCells, loadCells, loadCellsFrom, h1, storeCells]
  · obtain ⟨b, o, rfl, _, _, hc⟩ := hr.2 h0
    have hnews : ∀ j u, (cs.map bcell)[j]? = some u → w.cell? ((⟨b, o, none⟩ : Addr).add j) = some u := fun j u hu => by rw [Addr.add_lit]; exact hc j u hu
    obtain ⟨A, c, rfl, h1, h2, h3, h4⟩ := hown
    have hll : (bs ++ cs).length = bs.length + cs.length := by simp
    by_cases hroom : bs.length + cs.length ≤ c
    · rcases h4 with rfl | ⟨g, cur, rfl, hb, hh, hcc, ht⟩
      · omega
      · have hrun := run_append_room (P := Tryz.prog) w 42 ty 5 i0 Tryz.underlying42 hi g bs.length c cur hh ⟨b, o, none⟩ cs.length d (cs.map bcell) (by simp [hz1]) hnews (by simp [Value.oneCell', bcell]) hroom (by simp [hz1]; omega)
        refine ⟨_, _, hrun, ⟨_, _, by rw [hll], by omega, h2, by omega, .inr ⟨g, _, rfl, hF g hb, setRow_heap w g cur _ 5 _ hh, ?_, ?_⟩⟩, ⟨rfl, rfl, rfl, by simp, fun k _ hk => setRow_other w g k _ (fun e => hk (by rw [e]; simp [blkB]; omega))⟩, .inl rfl⟩
        · simp [hz1]
          omega
        · rw [hz1, Nat.mul_one, ht, hll, ← List.map_append]
          have : ((bs ++ cs).map bcell).length = bs.length + cs.length := by simp
          rw [← this]
          exact List.take_left
    · have hA : ∃ olds : List Value, olds = bs.map bcell ∧ ∀ a, A = some a → ∀ j u, olds[j]? = some u → w.cell? (a.add j) = some u := by
        refine ⟨_, rfl, fun a ha j u hu => ?_⟩
        rcases h4 with rfl | ⟨g, cur, rfl, hb, hh, hcc, ht⟩
        · have : bs = [] := List.eq_nil_of_length_eq_zero (by omega)
          subst this
          simp at hu
        · obtain rfl := Option.some.inj ha
          rw [Addr.add_lit, cell_of_row w g _ cur _ _ hh, Nat.zero_add]
          rw [← ht, List.getElem?_take] at hu
          split at hu
          · simpa using hu
          · cases hu
      obtain ⟨olds, ho, hA⟩ := hA
      have key : ∀ (w' : World) (cap : Nat), bs.length + cs.length ≤ cap → cap ≤ maxLen → w' = w.drew.alloc (.cells (olds.toArray ++ (cs.map bcell).toArray ++ Builtin.zeroCells (Value.cells (.int .u8 0)) (cap - (bs.length + cs.length))) 5) →
          OwnB w' F' (.slice (some ⟨w.heap.size, 0, none⟩) (bs.length + cs.length) cap) (bs ++ cs) ∧ w.grownBy w' (blkB (.slice A bs.length c)) ∧ blkB (.slice (some ⟨w.heap.size, 0, none⟩) (bs.length + cs.length) cap) = some w.heap.size := by
        intro w' cap hc1 hc2 hw
        subst hw
        refine ⟨⟨_, _, by rw [hll], by omega, by unfold maxLen at hc2; omega, by omega, .inr ⟨w.heap.size, _, rfl, hnew, heap_alloc_new w.drew _, ?_, ?_⟩⟩, ⟨rfl, rfl, rfl, by simp, fun k hk _ => Below.heap_alloc w.drew _ k hk⟩, by simp [blkB]; omega⟩
        · simp only [Array.size_append, List.size_toArray, size_zeroCells, ho, List.length_map]
          simp [Value.cells]
          omega
        · simp only [Array.toList_append, ho, List.append_assoc]
          rw [← List.append_assoc, ← List.map_append, hll]
          have : ((bs ++ cs).map bcell).length = bs.length + cs.length := by simp
          rw [← this]
          exact List.take_left
      rcases A with _ | a
      · have hbs : bs = [] := by
          rcases h4 with rfl | ⟨g, cur, h4, _⟩
          · exact List.eq_nil_of_length_eq_zero (by omega)
          · cases h4
        subst hbs
        have hc0 : c = 0 := by rcases h4 with h4 | ⟨g, cur, h4, _⟩; exact h4; cases h4
        subst hc0
        have hrun := run_append_nil (P := Tryz.prog) w 42 ty 5 i0 (.int .u8 0) Tryz.underlying42 hi hz0 ⟨b, o, none⟩ cs.length d (cs.map bcell) (by simp [hz1]) hnews (by omega) (by simp at hl; omega) (by rw [hz2]; simp at hl; omega)
        have hk := key _ _ (by simpa using grownCap_ge w cs.length 0 5) (grownCap_le_maxLen w cs.length 0 5 (by unfold maxLen; omega)) rfl
        subst ho
        simp only [List.length_nil, Nat.zero_add, List.map_nil, List.append_toArray, List.nil_append] at hk ⊢
        exact ⟨_, _, hrun, hk.1, hk.2.1, .inr hk.2.2⟩
      · have hrun := run_append_grow (P := Tryz.prog) w 42 ty 5 i0 (.int .u8 0) Tryz.underlying42 hi hz0 a bs.length c olds (by simp [ho, hz1]) (hA a rfl) ⟨b, o, none⟩ cs.length d (cs.map bcell) (by simp [hz1]) hnews (by omega) (by omega) (growslice_fits (by omega) (by rw [hz2]; omega))
        have hk := key _ (grownCap w (bs.length + cs.length) c 5) (grownCap_ge w _ c 5) (grownCap_le_maxLen w _ c 5 (by unfold maxLen; omega)) rfl
        exact ⟨_, _, hrun, hk.1, hk.2.1, .inr hk.2.2⟩
theorem wpList_append_ownB {w : World} {ops : Array Oper} {rest : List Oper} {o : Oper} {a : Act} {Q : Exit → Act → World → Prop} (hgd : o.guard = none) (s x : Operand)
    (ho : o.op = .call { callee := .builtin .append, args := #[s, x], argTypes := #[42, 42] }) (F F' : Nat → Prop) (v src : Value) (hs : a.eval s = v) (hx : a.eval x = src)
    (S : Nat → Prop) (bs cs : List UInt8) (hown : OwnB w F v bs) (h : Byt w S src cs) (hl : bs.length + cs.length ≤ 140737488355328) (hF : ∀ i, F i → F' i) (hnew : F' w.heap.size)
    (hK : ∀ v' w', OwnB w' F' v' (bs ++ cs) → w.grownBy w' (blkB v) → (blkB v' = blkB v ∨ blkB v' = some w.heap.size) → wpList Tryz.prog ops Q rest (a.put o.dst v') w') : wpList Tryz.prog ops Q (o :: rest) a w :=
  wpList_plain hgd fun _ hk => by
    obtain ⟨v', w', hrun, h2, h3, h4⟩ := run_append_ownB w F F' o.type v src S bs cs hown h hl hF hnew
    unfold Oper.wp execOp
    simp only [ho, resolve, invoke, builtin, Sem.run_bind, Sem.run_pure, Result.andThen_ok, List.map_toArray, List.map_cons, List.map_nil, hs, hx, hrun]
    exact hk _ _ (hK v' w' h2 h3 h4)
end Go.Proofs.YtiffgjodbcploaaGreat
end
section
namespace Go.Proofs.YtiffgjodbcploaaGreat
set_option maxRecDepth 100000
open Go.RowKit Go.BigFrame
attribute [local go_sem ↓] Go.wp_at_zero Go.wp_at_succ
/-- own bytes in blocks from a place on. -/
abbrev OwnF (w : World) (lo : Nat) (v : Value) (bs : List UInt8) : Prop := OwnB w (fun i => lo ≤ i) v bs
theorem byte_of {n : Nat} : Value.int .u8 ((n : Int) % 256) = bcell (UInt8.ofNat n) := by
  unfold bcell
  congr 1
theorem le32_cells (n : Nat) : (#[.int .u8 ((n : Int) % 256), .int .u8 ((n : Int) / 256 % 256), .int .u8 ((n : Int) / 65536 % 256), .int .u8 ((n : Int) / 16777216 % 256)] : Array Value) = ((le32 n).map bcell).toArray := by
  have e1 : ((n : Int) / 256) = ((n / 256 : Nat) : Int) := by simp
  have e2 : ((n : Int) / 65536) = ((n / 65536 : Nat) : Int) := by simp
  have e3 : ((n : Int) / 16777216) = ((n / 16777216 : Nat) : Int) := by simp
  rw [e1, e2, e3, byte_of, byte_of, byte_of, byte_of]
  rfl
theorem or_hi {v c i : Nat} (hv : v < 2 ^ i) : v ||| c * 2 ^ i = v + c * 2 ^ i := by
  rw [Nat.or_comm, Nat.mul_comm c, ← Nat.two_pow_add_eq_or_of_lt hv]
  omega
theorem or32 {v c i : Nat} (hv : v < 2 ^ i) (h : v + c * 2 ^ i < 4294967296) : bits .or .u32 (v : Int) ((c * 2 ^ i : Nat) : Int) = ((v + c * 2 ^ i : Nat) : Int) := by
  have := (bits_nat .u32 32 (by decide) wraps32 v (c * 2 ^ i) (by omega) (by omega)).2
  rw [this, or_hi hv]
theorem get_bits (x0 x1 x2 x3 : UInt8) : bits .or .u32 (bits .or .u32 (bits .or .u32 ((x0.toNat : Int) % 4294967296) ((x1.toNat : Int) % 4294967296 * 256 % 4294967296)) ((x2.toNat : Int) % 4294967296 * 65536 % 4294967296)) ((x3.toNat : Int) % 4294967296 * 16777216 % 4294967296) =
    ((x0.toNat + x1.toNat * 256 + x2.toNat * 65536 + x3.toNat * 16777216 : Nat) : Int) := by
  have h0 := x0.toNat_lt
  have h1 := x1.toNat_lt
  have h2 := x2.toNat_lt
  have h3 := x3.toNat_lt
  rw [show (x0.toNat : Int) % 4294967296 = (x0.toNat : Int) by omega, show (x1.toNat : Int) % 4294967296 * 256 % 4294967296 = ((x1.toNat * 2 ^ 8 : Nat) : Int) by omega,
    show (x2.toNat : Int) % 4294967296 * 65536 % 4294967296 = ((x2.toNat * 2 ^ 16 : Nat) : Int) by omega, show (x3.toNat : Int) % 4294967296 * 16777216 % 4294967296 = ((x3.toNat * 2 ^ 24 : Nat) : Int) by omega]
  rw [or32 (i := 8) (by omega) (by omega), or32 (i := 16) (by omega) (by omega), or32 (i := 24) (by omega) (by omega)]
theorem Byt.lit4 (w : World) (S : Nat → Prop) (hS : S w.heap.size) (bs : List UInt8) (o : Obj) (n : Nat) (hn : bs.length = n) (h4 : n ≤ 140737488355328) (ho : o = .cells (bs.map bcell).toArray 5 (0, 0)) : Byt (w.alloc o) S (.slice (some ⟨w.heap.size, 0, none⟩) n n) bs := by
  subst hn ho
  refine ⟨_, _, rfl, Nat.le_refl _, by omega, h4, by simp, fun _ => ⟨w.heap.size, 0, rfl, hS, by simp, fun j u hu => ?_⟩⟩
  rw [World.cell?_alloc_at _ _ _ _ rfl]
  simpa using hu
set_option maxRecDepth 100000 in
set_option maxHeartbeats 2000000 in
theorem put_any (lo n : Nat) (v : Value) (bs : List UInt8) (w : World) (hv : OwnF w lo v bs) (hn : n < 4294967296) (hl : bs.length + 4 ≤ 140737488355328) (hlo : lo ≤ w.heap.size) :
    Calls Tryz.prog 52 #[v, .int .u32 n] w fun r w' => ∃ A c, r = .returned (.slice A (bs.length + 4) c) ∧ OwnF w' lo (.slice A (bs.length + 4) c) (bs ++ le32 n) ∧ Below lo w w' := by
  obtain ⟨A, c, rfl⟩ := hv.form
  have HV := Lib.hid hv
  have HN := Lib.hid hn
  clear hv hn
  go_enter Tryz.func52, Tryz.ntmps52
  have hlt : Byt (w.alloc (.cells #[.int .u8 ((n : Int) % 256), .int .u8 ((n : Int) / 256 % 256), .int .u8 ((n : Int) / 65536 % 256), .int .u8 ((n : Int) / 16777216 % 256)] 5)) (fun _ => True) (.slice (some ⟨w.heap.size, 0, none⟩) 4 4) (le32 n) := Byt.lit4 w _ trivial (le32 n) _ 4 rfl (by omega) (by rw [le32_cells])
  have hal : OwnF (w.alloc (.cells #[.int .u8 ((n : Int) % 256), .int .u8 ((n : Int) / 256 % 256), .int .u8 ((n : Int) / 65536 % 256), .int .u8 ((n : Int) / 16777216 % 256)] 5)) lo (.slice A bs.length c) bs := HV.out.below (fr.alloc fr.refl _)
  go_wp2_with (at_builtin; refine wpList_append_ownB rfl _ _ rfl (fun i => lo ≤ i) (fun i => lo ≤ i) (.slice A bs.length c) _ rfl rfl (fun _ => True) bs (le32 n) hal hlt (by rw [le32_len]; exact hl) (fun _ h => h) (by rw [World.size_alloc]; omega) ?_; intro v2 w2 hown hgrow hat; obtain ⟨A2, c2, rfl⟩ := hown.form; rw [List.length_append, le32_len] at hown ⊢)
  refine bodyPost_ret (v := .slice A2 (bs.length + 4) c2) (by simp [results, Tryz.results52, go_sem]) rfl ?_
  refine ⟨A2, c2, rfl, hown, ?_⟩
  exact RowKit.Below.grown (B := lo) ((Below.refl lo w).alloc hlo _) hgrow (by rw [World.size_alloc]; omega) (fun j e => (HV.out.blk e).1)
set_option maxRecDepth 100000 in
set_option maxHeartbeats 2000000 in
theorem get_any (S : Nat → Prop) (v : Value) (bs : List UInt8) (w : World) (hv : Byt w S v bs) (h4 : 4 ≤ bs.length) :
    Calls Tryz.prog 90 #[v] w fun r w' => r = .returned (.int .u32 (un32 bs : Nat)) ∧ fr w w' := by
  obtain ⟨A, c, rfl, hc, hcm, hl, hr⟩ := hv
  obtain ⟨b, o, rfl, hS, hb, hcell⟩ := hr.2 (by omega)
  match bs, h4, hcell, hl with
  | x0 :: x1 :: x2 :: x3 :: rest, _, hcell, hl =>
    obtain ⟨n, hn⟩ : ∃ n, (x0 :: x1 :: x2 :: x3 :: rest).length = n := ⟨_, rfl⟩
    have hn4 : 4 ≤ n := by rw [← hn]; simp
    have c0 : w.cell? ⟨b, o, none⟩ = some (.int .u8 (x0.toNat : Int)) := hcell 0 _ rfl
    have c1 : w.cell? ⟨b, o + 1, none⟩ = some (.int .u8 (x1.toNat : Int)) := hcell 1 _ rfl
    have c2 : w.cell? ⟨b, o + 2, none⟩ = some (.int .u8 (x2.toNat : Int)) := hcell 2 _ rfl
    have c3 : w.cell? ⟨b, o + 3, none⟩ = some (.int .u8 (x3.toNat : Int)) := hcell 3 _ rfl
    have l0 : (0 : Int) < (n : Int) := by omega
    have l1 : (1 : Int) < (n : Int) := by omega
    have l2 : (2 : Int) < (n : Int) := by omega
    have l3 : (3 : Int) < (n : Int) := by omega
    have F0 : ∀ q : Ext w, q.w.cell? { block := b, off := o } = _ := fun q => q.h.cell c0
    have F1 : ∀ q : Ext w, q.w.cell? { block := b, off := o + 1 } = _ := fun q => q.h.cell c1
    have F2 : ∀ q : Ext w, q.w.cell? { block := b, off := o + 2 } = _ := fun q => q.h.cell c2
    have F3 : ∀ q : Ext w, q.w.cell? { block := b, off := o + 3 } = _ := fun q => q.h.cell c3
    rw [hn]
    clear hr hcell hn hl c0 c1 c2 c3
    go_enter Tryz.func90, Tryz.ntmps90
    go_wp2
    (refine wp_region_quiet_ext (by kernel_rfl) (by kernel_rfl) ?_; (repeat (go_big_quiet_step (fail))); refine wpQuiet_nil ?_; intro wq hw'; obtain ⟨⟨_, hq⟩, hw''⟩ := hw'; subst hw'')
    go_wp2
    refine bodyPost_ret (v := .int .u32 _) (by simp [results, Tryz.results90, go_sem]; rfl) rfl ?_
    exact ⟨by rw [get_bits]; rfl, hq⟩
end Go.Proofs.YtiffgjodbcploaaGreat
end
section
namespace Go.Proofs.YtiffgjodbcploaaGreat
set_option maxRecDepth 100000
open Go.RowKit Go.BigFrame
attribute [local go_sem ↓] Go.wp_at_zero Go.wp_at_succ
theorem BytsV.lit (w : World) (vs : List Value) (ps : List (List UInt8)) (n : Nat) (o : Obj) (ho : o = .cells vs.toArray 42 (0, 0)) (hn : ps.length = n) (hl : vs.length = n) (hb : n ≤ 9223372036854775807) (h : ∀ (i : Nat) (p : List UInt8), ps[i]? = some p → ∃ x, vs[i]? = some x ∧ Byt w (fun _ => True) x p) :
    BytsV (w.alloc o) (fun _ => True) (.slice (some ⟨w.heap.size, 0, none⟩) n n) ps := by
  subst hn ho
  refine ⟨_, _, vs, rfl, Nat.le_refl _, hb, ⟨by simp [hl], fun _ => ⟨w.heap.size, 0, rfl, trivial, by simp, fun j u hu => ?_⟩⟩, fun i p hp => by obtain ⟨x, hx, hy⟩ := h i p hp; exact ⟨x, hx, hy.below (fr.alloc fr.refl _)⟩⟩
  rw [World.cell?_alloc_at _ _ _ _ rfl]
  simpa using hu
set_option maxRecDepth 100000 in
set_option maxHeartbeats 2000000 in
theorem sumB_any (S : Nat → Prop) (v : Value) (bs : List UInt8) (w : World) (hv : Byt w S v bs) :
    Calls Tryz.prog 64 #[v] w fun r w' => r = .returned (.int .u32 (sumN bs : Nat)) ∧ fr w w' := by
  obtain ⟨A, c, rfl⟩ := slice_form hv
  have hb : BytsV (w.alloc (.cells #[.slice A bs.length c] 42)) (fun _ => True) (.slice (some ⟨w.heap.size, 0, none⟩) 1 1) [bs] := BytsV.lit w [.slice A bs.length c] [bs] 1 _ rfl rfl rfl (by omega) (fun i p hp => by
    match i, hp with
    | 0, hp => simp at hp; subst hp; exact ⟨_, rfl, hv.mono fun _ _ => trivial⟩
    | i + 1, hp => simp at hp)
  have HS := Lib.hid (sum_any _ _ _ _ hb)
  clear hb hv
  go_enter Tryz.func64, Tryz.ntmps64
  go_wp2_with (go_at_call 53; refine HS.out.mono ?_; rintro r w2 ⟨rfl, f2⟩)
  refine bodyPost_ret (v := .int .u32 (sumN [bs].flatten : Nat)) (by simp [results, Tryz.results64, go_sem]) rfl ?_
  exact ⟨by rw [List.flatten_singleton], fr.step (fr.alloc fr.refl _) f2⟩
set_option maxRecDepth 100000 in
set_option maxHeartbeats 4000000 in
theorem fput_any (S : Nat → Prop) (v : Value) (bs : List UInt8) (w : World) (hv : Byt w S v bs) :
    Calls Tryz.prog 27 #[v] w fun r w' => (bs.length ≤ 2097152 → ∃ A c, r = .returned (.tuple #[.slice A (bs.length + 8) c, .int .i64 0]) ∧ OwnF w' w.heap.size (.slice A (bs.length + 8) c) (putF bs)) ∧ (¬ bs.length ≤ 2097152 → r = .returned (.tuple #[.slice none 0 0, .int .i64 3])) ∧ fr w w' := by
  obtain ⟨i0, hi, hz0, hz1, hz2⟩ := info_parts info5
  have hby := Lib.hid hz2
  have hz1' := Lib.hid hz1
  clear hz2 hz1
  obtain ⟨A, c, rfl⟩ := slice_form hv
  have HV := Lib.hid hv
  obtain ⟨n, hn⟩ : ∃ n, bs.length = n := ⟨_, rfl⟩
  have HN := Lib.hid hn
  rw [hn] at HV ⊢
  clear hv hn
  by_cases hle : n ≤ 2097152
  case neg =>
    have hgt : (2097152 : Int) < (n : Int) := by omega
    go_enter Tryz.func27, Tryz.ntmps27
    go_wp2
    refine bodyPost_ret (v := .tuple #[_, _]) (by simp [results, Tryz.results27, go_sem]; exact ⟨rfl, rfl⟩) rfl ?_
    exact ⟨fun h => absurd h hle, fun _ => rfl, fr.refl⟩
  case pos =>
    have hmod : (n : Int) % 4294967296 = (n : Int) := by omega
    have hgt : ¬ (2097152 : Int) < (n : Int) := by omega
    have hsum := sumN_lt (le32 n ++ bs)
    obtain ⟨s, hs⟩ : ∃ s, sumN (le32 n ++ bs) = s := ⟨_, rfl⟩
    rw [hs] at hsum
    have HS := Lib.hid hs
    clear hs
    go_enter Tryz.func27, Tryz.ntmps27
    go_upto_region 4 with (first
      | (at_make; refine wpList_make_own _ rfl _ _ 42 rfl w.heap.size 5 i0 (.int .u8 0) 1 Tryz.underlying42 hi hz0 hz1'.out _ _ _ (8 + n) rfl rfl (by omega) (by rw [hby.out]; omega) (by unfold maxLen; omega) (Nat.le_refl _) ?_; intro w1 hown hgrow)
      | (go_at_call 52; refine (put_any w.heap.size n _ [] w1 (OwnB.of_own hown (by simp) (fun _ h => h)) (by omega) (by simp) hgrow.size).mono ?_; rintro r w2 ⟨A2, c2, rfl, ho2, hb2⟩; simp only [List.length_nil, Nat.zero_add, List.nil_append] at ho2 ⊢))
    have hw1 : Below w.heap.size w w1 := RowKit.Below.grown (B := w.heap.size) (Below.refl _ _) hgrow (Nat.le_refl _) (fun j e => by simp at e)
    have hw2 : Below w.heap.size w w2 := hw1.trans hb2
    have HW2 := Lib.hid hw2
    have HO2 := Lib.hid ho2
    have hbl : BytsV (w2.alloc (.cells #[.slice A2 4 c2, .slice A n c] 42)) (fun _ => True) (.slice (some ⟨w2.heap.size, 0, none⟩) 2 2) [le32 n, bs] := BytsV.lit w2 [.slice A2 4 c2, .slice A n c] [le32 n, bs] 2 _ rfl rfl rfl (by omega) (fun i p hp => by
      match i, hp with
      | 0, hp => simp at hp; subst hp; exact ⟨_, rfl, ho2.byt.mono fun _ _ => trivial⟩
      | 1, hp => simp at hp; subst hp; exact ⟨_, rfl, (HV.out.below hw2).mono fun _ _ => trivial⟩
      | i + 2, hp => simp at hp)
    have hsu := sum_any _ _ _ _ hbl
    rw [show [le32 n, bs].flatten = le32 n ++ bs by simp, HS.out] at hsu
    have HSU := Lib.hid hsu
    have HPF : Hid (putF bs = le32 n ++ le32 s ++ bs) := Lib.hid (by unfold putF; rw [HN.out, HS.out])
    have hal : fr w2 (w2.alloc (.cells #[.slice A2 4 c2, .slice A n c] 42)) := fr.alloc fr.refl _
    have HAL := Lib.hid hal
    clear hsu hbl hal hw2 hw1 hb2 ho2 hown hgrow HS
    go_wp2_with (first
      | (go_at_call 53; refine HSU.out.mono ?_; rintro r w3 ⟨rfl, f3⟩)
      | (go_at_call 52; refine (put_any w.heap.size s _ (le32 n) w3 (HO2.out.below (fr.step HAL.out f3)) hsum (by rw [le32_len]; omega) (by have := HW2.out.size; have := (fr.step HAL.out f3).size; omega)).mono ?_; rintro r w4 ⟨A4, c4, rfl, ho4, hb4⟩; simp only [le32_len, Nat.reduceAdd] at ho4 ⊢)
      | (at_builtin; refine wpList_append_ownB rfl _ _ rfl (fun i => w.heap.size ≤ i) (fun i => w.heap.size ≤ i) (.slice A4 8 c4) _ rfl rfl S (le32 n ++ le32 s) bs ho4 (HV.out.below ((HW2.out.trans ((fr.step HAL.out f3).mono HW2.out.size)).trans hb4)) (by simp only [List.length_append, le32_len, HN.out]; omega) (fun _ h => h) (by have := HW2.out.size; have := (fr.step HAL.out f3).size; have := hb4.size; omega) ?_; intro v5 w5 hown5 hgrow5 hat5; obtain ⟨A5, c5, rfl⟩ := hown5.form; simp only [List.length_append, le32_len, HN.out, Nat.reduceAdd] at hown5 ⊢))
    have hw4 : Below w.heap.size w w4 := (HW2.out.trans ((fr.step HAL.out f3).mono HW2.out.size)).trans hb4
    have hw5 : fr w w5 := RowKit.Below.grown (B := w.heap.size) hw4 hgrow5 hw4.size (fun j e => (ho4.blk e).1)
    refine bodyPost_ret (v := .tuple #[.slice A5 (8 + n) c5, .int .i64 0]) (by simp [results, Tryz.results27, go_sem]) rfl ?_
    rw [Nat.add_comm 8 n] at hown5 ⊢
    exact ⟨fun _ => ⟨A5, c5, rfl, by rw [HPF.out]; exact hown5⟩, fun h => absurd hle h, hw5⟩
end Go.Proofs.YtiffgjodbcploaaGreat
end
section
namespace Go.Proofs.YtiffgjodbcploaaGreat
set_option maxRecDepth 100000
open Go.RowKit Go.BigFrame
attribute [local go_sem ↓] Go.wp_at_zero Go.wp_at_succ
theorem wpList_growNil {w : World} {ops : Array Oper} {rest : List Oper} {o : Oper} {a : Act} {Q : Exit → Act → World → Prop} (hgd : o.guard = none) (s x : Operand)
    (ho : o.op = .call { callee := .builtin .append, args := #[s, x], argTypes := #[42, 3] }) (n : Nat) (hs : a.eval s = .slice none 0 0) (hx : a.eval x = .int .i64 n) (hn : 0 < n) (hb : n ≤ 140737488355328)
    (hK : ∀ c w', OwnF w' w.heap.size (.slice (some ⟨w.heap.size, 0, none⟩) 0 c) [] → c ≤ 9223372036854775807 → n ≤ c → fr w w' → wpList Tryz.prog ops Q rest (a.put o.dst (.slice (some ⟨w.heap.size, 0, none⟩) n c)) w') : wpList Tryz.prog ops Q (o :: rest) a w :=
  wpList_plain hgd fun _ hk => by
    obtain ⟨i0, hi, hz0, hz1, hz2⟩ := info_parts info5
    have hrun := Lib.run_append_grow_zeros (P := Tryz.prog) w 42 3 o.type 5 i0 (.int .u8 0) .i64 .i64 Tryz.underlying42 Tryz.underlying3 hi hz0 none 0 0 [] (by simp [Builtin.firstCells]) n hn (by omega) (by omega) (by omega) (by rw [hz2]; omega) (growslice_fits (by omega) (by rw [hz2]; omega))
    have hge := grownCap_ge w (0 + n) 0 5
    have hle := grownCap_le_maxLen w (0 + n) 0 5 (by unfold maxLen; omega)
    rw [Nat.zero_add] at hrun hge hle
    generalize grownCap w n 0 5 = c at hrun hge hle
    have hsz : (([] : List Value).toArray ++ Builtin.zeroCells (Value.cells (.int .u8 0)) n ++ Builtin.zeroCells (Value.cells (.int .u8 0)) (c - n)).size = c := by
      simp [Builtin.zeroCells, Value.cells]
      omega
    unfold maxLen at hle
    generalize ([] : List Value).toArray ++ Builtin.zeroCells (Value.cells (.int .u8 0)) n ++ Builtin.zeroCells (Value.cells (.int .u8 0)) (c - n) = cur at hrun hsz
    unfold Oper.wp execOp
    simp only [ho, resolve, invoke, builtin, Sem.run_bind, Sem.run_pure, Result.andThen_ok, List.map_toArray, List.map_cons, List.map_nil, hs, hx, hrun]
    refine hk _ _ (hK c _ ⟨_, c, rfl, Nat.zero_le _, by omega, by simp, .inr ⟨w.heap.size, cur, rfl, Nat.le_refl _, ?_, by omega, by simp⟩⟩ (by omega) hge (fr.alloc fr.refl.drew _))
    have := heap_alloc_new w.drew (.cells cur 5)
    rwa [World.size_drew] at this
set_option maxRecDepth 100000 in
set_option maxHeartbeats 1000000 in
theorem growNil_any (n : Nat) (w : World) (hb : n ≤ 140737488355328) :
    Calls Tryz.prog 97 #[.slice none 0 0, .int .i64 n] w fun r w' => ∃ A c, r = .returned (.slice A 0 c) ∧ OwnF w' w.heap.size (.slice A 0 c) [] ∧ fr w w' := by
  have h1 : ¬ ((n : Int) < 0) := by omega
  rcases Nat.eq_zero_or_pos n with h0 | h0
  · subst h0
    go_enter Tryz.func97, Tryz.ntmps97
    go_wp2
    refine bodyPost_ret (v := .slice none 0 0) (by simp [results, Tryz.results97, go_sem]) rfl ?_
    exact ⟨_, _, rfl, OwnB.nil _ _, fr.refl⟩
  · have hpos : (0 : Int) < (n : Int) := by omega
    go_enter Tryz.func97, Tryz.ntmps97
    go_wp2_with (at_builtin; refine wpList_growNil rfl _ _ rfl n rfl rfl h0 hb ?_; intro c w2 hown hc hnc hf)
    refine bodyPost_ret (v := .slice (some ⟨w.heap.size, 0, none⟩) 0 c) (by simp [results, Tryz.results97, go_sem]) rfl ?_
    exact ⟨_, _, rfl, hown, hf⟩
theorem take_flat {α : Type} {ps : List (List α)} {k : Nat} {p : List α} (h : ps[k]? = some p) : (ps.take (k + 1)).flatten = (ps.take k).flatten ++ p := by
  rw [take_snoc h, List.flatten_append, List.flatten_singleton]
theorem take_flat_le {α : Type} (ps : List (List α)) (k : Nat) : (ps.take k).flatten.length ≤ ps.flatten.length := by
  conv => rhs; rw [← List.take_append_drop k ps, List.flatten_append, List.length_append]
  omega
set_option maxRecDepth 100000 in
set_option maxHeartbeats 1000000 in
theorem concat_any (S : Nat → Prop) (v : Value) (ps : List (List UInt8)) (w : World) (hv : BytsV w S v ps) (hl : ps.flatten.length ≤ 140737488355328) :
    Calls Tryz.prog 84 #[v] w fun r w' => ∃ A c, r = .returned (.slice A ps.flatten.length c) ∧ OwnF w' w.heap.size (.slice A ps.flatten.length c) ps.flatten ∧ fr w w' := by
  obtain ⟨A, c, vs, rfl, hc, hcm, hr, he⟩ := hv
  obtain ⟨n, hn⟩ : ∃ n, ps.length = n := ⟨_, rfl⟩
  rw [hn] at hr hc ⊢
  have HN := Lib.hid hn
  have HE := Lib.hid he
  have HR := Lib.hid hr
  have HL := Lib.hid hl
  clear hn hr he hl
  go_enter Tryz.func84, Tryz.ntmps84
  go_wp2
  go_loopw [3, 11] (fun x t wr => ∃ k m : Nat, k ≤ n ∧ t = .int .i64 k ∧ x = .int .i64 m ∧ m = (ps.take k).flatten.length ∧ wr = w) (fun _ t _ => n - (intOf t).toNat)
  case atStart => exact ⟨0, 0, Nat.zero_le _, rfl, rfl, rfl, rfl⟩
  case round =>
    obtain ⟨k, m, hk, rfl, rfl, hm, rfl⟩ := hrel
    have hmb : m ≤ 140737488355328 := by have := take_flat_le ps k; have := HL.out; omega
    have HM := Lib.hid hm
    clear hm
    by_cases hkn : k < n
    · obtain ⟨p, hpk⟩ : ∃ p, ps[k]? = some p := ⟨_, List.getElem?_eq_getElem (by rw [HN.out]; exact hkn)⟩
      obtain ⟨x, hx, hxe⟩ := HE.out k p hpk
      obtain ⟨b, o, u, rfl, _, _, hu, hcell⟩ := HR.out.at_ hkn
      obtain rfl : u = x := by rw [hx] at hu; injection hu with hu; exact hu.symm
      obtain ⟨A1, c1, rfl⟩ := slice_form hxe
      have htf := take_flat hpk
      have hmp : m + p.length = (ps.take (k + 1)).flatten.length := by rw [htf, List.length_append, ← HM.out]
      have hmb2 : m + p.length ≤ 140737488355328 := by have := take_flat_le ps (k + 1); have := HL.out; omega
      obtain ⟨q, hq⟩ : ∃ q, p.length = q := ⟨_, rfl⟩
      rw [hq] at hcell hmp hmb2
      have HMP := Lib.hid hmp
      clear hx hu hxe htf hpk hq hmp
      go_wp2
      exact ⟨⟨k + 1, m + q, by omega, by go_num, by go_num, HMP.out, trivial⟩, by simp [intOf]; omega⟩
    · obtain rfl : k = n := by omega
      have hmm : m = ps.flatten.length := by rw [HM.out, List.take_of_length_le (by rw [HN.out]; exact Nat.le_refl _)]
      have HMM := Lib.hid hmm
      clear hmm
      obtain ⟨w0, hw0⟩ : ∃ w', w' = wr := ⟨_, rfl⟩
      subst hw0
      go_wp2_with (go_at_call 97; refine (growNil_any m _ hmb).mono ?_; rintro r w1 ⟨A1, c1, rfl, ho1, f1⟩)
      go_loopw [6, 27] (fun x t wx => ∃ j : Nat, j ≤ k ∧ t = .int .i64 j ∧ OwnF wx w0.heap.size x (ps.take j).flatten ∧ fr w0 wx) (fun _ t _ => k - (intOf t).toNat)
      case atStart => exact ⟨0, Nat.zero_le _, rfl, ho1, f1⟩
      case round =>
        clear ho1 f1
        obtain ⟨j, hj, rfl, ho, hf⟩ := hrel
        have HO := Lib.hid ho
        have HF := Lib.hid hf
        obtain ⟨A2, c2, rfl⟩ := ho.form
        clear ho hf
        by_cases hjk : j < k
        · obtain ⟨p, hpk⟩ : ∃ p, ps[j]? = some p := ⟨_, List.getElem?_eq_getElem (by rw [HN.out]; exact hjk)⟩
          obtain ⟨x, hx, hxe⟩ := HE.out j p hpk
          obtain ⟨b, o, u, rfl, _, _, hu, hcell⟩ := (HR.out.below HF.out).at_ hjk
          obtain rfl : u = x := by rw [hx] at hu; injection hu with hu; exact hu.symm
          obtain ⟨A3, c3, rfl⟩ := slice_form hxe
          have HX := Lib.hid (hxe.below HF.out)
          have HTF := Lib.hid (take_flat hpk)
          have hmb2 : (ps.take j).flatten.length + p.length ≤ 140737488355328 := by have := take_flat_le ps (j + 1); rw [HTF.out, List.length_append] at this; have := HL.out; omega
          obtain ⟨m2, hm2⟩ : ∃ q, (ps.take j).flatten.length = q := ⟨_, rfl⟩
          obtain ⟨q, hq⟩ : ∃ q, p.length = q := ⟨_, rfl⟩
          rw [hm2] at HO ⊢
          rw [hq] at HX hcell
          rw [hm2] at hmb2
          have HM2 := Lib.hid hm2
          clear hx hu hxe hpk hm2 hq
          go_wp2_with (at_builtin; refine wpList_append_ownB rfl _ _ rfl (fun i => w0.heap.size ≤ i) (fun i => w0.heap.size ≤ i) (.slice A2 m2 c2) _ rfl rfl S _ p HO.out HX.out (by rw [HM2.out]; exact hmb2) (fun _ h => h) HF.out.size ?_; intro v5 w5 hown5 hgrow5 hat5)
          exact ⟨⟨j + 1, by omega, by go_num, by rw [HTF.out]; exact hown5, RowKit.Below.grown (B := w0.heap.size) HF.out hgrow5 HF.out.size (fun j e => (HO.out.blk e).1)⟩, by simp [intOf]; omega⟩
        · obtain rfl : j = k := by omega
          have htk : ps.take j = ps := List.take_of_length_le (by rw [HN.out]; exact Nat.le_refl _)
          rw [htk] at HO ⊢
          clear htk
          go_wp2
          refine bodyPost_ret (v := .slice A2 ps.flatten.length c2) (by simp [results, Tryz.results84, go_sem, -List.length_flatten]) rfl ?_
          exact ⟨_, _, rfl, HO.out, HF.out⟩
set_option maxRecDepth 100000 in
set_option maxHeartbeats 1000000 in
theorem join_any (S : Nat → Prop) (v : Value) (ps : List (List UInt8)) (w : World) (hv : BytsV w S v ps) (hl : ps.flatten.length ≤ 140737488355328) :
    Calls Tryz.prog 54 #[v] w fun r w' => ∃ A c, r = .returned (.slice A ps.flatten.length c) ∧ OwnF w' w.heap.size (.slice A ps.flatten.length c) ps.flatten ∧ fr w w' := by
  have HC := Lib.hid (concat_any S v ps w hv hl)
  obtain ⟨A, c, vs, rfl, hc, hcm, hr, he⟩ := hv
  obtain ⟨n, hn⟩ : ∃ n, ps.flatten.length = n := ⟨_, rfl⟩
  rw [hn] at HC ⊢
  clear hl hn hr he
  go_enter Tryz.func54, Tryz.ntmps54
  go_wp2_with (go_at_call 84; refine HC.out.mono ?_; rintro r w1 ⟨A1, c1, rfl, ho1, f1⟩)
  refine bodyPost_ret (v := .slice A1 n c1) (by simp [results, Tryz.results54, go_sem]) rfl ?_
  exact ⟨_, _, rfl, ho1, f1⟩
end Go.Proofs.YtiffgjodbcploaaGreat
end
section
namespace Go.Proofs.YtiffgjodbcploaaGreat
set_option maxRecDepth 100000
open Go.RowKit Go.BigFrame
attribute [local go_sem ↓] Go.wp_at_zero Go.wp_at_succ
theorem or128 (u : Nat) : bits .or .u8 ((u : Int) % 256) 128 = ((u % 128 + 128 : Nat) : Int) := by
  have h := (bits_nat .u8 8 (by decide) wraps_u8 (u % 256) 128 (by omega) (by decide)).2
  have key : ∀ a : Fin 256, a.val ||| 128 = a.val % 128 + 128 := by decide +kernel
  have := key ⟨u % 256, by omega⟩
  simp only at this
  rw [this] at h
  rw [show (u : Int) % 256 = ((u % 256 : Nat) : Int) by omega]
  rw [show u % 256 % 128 = u % 128 by omega] at h
  simpa using h
theorem or128_cell (u : Nat) : Value.int .u8 (bits .or .u8 ((u : Int) % 256) 128) = bcell (UInt8.ofNat (u % 128 + 128)) := by
  rw [or128]
  unfold bcell
  congr 1
  simp
  omega
/-- the first bytes of a block. -/
def Heads (arr : Array Value) (p : List UInt8) : Prop := ∀ (i : Nat) (x : UInt8), p[i]? = some x → arr[i]? = some (bcell x)
theorem Heads.step {arr : Array Value} {p : List UInt8} {x : UInt8} (h : Heads arr p) (hl : p.length < arr.size) : Heads (arr.setIfInBounds p.length (bcell x)) (p ++ [x]) := by
  intro i y hy
  by_cases hi : i < p.length
  · rw [List.getElem?_append_left hi] at hy
    rw [Array.getElem?_setIfInBounds_ne (by omega)]
    exact h i y hy
  · have hi' : i = p.length := by
      have := (List.getElem?_eq_some_iff.1 hy).1
      rw [List.length_append, List.length_singleton] at this
      omega
    subst hi'
    rw [List.getElem?_append_right (Nat.le_refl _), Nat.sub_self, List.getElem?_cons_zero] at hy
    rw [Array.getElem?_setIfInBounds_self, if_pos hl, ← Option.some.inj hy]
theorem slice10 (B j : Nat) (hj : j ≤ 9) (w : World) : (Instr.sliceAt 143 (.pointer (some ⟨B, 0, none⟩)) none (some (.int .i64 ((j : Int) + 1))) none).run Tryz.prog w = .ok (.slice (some ⟨B, 0, none⟩) (j + 1) 10) w := by
  have ht : Tryz.prog.underlying 143 = some (.array (Tryz.prog.arrayLen 143) (Tryz.prog.elem 143)) := by kernel_rfl
  have hal : Tryz.prog.arrayLen 143 = 10 := by kernel_rfl
  have hel : Tryz.prog.elem 143 = 5 := by kernel_rfl
  rw [run_sliceAt_array_h w _ _ ht .i64 _ (by omega) (by rw [hal]; omega), hel, Tryz.sizeOf5 w, hal]
  have e : ((j : Int) + 1).toNat = j + 1 := by omega
  simp [Result.andThen, slicedAt, Addr.add, e]
set_option maxRecDepth 100000 in
set_option maxHeartbeats 1000000 in
theorem form_any (v : Nat) (w : World) (hv : v < 18446744073709551616) :
    Calls Tryz.prog 55 #[.int .u64 v] w fun r w' => ∃ A c, r = .returned (.slice A (formN v).length c) ∧ Byt w' (fun i => w.heap.size ≤ i) (.slice A (formN v).length c) (formN v) ∧ fr w w' := by
  have HV := Lib.hid hv
  have P0 : ∀ o : Obj, (w.alloc o).heap[w.heap.size]? = some o := heap_alloc_new w
  clear hv
  go_enter Tryz.func55, Tryz.ntmps55
  go_wp2
  go_loopw [0, 4] (fun x t wr => ∃ (j u : Nat) (arr : Array Value) (p : List UInt8), j ≤ 9 ∧ t = .int .i64 j ∧ x = .int .u64 u ∧ u * 128 ^ j < 18446744073709551616 ∧ wr.heap[w.heap.size]? = some (.cells arr 143 (0, 0)) ∧ arr.size = 10 ∧ Heads arr p ∧ p.length = j ∧ p ++ formF (9 - j) u = formN v ∧ fr w wr) (fun _ t _ => 10 - (intOf t).toNat)
  case atStart => exact ⟨0, v, _, [], Nat.zero_le _, rfl, rfl, by simpa using HV.out, P0 _, rfl, fun i x h => by simp at h, rfl, rfl, fr.alloc fr.refl _⟩
  case round =>
    clear P0
    obtain ⟨j, u, arr, p, hj, rfl, rfl, hub, hp, hsz, hhd, hpl, hfm, hfr⟩ := hrel
    have HP := Lib.hid hp
    have HHD := Lib.hid hhd
    have HPL := Lib.hid hpl
    have HFM := Lib.hid hfm
    have HFR := Lib.hid hfr
    have HUB := Lib.hid hub
    have HSZ := Lib.hid hsz
    obtain ⟨old, hold⟩ : ∃ o, arr[j]? = some o := ⟨_, Array.getElem?_eq_getElem (by omega)⟩
    have hcell : wr.cell? ⟨w.heap.size, j, none⟩ = some old := (cell_of_row wr _ j _ _ _ hp).trans hold
    have hfz := frozen_of_row wr _ j _ _ hp
    clear hp hsz hhd hpl hfm hfr hub hold
    by_cases hu : 127 < u
    · have hj8 : j < 9 := by
        rcases (by omega : j < 9 ∨ j = 9) with h | h
        · exact h
        · have := HUB.out
          rw [h, show (128 : Nat) ^ 9 = 9223372036854775808 by decide] at this
          omega
      have hui : (127 : Int) < (u : Int) := by omega
      go_wp2
      rw [or128_cell]
      have hst := HHD.out.step (x := UInt8.ofNat (u % 128 + 128)) (by rw [HPL.out, HSZ.out]; omega)
      rw [HPL.out] at hst
      refine ⟨⟨j + 1, u / 128, _, p ++ [UInt8.ofNat (u % 128 + 128)], by omega, by go_num, by simp, ?_, heap_setCell_same wr _ j _ _ _ HP.out, by rw [Array.size_setIfInBounds]; exact HSZ.out, hst, by rw [List.length_append, HPL.out]; rfl, ?_, RowKit.Below.setCell HFR.out (Nat.le_refl _) _⟩, by simp [intOf]; omega⟩
      · have h1 := Nat.div_mul_le_self u 128
        have h2 : u / 128 * 128 ^ (j + 1) = u / 128 * 128 * 128 ^ j := by rw [Nat.pow_succ, Nat.mul_comm (128 ^ j), Nat.mul_assoc]
        rw [h2]
        exact Nat.lt_of_le_of_lt (Nat.mul_le_mul_right _ h1) HUB.out
      · rw [← HFM.out, show 9 - j = (9 - (j + 1)) + 1 by omega, List.append_assoc]
        conv => rhs; unfold formF
        rw [if_neg (by omega)]
        rfl
    · have hui : ¬ (127 : Int) < (u : Int) := by omega
      have hlast : formF (9 - j) u = [UInt8.ofNat u] := by
        rcases h : 9 - j with _ | k
        · rfl
        · unfold formF
          rw [if_pos (by omega)]
      have hall : formN v = p ++ [UInt8.ofNat u] := by rw [← HFM.out, hlast]
      have HALL := Lib.hid hall
      have hsl := slice10 w.heap.size j hj
      have hln : (formN v).length = j + 1 := by rw [hall, List.length_append, HPL.out]; rfl
      have hst := HHD.out.step (x := UInt8.ofNat u) (by rw [HPL.out, HSZ.out]; omega)
      rw [HPL.out] at hst
      have HST := Lib.hid hst
      have HLN := Lib.hid hln
      clear hlast hall hln hst
      go_wp2
      have hbc : Value.int .u8 (u : Int) = bcell (UInt8.ofNat u) := by
        unfold bcell
        congr 1
        simp
        omega
      refine bodyPost_ret (v := .slice (some ⟨w.heap.size, 0, none⟩) (j + 1) 10) (by simp [results, Tryz.results55, go_sem]) rfl ?_
      rw [HLN.out, hbc]
      have hp2 := heap_setCell_same wr _ j _ _ (bcell (UInt8.ofNat u)) HP.out
      refine ⟨_, _, rfl, ⟨_, _, by rw [HLN.out], by rw [HLN.out]; omega, by omega, by rw [HLN.out]; omega, by rw [List.length_map, HLN.out, Nat.mul_one], fun _ => ⟨w.heap.size, 0, rfl, Nat.le_refl _, (Array.getElem?_eq_some_iff.1 hp2).1, fun i x hx => ?_⟩⟩, RowKit.Below.setCell HFR.out (Nat.le_refl _) _⟩
      rw [cell_of_row _ _ _ _ _ _ hp2, Nat.zero_add]
      rw [HALL.out, List.getElem?_map] at hx
      obtain ⟨y, hy, rfl⟩ := Option.map_eq_some_iff.1 hx
      exact HST.out i y hy
set_option maxRecDepth 100000 in
set_option maxHeartbeats 1000000 in
theorem appUint_any (S : Nat → Prop) (b : Value) (bs : List UInt8) (v : Nat) (w : World) (hb : Byt w S b bs) (hv : v < 18446744073709551616) (hl : bs.length ≤ 1099511627776) :
    Calls Tryz.prog 28 #[b, .int .u64 v] w fun r w' => ∃ A c, r = .returned (.slice A (bs ++ formN v).length c) ∧ OwnF w' w.heap.size (.slice A (bs ++ formN v).length c) (bs ++ formN v) ∧ fr w w' := by
  obtain ⟨A, c, rfl⟩ := slice_form hb
  have hfl := formN_len v
  have HF := Lib.hid (form_any v w hv)
  obtain ⟨m, hm⟩ : ∃ m, (formN v).length = m := ⟨_, rfl⟩
  obtain ⟨n, hn⟩ : ∃ m, bs.length = m := ⟨_, rfl⟩
  obtain ⟨q, hq⟩ : ∃ m, (bs ++ formN v).length = m := ⟨_, rfl⟩
  have hqb : q ≤ 140737488355328 := by rw [← hq, List.length_append]; omega
  rw [hm] at HF
  rw [hn] at hb ⊢
  rw [hq]
  have HB := Lib.hid hb
  have HQ := Lib.hid hq
  clear hb hm hn hq hfl
  go_enter Tryz.func28, Tryz.ntmps28
  go_wp2_with (first
    | (go_at_call 55; refine HF.out.mono ?_; rintro r w1 ⟨A1, c1, rfl, hb1, f1⟩; have hbl : BytsV (w1.alloc (.cells #[.slice A n c, .slice A1 m c1] 42)) (fun _ => True) (.slice (some ⟨w1.heap.size, 0, none⟩) 2 2) [bs, formN v] := BytsV.lit w1 [.slice A n c, .slice A1 m c1] [bs, formN v] 2 _ rfl rfl rfl (by omega) (fun i p hp => by
        match i, hp with
        | 0, hp => simp at hp; subst hp; exact ⟨_, rfl, (HB.out.below f1).mono fun _ _ => trivial⟩
        | 1, hp => simp at hp; subst hp; exact ⟨_, rfl, hb1.mono fun _ _ => trivial⟩
        | i + 2, hp => simp at hp))
    | (go_at_call 54; refine (join_any _ _ [bs, formN v] _ hbl (by rw [show [bs, formN v].flatten = bs ++ formN v by simp, HQ.out]; exact hqb)).mono ?_; rintro r w2 ⟨A2, c2, rfl, ho2, f2⟩; rw [show [bs, formN v].flatten = bs ++ formN v by simp, HQ.out] at ho2; rw [show [bs, formN v].flatten = bs ++ formN v by simp, HQ.out]))
  refine bodyPost_ret (v := .slice A2 q c2) (by simp [results, Tryz.results28, go_sem]) rfl ?_
  have hf : fr w (w1.alloc (.cells #[.slice A n c, .slice A1 m c1] 42)) := fr.alloc f1 _
  exact ⟨_, _, rfl, ho2.mono fun i hi => Nat.le_trans hf.size hi, fr.step hf f2⟩
set_option maxRecDepth 100000 in
set_option maxHeartbeats 1000000 in
theorem appBytes_any (S S' : Nat → Prop) (b x : Value) (bs xs : List UInt8) (w : World) (hb : Byt w S b bs) (hx : Byt w S' x xs) (hl : bs.length ≤ 1099511627776) (hl2 : xs.length ≤ 1099511627776) :
    Calls Tryz.prog 57 #[b, x] w fun r w' => ∃ A c, r = .returned (.slice A (bs ++ formN xs.length ++ xs).length c) ∧ OwnF w' w.heap.size (.slice A (bs ++ formN xs.length ++ xs).length c) (bs ++ formN xs.length ++ xs) ∧ fr w w' := by
  obtain ⟨A, c, rfl⟩ := slice_form hb
  obtain ⟨Ax, cx, rfl⟩ := slice_form hx
  have hfl := formN_len xs.length
  have HF := Lib.hid (form_any xs.length w (by omega))
  obtain ⟨fs, hfs⟩ : ∃ fs, formN xs.length = fs := ⟨_, rfl⟩
  rw [hfs] at hfl HF ⊢
  obtain ⟨m, hm⟩ : ∃ m, fs.length = m := ⟨_, rfl⟩
  obtain ⟨n, hn⟩ : ∃ m, bs.length = m := ⟨_, rfl⟩
  obtain ⟨k, hk⟩ : ∃ m, xs.length = m := ⟨_, rfl⟩
  obtain ⟨q, hq⟩ : ∃ m, (bs ++ fs ++ xs).length = m := ⟨_, rfl⟩
  have hqb : q ≤ 140737488355328 := by rw [← hq, List.length_append, List.length_append]; omega
  rw [hk] at hl2
  rw [hm, hk] at HF
  rw [hn] at hb ⊢
  rw [hk] at hx ⊢
  rw [hq]
  have hkm : (k : Int) % 18446744073709551616 = (k : Int) := by omega
  have HB := Lib.hid hb
  have HX := Lib.hid hx
  have HQ := Lib.hid hq
  clear hb hx hm hn hq hfl hfs hk
  go_enter Tryz.func57, Tryz.ntmps57
  go_wp2_with (first
    | (go_at_call 55; refine HF.out.mono ?_; rintro r w1 ⟨A1, c1, rfl, hb1, f1⟩; have hbl : BytsV (w1.alloc (.cells #[.slice A n c, .slice A1 m c1, .slice Ax k cx] 42)) (fun _ => True) (.slice (some ⟨w1.heap.size, 0, none⟩) 3 3) [bs, fs, xs] := BytsV.lit w1 [.slice A n c, .slice A1 m c1, .slice Ax k cx] [bs, fs, xs] 3 _ rfl rfl rfl (by omega) (fun i p hp => by
        match i, hp with
        | 0, hp => simp at hp; subst hp; exact ⟨_, rfl, (HB.out.below f1).mono fun _ _ => trivial⟩
        | 1, hp => simp at hp; subst hp; exact ⟨_, rfl, hb1.mono fun _ _ => trivial⟩
        | 2, hp => simp at hp; subst hp; exact ⟨_, rfl, (HX.out.below f1).mono fun _ _ => trivial⟩
        | i + 3, hp => simp at hp))
    | (go_at_call 54; refine (join_any _ _ [bs, fs, xs] _ hbl (by rw [show [bs, fs, xs].flatten = bs ++ fs ++ xs by simp, HQ.out]; exact hqb)).mono ?_; rintro r w2 ⟨A2, c2, rfl, ho2, f2⟩; rw [show [bs, fs, xs].flatten = bs ++ fs ++ xs by simp, HQ.out] at ho2; rw [show [bs, fs, xs].flatten = bs ++ fs ++ xs by simp, HQ.out]))
  refine bodyPost_ret (v := .slice A2 q c2) (by simp [results, Tryz.results57, go_sem]) rfl ?_
  have hf : fr w (w1.alloc (.cells #[.slice A n c, .slice A1 m c1, .slice Ax k cx] 42)) := fr.alloc f1 _
  exact ⟨_, _, rfl, ho2.mono fun i hi => Nat.le_trans hf.size hi, fr.step hf f2⟩
end Go.Proofs.YtiffgjodbcploaaGreat
end
