/-
slices.Grow of nil and slices.Concat of two, of tables.
-/
import Derived.Test.YtjnolpfmchnnmaaGreatDoorQPSwUpto4
import Derived.Maps.AppendAt
import Derived.Lib.AppendZerosOnto
section
namespace Go.Proofs.YtjnolpfmchnnmaaGreatDoor
set_option maxRecDepth 100000
open Go.RowKit Go.BigFrame Go.Sort Go.Shelf Go.Lib
attribute [local go_sem ↓] Go.wp_at_zero Go.wp_at_succ
abbrev OwnC (w : World) (base : Nat) (v : Value) (n : Nat) (cs : List Value) : Prop := w.ownsRow base 57 5 v n cs
theorem cellsT : (Value.agg #[.int .i64 0, .int .i64 0, .int .i64 0, .slice none 0 0, .slice none 0 0]).cells.size = 5 := by decide
theorem run_append_noneT (w : World) (ty : TypeId) (base : Nat) (v : Value) (n c : Nat) (cs : List Value) (h : OwnC w base v n cs) :
    (Builtin.append_ #[43, 43] ty #[v, .slice none 0 c]).run Tryz.prog w = .ok v w := by
  obtain ⟨i0, hi, hz0, hz1, hz2⟩ := info_parts infoT
  rcases h.2 with ⟨rfl, h0⟩ | ⟨g, cap, cur, rfl, _, _, hc, _⟩
  · simp [Builtin.append_, run_underlying Tryz.underlying43, sizeOf, typeInfo, hi, Builtin.lenOf, Builtin.firstCells]
  · simp [Builtin.append_, run_underlying Tryz.underlying43, sizeOf, typeInfo, hi, Builtin.lenOf, Builtin.firstCells, storeCells, hc]
theorem wpList_append_rowT {w : World} {ops : Array Oper} {rest : List Oper} {o : Oper} {a : Act} {Q : Exit → Act → World → Prop} (hgd : o.guard = none) (s x : Operand)
    (ho : o.op = .call { callee := .builtin .append, args := #[s, x], argTypes := #[43, 43] }) (base : Nat) (v : Value) (n : Nat) (xs : List Value) (hs : a.eval s = v) (hown : OwnC w base v n xs)
    (S : Nat → Prop) (A : Option Addr) (m c : Nat) (news : List Value) (hx : a.eval x = .slice A m c) (hr : Row w S A m 5 news) (h1 : ∀ u ∈ news, u.oneCell' = true) (hb : (n + m) * 72 ≤ 140737488355328) (hbase : base ≤ w.heap.size)
    (hK : ∀ v' w', OwnC w' base v' (n + m) (xs ++ news) → w.grownBy w' v.ownBlock → wpList Tryz.prog ops Q rest (a.put o.dst v') w') : wpList Tryz.prog ops Q (o :: rest) a w := by
  obtain ⟨i0, hi, hz0, hz1, hz2⟩ := info_parts infoT
  rcases Nat.eq_zero_or_pos m with hm | hm
  · subst hm
    obtain rfl : news = [] := List.eq_nil_of_length_eq_zero (by simpa using hr.1)
    cases A with
    | none =>
      refine wpList_plain hgd fun K hk => ?_
      have hrun := run_append_noneT w o.type base v n c xs hown
      unfold Oper.wp execOp
      simp only [ho, resolve, invoke, builtin, Sem.run_bind, Sem.run_pure, Result.andThen_ok, List.map_toArray, List.map_cons, List.map_nil, hs, hx, hrun]
      exact hk _ _ (hK v w (by rw [List.append_nil]; exact hown) ⟨rfl, rfl, rfl, Nat.le_refl _, fun _ _ _ => rfl⟩)
    | some ad =>
      exact wpList_append_own_at w hgd s x 43 ho base 57 i0 _ 5 72 Tryz.underlying43 hi hz0 hz1 hz2 cellsT (by decide) v n xs hs hown ad 0 c [] hx (by simp) (fun j u hu => by simp at hu) h1 (by unfold maxLen; omega) hb hbase (fun v' w' a1 a2 _ _ => hK v' w' a1 a2)
  · obtain ⟨b, o', rfl, _, _, hc⟩ := hr.2 hm
    exact wpList_append_own_at w hgd s x 43 ho base 57 i0 _ 5 72 Tryz.underlying43 hi hz0 hz1 hz2 cellsT (by decide) v n xs hs hown ⟨b, o', none⟩ m c news hx hr.1 (fun j u hu => by rw [Addr.add_lit]; exact hc j u hu) h1 (by unfold maxLen; omega) hb hbase (fun v' w' a1 a2 _ _ => hK v' w' a1 a2)
theorem rows_of_ownT {w : World} {base n c : Nat} {A : Option Addr} {T : Nat → Prop} {ts : List Tbl} {css : List (List Value)} (h : OwnC w base (.slice A n c) n css.flatten) (ha : All2 (tbR w T) ts css) (hl : ts.length = n) (hb : n * 72 ≤ 140737488355328) : TabsV w (fun i => T i ∨ (base ≤ i ∧ i < w.heap.size)) (.slice A n c) ts := by
  have h3 : All2 (tbR w fun i => T i ∨ (base ≤ i ∧ i < w.heap.size)) ts css := ha.imp fun _ _ hx => tbFine.keep hx fun _ _ _ _ hr => hr.mono fun _ h => .inl h
  rcases h.2 with ⟨hE, h0⟩ | ⟨g, cap, cur, hE, hbg, hh, hcap, hcm, _⟩
  · injection hE with e1 e2 e3
    subst h0 e1 e3
    obtain rfl : ts = [] := List.eq_nil_of_length_eq_zero hl
    exact ⟨none, 0, css, rfl, Nat.le_refl _, by omega, by simp, ⟨h.1, fun h => absurd h (by simp)⟩, h3⟩
  · injection hE with e1 e2 e3
    subst e1 e3
    have hlt : g < w.heap.size := (Array.getElem?_eq_some_iff.1 hh).1
    refine ⟨_, _, css, by rw [hl], by rw [hl]; exact hcap, by unfold maxLen at hcm; omega, by rw [hl]; exact hb, ?_, h3⟩
    rw [hl]
    refine ⟨h.1, fun _ => ⟨g, 0, rfl, .inr ⟨hbg, hlt⟩, hlt, fun j u hu => ?_⟩⟩
    have := h.cells (g := g) rfl j u hu
    rwa [Addr.add_lit] at this
theorem wpList_growNilT {w : World} {ops : Array Oper} {rest : List Oper} {o : Oper} {a : Act} {Q : Exit → Act → World → Prop} (hgd : o.guard = none) (s x : Operand)
    (ho : o.op = .call { callee := .builtin .append, args := #[s, x], argTypes := #[43, 3] }) (n : Nat) (hs : a.eval s = .slice none 0 0) (hx : a.eval x = .int .i64 n) (hn : 0 < n) (hb : n * 72 ≤ 140737488355328)
    (hK : ∀ c w', OwnC w' w.heap.size (.slice (some ⟨w.heap.size, 0, none⟩) 0 c) 0 [] → c ≤ 9223372036854775807 → n ≤ c → fr w w' → wpList Tryz.prog ops Q rest (a.put o.dst (.slice (some ⟨w.heap.size, 0, none⟩) n c)) w') : wpList Tryz.prog ops Q (o :: rest) a w :=
  wpList_plain hgd fun _ hk => by
    obtain ⟨i0, hi, hz0, hz1, hz2⟩ := info_parts infoT
    have hrun := Lib.run_append_grow_zeros (P := Tryz.prog) w 43 3 o.type 57 i0 _ .i64 .i64 Tryz.underlying43 Tryz.underlying3 hi hz0 none 0 0 [] (by simp [Builtin.firstCells]) n hn (by omega) (by omega) (by omega) (by rw [hz2]; omega) (growslice_fits (by omega) (by rw [hz2]; omega))
    have hge := grownCap_ge w (0 + n) 0 57
    have hle := grownCap_le_maxLen w (0 + n) 0 57 (by unfold maxLen; omega)
    rw [Nat.zero_add] at hrun hge hle
    generalize grownCap w n 0 57 = c at hrun hge hle
    have hsz : (([] : List Value).toArray ++ Builtin.zeroCells (Value.agg #[.int .i64 0, .int .i64 0, .int .i64 0, .slice none 0 0, .slice none 0 0]).cells n ++ Builtin.zeroCells (Value.agg #[.int .i64 0, .int .i64 0, .int .i64 0, .slice none 0 0, .slice none 0 0]).cells (c - n)).size = c * 5 := by
      simp only [Array.size_append, size_zeroCells, cellsT, List.size_toArray, List.length_nil]
      omega
    have hle' : c ≤ 9223372036854775807 := by unfold maxLen at hle; omega
    generalize ([] : List Value).toArray ++ Builtin.zeroCells (Value.agg #[.int .i64 0, .int .i64 0, .int .i64 0, .slice none 0 0, .slice none 0 0]).cells n ++ Builtin.zeroCells (Value.agg #[.int .i64 0, .int .i64 0, .int .i64 0, .slice none 0 0, .slice none 0 0]).cells (c - n) = cur at hrun hsz
    unfold Oper.wp execOp
    simp only [ho, resolve, invoke, builtin, Sem.run_bind, Sem.run_pure, Result.andThen_ok, List.map_toArray, List.map_cons, List.map_nil, hs, hx, hrun]
    refine hk _ _ (hK c _ ⟨rfl, .inr ⟨w.heap.size, c, cur, rfl, Nat.le_refl _, ?_, Nat.zero_le _, hle, hsz, by simp⟩⟩ hle' hge (fr.alloc fr.refl.drew _))
    have := heap_alloc_new w.drew (.cells cur 57)
    rwa [World.size_drew] at this
set_option maxRecDepth 100000 in
set_option maxHeartbeats 1000000 in
theorem growNilT_any (n : Nat) (w : World) (hb : n * 72 ≤ 140737488355328) :
    Calls Tryz.prog 194 #[.slice none 0 0, .int .i64 n] w fun r w' => ∃ A c, r = .returned (.slice A 0 c) ∧ OwnC w' w.heap.size (.slice A 0 c) 0 [] ∧ fr w w' := by
  have h1 : ¬ ((n : Int) < 0) := by omega
  rcases Nat.eq_zero_or_pos n with h0 | h0
  · subst h0
    go_enter Tryz.func194, Tryz.ntmps194
    go_wp2
    refine bodyPost_ret (v := .slice none 0 0) (by simp [results, Tryz.results194, go_sem]) rfl ?_
    exact ⟨_, _, rfl, World.ownsRow_nil _ _ _ _, fr.refl⟩
  · have hpos : (0 : Int) < (n : Int) := by omega
    go_enter Tryz.func194, Tryz.ntmps194
    go_wp2_with (at_builtin; refine wpList_growNilT rfl _ _ rfl n rfl rfl h0 hb ?_; intro c w2 hown hc hnc hf)
    refine bodyPost_ret (v := .slice (some ⟨w.heap.size, 0, none⟩) 0 c) (by simp [results, Tryz.results194, go_sem]) rfl ?_
    exact ⟨_, _, rfl, hown, hf⟩
set_option maxRecDepth 100000 in
set_option maxHeartbeats 2000000 in
theorem concatT_any (B : Nat) (S S' : Nat → Prop) (A1 A2 : Option Addr) (n1 n2 c1 c2 : Nat) (cs1 cs2 : List Value) (w : World) (hrow : w.heap[B]? = some (.cells #[.slice A1 n1 c1, .slice A2 n2 c2] 43 (0, 0))) (h1 : Row w S A1 n1 5 cs1) (h2 : Row w S' A2 n2 5 cs2)
    (o1 : ∀ u ∈ cs1, u.oneCell' = true) (o2 : ∀ u ∈ cs2, u.oneCell' = true) (hb : (n1 + n2) * 72 ≤ 140737488355328) :
    Calls Tryz.prog 124 #[.slice (some ⟨B, 0, none⟩) 2 2] w fun r w' => ∃ A c, r = .returned (.slice A (n1 + n2) c) ∧ OwnC w' w.heap.size (.slice A (n1 + n2) c) (n1 + n2) (cs1 ++ cs2) ∧ fr w w' := by
  have x0 := cell_of_row _ _ 0 _ _ _ hrow
  have x1 := cell_of_row _ _ 1 _ _ _ hrow
  have H1 := Lib.hid h1
  have H2 := Lib.hid h2
  have HROW := Lib.hid hrow
  have O1 := Lib.hid o1
  have O2 := Lib.hid o2
  clear h1 h2 hrow o1 o2
  go_enter Tryz.func124, Tryz.ntmps124
  go_wp2
  go_loopw [3, 11] (fun x t wr => ∃ k m : Nat, k ≤ 2 ∧ t = .int .i64 k ∧ x = .int .i64 m ∧ m = (if k = 0 then 0 else if k = 1 then n1 else n1 + n2) ∧ wr = w) (fun _ t _ => 2 - (intOf t).toNat)
  case atStart => exact ⟨0, 0, Nat.zero_le _, rfl, rfl, rfl, rfl⟩
  case round =>
    obtain ⟨k, m, hk, rfl, rfl, hm, rfl⟩ := hrel
    rcases (by omega : k = 0 ∨ k = 1 ∨ k = 2) with rfl | rfl | rfl
    · obtain rfl : m = 0 := hm
      clear hk
      go_wp2
      exact ⟨⟨1, n1, by omega, by go_num, by go_num, rfl, trivial⟩, by simp [intOf]⟩
    · obtain rfl : m = n1 := hm
      clear hk
      go_wp2
      exact ⟨⟨2, m + n2, by omega, by go_num, by go_num, rfl, trivial⟩, by simp [intOf]⟩
    · have hmm : m = n1 + n2 := hm
      clear hm hk
      have hmb : m * 72 ≤ 140737488355328 := by rw [hmm]; exact hb
      have HMM := Lib.hid hmm
      clear hmm
      obtain ⟨w0, hw0⟩ : ∃ w', w' = wr := ⟨_, rfl⟩
      subst hw0
      go_wp2_with (go_at_call 194; refine (growNilT_any m _ hmb).mono ?_; rintro r w1 ⟨A1', c1', rfl, ho1, f1⟩)
      go_loopw [6, 27] (fun x t wx => ∃ j : Nat, j ≤ 2 ∧ t = .int .i64 j ∧ OwnC wx w0.heap.size x (if j = 0 then 0 else if j = 1 then n1 else n1 + n2) (if j = 0 then [] else if j = 1 then cs1 else cs1 ++ cs2) ∧ fr w0 wx) (fun _ t _ => 2 - (intOf t).toNat)
      case atStart => exact ⟨0, Nat.zero_le _, rfl, ho1, f1⟩
      case round =>
        clear ho1 f1 x0 x1
        obtain ⟨j, hj, rfl, ho, hf⟩ := hrel
        have HF := Lib.hid hf
        have hrw := (Below.block hf B (Array.getElem?_eq_some_iff.1 HROW.out).1).trans HROW.out
        have x0 := cell_of_row _ _ 0 _ _ _ hrw
        have x1 := cell_of_row _ _ 1 _ _ _ hrw
        rcases (by omega : j = 0 ∨ j = 1 ∨ j = 2) with rfl | rfl | rfl
        · have HO := Lib.hid (show OwnC wr w0.heap.size u6 0 [] from ho)
          clear ho hf hrw hj
          go_wp2_with (at_builtin; refine wpList_append_rowT rfl _ _ rfl w0.heap.size _ 0 [] rfl HO.out S A1 n1 c1 cs1 rfl (H1.out.below HF.out) O1.out (by omega) HF.out.size ?_; intro v5 w5 hown5 hgrow5)
          exact ⟨⟨1, by omega, by go_num, by rw [Nat.zero_add, List.nil_append] at hown5; exact hown5, RowKit.Below.grown (B := w0.heap.size) HF.out hgrow5 HF.out.size (fun j e => (HO.out.lt j e).1)⟩, by simp [intOf]⟩
        · have HO := Lib.hid (show OwnC wr w0.heap.size u6 n1 cs1 from ho)
          clear ho hf hrw hj
          go_wp2_with (at_builtin; refine wpList_append_rowT rfl _ _ rfl w0.heap.size _ n1 cs1 rfl HO.out S' A2 n2 c2 cs2 rfl (H2.out.below HF.out) O2.out hb HF.out.size ?_; intro v5 w5 hown5 hgrow5)
          exact ⟨⟨2, by omega, by go_num, hown5, RowKit.Below.grown (B := w0.heap.size) HF.out hgrow5 HF.out.size (fun j e => (HO.out.lt j e).1)⟩, by simp [intOf]⟩
        · have HO := Lib.hid (show OwnC wr w0.heap.size u6 (n1 + n2) (cs1 ++ cs2) from ho)
          obtain ⟨A6, c6, rfl⟩ := own_form HO.out
          clear ho hf hrw hj
          go_wp2
          refine bodyPost_ret (v := .slice A6 (n1 + n2) c6) (by simp [results, Tryz.results124, go_sem]) rfl ?_
          exact ⟨_, _, rfl, HO.out, HF.out⟩
end Go.Proofs.YtjnolpfmchnnmaaGreatDoor
end
