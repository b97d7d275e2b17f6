/-
The disk's calls, where the disk lies in memory made since 'base'.
-/
import Derived.Test.YtiffgjodbcploaaQPOwnUpto9
import Derived.Test.YtiffgjodbcploaaQPOwnUpto5
import Derived.OrdersHeld
import Derived.OrdersIn
import Derived.TacticsInMore
import Derived.Deep.RegionHeld3
import Derived.Test.YtiffgjodbcploaaQPOwnUpto4
section
namespace Go.Proofs.Ytiffgjodbcploaa
open Go.RowKit Go.BigFrame Go.Shelf
attribute [local go_sem ↓] Go.wp_at_zero Go.wp_at_succ
/-- the k-th two of a row. -/
def twoV (g k : Nat) : Value := .slice (some ⟨g, 4 * k, none⟩) 2 2
set_option maxRecDepth 100000 in
set_option maxHeartbeats 1000000 in
theorem chunk_any (g n c : Nat) (w : World) :
    Calls Try.prog 70 #[.slice (some ⟨g, 0, none⟩) n c, .int .i64 2] w fun r w' => r = .returned (.func (.func 83) #[] #[.pointer (some ⟨w.heap.size, 0, none⟩), .pointer (some ⟨w.heap.size + 1, 0, none⟩)]) ∧ Boxed w' w.heap.size 83 (.slice (some ⟨g, 0, none⟩) n c) ∧ Boxed w' (w.heap.size + 1) 3 (.int .i64 2) ∧ fr w w' := by
  have p2 := Boxed.new (w.alloc (.cells #[.slice (some ⟨g, 0, none⟩) n c] 83)) 3 (.int .i64 2)
  have p1 := (Boxed.new w 83 (.slice (some ⟨g, 0, none⟩) n c)).alloc (.cells #[.int .i64 2] 3)
  have hf : fr w ((w.alloc (.cells #[.slice (some ⟨g, 0, none⟩) n c] 83)).alloc (.cells #[.int .i64 2] 3)) := fr.alloc (fr.alloc fr.refl _) _
  rw [World.size_alloc] at p2
  have P1 := Lib.hid p1
  have P2 := Lib.hid p2
  have HF := Lib.hid hf
  clear p1 p2 hf
  go_enter Try.func70, Try.ntmps70
  go_wp2
  go_ret
  exact ⟨rfl, P1.out, P2.out, HF.out⟩
set_option maxRecDepth 100000 in
set_option maxHeartbeats 2000000 in
theorem chunk_tells (nn : Nat) (w : World) (B g m c : Nat) (b1 : Boxed w B 83 (.slice (some ⟨g, 0, none⟩) (2 * m) c)) (b2 : Boxed w (B + 1) 3 (.int .i64 2)) (hm : 2 * m ≤ 1099511627776) (hc : 2 * m ≤ c) (hcm : c ≤ 9223372036854775807) :
    Tells Fence.wide nn Try.prog 83 #[.pointer (some ⟨B, 0, none⟩), .pointer (some ⟨B + 1, 0, none⟩)] (fun k : Nat => #[twoV g k]) (fun pre _ k _ => k = pre.length ∧ k < m)
      (fun xs _ => xs = List.range m) (fun _ _ => True) (fun i => i = B ∨ i = B + 1) (fun _ => False) w := by
  intro l J Jx T0 W hW hT0 hJ hJx hJT hY h0
  refine callsIn_wide.2 ?_
  have HJ := Lib.hid hJ
  have HJT := Lib.hid hJT
  have HY := Lib.hid hY
  have HT0 := Lib.hid hT0
  have HB := Lib.hid (show B < W.heap.size ∧ B + 1 < W.heap.size from ⟨Nat.lt_of_lt_of_le b1.lt hW.size, Nat.lt_of_lt_of_le b2.lt hW.size⟩)
  have HB1 := Lib.hid (boxedFr b1 hW)
  have HB2 := Lib.hid (boxedFr b2 hW)
  have HJ0 := Lib.hid h0
  clear hJ hJx hJT hY hT0 hW h0 b1 b2
  go_enter Try.func83, Try.ntmps83
  go_wp2
  go_loopw [4] (fun x wr => ∃ (k : Nat) (T : Nat → Prop), k ≤ m ∧ x = .int .i64 (2 * k : Nat) ∧ J (List.range k) T wr ∧ (∀ i, T i → ¬ (i = B ∨ i = B + 1)) ∧ Boxed wr B 83 (.slice (some ⟨g, 0, none⟩) (2 * m) c) ∧ Boxed wr (B + 1) 3 (.int .i64 2) ∧ W.heap.size ≤ wr.heap.size) (fun x _ => 2 * m - (intOf x).toNat)
  case atStart => exact ⟨0, T0, Nat.zero_le _, rfl, HJ0.out, HT0.out, HB1.out, HB2.out, Nat.le_refl _⟩
  case round =>
    clear HJ0 HT0 HB1 HB2
    obtain ⟨k, T, hk, rfl, hj, hT, b1, b2, hz⟩ := hrel
    have c1 := b1.cell
    have c2 := b2.cell
    have HJK := Lib.hid hj
    have HT := Lib.hid hT
    have HB1 := Lib.hid b1
    have HB2 := Lib.hid b2
    have HZ := Lib.hid hz
    obtain ⟨q, hq⟩ : ∃ q, 2 * k = q := ⟨_, rfl⟩
    obtain ⟨n, hn⟩ : ∃ n, 2 * m = n := ⟨_, rfl⟩
    rw [hq]
    rw [hn] at c1 hm hc
    have HQ := Lib.hid hq
    have HN := Lib.hid hn
    clear hj hT b1 b2 hz hq hn
    obtain ⟨w0, hw0⟩ : ∃ x, x = wr := ⟨_, rfl⟩
    subst hw0
    by_cases hkm : k < m
    · have hqn : q + 2 ≤ n := by have := HQ.out; have := HN.out; omega
      have hqc : ¬ c = q := by omega
      have i1 : (0 : Int) ≤ (q : Int) := by omega
      have i2 : (q : Int) ≤ (n : Int) := by omega
      have i3 : (q : Int) ≤ (c : Int) := by omega
      have i4 : ((n : Int) - (q : Int)) = ((n - q : Nat) : Int) := by omega
      have i5 : min (2 : Int) ((n - q : Nat) : Int) = 2 := by omega
      have hlt : q < n := by omega
      have HKM := Lib.hid hkm
      have hv : twoV g k = .slice (some ⟨g, q * 2, none⟩) 2 2 := by unfold twoV; rw [show 4 * k = q * 2 by have := HQ.out; omega]
      have HV := Lib.hid hv
      clear hkm hk hv
      go_upto_region 3 with (fail)
      go_quiet (fail)
      have c3 : (w0.drewN nq).cell? ⟨B, 0, none⟩ = some (.slice (some ⟨g, 0, none⟩) n c) := c1
      have c4 : (w0.drewN nq).cell? ⟨B + 1, 0, none⟩ = some (.int .i64 2) := c2
      go_upto_region 4 with (fail)
      refine (wpIn_wide (n := nn)).1 ?_
      gi_wp2_with (fail)
      have hid : ∀ x, Idle (fun _ => False) W.heap.size w0 (w0.drewN x) := fun x => ⟨rfl, rfl, rfl, Nat.le_refl _, fun _ _ _ => rfl⟩
      obtain ⟨fn, tmps, assign, body, hy, hR⟩ := HY.out (List.range k) T k (w0.drewN nq) (HJ.out _ _ _ _ HJK.out (hid _)) ⟨by simp, HKM.out⟩
      rw [HV.out] at hy
      rw [hy, Oper.uponIn_round]
      refine ⟨fun h => absurd h (by decide), hR.mono ?_⟩
      rintro e w6 ⟨T', gT, oT, (⟨rfl, hj6⟩ | ⟨rfl, hj6⟩)⟩
      · have gT' := Lib.hid gT
        have oT' := Lib.hid oT
        have HJ6 := Lib.hid hj6
        have hTB : ∀ i, T i → ¬ (i = B ∨ i = B + 1) := HT.out
        have B1 := Lib.hid (boxedOnly (S := T) (w := w0.drewN nq) HB1.out oT fun h => hTB _ h (.inl rfl))
        have B2 := Lib.hid (boxedOnly (S := T) (w := w0.drewN nq) HB2.out oT fun h => hTB _ h (.inr rfl))
        have c5 := B2.out.cell
        have hsz : w0.heap.size ≤ w6.heap.size := oT.size
        clear hy hR gT oT hj6 hid hTB c1 c2 c3 c4
        gi_wp2
        go_wp2
        refine ⟨⟨k + 1, T', HKM.out, ?_, by rw [List.range_succ]; exact HJ6.out, fun i hi => ?_, B1.out, B2.out, Nat.le_trans HZ.out hsz⟩, by have := HQ.out; have := HN.out; simp [intOf]; omega⟩
        · congr 1
          have := HQ.out
          omega
        · rcases gT'.out i hi with h | h
          · exact HT.out i h
          · have h1 := HB.out
            have h2 := HZ.out
            have h3 : w0.heap.size ≤ i := h
            omega
      · have HJX6 := Lib.hid hj6
        clear hy hR hj6 hid gT oT
        gi_wp2
        go_wp2
        refine bodyPost_ret (results_none rfl _ _ _) rfl ?_
        exact ⟨⟨_, rfl⟩, .inr ⟨_, T', trivial, HJX6.out⟩⟩
    · have hqn : q = n := by have := HQ.out; have := HN.out; omega
      obtain rfl : k = m := by omega
      subst hqn
      clear hkm
      go_wp2
      go_end0
      exact ⟨⟨_, rfl⟩, .inl ⟨_, T, rfl, HJK.out⟩⟩
end Go.Proofs.Ytiffgjodbcploaa
end
section
namespace Go.Proofs.Ytiffgjodbcploaa
open Go.RowKit
theorem wpIn_of_wp {P : Program} {l n : Nat} {o : Oper} {a : Act} {w : World} {K : Act → World → Prop} {Q : Exit → Act → World → Prop} (hd : ∀ c, o.op ≠ .defer c) (h : o.wp P a w K Q) : o.wpIn (Fence.wide.inRound l) n P a w K Q := by
  unfold Oper.wp at h
  unfold Oper.wpIn
  refine ⟨fun _ _ => trivial, ?_⟩
  rw [show (Fence.wide.inRound l).round = some l from rfl, Oper.semAt_some _ _ _ hd]
  generalize (execOp a.eval o).run P w = r at *
  cases r with
  | ok x w' =>
    cases x with
    | value v => exact h
    | skip => exact h
    | defer d => exact h
    | enter f args => exact ⟨fun h => absurd h (by simp [Fence.wide]), callsIn_wide.2 h⟩
    | row row args => exact ⟨fun h => absurd h (by simp [Fence.wide]), fun c cs _ => let ⟨v, w', r, s⟩ := h c cs; ⟨v, w', r, stepsIn_wide.2 s⟩⟩
    | _ => exact h.elim
  | halt x w' => cases x <;> first | exact h | exact h.elim
theorem anyIn_of_any {P : Program} {l n : Nat} {md : Region.Mode} {ops : Array Oper} {Q : Exit → Act → World → Prop} (hd : ∀ (i : Nat) (o : Oper), ops[i]? = some o → ∀ c, o.op ≠ .defer c) (hL : ¬ LetsOut Q) :
    ∀ (fuel : Nat) (listed : Array Bool) (a : Act) (w : World), wpAny P md ops Q fuel listed a w → wpAnyIn (Fence.wide.inRound l) n P md ops Q fuel listed a w
  | 0, _, _, _, h => h
  | fuel + 1, listed, a, w, h => by
    refine ⟨h.1, fun i hi => ?_⟩
    have h2 := h.2 i hi
    unfold wpOp at h2
    unfold wpOpIn
    split
    · rename_i e
      rw [e] at h2
      exact anyIn_of_any hd hL fuel _ a w h2
    · rename_i o e
      rw [e] at h2
      simp only at h2
      split
      · rename_i hw
        rw [if_pos hw] at h2
        rcases h2 with h2 | ⟨_, h2⟩
        · exact wpIn_of_wp (hd i o e) (Oper.wp_mono (fun a' w' h' => anyIn_of_any hd hL fuel _ a' w' h') h2)
        · exact absurd h2 hL
      · rename_i hw
        rw [if_neg hw] at h2
        exact ⟨fun _ _ => trivial, anyIn_of_any hd hL fuel _ _ w h2⟩
theorem regionIn_held {P : Program} {l n id : Nat} {ops : Array Oper} {Q : Exit → Act → World → Prop} {S : World → Prop} {a : Act} {w : World} (hm : P.follows .mixedOrders = true) (hd : ∀ (i : Nat) (o : Oper), ops[i]? = some o → ∀ c, o.op ≠ .defer c) (hL : ¬ LetsOut Q)
    (h : wpAnyH P .any ops Q S ops.size (Array.replicate ops.size false) a w.drew) : (Code.region id ops true).wpIn (Fence.wide.inRound l) n P Q a w :=
  wpIn_region_any hm (anyIn_of_any hd hL _ _ _ _ (wpAny_of_held _ _ _ _ h))
end Go.Proofs.Ytiffgjodbcploaa
end
section
namespace Go.Proofs.Ytiffgjodbcploaa
open Go.RowKit Go.BigFrame
theorem wpListIn_append_ownB {F : Fence} {n : Nat} {w : World} {ops : Array Oper} {rest : List Oper} {o : Oper} {a : Act} {Q : Exit → Act → World → Prop} (hgd : o.guard = none) (s x : Operand)
    (ho : o.op = .call { callee := .builtin .append, args := #[s, x], argTypes := #[23, 23] }) (FF F' : Nat → Prop) (v src : Value) (hs : a.eval s = v) (hx : a.eval x = src)
    (S : Nat → Prop) (bs cs : List UInt8) (hown : OwnB w FF v bs) (h : Byt w S src cs) (hl : bs.length + cs.length ≤ 140737488355328) (hF : ∀ i, FF i → F' i) (hnew : F' w.heap.size)
    (hK : ∀ v' w', OwnB w' F' v' (bs ++ cs) → w.grownBy w' (blkB v) → (blkB v' = blkB v ∨ blkB v' = some w.heap.size) → wpListIn F n Try.prog ops Q rest (a.put o.dst v') w') :
    wpListIn F n Try.prog ops Q (o :: rest) a w := by
  refine wpListIn_plain hgd fun K hK' => ?_
  obtain ⟨v', w', hrun, r1, r2, r3⟩ := run_append_ownB w FF F' o.type v src S bs cs hown h hl hF hnew
  unfold Oper.wpIn
  refine ⟨?_, ?_⟩
  · simp [Oper.about, ho, resolve, Target.leads, Sem.run_pure]
  · rw [Oper.semAt_plain F _ _ (by rw [ho]; intro c hc'; cases hc')]
    simp [execOp, ho, resolve, invoke, builtin, hs, hx, hrun, Result.andThen]
    exact hK' _ _ (hK v' w' r1 r2 r3)
set_option maxRecDepth 100000 in
/-- a slice that is full: the bytes go into new memory. -/
theorem run_append_fullB (w : World) (ty : TypeId) (g o n : Nat) (src : Value) (S S' : Nat → Prop) (bs cs : List UInt8) (hb : Byt w S (.slice (some ⟨g, o, none⟩) n n) bs) (h : Byt w S' src cs) (hn : bs.length = n) (h0 : 0 < cs.length) (hl : n + cs.length ≤ 140737488355328) :
    ∃ A c w', (Builtin.append_ #[23, 23] ty #[.slice (some ⟨g, o, none⟩) n n, src]).run Try.prog w = .ok (.slice A (n + cs.length) c) w' ∧ OwnF w' w.heap.size (.slice A (n + cs.length) c) (bs ++ cs) ∧ fr w w' := by
  obtain ⟨i0, hi, hz0, hz1, hz2⟩ := info_parts info5
  obtain ⟨B, d, rfl, g1, g2, g3, hr⟩ := h
  obtain ⟨b, ob, rfl, _, _, hc⟩ := hr.2 h0
  obtain ⟨A, ca, hE, h1, h2, h3, hr1⟩ := hb
  simp only [Value.slice.injEq] at hE
  obtain ⟨rfl, h5, rfl⟩ := hE
  have holds : ∀ j u, (bs.map bcell)[j]? = some u → w.cell? ((⟨g, o, none⟩ : Addr).add j) = some u := fun j u hu => by
    have hj := (List.getElem?_eq_some_iff.1 hu).1
    rw [List.length_map] at hj
    obtain ⟨b', o', e, _, _, hcc⟩ := hr1.2 (by omega)
    injection e with e
    injection e with e1 e2
    subst e1 e2
    rw [Addr.add_lit]
    exact hcc j u hu
  have hrun := run_append_grow (P := Try.prog) w 23 ty 5 i0 (.int .u8 0) Try.underlying23 hi hz0 ⟨g, o, none⟩ n n (bs.map bcell) (by simp [hz1, hn]) holds ⟨b, ob, none⟩ cs.length d (cs.map bcell) (by simp [hz1])
    (fun j u hu => by rw [Addr.add_lit]; exact hc j u hu) (by omega) (by omega) (growslice_fits (by omega) (by rw [hz2]; omega))
  have hge := grownCap_ge w (n + cs.length) n 5
  have hcm : grownCap w (n + cs.length) n 5 ≤ maxLen := grownCap_le_maxLen w (n + cs.length) n 5 (by unfold maxLen; omega)
  have hll : (bs ++ cs).length = n + cs.length := by rw [List.length_append, hn]
  refine ⟨_, _, _, hrun, ⟨_, _, by rw [hll], by omega, by unfold maxLen at hcm; omega, by omega, .inr ⟨w.heap.size, _, rfl, Nat.le_refl _, heap_alloc_new w.drew _, ?_, ?_⟩⟩, ((Below.refl w.heap.size w).drew).alloc (by simp) _⟩
  · simp only [Array.size_append, List.size_toArray, size_zeroCells, List.length_map]
    simp [Value.cells]
    omega
  · simp only [Array.toList_append, List.append_assoc]
    rw [← List.append_assoc, ← List.map_append, hll]
    have : ((bs ++ cs).map bcell).length = n + cs.length := by simp [hn]
    rw [← this]
    exact List.take_left
theorem step_fullB {w : World} {ops : Array Oper} {o : Oper} {a : Act} {K : Act → World → Prop} {Q : Exit → Act → World → Prop} {E : Prop} (hgd : o.guard = none) (s x : Operand)
    (ho : o.op = .call { callee := .builtin .append, args := #[s, x], argTypes := #[23, 23] }) (g ob n : Nat) (src : Value) (hs : a.eval s = .slice (some ⟨g, ob, none⟩) n n) (hx : a.eval x = src)
    (S S' : Nat → Prop) (bs cs : List UInt8) (hb : Byt w S (.slice (some ⟨g, ob, none⟩) n n) bs) (h : Byt w S' src cs) (hn : bs.length = n) (h0 : 0 < cs.length) (hl : n + cs.length ≤ 140737488355328)
    (hK : ∀ A c w', OwnF w' w.heap.size (.slice A (n + cs.length) c) (bs ++ cs) → fr w w' → K (a.put o.dst (.slice A (n + cs.length) c)) w') :
    if Region.wanted o (yielded ops a.tmps) = true then Oper.wp Try.prog o a w K Q else E := by
  have hw : Region.wanted o (yielded ops a.tmps) = true := by simp [Region.wanted, hgd]
  rw [if_pos hw]
  obtain ⟨A, c, w', hrun, h2, h3⟩ := run_append_fullB w o.type g ob n src S S' bs cs hb h hn h0 hl
  unfold Oper.wp execOp
  simp only [ho, resolve, invoke, builtin, Sem.run_bind, Sem.run_pure, Result.andThen_ok, List.map_toArray, List.map_cons, List.map_nil, hs, hx, hrun]
  exact hK A c w' h2 h3
theorem step_rowP {w : World} {ops : Array Oper} {o : Oper} {a : Act} {K : Act → World → Prop} {Q : Exit → Act → World → Prop} {E : Prop} (hgd : o.guard = none) (s x : Operand)
    (ho : o.op = .call { callee := .builtin .append, args := #[s, x], argTypes := #[83, 83] }) (base : Nat) (v : Value) (k : Nat) (xs : List Value) (hs : a.eval s = v) (hown : w.ownsRow base 85 2 v k xs)
    (g m : Nat) (news : List Value) (hx : a.eval x = .slice (some ⟨g, 0, none⟩) m m) (hn : news.length = m * 2) (hc : ∀ j u, news[j]? = some u → w.cell? ((⟨g, 0, none⟩ : Addr).add j) = some u) (h1c : ∀ u ∈ news, u.oneCell' = true) (hm : k + m ≤ 1048576) (hbase : base ≤ w.heap.size)
    (hK : ∀ v' w', w'.ownsRow base 85 2 v' (k + m) (xs ++ news) → w.grownBy w' v.ownBlock → (v'.ownBlock = v.ownBlock ∨ v'.ownBlock = some w.heap.size) → K (a.put o.dst v') w') :
    if Region.wanted o (yielded ops a.tmps) = true then Oper.wp Try.prog o a w K Q else E := by
  have hw : Region.wanted o (yielded ops a.tmps) = true := by simp [Region.wanted, hgd]
  rw [if_pos hw]
  obtain ⟨i0, hi, hz0, hz1, hz2⟩ := info_parts info65
  obtain ⟨v', w', hrun, h2, h3, _, h5⟩ := run_append_own_at (P := Try.prog) w base 83 o.type 85 i0 _ 2 48 Try.underlying83 hi hz0 hz1 hz2 rfl (by decide) v k xs hown ⟨g, 0, none⟩ m m news hn hc h1c (by unfold maxLen; omega) (by omega) hbase
  unfold Oper.wp execOp
  simp only [ho, resolve, invoke, builtin, Sem.run_bind, Sem.run_pure, Result.andThen_ok, List.map_toArray, List.map_cons, List.map_nil, hs, hx, hrun]
  exact hK v' w' h2 h3 h5
theorem noDefer_spec {ops : Array Oper} (h : (ops.toList.all fun o => match o.op with | .defer _ => false | _ => true) = true) : ∀ (i : Nat) (o : Oper), ops[i]? = some o → ∀ c, o.op ≠ .defer c := fun i o ho c hc => by
  have := List.all_eq_true.1 h o (Array.mem_toList_iff.2 (Array.mem_of_getElem? ho))
  rw [hc] at this
  cases this
theorem Only.cell' {S : Nat → Prop} {a b : World} (h : Only S a b) {B i : Nat} {v : Value} (hc : a.cell? ⟨B, i, none⟩ = some v) (hS : ¬ S B) : b.cell? ⟨B, i, none⟩ = some v :=
  (World.cell?_of_block (a := ⟨B, i, none⟩) (h.block B (World.block_lt_of_cell? a ⟨B, i, none⟩ hc) hS)).trans hc
end Go.Proofs.Ytiffgjodbcploaa
end
section
namespace Go.Proofs.Ytiffgjodbcploaa
open Go.RowKit Go.BigFrame Go.Sort Go.Shelf Go.Lib Go.Maps
attribute [local go_sem ↓] Go.wp_at_zero Go.wp_at_succ
theorem own_blk {w : World} {base size n g : Nat} {e : TypeId} {v : Value} {xs : List Value} (h : w.ownsRow base e size v n xs) (hv : v.ownBlock = some g) : ∃ cs : Array Value, w.heap[g]? = some (.cells cs e (0, 0)) := by
  rcases h.2 with ⟨rfl, _⟩ | ⟨g', cap, cur, rfl, _, hh, _⟩
  · cases hv
  · obtain rfl : g' = g := Option.some.inj hv
    exact ⟨_, hh⟩
end Go.Proofs.Ytiffgjodbcploaa
end
section
namespace Go.Proofs.Ytiffgjodbcploaa
open Go.RowKit Go.BigFrame Go.Sort Go.Shelf Go.Lib Go.Maps
attribute [local go_sem ↓] Go.wp_at_zero Go.wp_at_succ
/-- strings in new memory. -/
def OwnS (w : World) (base : Nat) (v : Value) (ss : List Nm) : Prop := w.ownsRow base 9 1 v ss.length (ss.map encStr)
theorem OwnS.nil (w : World) (base : Nat) : OwnS w base (.slice none 0 0) [] := World.ownsRow_nil _ _ _ _
theorem strs0 (w : World) : Strs w (fun _ => True) (.slice none 0 0) [] := ⟨_, _, rfl, Nat.le_refl _, by omega, by simp, fun h => by simp at h⟩
def listP (k : Pk) : List Nm := if k.down = true then [] else k.fs.map Fl.name
end Go.Proofs.Ytiffgjodbcploaa
end
section
namespace Go.Proofs.Ytiffgjodbcploaa
open Go.RowKit Go.BigFrame Go.Sort Go.Shelf Go.Lib Go.Maps
theorem Byt.lit (w : World) (S : Nat → Prop) (hS : S w.heap.size) (e : TypeId) (bs : List UInt8) (hl : bs.length ≤ 140737488355328) (o : Obj) (ho : o = .cells (bs.map bcell).toArray e (0, 0)) :
    Byt (w.alloc o) S (.slice (some ⟨w.heap.size, 0, none⟩) bs.length bs.length) bs := by
  subst ho
  refine ⟨_, _, rfl, Nat.le_refl _, by omega, hl, by simp, fun _ => ⟨w.heap.size, 0, rfl, hS, by simp, fun j u hu => ?_⟩⟩
  rw [World.cell?_alloc_at _ _ _ _ rfl]
  simpa using hu
/-- a disk at p that is k, in blocks from base on. -/
def DkP (w : World) (base p : Nat) (k : Pk) : Prop := ∃ F, DiskP w F p k ∧ ∀ i, F i → base ≤ i ∧ i < w.heap.size
theorem DkP.below {w w' : World} {base p : Nat} {k : Pk} (h : DkP w base p k) (hb : Below w.heap.size w w') : DkP w' base p k := by
  obtain ⟨F, h, hF⟩ := h
  exact ⟨F, h.below hb, fun i hi => ⟨(hF i hi).1, by have := (hF i hi).2; have := hb.size; omega⟩⟩
theorem DkP.made {w : World} {F : Nat → Prop} {base p : Nat} {k : Pk} (h : DiskP w F p k) (hF : ∀ i, F i → i < w.heap.size → base ≤ i) : DkP w base p k :=
  ⟨fun i => base ≤ i ∧ i < w.heap.size, h.mono fun i hi hl => ⟨hF i hi hl, hl⟩, fun _ hi => hi⟩
theorem DkP.base {w : World} {base b' p : Nat} {k : Pk} (h : DkP w base p k) (hb : b' ≤ base) : DkP w b' p k := by
  obtain ⟨F, h, hF⟩ := h
  exact ⟨F, h, fun i hi => ⟨Nat.le_trans hb (hF i hi).1, (hF i hi).2⟩⟩
section
variable {w w2 : World} {base p : Nat} {k : Pk}
theorem new_dk (S : Nat → Prop) (ops room : Int) (v : Value) (zs : List Int) (w : World) (hz : IntsIn w S v zs) (hl : zs.length * 8 ≤ 140737488355328) (base : Nat) (hbase : base ≤ w.heap.size) :
    Calls Try.prog 20 #[.agg #[.int .i64 ops, .int .i64 room, v]] w fun r w' => ∃ p, r = .returned (.pointer (some ⟨p, 0, none⟩)) ∧ DkP w' base p ⟨[], ops, room, zs, 0, 0, false⟩ ∧ Below w.heap.size w w' := by
  refine (new_any S ops room v zs w hz hl).mono ?_
  rintro r w' ⟨p, rfl, h, hb⟩
  exact ⟨p, rfl, .made h fun i hi _ => Nat.le_trans hbase hi, hb⟩
theorem append_dk (x : Nm) (v : Value) (b : List UInt8) (h : DkP w base p k) (hb : Below w.heap.size w w2) (hbase : base ≤ w.heap.size) (hv : Byt w2 (fun i => w.heap.size ≤ i) v b) (hx : x.length ≤ 140737488355328) (hd : 0 ≤ k.done) (hd' : k.done < 4611686018427387904)
    (hlen : ∀ f, findP x k.fs = some f → f.data.length + b.length ≤ 140737488355328) (hmany : k.fs.length < 9223372036854775807) :
    Calls Try.prog 39 #[.pointer (some ⟨p, 0, none⟩), .string ⟨x.toArray⟩, v] w2 fun r w' => r = .returned (.int .i64 (appendE k x b)) ∧ DkP w' base p (appendK k x b) ∧ Below base w2 w' ∧ ∀ X, w.heap.size ≤ X → X < w2.heap.size → w'.heap[X]? = w2.heap[X]? := by
  obtain ⟨F, h, hF⟩ := h
  refine (append_any F p k x _ v b w2 (h.below hb) hv (fun i hi hf => by have := (hF i hf).2; omega) hx hd hd' hlen hmany).mono ?_
  rintro r w' ⟨rfl, h', ho⟩
  have hs := hb.size
  exact ⟨rfl, .made h' fun i hi _ => hi.elim (fun hi => (hF i hi).1) (fun hi => by omega), ho.below (by omega) fun i hi => (hF i hi).1, fun X h1 h2 => ho.block X h2 fun hf => by have := (hF X hf).2; omega⟩
theorem sync_dk (x : Nm) (h : DkP w base p k) (hbase : base ≤ w.heap.size) (hx : x.length ≤ 140737488355328) (hd : 0 ≤ k.done) (hd' : k.done < 4611686018427387904) :
    Calls Try.prog 40 #[.pointer (some ⟨p, 0, none⟩), .string ⟨x.toArray⟩] w fun r w' => r = .returned (.int .i64 (syncE k x)) ∧ DkP w' base p (syncK k x) ∧ Below base w w' := by
  obtain ⟨F, h, hF⟩ := h
  refine (sync_any F p k x w h hx hd hd').mono ?_
  rintro r w' ⟨rfl, h', ho⟩
  exact ⟨rfl, .made h' fun i hi _ => (hF i hi).1, ho.below hbase fun i hi => (hF i hi).1⟩
theorem read_dk (x : Nm) (h : DkP w base p k) (hx : x.length ≤ 140737488355328) :
    Calls Try.prog 30 #[.pointer (some ⟨p, 0, none⟩), .string ⟨x.toArray⟩] w fun r w' => ∃ v, r = .returned (.tuple #[v, .int .i64 (readyE k [x])]) ∧ BytL w' w.heap.size v (if readyE k [x] = 0 then readD k x else []) ∧ DkP w' base p k ∧ Below w.heap.size w w' := by
  have h0 := h
  obtain ⟨F, h, hF⟩ := h
  refine (read_any F p k x w h hx).mono ?_
  rintro r w' ⟨v, rfl, hv, hb⟩
  exact ⟨v, rfl, hv, h0.below hb, hb⟩
end
end Go.Proofs.Ytiffgjodbcploaa
end
