/-
Slices of entries: how they read.
-/
import Derived.Test.YtacdhkkelkplnaaQPOwn0
import Derived.Deep.RegionWith
import Derived.Deep.RegionLaw
import Derived.OwnWalk
import Derived.Laws.Rows
section
namespace Go.Proofs.Ytacdhkkelkplnaa
open Go.RowKit
attribute [local go_sem ↓] Go.wp_at_zero Go.wp_at_succ
theorem cmpc_any (x y : Int) (w : World) : Calls Try.prog 36 #[.int .i64 x, .int .i64 y] w fun e w' => e = .returned (.int .i64 (cmpI x y)) ∧ w = w' :=
  (Try.cmp_Compare_int x y w).mono fun _ _ ⟨h, h'⟩ => ⟨by rw [h, compareInt_eq], h'.symm⟩
set_option maxRecDepth 100000 in
set_option maxHeartbeats 4000000 in
theorem compare_any (S S' : Nat → Prop) (v v' : Value) (a b : Ent) (w : World) (hv : EntV w S v a) (hv' : EntV w S' v' b) :
    Calls Try.prog 47 #[v, v'] w fun r w' => r = .returned (.int .i64 (cmpE a b)) ∧ Below w.heap.size w w' := by
  obtain ⟨k1, u1, rfl, h1, _⟩ := hv
  obtain ⟨k2, u2, rfl, h2, _⟩ := hv'
  have hA : Below w.heap.size w ((w.alloc (.cells #[k1, .int .i64 a.seq, .bool a.dead, u1] 46)).alloc (.cells #[k2, .int .i64 b.seq, .bool b.dead, u2] 46)) := ((Below.refl _ _).alloc (Nat.le_refl _) _).alloc (by simp) _
  have HA := Lib.hid hA
  have H1 := Lib.hid (h1.below hA)
  have H2 := Lib.hid (h2.below hA)
  clear hA h1 h2
  go_enter Try.func47, Try.ntmps47
  go_wp2
  go_region_held3 (fun w' => w'.cell? ⟨w.heap.size, 0, none⟩ = some k1 ∧ w'.cell? ⟨w.heap.size, 1, none⟩ = some (.int .i64 a.seq) ∧ w'.cell? ⟨w.heap.size + 1, 0, none⟩ = some k2 ∧ w'.cell? ⟨w.heap.size + 1, 1, none⟩ = some (.int .i64 b.seq)) (go_keep)
    (first
      | (go_at_call 56; refine (bcompare_any S S' _ _ a.key b.key _ (by exact H1.out) (by exact H2.out)).mono ?_; rintro r w' ⟨rfl, rfl⟩)
      | (go_at_call 36; refine (cmpc_any _ _ _).mono ?_; rintro r w' ⟨rfl, rfl⟩)
      | (go_at_call 64; refine (or2_any (cmpB a.key b.key) (cmpI b.seq a.seq) _ _ ?_ ?_).mono ?_; (simp [go_sem]); (simp [go_sem]); rintro r w' ⟨rfl, rfl⟩))
  all_goals go_wp2
  go_ret
  refine ⟨rfl, ?_⟩
  have h1 := HA.out
  exact (h1.alloc h1.size _).drew
end Go.Proofs.Ytacdhkkelkplnaa
end
section
namespace Go.Proofs.Ytacdhkkelkplnaa
open Go.RowKit
attribute [local go_sem ↓] Go.wp_at_zero Go.wp_at_succ
set_option maxRecDepth 100000 in
set_option maxHeartbeats 2000000 in
theorem rcmp_any (S S' : Nat → Prop) (v v' : Value) (a b : Ent) (w : World) (hv : EntV w S v a) (hv' : EntV w S' v' b) :
    Calls Try.prog 30 #[v, v'] w fun r w' => r = .returned (.int .i64 (cmpE a b)) ∧ Below w.heap.size w w' := by
  obtain ⟨k1, u1, rfl, h1, _⟩ := hv
  obtain ⟨k2, u2, rfl, h2, _⟩ := hv'
  have hA : Below w.heap.size w ((w.alloc (.cells #[k1, .int .i64 a.seq, .bool a.dead, u1] 46)).alloc (.cells #[k2, .int .i64 b.seq, .bool b.dead, u2] 46)) := ((Below.refl _ _).alloc (Nat.le_refl _) _).alloc (by simp) _
  have HA := Lib.hid hA
  have c1 := (h1.below hA).convert
  have c2 := (h2.below hA).convert
  have l1 := h1.len
  have l2 := h2.len
  clear h1 h2
  clear hA
  have cases_ : (cmpB a.key b.key = 0 ∧ b.seq < a.seq) ∨ (cmpB a.key b.key = 0 ∧ a.seq < b.seq) ∨ (cmpB a.key b.key = 0 ∧ a.seq = b.seq) ∨ ¬ cmpB a.key b.key = 0 := by omega
  rcases cases_ with ⟨e1, e2⟩ | ⟨e1, e2⟩ | ⟨e1, e2⟩ | e1
  · have hres : cmpE a b = -1 := by unfold cmpE cmpI; rw [if_pos e1, if_pos e2]
    rw [hres]
    have e1' : (cmpB a.key b.key == 0) = true := by rw [e1]; rfl
    clear hres e1
    go_enter Try.func30, Try.ntmps30
    go_wp2_with (go_at_call 53; refine (less_any a.key b.key _ l1 l2).mono ?_; rintro r w' ⟨rfl, q, rfl⟩)
    go_ret
    exact ⟨rfl, below_drewN HA.out _⟩
  · have hres : cmpE a b = 1 := by unfold cmpE cmpI; rw [if_pos e1, if_neg (by omega), if_pos e2]
    rw [hres]
    have e1' : (cmpB a.key b.key == 0) = true := by rw [e1]; rfl
    clear hres e1
    go_enter Try.func30, Try.ntmps30
    go_wp2_with (go_at_call 53; refine (less_any a.key b.key _ l1 l2).mono ?_; rintro r w' ⟨rfl, q, rfl⟩)
    go_ret
    exact ⟨rfl, below_drewN HA.out _⟩
  · have hres : cmpE a b = cmpB a.key b.key := by unfold cmpE cmpI; rw [if_pos e1, e2, if_neg (by omega), if_neg (by omega), e1]
    rw [hres]
    have e3 : ¬ b.seq < a.seq := by omega
    have e4 : ¬ a.seq < b.seq := by omega
    have e1' : (cmpB a.key b.key == 0) = true := by rw [e1]; rfl
    clear hres e1 e2
    go_enter Try.func30, Try.ntmps30
    go_wp2_with (go_at_call 53; refine (less_any a.key b.key _ l1 l2).mono ?_; rintro r w' ⟨rfl, q, rfl⟩)
    go_ret
    exact ⟨rfl, below_drewN HA.out _⟩
  · have hres : cmpE a b = cmpB a.key b.key := by unfold cmpE; rw [if_neg e1]
    rw [hres]
    have e1' : (cmpB a.key b.key == 0) = false := by simpa using e1
    clear hres e1
    go_enter Try.func30, Try.ntmps30
    go_wp2_with (go_at_call 53; refine (less_any a.key b.key _ l1 l2).mono ?_; rintro r w' ⟨rfl, q, rfl⟩)
    go_ret
    exact ⟨rfl, below_drewN HA.out _⟩
theorem ent_ne {a b : Ent} (h : ¬ (a.key = b.key ∧ a.seq = b.seq ∧ a.dead = b.dead ∧ a.val = b.val)) : false = decide (a = b) := by
  rw [decide_eq_false]
  rintro rfl
  exact h ⟨rfl, rfl, rfl, rfl⟩
set_option maxRecDepth 100000 in
set_option maxHeartbeats 2000000 in
theorem sameone_any (S S' : Nat → Prop) (v v' : Value) (a b : Ent) (w : World) (hv : EntV w S v a) (hv' : EntV w S' v' b) :
    Calls Try.prog 40 #[v, v'] w fun r w' => r = .returned (.bool (decide (a = b))) ∧ Below w.heap.size w w' := by
  obtain ⟨k1, u1, rfl, h1, g1⟩ := hv
  obtain ⟨k2, u2, rfl, h2, g2⟩ := hv'
  have hA : Below w.heap.size w ((w.alloc (.cells #[k1, .int .i64 a.seq, .bool a.dead, u1] 46)).alloc (.cells #[k2, .int .i64 b.seq, .bool b.dead, u2] 46)) := ((Below.refl _ _).alloc (Nat.le_refl _) _).alloc (by simp) _
  have c1 := (h1.below hA).convert
  have c2 := (h2.below hA).convert
  have d1 := (g1.below hA).convert
  have d2 := (g2.below hA).convert
  have HA := Lib.hid hA
  clear hA h1 h2 g1 g2
  by_cases e1 : a.key = b.key
  · by_cases e2 : a.seq = b.seq
    · by_cases e3 : a.dead = b.dead
      · by_cases e4 : a.val = b.val
        · have e : a = b := by cases a; cases b; simp_all
          subst e
          clear e1 e2 e3 e4
          go_enter Try.func40, Try.ntmps40
          go_wp2
          go_ret
          exact ⟨ret_bool (by simp), HA.out⟩
        · rw [← ent_ne (fun h => e4 h.2.2.2)]
          rcases a with ⟨ak, as', ad, av⟩
          rcases b with ⟨bk, bs', bd, bv⟩
          simp only at e1 e2 e3 e4 c1 c2 d1 d2 HA ⊢
          subst e1 e2 e3
          go_enter Try.func40, Try.ntmps40
          go_wp2
          go_ret
          exact ⟨ret_bool (by simpa using e4), HA.out⟩
      · rw [← ent_ne (fun h => e3 h.2.2.1)]
        rcases a with ⟨ak, as', ad, av⟩
        rcases b with ⟨bk, bs', bd, bv⟩
        simp only at e1 e2 e3 c1 c2 d1 d2 HA ⊢
        subst e1 e2
        have e3' : (ad == bd) = false := by simpa using e3
        clear e3
        go_enter Try.func40, Try.ntmps40
        go_wp2
        go_ret
        exact ⟨rfl, HA.out⟩
    · rw [← ent_ne (fun h => e2 h.2.1)]
      rcases a with ⟨ak, as', ad, av⟩
      rcases b with ⟨bk, bs', bd, bv⟩
      simp only at e1 e2 c1 c2 d1 d2 HA ⊢
      subst e1
      have e2' : (as' == bs') = false := by simpa using e2
      clear e2
      go_enter Try.func40, Try.ntmps40
      go_wp2
      go_ret
      exact ⟨rfl, HA.out⟩
  · rw [← ent_ne (fun h => e1 h.1)]
    go_enter Try.func40, Try.ntmps40
    go_wp2
    go_ret
    exact ⟨rfl, HA.out⟩
end Go.Proofs.Ytacdhkkelkplnaa
end
section
namespace Go.Proofs.Ytacdhkkelkplnaa
open Go.RowKit
attribute [local go_sem ↓] Go.wp_at_zero Go.wp_at_succ
theorem info5 : (Try.prog.info? 5).map (fun i => (i.zero, i.size, i.bytes)) = some (some (.int .u8 0), 1, 1) := by kernel_rfl
theorem Byt.of_own {w : World} {S : Nat → Prop} {base : Nat} {e : TypeId} {v : Value} {bs : List UInt8} (h : w.ownsRow base e 1 v bs.length (bs.map bcell)) (hS : ∀ i, base ≤ i → i < w.heap.size → S i)
    (hl : bs.length ≤ 140737488355328) : Byt w S v bs := by
  rcases h.2 with ⟨rfl, h0⟩ | ⟨g, cap, cur, rfl, hbg, hh, hcap, hcm, _⟩
  · have : bs = [] := List.eq_nil_of_length_eq_zero h0
    subst this
    exact Byt.nil _ _
  · have hlt : g < w.heap.size := by
      rcases Nat.lt_or_ge g w.heap.size with h1 | h1
      · exact h1
      · rw [Array.getElem?_eq_none h1] at hh; cases hh
    refine ⟨_, _, rfl, hcap, by unfold maxLen at hcm; omega, hl, by simp, fun _ => ⟨g, 0, rfl, hS _ hbg hlt, hlt, fun j u hu => ?_⟩⟩
    have := h.cells (g := g) rfl j u hu
    rwa [Addr.add_lit] at this
theorem run_append_byt (w : World) (base : Nat) (ty : TypeId) (v0 src : Value) (S : Nat → Prop) (bs : List UInt8) (hown : w.ownsRow base 5 1 v0 0 []) (h : Byt w S src bs) (hbase : base ≤ w.heap.size) :
    ∃ v' w', (Builtin.append_ #[44, 44] ty #[v0, src]).run Try.prog w = .ok v' w' ∧ w'.ownsRow base 5 1 v' bs.length (bs.map bcell) ∧ w.grownBy w' v0.ownBlock := by
  obtain ⟨i0, hi, hz0, hz1, hz2⟩ := info_parts info5
  obtain ⟨A, c, rfl, h1, h2, h3, hr⟩ := h
  rcases A with _ | ad
  · have hm : bs.length = 0 := by
      rcases Nat.eq_zero_or_pos bs.length with h0 | h0
      · exact h0
      · obtain ⟨b, o, h, _⟩ := hr.2 h0
        cases h
    have : bs = [] := List.eq_nil_of_length_eq_zero hm
    subst this
    refine ⟨v0, w, ?_, by simpa using hown, World.grownBy.refl w _⟩
    rcases hown.2 with ⟨rfl, _⟩ | ⟨g, cap, cur, rfl, _, _, hnc, _⟩
    · simp [Builtin.append_, run_underlying Try.underlying44, sizeOf, typeInfo, hi, Builtin.lenOf, Builtin.firstCells]
    · simp [Builtin.append_, run_underlying Try.underlying44, sizeOf, typeInfo, hi, Builtin.lenOf, Builtin.firstCells, hnc, storeCells]
  · obtain ⟨v', w', e1, e2, e3, _, _⟩ := run_append_own_at (P := Try.prog) w base 44 ty 5 i0 (.int .u8 0) 1 1 Try.underlying44 hi hz0 hz1 hz2 rfl (by decide) v0 0 [] hown ad bs.length c (bs.map bcell) (by simp)
      (fun j u hu => by
        rcases Nat.eq_zero_or_pos bs.length with h0 | h0
        · have : bs = [] := List.eq_nil_of_length_eq_zero h0
          subst this
          simp at hu
        · obtain ⟨b, o, e, _, _, hc⟩ := hr.2 h0
          obtain rfl := Option.some.inj e
          rw [Addr.add_lit]
          exact hc j u hu) (by simp [Value.oneCell', bcell]) (by unfold maxLen; omega) (by omega) hbase
    exact ⟨v', w', e1, by simpa using e2, e3⟩
theorem wpList_append_byt {w : World} {ops : Array Oper} {rest : List Oper} {o : Oper} {a : Act} {Q : Exit → Act → World → Prop} (hgd : o.guard = none) (s x : Operand)
    (ho : o.op = .call { callee := .builtin .append, args := #[s, x], argTypes := #[44, 44] }) (base : Nat) (v0 src : Value) (hs : a.eval s = v0) (hx : a.eval x = src)
    (S : Nat → Prop) (bs : List UInt8) (hown : w.ownsRow base 5 1 v0 0 []) (h : Byt w S src bs) (hbase : base ≤ w.heap.size)
    (hK : ∀ v' w', w'.ownsRow base 5 1 v' bs.length (bs.map bcell) → w.grownBy w' v0.ownBlock → wpList Try.prog ops Q rest (a.put o.dst v') w') : wpList Try.prog ops Q (o :: rest) a w :=
  wpList_plain hgd fun _ hk => by
    obtain ⟨v', w', hrun, h2, h3⟩ := run_append_byt w base o.type v0 src S bs hown h hbase
    unfold Oper.wp execOp
    simp only [ho, resolve, invoke, builtin, Sem.run_bind, Sem.run_pure, Result.andThen_ok, List.map_toArray, List.map_cons, List.map_nil, hs, hx, hrun]
    exact hk _ _ (hK v' w' h2 h3)
theorem step_append_byt {w : World} {ops : Array Oper} {o : Oper} {a : Act} {K : Act → World → Prop} {Q : Exit → Act → World → Prop} {E : Prop} (hgd : o.guard = none) (s x : Operand)
    (ho : o.op = .call { callee := .builtin .append, args := #[s, x], argTypes := #[44, 44] }) (base : Nat) (v0 src : Value) (hs : a.eval s = v0) (hx : a.eval x = src)
    (S : Nat → Prop) (bs : List UInt8) (hown : w.ownsRow base 5 1 v0 0 []) (h : Byt w S src bs) (hbase : base ≤ w.heap.size)
    (hK : ∀ v' w', w'.ownsRow base 5 1 v' bs.length (bs.map bcell) → w.grownBy w' v0.ownBlock → K (a.put o.dst v') w') :
    if Region.wanted o (yielded ops a.tmps) = true then Oper.wp Try.prog o a w K Q else E := by
  have hw : Region.wanted o (yielded ops a.tmps) = true := by simp [Region.wanted, hgd]
  rw [if_pos hw]
  obtain ⟨v', w', hrun, h2, h3⟩ := run_append_byt w base o.type v0 src S bs hown h hbase
  unfold Oper.wp execOp
  simp only [ho, resolve, invoke, builtin, Sem.run_bind, Sem.run_pure, Result.andThen_ok, List.map_toArray, List.map_cons, List.map_nil, hs, hx, hrun]
  exact hK v' w' h2 h3
theorem lit0 (w : World) : (w.alloc (.cells #[] 5)).ownsRow w.heap.size 5 1 (.slice (some ⟨w.heap.size, 0, none⟩) 0 0) 0 [] := by
  simpa using World.ownsRow_lit (base := w.heap.size) (e := 5) (size := 1) w #[] 0 (Nat.le_refl _) (by unfold maxLen; omega) (by simp)
set_option maxHeartbeats 2000000 in
/-- slices.Clone at []byte: new memory, or nil -/
theorem bclone_any (S : Nat → Prop) (v : Value) (bs : List UInt8) (w : World) (h : Byt w S v bs) :
    Calls Try.prog 66 #[v] w fun r w' => ∃ v', r = .returned v' ∧ Byt w' (fun i => w.heap.size ≤ i) v' bs ∧ Below w.heap.size w w' := by
  have hl := h.len
  have h' := Lib.hid h
  obtain ⟨A, c, rfl, _⟩ := h
  have q22 : ∀ (w : World) (a : Option Addr) (n c n' c' : Nat), (binOp .eql 44 (.slice a n c) (.slice none n' c')).run Try.prog w = .ok (.bool a.isNone) w := fun w a n c n' c' => Lib.run_eql_slice_nil w _ _ a n c n' c' Try.underlying44
  rcases A with _ | ad
  · have h0 : bs = [] := by
      obtain ⟨A, c', e, _, _, _, hr⟩ := h'.out
      rcases Nat.eq_zero_or_pos bs.length with h0 | h0
      · exact List.eq_nil_of_length_eq_zero h0
      · injection e with e1 _ _
        subst e1
        obtain ⟨b, o, h, _⟩ := hr.2 h0
        cases h
    subst h0
    go_enter Try.func66, Try.ntmps66
    go_wp2
    go_ret
    exact ⟨_, rfl, Byt.nil _ _, Below.refl _ _⟩
  · have hb1 := (Below.refl w.heap.size w).alloc (Nat.le_refl _) (.cells #[] 5)
    have HB := Lib.hid hb1
    clear hb1
    go_enter Try.func66, Try.ntmps66
    go_wp2_with (at_builtin; refine wpList_append_byt rfl _ _ rfl w.heap.size _ _ rfl rfl S bs (lit0 w) (h'.out.below HB.out) HB.out.size ?_; intro v' w1 hown hgrow)
    go_ret
    exact ⟨_, rfl, Byt.of_own hown (fun i hi _ => hi) hl, HB.out.grown hgrow HB.out.size (fun j e => by cases e; exact Nat.le_refl _)⟩
end Go.Proofs.Ytacdhkkelkplnaa
end
section
namespace Go.Proofs.Ytacdhkkelkplnaa
open Go.RowKit
theorem Only.refl (S : Nat → Prop) (w : World) : Only S w w := ⟨rfl, rfl, rfl, Nat.le_refl _, fun _ _ _ => rfl⟩
theorem Only.trans {S : Nat → Prop} {a b c : World} (h : Only S a b) (k : Only S b c) : Only S a c :=
  ⟨k.os.trans h.os, k.tape.trans h.tape, k.output.trans h.output, Nat.le_trans h.size k.size, fun i hi hS => (k.block i (Nat.lt_of_lt_of_le hi h.size) hS).trans (h.block i hi hS)⟩
theorem Only.mono {S S' : Nat → Prop} {a b : World} (h : Only S a b) (hS : ∀ i, S i → S' i) : Only S' a b :=
  ⟨h.os, h.tape, h.output, h.size, fun i hi hn => h.block i hi (fun h' => hn (hS i h'))⟩
theorem Only.of_below {S : Nat → Prop} {a b : World} (h : Below a.heap.size a b) : Only S a b := ⟨h.os, h.tape, h.output, h.size, fun i hi _ => h.block i hi⟩
theorem Only.below {S : Nat → Prop} {a b : World} {B : Nat} (h : Only S a b) (hB : B ≤ a.heap.size) (hS : ∀ i, S i → B ≤ i) : Below B a b :=
  ⟨h.os, h.tape, h.output, h.size, fun i hi => h.block i (Nat.lt_of_lt_of_le hi hB) (fun h' => by have := hS i h'; omega)⟩
theorem Only.setCell {S : Nat → Prop} {a b : World} (h : Only S a b) {p : Addr} (hp : S p.block) (u : Value) : Only S a (b.setCell p u) :=
  h.trans ⟨rfl, rfl, rfl, by simp [World.setCell], fun i _ hS => Below.heap_setCell _ _ _ _ (fun e => hS (by rw [e]; exact hp))⟩
theorem Only.alloc {S : Nat → Prop} {a b : World} (h : Only S a b) (o : Obj) : Only S a (b.alloc o) :=
  h.trans ⟨rfl, rfl, rfl, by simp, fun _ hi _ => Below.heap_alloc _ _ _ hi⟩
theorem Only.drew {S : Nat → Prop} {a b : World} (h : Only S a b) : Only S a b.drew := ⟨h.os, h.tape, h.output, h.size, h.block⟩
theorem Only.drewN {S : Nat → Prop} {a b : World} (h : Only S a b) (k : Nat) : Only S a (b.drewN k) := ⟨h.os, h.tape, h.output, h.size, h.block⟩
theorem Row.only {w w' : World} {T S : Nat → Prop} {A : Option Addr} {n size : Nat} {xs : List Value} (h : Row w T A n size xs) (ho : Only S w w') (hd : ∀ i, i < w.heap.size → T i → ¬ S i) : Row w' T A n size xs :=
  h.keep ho.size fun i hi hT => ho.block i hi (hd i hi hT)
theorem Byt.only {w w' : World} {T S : Nat → Prop} {v : Value} {bs : List UInt8} (h : Byt w T v bs) (ho : Only S w w') (hd : ∀ i, i < w.heap.size → T i → ¬ S i) : Byt w' T v bs :=
  h.keep ho.size fun i hi hT => ho.block i hi (hd i hi hT)
theorem EntV.only {w w' : World} {T S : Nat → Prop} {v : Value} {e : Ent} (h : EntV w T v e) (ho : Only S w w') (hd : ∀ i, i < w.heap.size → T i → ¬ S i) : EntV w' T v e := by
  obtain ⟨k, u, rfl, h1, h2⟩ := h
  exact ⟨k, u, rfl, h1.only ho hd, h2.only ho hd⟩
end Go.Proofs.Ytacdhkkelkplnaa
end
section
namespace Go.Proofs.Ytacdhkkelkplnaa
open Go.RowKit
attribute [local go_sem ↓] Go.wp_at_zero Go.wp_at_succ
theorem Byt.drew {w : World} {S : Nat → Prop} {v : Value} {bs : List UInt8} (h : Byt w S v bs) : Byt w.drew S v bs := h
theorem undrew {B : Nat} {a w : World} (h : Below B a.drew w) : Below B a w := ⟨h.os, h.tape, h.output, h.size, h.block⟩
/-- a new block of four cells under one more: what its cells hold later. -/
theorem box4 {w w' : World} {a b c d : Value} {t : TypeId} {o : Obj} (hb : Below (w.heap.size + 2) ((w.alloc (.cells #[a, b, c, d] t)).alloc o) w') :
    (w'.cell? ⟨w.heap.size, 0, none⟩ = some a ∧ w'.cell? ⟨w.heap.size, 1, none⟩ = some b ∧ w'.cell? ⟨w.heap.size, 2, none⟩ = some c ∧ w'.cell? ⟨w.heap.size, 3, none⟩ = some d) ∧ (∀ i, w'.frozen? ⟨w.heap.size, i, none⟩ = false) := by
  refine ⟨⟨?_, ?_, ?_, ?_⟩, fun i => ?_⟩
  iterate 4 (rw [hb.cell (by simp), World.cell?_alloc_lt _ _ _ (by simp), World.cell?_alloc_at _ _ _ _ rfl]; rfl)
  rw [hb.frozen (by simp), World.frozen?_alloc_past _ _ _ (by simp), World.frozen?_alloc_at _ _ _ _ rfl]
theorem box4' {w w' : World} {a b c d : Value} {t : TypeId} {o : Obj} (hb : Below (w.heap.size + 2) ((w.alloc o).alloc (.cells #[a, b, c, d] t)) w') :
    (w'.cell? ⟨w.heap.size + 1, 0, none⟩ = some a ∧ w'.cell? ⟨w.heap.size + 1, 1, none⟩ = some b ∧ w'.cell? ⟨w.heap.size + 1, 2, none⟩ = some c ∧ w'.cell? ⟨w.heap.size + 1, 3, none⟩ = some d) ∧ (∀ i, w'.frozen? ⟨w.heap.size + 1, i, none⟩ = false) := by
  refine ⟨⟨?_, ?_, ?_, ?_⟩, fun i => ?_⟩
  iterate 4 (rw [hb.cell (by simp), World.cell?_alloc_at _ _ _ _ (by simp)]; rfl)
  rw [hb.frozen (by simp), World.frozen?_alloc_at _ _ _ _ (by simp)]
theorem clone_end (w w2 : World) (e : Ent) (k u a b c d : Value) (hb : Below w.heap.size w w2) (hk : Byt w2 (fun i => w.heap.size + 2 ≤ i) k e.key) (hu : Byt w2 (fun i => w.heap.size + 2 ≤ i) u e.val) (x y : Value) :
    ∃ v', Ending.returned (.agg #[k, .int .i64 e.seq, .bool e.dead, u]) = .returned v' ∧
      EntV ((((((w2.setCell ⟨w.heap.size, 0, none⟩ x).setCell ⟨w.heap.size, 3, none⟩ y).setCell ⟨w.heap.size + 1, 0, none⟩ a).setCell ⟨w.heap.size + 1, 1, none⟩ b).setCell ⟨w.heap.size + 1, 2, none⟩ c).setCell ⟨w.heap.size + 1, 3, none⟩ d) (fun i => w.heap.size ≤ i) v' e ∧
      Below w.heap.size w ((((((w2.setCell ⟨w.heap.size, 0, none⟩ x).setCell ⟨w.heap.size, 3, none⟩ y).setCell ⟨w.heap.size + 1, 0, none⟩ a).setCell ⟨w.heap.size + 1, 1, none⟩ b).setCell ⟨w.heap.size + 1, 2, none⟩ c).setCell ⟨w.heap.size + 1, 3, none⟩ d) := by
  have ho : Only (fun i => i = w.heap.size ∨ i = w.heap.size + 1) w2 ((((((w2.setCell ⟨w.heap.size, 0, none⟩ x).setCell ⟨w.heap.size, 3, none⟩ y).setCell ⟨w.heap.size + 1, 0, none⟩ a).setCell ⟨w.heap.size + 1, 1, none⟩ b).setCell ⟨w.heap.size + 1, 2, none⟩ c).setCell ⟨w.heap.size + 1, 3, none⟩ d) :=
    ((((((Only.refl _ w2).setCell (p := ⟨w.heap.size, 0, none⟩) (.inl rfl) _).setCell (p := ⟨w.heap.size, 3, none⟩) (.inl rfl) _).setCell (p := ⟨w.heap.size + 1, 0, none⟩) (.inr rfl) _).setCell (p := ⟨w.heap.size + 1, 1, none⟩) (.inr rfl) _).setCell (p := ⟨w.heap.size + 1, 2, none⟩) (.inr rfl) _).setCell (p := ⟨w.heap.size + 1, 3, none⟩) (.inr rfl) _
  exact ⟨_, rfl, ⟨k, u, rfl, (hk.only ho (fun i _ h => by omega)).mono (fun i hi => by omega), (hu.only ho (fun i _ h => by omega)).mono (fun i hi => by omega)⟩, hb.trans (ho.below hb.size (fun i h => by omega))⟩
set_option maxRecDepth 100000 in
set_option maxHeartbeats 4000000 in
theorem eclone_any (S : Nat → Prop) (v : Value) (e : Ent) (w : World) (hv : EntV w S v e) :
    Calls Try.prog 51 #[v] w fun r w' => ∃ v', r = .returned v' ∧ EntV w' (fun i => w.heap.size ≤ i) v' e ∧ Below w.heap.size w w' := by
  obtain ⟨k, u, rfl, h1, h2⟩ := hv
  have hA : Below w.heap.size w ((w.alloc (.cells #[k, .int .i64 e.seq, .bool e.dead, u] 46)).alloc (.cells #[.slice none 0 0, .int .i64 0, .bool false, .slice none 0 0] 46)) := ((Below.refl _ _).alloc (Nat.le_refl _) _).alloc (by simp) _
  have H1 := Lib.hid (h1.below hA)
  have H2 := Lib.hid (h2.below hA)
  have HA := Lib.hid hA
  clear h1 h2 hA
  go_enter Try.func51, Try.ntmps51
  go_wp2
  go_region_with (first
    | (go_at_call 66; refine (bclone_any S k e.key _ (by with_reducible exact H1.out.drew)).mono ?_; rintro r w1 ⟨k', rfl, hk', hb1⟩; obtain ⟨Ak, ck, rfl⟩ := slice_form hk'; obtain ⟨⟨c0, c1, c2, c3⟩, cf⟩ := box4 ((undrew hb1).mono (by simp)))
    | (go_at_call 66; refine (bclone_any S u e.val _ (by with_reducible exact H2.out.drew)).mono ?_; rintro r w2 ⟨u', rfl, hu', hb2⟩; obtain ⟨Au, cu, rfl⟩ := slice_form hu'; obtain ⟨⟨c0, c1, c2, c3⟩, cf⟩ := box4 ((undrew hb2).mono (by simp)))
    | (go_at_call 66; refine (bclone_any S u e.val w1 (H2.out.drew.below hb1)).mono ?_; rintro r w2 ⟨u', rfl, hu', hb2⟩; obtain ⟨Au, cu, rfl⟩ := slice_form hu'; obtain ⟨⟨c0, c1, c2, c3⟩, cf⟩ := box4 (((undrew hb1).trans (hb2.mono hb1.size)).mono (by simp)))
    | (go_at_call 66; refine (bclone_any S k e.key w2 (H1.out.drew.below hb2)).mono ?_; rintro r w1 ⟨k', rfl, hk', hb1⟩; obtain ⟨Ak, ck, rfl⟩ := slice_form hk'; obtain ⟨⟨c0, c1, c2, c3⟩, cf⟩ := box4 (((undrew hb2).trans (hb1.mono hb2.size)).mono (by simp))))
  all_goals
    first
      | (have hb := (undrew hb1).trans (hb2.mono hb1.size); have hk2 := hk'.below hb2; have hu2 := hu'; have hz1 := hb1.size)
      | (have hb := (undrew hb2).trans (hb1.mono hb2.size); have hk2 := hk'; have hu2 := hu'.below hb1; have hz1 := hb2.size)
    obtain ⟨⟨e0, e1, e2, e3⟩, ef⟩ := box4' (hb.mono (by simp))
    have HB := Lib.hid hb
    clear hb hb1 hb2 hk' hu'
    go_wp2
  all_goals
    refine bodyPost_ret (v := .agg #[.slice Ak e.key.length ck, .int .i64 e.seq, .bool e.dead, .slice Au e.val.length cu]) (by simp [results, Try.results51, go_sem, e0, e1, e2, e3]) rfl ?_
    have hz := HB.out.size
    simp only [World.size_alloc, World.size_drew] at hz hz1 hk2 hu2
    exact clone_end w _ e _ _ _ _ _ _ (HA.out.trans (HB.out.mono (by simp; omega))) (hk2.mono (fun i hi => by omega)) (hu2.mono (fun i hi => by omega)) _ _
end Go.Proofs.Ytacdhkkelkplnaa
end
section
namespace Go.Proofs.Ytacdhkkelkplnaa
open Go.RowKit
attribute [local go_sem ↓] Go.wp_at_zero Go.wp_at_succ
/-- append onto a []byte literal without an element: new memory. -/
theorem run_append_byt0 (w : World) (ty : TypeId) (g : Nat) (src : Value) (S : Nat → Prop) (bs : List UInt8) (h : Byt w S src bs) :
    ∃ v' w', (Builtin.append_ #[44, 44] ty #[.slice (some ⟨g, 0, none⟩) 0 0, src]).run Try.prog w = .ok v' w' ∧ Byt w' (fun i => w.heap.size ≤ i) v' bs ∧ Below w.heap.size w w' := by
  obtain ⟨i0, hi, hz0, hz1, hz2⟩ := info_parts info5
  have hl := h.len
  obtain ⟨A, c, rfl, h1, h2, h3, hr⟩ := h
  rcases Nat.eq_zero_or_pos bs.length with h0 | h0
  · have : bs = [] := List.eq_nil_of_length_eq_zero h0
    subst this
    refine ⟨.slice (some ⟨g, 0, none⟩) 0 0, w, ?_, ⟨_, _, rfl, by simp, by simp, by simp, Row.nil _ _ _ _⟩, Below.refl _ _⟩
    rcases A with _ | a
    · simp [Builtin.append_, run_underlying Try.underlying44, sizeOf, typeInfo, hi, Builtin.lenOf, Builtin.firstCells, storeCells]
    · simp [Builtin.append_, run_underlying Try.underlying44, sizeOf, typeInfo, hi, Builtin.lenOf, Builtin.firstCells, storeCells, loadCells, loadCellsFrom]
  · obtain ⟨b, o, rfl, _, _, hc⟩ := hr.2 h0
    have hrun := run_append_grow (P := Try.prog) w 44 ty 5 i0 (.int .u8 0) Try.underlying44 hi hz0 ⟨g, 0, none⟩ 0 0 [] (by simp) (fun j u hu => by simp at hu) ⟨b, o, none⟩ bs.length c (bs.map bcell) (by simp [hz1])
      (fun j u hu => by rw [Addr.add_lit]; exact hc j u hu) (by omega) (by omega) (growslice_fits (by omega) (by rw [hz2]; omega))
    have hge := grownCap_ge w (0 + bs.length) 0 5
    have hcm : grownCap w (0 + bs.length) 0 5 ≤ maxLen := grownCap_le_maxLen w (0 + bs.length) 0 5 (by unfold maxLen; omega)
    refine ⟨_, _, hrun, ?_, ((Below.refl w.heap.size w).drew).alloc (by simp) _⟩
    have e0 : 0 + bs.length = bs.length := by omega
    rw [e0] at hge hcm ⊢
    refine ⟨_, _, rfl, hge, by unfold maxLen at hcm; omega, hl, by simp, fun _ => ⟨w.heap.size, 0, rfl, Nat.le_refl _, by simp, fun j u hu => ?_⟩⟩
    rw [World.cell?_alloc_at _ _ _ _ (by simp)]
    have hj : j < bs.length := by
      have := (List.getElem?_eq_some_iff.1 hu).1
      simpa using this
    simp [Array.getElem?_append, hj]
    rw [List.getElem?_map, List.getElem?_eq_getElem hj] at hu
    simpa using hu
theorem step_append_byt0 {w : World} {ops : Array Oper} {o : Oper} {a : Act} {K : Act → World → Prop} {Q : Exit → Act → World → Prop} {E : Prop} (hgd : o.guard = none) (s x : Operand)
    (ho : o.op = .call { callee := .builtin .append, args := #[s, x], argTypes := #[44, 44] }) (g : Nat) (src : Value) (hs : a.eval s = .slice (some ⟨g, 0, none⟩) 0 0) (hx : a.eval x = src)
    (S : Nat → Prop) (bs : List UInt8) (h : Byt w S src bs)
    (hK : ∀ v' w', Byt w' (fun i => w.heap.size ≤ i) v' bs → Below w.heap.size w w' → K (a.put o.dst v') w') :
    if Region.wanted o (yielded ops a.tmps) = true then Oper.wp Try.prog o a w K Q else E := by
  have hw : Region.wanted o (yielded ops a.tmps) = true := by simp [Region.wanted, hgd]
  rw [if_pos hw]
  obtain ⟨v', w', hrun, h2, h3⟩ := run_append_byt0 w o.type g src S bs h
  unfold Oper.wp execOp
  simp only [ho, resolve, invoke, builtin, Sem.run_bind, Sem.run_pure, Result.andThen_ok, List.map_toArray, List.map_cons, List.map_nil, hs, hx, hrun]
  exact hK v' w' h2 h3
theorem one_end (w w2 : World) (e : Ent) (k u a b c d : Value) (hb : Below w.heap.size w w2) (hk : Byt w2 (fun i => w.heap.size + 2 ≤ i) k e.key) (hu : Byt w2 (fun i => w.heap.size + 2 ≤ i) u e.val) :
    ∃ v', Ending.returned (.agg #[k, .int .i64 e.seq, .bool e.dead, u]) = .returned v' ∧
      EntV ((((w2.setCell ⟨w.heap.size + 1, 0, none⟩ a).setCell ⟨w.heap.size + 1, 1, none⟩ b).setCell ⟨w.heap.size + 1, 2, none⟩ c).setCell ⟨w.heap.size + 1, 3, none⟩ d) (fun i => w.heap.size ≤ i) v' e ∧
      Below w.heap.size w ((((w2.setCell ⟨w.heap.size + 1, 0, none⟩ a).setCell ⟨w.heap.size + 1, 1, none⟩ b).setCell ⟨w.heap.size + 1, 2, none⟩ c).setCell ⟨w.heap.size + 1, 3, none⟩ d) := by
  have ho : Only (fun i => i = w.heap.size + 1 ∨ i = w.heap.size + 1) w2 ((((w2.setCell ⟨w.heap.size + 1, 0, none⟩ a).setCell ⟨w.heap.size + 1, 1, none⟩ b).setCell ⟨w.heap.size + 1, 2, none⟩ c).setCell ⟨w.heap.size + 1, 3, none⟩ d) :=
    ((((Only.refl _ w2).setCell (p := ⟨w.heap.size + 1, 0, none⟩) (.inl rfl) _).setCell (p := ⟨w.heap.size + 1, 1, none⟩) (.inl rfl) _).setCell (p := ⟨w.heap.size + 1, 2, none⟩) (.inl rfl) _).setCell (p := ⟨w.heap.size + 1, 3, none⟩) (.inl rfl) _
  exact ⟨_, rfl, ⟨k, u, rfl, (hk.only ho (fun i _ h => by omega)).mono (fun i hi => by omega), (hu.only ho (fun i _ h => by omega)).mono (fun i hi => by omega)⟩, hb.trans (ho.below hb.size (fun i h => by omega))⟩
theorem undrewR {B : Nat} {a w : World} (h : Below B a w.drew) : Below B a w := ⟨h.os, h.tape, h.output, h.size, h.block⟩
/-- the frame of a function that has boxed one entry and laid a block of four cells for its result: the box stands, the result's block is there. -/
structure frame1 (w : World) (c0 c1 c2 c3 : Value) (t : TypeId) (w' : World) : Prop where
  box : Below (w.heap.size + 1) (w.alloc (.cells #[c0, c1, c2, c3] t)) w'
  res : ∃ a b c d, w'.heap[w.heap.size + 1]? = some (.cells #[a, b, c, d] t (0, 0))
section
variable {w w' w2 : World} {c0 c1 c2 c3 : Value} {t : TypeId}
theorem frame1.start {a b c d : Value} : frame1 w c0 c1 c2 c3 t ((w.alloc (.cells #[c0, c1, c2, c3] t)).alloc (.cells #[a, b, c, d] t)) :=
  ⟨(Below.refl _ _).alloc (by simp) _, a, b, c, d, by simpa using heap_alloc_new (w.alloc (.cells #[c0, c1, c2, c3] t)) (.cells #[a, b, c, d] t)⟩
theorem frame1.lt (h : frame1 w c0 c1 c2 c3 t w') : w.heap.size + 1 < w'.heap.size := by
  obtain ⟨a, b, c, d, h⟩ := h.res
  exact (Array.getElem?_eq_some_iff.1 h).1
theorem frame1.drew (h : frame1 w c0 c1 c2 c3 t w') : frame1 w c0 c1 c2 c3 t w'.drew := ⟨h.box.drew, h.res⟩
theorem frame1.undrew (h : frame1 w c0 c1 c2 c3 t w'.drew) : frame1 w c0 c1 c2 c3 t w' := ⟨undrewR h.box, h.res⟩
theorem frame1.step (h : frame1 w c0 c1 c2 c3 t w') (hb : Below w'.heap.size w' w2) : frame1 w c0 c1 c2 c3 t w2 := by
  have hl := h.lt
  obtain ⟨a, b, c, d, hr⟩ := h.res
  exact ⟨h.box.trans (hb.mono (by omega)), a, b, c, d, by rw [hb.block _ hl]; exact hr⟩
theorem frame1.alloc (h : frame1 w c0 c1 c2 c3 t w') (o' : Obj) : frame1 w c0 c1 c2 c3 t (w'.alloc o') := h.step ((Below.refl _ _).alloc (Nat.le_refl _) _)
theorem frame1.setRes (h : frame1 w c0 c1 c2 c3 t w') (i : Nat) (v : Value) : frame1 w c0 c1 c2 c3 t (w'.setCell ⟨w.heap.size + 1, i, none⟩ v) := by
  obtain ⟨a, b, c, d, hr⟩ := h.res
  refine ⟨h.box.setCell (p := ⟨w.heap.size + 1, i, none⟩) (Nat.le_refl _) _, ?_⟩
  rw [heap_setCell_same w' (w.heap.size + 1) i #[a, b, c, d] t v hr]
  rcases (by omega : i = 0 ∨ i = 1 ∨ i = 2 ∨ i = 3 ∨ 4 ≤ i) with rfl | rfl | rfl | rfl | h4
  · exact ⟨v, b, c, d, rfl⟩
  · exact ⟨a, v, c, d, rfl⟩
  · exact ⟨a, b, v, d, rfl⟩
  · exact ⟨a, b, c, v, rfl⟩
  · exact ⟨a, b, c, d, by rw [Array.setIfInBounds_eq_of_size_le (by simpa using h4)]⟩
theorem frame1.cell (h : frame1 w c0 c1 c2 c3 t w') : w'.cell? ⟨w.heap.size, 0, none⟩ = some c0 ∧ w'.cell? ⟨w.heap.size, 1, none⟩ = some c1 ∧ w'.cell? ⟨w.heap.size, 2, none⟩ = some c2 ∧ w'.cell? ⟨w.heap.size, 3, none⟩ = some c3 := by
  refine ⟨?_, ?_, ?_, ?_⟩ <;> (rw [h.box.cell (by simp), World.cell?_alloc_at _ _ _ _ rfl]; rfl)
theorem frame1.below (h : frame1 w c0 c1 c2 c3 t w') : Below w.heap.size w w' := ((Below.refl w.heap.size w).alloc (Nat.le_refl _) _).trans (h.box.mono (by omega))
theorem frame1.byt (h : frame1 w c0 c1 c2 c3 t w') {S : Nat → Prop} {v : Value} {bs : List UInt8} (hv : Byt w S v bs) : Byt w' S v bs := hv.below h.below
theorem frame1.all (h : frame1 w c0 c1 c2 c3 t w') : w'.cell? ⟨w.heap.size, 0, none⟩ = some c0 ∧ w'.cell? ⟨w.heap.size, 1, none⟩ = some c1 ∧ w'.cell? ⟨w.heap.size, 2, none⟩ = some c2 ∧ w'.cell? ⟨w.heap.size, 3, none⟩ = some c3 ∧ frame1 w c0 c1 c2 c3 t w' :=
  ⟨h.cell.1, h.cell.2.1, h.cell.2.2.1, h.cell.2.2.2, h⟩
theorem frame1.resCells (h : frame1 w c0 c1 c2 c3 t w') : ∃ a b c d, w'.cell? ⟨w.heap.size + 1, 0, none⟩ = some a ∧ w'.cell? ⟨w.heap.size + 1, 1, none⟩ = some b ∧ w'.cell? ⟨w.heap.size + 1, 2, none⟩ = some c ∧ w'.cell? ⟨w.heap.size + 1, 3, none⟩ = some d ∧ ∀ i, w'.frozen? ⟨w.heap.size + 1, i, none⟩ = false := by
  obtain ⟨a, b, c, d, hr⟩ := h.res
  exact ⟨a, b, c, d, by rw [cell_of_row w' _ 0 _ t _ hr]; rfl, by rw [cell_of_row w' _ 1 _ t _ hr]; rfl, by rw [cell_of_row w' _ 2 _ t _ hr]; rfl, by rw [cell_of_row w' _ 3 _ t _ hr]; rfl, fun i => frozen_of_row w' _ i _ t hr⟩
end
set_option maxRecDepth 100000 in
set_option maxHeartbeats 4000000 in
theorem one_any (S : Nat → Prop) (v : Value) (e : Ent) (w : World) (hv : EntV w S v e) :
    Calls Try.prog 41 #[v] w fun r w' => ∃ v', r = .returned v' ∧ EntV w' (fun i => w.heap.size ≤ i) v' e ∧ Below w.heap.size w w' := by
  obtain ⟨k, u, rfl, h1, h2⟩ := hv
  have H1 := Lib.hid h1
  have H2 := Lib.hid h2
  obtain ⟨Ak, ck, rfl⟩ := slice_form h1
  obtain ⟨Au, cu, rfl⟩ := slice_form h2
  clear h1 h2
  go_enter Try.func41, Try.ntmps41
  go_wp2
  go_region_held3 (fun w' => w'.cell? ⟨w.heap.size, 0, none⟩ = some (.slice Ak e.key.length ck) ∧ w'.cell? ⟨w.heap.size, 1, none⟩ = some (.int .i64 e.seq) ∧ w'.cell? ⟨w.heap.size, 2, none⟩ = some (.bool e.dead) ∧ w'.cell? ⟨w.heap.size, 3, none⟩ = some (.slice Au e.val.length cu) ∧
      frame1 w (.slice Ak e.key.length ck) (.int .i64 e.seq) (.bool e.dead) (.slice Au e.val.length cu) 46 w')
    (first
      | with_reducible exact frame1.start.drew.all
      | with_reducible exact hf2.all
      | with_reducible exact hf1.all
      | with_reducible exact (frame1.alloc hf1 _).all
      | with_reducible exact (frame1.alloc hf2 _).all
      | with_reducible exact ((((hf2.setRes 0 _).setRes 1 _).setRes 2 _).setRes 3 _).all
      | with_reducible exact ((((hf1.setRes 0 _).setRes 1 _).setRes 2 _).setRes 3 _).all
      | (go_split_ands; with_reducible (refine (frame1.alloc (frame1.undrew ?_) _).drew.all); with_reducible assumption)
      | (go_split_ands; with_reducible (refine (frame1.alloc ?_ _).all); with_reducible assumption))
    (first
      | (go_split_ands; refine step_append_byt0 (by rfl) _ _ (by rfl) _ (.slice Ak e.key.length ck) (by rfl) (by rfl) S e.key ?_ ?_; (with_reducible exact frame1.byt (by with_reducible assumption) H1.out); intro k' w1 hk' hb1; obtain ⟨Ak', ck', rfl⟩ := slice_form hk'; have hf1 := frame1.step (by with_reducible assumption) hb1; obtain ⟨x0, x1, x2, x3, e0, e1, e2, e3, ef⟩ := hf1.resCells)
      | (go_split_ands; refine step_append_byt0 (by rfl) _ _ (by rfl) _ (.slice Au e.val.length cu) (by rfl) (by rfl) S e.val ?_ ?_; (with_reducible exact frame1.byt (by with_reducible assumption) H2.out); intro u' w2 hu' hb2; obtain ⟨Au', cu', rfl⟩ := slice_form hu'; have hf2 := frame1.step (by with_reducible assumption) hb2; obtain ⟨x0, x1, x2, x3, e0, e1, e2, e3, ef⟩ := hf2.resCells))
  all_goals
    first
      | (have hk2 := hk'.below hb2; have hu2 := hu'; have hf := hf2)
      | (have hk2 := (hk'.below ((Below.refl _ _).alloc (Nat.le_refl _) _)).below hb2; have hu2 := hu'; have hf := hf2)
      | (have hu2 := hu'.below hb1; have hk2 := hk'; have hf := hf1)
      | (have hu2 := (hu'.below ((Below.refl _ _).alloc (Nat.le_refl _) _)).below hb1; have hk2 := hk'; have hf := hf1)
    have hl1 := hf1.lt
    have hl2 := hf2.lt
    simp only [World.size_alloc, World.size_drew] at hk2 hu2
    go_wp2
    refine bodyPost_ret (v := .agg #[.slice Ak' e.key.length ck', .int .i64 e.seq, .bool e.dead, .slice Au' e.val.length cu']) (by simp [results, Try.results41, go_sem, e0, e1, e2, e3]) rfl ?_
    exact one_end w _ e _ _ _ _ _ _ hf.below (hk2.mono (fun i hi => by omega)) (hu2.mono (fun i hi => by omega))
end Go.Proofs.Ytacdhkkelkplnaa
end
section
namespace Go.Proofs.Ytacdhkkelkplnaa
open Go.RowKit
def EntCells (w : World) (S : Nat → Prop) : List Value → List Ent → Prop
  | [], [] => True
  | k :: s :: d :: u :: cs, e :: es => s = .int .i64 e.seq ∧ d = .bool e.dead ∧ Byt w S k e.key ∧ Byt w S u e.val ∧ EntCells w S cs es
  | _, _ => False
theorem EntCells.cons_inv {w : World} {S : Nat → Prop} {cs : List Value} {e : Ent} {es : List Ent} (h : EntCells w S cs (e :: es)) :
    ∃ k u cs', cs = k :: .int .i64 e.seq :: .bool e.dead :: u :: cs' ∧ Byt w S k e.key ∧ Byt w S u e.val ∧ EntCells w S cs' es := by
  match cs, h with
  | k :: s :: d :: u :: cs', h =>
    obtain ⟨rfl, rfl, h1, h2, h3⟩ := h
    exact ⟨k, u, cs', rfl, h1, h2, h3⟩
theorem EntCells.nil_inv {w : World} {S : Nat → Prop} {cs : List Value} (h : EntCells w S cs []) : cs = [] := by
  cases cs with
  | nil => rfl
  | cons x l => simp [EntCells] at h
theorem EntCells.len {w : World} {S : Nat → Prop} {cs : List Value} {es : List Ent} (h : EntCells w S cs es) : cs.length = es.length * 4 := by
  induction es generalizing cs with
  | nil => rw [h.nil_inv]; rfl
  | cons e es ih =>
    obtain ⟨k, u, cs', rfl, _, _, h3⟩ := h.cons_inv
    simp [ih h3]; omega
theorem EntCells.append {w : World} {S : Nat → Prop} {cs cs' : List Value} {es es' : List Ent} (h : EntCells w S cs es) (h' : EntCells w S cs' es') : EntCells w S (cs ++ cs') (es ++ es') := by
  induction es generalizing cs with
  | nil => rw [h.nil_inv]; exact h'
  | cons e es ih =>
    obtain ⟨k, u, cs1, rfl, h1, h2, h3⟩ := h.cons_inv
    exact ⟨rfl, rfl, h1, h2, ih h3⟩
theorem EntCells.one {w : World} {S : Nat → Prop} {k u : Value} {e : Ent} (h1 : Byt w S k e.key) (h2 : Byt w S u e.val) : EntCells w S [k, .int .i64 e.seq, .bool e.dead, u] [e] := ⟨rfl, rfl, h1, h2, trivial⟩
theorem EntCells.imp {w w' : World} {S S' : Nat → Prop} {cs : List Value} {es : List Ent} (h : EntCells w S cs es) (hi : ∀ v bs, Byt w S v bs → Byt w' S' v bs) : EntCells w' S' cs es := by
  induction es generalizing cs with
  | nil => rw [h.nil_inv]; trivial
  | cons e es ih =>
    obtain ⟨k, u, cs1, rfl, h1, h2, h3⟩ := h.cons_inv
    exact ⟨rfl, rfl, hi _ _ h1, hi _ _ h2, ih h3⟩
theorem EntCells.below {w w' : World} {S : Nat → Prop} {cs : List Value} {es : List Ent} (h : EntCells w S cs es) (hb : Below w.heap.size w w') : EntCells w' S cs es := h.imp fun _ _ h => h.below hb
theorem EntCells.only {w w' : World} {T S : Nat → Prop} {cs : List Value} {es : List Ent} (h : EntCells w T cs es) (ho : Only S w w') (hd : ∀ i, i < w.heap.size → T i → ¬ S i) : EntCells w' T cs es := h.imp fun _ _ h => h.only ho hd
theorem EntCells.mono {w : World} {S S' : Nat → Prop} {cs : List Value} {es : List Ent} (h : EntCells w S cs es) (hS : ∀ i, S i → S' i) : EntCells w S' cs es := h.imp fun _ _ h => h.mono hS
theorem EntCells.at_ {w : World} {S : Nat → Prop} {cs : List Value} {es : List Ent} (h : EntCells w S cs es) {i : Nat} {e : Ent} (hi : es[i]? = some e) :
    ∃ k u, cs[4 * i]? = some k ∧ cs[4 * i + 1]? = some (.int .i64 e.seq) ∧ cs[4 * i + 2]? = some (.bool e.dead) ∧ cs[4 * i + 3]? = some u ∧ Byt w S k e.key ∧ Byt w S u e.val := by
  induction es generalizing cs i with
  | nil => simp at hi
  | cons e' es ih =>
    obtain ⟨k, u, cs1, rfl, h1, h2, h3⟩ := h.cons_inv
    cases i with
    | zero =>
      simp at hi
      subst hi
      exact ⟨k, u, rfl, rfl, rfl, rfl, h1, h2⟩
    | succ i =>
      obtain ⟨k', u', a1, a2, a3, a4, a5, a6⟩ := ih h3 (i := i) (by simpa using hi)
      refine ⟨k', u', ?_, ?_, ?_, ?_, a5, a6⟩
      · rw [show 4 * (i + 1) = 4 * i + 4 from by omega]; simpa using a1
      · rw [show 4 * (i + 1) + 1 = (4 * i + 1) + 4 from by omega]; simpa using a2
      · rw [show 4 * (i + 1) + 2 = (4 * i + 2) + 4 from by omega]; simpa using a3
      · rw [show 4 * (i + 1) + 3 = (4 * i + 3) + 4 from by omega]; simpa using a4
theorem EntCells.drop {w : World} {S : Nat → Prop} {cs : List Value} {es : List Ent} (h : EntCells w S cs es) (i : Nat) : EntCells w S (cs.drop (i * 4)) (es.drop i) := by
  induction i generalizing cs es with
  | zero => simpa using h
  | succ i ih =>
    cases es with
    | nil => rw [h.nil_inv]; simp [EntCells]
    | cons e es =>
      obtain ⟨k, u, cs1, rfl, h1, h2, h3⟩ := h.cons_inv
      rw [show (i + 1) * 4 = i * 4 + 4 from by omega]
      simpa using ih h3
theorem EntCells.take {w : World} {S : Nat → Prop} {cs : List Value} {es : List Ent} (h : EntCells w S cs es) (i : Nat) : EntCells w S (cs.take (i * 4)) (es.take i) := by
  induction i generalizing cs es with
  | zero => simp [EntCells]
  | succ i ih =>
    cases es with
    | nil => rw [h.nil_inv]; simp [EntCells]
    | cons e es =>
      obtain ⟨k, u, cs1, rfl, h1, h2, h3⟩ := h.cons_inv
      rw [show (i + 1) * 4 = i * 4 + 4 from by omega]
      simpa [EntCells] using ⟨h1, h2, ih h3⟩
/-- a slice value of entries. -/
def Ents (w : World) (S : Nat → Prop) (v : Value) (es : List Ent) : Prop :=
  ∃ A c cs, v = .slice A es.length c ∧ es.length ≤ c ∧ c ≤ 9223372036854775807 ∧ es.length * 64 ≤ 140737488355328 ∧ Row w S A es.length 4 cs ∧ EntCells w S cs es
theorem Ents.nil (w : World) (S : Nat → Prop) : Ents w S (.slice none 0 0) [] := ⟨none, 0, [], rfl, by simp, by simp, by simp, Row.nil _ _ _ _, trivial⟩
theorem Ents.below {w w' : World} {S : Nat → Prop} {v : Value} {es : List Ent} (h : Ents w S v es) (hb : Below w.heap.size w w') : Ents w' S v es := by
  obtain ⟨A, c, cs, e, h1, h2, h3, h4, h5⟩ := h
  exact ⟨A, c, cs, e, h1, h2, h3, h4.below hb, h5.below hb⟩
theorem Ents.only {w w' : World} {T S : Nat → Prop} {v : Value} {es : List Ent} (h : Ents w T v es) (ho : Only S w w') (hd : ∀ i, i < w.heap.size → T i → ¬ S i) : Ents w' T v es := by
  obtain ⟨A, c, cs, e, h1, h2, h3, h4, h5⟩ := h
  exact ⟨A, c, cs, e, h1, h2, h3, h4.only ho hd, h5.only ho hd⟩
theorem Ents.mono {w : World} {S S' : Nat → Prop} {v : Value} {es : List Ent} (h : Ents w S v es) (hS : ∀ i, S i → S' i) : Ents w S' v es := by
  obtain ⟨A, c, cs, e, h1, h2, h3, h4, h5⟩ := h
  exact ⟨A, c, cs, e, h1, h2, h3, h4.mono hS, h5.mono hS⟩
theorem Ents.drewN {w : World} {S : Nat → Prop} {v : Value} {es : List Ent} (h : Ents w S v es) (k : Nat) : Ents (w.drewN k) S v es := by
  obtain ⟨A, c, cs, e, h1, h2, h3, h4, h5⟩ := h
  exact ⟨A, c, cs, e, h1, h2, h3, h4, h5.imp fun _ _ h => h⟩
/-- an element's cells, as a walk asks for them -/
theorem Row.ent {w : World} {S : Nat → Prop} {A : Option Addr} {n : Nat} {cs : List Value} {es : List Ent} (h : Row w S A n 4 cs) (he : EntCells w S cs es) (hn : es.length = n) {i : Nat} {e : Ent} (hi : es[i]? = some e) :
    ∃ b o k u, A = some ⟨b, o, none⟩ ∧ w.cell? ⟨b, o + i * 4, none⟩ = some k ∧ w.cell? ⟨b, o + i * 4 + 1, none⟩ = some (.int .i64 e.seq) ∧ w.cell? ⟨b, o + i * 4 + 2, none⟩ = some (.bool e.dead) ∧ w.cell? ⟨b, o + i * 4 + 3, none⟩ = some u ∧ Byt w S k e.key ∧ Byt w S u e.val ∧ b < w.heap.size ∧ S b := by
  have hl : i < es.length := (List.getElem?_eq_some_iff.1 hi).1
  obtain ⟨b, o, rfl, hS, hb, hc⟩ := h.2 (by omega)
  obtain ⟨k, u, a1, a2, a3, a4, a5, a6⟩ := he.at_ hi
  refine ⟨b, o, k, u, rfl, ?_, ?_, ?_, ?_, a5, a6, hb, hS⟩
  · have := hc _ _ a1; rwa [show o + 4 * i = o + i * 4 from by omega] at this
  · have := hc _ _ a2; rwa [show o + (4 * i + 1) = o + i * 4 + 1 from by omega] at this
  · have := hc _ _ a3; rwa [show o + (4 * i + 2) = o + i * 4 + 2 from by omega] at this
  · have := hc _ _ a4; rwa [show o + (4 * i + 3) = o + i * 4 + 3 from by omega] at this
theorem Ents.of_own {w : World} {S : Nat → Prop} {base : Nat} {e : TypeId} {v : Value} {cs : List Value} {es : List Ent} (h : w.ownsRow base e 4 v es.length cs) (hc : EntCells w S cs es) (hS : ∀ i, base ≤ i → i < w.heap.size → S i)
    (hl : es.length * 64 ≤ 140737488355328) : Ents w S v es := by
  rcases h.2 with ⟨rfl, h0⟩ | ⟨g, cap, cur, rfl, hbg, hh, hcap, hcm, _⟩
  · have : es = [] := List.eq_nil_of_length_eq_zero h0
    subst this
    exact Ents.nil _ _
  · have hlt : g < w.heap.size := by
      rcases Nat.lt_or_ge g w.heap.size with h1 | h1
      · exact h1
      · rw [Array.getElem?_eq_none h1] at hh; cases hh
    refine ⟨_, _, cs, rfl, hcap, by unfold maxLen at hcm; omega, hl, ⟨h.1, fun _ => ⟨g, 0, rfl, hS _ hbg hlt, hlt, fun j u hu => ?_⟩⟩, hc⟩
    have := h.cells (g := g) rfl j u hu
    rwa [Addr.add_lit] at this
end Go.Proofs.Ytacdhkkelkplnaa
end
