/-
What MemtableOwn's loops ask of memory.
-/
import Derived.Test.YtelbidknefkaiaaQPMemOwn18
import Derived.Test.YtelbidknefkaiaaQPMemOwn12
import Derived.Test.YtelbidknefkaiaaQPMemOwn9
import Derived.Test.YtelbidknefkaiaaQPMemOwn2
import Derived.Test.YtelbidknefkaiaaQPMemOwn14
section
namespace Go.Proofs.Ytelbidknefkaiaa
open Go.RowKit
theorem only_of_below {w w' : World} (S : Nat → Prop) (h : Below w.heap.size w w') : Only S w w' := ⟨h.os, h.tape, h.output, h.size, fun i hi _ => h.block i hi⟩
theorem BytL.only {w w' : World} {lo : Nat} {v : Value} {bs : List UInt8} {S : Nat → Prop} (h : BytL w lo v bs) (ho : Only S w w') (hd : ∀ i, lo ≤ i → Loose w i → ¬ S i) : BytL w' lo v bs :=
  Byt.mono (S := fun i => lo ≤ i ∧ Loose w i) (Byt.only (T := fun i => lo ≤ i ∧ Loose w i) h ho fun i _ hi => hd i hi.1 hi.2) fun i hi => ⟨hi.1, hi.2.only ho (hd i hi.1 hi.2)⟩
theorem SkipV.only {w w' : World} {base T : Nat} {ns : List Nd} {hs : Value} {many : Int} {S : Nat → Prop} (h : SkipV w base T ns hs many) (ho : Only S w w') (hd : ∀ i, S i → i < base ∧ i ≠ T) : SkipV w' base T ns hs many := by
  have hb : ∀ i, base ≤ i → Loose w i → ¬ S i := fun i hi _ hS => by have := (hd i hS).1; omega
  refine ⟨h.ord, ?_, fun i n hn => ?_, fun n hn => ⟨(h.byt n hn).1.only ho hb, (h.byt n hn).2.only ho hb⟩, h.hi, h.diff, h.lo⟩
  · obtain ⟨cs, h1, h2⟩ := h.tab
    exact ⟨cs, (ho.block T (Array.getElem?_eq_some_iff.1 h1).1 (fun hS => (hd T hS).2 rfl)).trans h1, h2⟩
  · obtain ⟨cs, h1, h2⟩ := h.node i n hn
    have hlo := h.lo n (List.mem_of_getElem? hn)
    exact ⟨cs, (ho.block _ (Array.getElem?_eq_some_iff.1 h1).1 (fun hS => by have := (hd _ hS).1; omega)).trans h1, h2⟩
/-- with no nodes the base is free. -/
theorem SkipV.rebase {w : World} {base T : Nat} {hs : Value} {many : Int} (h : SkipV w base T [] hs many) (base' : Nat) : SkipV w base' T [] hs many :=
  ⟨h.ord, h.tab, h.node, fun n hn => by simp at hn, h.hi, h.diff, fun n hn => by simp at hn⟩
/-- the blocks that a Put may write to. -/
def putS (w : World) (B T i : Nat) : Prop := (i = T ∨ B ≤ i) ∧ (Shape w i 71 16 ∨ Shape w i 76 18)
theorem Loose.notPut {w : World} {B T i : Nat} (h : Loose w i) : ¬ putS w B T i := by
  obtain ⟨cs, h⟩ := h
  rintro ⟨_, ⟨cs', h', _⟩ | ⟨cs', h', _⟩⟩ <;>
  · rw [h] at h'
    injection h' with h'
    injection h' with _ h'
    exact absurd h' (by decide)
theorem own_notPut {w : World} {B T base n : Nat} {v : Value} {ys : List Value} (h : w.ownsRow base 26 4 v n ys) : ∀ g, v.ownBlock = some g → ¬ putS w B T g := by
  intro g hg
  rcases h.2 with ⟨rfl, _⟩ | ⟨g', cap, cur, rfl, _, hh, _⟩
  · cases hg
  · injection hg with hg
    subst hg
    rintro ⟨_, ⟨cs', h', _⟩ | ⟨cs', h', _⟩⟩ <;>
    · rw [hh] at h'
      injection h' with h'
      injection h' with _ h'
      exact absurd h' (by decide)
structure Tb (w : World) (B hb T : Nat) (hs : Value) (has : List Ent) : Prop where
  ex : ∃ ns, SkipV w B T ns hs ns.length ∧ allUp ns ∧ (∀ n ∈ ns, goodE n.ent = true) ∧ (ns.map Nd.ent).Perm has
  hts : Hts w hb hs
theorem Tb.below {w w' : World} {B hb T : Nat} {hs : Value} {has : List Ent} (h : Tb w B hb T hs has) (hw : Below w.heap.size w w') : Tb w' B hb T hs has := by
  obtain ⟨⟨ns, h1, h2⟩, h3⟩ := h
  exact ⟨⟨ns, h1.below hw, h2⟩, h3.below hw⟩
theorem Tb.only {w w' : World} {B hb T : Nat} {hs : Value} {has : List Ent} {S : Nat → Prop} (h : Tb w B hb T hs has) (ho : Only S w w') (hd : ∀ i, S i → i < B ∧ i ≠ T) (hh : ∀ i, S i → i < hb ∨ Loose w i) : Tb w' B hb T hs has := by
  obtain ⟨⟨ns, h1, h2⟩, h3⟩ := h
  refine ⟨⟨ns, h1.only ho hd, h2⟩, h3.of_eq fun b cs hb hc => ho.block b (Array.getElem?_eq_some_iff.1 hc).1 fun hS => ?_⟩
  rcases hh b hS with h | ⟨cs', h⟩
  · omega
  · rw [h] at hc
    injection hc with hc
    injection hc with _ hc
    exact absurd hc (by decide)
theorem Tb.start {w : World} {base B hb T : Nat} {hs : Value} (h : SkipV w base T [] hs 0) (hh : Hts w hb hs) : Tb w B hb T hs [] :=
  ⟨⟨[], h.rebase B, fun n hn => by simp at hn, fun n hn => by simp at hn, List.Perm.refl _⟩, hh⟩
theorem put_step (S : Nat → Prop) (B hb T : Nat) (hs : Value) (has : List Ent) (v : Value) (e : Ent) (w : World) (h : Tb w B hb T hs has) (hv : EntV w S v e) (hbw : B ≤ w.heap.size) (hl : has.length < 1152921504606846976) :
    Calls Try.prog 12 #[.pointer (some ⟨T, 0, none⟩), v] w fun r w' => ∃ c, r = .returned (.int .i64 c) ∧ Only (putS w B T) w w' ∧ ((c = 0 ∧ Tb w' B hb T hs (has ++ [e])) ∨ (c ≠ 0 ∧ Tb w' B hb T hs has)) := by
  obtain ⟨⟨ns, h1, hu, hg, hp⟩, hh⟩ := h
  have hln : ns.length = has.length := by simpa using hp.length_eq
  cases hge : goodE e with
  | false =>
    refine (put_bad S T v e w hv hge).mono ?_
    rintro r w' ⟨rfl, hw⟩
    exact ⟨30, rfl, only_of_below _ hw, .inr ⟨by decide, ⟨ns, h1.below hw, hu, hg, hp⟩, hh.below hw⟩⟩
  | true =>
    by_cases hx : ∃ n, ns[cnt e ns]? = some n ∧ cmpE n.ent e = 0
    · obtain ⟨n, hn, hc⟩ := hx
      refine (put_twice S B T ns hs _ v e w h1 hu hv hge n hn hc).mono ?_
      rintro r w' ⟨rfl, hw⟩
      exact ⟨31, rfl, only_of_below _ hw, .inr ⟨by decide, ⟨ns, h1.below hw, hu, hg, hp⟩, hh.below hw⟩⟩
    · refine (put_new S B hb T ns hs v e w h1 (by omega) hu hh hv hge (fun n hn hc => hx ⟨n, hn, hc⟩) hbw).mono ?_
      rintro r w' ⟨rfl, n, hn, hup, hs', hh', ho⟩
      have e1 : (ns.take (cnt e ns) ++ n :: ns.drop (cnt e ns)).length = ns.length + 1 := by
        have := cnt_le e ns
        simp
        omega
      have hpm : (ns.take (cnt e ns) ++ n :: ns.drop (cnt e ns)).Perm (n :: ns) := by
        have := List.perm_middle (a := n) (l₁ := ns.take (cnt e ns)) (l₂ := ns.drop (cnt e ns))
        rwa [List.take_append_drop] at this
      refine ⟨0, rfl, ho.mono fun i hi => ?_, .inl ⟨rfl, ⟨_, by rw [e1, Int.natCast_add]; exact hs', fun x hx => ?_, fun x hx => ?_, ?_⟩, hh'⟩⟩
      · rcases hi with rfl | ⟨m, hm, rfl⟩
        · exact ⟨.inl rfl, .inr h1.tabC.shape⟩
        · obtain ⟨j, hj⟩ := List.getElem?_of_mem hm
          exact ⟨.inr (h1.lo m hm), .inl (h1.nodeC hj).shape⟩
      · rcases List.mem_cons.1 (hpm.mem_iff.1 hx) with rfl | hx
        · exact hup
        · exact hu x hx
      · rcases List.mem_cons.1 (hpm.mem_iff.1 hx) with rfl | hx
        · rw [hn]; exact hge
        · exact hg x hx
      · have h2 := hpm.map Nd.ent
        rw [List.map_cons, hn] at h2
        exact h2.trans ((hp.cons e).trans (List.perm_append_comm (l₁ := [e]) (l₂ := has)))
theorem Tb.sorted {ns : List Nd} {has rs : List Ent} (ho : inOrder ns) (hp : (ns.map Nd.ent).Perm has) (h1 : rs.Perm has) (h2 : rs.Pairwise upTo) : ns.map Nd.ent = rs := by
  have hb : (ns.map Nd.ent).Pairwise before := List.pairwise_map.2 ho
  have hpr : rs.Perm (ns.map Nd.ent) := h1.trans hp.symm
  exact (before_eq hpr (noAdj_before h2 (noTwice_noAdj ((noTwice_perm hpr).2 (before_noTwice hb)))) hb).symm
theorem all_tb (B hb T : Nat) (hs : Value) (has : List Ent) (w : World) (h : Tb w B hb T hs has) (hl : has.length * 64 ≤ 140737488355328) : ∃ out : List Ent, out.length = has.length ∧ (∀ rs : List Ent, rs.Perm has → rs.Pairwise upTo → out = rs) ∧
    ∀ w1, Below w.heap.size w w1 → Calls Try.prog 17 #[.pointer (some ⟨T, 0, none⟩), .slice none 0 0, .slice none 0 0] w1 fun r w' => ∃ v, r = .returned v ∧ OwnE w' w1.heap.size v out ∧ Below w1.heap.size w1 w' := by
  obtain ⟨⟨ns, h1, hu, hg, hp⟩, hh⟩ := h
  have hln : ns.length = has.length := by simpa using hp.length_eq
  refine ⟨ns.map Nd.ent, by simpa using hln, fun rs hr1 hr2 => Tb.sorted h1.ord hp hr1 hr2, fun w1 hw => ?_⟩
  refine all_any B T ns hs _ w1 (h1.below hw) hu (fun n hn he => ?_) (by omega)
  have := hg n hn
  unfold goodE at this
  rw [goodR_t, he] at this
  exact absurd this.1 (by simp)
end Go.Proofs.Ytelbidknefkaiaa
end
section
namespace Go.Proofs.Ytelbidknefkaiaa
open Go.RowKit
attribute [local go_sem ↓] Go.wp_at_zero Go.wp_at_succ
/-- append onto a []byte literal without an element: new memory. -/
theorem run_append_byt0L (w : World) (ty : TypeId) (g : Nat) (src : Value) (S : Nat → Prop) (bs : List UInt8) (h : Byt w S src bs) :
    ∃ v' w', (Builtin.append_ #[23, 23] ty #[.slice (some ⟨g, 0, none⟩) 0 0, src]).run Try.prog w = .ok v' w' ∧ BytL w' w.heap.size v' bs ∧ Below w.heap.size w w' := by
  obtain ⟨i0, hi, hz0, hz1, hz2⟩ := info_parts info5
  have hl := h.len
  obtain ⟨A, c, rfl, h1, h2, h3, hr⟩ := h
  rcases Nat.eq_zero_or_pos bs.length with h0 | h0
  · have : bs = [] := List.eq_nil_of_length_eq_zero h0
    subst this
    refine ⟨.slice (some ⟨g, 0, none⟩) 0 0, w, ?_, ⟨_, _, rfl, by simp, by simp, by simp, Row.nil _ _ _ _⟩, Below.refl _ _⟩
    rcases A with _ | a
    · simp [Builtin.append_, run_underlying Try.underlying23, sizeOf, typeInfo, hi, Builtin.lenOf, Builtin.firstCells, storeCells]
    · simp [Builtin.append_, run_underlying Try.underlying23, sizeOf, typeInfo, hi, Builtin.lenOf, Builtin.firstCells, storeCells, loadCells, loadCellsFrom]
  · obtain ⟨b, o, rfl, _, _, hc⟩ := hr.2 h0
    have hrun := run_append_grow (P := Try.prog) w 23 ty 5 i0 (.int .u8 0) Try.underlying23 hi hz0 ⟨g, 0, none⟩ 0 0 [] (by simp) (fun j u hu => by simp at hu) ⟨b, o, none⟩ bs.length c (bs.map bcell) (by simp [hz1])
      (fun j u hu => by rw [Addr.add_lit]; exact hc j u hu) (by omega) (by omega) (growslice_fits (by omega) (by rw [hz2]; omega))
    have hge := grownCap_ge w (0 + bs.length) 0 5
    have hcm : grownCap w (0 + bs.length) 0 5 ≤ maxLen := grownCap_le_maxLen w (0 + bs.length) 0 5 (by unfold maxLen; omega)
    refine ⟨_, _, hrun, ?_, ((Below.refl w.heap.size w).drew).alloc (by simp) _⟩
    have e0 : 0 + bs.length = bs.length := by omega
    rw [e0] at hge hcm ⊢
    refine ⟨_, _, rfl, hge, by unfold maxLen at hcm; omega, hl, by simp, fun _ => ⟨w.heap.size, 0, rfl, ⟨Nat.le_refl _, _, heap_alloc_new w.drew _⟩, by simp, fun j u hu => ?_⟩⟩
    rw [World.cell?_alloc_at _ _ _ _ (by simp)]
    have hj : j < bs.length := by
      have := (List.getElem?_eq_some_iff.1 hu).1
      simpa using this
    simp [Array.getElem?_append, hj]
    rw [List.getElem?_map, List.getElem?_eq_getElem hj] at hu
    simpa using hu
theorem step_append_byt0L {w : World} {ops : Array Oper} {o : Oper} {a : Act} {K : Act → World → Prop} {Q : Exit → Act → World → Prop} {E : Prop} (hgd : o.guard = none) (s x : Operand)
    (ho : o.op = .call { callee := .builtin .append, args := #[s, x], argTypes := #[23, 23] }) (g : Nat) (src : Value) (hs : a.eval s = .slice (some ⟨g, 0, none⟩) 0 0) (hx : a.eval x = src)
    (S : Nat → Prop) (bs : List UInt8) (h : Byt w S src bs)
    (hK : ∀ v' w', BytL w' w.heap.size v' bs → Below w.heap.size w w' → K (a.put o.dst v') w') :
    if Region.wanted o (yielded ops a.tmps) = true then Oper.wp Try.prog o a w K Q else E := by
  have hw : Region.wanted o (yielded ops a.tmps) = true := by simp [Region.wanted, hgd]
  rw [if_pos hw]
  obtain ⟨v', w', hrun, h2, h3⟩ := run_append_byt0L w o.type g src S bs h
  unfold Oper.wp execOp
  simp only [ho, resolve, invoke, builtin, Sem.run_bind, Sem.run_pure, Result.andThen_ok, List.map_toArray, List.map_cons, List.map_nil, hs, hx, hrun]
  exact hK v' w' h2 h3
theorem one_endL (w w2 : World) (e : Ent) (k u a b c d : Value) (hb : Below w.heap.size w w2) (hk : BytL w2 (w.heap.size + 2) k e.key) (hu : BytL w2 (w.heap.size + 2) u e.val) :
    ∃ v', Ending.returned (.agg #[k, .int .i64 e.seq, .bool e.dead, u]) = .returned v' ∧
      EntVL ((((w2.setCell ⟨w.heap.size + 1, 0, none⟩ a).setCell ⟨w.heap.size + 1, 1, none⟩ b).setCell ⟨w.heap.size + 1, 2, none⟩ c).setCell ⟨w.heap.size + 1, 3, none⟩ d) w.heap.size v' e ∧
      Below w.heap.size w ((((w2.setCell ⟨w.heap.size + 1, 0, none⟩ a).setCell ⟨w.heap.size + 1, 1, none⟩ b).setCell ⟨w.heap.size + 1, 2, none⟩ c).setCell ⟨w.heap.size + 1, 3, none⟩ d) := by
  have ho : Only (fun i => i = w.heap.size + 1 ∨ i = w.heap.size + 1) w2 ((((w2.setCell ⟨w.heap.size + 1, 0, none⟩ a).setCell ⟨w.heap.size + 1, 1, none⟩ b).setCell ⟨w.heap.size + 1, 2, none⟩ c).setCell ⟨w.heap.size + 1, 3, none⟩ d) :=
    ((((Only.refl _ w2).setCell (p := ⟨w.heap.size + 1, 0, none⟩) (.inl rfl) _).setCell (p := ⟨w.heap.size + 1, 1, none⟩) (.inl rfl) _).setCell (p := ⟨w.heap.size + 1, 2, none⟩) (.inl rfl) _).setCell (p := ⟨w.heap.size + 1, 3, none⟩) (.inl rfl) _
  have go : ∀ v bs, BytL w2 (w.heap.size + 2) v bs → BytL _ w.heap.size v bs := fun v bs h =>
    Byt.mono (S := fun i => w.heap.size + 2 ≤ i ∧ Loose w2 i) (Byt.only (T := fun i => w.heap.size + 2 ≤ i ∧ Loose w2 i) h ho (fun i _ h => by have := h.1; omega)) fun i hi => ⟨by have := hi.1; omega, hi.2.only ho (by have := hi.1; omega)⟩
  exact ⟨_, rfl, ⟨k, u, rfl, go _ _ hk, go _ _ hu⟩, hb.trans (ho.below hb.size (fun i h => by omega))⟩
set_option maxRecDepth 100000 in
set_option maxHeartbeats 4000000 in
theorem oneL_any (S : Nat → Prop) (v : Value) (e : Ent) (w : World) (hv : EntV w S v e) :
    Calls Try.prog 13 #[v] w fun r w' => ∃ v', r = .returned v' ∧ EntVL w' w.heap.size v' e ∧ Below w.heap.size w w' := by
  obtain ⟨k, u, rfl, h1, h2⟩ := hv
  have H1 := Lib.hid h1
  have H2 := Lib.hid h2
  obtain ⟨Ak, ck, rfl⟩ := slice_form h1
  obtain ⟨Au, cu, rfl⟩ := slice_form h2
  clear h1 h2
  go_enter Try.func13, Try.ntmps13
  go_wp2
  go_region_held3 (fun w' => w'.cell? ⟨w.heap.size, 0, none⟩ = some (.slice Ak e.key.length ck) ∧ w'.cell? ⟨w.heap.size, 1, none⟩ = some (.int .i64 e.seq) ∧ w'.cell? ⟨w.heap.size, 2, none⟩ = some (.bool e.dead) ∧ w'.cell? ⟨w.heap.size, 3, none⟩ = some (.slice Au e.val.length cu) ∧
      frame1 w (.slice Ak e.key.length ck) (.int .i64 e.seq) (.bool e.dead) (.slice Au e.val.length cu) 26 w')
    (first
      | with_reducible exact frame1.start.drew.all
      | with_reducible exact hf2.all
      | with_reducible exact hf1.all
      | with_reducible exact (frame1.alloc hf1 _).all
      | with_reducible exact (frame1.alloc hf2 _).all
      | with_reducible exact ((((hf2.setRes 0 _).setRes 1 _).setRes 2 _).setRes 3 _).all
      | with_reducible exact ((((hf1.setRes 0 _).setRes 1 _).setRes 2 _).setRes 3 _).all
      | (go_split_ands; with_reducible (refine (frame1.alloc (frame1.undrew ?_) _).drew.all); with_reducible assumption)
      | (go_split_ands; with_reducible (refine (frame1.alloc ?_ _).all); with_reducible assumption))
    (first
      | (go_split_ands; refine step_append_byt0L (by rfl) _ _ (by rfl) _ (.slice Ak e.key.length ck) (by rfl) (by rfl) S e.key ?_ ?_; (with_reducible exact frame1.byt (by with_reducible assumption) H1.out); intro k' w1 hk' hb1; obtain ⟨Ak', ck', rfl⟩ := slice_form hk'.byt; have hf1 := frame1.step (by with_reducible assumption) hb1; obtain ⟨x0, x1, x2, x3, e0, e1, e2, e3, ef⟩ := hf1.resCells)
      | (go_split_ands; refine step_append_byt0L (by rfl) _ _ (by rfl) _ (.slice Au e.val.length cu) (by rfl) (by rfl) S e.val ?_ ?_; (with_reducible exact frame1.byt (by with_reducible assumption) H2.out); intro u' w2 hu' hb2; obtain ⟨Au', cu', rfl⟩ := slice_form hu'.byt; have hf2 := frame1.step (by with_reducible assumption) hb2; obtain ⟨x0, x1, x2, x3, e0, e1, e2, e3, ef⟩ := hf2.resCells))
  all_goals
    first
      | (have hk2 := hk'.below hb2; have hu2 := hu'; have hf := hf2)
      | (have hk2 := (hk'.below ((Below.refl _ _).alloc (Nat.le_refl _) _)).below hb2; have hu2 := hu'; have hf := hf2)
      | (have hu2 := hu'.below hb1; have hk2 := hk'; have hf := hf1)
      | (have hu2 := (hu'.below ((Below.refl _ _).alloc (Nat.le_refl _) _)).below hb1; have hk2 := hk'; have hf := hf1)
    have hl1 := hf1.lt
    have hl2 := hf2.lt
    simp only [World.size_alloc, World.size_drew] at hk2 hu2
    go_wp2
    refine bodyPost_ret (v := .agg #[.slice Ak' e.key.length ck', .int .i64 e.seq, .bool e.dead, .slice Au' e.val.length cu']) (by simp [results, Try.results13, go_sem, e0, e1, e2, e3]) rfl ?_
    exact one_endL w _ e _ _ _ _ _ _ hf.below (hk2.mono (by omega)) (hu2.mono (by omega))
end Go.Proofs.Ytelbidknefkaiaa
end
section
namespace Go.Proofs.Ytelbidknefkaiaa
open Go.RowKit
attribute [local go_sem ↓] Go.wp_at_zero Go.wp_at_succ
def apart (w : World) (v : Value) (f : Nat → Nat) (i b : Nat) : Prop := f i ≤ b ∧ b < f (i + 1) ∧ v.ownBlock ≠ some b ∧ Loose w b
structure ApartE (w : World) (v : Value) (ys : List Value) (es : List Ent) (f : Nat → Nat) (start : Nat) : Prop where
  up : ∀ i, f i ≤ f (i + 1)
  cells : ∀ i e, start ≤ i → es[i]? = some e → ∃ k u, ys[4 * i]? = some k ∧ ys[4 * i + 1]? = some (.int .i64 e.seq) ∧ ys[4 * i + 2]? = some (.bool e.dead) ∧ ys[4 * i + 3]? = some u ∧ Byt w (apart w v f i) k e.key ∧ Byt w (apart w v f i) u e.val
theorem up_le {f : Nat → Nat} (h : ∀ i, f i ≤ f (i + 1)) {a b : Nat} (hab : a ≤ b) : f a ≤ f b := by
  induction hab with
  | refl => exact Nat.le_refl _
  | step _ ih => exact Nat.le_trans ih (h _)
theorem ApartE.only {w w' : World} {v : Value} {ys : List Value} {es : List Ent} {f : Nat → Nat} {s : Nat} {S : Nat → Prop} (h : ApartE w v ys es f s) (ho : Only S w w') (hd : ∀ i, Loose w i → ¬ S i) : ApartE w' v ys es f s :=
  ⟨h.up, fun i e hi he => by
    obtain ⟨k, u, a0, a1, a2, a3, b1, b2⟩ := h.cells i e hi he
    have go : ∀ x bs, Byt w (apart w v f i) x bs → Byt w' (apart w' v f i) x bs := fun x bs hx =>
      Byt.mono (S := apart w v f i) (Byt.only (T := apart w v f i) hx ho fun b _ hb => hd b hb.2.2.2) fun b hb => ⟨hb.1, hb.2.1, hb.2.2.1, hb.2.2.2.only ho (hd b hb.2.2.2)⟩
    exact ⟨k, u, a0, a1, a2, a3, go _ _ b1, go _ _ b2⟩⟩
theorem ApartE.below {w w' : World} {v : Value} {ys : List Value} {es : List Ent} {f : Nat → Nat} {s : Nat} (h : ApartE w v ys es f s) (hb : Below w.heap.size w w') : ApartE w' v ys es f s :=
  h.only (S := fun _ => False) ⟨hb.os, hb.tape, hb.output, hb.size, fun i hi _ => hb.block i hi⟩ fun _ _ h => h
/-- entry s was turned: the others behind it stand. -/
theorem ApartE.turned {w w' : World} {v : Value} {ys : List Value} {es : List Ent} {f : Nat → Nat} {s : Nat} (h : ApartE w v ys es f s) (ho : Only (apart w v f s) w w') : ApartE w' v ys es f (s + 1) :=
  ⟨h.up, fun i e hi he => by
    obtain ⟨k, u, a0, a1, a2, a3, b1, b2⟩ := h.cells i e (by omega) he
    have hf := up_le h.up hi
    have hd : ∀ b, apart w v f i b → ¬ apart w v f s b := fun b hb hs => by have := hb.1; have := hs.2.1; omega
    have go : ∀ x bs, Byt w (apart w v f i) x bs → Byt w' (apart w' v f i) x bs := fun x bs hx =>
      Byt.mono (S := apart w v f i) (Byt.only (T := apart w v f i) hx ho fun b _ hb => hd b hb) fun b hb => ⟨hb.1, hb.2.1, hb.2.2.1, hb.2.2.2.only ho (hd b hb)⟩
    exact ⟨k, u, a0, a1, a2, a3, go _ _ b1, go _ _ b2⟩⟩
theorem ApartE.push {base : Nat} {wr w1 w2 : World} {v v' k u : Value} {n : Nat} {ys : List Value} {es : List Ent} {f : Nat → Nat} {e : Ent} {o : Obj} {t : TypeId} (hown : wr.ownsRow base t 4 v n ys) (hn : es.length = n) (h : ApartE wr v ys es f 0) (hf : f n ≤ wr.heap.size) (hb1 : Below wr.heap.size wr w1)
    (hk : BytL w1 wr.heap.size k e.key) (hu : BytL w1 wr.heap.size u e.val) (hg : (w1.alloc o).grownBy w2 v.ownBlock) (hat : v'.ownBlock = v.ownBlock ∨ v'.ownBlock = some (w1.alloc o).heap.size) :
    ApartE w2 v' (ys ++ [k, .int .i64 e.seq, .bool e.dead, u]) (es ++ [e]) (fun j => if j ≤ n then f j else w1.heap.size) 0 := by
  have hal : Below w1.heap.size w1 (w1.alloc o) := (Below.refl _ _).alloc (Nat.le_refl _) _
  have hz := hb1.size
  have hyl : ys.length = n * 4 := hown.1
  refine ⟨fun i => ?_, fun i x _ hx => ?_⟩
  · by_cases h1 : i + 1 ≤ n
    · simp only [if_pos h1, if_pos (show i ≤ n by omega)]; exact h.up i
    · by_cases h2 : i ≤ n
      · obtain rfl : i = n := by omega
        simp only [if_pos h2, if_neg h1]; omega
      · simp only [if_neg h1, if_neg h2]; omega
  · by_cases hi : i < n
    · rw [List.getElem?_append_left (by omega)] at hx
      obtain ⟨k', u', a0, a1, a2, a3, b1, b2⟩ := h.cells i x (Nat.zero_le _) hx
      have go : ∀ x bs, Byt wr (apart wr v f i) x bs → Byt w2 (apart w2 v' (fun j => if j ≤ n then f j else w1.heap.size) i) x bs := fun x bs hx =>
        ((Byt.below (S := apart wr v f i) hx hb1).below hal).push hg hat (fun b _ hs => hs.2.2.1) (fun b _ hs hn => ⟨by simp only [if_pos (show i ≤ n by omega)]; exact hs.1, by simp only [if_pos (show i + 1 ≤ n by omega)]; exact hs.2.1, hn, ((hs.2.2.2.below hb1).alloc o).grown hg hs.2.2.1⟩)
      exact ⟨k', u', by rw [List.getElem?_append_left (by omega)]; exact a0, by rw [List.getElem?_append_left (by omega)]; exact a1, by rw [List.getElem?_append_left (by omega)]; exact a2, by rw [List.getElem?_append_left (by omega)]; exact a3, go _ _ b1, go _ _ b2⟩
    · have hin : i = n := by
        have := (List.getElem?_eq_some_iff.1 hx).1
        simp at this
        omega
      subst hin
      have hxe : x = e := by
        rw [List.getElem?_append_right (by omega)] at hx
        simp [hn] at hx
        exact hx.symm
      subst hxe
      have new : ∀ y bs, BytL w1 wr.heap.size y bs → Byt w2 (apart w2 v' (fun j => if j ≤ i then f j else w1.heap.size) i) y bs := fun y bs hy =>
        (Byt.below (S := fun b => wr.heap.size ≤ b ∧ Loose w1 b) hy hal).push hg hat (fun b _ hs e => by have := hown.lt b e; omega)
          (fun b _ hs hn => ⟨by simp only [if_pos (Nat.le_refl i)]; omega, by simp only [if_neg (show ¬ i + 1 ≤ i by omega)]; exact hs.2.lt, hn, (hs.2.alloc o).grown hg (fun e => by have := hown.lt b e; omega)⟩)
      refine ⟨k, u, ?_, ?_, ?_, ?_, new _ _ hk, new _ _ hu⟩ <;> (rw [List.getElem?_append_right (by omega), hyl]; simp [show 4 * i - i * 4 = 0 by omega, show 4 * i + 1 - i * 4 = 1 by omega, show 4 * i + 2 - i * 4 = 2 by omega, show 4 * i + 3 - i * 4 = 3 by omega])
set_option maxRecDepth 100000 in
set_option maxHeartbeats 2000000 in
theorem copyA_any (S : Nat → Prop) (v : Value) (es : List Ent) (w : World) (hv : Ents w S v es) :
    Calls Try.prog 19 #[v] w fun r w' => ∃ v' ys f, r = .returned v' ∧ w'.ownsRow w.heap.size 26 4 v' es.length ys ∧ ApartE w' v' ys es f 0 ∧ w.heap.size ≤ f 0 ∧ f es.length ≤ w'.heap.size ∧ Below w.heap.size w w' := by
  obtain ⟨i0, hi, hz0, hz1, hz2⟩ := info_parts info26
  have hby := Lib.hid hz2
  have hz1' := Lib.hid hz1
  clear hz2 hz1
  obtain ⟨A, c, cs, rfl, hc, hcm, hl, hr, he⟩ := hv
  obtain ⟨n, hn⟩ : ∃ n, es.length = n := ⟨_, rfl⟩
  rw [hn] at hr hl ⊢
  have HN := Lib.hid hn
  clear hn
  go_enter Try.func19, Try.ntmps19
  go_wp2
  go_loopw [3, 7] (fun v t wr => ∃ k : Nat, ∃ ys : List Value, ∃ f : Nat → Nat, k ≤ n ∧ t = .int .i64 k ∧ wr.ownsRow w.heap.size 26 4 v k ys ∧ ApartE wr v ys (es.take k) f 0 ∧ w.heap.size ≤ f 0 ∧ f k ≤ wr.heap.size ∧ Below w.heap.size w wr) (fun _ t _ => n - (intOf t).toNat)
  case atStart => exact ⟨0, [], fun _ => w.heap.size, by omega, rfl, World.ownsRow_nil _ _ _ _, ⟨fun _ => Nat.le_refl _, fun i e _ he => by simp at he⟩, Nat.le_refl _, Nat.le_refl _, Below.refl _ _⟩
  case round =>
    obtain ⟨k, ys, f, hk, rfl, hown, hys, hf0, hfk, hbel⟩ := hrel
    by_cases hkn : k < n
    · obtain ⟨e, hek⟩ : ∃ e, es[k]? = some e := ⟨_, List.getElem?_eq_getElem (by rw [HN.out]; exact hkn)⟩
      obtain ⟨b, o, kk, uu, rfl, c0, c1, c2, c3, b1, b2, _, _⟩ := (hr.below hbel).ent (he.below hbel) HN.out hek
      have HO := Lib.hid hown
      have HEK := Lib.hid hek
      have hev : EntV wr S (.agg #[kk, .int .i64 e.seq, .bool e.dead, uu]) e := ⟨_, _, rfl, b1, b2⟩
      clear hown hek b1 b2
      go_wp2_with (first
        | (go_at_call 13; refine (oneL_any S _ e _ hev).mono ?_; rintro r w1 ⟨v1, rfl, ⟨k', u', rfl, hk', hu'⟩, hb1⟩; obtain ⟨Ak, ck, rfl⟩ := slice_form hk'.byt; obtain ⟨Au, cu, rfl⟩ := slice_form hu'.byt)
        | (at_builtin; refine wpList_append_own_at _ rfl _ _ 22 rfl w.heap.size 26 i0 _ 4 64 Try.underlying22 hi hz0 hz1'.out hby.out rfl (by decide) _ _ _ rfl ((own_below HO.out hb1).alloc _) ⟨w1.heap.size, 0, none⟩ 1 1 [.slice Ak e.key.length ck, .int .i64 e.seq, .bool e.dead, .slice Au e.val.length cu] rfl rfl (cell_four_new _ _ _ _ _ _) (by simp [Value.oneCell']) (by unfold maxLen; omega) (by omega) (by have := hbel.size; have := hb1.size; simp; omega) ?_; intro v' w2 hown' hgrow _ hat))
      refine ⟨⟨k + 1, _, fun j => if j ≤ k then f j else w1.heap.size, by omega, by go_num, hown', ?_, by simpa using hf0, by simp only [if_neg (show ¬ k + 1 ≤ k by omega)]; have := hgrow.size; simp at this; omega, ((hbel.trans (hb1.mono hbel.size)).alloc (by have := hbel.size; have := hb1.size; omega) _).grown hgrow (by have := hbel.size; have := hb1.size; simp; omega) (fun j e => (HO.out.lt j e).1)⟩, by simp [intOf]; omega⟩
      rw [take_snoc HEK.out]
      exact ApartE.push HO.out (by rw [List.length_take, HN.out]; omega) hys hfk hb1 hk' hu' hgrow hat
    · obtain rfl : k = n := by omega
      have HO := Lib.hid hown
      clear hown
      go_wp2
      go_ret
      have e1 : es.take k = es := List.take_of_length_le (by rw [HN.out]; exact Nat.le_refl _)
      rw [e1] at hys
      exact ⟨_, ys, f, rfl, HO.out, hys, hf0, hfk, hbel⟩
end Go.Proofs.Ytelbidknefkaiaa
end
section
namespace Go.Proofs.Ytelbidknefkaiaa
open Go.RowKit
attribute [local go_sem ↓] Go.wp_at_zero Go.wp_at_succ
theorem infoI : (Try.prog.info? 3).map (fun i => (i.zero, i.size, i.bytes)) = some (some (.int .i64 0), 1, 8) := by kernel_rfl
theorem run_append_ints (w : World) (base : Nat) (ty : TypeId) (v0 src : Value) (S : Nat → Prop) (zs : List Int) (hown : w.ownsRow base 3 1 v0 0 []) (h : IntsIn w S src zs) (h8 : zs.length * 8 ≤ 140737488355328) (hbase : base ≤ w.heap.size) :
    ∃ v' w', (Builtin.append_ #[37, 37] ty #[v0, src]).run Try.prog w = .ok v' w' ∧ w'.ownsRow base 3 1 v' zs.length (zs.map (Value.int .i64)) ∧ w.grownBy w' v0.ownBlock := by
  obtain ⟨i0, hi, hz0, hz1, hz2⟩ := info_parts infoI
  obtain ⟨A, c, rfl, h1, h2, hr⟩ := h
  rcases A with _ | ad
  · have hm : zs.length = 0 := by
      rcases Nat.eq_zero_or_pos zs.length with h0 | h0
      · exact h0
      · obtain ⟨b, o, h, _⟩ := hr.2 h0
        cases h
    have : zs = [] := List.eq_nil_of_length_eq_zero hm
    subst this
    refine ⟨v0, w, ?_, by simpa using hown, World.grownBy.refl w _⟩
    rcases hown.2 with ⟨rfl, _⟩ | ⟨g, cap, cur, rfl, _, _, hnc, _⟩
    · simp [Builtin.append_, run_underlying Try.underlying37, sizeOf, typeInfo, hi, Builtin.lenOf, Builtin.firstCells]
    · simp [Builtin.append_, run_underlying Try.underlying37, sizeOf, typeInfo, hi, Builtin.lenOf, Builtin.firstCells, hnc, storeCells]
  · obtain ⟨v', w', e1, e2, e3, _, _⟩ := run_append_own_at (P := Try.prog) w base 37 ty 3 i0 (.int .i64 0) 1 8 Try.underlying37 hi hz0 hz1 hz2 rfl (by decide) v0 0 [] hown ad zs.length c (zs.map (Value.int .i64)) (by simp)
      (fun j u hu => by
        rcases Nat.eq_zero_or_pos zs.length with h0 | h0
        · have : zs = [] := List.eq_nil_of_length_eq_zero h0
          subst this
          simp at hu
        · obtain ⟨b, o, e, _, _, hc⟩ := hr.2 h0
          injection e with e
          subst e
          rw [Addr.add_lit]
          exact hc j u hu) (by simp [Value.oneCell']) (by unfold maxLen; omega) (by omega) hbase
    exact ⟨v', w', e1, by simpa using e2, e3⟩
theorem wpList_append_ints {w : World} {ops : Array Oper} {rest : List Oper} {o : Oper} {a : Act} {Q : Exit → Act → World → Prop} (hgd : o.guard = none) (s x : Operand)
    (ho : o.op = .call { callee := .builtin .append, args := #[s, x], argTypes := #[37, 37] }) (base : Nat) (v0 src : Value) (hs : a.eval s = v0) (hx : a.eval x = src)
    (S : Nat → Prop) (zs : List Int) (hown : w.ownsRow base 3 1 v0 0 []) (h : IntsIn w S src zs) (h8 : zs.length * 8 ≤ 140737488355328) (hbase : base ≤ w.heap.size)
    (hK : ∀ v' w', w'.ownsRow base 3 1 v' zs.length (zs.map (Value.int .i64)) → w.grownBy w' v0.ownBlock → wpList Try.prog ops Q rest (a.put o.dst v') w') : wpList Try.prog ops Q (o :: rest) a w :=
  wpList_plain hgd fun _ hk => by
    obtain ⟨v', w', hrun, h2, h3⟩ := run_append_ints w base o.type v0 src S zs hown h h8 hbase
    unfold Oper.wp execOp
    simp only [ho, resolve, invoke, builtin, Sem.run_bind, Sem.run_pure, Result.andThen_ok, List.map_toArray, List.map_cons, List.map_nil, hs, hx, hrun]
    exact hk _ _ (hK v' w' h2 h3)
theorem lit0i (w : World) : (w.alloc (.cells #[] 3)).ownsRow w.heap.size 3 1 (.slice (some ⟨w.heap.size, 0, none⟩) 0 0) 0 [] := by
  simpa using World.ownsRow_lit (base := w.heap.size) (e := 3) (size := 1) w #[] 0 (Nat.le_refl _) (by unfold maxLen; omega) (by simp)
theorem own_shape {w : World} {base n c : Nat} {A : Option Addr} {e : TypeId} {xs : List Value} (h : w.ownsRow base e 1 (.slice A n c) n xs) (hn : 0 < n) : ∃ g z, A = some ⟨g, 0, none⟩ ∧ base ≤ g ∧ Shape w g e z ∧ n ≤ z := by
  rcases h.2 with ⟨_, h0⟩ | ⟨g, cap, cur, hv, hb, hh, hc, _, hs, _⟩
  · omega
  · injection hv with h1 h2 h3
    exact ⟨g, cur.size, h1, hb, ⟨cur, hh, rfl⟩, by omega⟩
/-- an entry of a slice. -/
theorem ents_at {w : World} {S : Nat → Prop} {A : Option Addr} {n c : Nat} {es : List Ent} (h : Ents w S (.slice A n c) es) {k : Nat} {e : Ent} (hk : es[k]? = some e) :
    ∃ b o kk uu, A = some ⟨b, o, none⟩ ∧ w.cell? ⟨b, o + k * 4, none⟩ = some kk ∧ w.cell? ⟨b, o + k * 4 + 1, none⟩ = some (.int .i64 e.seq) ∧ w.cell? ⟨b, o + k * 4 + 2, none⟩ = some (.bool e.dead) ∧ w.cell? ⟨b, o + k * 4 + 3, none⟩ = some uu ∧ EntV w S (.agg #[kk, .int .i64 e.seq, .bool e.dead, uu]) e := by
  obtain ⟨A', c', cs, hE, hc, hcm, hl, hr, he⟩ := h
  injection hE with e1 e2 e3
  subst e1
  obtain ⟨b, o, kk, uu, e4, c0, c1, c2, c3, b1, b2, _, _⟩ := hr.ent he rfl hk
  exact ⟨b, o, kk, uu, e4, c0, c1, c2, c3, _, _, rfl, b1, b2⟩
/-- the cells of an entry in a row of one's own that nobody writes to. -/
theorem own_heads {w : World} {T : Nat → Prop} {B n k : Nat} {e : TypeId} {v : Value} {ys : List Value} (hrow : w.ownsRow B e 4 v n ys) (hk : k < n) (hT : ∀ g, v.ownBlock = some g → ¬ T g) :
    ∃ g c, v = .slice (some ⟨g, 0, none⟩) n c ∧ ∀ wr, Only T w wr → (∀ u, ys[4 * k]? = some u → wr.cell? ⟨g, k * 4, none⟩ = some u) ∧ (∀ u, ys[4 * k + 1]? = some u → wr.cell? ⟨g, k * 4 + 1, none⟩ = some u) ∧ (∀ u, ys[4 * k + 2]? = some u → wr.cell? ⟨g, k * 4 + 2, none⟩ = some u) ∧ (∀ u, ys[4 * k + 3]? = some u → wr.cell? ⟨g, k * 4 + 3, none⟩ = some u) := by
  obtain ⟨g, c, rfl, _⟩ := own_pos hrow (by omega)
  refine ⟨g, c, rfl, fun wr ho => ?_⟩
  have hr := own_only hrow ho hT
  refine ⟨fun u hu => ?_, fun u hu => ?_, fun u hu => ?_, fun u hu => ?_⟩ <;> (rw [hr.cellAt _ (by omega), ← hu]; congr 1; omega)
/-- one byte more. -/
theorem turn_at {T : Nat → Prop} {w wr : World} {A : Option Addr} {n c j : Nat} {bs : List UInt8} (hsp : Spoil T w wr) (hb : Byt w T (.slice A n c) bs) (hL : ∀ i, T i → Loose w i) (hj : j < n) :
    ∃ b o x, A = some ⟨b, o, none⟩ ∧ wr.cell? ⟨b, o + j, none⟩ = some (.int .u8 (UInt8.toNat x : Int)) ∧ wr.frozen? ⟨b, o + j, none⟩ = false ∧ Spoil T w (wr.setCell ⟨b, o + j, none⟩ (.int .u8 (((x.toNat : Int) + 1) % 256))) := by
  obtain ⟨as', hl', h'⟩ := hsp.byt _ _ hb
  obtain ⟨A', ca', hE, _, _, _, hr⟩ := h'
  injection hE with e1 e2 e3
  subst e1
  obtain ⟨b, o, u, rfl, hTb, hbz, hu, hcell⟩ := hr.at_ (k := j) (by omega)
  obtain ⟨x, hx⟩ : ∃ c, as'[j]? = some c := ⟨_, List.getElem?_eq_getElem (by omega)⟩
  obtain rfl : u = bcell x := by rw [List.getElem?_map, hx] at hu; injection hu with hu; exact hu.symm
  have hlo := hsp.loose b (hL b hTb)
  refine ⟨b, o, x, rfl, hcell, hlo.frozen, ?_⟩
  rw [u8_next]
  exact hsp.trans (Spoil.store hTb hlo _)
theorem FreshE.kept {w w' : World} {base : Nat} {v : Value} {ys : List Value} {es : List Ent} {S : Nat → Prop} (h : FreshE w base v ys es) (ho : Only S w w') (hd : ∀ i, base ≤ i → Loose w i → ¬ S i) : FreshE w' base v ys es :=
  EntCells.mono (S := freshL w base v) (EntCells.only (T := freshL w base v) h ho fun i _ hi => hd i hi.1 hi.2.2) fun i hi => ⟨hi.1, hi.2.1, hi.2.2.only ho (hd i hi.1 hi.2.2)⟩
/-- what MemtableOwn's second loop keeps. -/
structure OwnInv (w0 : World) (pA p1 B T n k m : Nat) (hs v8 : Value) (ys : List Value) (es : List Ent) (f : Nat → Nat) (v9 : Value) (w : World) : Prop where
  has : ∃ ys9 hl, hl.length ≤ m ∧ w.ownsRow B 26 4 v9 hl.length ys9 ∧ FreshE w B v9 ys9 hl ∧ Tb w B p1 T hs hl
  row : w.ownsRow pA 26 4 v8 n ys
  apa : ApartE w v8 ys es f k
  below : Below w0.heap.size w0 w
  size : B ≤ w.heap.size
section
variable {w0 w w' : World} {pA p1 B T n k m : Nat} {hs v8 v9 : Value} {ys : List Value} {es : List Ent} {f : Nat → Nat}
theorem OwnInv.step (h : OwnInv w0 pA p1 B T n k m hs v8 ys es f v9 w) (hb : Below w.heap.size w w') : OwnInv w0 pA p1 B T n k m hs v8 ys es f v9 w' := by
  obtain ⟨⟨ys9, hl, h1, h2, h3, h4⟩, h5, h6, h7, h8⟩ := h
  exact ⟨⟨ys9, hl, h1, own_below h2 hb, h3.below hb, h4.below hb⟩, own_below h5 hb, h6.below hb, h7.trans (hb.mono h7.size), Nat.le_trans h8 hb.size⟩
theorem OwnInv.more (h : OwnInv w0 pA p1 B T n k m hs v8 ys es f v9 w) : OwnInv w0 pA p1 B T n k (m + 1) hs v8 ys es f v9 w := by
  obtain ⟨⟨ys9, hl, h1, h2⟩, h5, h6, h7, h8⟩ := h
  exact ⟨⟨ys9, hl, by omega, h2⟩, h5, h6, h7, h8⟩
theorem OwnInv.turned (h : OwnInv w0 pA p1 B T n k m hs v8 ys es f v9 w) (hsp : Spoil (apart w v8 f k) w w') (hT : T < f 0) (hf : f n ≤ B) (hkn : k < n) (hw : w0.heap.size ≤ f 0) : OwnInv w0 pA p1 B T n (k + 1) m hs v8 ys es f v9 w' := by
  obtain ⟨⟨ys9, hl, h1, h2, h3, h4⟩, h5, h6, h7, h8⟩ := h
  have hlo : ∀ i, apart w v8 f k i → f 0 ≤ i ∧ i < B := fun i hi => ⟨Nat.le_trans (up_le h6.up (Nat.zero_le k)) hi.1, Nat.lt_of_lt_of_le hi.2.1 (Nat.le_trans (up_le h6.up hkn) hf)⟩
  refine ⟨⟨ys9, hl, h1, own_only h2 hsp.only (fun g hg hS => ?_), h3.kept hsp.only (fun i hi _ hS => ?_), h4.only hsp.only (fun i hi => ?_) (fun i hi => .inr hi.2.2.2)⟩, own_only h5 hsp.only (fun g hg hS => hS.2.2.1 hg), h6.turned hsp.only, h7.trans (hsp.only.below h7.size fun i hi => ?_), Nat.le_trans h8 hsp.only.size⟩
  · have := (h2.lt g hg).1; have := (hlo g hS).2; omega
  · have := (hlo i hS).2; omega
  · have := hlo i hi; exact ⟨this.2, by omega⟩
  · have := hlo i hi; omega
/-- the state behind a Put. -/
theorem OwnInv.put (h : OwnInv w0 pA p1 B T n k m hs v8 ys es f v9 w) (ho : Only (putS w B T) w w') (hT : w0.heap.size ≤ T) (hB : w0.heap.size ≤ B) :
    (∀ hl ys9, w.ownsRow B 26 4 v9 hl ys9 → w'.ownsRow B 26 4 v9 hl ys9) ∧ (∀ ys9 hl, FreshE w B v9 ys9 hl → FreshE w' B v9 ys9 hl) ∧ w'.ownsRow pA 26 4 v8 n ys ∧ ApartE w' v8 ys es f k ∧ Below w0.heap.size w0 w' ∧ B ≤ w'.heap.size :=
  ⟨fun hl ys9 h2 => own_only h2 ho (own_notPut h2), fun ys9 hl h3 => h3.kept ho fun i _ hi => hi.notPut, own_only h.row ho (own_notPut h.row), h.apa.only ho fun i hi => hi.notPut,
    h.below.trans (ho.below h.below.size fun i hi => by rcases hi.1 with rfl | h <;> omega), Nat.le_trans h.size ho.size⟩
end
theorem own_notLoose {w : World} {base n i : Nat} {v : Value} {ys : List Value} (h : w.ownsRow base 26 4 v n ys) (hv : v.ownBlock = some i) : ¬ Loose w i := by
  rcases h.2 with ⟨rfl, _⟩ | ⟨g', cap, cur, rfl, _, hh, _⟩
  · cases hv
  · injection hv with hv
    subst hv
    rintro ⟨cs', h'⟩
    rw [hh] at h'
    injection h' with h'
    injection h' with _ h'
    exact absurd h' (by decide)
theorem KeepE.grown {w w' : World} {base n : Nat} {v : Value} {ys : List Value} (h : w.ownsRow base 26 4 v n ys) (hg : w.grownBy w' v.ownBlock) : KeepE w w' := by
  refine ⟨hg.size, fun i hi => hg.block i hi.lt fun hv => ?_⟩
  rcases h.2 with ⟨rfl, _⟩ | ⟨g', cap, cur, rfl, _, hh, _⟩
  · cases hv
  · injection hv with hv
    subst hv
    obtain ⟨cs', t, fr, h', h1, _⟩ := hi
    rw [hh] at h'
    injection h' with h'
    injection h' with _ h'
    exact h1 h'.symm
theorem Tb.keepE {w w' : World} {B hb T : Nat} {hs : Value} {has : List Ent} (h : Tb w B hb T hs has) (hk : KeepE w w') : Tb w' B hb T hs has := by
  obtain ⟨⟨ns, h1, h2⟩, h3⟩ := h
  exact ⟨⟨ns, h1.keepE hk, h2⟩, h3.of_eq fun b cs hb hc => hk.block b ⟨_, _, _, hc, by decide, by decide⟩⟩
theorem OwnInv.pushed {w0 wp w1 w2 : World} {pA p1 B T n k : Nat} {hs v8 v9 v9' k' u' : Value} {ys ys9 : List Value} {es hl : List Ent} {f : Nat → Nat} {e : Ent} {cs : Array Value} (hr9 : wp.ownsRow B 26 4 v9 hl.length ys9) (hf9 : FreshE wp B v9 ys9 hl) (hr8 : wp.ownsRow pA 26 4 v8 n ys) (hap : ApartE wp v8 ys es f k)
    (hbel : Below w0.heap.size w0 wp) (hsz : B ≤ wp.heap.size) (htb : Tb wp B p1 T hs (hl ++ [e])) (hb1 : Below wp.heap.size wp w1) (hk : BytL w1 wp.heap.size k' e.key) (hu : BytL w1 wp.heap.size u' e.val) (hg : (w1.alloc (.cells cs 26)).grownBy w2 v9.ownBlock)
    (hat : v9'.ownBlock = v9.ownBlock ∨ v9'.ownBlock = some (w1.alloc (.cells cs 26)).heap.size) (hown : w2.ownsRow B 26 4 v9' (hl.length + 1) (ys9 ++ [k', .int .i64 e.seq, .bool e.dead, u'])) (h8 : ∀ g, v8.ownBlock = some g → g < B) (hw0 : w0.heap.size ≤ B) (hm : hl.length ≤ k) :
    OwnInv w0 pA p1 B T n k (k + 1) hs v8 ys es f v9' w2 := by
  have hal : Below w1.heap.size w1 (w1.alloc (.cells cs 26)) := (Below.refl _ _).alloc (Nat.le_refl _) _
  have hb2 := hb1.trans (hal.mono hb1.size)
  have hr9' := own_below hr9 hb2
  have ho : Only (fun i => v9.ownBlock = some i) (w1.alloc (.cells cs 26)) w2 := ⟨hg.os, hg.tape, hg.output, hg.size, fun i hi hS => hg.block i hi fun e => hS e.symm⟩
  refine ⟨⟨_, hl ++ [e], by simpa using hm, by simpa using hown, FreshE.push hr9 hf9 hb1 hk hu hsz hg hat, (htb.below hb2).keepE (KeepE.grown hr9' hg)⟩, own_only (own_below hr8 hb2) ho fun g h1 h2 => ?_, (hap.below hb2).only ho fun i hi hv => own_notLoose hr9' hv hi, (hbel.trans (hb2.mono hbel.size)).grown hg (Nat.le_trans hbel.size hb2.size) fun j e => Nat.le_trans hw0 (hr9.lt j e).1, Nat.le_trans hsz (Nat.le_trans hb2.size hg.size)⟩
  have := h8 g h1
  have := (hr9.lt g h2).1
  omega
end Go.Proofs.Ytelbidknefkaiaa
end
