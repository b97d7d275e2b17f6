/-
law 12's lists: copies of lists, in new memory; append of a slice of entries onto a row of the call's own.
-/
import Derived.Test.YtelbidknefkaiaaMerge0
import Derived.Test.YtelbidknefkaiaaCopy
namespace Go.Proofs.Ytelbidknefkaiaa
open Go.RowKit Go.BigFrame
attribute [local go_sem ↓] Go.wp_at_zero Go.wp_at_succ

theorem EntCells.one_cell {w : World} {S : Nat → Prop} {cs : List Value} {es : List Ent} (h : EntCells w S cs es) : ∀ u ∈ cs, u.oneCell' = true := by
  induction es generalizing cs with
  | nil => rw [h.nil_inv]; intro u hu; simp at hu
  | cons e es ih =>
    obtain ⟨k, u', cs1, rfl, h1, h2, h3⟩ := h.cons_inv
    obtain ⟨A, c, rfl, _⟩ := h1
    obtain ⟨A', c', rfl, _⟩ := h2
    intro u hu
    simp only [List.mem_cons] at hu
    rcases hu with rfl | rfl | rfl | rfl | hu
    · rfl
    · rfl
    · rfl
    · rfl
    · exact ih h3 u hu
theorem run_append_ents (w : World) (base : Nat) (ty : TypeId) (v0 src : Value) (S : Nat → Prop) (n : Nat) (xs : List Value) (es : List Ent) (hown : w.ownsRow base 26 4 v0 n xs) (h : Ents w S src es) (hb : (n + es.length) * 64 ≤ 140737488355328) (hbase : base ≤ w.heap.size) :
    ∃ v' w' cs, (Builtin.append_ #[22, 22] ty #[v0, src]).run Try.prog w = .ok v' w' ∧ w'.ownsRow base 26 4 v' (n + es.length) (xs ++ cs) ∧ EntCells w S cs es ∧ w.grownBy w' v0.ownBlock ∧ (v'.ownBlock = v0.ownBlock ∨ v'.ownBlock = some w.heap.size) := by
  obtain ⟨i0, hi, hz0, hz1, hz2⟩ := info_parts info26
  obtain ⟨A, c, cs, rfl, h1, h2, h3, hr, he⟩ := h
  rcases A with _ | ad
  · have hm : es.length = 0 := by
      rcases Nat.eq_zero_or_pos es.length with h0 | h0
      · exact h0
      · obtain ⟨b, o, h, _⟩ := hr.2 h0
        cases h
    have : es = [] := List.eq_nil_of_length_eq_zero hm
    subst this
    refine ⟨v0, w, [], ?_, by simpa using hown, trivial, World.grownBy.refl w _, .inl rfl⟩
    rcases hown.2 with ⟨rfl, rfl⟩ | ⟨g, cap, cur, rfl, _, _, hnc, _⟩
    · simp [Builtin.append_, run_underlying Try.underlying22, sizeOf, typeInfo, hi, Builtin.lenOf, Builtin.firstCells]
    · simp [Builtin.append_, run_underlying Try.underlying22, sizeOf, typeInfo, hi, Builtin.lenOf, Builtin.firstCells, hnc, storeCells]
  · obtain ⟨v', w', e1, e2, e3, _, e5⟩ := run_append_own_at (P := Try.prog) w base 22 ty 26 i0 _ 4 64 Try.underlying22 hi hz0 hz1 hz2 rfl (by decide) v0 n xs hown ad es.length c cs hr.1
      (fun j u hu => by
        rcases Nat.eq_zero_or_pos es.length with h0 | h0
        · have := hr.1
          have : cs = [] := List.eq_nil_of_length_eq_zero (by omega)
          subst this
          simp at hu
        · obtain ⟨b, o, e, _, _, hc⟩ := hr.2 h0
          injection e with e
          subst e
          rw [Addr.add_lit]
          exact hc j u hu) he.one_cell (by unfold maxLen; omega) (by omega) hbase
    exact ⟨v', w', cs, e1, e2, he, e3, e5⟩
theorem wpList_append_ents {w : World} {ops : Array Oper} {rest : List Oper} {o : Oper} {a : Act} {Q : Exit → Act → World → Prop} (hgd : o.guard = none) (s x : Operand)
    (ho : o.op = .call { callee := .builtin .append, args := #[s, x], argTypes := #[22, 22] }) (base : Nat) (v0 src : Value) (hs : a.eval s = v0) (hx : a.eval x = src)
    (S : Nat → Prop) (n : Nat) (xs : List Value) (es : List Ent) (hown : w.ownsRow base 26 4 v0 n xs) (h : Ents w S src es) (hb : (n + es.length) * 64 ≤ 140737488355328) (hbase : base ≤ w.heap.size)
    (hK : ∀ v' w' cs, w'.ownsRow base 26 4 v' (n + es.length) (xs ++ cs) → EntCells w S cs es → w.grownBy w' v0.ownBlock → (v'.ownBlock = v0.ownBlock ∨ v'.ownBlock = some w.heap.size) → wpList Try.prog ops Q rest (a.put o.dst v') w') : wpList Try.prog ops Q (o :: rest) a w :=
  wpList_plain hgd fun _ hk => by
    obtain ⟨v', w', cs, hrun, h2, h3, h4, h5⟩ := run_append_ents w base o.type v0 src S n xs es hown h hb hbase
    unfold Oper.wp execOp
    simp only [ho, resolve, invoke, builtin, Sem.run_bind, Sem.run_pure, Result.andThen_ok, List.map_toArray, List.map_cons, List.map_nil, hs, hx, hrun]
    exact hk _ _ (hK v' w' cs h2 h3 h4 h5)

theorem Ents.monoLt {w : World} {S S' : Nat → Prop} {v : Value} {es : List Ent} (h : Ents w S v es) (hS : ∀ i, i < w.heap.size → S i → S' i) : Ents w S' v es := by
  obtain ⟨A, c, cs, e, h1, h2, h3, h4, h5⟩ := h
  refine ⟨A, c, cs, e, h1, h2, h3, ⟨h4.1, fun hn => ?_⟩, h5.monoLt hS⟩
  obtain ⟨b, o, e, hb, hlt, hc⟩ := h4.2 hn
  exact ⟨b, o, e, hS b hlt hb, hlt, hc⟩
/-- entries that lie outside of a row that append has grown -/
theorem Ents.push {w w2 : World} {S S' : Nat → Prop} {v v' row : Value} {es : List Ent} (h : Ents w S v es) (hg : w.grownBy w2 row.ownBlock) (hat : v'.ownBlock = row.ownBlock ∨ v'.ownBlock = some w.heap.size)
    (hne : ∀ i, i < w.heap.size → S i → row.ownBlock ≠ some i) (hS : ∀ i, i < w.heap.size → S i → v'.ownBlock ≠ some i → S' i) : Ents w2 S' v es := by
  have h1 : Ents w (fun i => S i ∧ i < w.heap.size) v es := h.monoLt fun i hi hs => ⟨hs, hi⟩
  have h2 : Ents w2 (fun i => S i ∧ i < w.heap.size) v es := h1.only (Only.of_grown hg) (fun i hi hT => hne i hi hT.1)
  refine h2.mono fun i hi => hS i hi.2 hi.1 (fun e => ?_)
  rcases hat with h | h
  · exact hne i hi.2 hi.1 (h ▸ e)
  · rw [h] at e
    injection e with e
    omega

set_option maxRecDepth 100000 in
set_option maxHeartbeats 4000000 in
theorem lists_any (S : Nat → Prop) (v : Value) (ls : List (List Ent)) (w : World) (hv : Lists w S v ls) :
    Calls Try.prog 24 #[v] w fun r w' => ∃ v', r = .returned v' ∧ Lists w' (fun i => w.heap.size ≤ i) v' ls ∧ Below w.heap.size w w' := by
  obtain ⟨i0, hi, hz0, hz1, hz2⟩ := info_parts info22
  have hby := Lib.hid hz2
  have hz1' := Lib.hid hz1
  clear hz2 hz1
  obtain ⟨A, c, vs, rfl, hc, hcm, hl, hr, he⟩ := hv
  obtain ⟨n, hn⟩ : ∃ n, ls.length = n := ⟨_, rfl⟩
  rw [hn] at hr hl hc ⊢
  have HN := Lib.hid hn
  have HE := Lib.hid he
  have HR := Lib.hid hr
  clear hn he hr
  go_enter Try.func24, Try.ntmps24
  go_wp2
  go_loopw [3, 7] (fun v3 t wr => ∃ (k : Nat) (ys : List Value), k ≤ n ∧ t = .int .i64 k ∧ wr.ownsRow w.heap.size 22 1 v3 k ys ∧ (∀ (i : Nat) (l : List Ent), i < k → ls[i]? = some l → ∃ x, ys[i]? = some x ∧ Ents wr (fresh w.heap.size v3) x l) ∧ Below w.heap.size w wr) (fun _ t _ => n - (intOf t).toNat)
  case atStart => exact ⟨0, [], Nat.zero_le _, rfl, World.ownsRow_nil _ _ _ _, fun i l hi => absurd hi (by omega), Below.refl _ _⟩
  case round =>
    obtain ⟨k, ys, hk, rfl, hown, hys, hbel⟩ := hrel
    have HO := Lib.hid hown
    have HY := Lib.hid hys
    have HB := Lib.hid hbel
    obtain ⟨A3, c3, rfl⟩ := own_form hown
    clear hown hys hbel
    by_cases hkn : k < n
    · obtain ⟨l, hlk⟩ : ∃ l, ls[k]? = some l := ⟨_, List.getElem?_eq_getElem (by rw [HN.out]; exact hkn)⟩
      obtain ⟨x, hx, hxe⟩ := HE.out k l hlk
      obtain ⟨b, o, u, rfl, _, _, hu, hcell⟩ := (HR.out.below HB.out).at_ hkn
      obtain rfl : u = x := by rw [hx] at hu; injection hu with hu; exact hu.symm
      have HX := Lib.hid (hxe.below HB.out)
      have HLK := Lib.hid hlk
      clear hx hxe hu hlk
      go_wp2_with (first
        | (go_at_call 19; refine (copy_any _ _ _ _ HX.out).mono ?_; rintro r w1 ⟨v1, rfl, he1, hb1⟩; obtain ⟨A1, c1, rfl⟩ := ents_form he1)
        | (at_builtin; refine wpList_append_own_at _ rfl _ _ 42 rfl w.heap.size 22 i0 _ 1 24 Try.underlying42 hi hz0 hz1'.out hby.out rfl (by decide) _ _ _ rfl ((own_below HO.out hb1).alloc _) ⟨w1.heap.size, 0, none⟩ 1 1 [.slice A1 l.length c1] rfl rfl (cell_one_new _ _ _) (by simp [Value.oneCell']) (by unfold maxLen; omega) (by omega) (by have := HB.out.size; have := hb1.size; simp; omega) ?_; intro v' w2 hown' hgrow hnn hat; clear hnn))
      have hal : Below w1.heap.size w1 (w1.alloc (.cells #[.slice A1 l.length c1] 22)) := (Below.refl _ _).alloc (Nat.le_refl _) _
      have hsz := HB.out.size
      have hsz1 := hb1.size
      refine ⟨⟨k + 1, _, by omega, by go_num, hown', ?_, ((HB.out.trans (hb1.mono HB.out.size)).alloc (by omega) _).grown hgrow (by simp; omega) (fun j e => (HO.out.lt j e).1)⟩, by simp [intOf]; omega⟩
      intro i l' hi' hl'
      have hyl : ys.length = k := by have := HO.out.1; omega
      by_cases hik : i < k
      · obtain ⟨x, hx, hxe⟩ := HY.out i l' hik hl'
        refine ⟨x, by rw [List.getElem?_append_left (by omega)]; exact hx, ?_⟩
        exact ((hxe.below hb1).below hal).push hgrow hat (fun i _ hs => hs.2) (fun i _ hs hn => ⟨hs.1, hn⟩)
      · obtain rfl : i = k := by omega
        obtain rfl : l = l' := by have := HLK.out; rw [hl'] at this; injection this with this; exact this.symm
        refine ⟨_, by rw [List.getElem?_append_right (by omega), hyl]; simp; rfl, ?_⟩
        exact (he1.below hal).push hgrow hat (fun i _ hs e => by have := HO.out.lt i e; omega) (fun i _ hs hn => ⟨by omega, hn⟩)
    · obtain rfl : k = n := by omega
      go_wp2
      refine bodyPost_ret (v := .slice A3 k c3) (by simp [results, Try.results24, go_sem]) rfl ?_
      refine ⟨_, rfl, ?_, HB.out⟩
      have h1 := HO.out.1
      have hlim : k ≤ c3 ∧ c3 ≤ 9223372036854775807 := by
        rcases HO.out.2 with ⟨h, rfl⟩ | ⟨g, cap, cur, h, _, _, h2, h3, _⟩
        · injection h with _ _ h; subst h; omega
        · injection h with _ _ h; subst h; unfold maxLen at h3; omega
      refine ⟨A3, c3, ys, by rw [HN.out], by rw [HN.out]; exact hlim.1, hlim.2, by rw [HN.out]; exact hl, ?_, fun i l hl => ?_⟩
      · rw [HN.out]
        refine ⟨h1, fun h0 => ?_⟩
        obtain ⟨g, c', hA, hbg, hgz, _, _⟩ := own_pos HO.out h0
        injection hA with hA
        subst hA
        refine ⟨g, 0, rfl, hbg, hgz, fun j u hu => ?_⟩
        have := HO.out.cells (g := g) rfl j u hu
        rwa [Addr.add_lit] at this
      · have hil : i < k := by have := (List.getElem?_eq_some_iff.1 hl).1; rw [HN.out] at this; exact this
        obtain ⟨x, hx, hxe⟩ := HY.out i l hil hl
        exact ⟨x, hx, hxe.mono fun i hi => hi.1⟩
end Go.Proofs.Ytelbidknefkaiaa
