/-
compact.Bottom.
-/
import Derived.Test.YtacdhkkelkplnaaQPOwn12
import Derived.Test.YtacdhkkelkplnaaQPOwn0
import Derived.Sort.OwnSortedInts
import Derived.Deep.Cut
import Derived.Deep.CutRange
import Derived.Deep.DeepCutAuto
section
namespace Go.Proofs.Ytacdhkkelkplnaa
open Go.RowKit Go.BigFrame Go.Sort
attribute [local go_sem ↓] Go.wp_at_zero Go.wp_at_succ
set_option maxRecDepth 100000 in
theorem level_pred (L : Nat) (lv : Int) (w0 : World) (hL : OneV w0 L (.int .i64 lv)) : PredT 33 #[.pointer (some ⟨L, 0, none⟩)] (fun t => t.level == lv) w0 := by
  intro W T tv t hW ht
  obtain ⟨a, b, rfl, h1, h2⟩ := ht
  have cL := (hL.fr hW).cell
  have lL := (hL.fr hW).lt
  clear h1 h2 hL
  go_enter Try.func33, Try.ntmps33
  go_wp2
  refine bodyPost_ret (v := .bool (t.level == lv)) (by simp [results, Try.results33, go_sem]) rfl ?_
  exact ⟨rfl, fr.alloc fr.refl _⟩
set_option maxRecDepth 100000 in
theorem next_pred (L M g : Nat) (lv : Int) (lb : Array Value) (q : Tbl → Bool) (w0 : World) (hlv : 0 ≤ lv ∧ lv ≤ 2) (eg : ∀ args w, (callFunc g args).run Try.prog w = .ok (.enter g args) w) (hL : OneV w0 L (.int .i64 lv)) (hM : OneV w0 M (.func (.func g) #[] lb)) (hq : PredT g lb q w0) :
    PredT 38 #[.pointer (some ⟨L, 0, none⟩), .pointer (some ⟨M, 0, none⟩)] (fun t => (t.level == lv + 1) && q t) w0 := by
  intro W T tv t hW ht
  have HQ : Hid (∀ W', fr W W' → Calls Try.prog g (#[tv] ++ lb) W' fun e w' => e = .returned (.bool (q t)) ∧ fr W' w') := Lib.hid fun W' hf => hq W' T tv t (fr.step hW hf) (ht.below hf)
  obtain ⟨a, b, rfl, h1, h2⟩ := ht
  have cL := (hL.fr hW).cell
  have lL := (hL.fr hW).lt
  have cM := (hM.fr hW).cell
  have lM := (hM.fr hW).lt
  obtain ⟨hl0, hl1⟩ := hlv
  clear h1 h2 hL hM hq
  by_cases hlev : t.level = lv + 1
  · have hd : (t.level == lv + 1) = true := by simpa using hlev
    clear hlev
    go_enter Try.func38, Try.ntmps38
    go_wp2_with (go_at_fn g; refine (HQ.out _ (fr.alloc fr.refl _)).mono ?_; rintro e w1 ⟨rfl, hf1⟩)
    refine bodyPost_ret (v := .bool (q t)) (by simp [results, Try.results38, go_sem]) rfl ?_
    exact ⟨by simp only [hd, Bool.true_and], fr.step (fr.alloc fr.refl _) hf1⟩
  · have hd : (t.level == lv + 1) = false := by simpa using hlev
    clear hlev
    go_enter Try.func38, Try.ntmps38
    go_wp2
    refine bodyPost_ret (v := .bool false) (by simp [results, Try.results38, go_sem]) rfl ?_
    exact ⟨by simp only [hd, Bool.false_and], fr.alloc fr.refl _⟩
set_option maxRecDepth 100000 in
theorem ids_pred (S : Nat → Prop) (I : Nat) (v : Value) (zs : List Int) (w0 : World) (hI : OneV w0 I v) (hz : IntsIn w0 S v zs) : PredT 42 #[.pointer (some ⟨I, 0, none⟩)] (fun t => decide (t.id ∈ zs)) w0 := by
  intro W T tv t hW ht
  have HQ : Hid (∀ W', fr W W' → Calls Try.prog 43 #[v, .int .i64 t.id] W' fun r w' => r = .returned (.bool (decide (t.id ∈ zs))) ∧ fr W' w') := Lib.hid fun W' hf => contains_any S v zs t.id W' ((hz.below hW).below hf)
  obtain ⟨a, b, rfl, h1, h2⟩ := ht
  obtain ⟨A, c, rfl, _⟩ := hz
  have cI := (hI.fr hW).cell
  have lI := (hI.fr hW).lt
  clear h1 h2 hI
  obtain ⟨x, hx⟩ : ∃ x, decide (t.id ∈ zs) = x := ⟨_, rfl⟩
  rw [hx] at HQ
  simp only [hx]
  clear hx
  go_enter Try.func42, Try.ntmps42
  go_wp2_with (go_at_call 43; refine (HQ.out _ (fr.alloc fr.refl _)).mono ?_; rintro e w1 ⟨rfl, hf1⟩)
  refine bodyPost_ret (v := .bool x) (by simp [results, Try.results42, go_sem]) rfl ?_
  exact ⟨rfl, fr.step (fr.alloc fr.refl _) hf1⟩
set_option maxRecDepth 100000 in
theorem below_pred (L M g : Nat) (lv : Int) (lb : Array Value) (q : Tbl → Bool) (w0 : World) (eg : ∀ args w, (callFunc g args).run Try.prog w = .ok (.enter g args) w) (hL : OneV w0 L (.int .i64 lv)) (hM : OneV w0 M (.func (.func g) #[] lb)) (hq : PredT g lb q w0) :
    PredT 45 #[.pointer (some ⟨L, 0, none⟩), .pointer (some ⟨M, 0, none⟩)] (fun t => decide (lv < t.level) && q t) w0 := by
  intro W T tv t hW ht
  have HQ : Hid (∀ W', fr W W' → Calls Try.prog g (#[tv] ++ lb) W' fun e w' => e = .returned (.bool (q t)) ∧ fr W' w') := Lib.hid fun W' hf => hq W' T tv t (fr.step hW hf) (ht.below hf)
  obtain ⟨a, b, rfl, h1, h2⟩ := ht
  have cL := (hL.fr hW).cell
  have lL := (hL.fr hW).lt
  have cM := (hM.fr hW).cell
  have lM := (hM.fr hW).lt
  clear h1 h2 hL hM hq
  by_cases hlev : lv < t.level
  · have hd : decide (lv < t.level) = true := by simpa using hlev
    clear hlev
    go_enter Try.func45, Try.ntmps45
    go_wp2_with (go_at_fn g; refine (HQ.out _ (fr.alloc fr.refl _)).mono ?_; rintro e w1 ⟨rfl, hf1⟩)
    refine bodyPost_ret (v := .bool (q t)) (by simp [results, Try.results45, go_sem]) rfl ?_
    exact ⟨by simp only [hd, Bool.true_and], fr.step (fr.alloc fr.refl _) hf1⟩
  · have hd : decide (lv < t.level) = false := by simpa using hlev
    clear hlev
    go_enter Try.func45, Try.ntmps45
    go_wp2
    refine bodyPost_ret (v := .bool false) (by simp [results, Try.results45, go_sem]) rfl ?_
    exact ⟨by simp only [hd, Bool.false_and], fr.alloc fr.refl _⟩
def sortZ (zs : List Int) : List Int := zs.mergeSort fun x y => decide (x ≤ y)
theorem sort_own (base : Nat) (v : Value) (zs : List Int) (w : World) (ho : w.ownsRow base 3 1 v zs.length (zs.map (Value.int .i64))) (hl : zs.length < 4611686018427387904) :
    Calls Try.prog 39 #[v] w fun e w' => e = .returned (.tuple #[]) ∧ w'.ownsRow base 3 1 v zs.length ((sortZ zs).map (Value.int .i64)) ∧ w.grownBy w' v.ownBlock := by
  have hl2 : (sortZ zs).length = zs.length := List.length_mergeSort zs
  rcases ho.2 with ⟨rfl, h0⟩ | ⟨g, cap, cur, rfl, hbg, hh, hcap, hcm, hsz, htk⟩
  · have hz : zs = [] := List.eq_nil_of_length_eq_zero h0
    subst hz
    refine (Try.slices_Sort_int_none none 0 w).mono ?_
    rintro e w' ⟨rfl, rfl⟩
    exact ⟨rfl, by simpa [sortZ] using World.ownsRow_nil _ _ _ _, ⟨rfl, rfl, rfl, Nat.le_refl _, fun _ _ _ => rfl⟩⟩
  · have hgl := (Array.getElem?_eq_some_iff.1 hh).1
    have hH := holds_of_blockI hh (by simpa using htk)
    refine (Try.slices_Sort_int g 0 cap zs w hH hgl hl).mono ?_
    rintro e w2 ⟨rfl, nn, os, rfl⟩
    exact ⟨rfl, ownsRow_sortedI (n := nn) (os := os) (ts := sortZ zs) hl2 hbg hh hcap hcm hsz, grownBy_sortedI _⟩
end Go.Proofs.Ytacdhkkelkplnaa
end
section
namespace Go.Proofs.Ytacdhkkelkplnaa
open Go.RowKit Go.BigFrame Go.Sort
attribute [local go_sem ↓] Go.wp_at_zero Go.wp_at_succ
def ownsAt (ts : List Tbl) (l : Int) : List Tbl := ts.filter fun t => t.level == l
def ownOne (l : Int) (t0 : Tbl) (r : List Tbl) : Tbl × List Tbl := if 0 < l then (minL byId t0 r, []) else (t0, r)
def nextAt (ts : List Tbl) (l : Int) (a : Tbl) (r : List Tbl) : List Tbl := ts.filter fun t => (t.level == l + 1) && meetsB (lowOf a r) (highOf a r) t
def pickIds (ts : List Tbl) (l : Int) (a : Tbl) (r : List Tbl) : List Int := sortZ (((a :: r) ++ nextAt ts l a r).map Tbl.id)
def pickAt (ts : List Tbl) (fan l : Int) : Option (List Int) := match ownsAt ts l with
  | [] => none
  | t0 :: r => if ((t0 :: r).length : Int) < max fan 2 then none else some (pickIds ts l (ownOne l t0 r).1 (ownOne l t0 r).2)
def pickGo (ts : List Tbl) (fan l : Int) : Nat → List Int × Int × Bool
  | 0 => ([], 0, false)
  | n + 1 => match pickAt ts fan l with
    | some ids => (ids, l + 1, true)
    | none => pickGo ts fan (l + 1) n
def pickC (ts : List Tbl) (fan : Int) : List Int × Int × Bool := pickGo ts fan 0 3
theorem level_disjoint (ts : List Tbl) (l : Int) (q : Tbl → Bool) : (ownsAt ts l).length + (ts.filter fun t => (t.level == l + 1) && q t).length ≤ ts.length := by
  unfold ownsAt
  induction ts with
  | nil => simp
  | cons t ts ih =>
    rw [List.filter_cons, List.filter_cons, List.length_cons]
    by_cases h1 : (t.level == l) = true
    · have h2 : ((t.level == l + 1) && q t) = false := by
        have : (t.level == l + 1) = false := by simp at h1 ⊢; omega
        rw [this, Bool.false_and]
      rw [if_pos h1, if_neg (by rw [h2]; simp), List.length_cons]
      omega
    · rw [if_neg h1]
      by_cases h2 : ((t.level == l + 1) && q t) = true
      · rw [if_pos h2, List.length_cons]; omega
      · rw [if_neg h2]; omega
theorem All2.join {α β : Type} {P : α → β → Prop} {l l' : List α} {m m' : List β} (h : All2 P l m) (h' : All2 P l' m') : All2 P (l ++ l') (m ++ m') := by
  induction h with
  | nil => exact h'
  | cons h1 _ ih => exact .cons h1 ih
theorem infoZ : (Try.prog.info? 3).map (fun i => (i.zero, i.size, i.bytes)) = some (some (.int .i64 0), 1, 8) := by kernel_rfl
theorem own_rebase' {w : World} {base base' n size : Nat} {v : Value} {e : TypeId} {xs : List Value} (h : w.ownsRow base e size v n xs) (hb : base' ≤ base) : w.ownsRow base' e size v n xs := by
  refine ⟨h.1, ?_⟩
  rcases h.2 with h | ⟨g, cap, cur, h2, h3, h4⟩
  · exact .inl h
  · exact .inr ⟨g, cap, cur, h2, Nat.le_trans hb h3, h4⟩
theorem fr.drewN' {W w : World} (h : fr W w) (k : Nat) : fr W (w.drewN k) := ⟨h.os, h.tape, h.output, h.size, h.block⟩
theorem tb_one {w : World} {S : Nat → Prop} {ts : List Tbl} {css : List (List Value)} (h : All2 (tbR w S) ts css) : ∀ u ∈ css.flatten, u.oneCell' = true := by
  induction h with
  | nil => intro u hu; simp at hu
  | cons h1 _ ih =>
    intro u hu
    rw [List.flatten_cons, List.mem_append] at hu
    rcases hu with hu | hu
    · obtain ⟨a, b, rfl, ha, hb⟩ := h1
      obtain ⟨A, c, rfl⟩ := slice_form ha
      obtain ⟨B, d, rfl⟩ := slice_form hb
      simp only [List.mem_cons, List.not_mem_nil, or_false] at hu
      rcases hu with rfl | rfl | rfl | rfl | rfl <;> rfl
    · exact ih u hu
theorem run_append_tabs (w : World) (base : Nat) (ty : TypeId) (v0 : Value) (A : Option Addr) (c : Nat) (R S : Nat → Prop) (n : Nat) (xs : List Value) (ts : List Tbl) (css : List (List Value)) (hown : w.ownsRow base 63 5 v0 n xs) (hr : Row w R A ts.length 5 css.flatten) (he : All2 (tbR w S) ts css) (hb : (n + ts.length) * 72 ≤ 140737488355328) (hbase : base ≤ w.heap.size) :
    ∃ v' w', (Builtin.append_ #[52, 52] ty #[v0, .slice A ts.length c]).run Try.prog w = .ok v' w' ∧ w'.ownsRow base 63 5 v' (n + ts.length) (xs ++ css.flatten) ∧ w.grownBy w' v0.ownBlock := by
  obtain ⟨i0, hi, hz0, hz1, hz2⟩ := info_parts infoT
  rcases A with _ | ad
  · have hm : ts.length = 0 := by
      rcases Nat.eq_zero_or_pos ts.length with h0 | h0
      · exact h0
      · obtain ⟨b, o, h, _⟩ := hr.2 h0
        cases h
    have : ts = [] := List.eq_nil_of_length_eq_zero hm
    subst this
    have hcs : css = [] := by cases he; rfl
    subst hcs
    refine ⟨v0, w, ?_, by simpa using hown, World.grownBy.refl w _⟩
    rcases hown.2 with ⟨rfl, rfl⟩ | ⟨g, cap, cur, rfl, _, _, hnc, _⟩
    · simp [Builtin.append_, run_underlying Try.underlying52, sizeOf, typeInfo, hi, Builtin.lenOf, Builtin.firstCells]
    · simp [Builtin.append_, run_underlying Try.underlying52, sizeOf, typeInfo, hi, Builtin.lenOf, Builtin.firstCells, hnc, storeCells]
  · obtain ⟨v', w', e1, e2, e3, _, e5⟩ := run_append_own_at (P := Try.prog) w base 52 ty 63 i0 _ 5 72 Try.underlying52 hi hz0 hz1 hz2 rfl (by decide) v0 n xs hown ad ts.length c css.flatten hr.1
      (fun j u hu => by
        rcases Nat.eq_zero_or_pos ts.length with h0 | h0
        · have := hr.1
          have : css.flatten = [] := List.eq_nil_of_length_eq_zero (by omega)
          rw [this] at hu
          simp at hu
        · obtain ⟨b, o, e, _, _, hc⟩ := hr.2 h0
          obtain rfl := Option.some.inj e
          rw [Addr.add_lit]
          exact hc j u hu) (tb_one he) (by unfold maxLen; omega) (by omega) hbase
    exact ⟨v', w', e1, e2, e3⟩
theorem pickAt_less {ts own : List Tbl} {fan l : Int} {m : Nat} (h : ownsAt ts l = own) (hm : own.length = m) (hlt : (m : Int) < max fan 2) : pickAt ts fan l = none := by
  unfold pickAt
  rw [h]
  cases own with
  | nil => rfl
  | cons t0 r => simp only; rw [if_pos (by rw [hm]; exact hlt)]
theorem pickGo_none {ts : List Tbl} {fan : Int} {k : Nat} (h : pickAt ts fan k = none) (hk : k < 3) : pickGo ts fan k (3 - k) = pickGo ts fan ((k + 1 : Nat) : Int) (3 - (k + 1)) := by
  rw [show 3 - k = (3 - (k + 1)) + 1 by omega]
  conv => lhs; unfold pickGo
  rw [h]
  simp
theorem pickGo_some {ts : List Tbl} {fan : Int} {k : Nat} {ids : List Int} (h : pickAt ts fan k = some ids) (hk : k < 3) : pickGo ts fan k (3 - k) = (ids, (k : Int) + 1, true) := by
  rw [show 3 - k = (3 - (k + 1)) + 1 by omega]
  unfold pickGo
  rw [h]
theorem OldTabs.rebase {w : World} {base base' : Nat} {S : Nat → Prop} {v : Value} {ts : List Tbl} {S' : Nat → Prop} (h : OldTabs w base S v ts) (hb : base' ≤ base) (hS : ∀ i, S i → S' i) : OldTabs w base' S' v ts := by
  obtain ⟨css, h1, h2⟩ := h
  refine ⟨css, ⟨h1.1, ?_⟩, h2.imp fun _ _ hx => tbFine.keep hx fun _ _ _ _ hr => hr.mono hS⟩
  rcases h1.2 with h | ⟨g, cap, cur, h2, h3, h4⟩
  · exact .inl h
  · exact .inr ⟨g, cap, cur, h2, Nat.le_trans hb h3, h4⟩
theorem OldTabs.lit {w : World} {base : Nat} {S : Nat → Prop} {t : Tbl} {a b : Value} (ha : Byt w S a t.lo) (hb : Byt w S b t.hi) (hbase : base ≤ w.heap.size) : OldTabs (w.alloc (.cells #[.int .i64 t.id, .int .i64 t.level, .int .i64 t.count, a, b] 63)) base S (.slice (some ⟨w.heap.size, 0, none⟩) 1 1) [t] := by
  have hal : Below w.heap.size w (w.alloc (.cells #[.int .i64 t.id, .int .i64 t.level, .int .i64 t.count, a, b] 63)) := (Below.refl _ _).alloc (Nat.le_refl _) _
  exact ⟨[[.int .i64 t.id, .int .i64 t.level, .int .i64 t.count, a, b]], by simpa using World.ownsRow_lit (base := base) (e := 63) (size := 5) w #[.int .i64 t.id, .int .i64 t.level, .int .i64 t.count, a, b] 1 hbase (by unfold maxLen; omega) (by simp), .cons ⟨a, b, rfl, ha.below hal, hb.below hal⟩ .nil⟩
theorem wpList_append_tabs {w : World} {ops : Array Oper} {rest : List Oper} {o : Oper} {a : Act} {Q : Exit → Act → World → Prop} (hgd : o.guard = none) (s x : Operand)
    (ho : o.op = .call { callee := .builtin .append, args := #[s, x], argTypes := #[52, 52] }) (base lo : Nat) (v0 src : Value) (hs : a.eval s = v0) (hx : a.eval x = src)
    (ts us : List Tbl) (hown : OldTabs w base (fun i => i < lo) v0 ts) (h' : OldTabs w base (fun i => i < lo) src us) (hlo : lo ≤ base) (hb : (ts.length + us.length) * 72 ≤ 140737488355328) (hbase : base ≤ w.heap.size) (q : Nat) (hq : (ts ++ us).length = q)
    (hK : ∀ A c w', OldTabs w' base (fun i => i < lo) (.slice A q c) (ts ++ us) → RowKit.Below base w w' → wpList Try.prog ops Q rest (a.put o.dst (.slice A q c)) w') : wpList Try.prog ops Q (o :: rest) a w :=
  wpList_plain hgd fun _ hk => by
    obtain ⟨cs, hown, hys⟩ := hown
    obtain ⟨ds, hown0, hy0⟩ := h'
    obtain ⟨A, c, rfl⟩ := own_form hown0
    have hrow : Row w (fun _ => True) A us.length 5 ds.flatten := ⟨hown0.1, fun h0 => by
      obtain ⟨g, c', hA, hbg, hgz, _, _⟩ := own_pos hown0 h0
      injection hA with hA
      subst hA
      refine ⟨g, 0, rfl, trivial, hgz, fun j u hu => ?_⟩
      have := hown0.cells (g := g) rfl j u hu
      rwa [Addr.add_lit] at this⟩
    obtain ⟨v', w', hrun, h2, h3⟩ := run_append_tabs w base o.type v0 A c _ _ ts.length cs.flatten us ds hown hrow hy0 hb hbase
    have key : ∀ t cs, tbR w (fun i => i < lo) t cs → tbR w' (fun i => i < lo) t cs := fun _ _ hy => tbFine.keep hy fun A n sz ys hr => hr.only (Only.of_grown h3) (fun i _ hs e => by have := (hown.lt i e).1; omega)
    have hres : OldTabs w' base (fun i => i < lo) v' (ts ++ us) := ⟨cs ++ ds, by rw [List.length_append, List.flatten_append]; exact h2, All2.join (hys.imp fun _ _ hy => key _ _ hy) (hy0.imp fun _ _ hy => key _ _ hy)⟩
    obtain ⟨A', c', rfl⟩ := hres.form
    rw [hq] at hres hrun
    have hbel : Below base w w' := (Below.refl base w).grown h3 hbase (fun j e => (hown.lt j e).1)
    unfold Oper.wp execOp
    simp only [ho, resolve, invoke, builtin, Sem.run_bind, Sem.run_pure, Result.andThen_ok, List.map_toArray, List.map_cons, List.map_nil, hs, hx, hrun]
    exact hk _ _ (hK A' c' w' hres hbel)
set_option maxRecDepth 100000 in
set_option maxHeartbeats 4000000 in
theorem pick_any (S : Nat → Prop) (v : Value) (ts : List Tbl) (lg sq nx fan : Int) (w : World) (hv : TabsV w S v ts) :
    Calls Try.prog 18 #[.agg #[v, .int .i64 lg, .int .i64 sq, .int .i64 nx], .int .i64 fan] w fun r w' => ∃ A c, r = .returned (.tuple #[.slice A (pickC ts fan).1.length c, .int .i64 (pickC ts fan).2.1, .bool (pickC ts fan).2.2]) ∧ w'.ownsRow w.heap.size 3 1 (.slice A (pickC ts fan).1.length c) (pickC ts fan).1.length ((pickC ts fan).1.map (Value.int .i64)) ∧ fr w w' := by
  have hmf : ∀ (fn : Fn) (first cap : Array Value) (w : World), (Instr.makeFunc fn first cap).run Try.prog w = .ok (.func fn first cap) w := fun _ _ _ _ => rfl
  have eg1 : ∀ args w, (callFunc 33 args).run Try.prog w = .ok (.enter 33 args) w := fun args w => by kernel_rfl
  have eg2 : ∀ args w, (callFunc 35 args).run Try.prog w = .ok (.enter 35 args) w := fun args w => by kernel_rfl
  have eg3 : ∀ args w, (callFunc 38 args).run Try.prog w = .ok (.enter 38 args) w := fun args w => by kernel_rfl
  have eg4 : ∀ args w, (callFunc 59 args).run Try.prog w = .ok (.enter 59 args) w := fun args w => by kernel_rfl
  obtain ⟨i0, hi, hz0, hz1, hz2⟩ := info_parts infoT
  have hby := Lib.hid hz2
  have hz1' := Lib.hid hz1
  clear hz2 hz1
  obtain ⟨i1, hi1, hy0, hy1, hy2⟩ := info_parts infoZ
  have hby1 := Lib.hid hy2
  have hy1' := Lib.hid hy1
  clear hy2 hy1
  obtain ⟨A, c, rfl⟩ := hv.form
  have hmany : ts.length * 72 ≤ 140737488355328 := by obtain ⟨_, _, _, _, _, _, h3, _⟩ := hv; exact h3
  obtain ⟨n, hn⟩ : ∃ n, ts.length = n := ⟨_, rfl⟩
  rw [hn] at hv hmany ⊢
  have HLN := Lib.hid hn
  have H := Lib.hid (hv.lt tbFine)
  have E1 := Lib.hid eg1
  have E2 := Lib.hid eg2
  have E3 := Lib.hid eg3
  have E4 := Lib.hid eg4
  have P0 : (w.alloc (.cells #[.slice A n c, .int .i64 lg, .int .i64 sq, .int .i64 nx] 54)).heap[w.heap.size]? = some (.cells #[.slice A n c, .int .i64 lg, .int .i64 sq, .int .i64 nx] 54 (0, 0)) := heap_alloc_new w _
  clear hn hv eg1 eg2 eg3 eg4
  go_enter Try.func18, Try.ntmps18
  go_wp2
  go_loopw [13] (fun t wr => ∃ k : Nat, k ≤ 3 ∧ t = .int .i64 k ∧ pickC ts fan = pickGo ts fan k (3 - k) ∧ fr (w.alloc (.cells #[.slice A n c, .int .i64 lg, .int .i64 sq, .int .i64 nx] 54)) wr) (fun t _ => 3 - (intOf t).toNat)
  case atStart => exact ⟨0, Nat.zero_le _, rfl, rfl, fr.refl⟩
  case round =>
    obtain ⟨k, hk, rfl, hpk, hbel⟩ := hrel
    have HPK := Lib.hid hpk
    have HB := Lib.hid hbel
    have p0 := fr.hp hbel P0
    have HW := Lib.hid (fr.step (fr.alloc fr.refl _) hbel : fr w wr)
    have c0 : (wr.alloc (.cells #[.int .i64 k] 3)).cell? ⟨w.heap.size, 0, none⟩ = some (.slice A n c) := (fr.alloc fr.refl _ : fr wr _).cell (cell_of_row wr _ 0 _ _ _ p0)
    have hzw : w.heap.size < wr.heap.size := (Array.getElem?_eq_some_iff.1 p0).1
    clear hpk hbel
    by_cases hk3 : k < 3
    · have OA := only_any _ _ ts 33 #[.pointer (some ⟨wr.heap.size, 0, none⟩)] (fun t => t.level == (k : Int)) (wr.alloc (.cells #[.int .i64 k] 3)) E1.out ((H.out.below tbFine HW.out).below tbFine (fr.alloc fr.refl _)) (level_pred _ _ _ ⟨_, heap_alloc_new wr _⟩)
      obtain ⟨own, hown⟩ : ∃ own, ownsAt ts k = own := ⟨_, rfl⟩
      have hown' := hown
      unfold ownsAt at hown'
      rw [hown'] at OA
      obtain ⟨m, hm⟩ : ∃ m, own.length = m := ⟨_, rfl⟩
      have OA' : Hid (Calls Try.prog 32 #[.slice A n c, .func (.func 33) #[] #[.pointer (some ⟨wr.heap.size, 0, none⟩)]] (wr.alloc (.cells #[.int .i64 k] 3)) fun r w' => ∃ A' c', r = .returned (.slice A' m c') ∧ OldTabs w' (wr.heap.size + 1) (fun i => i < wr.heap.size + 1) (.slice A' m c') own ∧ fr (wr.alloc (.cells #[.int .i64 k] 3)) w') := Lib.hid (OA.mono fun r w' h => by
        obtain ⟨v2, rfl, h1, h2⟩ := h
        obtain ⟨A', c', rfl⟩ := h1.form
        rw [hm] at h1 ⊢
        exact ⟨A', c', rfl, h1.rebase (by simp) (fun _ hi => by have := hi.2; simpa using this), h2⟩)
      have HM := Lib.hid hm
      have HOWN := Lib.hid hown
      clear OA hm hown hown'
      by_cases hlt : (m : Int) < max fan 2
      · have hd : decide ((m : Int) < max fan 2) = true := by simpa using hlt
        clear hlt
        go_wp2_with (go_at_call 32; refine OA'.out.mono ?_; rintro r w2 ⟨A2, c2, rfl, ho2, hf2⟩)
        have hpa := pickAt_less (fan := fan) HOWN.out HM.out (by simpa using hd)
        refine ⟨⟨k + 1, by omega, by go_num, by rw [HPK.out, pickGo_none hpa hk3], fr.step (fr.alloc HB.out _) hf2⟩, by simp [intOf]; omega⟩
      · have hd : decide ((m : Int) < max fan 2) = false := by simpa using hlt
        have hm2 : 2 ≤ m := by omega
        obtain ⟨t0, r0, rfl⟩ : ∃ t0 r0, own = t0 :: r0 := by
          cases own with
          | nil => have := HM.out; simp at this; omega
          | cons t0 r0 => exact ⟨t0, r0, rfl⟩
        obtain ⟨mn, hmn⟩ : ∃ mn, minL byId t0 r0 = mn := ⟨_, rfl⟩
        have HMN := Lib.hid hmn
        obtain ⟨ar, har⟩ : ∃ ar, ownOne k t0 r0 = ar := ⟨_, rfl⟩
        obtain ⟨a, r⟩ := ar
        have HAR := Lib.hid har
        have hpa : pickAt ts fan k = some (pickIds ts k a r) := by
          unfold pickAt
          rw [HOWN.out]
          simp only
          rw [if_neg (by rw [HM.out]; exact hlt), har]
        have HPA := Lib.hid hpa
        clear hlt hpa hmn har
        go_upto_if 26 with (go_at_call 32; refine OA'.out.mono ?_; rintro r w2 ⟨A2, c2, rfl, ho2, hf2⟩; have cL := fr.cell hf2 (cell_of_row _ wr.heap.size 0 _ _ _ (heap_alloc_new wr _)))
        go_cut [8] (fun x wc => ∃ A' c' lo, x = .slice A' (r.length + 1) c' ∧ wr.heap.size + 1 ≤ lo ∧ lo ≤ wc.heap.size ∧ OldTabs wc lo (fun i => i < lo) (.slice A' (r.length + 1) c') (a :: r) ∧ fr (wr.alloc (.cells #[.int .i64 k] 3)) wc)
        case first =>
          have hmn : m ≤ n := by rw [← HM.out, ← HLN.out, ← HOWN.out]; exact List.length_filter_le _ _
          by_cases hk0 : k = 0
          · have hkp : decide ((0 : Int) < (k : Int)) = false := by simp; omega
            have har := HAR.out
            unfold ownOne at har
            rw [if_neg (by omega)] at har
            injection har with e1 e2
            subst e1 e2
            go_wp2_with fail
            go_meet
            case rel => exact ⟨A2, c2, wr.heap.size + 1, by rw [← HM.out]; rfl, Nat.le_refl _, by have := Below.size hf2; simpa using this, by rw [← HM.out] at ho2; exact ho2, hf2⟩
          · have hkp : decide ((0 : Int) < (k : Int)) = true := by simp; omega
            have har := HAR.out
            unfold ownOne at har
            rw [if_pos (by omega)] at har
            injection har with e1 e2
            subst e1 e2
            go_wp2_with (go_at_call 34; refine (minL_any _ _ t0 r0 _ byId w2 E2.out (ho2.tabs (by rw [HM.out]; omega)) (byId_any w2)).mono ?_; rintro rr w3 ⟨tv, rfl, ⟨a', b', rfl, ha, hb⟩, hf3⟩; obtain ⟨A3, c3, rfl⟩ := slice_form ha; obtain ⟨B3, d3, rfl⟩ := slice_form hb)
            go_meet
            case rel =>
              refine ⟨_, _, w2.heap.size, rfl, by have := Below.size hf2; simpa using this, by have := Below.size hf3; simp; omega, ?_, fr.alloc (fr.step hf2 hf3) _⟩
              exact (OldTabs.lit (base := w2.heap.size) ha hb (Below.size hf3)).rebase (Nat.le_refl _) (fun _ hi => hi.2)
        case rest =>
          obtain ⟨A8, c8, lo, rfl, hlo, hlz, ho8, hf8⟩ := hcut
          have hmn : r.length + 1 ≤ m := by
            have har := HAR.out
            have := HM.out
            unfold ownOne at har
            split at har <;> (injection har with e1 e2; subst e2; simp at this ⊢; omega)
          have hnx := level_disjoint ts k (meetsB (lowOf a r) (highOf a r))
          rw [HOWN.out, HM.out, HLN.out] at hnx
          obtain ⟨q, hq⟩ : ∃ q, (a :: r ++ nextAt ts k a r).length = q := ⟨_, rfl⟩
          obtain ⟨all, hal⟩ : ∃ all, a :: r ++ nextAt ts k a r = all := ⟨_, rfl⟩
          have hqn : q ≤ n := by rw [← hq]; simp; unfold nextAt; omega
          have hqt : q * 72 ≤ 140737488355328 := by omega
          have HQ0 := Lib.hid hq
          rw [hal] at hq
          have HAL := Lib.hid hal
          have HQ := Lib.hid hq
          clear hq hal
          have cL : wc.cell? ⟨wr.heap.size, 0, none⟩ = some (.int .i64 k) := fr.cell hf8 (cell_of_row _ wr.heap.size 0 _ _ _ (heap_alloc_new wr _))
          have hL : OneV wc wr.heap.size (.int .i64 k) := ⟨_, fr.hp hf8 (heap_alloc_new wr _)⟩
          have p8 := fr.hp (fr.step (fr.alloc fr.refl _) hf8) p0
          have HF8 := Lib.hid hf8
          have HV8 := Lib.hid ((H.out.below tbFine HW.out).below tbFine (fr.step (fr.alloc fr.refl _) hf8))
          have HLL := Lib.hid hL
          have HO8 := Lib.hid ho8
          have OV := Lib.hid (overlap_any _ _ a r wc (ho8.tabs (by simp; omega)))
          clear hL hf8 c0
          go_wp2_with (first
            | (go_at_call 37; refine OV.out.mono ?_; rintro rr w3 ⟨Lo, Hi, rfl, hpd, hf3⟩; have d0 : (w3.alloc (.cells #[.func (.func 59) #[] #[.pointer (some ⟨Hi, 0, none⟩), .pointer (some ⟨Lo, 0, none⟩)]] 78)).cell? ⟨w.heap.size, 0, none⟩ = some (.slice A n c) := cell_of_row _ _ 0 _ _ _ (fr.hp (fr.alloc hf3 _) p8))
            | (go_at_call 32; refine (only_any _ _ ts 38 #[.pointer (some ⟨wr.heap.size, 0, none⟩), .pointer (some ⟨w3.heap.size, 0, none⟩)] _ _ E3.out (HV8.out.below tbFine (fr.alloc hf3 _)) (next_pred _ _ _ _ _ _ _ ⟨by omega, by omega⟩ E4.out (HLL.out.fr (fr.alloc hf3 _)) ⟨_, heap_alloc_new w3 _⟩ (hpd.later (fr.alloc fr.refl _)))).mono ?_; rintro rr w5 ⟨v5, rfl, ho5, hf5⟩; obtain ⟨A5, c5, rfl⟩ := ho5.form)
            | (at_builtin; refine wpList_append_tabs rfl _ _ rfl lo lo _ _ rfl rfl (a :: r) (nextAt ts k a r) ((HO8.out.below hf3).below (fr.step (fr.alloc fr.refl _) hf5)) (ho5.rebase (by have := Below.size hf3; simp; omega) (fun i hi => by have := hi.1; omega)) (Nat.le_refl _) (by simp; unfold nextAt; omega) (by have := Below.size hf3; have := Below.size hf5; simp at this; omega) q HQ0.out ?_; intro A6 c6 w6 ho6 hb6))
          have hf35 : fr wc w5 := fr.step hf3 (fr.step (fr.alloc fr.refl _) hf5)
          have hfw5 : fr w w5 := fr.step HW.out (fr.step (fr.alloc fr.refl _) (fr.step HF8.out hf35))
          have hfw6 : fr w w6 := RowKit.Below.trans hfw5 (RowKit.Below.mono hb6 (by have := HW.out.size; omega))
          have cL6 : w6.cell? ⟨wr.heap.size, 0, none⟩ = some (.int .i64 k) := (RowKit.Below.cell hb6 (p := ⟨wr.heap.size, 0, none⟩) (by simp; omega)).trans (fr.cell hf35 cL)
          have hL6 : wr.heap.size < w6.heap.size := World.block_lt_of_cell? _ ⟨wr.heap.size, 0, none⟩ cL6
          obtain ⟨Lb, hLb⟩ : ∃ Lb, wr.heap.size = Lb := ⟨_, rfl⟩
          rw [hLb] at hL6
          have HLB := Lib.hid hLb
          clear hLb
          have HF6 := Lib.hid hfw6
          have hz6 := hfw6.size
          rw [HAL.out] at ho6
          have HT6 := Lib.hid (ho6.tabs (by rw [HQ.out]; exact hqt))
          clear ho6 hb6 ho5 hpd hf35 hfw5 hfw6 hf3 hf5 d0 cL
          go_loopw [10, 40] (fun x t wd => ∃ j : Nat, j ≤ q ∧ t = .int .i64 j ∧ wd.ownsRow w6.heap.size 3 1 x j (((all.take j).map Tbl.id).map (Value.int .i64)) ∧ fr w6 wd) (fun _ t _ => q - (intOf t).toNat)
          case atStart => exact ⟨0, Nat.zero_le _, rfl, World.ownsRow_nil _ _ _ _, fr.refl⟩
          case round =>
            obtain ⟨j, hj, rfl, hown, hbel⟩ := hrel
            obtain ⟨A7, c7, rfl⟩ := own_form hown
            have HO := Lib.hid hown
            have HB7 := Lib.hid hbel
            have cL7 := fr.cell hbel cL6
            have hz7 := hbel.size
            clear hown hbel
            by_cases hjq : j < q
            · obtain ⟨t, hf⟩ : ∃ t, all[j]? = some t := ⟨_, List.getElem?_eq_getElem (by rw [HQ.out]; exact hjq)⟩
              obtain ⟨b, o, cs, rfl, hblt, _, ⟨va, vb, rfl, hva, hvb⟩, hc⟩ := Rws.at_ tbFine (HT6.out.below tbFine HB7.out) hf
              obtain ⟨Aa, ca, rfl⟩ := slice_form hva
              obtain ⟨Ab, cb, rfl⟩ := slice_form hvb
              have x0 : wr.cell? ⟨b, o + j * 5, none⟩ = _ := hc 0 _ rfl
              have x1 : wr.cell? ⟨b, o + j * 5 + 1, none⟩ = _ := hc 1 _ rfl
              have x2 : wr.cell? ⟨b, o + j * 5 + 2, none⟩ = _ := hc 2 _ rfl
              have x3 : wr.cell? ⟨b, o + j * 5 + 3, none⟩ = _ := hc 3 _ rfl
              have x4 : wr.cell? ⟨b, o + j * 5 + 4, none⟩ = _ := hc 4 _ rfl
              have HSN := Lib.hid (take_snoc hf)
              clear hf hc hva hvb
              go_wp2_with (at_builtin; refine wpList_append_own_at _ rfl _ _ 22 rfl w6.heap.size 3 i1 _ 1 8 Try.underlying22 hi1 hy0 hy1'.out hby1.out rfl (by decide) _ _ _ rfl ((HO.out.alloc _).alloc _) ⟨wr.heap.size + 1, 0, none⟩ 1 1 [.int .i64 t.id] rfl rfl (cells_at rfl (by simp)) (by simp [Value.oneCell']) (by unfold maxLen; omega) (by omega) (by simp; omega) ?_; intro v' w9 hown' hgrow hnn hat; clear hnn)
              refine ⟨⟨j + 1, by omega, by go_num, ?_, RowKit.Below.grown (fr.alloc (fr.alloc HB7.out _) _) hgrow (by simp; omega) (fun i e => (HO.out.lt i e).1)⟩, by simp [intOf]; omega⟩
              rw [HSN.out, List.map_append, List.map_append]
              exact hown'
            · obtain rfl : j = q := by omega
              have hall : (all.take j).map Tbl.id = all.map Tbl.id := by rw [List.take_of_length_le (by rw [HQ.out]; exact Nat.le_refl _)]
              have hids : (all.map Tbl.id).length = j := by rw [List.length_map, HQ.out]
              have SO := Lib.hid (sort_own w6.heap.size (.slice A7 j c7) (all.map Tbl.id) wr (by rw [hids, ← hall]; exact HO.out) (by rw [hids]; omega))
              have HIDS := Lib.hid hids
              have hzA : ∀ g, (Value.slice A7 j c7).ownBlock = some g → w6.heap.size ≤ g := fun g hg => (HO.out.lt g hg).1
              clear hall hids
              go_wp2_with (go_at_call 39; refine SO.out.mono ?_; rintro rr w9 ⟨rfl, ho9, hg9⟩; have cL9 := (World.cell?_of_block (hg9.block _ (World.block_lt_of_cell? _ _ cL7) (fun e => by have h1 := hzA _ e.symm; have h2 := hL6; have h3 := HLB.out; simp only at h1; omega))).trans cL7)
              go_quiet (fail)
              go_wp2_with fail
              refine bodyPost_ret (v := .tuple #[_, _, _]) (by simp [results, Try.results18, go_sem]; exact ⟨rfl, rfl, rfl⟩) rfl ?_
              have hpc : pickC ts fan = (pickIds ts k a r, (k : Int) + 1, true) := by rw [HPK.out, pickGo_some HPA.out hk3]
              have hpi : pickIds ts k a r = sortZ (all.map Tbl.id) := by unfold pickIds; rw [HAL.out]
              have hsl : (sortZ (all.map Tbl.id)).length = j := by unfold sortZ; rw [List.length_mergeSort, HIDS.out]
              rw [HIDS.out] at ho9
              refine ⟨A7, c7, ?_, ?_, ?_⟩
              · rw [hpc]
                simp only [hpi, hsl]
              · rw [hpc]
                simp only [hpi, hsl]
                exact own_rebase' ho9 hz6
              · have h1 : fr w6 w9 := RowKit.Below.grown HB7.out hg9 hz7 (fun i e => hzA i e)
                exact fr.drewN' (RowKit.Below.trans HF6.out (RowKit.Below.mono h1 hz6)) _
    · obtain rfl : k = 3 := by omega
      go_wp2
      refine bodyPost_ret (v := .tuple #[_, _, _]) (by simp [results, Try.results18, go_sem]; exact ⟨rfl, rfl, rfl⟩) rfl ?_
      have hpc : pickC ts fan = ([], 0, false) := by rw [HPK.out]; rfl
      refine ⟨none, 0, by rw [hpc]; rfl, ?_, HW.out⟩
      rw [hpc]
      exact World.ownsRow_nil _ _ _ _
end Go.Proofs.Ytacdhkkelkplnaa
end
section
namespace Go.Proofs.Ytacdhkkelkplnaa
open Go.RowKit Go.BigFrame Go.Sort
attribute [local go_sem ↓] Go.wp_at_zero Go.wp_at_succ
def bottomC (ts : List Tbl) (zs : List Int) (lv : Int) : Bool := match ts.filter fun t => decide (t.id ∈ zs) with
  | [] => true
  | t0 :: r => !(ts.any fun t => decide (lv < t.level) && meetsB (lowOf t0 r) (highOf t0 r) t)
set_option maxRecDepth 100000 in
set_option maxHeartbeats 4000000 in
theorem bottom_any (S S' : Nat → Prop) (v vi : Value) (ts : List Tbl) (zs : List Int) (lg sq nx lv : Int) (w : World) (hv : TabsV w S v ts) (hi : IntsIn w S' vi zs) :
    Calls Try.prog 22 #[.agg #[v, .int .i64 lg, .int .i64 sq, .int .i64 nx], vi, .int .i64 lv] w fun r w' => r = .returned (.bool (bottomC ts zs lv)) ∧ fr w w' := by
  have hmf : ∀ (fn : Fn) (first cap : Array Value) (w : World), (Instr.makeFunc fn first cap).run Try.prog w = .ok (.func fn first cap) w := fun _ _ _ _ => rfl
  have eg1 : ∀ args w, (callFunc 42 args).run Try.prog w = .ok (.enter 42 args) w := fun args w => by kernel_rfl
  have eg2 : ∀ args w, (callFunc 45 args).run Try.prog w = .ok (.enter 45 args) w := fun args w => by kernel_rfl
  have eg4 : ∀ args w, (callFunc 59 args).run Try.prog w = .ok (.enter 59 args) w := fun args w => by kernel_rfl
  obtain ⟨A, c, rfl⟩ := hv.form
  obtain ⟨n, hn⟩ : ∃ n, ts.length = n := ⟨_, rfl⟩
  have hmany : ts.length * 72 ≤ 140737488355328 := by obtain ⟨_, _, _, _, _, _, h3, _⟩ := hv; exact h3
  obtain ⟨B, d, rfl, hi1, hi2, hi3⟩ : ∃ B d, vi = .slice B zs.length d ∧ zs.length ≤ d ∧ zs.length ≤ 140737488355328 ∧ Row w S' B zs.length 1 (zs.map (Value.int .i64)) := hi
  obtain ⟨zn, hzn⟩ : ∃ zn, zs.length = zn := ⟨_, rfl⟩
  have HI : Hid (IntsIn w S' (.slice B zs.length d) zs) := Lib.hid ⟨B, d, rfl, hi1, hi2, hi3⟩
  rw [hn] at hv hmany ⊢
  rw [hzn] at HI ⊢
  have HLN := Lib.hid hn
  have H := Lib.hid hv
  have E1 := Lib.hid eg1
  have E2 := Lib.hid eg2
  have E4 := Lib.hid eg4
  clear hn hv eg1 eg2 eg4 hi1 hi2 hi3 hzn
  have hfw : fr w (((w.alloc (.cells #[.slice A n c, .int .i64 lg, .int .i64 sq, .int .i64 nx] 54)).alloc (.cells #[.slice B zn d] 22)).alloc (.cells #[.int .i64 lv] 3)) := fr.alloc (fr.alloc (fr.alloc fr.refl _) _) _
  have P0 : (((w.alloc (.cells #[.slice A n c, .int .i64 lg, .int .i64 sq, .int .i64 nx] 54)).alloc (.cells #[.slice B zn d] 22)).alloc (.cells #[.int .i64 lv] 3)).heap[w.heap.size]? = some (.cells #[.slice A n c, .int .i64 lg, .int .i64 sq, .int .i64 nx] 54 (0, 0)) := (Below.heap_alloc _ _ _ (by simp; omega)).trans ((Below.heap_alloc _ _ _ (by simp)).trans (heap_alloc_new w _))
  have O1 : OneV (((w.alloc (.cells #[.slice A n c, .int .i64 lg, .int .i64 sq, .int .i64 nx] 54)).alloc (.cells #[.slice B zn d] 22)).alloc (.cells #[.int .i64 lv] 3)) (w.heap.size + 1) (.slice B zn d) := ⟨22, (Below.heap_alloc _ _ _ (by simp)).trans (heap_at_new _ trivial (by simp))⟩
  have O2 : OneV (((w.alloc (.cells #[.slice A n c, .int .i64 lg, .int .i64 sq, .int .i64 nx] 54)).alloc (.cells #[.slice B zn d] 22)).alloc (.cells #[.int .i64 lv] 3)) (w.heap.size + 1 + 1) (.int .i64 lv) := ⟨3, heap_at_new _ trivial (by simp)⟩
  have OA := only_any _ _ ts 42 #[.pointer (some ⟨w.heap.size + 1, 0, none⟩)] (fun t => decide (t.id ∈ zs)) (((w.alloc (.cells #[.slice A n c, .int .i64 lg, .int .i64 sq, .int .i64 nx] 54)).alloc (.cells #[.slice B zn d] 22)).alloc (.cells #[.int .i64 lv] 3)) E1.out (H.out.below tbFine hfw) (ids_pred _ _ _ _ _ O1 (HI.out.below hfw))
  obtain ⟨own, hown⟩ : ∃ own, (ts.filter fun t => decide (t.id ∈ zs)) = own := ⟨_, rfl⟩
  have hon : own.length ≤ n := by rw [← hown, ← HLN.out]; exact List.length_filter_le _ _
  unfold bottomC
  rw [hown] at OA ⊢
  have OA' := Lib.hid OA
  have HO2 := Lib.hid O2
  clear OA hown O1 O2
  cases own with
  | nil =>
    go_enter Try.func22, Try.ntmps22
    go_wp2_with (go_at_call 32; refine OA'.out.mono ?_; rintro r w2 ⟨v2, rfl, ho2, hf2⟩; obtain ⟨A2, c2, rfl⟩ := ho2.form)
    refine bodyPost_ret (v := .bool true) (by simp [results, Try.results22, go_sem]) rfl ?_
    exact ⟨rfl, fr.step hfw hf2⟩
  | cons t0 r =>
    obtain ⟨m, hm⟩ : ∃ m, (t0 :: r).length = m := ⟨_, rfl⟩
    have hm0 : ((m : Int) == 0) = false := by rw [← hm]; simp; omega
    obtain ⟨x, hx⟩ : ∃ x, (ts.any fun t => decide (lv < t.level) && meetsB (lowOf t0 r) (highOf t0 r) t) = x := ⟨_, rfl⟩
    simp only [hx]
    have HX := Lib.hid hx
    have HM := Lib.hid hm
    rw [hm] at hon
    clear hm hx
    go_enter Try.func22, Try.ntmps22
    go_wp2_with (first
      | (go_at_call 32; refine OA'.out.mono ?_; rintro rr w2 ⟨v2, rfl, ho2, hf2⟩; obtain ⟨A2, c2, hv2⟩ := ho2.form; rw [HM.out] at hv2; subst hv2; have hf0 := fr.step hfw hf2)
      | (go_at_call 37; refine (overlap_any _ _ t0 r w2 (ho2.tabs (by rw [HM.out]; omega))).mono ?_; rintro rr w3 ⟨Lo, Hi, rfl, hpd, hf3⟩; have d0 : (w3.alloc (.cells #[.func (.func 59) #[] #[.pointer (some ⟨Hi, 0, none⟩), .pointer (some ⟨Lo, 0, none⟩)]] 78)).cell? ⟨w.heap.size, 0, none⟩ = some (.slice A n c) := cell_of_row _ _ 0 _ _ _ (fr.hp (fr.alloc (fr.step hf2 hf3) _) P0))
      | (go_at_call 44; refine (containsF_any _ _ ts 45 #[.pointer (some ⟨w.heap.size + 1 + 1, 0, none⟩), .pointer (some ⟨w3.heap.size, 0, none⟩)] (fun t => decide (lv < t.level) && meetsB (lowOf t0 r) (highOf t0 r) t) _ E2.out (H.out.below tbFine (fr.alloc (fr.step hf0 hf3) _)) (below_pred _ _ _ _ _ _ _ E4.out (HO2.out.fr (fr.alloc (fr.step hf2 hf3) _)) ⟨_, heap_alloc_new w3 _⟩ (hpd.later (fr.alloc fr.refl _)))).mono ?_; rintro rr w5 ⟨rfl, hf5⟩; rw [HX.out]))
    refine bodyPost_ret (v := .bool !x) (by simp [results, Try.results22, go_sem]) rfl ?_
    exact ⟨rfl, fr.step (fr.alloc (fr.step hf0 hf3) _) hf5⟩
end Go.Proofs.Ytacdhkkelkplnaa
end
