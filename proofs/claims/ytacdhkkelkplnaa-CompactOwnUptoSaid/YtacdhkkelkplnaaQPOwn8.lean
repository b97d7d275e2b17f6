/-
Plain: what Merge answers: the lists' entries in order, or that two are alike.
-/
import Derived.Test.YtacdhkkelkplnaaQPOwn5
import Derived.Test.YtacdhkkelkplnaaQPOwn2
import Derived.Test.YtacdhkkelkplnaaQPOwn3
import Derived.Test.YtacdhkkelkplnaaQPOwn4
section
namespace Go.Proofs.Ytacdhkkelkplnaa
open Go.RowKit Go.BigFrame
attribute [local go_sem ↓] Go.wp_at_zero Go.wp_at_succ
theorem EntCells.one_cell {w : World} {S : Nat → Prop} {cs : List Value} {es : List Ent} (h : EntCells w S cs es) : ∀ u ∈ cs, u.oneCell' = true := by
  induction es generalizing cs with
  | nil => rw [h.nil_inv]; intro u hu; simp at hu
  | cons e es ih =>
    obtain ⟨k, u', cs1, rfl, h1, h2, h3⟩ := h.cons_inv
    obtain ⟨A, c, rfl, _⟩ := h1
    obtain ⟨A', c', rfl, _⟩ := h2
    intro u hu
    simp only [List.mem_cons] at hu
    rcases hu with rfl | rfl | rfl | rfl | hu
    · rfl
    · rfl
    · rfl
    · rfl
    · exact ih h3 u hu
theorem run_append_ents (w : World) (base : Nat) (ty : TypeId) (v0 src : Value) (S : Nat → Prop) (n : Nat) (xs : List Value) (es : List Ent) (hown : w.ownsRow base 46 4 v0 n xs) (h : Ents w S src es) (hb : (n + es.length) * 64 ≤ 140737488355328) (hbase : base ≤ w.heap.size) :
    ∃ v' w' cs, (Builtin.append_ #[41, 41] ty #[v0, src]).run Try.prog w = .ok v' w' ∧ w'.ownsRow base 46 4 v' (n + es.length) (xs ++ cs) ∧ EntCells w S cs es ∧ w.grownBy w' v0.ownBlock ∧ (v'.ownBlock = v0.ownBlock ∨ v'.ownBlock = some w.heap.size) := by
  obtain ⟨i0, hi, hz0, hz1, hz2⟩ := info_parts info26
  obtain ⟨A, c, cs, rfl, h1, h2, h3, hr, he⟩ := h
  rcases A with _ | ad
  · have hm : es.length = 0 := by
      rcases Nat.eq_zero_or_pos es.length with h0 | h0
      · exact h0
      · obtain ⟨b, o, h, _⟩ := hr.2 h0
        cases h
    have : es = [] := List.eq_nil_of_length_eq_zero hm
    subst this
    refine ⟨v0, w, [], ?_, by simpa using hown, trivial, World.grownBy.refl w _, .inl rfl⟩
    rcases hown.2 with ⟨rfl, rfl⟩ | ⟨g, cap, cur, rfl, _, _, hnc, _⟩
    · simp [Builtin.append_, run_underlying Try.underlying41, sizeOf, typeInfo, hi, Builtin.lenOf, Builtin.firstCells]
    · simp [Builtin.append_, run_underlying Try.underlying41, sizeOf, typeInfo, hi, Builtin.lenOf, Builtin.firstCells, hnc, storeCells]
  · obtain ⟨v', w', e1, e2, e3, _, e5⟩ := run_append_own_at (P := Try.prog) w base 41 ty 46 i0 _ 4 64 Try.underlying41 hi hz0 hz1 hz2 rfl (by decide) v0 n xs hown ad es.length c cs hr.1
      (fun j u hu => by
        rcases Nat.eq_zero_or_pos es.length with h0 | h0
        · have := hr.1
          have : cs = [] := List.eq_nil_of_length_eq_zero (by omega)
          subst this
          simp at hu
        · obtain ⟨b, o, e, _, _, hc⟩ := hr.2 h0
          obtain rfl := Option.some.inj e
          rw [Addr.add_lit]
          exact hc j u hu) he.one_cell (by unfold maxLen; omega) (by omega) hbase
    exact ⟨v', w', cs, e1, e2, he, e3, e5⟩
theorem wpList_append_ents {w : World} {ops : Array Oper} {rest : List Oper} {o : Oper} {a : Act} {Q : Exit → Act → World → Prop} (hgd : o.guard = none) (s x : Operand)
    (ho : o.op = .call { callee := .builtin .append, args := #[s, x], argTypes := #[41, 41] }) (base : Nat) (v0 src : Value) (hs : a.eval s = v0) (hx : a.eval x = src)
    (S : Nat → Prop) (n : Nat) (xs : List Value) (es : List Ent) (hown : w.ownsRow base 46 4 v0 n xs) (h : Ents w S src es) (hb : (n + es.length) * 64 ≤ 140737488355328) (hbase : base ≤ w.heap.size)
    (hK : ∀ v' w' cs, w'.ownsRow base 46 4 v' (n + es.length) (xs ++ cs) → EntCells w S cs es → w.grownBy w' v0.ownBlock → (v'.ownBlock = v0.ownBlock ∨ v'.ownBlock = some w.heap.size) → wpList Try.prog ops Q rest (a.put o.dst v') w') : wpList Try.prog ops Q (o :: rest) a w :=
  wpList_plain hgd fun _ hk => by
    obtain ⟨v', w', cs, hrun, h2, h3, h4, h5⟩ := run_append_ents w base o.type v0 src S n xs es hown h hb hbase
    unfold Oper.wp execOp
    simp only [ho, resolve, invoke, builtin, Sem.run_bind, Sem.run_pure, Result.andThen_ok, List.map_toArray, List.map_cons, List.map_nil, hs, hx, hrun]
    exact hk _ _ (hK v' w' cs h2 h3 h4 h5)
theorem Ents.monoLt {w : World} {S S' : Nat → Prop} {v : Value} {es : List Ent} (h : Ents w S v es) (hS : ∀ i, i < w.heap.size → S i → S' i) : Ents w S' v es := by
  obtain ⟨A, c, cs, e, h1, h2, h3, h4, h5⟩ := h
  refine ⟨A, c, cs, e, h1, h2, h3, ⟨h4.1, fun hn => ?_⟩, h5.monoLt hS⟩
  obtain ⟨b, o, e, hb, hlt, hc⟩ := h4.2 hn
  exact ⟨b, o, e, hS b hlt hb, hlt, hc⟩
/-- entries that lie outside of a row that append has grown -/
theorem Ents.push {w w2 : World} {S S' : Nat → Prop} {v v' row : Value} {es : List Ent} (h : Ents w S v es) (hg : w.grownBy w2 row.ownBlock) (hat : v'.ownBlock = row.ownBlock ∨ v'.ownBlock = some w.heap.size)
    (hne : ∀ i, i < w.heap.size → S i → row.ownBlock ≠ some i) (hS : ∀ i, i < w.heap.size → S i → v'.ownBlock ≠ some i → S' i) : Ents w2 S' v es := by
  have h1 : Ents w (fun i => S i ∧ i < w.heap.size) v es := h.monoLt fun i hi hs => ⟨hs, hi⟩
  have h2 : Ents w2 (fun i => S i ∧ i < w.heap.size) v es := h1.only (Only.of_grown hg) (fun i hi hT => hne i hi hT.1)
  refine h2.mono fun i hi => hS i hi.2 hi.1 (fun e => ?_)
  rcases hat with h | h
  · exact hne i hi.2 hi.1 (h ▸ e)
  · rw [h] at e
    injection e with e
    omega
set_option maxRecDepth 100000 in
set_option maxHeartbeats 4000000 in
theorem lists_any (S : Nat → Prop) (v : Value) (ls : List (List Ent)) (w : World) (hv : Lists w S v ls) :
    Calls Try.prog 11 #[v] w fun r w' => ∃ v', r = .returned v' ∧ Lists w' (fun i => w.heap.size ≤ i) v' ls ∧ Below w.heap.size w w' := by
  obtain ⟨i0, hi, hz0, hz1, hz2⟩ := info_parts info22
  have hby := Lib.hid hz2
  have hz1' := Lib.hid hz1
  clear hz2 hz1
  obtain ⟨A, c, vs, rfl, hc, hcm, hl, hr, he⟩ := hv
  obtain ⟨n, hn⟩ : ∃ n, ls.length = n := ⟨_, rfl⟩
  rw [hn] at hr hl hc ⊢
  have HN := Lib.hid hn
  have HE := Lib.hid he
  have HR := Lib.hid hr
  clear hn he hr
  go_enter Try.func11, Try.ntmps11
  go_wp2
  go_loopw [3, 7] (fun v3 t wr => ∃ (k : Nat) (ys : List Value), k ≤ n ∧ t = .int .i64 k ∧ wr.ownsRow w.heap.size 41 1 v3 k ys ∧ (∀ (i : Nat) (l : List Ent), i < k → ls[i]? = some l → ∃ x, ys[i]? = some x ∧ Ents wr (fresh w.heap.size v3) x l) ∧ Below w.heap.size w wr) (fun _ t _ => n - (intOf t).toNat)
  case atStart => exact ⟨0, [], Nat.zero_le _, rfl, World.ownsRow_nil _ _ _ _, fun i l hi => absurd hi (by omega), Below.refl _ _⟩
  case round =>
    obtain ⟨k, ys, hk, rfl, hown, hys, hbel⟩ := hrel
    have HO := Lib.hid hown
    have HY := Lib.hid hys
    have HB := Lib.hid hbel
    obtain ⟨A3, c3, rfl⟩ := own_form hown
    clear hown hys hbel
    by_cases hkn : k < n
    · obtain ⟨l, hlk⟩ : ∃ l, ls[k]? = some l := ⟨_, List.getElem?_eq_getElem (by rw [HN.out]; exact hkn)⟩
      obtain ⟨x, hx, hxe⟩ := HE.out k l hlk
      obtain ⟨b, o, u, rfl, _, _, hu, hcell⟩ := (HR.out.below HB.out).at_ hkn
      obtain rfl : u = x := by rw [hx] at hu; injection hu with hu; exact hu.symm
      have HX := Lib.hid (hxe.below HB.out)
      have HLK := Lib.hid hlk
      clear hx hxe hu hlk
      go_wp2_with (first
        | (go_at_call 21; refine (copy_any _ _ _ _ HX.out).mono ?_; rintro r w1 ⟨v1, rfl, he1, hb1⟩; obtain ⟨A1, c1, rfl⟩ := ents_form he1)
        | (at_builtin; refine wpList_append_own_at _ rfl _ _ 30 rfl w.heap.size 41 i0 _ 1 24 Try.underlying30 hi hz0 hz1'.out hby.out rfl (by decide) _ _ _ rfl ((own_below HO.out hb1).alloc _) ⟨w1.heap.size, 0, none⟩ 1 1 [.slice A1 l.length c1] rfl rfl (cell_one_new _ _ _) (by simp [Value.oneCell']) (by unfold maxLen; omega) (by omega) (by have := HB.out.size; have := hb1.size; simp; omega) ?_; intro v' w2 hown' hgrow hnn hat; clear hnn))
      have hal : Below w1.heap.size w1 (w1.alloc (.cells #[.slice A1 l.length c1] 41)) := (Below.refl _ _).alloc (Nat.le_refl _) _
      have hsz := HB.out.size
      have hsz1 := hb1.size
      refine ⟨⟨k + 1, _, by omega, by go_num, hown', ?_, ((HB.out.trans (hb1.mono HB.out.size)).alloc (by omega) _).grown hgrow (by simp; omega) (fun j e => (HO.out.lt j e).1)⟩, by simp [intOf]; omega⟩
      intro i l' hi' hl'
      have hyl : ys.length = k := by have := HO.out.1; omega
      by_cases hik : i < k
      · obtain ⟨x, hx, hxe⟩ := HY.out i l' hik hl'
        refine ⟨x, by rw [List.getElem?_append_left (by omega)]; exact hx, ?_⟩
        exact ((hxe.below hb1).below hal).push hgrow hat (fun i _ hs => hs.2) (fun i _ hs hn => ⟨hs.1, hn⟩)
      · obtain rfl : i = k := by omega
        obtain rfl : l = l' := by have := HLK.out; rw [hl'] at this; injection this with this; exact this.symm
        refine ⟨_, by rw [List.getElem?_append_right (by omega), hyl]; simp; rfl, ?_⟩
        exact (he1.below hal).push hgrow hat (fun i _ hs e => by have := HO.out.lt i e; omega) (fun i _ hs hn => ⟨by omega, hn⟩)
    · obtain rfl : k = n := by omega
      go_wp2
      refine bodyPost_ret (v := .slice A3 k c3) (by simp [results, Try.results11, go_sem]) rfl ?_
      refine ⟨_, rfl, ?_, HB.out⟩
      have h1 := HO.out.1
      have hlim : k ≤ c3 ∧ c3 ≤ 9223372036854775807 := by
        rcases HO.out.2 with ⟨h, rfl⟩ | ⟨g, cap, cur, h, _, _, h2, h3, _⟩
        · injection h with _ _ h; subst h; omega
        · injection h with _ _ h; subst h; unfold maxLen at h3; omega
      refine ⟨A3, c3, ys, by rw [HN.out], by rw [HN.out]; exact hlim.1, hlim.2, by rw [HN.out]; exact hl, ?_, fun i l hl => ?_⟩
      · rw [HN.out]
        refine ⟨h1, fun h0 => ?_⟩
        obtain ⟨g, c', hA, hbg, hgz, _, _⟩ := own_pos HO.out h0
        injection hA with hA
        subst hA
        refine ⟨g, 0, rfl, hbg, hgz, fun j u hu => ?_⟩
        have := HO.out.cells (g := g) rfl j u hu
        rwa [Addr.add_lit] at this
      · have hil : i < k := by have := (List.getElem?_eq_some_iff.1 hl).1; rw [HN.out] at this; exact this
        obtain ⟨x, hx, hxe⟩ := HY.out i l hil hl
        exact ⟨x, hx, hxe.mono fun i hi => hi.1⟩
end Go.Proofs.Ytacdhkkelkplnaa
end
section
namespace Go.Proofs.Ytacdhkkelkplnaa
section
variable {α : Type} (f : α → List Ent)
/-- the order of two. -/
def leL (a b : α) : Prop := cmpL (f a) (f b) ≤ 0
theorem cmpE_le_trans {a b c : Ent} (h1 : cmpE a b ≤ 0) (h2 : cmpE b c ≤ 0) : cmpE a c ≤ 0 := by
  rcases (by omega : cmpE a b < 0 ∨ cmpE a b = 0) with h | h
  · rcases (by omega : cmpE b c < 0 ∨ cmpE b c = 0) with h' | h'
    · have := cmpE_trans h h'; omega
    · obtain ⟨e1, e2⟩ := cmpE_eq.1 h'
      unfold cmpE at h ⊢
      rw [← e1, ← e2]; omega
  · obtain ⟨e1, e2⟩ := cmpE_eq.1 h
    unfold cmpE at h2 ⊢
    rw [e1, e2]; exact h2
theorem leL_trans {a b c : α} (hb : f b ≠ []) (h1 : leL f a b) (h2 : leL f b c) : leL f a c := by
  unfold leL at *
  cases ha : f a with
  | nil => simp [cmpL]
  | cons x _ =>
    cases hb' : f b with
    | nil => exact absurd hb' hb
    | cons y _ =>
      cases hc : f c with
      | nil => simp [cmpL]
      | cons z _ =>
        rw [ha, hb'] at h1
        rw [hb', hc] at h2
        exact cmpE_le_trans (a := x) (b := y) (c := z) h1 h2
theorem leL_total {a b : α} (h : ¬ leL f a b) : leL f b a := by
  unfold leL at *
  cases ha : f a with
  | nil => rw [ha] at h; simp [cmpL] at h
  | cons x _ =>
    cases hb : f b with
    | nil => simp [cmpL]
    | cons y _ =>
      rw [ha, hb] at h
      simp only [cmpL] at h ⊢
      have := cmpE_swap x y
      omega
theorem leL_refl (a : α) : leL f a a := by
  unfold leL
  cases f a with
  | nil => simp [cmpL]
  | cons x _ => simp [cmpL, cmpE_eq.2]
theorem swapL_get {l : List α} {i j : Nat} (hi : i < l.length) (hj : j < l.length) (hij : i ≠ j) (k : Nat) : (swapL l i j)[k]? = if k = i then l[j]? else if k = j then l[i]? else l[k]? := by
  rw [swapL_at (List.getElem?_eq_getElem hi) (List.getElem?_eq_getElem hj)]
  rw [List.getElem?_set, List.getElem?_set]
  by_cases h1 : k = i
  · subst h1
    rw [if_neg (fun h => hij h.symm), if_pos rfl, if_pos rfl, List.getElem?_eq_getElem hj]
    simp [hi]
  · by_cases h2 : k = j
    · subst h2
      rw [if_pos rfl, if_neg h1, if_pos rfl, List.getElem?_eq_getElem hi]
      simp [hj]
    · rw [if_neg (fun h => h2 h.symm), if_neg (fun h => h1 h.symm), if_neg h1, if_neg h2]
/-- the heap's order, but at the places that P lets go. -/
def Heap (P : Nat → Prop) (l : List α) : Prop := ∀ j a b, 0 < j → ¬ P j → l[(j - 1) / 2]? = some a → l[j]? = some b → leL f a b
theorem siftUp_heap (l : List α) (i : Nat) (hne : ∀ a ∈ l, f a ≠ []) (hi : i < l.length) (h : Heap f (fun j => j = i) l) (hg : ∀ j a b, 0 < i → (j - 1) / 2 = i → 0 < j → l[(i - 1) / 2]? = some a → l[j]? = some b → leL f a b) : Heap f (fun _ => False) (siftUp f l i) := by
  induction i using Nat.strongRecOn generalizing l with
  | ind i ih =>
    cases i with
    | zero =>
      rw [siftUp]
      intro j a b hj _ ha hb
      exact h j a b hj (by omega) ha hb
    | succ i =>
      have h2 : i / 2 < l.length := by omega
      obtain ⟨p, hp⟩ : ∃ p, l[i / 2]? = some p := ⟨_, List.getElem?_eq_getElem h2⟩
      obtain ⟨x, hx⟩ : ∃ x, l[i + 1]? = some x := ⟨_, List.getElem?_eq_getElem hi⟩
      rw [siftUp, hp, hx]
      simp only
      have e1 : (i + 1 - 1) / 2 = i / 2 := by rw [Nat.add_sub_cancel]
      split
      · rename_i hle
        intro j a b hj _ ha hb
        by_cases hji : j = i + 1
        · subst hji
          rw [e1, hp] at ha
          rw [hx] at hb
          injection ha with ha; injection hb with hb
          subst ha hb
          exact hle
        · exact h j a b hj hji ha hb
      · rename_i hgt
        have hxp : leL f x p := leL_total f (a := p) (b := x) hgt
        have hij : i / 2 ≠ i + 1 := by omega
        have sw := swapL_get h2 hi hij
        have hpn : f p ≠ [] := hne p (List.mem_of_getElem? hp)
        refine ih (i / 2) (by omega) (swapL l (i / 2) (i + 1)) (fun a ha => hne a ((swapL_perm l _ _).subset ha)) (by rw [swapL_len]; exact h2) ?_ ?_
        · intro j a b hj hji ha hb
          simp only at hji
          rw [sw] at ha hb
          by_cases hj1 : j = i + 1
          · subst hj1
            rw [e1, if_pos rfl, hx] at ha
            rw [if_neg (fun h => hij h.symm), if_pos rfl, hp] at hb
            injection ha with ha; injection hb with hb
            subst ha hb
            exact hxp
          · rw [if_neg hji, if_neg hj1] at hb
            by_cases hpar : (j - 1) / 2 = i / 2
            · rw [if_pos hpar, hx] at ha
              injection ha with ha
              subst ha
              refine leL_trans f hpn hxp (h j p b hj hj1 ?_ hb)
              rw [hpar]; exact hp
            · rw [if_neg hpar] at ha
              by_cases hpar2 : (j - 1) / 2 = i + 1
              · rw [if_pos hpar2, hp] at ha
                injection ha with ha
                subst ha
                exact hg j p b (by omega) hpar2 hj (by rw [e1]; exact hp) hb
              · rw [if_neg hpar2] at ha
                exact h j a b hj hj1 ha hb
        · intro j a b hi0 hpar hj ha hb
          rw [sw] at ha hb
          have e2 : (i / 2 - 1) / 2 ≠ i / 2 := by omega
          have e3 : (i / 2 - 1) / 2 ≠ i + 1 := by omega
          rw [if_neg e2, if_neg e3] at ha
          have hap : leL f a p := h (i / 2) a p hi0 (by omega) ha hp
          by_cases hj1 : j = i + 1
          · subst hj1
            rw [if_neg (fun h => hij h.symm), if_pos rfl, hp] at hb
            injection hb with hb
            subst hb
            exact hap
          · have hj2 : j ≠ i / 2 := by omega
            rw [if_neg hj2, if_neg hj1] at hb
            refine leL_trans f hpn hap (h j p b hj hj1 ?_ hb)
            rw [hpar]; exact hp
theorem pushL_heap (l : List α) (q : α) (hne : ∀ a ∈ l, f a ≠ []) (hq : f q ≠ []) (h : Heap f (fun _ => False) l) : Heap f (fun _ => False) (pushL f l q) := by
  refine siftUp_heap f _ _ (fun a ha => ?_) (by simp) ?_ ?_
  · rcases List.mem_append.1 ha with h1 | h1
    · exact hne a h1
    · simp at h1; subst h1; exact hq
  · intro j a b hj hjl ha hb
    have hjlt := (List.getElem?_eq_some_iff.1 hb).1
    simp at hjlt
    simp only at hjl
    rw [List.getElem?_append_left (by omega)] at ha hb
    exact h j a b hj (fun h => h) ha hb
  · intro j a b h0 hpar hj ha hb
    have hjlt := (List.getElem?_eq_some_iff.1 hb).1
    simp at hjlt
    omega
/-- the least of a place and what stands below it. -/
theorem leastStep_le (l : List α) (k m : Nat) (hne : ∀ a ∈ l, f a ≠ []) {c : α} (hc : l[leastStep f l k m]? = some c) : (∀ a, l[k]? = some a → l[m]? ≠ none → leL f c a) ∧ (∀ b, l[m]? = some b → leL f c b) := by
  unfold leastStep at hc
  cases hk : l[k]? with
  | none =>
    rw [hk] at hc
    simp only at hc
    exact ⟨(fun a ha => by cases ha), (fun b hb => by rw [hb] at hc; injection hc with hc; subst hc; exact leL_refl f _)⟩
  | some a =>
    cases hm : l[m]? with
    | none => rw [hk, hm] at hc; simp only at hc; rw [hm] at hc; cases hc
    | some b =>
      rw [hk, hm] at hc
      simp only at hc
      split at hc
      · rename_i hlt
        rw [hk] at hc
        injection hc with hc
        subst hc
        exact ⟨fun a' ha' _ => by injection ha' with ha'; subst ha'; exact leL_refl f _, fun b' hb' => by injection hb' with hb'; subst hb'; unfold leL; omega⟩
      · rename_i hge
        rw [hm] at hc
        injection hc with hc
        subst hc
        refine ⟨fun a' ha' _ => ?_, fun b' hb' => by injection hb' with hb'; subst hb'; exact leL_refl f _⟩
        injection ha' with ha'
        subst ha'
        by_cases h0 : leL f b a
        · exact h0
        · have hna := hne a (List.mem_of_getElem? hk)
          have hnb := hne b (List.mem_of_getElem? hm)
          obtain ⟨x, lx, ex⟩ := List.exists_cons_of_ne_nil hna
          obtain ⟨y, ly, ey⟩ := List.exists_cons_of_ne_nil hnb
          unfold leL at h0 ⊢
          rw [ex, ey] at hge
          rw [ex, ey] at h0 ⊢
          simp only [cmpL] at hge h0 ⊢
          have := cmpE_swap x y
          omega
theorem lst_le (l : List α) (i : Nat) (hi : i < l.length) (hne : ∀ a ∈ l, f a ≠ []) {c : α} (hc : l[lst f l i 2]? = some c) :
    (∀ b, l[i]? = some b → leL f c b) ∧ ∀ j b, (j - 1) / 2 = i → 0 < j → l[j]? = some b → leL f c b := by
  obtain ⟨d, hd⟩ : ∃ d, l[lst f l i 1]? = some d := by
    rcases lst_or f l i 1 with h | h
    · exact ⟨_, List.getElem?_eq_getElem (by omega)⟩
    · exact ⟨_, List.getElem?_eq_getElem h.2⟩
  obtain ⟨x, hx⟩ : ∃ x, l[i]? = some x := ⟨_, List.getElem?_eq_getElem hi⟩
  have s1 := leastStep_le f l (2 * i + 1 + 0) i hne (c := d) hd
  have s2 := leastStep_le f l (2 * i + 1 + 1) (lst f l i 1) hne (c := c) hc
  have hcd : leL f c d := s2.2 d hd
  have hdn : f d ≠ [] := hne d (List.mem_of_getElem? hd)
  refine ⟨fun b hb => leL_trans f hdn hcd (s1.2 b hb), fun j b hpar hj hb => ?_⟩
  rcases (by omega : j = 2 * i + 1 + 0 ∨ j = 2 * i + 1 + 1) with rfl | rfl
  · exact leL_trans f hdn hcd (s1.1 b hb (by rw [hx]; simp))
  · exact s2.1 b hb (by rw [hd]; simp)
theorem siftDown_heap (l : List α) (i : Nat) (hne : ∀ a ∈ l, f a ≠ []) (hi : i < l.length) (h : Heap f (fun j => (j - 1) / 2 = i) l) (hg : ∀ j a b, 0 < i → (j - 1) / 2 = i → 0 < j → l[(i - 1) / 2]? = some a → l[j]? = some b → leL f a b) :
    Heap f (fun _ => False) (siftDown f l i) := by
  induction hn : l.length - i using Nat.strongRecOn generalizing l i with
  | ind n ih =>
    obtain ⟨x, hx⟩ : ∃ x, l[i]? = some x := ⟨_, List.getElem?_eq_getElem hi⟩
    rw [siftDown]
    split
    · rename_i hs
      obtain ⟨h1, h2⟩ := lst_le f l i hi hne (c := x) (by rw [hs]; exact hx)
      intro j a b hj _ ha hb
      by_cases hpar : (j - 1) / 2 = i
      · rw [hpar, hx] at ha
        injection ha with ha
        subst ha
        exact h2 j b hpar hj hb
      · exact h j a b hj hpar ha hb
    · rename_i hs
      have hor := lst_or f l i 2
      have hm1 : i < lst f l i 2 := by omega
      have hm2 : lst f l i 2 < l.length := by omega
      have hm3 : (lst f l i 2 - 1) / 2 = i := by
        rcases leastStep_or f l (2 * i + 1 + 1) (lst f l i 1) with e | ⟨e, _⟩
        · rcases leastStep_or f l (2 * i + 1 + 0) (lst f l i 0) with e' | ⟨e', _⟩
          · exact absurd (e.trans e') hs
          · have : lst f l i 2 = 2 * i + 1 + 0 := e.trans e'
            omega
        · have : lst f l i 2 = 2 * i + 1 + 1 := e
          omega
      obtain ⟨c, hc⟩ : ∃ c, l[lst f l i 2]? = some c := ⟨_, List.getElem?_eq_getElem hm2⟩
      obtain ⟨h1, h2⟩ := lst_le f l i hi hne (c := c) hc
      generalize lst f l i 2 = m at hs hm1 hm2 hm3 hc
      have sw := swapL_get (l := l) hi hm2 (by omega : i ≠ m)
      have hcn : f c ≠ [] := hne c (List.mem_of_getElem? hc)
      refine ih _ (by rw [swapL_len]; omega) (swapL l i m) m (fun a ha => hne a ((swapL_perm l _ _).subset ha)) (by rw [swapL_len]; exact hm2) ?_ ?_ rfl
      · intro j a b hj hpar ha hb
        simp only at hpar
        rw [sw] at ha hb
        by_cases hji : j = i
        · subst hji
          rw [if_pos rfl, hc] at hb
          injection hb with hb
          subst hb
          rw [if_neg (by omega), if_neg hpar] at ha
          exact hg m a c (by omega) hm3 (by omega) ha hc
        · rw [if_neg hji] at hb
          by_cases hjm : j = m
          · subst hjm
            rw [if_pos rfl, hx] at hb
            injection hb with hb
            subst hb
            rw [if_pos hm3, hc] at ha
            injection ha with ha
            subst ha
            exact h1 x hx
          · rw [if_neg hjm] at hb
            by_cases hpi : (j - 1) / 2 = i
            · rw [if_pos hpi, hc] at ha
              injection ha with ha
              subst ha
              exact h2 j b hpi hj hb
            · rw [if_neg hpi, if_neg hpar] at ha
              exact h j a b hj hpi ha hb
      · intro j a b hm0 hpar hj ha hb
        rw [sw] at ha hb
        rw [hm3, if_pos rfl, hc] at ha
        injection ha with ha
        subst ha
        rw [if_neg (by omega), if_neg (by omega)] at hb
        refine h j c b hj (by omega) (by rw [hpar]; exact hc) hb
theorem popL_heap (l : List α) (hne : ∀ a ∈ l, f a ≠ []) (h : Heap f (fun _ => False) l) : Heap f (fun _ => False) (popL f l) := by
  unfold popL
  split
  · rename_i z hz
    have hlz := (List.getElem?_eq_some_iff.1 hz).1
    have hlen : ((l.set 0 z).take (l.length - 1)).length = l.length - 1 := by simp
    rcases Nat.eq_zero_or_pos (l.length - 1) with h0 | h0
    · rw [h0, List.take_zero]
      intro j a b hj _ ha hb
      have := (List.getElem?_eq_some_iff.1 hb).1
      rw [(siftDown_perm _ _ _).length_eq] at this
      simp at this
    · refine siftDown_heap f _ 0 (fun a ha => ?_) (by omega) ?_ (fun j a b h0' => absurd h0' (by omega))
      · rcases List.mem_or_eq_of_mem_set (List.mem_of_mem_take ha) with h1 | h1
        · exact hne a h1
        · rw [h1]; exact hne z (List.mem_of_getElem? hz)
      · intro j a b hj hpar ha hb
        simp only at hpar
        rw [List.getElem?_take] at ha hb
        split at ha
        · split at hb
          · rw [List.getElem?_set, if_neg (by omega)] at ha hb
            exact h j a b hj (fun h => h) ha hb
          · cases hb
        · cases ha
  · intro j a b hj _ ha hb; simp at hb
/-- the top is the least. -/
theorem heap_top (l : List α) (hne : ∀ a ∈ l, f a ≠ []) (h : Heap f (fun _ => False) l) {t : α} (ht : l[0]? = some t) : ∀ (j : Nat) (b : α), l[j]? = some b → leL f t b := by
  intro j
  induction j using Nat.strongRecOn with
  | ind j ih =>
    intro b hb
    rcases Nat.eq_zero_or_pos j with h0 | h0
    · subst h0; rw [ht] at hb; injection hb with hb; subst hb; exact leL_refl f _
    · have hj := (List.getElem?_eq_some_iff.1 hb).1
      obtain ⟨p, hp⟩ : ∃ p, l[(j - 1) / 2]? = some p := ⟨_, List.getElem?_eq_getElem (by omega)⟩
      exact leL_trans f (hne p (List.mem_of_getElem? hp)) (ih _ (by omega) p hp) (h j p b h0 (fun h => h) hp hb)
end
end Go.Proofs.Ytacdhkkelkplnaa
end
section
namespace Go.Proofs.Ytacdhkkelkplnaa
abbrev before (a b : Ent) : Prop := cmpE a b < 0
theorem orderedFrom_iff (l : List Ent) : ∀ p : Option Ent, orderedFrom p l = true ↔ (∀ e ∈ l, goodE e = true) ∧ l.Pairwise before ∧ ∀ q, p = some q → ∀ e ∈ l, cmpE q e < 0 := by
  induction l with
  | nil => intro p; cases p <;> simp [orderedFrom]
  | cons e l ih =>
    intro p
    have h := ih (some e)
    cases p with
    | none =>
      simp only [orderedFrom, Bool.and_eq_true, h, List.pairwise_cons, List.mem_cons, forall_eq_or_imp]
      constructor
      · rintro ⟨g, g', pw, lt⟩
        exact ⟨⟨g, g'⟩, ⟨lt e rfl, pw⟩, fun q hq => by cases hq⟩
      · rintro ⟨⟨g, g'⟩, ⟨lt, pw⟩, _⟩
        exact ⟨g, g', pw, fun q hq => by cases hq; exact lt⟩
    | some p =>
      simp only [orderedFrom, Bool.and_eq_true, decide_eq_true_eq, h, List.pairwise_cons, List.mem_cons, forall_eq_or_imp]
      constructor
      · rintro ⟨g, hp, g', pw, lt⟩
        exact ⟨⟨g, g'⟩, ⟨lt e rfl, pw⟩, fun q hq => by cases hq; exact ⟨hp, fun x hx => cmpE_trans hp (lt e rfl x hx)⟩⟩
      · rintro ⟨⟨g, g'⟩, ⟨lt, pw⟩, hq⟩
        exact ⟨g, (hq p rfl).1, g', pw, fun q hq => by cases hq; exact lt⟩
theorem ordered_iff (l : List Ent) : orderedE l = true ↔ (∀ e ∈ l, goodE e = true) ∧ l.Pairwise before := by
  rw [orderedE, orderedFrom_iff]
  constructor
  · rintro ⟨a, b, _⟩; exact ⟨a, b⟩
  · rintro ⟨a, b⟩; exact ⟨a, b, fun q hq => by cases hq⟩
theorem thinC_sub (mark : Int) (bottom : Bool) (l : List Ent) : ∀ a, (thinC mark bottom a l).Sublist l := by
  induction l with
  | nil => intro a; simp [thinC]
  | cons e l ih =>
    intro a
    simp only [thinC]
    split
    · split
      · exact (ih _).cons _
      · split
        · exact (ih _).cons _
        · exact (ih _).cons_cons _
    · exact (ih _).cons_cons _
theorem thinC_ordered {mark : Int} {bottom : Bool} {l : List Ent} (h : orderedE l = true) : orderedE (thinC mark bottom [] l) = true := by
  rw [ordered_iff] at h ⊢
  have hs := thinC_sub mark bottom l []
  exact ⟨fun e he => h.1 e (hs.subset he), h.2.sublist hs⟩
theorem squeeze {a k : List UInt8} (h1 : cmpB a k ≤ 0) (h2 : cmpB k a ≤ 0) : a = k := by
  have := cmpB_swap a k
  exact cmpB_eq.1 (by omega)
theorem before_key {a b : Ent} (h : before a b) : cmpB a.key b.key ≤ 0 := by
  rcases cmpE_lt h with h | h
  · omega
  · rw [h.1, cmpB_self]; omega
theorem before_seq {a b : Ent} (h : before a b) (hk : a.key = b.key) : b.seq < a.seq := by
  rcases cmpE_lt h with h | h
  · rw [hk, cmpB_self] at h; omega
  · exact h.2
theorem nil_le (k : List UInt8) : cmpB [] k ≤ 0 := by cases k <;> simp [cmpB]
/-- forgotten twice is as once. -/
theorem thin_twice (mark : Int) (bottom : Bool) (l : List Ent) : ∀ a a', l.Pairwise before → (∀ e ∈ l, cmpB a e.key ≤ 0) → (∀ e ∈ l, a' = e.key → a = e.key) → thinC mark bottom a' (thinC mark bottom a l) = thinC mark bottom a l := by
  induction l with
  | nil => intro a a' _ _ _; simp [thinC]
  | cons e l ih =>
    intro a a' hp hle hI
    have hpl := (List.pairwise_cons.1 hp).2
    have hpe := (List.pairwise_cons.1 hp).1
    have hk : ∀ x ∈ l, cmpB e.key x.key ≤ 0 := fun x hx => before_key (hpe x hx)
    have hle' : ∀ x ∈ l, cmpB a x.key ≤ 0 := fun x hx => hle x (List.mem_cons_of_mem _ hx)
    have hI' : ∀ x ∈ l, a' = x.key → a = x.key := fun x hx => hI x (List.mem_cons_of_mem _ hx)
    have hmid : ∀ x ∈ l, a = x.key → e.key = x.key := fun x hx h => by
      have h1 := hle e (by simp)
      have h2 := hk x hx
      rw [← h] at h2 ⊢
      exact squeeze h2 h1
    rw [thinC]
    split
    · rename_i hs
      split
      · exact ih a a' hpl hle' hI'
      · rename_i ha
        split
        · exact ih e.key a' hpl hk (fun x hx h => hmid x hx (hI' x hx h))
        · rename_i hd
          rw [thinC, if_pos hs, if_neg (fun h => ha (hI e (by simp) h)), if_neg hd, ih e.key e.key hpl hk (fun _ _ h => h)]
    · rename_i hs
      rw [thinC, if_neg hs, ih a a' hpl hle' hI']
/-- what is seen stays. -/
theorem vis_thin (mark seq : Int) (bottom : Bool) (hms : mark ≤ seq) (l : List Ent) : ∀ a a1 a2, l.Pairwise before → (∀ e ∈ l, cmpB a e.key ≤ 0) → (∀ e ∈ l, cmpB a1 e.key ≤ 0) →
    (∀ e ∈ l, (a1 = e.key ↔ a2 = e.key) ∨ (a = e.key ∧ a1 = e.key ∧ e.seq ≤ mark)) → (∀ e ∈ l, a = e.key → a1 = e.key) → visC seq a2 (thinC mark bottom a l) = visC seq a1 l := by
  induction l with
  | nil => intro a a1 a2 _ _ _ _ _; simp [thinC, visC]
  | cons e l ih =>
    intro a a1 a2 hp hle hle1 hI h3
    have hpl := (List.pairwise_cons.1 hp).2
    have hpe := (List.pairwise_cons.1 hp).1
    have hk : ∀ x ∈ l, cmpB e.key x.key ≤ 0 := fun x hx => before_key (hpe x hx)
    have hle' : ∀ x ∈ l, cmpB a x.key ≤ 0 := fun x hx => hle x (List.mem_cons_of_mem _ hx)
    have hle1' : ∀ x ∈ l, cmpB a1 x.key ≤ 0 := fun x hx => hle1 x (List.mem_cons_of_mem _ hx)
    have hI' : ∀ x ∈ l, (a1 = x.key ↔ a2 = x.key) ∨ (a = x.key ∧ a1 = x.key ∧ x.seq ≤ mark) := fun x hx => hI x (List.mem_cons_of_mem _ hx)
    have h3' : ∀ x ∈ l, a = x.key → a1 = x.key := fun x hx => h3 x (List.mem_cons_of_mem _ hx)
    have hmid : ∀ x ∈ l, a = x.key → e.key = x.key := fun x hx h => by
      have h1 := hle e (by simp)
      have h2 := hk x hx
      rw [← h] at h2 ⊢
      exact squeeze h2 h1
    have hmid1 : ∀ x ∈ l, a1 = x.key → e.key = x.key := fun x hx h => by
      have h1 := hle1 e (by simp)
      have h2 := hk x hx
      rw [← h] at h2 ⊢
      exact squeeze h2 h1
    rw [thinC]
    by_cases hs : e.seq ≤ mark
    · rw [if_pos hs]
      by_cases ha : a = e.key
      · have ha1 := h3 e (by simp) ha
        rw [if_pos ha, ih a a1 a2 hpl hle' hle1' hI' h3']
        conv => rhs; rw [visC]
        rw [if_neg (by omega), if_pos ha1]
      · rw [if_neg ha]
        have hiff : a1 = e.key ↔ a2 = e.key := by
          rcases hI e (by simp) with h | h
          · exact h
          · exact absurd h.1 ha
        by_cases hd : (e.dead && bottom) = true
        · rw [if_pos hd]
          have hdead : e.dead = true := by simp at hd; exact hd.1
          have step : visC seq a1 (e :: l) = visC seq e.key l := by
            rw [visC, if_neg (by omega)]
            by_cases h1 : a1 = e.key
            · rw [if_pos h1, h1]
            · rw [if_neg h1, if_pos hdead]
          rw [step]
          refine ih e.key e.key a2 hpl hk hk (fun x hx => ?_) (fun _ _ h => h)
          by_cases hx1 : e.key = x.key
          · exact .inr ⟨hx1, hx1, by have := before_seq (hpe x hx) hx1; omega⟩
          · refine .inl ⟨fun h => absurd h hx1, fun h => ?_⟩
            rcases hI' x hx with h4 | h4
            · exact hmid1 x hx (h4.2 h)
            · exact hmid x hx h4.1
        · rw [if_neg hd]
          rw [visC, visC, if_neg (show ¬ seq < e.seq by omega), if_neg (show ¬ seq < e.seq by omega)]
          by_cases h1 : a1 = e.key
          · rw [if_pos h1, if_pos (hiff.1 h1), h1, hiff.1 h1]
            exact ih e.key e.key e.key hpl hk hk (fun x hx => .inl Iff.rfl) (fun _ _ h => h)
          · rw [if_neg h1, if_neg (fun h => h1 (hiff.2 h)), ih e.key e.key e.key hpl hk hk (fun x hx => .inl Iff.rfl) (fun _ _ h => h)]
    · rw [if_neg hs]
      have hiff : a1 = e.key ↔ a2 = e.key := by
        rcases hI e (by simp) with h | h
        · exact h
        · exact absurd h.2.2 hs
      rw [visC, visC]
      by_cases hq : seq < e.seq
      · rw [if_pos hq, if_pos hq]
        exact ih a a1 a2 hpl hle' hle1' hI' h3'
      · rw [if_neg hq, if_neg hq]
        by_cases h1 : a1 = e.key
        · rw [if_pos h1, if_pos (hiff.1 h1)]
          exact ih a a1 a2 hpl hle' hle1' hI' h3'
        · rw [if_neg h1, if_neg (fun h => h1 (hiff.2 h)), ih a e.key e.key hpl hle' hk (fun x hx => .inl Iff.rfl) hmid]
theorem keeps_thin {mark : Int} {bottom : Bool} {l : List Ent} (h : orderedE l = true) : thinC mark bottom [] (thinC mark bottom [] l) = thinC mark bottom [] l :=
  thin_twice mark bottom l [] [] ((ordered_iff l).1 h).2 (fun _ _ => nil_le _) (fun _ _ h => h)
theorem keeps_vis {mark seq : Int} {bottom : Bool} {l : List Ent} (h : orderedE l = true) (hms : mark ≤ seq) : visC seq [] (thinC mark bottom [] l) = visC seq [] l :=
  vis_thin mark seq bottom hms l [] [] [] ((ordered_iff l).1 h).2 (fun _ _ => nil_le _) (fun _ _ => nil_le _) (fun _ _ => .inl Iff.rfl) (fun _ _ h => h)
end Go.Proofs.Ytacdhkkelkplnaa
end
section
namespace Go.Proofs.Ytacdhkkelkplnaa
theorem mergeGo_step1 {K : Nat} {e : Ent} {l : List Ent} {hs : List (List Ent)} {out : List Ent} :
    mergeGo (K + 1) ((e :: l) :: hs) out = if twice out e = true then ([], 31) else mergeGo K (if l = [] then popL id ((e :: l) :: hs) else pushL id (popL id ((e :: l) :: hs)) l) (out ++ [e]) := rfl
def NoTwice (l : List Ent) : Prop := l.Pairwise (fun a b => cmpE a b ≠ 0)
theorem cmpE_ne_symm {a b : Ent} (h : cmpE a b ≠ 0) : cmpE b a ≠ 0 := by have := cmpE_swap a b; omega
theorem noTwice_perm {l l' : List Ent} (h : l.Perm l') : NoTwice l ↔ NoTwice l' := h.pairwise_iff (fun h => cmpE_ne_symm h)
theorem before_noTwice {l : List Ent} (h : l.Pairwise before) : NoTwice l := h.imp fun h => by have : cmpE _ _ < 0 := h; omega
theorem before_eq : ∀ {l l' : List Ent}, l.Perm l' → l.Pairwise before → l'.Pairwise before → l = l'
  | [], l', h, _, _ => by rw [List.nil_perm] at h; exact h.symm
  | a :: l, [], h, _, _ => by have := h.length_eq; simp at this
  | a :: l, b :: l', h, h1, h2 => by
    have ha : a = b := by
      rcases List.mem_cons.1 (h.subset (List.mem_cons_self)) with e | e
      · exact e
      · rcases List.mem_cons.1 (h.symm.subset (List.mem_cons_self)) with e' | e'
        · exact e'.symm
        · have q1 : cmpE a b < 0 := (List.pairwise_cons.1 h1).1 b e'
          have q2 : cmpE b a < 0 := (List.pairwise_cons.1 h2).1 a e
          have := cmpE_swap a b
          omega
    subst ha
    rw [before_eq (List.Perm.cons_inv h) (List.pairwise_cons.1 h1).2 (List.pairwise_cons.1 h2).2]
theorem mergeGo_spec : ∀ (k : Nat) (hs : List (List Ent)) (out : List Ent), (∀ l ∈ hs, l ≠ [] ∧ l.Pairwise before) → Heap id (fun _ => False) hs → out.Pairwise before → (∀ o ∈ out, ∀ x ∈ hs.flatten, cmpE o x ≤ 0) → total hs = k →
    (∃ r, mergeGo k hs out = (r, 0) ∧ r.Perm (out ++ hs.flatten) ∧ r.Pairwise before) ∨ (mergeGo k hs out = ([], 31) ∧ ¬ NoTwice (out ++ hs.flatten)) := by
  intro k
  induction k with
  | zero =>
    intro hs out _ _ hp _ hk
    have : hs.flatten = [] := List.eq_nil_of_length_eq_zero hk
    exact .inl ⟨out, rfl, by rw [this, List.append_nil], hp⟩
  | succ k ih =>
    intro hs out hne hh hp hle hk
    cases hs with
    | nil => simp [total] at hk
    | cons t hs =>
      cases t with
      | nil => exact absurd rfl (hne [] (by simp)).1
      | cons e l =>
        have hnes : ∀ a ∈ ((e :: l) :: hs), id a ≠ [] := fun a ha => (hne a ha).1
        have hmin : ∀ x ∈ ((e :: l) :: hs).flatten, cmpE e x ≤ 0 := by
          intro x hx
          obtain ⟨l1, hl1, hx1⟩ := List.mem_flatten.1 hx
          obtain ⟨j, hj⟩ := List.getElem?_of_mem hl1
          have htop := heap_top id _ hnes hh (t := e :: l) rfl j l1 hj
          obtain ⟨hn1, hp1⟩ := hne l1 hl1
          cases l1 with
          | nil => exact absurd rfl hn1
          | cons y l1 =>
            have h1 : cmpE e y ≤ 0 := htop
            rcases List.mem_cons.1 hx1 with rfl | h2
            · exact h1
            · have h3 : cmpE y x < 0 := (List.pairwise_cons.1 hp1).1 x h2
              exact cmpE_le_trans h1 (by omega)
        have hel : e ∈ ((e :: l) :: hs).flatten := by simp
        rw [mergeGo_step1]
        by_cases htw : twice out e = true
        · rw [if_pos htw]
          refine .inr ⟨rfl, fun hnt => ?_⟩
          rcases List.eq_nil_or_concat out with hn | ⟨os, o, hc⟩
          · rw [hn] at htw; simp [twice] at htw
          · rw [List.concat_eq_append] at hc
            rw [hc, twice_snoc] at htw
            exact (List.pairwise_append.1 hnt).2.2 o (by rw [hc]; simp) e hel (of_decide_eq_true htw)
        · rw [if_neg htw]
          have hlt : ∀ o ∈ out, before o e := by
            rcases List.eq_nil_or_concat out with hn | ⟨os, q, hc⟩
            · rw [hn]; intro o ho; simp at ho
            · rw [List.concat_eq_append] at hc
              rw [hc, twice_snoc] at htw
              have hqe : cmpE q e < 0 := by
                have h1 := hle q (by rw [hc]; simp) e hel
                have h2 : ¬ cmpE q e = 0 := fun h => htw (decide_eq_true h)
                omega
              intro o ho
              rw [hc] at ho hp
              rcases List.mem_append.1 ho with h1 | h1
              · exact cmpE_trans ((List.pairwise_append.1 hp).2.2 o h1 q (by simp)) hqe
              · simp at h1; subst h1; exact hqe
          have hpop : (popL id ((e :: l) :: hs)).Perm hs := List.Perm.cons_inv (popL_perm id (e :: l) hs)
          have hpl : l.Pairwise before := (List.pairwise_cons.1 (hne (e :: l) (by simp)).2).2
          have hperm : (if l = [] then popL id ((e :: l) :: hs) else pushL id (popL id ((e :: l) :: hs)) l).flatten.Perm (l ++ hs.flatten) := by
            split
            · rename_i h0
              rw [h0, List.nil_append]
              have := hpop.flatten
              rwa [h0] at this
            · refine (pushL_perm id _ l).flatten.trans ?_
              rw [List.flatten_append]
              refine (List.perm_append_comm).trans ?_
              simpa using hpop.flatten.append_left l
          have hne' : ∀ l1 ∈ (if l = [] then popL id ((e :: l) :: hs) else pushL id (popL id ((e :: l) :: hs)) l), l1 ≠ [] ∧ l1.Pairwise before := by
            intro l1 h1
            split at h1
            · exact hne l1 (List.mem_cons_of_mem _ (hpop.subset h1))
            · rename_i h0
              rcases List.mem_append.1 ((pushL_perm id _ l).subset h1) with h2 | h2
              · exact hne l1 (List.mem_cons_of_mem _ (hpop.subset h2))
              · simp at h2; subst h2; exact ⟨h0, hpl⟩
          have hheap : Heap id (fun _ => False) (if l = [] then popL id ((e :: l) :: hs) else pushL id (popL id ((e :: l) :: hs)) l) := by
            have hp0 := popL_heap id _ hnes hh
            split
            · exact hp0
            · rename_i h0
              exact pushL_heap id _ l (fun a ha => (hne a (List.mem_cons_of_mem _ (hpop.subset ha))).1) h0 hp0
          have hsub : ∀ x ∈ (if l = [] then popL id ((e :: l) :: hs) else pushL id (popL id ((e :: l) :: hs)) l).flatten, x ∈ ((e :: l) :: hs).flatten := by
            intro x hx
            have := hperm.subset hx
            simp only [List.flatten_cons, List.cons_append]
            exact List.mem_cons_of_mem _ this
          have hfin : ((out ++ [e]) ++ (if l = [] then popL id ((e :: l) :: hs) else pushL id (popL id ((e :: l) :: hs)) l).flatten).Perm (out ++ ((e :: l) :: hs).flatten) := by
            rw [List.append_assoc]
            refine List.Perm.append_left out ?_
            simpa using hperm.cons e
          have := ih _ (out ++ [e]) hne' hheap (by
              rw [List.pairwise_append]
              exact ⟨hp, by simp, fun o ho x hx => by simp at hx; subst hx; exact hlt o ho⟩)
            (by
              intro o ho x hx
              rcases List.mem_append.1 ho with h1 | h1
              · exact hle o h1 x (hsub x hx)
              · simp at h1; subst h1; exact hmin x (hsub x hx))
            (by
              unfold total at hk ⊢
              rw [hperm.length_eq]
              simp at hk ⊢; omega)
          rcases this with ⟨r, h1, h2, h3⟩ | ⟨h1, h2⟩
          · exact .inl ⟨r, h1, h2.trans hfin, h3⟩
          · exact .inr ⟨h1, fun h => h2 ((noTwice_perm hfin).2 h)⟩
theorem heapOf_ok (ls : List (List Ent)) : ∀ hs : List (List Ent), (∀ l ∈ hs, id l ≠ []) → Heap id (fun _ => False) hs → Heap id (fun _ => False) (ls.foldl (fun hs l => if l = [] then hs else pushL id hs l) hs) := by
  induction ls with
  | nil => intro hs _ h; exact h
  | cons l ls ih =>
    intro hs hne h
    rw [List.foldl_cons]
    by_cases h0 : l = []
    · rw [if_pos h0]; exact ih hs hne h
    · rw [if_neg h0]
      refine ih _ (fun a ha => ?_) (pushL_heap id hs l hne h0 h)
      rcases List.mem_append.1 ((pushL_perm id hs l).subset ha) with h1 | h1
      · exact hne a h1
      · simp at h1; subst h1; exact h0
theorem mergeC_spec (ls : List (List Ent)) (h : ls.all orderedE = true) :
    (∃ r, mergeC ls = (r, 0) ∧ r.Perm ls.flatten ∧ r.Pairwise before) ∨ (mergeC ls = ([], 31) ∧ ¬ NoTwice ls.flatten) := by
  unfold mergeC
  rw [if_pos h]
  have hperm : (heapOf ls).flatten.Perm ls.flatten := by
    have := (heapOf_perm ls).flatten
    rwa [filter_flatten] at this
  have hord : ∀ l ∈ ls, orderedE l = true := fun l hl => List.all_eq_true.1 h l hl
  have := mergeGo_spec (total ls) (heapOf ls) [] (fun l hl => by
      have hm := List.mem_filter.1 ((heapOf_perm ls).subset hl)
      exact ⟨by simpa using hm.2, ((ordered_iff l).1 (hord l hm.1)).2⟩)
    (heapOf_ok ls [] (fun _ h => by simp at h) (fun j a b _ _ ha => by simp at ha)) List.Pairwise.nil (fun o ho => by simp at ho) (heapOf_total ls)
  rw [List.nil_append] at this
  rcases this with ⟨r, h1, h2, h3⟩ | ⟨h1, h2⟩
  · exact .inl ⟨r, h1, h2.trans hperm, h3⟩
  · exact .inr ⟨h1, fun h => h2 ((noTwice_perm hperm).2 h)⟩
end Go.Proofs.Ytacdhkkelkplnaa
end
