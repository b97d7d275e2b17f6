/-
compact.only: the tables that something holds for.
-/
import Derived.Test.YtacdhkkelkplnaaQPOwn10
section
namespace Go.Proofs.Ytacdhkkelkplnaa
open Go.RowKit Go.BigFrame
attribute [local go_sem ↓] Go.wp_at_zero Go.wp_at_succ
theorem cells_new (w : World) (cs : List Value) (t : TypeId) : ∀ j u, cs[j]? = some u → (w.alloc (.cells cs.toArray t)).cell? ((⟨w.heap.size, 0, none⟩ : Addr).add j) = some u := by
  intro j u hu
  rw [Addr.add_lit, World.cell?_alloc_at _ _ _ _ rfl]
  simpa using hu
theorem Row.monoLt {w : World} {S S' : Nat → Prop} {A : Option Addr} {n sz : Nat} {xs : List Value} (h : Row w S A n sz xs) (hS : ∀ i, i < w.heap.size → S i → S' i) : Row w S' A n sz xs :=
  ⟨h.1, fun hn => by obtain ⟨b, o, e, h1, hb, hc⟩ := h.2 hn; exact ⟨b, o, e, hS b hb h1, hb, hc⟩⟩
theorem Row.push {w w2 : World} {S S' : Nat → Prop} {v' row : Value} {A : Option Addr} {n sz : Nat} {xs : List Value} (h : Row w S A n sz xs) (hg : w.grownBy w2 row.ownBlock) (hat : v'.ownBlock = row.ownBlock ∨ v'.ownBlock = some w.heap.size)
    (hne : ∀ i, i < w.heap.size → S i → row.ownBlock ≠ some i) (hS : ∀ i, i < w.heap.size → S i → v'.ownBlock ≠ some i → S' i) : Row w2 S' A n sz xs := by
  have h1 : Row w (fun i => S i ∧ i < w.heap.size) A n sz xs := h.monoLt fun i hi hs => ⟨hs, hi⟩
  have h2 : Row w2 (fun i => S i ∧ i < w.heap.size) A n sz xs := h1.only (S := fun i => row.ownBlock = some i) ⟨hg.os, hg.tape, hg.output, hg.size, fun i hi hS => hg.block i hi (fun e => hS e.symm)⟩ (fun i hi hT => hne i hi hT.1)
  refine h2.mono fun i hi => hS i hi.2 hi.1 (fun e => ?_)
  rcases hat with h | h
  · exact hne i hi.2 hi.1 (h ▸ e)
  · rw [h] at e
    injection e with e
    omega
/-- how an element reads: its cells, in memory of a set. -/
abbrev Rd (α : Type) := World → (Nat → Prop) → α → List Value → Prop
structure Fine {α : Type} (R : Rd α) (k : Nat) : Prop where
  len : ∀ {w S x cs}, R w S x cs → cs.length = k
  keep : ∀ {w w' : World} {S S' : Nat → Prop} {x cs}, R w S x cs → (∀ A n sz xs, Row w S A n sz xs → Row w' S' A n sz xs) → R w' S' x cs
inductive All2 {α β : Type} (P : α → β → Prop) : List α → List β → Prop
  | nil : All2 P [] []
  | cons {a b l m} : P a b → All2 P l m → All2 P (a :: l) (b :: m)
theorem All2.imp {α β : Type} {P Q : α → β → Prop} (h : ∀ a b, P a b → Q a b) {l : List α} {m : List β} (hl : All2 P l m) : All2 Q l m := by
  induction hl with
  | nil => exact .nil
  | cons h1 _ ih => exact .cons (h _ _ h1) ih
theorem All2.snoc {α β : Type} {P : α → β → Prop} {l : List α} {m : List β} {a : α} {b : β} (hl : All2 P l m) (h : P a b) : All2 P (l ++ [a]) (m ++ [b]) := by
  induction hl with
  | nil => exact .cons h .nil
  | cons h1 _ ih => exact .cons h1 ih
theorem All2.length {α β : Type} {P : α → β → Prop} {l : List α} {m : List β} (hl : All2 P l m) : l.length = m.length := by
  induction hl with
  | nil => rfl
  | cons _ _ ih => simp [ih]
theorem All2.at_ {α β : Type} {P : α → β → Prop} {l : List α} {m : List β} (hl : All2 P l m) {i : Nat} {a : α} (hi : l[i]? = some a) : ∃ b, m[i]? = some b ∧ P a b := by
  induction hl generalizing i with
  | nil => simp at hi
  | cons h1 _ ih =>
    cases i with
    | zero => simp at hi; subst hi; exact ⟨_, rfl, h1⟩
    | succ i => exact ih (by simpa using hi)
theorem flat_at {k : Nat} {css : List (List Value)} (h : ∀ cs ∈ css, cs.length = k) {i j : Nat} {cs : List Value} {u : Value} (hi : css[i]? = some cs) (hj : cs[j]? = some u) : css.flatten[i * k + j]? = some u := by
  induction css generalizing i with
  | nil => simp at hi
  | cons a l ih =>
    have ha : a.length = k := h a List.mem_cons_self
    rw [List.flatten_cons]
    cases i with
    | zero =>
      simp at hi
      subst hi
      rw [Nat.zero_mul, Nat.zero_add, List.getElem?_append_left (List.getElem?_eq_some_iff.1 hj).1]
      exact hj
    | succ i =>
      rw [List.getElem?_append_right (by rw [ha, Nat.succ_mul]; omega), ha, show (i + 1) * k + j - k = i * k + j by rw [Nat.succ_mul]; omega]
      exact ih (fun cs hc => h cs (List.mem_cons_of_mem _ hc)) (by simpa using hi)
section
variable {α : Type} {R : Rd α} {k bytes : Nat}
/-- a slice of structs. -/
def Rws (R : Rd α) (k bytes : Nat) (w : World) (S : Nat → Prop) (v : Value) (xs : List α) : Prop :=
  ∃ A c css, v = .slice A xs.length c ∧ xs.length ≤ c ∧ c ≤ 9223372036854775807 ∧ xs.length * bytes ≤ 140737488355328 ∧ Row w S A xs.length k css.flatten ∧ All2 (R w S) xs css
theorem Rws.keep (hR : Fine R k) {w w' : World} {S S' : Nat → Prop} {v : Value} {xs : List α} (h : Rws R k bytes w S v xs) (hk : ∀ A n sz ys, Row w S A n sz ys → Row w' S' A n sz ys) : Rws R k bytes w' S' v xs := by
  obtain ⟨A, c, css, e, h1, h2, h3, h4, h5⟩ := h
  exact ⟨A, c, css, e, h1, h2, h3, hk _ _ _ _ h4, h5.imp fun _ _ hx => hR.keep hx hk⟩
theorem Rws.below (hR : Fine R k) {w w' : World} {S : Nat → Prop} {v : Value} {xs : List α} (h : Rws R k bytes w S v xs) (hb : Below w.heap.size w w') : Rws R k bytes w' S v xs := h.keep hR fun _ _ _ _ hr => hr.below hb
theorem Rws.only (hR : Fine R k) {w w' : World} {T S : Nat → Prop} {v : Value} {xs : List α} (h : Rws R k bytes w T v xs) (ho : Only S w w') (hd : ∀ i, T i → ¬ S i) : Rws R k bytes w' T v xs := h.keep hR fun _ _ _ _ hr => hr.only ho fun i _ hi => hd i hi
theorem Rws.mono (hR : Fine R k) {w : World} {S S' : Nat → Prop} {v : Value} {xs : List α} (h : Rws R k bytes w S v xs) (hS : ∀ i, S i → S' i) : Rws R k bytes w S' v xs := h.keep hR fun _ _ _ _ hr => hr.mono hS
theorem Rws.lt (hR : Fine R k) {w : World} {S : Nat → Prop} {v : Value} {xs : List α} (h : Rws R k bytes w S v xs) : Rws R k bytes w (fun i => i < w.heap.size) v xs := h.keep hR fun _ _ _ _ hr => hr.monoLt fun _ hi _ => hi
theorem Rws.form {w : World} {S : Nat → Prop} {v : Value} {xs : List α} (h : Rws R k bytes w S v xs) : ∃ A c, v = .slice A xs.length c := by
  obtain ⟨A, c, _, e, _⟩ := h
  exact ⟨A, c, e⟩
theorem Rws.at_ (hR : Fine R k) {w : World} {S : Nat → Prop} {A : Option Addr} {n c : Nat} {xs : List α} (h : Rws R k bytes w S (.slice A n c) xs) {i : Nat} {x : α} (hi : xs[i]? = some x) :
    ∃ b o cs, A = some ⟨b, o, none⟩ ∧ b < w.heap.size ∧ S b ∧ R w S x cs ∧ ∀ j u, cs[j]? = some u → w.cell? ⟨b, o + (i * k + j), none⟩ = some u := by
  obtain ⟨A', c', css, hE, h1, h2, h3, h4, h5⟩ := h
  injection hE with e1 e2 e3
  subst e1
  have hlt := (List.getElem?_eq_some_iff.1 hi).1
  obtain ⟨b, o, rfl, hS, hb, hc⟩ := h4.2 (by omega)
  obtain ⟨cs, hcs, hx⟩ := h5.at_ hi
  have hall : ∀ cs ∈ css, cs.length = k := fun cs hm => by
    obtain ⟨j, hj⟩ := List.getElem?_of_mem hm
    have hjl : j < xs.length := by rw [h5.length]; exact (List.getElem?_eq_some_iff.1 hj).1
    obtain ⟨cs', h', hx'⟩ := h5.at_ (List.getElem?_eq_getElem hjl)
    rw [hj] at h'
    injection h' with h'
    subst h'
    exact hR.len hx'
  exact ⟨b, o, cs, rfl, hb, hS, hx, fun j u hu => hc _ _ (flat_at hall hcs hu)⟩
def OwnRows (R : Rd α) (k : Nat) (t : TypeId) (w : World) (base : Nat) (v : Value) (xs : List α) : Prop := ∃ css, w.ownsRow base t k v xs.length css.flatten ∧ All2 (R w (freshL w base v)) xs css
theorem OwnRows.nil (t : TypeId) (w : World) (base : Nat) : OwnRows R k t w base (.slice none 0 0) [] := ⟨[], World.ownsRow_nil _ _ _ _, .nil⟩
theorem OwnRows.below (hR : Fine R k) {t : TypeId} {w w' : World} {base : Nat} {v : Value} {xs : List α} (h : OwnRows R k t w base v xs) (hb : Below w.heap.size w w') : OwnRows R k t w' base v xs := by
  obtain ⟨css, h1, h2⟩ := h
  exact ⟨css, own_below h1 hb, h2.imp fun _ _ hx => hR.keep hx fun _ _ _ _ hr => (hr.below hb).mono fun i hi => ⟨hi.1, hi.2.1, hi.2.2.below hb⟩⟩
theorem OwnRows.push (hR : Fine R k) {base : Nat} {wr w1 w2 : World} {v v' : Value} {xs : List α} {css : List (List Value)} {x : α} {cs : List Value} {o : Obj} {t : TypeId} (hown : wr.ownsRow base t k v xs.length css.flatten) (hys : All2 (R wr (freshL wr base v)) xs css) (hb1 : Below wr.heap.size wr w1)
    (hx : R w1 (fun i => wr.heap.size ≤ i ∧ Loose w1 i) x cs) (hbase : base ≤ wr.heap.size) (hg : (w1.alloc o).grownBy w2 v.ownBlock) (hat : v'.ownBlock = v.ownBlock ∨ v'.ownBlock = some (w1.alloc o).heap.size) (hown' : w2.ownsRow base t k v' (xs.length + 1) (css.flatten ++ cs)) :
    OwnRows R k t w2 base v' (xs ++ [x]) := by
  have hal : Below w1.heap.size w1 (w1.alloc o) := (Below.refl _ _).alloc (Nat.le_refl _) _
  have hz := hb1.size
  refine ⟨css ++ [cs], by rw [List.length_append, List.flatten_append]; simpa using hown', (hys.imp fun _ _ hy => hR.keep hy fun A n sz ys hr => ?_).snoc (hR.keep hx fun A n sz ys hr => ?_)⟩
  · exact ((hr.below hb1).below hal).push (row := v) hg hat (fun i _ hs => hs.2.1) (fun i _ hs hn => ⟨hs.1, hn, ((hs.2.2.below hb1).alloc o).grown hg hs.2.1⟩)
  · exact (hr.below hal).push (row := v) hg hat (fun i _ hs e => by have := hown.lt i e; omega) (fun i _ hs hn => ⟨by omega, hn, (hs.2.alloc o).grown hg (fun e => by have := hown.lt i e; omega)⟩)
theorem OwnRows.rows (hR : Fine R k) {t : TypeId} {w : World} {base : Nat} {v : Value} {xs : List α} (h : OwnRows R k t w base v xs) (hl : xs.length * bytes ≤ 140737488355328) : Rws R k bytes w (fun i => base ≤ i ∧ i < w.heap.size) v xs := by
  obtain ⟨css, h1, h2⟩ := h
  have h3 : All2 (R w (fun i => base ≤ i ∧ i < w.heap.size)) xs css := h2.imp fun _ _ hx => hR.keep hx fun _ _ _ _ hr => hr.mono fun i hi => ⟨hi.1, hi.2.2.lt⟩
  rcases h1.2 with ⟨rfl, h0⟩ | ⟨g, cap, cur, rfl, hbg, hh, hcap, hcm, _⟩
  · have : xs = [] := List.eq_nil_of_length_eq_zero h0
    subst this
    exact ⟨none, 0, css, rfl, Nat.le_refl _, by omega, by simp, ⟨h1.1, fun h => absurd h (by simp)⟩, h3⟩
  · have hlt : g < w.heap.size := (Array.getElem?_eq_some_iff.1 hh).1
    refine ⟨_, _, css, rfl, hcap, by unfold maxLen at hcm; omega, hl, ⟨h1.1, fun _ => ⟨g, 0, rfl, ⟨hbg, hlt⟩, hlt, fun j u hu => ?_⟩⟩, h3⟩
    have := h1.cells (g := g) rfl j u hu
    rwa [Addr.add_lit] at this
end
theorem Byt.keepR {w w' : World} {S S' : Nat → Prop} {v : Value} {bs : List UInt8} (h : Byt w S v bs) (hk : ∀ A n sz xs, Row w S A n sz xs → Row w' S' A n sz xs) : Byt w' S' v bs := by
  obtain ⟨A, c, e, h1, h2, h3, h4⟩ := h
  exact ⟨A, c, e, h1, h2, h3, hk _ _ _ _ h4⟩
theorem run_append_byt0L (w : World) (ty : TypeId) (g : Nat) (src : Value) (S : Nat → Prop) (bs : List UInt8) (h : Byt w S src bs) :
    ∃ v' w', (Builtin.append_ #[44, 44] ty #[.slice (some ⟨g, 0, none⟩) 0 0, src]).run Try.prog w = .ok v' w' ∧ BytL w' w.heap.size v' bs ∧ Below w.heap.size w w' := by
  obtain ⟨i0, hi, hz0, hz1, hz2⟩ := info_parts info5
  have hl := h.len
  obtain ⟨A, c, rfl, h1, h2, h3, hr⟩ := h
  rcases Nat.eq_zero_or_pos bs.length with h0 | h0
  · have : bs = [] := List.eq_nil_of_length_eq_zero h0
    subst this
    refine ⟨.slice (some ⟨g, 0, none⟩) 0 0, w, ?_, ⟨_, _, rfl, by simp, by simp, by simp, Row.nil _ _ _ _⟩, Below.refl _ _⟩
    rcases A with _ | a
    · simp [Builtin.append_, run_underlying Try.underlying44, sizeOf, typeInfo, hi, Builtin.lenOf, Builtin.firstCells, storeCells]
    · simp [Builtin.append_, run_underlying Try.underlying44, sizeOf, typeInfo, hi, Builtin.lenOf, Builtin.firstCells, storeCells, loadCells, loadCellsFrom]
  · obtain ⟨b, o, rfl, _, _, hc⟩ := hr.2 h0
    have hrun := run_append_grow (P := Try.prog) w 44 ty 5 i0 (.int .u8 0) Try.underlying44 hi hz0 ⟨g, 0, none⟩ 0 0 [] (by simp) (fun j u hu => by simp at hu) ⟨b, o, none⟩ bs.length c (bs.map bcell) (by simp [hz1])
      (fun j u hu => by rw [Addr.add_lit]; exact hc j u hu) (by omega) (by omega) (growslice_fits (by omega) (by rw [hz2]; omega))
    have hge := grownCap_ge w (0 + bs.length) 0 5
    have hcm : grownCap w (0 + bs.length) 0 5 ≤ maxLen := grownCap_le_maxLen w (0 + bs.length) 0 5 (by unfold maxLen; omega)
    refine ⟨_, _, hrun, ?_, ((Below.refl w.heap.size w).drew).alloc (by simp) _⟩
    have e0 : 0 + bs.length = bs.length := by omega
    rw [e0] at hge hcm ⊢
    refine ⟨_, _, rfl, hge, by unfold maxLen at hcm; omega, hl, by simp, fun _ => ⟨w.heap.size, 0, rfl, ⟨Nat.le_refl _, _, heap_alloc_new w.drew _⟩, by simp, fun j u hu => ?_⟩⟩
    rw [World.cell?_alloc_at _ _ _ _ (by simp)]
    have hj : j < bs.length := by
      have := (List.getElem?_eq_some_iff.1 hu).1
      simpa using this
    simp [Array.getElem?_append, hj]
    rw [List.getElem?_map, List.getElem?_eq_getElem hj] at hu
    simpa using hu
theorem step_append_byt0L {w : World} {ops : Array Oper} {o : Oper} {a : Act} {K : Act → World → Prop} {Q : Exit → Act → World → Prop} {E : Prop} (hgd : o.guard = none) (s x : Operand)
    (ho : o.op = .call { callee := .builtin .append, args := #[s, x], argTypes := #[44, 44] }) (g : Nat) (src : Value) (hs : a.eval s = .slice (some ⟨g, 0, none⟩) 0 0) (hx : a.eval x = src)
    (S : Nat → Prop) (bs : List UInt8) (h : Byt w S src bs)
    (hK : ∀ v' w', BytL w' w.heap.size v' bs → Below w.heap.size w w' → K (a.put o.dst v') w') :
    if Region.wanted o (yielded ops a.tmps) = true then Oper.wp Try.prog o a w K Q else E := by
  have hw : Region.wanted o (yielded ops a.tmps) = true := by simp [Region.wanted, hgd]
  rw [if_pos hw]
  obtain ⟨v', w', hrun, h2, h3⟩ := run_append_byt0L w o.type g src S bs h
  unfold Oper.wp execOp
  simp only [ho, resolve, invoke, builtin, Sem.run_bind, Sem.run_pure, Result.andThen_ok, List.map_toArray, List.map_cons, List.map_nil, hs, hx, hrun]
  exact hK v' w' h2 h3
theorem wpList_append_byt0L {w : World} {ops : Array Oper} {rest : List Oper} {o : Oper} {a : Act} {Q : Exit → Act → World → Prop} (hgd : o.guard = none) (s x : Operand)
    (ho : o.op = .call { callee := .builtin .append, args := #[s, x], argTypes := #[44, 44] }) (g : Nat) (src : Value) (hs : a.eval s = .slice (some ⟨g, 0, none⟩) 0 0) (hx : a.eval x = src)
    (S : Nat → Prop) (bs : List UInt8) (h : Byt w S src bs)
    (hK : ∀ A c w', BytL w' w.heap.size (.slice A bs.length c) bs → Below w.heap.size w w' → wpList Try.prog ops Q rest (a.put o.dst (.slice A bs.length c)) w') : wpList Try.prog ops Q (o :: rest) a w :=
  wpList_plain hgd fun _ hk => by
    obtain ⟨v', w', hrun, h2, h3⟩ := run_append_byt0L w o.type g src S bs h
    obtain ⟨A, c, rfl⟩ := slice_form h2.byt
    unfold Oper.wp execOp
    simp only [ho, resolve, invoke, builtin, Sem.run_bind, Sem.run_pure, Result.andThen_ok, List.map_toArray, List.map_cons, List.map_nil, hs, hx, hrun]
    exact hk _ _ (hK A c w' h2 h3)
end Go.Proofs.Ytacdhkkelkplnaa
end
section
namespace Go.Proofs.Ytacdhkkelkplnaa
open Go.RowKit Go.BigFrame
attribute [local go_sem ↓] Go.wp_at_zero Go.wp_at_succ
theorem BytL.only {w w' : World} {lo : Nat} {v : Value} {bs : List UInt8} {S : Nat → Prop} (h : BytL w lo v bs) (ho : Only S w w') (hd : ∀ i, lo ≤ i → Loose w i → ¬ S i) : BytL w' lo v bs :=
  Byt.mono (S := fun i => lo ≤ i ∧ Loose w i) (Byt.only (T := fun i => lo ≤ i ∧ Loose w i) h ho fun i _ hi => hd i hi.1 hi.2) fun i hi => ⟨hi.1, hi.2.only ho (hd i hi.1 hi.2)⟩
theorem OwnRows.rebase {α : Type} {R : Rd α} {k : Nat} (hR : Fine R k) {t : TypeId} {w : World} {base base' : Nat} {v : Value} {xs : List α} (h : OwnRows R k t w base v xs) (hb : base' ≤ base) : OwnRows R k t w base' v xs := by
  obtain ⟨css, h1, h2⟩ := h
  refine ⟨css, ?_, h2.imp fun _ _ hx => hR.keep hx fun _ _ _ _ hr => hr.mono fun i hi => ⟨Nat.le_trans hb hi.1, hi.2⟩⟩
  refine ⟨h1.1, ?_⟩
  rcases h1.2 with h | ⟨g, cap, cur, h2, h3, h4⟩
  · exact .inl h
  · exact .inr ⟨g, cap, cur, h2, Nat.le_trans hb h3, h4⟩
theorem OwnRows.only {α : Type} {R : Rd α} {k : Nat} (hR : Fine R k) {t : TypeId} {w w' : World} {base : Nat} {v : Value} {xs : List α} {S : Nat → Prop} (h : OwnRows R k t w base v xs) (ho : Only S w w') (hS : ∀ i, base ≤ i → i < w.heap.size → ¬ S i) : OwnRows R k t w' base v xs := by
  obtain ⟨css, h1, h2⟩ := h
  refine ⟨css, own_only h1 ho (fun g hg => hS g (h1.lt g hg).1 (h1.lt g hg).2), h2.imp fun _ _ hx => hR.keep hx fun _ _ _ _ hr => ?_⟩
  exact (hr.only ho fun i hi ht => hS i ht.1 hi).mono fun i hi => ⟨hi.1, hi.2.1, hi.2.2.only ho (hS i hi.1 hi.2.2.lt)⟩
theorem cells_at {w : World} {g : Nat} {cs : List Value} {arr : Array Value} {t : TypeId} (ha : arr = cs.toArray) (hg : g = w.heap.size) : ∀ j u, cs[j]? = some u → (w.alloc (.cells arr t)).cell? ((⟨g, 0, none⟩ : Addr).add j) = some u := by
  subst ha hg; exact cells_new w cs t
structure Tbl where
  id : Int
  level : Int
  count : Int
  lo : List UInt8
  hi : List UInt8
deriving DecidableEq
def tbR : Rd Tbl := fun w S t cs => ∃ a b, cs = [.int .i64 t.id, .int .i64 t.level, .int .i64 t.count, a, b] ∧ Byt w S a t.lo ∧ Byt w S b t.hi
theorem tbFine : Fine tbR 5 := ⟨fun h => by obtain ⟨a, b, rfl, _⟩ := h; rfl, fun h hk => by obtain ⟨a, b, rfl, h1, h2⟩ := h; exact ⟨a, b, rfl, h1.keepR hk, h2.keepR hk⟩⟩
abbrev TabsV (w : World) (S : Nat → Prop) (v : Value) (ts : List Tbl) : Prop := Rws tbR 5 72 w S v ts
abbrev OwnTabs (w : World) (base : Nat) (v : Value) (ts : List Tbl) : Prop := OwnRows tbR 5 63 w base v ts
theorem infoT : (Try.prog.info? 63).map (fun i => (i.zero, i.size, i.bytes)) = some (some (.agg #[.int .i64 0, .int .i64 0, .int .i64 0, .slice none 0 0, .slice none 0 0]), 5, 72) := by kernel_rfl
/-- one table in hand. -/
def TabV (w : World) (S : Nat → Prop) (v : Value) (t : Tbl) : Prop := ∃ a b, v = .agg #[.int .i64 t.id, .int .i64 t.level, .int .i64 t.count, a, b] ∧ Byt w S a t.lo ∧ Byt w S b t.hi
theorem TabV.below {w w' : World} {S : Nat → Prop} {v : Value} {t : Tbl} (h : TabV w S v t) (hb : Below w.heap.size w w') : TabV w' S v t := by
  obtain ⟨a, b, rfl, h1, h2⟩ := h; exact ⟨a, b, rfl, h1.below hb, h2.below hb⟩
/-- a version. -/
def VerV (w : World) (S : Nat → Prop) (v : Value) (ts : List Tbl) (lg sq nx : Int) : Prop := ∃ x, v = .agg #[x, .int .i64 lg, .int .i64 sq, .int .i64 nx] ∧ TabsV w S x ts
end Go.Proofs.Ytacdhkkelkplnaa
end
section
namespace Go.Proofs.Ytacdhkkelkplnaa
open Go.RowKit Go.BigFrame
attribute [local go_sem ↓] Go.wp_at_zero Go.wp_at_succ
set_option maxRecDepth 100000 in
set_option maxHeartbeats 2000000 in
theorem tables_any (S : Nat → Prop) (v : Value) (ts : List Tbl) (w : World) (h : TabsV w S v ts) :
    Calls Try.prog 31 #[v] w fun r w' => ∃ v', r = .returned v' ∧ OwnTabs w' w.heap.size v' ts ∧ Below w.heap.size w w' := by
  obtain ⟨i0, hi, hz0, hz1, hz2⟩ := info_parts infoT
  have hby := Lib.hid hz2
  have hz1' := Lib.hid hz1
  clear hz2 hz1
  obtain ⟨A, c, rfl⟩ := h.form
  obtain ⟨n, hn⟩ : ∃ n, ts.length = n := ⟨_, rfl⟩
  have hmany : n * 72 ≤ 140737488355328 := by obtain ⟨_, _, _, _, _, _, h3, _⟩ := h; rw [← hn]; exact h3
  rw [hn] at h ⊢
  have HLN := Lib.hid hn
  have H := Lib.hid h
  clear h hn
  go_enter Try.func31, Try.ntmps31
  go_wp2
  go_loopw [3, 8] (fun v3 t wr => ∃ i : Nat, i ≤ n ∧ t = .int .i64 i ∧ OwnTabs wr w.heap.size v3 (ts.take i) ∧ Below w.heap.size w wr) (fun _ t _ => n - (intOf t).toNat)
  case atStart => exact ⟨0, Nat.zero_le _, rfl, OwnRows.nil _ _ _, Below.refl _ _⟩
  case round =>
    obtain ⟨i, hi', rfl, hown, hbel⟩ := hrel
    obtain ⟨css, hown, hys⟩ := hown
    have HO := Lib.hid hown
    have HYS := Lib.hid hys
    have HB := Lib.hid hbel
    obtain ⟨m, hm⟩ : ∃ m, (ts.take i).length = m := ⟨_, rfl⟩
    have hmi : m = i := by rw [← hm, List.length_take, HLN.out]; omega
    subst hmi
    rw [hm] at HO
    have HMM := Lib.hid hm
    clear hown hys hbel hm
    by_cases hin : m < n
    · obtain ⟨t, hf⟩ : ∃ t, ts[m]? = some t := ⟨_, List.getElem?_eq_getElem (by rw [HLN.out]; exact hin)⟩
      obtain ⟨b, o, cs, rfl, hblt, _, ⟨va, vb, rfl, hva, hvb⟩, hc⟩ := Rws.at_ tbFine H.out hf
      obtain ⟨Aa, ca, rfl⟩ := slice_form hva
      obtain ⟨Ab, cb, rfl⟩ := slice_form hvb
      have HVA := Lib.hid (hva.below HB.out)
      have HVB := Lib.hid (hvb.below HB.out)
      have x0 : w.cell? ⟨b, o + m * 5, none⟩ = _ := hc 0 _ rfl
      have x1 : w.cell? ⟨b, o + m * 5 + 1, none⟩ = _ := hc 1 _ rfl
      have x2 : w.cell? ⟨b, o + m * 5 + 2, none⟩ = _ := hc 2 _ rfl
      have x3 : w.cell? ⟨b, o + m * 5 + 3, none⟩ = _ := hc 3 _ rfl
      have x4 : w.cell? ⟨b, o + m * 5 + 4, none⟩ = _ := hc 4 _ rfl
      have c0 := fr.cell HB.out x0
      have c1 := fr.cell HB.out x1
      have c2 := fr.cell HB.out x2
      have c3 := fr.cell HB.out x3
      have c4 := fr.cell HB.out x4
      have HF0 := Lib.hid hf
      have hm2 : m + 1 ≤ maxLen := by unfold maxLen; omega
      have hm3 : (m + 1) * 72 ≤ 140737488355328 := by omega
      have hbz := HB.out.size
      clear hf hva hvb hc x0 x1 x2 x3 x4
      have pT : (wr.alloc (.cells #[.int .i64 t.id, .int .i64 t.level, .int .i64 t.count, .slice Aa t.lo.length ca, .slice Ab t.hi.length cb] 63)).heap[wr.heap.size]? = some (.cells #[.int .i64 t.id, .int .i64 t.level, .int .i64 t.count, .slice Aa t.lo.length ca, .slice Ab t.hi.length cb] 63 (0, 0)) := heap_alloc_new wr _
      have hal : fr wr ((wr.alloc (.cells #[.int .i64 t.id, .int .i64 t.level, .int .i64 t.count, .slice Aa t.lo.length ca, .slice Ab t.hi.length cb] 63)).alloc (.cells #[] 5)) := fr.alloc (fr.alloc fr.refl _) _
      go_wp2_with (at_builtin; first
        | (refine wpList_append_byt0L rfl _ _ rfl (wr.heap.size + 1) (.slice Aa t.lo.length ca) rfl rfl S t.lo (fr.byt hal HVA.out) ?_; intro A5 c5 w5 hv5 hb5; have pT5 : w5.heap[wr.heap.size]? = some (.cells #[.int .i64 t.id, .int .i64 t.level, .int .i64 t.count, .slice Aa t.lo.length ca, .slice Ab t.hi.length cb] 63 (0, 0)) := (hb5.block _ (by simp; omega)).trans ((Below.heap_alloc _ (.cells #[] 5) _ (by simp)).trans pT); have fz5 := frozen_of_row w5 _ 3 _ _ pT5; have q3 := cell_of_row w5 _ 3 _ _ _ pT5; have hf5 : fr wr w5 := fr.step hal hb5; have p6 : (w5.setCell ⟨wr.heap.size, 3, none⟩ (.slice A5 t.lo.length c5)).heap[wr.heap.size]? = some (.cells #[.int .i64 t.id, .int .i64 t.level, .int .i64 t.count, .slice A5 t.lo.length c5, .slice Ab t.hi.length cb] 63 (0, 0)) := heap_setCell_same w5 _ _ _ _ _ pT5; have q4 : ((w5.setCell ⟨wr.heap.size, 3, none⟩ (.slice A5 t.lo.length c5)).alloc (.cells #[] 5)).cell? ⟨wr.heap.size, 4, none⟩ = some (.slice Ab t.hi.length cb) := cell_of_row _ _ 4 _ _ _ ((Below.heap_alloc _ _ _ (Array.getElem?_eq_some_iff.1 p6).1).trans p6); have hf6 : fr wr ((w5.setCell ⟨wr.heap.size, 3, none⟩ (.slice A5 t.lo.length c5)).alloc (.cells #[] 5)) := fr.alloc (Below.setCell hf5 (Nat.le_refl _) _) _)
        | (refine wpList_append_byt0L rfl _ _ rfl w5.heap.size (.slice Ab t.hi.length cb) rfl rfl S t.hi (fr.byt hf6 HVB.out) ?_; intro A7 c7 w7 hv7 hb7; have pT7 : w7.heap[wr.heap.size]? = some (.cells #[.int .i64 t.id, .int .i64 t.level, .int .i64 t.count, .slice A5 t.lo.length c5, .slice Ab t.hi.length cb] 63 (0, 0)) := (hb7.block _ (by have := (Array.getElem?_eq_some_iff.1 p6).1; simp at this ⊢; omega)).trans ((Below.heap_alloc _ (.cells #[] 5) _ (Array.getElem?_eq_some_iff.1 p6).1).trans p6); have fz7 := frozen_of_row w7 _ 4 _ _ pT7; have q4' := cell_of_row w7 _ 4 _ _ _ pT7; have hf7 : fr wr w7 := fr.step hf6 hb7; have p8 : (w7.setCell ⟨wr.heap.size, 4, none⟩ (.slice A7 t.hi.length c7)).heap[wr.heap.size]? = some (.cells #[.int .i64 t.id, .int .i64 t.level, .int .i64 t.count, .slice A5 t.lo.length c5, .slice A7 t.hi.length c7] 63 (0, 0)) := heap_setCell_same w7 _ _ _ _ _ pT7; have r0 := cell_of_row _ _ 0 _ _ _ p8; have r1 := cell_of_row _ _ 1 _ _ _ p8; have r2 := cell_of_row _ _ 2 _ _ _ p8; have r3 := cell_of_row _ _ 3 _ _ _ p8; have r4 := cell_of_row _ _ 4 _ _ _ p8; have hf8 : fr wr (w7.setCell ⟨wr.heap.size, 4, none⟩ (.slice A7 t.hi.length c7)) := Below.setCell hf7 (Nat.le_refl _) _)
        | (refine wpList_append_own_at _ rfl _ _ 52 rfl w.heap.size 63 i0 _ 5 72 Try.underlying52 hi hz0 hz1'.out hby.out rfl (by decide) _ _ _ rfl ((own_below HO.out hf8).alloc _) ⟨w7.heap.size, 0, none⟩ 1 1 [.int .i64 t.id, .int .i64 t.level, .int .i64 t.count, .slice A5 t.lo.length c5, .slice A7 t.hi.length c7] rfl rfl (cells_at rfl (by simp)) (by simp [Value.oneCell']) hm2 hm3 (by have := Below.size hf8; simp at this ⊢; omega) ?_; intro v' w9 hown' hgrow hnn hat; clear hnn))
      have hx : tbR (w7.setCell ⟨wr.heap.size, 4, none⟩ (.slice A7 t.hi.length c7)) (fun i => wr.heap.size ≤ i ∧ Loose (w7.setCell ⟨wr.heap.size, 4, none⟩ (.slice A7 t.hi.length c7)) i) t [.int .i64 t.id, .int .i64 t.level, .int .i64 t.count, .slice A5 t.lo.length c5, .slice A7 t.hi.length c7] := by
        have hz5 := Below.size hf5
        have hz7 := hb7.size
        have ha : Only (fun i => i = wr.heap.size) w5 (w7.setCell ⟨wr.heap.size, 4, none⟩ (.slice A7 t.hi.length c7)) := ((only_set w5 wr.heap.size 3 _).trans ((Only.of_below ((Below.refl _ _).alloc (Nat.le_refl _) _)).trans (Only.of_below hb7))).trans (only_set w7 wr.heap.size 4 _)
        have h5 : BytL _ _ (.slice A5 t.lo.length c5) t.lo := BytL.only hv5 ha (fun i hi _ e => by simp at hi; omega)
        have h7 : BytL _ _ (.slice A7 t.hi.length c7) t.hi := BytL.only hv7 (only_set w7 wr.heap.size 4 (.slice A7 t.hi.length c7)) (fun i hi _ e => by have := (Array.getElem?_eq_some_iff.1 pT5).1; simp at hi; omega)
        exact ⟨_, _, rfl, h5.mono (by simp; omega), h7.mono (by have := (Array.getElem?_eq_some_iff.1 pT5).1; simp; omega)⟩
      have hpush := OwnRows.push tbFine (by rw [HMM.out]; exact HO.out) HYS.out hf8 hx HB.out.size hgrow hat (by rw [HMM.out]; exact hown')
      rw [← take_snoc HF0.out] at hpush
      have hbw : Below w.heap.size w w9 := ((HB.out.trans (Below.mono hf8 HB.out.size)).alloc (by have := Below.size hf8; omega) _).grown hgrow (by have := Below.size hf8; simp at this ⊢; omega) (fun j e => (HO.out.lt j e).1)
      exact ⟨⟨m + 1, by omega, by go_num, hpush, hbw⟩, by simp [intOf]; omega⟩
    · obtain rfl : m = n := by omega
      go_wp2
      refine bodyPost_ret (v := u3) (by simp [results, Try.results31, go_sem]) rfl ?_
      have e1 : ts.take m = ts := List.take_of_length_le (by rw [HLN.out]; exact Nat.le_refl _)
      have hys := HYS.out
      rw [e1] at hys
      exact ⟨u3, rfl, ⟨css, by rw [HLN.out]; exact HO.out, hys⟩, HB.out⟩
end Go.Proofs.Ytacdhkkelkplnaa
end
section
namespace Go.Proofs.Ytacdhkkelkplnaa
open Go.RowKit Go.BigFrame
attribute [local go_sem ↓] Go.wp_at_zero Go.wp_at_succ
set_option maxRecDepth 100000 in
set_option maxHeartbeats 2000000 in
theorem vercopy_any (S : Nat → Prop) (v : Value) (ts : List Tbl) (lg sq nx : Int) (w : World) (h : TabsV w S v ts) :
    Calls Try.prog 17 #[.agg #[v, .int .i64 lg, .int .i64 sq, .int .i64 nx]] w fun r w' => ∃ A c, r = .returned (.agg #[.slice A ts.length c, .int .i64 lg, .int .i64 sq, .int .i64 nx]) ∧ OwnTabs w' w.heap.size (.slice A ts.length c) ts ∧ Below w.heap.size w w' := by
  obtain ⟨A, c, rfl⟩ := h.form
  have H := Lib.hid h
  clear h
  obtain ⟨n, hn⟩ : ∃ n, ts.length = n := ⟨_, rfl⟩
  have HN := Lib.hid hn
  rw [hn] at H ⊢
  clear hn
  have hal : fr w ((w.alloc (.cells #[.slice A n c, .int .i64 lg, .int .i64 sq, .int .i64 nx] 54)).alloc (.cells #[.slice none 0 0, .int .i64 0, .int .i64 0, .int .i64 0] 54)) := fr.alloc (fr.alloc fr.refl _) _
  have CT : Hid (∀ wx, fr w wx → Calls Try.prog 31 #[.slice A n c] wx fun r w' => ∃ A' c', r = .returned (.slice A' n c') ∧ OwnTabs w' wx.heap.size (.slice A' n c') ts ∧ fr wx w') := Lib.hid fun wx hx => (tables_any S _ ts wx (H.out.below tbFine hx)).mono fun r w' h => by
    obtain ⟨v', rfl, h1, h2⟩ := h
    obtain ⟨css, h3, h4⟩ := h1
    obtain ⟨A', c', rfl⟩ := own_form h3
    rw [HN.out] at h3 ⊢
    exact ⟨A', c', rfl, ⟨css, by rw [HN.out]; exact h3, by rw [HN.out] at h4; exact h4⟩, h2⟩
  go_enter Try.func17, Try.ntmps17
  have P0 : ((w.alloc (.cells #[.slice A n c, .int .i64 lg, .int .i64 sq, .int .i64 nx] 54)).alloc (.cells #[.slice none 0 0, .int .i64 0, .int .i64 0, .int .i64 0] 54)).heap[w.heap.size]? = some (.cells #[.slice A n c, .int .i64 lg, .int .i64 sq, .int .i64 nx] 54 (0, 0)) := (Below.heap_alloc _ _ _ (by simp)).trans (heap_alloc_new w _)
  have P1 : ((w.alloc (.cells #[.slice A n c, .int .i64 lg, .int .i64 sq, .int .i64 nx] 54)).alloc (.cells #[.slice none 0 0, .int .i64 0, .int .i64 0, .int .i64 0] 54)).heap[w.heap.size + 1]? = some (.cells #[.slice none 0 0, .int .i64 0, .int .i64 0, .int .i64 0] 54 (0, 0)) := heap_at_new _ trivial (by simp)
  go_wp2_with (go_at_call 31; refine (CT.out _ hal).mono ?_; rintro r w2 ⟨A', c', rfl, ho, hb⟩; have p0 := fr.hp hb P0; have p1 := fr.hp hb P1; have fz := frozen_of_row w2 _ 0 _ _ p0; have q0 := cell_of_row w2 _ 0 _ _ _ p0; have p0' : (w2.setCell ⟨w.heap.size, 0, none⟩ (.slice A' n c')).heap[w.heap.size]? = some (.cells #[.slice A' n c', .int .i64 lg, .int .i64 sq, .int .i64 nx] 54 (0, 0)) := heap_setCell_same w2 _ _ _ _ _ p0; have r0 := cell_of_row _ _ 0 _ _ _ p0'; have r1 := cell_of_row _ _ 1 _ _ _ p0'; have r2 := cell_of_row _ _ 2 _ _ _ p0'; have r3 := cell_of_row _ _ 3 _ _ _ p0'; have p1' : (w2.setCell ⟨w.heap.size, 0, none⟩ (.slice A' n c')).heap[w.heap.size + 1]? = some (.cells #[.slice none 0 0, .int .i64 0, .int .i64 0, .int .i64 0] 54 (0, 0)) := (heap_setCell_other w2 _ _ _ (by simp)).trans p1; have g0 := frozen_of_row _ _ 0 _ _ p1'; have g1 := frozen_of_row _ _ 1 _ _ p1'; have g2 := frozen_of_row _ _ 2 _ _ p1'; have g3 := frozen_of_row _ _ 3 _ _ p1'; have h0 := cell_of_row _ _ 0 _ _ _ p1'; have h1 := cell_of_row _ _ 1 _ _ _ p1'; have h2 := cell_of_row _ _ 2 _ _ _ p1'; have h3 := cell_of_row _ _ 3 _ _ _ p1')
  refine bodyPost_ret (v := .agg #[.slice A' n c', .int .i64 lg, .int .i64 sq, .int .i64 nx]) (by simp [results, Try.results17, go_sem, *]) rfl ?_
  have hz := Below.size hb
  have ho2 : Only (fun i => i = w.heap.size ∨ i = w.heap.size + 1) w2 _ := ((((((Only.refl _ w2).setCell (p := ⟨w.heap.size, 0, none⟩) (.inl rfl) (.slice A' n c')).setCell (p := ⟨w.heap.size + 1, 0, none⟩) (.inr rfl) (.slice A' n c')).setCell (p := ⟨w.heap.size + 1, 1, none⟩) (.inr rfl) (.int .i64 lg)).setCell (p := ⟨w.heap.size + 1, 2, none⟩) (.inr rfl) (.int .i64 sq)).setCell (p := ⟨w.heap.size + 1, 3, none⟩) (.inr rfl) (.int .i64 nx))
  have hfr : fr w w2 := fr.step hal hb
  refine ⟨A', c', rfl, (OwnRows.only tbFine ho ho2 (fun i hi _ e => by simp at hi; omega)).rebase tbFine (by simp; omega), ?_⟩
  exact hfr.trans (ho2.below (Below.size hfr) (fun i h => by omega))
set_option maxRecDepth 100000 in
set_option maxHeartbeats 4000000 in
theorem versame_any (S S' : Nat → Prop) (v v' : Value) (ts : List Tbl) (lg sq nx : Int) (w : World) (h : TabsV w S v ts) (h' : TabsV w S' v' ts) :
    Calls Try.prog 20 #[.agg #[v, .int .i64 lg, .int .i64 sq, .int .i64 nx], .agg #[v', .int .i64 lg, .int .i64 sq, .int .i64 nx]] w fun r w' => r = .returned (.bool true) ∧ Below w.heap.size w w' := by
  obtain ⟨A, c, rfl⟩ := h.form
  obtain ⟨A', c', rfl⟩ := h'.form
  have hmany : ts.length * 72 ≤ 140737488355328 := by obtain ⟨_, _, _, _, _, _, h3, _⟩ := h; exact h3
  obtain ⟨n, hn⟩ : ∃ n, ts.length = n := ⟨_, rfl⟩
  rw [hn] at h h' hmany ⊢
  have H := Lib.hid h
  have H' := Lib.hid h'
  have HN := Lib.hid hn
  clear h h' hn
  have hal : fr w ((w.alloc (.cells #[.slice A n c, .int .i64 lg, .int .i64 sq, .int .i64 nx] 54)).alloc (.cells #[.slice A' n c', .int .i64 lg, .int .i64 sq, .int .i64 nx] 54)) := fr.alloc (fr.alloc fr.refl _) _
  have P0 : ((w.alloc (.cells #[.slice A n c, .int .i64 lg, .int .i64 sq, .int .i64 nx] 54)).alloc (.cells #[.slice A' n c', .int .i64 lg, .int .i64 sq, .int .i64 nx] 54)).heap[w.heap.size]? = some (.cells #[.slice A n c, .int .i64 lg, .int .i64 sq, .int .i64 nx] 54 (0, 0)) := (Below.heap_alloc _ _ _ (by simp)).trans (heap_alloc_new w _)
  have P1 : ((w.alloc (.cells #[.slice A n c, .int .i64 lg, .int .i64 sq, .int .i64 nx] 54)).alloc (.cells #[.slice A' n c', .int .i64 lg, .int .i64 sq, .int .i64 nx] 54)).heap[w.heap.size + 1]? = some (.cells #[.slice A' n c', .int .i64 lg, .int .i64 sq, .int .i64 nx] 54 (0, 0)) := heap_at_new _ trivial (by simp)
  go_enter Try.func20, Try.ntmps20
  go_wp2_with fail
  go_loopw [39] (fun t wr => ∃ k : Nat, k ≤ n ∧ t = .int .i64 k ∧ fr ((w.alloc (.cells #[.slice A n c, .int .i64 lg, .int .i64 sq, .int .i64 nx] 54)).alloc (.cells #[.slice A' n c', .int .i64 lg, .int .i64 sq, .int .i64 nx] 54)) wr) (fun t _ => n - (intOf t).toNat)
  case atStart => exact ⟨0, Nat.zero_le _, rfl, fr.refl⟩
  case round =>
    obtain ⟨k, hk, rfl, hbel⟩ := hrel
    have HB := Lib.hid hbel
    have p0 := fr.hp hbel P0
    have p1 := fr.hp hbel P1
    have HW := Lib.hid (fr.step hal hbel)
    clear hbel
    by_cases hkn : k < n
    · obtain ⟨t, hf⟩ : ∃ t, ts[k]? = some t := ⟨_, List.getElem?_eq_getElem (by rw [HN.out]; exact hkn)⟩
      obtain ⟨b, o, cs, rfl, hblt, _, ⟨va, vb, rfl, hva, hvb⟩, hc⟩ := Rws.at_ tbFine (H.out.below tbFine HW.out) hf
      obtain ⟨b', o', cs', rfl, hblt', _, ⟨va', vb', rfl, hva', hvb'⟩, hc'⟩ := Rws.at_ tbFine (H'.out.below tbFine HW.out) hf
      obtain ⟨Aa, ca, rfl⟩ := slice_form hva
      obtain ⟨Ab, cb, rfl⟩ := slice_form hvb
      obtain ⟨Aa', ca', rfl⟩ := slice_form hva'
      obtain ⟨Ab', cb', rfl⟩ := slice_form hvb'
      have x0 : wr.cell? ⟨b, o + k * 5, none⟩ = _ := hc 0 _ rfl
      have x1 : wr.cell? ⟨b, o + k * 5 + 1, none⟩ = _ := hc 1 _ rfl
      have x2 : wr.cell? ⟨b, o + k * 5 + 2, none⟩ = _ := hc 2 _ rfl
      have x3 : wr.cell? ⟨b, o + k * 5 + 3, none⟩ = _ := hc 3 _ rfl
      have x4 : wr.cell? ⟨b, o + k * 5 + 4, none⟩ = _ := hc 4 _ rfl
      have y0 : wr.cell? ⟨b', o' + k * 5, none⟩ = _ := hc' 0 _ rfl
      have y1 : wr.cell? ⟨b', o' + k * 5 + 1, none⟩ = _ := hc' 1 _ rfl
      have y2 : wr.cell? ⟨b', o' + k * 5 + 2, none⟩ = _ := hc' 2 _ rfl
      have y3 : wr.cell? ⟨b', o' + k * 5 + 3, none⟩ = _ := hc' 3 _ rfl
      have y4 : wr.cell? ⟨b', o' + k * 5 + 4, none⟩ = _ := hc' 4 _ rfl
      have q0 := cell_of_row _ _ 0 _ _ _ p0
      have q1 := cell_of_row _ _ 0 _ _ _ p1
      clear hc hc' hf
      have l0 : w.heap.size < wr.heap.size := (Array.getElem?_eq_some_iff.1 p0).1
      have l1 : w.heap.size + 1 < wr.heap.size := (Array.getElem?_eq_some_iff.1 p1).1
      go_wp2_with fail
      go_region
      all_goals
        have fe : ∀ x y : Obj, fr wr ((wr.alloc x).alloc y).drew := fun x y => fr.drew (fr.alloc (fr.alloc fr.refl x) y)
        have e1 : ∀ x y : Obj, (convert 44 9 (.slice Aa t.lo.length ca)).run Try.prog ((wr.alloc x).alloc y).drew = .ok (.string ⟨t.lo.toArray⟩) ((wr.alloc x).alloc y).drew := fun x y => (hva.below (fe x y)).convert
        have e2 : ∀ x y : Obj, (convert 44 9 (.slice Aa' t.lo.length ca')).run Try.prog ((wr.alloc x).alloc y).drew = .ok (.string ⟨t.lo.toArray⟩) ((wr.alloc x).alloc y).drew := fun x y => (hva'.below (fe x y)).convert
        have e3 : ∀ x y : Obj, (convert 44 9 (.slice Ab t.hi.length cb)).run Try.prog ((wr.alloc x).alloc y).drew = .ok (.string ⟨t.hi.toArray⟩) ((wr.alloc x).alloc y).drew := fun x y => (hvb.below (fe x y)).convert
        have e4 : ∀ x y : Obj, (convert 44 9 (.slice Ab' t.hi.length cb')).run Try.prog ((wr.alloc x).alloc y).drew = .ok (.string ⟨t.hi.toArray⟩) ((wr.alloc x).alloc y).drew := fun x y => (hvb'.below (fe x y)).convert
        have HF := Lib.hid (fe (.cells #[.int .i64 t.id, .int .i64 t.level, .int .i64 t.count, .slice Aa t.lo.length ca, .slice Ab t.hi.length cb] 63) (.cells #[.int .i64 t.id, .int .i64 t.level, .int .i64 t.count, .slice Aa' t.lo.length ca', .slice Ab' t.hi.length cb'] 63))
        have HF' := Lib.hid (fe (.cells #[.int .i64 t.id, .int .i64 t.level, .int .i64 t.count, .slice Aa' t.lo.length ca', .slice Ab' t.hi.length cb'] 63) (.cells #[.int .i64 t.id, .int .i64 t.level, .int .i64 t.count, .slice Aa t.lo.length ca, .slice Ab t.hi.length cb] 63))
        clear fe
        go_wp2_with fail
        first
          | exact ⟨⟨k + 1, by omega, by go_num, fr.step HB.out HF.out⟩, by simp [intOf]; omega⟩
          | exact ⟨⟨k + 1, by omega, by go_num, fr.step HB.out HF'.out⟩, by simp [intOf]; omega⟩
    · obtain rfl : k = n := by omega
      go_wp2_with fail
      refine bodyPost_ret (v := .bool true) (by simp [results, Try.results20, go_sem]) rfl ?_
      exact ⟨rfl, fr.step hal HB.out⟩
end Go.Proofs.Ytacdhkkelkplnaa
end
section
namespace Go.Proofs.Ytacdhkkelkplnaa
open Go.RowKit Go.BigFrame
attribute [local go_sem ↓] Go.wp_at_zero Go.wp_at_succ
/-- a function value that tells tables apart, from a world on. -/
def PredT (g : Nat) (lb : Array Value) (p : Tbl → Bool) (w0 : World) : Prop :=
  ∀ (W : World) (S : Nat → Prop) (tv : Value) (t : Tbl), fr w0 W → TabV W S tv t → Calls Try.prog g (#[tv] ++ lb) W fun e w' => e = .returned (.bool (p t)) ∧ fr W w'
theorem PredT.later {g : Nat} {lb : Array Value} {p : Tbl → Bool} {w w' : World} (h : PredT g lb p w) (hf : fr w w') : PredT g lb p w' := fun W S tv t hW ht => h W S tv t (fr.step hf hW) ht
/-- a row of one's own of tables whose bytes lie elsewhere. -/
def OldTabs (w : World) (base : Nat) (S : Nat → Prop) (v : Value) (ts : List Tbl) : Prop := ∃ css, w.ownsRow base 63 5 v ts.length css.flatten ∧ All2 (tbR w S) ts css
theorem OldTabs.nil (w : World) (base : Nat) (S : Nat → Prop) : OldTabs w base S (.slice none 0 0) [] := ⟨[], World.ownsRow_nil _ _ _ _, .nil⟩
theorem OldTabs.below {w w' : World} {base : Nat} {S : Nat → Prop} {v : Value} {ts : List Tbl} (h : OldTabs w base S v ts) (hb : Below w.heap.size w w') : OldTabs w' base S v ts := by
  obtain ⟨css, h1, h2⟩ := h
  exact ⟨css, own_below h1 hb, h2.imp fun _ _ hx => tbFine.keep hx fun _ _ _ _ hr => hr.below hb⟩
theorem OldTabs.form {w : World} {base : Nat} {S : Nat → Prop} {v : Value} {ts : List Tbl} (h : OldTabs w base S v ts) : ∃ A c, v = .slice A ts.length c := by
  obtain ⟨css, h1, _⟩ := h; exact own_form h1
theorem OldTabs.tabs {w : World} {base : Nat} {S : Nat → Prop} {v : Value} {ts : List Tbl} (h : OldTabs w base S v ts) (hl : ts.length * 72 ≤ 140737488355328) : TabsV w (fun _ => True) v ts := by
  obtain ⟨css, h1, h2⟩ := h
  obtain ⟨A, c, rfl⟩ := own_form h1
  have hlim := own_lim h1
  refine ⟨A, c, css, rfl, hlim.1, hlim.2, hl, ⟨h1.1, fun h0 => ?_⟩, h2.imp fun _ _ hx => tbFine.keep hx fun _ _ _ _ hr => hr.mono fun _ _ => trivial⟩
  obtain ⟨g, c', hA, hbg, hgz, _, _⟩ := own_pos h1 h0
  injection hA with hA
  subst hA
  refine ⟨g, 0, rfl, trivial, hgz, fun j u hu => ?_⟩
  have := h1.cells (g := g) rfl j u hu
  rwa [Addr.add_lit] at this
theorem OldTabs.push {base : Nat} {S : Nat → Prop} {wr w1 w2 : World} {v v' : Value} {ts : List Tbl} {css : List (List Value)} {t : Tbl} {cs : List Value} {o : Obj} (hown : wr.ownsRow base 63 5 v ts.length css.flatten) (hys : All2 (tbR wr S) ts css) (hb1 : Below wr.heap.size wr w1)
    (hx : tbR wr S t cs) (hS : ∀ i, S i → i < base) (hg : (w1.alloc o).grownBy w2 v.ownBlock) (hown' : w2.ownsRow base 63 5 v' (ts.length + 1) (css.flatten ++ cs)) : OldTabs w2 base S v' (ts ++ [t]) := by
  have hal : Below w1.heap.size w1 (w1.alloc o) := (Below.refl _ _).alloc (Nat.le_refl _) _
  have key : ∀ t cs, tbR wr S t cs → tbR w2 S t cs := fun _ _ hy => tbFine.keep hy fun A n sz ys hr => ((hr.below hb1).below hal).only (Only.of_grown hg) (fun i _ hs e => by have := (hown.lt i e).1; have := hS i hs; omega)
  exact ⟨css ++ [cs], by rw [List.length_append, List.flatten_append]; simpa using hown', (hys.imp fun _ _ hy => key _ _ hy).snoc (key _ _ hx)⟩
theorem filter_snoc {α : Type} {l : List α} {k : Nat} {e : α} (p : α → Bool) (h : l[k]? = some e) : (l.take (k + 1)).filter p = (l.take k).filter p ++ (if p e then [e] else []) := by
  rw [take_snoc h, List.filter_append]
  congr 1
  by_cases hp : p e <;> simp [hp]
set_option maxRecDepth 100000 in
set_option maxHeartbeats 2000000 in
theorem only_any (S : Nat → Prop) (v : Value) (ts : List Tbl) (g : Nat) (lb : Array Value) (p : Tbl → Bool) (w : World) (eg : ∀ args w, (callFunc g args).run Try.prog w = .ok (.enter g args) w) (hv : TabsV w S v ts) (hp : PredT g lb p w) :
    Calls Try.prog 32 #[v, .func (.func g) #[] lb] w fun r w' => ∃ v', r = .returned v' ∧ OldTabs w' w.heap.size (fun i => S i ∧ i < w.heap.size) v' (ts.filter p) ∧ Below w.heap.size w w' := by
  obtain ⟨i0, hi, hz0, hz1, hz2⟩ := info_parts infoT
  have hby := Lib.hid hz2
  have hz1' := Lib.hid hz1
  clear hz2 hz1
  obtain ⟨A, c, rfl⟩ := hv.form
  obtain ⟨n, hn⟩ : ∃ n, ts.length = n := ⟨_, rfl⟩
  have hmany : n * 72 ≤ 140737488355328 := by obtain ⟨_, _, _, _, _, _, h3, _⟩ := hv; rw [← hn]; exact h3
  have hv : TabsV w (fun i => S i ∧ i < w.heap.size) (.slice A ts.length c) ts := hv.keep tbFine fun _ _ _ _ hr => hr.monoLt fun i hi hs => ⟨hs, hi⟩
  rw [hn] at hv ⊢
  have HLN := Lib.hid hn
  have H := Lib.hid hv
  have HP := Lib.hid hp
  clear hv hn hp
  go_enter Try.func32, Try.ntmps32
  go_wp2
  go_loopw [5, 10] (fun v5 t wr => ∃ i : Nat, i ≤ n ∧ t = .int .i64 i ∧ OldTabs wr w.heap.size (fun i => S i ∧ i < w.heap.size) v5 ((ts.take i).filter p) ∧ Below w.heap.size w wr) (fun _ t _ => n - (intOf t).toNat)
  case atStart => exact ⟨0, Nat.zero_le _, rfl, OldTabs.nil _ _ _, Below.refl _ _⟩
  case round =>
    obtain ⟨i, hi', rfl, hown, hbel⟩ := hrel
    obtain ⟨A5, c5, rfl⟩ := hown.form
    obtain ⟨css, hown, hys⟩ := hown
    have HO := Lib.hid hown
    have HYS := Lib.hid hys
    have HB := Lib.hid hbel
    obtain ⟨m, hm⟩ : ∃ m, ((ts.take i).filter p).length = m := ⟨_, rfl⟩
    have hmi : m ≤ i := by rw [← hm]; exact Nat.le_trans (List.length_filter_le _ _) (by rw [List.length_take]; omega)
    rw [hm] at HO ⊢
    have HMM := Lib.hid hm
    clear hown hys hbel hm
    by_cases hin : i < n
    · obtain ⟨t, hf⟩ : ∃ t, ts[i]? = some t := ⟨_, List.getElem?_eq_getElem (by rw [HLN.out]; exact hin)⟩
      obtain ⟨b, o, cs, rfl, hblt, _, ⟨va, vb, rfl, hva, hvb⟩, hc⟩ := Rws.at_ tbFine (H.out.below tbFine HB.out) hf
      obtain ⟨Aa, ca, rfl⟩ := slice_form hva
      obtain ⟨Ab, cb, rfl⟩ := slice_form hvb
      have x0 : wr.cell? ⟨b, o + i * 5, none⟩ = _ := hc 0 _ rfl
      have x1 : wr.cell? ⟨b, o + i * 5 + 1, none⟩ = _ := hc 1 _ rfl
      have x2 : wr.cell? ⟨b, o + i * 5 + 2, none⟩ = _ := hc 2 _ rfl
      have x3 : wr.cell? ⟨b, o + i * 5 + 3, none⟩ = _ := hc 3 _ rfl
      have x4 : wr.cell? ⟨b, o + i * 5 + 4, none⟩ = _ := hc 4 _ rfl
      have HX := Lib.hid (show tbR wr (fun i => S i ∧ i < w.heap.size) t [.int .i64 t.id, .int .i64 t.level, .int .i64 t.count, .slice Aa t.lo.length ca, .slice Ab t.hi.length cb] from ⟨_, _, rfl, hva, hvb⟩)
      have HFS := Lib.hid (filter_snoc p hf)
      have hbz := HB.out.size
      have pT : (wr.alloc (.cells #[.int .i64 t.id, .int .i64 t.level, .int .i64 t.count, .slice Aa t.lo.length ca, .slice Ab t.hi.length cb] 63)).heap[wr.heap.size]? = some (.cells #[.int .i64 t.id, .int .i64 t.level, .int .i64 t.count, .slice Aa t.lo.length ca, .slice Ab t.hi.length cb] 63 (0, 0)) := heap_alloc_new wr _
      have HPC := Lib.hid (HP.out (wr.alloc (.cells #[.int .i64 t.id, .int .i64 t.level, .int .i64 t.count, .slice Aa t.lo.length ca, .slice Ab t.hi.length cb] 63)) (fun i => S i ∧ i < w.heap.size) (.agg #[.int .i64 t.id, .int .i64 t.level, .int .i64 t.count, .slice Aa t.lo.length ca, .slice Ab t.hi.length cb]) t (fr.alloc HB.out _) ⟨_, _, rfl, hva.below ((Below.refl _ _).alloc (Nat.le_refl _) _), hvb.below ((Below.refl _ _).alloc (Nat.le_refl _) _)⟩)
      clear hf hva hvb hc
      by_cases hpt : p t = true
      · rw [hpt] at HPC
        rw [if_pos hpt] at HFS
        go_wp2_with (first
          | (go_at_fn g; refine HPC.out.mono ?_; rintro e w1 ⟨rfl, hf1⟩; have pT1 := fr.hp hf1 pT; have r0 := cell_of_row w1 _ 0 _ _ _ pT1; have r1 := cell_of_row w1 _ 1 _ _ _ pT1; have r2 := cell_of_row w1 _ 2 _ _ _ pT1; have r3 := cell_of_row w1 _ 3 _ _ _ pT1; have r4 := cell_of_row w1 _ 4 _ _ _ pT1; have hfr : fr wr w1 := fr.step (fr.alloc fr.refl _) hf1)
          | (at_builtin; refine wpList_append_own_at _ rfl _ _ 52 rfl w.heap.size 63 i0 _ 5 72 Try.underlying52 hi hz0 hz1'.out hby.out rfl (by decide) _ _ _ rfl ((own_below HO.out hfr).alloc _) ⟨w1.heap.size, 0, none⟩ 1 1 [.int .i64 t.id, .int .i64 t.level, .int .i64 t.count, .slice Aa t.lo.length ca, .slice Ab t.hi.length cb] rfl rfl (cells_at rfl rfl) (by simp [Value.oneCell']) (by unfold maxLen; omega) (by omega) (by have := Below.size hfr; simp; omega) ?_; intro v' w9 hown' hgrow hnn hat; clear hnn))
        have hpush := OldTabs.push (by rw [HMM.out]; exact HO.out) HYS.out hfr HX.out (fun _ h => h.2) hgrow (by rw [HMM.out]; exact hown')
        rw [← HFS.out] at hpush
        have hbw : Below w.heap.size w w9 := ((HB.out.trans (Below.mono hfr HB.out.size)).alloc (by have := Below.size hfr; omega) _).grown hgrow (by have := Below.size hfr; simp at this ⊢; omega) (fun j e => (HO.out.lt j e).1)
        exact ⟨⟨i + 1, by omega, by go_num, hpush, hbw⟩, by simp [intOf]; omega⟩
      · have hpf : p t = false := by simpa using hpt
        rw [hpf] at HPC
        rw [if_neg hpt, List.append_nil] at HFS
        go_wp2_with (go_at_fn g; refine HPC.out.mono ?_; rintro e w1 ⟨rfl, hf1⟩; have hfr : fr wr w1 := fr.step (fr.alloc fr.refl _) hf1)
        refine ⟨⟨i + 1, by omega, by go_num, ?_, HB.out.trans (Below.mono hfr HB.out.size)⟩, by simp [intOf]; omega⟩
        rw [HFS.out]
        exact OldTabs.below ⟨css, by rw [HMM.out]; exact HO.out, HYS.out⟩ hfr
    · obtain rfl : i = n := by omega
      go_wp2
      refine bodyPost_ret (v := .slice A5 m c5) (by simp [results, Try.results32, go_sem]) rfl ?_
      have e1 : ts.take i = ts := List.take_of_length_le (by rw [HLN.out]; exact Nat.le_refl _)
      have hys := HYS.out
      have hmm := HMM.out
      rw [e1] at hys hmm
      exact ⟨_, rfl, ⟨css, by rw [hmm]; exact HO.out, hys⟩, HB.out⟩
end Go.Proofs.Ytacdhkkelkplnaa
end
