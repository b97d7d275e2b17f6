/-
Slices of structs, element by element: how they read, and rows of one's own that grow.
-/
import Derived.Test.YtcmjoaepihbodaaDkW
namespace Go.Proofs.Ytcmjoaepihbodaa
open Go.RowKit Go.BigFrame Go.Sort Go.Shelf Go.Lib Go.Maps
attribute [local go_sem ↓] Go.wp_at_zero Go.wp_at_succ

theorem step_append_own_at {w : World} {ops : Array Oper} {o : Oper} {a : Act} {K : Act → World → Prop} {Q : Exit → Act → World → Prop} {E : Prop} (hgd : o.guard = none) (s x : Operand) (t : TypeId)
    (ho : o.op = .call { callee := .builtin .append, args := #[s, x], argTypes := #[t, t] })
    (base : Nat) (e : TypeId) (i : TypeInfo) (z : Value) (size bytes : Nat) (ht : Try.prog.underlying t = some (.slice e)) (hi : Try.prog.info? e = some i) (hz : i.zero = some z)
    (hsize : i.size = size) (hby : i.bytes = bytes) (hzs : z.cells.size = size) (hsz : 0 < size)
    (v : Value) (n : Nat) (xs : List Value) (hs : a.eval s = v) (hown : w.ownsRow base e size v n xs)
    (ad : Addr) (m c : Nat) (news : List Value) (hx : a.eval x = .slice (some ad) m c) (hl : news.length = m * size) (hnews : ∀ j u, news[j]? = some u → w.cell? (ad.add j) = some u) (h1 : ∀ u ∈ news, u.oneCell' = true)
    (h63 : n + m ≤ maxLen) (hbytes : (n + m) * bytes ≤ 140737488355328) (hbase : base ≤ w.heap.size)
    (hK : ∀ v' w', w'.ownsRow base e size v' (n + m) (xs ++ news) → w.grownBy w' v.ownBlock → (v'.ownBlock = v.ownBlock ∨ v'.ownBlock = some w.heap.size) → K (a.put o.dst v') w') :
    if Region.wanted o (yielded ops a.tmps) = true then Oper.wp Try.prog o a w K Q else E := by
  have hw : Region.wanted o (yielded ops a.tmps) = true := by simp [Region.wanted, hgd]
  rw [if_pos hw]
  obtain ⟨v', w', hr, h2, h3, h4, h5⟩ := run_append_own_at (P := Try.prog) w base t o.type e i z size bytes ht hi hz hsize hby hzs hsz v n xs hown ad m c news hl hnews h1 h63 hbytes hbase
  unfold Oper.wp execOp
  simp only [ho, resolve, invoke, builtin, Sem.run_bind, Sem.run_pure, Result.andThen_ok, List.map_toArray, List.map_cons, List.map_nil, hs, hx, hr]
  exact hK v' w' h2 h3 h5


theorem fr.byt {W w' : World} (h : fr W w') {S : Nat → Prop} {v : Value} {bs : List UInt8} (hv : Byt W S v bs) : Byt w' S v bs := hv.below h
theorem fr.two {W w' : World} {p q : Addr} {a b : Value} (h : fr W w') (c0 : W.cell? p = some a) (c3 : W.cell? q = some b) : w'.cell? p = some a ∧ w'.cell? q = some b := ⟨h.cell c0, h.cell c3⟩
theorem fr.grown {W w' w2 : World} {B i j : Nat} {a b : Value} {g : Option Nat} (h : fr W w') (c0 : W.cell? ⟨B, i, none⟩ = some a) (c3 : W.cell? ⟨B, j, none⟩ = some b) (hg : w'.grownBy w2 g) (hne : ¬ g = some B) :
    w2.cell? ⟨B, i, none⟩ = some a ∧ w2.cell? ⟨B, j, none⟩ = some b := by
  have hlt : B < W.heap.size := World.block_lt_of_cell? W _ c0
  have hb := hg.block B (by have := Below.size h; omega) (fun e => hne e.symm)
  exact ⟨(World.cell?_of_block (w' := w2) (w := w') (a := ⟨B, i, none⟩) hb).trans (h.cell c0), (World.cell?_of_block (w' := w2) (w := w') (a := ⟨B, j, none⟩) hb).trans (h.cell c3)⟩
theorem cells_new (w : World) (cs : List Value) (t : TypeId) : ∀ j u, cs[j]? = some u → (w.alloc (.cells cs.toArray t)).cell? ((⟨w.heap.size, 0, none⟩ : Addr).add j) = some u := by
  intro j u hu
  rw [Addr.add_lit, World.cell?_alloc_at _ _ _ _ rfl]
  simpa using hu
theorem Row.monoLt {w : World} {S S' : Nat → Prop} {A : Option Addr} {n sz : Nat} {xs : List Value} (h : Row w S A n sz xs) (hS : ∀ i, i < w.heap.size → S i → S' i) : Row w S' A n sz xs :=
  ⟨h.1, fun hn => by obtain ⟨b, o, e, h1, hb, hc⟩ := h.2 hn; exact ⟨b, o, e, hS b hb h1, hb, hc⟩⟩
theorem Row.push {w w2 : World} {S S' : Nat → Prop} {v' row : Value} {A : Option Addr} {n sz : Nat} {xs : List Value} (h : Row w S A n sz xs) (hg : w.grownBy w2 row.ownBlock) (hat : v'.ownBlock = row.ownBlock ∨ v'.ownBlock = some w.heap.size)
    (hne : ∀ i, i < w.heap.size → S i → row.ownBlock ≠ some i) (hS : ∀ i, i < w.heap.size → S i → v'.ownBlock ≠ some i → S' i) : Row w2 S' A n sz xs := by
  have h1 : Row w (fun i => S i ∧ i < w.heap.size) A n sz xs := h.monoLt fun i hi hs => ⟨hs, hi⟩
  have h2 : Row w2 (fun i => S i ∧ i < w.heap.size) A n sz xs := h1.only (S := fun i => row.ownBlock = some i) ⟨hg.os, hg.tape, hg.output, hg.size, fun i hi hS => hg.block i hi (fun e => hS e.symm)⟩ (fun i hi hT => hne i hi hT.1)
  refine h2.mono fun i hi => hS i hi.2 hi.1 (fun e => ?_)
  rcases hat with h | h
  · exact hne i hi.2 hi.1 (h ▸ e)
  · rw [h] at e
    injection e with e
    omega
/-- how an element reads: its cells, in memory of a set. -/
abbrev Rd (α : Type) := World → (Nat → Prop) → α → List Value → Prop
structure Fine {α : Type} (R : Rd α) (k : Nat) : Prop where
  len : ∀ {w S x cs}, R w S x cs → cs.length = k
  keep : ∀ {w w' : World} {S S' : Nat → Prop} {x cs}, R w S x cs → (∀ A n sz xs, Row w S A n sz xs → Row w' S' A n sz xs) → R w' S' x cs
inductive All2 {α β : Type} (P : α → β → Prop) : List α → List β → Prop
  | nil : All2 P [] []
  | cons {a b l m} : P a b → All2 P l m → All2 P (a :: l) (b :: m)
theorem All2.imp {α β : Type} {P Q : α → β → Prop} (h : ∀ a b, P a b → Q a b) {l : List α} {m : List β} (hl : All2 P l m) : All2 Q l m := by
  induction hl with
  | nil => exact .nil
  | cons h1 _ ih => exact .cons (h _ _ h1) ih
theorem All2.snoc {α β : Type} {P : α → β → Prop} {l : List α} {m : List β} {a : α} {b : β} (hl : All2 P l m) (h : P a b) : All2 P (l ++ [a]) (m ++ [b]) := by
  induction hl with
  | nil => exact .cons h .nil
  | cons h1 _ ih => exact .cons h1 ih
theorem All2.length {α β : Type} {P : α → β → Prop} {l : List α} {m : List β} (hl : All2 P l m) : l.length = m.length := by
  induction hl with
  | nil => rfl
  | cons _ _ ih => simp [ih]
theorem All2.at_ {α β : Type} {P : α → β → Prop} {l : List α} {m : List β} (hl : All2 P l m) {i : Nat} {a : α} (hi : l[i]? = some a) : ∃ b, m[i]? = some b ∧ P a b := by
  induction hl generalizing i with
  | nil => simp at hi
  | cons h1 _ ih =>
    cases i with
    | zero => simp at hi; subst hi; exact ⟨_, rfl, h1⟩
    | succ i => exact ih (by simpa using hi)
theorem flat_at {k : Nat} {css : List (List Value)} (h : ∀ cs ∈ css, cs.length = k) {i j : Nat} {cs : List Value} {u : Value} (hi : css[i]? = some cs) (hj : cs[j]? = some u) : css.flatten[i * k + j]? = some u := by
  induction css generalizing i with
  | nil => simp at hi
  | cons a l ih =>
    have ha : a.length = k := h a List.mem_cons_self
    rw [List.flatten_cons]
    cases i with
    | zero =>
      simp at hi
      subst hi
      rw [Nat.zero_mul, Nat.zero_add, List.getElem?_append_left (List.getElem?_eq_some_iff.1 hj).1]
      exact hj
    | succ i =>
      rw [List.getElem?_append_right (by rw [ha, Nat.succ_mul]; omega), ha, show (i + 1) * k + j - k = i * k + j by rw [Nat.succ_mul]; omega]
      exact ih (fun cs hc => h cs (List.mem_cons_of_mem _ hc)) (by simpa using hi)
section
variable {α : Type} {R : Rd α} {k bytes : Nat}
/-- a slice of structs. -/
def Rows (R : Rd α) (k bytes : Nat) (w : World) (S : Nat → Prop) (v : Value) (xs : List α) : Prop :=
  ∃ A c css, v = .slice A xs.length c ∧ xs.length ≤ c ∧ c ≤ 9223372036854775807 ∧ xs.length * bytes ≤ 140737488355328 ∧ Row w S A xs.length k css.flatten ∧ All2 (R w S) xs css
theorem Rows.keep (hR : Fine R k) {w w' : World} {S S' : Nat → Prop} {v : Value} {xs : List α} (h : Rows R k bytes w S v xs) (hk : ∀ A n sz ys, Row w S A n sz ys → Row w' S' A n sz ys) : Rows R k bytes w' S' v xs := by
  obtain ⟨A, c, css, e, h1, h2, h3, h4, h5⟩ := h
  exact ⟨A, c, css, e, h1, h2, h3, hk _ _ _ _ h4, h5.imp fun _ _ hx => hR.keep hx hk⟩
theorem Rows.below (hR : Fine R k) {w w' : World} {S : Nat → Prop} {v : Value} {xs : List α} (h : Rows R k bytes w S v xs) (hb : Below w.heap.size w w') : Rows R k bytes w' S v xs := h.keep hR fun _ _ _ _ hr => hr.below hb
theorem Rows.only (hR : Fine R k) {w w' : World} {T S : Nat → Prop} {v : Value} {xs : List α} (h : Rows R k bytes w T v xs) (ho : Only S w w') (hd : ∀ i, T i → ¬ S i) : Rows R k bytes w' T v xs := h.keep hR fun _ _ _ _ hr => hr.only ho fun i _ hi => hd i hi
theorem Rows.mono (hR : Fine R k) {w : World} {S S' : Nat → Prop} {v : Value} {xs : List α} (h : Rows R k bytes w S v xs) (hS : ∀ i, S i → S' i) : Rows R k bytes w S' v xs := h.keep hR fun _ _ _ _ hr => hr.mono hS
theorem Rows.lt (hR : Fine R k) {w : World} {S : Nat → Prop} {v : Value} {xs : List α} (h : Rows R k bytes w S v xs) : Rows R k bytes w (fun i => i < w.heap.size) v xs := h.keep hR fun _ _ _ _ hr => hr.monoLt fun _ hi _ => hi
theorem Rows.form {w : World} {S : Nat → Prop} {v : Value} {xs : List α} (h : Rows R k bytes w S v xs) : ∃ A c, v = .slice A xs.length c := by
  obtain ⟨A, c, _, e, _⟩ := h
  exact ⟨A, c, e⟩
theorem Rows.at_ (hR : Fine R k) {w : World} {S : Nat → Prop} {A : Option Addr} {n c : Nat} {xs : List α} (h : Rows R k bytes w S (.slice A n c) xs) {i : Nat} {x : α} (hi : xs[i]? = some x) :
    ∃ b o cs, A = some ⟨b, o, none⟩ ∧ b < w.heap.size ∧ S b ∧ R w S x cs ∧ ∀ j u, cs[j]? = some u → w.cell? ⟨b, o + (i * k + j), none⟩ = some u := by
  obtain ⟨A', c', css, hE, h1, h2, h3, h4, h5⟩ := h
  injection hE with e1 e2 e3
  subst e1
  have hlt := (List.getElem?_eq_some_iff.1 hi).1
  obtain ⟨b, o, rfl, hS, hb, hc⟩ := h4.2 (by omega)
  obtain ⟨cs, hcs, hx⟩ := h5.at_ hi
  have hall : ∀ cs ∈ css, cs.length = k := fun cs hm => by
    obtain ⟨j, hj⟩ := List.getElem?_of_mem hm
    have hjl : j < xs.length := by rw [h5.length]; exact (List.getElem?_eq_some_iff.1 hj).1
    obtain ⟨cs', h', hx'⟩ := h5.at_ (List.getElem?_eq_getElem hjl)
    rw [hj] at h'
    injection h' with h'
    subst h'
    exact hR.len hx'
  exact ⟨b, o, cs, rfl, hb, hS, hx, fun j u hu => hc _ _ (flat_at hall hcs hu)⟩
/-- what a row of the call's own holds: bytes in new blocks that may be written to, none of them the row's. -/
def freshL (w : World) (base : Nat) (v : Value) (i : Nat) : Prop := base ≤ i ∧ v.ownBlock ≠ some i ∧ Loose w i
def OwnRows (R : Rd α) (k : Nat) (t : TypeId) (w : World) (base : Nat) (v : Value) (xs : List α) : Prop := ∃ css, w.ownsRow base t k v xs.length css.flatten ∧ All2 (R w (freshL w base v)) xs css
theorem OwnRows.nil (t : TypeId) (w : World) (base : Nat) : OwnRows R k t w base (.slice none 0 0) [] := ⟨[], World.ownsRow_nil _ _ _ _, .nil⟩
theorem OwnRows.below (hR : Fine R k) {t : TypeId} {w w' : World} {base : Nat} {v : Value} {xs : List α} (h : OwnRows R k t w base v xs) (hb : Below w.heap.size w w') : OwnRows R k t w' base v xs := by
  obtain ⟨css, h1, h2⟩ := h
  exact ⟨css, own_below h1 hb, h2.imp fun _ _ hx => hR.keep hx fun _ _ _ _ hr => (hr.below hb).mono fun i hi => ⟨hi.1, hi.2.1, hi.2.2.below hb⟩⟩
theorem OwnRows.push (hR : Fine R k) {base : Nat} {wr w1 w2 : World} {v v' : Value} {xs : List α} {css : List (List Value)} {x : α} {cs : List Value} {o : Obj} {t : TypeId} (hown : wr.ownsRow base t k v xs.length css.flatten) (hys : All2 (R wr (freshL wr base v)) xs css) (hb1 : Below wr.heap.size wr w1)
    (hx : R w1 (fun i => wr.heap.size ≤ i ∧ Loose w1 i) x cs) (hbase : base ≤ wr.heap.size) (hg : (w1.alloc o).grownBy w2 v.ownBlock) (hat : v'.ownBlock = v.ownBlock ∨ v'.ownBlock = some (w1.alloc o).heap.size) (hown' : w2.ownsRow base t k v' (xs.length + 1) (css.flatten ++ cs)) :
    OwnRows R k t w2 base v' (xs ++ [x]) := by
  have hal : Below w1.heap.size w1 (w1.alloc o) := (Below.refl _ _).alloc (Nat.le_refl _) _
  have hz := hb1.size
  refine ⟨css ++ [cs], by rw [List.length_append, List.flatten_append]; simpa using hown', (hys.imp fun _ _ hy => hR.keep hy fun A n sz ys hr => ?_).snoc (hR.keep hx fun A n sz ys hr => ?_)⟩
  · exact ((hr.below hb1).below hal).push (row := v) hg hat (fun i _ hs => hs.2.1) (fun i _ hs hn => ⟨hs.1, hn, ((hs.2.2.below hb1).alloc o).grown hg hs.2.1⟩)
  · exact (hr.below hal).push (row := v) hg hat (fun i _ hs e => by have := hown.lt i e; omega) (fun i _ hs hn => ⟨by omega, hn, (hs.2.alloc o).grown hg (fun e => by have := hown.lt i e; omega)⟩)
theorem OwnRows.rows (hR : Fine R k) {t : TypeId} {w : World} {base : Nat} {v : Value} {xs : List α} (h : OwnRows R k t w base v xs) (hl : xs.length * bytes ≤ 140737488355328) : Rows R k bytes w (fun i => base ≤ i ∧ i < w.heap.size) v xs := by
  obtain ⟨css, h1, h2⟩ := h
  have h3 : All2 (R w (fun i => base ≤ i ∧ i < w.heap.size)) xs css := h2.imp fun _ _ hx => hR.keep hx fun _ _ _ _ hr => hr.mono fun i hi => ⟨hi.1, hi.2.2.lt⟩
  rcases h1.2 with ⟨rfl, h0⟩ | ⟨g, cap, cur, rfl, hbg, hh, hcap, hcm, _⟩
  · have : xs = [] := List.eq_nil_of_length_eq_zero h0
    subst this
    exact ⟨none, 0, css, rfl, Nat.le_refl _, by omega, by simp, ⟨h1.1, fun h => absurd h (by simp)⟩, h3⟩
  · have hlt : g < w.heap.size := (Array.getElem?_eq_some_iff.1 hh).1
    refine ⟨_, _, css, rfl, hcap, by unfold maxLen at hcm; omega, hl, ⟨h1.1, fun _ => ⟨g, 0, rfl, ⟨hbg, hlt⟩, hlt, fun j u hu => ?_⟩⟩, h3⟩
    have := h1.cells (g := g) rfl j u hu
    rwa [Addr.add_lit] at this
end
/-- a file as the interface has it. -/
def flR : Rd Fl := fun w S f cs => ∃ v, cs = [.string ⟨f.name.toArray⟩, v, .int .i64 f.synced] ∧ Byt w S v f.data ∧ f.name.length ≤ 140737488355328
theorem Byt.keepR {w w' : World} {S S' : Nat → Prop} {v : Value} {bs : List UInt8} (h : Byt w S v bs) (hk : ∀ A n sz xs, Row w S A n sz xs → Row w' S' A n sz xs) : Byt w' S' v bs := by
  obtain ⟨A, c, e, h1, h2, h3, h4⟩ := h
  exact ⟨A, c, e, h1, h2, h3, hk _ _ _ _ h4⟩
theorem flFine : Fine flR 3 := ⟨fun h => by obtain ⟨v, rfl, _⟩ := h; rfl, fun h hk => by obtain ⟨v, rfl, h1, h2⟩ := h; exact ⟨v, rfl, h1.keepR hk, h2⟩⟩
abbrev FilesV (w : World) (S : Nat → Prop) (v : Value) (fs : List Fl) : Prop := Rows flR 3 48 w S v fs
abbrev OwnFiles (w : World) (base : Nat) (v : Value) (fs : List Fl) : Prop := OwnRows flR 3 37 w base v fs
theorem infoF : (Try.prog.info? 37).map (fun i => (i.zero, i.size, i.bytes)) = some (some (.agg #[.string ⟨#[]⟩, .slice none 0 0, .int .i64 0]), 3, 48) := by kernel_rfl
end Go.Proofs.Ytcmjoaepihbodaa
