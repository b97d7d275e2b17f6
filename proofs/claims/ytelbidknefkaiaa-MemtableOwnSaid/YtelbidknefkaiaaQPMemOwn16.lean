/-
Put: what a new node does to the towers in memory.
-/
import Derived.Test.YtelbidknefkaiaaQPMemOwn15
section
namespace Go.Proofs.Ytelbidknefkaiaa
open Go.RowKit
/-- a block of cells of a type. -/
def Shape (w : World) (b : Nat) (t : TypeId) (k : Nat) : Prop := ∃ cs : Array Value, w.heap[b]? = some (.cells cs t (0, 0)) ∧ cs.size = k
section
variable {w : World} {b k : Nat} {t : TypeId}
theorem Shape.lt (h : Shape w b t k) : b < w.heap.size := by
  obtain ⟨cs, h1, _⟩ := h
  exact (Array.getElem?_eq_some_iff.1 h1).1
theorem Shape.of_eq {w' : World} (h : Shape w b t k) (e : w'.heap[b]? = w.heap[b]?) : Shape w' b t k := by
  obtain ⟨cs, h1, h2⟩ := h
  exact ⟨cs, e.trans h1, h2⟩
theorem Shape.below {w' : World} (h : Shape w b t k) (hb : Below w.heap.size w w') : Shape w' b t k := h.of_eq (hb.block b h.lt)
theorem Shape.setCell (h : Shape w b t k) (c i : Nat) (v : Value) : Shape (w.setCell ⟨c, i, none⟩ v) b t k := by
  obtain ⟨cs, h1, h2⟩ := h
  by_cases e : b = c
  · subst e
    exact ⟨_, heap_setCell_same w b i cs t v h1, by simpa using h2⟩
  · exact ⟨cs, (heap_setCell_other w ⟨c, i, none⟩ b v e).trans h1, h2⟩
theorem Shape.cell (h : Shape w b t k) {i : Nat} (hi : i < k) : ∃ v, w.cell? ⟨b, i, none⟩ = some v := by
  obtain ⟨cs, h1, h2⟩ := h
  exact ⟨_, (cell_of_row w b i cs _ _ h1).trans (Array.getElem?_eq_getElem (by omega))⟩
theorem Shape.frozen (h : Shape w b t k) (i : Nat) : w.frozen? ⟨b, i, none⟩ = false := by
  obtain ⟨cs, h1, _⟩ := h
  exact frozen_of_row w b i cs _ h1
theorem Shape.uniq {t' : TypeId} {k' : Nat} (h : Shape w b t k) (h' : Shape w b t' k') : t = t' := by
  obtain ⟨cs, h1, _⟩ := h
  obtain ⟨cs', h2, _⟩ := h'
  rw [h1] at h2
  injection h2 with h2
  injection h2
theorem set_cell (h : Shape w b t k) {i : Nat} (hi : i < k) (v : Value) (c j : Nat) : (w.setCell ⟨b, i, none⟩ v).cell? ⟨c, j, none⟩ = if c = b ∧ j = i then some v else w.cell? ⟨c, j, none⟩ := by
  split
  · rename_i e
    obtain ⟨rfl, rfl⟩ := e
    obtain ⟨u, hu⟩ := h.cell hi
    exact World.cell?_setCell_same _ _ _ hu
  · rename_i e
    exact World.cell?_setCell_other _ _ _ _ (by rintro ⟨⟩; exact e ⟨rfl, rfl⟩)
theorem BytL.set (hs : Shape w b t k) (ht : t ≠ 5) {lo : Nat} {v : Value} {bs : List UInt8} (h : BytL w lo v bs) (i : Nat) (x : Value) : BytL (w.setCell ⟨b, i, none⟩ x) lo v bs := by
  have ho : Only (fun j => j = b) w (w.setCell ⟨b, i, none⟩ x) := (Only.refl (fun j => j = b) _).setCell (p := ⟨b, i, none⟩) rfl _
  have hne : ∀ j, Loose w j → j ≠ b := by
    rintro j ⟨cs, hc⟩ rfl
    exact ht (hs.uniq ⟨cs, hc, rfl⟩)
  exact Byt.mono (Byt.only (T := fun i => lo ≤ i ∧ Loose w i) h ho fun j _ hj => hne j hj.2) fun j hj => ⟨hj.1, hj.2.only ho (hne j hj.2)⟩
end
structure NodeC (w : World) (n : Nd) (l : List Nd) : Prop where
  shape : Shape w n.blk 71 16
  c0 : w.cell? ⟨n.blk, 0, none⟩ = some n.k
  c1 : w.cell? ⟨n.blk, 1, none⟩ = some (.int .i64 n.ent.seq)
  c2 : w.cell? ⟨n.blk, 2, none⟩ = some (.bool n.ent.dead)
  c3 : w.cell? ⟨n.blk, 3, none⟩ = some n.u
  next : ∀ f, f < 12 → w.cell? ⟨n.blk, 4 + f, none⟩ = some (nextV f n l)
structure TabC (w : World) (T : Nat) (ns : List Nd) (hs : Value) (many : Int) : Prop where
  shape : Shape w T 76 18
  c16 : w.cell? ⟨T, 16, none⟩ = some hs
  c17 : w.cell? ⟨T, 17, none⟩ = some (.int .i64 many)
  next : ∀ f, f < 12 → w.cell? ⟨T, 4 + f, none⟩ = some (ptrN (nextF f ns))
section
variable {w : World} {base T : Nat} {ns : List Nd} {hs : Value} {many : Int}
theorem SkipV.tabC (h : SkipV w base T ns hs many) : TabC w T ns hs many := by
  obtain ⟨cs, h1, h2, h3, h4, h5⟩ := h.tab
  refine ⟨⟨cs, h1, h2⟩, ?_, ?_, fun f hf => ?_⟩
  · rw [cell_of_row w T _ cs _ _ h1]; exact h3
  · rw [cell_of_row w T _ cs _ _ h1]; exact h4
  · rw [cell_of_row w T _ cs _ _ h1]; exact h5 f hf
theorem SkipV.nodeC (h : SkipV w base T ns hs many) {i : Nat} {n : Nd} (hn : ns[i]? = some n) : NodeC w n (ns.drop (i + 1)) := by
  obtain ⟨cs, h1, h2, c0, c1, c2, c3, h5⟩ := h.node i n hn
  refine ⟨⟨cs, h1, h2⟩, ?_, ?_, ?_, ?_, fun f hf => ?_⟩
  · rw [cell_of_row w _ _ cs _ _ h1]; exact c0
  · rw [cell_of_row w _ _ cs _ _ h1]; exact c1
  · rw [cell_of_row w _ _ cs _ _ h1]; exact c2
  · rw [cell_of_row w _ _ cs _ _ h1]; exact c3
  · rw [cell_of_row w _ _ cs _ _ h1]; exact h5 f hf
theorem SkipV.of_cells (ord : inOrder ns) (tab : TabC w T ns hs many) (node : ∀ (i : Nat) (n : Nd), ns[i]? = some n → NodeC w n (ns.drop (i + 1)))
    (byt : ∀ n ∈ ns, BytL w base n.k n.ent.key ∧ BytL w base n.u n.ent.val) (hi : ∀ n ∈ ns, n.h ≤ 12) (diff : ∀ (i j : Nat) (n m : Nd), ns[i]? = some n → ns[j]? = some m → n.blk = m.blk → i = j) (lo : ∀ n ∈ ns, base ≤ n.blk) : SkipV w base T ns hs many := by
  refine ⟨ord, ?_, fun i n hn => ?_, byt, hi, diff, lo⟩
  · obtain ⟨⟨cs, h1, h2⟩, h3, h4, h5⟩ := tab
    refine ⟨cs, h1, h2, ?_, ?_, fun f hf => ?_⟩
    · rw [← cell_of_row w T _ cs _ _ h1]; exact h3
    · rw [← cell_of_row w T _ cs _ _ h1]; exact h4
    · rw [← cell_of_row w T _ cs _ _ h1]; exact h5 f hf
  · obtain ⟨⟨cs, h1, h2⟩, c0, c1, c2, c3, h5⟩ := node i n hn
    refine ⟨cs, h1, h2, ?_, ?_, ?_, ?_, fun f hf => ?_⟩
    · rw [← cell_of_row w _ _ cs _ _ h1]; exact c0
    · rw [← cell_of_row w _ _ cs _ _ h1]; exact c1
    · rw [← cell_of_row w _ _ cs _ _ h1]; exact c2
    · rw [← cell_of_row w _ _ cs _ _ h1]; exact c3
    · rw [← cell_of_row w _ _ cs _ _ h1]; exact h5 f hf
end
theorem nth_cases {pre post : List Nd} {x n : Nd} {i : Nat} (h : (pre ++ x :: post)[i]? = some n) :
    (i < pre.length ∧ pre[i]? = some n ∧ ∀ y : Nd, (pre ++ y :: post)[i]? = some n ∧ (pre ++ y :: post).drop (i + 1) = pre.drop (i + 1) ++ y :: post) ∨ (i = pre.length ∧ n = x) ∨ ∃ j, i = pre.length + 1 + j ∧ post[j]? = some n ∧ ∀ y : Nd, (pre ++ y :: post)[i]? = some n ∧ (pre ++ y :: post).drop (i + 1) = post.drop (j + 1) := by
  rcases Nat.lt_trichotomy i pre.length with hi | hi | hi
  · refine .inl ⟨hi, ?_, fun y => ⟨?_, ?_⟩⟩
    · rwa [List.getElem?_append_left hi] at h
    · rw [List.getElem?_append_left hi] at h ⊢; exact h
    · rw [List.drop_append_of_le_length (by omega)]
  · subst hi
    rw [List.getElem?_append_right (Nat.le_refl _), Nat.sub_self] at h
    exact .inr (.inl ⟨rfl, by simpa using h.symm⟩)
  · obtain ⟨j, rfl⟩ : ∃ j, i = pre.length + 1 + j := ⟨i - pre.length - 1, by omega⟩
    have e : ∀ y : Nd, (pre ++ y :: post)[pre.length + 1 + j]? = post[j]? := fun y => by
      rw [List.getElem?_append_right (by omega), show pre.length + 1 + j - pre.length = j + 1 by omega]; rfl
    rw [e] at h
    refine .inr (.inr ⟨j, rfl, h, fun y => ⟨(e y).trans h, ?_⟩⟩)
    rw [List.drop_append, List.drop_eq_nil_of_le (by omega), List.nil_append, show pre.length + 1 + j + 1 - pre.length = (j + 1) + 1 by omega]
    rfl
theorem mid_at {pre post : List Nd} (x : Nd) : (pre ++ x :: post)[pre.length]? = some x := by simp
theorem mid_drop {pre post : List Nd} (x : Nd) : (pre ++ x :: post).drop (pre.length + 1) = post := by
  rw [List.drop_append, List.drop_eq_nil_of_le (by omega), List.nil_append, show pre.length + 1 - pre.length = 1 by omega]; rfl
theorem inOrder_mid {pre post : List Nd} {x x' : Nd} (he : x'.ent = x.ent) (h : inOrder (pre ++ x :: post)) : inOrder (pre ++ x' :: post) := by
  unfold inOrder at h ⊢
  rw [List.pairwise_append, List.pairwise_cons] at h ⊢
  obtain ⟨h1, ⟨h2, h3⟩, h4⟩ := h
  refine ⟨h1, ⟨fun a ha => by rw [he]; exact h2 a ha, h3⟩, fun a ha b hb => ?_⟩
  rcases List.mem_cons.1 hb with rfl | hb
  · rw [he]; exact h4 a ha x (by simp)
  · exact h4 a ha b (List.mem_cons_of_mem _ hb)
theorem nextF_left {f : Nat} {a b : List Nd} {n : Nd} (h : nextF f a = some n) : nextF f (a ++ b) = some n := by
  unfold nextF at h ⊢
  rw [List.find?_append, h]; rfl
theorem nextF_zero (f : Nat) (a b : List Nd) (x : Nd) (hx : x.h = 0) : nextF f (a ++ x :: b) = nextF f (a ++ b) := by
  unfold nextF
  rw [List.find?_append, List.find?_append, List.find?_cons]
  have : up f x = false := by simp [up, hx]
  rw [this]
theorem nextF_ne {g : Nat} {a b : List Nd} {x x' : Nd} (hb : x'.blk = x.blk) (hu : up g x' = up g x) : ptrN (nextF g (a ++ x' :: b)) = ptrN (nextF g (a ++ x :: b)) := by
  unfold nextF
  rw [List.find?_append, List.find?_append, List.find?_cons, List.find?_cons, hu]
  cases a.find? (up g) with
  | some y => rfl
  | none =>
    cases up g x with
    | true => simp [ptrN, hb]
    | false => rfl
/-- the last of a list: nobody behind it is so high. -/
theorem lastF_split {f : Nat} {l : List Nd} {p : Nd} (h : lastF f l = some p) : ∃ j, l[j]? = some p ∧ up f p = true ∧ ∀ x ∈ l.drop (j + 1), up f x = false := by
  induction l with
  | nil => cases h
  | cons x l ih =>
    rw [lastF] at h
    cases hl : lastF f l with
    | some y =>
      rw [hl] at h
      obtain ⟨j, h1, h2, h3⟩ := ih (hl.trans h)
      exact ⟨j + 1, by simpa using h1, h2, by simpa using h3⟩
    | none =>
      rw [hl] at h
      simp only at h
      split at h
      · rename_i hu
        injection h with h
        subst h
        refine ⟨0, rfl, hu, fun y hy => ?_⟩
        simp at hy
        cases hy' : up f y with
        | false => rfl
        | true =>
          exfalso
          clear ih hu
          induction l with
          | nil => simp at hy
          | cons z l ih =>
            rw [lastF] at hl
            cases hz : lastF f l with
            | some q => rw [hz] at hl; cases hl
            | none =>
              rw [hz] at hl
              simp only at hl
              split at hl
              · cases hl
              · rename_i hzu
                rcases List.mem_cons.1 hy with rfl | hy
                · exact hzu hy'
                · exact ih hz hy
      · cases h
theorem lastF_no {f : Nat} {l : List Nd} (h : lastF f l = none) : ∀ x ∈ l, up f x = false := by
  induction l with
  | nil => intro x hx; simp at hx
  | cons z l ih =>
    rw [lastF] at h
    cases hz : lastF f l with
    | some q => rw [hz] at h; cases h
    | none =>
      rw [hz] at h
      simp only at h
      split at h
      · cases h
      · rename_i hzu
        intro x hx
        rcases List.mem_cons.1 hx with rfl | hx
        · simpa using hzu
        · exact ih hz x hx
theorem nextF_has {f : Nat} {l : List Nd} {p : Nd} (h : p ∈ l) (hu : up f p = true) : ∃ n, nextF f l = some n := by
  cases hn : nextF f l with
  | some n => exact ⟨n, rfl⟩
  | none => rw [nextF_none hn p h] at hu; cases hu
section
variable {w : World} {base T : Nat} {hs : Value} {many : Int} {pre post : List Nd} {blk f : Nat} {e : Ent} {k u : Value}
/-- where the floor's last one below lies. -/
theorem SkipV.pred (h : SkipV w base T (pre ++ ⟨blk, e, f, k, u⟩ :: post) hs many) : (∃ t z, Shape w (blkOf T (lastF f pre)) t z ∧ 16 ≤ z ∧ t ≠ 5) ∧ blkOf T (lastF f pre) ≠ blk := by
  cases hl : lastF f pre with
  | none => exact ⟨⟨_, _, h.tabC.shape, by omega, by decide⟩, fun e' => h.neT (n := ⟨blk, e, f, k, u⟩) (by simp) e'.symm⟩
  | some p =>
    obtain ⟨j, h1, _⟩ := lastF_split hl
    have hj := (List.getElem?_eq_some_iff.1 h1).1
    have h2 : (pre ++ (⟨blk, e, f, k, u⟩ : Nd) :: post)[j]? = some p := by rw [List.getElem?_append_left hj]; exact h1
    refine ⟨⟨_, _, (h.nodeC h2).shape, by omega, by decide⟩, fun e => ?_⟩
    have := h.diff _ _ _ _ h2 (mid_at _) e
    omega
/-- one floor more. -/
theorem SkipV.raise (h : SkipV w base T (pre ++ ⟨blk, e, f, k, u⟩ :: post) hs many) (hf : f < 12) : SkipV ((w.setCell ⟨blk, 4 + f, none⟩ (ptrN (nextF f post))).setCell ⟨blkOf T (lastF f pre), 4 + f, none⟩ (.pointer (some ⟨blk, 0, none⟩))) base T (pre ++ ⟨blk, e, f + 1, k, u⟩ :: post) hs many := by
  obtain ⟨⟨tp, zp, hP, hzp, htp⟩, hne⟩ := h.pred
  have hX := (h.nodeC (mid_at (⟨blk, e, f, k, u⟩ : Nd))).shape
  have hP' := hP.setCell blk (4 + f) (ptrN (nextF f post))
  have hc : ∀ c j, ((w.setCell ⟨blk, 4 + f, none⟩ (ptrN (nextF f post))).setCell ⟨blkOf T (lastF f pre), 4 + f, none⟩ (.pointer (some ⟨blk, 0, none⟩))).cell? ⟨c, j, none⟩ = if c = blkOf T (lastF f pre) ∧ j = 4 + f then some (.pointer (some ⟨blk, 0, none⟩)) else if c = blk ∧ j = 4 + f then some (ptrN (nextF f post)) else w.cell? ⟨c, j, none⟩ := fun c j => by
    rw [set_cell hP' (by omega), set_cell hX (show 4 + f < 16 by omega)]
  have hlow : ∀ c j, j ≠ 4 + f → ((w.setCell ⟨blk, 4 + f, none⟩ (ptrN (nextF f post))).setCell ⟨blkOf T (lastF f pre), 4 + f, none⟩ (.pointer (some ⟨blk, 0, none⟩))).cell? ⟨c, j, none⟩ = w.cell? ⟨c, j, none⟩ := fun c j hj => by
    rw [hc, if_neg (fun e => hj e.2), if_neg (fun e => hj e.2)]
  have hoth : ∀ c j, c ≠ blkOf T (lastF f pre) → c ≠ blk → ((w.setCell ⟨blk, 4 + f, none⟩ (ptrN (nextF f post))).setCell ⟨blkOf T (lastF f pre), 4 + f, none⟩ (.pointer (some ⟨blk, 0, none⟩))).cell? ⟨c, j, none⟩ = w.cell? ⟨c, j, none⟩ := fun c j h1 h2 => by
    rw [hc, if_neg (fun e => h1 e.1), if_neg (fun e => h2 e.1)]
  have hpred : ((w.setCell ⟨blk, 4 + f, none⟩ (ptrN (nextF f post))).setCell ⟨blkOf T (lastF f pre), 4 + f, none⟩ (.pointer (some ⟨blk, 0, none⟩))).cell? ⟨blkOf T (lastF f pre), 4 + f, none⟩ = some (.pointer (some ⟨blk, 0, none⟩)) := by rw [hc, if_pos ⟨rfl, rfl⟩]
  have hown : ((w.setCell ⟨blk, 4 + f, none⟩ (ptrN (nextF f post))).setCell ⟨blkOf T (lastF f pre), 4 + f, none⟩ (.pointer (some ⟨blk, 0, none⟩))).cell? ⟨blk, 4 + f, none⟩ = some (ptrN (nextF f post)) := by rw [hc, if_neg (fun e => hne e.1.symm), if_pos ⟨rfl, rfl⟩]
  have hsh : ∀ c t z, Shape w c t z → Shape ((w.setCell ⟨blk, 4 + f, none⟩ (ptrN (nextF f post))).setCell ⟨blkOf T (lastF f pre), 4 + f, none⟩ (.pointer (some ⟨blk, 0, none⟩))) c t z := fun c t z h => (h.setCell _ _ _).setCell _ _ _
  have hbyt : ∀ v bs, BytL w base v bs → BytL ((w.setCell ⟨blk, 4 + f, none⟩ (ptrN (nextF f post))).setCell ⟨blkOf T (lastF f pre), 4 + f, none⟩ (.pointer (some ⟨blk, 0, none⟩))) base v bs := fun v bs h => BytL.set hP' htp (BytL.set hX (by decide) h _ _) _ _
  generalize (w.setCell ⟨blk, 4 + f, none⟩ (ptrN (nextF f post))).setCell ⟨blkOf T (lastF f pre), 4 + f, none⟩ (.pointer (some ⟨blk, 0, none⟩)) = w2 at *
  have hupx : up f (⟨blk, e, f + 1, k, u⟩ : Nd) = true := by simp [up]
  have hupg : ∀ g, g ≠ f → up g (⟨blk, e, f + 1, k, u⟩ : Nd) = up g (⟨blk, e, f, k, u⟩ : Nd) := fun g hg => by
    simp only [up]
    by_cases h : g < f
    · rw [decide_eq_true h, decide_eq_true (by omega)]
    · rw [decide_eq_false h, decide_eq_false (by omega)]
  have hput : ∀ a : List Nd, (∀ x ∈ a, up f x = false) → ptrN (nextF f (a ++ (⟨blk, e, f + 1, k, u⟩ : Nd) :: post)) = .pointer (some ⟨blk, 0, none⟩) := fun a ha => by
    rw [nextF_skip ha]
    unfold nextF
    rw [List.find?_cons, hupx]; rfl
  refine SkipV.of_cells (inOrder_mid (x := ⟨blk, e, f, k, u⟩) rfl h.ord) ?_ ?_ ?_ ?_ ?_ ?_
  · have tc := h.tabC
    refine ⟨hsh _ _ _ tc.shape, ?_, ?_, fun g hg => ?_⟩
    · rw [hlow _ _ (by omega)]; exact tc.c16
    · rw [hlow _ _ (by omega)]; exact tc.c17
    · by_cases hgf : g = f
      · subst hgf
        cases hl : lastF g pre with
        | none =>
          rw [hput pre (lastF_no hl)]
          rw [hl] at hpred
          exact hpred
        | some p =>
          obtain ⟨j, h1, h2, h3⟩ := lastF_split hl
          have hTne : T ≠ blkOf T (lastF g pre) := by
            rw [hl]
            exact fun e => h.neT (n := p) (by simp [List.mem_of_getElem? h1]) e.symm
          have hTb : T ≠ blk := fun e' => h.neT (n := ⟨blk, e, g, k, u⟩) (by simp) e'.symm
          obtain ⟨q, hq⟩ := nextF_has (List.mem_of_getElem? h1) h2
          have := tc.next g hg
          rw [nextF_left hq] at this ⊢
          rw [hoth _ _ hTne hTb]
          exact this
      · rw [hlow _ _ (by omega), nextF_ne (x := ⟨blk, e, f, k, u⟩) (x' := ⟨blk, e, f + 1, k, u⟩) rfl (hupg g hgf)]
        exact tc.next g hg
  · intro i n hn
    rcases nth_cases hn with ⟨hi, hpi, hall⟩ | ⟨rfl, rfl⟩ | ⟨j, rfl, hpj, hall⟩
    · have hn0 := (hall ⟨blk, e, f, k, u⟩).1
      have nc := h.nodeC hn0
      have hbk : n.blk ≠ blk := fun e' => by have := h.diff _ _ _ _ hn0 (mid_at _) e'; omega
      refine ⟨hsh _ _ _ nc.shape, ?_, ?_, ?_, ?_, fun g hg => ?_⟩
      · rw [hlow _ _ (by omega)]; exact nc.c0
      · rw [hlow _ _ (by omega)]; exact nc.c1
      · rw [hlow _ _ (by omega)]; exact nc.c2
      · rw [hlow _ _ (by omega)]; exact nc.c3
      · have hold := nc.next g hg
        rw [(hall _).2]
        rw [(hall _).2] at hold
        by_cases hgf : g = f
        · subst hgf
          by_cases hhn : g < n.h
          · have hupn : up g n = true := by simpa [up] using hhn
            rw [nextV, if_pos hhn] at hold ⊢
            cases hl : lastF g pre with
            | none => rw [lastF_no hl n (List.mem_of_getElem? hpi)] at hupn; cases hupn
            | some p =>
              obtain ⟨j, h1, h2, h3⟩ := lastF_split hl
              have hjl := (List.getElem?_eq_some_iff.1 h1).1
              rcases Nat.lt_trichotomy i j with hij | hij | hij
              · have hmem : p ∈ pre.drop (i + 1) := by
                  have : (pre.drop (i + 1))[j - (i + 1)]? = some p := by rw [List.getElem?_drop, show i + 1 + (j - (i + 1)) = j by omega]; exact h1
                  exact List.mem_of_getElem? this
                obtain ⟨q, hq⟩ := nextF_has hmem h2
                rw [nextF_left hq] at hold ⊢
                rw [hoth _ _ ?_ hbk]
                · exact hold
                · rw [hl]
                  intro e'
                  have h1' : (pre ++ (⟨blk, e, g, k, u⟩ : Nd) :: post)[j]? = some p := by rw [List.getElem?_append_left hjl]; exact h1
                  have := h.diff _ _ _ _ hn0 h1' e'
                  omega
              · subst hij
                rw [hpi] at h1
                injection h1 with h1
                subst h1
                rw [hput _ h3]
                rw [hl] at hpred
                exact hpred
              · exfalso
                have hmem : n ∈ pre.drop (j + 1) := by
                  have : (pre.drop (j + 1))[i - (j + 1)]? = some n := by rw [List.getElem?_drop, show j + 1 + (i - (j + 1)) = i by omega]; exact hpi
                  exact List.mem_of_getElem? this
                rw [h3 n hmem] at hupn
                cases hupn
          · rw [nextV, if_neg hhn] at hold ⊢
            have hnu : ¬ up g n = true := by simpa [up] using hhn
            rw [hoth _ _ ?_ hbk]
            · exact hold
            · cases hl : lastF g pre with
              | none => exact h.neT (List.mem_of_getElem? hn0)
              | some p =>
                obtain ⟨j, h1, h2, h3⟩ := lastF_split hl
                have hjl := (List.getElem?_eq_some_iff.1 h1).1
                intro e'
                have h1' : (pre ++ (⟨blk, e, g, k, u⟩ : Nd) :: post)[j]? = some p := by rw [List.getElem?_append_left hjl]; exact h1
                have hij := h.diff _ _ _ _ hn0 h1' e'
                subst hij
                rw [hpi] at h1
                injection h1 with h1
                subst h1
                exact hnu h2
        · rw [hlow _ _ (by omega)]
          rw [hold]
          unfold nextV
          split
          · rw [nextF_ne (x := ⟨blk, e, f, k, u⟩) (x' := ⟨blk, e, f + 1, k, u⟩) rfl (hupg g hgf)]
          · rfl
    · have nc := h.nodeC (mid_at (pre := pre) (post := post) ⟨blk, e, f, k, u⟩)
      refine ⟨hsh _ _ _ nc.shape, ?_, ?_, ?_, ?_, fun g hg => ?_⟩
      · rw [hlow _ _ (by omega)]; exact nc.c0
      · rw [hlow _ _ (by omega)]; exact nc.c1
      · rw [hlow _ _ (by omega)]; exact nc.c2
      · rw [hlow _ _ (by omega)]; exact nc.c3
      · rw [mid_drop]
        have hold := nc.next g hg
        rw [mid_drop] at hold
        by_cases hgf : g = f
        · subst hgf
          rw [nextV, if_pos (by show g < g + 1; omega)]
          exact hown
        · rw [hlow _ _ (by omega)]
          show w.cell? ⟨blk, 4 + g, none⟩ = _
          rw [show w.cell? ⟨blk, 4 + g, none⟩ = _ from hold]
          unfold nextV
          by_cases h : g < f
          · rw [if_pos (by exact h), if_pos (by show g < f + 1; omega)]
          · rw [if_neg (by exact h), if_neg (by show ¬ g < f + 1; omega)]
    · have hn0 := (hall ⟨blk, e, f, k, u⟩).1
      have nc := h.nodeC hn0
      have hbk : n.blk ≠ blk := fun e' => by have := h.diff _ _ _ _ hn0 (mid_at _) e'; omega
      have hpb : n.blk ≠ blkOf T (lastF f pre) := by
        cases hl : lastF f pre with
        | none => exact h.neT (List.mem_of_getElem? hn0)
        | some p =>
          obtain ⟨i, h1, _⟩ := lastF_split hl
          have hjl := (List.getElem?_eq_some_iff.1 h1).1
          intro e'
          have h1' : (pre ++ (⟨blk, e, f, k, u⟩ : Nd) :: post)[i]? = some p := by rw [List.getElem?_append_left hjl]; exact h1
          have := h.diff _ _ _ _ hn0 h1' e'
          omega
      refine ⟨hsh _ _ _ nc.shape, ?_, ?_, ?_, ?_, fun g hg => ?_⟩
      · rw [hlow _ _ (by omega)]; exact nc.c0
      · rw [hlow _ _ (by omega)]; exact nc.c1
      · rw [hlow _ _ (by omega)]; exact nc.c2
      · rw [hlow _ _ (by omega)]; exact nc.c3
      · have hold := nc.next g hg
        rw [(hall _).2] at hold ⊢
        rw [hoth _ _ hpb hbk]
        exact hold
  · intro n hn
    have go : ∀ x : Nd, x ∈ pre ++ (⟨blk, e, f, k, u⟩ : Nd) :: post → BytL w2 base x.k x.ent.key ∧ BytL w2 base x.u x.ent.val := fun x hx => ⟨hbyt _ _ (h.byt x hx).1, hbyt _ _ (h.byt x hx).2⟩
    rcases List.mem_append.1 hn with hn | hn
    · exact go n (by simp [hn])
    · rcases List.mem_cons.1 hn with rfl | hn
      · exact go ⟨blk, e, f, k, u⟩ (by simp)
      · exact go n (by simp [hn])
  · intro n hn
    rcases List.mem_append.1 hn with hn | hn
    · exact h.hi n (by simp [hn])
    · rcases List.mem_cons.1 hn with rfl | hn
      · exact hf
      · exact h.hi n (by simp [hn])
  · intro i j n m hn hm hb
    have go : ∀ (i : Nat) (n : Nd), (pre ++ (⟨blk, e, f + 1, k, u⟩ : Nd) :: post)[i]? = some n → ∃ n0 : Nd, (pre ++ (⟨blk, e, f, k, u⟩ : Nd) :: post)[i]? = some n0 ∧ n0.blk = n.blk := fun i n hn => by
      rcases nth_cases hn with ⟨hi, hpi, hall⟩ | ⟨rfl, rfl⟩ | ⟨j, rfl, hpj, hall⟩
      · exact ⟨n, (hall _).1, rfl⟩
      · exact ⟨_, mid_at _, rfl⟩
      · exact ⟨n, (hall _).1, rfl⟩
    obtain ⟨n0, h1, h2⟩ := go i n hn
    obtain ⟨m0, h3, h4⟩ := go j m hm
    exact h.diff i j n0 m0 h1 h3 (by rw [h2, h4, hb])
  · intro n hn
    rcases List.mem_append.1 hn with hn | hn
    · exact h.lo n (by simp [hn])
    · rcases List.mem_cons.1 hn with rfl | hn
      · exact h.lo ⟨blk, e, f, k, u⟩ (by simp)
      · exact h.lo n (by simp [hn])
/-- a new node that stands on no floor yet. -/
theorem SkipV.lay (h : SkipV w base T (pre ++ post) hs many) (ho : inOrder (pre ++ ⟨blk, e, 0, k, u⟩ :: post)) (hnew : ∀ n ∈ pre ++ post, n.blk ≠ blk) (hb : base ≤ blk) (hk : BytL w base k e.key) (hu : BytL w base u e.val)
    (hcs : NodeC w ⟨blk, e, 0, k, u⟩ post) : SkipV w base T (pre ++ ⟨blk, e, 0, k, u⟩ :: post) hs many := by
  have hcase : ∀ (i : Nat) (n : Nd), (pre ++ (⟨blk, e, 0, k, u⟩ : Nd) :: post)[i]? = some n → n = ⟨blk, e, 0, k, u⟩ ∨ ∃ j, (pre ++ post)[j]? = some n ∧ ((i < pre.length ∧ j = i) ∨ (i = j + 1 ∧ pre.length ≤ j)) := fun i n hn => by
    rcases nth_cases hn with ⟨hi, hpi, hall⟩ | ⟨rfl, rfl⟩ | ⟨j, rfl, hpj, hall⟩
    · exact .inr ⟨i, by rw [List.getElem?_append_left hi]; exact hpi, .inl ⟨hi, rfl⟩⟩
    · exact .inl rfl
    · exact .inr ⟨pre.length + j, by rw [List.getElem?_append_right (by omega), show pre.length + j - pre.length = j by omega]; exact hpj, .inr ⟨by omega, by omega⟩⟩
  have hmem : ∀ n ∈ pre ++ (⟨blk, e, 0, k, u⟩ : Nd) :: post, n = ⟨blk, e, 0, k, u⟩ ∨ n ∈ pre ++ post := fun n hn => by
    obtain ⟨i, hi⟩ := List.getElem?_of_mem hn
    rcases hcase i n hi with h | ⟨j, hj, _⟩
    · exact .inl h
    · exact .inr (List.mem_of_getElem? hj)
  have tc := h.tabC
  refine SkipV.of_cells ho ⟨tc.shape, tc.c16, tc.c17, fun f hf => by rw [nextF_zero f _ _ _ rfl]; exact tc.next f hf⟩ ?_ ?_ ?_ ?_ ?_
  · intro i n hn
    rcases nth_cases hn with ⟨hi, hpi, hall⟩ | ⟨rfl, rfl⟩ | ⟨j, rfl, hpj, hall⟩
    · have nc := h.nodeC (show (pre ++ post)[i]? = some n by rw [List.getElem?_append_left hi]; exact hpi)
      rw [List.drop_append_of_le_length (by omega)] at nc
      rw [(hall _).2]
      refine ⟨nc.shape, nc.c0, nc.c1, nc.c2, nc.c3, fun f hf => ?_⟩
      have := nc.next f hf
      rw [this]
      unfold nextV
      rw [nextF_zero f _ _ _ rfl]
    · rw [mid_drop]; exact hcs
    · have nc := h.nodeC (show (pre ++ post)[pre.length + j]? = some n by rw [List.getElem?_append_right (by omega), show pre.length + j - pre.length = j by omega]; exact hpj)
      rw [List.drop_append, List.drop_eq_nil_of_le (by omega), List.nil_append, show pre.length + j + 1 - pre.length = j + 1 by omega] at nc
      rw [(hall _).2]
      exact nc
  · intro n hn
    rcases hmem n hn with rfl | hn
    · exact ⟨hk, hu⟩
    · exact h.byt n hn
  · intro n hn
    rcases hmem n hn with rfl | hn
    · exact Nat.zero_le _
    · exact h.hi n hn
  · intro i j n m hn hm hb
    rcases nth_cases hn with ⟨hi, hpi, _⟩ | ⟨rfl, rfl⟩ | ⟨a, rfl, hpa, _⟩
    · have h1 : (pre ++ post)[i]? = some n := by rw [List.getElem?_append_left hi]; exact hpi
      rcases nth_cases hm with ⟨hj, hpj, _⟩ | ⟨rfl, rfl⟩ | ⟨b, rfl, hpb, _⟩
      · exact h.diff i j n m h1 (by rw [List.getElem?_append_left hj]; exact hpj) hb
      · exact absurd hb (hnew n (List.mem_of_getElem? h1))
      · have := h.diff i (pre.length + b) n m h1 (by rw [List.getElem?_append_right (by omega), show pre.length + b - pre.length = b by omega]; exact hpb) hb
        omega
    · rcases nth_cases hm with ⟨hj, hpj, _⟩ | ⟨rfl, rfl⟩ | ⟨b, rfl, hpb, _⟩
      · exact absurd hb.symm (hnew m (by simp [List.mem_of_getElem? hpj]))
      · rfl
      · exact absurd hb.symm (hnew m (by simp [List.mem_of_getElem? hpb]))
    · have h1 : (pre ++ post)[pre.length + a]? = some n := by rw [List.getElem?_append_right (by omega), show pre.length + a - pre.length = a by omega]; exact hpa
      rcases nth_cases hm with ⟨hj, hpj, _⟩ | ⟨rfl, rfl⟩ | ⟨b, rfl, hpb, _⟩
      · have := h.diff _ j n m h1 (by rw [List.getElem?_append_left hj]; exact hpj) hb
        omega
      · exact absurd hb (hnew n (List.mem_of_getElem? h1))
      · have := h.diff _ (pre.length + b) n m h1 (by rw [List.getElem?_append_right (by omega), show pre.length + b - pre.length = b by omega]; exact hpb) hb
        omega
  · intro n hn
    rcases hmem n hn with rfl | hn
    · exact hb
    · exact h.lo n hn
end
/-- how many are said to be. -/
theorem SkipV.count {w : World} {base T : Nat} {ns : List Nd} {hs : Value} {many : Int} (h : SkipV w base T ns hs many) (m : Int) : SkipV (w.setCell ⟨T, 17, none⟩ (.int .i64 m)) base T ns hs m := by
  have tc := h.tabC
  have hc := set_cell tc.shape (show 17 < 18 by omega) (.int .i64 m)
  refine SkipV.of_cells h.ord ⟨tc.shape.setCell _ _ _, ?_, ?_, fun f hf => ?_⟩ ?_ ?_ h.hi h.diff h.lo
  · rw [hc, if_neg (by omega)]; exact tc.c16
  · rw [hc, if_pos ⟨rfl, rfl⟩]
  · rw [hc, if_neg (by omega)]; exact tc.next f hf
  · intro i n hn
    have nc := h.nodeC hn
    have hne := h.neT (List.mem_of_getElem? hn)
    refine ⟨nc.shape.setCell _ _ _, ?_, ?_, ?_, ?_, fun f hf => ?_⟩
    · rw [hc, if_neg (by omega)]; exact nc.c0
    · rw [hc, if_neg (by omega)]; exact nc.c1
    · rw [hc, if_neg (by omega)]; exact nc.c2
    · rw [hc, if_neg (by omega)]; exact nc.c3
    · rw [hc, if_neg (by omega)]; exact nc.next f hf
  · intro n hn
    exact ⟨BytL.set tc.shape (by decide) (h.byt n hn).1 _ _, BytL.set tc.shape (by decide) (h.byt n hn).2 _ _⟩
end Go.Proofs.Ytelbidknefkaiaa
end
