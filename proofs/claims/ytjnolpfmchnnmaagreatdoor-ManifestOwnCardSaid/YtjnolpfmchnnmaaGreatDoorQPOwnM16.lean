/-
Law 13's ManifestOwn, as its arguments come in.
-/
import Derived.Test.YtjnolpfmchnnmaaGreatDoorQPOwnM14
import Derived.Test.YtjnolpfmchnnmaaGreatDoorQPOwnM15
import Derived.Test.YtjnolpfmchnnmaaGreatDoorQPOwnM11
import Derived.Deep.RegionHeld3
section
namespace Go.Proofs.YtjnolpfmchnnmaaGreatDoor
set_option maxRecDepth 100000
open Go.RowKit Go.BigFrame Go.Sort Go.Shelf Go.Lib
attribute [local go_sem ↓] Go.wp_at_zero Go.wp_at_succ
def OwnI (w wx : World) (M p wb lb : Nat) (j : Nat) : Prop :=
  (∃ (v : Ver) (num dn : Nat) (D : Nm → Option (List UInt8)) (F : Nat → Prop) (xt : Value), ManG wx F M p v num dn D (fun i => i ≠ wb ∧ i ≠ lb) ∧ dn ≤ 1000 + 2 * j ∧ (∀ i, F i → w.heap.size + 2 ≤ i ∧ i ≠ wb ∧ i ≠ lb) ∧ wx.heap[wb]? = some (.cells #[xt, .int .i64 v.lg, .int .i64 v.sq, .int .i64 v.nx] 50 (0, 0)) ∧ TabsV wx (fun i => i < wx.heap.size ∧ ¬ F i ∧ i ≠ M ∧ i ≠ wb) xt v.tabs) ∧ fr w wx
theorem tabsV_none {w w' : World} {S S' : Nat → Prop} {x : Value} (h : TabsV w S x []) : TabsV w' S' x [] := by
  obtain ⟨A, c, css, e, h1, h2, h3, h4, h5⟩ := h
  cases h5
  exact ⟨A, c, [], e, h1, h2, h3, ⟨h4.1, fun h => absurd h (by simp)⟩, .nil⟩
def OwnM (w wx : World) (lo hi M p wb lb : Nat) (j : Nat) : Prop :=
  ∃ (v : Ver) (num dn : Nat) (D : Nm → Option (List UInt8)) (F : Nat → Prop) (xt : Value), ManG wx F M p v num dn D (fun i => (i ≠ wb ∧ i ≠ lb) ∧ (i ≤ lo ∨ hi ≤ i)) ∧ dn ≤ 1000 + 2 * j ∧ (∀ i, F i → (w.heap.size + 2 ≤ i ∧ i ≠ wb ∧ i ≠ lb) ∧ (i ≤ lo ∨ hi ≤ i)) ∧ wx.heap[wb]? = some (.cells #[xt, .int .i64 v.lg, .int .i64 v.sq, .int .i64 v.nx] 50 (0, 0)) ∧ TabsV wx (fun i => (i < wx.heap.size ∧ ¬ F i ∧ i ≠ M ∧ i ≠ wb) ∧ (i ≤ lo ∨ hi ≤ i)) xt v.tabs
theorem ManG.mono {w : World} {F G G' : Nat → Prop} {M p num dn : Nat} {v : Ver} {D : Nm → Option (List UInt8)} (h : ManG w F M p v num dn D G) (hG : ∀ i, G i → G' i) : ManG w F M p v num dn D G' := by
  obtain ⟨h1, x, h2, h3⟩ := h
  exact ⟨h1, x, h2, Rows.keep tbFine h3 fun _ _ _ _ hr => hr.mono fun i hi => ⟨hG i hi.1, hi.2⟩⟩
theorem ManG.lt {w : World} {F G : Nat → Prop} {M p num dn : Nat} {v : Ver} {D : Nm → Option (List UInt8)} (h : ManG w F M p v num dn D G) : ManG w F M p v num dn D (fun i => G i ∧ i < w.heap.size) := by
  obtain ⟨h1, x, h2, h3⟩ := h
  exact ⟨h1, x, h2, Rows.keep tbFine h3 fun _ _ _ _ hr => hr.monoLt fun i hi hs => ⟨⟨hs.1, hi⟩, hs.2⟩⟩
theorem chunks5 : ∀ (n : Nat) (ys : List Value), ys.length = n * 5 → ∃ css : List (List Value), css.flatten = ys ∧ css.length = n ∧ ∀ i, i < n → css[i]? = some ((ys.drop (i * 5)).take 5)
  | 0, ys, h => ⟨[], by rw [List.eq_nil_of_length_eq_zero (by omega : ys.length = 0)]; rfl, rfl, fun i hi => absurd hi (Nat.not_lt_zero _)⟩
  | n + 1, ys, h => by
    obtain ⟨css, h1, h2, h3⟩ := chunks5 n (ys.drop 5) (by rw [List.length_drop]; omega)
    refine ⟨ys.take 5 :: css, ?_, by rw [List.length_cons, h2], fun i hi => ?_⟩
    · rw [List.flatten_cons, h1, List.take_append_drop]
    · cases i with
      | zero => simp
      | succ i =>
        rw [List.getElem?_cons_succ, h3 i (by omega), List.drop_drop]
        rw [show 5 + i * 5 = (i + 1) * 5 by omega]
theorem all2_get {α β : Type} {P : α → β → Prop} : ∀ (l : List α) (m : List β), l.length = m.length → (∀ (i : Nat) (a : α) (b : β), l[i]? = some a → m[i]? = some b → P a b) → All2 P l m
  | [], [], _, _ => .nil
  | a :: l, b :: m, h, hp => .cons (hp 0 a b rfl rfl) (all2_get l m (by simpa using h) fun i x y hx hy => hp (i + 1) x y (by simpa using hx) (by simpa using hy))
  | [], _ :: _, h, _ => by simp at h
  | _ :: _, [], h, _ => by simp at h
theorem apart_tabs {w : World} {base n : Nat} {A : Option Addr} {c : Nat} {ys : List Value} {ts : List Tbl} {f : Nat → Nat} (hr : w.ownsRow base 57 5 (.slice A n c) n ys) (ha : ApartT w (.slice A n c) ys ts f 0) (hn : ts.length = n) (hb : n * 72 ≤ 140737488355328) : TabsV w (fun _ => True) (.slice A n c) ts := by
  obtain ⟨css, h1, h2, h3⟩ := chunks5 n ys hr.1
  have hall : All2 (tbR w fun _ => True) ts css := by
    refine all2_get ts css (by omega) fun i t cs ht hcs => ?_
    have hi : i < n := by have := (List.getElem?_eq_some_iff.1 ht).1; omega
    rw [h3 i hi] at hcs
    obtain rfl := Option.some.inj hcs
    obtain ⟨k, u, a0, a1, a2, a3, a4, b1, b2⟩ := ha.cells i t (Nat.zero_le _) ht
    refine ⟨k, u, ?_, b1.mono fun _ _ => trivial, b2.mono fun _ _ => trivial⟩
    have hl : ys.length = n * 5 := hr.1
    have hin : i * 5 + 5 ≤ ys.length := by have := Nat.mul_le_mul_right 5 (show i + 1 ≤ n from hi); omega
    refine List.ext_getElem? fun q => ?_
    rcases Nat.lt_or_ge q 5 with hq | hq
    · rw [List.getElem?_take_of_lt hq, List.getElem?_drop]
      match q, hq with
      | 0, _ => rw [Nat.add_zero, a0]; rfl
      | 1, _ => rw [a1]; rfl
      | 2, _ => rw [a2]; rfl
      | 3, _ => rw [a3]; rfl
      | 4, _ => rw [a4]; rfl
    · rw [List.getElem?_eq_none (by rw [List.length_take]; omega), List.getElem?_eq_none (by simpa using hq)]
  rw [← h1] at hr
  exact Rows.keep tbFine (rows_of_ownT hr hall hn hb) fun _ _ _ _ hr => hr.mono fun _ _ => trivial
theorem intsLt {w : World} {S : Nat → Prop} {v : Value} {xs : List Int} (h : IntsIn w S v xs) : IntsIn w (fun i => i < w.heap.size) v xs := by
  obtain ⟨A, c, e, h1, h2, h3⟩ := h
  exact ⟨A, c, e, h1, h2, h3.monoLt fun i hi _ => hi⟩
theorem own_done {w w9 w10 w11 w12 wd : World} {F F' : Nat → Prop} {M p num dn xb ib nb wb lb j nr cr : Nat} {v : Ver} {e : Edt} {D' : Nm → Option (List UInt8)} {Ar : Option Addr} {la sa na : Int} (hwl : lb = wb + 1) (hMw : M < wb) (hwx : lb < xb) (h78 : xb + 1 ≤ ib) (h9 : ib < w9.heap.size) (h910 : ib + 1 ≤ nb) (hn10 : w10.heap.size = nb) (hs11 : w11.heap.size = nb + 1) (hw0 : w.heap.size ≤ xb)
    (hnF : ∀ i, F i → i < xb) (hFF : ∀ i, F i → w.heap.size + 2 ≤ i ∧ i ≠ wb ∧ i ≠ lb) (hok : VerV w10 (fun i => (i < xb ∧ ¬ F i ∧ i ≠ M ∧ i ≠ wb) ∨ w9.heap.size ≤ i) (.agg #[.slice Ar nr cr, .int .i64 la, .int .i64 sa, .int .i64 na]) (sortTb (foldT v e)) e.lg e.sq (foldN v e))
    (hf : fr w10 w11) (hS : Spread w11.heap.size F F') (hM : ManG w12 F' M p ⟨sortTb (foldT v e), e.lg, e.sq, foldN v e⟩ num (dn + 2) D' (fun i => w11.heap.size ≤ i)) (hO : Only (fun i => F i ∨ i = M) w11 w12) (hdn : dn ≤ 1000 + 2 * j)
    (P : wd.heap[wb]? = some (.cells #[.slice Ar nr cr, .int .i64 la, .int .i64 sa, .int .i64 na] 50 (0, 0))) (O : Only (fun i => i = wb) w12 wd) : OwnM w wd xb ib M p wb lb (j + 1) ∧ Only (fun i => F i ∨ i = M ∨ i = wb) w11 wd := by
  obtain ⟨x9, hx9, ht9⟩ := hok
  simp only [Value.agg.injEq, Array.mk.injEq, List.cons.injEq, Value.int.injEq, true_and, and_true] at hx9
  obtain ⟨rfl, rfl, rfl, rfl⟩ := hx9
  have hF0 : ∀ i, ((i < xb ∧ ¬ F i ∧ i ≠ M ∧ i ≠ wb) ∨ w9.heap.size ≤ i) → ¬ F i := fun i hi h => by
    have := hnF i h
    rcases hi with h1 | h1
    · exact h1.2.1 h
    · omega
  have hk : ∀ i, i < w10.heap.size → ((i < xb ∧ ¬ F i ∧ i ≠ M ∧ i ≠ wb) ∨ w9.heap.size ≤ i) → (i < nb ∧ ¬ F i ∧ ¬ F' i ∧ i ≠ M ∧ i ≠ wb) ∧ (i ≤ xb ∨ ib ≤ i) := fun i hlt hi => by
    have h0 := hF0 i hi
    refine ⟨⟨by omega, h0, fun h => (hS i h).elim h0 fun h => by omega, ?_, ?_⟩, ?_⟩
    · rcases hi with h1 | h1
      · exact h1.2.2.1
      · omega
    · rcases hi with h1 | h1
      · exact h1.2.2.2
      · omega
    · rcases hi with h1 | h1
      · exact .inl (by omega)
      · exact .inr (by omega)
  have t10 : TabsV w10 (fun i => (i < nb ∧ ¬ F i ∧ ¬ F' i ∧ i ≠ M ∧ i ≠ wb) ∧ (i ≤ xb ∨ ib ≤ i)) (.slice Ar nr cr) (sortTb (foldT v e)) := Rows.keep tbFine ht9 fun _ _ _ _ hr => hr.monoLt hk
  have t11 := Rows.below tbFine t10 hf
  have t12 := Rows.only tbFine t11 hO fun i hi h => h.elim hi.1.2.1 hi.1.2.2.2.1
  have t13 := Rows.only tbFine t12 O fun i hi h => hi.1.2.2.2.2 h
  have hmg := (hM.only O (fun i h hf => (hS i hf).elim (fun hf => (hFF i hf).2.1 h) fun hs => by omega) (by omega) fun i hi h => by omega).mono (G' := fun i => (i ≠ wb ∧ i ≠ lb) ∧ (i ≤ xb ∨ ib ≤ i)) fun i hi => ⟨⟨by omega, by omega⟩, .inr (by omega)⟩
  refine ⟨⟨⟨sortTb (foldT v e), e.lg, e.sq, foldN v e⟩, num, dn + 2, D', F', .slice Ar nr cr, hmg, by omega, fun i hi => ?_, P, ?_⟩, (hO.mono fun i h => h.elim .inl fun h => .inr (.inl h)).trans (O.mono fun i h => .inr (.inr h))⟩
  · rcases hS i hi with h | h
    · have := hnF i h
      exact ⟨hFF i h, .inl (by omega)⟩
    · exact ⟨⟨by omega, by omega, by omega⟩, .inr (by omega)⟩
  · exact Rows.keep tbFine t13 fun _ _ _ _ hr => hr.monoLt fun i hi hs => ⟨⟨hi, hs.1.2.2.1, hs.1.2.2.2.1, hs.1.2.2.2.2⟩, hs.2⟩
theorem own_kept {w wr w11 wd : World} {F : Nat → Prop} {M p num dn xb ib wb lb j : Nat} {v : Ver} {D : Nm → Option (List UInt8)} {xt : Value} (hxb : wr.heap.size = xb) (hm : ManG wr F M p v num dn D (fun i => i ≠ wb ∧ i ≠ lb)) (hdn : dn ≤ 1000 + 2 * j) (hFF : ∀ i, F i → w.heap.size + 2 ≤ i ∧ i ≠ wb ∧ i ≠ lb)
    (hw : wr.heap[wb]? = some (.cells #[xt, .int .i64 v.lg, .int .i64 v.sq, .int .i64 v.nx] 50 (0, 0))) (ht : TabsV wr (fun i => i < wr.heap.size ∧ ¬ F i ∧ i ≠ M ∧ i ≠ wb) xt v.tabs) (hf : fr wr w11) (hd : fr w11 wd) : OwnM w wd xb ib M p wb lb (j + 1) ∧ Only (fun i => F i ∨ i = M ∨ i = wb) w11 wd := by
  have hfa := fr.step hf hd
  refine ⟨⟨v, num, dn, D, F, xt, (hm.lt.below hfa).mono fun i hi => ⟨hi.1, .inl (by omega)⟩, by omega, fun i hi => ⟨hFF i hi, .inl (by have := (hm.1.dk.lies i hi).1; omega)⟩, (Below.block hfa wb (Array.getElem?_eq_some_iff.1 hw).1).trans hw, ?_⟩, Only.of_below hd⟩
  exact Rows.keep tbFine (Rows.below tbFine ht hfa) fun _ _ _ _ hr => hr.mono fun i hi => ⟨⟨Nat.lt_of_lt_of_le hi.1 (Below.size hfa), hi.2⟩, .inl (by omega)⟩
theorem own_spoil {w wx wy : World} {lo hi M p wb lb j : Nat} (h : OwnM w wx lo hi M p wb lb j) (ho : Only (fun b => lo + 1 ≤ b ∧ b < hi) wx wy) (hM : M ≤ lo) (hwb : wb ≤ lo) : OwnM w wy lo hi M p wb lb j := by
  obtain ⟨v, num, dn, D, F, xt, h1, h2, h3, h4, h5⟩ := h
  refine ⟨v, num, dn, D, F, xt, h1.only ho (fun i ht hf => by have := (h3 i hf).2; omega) (by omega) fun i hg ht => by have := hg.2; omega, h2, h3, (ho.block wb (Array.getElem?_eq_some_iff.1 h4).1 (by omega)).trans h4, ?_⟩
  have := Rows.only tbFine h5 ho fun i hs ht => by have := hs.2; omega
  exact Rows.keep tbFine this fun _ _ _ _ hr => hr.mono fun i hi => ⟨⟨Nat.lt_of_lt_of_le hi.1.1 ho.size, hi.1.2⟩, hi.2⟩
theorem own_next {w wo wx : World} {lo hi M p wb lb j : Nat} (h : OwnM w wo lo hi M p wb lb j) (hf : fr wo wx) (h0 : fr w wo) : OwnI w wx M p wb lb j := by
  obtain ⟨v, num, dn, D, F, xt, h1, h2, h3, h4, h5⟩ := h
  refine ⟨⟨v, num, dn, D, F, xt, (h1.below hf).mono fun i hi => hi.1, h2, fun i hi => (h3 i hi).1, (Below.block hf wb (Array.getElem?_eq_some_iff.1 h4).1).trans h4, ?_⟩, fr.step h0 hf⟩
  exact Rows.keep tbFine (Rows.below tbFine h5 hf) fun _ _ _ _ hr => hr.mono fun i hi => ⟨Nat.lt_of_lt_of_le hi.1.1 (Below.size hf), hi.1.2⟩
theorem own_rows {w w' : World} {base n c : Nat} {A : Option Addr} {ts : List Tbl} (h : OwnTabs w base (.slice A n c) ts) (hn : ts.length = n) (hf : fr w w') : ∃ ys, w'.ownsRow base 57 5 (.slice A n c) n ys ∧ ∀ q, q < n → ∃ A' m c' hi, ys[q * 5 + 4]? = some (.slice A' m c') ∧ m = hi.length ∧ Byt w' (fun b => (base ≤ b ∧ b < w.heap.size) ∧ (Value.slice A n c).ownBlock ≠ some b ∧ Loose w' b) (.slice A' m c') hi := by
  obtain ⟨css, h1, h2⟩ := h
  rw [hn] at h1
  refine ⟨css.flatten, own_below h1 hf, fun q hq => ?_⟩
  obtain ⟨t, ht⟩ : ∃ t, ts[q]? = some t := ⟨_, List.getElem?_eq_getElem (by omega)⟩
  obtain ⟨cs, hcs, a, b, rfl, ha, hb⟩ := h2.at_ ht
  obtain ⟨A', c', rfl⟩ := slice_form hb
  refine ⟨A', t.hi.length, c', t.hi, flat_at (j := 4) (tbT_len h2) hcs rfl, rfl, ?_⟩
  have h3 : Byt w (fun b => (base ≤ b ∧ b < w.heap.size) ∧ (Value.slice A n c).ownBlock ≠ some b ∧ Loose w b) (.slice A' t.hi.length c') t.hi := hb.keepR fun _ _ _ _ hr => hr.monoLt fun i hi hs => ⟨⟨hs.1, hi⟩, hs.2.1, hs.2.2⟩
  exact (h3.below hf).mono fun i hi => ⟨hi.1, hi.2.1, hi.2.2.below hf⟩
set_option maxRecDepth 100000 in
set_option maxHeartbeats 8000000 in
theorem manifestOwnLaw (av1 dv1 av2 dv2 : Value) (e1 e2 : Edt) (w : World) (ha1 : TabsV w (fun _ => True) av1 e1.add) (hd1 : IntsIn w (fun _ => True) dv1 e1.drop) (ha2 : TabsV w (fun _ => True) av2 e2.add) (hd2 : IntsIn w (fun _ => True) dv2 e2.drop) (h81 : e1.drop.length * 8 ≤ 140737488355328) (h82 : e2.drop.length * 8 ≤ 140737488355328)
    (hb1 : (∀ t ∈ e1.add, t.count < 9223372036854775808) ∧ e1.lg < 9223372036854775808 ∧ e1.sq < 9223372036854775808) (hb2 : (∀ t ∈ e2.add, t.count < 9223372036854775808) ∧ e2.lg < 9223372036854775808 ∧ e2.sq < 9223372036854775808) (ht : TabW w) :
    Calls Tryz.prog 5 #[.agg #[av1, dv1, .int .i64 e1.lg, .int .i64 e1.sq], .agg #[av2, dv2, .int .i64 e2.lg, .int .i64 e2.sq]] w fun r w' => r = .returned (.bool true) ∧ fr w w' := by
  obtain ⟨A1, c1, rfl⟩ := ha1.form
  obtain ⟨A2, c2, rfl⟩ := ha2.form
  obtain ⟨B1, k1, rfl⟩ : ∃ A c, dv1 = .slice A e1.drop.length c := by obtain ⟨A, c, h, _⟩ := hd1; exact ⟨A, c, h⟩
  obtain ⟨B2, k2, rfl⟩ : ∃ A c, dv2 = .slice A e2.drop.length c := by obtain ⟨A, c, h, _⟩ := hd2; exact ⟨A, c, h⟩
  obtain ⟨n1, hn1⟩ : ∃ n, e1.add.length = n := ⟨_, rfl⟩
  obtain ⟨n2, hn2⟩ : ∃ n, e2.add.length = n := ⟨_, rfl⟩
  obtain ⟨m1, hm1⟩ : ∃ n, e1.drop.length = n := ⟨_, rfl⟩
  obtain ⟨m2, hm2⟩ : ∃ n, e2.drop.length = n := ⟨_, rfl⟩
  have HA1 := Lib.hid ha1
  have HA2 := Lib.hid ha2
  have HD1 := Lib.hid hd1
  have HD2 := Lib.hid hd2
  have H81 := Lib.hid h81
  have H82 := Lib.hid h82
  rw [hn1, hn2, hm1, hm2]
  obtain ⟨W0, hW0⟩ : ∃ W0, W0 = (w.alloc (.cells #[.slice A1 n1 c1, .slice B1 m1 k1, .int .i64 e1.lg, .int .i64 e1.sq] 45)).alloc (.cells #[.slice A2 n2 c2, .slice B2 m2 k2, .int .i64 e2.lg, .int .i64 e2.sq] 45) := ⟨_, rfl⟩
  have hf0 : fr w W0 := by rw [hW0]; exact fr.alloc (fr.alloc fr.refl _) _
  have hx1 : W0.heap[w.heap.size]? = some (.cells #[.slice A1 n1 c1, .slice B1 m1 k1, .int .i64 e1.lg, .int .i64 e1.sq] 45 (0, 0)) := by
    rw [hW0]; exact (Below.heap_alloc _ _ _ (by simp)).trans (heap_alloc_new w _)
  have hx2 : W0.heap[w.heap.size + 1]? = some (.cells #[.slice A2 n2 c2, .slice B2 m2 k2, .int .i64 e2.lg, .int .i64 e2.sq] 45 (0, 0)) := by
    rw [hW0]
    have := heap_alloc_new (w.alloc (.cells #[.slice A1 n1 c1, .slice B1 m1 k1, .int .i64 e1.lg, .int .i64 e1.sq] 45)) (.cells #[.slice A2 n2 c2, .slice B2 m2 k2, .int .i64 e2.lg, .int .i64 e2.sq] 45)
    simpa using this
  have HB1 := Lib.hid hb1
  have HB2 := Lib.hid hb2
  have HTW := Lib.hid ht
  have HF0 := Lib.hid hf0
  have HX1 := Lib.hid hx1
  have HX2 := Lib.hid hx2
  have htl := ht.lt
  have HSZ0 : Hid (W0.heap.size = w.heap.size + 2) := Lib.hid (by rw [hW0]; simp)
  have HN1 := Lib.hid hn1
  have HN2 := Lib.hid hn2
  have HM1 := Lib.hid hm1
  have HM2 := Lib.hid hm2
  clear ha1 ha2 hd1 hd2 hb1 hb2 ht hf0 hx1 hx2 h81 h82 hn1 hn2 hm1 hm2
  go_enter Tryz.func5, Tryz.ntmps5
  go_upto_region 1 with (fail)
  rw [← hW0]
  clear hW0
  go_upto_region 3 with (go_at_call 23; refine (mwakes_any _ (HTW.out.below HF0.out)).mono ?_; rintro r w1 ⟨rfl, f1⟩)
  have HF1 := Lib.hid (fr.step HF0.out f1)
  have HX11 := Lib.hid ((Below.block f1 _ (Array.getElem?_eq_some_iff.1 HX1.out).1).trans HX1.out)
  have HX12 := Lib.hid ((Below.block f1 _ (Array.getElem?_eq_some_iff.1 HX2.out).1).trans HX2.out)
  clear f1
  go_upto_region 4 with (first
    | (go_at_call 24; refine (mopen_fresh F p 0 _ w3 HD3.out HT3.out rfl (by decide)).mono ?_; rintro r w4 ⟨rfl, ⟨F1, hS1, hM1⟩, hO1⟩)
    | (go_at_call 15; refine (new_dk (fun _ => True) (-1) (-1) _ [] w2 (IntsIn.nil _ _) (by simp) w2.heap.size (Nat.le_refl _)).mono ?_; rintro r w3 ⟨p, rfl, ⟨F, hd, hF⟩, f3⟩; have HT3 := Lib.hid (HTW.out.below (fr.step (fr.step HF1.out f2) f3)); have HD3 : Hid (DkC w3 F p 0 (fun _ => none)) := Lib.hid ⟨fun i hi => ⟨(hF i hi).2, Nat.lt_of_lt_of_le htl (Nat.le_trans (Below.size (fr.step HF1.out f2)) (hF i hi).1)⟩, calm0, hd, calm0_ok, rfl⟩)
    | (go_at_call 25; refine (calm13_any _).mono ?_; rintro r w2 ⟨rfl, f2⟩))
  have hs1 : w.heap.size + 2 ≤ w2.heap.size := by have := Below.size f2; have := Below.size HF1.out; have := HSZ0.out; have := (Array.getElem?_eq_some_iff.1 HX12.out).1; omega
  have hF1 : ∀ i, F1 i → w.heap.size + 2 ≤ i := fun i hi => (hS1 i hi).elim (fun h => Nat.le_trans hs1 (hF i h).1) fun h => by have := Below.size f3; omega
  have hO2 : Only (fun i => w.heap.size + 2 ≤ i) w1 w4 := ((Only.of_below f2).trans (Only.of_below f3)).trans (hO1.mono fun i hi => Nat.le_trans hs1 (hF i hi).1)
  have HF4 : Hid (fr w w4) := Lib.hid (HF1.out.trans (hO2.below (Below.size HF1.out) fun i hi => by omega))
  have HX41 := Lib.hid ((hO2.block _ (Array.getElem?_eq_some_iff.1 HX11.out).1 (by omega)).trans HX11.out)
  have HX42 := Lib.hid ((hO2.block _ (Array.getElem?_eq_some_iff.1 HX12.out).1 (by omega)).trans HX12.out)
  obtain ⟨M, hM⟩ : ∃ M, w3.heap.size = M := ⟨_, rfl⟩
  have hMl : w.heap.size + 2 ≤ M := by have := Below.size f3; omega
  obtain ⟨D1, hD1⟩ : ∃ D1, begunD (fun _ => none) 0 (frB (recsM (splitL ver0))) = D1 := ⟨_, rfl⟩
  rw [hM, hD1] at hM1
  rw [hM]
  have HM4 : Hid (ManC w4 F1 M p ver0 1 1000 D1) := Lib.hid hM1
  have HFL := Lib.hid hF1
  clear hS1 hM1 hO1 hF1 hd hF f2 f3 hD1 HD3 HT3 hO2 hM hs1
  go_upto_region 7 with (fail)
  have hr5 := heap_alloc_new w4 (.cells #[.slice none 0 0, .int .i64 0, .int .i64 0, .int .i64 1] 50)
  have hf5 : fr w4 (w4.alloc (.cells #[.slice none 0 0, .int .i64 0, .int .i64 0, .int .i64 1] 50)) := fr.alloc fr.refl _
  have hs5 : (w4.alloc (.cells #[.slice none 0 0, .int .i64 0, .int .i64 0, .int .i64 1] 50)).heap.size = w4.heap.size + 1 := World.size_alloc _ _
  obtain ⟨wb, hwb⟩ : ∃ q, w4.heap.size = q := ⟨_, rfl⟩
  have hMw : M < wb := by rw [← hwb]; exact HM4.out.lt
  rw [hwb] at hr5 hs5 ⊢
  generalize w4.alloc (.cells #[.slice none 0 0, .int .i64 0, .int .i64 0, .int .i64 1] 50) = w5 at hr5 hf5 hs5 ⊢
  have HX51 := Lib.hid ((Below.block hf5 _ (Array.getElem?_eq_some_iff.1 HX41.out).1).trans HX41.out)
  have HX52 := Lib.hid ((Below.block hf5 _ (Array.getElem?_eq_some_iff.1 HX42.out).1).trans HX42.out)
  have HM5 := Lib.hid (HM4.out.below hf5)
  have HF5 := Lib.hid (fr.step HF4.out hf5)
  have HR5 := Lib.hid hr5
  have HFW : Hid (∀ i, F1 i → w.heap.size + 2 ≤ i ∧ i < wb) := Lib.hid fun i hi => ⟨HFL.out i hi, by rw [← hwb]; exact (HM4.out.dk.lies i hi).1⟩
  have g0 := cell_of_row _ _ 0 _ _ _ HX51.out
  have g1 := cell_of_row _ _ 1 _ _ _ HX51.out
  have g2 := cell_of_row _ _ 2 _ _ _ HX51.out
  have g3 := cell_of_row _ _ 3 _ _ _ HX51.out
  have i0 := cell_of_row _ _ 0 _ _ _ HX52.out
  have i1 := cell_of_row _ _ 1 _ _ _ HX52.out
  have i2 := cell_of_row _ _ 2 _ _ _ HX52.out
  have i3 := cell_of_row _ _ 3 _ _ _ HX52.out
  clear hr5 hf5 hwb
  go_wp2_with (fail)
  have hl := heap_alloc_new w5 (.cells #[.slice A1 n1 c1, .slice B1 m1 k1, .int .i64 e1.lg, .int .i64 e1.sq, .slice A2 n2 c2, .slice B2 m2 k2, .int .i64 e2.lg, .int .i64 e2.sq] 45)
  have hf6 : fr w5 (w5.alloc (.cells #[.slice A1 n1 c1, .slice B1 m1 k1, .int .i64 e1.lg, .int .i64 e1.sq, .slice A2 n2 c2, .slice B2 m2 k2, .int .i64 e2.lg, .int .i64 e2.sq] 45)) := fr.alloc fr.refl _
  obtain ⟨lb, hlb⟩ : ∃ q, wb + 1 = q := ⟨_, rfl⟩
  have hwl : lb = wb + 1 := hlb.symm
  rw [hs5, hlb] at hl
  rw [hlb]
  generalize w5.alloc (.cells #[.slice A1 n1 c1, .slice B1 m1 k1, .int .i64 e1.lg, .int .i64 e1.sq, .slice A2 n2 c2, .slice B2 m2 k2, .int .i64 e2.lg, .int .i64 e2.sq] 45) = w6 at hl hf6 ⊢
  have HL6 := Lib.hid hl
  have HI6 : Hid (OwnI w w6 M p wb lb 0) := Lib.hid (by
    obtain ⟨x, h3, h4⟩ := (HM5.out.below hf6).row
    refine ⟨⟨ver0, 1, 1000, D1, F1, .slice none 0 0, ⟨HM5.out.below hf6, x, h3, tabsV_none h4⟩, by omega, fun i hi => ?_, ?_, tabsV_nil _ _⟩, fr.step HF5.out hf6⟩
    · have := HFW.out i hi
      omega
    · exact (Below.block hf6 _ (Array.getElem?_eq_some_iff.1 HR5.out).1).trans HR5.out)
  have HWL := Lib.hid hwl
  clear hl hf6 g0 g1 g2 g3 i0 i1 i2 i3 hlb hwl hs5
  go_loopw [33] (fun t wx => ∃ j : Nat, j ≤ 2 ∧ t = .int .i64 j ∧ OwnI w wx M p wb lb j ∧ wx.heap[lb]? = some (.cells #[.slice A1 n1 c1, .slice B1 m1 k1, .int .i64 e1.lg, .int .i64 e1.sq, .slice A2 n2 c2, .slice B2 m2 k2, .int .i64 e2.lg, .int .i64 e2.sq] 45 (0, 0))) (fun t _ => 2 - (intOf t).toNat)
  case atStart => exact ⟨0, by omega, rfl, HI6.out, HL6.out⟩
  case round =>
    obtain ⟨j, hj, rfl, hoi, hlr⟩ := hrel
    have HLR := Lib.hid hlr
    obtain ⟨⟨v, num, dn, D, F, xt, hman, hdn, hF, hwr, htb⟩, hfx⟩ := hoi
    obtain ⟨Ax, cx, rfl⟩ := htb.form
    obtain ⟨nx, hnx⟩ : ∃ n, v.tabs.length = n := ⟨_, rfl⟩
    rw [hnx] at hwr htb
    have HMAN := Lib.hid hman
    have HFF := Lib.hid hF
    have HWR := Lib.hid hwr
    have HTB := Lib.hid htb
    have HFX := Lib.hid hfx
    have HNX := Lib.hid hnx
    clear hlr hman hF hwr htb hfx hnx
    by_cases hj2 : j < 2
    · obtain ⟨e, A, c, B, k, n, m, hen, hem, hea, hed, heb, he8, q0, q1, q2, q3⟩ : ∃ (e : Edt) (A : Option Addr) (c : Nat) (B : Option Addr) (k n m : Nat), e.add.length = n ∧ e.drop.length = m ∧ TabsV w (fun _ => True) (.slice A n c) e.add ∧ IntsIn w (fun _ => True) (.slice B m k) e.drop ∧ ((∀ t ∈ e.add, t.count < 9223372036854775808) ∧ e.lg < 9223372036854775808 ∧ e.sq < 9223372036854775808) ∧ e.drop.length * 8 ≤ 140737488355328 ∧ wr.cell? ⟨lb, j * 4, none⟩ = some (.slice A n c) ∧ wr.cell? ⟨lb, j * 4 + 1, none⟩ = some (.slice B m k) ∧ wr.cell? ⟨lb, j * 4 + 2, none⟩ = some (.int .i64 e.lg) ∧ wr.cell? ⟨lb, j * 4 + 3, none⟩ = some (.int .i64 e.sq) := by
        rcases (show j = 0 ∨ j = 1 by omega) with rfl | rfl
        · exact ⟨e1, A1, c1, B1, k1, n1, m1, HN1.out, HM1.out, by have := HA1.out; rw [HN1.out] at this; exact this, by have := HD1.out; rw [HM1.out] at this; exact this, HB1.out, H81.out, cell_of_row _ _ 0 _ _ _ HLR.out, cell_of_row _ _ 1 _ _ _ HLR.out, cell_of_row _ _ 2 _ _ _ HLR.out, cell_of_row _ _ 3 _ _ _ HLR.out⟩
        · exact ⟨e2, A2, c2, B2, k2, n2, m2, HN2.out, HM2.out, by have := HA2.out; rw [HN2.out] at this; exact this, by have := HD2.out; rw [HM2.out] at this; exact this, HB2.out, H82.out, cell_of_row _ _ 4 _ _ _ HLR.out, cell_of_row _ _ 5 _ _ _ HLR.out, cell_of_row _ _ 6 _ _ _ HLR.out, cell_of_row _ _ 7 _ _ _ HLR.out⟩
      have HEN := Lib.hid hen
      have HEM := Lib.hid hem
      have HEA := Lib.hid (Rows.lt tbFine hea)
      have HED := Lib.hid hed
      have HEB := Lib.hid heb
      have HE8 := Lib.hid he8
      have hn72 : n * 72 ≤ 140737488355328 := by obtain ⟨_, _, _, _, _, _, h3, _⟩ := hea; rw [← hen]; exact h3
      clear hea hed heb he8 hen hem
      go_upto_region 10 with (fail)
      have hx7 := heap_alloc_new wr (.cells #[.slice A n c, .slice B m k, .int .i64 e.lg, .int .i64 e.sq] 45)
      have hf7 : fr wr (wr.alloc (.cells #[.slice A n c, .slice B m k, .int .i64 e.lg, .int .i64 e.sq] 45)) := fr.alloc fr.refl _
      have hs7 : (wr.alloc (.cells #[.slice A n c, .slice B m k, .int .i64 e.lg, .int .i64 e.sq] 45)).heap.size = wr.heap.size + 1 := World.size_alloc _ _
      obtain ⟨xb, hxb⟩ : ∃ q, wr.heap.size = q := ⟨_, rfl⟩
      rw [hxb] at hx7 hs7 ⊢
      generalize wr.alloc (.cells #[.slice A n c, .slice B m k, .int .i64 e.lg, .int .i64 e.sq] 45) = w7 at hx7 hf7 hs7 ⊢
      have HX7 := Lib.hid hx7
      have HF7 := Lib.hid hf7
      have HXB := Lib.hid hxb
      have x0 := cell_of_row _ _ 0 _ _ _ hx7
      have x1 := cell_of_row _ _ 1 _ _ _ hx7
      have x2 := cell_of_row _ _ 2 _ _ _ hx7
      have x3 := cell_of_row _ _ 3 _ _ _ hx7
      have HED7 := Lib.hid (editA_any (fun _ => True) (.slice A n c) (.slice B m k) e w7 ((Rows.keep tbFine HEA.out fun _ _ _ _ hr => hr.mono fun _ _ => trivial).below tbFine (fr.step HFX.out hf7)) (HED.out.below (fr.step HFX.out hf7)) HE8.out (by rw [HEN.out]; exact hn72))
      rw [HEN.out] at HED7
      clear hx7 hf7 q0 q1 q2 q3 hxb
      go_upto_region 11 with (go_at_call 26; refine HED7.out.mono ?_; rintro r w8 ⟨⟨Ai, ci, di, ys, f, rfl, hro, hap, hf0, hfn, hdi⟩, f8⟩; obtain ⟨Bi, ki, rfl⟩ : ∃ A c, di = .slice A m c := (by obtain ⟨A, c, h, _⟩ := hdi; rw [HEM.out] at h; exact ⟨A, c, h⟩))
      have hx9 := heap_alloc_new w8 (.cells #[.slice Ai n ci, .slice Bi m ki, .int .i64 e.lg, .int .i64 e.sq] 45)
      have hf9 : fr w8 (w8.alloc (.cells #[.slice Ai n ci, .slice Bi m ki, .int .i64 e.lg, .int .i64 e.sq] 45)) := fr.alloc fr.refl _
      have hs9 : (w8.alloc (.cells #[.slice Ai n ci, .slice Bi m ki, .int .i64 e.lg, .int .i64 e.sq] 45)).heap.size = w8.heap.size + 1 := World.size_alloc _ _
      obtain ⟨ib, hib⟩ : ∃ q, w8.heap.size = q := ⟨_, rfl⟩
      rw [hib] at hx9 hs9 hfn ⊢
      generalize w8.alloc (.cells #[.slice Ai n ci, .slice Bi m ki, .int .i64 e.lg, .int .i64 e.sq] 45) = w9 at hx9 hf9 hs9 ⊢
      have h78 : xb + 1 ≤ ib := by have := Below.size f8; omega
      have HF9 := Lib.hid (fr.step HF7.out (fr.step f8 hf9))
      have HX9 := Lib.hid ((Below.block (fr.step f8 hf9) xb (Array.getElem?_eq_some_iff.1 HX7.out).1).trans HX7.out)
      have HI9 := Lib.hid hx9
      have HOB : Hid (∀ g, (Value.slice Ai n ci).ownBlock = some g → xb + 1 ≤ g ∧ g < ib) := Lib.hid fun g hg => by have := hro.lt g hg; omega
      have HRO := Lib.hid (own_below hro hf9)
      have HAP := Lib.hid (hap.below hf9)
      have HF00 : Hid (xb + 1 ≤ f 0) := Lib.hid (by omega)
      have HFN := Lib.hid hfn
      have HDI := Lib.hid (hdi.below hf9)
      have HWR9 := Lib.hid ((Below.block HF9.out wb (Array.getElem?_eq_some_iff.1 HWR.out).1).trans HWR.out)
      have u0 := cell_of_row _ _ 0 _ _ _ HWR9.out
      have u1 := cell_of_row _ _ 1 _ _ _ HWR9.out
      have u2 := cell_of_row _ _ 2 _ _ _ HWR9.out
      have u3 := cell_of_row _ _ 3 _ _ _ HWR9.out
      have y0 := cell_of_row _ _ 0 _ _ _ HX9.out
      have y1 := cell_of_row _ _ 1 _ _ _ HX9.out
      have y2 := cell_of_row _ _ 2 _ _ _ HX9.out
      have y3 := cell_of_row _ _ 3 _ _ _ HX9.out
      have hwr0 : w.heap.size ≤ xb := by rw [← HXB.out]; exact Below.size HFX.out
      have hwx : lb < xb := by rw [← HXB.out]; exact (Array.getElem?_eq_some_iff.1 HLR.out).1
      have HRF := Lib.hid (rfold_any (fun i => i < xb ∧ ¬ F i ∧ i ≠ M ∧ i ≠ wb) (.slice Ax nx cx) (.slice A n c) (.slice B m k) v e w9 (Rows.below tbFine (Rows.keep tbFine HTB.out fun _ _ _ _ hr => hr.mono fun i hi => ⟨by have := HXB.out; omega, hi.2⟩) HF9.out) (Rows.below tbFine (Rows.keep tbFine HEA.out fun _ _ _ _ hr => hr.mono fun i hi => ⟨by omega, fun h => by have := (HFF.out i h).1; omega, by omega, by omega⟩) (fr.step HFX.out HF9.out)) ((((intsLt HED.out).below (fr.step HFX.out HF9.out)).mono fun i hi => ⟨by omega, fun h => by have := (HFF.out i h).1; omega, by omega, by omega⟩)) HMAN.out.1.ver.nodup (by have := HMAN.out.1.ver.few; omega))
      clear hx9 hf9 hro hap hf0 hfn hdi f8 hib x0 x1 x2 x3
      go_upto_region 12 with (go_at_call 27; refine HRF.out.mono ?_; rintro r w10 ⟨xr, rfl, ⟨Ar, nr, cr, la, sa, na, rfl⟩, hok, f10⟩)
      have hx11 := heap_alloc_new w10 (.cells #[.slice Ar nr cr, .int .i64 la, .int .i64 sa, .int .i64 na] 50)
      have hf11 : fr w10 (w10.alloc (.cells #[.slice Ar nr cr, .int .i64 la, .int .i64 sa, .int .i64 na] 50)) := fr.alloc fr.refl _
      have hs11 : (w10.alloc (.cells #[.slice Ar nr cr, .int .i64 la, .int .i64 sa, .int .i64 na] 50)).heap.size = w10.heap.size + 1 := World.size_alloc _ _
      obtain ⟨nb, hnb⟩ : ∃ q, w10.heap.size = q := ⟨_, rfl⟩
      rw [hnb] at hx11 hs11 ⊢
      generalize w10.alloc (.cells #[.slice Ar nr cr, .int .i64 la, .int .i64 sa, .int .i64 na] 50) = w11 at hx11 hf11 hs11 ⊢
      have h910 : ib + 1 ≤ nb := by have := Below.size f10; omega
      have HF11 := Lib.hid (fr.step HF9.out (fr.step f10 hf11))
      have HF911 := Lib.hid (fr.step f10 hf11)
      have HN11 := Lib.hid hx11
      have HX11' := Lib.hid ((Below.block HF911.out xb (Array.getElem?_eq_some_iff.1 HX9.out).1).trans HX9.out)
      have HI11 := Lib.hid ((Below.block HF911.out ib (Array.getElem?_eq_some_iff.1 HI9.out).1).trans HI9.out)
      have HW11 := Lib.hid ((Below.block HF911.out wb (Array.getElem?_eq_some_iff.1 HWR9.out).1).trans HWR9.out)
      have HRO11 := Lib.hid (own_below HRO.out HF911.out)
      have HAP11 := Lib.hid (HAP.out.below HF911.out)
      have HOK := Lib.hid hok
      have HN10 := Lib.hid hnb
      have HS11 := Lib.hid hs11
      have HF1011 := Lib.hid hf11
      have z0 := cell_of_row _ _ 0 _ _ _ HI11.out
      have z1 := cell_of_row _ _ 1 _ _ _ HI11.out
      have z2 := cell_of_row _ _ 2 _ _ _ HI11.out
      have z3 := cell_of_row _ _ 3 _ _ _ HI11.out
      have HAPY := Lib.hid (mapply_own (fun _ => True) F M p num dn v D (.slice Ai n ci) (.slice Bi m ki) e w11 (HMAN.out.1.below HF11.out) (HTW.out.below (fr.step HFX.out HF11.out)) (apart_tabs HRO11.out HAP11.out HEN.out hn72) ((HDI.out.mono fun _ _ => trivial).below HF911.out) (fun h => sorts_any (by
        have h1 := (foldE_ok.1 h).fewA
        have h2 := HMAN.out.1.ver.few
        have h3 : (foldT v e).length ≤ v.tabs.length + e.add.length := by
          unfold foldT
          have := List.length_filter_le (fun t => !decide (t.id ∈ e.drop)) (v.tabs ++ e.add)
          rw [List.length_append] at this
          exact this
        omega) (foldT_nodup HMAN.out.1.ver.nodup (foldE_ok.1 h))) HEB.out.1 HEB.out.2.1 HEB.out.2.2 (by omega))
      obtain ⟨ke, hke⟩ : ∃ q, foldE v e = q := ⟨_, rfl⟩
      rw [hke] at HAPY HOK ⊢
      have HKE := Lib.hid hke
      clear hx11 hf11 hs11 hnb hok f10 y0 y1 y2 y3 u0 u1 u2 u3 hke
      go_cut [52] (fun u wc => ∃ q : Bool, u = .bool q ∧ ((q = true ∧ ke = 0 ∧ ∃ (F' : Nat → Prop) (D' : Nm → Option (List UInt8)), Spread w11.heap.size F F' ∧ ManG wc F' M p ⟨sortTb (foldT v e), e.lg, e.sq, foldN v e⟩ num (dn + 2) D' (fun i => w11.heap.size ≤ i) ∧ Only (fun i => F i ∨ i = M) w11 wc) ∨ (q = false ∧ ke ≠ 0 ∧ fr w11 wc)))
      case first =>
        by_cases hE : ke = 0
        · have hE1 : (ke == 0) = true := by simpa using hE
          have HE := Lib.hid hE
          clear hE
          go_wp2_with (go_at_call 28; refine HAPY.out.mono ?_; rintro r w12 ⟨rfl, hres, honly⟩)
          go_meet
          case rel =>
            rw [if_pos HE.out] at hres
            obtain ⟨F', g1, g2⟩ := hres
            exact ⟨true, rfl, .inl ⟨rfl, HE.out, F', _, g1, g2, honly⟩⟩
        · have hE1 : (ke == 0) = false := by simpa using hE
          have HE := Lib.hid hE
          clear hE
          go_wp2_with (go_at_call 28; refine HAPY.out.mono ?_; rintro r w12 ⟨rfl, hres, honly⟩)
          go_meet
          case rel =>
            rw [if_neg HE.out] at hres
            exact ⟨false, rfl, .inr ⟨rfl, HE.out, hres⟩⟩
      case rest =>
        obtain ⟨q, rfl, hq⟩ := hcut
        have HQ := Lib.hid hq
        clear hq z0 z1 z2 z3
        obtain ⟨w12, hw12⟩ : ∃ x, x = wc := ⟨_, rfl⟩
        subst hw12
        go_upto_if 52 with (fail)
        go_cut [52] (fun _ wd => OwnM w wd xb ib M p wb lb (j + 1) ∧ Only (fun i => F i ∨ i = M ∨ i = wb) w11 wd)
        case first =>
          rcases HQ.out with ⟨rfl, hE, F', D', hS', hM', hO'⟩ | ⟨rfl, hE, hf12⟩
          · have hnF : ∀ i, F i → i < xb := fun i hi => by rw [← HXB.out]; exact (HMAN.out.1.dk.lies i hi).1
            have hr12 := (hO'.block nb (Array.getElem?_eq_some_iff.1 HN11.out).1 (fun h => h.elim (fun h => by have := hnF nb h; omega) fun h => by have := HWL.out; omega)).trans HN11.out
            have hw12 := (hO'.block wb (Array.getElem?_eq_some_iff.1 HW11.out).1 (fun h => h.elim (fun h => (HFF.out wb h).2.1 rfl) fun h => by omega)).trans HW11.out
            have HW12 := Lib.hid hw12
            have y0 := cell_of_row _ _ 0 _ _ _ hr12
            have y1 := cell_of_row _ _ 1 _ _ _ hr12
            have y2 := cell_of_row _ _ 2 _ _ _ hr12
            have y3 := cell_of_row _ _ 3 _ _ _ hr12
            have u0 := frozen_of_row _ _ 0 _ _ hw12
            have u1 := frozen_of_row _ _ 1 _ _ hw12
            have u2 := frozen_of_row _ _ 2 _ _ hw12
            have u3 := frozen_of_row _ _ 3 _ _ hw12
            have v0 := cell_of_row _ _ 0 _ _ _ hw12
            have v1 := cell_of_row _ _ 1 _ _ _ hw12
            have v2 := cell_of_row _ _ 2 _ _ _ hw12
            have v3 := cell_of_row _ _ 3 _ _ _ hw12
            have HSS := Lib.hid hS'
            have HMM := Lib.hid hM'
            have HOO := Lib.hid hO'
            have HEE := Lib.hid hE
            have HNF := Lib.hid hnF
            clear hr12 hw12 hS' hM' hO' hE hnF
            go_wp2_with (fail)
            go_meet
            case rel =>
              have P := put4_row HW12.out (a := .slice Ar nr cr) (b := .int .i64 la) (c := .int .i64 sa) (d := .int .i64 na)
              have O := put4_only (W := w12) (g := wb) (a := .slice Ar nr cr) (b := .int .i64 la) (c := .int .i64 sa) (d := .int .i64 na)
              unfold put4 at P O
              generalize (((w12.setCell ⟨wb, 0, none⟩ (.slice Ar nr cr)).setCell ⟨wb, 1, none⟩ (.int .i64 la)).setCell ⟨wb, 2, none⟩ (.int .i64 sa)).setCell ⟨wb, 3, none⟩ (.int .i64 na) = wd at P O ⊢
              exact own_done HWL.out hMw hwx h78 (Array.getElem?_eq_some_iff.1 HI9.out).1 h910 HN10.out HS11.out hwr0 HNF.out HFF.out (HOK.out HEE.out) HF1011.out HSS.out HMM.out HOO.out hdn P O
          · have HFZ := Lib.hid hf12
            clear hf12
            go_wp2_with (fail)
            go_meet
            case rel => exact own_kept HXB.out HMAN.out hdn HFF.out HWR.out HTB.out HF11.out HFZ.out
        case rest =>
          obtain ⟨hom, hod⟩ := hcut
          obtain ⟨w13, hw13⟩ : ∃ x, x = wc := ⟨_, rfl⟩
          subst hw13
          have hwl := HWL.out
          have hod1 : ∀ i, (F i ∨ i = M ∨ i = wb) → i < xb ∧ w.heap.size ≤ i ∧ i ≠ lb := fun i hi => by
            rcases hi with h | h | h
            · have h1 := (HMAN.out.1.dk.lies i h).1
              have h2 := HFF.out i h
              exact ⟨by rw [← HXB.out]; exact h1, by omega, h2.2.2⟩
            · exact ⟨by omega, by omega, by omega⟩
            · exact ⟨by omega, by omega, by omega⟩
          have HI13 := Lib.hid ((hod.block ib (Array.getElem?_eq_some_iff.1 HI11.out).1 (fun h => by have := (hod1 ib h).1; omega)).trans HI11.out)
          have HX13 := Lib.hid ((hod.block xb (Array.getElem?_eq_some_iff.1 HX11'.out).1 (fun h => by have := (hod1 xb h).1; omega)).trans HX11'.out)
          have hl11 := (Below.block HF11.out lb (Array.getElem?_eq_some_iff.1 HLR.out).1).trans HLR.out
          have HL13 := Lib.hid ((hod.block lb (Array.getElem?_eq_some_iff.1 hl11).1 (fun h => (hod1 lb h).2.2 rfl)).trans hl11)
          have HR13 := Lib.hid (own_only HRO11.out hod fun g hg h => by have := (HRO11.out.lt g hg).1; have := (hod1 g h).1; omega)
          have HA13 := Lib.hid (HAP11.out.only hod fun i b _ hb h => by have := (hod1 b h).1; have := upT_le HAP11.out.up (Nat.zero_le i); have := hb.1; have := HF00.out; omega)
          have HF13 : Hid (fr w w13) := Lib.hid ((fr.step HFX.out HF11.out).trans (hod.below (Below.size (fr.step HFX.out HF11.out)) fun i h => (hod1 i h).2.1))
          have HOM := Lib.hid hom
          have HS7 := Lib.hid hs7
          have z0 := cell_of_row _ _ 0 _ _ _ HI13.out
          clear hom hod hod1 hl11 hwl hs7
          go_wp2_with (fail)
          go_loopw [57] (fun t wx => ∃ (i : Nat) (ys' : List Value), i ≤ n ∧ t = .int .i64 i ∧ wx.ownsRow w7.heap.size 57 5 (.slice Ai n ci) n ys' ∧ ApartT wx (.slice Ai n ci) ys' e.add f i ∧ Only (fun b => xb + 1 ≤ b ∧ b < ib) w13 wx) (fun t _ => n - (intOf t).toNat)
          case atStart => exact ⟨0, ys, Nat.zero_le _, rfl, HR13.out, HA13.out, Only.refl _ _⟩
          case round =>
            obtain ⟨i, ys', hin, rfl, hro, hap, hon⟩ := hrel
            have HRI := Lib.hid hro
            have HAI := Lib.hid hap
            have HOI := Lib.hid hon
            have HFI : Hid (fr w wr) := Lib.hid (HF13.out.trans (hon.below (Below.size HF13.out) fun b hb => by omega))
            have HIB := Lib.hid ((hon.block ib (Array.getElem?_eq_some_iff.1 HI13.out).1 (fun h => by omega)).trans HI13.out)
            have HXI := Lib.hid ((hon.block xb (Array.getElem?_eq_some_iff.1 HX13.out).1 (fun h => by omega)).trans HX13.out)
            clear hro hap hon z0
            have z0 := cell_of_row _ _ 0 _ _ _ HIB.out
            have x0 := cell_of_row _ _ 0 _ _ _ HXI.out
            obtain ⟨wo, hwo⟩ : ∃ x, x = wr := ⟨_, rfl⟩
            subst hwo
            by_cases hii : i < n
            · obtain ⟨g, rfl⟩ : ∃ g, Ai = some ⟨g, 0, none⟩ := by
                rcases HRI.out.2 with ⟨h1, h2⟩ | ⟨g, cap, cur, h1, _⟩
                · injection h1 with _ h3 _
                  omega
                · injection h1 with h3 _ _
                  exact ⟨g, h3⟩
              obtain ⟨t, hf⟩ : ∃ t, e.add[i]? = some t := ⟨_, List.getElem?_eq_getElem (by rw [HEN.out]; exact hii)⟩
              obtain ⟨k3, k4, a0, a1, a2, a3, a4, b3, b4⟩ := HAI.out.cells i t (Nat.le_refl _) hf
              obtain ⟨A3, d3, rfl⟩ := slice_form b3
              obtain ⟨A4, d4, rfl⟩ := slice_form b4
              obtain ⟨b, o, cs, rfl, hblt, _, ⟨va, vb, rfl, hva, hvb⟩, hc⟩ := Rows.at_ tbFine (Rows.below tbFine HEA.out HFI.out) hf
              obtain ⟨A5, d5, rfl⟩ := slice_form hva
              have p0 := ownT_cell HRI.out a0
              have p3 := ownT_cell HRI.out a3
              have y0 : wo.cell? ⟨b, o + i * 5, none⟩ = _ := hc 0 _ rfl
              have y3 : wo.cell? ⟨b, o + i * 5 + 3, none⟩ = _ := hc 3 _ rfl
              obtain ⟨X, hX⟩ : ∃ X : ByteArray, (⟨t.lo.toArray⟩ : ByteArray) = X := ⟨_, rfl⟩
              have cv1 : ∀ q, (convert 35 9 (.slice A3 t.lo.length d3)).run Tryz.prog (wo.drewN q) = .ok (.string X) (wo.drewN q) := fun q => by
                have := (b3.below (frH_drewN (w := wo) (k := q))).convert
                rw [hX] at this
                exact this
              have cv2 : ∀ q, (convert 35 9 (.slice A5 t.lo.length d5)).run Tryz.prog (wo.drewN q) = .ok (.string X) (wo.drewN q) := fun q => by
                have := (hva.below (frH_drewN (w := wo) (k := q))).convert
                rw [hX] at this
                exact this
              have HB3 := Lib.hid b3
              have hlob : Hid (t.lo.length ≤ 140737488355328) := Lib.hid (by obtain ⟨_, _, _, h1, h2, h3, _⟩ := b3; omega)
              have HF3 := Lib.hid hf
              have HP3 := Lib.hid p3
              have HPI := Lib.hid p0
              have HA0 := Lib.hid a0
              clear a0 a1 a2 a3 a4 b3 b4 hva hvb hc hf hX
              go_wp2_with (fail)
              go_quiet (fail)
              obtain ⟨wq, hwq⟩ : ∃ wq, wo.drewN nq = wq := ⟨_, rfl⟩
              rw [hwq]
              have hfq : fr wo wq := by rw [← hwq]; exact frH_drewN
              obtain ⟨ml, hml⟩ : ∃ q, t.lo.length = q := ⟨_, rfl⟩
              have HML := Lib.hid hml
              have hmlb : ml ≤ 140737488355328 := by have := hlob.out; omega
              have hup := upT_le HAI.out.up (show i + 1 ≤ n from hii)
              have hup0 := upT_le HAI.out.up (Nat.zero_le i)
              have HAP0 : Hid (∀ b, apart wo (.slice (some ⟨g, 0, none⟩) n ci) f i b → (xb + 1 ≤ b ∧ b < ib) ∧ b ≠ g) := Lib.hid fun b hb => ⟨⟨by have := HF00.out; have := hb.1; omega, by have := HFN.out; have := hb.2.1; omega⟩, fun h => hb.2.2.1 (by rw [h]; rfl)⟩
              obtain ⟨T, hT⟩ : ∃ T : Nat → Prop, apart wo (.slice (some ⟨g, 0, none⟩) n ci) f i = T := ⟨_, rfl⟩
              rw [hT] at HB3 HAP0
              have HBQ := Lib.hid (HB3.out.below hfq)
              have HLO : Hid (∀ b, T b → b < wq.heap.size → Loose wq b) := Lib.hid fun b hb _ => by rw [← hT] at hb; exact hb.2.2.2.below hfq
              have HTT := Lib.hid hT
              have HFQ := Lib.hid hfq
              have zq := hfq.cell z0
              have pq := hfq.cell HP3.out
              rw [hml] at HBQ pq
              have HZQ := Lib.hid zq
              have HPQ := Lib.hid pq
              clear x0 y0 y3 p0 p3 z0 cv1 cv2 hwq hfq hT hup hup0
              rw [hml]
              clear hml
              go_wp2_with (fail)
              go_loopw [104] (fun t' wx => ∃ q : Nat, q ≤ ml ∧ t' = .int .i64 q ∧ Spoil T wq wx) (fun t' _ => ml - (intOf t').toNat)
              case atStart => exact ⟨0, Nat.zero_le _, rfl, Spoil.refl _ _⟩
              case round =>
                as_aux_lemma =>
                  obtain ⟨q, hq, rfl, hsp⟩ := hrel
                  have HSP := Lib.hid hsp
                  have z0 : wr.cell? ⟨ib, 0, none⟩ = some (.slice (some ⟨g, 0, none⟩) n ci) := hsp.only.cellOf HZQ.out (fun h => by have := (HAP0.out ib h).1.2; omega)
                  have p3 : wr.cell? ⟨g, i * 5 + 3, none⟩ = some (.slice A3 ml d3) := hsp.only.cellOf HPQ.out (fun h => (HAP0.out g h).2 rfl)
                  clear hsp zq pq
                  by_cases hqm : q < ml
                  · obtain ⟨bb, oo, ch, rfl, hTb, hLo, hcell⟩ := spoil_at HBQ.out HSP.out HLO.out (k := q) (by rw [HML.out]; exact hqm)
                    have HTB := Lib.hid hTb
                    have HLB := Lib.hid hLo
                    have hfz := hLo.frozen (p := oo + q)
                    unfold bcell at hcell
                    have HU := Lib.hid (u8_next ch)
                    have HQ1 := Lib.hid (show q + 1 ≤ ml from hqm)
                    clear hTb hLo
                    go_wp2_with (fail)
                    go_still_tail 18, (by kernel_rfl)
                    go_wp2_with (fail)
                    refine ⟨⟨q + 1, HQ1.out, by go_num, ?_⟩, by have := HQ1.out; simp [intOf]; omega⟩
                    rw [HU.out]
                    exact (HSP.out.trans (Spoil.store HTB.out HLB.out _)).trans Spoil.drew
                  · obtain rfl : q = ml := by omega
                    have hrw := own_only (own_below HRI.out HFQ.out) HSP.out.only fun g' hg' h => by
                      have e : g = g' := Option.some.inj hg'
                      exact (HAP0.out g' h).2 e.symm
                    have c0 := ownT_cell hrw HA0.out
                    have fz := hrw.frozenAt (i * 5)
                    have HRW := Lib.hid hrw
                    clear hrw p3
                    go_wp2_with (fail)
                    have h1 : ApartT wr (.slice (some ⟨g, 0, none⟩) n ci) ys' e.add f (i + 1) := HAI.out.turned (by rw [HTT.out]; exact (Only.of_below HFQ.out).trans HSP.out.only)
                    have hgb := HOB.out g rfl
                    refine ⟨⟨i + 1, ys'.set (i * 5) (.int .i64 99), by omega, by go_num, (HRW.out.stored _ _).1, h1.put rfl (by omega), ?_⟩, by simp [intOf]; omega⟩
                    exact (HOI.out.trans ((Only.of_below HFQ.out).trans (HSP.out.only.mono fun b hb => (HAP0.out b hb).1))).trans ((only_set _ _ _ _).mono fun b hb => by omega)
            · obtain rfl : i = n := by omega
              have hm15 : OwnM w wo xb ib M p wb lb (j + 1) := own_spoil HOM.out HOI.out (by have := HWL.out; omega) (by have := HWL.out; omega)
              obtain ⟨v', num', dn', D', F', xt', hmg, hdn', hFF', hwr', htb'⟩ := hm15
              have HMG := Lib.hid hmg
              have HFF' := Lib.hid hFF'
              have HWR' := Lib.hid hwr'
              have HTB' := Lib.hid htb'
              have HL15 := Lib.hid ((HOI.out.block lb (Array.getElem?_eq_some_iff.1 HL13.out).1 (fun h => by omega)).trans HL13.out)
              clear hmg hFF' hwr' htb' z0 x0
              go_upto_region 27 with (go_at_call 29; refine (mver_calm HMG.out.1).mono ?_; rintro r w16 ⟨vx, rfl, hvo, f16⟩; obtain ⟨Av, cv, rfl⟩ := hvo.form)
              obtain ⟨nv, hnv⟩ : ∃ q, v'.tabs.length = q := ⟨_, rfl⟩
              rw [hnv] at hvo ⊢
              have hx17 := heap_alloc_new w16 (.cells #[.slice Av nv cv, .int .i64 v'.lg, .int .i64 v'.sq, .int .i64 v'.nx] 50)
              have hf17 : fr w16 (w16.alloc (.cells #[.slice Av nv cv, .int .i64 v'.lg, .int .i64 v'.sq, .int .i64 v'.nx] 50)) := fr.alloc fr.refl _
              have hs17 : (w16.alloc (.cells #[.slice Av nv cv, .int .i64 v'.lg, .int .i64 v'.sq, .int .i64 v'.nx] 50)).heap.size = w16.heap.size + 1 := World.size_alloc _ _
              obtain ⟨vb, hvb⟩ : ∃ q, w16.heap.size = q := ⟨_, rfl⟩
              obtain ⟨h2, hh2⟩ : ∃ q, wo.heap.size = q := ⟨_, rfl⟩
              have h2v : h2 ≤ vb := by rw [← hh2, ← hvb]; exact Below.size f16
              have hrows := own_rows hvo hnv hf17
              rw [hvb] at hx17 hs17 hrows ⊢
              rw [hh2] at hrows
              generalize w16.alloc (.cells #[.slice Av nv cv, .int .i64 v'.lg, .int .i64 v'.sq, .int .i64 v'.nx] 50) = w17 at hx17 hf17 hs17 hrows ⊢
              obtain ⟨ys0, hro0, hby0⟩ := hrows
              obtain ⟨T, hTd⟩ : ∃ T : Nat → Prop, (fun b => (h2 ≤ b ∧ b < vb) ∧ (Value.slice Av nv cv).ownBlock ≠ some b ∧ Loose w17 b) = T := ⟨_, rfl⟩
              rw [hTd] at hby0
              have HTE : Hid (∀ b, T b → (h2 ≤ b ∧ b < vb) ∧ (Value.slice Av nv cv).ownBlock ≠ some b ∧ Loose w17 b) := Lib.hid fun b hb => by rw [← hTd] at hb; exact hb
              have HX17 := Lib.hid hx17
              have HRO0 := Lib.hid hro0
              have HBY0 := Lib.hid hby0
              have HF17 : Hid (fr wo w17) := Lib.hid (fr.step f16 hf17)
              have HH2 := Lib.hid hh2
              have HOB2 : Hid (∀ g', (Value.slice Av nv cv).ownBlock = some g' → h2 ≤ g' ∧ g' < vb) := Lib.hid fun g' hg' => by obtain ⟨css, ho, _⟩ := hvo; have := ho.lt g' hg'; omega
              have e0 := cell_of_row _ _ 0 _ _ _ hx17
              have hnvb : nv ≤ 999999 := by rw [← hnv]; exact HMG.out.1.ver.few
              clear hx17 hf17 hs17 hro0 hby0 hTd hvo hvb hh2 f16 hnv
              go_wp2_with (fail)
              go_loopw [137] (fun t wx => ∃ (i2 : Nat) (zs : List Value), i2 ≤ nv ∧ t = .int .i64 i2 ∧ wx.ownsRow h2 57 5 (.slice Av nv cv) nv zs ∧ (∀ q, i2 ≤ q → q < nv → ∃ A m c hi, zs[q * 5 + 4]? = some (.slice A m c) ∧ m = hi.length ∧ Byt wx T (.slice A m c) hi) ∧ (∀ b, T b → Loose wx b) ∧ Only (fun b => h2 ≤ b ∧ b < vb) w17 wx) (fun t _ => nv - (intOf t).toNat)
              case atStart => exact ⟨0, ys0, Nat.zero_le _, rfl, HRO0.out, fun q _ hq => HBY0.out q hq, fun b hb => (HTE.out b hb).2.2, Only.refl _ _⟩
              case round =>
                obtain ⟨i2, zs, hi2, rfl, hro, hby, hlo, hon⟩ := hrel
                have HRO2 := Lib.hid hro
                have HBY2 := Lib.hid hby
                have HLO2 := Lib.hid hlo
                have HON2 := Lib.hid hon
                have HVX := Lib.hid ((hon.block vb (Array.getElem?_eq_some_iff.1 HX17.out).1 (fun h => by omega)).trans HX17.out)
                clear hro hby hlo hon e0
                have e0 := cell_of_row _ _ 0 _ _ _ HVX.out
                obtain ⟨wp, hwp⟩ : ∃ x, x = wr := ⟨_, rfl⟩
                subst hwp
                by_cases hin2 : i2 < nv
                · as_aux_lemma =>
                    obtain ⟨gv, rfl⟩ : ∃ g, Av = some ⟨g, 0, none⟩ := by
                      rcases HRO2.out.2 with ⟨h1, h2⟩ | ⟨g, cap, cur, h1, _⟩
                      · injection h1 with _ h3 _
                        omega
                      · injection h1 with h3 _ _
                        exact ⟨g, h3⟩
                    obtain ⟨A4, m4, d4, hi4, a4, hm4, b4⟩ := HBY2.out i2 (Nat.le_refl _) hin2
                    have p4 := ownT_cell HRO2.out a4
                    have hzl : zs.length = nv * 5 := HRO2.out.1
                    obtain ⟨u0, hu0⟩ : ∃ u, zs[i2 * 5]? = some u := ⟨_, List.getElem?_eq_getElem (by omega)⟩
                    have hmb : m4 ≤ 140737488355328 := by obtain ⟨_, _, _, h1, h2, h3, _⟩ := b4; omega
                    have HB4 := Lib.hid b4
                    have HP4 := Lib.hid p4
                    have HU0 := Lib.hid hu0
                    have HM4' := Lib.hid hm4
                    have HE0 := Lib.hid e0
                    have HTV : Hid (∀ b, T b → b ≠ gv ∧ b ≠ vb) := Lib.hid fun b hb => ⟨fun h => (HTE.out b hb).2.1 (by rw [h]; rfl), by have := (HTE.out b hb).1.2; omega⟩
                    clear a4 hm4 b4 hu0 hzl
                    go_wp2_with (fail)
                    go_loopw [147] (fun t' wx => ∃ q : Nat, q ≤ m4 ∧ t' = .int .i64 q ∧ Spoil T wp wx) (fun t' _ => m4 - (intOf t').toNat)
                    case atStart => exact ⟨0, Nat.zero_le _, rfl, Spoil.refl _ _⟩
                    case round =>
                      as_aux_lemma =>
                        obtain ⟨q, hq, rfl, hsp⟩ := hrel
                        have HSP := Lib.hid hsp
                        have e1 : wr.cell? ⟨vb, 0, none⟩ = some (.slice (some ⟨gv, 0, none⟩) nv cv) := hsp.only.cellOf HE0.out (fun h => (HTV.out vb h).2 rfl)
                        have p5 : wr.cell? ⟨gv, i2 * 5 + 4, none⟩ = some (.slice A4 m4 d4) := hsp.only.cellOf HP4.out (fun h => (HTV.out gv h).1 rfl)
                        clear hsp e0 p4
                        by_cases hqm : q < m4
                        · as_aux_lemma =>
                            obtain ⟨bb, oo, ch, rfl, hTb, hLo, hcell⟩ := spoil_at HB4.out HSP.out (fun b hb _ => HLO2.out b hb) (k := q) (by rw [← HM4'.out]; exact hqm)
                            have HTB := Lib.hid hTb
                            have HLB := Lib.hid hLo
                            have hfz := hLo.frozen (p := oo + q)
                            unfold bcell at hcell
                            have HU := Lib.hid (u8_next ch)
                            have HQ1 := Lib.hid (show q + 1 ≤ m4 from hqm)
                            clear hTb hLo
                            go_wp2_with (fail)
                            go_still_tail 18, (by kernel_rfl)
                            go_wp2_with (fail)
                            refine ⟨⟨q + 1, HQ1.out, by go_num, ?_⟩, by have := HQ1.out; simp [intOf]; omega⟩
                            rw [HU.out]
                            exact (HSP.out.trans (Spoil.store HTB.out HLB.out _)).trans Spoil.drew
                        · as_aux_lemma =>
                            obtain rfl : q = m4 := by omega
                            have hrw := own_only HRO2.out HSP.out.only fun g' hg' h => by
                              have e : gv = g' := Option.some.inj hg'
                              exact (HTV.out g' h).1 e.symm
                            have c0 := ownT_cell hrw HU0.out
                            have fz := hrw.frozenAt (i2 * 5)
                            have HRW := Lib.hid hrw
                            clear hrw p5
                            go_wp2_with (fail)
                            have hgb := HOB2.out gv rfl
                            refine ⟨⟨i2 + 1, zs.set (i2 * 5) (.int .i64 77), by omega, by go_num, (HRW.out.stored _ _).1, fun q hq hqn => ?_, fun b hb => (HSP.out.loose b (HLO2.out b hb)).only (only_set _ _ _ _) (fun e => (HTV.out b hb).1 e), ?_⟩, by simp [intOf]; omega⟩
                            · obtain ⟨A, m, c, hi, k1, k2, k3⟩ := HBY2.out q (by omega) hqn
                              obtain ⟨hi', l1, l2⟩ := HSP.out.byt _ _ k3
                              exact ⟨A, m, c, hi', by rw [List.getElem?_set_ne (by omega)]; exact k1, by omega, l2.only (only_set _ _ _ _) fun b _ hb e => (HTV.out b hb).1 e⟩
                            · exact (HON2.out.trans (HSP.out.only.mono fun b hb => (HTE.out b hb).1)).trans ((only_set _ _ _ _).mono fun b hb => by omega)
                · obtain rfl : i2 = nv := by omega
                  go_wp2_with (fail)
                  have hfo : fr wo wp := HF17.out.trans (HON2.out.below (Below.size HF17.out) fun b hb => by rw [HH2.out]; exact hb.1)
                  refine ⟨⟨j + 1, by omega, by go_num, own_next ⟨v', num', dn', D', F', xt', HMG.out, hdn', HFF'.out, HWR'.out, HTB'.out⟩ hfo HFI.out, (Below.block hfo lb (Array.getElem?_eq_some_iff.1 HL15.out).1).trans HL15.out⟩, by simp [intOf]; omega⟩
    · as_aux_lemma =>
        obtain rfl : j = 2 := by omega
        have u0 := cell_of_row _ _ 0 _ _ _ HWR.out
        have u1 := cell_of_row _ _ 1 _ _ _ HWR.out
        have u2 := cell_of_row _ _ 2 _ _ _ HWR.out
        have u3 := cell_of_row _ _ 3 _ _ _ HWR.out
        have HMV : Hid (∀ wx, fr wr wx → Calls Tryz.prog 29 #[.pointer (some ⟨M, 0, none⟩)] wx fun r w' => ∃ A c, r = .returned (.agg #[.slice A nx c, .int .i64 v.lg, .int .i64 v.sq, .int .i64 v.nx]) ∧ TabsV w' (fun _ => True) (.slice A nx c) v.tabs ∧ TabsV w' (fun _ => True) (.slice Ax nx cx) v.tabs ∧ fr wx w') := Lib.hid fun wx hx => by
          refine (mver_calm (HMAN.out.1.below hx)).mono ?_
          rintro r w' ⟨vx, rfl, hvo, f⟩
          obtain ⟨A9, c9, rfl⟩ := hvo.form
          have h72 : v.tabs.length * 72 ≤ 140737488355328 := by have := HMAN.out.1.ver.few; omega
          have h1 := OwnRows.rows (bytes := 72) tbFine hvo h72
          rw [HNX.out] at h1 ⊢
          exact ⟨A9, c9, rfl, Rows.keep tbFine h1 fun _ _ _ _ hr => hr.mono fun _ _ => trivial, Rows.keep tbFine (Rows.below tbFine HTB.out (fr.step hx f)) fun _ _ _ _ hr => hr.mono fun _ _ => trivial, f⟩
        go_wp2_with (fail)
        go_region_with (first
          | (go_at_call 30; refine (versame_any (fun _ => True) (fun _ => True) _ _ v.tabs v.lg v.sq v.nx _ (Rows.below tbFine ht1 (by first | exact fr.refl | exact fr.drew fr.refl | exact frH_drewN)) (Rows.below tbFine ht2 (by first | exact fr.refl | exact fr.drew fr.refl | exact frH_drewN))).mono ?_; rintro r w4 ⟨rfl, f4⟩)
          | (go_at_call 29; refine (HMV.out _ (by first | exact fr.refl | exact fr.drew fr.refl | exact frH_drewN)).mono ?_; rintro r w3 ⟨A9, c9, rfl, ht1, ht2, f3⟩; have q0 := f3.cell u0; have q1 := f3.cell u1; have q2 := f3.cell u2; have q3 := f3.cell u3))
        all_goals
          go_wp2_with (fail)
          refine bodyPost_ret (v := .bool true) (by simp [results, Tryz.results5, go_sem]) rfl ?_
          refine ⟨rfl, ?_⟩
          first
            | exact fr.step HFX.out (fr.step (fr.step (fr.drew fr.refl) f3) f4)
            | exact fr.step HFX.out (fr.step f3 f4)
            | exact fr.step HFX.out (fr.drew (fr.step (fr.step (fr.drew fr.refl) f3) f4))
            | exact fr.step HFX.out (fr.drew (fr.step f3 f4))
end Go.Proofs.YtjnolpfmchnnmaaGreatDoor
end
section
namespace Go.Proofs.YtjnolpfmchnnmaaGreatDoor
set_option maxRecDepth 100000
open Go.RowKit Go.BigFrame
theorem manifestOwnArg (v0 : Value) (a0 : Edt) (v1 : Value) (a1 : Edt) (W : World) (w0 : (editV W (fun _ => True) v0 a0 ∧ a0.drop.length * 8 ≤ 140737488355328) ∧ (∀ t ∈ a0.add, t.count < 9223372036854775808) ∧ a0.lg < 9223372036854775808 ∧ a0.sq < 9223372036854775808) (w1 : (editV W (fun _ => True) v1 a1 ∧ a1.drop.length * 8 ≤ 140737488355328) ∧ (∀ t ∈ a1.add, t.count < 9223372036854775808) ∧ a1.lg < 9223372036854775808 ∧ a1.sq < 9223372036854775808) (ht : TabW W) :
    Calls Tryz.prog 5 #[v0, v1] W fun r w' => r = .returned (.bool true) ∧ fr W w' := by
  obtain ⟨⟨⟨av0, dv0, rfl, h1, h2⟩, h3⟩, h4⟩ := w0
  obtain ⟨⟨⟨av1, dv1, rfl, g1, g2⟩, g3⟩, g4⟩ := w1
  exact manifestOwnLaw av0 dv0 av1 dv1 a0 a1 W h1 h2 g1 g2 h3 g3 h4 g4 ht
end Go.Proofs.YtjnolpfmchnnmaaGreatDoor
end
