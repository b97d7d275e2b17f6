/-
Slices of pairs: how they read; usanceref09.Same.
-/
import Derived.Test.YtelbidknefkaiaaThin2
namespace Go.Proofs.Ytelbidknefkaiaa
open Go.RowKit Go.BigFrame
attribute [local go_sem ↓] Go.wp_at_zero Go.wp_at_succ

structure Pr where
  key : List UInt8
  val : List UInt8
deriving DecidableEq
theorem info65 : (Try.prog.info? 65).map (fun i => (i.zero, i.size, i.bytes)) = some (some (.agg #[.slice none 0 0, .slice none 0 0]), 2, 48) := by kernel_rfl
def PrCells (w : World) (S : Nat → Prop) : List Value → List Pr → Prop
  | [], [] => True
  | k :: u :: cs, e :: es => Byt w S k e.key ∧ Byt w S u e.val ∧ PrCells w S cs es
  | _, _ => False
theorem PrCells.cons_inv {w : World} {S : Nat → Prop} {cs : List Value} {e : Pr} {es : List Pr} (h : PrCells w S cs (e :: es)) :
    ∃ k u cs', cs = k :: u :: cs' ∧ Byt w S k e.key ∧ Byt w S u e.val ∧ PrCells w S cs' es := by
  match cs, h with
  | k :: u :: cs', h =>
    obtain ⟨h1, h2, h3⟩ := h
    exact ⟨k, u, cs', rfl, h1, h2, h3⟩
theorem PrCells.nil_inv {w : World} {S : Nat → Prop} {cs : List Value} (h : PrCells w S cs []) : cs = [] := by
  cases cs with
  | nil => rfl
  | cons x l => simp [PrCells] at h
theorem PrCells.append {w : World} {S : Nat → Prop} {cs cs' : List Value} {es es' : List Pr} (h : PrCells w S cs es) (h' : PrCells w S cs' es') : PrCells w S (cs ++ cs') (es ++ es') := by
  induction es generalizing cs with
  | nil => rw [h.nil_inv]; exact h'
  | cons e es ih =>
    obtain ⟨k, u, cs1, rfl, h1, h2, h3⟩ := h.cons_inv
    exact ⟨h1, h2, ih h3⟩
theorem PrCells.one {w : World} {S : Nat → Prop} {k u : Value} {e : Pr} (h1 : Byt w S k e.key) (h2 : Byt w S u e.val) : PrCells w S [k, u] [e] := ⟨h1, h2, trivial⟩
theorem PrCells.imp {w w' : World} {S S' : Nat → Prop} {cs : List Value} {es : List Pr} (h : PrCells w S cs es) (hi : ∀ v bs, Byt w S v bs → Byt w' S' v bs) : PrCells w' S' cs es := by
  induction es generalizing cs with
  | nil => rw [h.nil_inv]; trivial
  | cons e es ih =>
    obtain ⟨k, u, cs1, rfl, h1, h2, h3⟩ := h.cons_inv
    exact ⟨hi _ _ h1, hi _ _ h2, ih h3⟩
theorem PrCells.below {w w' : World} {S : Nat → Prop} {cs : List Value} {es : List Pr} (h : PrCells w S cs es) (hb : Below w.heap.size w w') : PrCells w' S cs es := h.imp fun _ _ h => h.below hb
theorem PrCells.only {w w' : World} {T S : Nat → Prop} {cs : List Value} {es : List Pr} (h : PrCells w T cs es) (ho : Only S w w') (hd : ∀ i, i < w.heap.size → T i → ¬ S i) : PrCells w' T cs es := h.imp fun _ _ h => h.only ho hd
theorem PrCells.mono {w : World} {S S' : Nat → Prop} {cs : List Value} {es : List Pr} (h : PrCells w S cs es) (hS : ∀ i, S i → S' i) : PrCells w S' cs es := h.imp fun _ _ h => h.mono hS
theorem PrCells.at_ {w : World} {S : Nat → Prop} {cs : List Value} {es : List Pr} (h : PrCells w S cs es) {i : Nat} {e : Pr} (hi : es[i]? = some e) :
    ∃ k u, cs[2 * i]? = some k ∧ cs[2 * i + 1]? = some u ∧ Byt w S k e.key ∧ Byt w S u e.val := by
  induction es generalizing cs i with
  | nil => simp at hi
  | cons e' es ih =>
    obtain ⟨k, u, cs1, rfl, h1, h2, h3⟩ := h.cons_inv
    cases i with
    | zero =>
      simp at hi
      subst hi
      exact ⟨k, u, rfl, rfl, h1, h2⟩
    | succ i =>
      obtain ⟨k', u', a1, a4, a5, a6⟩ := ih h3 (i := i) (by simpa using hi)
      refine ⟨k', u', ?_, ?_, a5, a6⟩
      · rw [show 2 * (i + 1) = 2 * i + 2 from by omega]; simpa using a1
      · rw [show 2 * (i + 1) + 1 = (2 * i + 1) + 2 from by omega]; simpa using a4

/-- a slice value of pairs. -/
def Prs (w : World) (S : Nat → Prop) (v : Value) (es : List Pr) : Prop :=
  ∃ A c cs, v = .slice A es.length c ∧ es.length ≤ c ∧ c ≤ 9223372036854775807 ∧ es.length * 48 ≤ 140737488355328 ∧ Row w S A es.length 2 cs ∧ PrCells w S cs es
theorem Prs.nil (w : World) (S : Nat → Prop) : Prs w S (.slice none 0 0) [] := ⟨none, 0, [], rfl, by simp, by simp, by simp, Row.nil _ _ _ _, trivial⟩
theorem Prs.below {w w' : World} {S : Nat → Prop} {v : Value} {es : List Pr} (h : Prs w S v es) (hb : Below w.heap.size w w') : Prs w' S v es := by
  obtain ⟨A, c, cs, e, h1, h2, h3, h4, h5⟩ := h
  exact ⟨A, c, cs, e, h1, h2, h3, h4.below hb, h5.below hb⟩
theorem Prs.only {w w' : World} {T S : Nat → Prop} {v : Value} {es : List Pr} (h : Prs w T v es) (ho : Only S w w') (hd : ∀ i, i < w.heap.size → T i → ¬ S i) : Prs w' T v es := by
  obtain ⟨A, c, cs, e, h1, h2, h3, h4, h5⟩ := h
  exact ⟨A, c, cs, e, h1, h2, h3, h4.only ho hd, h5.only ho hd⟩
theorem Prs.mono {w : World} {S S' : Nat → Prop} {v : Value} {es : List Pr} (h : Prs w S v es) (hS : ∀ i, S i → S' i) : Prs w S' v es := by
  obtain ⟨A, c, cs, e, h1, h2, h3, h4, h5⟩ := h
  exact ⟨A, c, cs, e, h1, h2, h3, h4.mono hS, h5.mono hS⟩
theorem Row.pr {w : World} {S : Nat → Prop} {A : Option Addr} {n : Nat} {cs : List Value} {es : List Pr} (h : Row w S A n 2 cs) (he : PrCells w S cs es) (hn : es.length = n) {i : Nat} {e : Pr} (hi : es[i]? = some e) :
    ∃ b o k u, A = some ⟨b, o, none⟩ ∧ w.cell? ⟨b, o + i * 2, none⟩ = some k ∧ w.cell? ⟨b, o + i * 2 + 1, none⟩ = some u ∧ Byt w S k e.key ∧ Byt w S u e.val ∧ b < w.heap.size ∧ S b := by
  have hl : i < es.length := (List.getElem?_eq_some_iff.1 hi).1
  obtain ⟨b, o, rfl, hS, hb, hc⟩ := h.2 (by omega)
  obtain ⟨k, u, a1, a4, a5, a6⟩ := he.at_ hi
  refine ⟨b, o, k, u, rfl, ?_, ?_, a5, a6, hb, hS⟩
  · have := hc _ _ a1; rwa [show o + 2 * i = o + i * 2 from by omega] at this
  · have := hc _ _ a4; rwa [show o + (2 * i + 1) = o + i * 2 + 1 from by omega] at this
theorem Prs.of_own {w : World} {S : Nat → Prop} {base : Nat} {e : TypeId} {v : Value} {cs : List Value} {es : List Pr} (h : w.ownsRow base e 2 v es.length cs) (hc : PrCells w S cs es) (hS : ∀ i, base ≤ i → i < w.heap.size → S i)
    (hl : es.length * 48 ≤ 140737488355328) : Prs w S v es := by
  rcases h.2 with ⟨rfl, h0⟩ | ⟨g, cap, cur, rfl, hbg, hh, hcap, hcm, _⟩
  · have : es = [] := List.eq_nil_of_length_eq_zero h0
    subst this
    exact Prs.nil _ _
  · have hlt : g < w.heap.size := by
      rcases Nat.lt_or_ge g w.heap.size with h1 | h1
      · exact h1
      · rw [Array.getElem?_eq_none h1] at hh; cases hh
    refine ⟨_, _, cs, rfl, hcap, by unfold maxLen at hcm; omega, hl, ⟨h.1, fun _ => ⟨g, 0, rfl, hS _ hbg hlt, hlt, fun j u hu => ?_⟩⟩, hc⟩
    have := h.cells (g := g) rfl j u hu
    rwa [Addr.add_lit] at this

set_option maxRecDepth 100000 in
set_option maxHeartbeats 2000000 in
theorem sameP_any (S S' : Nat → Prop) (v v' : Value) (xs ys : List Pr) (w : World) (hx : Prs w S v xs) (hy : Prs w S' v' ys) :
    Calls Try.prog 28 #[v, v'] w fun e w' => e = .returned (.bool (decide (xs = ys))) ∧ Below w.heap.size w w' := by
  obtain ⟨A, c, cs, rfl, hc, hcm, hl, hr, he⟩ := hx
  obtain ⟨A', c', cs', rfl, hc', hcm', hl', hr', he'⟩ := hy
  rcases (by omega : xs.length = ys.length ∨ ¬ xs.length = ys.length) with hlen | hlen
  · have hL := Lib.hid hlen
    obtain ⟨n, hn⟩ : ∃ n, xs.length = n := ⟨_, rfl⟩
    rw [← hlen] at hr' ⊢
    rw [hn] at hr hr' hl ⊢
    clear hlen
    have hN := Lib.hid hn
    clear hn
    go_enter Try.func28, Try.ntmps28
    go_wp2
    go_loopw [5, 13] (fun _ t wr => ∃ k : Nat, k ≤ n ∧ t = .int .i64 k ∧ xs.take k = ys.take k ∧ Below w.heap.size w wr) (fun _ t _ => n - (intOf t).toNat)
    case atStart => exact ⟨0, by omega, rfl, by simp, Below.refl _ _⟩
    case round =>
      obtain ⟨k, hk, rfl, hpre, hbel⟩ := hrel
      have hp := Lib.hid hpre
      have HB := Lib.hid hbel
      clear hpre
      by_cases hkn : k < n
      · obtain ⟨x, hxk⟩ : ∃ x, xs[k]? = some x := ⟨_, List.getElem?_eq_getElem (by rw [hN.out]; exact hkn)⟩
        obtain ⟨y, hyk⟩ : ∃ y, ys[k]? = some y := ⟨_, List.getElem?_eq_getElem (by rw [← hL.out, hN.out]; exact hkn)⟩
        obtain ⟨b, o, k1, u1, rfl, c0, c1, b1, b2, _, _⟩ := (hr.below hbel).pr (he.below hbel) hN.out hxk
        obtain ⟨b', o', k2, u2, rfl, d0, d1, e1, e2, _, _⟩ := (hr'.below hbel).pr (he'.below hbel) (by rw [← hL.out, hN.out]) hyk
        have HX := Lib.hid hxk
        have HY := Lib.hid hyk
        have F0 : ∀ q : Ext wr, q.w.cell? { block := b, off := o + k * 2 } = _ := fun q => q.h.cell c0
        have F1 : ∀ q : Ext wr, q.w.cell? { block := b, off := o + k * 2 + 1 } = _ := fun q => q.h.cell c1
        have G0 : ∀ q : Ext wr, q.w.cell? { block := b', off := o' + k * 2 } = _ := fun q => q.h.cell d0
        have G1 : ∀ q : Ext wr, q.w.cell? { block := b', off := o' + k * 2 + 1 } = _ := fun q => q.h.cell d1
        have P0 : ∀ q : Ext wr, (convert 23 9 k1).run Try.prog q.w = .ok (.string ⟨x.key.toArray⟩) q.w := fun q => (b1.below q.h).convert
        have P1 : ∀ q : Ext wr, (convert 23 9 u1).run Try.prog q.w = .ok (.string ⟨x.val.toArray⟩) q.w := fun q => (b2.below q.h).convert
        have Q0 : ∀ q : Ext wr, (convert 23 9 k2).run Try.prog q.w = .ok (.string ⟨y.key.toArray⟩) q.w := fun q => (e1.below q.h).convert
        have Q1 : ∀ q : Ext wr, (convert 23 9 u2).run Try.prog q.w = .ok (.string ⟨y.val.toArray⟩) q.w := fun q => (e2.below q.h).convert
        clear b1 b2 e1 e2 hxk hyk c0 c1 d0 d1 hbel
        obtain ⟨xk, xv⟩ := x
        obtain ⟨yk, yv⟩ := y
        simp only at P0 P1 Q0 Q1
        by_cases hxy : (⟨xk, xv⟩ : Pr) = ⟨yk, yv⟩
        · have HXY := Lib.hid hxy
          injection hxy with h1 h2
          subst h1 h2
          go_wp2
          (refine wp_region_quiet_ext (by kernel_rfl) (by kernel_rfl) ?_; (repeat (go_big_quiet_step (fail))); refine wpQuiet_nil ?_; intro wq hw'; obtain ⟨⟨_, hq⟩, hw''⟩ := hw'; subst hw'')
          go_wp2
          refine ⟨⟨k + 1, by omega, by go_num, ?_, HB.out.trans (hq.mono HB.out.size)⟩, by simp [intOf]; omega⟩
          rw [take_snoc HX.out, take_snoc HY.out, hp.out]
        · have hne : ¬ xs = ys := fun e => by
            have h1 := HX.out
            rw [e, HY.out] at h1
            injection h1 with h1
            exact hxy h1.symm
          have HN := Lib.hid hne
          clear hne
          by_cases h1 : xk = yk
          · have h2 : ¬ xv = yv := fun h2 => hxy (by rw [h1, h2])
            subst h1
            clear hxy
            have h3 : (xv == yv) = false := by simpa using h2
            go_wp2
            (refine wp_region_quiet_ext (by kernel_rfl) (by kernel_rfl) ?_; (repeat (go_big_quiet_step (fail))); refine wpQuiet_nil ?_; intro wq hw'; obtain ⟨⟨_, hq⟩, hw''⟩ := hw'; subst hw'')
            go_wp2
            refine bodyPost_ret (v := .bool _) (by simp [results, Try.results28, go_sem]; rfl) rfl ?_
            exact ⟨ret_bool (decide_eq_false HN.out).symm, HB.out.trans (hq.mono HB.out.size)⟩
          · clear hxy
            have h3 : (xk == yk) = false := by simpa using h1
            go_wp2
            (refine wp_region_quiet_ext (by kernel_rfl) (by kernel_rfl) ?_; (repeat (go_big_quiet_step (fail))); refine wpQuiet_nil ?_; intro wq hw'; obtain ⟨⟨_, hq⟩, hw''⟩ := hw'; subst hw'')
            go_wp2
            refine bodyPost_ret (v := .bool _) (by simp [results, Try.results28, go_sem]; rfl) rfl ?_
            exact ⟨ret_bool (decide_eq_false HN.out).symm, HB.out.trans (hq.mono HB.out.size)⟩
      · obtain rfl : k = n := by omega
        go_wp2
        refine bodyPost_ret (v := .bool _) (by simp [results, Try.results28, go_sem]; rfl) rfl ?_
        refine ⟨ret_bool ?_, hbel⟩
        have e1 := hp.out
        rw [List.take_of_length_le (by rw [hN.out]; exact Nat.le_refl _), List.take_of_length_le (by rw [← hL.out, hN.out]; exact Nat.le_refl _)] at e1
        rw [e1]
        simp
  · have hN := Lib.hid (show ¬ xs = ys from fun e => hlen (by rw [e]))
    have hb : ((xs.length : Int) != (ys.length : Int)) = true := by rw [bne_iff_ne]; omega
    clear hlen
    go_enter Try.func28, Try.ntmps28
    go_wp2
    refine bodyPost_ret (v := .bool _) (by simp [results, Try.results28, go_sem]; rfl) rfl ?_
    exact ⟨ret_bool (decide_eq_false hN.out).symm, Below.refl _ _⟩
end Go.Proofs.Ytelbidknefkaiaa
