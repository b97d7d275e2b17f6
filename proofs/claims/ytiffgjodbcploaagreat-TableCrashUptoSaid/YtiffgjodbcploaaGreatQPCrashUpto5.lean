/-
Rounds that gather: a row of the function's own, behind a box, to which each round appends.
-/
import Derived.Test.YtiffgjodbcploaaGreatQPCrashUpto4
import Derived.Test.YtiffgjodbcploaaGreatQPCrashUpto3
import Derived.Deep.Cut
import Derived.Test.YtiffgjodbcploaaGreatQPCrashUpto0
import Derived.OwnWalkIn
import Derived.TacticsInMore
import Derived.Maps.AppendAt
section
namespace Go.Proofs.YtiffgjodbcploaaGreat
set_option maxRecDepth 100000
open Go.RowKit
attribute [local go_sem ↓] Go.wp_at_zero Go.wp_at_succ
set_option maxRecDepth 100000 in
set_option maxHeartbeats 4000000 in
theorem rordered_any (S : Nat → Prop) (v : Value) (es : List Ent) (w : World) (hv : Ents w S v es) :
    Calls Tryz.prog 11 #[v] w fun r w' => r = .returned (.bool (orderedE es)) ∧ Below w.heap.size w w' := by
  obtain ⟨A, c, cs, rfl, hc, hcm, hl, hr, he⟩ := hv
  obtain ⟨n, hn⟩ : ∃ n, es.length = n := ⟨_, rfl⟩
  rw [hn] at hr hl ⊢
  have HN := Lib.hid hn
  clear hn
  go_enter Tryz.func11, Tryz.ntmps11
  go_wp2
  go_loopw [3, 6] (fun _ t wr => ∃ k : Nat, k ≤ n ∧ t = .int .i64 k ∧ orderedE es = orderedFrom (if k = 0 then none else es[k - 1]?) (es.drop k) ∧ Below w.heap.size w wr) (fun _ t _ => n - (intOf t).toNat)
  case atStart => exact ⟨0, by omega, rfl, rfl, Below.refl _ _⟩
  case round =>
    obtain ⟨k, hk, rfl, hpre, hbel⟩ := hrel
    have hp := Lib.hid hpre
    clear hpre
    by_cases hkn : k < n
    · obtain ⟨e, hek⟩ : ∃ e, es[k]? = some e := ⟨_, List.getElem?_eq_getElem (by rw [HN.out]; exact hkn)⟩
      obtain ⟨b, o, kk, uu, rfl, c0, c1, c2, c3, b1, b2, hblt, _⟩ := (hr.below hbel).ent (he.below hbel) HN.out hek
      have hev := Lib.hid (show EntV wr S (.agg #[kk, .int .i64 e.seq, .bool e.dead, uu]) e from ⟨_, _, rfl, b1, b2⟩)
      have HSTEP := Lib.hid (orderedFrom_step es k e hek (if k = 0 then none else es[k - 1]?))
      have HX := Lib.hid hek
      obtain ⟨Ak, ck, rfl⟩ := slice_form b1
      obtain ⟨Au, cu, rfl⟩ := slice_form b2
      clear b1 b2 hek
      have fW0 : fr wr wr := fr.refl
      have F0 : ∀ q : Ext wr, q.w.cell? { block := b, off := o + k * 4 } = _ := fun q => q.h.cell (fW0.cell c0)
      have F1 : ∀ q : Ext wr, q.w.cell? { block := b, off := o + k * 4 + 1 } = _ := fun q => q.h.cell (fW0.cell c1)
      have F2 : ∀ q : Ext wr, q.w.cell? { block := b, off := o + k * 4 + 2 } = _ := fun q => q.h.cell (fW0.cell c2)
      have F3 : ∀ q : Ext wr, q.w.cell? { block := b, off := o + k * 4 + 3 } = _ := fun q => q.h.cell (fW0.cell c3)
      have HB := Lib.hid (hbel)
      have HHR := Lib.hid (hr.below hbel)
      have HHE := Lib.hid (he.below hbel)
      have CG : ∀ q : Ext wr, Calls Tryz.prog 36 #[.agg #[Value.slice Ak e.key.length ck, .int .i64 e.seq, .bool e.dead, Value.slice Au e.val.length cu]] q.w fun r w'' => r = .returned (.bool (goodE e)) ∧ ∃ q' : Ext wr, w'' = q'.w := fun q => Ext.calls (rgood_any S _ e _ (q.h.ent hev.out))
      go_wp2
      rcases hg : goodE e with _ | _
      · rw [hg] at CG
        have HG := Lib.hid hg
        clear hg
        (refine wp_region_quiet_ext (by kernel_rfl) (by kernel_rfl) ?_; (repeat (go_big_quiet_step ((go_at_call 36; exact CG _)))); refine wpQuiet_nil ?_; intro wq hw'; obtain ⟨⟨_, hq⟩, hw''⟩ := hw'; subst hw'')
        go_wp2
        refine bodyPost_ret (v := .bool _) (by simp [results, Tryz.results11, go_sem]; rfl) rfl ?_
        refine ⟨ret_bool ?_, HB.out.trans ((fW0.step hq).mono (HB.out.size))⟩
        have := hp.out
        rw [HSTEP.out, HG.out] at this
        rw [this]; rfl
      · rw [hg] at CG
        have HG := Lib.hid hg
        clear hg
        rcases Nat.eq_zero_or_pos k with h0 | h0
        · subst h0
          simp only [Nat.zero_mul, Nat.add_zero] at F0 F1 F2 F3
          (refine wp_region_quiet_ext (by kernel_rfl) (by kernel_rfl) ?_; (repeat (go_big_quiet_step ((go_at_call 36; exact CG _)))); refine wpQuiet_nil ?_; intro wq hw'; obtain ⟨⟨_, hq⟩, hw''⟩ := hw'; subst hw'')
          go_wp2
          refine ⟨⟨1, by omega, rfl, ?_, HB.out.trans ((fW0.step hq).mono (HB.out.size))⟩, by simp [intOf]; omega⟩
          rw [hp.out, HSTEP.out, HG.out]
          simp [HX.out]
        · obtain ⟨j, rfl⟩ : ∃ j, k = j + 1 := ⟨k - 1, by omega⟩
          obtain ⟨e', hej⟩ : ∃ e, es[j]? = some e := ⟨_, List.getElem?_eq_getElem (by rw [HN.out]; omega)⟩
          obtain ⟨b', o', kk', uu', hE, d0, d1, d2, d3, b1, b2, _, _⟩ := HHR.out.ent HHE.out HN.out hej
          cases hE
          obtain ⟨Ak', ck', rfl⟩ := slice_form b1
          obtain ⟨Au', cu', rfl⟩ := slice_form b2
          have G0 : ∀ q : Ext wr, q.w.cell? { block := b, off := o + j * 4 } = _ := fun q => q.h.cell (fW0.cell d0)
          have G1 : ∀ q : Ext wr, q.w.cell? { block := b, off := o + j * 4 + 1 } = _ := fun q => q.h.cell (fW0.cell d1)
          have G2 : ∀ q : Ext wr, q.w.cell? { block := b, off := o + j * 4 + 2 } = _ := fun q => q.h.cell (fW0.cell d2)
          have G3 : ∀ q : Ext wr, q.w.cell? { block := b, off := o + j * 4 + 3 } = _ := fun q => q.h.cell (fW0.cell d3)
          have hev' := Lib.hid (fW0.ent (show EntV wr S (.agg #[Value.slice Ak' e'.key.length ck', .int .i64 e'.seq, .bool e'.dead, Value.slice Au' e'.val.length cu']) e' from ⟨_, _, rfl, b1, b2⟩))
          have CC : ∀ q : Ext wr, Calls Tryz.prog 37 #[.agg #[Value.slice Ak' e'.key.length ck', .int .i64 e'.seq, .bool e'.dead, Value.slice Au' e'.val.length cu'], .agg #[Value.slice Ak e.key.length ck, .int .i64 e.seq, .bool e.dead, Value.slice Au e.val.length cu]] q.w fun r w'' => r = .returned (.int .i64 (cmpE e' e)) ∧ ∃ q' : Ext wr, w'' = q'.w := fun q => Ext.calls (rcmp_any S S _ _ e' e _ (q.h.ent hev'.out) (q.h.ent hev.out))
          have HJ := Lib.hid (show (if j + 1 = 0 then none else es[j + 1 - 1]?) = some e' by simpa using hej)
          have hd0 : decide ((0:Int) < (j:Int) + 1) = true := by first | (simp; done) | (simp; omega)
          clear hej b1 b2 d0 d1 d2 d3
          rcases hcm : decide (0 ≤ cmpE e' e) with _ | _
          · (refine wp_region_quiet_ext (by kernel_rfl) (by kernel_rfl) ?_; (repeat (go_big_quiet_step (first | (go_at_call 36; exact CG _) | (go_at_call 37; exact CC _)))); refine wpQuiet_nil ?_; intro wq hw'; obtain ⟨⟨_, hq⟩, hw''⟩ := hw'; subst hw'')
            go_wp2
            refine ⟨⟨j + 2, by omega, by go_num, ?_, HB.out.trans ((fW0.step hq).mono (HB.out.size))⟩, by simp [intOf]; omega⟩
            have h2 := of_decide_eq_false hcm
            rw [hp.out, HSTEP.out, HG.out, HJ.out]
            simp [HX.out, show cmpE e' e < 0 by omega]
          · (refine wp_region_quiet_ext (by kernel_rfl) (by kernel_rfl) ?_; (repeat (go_big_quiet_step (first | (go_at_call 36; exact CG _) | (go_at_call 37; exact CC _)))); refine wpQuiet_nil ?_; intro wq hw'; obtain ⟨⟨_, hq⟩, hw''⟩ := hw'; subst hw'')
            go_wp2
            refine bodyPost_ret (v := .bool _) (by simp [results, Tryz.results11, go_sem]; rfl) rfl ?_
            refine ⟨ret_bool ?_, HB.out.trans ((fW0.step hq).mono (HB.out.size))⟩
            have := hp.out
            have h2 := of_decide_eq_true hcm
            rw [HSTEP.out, HG.out, HJ.out] at this
            rw [this]
            simp [show ¬ cmpE e' e < 0 by omega]
    · go_wp2
      refine bodyPost_ret (v := .bool _) (by simp [results, Tryz.results11, go_sem]; rfl) rfl ?_
      refine ⟨ret_bool ?_, hbel⟩
      have := hp.out
      rw [List.drop_eq_nil_of_le (by rw [HN.out]; omega)] at this
      rw [this]; cases (if k = 0 then none else es[k - 1]?) <;> rfl
end Go.Proofs.YtiffgjodbcploaaGreat
end
section
namespace Go.Proofs.YtiffgjodbcploaaGreat
set_option maxRecDepth 100000
open Go.RowKit Go.BigFrame
attribute [local go_sem ↓] Go.wp_at_zero Go.wp_at_succ
structure Pr where
  key : List UInt8
  val : List UInt8
deriving DecidableEq
theorem info65 : (Tryz.prog.info? 78).map (fun i => (i.zero, i.size, i.bytes)) = some (some (.agg #[.slice none 0 0, .slice none 0 0]), 2, 48) := by kernel_rfl
def PrCells (w : World) (S : Nat → Prop) : List Value → List Pr → Prop
  | [], [] => True
  | k :: u :: cs, e :: es => Byt w S k e.key ∧ Byt w S u e.val ∧ PrCells w S cs es
  | _, _ => False
theorem PrCells.cons_inv {w : World} {S : Nat → Prop} {cs : List Value} {e : Pr} {es : List Pr} (h : PrCells w S cs (e :: es)) :
    ∃ k u cs', cs = k :: u :: cs' ∧ Byt w S k e.key ∧ Byt w S u e.val ∧ PrCells w S cs' es := by
  match cs, h with
  | k :: u :: cs', h =>
    obtain ⟨h1, h2, h3⟩ := h
    exact ⟨k, u, cs', rfl, h1, h2, h3⟩
theorem PrCells.nil_inv {w : World} {S : Nat → Prop} {cs : List Value} (h : PrCells w S cs []) : cs = [] := by
  cases cs with
  | nil => rfl
  | cons x l => simp [PrCells] at h
theorem PrCells.append {w : World} {S : Nat → Prop} {cs cs' : List Value} {es es' : List Pr} (h : PrCells w S cs es) (h' : PrCells w S cs' es') : PrCells w S (cs ++ cs') (es ++ es') := by
  induction es generalizing cs with
  | nil => rw [h.nil_inv]; exact h'
  | cons e es ih =>
    obtain ⟨k, u, cs1, rfl, h1, h2, h3⟩ := h.cons_inv
    exact ⟨h1, h2, ih h3⟩
theorem PrCells.one {w : World} {S : Nat → Prop} {k u : Value} {e : Pr} (h1 : Byt w S k e.key) (h2 : Byt w S u e.val) : PrCells w S [k, u] [e] := ⟨h1, h2, trivial⟩
theorem PrCells.imp {w w' : World} {S S' : Nat → Prop} {cs : List Value} {es : List Pr} (h : PrCells w S cs es) (hi : ∀ v bs, Byt w S v bs → Byt w' S' v bs) : PrCells w' S' cs es := by
  induction es generalizing cs with
  | nil => rw [h.nil_inv]; trivial
  | cons e es ih =>
    obtain ⟨k, u, cs1, rfl, h1, h2, h3⟩ := h.cons_inv
    exact ⟨hi _ _ h1, hi _ _ h2, ih h3⟩
theorem PrCells.below {w w' : World} {S : Nat → Prop} {cs : List Value} {es : List Pr} (h : PrCells w S cs es) (hb : Below w.heap.size w w') : PrCells w' S cs es := h.imp fun _ _ h => h.below hb
theorem PrCells.only {w w' : World} {T S : Nat → Prop} {cs : List Value} {es : List Pr} (h : PrCells w T cs es) (ho : Only S w w') (hd : ∀ i, i < w.heap.size → T i → ¬ S i) : PrCells w' T cs es := h.imp fun _ _ h => h.only ho hd
theorem PrCells.mono {w : World} {S S' : Nat → Prop} {cs : List Value} {es : List Pr} (h : PrCells w S cs es) (hS : ∀ i, S i → S' i) : PrCells w S' cs es := h.imp fun _ _ h => h.mono hS
theorem PrCells.at_ {w : World} {S : Nat → Prop} {cs : List Value} {es : List Pr} (h : PrCells w S cs es) {i : Nat} {e : Pr} (hi : es[i]? = some e) :
    ∃ k u, cs[2 * i]? = some k ∧ cs[2 * i + 1]? = some u ∧ Byt w S k e.key ∧ Byt w S u e.val := by
  induction es generalizing cs i with
  | nil => simp at hi
  | cons e' es ih =>
    obtain ⟨k, u, cs1, rfl, h1, h2, h3⟩ := h.cons_inv
    cases i with
    | zero =>
      simp at hi
      subst hi
      exact ⟨k, u, rfl, rfl, h1, h2⟩
    | succ i =>
      obtain ⟨k', u', a1, a4, a5, a6⟩ := ih h3 (i := i) (by simpa using hi)
      refine ⟨k', u', ?_, ?_, a5, a6⟩
      · rw [show 2 * (i + 1) = 2 * i + 2 from by omega]; simpa using a1
      · rw [show 2 * (i + 1) + 1 = (2 * i + 1) + 2 from by omega]; simpa using a4
/-- a slice value of pairs. -/
def Prs (w : World) (S : Nat → Prop) (v : Value) (es : List Pr) : Prop :=
  ∃ A c cs, v = .slice A es.length c ∧ es.length ≤ c ∧ c ≤ 9223372036854775807 ∧ es.length * 48 ≤ 140737488355328 ∧ Row w S A es.length 2 cs ∧ PrCells w S cs es
theorem Prs.nil (w : World) (S : Nat → Prop) : Prs w S (.slice none 0 0) [] := ⟨none, 0, [], rfl, by simp, by simp, by simp, Row.nil _ _ _ _, trivial⟩
theorem Prs.below {w w' : World} {S : Nat → Prop} {v : Value} {es : List Pr} (h : Prs w S v es) (hb : Below w.heap.size w w') : Prs w' S v es := by
  obtain ⟨A, c, cs, e, h1, h2, h3, h4, h5⟩ := h
  exact ⟨A, c, cs, e, h1, h2, h3, h4.below hb, h5.below hb⟩
theorem Prs.only {w w' : World} {T S : Nat → Prop} {v : Value} {es : List Pr} (h : Prs w T v es) (ho : Only S w w') (hd : ∀ i, i < w.heap.size → T i → ¬ S i) : Prs w' T v es := by
  obtain ⟨A, c, cs, e, h1, h2, h3, h4, h5⟩ := h
  exact ⟨A, c, cs, e, h1, h2, h3, h4.only ho hd, h5.only ho hd⟩
theorem Prs.mono {w : World} {S S' : Nat → Prop} {v : Value} {es : List Pr} (h : Prs w S v es) (hS : ∀ i, S i → S' i) : Prs w S' v es := by
  obtain ⟨A, c, cs, e, h1, h2, h3, h4, h5⟩ := h
  exact ⟨A, c, cs, e, h1, h2, h3, h4.mono hS, h5.mono hS⟩
theorem Row.pr {w : World} {S : Nat → Prop} {A : Option Addr} {n : Nat} {cs : List Value} {es : List Pr} (h : Row w S A n 2 cs) (he : PrCells w S cs es) (hn : es.length = n) {i : Nat} {e : Pr} (hi : es[i]? = some e) :
    ∃ b o k u, A = some ⟨b, o, none⟩ ∧ w.cell? ⟨b, o + i * 2, none⟩ = some k ∧ w.cell? ⟨b, o + i * 2 + 1, none⟩ = some u ∧ Byt w S k e.key ∧ Byt w S u e.val ∧ b < w.heap.size ∧ S b := by
  have hl : i < es.length := (List.getElem?_eq_some_iff.1 hi).1
  obtain ⟨b, o, rfl, hS, hb, hc⟩ := h.2 (by omega)
  obtain ⟨k, u, a1, a4, a5, a6⟩ := he.at_ hi
  refine ⟨b, o, k, u, rfl, ?_, ?_, a5, a6, hb, hS⟩
  · have := hc _ _ a1; rwa [show o + 2 * i = o + i * 2 from by omega] at this
  · have := hc _ _ a4; rwa [show o + (2 * i + 1) = o + i * 2 + 1 from by omega] at this
theorem Prs.of_own {w : World} {S : Nat → Prop} {base : Nat} {e : TypeId} {v : Value} {cs : List Value} {es : List Pr} (h : w.ownsRow base e 2 v es.length cs) (hc : PrCells w S cs es) (hS : ∀ i, base ≤ i → i < w.heap.size → S i)
    (hl : es.length * 48 ≤ 140737488355328) : Prs w S v es := by
  rcases h.2 with ⟨rfl, h0⟩ | ⟨g, cap, cur, rfl, hbg, hh, hcap, hcm, _⟩
  · have : es = [] := List.eq_nil_of_length_eq_zero h0
    subst this
    exact Prs.nil _ _
  · have hlt : g < w.heap.size := by
      rcases Nat.lt_or_ge g w.heap.size with h1 | h1
      · exact h1
      · rw [Array.getElem?_eq_none h1] at hh; cases hh
    refine ⟨_, _, cs, rfl, hcap, by unfold maxLen at hcm; omega, hl, ⟨h.1, fun _ => ⟨g, 0, rfl, hS _ hbg hlt, hlt, fun j u hu => ?_⟩⟩, hc⟩
    have := h.cells (g := g) rfl j u hu
    rwa [Addr.add_lit] at this
end Go.Proofs.YtiffgjodbcploaaGreat
end
section
namespace Go.Proofs.YtiffgjodbcploaaGreat
set_option maxRecDepth 100000
open Go.RowKit Go.BigFrame
attribute [local go_sem ↓] Go.wp_at_zero Go.wp_at_succ
set_option maxRecDepth 100000 in
set_option maxHeartbeats 1000000 in
theorem long_any (A B : Option Addr) (n c m d : Nat) (w : World) (hn : n ≤ 200) (hm : m ≤ 4096) :
    Calls Tryz.prog 58 #[.agg #[.slice A n c, .slice B m d]] w fun r w' => r = .returned (.bool false) ∧ fr w w' := by
  have h1 : ¬ (200 : Int) < (n : Int) := by omega
  have h2 : ¬ (4096 : Int) < (m : Int) := by omega
  go_enter Tryz.func58, Tryz.ntmps58
  go_wp2
  refine bodyPost_ret (v := .bool false) (by simp [results, Tryz.results58, go_sem]) rfl ?_
  exact ⟨rfl, fr.alloc fr.refl _⟩
/-- no pair is too long. -/
def Short (ps : List Pr) : Prop := ∀ p ∈ ps, p.key.length ≤ 200 ∧ p.val.length ≤ 4096
set_option maxRecDepth 100000 in
set_option maxHeartbeats 1000000 in
theorem pidx_any (S : Nat → Prop) (v : Value) (ps : List Pr) (w : World) (hv : Prs w S v ps) (hs : Short ps) :
    Calls Tryz.prog 85 #[v, .func (.func 58) #[] #[]] w fun r w' => r = .returned (.int .i64 (-1)) ∧ fr w w' := by
  have eg : ∀ args w, (callFunc 58 args).run Tryz.prog w = .ok (.enter 58 args) w := fun args w => by kernel_rfl
  obtain ⟨A, c, cs, rfl, hc, hcm, hl, hr, he⟩ := hv
  obtain ⟨n, hn⟩ : ∃ n, ps.length = n := ⟨_, rfl⟩
  rw [hn] at hr hl hc ⊢
  have HN := Lib.hid hn
  have HE := Lib.hid he
  have HR := Lib.hid hr
  have HSH := Lib.hid hs
  clear hn he hr hs
  go_enter Tryz.func85, Tryz.ntmps85
  go_wp2
  go_loopw [8] (fun t wr => ∃ i : Nat, i ≤ n ∧ t = .int .i64 i ∧ fr w wr) (fun t _ => n - (intOf t).toNat)
  case atStart => exact ⟨0, Nat.zero_le _, rfl, fr.refl⟩
  case round =>
    obtain ⟨i, hi, rfl, hf⟩ := hrel
    have HF := Lib.hid hf
    clear hf
    by_cases hin : i < n
    · obtain ⟨p, hp⟩ : ∃ p, ps[i]? = some p := ⟨_, List.getElem?_eq_getElem (by rw [HN.out]; exact hin)⟩
      obtain ⟨b, o, k, u, rfl, x0, x1, q0, q1, _⟩ := (HR.out.below HF.out).pr (HE.out.below HF.out) HN.out hp
      obtain ⟨Ak, ck, rfl⟩ := slice_form q0
      obtain ⟨Au, cu, rfl⟩ := slice_form q1
      obtain ⟨h1, h2⟩ := HSH.out p (List.mem_of_getElem? hp)
      obtain ⟨nk, hnk⟩ : ∃ k, p.key.length = k := ⟨_, rfl⟩
      obtain ⟨nu, hnu⟩ : ∃ k, p.val.length = k := ⟨_, rfl⟩
      rw [hnk] at h1 x0
      rw [hnu] at h2 x1
      have HC := Lib.hid (long_any Ak Au nk ck nu cu wr h1 h2)
      clear q0 q1 h1 h2 hnk hnu hp
      go_wp2_with (go_at_fn 58; refine HC.out.mono ?_; rintro r w2 ⟨rfl, f2⟩)
      exact ⟨⟨i + 1, by omega, by go_num, fr.step HF.out f2⟩, by simp [intOf]; omega⟩
    · obtain rfl : i = n := by omega
      go_wp2
      refine bodyPost_ret (v := .int .i64 (-1)) (by simp [results, Tryz.results85, go_sem]) rfl ?_
      exact ⟨rfl, HF.out⟩
set_option maxRecDepth 100000 in
set_option maxHeartbeats 1000000 in
theorem pcontains_any (S : Nat → Prop) (A : Option Addr) (n c : Nat) (ps : List Pr) (w : World) (hv : Prs w S (.slice A n c) ps) (hs : Short ps) :
    Calls Tryz.prog 59 #[.slice A n c, .func (.func 58) #[] #[]] w fun r w' => r = .returned (.bool false) ∧ fr w w' := by
  have HC := Lib.hid (pidx_any S _ ps w hv hs)
  clear hv
  go_enter Tryz.func59, Tryz.ntmps59
  go_wp2_with (go_at_call 85; refine HC.out.mono ?_; rintro r w2 ⟨rfl, f2⟩)
  refine bodyPost_ret (v := .bool false) (by simp [results, Tryz.results59, go_sem]) rfl ?_
  exact ⟨rfl, f2⟩
end Go.Proofs.YtiffgjodbcploaaGreat
end
section
namespace Go.Proofs.YtiffgjodbcploaaGreat
set_option maxRecDepth 100000
open Go.RowKit Go.BigFrame
attribute [local go_sem ↓] Go.wp_at_zero Go.wp_at_succ
set_option maxRecDepth 100000 in
set_option maxHeartbeats 1000000 in
theorem bclip_any (lo : Nat) (A : Option Addr) (n c : Nat) (bs : List UInt8) (w : World) (hv : OwnF w lo (.slice A n c) bs) (hn : bs.length = n) :
    Calls Tryz.prog 62 #[.slice A n c] w fun r w' => r = .returned (.slice A n n) ∧ OwnF w' lo (.slice A n n) bs ∧ w' = w := by
  obtain ⟨A', c', hE, h1, h2, h3, h4⟩ := hv
  injection hE with e1 e2 e3
  subst e1 e3
  have hnc : n ≤ c := by omega
  have HO : Hid (OwnF w lo (.slice A n n) bs) := Lib.hid ⟨A, n, by rw [hn], by omega, by omega, h3, by
    rcases h4 with rfl | ⟨g, cur, rfl, hg, hh, hcs, ht⟩
    · exact .inl (by omega)
    · exact .inr ⟨g, cur, rfl, hg, hh, by omega, ht⟩⟩
  clear h4 e2 h1 h3 hn
  rcases A with _ | ⟨b, o, sp⟩
  · go_enter Tryz.func62, Tryz.ntmps62
    go_wp2
    refine bodyPost_ret (v := .slice none n n) (by simp [results, Tryz.results62, go_sem]) rfl ?_
    exact ⟨rfl, HO.out, rfl⟩
  · go_enter Tryz.func62, Tryz.ntmps62
    go_wp2
    refine bodyPost_ret (v := .slice (some ⟨b, o, sp⟩) n n) (by simp [results, Tryz.results62, go_sem]) rfl ?_
    exact ⟨rfl, HO.out, rfl⟩
/-- one pair, packed behind a key. -/
def oneP (a : List UInt8) (p : Pr) : List UInt8 :=
  formN (sharedN a p.key) ++ formN (p.key.length - sharedN a p.key) ++ formN p.val.length ++ p.key.drop (sharedN a p.key) ++ p.val
def buildGo : List UInt8 → List Pr → List UInt8
  | _, [] => []
  | a, p :: ps => oneP a p ++ buildGo p.key ps
/-- keys that ascend from one on. -/
def Asc : List UInt8 → List Pr → Prop
  | _, [] => True
  | a, p :: ps => cmpB a p.key < 0 ∧ Asc p.key ps
theorem shared_lt : ∀ {a b : List UInt8}, cmpB a b < 0 → sharedN a b < b.length
  | [], [], h => by simp [cmpB] at h
  | [], y :: ys, _ => by simp [sharedN]
  | x :: xs, [], h => by simp [cmpB] at h
  | x :: xs, y :: ys, h => by
    unfold sharedN
    split
    · rename_i he
      subst he
      have h' : cmpB xs ys < 0 := by simpa [cmpB] using h
      have := shared_lt h'
      simp only [List.length_cons]
      omega
    · simp
theorem oneP_len {a : List UInt8} {p : Pr} (h : p.key.length ≤ 200 ∧ p.val.length ≤ 4096) : (oneP a p).length ≤ 4400 := by
  unfold oneP
  have h1 := (formN_len (sharedN a p.key)).2
  have h2 := (formN_len (p.key.length - sharedN a p.key)).2
  have h3 := (formN_len p.val.length).2
  simp only [List.length_append, List.length_drop]
  omega
theorem step_ownB {w : World} {ops : Array Oper} {o : Oper} {a : Act} {K : Act → World → Prop} {Q : Exit → Act → World → Prop} {E : Prop} (hgd : o.guard = none) (s x : Operand)
    (ho : o.op = .call { callee := .builtin .append, args := #[s, x], argTypes := #[42, 42] }) (lo : Nat) (v src : Value) (hs : a.eval s = v) (hx : a.eval x = src)
    (S : Nat → Prop) (bs cs : List UInt8) (hown : OwnF w lo v bs) (h : Byt w S src cs) (hl : bs.length + cs.length ≤ 140737488355328) (hnew : lo ≤ w.heap.size)
    (hK : ∀ A c w', OwnF w' lo (.slice A (bs ++ cs).length c) (bs ++ cs) → Below lo w w' → K (a.put o.dst (.slice A (bs ++ cs).length c)) w') :
    if Region.wanted o (yielded ops a.tmps) = true then Oper.wp Tryz.prog o a w K Q else E := by
  have hw : Region.wanted o (yielded ops a.tmps) = true := by simp [Region.wanted, hgd]
  rw [if_pos hw]
  obtain ⟨v', w', hrun, h2, h3, _⟩ := run_append_ownB w (fun i => lo ≤ i) (fun i => lo ≤ i) o.type v src S bs cs hown h hl (fun _ h => h) hnew
  obtain ⟨A, c, rfl⟩ := h2.form
  unfold Oper.wp execOp
  simp only [ho, resolve, invoke, builtin, Sem.run_bind, Sem.run_pure, Result.andThen_ok, List.map_toArray, List.map_cons, List.map_nil, hs, hx, hrun]
  exact hK A c w' h2 (RowKit.Below.grown (B := lo) (Below.refl _ _) h3 hnew (fun j e => (hown.blk e).1))
end Go.Proofs.YtiffgjodbcploaaGreat
end
section
namespace Go.Proofs.YtiffgjodbcploaaGreat
set_option maxRecDepth 100000
open Go.RowKit Go.BigFrame
attribute [local go_sem ↓] Go.wp_at_zero Go.wp_at_succ
theorem fr.hp {w w' : World} {i : Nat} {x : Obj} (h : fr w w') (hi : w.heap[i]? = some x) : w'.heap[i]? = some x := (Below.block h i (Array.getElem?_eq_some_iff.1 hi).1).trans hi
theorem pair_keep {W X : World} {lo B : Nat} {x y : Value} (h : Below lo W X) (hB : B < lo) (c0 : W.cell? ⟨B, 0, none⟩ = some x) (c1 : W.cell? ⟨B, 1, none⟩ = some y) : X.cell? ⟨B, 0, none⟩ = some x ∧ X.cell? ⟨B, 1, none⟩ = some y :=
  ⟨(World.cell?_of_block (a := ⟨B, 0, none⟩) (h.block B hB)).trans c0, (World.cell?_of_block (a := ⟨B, 1, none⟩) (h.block B hB)).trans c1⟩
theorem Only.of_lo {W X : World} {lo : Nat} (h : Below lo W X) : Only (fun i => lo ≤ i) W X := ⟨h.os, h.tape, h.output, h.size, fun i _ hn => h.block i (by omega)⟩
set_option maxRecDepth 100000 in
set_option maxHeartbeats 2000000 in
theorem build_any (S : Nat → Prop) (v : Value) (ps : List Pr) (w : World) (hv : Prs w S v ps) (hs : Short ps) (hn4 : ps.length ≤ 4096) (ha : Asc [] ps) :
    Calls Tryz.prog 31 #[v] w fun r w' => ∃ A, r = .returned (.tuple #[.slice A (buildGo [] ps).length (buildGo [] ps).length, .int .i64 0]) ∧ OwnF w' w.heap.size (.slice A (buildGo [] ps).length (buildGo [] ps).length) (buildGo [] ps) ∧ fr w w' := by
  have HPV := Lib.hid hv
  obtain ⟨A, c, cs, rfl, hc, hcm, hl, hr, he⟩ := hv
  obtain ⟨n, hn⟩ : ∃ n, ps.length = n := ⟨_, rfl⟩
  rw [hn] at hr hl hc hn4 HPV ⊢
  have HN := Lib.hid hn
  have HE := Lib.hid he
  have HR := Lib.hid hr
  have HSH := Lib.hid hs
  have HAS := Lib.hid ha
  have HC := Lib.hid (pcontains_any S A n c ps w HPV.out hs)
  obtain ⟨out, hout⟩ : ∃ out, buildGo [] ps = out := ⟨_, rfl⟩
  have HOUT := Lib.hid hout
  rw [hout]
  have h4 : ¬ (4096 : Int) < (n : Int) := by omega
  clear hn he hr hs ha hout HPV
  go_enter Tryz.func31, Tryz.ntmps31
  go_upto_region 5 with (go_at_call 59; refine HC.out.mono ?_; rintro r w1 ⟨rfl, f1⟩)
  have HF1 := Lib.hid f1
  clear f1 HC
  go_wp2
  go_loopw [5, 6, 22] (fun x y t wr => ∃ (k : Nat) (bw ah : List UInt8), k ≤ n ∧ t = .int .i64 k ∧ OwnF wr w.heap.size x bw ∧ Byt wr (fun i => i < w.heap.size) y ah ∧ bw ++ buildGo ah (ps.drop k) = out ∧ Asc ah (ps.drop k) ∧ bw.length ≤ k * 4400 ∧ fr w wr) (fun _ _ t _ => n - (intOf t).toNat)
  case atStart => exact ⟨0, [], [], Nat.zero_le _, rfl, OwnB.nil _ _, Byt.nil _ _, HOUT.out, HAS.out, by simp, HF1.out⟩
  case round =>
    obtain ⟨k, bw, ah, hk, rfl, hown, hah, hbg, hasc, hbl, hf⟩ := hrel
    obtain ⟨Ab, cb, rfl⟩ := hown.form
    obtain ⟨Aa, ca, rfl⟩ := slice_form hah
    have HO := Lib.hid hown
    have HA := Lib.hid hah
    have HBG := Lib.hid hbg
    have HBL := Lib.hid hbl
    have HF := Lib.hid hf
    obtain ⟨nb, hnb⟩ : ∃ q, bw.length = q := ⟨_, rfl⟩
    obtain ⟨na, hna⟩ : ∃ q, ah.length = q := ⟨_, rfl⟩
    rw [hnb] at HO HBL ⊢
    rw [hna] at HA ⊢
    have HNB := Lib.hid hnb
    have HNA := Lib.hid hna
    clear hown hah hbg hbl hf hnb hna HF1
    by_cases hkn : k < n
    · obtain ⟨p, hp⟩ : ∃ p, ps[k]? = some p := ⟨_, List.getElem?_eq_getElem (by rw [HN.out]; exact hkn)⟩
      have hdp : ps.drop k = p :: ps.drop (k + 1) := by
        obtain ⟨hk', he'⟩ := List.getElem?_eq_some_iff.1 hp
        rw [List.drop_eq_getElem_cons hk', he']
      rw [hdp] at hasc
      obtain ⟨hlt, hasc2⟩ := hasc
      obtain ⟨b, o, kv, uv, rfl, x0, x1, q0, q1, _⟩ := HR.out.pr HE.out HN.out hp
      replace x0 := HF.out.cell x0
      replace x1 := HF.out.cell x1
      have hq0 := (Byt.monoLt q0 (S' := fun i => i < w.heap.size) fun _ h _ => h).below HF.out
      have hq1 := (Byt.monoLt q1 (S' := fun i => i < w.heap.size) fun _ h _ => h).below HF.out
      obtain ⟨Ak, ck, rfl⟩ := slice_form hq0
      obtain ⟨Au, cu, rfl⟩ := slice_form hq1
      obtain ⟨hs1, hs2⟩ := HSH.out p (List.mem_of_getElem? hp)
      have hsl := shared_lt hlt
      have hol := oneP_len (a := ah) (HSH.out p (List.mem_of_getElem? hp))
      have hone : oneP ah p = formN (sharedN ah p.key) ++ formN (p.key.length - sharedN ah p.key) ++ formN p.val.length ++ p.key.drop (sharedN ah p.key) ++ p.val := rfl
      have hbg2 : buildGo ah (ps.drop k) = oneP ah p ++ buildGo p.key (ps.drop (k + 1)) := by rw [hdp]; rfl
      obtain ⟨nk, hnk⟩ : ∃ q, p.key.length = q := ⟨_, rfl⟩
      obtain ⟨nu, hnu⟩ : ∃ q, p.val.length = q := ⟨_, rfl⟩
      have CSH := Lib.hid (fun wx (hx : fr wr wx) => shared_any _ _ _ _ ah p.key wx (HA.out.below hx) (hq0.below hx))
      obtain ⟨sh, hsh⟩ : ∃ q, sharedN ah p.key = q := ⟨_, rfl⟩
      rw [hnk] at hs1 hsl hq0 x0 hone CSH
      rw [hnu] at hs2 hq1 x1 hone
      rw [hsh] at hsl hone CSH
      obtain ⟨z, hz⟩ : ∃ z, cmpB ah p.key = z := ⟨_, rfl⟩
      have CCM := Lib.hid (fun wx (hx : fr wr wx) => bcompare_any _ _ _ _ ah p.key wx (HA.out.below hx) (hq0.below hx))
      rw [hz] at hlt CCM
      have hz0 : ¬ (0 : Int) ≤ z := by omega
      obtain ⟨bk, ok, rfl⟩ : ∃ b o, Ak = some ⟨b, o, none⟩ := by
        obtain ⟨A', c', hE, _, _, _, hrow⟩ := hq0
        injection hE with e1 e2 e3
        obtain ⟨b', o', e, _⟩ := hrow.2 (by omega)
        exact ⟨b', o', by rw [e1, e]⟩
      have hckk : nk ≤ ck ∧ ck ≤ 9223372036854775807 := by
        obtain ⟨A', c', hE, h1, h2, _⟩ := hq0
        injection hE with e1 e2 e3
        omega
      have HK := Lib.hid hq0
      have HU := Lib.hid hq1
      have HNK := Lib.hid hnk
      have HNU := Lib.hid hnu
      have HONE := Lib.hid hone
      have HOL := Lib.hid hol
      have HBG2 := Lib.hid hbg2
      have HASC := Lib.hid hasc2
      have P0 : (wr.alloc (.cells #[.slice (some ⟨bk, ok, none⟩) nk ck, .slice Au nu cu] 78)).heap[wr.heap.size]? = some (.cells #[.slice (some ⟨bk, ok, none⟩) nk ck, .slice Au nu cu] 78 (0, 0)) := heap_alloc_new wr _
      have hfa : fr wr (wr.alloc (.cells #[.slice (some ⟨bk, ok, none⟩) nk ck, .slice Au nu cu] 78)) := fr.alloc fr.refl _
      have y0 := cell_of_row _ _ 0 _ _ _ P0
      have y1 := cell_of_row _ _ 1 _ _ _ P0
      clear hdp hp q0 q1 hq0 hq1 hol hone hbg2 hnk hnu hsh hz hlt hasc2
      go_upto_region 11 with (first
        | (go_at_call 60; refine (CCM.out _ hfa).mono ?_; rintro r w2 ⟨rfl, rfl⟩)
        | (go_at_call 61; refine (CSH.out _ hfa).mono ?_; rintro r w2 ⟨rfl, f2⟩))
      obtain ⟨B, hB⟩ : ∃ B, wr.heap.size = B := ⟨_, rfl⟩
      have P2 := fr.hp f2 P0
      have hBl : B < w2.heap.size := by rw [← hB]; exact (Array.getElem?_eq_some_iff.1 P2).1
      rw [hB] at P2 ⊢
      have hfw : fr wr w2 := fr.step hfa f2
      have HF2 := Lib.hid (fr.step HF.out hfw)
      have HO2 := Lib.hid (HO.out.below hfw)
      have HK2 := Lib.hid (HK.out.below hfw)
      have HU2 := Lib.hid (HU.out.below hfw)
      have HP2 := Lib.hid P2
      have HWB := Lib.hid (show w.heap.size ≤ B by rw [← hB]; exact HF.out.size)
      clear y0 y1 P0 hfa f2 P2 x0 x1 CCM CSH hB hfw HA HO HK HU
      have y0 : w2.cell? ⟨B, 0, none⟩ = some (.slice (some ⟨bk, ok, none⟩) nk ck) := cell_of_row _ _ 0 _ _ _ HP2.out
      have y1 : w2.cell? ⟨B, 1, none⟩ = some (.slice Au nu cu) := cell_of_row _ _ 1 _ _ _ HP2.out
      obtain ⟨dk, hdk⟩ : ∃ q, nk - sh = q := ⟨_, rfl⟩
      have hdk2 : (nk : Int) - (sh : Int) = (dk : Int) := by omega
      have hQ : (w2.alloc (.cells #[.int .i64 sh, .int .i64 dk, .int .i64 nu] 3)).heap[w2.heap.size]? = some (.cells #[.int .i64 sh, .int .i64 dk, .int .i64 nu] 3 (0, 0)) := heap_alloc_new w2 _
      have hf3 : fr w2 (w2.alloc (.cells #[.int .i64 sh, .int .i64 dk, .int .i64 nu] 3)) := fr.alloc fr.refl _
      have hz3 : B < (w2.alloc (.cells #[.int .i64 sh, .int .i64 dk, .int .i64 nu] 3)).heap.size := by rw [World.size_alloc]; omega
      have hbd : sh < 1099511627776 ∧ dk < 1099511627776 ∧ nu < 1099511627776 := by omega
      go_upto_region 12 with (fail)
      generalize w2.alloc (.cells #[.int .i64 sh, .int .i64 dk, .int .i64 nu] 3) = w3 at hQ hf3 hz3 ⊢
      obtain ⟨I, hI⟩ : ∃ I, w2.heap.size = I := ⟨_, rfl⟩
      rw [hI] at hQ ⊢
      have HQ := Lib.hid hQ
      have HF3 := Lib.hid hf3
      obtain ⟨vs3, has⟩ : ∃ vs3 : List Nat, vs3 = [sh, dk, nu] := ⟨_, rfl⟩
      have HAS2 := Lib.hid has
      have HCA : Hid (∀ (j a : Nat), vs3[j]? = some a → a < 1099511627776 ∧ ∀ wx, fr w3 wx → wx.cell? ⟨I, j, none⟩ = some (.int .i64 a)) := Lib.hid fun j a h => by
        rw [has] at h
        match j, h with
        | 0, h => simp at h; subst h; exact ⟨hbd.1, fun wx hx => hx.cell (cell_of_row _ _ 0 _ _ _ HQ.out)⟩
        | 1, h => simp at h; subst h; exact ⟨hbd.2.1, fun wx hx => hx.cell (cell_of_row _ _ 1 _ _ _ HQ.out)⟩
        | 2, h => simp at h; subst h; exact ⟨hbd.2.2, fun wx hx => hx.cell (cell_of_row _ _ 2 _ _ _ HQ.out)⟩
        | j + 3, h => simp at h
      clear y0 y1 hQ has hI hbd
      go_loopw [5, 46] (fun x t wx => ∃ (j : Nat) (b2 : List UInt8) (lo : Nat), j ≤ 3 ∧ t = .int .i64 j ∧ OwnF wx lo x b2 ∧ b2 = bw ++ ((vs3.take j).map formN).flatten ∧ b2.length ≤ nb + j * 10 ∧ w.heap.size ≤ lo ∧ (0 < j → w3.heap.size ≤ lo) ∧ lo ≤ wx.heap.size ∧ fr w3 wx) (fun _ t _ => 3 - (intOf t).toNat)
      case atStart => exact ⟨0, bw, w.heap.size, by omega, rfl, HO2.out.below hf3, by simp, by rw [HNB.out]; omega, Nat.le_refl _, fun h => absurd h (by omega), Nat.le_trans HF2.out.size hf3.size, fr.refl⟩
      case round =>
        clear hf3
        obtain ⟨j, b2, lo, hj, rfl, ho, hbe, hb2l, hlo, hlo3, hlz, hf⟩ := hrel
        obtain ⟨A5, c5, rfl⟩ := ho.form
        have HO5 := Lib.hid ho
        have HBE := Lib.hid hbe
        have HF5 := Lib.hid hf
        have HL3 := Lib.hid hlo3
        obtain ⟨n5, hn5⟩ : ∃ q, b2.length = q := ⟨_, rfl⟩
        rw [hn5] at HO5 hb2l ⊢
        have HN5 := Lib.hid hn5
        have hkb : nb + 3 * 10 ≤ 1099511627776 := by have := HBL.out; omega
        clear ho hbe hf hlo3 hn5
        by_cases hj3 : j < 3
        · obtain ⟨a, haj⟩ : ∃ a, vs3[j]? = some a := ⟨_, List.getElem?_eq_getElem (by rw [HAS2.out]; exact hj3)⟩
          obtain ⟨hab, hac⟩ := HCA.out j a haj
          have hcl := hac _ HF5.out
          have hmod : (a : Int) % 18446744073709551616 = (a : Int) := by omega
          have HAP := Lib.hid (appUint_any _ _ b2 a _ HO5.out.byt (by omega) (by rw [HN5.out]; omega))
          have HTK := Lib.hid (take_snoc haj)
          clear hac haj
          go_wp2_with (go_at_call 28; refine HAP.out.mono ?_; rintro r w6 ⟨A6, c6, rfl, ho6, f6⟩)
          have hz5 := HF5.out.size
          refine ⟨⟨j + 1, b2 ++ formN a, _, by omega, by go_num, (by rw [List.length_append] at ho6; exact ho6), ?_, ?_, ?_, fun _ => ?_, f6.size, fr.step HF5.out f6⟩, by simp [intOf]; omega⟩
          · rw [HTK.out, List.map_append, List.flatten_append, HBE.out, List.append_assoc]
            simp
          · have := (formN_len a).2
            rw [List.length_append, HN5.out]
            omega
          · have := HF2.out.size
            have := HF3.out.size
            omega
          · exact hz5
        · obtain rfl : j = 3 := by omega
          have hlo3 := HL3.out (by omega)
          obtain ⟨w7, hw7⟩ : ∃ w', w' = wr := ⟨_, rfl⟩
          subst hw7
          have hz23 := HF3.out.size
          have hz02 := HF2.out.size
          have hwl : w.heap.size < lo := by have := HWB.out; omega
          have hBlo : B < lo := by omega
          have hf27 : fr w2 w7 := fr.step HF3.out HF5.out
          have c0 := hf27.cell (cell_of_row w2 B 0 _ _ _ HP2.out)
          have c1 := hf27.cell (cell_of_row w2 B 1 _ _ _ HP2.out)
          replace c0 : w7.cell? ⟨B, 0, none⟩ = some (.slice (some ⟨bk, ok, none⟩) nk ck) := c0
          replace c1 : w7.cell? ⟨B, 1, none⟩ = some (.slice Au nu cu) := c1
          have HK7 := Lib.hid (HK2.out.below hf27)
          have HU7 := Lib.hid (HU2.out.below hf27)
          have HF7 := Lib.hid (fr.step HF2.out hf27)
          have f7d : Below lo w7 w7.drew := Below.drew (Below.refl lo w7)
          obtain ⟨cs2, hcs2⟩ : ∃ q, ck - sh = q := ⟨_, rfl⟩
          have hcks : ¬ ck = sh := by omega
          have h1s : (sh : Int) ≤ (nk : Int) := by omega
          have h2s : (sh : Int) ≤ (ck : Int) := by omega
          have hdl : (p.key.drop sh).length = dk := by rw [List.length_drop, HNK.out, hdk]
          have HKD : Hid (Byt w7 (fun i => i < w.heap.size) (.slice (some ⟨bk, ok + sh, none⟩) dk cs2) (p.key.drop sh)) := Lib.hid (by
            have := Byt.cut HK7.out (f := sh) (m := dk) (c' := cs2) (by omega) (by omega) (by omega)
            rwa [List.take_of_length_le (by rw [hdl]; exact Nat.le_refl _)] at this)
          have hdn : (b2 ++ p.key.drop sh).length = n5 + dk := by rw [List.length_append, HN5.out, hdl]
          have H8 : Hid (∀ wx, fr w7 wx → OwnF wx lo (.slice A5 n5 c5) b2 ∧ Byt wx (fun i => i < w.heap.size) (.slice (some ⟨bk, ok + sh, none⟩) dk cs2) (p.key.drop sh) ∧ lo ≤ wx.heap.size) := Lib.hid fun wx hx => ⟨HO5.out.below hx, HKD.out.below hx, Nat.le_trans hlz hx.size⟩
          have H9 : Hid (∀ wx, Below lo w7 wx → Byt wx (fun i => i < w.heap.size) (.slice Au nu cu) p.val ∧ lo ≤ wx.heap.size) := Lib.hid fun wx hx => ⟨Byt.only HU7.out (Only.of_lo hx) (fun i _ h1 h2 => by omega), Nat.le_trans hlz hx.size⟩
          have hl8 : b2.length + (p.key.drop sh).length ≤ 140737488355328 := by rw [HN5.out, hdl]; omega
          have hl9 : (b2 ++ p.key.drop sh).length + p.val.length ≤ 140737488355328 := by rw [hdn, HNU.out]; omega
          have HDN := Lib.hid hdn
          have HL9 : Hid ((b2 ++ p.key.drop sh ++ p.val).length = n5 + dk + nu) := Lib.hid (by rw [List.length_append, hdn, HNU.out])
          have HALL : Hid (b2 ++ p.key.drop sh ++ p.val = bw ++ oneP ah p) := Lib.hid (by rw [HBE.out, HAS2.out, HONE.out, ← hdk]; simp [List.append_assoc])
          have f7r : fr w7 w7.drew := fr.refl.drew
          clear hdn hdl
          go_upto_region 16 with (fail)
          go_region_held3 (fun w' => w'.cell? ⟨B, 0, none⟩ = some (.slice (some ⟨bk, ok, none⟩) nk ck) ∧ w'.cell? ⟨B, 1, none⟩ = some (.slice Au nu cu))
            (first
              | with_reducible exact pair_keep f7d hBlo c0 c1
              | with_reducible exact pair_keep g8 hBlo c0 c1
              | with_reducible exact pair_keep g9 hBlo c0 c1)
            (first
              | (go_split_ands; refine step_ownB (by rfl) _ _ (by rfl) lo (.slice A5 n5 c5) (.slice (some ⟨bk, ok + sh, none⟩) dk cs2) (by rfl) (by rfl) (fun i => i < w.heap.size) b2 (p.key.drop sh) (H8.out _ ?_).1 (H8.out _ ?_).2.1 hl8 (H8.out _ ?_).2.2 ?_; (focus (with_reducible assumption)); (focus (with_reducible assumption)); (focus (with_reducible assumption)); intro A8 c8 w8 ho8 hb8; (have g8 : Below lo w7 w8 := Below.trans f7d hb8); rw [HDN.out] at ho8 ⊢)
              | (go_split_ands; refine step_ownB (by rfl) _ _ (by rfl) lo (.slice A8 (n5 + dk) c8) (.slice Au nu cu) (by rfl) (by rfl) (fun i => i < w.heap.size) (b2 ++ p.key.drop sh) p.val ho8 (H9.out _ g8).1 hl9 (H9.out _ g8).2 ?_; intro A9 c9 w9 ho9 hb9; (have g9 : Below lo w7 w9 := Below.trans g8 hb9); rw [HL9.out] at ho9 ⊢))
          all_goals
            have e0 := (pair_keep g9 hBlo c0 c1).1
            have e1 := (pair_keep g9 hBlo c0 c1).2
            go_wp2_with fail
            refine ⟨⟨k + 1, b2 ++ p.key.drop sh ++ p.val, p.key, by omega, by go_num, ho9.mono (fun i hi => by omega), Byt.only HK7.out (Only.of_lo g9) (fun i _ h1 h2 => by omega), ?_, HASC.out, ?_, Below.trans HF7.out (Below.mono g9 (by omega))⟩, by simp [intOf]; omega⟩
            · rw [HALL.out, ← HBG.out, HBG2.out, List.append_assoc]
            · rw [HALL.out, List.length_append, HNB.out]
              have := HOL.out
              have := HBL.out
              omega
    · obtain rfl : k = n := by omega
      have hdp : ps.drop k = [] := List.drop_eq_nil_of_le (by rw [HN.out]; exact Nat.le_refl _)
      have hbo : bw = out := by have := HBG.out; rw [hdp] at this; simpa [buildGo] using this
      have hlo : out.length = nb := by rw [← hbo, HNB.out]
      rw [hbo] at HO HNB
      clear hasc hdp hbo
      go_wp2_with (go_at_call 62; refine (bclip_any w.heap.size Ab nb cb out _ HO.out HNB.out).mono ?_; rintro r w5 ⟨rfl, ho5, rfl⟩)
      refine bodyPost_ret (v := .tuple #[.slice Ab nb nb, .int .i64 0]) (by simp [results, Tryz.results31, go_sem]) rfl ?_
      exact ⟨_, by rw [hlo], by rw [hlo]; exact ho5, HF.out⟩
end Go.Proofs.YtiffgjodbcploaaGreat
end
section
namespace Go.Proofs.YtiffgjodbcploaaGreat
set_option maxRecDepth 100000
open Go.RowKit Go.BigFrame
/-- a pair handed over: its bytes are new, and in none of the round's blocks. -/
def OkP (lo : Nat) (T : Nat → Prop) (x : Value × Pr) (W : World) : Prop :=
  ∃ k u, x.1 = .agg #[k, u] ∧ Byt W (fun i => (lo ≤ i ∧ ¬ T i) ∧ Loose W i) k x.2.key ∧ Byt W (fun i => (lo ≤ i ∧ ¬ T i) ∧ Loose W i) u x.2.val
theorem Byt.looseOnly {W W' : World} {R S : Nat → Prop} {v : Value} {bs : List UInt8} (h : Byt W (fun i => R i ∧ Loose W i) v bs) (ho : Only S W W') (hd : ∀ i, R i → ¬ S i) : Byt W' (fun i => R i ∧ Loose W' i) v bs :=
  Byt.mono (S := fun i => R i ∧ Loose W i) (Byt.only (T := fun i => R i ∧ Loose W i) h ho fun i _ hi => hd i hi.1) fun i hi => ⟨hi.1, hi.2.only ho (hd i hi.1)⟩
theorem OkP.only {lo : Nat} {T S : Nat → Prop} {x : Value × Pr} {W W' : World} (h : OkP lo T x W) (ho : Only S W W') (hd : ∀ i, S i → T i ∨ i < lo) : OkP lo T x W' := by
  obtain ⟨k, u, e, h1, h2⟩ := h
  have hd' : ∀ i, lo ≤ i ∧ ¬ T i → ¬ S i := fun i hi hS => (hd i hS).elim hi.2 fun h => by omega
  exact ⟨k, u, e, Byt.looseOnly h1 ho hd', Byt.looseOnly h2 ho hd'⟩
theorem OkP.anti {lo : Nat} {T T' : Nat → Prop} {x : Value × Pr} {W : World} (h : OkP lo T x W) (hT : ∀ i, T' i → T i) : OkP lo T' x W := by
  obtain ⟨k, u, e, h1, h2⟩ := h
  exact ⟨k, u, e, h1.mono fun i hi => ⟨⟨hi.1.1, fun h => hi.1.2 (hT i h)⟩, hi.2⟩, h2.mono fun i hi => ⟨⟨hi.1.1, fun h => hi.1.2 (hT i h)⟩, hi.2⟩⟩
/-- the set has grown by blocks that were made behind. -/
theorem OkP.grew {lo s : Nat} {T T' : Nat → Prop} {x : Value × Pr} {W W' : World} (h : OkP lo T x W) (hs : W.heap.size ≤ s) (hg : Grew s T T') (ho : Only T W W') : OkP lo T' x W' := by
  obtain ⟨k, u, e, h1, h2⟩ := h
  have step : ∀ {v bs}, Byt W (fun i => (lo ≤ i ∧ ¬ T i) ∧ Loose W i) v bs → Byt W' (fun i => (lo ≤ i ∧ ¬ T' i) ∧ Loose W' i) v bs := fun {v bs} h => by
    have h3 : Byt W (fun i => ((lo ≤ i ∧ ¬ T i) ∧ i < W.heap.size) ∧ Loose W i) v bs := h.mono fun i hi => ⟨⟨hi.1, hi.2.lt⟩, hi.2⟩
    exact (Byt.looseOnly h3 ho fun i hi => hi.1.2).mono fun i hi => ⟨⟨hi.1.1.1, fun hT => (hg i hT).elim hi.1.1.2 fun h => by have := hi.1.2; omega⟩, hi.2⟩
  exact ⟨k, u, e, step h1, step h2⟩
structure PairsK (w : World) (B Bw b o n c : Nat) (S0 : Nat → Prop) (bs : List UInt8) : Prop where
  b1 : Boxed w B 42 (.slice (some ⟨b, o, none⟩) n c)
  b2 : Boxed w (B + 1) 162 (.pointer (some ⟨Bw, 0, none⟩))
  b3 : Boxed w Bw 30 (.int .i64 0)
  byt : Byt w S0 (.slice (some ⟨b, o, none⟩) n c) bs
theorem boxedFr {w w' : World} {B : Nat} {t : TypeId} {v : Value} (h : Boxed w B t v) (hf : fr w w') : Boxed w' B t v := (Below.block hf B h.lt).trans h
theorem boxedOnly {w w' : World} {B : Nat} {t : TypeId} {v : Value} {S : Nat → Prop} (h : Boxed w B t v) (hf : Only S w w') (hS : ¬ S B) : Boxed w' B t v := (hf.block B h.lt hS).trans h
section
variable {w w' : World} {B Bw b o n c : Nat} {S0 : Nat → Prop} {bs : List UInt8}
theorem PairsK.fr (h : PairsK w B Bw b o n c S0 bs) (hf : fr w w') : PairsK w' B Bw b o n c S0 bs := ⟨boxedFr h.b1 hf, boxedFr h.b2 hf, boxedFr h.b3 hf, h.byt.below hf⟩
theorem PairsK.only (h : PairsK w B Bw b o n c S0 bs) {T : Nat → Prop} (hf : Only T w w') (hT : ∀ i, T i → ¬ (i = B ∨ i = B + 1 ∨ i = Bw ∨ S0 i)) : PairsK w' B Bw b o n c S0 bs :=
  ⟨boxedOnly h.b1 hf fun h => hT _ h (.inl rfl), boxedOnly h.b2 hf fun h => hT _ h (.inr (.inl rfl)), boxedOnly h.b3 hf fun h => hT _ h (.inr (.inr (.inl rfl))), h.byt.only hf fun i _ hi h => hT i h (.inr (.inr (.inr hi)))⟩
theorem PairsK.ne1 (h : PairsK w B Bw b o n c S0 bs) : B ≠ Bw := by
  rintro rfl
  have := h.b1.symm.trans h.b3
  injection this with this
  injection this with _ this
  exact absurd this (by decide)
theorem PairsK.ne2 (h : PairsK w B Bw b o n c S0 bs) : B + 1 ≠ Bw := by
  rintro rfl
  have := h.b2.symm.trans h.b3
  injection this with this
  injection this with _ this
  exact absurd this (by decide)
theorem PairsK.why (h : PairsK w B Bw b o n c S0 bs) (hS : ¬ S0 Bw) : PairsK (w.setCell ⟨Bw, 0, none⟩ (.int .i64 0)) B Bw b o n c S0 bs :=
  ⟨h.b1.other h.ne1 _, h.b2.other h.ne2 _, h.b3.set _, h.byt.only (only_set w Bw 0 _) fun _ _ hi e => hS (e ▸ hi)⟩
theorem PairsK.set (h : PairsK w B Bw b o n c S0 bs) {I : Nat} (hI : ¬ (I = B ∨ I = B + 1 ∨ I = Bw ∨ S0 I)) (j : Nat) (u : Value) : PairsK (w.setCell ⟨I, j, none⟩ u) B Bw b o n c S0 bs :=
  h.only (only_set w I j u) fun i e => by rw [e]; exact hI
end
/-- a slice's beginning. -/
theorem Byt.front {w : World} {S : Nat → Prop} {A : Option Addr} {n c m : Nat} {bs : List UInt8} (h : Byt w S (.slice A n c) bs) (hm : m ≤ n) : Byt w S (.slice A m c) (bs.take m) := by
  obtain ⟨A', c', hE, h1, h2, h3, hr⟩ := h
  injection hE with e1 e2 e3
  subst e1 e3
  have hl : (bs.take m).length = m := by rw [List.length_take]; omega
  refine ⟨A, c, by rw [hl], by omega, h2, by omega, by rw [List.length_map, hl, Nat.mul_one], fun h0 => ?_⟩
  obtain ⟨b', o', e, hS, hb, hc⟩ := hr.2 (by omega)
  refine ⟨b', o', e, hS, hb, fun j u hu => hc j u ?_⟩
  rw [List.map_take, List.getElem?_take] at hu
  split at hu
  · exact hu
  · cases hu
theorem Byt.zero {w : World} {S : Nat → Prop} (A : Option Addr) (c : Nat) (hc : c ≤ 9223372036854775807) : Byt w S (.slice A 0 c) [] := ⟨A, c, rfl, Nat.zero_le _, hc, by simp, by simp, fun h => absurd h (by simp)⟩
theorem BytsV.two {w : World} {x y : Value} {xs ys : List UInt8} {S S' : Nat → Prop} (hx : Byt w S x xs) (hy : Byt w S' y ys) :
    BytsV (w.alloc (.cells #[x, y] 42)) (fun _ => True) (.slice (some ⟨w.heap.size, 0, none⟩) 2 2) [xs, ys] := BytsV.lit w [x, y] [xs, ys] 2 _ rfl rfl rfl (by omega) (fun i p hp => by
  match i, hp with
  | 0, hp => simp at hp; subst hp; exact ⟨_, rfl, hx.mono fun _ _ => trivial⟩
  | 1, hp => simp at hp; subst hp; exact ⟨_, rfl, hy.mono fun _ _ => trivial⟩
  | i + 2, hp => simp at hp)
/-- what the first bytes of a packed pair tell. -/
theorem key_of_shared : ∀ {a b : List UInt8}, a.take (sharedN a b) ++ b.drop (sharedN a b) = b
  | [], b => by cases b <;> rfl
  | x :: xs, [] => by simp [sharedN]
  | x :: xs, y :: ys => by
    unfold sharedN
    split
    · rename_i h
      rw [List.take_succ_cons, List.drop_succ_cons, List.cons_append, key_of_shared, h]
    · simp
theorem shared_le : ∀ {a b : List UInt8}, sharedN a b ≤ a.length
  | [], b => by cases b <;> simp [sharedN]
  | x :: xs, [] => by simp [sharedN]
  | x :: xs, y :: ys => by
    unfold sharedN
    split
    · have := shared_le (a := xs) (b := ys)
      simp only [List.length_cons]
      omega
    · simp
theorem oneP_pos (a : List UInt8) (p : Pr) : 3 ≤ (oneP a p).length := by
  unfold oneP
  have h1 := (formN_len (sharedN a p.key)).1
  have h2 := (formN_len (p.key.length - sharedN a p.key)).1
  have h3 := (formN_len p.val.length).1
  simp only [List.length_append]
  omega
end Go.Proofs.YtiffgjodbcploaaGreat
end
section
namespace Go.Proofs.YtiffgjodbcploaaGreat
set_option maxRecDepth 100000
open Go.RowKit Go.BigFrame
theorem wpListIn_append_at {F : Fence} {n : Nat} {P : Program} (w : World) {ops : Array Oper} {rest : List Oper} {o : Oper} {a : Act} {Q : Exit → Act → World → Prop}
    (hg : o.guard = none) (s x : Operand) (t : TypeId) (hop : o.op = Op.call { callee := Callee.builtin Builtin.append, args := #[s, x], argTypes := #[t, t] })
    (base : Nat) (e : TypeId) (i : TypeInfo) (z : Value) (size bytes : Nat) (h1 : P.underlying t = some (.slice e)) (h2 : P.info? e = some i) (h3 : i.zero = some z) (h4 : i.size = size) (h5 : i.bytes = bytes) (h6 : z.cells.size = size) (h7 : 0 < size)
    (v : Value) (k : Nat) (xs : List Value) (hs : a.eval s = v) (hown : w.ownsRow base e size v k xs) (ad : Addr) (m c : Nat) (news : List Value) (hx : a.eval x = .slice (some ad) m c) (hn : news.length = m * size)
    (hc : ∀ j u, news[j]? = some u → w.cell? (ad.add j) = some u) (h1c : ∀ u ∈ news, u.oneCell' = true) (b1 : k + m ≤ maxLen) (b2 : (k + m) * bytes ≤ 140737488355328) (b3 : base ≤ w.heap.size)
    (hK : ∀ v' w', w'.ownsRow base e size v' (k + m) (xs ++ news) → w.grownBy w' v.ownBlock → (v'.ownBlock = v.ownBlock ∨ v'.ownBlock = some w.heap.size) → wpListIn F n P ops Q rest (a.put o.dst v') w') :
    wpListIn F n P ops Q (o :: rest) a w := by
  refine wpListIn_plain hg fun K hK' => ?_
  obtain ⟨v', w', hrun, r1, r2, _, r4⟩ := run_append_own_at (P := P) w base t o.type e i z size bytes h1 h2 h3 h4 h5 h6 h7 v k xs hown ad m c news hn hc h1c b1 b2 b3
  unfold Oper.wpIn
  refine ⟨?_, ?_⟩
  · simp [Oper.about, hop, resolve, Target.leads, Sem.run_pure]
  · rw [Oper.semAt_plain F _ _ (by rw [hop]; intro c hc'; cases hc')]
    simp [execOp, hop, resolve, invoke, builtin, hs, hx, hrun, Result.andThen]
    exact hK' _ _ (hK v' w' r1 r2 r4)
theorem Loose.idle {Z : Nat → Prop} {base i : Nat} {A B : World} (h : Loose A i) (hi : Idle Z base A B) (hZ : ¬ Z i) : Loose B i := by
  obtain ⟨cs, h⟩ := h
  exact ⟨cs, hi.cells hZ h rfl⟩
theorem Byt.idle {Z R : Nat → Prop} {base : Nat} {A B : World} {v : Value} {bs : List UInt8} (h : Byt A (fun i => R i ∧ Loose A i) v bs) (hi : Idle Z base A B) (hZ : ∀ i, R i → ¬ Z i) : Byt B (fun i => R i ∧ Loose B i) v bs :=
  Byt.mono (S := fun i => R i ∧ Loose A i) (Byt.keep (S := fun i => R i ∧ Loose A i) h hi.size fun i _ hR => by
    obtain ⟨cs, hl⟩ := hR.2
    exact (hi.cells (hZ i hR.1) hl rfl).trans hl.symm) fun _ hR => ⟨hR.1, hR.2.idle hi (hZ _ hR.1)⟩
/-- bytes in no block of a set, behind a step that turned that set and made it greater by new blocks. -/
theorem Byt.grewT {lo : Nat} {T T' : Nat → Prop} {v : Value} {bs : List UInt8} {W W' : World} (h : Byt W (fun i => (lo ≤ i ∧ ¬ T i) ∧ Loose W i) v bs) (hg : Grew W.heap.size T T') (ho : Only (fun i => T i ∨ W.heap.size ≤ i) W W') : Byt W' (fun i => (lo ≤ i ∧ ¬ T' i) ∧ Loose W' i) v bs := by
  have h3 : Byt W (fun i => ((lo ≤ i ∧ ¬ T i) ∧ i < W.heap.size) ∧ Loose W i) v bs := h.mono fun i hi => ⟨⟨hi.1, hi.2.lt⟩, hi.2⟩
  refine (Byt.looseOnly h3 ho fun i hi h => h.elim hi.1.2 fun h => by have := hi.2; omega).mono fun i hi => ⟨⟨hi.1.1.1, fun hT => (hg i hT).elim hi.1.1.2 fun h => by have := hi.1.2; omega⟩, hi.2⟩
theorem Only.idle {Z : Nat → Prop} {base : Nat} {w W W' : World} (h : Only Z w W) (hi : Idle Z base W W') (hb : w.heap.size ≤ base) : Only Z w W' :=
  ⟨hi.os.trans h.os, hi.tape.trans h.tape, hi.output.trans h.output, Nat.le_trans h.size hi.size, fun i hlt hn => (hi.block i (Nat.lt_of_lt_of_le hlt h.size) fun hk => hk.elim hn fun hk => by omega).trans (h.block i hlt hn)⟩
section
variable {te e : TypeId} {size n₀ B : Nat}
/-- the box, the row, and the set of blocks that they lie in. -/
structure Grows (te e : TypeId) (size n₀ B : Nat) (T : Nat → Prop) (v : Value) (k : Nat) (ys : List Value) (W : World) : Prop where
  box : Boxed W B te v
  row : W.ownsRow n₀ e size v k ys
  set : ∀ i, T i ↔ i = B ∨ v.ownBlock = some i
theorem Grows.blk {T : Nat → Prop} {v : Value} {k : Nat} {ys : List Value} {W : World} (h : Grows te e size n₀ B T v k ys W) {g : Nat} (hg : v.ownBlock = some g) : n₀ ≤ g ∧ g < W.heap.size ∧ ∃ cur, W.heap[g]? = some (.cells cur e (0, 0)) := by
  rcases h.row.2 with ⟨rfl, _⟩ | ⟨g', cap, cur, rfl, hb, hh, _⟩
  · simp [Value.ownBlock] at hg
  · obtain rfl : g' = g := by simpa [Value.ownBlock] using hg
    exact ⟨hb, (Array.getElem?_eq_some_iff.1 hh).1, cur, hh⟩
theorem Grows.lt {T : Nat → Prop} {v : Value} {k : Nat} {ys : List Value} {W : World} (h : Grows te e size n₀ B T v k ys W) {i : Nat} (hi : T i) : i < W.heap.size := by
  rcases (h.set i).1 hi with rfl | hg
  · exact h.box.lt
  · exact (h.blk hg).2.1
theorem Grows.idle {T Z : Nat → Prop} {v : Value} {k base : Nat} {ys : List Value} {W W' : World} (h : Grows te e size n₀ B T v k ys W) (hi : Idle Z base W W') (hZ : ∀ i, Z i → i < n₀) (hB : n₀ ≤ B) : Grows te e size n₀ B T v k ys W' := by
  refine ⟨hi.cells (fun hz => by have := hZ _ hz; omega) h.box rfl, own_only h.row hi fun g hg hS => ?_, h.set⟩
  obtain ⟨h1, _, cur, h2⟩ := h.blk hg
  rcases hS with hz | ⟨_, o, ho, hc⟩
  · have := hZ _ hz; omega
  · rw [h2] at ho
    injection ho with ho
    subst ho
    cases hc
theorem Grows.below {T : Nat → Prop} {v : Value} {k : Nat} {ys : List Value} {W W' : World} (h : Grows te e size n₀ B T v k ys W) (hf : fr W W') : Grows te e size n₀ B T v k ys W' :=
  ⟨boxedFr h.box hf, own_below h.row hf, h.set⟩
theorem Grows.push {T : Nat → Prop} {v v' : Value} {k k' sA : Nat} {ys ys' : List Value} {W w2 : World} {tmp : Obj} (h : Grows te e size n₀ B T v k ys W) (hte : te ≠ e) (hB : n₀ ≤ B) (hn : n₀ ≤ W.heap.size) (hs : sA ≤ W.heap.size)
    (hown : w2.ownsRow n₀ e size v' k' ys') (hg : (W.alloc tmp).grownBy w2 v.ownBlock) (hat : v'.ownBlock = v.ownBlock ∨ v'.ownBlock = some (W.alloc tmp).heap.size) :
    Boxed w2 B te v ∧ Grows te e size n₀ B (fun i => i = B ∨ v'.ownBlock = some i) v' k' ys' (w2.setCell ⟨B, 0, none⟩ v') ∧ Grew sA T (fun i => i = B ∨ v'.ownBlock = some i) ∧ Only (fun i => T i ∨ sA ≤ i) W (w2.setCell ⟨B, 0, none⟩ v') := by
  obtain ⟨h1, h2, h3, _, _⟩ := h.box.appended hte h.row hn hB hown hg
  refine ⟨h1, ⟨h2, h3, fun i => Iff.rfl⟩, fun i hi => ?_, hg.os, hg.tape, hg.output, ?_, fun i hi hS => ?_⟩
  · rcases hi with rfl | hi
    · exact .inl ((h.set _).2 (.inl rfl))
    · rcases hat with hat | hat
      · exact .inl ((h.set _).2 (.inr (hat ▸ hi)))
      · rw [hat] at hi
        injection hi with hi
        simp at hi
        omega
  · have := hg.size
    simp at this
    simp [World.setCell]
    omega
  · have hb : i ≠ B := fun e => hS (.inl ((h.set _).2 (.inl e)))
    have hv : some i ≠ v.ownBlock := fun e => hS (.inl ((h.set _).2 (.inr e.symm)))
    exact (heap_setCell_other w2 ⟨B, 0, none⟩ i v' hb).trans ((hg.block i (by simp; omega) hv).trans (Below.heap_alloc W tmp i hi))
end
theorem cell_two_new (w : World) (a b : Value) (t : TypeId) : ∀ j u, [a, b][j]? = some u → (w.alloc (.cells #[a, b] t)).cell? ((⟨w.heap.size, 0, none⟩ : Addr).add j) = some u := by
  intro j u hu
  rw [Addr.add_lit, World.cell?_alloc_at _ _ _ _ rfl]
  simpa using hu
end Go.Proofs.YtiffgjodbcploaaGreat
end
