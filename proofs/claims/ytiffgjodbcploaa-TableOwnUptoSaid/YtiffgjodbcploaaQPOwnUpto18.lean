/-
What law TableOwn turns: cells of a row, bytes.
-/
import Derived.Test.YtiffgjodbcploaaQPOwnUpto16
import Derived.Test.YtiffgjodbcploaaQPOwnUpto17
import Derived.Test.YtiffgjodbcploaaQPOwnUpto7
import Derived.Deep.Cut
import Derived.Deep.CutRange
import Derived.Deep.DeepCutAuto
import Derived.Test.YtiffgjodbcploaaQPOwnUpto4
import Derived.Test.YtiffgjodbcploaaQPOwnUpto5
import Derived.Test.YtiffgjodbcploaaQPOwnUpto15
section
namespace Go.Proofs.Ytiffgjodbcploaa
open Go.RowKit Go.BigFrame Go.Shelf
attribute [local go_sem ↓] Go.wp_at_zero Go.wp_at_succ
theorem size1024 (x : Int) : ∃ k : Nat, (1 ≤ k ∧ k ≤ 1024) ∧ wrap64 (1 + wrap64 ((IntKind.u64.wrap x).tmod 1024)) = (k : Int) := by
  have h0 := wrap_u64 x
  have h1 : (IntKind.u64.wrap x).tmod 1024 = (IntKind.u64.wrap x) % 1024 := Int.tmod_eq_emod_of_nonneg (by rw [h0]; omega)
  rw [h1]
  obtain ⟨r, hr⟩ : ∃ r, (IntKind.u64.wrap x) % 1024 = r := ⟨_, rfl⟩
  rw [hr]
  have h2 : 0 ≤ r ∧ r < 1024 := by omega
  refine ⟨(1 + r).toNat, by omega, ?_⟩
  unfold wrap64
  omega
theorem Byt.allocE {w : World} {S : Nat → Prop} {v : Value} {bs : List UInt8} (h : Byt w S v bs) (o : Obj) : Byt (w.alloc o) S v bs := h.below (fr.alloc fr.refl _)
theorem hasA {w w' : World} {a b c d : Value} {t : TypeId} {o : Obj} (g : fr ((w.alloc (.cells #[a, b, c, d] t)).alloc o).drew w') : w'.heap[w.heap.size]? = some (.cells #[a, b, c, d] t (0, 0)) := fr.hp g (fr.hp (fr.drew (fr.alloc fr.refl _)) (heap_alloc_new w _))
theorem hasB {w w' : World} {a b c d : Value} {t : TypeId} {o : Obj} (g : fr ((w.alloc o).alloc (.cells #[a, b, c, d] t)).drew w') : w'.heap[(w.alloc o).heap.size]? = some (.cells #[a, b, c, d] t (0, 0)) := fr.hp g (fr.hp (fr.drew fr.refl) (heap_alloc_new _ _))
theorem hasC {w w' : World} {a b c d : Value} {t : TypeId} (g : fr (w.alloc (.cells #[a, b, c, d] t)) w') : w'.heap[w.heap.size]? = some (.cells #[a, b, c, d] t (0, 0)) := fr.hp g (heap_alloc_new w _)
theorem leafG {w w5 : World} {B : Nat} {a b c d k s dd u : Value} {e : Ent} (hp : w5.heap[B]? = some (.cells #[a, b, c, d] 34 (0, 0))) (h : EntV w5 (fun i => Loose w5 i) (.agg #[k, s, dd, u]) e) (f : fr w w5) (hB : w.heap.size ≤ B) :
    ((((w5.setCell ⟨B, 0, none⟩ k).setCell ⟨B, 1, none⟩ s).setCell ⟨B, 2, none⟩ dd).setCell ⟨B, 3, none⟩ u).heap[B]? = some (.cells #[k, s, dd, u] 34 (0, 0)) ∧
      EntV ((((w5.setCell ⟨B, 0, none⟩ k).setCell ⟨B, 1, none⟩ s).setCell ⟨B, 2, none⟩ dd).setCell ⟨B, 3, none⟩ u) (fun _ => True) (.agg #[k, s, dd, u]) e ∧ fr w ((((w5.setCell ⟨B, 0, none⟩ k).setCell ⟨B, 1, none⟩ s).setCell ⟨B, 2, none⟩ dd).setCell ⟨B, 3, none⟩ u) := by
  have ho : Only (fun i => i = B) w5 ((((w5.setCell ⟨B, 0, none⟩ k).setCell ⟨B, 1, none⟩ s).setCell ⟨B, 2, none⟩ dd).setCell ⟨B, 3, none⟩ u) := (((only_set w5 B 0 _).trans (only_set _ B 1 _)).trans (only_set _ B 2 _)).trans (only_set _ B 3 _)
  have hno : ∀ i, Loose w5 i → ¬ i = B := fun i ⟨cs, hl⟩ e => by
    subst e
    have := hl.symm.trans hp
    injection this with this
    injection this with _ this
    exact absurd this (by decide)
  obtain ⟨x, y, hx, h1, h2⟩ := h
  exact ⟨put4E hp, ⟨x, y, hx, (Byt.only (T := fun i => Loose w5 i) h1 ho fun i _ hi => hno i hi).mono fun _ _ => trivial, (Byt.only (T := fun i => Loose w5 i) h2 ho fun i _ hi => hno i hi).mono fun _ _ => trivial⟩, fr.putE (fr.putE (fr.putE (fr.putE f hB) hB) hB) hB⟩
abbrev Got8 (w3 wc : World) (x y z : Value) (b : Bool) (e : Ent) : Prop := ∃ (B : Nat) (Ak : Option Addr) (nk ck : Nat) (sq : Int) (dd : Bool) (Au : Option Addr) (nu cu : Nat), x = .pointer (some ⟨B, 0, none⟩) ∧ y = .bool b ∧ z = .int .i64 0 ∧
    wc.heap[B]? = some (.cells #[.slice Ak nk ck, .int .i64 sq, .bool dd, .slice Au nu cu] 34 (0, 0)) ∧ EntV wc (fun _ => True) (.agg #[.slice Ak nk ck, .int .i64 sq, .bool dd, .slice Au nu cu]) e ∧ fr w3 wc
theorem leafN {w3 w5 : World} {x y z : Value} {b : Bool} {e : Ent} {Ak Au : Option Addr} {nk ck nu cu : Nat} {sq : Int} {dd : Bool} (hx : x = .pointer (some ⟨w5.heap.size, 0, none⟩)) (hy : y = .bool b) (hz : z = .int .i64 0) (h : EntV w5 (fun i => Loose w5 i) (.agg #[.slice Ak nk ck, .int .i64 sq, .bool dd, .slice Au nu cu]) e) (f : fr w3 w5) :
    Got8 w3 (w5.alloc (.cells #[.slice Ak nk ck, .int .i64 sq, .bool dd, .slice Au nu cu] 34)) x y z b e :=
  ⟨_, _, _, _, _, _, _, _, _, hx, hy, hz, heap_alloc_new w5 _, by
    obtain ⟨k, u, hk, h1, h2⟩ := h.below (fr.alloc (fr.refl (W := w5)) (.cells #[.slice Ak nk ck, .int .i64 sq, .bool dd, .slice Au nu cu] 34))
    exact ⟨k, u, hk, h1.mono fun _ _ => trivial, h2.mono fun _ _ => trivial⟩, fr.alloc f _⟩
theorem leafS {w3 w5 : World} {x y z p q r t : Value} {b : Bool} {B : Nat} {e : Ent} {Ak Au : Option Addr} {nk ck nu cu : Nat} {sq : Int} {dd : Bool} (hx : x = .pointer (some ⟨B, 0, none⟩)) (hy : y = .bool b) (hz : z = .int .i64 0) (hp : w5.heap[B]? = some (.cells #[p, q, r, t] 34 (0, 0)))
    (h : EntV w5 (fun i => Loose w5 i) (.agg #[.slice Ak nk ck, .int .i64 sq, .bool dd, .slice Au nu cu]) e) (f : fr w3 w5) (hB : w3.heap.size ≤ B) :
    Got8 w3 ((((w5.setCell ⟨B, 0, none⟩ (.slice Ak nk ck)).setCell ⟨B, 1, none⟩ (.int .i64 sq)).setCell ⟨B, 2, none⟩ (.bool dd)).setCell ⟨B, 3, none⟩ (.slice Au nu cu)) x y z b e := by
  obtain ⟨p1, p2, p3⟩ := leafG hp h f hB
  exact ⟨_, _, _, _, _, _, _, _, _, hx, hy, hz, p1, p2, p3⟩
theorem at_op {d : Option Tmp} {A : Array Operand} {T : Array TypeId} {t : TypeId} {pos : String} {af : Array Edge} {g : Option (Nat × Bool)} {Y : Nat → Option Bool} {Z E : Prop}
    (h : if Region.wanted { dst := d, op := .call { callee := .builtin .append, args := A, argTypes := T }, type := t, pos := pos, after := af, guard := g } Y = true then Z else E) :
    if Region.wanted { dst := d, op := .call { callee := .builtin .append, args := A, argTypes := T }, type := t, pos := pos, after := af, guard := g } Y = true then Z else E := h
abbrev nilE : Ent := ⟨[], 0, false, []⟩
theorem fr.four {W w' : World} {b : Nat} {x y z u : Value} (h : fr W w') (c0 : W.cell? ⟨b, 0, none⟩ = some x) (c1 : W.cell? ⟨b, 1, none⟩ = some y) (c2 : W.cell? ⟨b, 2, none⟩ = some z) (c3 : W.cell? ⟨b, 3, none⟩ = some u) : w'.cell? ⟨b, 0, none⟩ = some x ∧ w'.cell? ⟨b, 1, none⟩ = some y ∧ w'.cell? ⟨b, 2, none⟩ = some z ∧ w'.cell? ⟨b, 3, none⟩ = some u :=
  ⟨h.cell c0, h.cell c1, h.cell c2, h.cell c3⟩
set_option maxRecDepth 100000 in
set_option maxHeartbeats 600000 in
theorem tabGetsLaw (v : Value) (es : List Ent) (blk : Int) (kv : Value) (a : List UInt8 × List UInt8 × List UInt8 × Int) (w : World) (hv : Ents w (fun _ => True) v es) (hN : es.length ≤ 1048576 ∧ bytesE es ≤ 1048576) (_ : (Lit.int .i64 blk).wf = true) (hk : LookV w (fun _ => True) kv a) :
    Calls Try.prog 3 #[v, .int .i64 blk, kv] w fun r w' => r = .returned (.bool true) ∧ Below w.heap.size w w' := by
  obtain ⟨key, lo, hi, seq⟩ := a
  obtain ⟨k1, k2, k3, rfl, b1, b2, b3⟩ := hk
  obtain ⟨A1, c1, rfl⟩ := slice_form b1
  obtain ⟨A2, c2, rfl⟩ := slice_form b2
  obtain ⟨A3, c3, rfl⟩ := slice_form b3
  obtain ⟨A, c, rfl⟩ := hv.form
  obtain ⟨n1, hn1⟩ : ∃ q, key.length = q := ⟨_, rfl⟩
  obtain ⟨n2, hn2⟩ : ∃ q, lo.length = q := ⟨_, rfl⟩
  obtain ⟨n3, hn3⟩ : ∃ q, hi.length = q := ⟨_, rfl⟩
  obtain ⟨N, hNN⟩ : ∃ q, es.length = q := ⟨_, rfl⟩
  rw [hn1, hn2, hn3, hNN]
  rw [hn1] at b1
  rw [hn2] at b2
  rw [hn3] at b3
  rw [hNN] at hv hN
  simp only at b1 b2 b3
  obtain ⟨hN1, hN2⟩ := hN
  have hfA : fr w (w.alloc (.cells #[.slice A1 n1 c1, .slice A2 n2 c2, .slice A3 n3 c3, .int .i64 seq] 25)) := fr.alloc fr.refl _
  have hbx := heap_alloc_new w (.cells #[.slice A1 n1 c1, .slice A2 n2 c2, .slice A3 n3 c3, .int .i64 seq] 25)
  have HV := Lib.hid hv
  have HNN := Lib.hid hNN
  have HB1 := Lib.hid b1
  have HB2 := Lib.hid b2
  have HB3 := Lib.hid b3
  have HFA := Lib.hid hfA
  have HBX := Lib.hid hbx
  clear hv hNN b1 b2 b3 hn1 hn2 hn3 hfA hbx
  go_enter Try.func3, Try.ntmps3
  go_wp2_with (fail)
  refine (twakes_any _).mono ?_
  rintro r w1 ⟨rfl, hb1⟩
  have HF1 := Lib.hid (fr.step HFA.out hb1)
  have HX1 := Lib.hid (fr.hp hb1 HBX.out)
  clear hb1
  by_cases hN0 : N = 0
  · subst hN0
    go_wp2
    refine bodyPost_ret (v := .bool true) (by simp [results, Try.results3, go_sem]) rfl ?_
    exact ⟨rfl, HF1.out⟩
  have hN0' : ((N : Int) == 0) = false := by simpa using hN0
  have HOR := Lib.hid (rordered_any _ _ es w1 (HV.out.below HF1.out))
  rcases hord : orderedE es with _ | _
  · rw [hord] at HOR
    clear hord
    go_wp2_with (go_at_call 7; refine HOR.out.mono ?_; rintro r w2 ⟨rfl, hb2⟩; have HF2 := Lib.hid (fr.step HF1.out hb2); clear hb2)
    refine bodyPost_ret (v := .bool true) (by simp [results, Try.results3, go_sem]) rfl ?_
    exact ⟨rfl, HF2.out⟩
  rw [hord] at HOR
  have HORD := Lib.hid hord
  clear hord
  go_upto_region 5 with (go_at_call 7; refine HOR.out.mono ?_; rintro r w2 ⟨rfl, hb2⟩; have HF2 := Lib.hid (fr.step HF1.out hb2); have HX2 := Lib.hid (fr.hp hb2 HX1.out); clear hb2)
  clear HOR HF1 HX1 HBX HFA
  go_wp2_with (fail)
  obtain ⟨sz, hsz, hszv⟩ := size1024 blk
  rw [hszv]
  refine (made_any _ A N c sz es w2 (HV.out.below HF2.out) HNN.out hsz HORD.out (by omega) (by omega) (by omega)).mono ?_
  rintro r w3 ⟨Tb, p, ps, rfl, hps, _, hT, _, hf3⟩
  have hbl : w.heap.size < w2.heap.size := (Array.getElem?_eq_some_iff.1 HX2.out).1
  have hx3 := fr.hp hf3 HX2.out
  have b0 := cell_of_row w3 _ 0 _ _ _ hx3
  have b1 := cell_of_row w3 _ 1 _ _ _ hx3
  have b2 := cell_of_row w3 _ 2 _ _ _ hx3
  have b3 := cell_of_row w3 _ 3 _ _ _ hx3
  simp only [List.getElem?_toArray, List.getElem?_cons_zero, List.getElem?_cons_succ] at b0 b1 b2 b3
  have HF3 := Lib.hid (fr.step HF2.out hf3)
  have HT := Lib.hid hT
  have HPS := Lib.hid hps
  have HX3 := Lib.hid hx3
  have HPW := Lib.hid ((ordered_iff es).1 HORD.out).2
  clear hps hT hf3 hx3 hszv hsz
  obtain ⟨of_, hof⟩ : ∃ x, es.find? (matchE key seq) = x := ⟨_, rfl⟩
  obtain ⟨fs, hfs⟩ : ∃ x, rangeE lo hi es = x := ⟨_, rfl⟩
  have hN16 : N ≤ 16777216 := by omega
  have hB16 : bytesE es ≤ 16777216 := by omega
  have hTlt : ∀ i, (w2.heap.size ≤ i ∧ i < w3.heap.size) → i < w3.heap.size := fun i h => h.2
  have HG : Hid (∀ wx A n c, fr w3 wx → Byt wx (fun _ => True) (.slice A n c) key → Calls Try.prog 9 #[.pointer (some ⟨Tb, 0, none⟩), .slice A n c, .int .i64 seq] wx fun r w' => ∃ Ak nk ck sq dd Au nu cu, r = .returned (.tuple #[.agg #[.slice Ak nk ck, .int .i64 sq, .bool dd, .slice Au nu cu], .bool of_.isSome, .int .i64 0]) ∧ EntV w' (fun i => Loose w' i) (.agg #[.slice Ak nk ck, .int .i64 sq, .bool dd, .slice Au nu cu]) (of_.getD nilE) ∧ fr wx w') := Lib.hid fun wx A n c hx hb => by
    have hz := hx.size
    refine (tget_any Tb N n c A seq (fun i => w2.heap.size ≤ i ∧ i < w3.heap.size) (fun i => i < wx.heap.size) key es ps wx (hb.monoLt fun i hi _ => hi) (HT.out.fr hx) HPS.out HNN.out (by omega) hN16 hB16 HORD.out (by rintro i (h | h); (have := h.2; omega); exact h)).mono ?_
    rw [get_first HPW.out, hof]
    rintro r w' ⟨k, sq, d, u, ok, rfl, hg, hf⟩
    rcases of_ with _ | e
    · obtain ⟨rfl, rfl, rfl, rfl, rfl⟩ := hg
      exact ⟨_, _, _, _, _, _, _, _, rfl, ⟨_, _, rfl, Byt.nil _ _, Byt.nil _ _⟩, hf⟩
    · obtain ⟨rfl, rfl, rfl, hk, hu⟩ := hg
      obtain ⟨Ak, ck, rfl⟩ := slice_form hk
      obtain ⟨Au, cu, rfl⟩ := slice_form hu
      exact ⟨_, _, _, _, _, _, _, _, rfl, ⟨_, _, rfl, hk.mono fun i h => h.2, hu.mono fun i h => h.2⟩, hf⟩
  have HA : Hid (∀ wx A n c A' n' c', fr w3 wx → Byt wx (fun _ => True) (.slice A n c) lo → Byt wx (fun _ => True) (.slice A' n' c') hi → Calls Try.prog 11 #[.pointer (some ⟨Tb, 0, none⟩), .slice A n c, .slice A' n' c'] wx fun r w' => ∃ Av cv, r = .returned (.tuple #[.slice Av fs.length cv, .int .i64 0]) ∧ Ents w' (fun _ => True) (.slice Av fs.length cv) fs ∧ fr wx w') := Lib.hid fun wx A n c A' n' c' hx hb hb' => by
    refine (tall_any Tb N n c n' c' A A' (fun i => w2.heap.size ≤ i ∧ i < w3.heap.size) _ _ lo hi es ps wx hb hb' (HT.out.fr hx) HPS.out HNN.out (by omega) hN16 hB16 HORD.out (fun i h => by have := hx.size; have := h.2; omega)).mono ?_
    rintro r w' ⟨v, ys, T, rfl, hown, hec, _, hf⟩
    rw [hfs] at hown hec
    obtain ⟨Av, cv, rfl⟩ := own_form hown
    have hl : fs.length ≤ N := by rw [← HNN.out, ← hfs]; exact range_len
    exact ⟨Av, cv, rfl, Ents.of_own hown (hec.mono fun _ _ => trivial) (fun _ _ _ => trivial) (by omega), hf⟩
  have HBK := Lib.hid (HB1.out.below HF3.out)
  have HBL := Lib.hid (HB2.out.below HF3.out)
  have HBH := Lib.hid (HB3.out.below HF3.out)
  have HOF := Lib.hid hof
  have HFS := Lib.hid hfs
  clear hN1 hN2 hN16 hB16 hTlt hof hfs HT HPS HF2 HX2 HB1 HB2 HB3
  go_upto_region 8 with (fail)
  go_cut [9, 10, 11] (fun x y z wc => ∃ (B : Nat) (Ak : Option Addr) (nk ck : Nat) (sq : Int) (dd : Bool) (Au : Option Addr) (nu cu : Nat), x = .pointer (some ⟨B, 0, none⟩) ∧ y = .bool of_.isSome ∧ z = .int .i64 0 ∧
    wc.heap[B]? = some (.cells #[.slice Ak nk ck, .int .i64 sq, .bool dd, .slice Au nu cu] 34 (0, 0)) ∧ EntV wc (fun _ => True) (.agg #[.slice Ak nk ck, .int .i64 sq, .bool dd, .slice Au nu cu]) (of_.getD nilE) ∧ fr w3 wc)
  case first =>
    clear HA HFS HBL HBH HX3 HF3 HV HORD HNN HPW HOF
    go_region_held3 (fun w' => w'.cell? ⟨w.heap.size, 0, none⟩ = some (.slice A1 n1 c1) ∧ w'.cell? ⟨w.heap.size, 1, none⟩ = some (.slice A2 n2 c2) ∧ w'.cell? ⟨w.heap.size, 2, none⟩ = some (.slice A3 n3 c3) ∧ w'.cell? ⟨w.heap.size, 3, none⟩ = some (.int .i64 seq))
      ((refine fr.four (W := w3) ?_ b0 b1 b2 b3; (focus ((repeat (first | with_reducible assumption | with_reducible exact fr.refl | with_reducible refine fr.alloc ?_ _ | with_reducible refine fr.drew ?_ | with_reducible refine fr.putE ?_ ?_)); (all_goals omega))); done))
      (first
        | (go_split_ands; refine step_append_byt0 (by rfl) _ _ (by rfl) _ (.slice A1 n1 c1) (by rfl) (by rfl) (fun _ => True) key ?_ ?_; (focus (refine fr.byt (W := w3) ?_ HBK.out; (repeat (first | with_reducible assumption | with_reducible exact fr.refl | with_reducible refine fr.alloc ?_ _ | with_reducible refine fr.drew ?_)))); intro v4 w4 h4 g4; (have g4 : fr _ w4 := g4); obtain ⟨A4, c4, rfl⟩ := slice_form h4; (have h4 := h4.mono (S' := fun _ => True) fun _ _ => trivial); (have f4 : fr w3 w4 := fr.step (by (repeat (first | with_reducible assumption | with_reducible exact fr.refl | with_reducible refine fr.alloc ?_ _ | with_reducible refine fr.drew ?_))) g4); (have y4 := Below.size f4); (first | with_reducible have pA := hasA g4 | with_reducible have pA := hasB g4 | skip); (try rw [World.size_alloc] at pA); (try rw [World.size_drew] at pA))
        | (go_split_ands; go_at_call 9; (with_reducible (refine Calls.mono (HG.out _ _ _ _ ?_ ?_) ?_)); (focus ((repeat (first | with_reducible assumption | with_reducible exact fr.refl | with_reducible refine fr.alloc ?_ _ | with_reducible refine fr.drew ?_)))); (focus (first | with_reducible exact h4 | with_reducible exact h4.allocE _)); rintro r w5 ⟨Ak, nk, ck, sq, dd, Au, nu, cu, rfl, h5, g5⟩; (have f5 : fr w3 w5 := fr.step (by (repeat (first | with_reducible assumption | with_reducible exact fr.refl | with_reducible refine fr.alloc ?_ _ | with_reducible refine fr.drew ?_))) g5); (have y5 := Below.size f5); (first | with_reducible have pA := hasC g5 | with_reducible have pA := fr.hp g5 pA | skip); (try (have a0 := cell_of_row w5 _ 0 _ _ _ pA; have a1 := cell_of_row w5 _ 1 _ _ _ pA; have a2 := cell_of_row w5 _ 2 _ _ _ pA; have a3 := cell_of_row w5 _ 3 _ _ _ pA; have z0 := frozen_of_row w5 _ 0 _ _ pA; have z1 := frozen_of_row w5 _ 1 _ _ pA; have z2 := frozen_of_row w5 _ 2 _ _ pA; have z3 := frozen_of_row w5 _ 3 _ _ pA))))
    all_goals
      go_wp2_with fail
      go_meet
      case rel =>
        first
          | with_reducible exact leafN rfl rfl rfl h5 f5
          | (with_reducible refine leafS rfl rfl rfl pA h5 f5 ?_; omega)
  case rest =>
    obtain ⟨B9, Ak, nk, ck, sq, dd, Au, nu, cu, rfl, rfl, rfl, hp9, he9, f9⟩ := hcut
    have HR : Hid (Calls Try.prog 10 #[.slice A N c, .slice A1 n1 c1, .int .i64 seq] wc fun r w' => ∃ Ak nk ck sq dd Au nu cu, r = .returned (.tuple #[.agg #[.slice Ak nk ck, .int .i64 sq, .bool dd, .slice Au nu cu], .bool of_.isSome]) ∧ EntV w' (fun _ => True) (.agg #[.slice Ak nk ck, .int .i64 sq, .bool dd, .slice Au nu cu]) (of_.getD nilE) ∧ fr wc w') := Lib.hid (by
      refine (rget_any _ _ (.slice A N c) n1 c1 A1 key seq es wc ((HV.out.below HF3.out).below f9) (HBK.out.below f9) HPW.out).mono ?_
      rw [HOF.out]
      rintro r w' ⟨x, ok, rfl, hg, hf⟩
      rcases of_ with _ | e
      · obtain ⟨rfl, rfl⟩ := hg
        exact ⟨_, _, _, _, _, _, _, _, rfl, ⟨_, _, rfl, Byt.nil _ _, Byt.nil _ _⟩, hf⟩
      · obtain ⟨rfl, k, u, rfl, hk, hu⟩ := hg
        obtain ⟨Ak, ck, rfl⟩ := slice_form hk
        obtain ⟨Au, cu, rfl⟩ := slice_form hu
        exact ⟨_, _, _, _, _, _, _, _, rfl, ⟨_, _, rfl, hk, hu⟩, hf⟩)
    have d0 := fr.cell f9 b0
    have d3 := fr.cell f9 b3
    have HP9 := Lib.hid hp9
    have HE9 := Lib.hid he9
    have HF9 := Lib.hid f9
    clear hp9 he9 f9 HG HOF
    go_upto_region 10 with (go_at_call 10; refine HR.out.mono ?_; rintro r w6 ⟨Aj, nj, cj, sj, dj, Al, nl, cl, rfl, h6, f6⟩)
    have hp12 := heap_alloc_new w6 (.cells #[.slice Aj nj cj, .int .i64 sj, .bool dj, .slice Al nl cl] 34)
    have h7 := h6.below (fr.alloc (fr.refl (W := w6)) (.cells #[.slice Aj nj cj, .int .i64 sj, .bool dj, .slice Al nl cl] 34))
    have f7 : fr wc (w6.alloc (.cells #[.slice Aj nj cj, .int .i64 sj, .bool dj, .slice Al nl cl] 34)) := fr.alloc f6 _
    generalize w6.alloc (.cells #[.slice Aj nj cj, .int .i64 sj, .bool dj, .slice Al nl cl] 34) = w7 at hp12 h7 f7 ⊢
    obtain ⟨B12, hB12⟩ : ∃ x, w6.heap.size = x := ⟨_, rfl⟩
    rw [hB12] at hp12 ⊢
    have F7 := fr.stepR HF9.out f7
    have e0 := fr.cell F7 b0
    have e1 := fr.cell F7 b1
    have e2 := fr.cell F7 b2
    have e3 := fr.cell F7 b3
    have HF7 := Lib.hid F7
    have HP12 := Lib.hid hp12
    have HE12 := Lib.hid h7
    have HP9' := Lib.hid (fr.hp f7 HP9.out)
    have HE9' := Lib.hid (HE9.out.below f7)
    clear hp12 h7 f7 F7 hB12 h6 f6 HR HP9 HE9 HF9 d0 d3
    go_cut [14, 15] (fun x y wd => ∃ (Av : Option Addr) (cv : Nat), x = .slice Av fs.length cv ∧ y = .int .i64 0 ∧ Ents wd (fun _ => True) (.slice Av fs.length cv) fs ∧ fr w7 wd)
    case first =>
      clear HFS HX3 HF3 HV HORD HNN HPW HP12 HE12 HP9' HE9' b0 b1 b2 b3
      have HL := Lib.hid (HBL.out.below HF7.out)
      have HH := Lib.hid (HBH.out.below HF7.out)
      have HA7 : Hid (∀ wx A n c A' n' c', fr w7 wx → Byt wx (fun _ => True) (.slice A n c) lo → Byt wx (fun _ => True) (.slice A' n' c') hi → Calls Try.prog 11 #[.pointer (some ⟨Tb, 0, none⟩), .slice A n c, .slice A' n' c'] wx fun r w' => ∃ Av cv, r = .returned (.tuple #[.slice Av fs.length cv, .int .i64 0]) ∧ Ents w' (fun _ => True) (.slice Av fs.length cv) fs ∧ fr wx w') := Lib.hid fun wx A n c A' n' c' hx => HA.out wx A n c A' n' c' (fr.stepR HF7.out hx)
      clear HA HBL HBH HF7
      go_region_held3 (fun w' => w'.cell? ⟨w.heap.size, 0, none⟩ = some (.slice A1 n1 c1) ∧ w'.cell? ⟨w.heap.size, 1, none⟩ = some (.slice A2 n2 c2) ∧ w'.cell? ⟨w.heap.size, 2, none⟩ = some (.slice A3 n3 c3) ∧ w'.cell? ⟨w.heap.size, 3, none⟩ = some (.int .i64 seq))
        ((refine fr.four (W := w7) ?_ e0 e1 e2 e3; (focus ((repeat (first | with_reducible assumption | with_reducible exact fr.refl | with_reducible refine fr.alloc ?_ _ | with_reducible refine fr.drew ?_)))); done))
        (first
          | ((with_reducible refine at_op (A := #[.tmp 61, .tmp 63]) ?_); go_split_ands; refine step_append_byt0 (by rfl) _ _ (by rfl) _ (.slice A2 n2 c2) (by rfl) (by rfl) (fun _ => True) lo ?_ ?_; (focus (refine fr.byt (W := w7) ?_ HL.out; (repeat (first | with_reducible assumption | with_reducible exact fr.refl | with_reducible refine fr.alloc ?_ _ | with_reducible refine fr.drew ?_)))); intro v8 w8 h8 g8; (have g8 : fr _ w8 := g8); obtain ⟨A8, c8, rfl⟩ := slice_form h8; (have h8 := h8.mono (S' := fun _ => True) fun _ _ => trivial); (have f8 : fr w7 w8 := fr.step (by (repeat (first | with_reducible assumption | with_reducible exact fr.refl | with_reducible refine fr.alloc ?_ _ | with_reducible refine fr.drew ?_))) g8); (try (have k9 : Byt w8 (fun _ => True) (.slice A9 hi.length c9) hi := (h9.below (fr.step (by (repeat (first | with_reducible assumption | with_reducible exact fr.refl | with_reducible refine fr.alloc ?_ _ | with_reducible refine fr.drew ?_))) g8)))))
          | ((with_reducible refine at_op (A := #[.tmp 65, .tmp 67]) ?_); go_split_ands; refine step_append_byt0 (by rfl) _ _ (by rfl) _ (.slice A3 n3 c3) (by rfl) (by rfl) (fun _ => True) hi ?_ ?_; (focus (refine fr.byt (W := w7) ?_ HH.out; (repeat (first | with_reducible assumption | with_reducible exact fr.refl | with_reducible refine fr.alloc ?_ _ | with_reducible refine fr.drew ?_)))); intro v9 w9 h9 g9; (have g9 : fr _ w9 := g9); obtain ⟨A9, c9, rfl⟩ := slice_form h9; (have h9 := h9.mono (S' := fun _ => True) fun _ _ => trivial); (have f9 : fr w7 w9 := fr.step (by (repeat (first | with_reducible assumption | with_reducible exact fr.refl | with_reducible refine fr.alloc ?_ _ | with_reducible refine fr.drew ?_))) g9); (try (have k8 : Byt w9 (fun _ => True) (.slice A8 lo.length c8) lo := (h8.below (fr.step (by (repeat (first | with_reducible assumption | with_reducible exact fr.refl | with_reducible refine fr.alloc ?_ _ | with_reducible refine fr.drew ?_))) g9)))))
          | (go_split_ands; go_at_call 11; (with_reducible (refine Calls.mono (HA7.out _ _ _ _ _ _ _ ?_ ?_ ?_) ?_)); (focus ((repeat (first | with_reducible assumption | with_reducible exact fr.refl | with_reducible refine fr.alloc ?_ _ | with_reducible refine fr.drew ?_)))); (focus (first | with_reducible exact k8 | with_reducible exact h8)); (focus (first | with_reducible exact k9 | with_reducible exact h9)); rintro r w10 ⟨Av, cv, rfl, h10, g10⟩; (have f10 : fr w7 w10 := fr.step (by (repeat (first | with_reducible assumption | with_reducible exact fr.refl | with_reducible refine fr.alloc ?_ _ | with_reducible refine fr.drew ?_))) g10)))
      all_goals
        go_wp2_with fail
        go_meet
        case rel =>
          with_reducible exact ⟨_, _, rfl, rfl, h10, f10⟩
    case rest =>
      obtain ⟨Av, cv, rfl, rfl, h10, f10⟩ := hcut
      have FC := fr.stepR HF7.out f10
      have hb9 := fr.hp f10 HP9'.out
      have hb12 := fr.hp f10 HP12.out
      have x0 := cell_of_row wc B9 0 _ _ _ hb9
      have x1 := cell_of_row wc B9 1 _ _ _ hb9
      have x2 := cell_of_row wc B9 2 _ _ _ hb9
      have x3 := cell_of_row wc B9 3 _ _ _ hb9
      have y0 := cell_of_row wc B12 0 _ _ _ hb12
      have y1 := cell_of_row wc B12 1 _ _ _ hb12
      have y2 := cell_of_row wc B12 2 _ _ _ hb12
      have y3 := cell_of_row wc B12 3 _ _ _ hb12
      simp only [List.getElem?_toArray, List.getElem?_cons_zero, List.getElem?_cons_succ] at x0 x1 x2 x3 y0 y1 y2 y3
      have HSO := Lib.hid (sameone_any _ _ _ _ _ _ wc (HE9'.out.below f10) (HE12.out.below f10))
      rw [decide_eq_true rfl] at HSO
      have HVC := Lib.hid ((HV.out.below HF3.out).below FC)
      have HLC := Lib.hid (HBL.out.below FC)
      have HHC := Lib.hid (HBH.out.below FC)
      have HRG : Hid (∀ wx, fr wc wx → Calls Try.prog 14 #[.slice A N c, .slice A2 n2 c2, .slice A3 n3 c3] wx fun r w' => ∃ Ar cr, r = .returned (.slice Ar fs.length cr) ∧ Ents w' (fun _ => True) (.slice Ar fs.length cr) fs ∧ fr wx w') := Lib.hid fun wx hx => by
        refine (rrange_any _ _ _ _ n2 n3 c2 c3 A2 A3 lo hi es wx (HVC.out.below hx) (HLC.out.below hx) (HHC.out.below hx)).mono ?_
        rw [HFS.out]
        rintro r w' ⟨v', rfl, h, hf⟩
        obtain ⟨Ar, cr, rfl⟩ := h.form
        exact ⟨Ar, cr, rfl, h, hf⟩
      have g1 := fr.cell f10 e1
      have g2 := fr.cell f10 e2
      have HBW := Lib.hid (fr.stepR HF3.out FC)
      have H10 := Lib.hid h10
      obtain ⟨nf, hnf⟩ : ∃ q, fs.length = q := ⟨_, rfl⟩
      rw [hnf] at H10 HRG ⊢
      clear h10 f10 FC hb9 hb12 b0 b1 b2 b3 e0 e1 e2 e3 HA hnf
      go_wp2_with (first
        | (go_at_call 12; refine HSO.out.mono ?_; rintro r w8 ⟨rfl, f8⟩; (have f8 : fr wc w8 := f8); have g1 := fr.cell f8 g1; have g2 := fr.cell f8 g2)
        | (go_at_call 14; refine (HRG.out w8 f8).mono ?_; rintro r w9 ⟨Ar, cr, rfl, h9, f9⟩; have f9 := fr.stepR f8 f9)
        | (go_at_call 13; refine (sameE_any (fun _ => True) (fun _ => True) _ _ fs fs w9 (H10.out.below f9) h9).mono ?_; rintro r w10 ⟨rfl, f10⟩; rw [decide_eq_true rfl]))
      refine bodyPost_ret (v := .bool true) (by simp [results, Try.results3, go_sem]) rfl ?_
      exact ⟨rfl, fr.step (fr.stepR HBW.out f9) f10⟩
end Go.Proofs.Ytiffgjodbcploaa
end
section
namespace Go.Proofs.Ytiffgjodbcploaa
open Go.RowKit Go.BigFrame Go.Shelf
/-- the cells of an entry in a row of one's own that nobody writes to. -/
theorem own_heads {w : World} {T : Nat → Prop} {B n k : Nat} {e : TypeId} {v : Value} {ys : List Value} (hrow : w.ownsRow B e 4 v n ys) (hk : k < n) (hT : ∀ g, v.ownBlock = some g → ¬ T g) :
    ∃ g c, v = .slice (some ⟨g, 0, none⟩) n c ∧ ∀ wr, Only T w wr → (∀ u, ys[4 * k]? = some u → wr.cell? ⟨g, k * 4, none⟩ = some u) ∧ (∀ u, ys[4 * k + 1]? = some u → wr.cell? ⟨g, k * 4 + 1, none⟩ = some u) ∧ (∀ u, ys[4 * k + 2]? = some u → wr.cell? ⟨g, k * 4 + 2, none⟩ = some u) ∧ (∀ u, ys[4 * k + 3]? = some u → wr.cell? ⟨g, k * 4 + 3, none⟩ = some u) := by
  obtain ⟨g, c, rfl, _⟩ := own_pos hrow (by omega)
  refine ⟨g, c, rfl, fun wr ho => ?_⟩
  have hr := own_only hrow ho hT
  refine ⟨fun u hu => ?_, fun u hu => ?_, fun u hu => ?_, fun u hu => ?_⟩ <;> (rw [hr.cellAt _ (by omega), ← hu]; congr 1; omega)
/-- one byte more. -/
theorem turn_at {T : Nat → Prop} {w wr : World} {A : Option Addr} {n c j : Nat} {bs : List UInt8} (hsp : Spoil T w wr) (hb : Byt w T (.slice A n c) bs) (hL : ∀ i, T i → Loose w i) (hj : j < n) :
    ∃ b o x, A = some ⟨b, o, none⟩ ∧ wr.cell? ⟨b, o + j, none⟩ = some (.int .u8 (UInt8.toNat x : Int)) ∧ wr.frozen? ⟨b, o + j, none⟩ = false ∧ Spoil T w (wr.setCell ⟨b, o + j, none⟩ (.int .u8 (((x.toNat : Int) + 1) % 256))) := by
  obtain ⟨as', hl', h'⟩ := hsp.byt _ _ hb
  obtain ⟨A', ca', hE, _, _, _, hr⟩ := h'
  injection hE with e1 e2 e3
  subst e1
  obtain ⟨b, o, u, rfl, hTb, hbz, hu, hcell⟩ := hr.at_ (k := j) (by omega)
  obtain ⟨x, hx⟩ : ∃ c, as'[j]? = some c := ⟨_, List.getElem?_eq_getElem (by omega)⟩
  obtain rfl : u = bcell x := by rw [List.getElem?_map, hx] at hu; injection hu with hu; exact hu.symm
  have hlo := hsp.loose b (hL b hTb)
  refine ⟨b, o, x, rfl, hcell, hlo.frozen, ?_⟩
  rw [u8_next]
  exact hsp.trans (Spoil.store hTb hlo _)
/-- an entry of a slice. -/
theorem ents_at {w : World} {S : Nat → Prop} {A : Option Addr} {n c : Nat} {es : List Ent} (h : Ents w S (.slice A n c) es) {k : Nat} {e : Ent} (hk : es[k]? = some e) :
    ∃ b o kk uu, A = some ⟨b, o, none⟩ ∧ w.cell? ⟨b, o + k * 4, none⟩ = some kk ∧ w.cell? ⟨b, o + k * 4 + 1, none⟩ = some (.int .i64 e.seq) ∧ w.cell? ⟨b, o + k * 4 + 2, none⟩ = some (.bool e.dead) ∧ w.cell? ⟨b, o + k * 4 + 3, none⟩ = some uu ∧ EntV w S (.agg #[kk, .int .i64 e.seq, .bool e.dead, uu]) e := by
  obtain ⟨A', c', cs, hE, hc, hcm, hl, hr, he⟩ := h
  injection hE with e1 e2 e3
  subst e1
  obtain ⟨b, o, kk, uu, e4, c0, c1, c2, c3, b1, b2, _, _⟩ := hr.ent he rfl hk
  exact ⟨b, o, kk, uu, e4, c0, c1, c2, c3, _, _, rfl, b1, b2⟩
theorem range_nil {es : List Ent} : rangeE [] [] es = es := by
  unfold rangeE fromE
  rw [List.filter_filter]
  refine List.filter_eq_self.2 fun e _ => ?_
  unfold below fromQ
  cases e.key <;> simp [cmpB]
theorem keys_le {es : List Ent} {n : Nat} {a b : Ent} (hpw : es.Pairwise before) (ha : es[0]? = some a) (hb : es[n]? = some b) : cmpB a.key b.key ≤ 0 := by
  have l1 := (List.getElem?_eq_some_iff.1 ha).1
  have l2 := (List.getElem?_eq_some_iff.1 hb).1
  rcases Nat.eq_zero_or_pos n with rfl | hn
  · rw [ha] at hb
    injection hb with hb
    subst hb
    rw [cmpB_eq.2 rfl]
    exact Int.le_refl _
  · have h := List.pairwise_iff_getElem.1 hpw 0 n l1 l2 hn
    rw [(List.getElem?_eq_some_iff.1 ha).2, (List.getElem?_eq_some_iff.1 hb).2] at h
    unfold before cmpE at h
    split at h <;> omega
/-- a row of entries whose bytes may be turned. -/
structure SpoilE (w : World) (base n : Nat) (v : Value) (ys : List Value) (es : List Ent) (T : Nat → Prop) : Prop where
  row : w.ownsRow base 34 4 v n ys
  ents : EntCells w T ys es
  len : es.length = n
  loose : ∀ i, T i → Loose w i
  base : ∀ i, T i → base ≤ i
  out : ∀ g, v.ownBlock = some g → ¬ T g
theorem OwnE.spoil {w : World} {base : Nat} {v : Value} {es : List Ent} (h : OwnE w base v es) : ∃ ys, SpoilE w base es.length v ys es (freshL w base v) := by
  obtain ⟨ys, h1, h2⟩ := h
  exact ⟨ys, h1, h2, rfl, fun i hi => hi.2.2, fun i hi => hi.1, fun g hg ht => ht.2.1 hg⟩
theorem SpoilE.only {w w' : World} {base n : Nat} {v : Value} {ys : List Value} {es : List Ent} {T S : Nat → Prop} (h : SpoilE w base n v ys es T) (ho : Only S w w') (hd : ∀ i, base ≤ i → i < w.heap.size → ¬ S i) : SpoilE w' base n v ys es T :=
  ⟨own_only h.row ho fun g hg hs => by
    rcases h.row.2 with ⟨rfl, _⟩ | ⟨g', cap, cur, rfl, hb, hh, _⟩
    · simp [Value.ownBlock] at hg
    · obtain rfl : g' = g := by simpa [Value.ownBlock] using hg
      exact hd _ hb (Array.getElem?_eq_some_iff.1 hh).1 hs, h.ents.only ho fun i hi ht => hd i (h.base i ht) hi, h.len, fun i ht => (h.loose i ht).only ho (hd i (h.base i ht) (h.loose i ht).lt), h.base, h.out⟩
theorem SpoilE.entsOf {w : World} {base n : Nat} {v : Value} {ys : List Value} {es : List Ent} {T : Nat → Prop} (h : SpoilE w base n v ys es T) (hl : es.length * 64 ≤ 140737488355328) : Ents w (fun i => base ≤ i ∧ i < w.heap.size) v es :=
  Ents.of_own (by rw [h.len]; exact h.row) (h.ents.mono fun i hi => ⟨h.base i hi, (h.loose i hi).lt⟩) (fun i h1 h2 => ⟨h1, h2⟩) hl
end Go.Proofs.Ytiffgjodbcploaa
end
