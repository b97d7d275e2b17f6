/-
Table.Entries (of a table).
-/
import Derived.Test.YtiffgjodbcploaaGreatQPWritesUpto15
import Derived.Test.YtiffgjodbcploaaGreatQPWritesUpto11
import Derived.Lib.SlBytesConst
section
namespace Go.Proofs.YtiffgjodbcploaaGreat
set_option maxRecDepth 100000
open Go.RowKit Go.BigFrame Go.Shelf
attribute [local go_sem ↓] Go.wp_at_zero Go.wp_at_succ
/-- a calm disk; with one file. -/
def calm0 : Pk := ⟨[], -1, -1, [], 0, 0, false⟩
def calm1 (x : Nm) (b : List UInt8) : Pk := ⟨[⟨x, b, b.length⟩], -1, -1, [], 2, wrap64 b.length, false⟩
theorem calm_ready : readyE calm0 [[116]] = 22 := by decide
theorem calm_append (b : List UInt8) : appendE calm0 [116] b = 0 := by
  unfold appendE
  rw [calm_ready]
  rfl
theorem calm_appendK (b : List UInt8) : appendK calm0 [116] b = ⟨[⟨[116], b, 0⟩], -1, -1, [], 1, wrap64 b.length, false⟩ := by
  have h1 : crashes calm0 = false := by decide
  have h2 : fullP calm0 b.length = false := rfl
  have h3 : appFs [116] b calm0.fs = [⟨[116], b, 0⟩] := rfl
  unfold appendK
  have h4 : changeK calm0 = ⟨[], -1, -1, [], 1, 0, false⟩ := rfl
  rw [calm_ready, if_pos (.inr rfl), h2, h1, h3, h4]
  simp [calm0]
theorem calm_sync (b : List UInt8) : syncE (appendK calm0 [116] b) [116] = 0 ∧ syncK (appendK calm0 [116] b) [116] = calm1 [116] b := by
  rw [calm_appendK]
  have h1 : readyE ⟨[⟨[116], b, 0⟩], -1, -1, [], 1, wrap64 b.length, false⟩ [[116]] = 0 := rfl
  have h2 : crashes ⟨[⟨[116], b, 0⟩], -1, -1, [], 1, wrap64 b.length, false⟩ = false := rfl
  refine ⟨?_, ?_⟩
  · unfold syncE
    rw [if_pos h1]
    rfl
  · unfold syncK
    rw [if_pos h1, h2]
    rfl
theorem calm_ready1 (b : List UInt8) : readyE (calm1 [116] b) [[116]] = 0 := rfl
theorem calm_read1 (b : List UInt8) : readD (calm1 [116] b) [116] = b := rfl
/-- Write on a calm disk. -/
theorem write_calm (F : Nat → Prop) (p : Nat) (S0 : Nat → Prop) (g o N c size : Nat) (es : List Ent) (w : World) (h : DiskP w F p calm0) (hv : Ents w S0 (.slice (some ⟨g, o, none⟩) N c) es) (hN : es.length = N) (hS0 : ∀ i, S0 i → i < w.heap.size) (hsz : 1 ≤ size ∧ size ≤ 1024) (hord : orderedE es = true) (hN0 : 0 < N) (hN2 : N ≤ 16777216) (hB2 : bytesE es ≤ 16777216) :
    Calls Tryz.prog 9 #[.pointer (some ⟨p, 0, none⟩), .string ⟨#[116]⟩, .slice (some ⟨g, o, none⟩) N c, .int .i64 size] w fun r w' => ∃ ps, PartsOk es ps ∧ r = .returned (.int .i64 0) ∧ DiskP w' (orNew F w.heap.size) p (calm1 [116] (sealF (fileF N ps))) ∧ Only F w w' := by
  refine (write_ok F p calm0 [116] S0 g o N c size es w h hv hN hS0 (by simp) hsz hord ((ordered_iff es).1 hord).1 hN0 hN2 hB2 calm_ready (by decide) (by decide) (by decide)).mono ?_
  rintro r w' ⟨ps, hps, rfl, h', ho⟩
  obtain ⟨s1, s2⟩ := calm_sync (sealF (fileF N ps))
  rw [calm_append, if_pos rfl, s1]
  rw [calm_append, if_pos rfl, s2] at h'
  exact ⟨ps, hps, rfl, h', ho⟩
set_option maxRecDepth 100000 in
set_option maxHeartbeats 1000000 in
theorem calm_any (w : World) : Calls Tryz.prog 8 #[] w fun r w' => r = .returned (.agg #[.int .i64 (-1), .int .i64 (-1), .slice none 0 0]) ∧ fr w w' := by
  go_enter Tryz.func8, Tryz.ntmps8
  go_wp2
  have hb := heap_alloc_new w (.cells #[.int .i64 (-1), .int .i64 (-1), .slice none 0 0] 28)
  have c0 := cell_of_row _ _ 0 _ _ _ hb
  have c1 := cell_of_row _ _ 1 _ _ _ hb
  have c2 := cell_of_row _ _ 2 _ _ _ hb
  refine bodyPost_ret (v := .agg #[.int .i64 (-1), .int .i64 (-1), .slice none 0 0]) (by simp [results, Tryz.results8, go_sem, c0, c1, c2]) rfl ?_
  exact ⟨rfl, fr.alloc fr.refl _⟩
def tk1 : Ent := ⟨[98], 5, false, [120]⟩
def tk2 : Ent := ⟨[98], 3, false, []⟩
def tk3 : Ent := ⟨[99], 4, true, []⟩
theorem Byt.one {w : World} {S : Nat → Prop} {g c : Nat} {b : UInt8} {v : Value} (h : w.cell? ⟨g, 0, none⟩ = some v) (hv : v = bcell b) (hS : S g) (hc : 1 ≤ c) (hc' : c ≤ 9223372036854775807) : Byt w S (.slice (some ⟨g, 0, none⟩) 1 c) [b] := by
  subst hv
  refine ⟨_, _, rfl, hc, hc', by simp, ⟨by simp, fun _ => ⟨g, 0, rfl, hS, World.block_lt_of_cell? w _ h, fun j u hu => ?_⟩⟩⟩
  match j, hu with
  | 0, hu => simp at hu; subst hu; simpa using h
theorem cell_marked (w : World) (cs : Array Value) (t : TypeId) (fr : Nat × Nat) (g j : Nat) (hg : g = w.heap.size) : (w.alloc (.cells cs t fr)).cell? ⟨g, j, none⟩ = cs[j]? := by
  subst hg; exact cell_of_row _ _ j cs t fr (heap_alloc_new w _)
/-- the literal of three. -/
theorem tlit3 (w : World) (T : TypeId) (W : World) (sz : Nat) (hsz : sz = w.heap.size)
    (hW : W = (((((w.alloc (.cells #[.int .u8 98] T (1, 2))).alloc (.cells #[.int .u8 120] T (1, 2))).alloc (.cells #[.int .u8 98] T (1, 2))).alloc (.cells #[.int .u8 99] T (1, 2))).alloc
      (.cells #[.slice (some ⟨sz, 0, none⟩) 1 1, .int .i64 5, .bool false, .slice (some ⟨sz + 1, 0, none⟩) 1 1, .slice (some ⟨sz + 1 + 1, 0, none⟩) 1 1, .int .i64 3, .bool false, .slice none 0 0, .slice (some ⟨sz + 1 + 1 + 1, 0, none⟩) 1 1, .int .i64 4, .bool true, .slice none 0 0] 48))) :
    Ents W (fun i => w.heap.size ≤ i ∧ i < W.heap.size) (.slice (some ⟨sz + 1 + 1 + 1 + 1, 0, none⟩) 3 3) [tk1, tk2, tk3] ∧ Below w.heap.size w W := by
  subst hW hsz
  have hb : Below w.heap.size w (((((w.alloc (.cells #[.int .u8 98] T (1, 2))).alloc (.cells #[.int .u8 120] T (1, 2))).alloc (.cells #[.int .u8 98] T (1, 2))).alloc (.cells #[.int .u8 99] T (1, 2))).alloc
      (.cells #[.slice (some ⟨w.heap.size, 0, none⟩) 1 1, .int .i64 5, .bool false, .slice (some ⟨w.heap.size + 1, 0, none⟩) 1 1, .slice (some ⟨w.heap.size + 1 + 1, 0, none⟩) 1 1, .int .i64 3, .bool false, .slice none 0 0, .slice (some ⟨w.heap.size + 1 + 1 + 1, 0, none⟩) 1 1, .int .i64 4, .bool true, .slice none 0 0] 48)) :=
    (((((Below.refl _ _).alloc (Nat.le_refl _) _).alloc (by simp) _).alloc (by simp; omega) _).alloc (by simp; omega) _).alloc (by simp; omega) _
  refine ⟨?_, hb⟩
  refine ⟨_, _, [.slice (some ⟨w.heap.size, 0, none⟩) 1 1, .int .i64 5, .bool false, .slice (some ⟨w.heap.size + 1, 0, none⟩) 1 1, .slice (some ⟨w.heap.size + 1 + 1, 0, none⟩) 1 1, .int .i64 3, .bool false, .slice none 0 0, .slice (some ⟨w.heap.size + 1 + 1 + 1, 0, none⟩) 1 1, .int .i64 4, .bool true, .slice none 0 0], rfl, by simp, by simp, by simp, ⟨by simp, fun _ => ⟨_, 0, rfl, ⟨by first | omega | (simp; done) | (simp; omega), by first | (simp; done) | (simp; omega)⟩, by simp, fun j u hu => ?_⟩⟩, ?_⟩
  · rw [World.cell?_alloc_at _ _ _ _ (by simp)]
    simpa using hu
  · refine ⟨rfl, rfl, Byt.one (v := .int .u8 98) ?_ rfl ⟨by first | omega | (simp; done) | (simp; omega), by first | (simp; done) | (simp; omega)⟩ (by omega) (by omega), Byt.one (v := .int .u8 120) ?_ rfl ⟨by first | omega | (simp; done) | (simp; omega), by first | (simp; done) | (simp; omega)⟩ (by omega) (by omega), rfl, rfl, Byt.one (v := .int .u8 98) ?_ rfl ⟨by first | omega | (simp; done) | (simp; omega), by first | (simp; done) | (simp; omega)⟩ (by omega) (by omega), Byt.nil _ _, rfl, rfl, Byt.one (v := .int .u8 99) ?_ rfl ⟨by first | omega | (simp; done) | (simp; omega), by first | (simp; done) | (simp; omega)⟩ (by omega) (by omega), Byt.nil _ _, trivial⟩
    · exact Lib.cell?_alloc_marked _ (Lib.cell?_alloc_marked _ (Lib.cell?_alloc_marked _ (Lib.cell?_alloc_marked _ (cell_marked _ _ _ _ _ _ rfl))))
    · exact Lib.cell?_alloc_marked _ (Lib.cell?_alloc_marked _ (Lib.cell?_alloc_marked _ (cell_marked _ _ _ _ _ _ (by simp))))
    · exact Lib.cell?_alloc_marked _ (Lib.cell?_alloc_marked _ (cell_marked _ _ _ _ _ _ (by simp)))
    · exact Lib.cell?_alloc_marked _ (cell_marked _ _ _ _ _ _ (by simp))
end Go.Proofs.YtiffgjodbcploaaGreat
end
section
namespace Go.Proofs.YtiffgjodbcploaaGreat
set_option maxRecDepth 100000
open Go.RowKit Go.BigFrame Go.Shelf
attribute [local go_sem ↓] Go.wp_at_zero Go.wp_at_succ
theorem tfrom_lit {w : World} {sz : Nat} (hsz : sz = w.heap.size) {Q : World → Prop} (h : ∀ W, Hid (Ents W (fun i => w.heap.size ≤ i ∧ i < W.heap.size) (.slice (some ⟨sz + 1 + 1 + 1 + 1, 0, none⟩) 3 3) [tk1, tk2, tk3]) → Hid (Below w.heap.size w W) → Q W) :
    Q (((((w.alloc (.cells #[.int .u8 98] 5 (1, 2))).alloc (.cells #[.int .u8 120] 5 (1, 2))).alloc (.cells #[.int .u8 98] 5 (1, 2))).alloc (.cells #[.int .u8 99] 5 (1, 2))).alloc
      (.cells #[.slice (some ⟨sz, 0, none⟩) 1 1, .int .i64 5, .bool false, .slice (some ⟨sz + 1, 0, none⟩) 1 1, .slice (some ⟨sz + 1 + 1, 0, none⟩) 1 1, .int .i64 3, .bool false, .slice none 0 0, .slice (some ⟨sz + 1 + 1 + 1, 0, none⟩) 1 1, .int .i64 4, .bool true, .slice none 0 0] 48)) :=
  h _ (Lib.hid (tlit3 w 5 _ sz hsz rfl).1) (Lib.hid (tlit3 w 5 _ sz hsz rfl).2)
theorem tk_ord : orderedE [tk1, tk2, tk3] = true := by decide
theorem tk_bytes : bytesE [tk1, tk2, tk3] ≤ 16777216 := by decide
theorem tk_get : getF [98] 4 (fromE [98] [tk1, tk2, tk3]) = some tk2 := by decide
set_option maxRecDepth 100000 in
set_option maxHeartbeats 4000000 in
theorem twakes_any (w : World) : Calls Tryz.prog 6 #[] w fun r w' => r = .returned (.bool true) ∧ Below w.heap.size w w' := by
  have kc : ∀ (W : World) (C : Array Value) (n c g : Nat), g = W.heap.size → (convert 42 42 (.slice (some ⟨g, 0, none⟩) n c)).run Tryz.prog (W.alloc (.cells C 5)) = .ok (.slice (some ⟨g, 0, none⟩) n c) (W.alloc (.cells C 5 (C.size, C.size + 1))) := fun W C n c g hg => hg ▸ Lib.run_convert_bytes_const (P := Tryz.prog) W 42 5 C n c Tryz.underlying42 Tryz.underlying5
  go_enter Tryz.func6, Tryz.ntmps6
  go_wp2_with (fail)
  refine (calm_any _).mono ?_
  rintro r w0 ⟨rfl, f0⟩
  have HF0 := Lib.hid f0
  clear f0
  go_wp2_with (fail)
  refine (new_dk (fun _ => True) (-1) (-1) _ [] w0 (IntsIn.nil _ _) (by simp) w.heap.size HF0.out.size).mono ?_
  rintro r w1 ⟨p, rfl, h1, hb1⟩
  obtain ⟨F, h1, hF⟩ := h1
  have H1 := Lib.hid (h1 : DiskP w1 F p calm0)
  have HFF := Lib.hid hF
  have HB1 := Lib.hid (HF0.out.trans (hb1.mono HF0.out.size))
  clear h1 hb1 hF
  go_wp2_with (fail)
  refine tfrom_lit (w := w1) (sz := w1.heap.size) rfl (Q := fun W => Calls Tryz.prog 9 #[.pointer (some ⟨p, 0, none⟩), .string ⟨#[116]⟩, .slice (some ⟨w1.heap.size + 1 + 1 + 1 + 1, 0, none⟩) 3 3, .int .i64 2] W _) ?_
  intro W HA HB
  obtain ⟨g, hg⟩ : ∃ g, w1.heap.size + 1 + 1 + 1 + 1 = g := ⟨_, rfl⟩
  rw [hg] at HA ⊢
  clear hg
  have HBW := Lib.hid (HB1.out.trans (HB.out.mono HB1.out.size))
  refine (write_calm F p _ g 0 3 3 2 _ W (H1.out.below HB.out) HA.out rfl (fun i h => h.2) (by omega) tk_ord (by omega) (by omega) tk_bytes).mono ?_
  rintro r w2 ⟨ps, hps, rfl, h2, o2⟩
  have HPS := Lib.hid hps
  have H2 := Lib.hid h2
  have HB2 := Lib.hid (HBW.out.trans (o2.below HBW.out.size fun i hi => (HFF.out i hi).1))
  have HA2 := Lib.hid (HA.out.only o2 fun i _ hi h => by have := (HFF.out i h).2; omega)
  have h2z := o2.size
  clear hps h2 o2
  go_wp2_with (fail)
  refine (write_twice _ p _ [116] _ g 0 3 3 2 _ w2 H2.out HA2.out (by simp) (by omega) tk_ord (by omega) (calm_ready1 _)).mono ?_
  rintro r w3 ⟨rfl, f3⟩
  have HF3 := Lib.hid f3
  have HB3 := Lib.hid (HB2.out.trans (f3.mono HB2.out.size))
  clear f3
  go_wp2_with (fail)
  refine (write_none _ p 2 w3 (by omega)).mono ?_
  rintro r w4 ⟨rfl, f4⟩
  have HF4 := Lib.hid f4
  have HB4 := Lib.hid (HB3.out.trans (f4.mono HB3.out.size))
  clear f4
  go_wp2_with (fail)
  refine (open_ok _ p _ [116] 3 [tk1, tk2, tk3] ps w4 ((H2.out.below HF3.out).below HF4.out) (by simp) (calm_ready1 _) (calm_read1 _) HPS.out rfl (by omega) (by omega) tk_bytes tk_ord).mono ?_
  rintro r w5 ⟨Tb, rfl, hT, f5⟩
  have hps0 : 0 < ps.length := by
    rcases Nat.eq_zero_or_pos ps.length with h | h
    · have h1 := HPS.out.all
      rw [List.eq_nil_of_length_eq_zero h] at h1
      simp at h1
    · exact h
  have HT := Lib.hid (hT.set hps0)
  have HB5 := Lib.hid (HB4.out.trans (f5.mono HB4.out.size))
  clear f5 hT hps0
  go_wp2_with (fail)
  have hby : Byt (w5.alloc (.cells #[.int .u8 98] 5 (1, 2))) (fun i => i = w5.heap.size) (.slice (some ⟨w5.heap.size, 0, none⟩) 1 1) [98] := Byt.one (v := .int .u8 98) (cell_marked _ _ _ _ _ _ rfl) rfl rfl (by omega) (by omega)
  have hbA : Below w5.heap.size w5 (w5.alloc (.cells #[.int .u8 98] 5 (1, 2))) := (Below.refl _ _).alloc (Nat.le_refl _) _
  refine (tget_any Tb 3 1 1 _ 4 _ _ [98] [tk1, tk2, tk3] ps _ hby (HT.out.fr hbA) HPS.out rfl (by omega) (by omega) tk_bytes tk_ord (by rintro i (h | h); (have := hbA.size; have := h.2; omega); (subst h; simp))).mono ?_
  rw [tk_get]
  rintro r w6 ⟨k, sq, d, u, ok, rfl, ⟨rfl, rfl, rfl, hk, hu⟩, f6⟩
  obtain ⟨Ak, ck, rfl⟩ := slice_form hk
  obtain ⟨Au, cu, rfl⟩ := slice_form hu
  have HT6 := Lib.hid ((HT.out.fr hbA).fr f6)
  have HB6 := Lib.hid ((HB5.out.trans (hbA.mono HB5.out.size)).trans (Below.mono f6 (by have := HB5.out.size; simp; omega)))
  clear hk hu hby hbA f6 kc
  go_wp2_with (go_at_call 18; refine (count_any _ Tb 3 _ ps _ (HT6.out.fr (fr.alloc fr.refl _))).mono ?_; rintro r w7 ⟨rfl, f7⟩)
  refine bodyPost_ret (v := .bool true) (by simp [results, Tryz.results6, go_sem]) rfl ?_
  have ha := HB6.out.alloc HB6.out.size (.cells #[.slice Ak tk2.key.length ck, .int .i64 tk2.seq, .bool tk2.dead, .slice Au tk2.val.length cu] 48)
  exact ⟨rfl, ha.trans (Below.mono f7 ha.size)⟩
end Go.Proofs.YtiffgjodbcploaaGreat
end
section
namespace Go.Proofs.YtiffgjodbcploaaGreat
set_option maxRecDepth 100000
open Go.RowKit Go.BigFrame Go.Shelf
attribute [local go_sem ↓] Go.wp_at_zero Go.wp_at_succ
attribute [local go_sem] Oper.semAt_some
set_option maxRecDepth 100000 in
set_option maxHeartbeats 1000000 in
theorem topen_err (F : Nat → Prop) (p : Nat) (k : Pk) (x : Nm) (w : World) (hd : DiskP w F p k) (hx : x.length ≤ 140737488355328) (hr : readyE k [x] ≠ 0) :
    Calls Tryz.prog 14 #[.pointer (some ⟨p, 0, none⟩), .string ⟨x.toArray⟩] w fun r w' => r = .returned (.tuple #[.pointer none, .int .i64 (readyE k [x])]) ∧ fr w w' := by
  have HR := Lib.hid (read_any F p k x w hd hx)
  rw [if_neg hr] at HR
  obtain ⟨e, he⟩ : ∃ e, readyE k [x] = e := ⟨_, rfl⟩
  rw [he] at HR hr ⊢
  have hb : (e == 0) = false := by simpa using hr
  clear hd he
  go_enter Tryz.func14, Tryz.ntmps14
  go_wp2_with (go_at_call 24; refine HR.out.mono ?_; rintro r w1 ⟨v, rfl, hv, f1⟩; obtain ⟨A1, c1, rfl⟩ := slice_form hv)
  refine bodyPost_ret (v := .tuple #[.pointer none, .int .i64 e]) (by simp [results, Tryz.results14, go_sem]) rfl ?_
  exact ⟨rfl, f1⟩
set_option maxRecDepth 100000 in
set_option maxHeartbeats 1000000 in
theorem topen_bad (F : Nat → Prop) (p : Nat) (k : Pk) (x : Nm) (w : World) (hd : DiskP w F p k) (hx : x.length ≤ 140737488355328) (hr : readyE k [x] = 0) (hl : (readD k x).length ≤ 1099511627776) (hbad : (readD k x).length < 12 ∨ sealF ((readD k x).drop 12) ≠ readD k x) :
    Calls Tryz.prog 14 #[.pointer (some ⟨p, 0, none⟩), .string ⟨x.toArray⟩] w fun r w' => r = .returned (.tuple #[.pointer none, .int .i64 11]) ∧ fr w w' := by
  have HR := Lib.hid (read_any F p k x w hd hx)
  rw [hr, if_pos rfl] at HR
  obtain ⟨fb, hfb⟩ : ∃ f, readD k x = f := ⟨_, rfl⟩
  rw [hfb] at HR hl hbad
  obtain ⟨n, hn⟩ : ∃ n, fb.length = n := ⟨_, rfl⟩
  have HN := Lib.hid hn
  rw [hn] at hl hbad
  have HBAD := Lib.hid hbad
  clear hd hr hfb hn hbad
  by_cases h12 : n < 12
  · have i4 : (n : Int) < 12 := by omega
    go_enter Tryz.func14, Tryz.ntmps14
    go_wp2_with (go_at_call 24; refine HR.out.mono ?_; rintro r w1 ⟨v, rfl, hv, f1⟩; obtain ⟨A1, c1, rfl⟩ := slice_form hv; rw [HN.out] at hv ⊢)
    refine bodyPost_ret (v := .tuple #[.pointer none, .int .i64 11]) (by simp [results, Tryz.results14, go_sem]) rfl ?_
    exact ⟨rfl, f1⟩
  · have hne : decide (fb = sealF (fb.drop 12)) = false := decide_eq_false fun h => by
      rcases HBAD.out with h1 | h1
      · exact h12 h1
      · exact h1 h.symm
    have HNE := Lib.hid hne
    clear hne
    go_enter Tryz.func14, Tryz.ntmps14
    go_upto_region 6 with (go_at_call 24; refine HR.out.mono ?_; rintro r w1 ⟨v, rfl, hv, f1⟩; obtain ⟨A1, c1, rfl⟩ := slice_form hv; obtain ⟨b1, o1, rfl⟩ := Byt.some_of hv (by rw [HN.out]; omega); rw [HN.out] at hv ⊢)
    have hc1 : n ≤ c1 ∧ c1 ≤ 9223372036854775807 := by obtain ⟨A, ca, e, h1, h2, _⟩ := hv; simp only [Value.slice.injEq] at e; rw [HN.out] at h1; omega
    obtain ⟨m, hm⟩ : ∃ m, n - 12 = m := ⟨_, rfl⟩
    have hcut : BytL w1 w.heap.size (.slice (some ⟨b1, o1 + 12, none⟩) m (c1 - 12)) (fb.drop 12) := by
      have := BytL.cut hv (f := 12) (m := m) (c' := c1 - 12) (by omega) (by omega) (by omega)
      rw [List.take_of_length_le (by rw [List.length_drop, HN.out]; omega)] at this
      exact this
    have hdl : (fb.drop 12).length = m := by rw [List.length_drop, HN.out, hm]
    have hz : c1 = 12 → m = 0 := by omega
    have h0 : c1 = 12 → Byt w1 (fun _ => True) (.slice (some ⟨b1, o1, none⟩) 0 0) (fb.drop 12) := fun h => by
      have : fb.drop 12 = [] := List.eq_nil_of_length_eq_zero (by rw [hdl]; exact hz h)
      rw [this]
      exact ⟨_, _, rfl, by simp, by simp, by simp, Row.nil _ _ _ _⟩
    have HV := Lib.hid hv
    have HS := Lib.hid (fun v (hb : Byt w1 (fun _ => True) v (fb.drop 12)) => seal_any _ v (fb.drop 12) w1 hb (by rw [hdl]; omega))
    rw [hdl] at HS
    have i1 : ((n : Int) - 12) = (m : Int) := by omega
    have i2 : n - 12 = m := hm
    have i4 : ¬ (n : Int) < 12 := by omega
    have i5 : (12 : Int) ≤ (n : Int) := by omega
    have HC := Lib.hid (hcut.byt.mono (S' := fun _ => True) fun _ _ => trivial)
    have H0 := Lib.hid h0
    have HZ := Lib.hid hz
    have HFX := Lib.hid f1
    clear hv hcut f1 hm hdl h0 hz
    by_cases hc : c1 = 12
    · have hm0 := HZ.out hc
      have hb0 := H0.out hc
      subst hc
      subst hm0
      go_wp2_with (first
        | (go_at_call 33; refine (HS.out _ hb0).mono ?_; rintro r w2 ⟨A2, c2, rfl, ho2, f2⟩)
        | (go_at_call 40; refine (bequal_any _ _ _ _ fb (sealF (fb.drop 12)) w2 (HV.out.below f2) ho2.byt).mono ?_; rintro r w3 ⟨rfl, hw3⟩; subst hw3; rw [HNE.out]))
      refine bodyPost_ret (v := .tuple #[.pointer none, .int .i64 11]) (by simp [results, Tryz.results14, go_sem]) rfl ?_
      exact ⟨rfl, fr.step HFX.out f2⟩
    · go_wp2_with (first
        | (go_at_call 33; refine (HS.out _ HC.out).mono ?_; rintro r w2 ⟨A2, c2, rfl, ho2, f2⟩)
        | (go_at_call 40; refine (bequal_any _ _ _ _ fb (sealF (fb.drop 12)) w2 (HV.out.below f2) ho2.byt).mono ?_; rintro r w3 ⟨rfl, hw3⟩; subst hw3; rw [HNE.out]))
      refine bodyPost_ret (v := .tuple #[.pointer none, .int .i64 11]) (by simp [results, Tryz.results14, go_sem]) rfl ?_
      exact ⟨rfl, fr.step HFX.out f2⟩
/-- Write: a size of blocks that may not be. -/
theorem write_range (x : Value) (p N c : Nat) (A : Option Addr) (z : Int) (w : World) (hz : z < 1 ∨ 1024 < z) : Calls Tryz.prog 9 #[.pointer (some ⟨p, 0, none⟩), x, .slice A N c, .int .i64 z] w fun r w' => r = .returned (.int .i64 2) ∧ fr w w' := by
  have b9 := (Boxed.new w 30 (.int .i64 2)).cell
  refine (callsIn_wide (n := 1)).1 ?_
  refine callsIn_of_wp_marks Tryz.func9 rfl trivial ?_
  simp only [Tryz.ntmps9, List.size_toArray, List.length_cons, List.length_nil, Nat.reduceAdd, Nat.reduceSub, Array.replicate_succ, Array.replicate_zero, List.push_toArray, List.append_toArray, List.nil_append, List.cons_append]
  refine wpIn_wide.2 ?_
  by_cases h1 : z < 1
  · go_wp2
    exact ⟨.int .i64 2, by simp [results, Tryz.results9, go_sem, b9], rfl, fr.alloc fr.refl _⟩
  · have hb1 : decide (z < 1) = false := decide_eq_false h1
    have hb2 : decide (1024 < z) = true := decide_eq_true (by omega)
    clear h1 hz
    go_wp2
    exact ⟨.int .i64 2, by simp [results, Tryz.results9, go_sem, b9], rfl, fr.alloc fr.refl _⟩
/-- Write: no entries, or not in order. -/
theorem write_key (S0 : Nat → Prop) (x : Value) (p N c size : Nat) (A : Option Addr) (es : List Ent) (w : World) (hv : Ents w S0 (.slice A N c) es) (_hN : es.length = N) (hsz : 1 ≤ size ∧ size ≤ 1024) (hbad : N = 0 ∨ orderedE es = false) : Calls Tryz.prog 9 #[.pointer (some ⟨p, 0, none⟩), x, .slice A N c, .int .i64 size] w fun r w' => r = .returned (.int .i64 30) ∧ fr w w' := by
  obtain ⟨hsz1, hsz2⟩ := hsz
  have hb1 : decide ((size : Int) < 1) = false := by simp; omega
  have hb2 : decide ((1024 : Int) < (size : Int)) = false := by simp; omega
  have b8 := Boxed.new w 30 (.int .i64 0)
  have hf8 : fr w (w.alloc (.cells #[.int .i64 0] 30)) := fr.alloc fr.refl _
  have HV := Lib.hid hv
  have HB := Lib.hid hbad
  clear hv hbad
  refine (callsIn_wide (n := 1)).1 ?_
  refine callsIn_of_wp_marks Tryz.func9 rfl trivial ?_
  simp only [Tryz.ntmps9, List.size_toArray, List.length_cons, List.length_nil, Nat.reduceAdd, Nat.reduceSub, Array.replicate_succ, Array.replicate_zero, List.push_toArray, List.append_toArray, List.nil_append, List.cons_append]
  refine wpIn_wide.2 ?_
  by_cases hN0 : N = 0
  · subst hN0
    go_wp2
    have b9 := (Boxed.new w 30 (.int .i64 30)).cell
    exact ⟨.int .i64 30, by simp [results, Tryz.results9, go_sem, b9], rfl, fr.alloc fr.refl _⟩
  · have hne : ((N : Int) == 0) = false := by simpa using hN0
    have hof : orderedE es = false := HB.out.resolve_left hN0
    have HO := Lib.hid (ordered_any S0 _ es _ (HV.out.below hf8))
    rw [hof] at HO
    clear hof hN0
    go_wp2_with (go_at_call 26; refine HO.out.mono ?_; rintro r w1 ⟨rfl, f1⟩; have h8 := boxedFr b8 f1; have c8 := h8.cell; have z8 := h8.frozen; have HB8 := Lib.hid h8; have HF2 := Lib.hid (fr.step hf8 f1))
    have h9 := (HB8.out.set (.int .i64 30)).cell
    have f := HF2.out
    exact ⟨.int .i64 30, by simp [results, Tryz.results9, go_sem, h9], rfl, f.os, f.tape, f.output, by have := f.size; simp [World.setCell]; omega, fun i hi => (Below.heap_setCell w1 ⟨w.heap.size, 0, none⟩ _ i (by show ¬ i = w.heap.size; omega)).trans (f.block i hi)⟩
/-- Write: the disk refuses. -/
theorem write_err (F : Nat → Prop) (p : Nat) (k : Pk) (x : Nm) (S0 : Nat → Prop) (A : Option Addr) (N c size : Nat) (es : List Ent) (w : World) (hd : DiskP w F p k) (hv : Ents w S0 (.slice A N c) es) (hx : x.length ≤ 140737488355328) (hsz : 1 ≤ size ∧ size ≤ 1024) (hord : orderedE es = true) (hN0 : 0 < N) (hr : readyE k [x] ≠ 0) (hr2 : readyE k [x] ≠ 22) :
    Calls Tryz.prog 9 #[.pointer (some ⟨p, 0, none⟩), .string ⟨x.toArray⟩, .slice A N c, .int .i64 size] w fun r w' => r = .returned (.int .i64 (readyE k [x])) ∧ fr w w' := by
  obtain ⟨hsz1, hsz2⟩ := hsz
  have hb1 : decide ((size : Int) < 1) = false := by simp; omega
  have hb2 : decide ((1024 : Int) < (size : Int)) = false := by simp; omega
  have R0 : ∀ wx, fr w wx → Calls Tryz.prog 26 #[.slice A N c] wx fun r w' => r = .returned (.bool true) ∧ fr wx w' := fun wx hx => by
    refine (ordered_any S0 _ es wx (hv.below hx)).mono ?_
    rintro r w' ⟨rfl, h⟩
    rw [hord]
    exact ⟨rfl, h⟩
  have HR0 := Lib.hid R0
  have HR1 := Lib.hid (fun wx (hx : fr w wx) => read_any F p k x wx (hd.below hx) (by assumption))
  rw [if_neg hr] at HR1
  obtain ⟨e, he⟩ : ∃ e, readyE k [x] = e := ⟨_, rfl⟩
  rw [he] at HR1 hr hr2 ⊢
  have he1 : (e == 22) = false := by simpa using hr2
  have he2 : (e == 0) = false := by simpa using hr
  have b8 := Boxed.new w 30 (.int .i64 0)
  have hf8 : fr w (w.alloc (.cells #[.int .i64 0] 30)) := fr.alloc fr.refl _
  clear R0 hv hd hr hr2 he
  refine (callsIn_wide (n := 1)).1 ?_
  refine callsIn_of_wp_marks Tryz.func9 rfl trivial ?_
  simp only [Tryz.ntmps9, List.size_toArray, List.length_cons, List.length_nil, Nat.reduceAdd, Nat.reduceSub, Array.replicate_succ, Array.replicate_zero, List.push_toArray, List.append_toArray, List.nil_append, List.cons_append]
  refine wpIn_wide.2 ?_
  go_wp2_with (first
    | (go_at_call 26; refine (HR0.out _ hf8).mono ?_; rintro r w1 ⟨rfl, f1⟩)
    | (go_at_call 24; refine (HR1.out _ (fr.step hf8 f1)).mono ?_; rintro r w2 ⟨v2, rfl, hv2, f2⟩; have h8 := boxedFr (boxedFr b8 f1) f2; have c8 := h8.cell; have z8 := h8.frozen; have HB8 := Lib.hid h8; have HF2 := Lib.hid (fr.step (fr.step hf8 f1) f2); clear hv2 h8 f2 b8 hf8))
  have h9 := (HB8.out.set (.int .i64 e)).cell
  have f := HF2.out
  exact ⟨.int .i64 e, by simp [results, Tryz.results9, go_sem, h9], rfl, f.os, f.tape, f.output, by have := f.size; simp [World.setCell]; omega, fun i hi => (Below.heap_setCell w2 ⟨w.heap.size, 0, none⟩ _ i (by show ¬ i = w.heap.size; omega)).trans (f.block i hi)⟩
end Go.Proofs.YtiffgjodbcploaaGreat
end
section
namespace Go.Proofs.YtiffgjodbcploaaGreat
set_option maxRecDepth 100000
open Go.RowKit Go.BigFrame Go.Shelf
theorem calmN_ready (x : Nm) : readyE calm0 [x] = if nameB x = true then 22 else 23 := by
  unfold readyE calm0
  rcases h : nameB x with _ | _
  · simp [h]
  · simp [h, findP]
theorem calmN_appendK {x : Nm} (hx : nameB x = true) (b : List UInt8) : appendE calm0 x b = 0 ∧ appendK calm0 x b = ⟨[⟨x, b, 0⟩], -1, -1, [], 1, wrap64 b.length, false⟩ := by
  have hr : readyE calm0 [x] = 22 := by rw [calmN_ready, if_pos hx]
  have h1 : crashes calm0 = false := by decide
  have h2 : fullP calm0 b.length = false := rfl
  have h3 : appFs x b calm0.fs = [⟨x, b, 0⟩] := by simp [appFs, calm0, findP, insP, updP]
  refine ⟨?_, ?_⟩
  · unfold appendE
    rw [if_pos (.inr hr), h2]
    rfl
  · unfold appendK
    have h4 : changeK calm0 = ⟨[], -1, -1, [], 1, 0, false⟩ := rfl
    rw [if_pos (.inr hr), h2, h1, h3, h4]
    simp [calm0]
theorem calmN_ready1 {x : Nm} (hx : nameB x = true) (b : List UInt8) (s : Int) (d : Int) (y : Int) : readyE ⟨[⟨x, b, s⟩], -1, -1, [], d, y, false⟩ [x] = 0 := by
  unfold readyE
  simp [hx, findP]
theorem calmN_sync {x : Nm} (hx : nameB x = true) (b : List UInt8) : syncE (appendK calm0 x b) x = 0 ∧ syncK (appendK calm0 x b) x = calm1 x b := by
  rw [(calmN_appendK hx b).2]
  have h1 := calmN_ready1 hx b 0 1 (wrap64 b.length)
  have h2 : crashes ⟨[⟨x, b, 0⟩], -1, -1, [], 1, wrap64 b.length, false⟩ = false := rfl
  refine ⟨?_, ?_⟩
  · unfold syncE
    rw [if_pos h1]
    rfl
  · unfold syncK
    rw [if_pos h1, h2]
    simp [updK, changeK, crashes, updP, calm1]
theorem calmN_readyD {x : Nm} (hx : nameB x = true) (b : List UInt8) : readyE (calm1 x b) [x] = 0 := calmN_ready1 hx b _ _ _
theorem calmN_read (x : Nm) (b : List UInt8) : readD (calm1 x b) x = b := by
  unfold readD calm1
  simp [findP]
theorem write_calmN (F : Nat → Prop) (p : Nat) (x : Nm) (S0 : Nat → Prop) (g o N c size : Nat) (es : List Ent) (w : World) (hx : nameB x = true) (hxl : x.length ≤ 140737488355328) (h : DiskP w F p calm0) (hv : Ents w S0 (.slice (some ⟨g, o, none⟩) N c) es) (hN : es.length = N) (hS0 : ∀ i, S0 i → i < w.heap.size) (hsz : 1 ≤ size ∧ size ≤ 1024) (hord : orderedE es = true) (hN0 : 0 < N) (hN2 : N ≤ 16777216) (hB2 : bytesE es ≤ 16777216) :
    Calls Tryz.prog 9 #[.pointer (some ⟨p, 0, none⟩), .string ⟨x.toArray⟩, .slice (some ⟨g, o, none⟩) N c, .int .i64 size] w fun r w' => ∃ ps, PartsOk es ps ∧ r = .returned (.int .i64 0) ∧ DiskP w' (orNew F w.heap.size) p (calm1 x (sealF (fileF N ps))) ∧ Only F w w' := by
  refine (write_ok F p calm0 x S0 g o N c size es w h hv hN hS0 hxl hsz hord ((ordered_iff es).1 hord).1 hN0 hN2 hB2 (by rw [calmN_ready, if_pos hx]) (by decide) (by decide) (by decide)).mono ?_
  rintro r w' ⟨ps, hps, rfl, h', ho⟩
  obtain ⟨s1, s2⟩ := calmN_sync hx (sealF (fileF N ps))
  rw [(calmN_appendK hx _).1, if_pos rfl, s1]
  rw [(calmN_appendK hx _).1, if_pos rfl, s2] at h'
  exact ⟨ps, hps, rfl, h', ho⟩
end Go.Proofs.YtiffgjodbcploaaGreat
end
section
namespace Go.Proofs.YtiffgjodbcploaaGreat
set_option maxRecDepth 100000
open Go.RowKit Go.BigFrame Go.Shelf
attribute [local go_sem ↓] Go.wp_at_zero Go.wp_at_succ
attribute [local go_sem] Oper.semAt_some
abbrev zeroE : Value := .agg #[.slice none 0 0, .int .i64 0, .bool false, .slice none 0 0]
set_option maxRecDepth 100000 in
set_option maxHeartbeats 1000000 in
theorem tget_nil (A : Option Addr) (nk ck : Nat) (s : Int) (w : World) : Calls Tryz.prog 21 #[.pointer none, .slice A nk ck, .int .i64 s] w fun r w' => r = .returned (.tuple #[zeroE, .bool false, .int .i64 1]) ∧ fr w w' := by
  refine (callsIn_wide (n := 1)).1 ?_
  refine callsIn_of_wp_marks Tryz.func21 rfl trivial ?_
  simp only [Tryz.ntmps21, List.size_toArray, List.length_cons, List.length_nil, Nat.reduceAdd, Nat.reduceSub, Array.replicate_succ, Array.replicate_zero, List.push_toArray, List.append_toArray, List.nil_append, List.cons_append]
  refine wpIn_wide.2 ?_
  go_wp2
  have p6 := fr.hp (fr.alloc (fr.alloc fr.refl _) _) (heap_alloc_new ((w.alloc (.cells #[.slice A nk ck] 42)).alloc (.cells #[.int .i64 s] 3)) (.cells #[.slice none 0 0, .int .i64 0, .bool false, .slice none 0 0] 48)) (w' := ((((w.alloc (.cells #[.slice A nk ck] 42)).alloc (.cells #[.int .i64 s] 3)).alloc (.cells #[.slice none 0 0, .int .i64 0, .bool false, .slice none 0 0] 48)).alloc (.cells #[.bool false] 4)).alloc (.cells #[.int .i64 1] 30))
  have p7 := ((Boxed.new (((w.alloc (.cells #[.slice A nk ck] 42)).alloc (.cells #[.int .i64 s] 3)).alloc (.cells #[.slice none 0 0, .int .i64 0, .bool false, .slice none 0 0] 48)) 4 (.bool false)).alloc (.cells #[.int .i64 1] 30)).cell
  have p8 := (Boxed.new ((((w.alloc (.cells #[.slice A nk ck] 42)).alloc (.cells #[.int .i64 s] 3)).alloc (.cells #[.slice none 0 0, .int .i64 0, .bool false, .slice none 0 0] 48)).alloc (.cells #[.bool false] 4)) 30 (.int .i64 1)).cell
  simp only [World.size_alloc] at p6 p7 p8
  have q0 := cell_of_row _ _ 0 _ _ _ p6
  have q1 := cell_of_row _ _ 1 _ _ _ p6
  have q2 := cell_of_row _ _ 2 _ _ _ p6
  have q3 := cell_of_row _ _ 3 _ _ _ p6
  exact ⟨.tuple #[zeroE, .bool false, .int .i64 1], by simp [results, Tryz.results21, go_sem, q0, q1, q2, q3, p7, p8], rfl, fr.alloc (fr.alloc (fr.alloc (fr.alloc (fr.alloc fr.refl _) _) _) _) _⟩
set_option maxRecDepth 100000 in
set_option maxHeartbeats 1000000 in
theorem entries_nil (w : World) : Calls Tryz.prog 42 #[.pointer none, .slice none 0 0, .slice none 0 0] w fun r w' => r = .returned (.func (.func 71) #[] #[]) ∧ fr w w' := by
  go_enter Tryz.func42, Tryz.ntmps42
  go_wp2
  go_ret
  exact ⟨rfl, fr.alloc (fr.alloc (fr.alloc fr.refl _) _) _⟩
set_option maxRecDepth 100000 in
set_option maxHeartbeats 1000000 in
theorem nil_tells (nn : Nat) (w : World) : Tells Fence.wide nn Tryz.prog 71 #[] (fun _ : Unit => #[zeroE, .int .i64 1]) (fun pre _ _ _ => pre = []) (fun xs _ => xs.length = 1) (fun _ _ => True) (fun _ => False) (fun _ => False) w := by
  intro l J Jx T0 W hW hT0 hJ hJx hJT hY h0
  refine callsIn_wide.2 ?_
  obtain ⟨fn, tmps, assign, body, hy, hR⟩ := hY [] T0 () W h0 rfl
  dsimp only at hy
  have HR := Lib.hid hR
  clear hW hT0 hJ hJx hJT hY h0 hR
  go_enter Tryz.func71, Tryz.ntmps71
  refine (wpIn_wide (n := nn)).1 ?_
  gi_wp2
  refine ⟨fun h => absurd h (by decide), HR.out.mono ?_⟩
  rintro e w6 ⟨T6, gT, oT, (⟨rfl, hj6⟩ | ⟨rfl, hj6⟩)⟩
  · have HJ6 := Lib.hid hj6
    clear hy hj6 gT oT
    gi_wp2
    go_wp2
    go_end0
    exact ⟨⟨_, rfl⟩, .inl ⟨[()], T6, rfl, HJ6.out⟩⟩
  · have HJ6 := Lib.hid hj6
    clear hy hj6 gT oT
    gi_wp2
    go_wp2
    go_end0
    exact ⟨⟨_, rfl⟩, .inr ⟨[()], T6, trivial, HJ6.out⟩⟩
abbrev nFrame (z Bx : Nat) : Array Value :=
  #[.pointer none, .slice none 0 0, .slice none 0 0, undef, undef, undef, .pointer (some ⟨z, 0, none⟩), .pointer (some ⟨z + 1, 0, none⟩), .pointer (some ⟨z + 1 + 1, 0, none⟩), .pointer (some ⟨Bx, 0, none⟩), .int .i64 1, .pointer none, .slice none 0 0, .slice none 0 0, .func (.func 71) #[] #[], zeroE, .int .i64 1, undef, undef, undef, undef, undef, undef, undef, undef, undef]
abbrev T2 (R : Nat) (i : Nat) : Prop := i = R ∨ i = R + 1
set_option maxRecDepth 100000 in
set_option maxHeartbeats 4000000 in
theorem tall_nil (w : World) : Calls Tryz.prog 15 #[.pointer none, .slice none 0 0, .slice none 0 0] w fun r w' => r = .returned (.tuple #[.slice none 0 0, .int .i64 1]) ∧ fr w w' := by
  have p6 := ((Boxed.new w 22 (.slice none 0 0)).alloc (.cells #[.int .i64 0] 30)).alloc (.cells #[.slice none 0 0] 22)
  have p7 := (Boxed.new (w.alloc (.cells #[.slice none 0 0] 22)) 30 (.int .i64 0)).alloc (.cells #[.slice none 0 0] 22)
  have p8 := Boxed.new ((w.alloc (.cells #[.slice none 0 0] 22)).alloc (.cells #[.int .i64 0] 30)) 22 (.slice none 0 0)
  simp only [World.size_alloc] at p7 p8
  have fA : fr w (((w.alloc (.cells #[.slice none 0 0] 22)).alloc (.cells #[.int .i64 0] 30)).alloc (.cells #[.slice none 0 0] 22)) := fr.alloc (fr.alloc (fr.alloc fr.refl _) _) _
  refine (callsIn_wide (n := 1)).1 ?_
  refine callsIn_of_wp_marks Tryz.func15 rfl trivial ?_
  simp only [Tryz.ntmps15, List.size_toArray, List.length_cons, List.length_nil, Nat.reduceAdd, Nat.reduceSub, Array.replicate_succ, Array.replicate_zero, List.push_toArray, List.append_toArray, List.nil_append, List.cons_append]
  refine wpIn_wide.2 ?_
  go_wp2_with (go_at_call 42; refine (entries_nil _).mono ?_; rintro r w1 ⟨rfl, f1⟩)
  have P6 := Lib.hid (boxedFr p6 f1)
  have P7 := Lib.hid (boxedFr p7 f1)
  have P8 := Lib.hid (boxedFr p8 f1)
  have HF1 := Lib.hid (fr.step fA f1)
  have hz3 := (boxedFr p8 f1).lt
  clear p6 p7 p8 fA f1
  refine (wpIn_wide (n := 1)).1 ?_
  refine range_tells rfl (by omega) (gf := 71) (lb := #[]) rfl trivial (enters_of Tryz.func71 (by kernel_rfl) rfl) (nil_tells 0 w1)
    (fun i h => h.elim) (fun i h => h.elim) (fun pre T T' x A hT h => h) (fun _ _ _ h _ => h) (fun _ _ _ h _ => h) (fun _ => rfl)
    (fun pre T W => pre = [] ∧ T = T2 w.heap.size ∧ fr w1 W) (fun c pre T W => c = .ret ∧ T = T2 w.heap.size ∧ Only (T2 w.heap.size) w1 W ∧ Boxed W w.heap.size 22 (.slice none 0 0) ∧ Boxed W (w.heap.size + 1) 30 (.int .i64 1)) ?still ?stillX (T2 w.heap.size) (fun i hi => ⟨by rcases hi with rfl | rfl <;> omega, fun h => h⟩) ⟨rfl, rfl, fr.refl⟩
    (fun pre T x a W => ∃ Bx, a = { tmps := nFrame w.heap.size Bx, defers := [] }) (fun _ _ _ _ _ _ h _ => h) ?assign ?body ?done ?stop ?lt ?ltx
  case assign =>
    rintro l pre T x W K hi' hok hK
    obtain ⟨h1, h2, h3⟩ := hi'
    gi_wp2
    exact hK _ _ (fr.alloc fr.refl _) ⟨h1, h2, fr.alloc h3 _⟩ ⟨_, rfl⟩
  case still =>
    rintro pre T A B ⟨h1, h2, h3⟩ hi
    exact ⟨h1, h2, hi.os.trans h3.os, hi.tape.trans h3.tape, hi.output.trans h3.output, Nat.le_trans h3.size hi.size, fun i hlt => (hi.block i (Nat.lt_of_lt_of_le hlt h3.size) fun hk => by rcases hk with hk | hk; exact hk; omega).trans (h3.block i hlt)⟩
  case stillX =>
    rintro c pre T A B ⟨h1, h2, h3, a1, a2⟩ hi
    exact ⟨h1, h2, ⟨hi.os.trans h3.os, hi.tape.trans h3.tape, hi.output.trans h3.output, Nat.le_trans h3.size hi.size, fun i hlt hn => (hi.block i (Nat.lt_of_lt_of_le hlt h3.size) fun hk => by rcases hk with hk | hk; exact hk; omega).trans (h3.block i hlt hn)⟩, hi.cells (fun h => h) a1 rfl, hi.cells (fun h => h) a2 rfl⟩
  case lt =>
    rintro pre T W i ⟨h1, rfl, h3⟩ hT
    have := h3.size
    rcases hT with rfl | rfl <;> omega
  case ltx =>
    rintro c pre T W i ⟨h1, rfl, h3, _⟩ hT
    have := h3.size
    rcases hT with rfl | rfl <;> omega
  case body =>
    rintro l pre T x a' sA W hl hlA hrec hTs hsA ⟨rfl, rfl, h3⟩ ⟨Bx, rfl⟩
    have Q6 := boxedFr P6.out h3
    have Q7 := boxedFr P7.out h3
    have c6 := Q6.cell
    have z6 := Q6.frozen
    have c7 := Q7.cell
    have z7 := Q7.frozen
    have c8 := (boxedFr P8.out h3).cell
    have HQ6 := Lib.hid Q6
    have HQ7 := Lib.hid Q7
    have HH3 := Lib.hid h3
    clear hrec hTs hl hlA Q6 Q7 h3
    gi_wp2
    have o2 : Only (T2 w.heap.size) W ((W.setCell ⟨w.heap.size, 0, none⟩ (.slice none 0 0)).setCell ⟨w.heap.size + 1, 0, none⟩ (.int .i64 1)) := Only.setCell (S := T2 w.heap.size) (Only.setCell (S := T2 w.heap.size) (Only.refl _ _) (p := ⟨w.heap.size, 0, none⟩) (.inl rfl) _) (p := ⟨w.heap.size + 1, 0, none⟩) (.inr rfl) _
    exact ⟨T2 _, fun i h => .inl h, Only.mono o2 fun i h => .inl h, rfl, rfl, Only.trans (Only.of_below HH3.out) o2, (HQ6.out.set _).other (by omega) _, (HQ7.out.other (by omega) _).set _⟩
  case done =>
    rintro D' xs T W hD' hTs hxs ⟨rfl, rfl, h3⟩ hK
    simp at hxs
  case stop =>
    rintro D' c xs T W hD' hTs _ ⟨rfl, rfl, h3, a1, a2⟩ hK
    have o4 : Only (fun i => i = D') W (W.putObj D' (.deferred none)) := ⟨rfl, rfl, rfl, by simp, fun i _ hi => World.putObj_heap_other hi⟩
    have s0 := (boxedOnly a1 o4 (by omega)).cell
    have s1 := (boxedOnly a2 o4 (by omega)).cell
    gi_wp2
    refine ⟨by simp, .inl ⟨_, _, rfl, run_takeDeferred hK, ?_⟩⟩
    have h0 := HF1.out
    have o5 := Only.trans (Only.mono h3 fun i h => (Or.inl h : T2 w.heap.size i ∨ i = D')) (Only.mono o4 fun i h => Or.inr h)
    exact ⟨.tuple #[.slice none 0 0, .int .i64 1], by simp [results, Tryz.results15, go_sem, s0, s1], rfl, o5.os.trans h0.os, o5.tape.trans h0.tape, o5.output.trans h0.output, Nat.le_trans h0.size o5.size, fun i hi => (o5.block i (by have := h0.size; omega) (by rintro ((h | h) | h) <;> omega)).trans (h0.block i hi)⟩
end Go.Proofs.YtiffgjodbcploaaGreat
end
section
namespace Go.Proofs.YtiffgjodbcploaaGreat
set_option maxRecDepth 100000
open Go.RowKit Go.BigFrame Go.Shelf
attribute [local go_sem ↓] Go.wp_at_zero Go.wp_at_succ
theorem fr.putE {W X : World} {pb j : Nat} {u : Value} (h : fr W X) (hp : W.heap.size ≤ pb) : fr W (X.setCell ⟨pb, j, none⟩ u) := RowKit.Below.setCell h hp u
theorem fr.stepR {W X Y : World} (h : fr W X) (g : fr X Y) : fr W Y := fr.step h g
theorem Only.stepE {S : Nat → Prop} {a b c : World} (h : Only S a b) (g : fr b c) : Only S a c := h.trans (Only.of_below g)
abbrev T12 (z i : Nat) : Prop := i = z + 1 ∨ i = z + 1 + 1
theorem Only.put1 {a b : World} {z j : Nat} {u : Value} (h : Only (T12 z) a b) : Only (T12 z) a (b.setCell ⟨z + 1, j, none⟩ u) := Only.setCell (S := T12 z) (p := ⟨z + 1, j, none⟩) h (.inl rfl) u
theorem Only.put2 {a b : World} {z j : Nat} {u : Value} (h : Only (T12 z) a b) : Only (T12 z) a (b.setCell ⟨z + 1 + 1, j, none⟩ u) := Only.setCell (S := T12 z) (p := ⟨z + 1 + 1, j, none⟩) h (.inr rfl) u
theorem BytL.stepE {wa wc : World} {lo z : Nat} {v : Value} {bs : List UInt8} (h : BytL wa lo v bs) (ho : Only (T12 z) wa wc) (hle : z + 3 ≤ lo) : BytL wc (z + 3) v bs :=
  Byt.mono (S := fun i => lo ≤ i ∧ Loose wa i) (Byt.only (T := fun i => lo ≤ i ∧ Loose wa i) h ho (fun i _ h e => by have := h.1; rcases e with e | e <;> omega)) fun i hi => ⟨by have := hi.1; omega, hi.2.only ho (by have := hi.1; rintro (e | e) <;> omega)⟩
/-- what Entries answers. -/
abbrev entF (z : Nat) : Value := .func (.func 72) #[] #[.pointer (some ⟨z, 0, none⟩), .pointer (some ⟨z + 1, 0, none⟩), .pointer (some ⟨z + 1 + 1, 0, none⟩)]
theorem leafE {w w1 w2 wc : World} {Tb nl nh cl ch : Nat} {Al Ah : Option Addr} {lo hi : List UInt8} {L1 L2 : Nat} (h1 : BytL w1 L1 (.slice Al nl cl) lo) (h2 : BytL w2 L2 (.slice Ah nh ch) hi) (o1 : Only (T12 w.heap.size) w1 wc) (o2 : Only (T12 w.heap.size) w2 wc)
    (l1 : w.heap.size + 3 ≤ L1) (l2 : w.heap.size + 3 ≤ L2) (p0 : Boxed wc w.heap.size 37 (.pointer (some ⟨Tb, 0, none⟩))) (p1 : Boxed wc (w.heap.size + 1) 42 (.slice Al nl cl)) (p2 : Boxed wc (w.heap.size + 1 + 1) 42 (.slice Ah nh ch)) (hf : fr w wc) :
    Boxed wc w.heap.size 37 (.pointer (some ⟨Tb, 0, none⟩)) ∧ (∃ A n c A' n' c', Boxed wc (w.heap.size + 1) 42 (.slice A n c) ∧ Boxed wc (w.heap.size + 1 + 1) 42 (.slice A' n' c') ∧ BytL wc (w.heap.size + 3) (.slice A n c) lo ∧ BytL wc (w.heap.size + 3) (.slice A' n' c') hi) ∧ fr w wc :=
  ⟨p0, ⟨_, _, _, _, _, _, p1, p2, h1.stepE o1 l1, h2.stepE o2 l2⟩, hf⟩
set_option maxRecDepth 100000 in
set_option maxHeartbeats 1000000 in
theorem entries_some (Tb nl cl nh ch : Nat) (Al Ah : Option Addr) (S1 S2 : Nat → Prop) (lo hi : List UInt8) (w : World) (hl : Byt w S1 (.slice Al nl cl) lo) (hh : Byt w S2 (.slice Ah nh ch) hi) :
    Calls Tryz.prog 42 #[.pointer (some ⟨Tb, 0, none⟩), .slice Al nl cl, .slice Ah nh ch] w fun r w' => r = .returned (entF w.heap.size) ∧ Boxed w' w.heap.size 37 (.pointer (some ⟨Tb, 0, none⟩)) ∧
      (∃ A n c A' n' c', Boxed w' (w.heap.size + 1) 42 (.slice A n c) ∧ Boxed w' (w.heap.size + 1 + 1) 42 (.slice A' n' c') ∧ BytL w' (w.heap.size + 3) (.slice A n c) lo ∧ BytL w' (w.heap.size + 3) (.slice A' n' c') hi) ∧ fr w w' := by
  have HC0 : Hid (∀ wx, fr w wx → Calls Tryz.prog 39 #[.slice Al nl cl] wx fun r w' => ∃ A c, r = .returned (.slice A lo.length c) ∧ BytL w' wx.heap.size (.slice A lo.length c) lo ∧ fr wx w') := Lib.hid fun wx hx => by
    refine (bcloneL_any _ _ lo wx (hl.below hx)).mono ?_
    rintro r w' ⟨v, rfl, h, f⟩
    obtain ⟨A, c, rfl⟩ := slice_form h
    exact ⟨A, c, rfl, h, f⟩
  have HC1 : Hid (∀ wx, fr w wx → Calls Tryz.prog 39 #[.slice Ah nh ch] wx fun r w' => ∃ A c, r = .returned (.slice A hi.length c) ∧ BytL w' wx.heap.size (.slice A hi.length c) hi ∧ fr wx w') := Lib.hid fun wx hx => by
    refine (bcloneL_any _ _ hi wx (hh.below hx)).mono ?_
    rintro r w' ⟨v, rfl, h, f⟩
    obtain ⟨A, c, rfl⟩ := slice_form h
    exact ⟨A, c, rfl, h, f⟩
  obtain ⟨n1, hn1⟩ : ∃ n, lo.length = n := ⟨_, rfl⟩
  obtain ⟨n2, hn2⟩ : ∃ n, hi.length = n := ⟨_, rfl⟩
  rw [hn1] at HC0
  rw [hn2] at HC1
  obtain ⟨wA, hwA⟩ : ∃ x, ((w.alloc (.cells #[.pointer (some ⟨Tb, 0, none⟩)] 37)).alloc (.cells #[.slice Al nl cl] 42)).alloc (.cells #[.slice Ah nh ch] 42) = x := ⟨_, rfl⟩
  have b1 := Boxed.new (w.alloc (.cells #[.pointer (some ⟨Tb, 0, none⟩)] 37)) 42 (.slice Al nl cl)
  have b2 := Boxed.new ((w.alloc (.cells #[.pointer (some ⟨Tb, 0, none⟩)] 37)).alloc (.cells #[.slice Al nl cl] 42)) 42 (.slice Ah nh ch)
  simp only [World.size_alloc] at b1 b2
  have P0 : Boxed wA w.heap.size 37 (.pointer (some ⟨Tb, 0, none⟩)) := by rw [← hwA]; exact ((Boxed.new w _ _).alloc _).alloc _
  have P1 : Boxed wA (w.heap.size + 1) 42 (.slice Al nl cl) := by rw [← hwA]; exact b1.alloc _
  have P2 : Boxed wA (w.heap.size + 1 + 1) 42 (.slice Ah nh ch) := by rw [← hwA]; exact b2
  have FA : fr w wA := by rw [← hwA]; exact fr.alloc (fr.alloc (fr.alloc fr.refl _) _) _
  have FD : fr w wA.drew := fr.drew FA
  have ZA : wA.drew.heap.size = w.heap.size + 3 := by rw [← hwA]; simp
  have Q0 : Boxed wA.drew w.heap.size 37 (.pointer (some ⟨Tb, 0, none⟩)) := P0
  have Q1 : Boxed wA.drew (w.heap.size + 1) 42 (.slice Al nl cl) := P1
  have Q2 : Boxed wA.drew (w.heap.size + 1 + 1) 42 (.slice Ah nh ch) := P2
  have c1 := P1.cell
  have c2 := P2.cell
  have c0 := P0.cell
  have z1 := P1.frozen
  have z2 := P2.frozen
  have d1 := Q1.cell
  have d2 := Q2.cell
  have y1 := Q1.frozen
  have y2 := Q2.frozen
  have L1 : w.heap.size ≤ w.heap.size + 1 := by omega
  have L2 : w.heap.size ≤ w.heap.size + 1 + 1 := by omega
  have HWA := Lib.hid hwA
  have HN : Hid (¬ w.heap.size + 1 = w.heap.size + 1 + 1 ∧ ¬ w.heap.size + 1 + 1 = w.heap.size + 1 ∧ ¬ w.heap.size = w.heap.size + 1 ∧ ¬ w.heap.size = w.heap.size + 1 + 1) := Lib.hid (by omega)
  have HQ0 := Lib.hid Q0
  have HQ1 := Lib.hid Q1
  have HQ2 := Lib.hid Q2
  have HZA := Lib.hid ZA
  have HFD := Lib.hid FD
  have HL := Lib.hid (And.intro L1 L2)
  clear hl hh hn1 hn2 b1 b2 hwA P0 P1 P2 FA FD ZA Q0 Q1 Q2 L1 L2
  go_enter Tryz.func42, Tryz.ntmps42
  go_upto_region 3 with (rw [HWA.out])
  go_region_with (first
    | (go_at_call 39; (with_reducible refine Calls.mono (HC0.out _ ?_) ?_); (focus (first | with_reducible exact HFD.out | with_reducible exact f2 | (with_reducible refine fr.putE ?_ HL.out.2; with_reducible exact f2))); rintro r w1 ⟨A1, k1, rfl, hb1, g1⟩; have s1 := Below.size g1; (first | (with_reducible have q0 := boxedFr HQ0.out g1; with_reducible have q1 := boxedFr HQ1.out g1; with_reducible have q2 := boxedFr HQ2.out g1; with_reducible have f1 := fr.stepR HFD.out g1) | (with_reducible have q0 := boxedFr q0 g1; with_reducible have q1 := boxedFr q1 g1; with_reducible have q2 := boxedFr q2 g1; with_reducible have f1 := fr.stepR f2 g1) | (with_reducible have f1 := fr.stepR (fr.putE f2 HL.out.2) g1; with_reducible have q0 := boxedFr (q0.other HN.out.2.2.2 _) g1; with_reducible have q1 := boxedFr (q1.other HN.out.1 _) g1; with_reducible have q2 := boxedFr (q2.set _) g1)); have e1 := q1.cell; have e2 := q2.cell; have u1 := q1.frozen; have u2 := q2.frozen)
    | (go_at_call 39; (with_reducible refine Calls.mono (HC1.out _ ?_) ?_); (focus (first | with_reducible exact HFD.out | with_reducible exact f1 | (with_reducible refine fr.putE ?_ HL.out.1; with_reducible exact f1))); rintro r w2 ⟨A2, k2, rfl, hb2, g2⟩; have s2 := Below.size g2; (first | (with_reducible have q0 := boxedFr HQ0.out g2; with_reducible have q1 := boxedFr HQ1.out g2; with_reducible have q2 := boxedFr HQ2.out g2; with_reducible have f2 := fr.stepR HFD.out g2) | (with_reducible have q0 := boxedFr q0 g2; with_reducible have q1 := boxedFr q1 g2; with_reducible have q2 := boxedFr q2 g2; with_reducible have f2 := fr.stepR f1 g2) | (with_reducible have f2 := fr.stepR (fr.putE f1 HL.out.1) g2; with_reducible have q0 := boxedFr (q0.other HN.out.2.2.1 _) g2; with_reducible have q2 := boxedFr (q2.other HN.out.2.1 _) g2; with_reducible have q1 := boxedFr (q1.set _) g2)); have e1 := q1.cell; have e2 := q2.cell; have u1 := q1.frozen; have u2 := q2.frozen))
  all_goals
    clear c0 c1 c2 z1 z2 d1 d2 y1 y2
    go_wp2
    refine bodyPost_ret (v := entF w.heap.size) (by simp [results, Tryz.results42, go_sem]) rfl ?_
    refine ⟨rfl, leafE hb1 hb2 ?_ ?_ ?_ ?_ ?_ ?_ ?_ ?_⟩
    · (repeat (first | with_reducible exact Only.refl _ _ | with_reducible refine Only.put1 ?_ | with_reducible refine Only.put2 ?_ | with_reducible refine Only.stepE ?_ g1 | with_reducible refine Only.stepE ?_ g2))
    · (repeat (first | with_reducible exact Only.refl _ _ | with_reducible refine Only.put1 ?_ | with_reducible refine Only.put2 ?_ | with_reducible refine Only.stepE ?_ g1 | with_reducible refine Only.stepE ?_ g2))
    · have := HZA.out
      (try simp only [World.size_setCell] at s1 s2)
      omega
    · have := HZA.out
      (try simp only [World.size_setCell] at s1 s2)
      omega
    · first
        | with_reducible exact (q0.other HN.out.2.2.1 _).other HN.out.2.2.2 _
        | with_reducible exact (q0.other HN.out.2.2.2 _).other HN.out.2.2.1 _
        | with_reducible exact q0.other HN.out.2.2.1 _
        | with_reducible exact q0.other HN.out.2.2.2 _
    · first
        | with_reducible exact (q1.set _).other HN.out.1 _
        | with_reducible exact (q1.other HN.out.1 _).set _
        | with_reducible exact q1.set _
        | with_reducible exact q1.other HN.out.1 _
    · first
        | with_reducible exact (q2.set _).other HN.out.2.1 _
        | with_reducible exact (q2.other HN.out.2.1 _).set _
        | with_reducible exact q2.set _
        | with_reducible exact q2.other HN.out.2.1 _
    · first
        | with_reducible exact fr.putE (fr.putE f1 HL.out.1) HL.out.2
        | with_reducible exact fr.putE (fr.putE f1 HL.out.2) HL.out.1
        | with_reducible exact fr.putE (fr.putE f2 HL.out.1) HL.out.2
        | with_reducible exact fr.putE (fr.putE f2 HL.out.2) HL.out.1
        | with_reducible exact fr.putE f1 HL.out.1
        | with_reducible exact fr.putE f2 HL.out.2
end Go.Proofs.YtiffgjodbcploaaGreat
end
