/-
vdisk's Of: the two closures, looked for in the files.
-/
import Derived.Test.YtiffgjodbcploaaGreatQPCrashUpto14
import Derived.Test.YtiffgjodbcploaaGreatQPCrashUpto6
import Derived.Test.YtiffgjodbcploaaGreatQPCrashUpto4
import Derived.Deep.Slices
import Derived.Lib.SmallJoins
import Derived.OpenShut
import Derived.SizedLaws
import Derived.Test.YtiffgjodbcploaaGreatQPCrashUpto10
section
namespace Go.Proofs.YtiffgjodbcploaaGreat
set_option maxRecDepth 100000
open Go.RowKit Go.BigFrame Go.Shelf
attribute [local go_sem ↓] Go.wp_at_zero Go.wp_at_succ
theorem tfrom_lit {w : World} {sz : Nat} (hsz : sz = w.heap.size) {Q : World → Prop} (h : ∀ W, Hid (Ents W (fun i => w.heap.size ≤ i ∧ i < W.heap.size) (.slice (some ⟨sz + 1 + 1 + 1 + 1, 0, none⟩) 3 3) [tk1, tk2, tk3]) → Hid (Below w.heap.size w W) → Q W) :
    Q (((((w.alloc (.cells #[.int .u8 98] 5 (1, 2))).alloc (.cells #[.int .u8 120] 5 (1, 2))).alloc (.cells #[.int .u8 98] 5 (1, 2))).alloc (.cells #[.int .u8 99] 5 (1, 2))).alloc
      (.cells #[.slice (some ⟨sz, 0, none⟩) 1 1, .int .i64 5, .bool false, .slice (some ⟨sz + 1, 0, none⟩) 1 1, .slice (some ⟨sz + 1 + 1, 0, none⟩) 1 1, .int .i64 3, .bool false, .slice none 0 0, .slice (some ⟨sz + 1 + 1 + 1, 0, none⟩) 1 1, .int .i64 4, .bool true, .slice none 0 0] 48)) :=
  h _ (Lib.hid (tlit3 w 5 _ sz hsz rfl).1) (Lib.hid (tlit3 w 5 _ sz hsz rfl).2)
theorem tk_ord : orderedE [tk1, tk2, tk3] = true := by decide
theorem tk_bytes : bytesE [tk1, tk2, tk3] ≤ 16777216 := by decide
theorem tk_get : getF [98] 4 (fromE [98] [tk1, tk2, tk3]) = some tk2 := by decide
set_option maxRecDepth 100000 in
set_option maxHeartbeats 4000000 in
theorem twakes_any (w : World) : Calls Tryz.prog 6 #[] w fun r w' => r = .returned (.bool true) ∧ Below w.heap.size w w' := by
  have kc : ∀ (W : World) (C : Array Value) (n c g : Nat), g = W.heap.size → (convert 42 42 (.slice (some ⟨g, 0, none⟩) n c)).run Tryz.prog (W.alloc (.cells C 5)) = .ok (.slice (some ⟨g, 0, none⟩) n c) (W.alloc (.cells C 5 (C.size, C.size + 1))) := fun W C n c g hg => hg ▸ Lib.run_convert_bytes_const (P := Tryz.prog) W 42 5 C n c Tryz.underlying42 Tryz.underlying5
  go_enter Tryz.func6, Tryz.ntmps6
  go_wp2_with (fail)
  refine (calm_any _).mono ?_
  rintro r w0 ⟨rfl, f0⟩
  have HF0 := Lib.hid f0
  clear f0
  go_wp2_with (fail)
  refine (new_dk (fun _ => True) (-1) (-1) _ [] w0 (IntsIn.nil _ _) (by simp) w.heap.size HF0.out.size).mono ?_
  rintro r w1 ⟨p, rfl, h1, hb1⟩
  obtain ⟨F, h1, hF⟩ := h1
  have H1 := Lib.hid (h1 : DiskP w1 F p calm0)
  have HFF := Lib.hid hF
  have HB1 := Lib.hid (HF0.out.trans (hb1.mono HF0.out.size))
  clear h1 hb1 hF
  go_wp2_with (fail)
  refine tfrom_lit (w := w1) (sz := w1.heap.size) rfl (Q := fun W => Calls Tryz.prog 9 #[.pointer (some ⟨p, 0, none⟩), .string ⟨#[116]⟩, .slice (some ⟨w1.heap.size + 1 + 1 + 1 + 1, 0, none⟩) 3 3, .int .i64 2] W _) ?_
  intro W HA HB
  obtain ⟨g, hg⟩ : ∃ g, w1.heap.size + 1 + 1 + 1 + 1 = g := ⟨_, rfl⟩
  rw [hg] at HA ⊢
  clear hg
  have HBW := Lib.hid (HB1.out.trans (HB.out.mono HB1.out.size))
  refine (write_calm F p _ g 0 3 3 2 _ W (H1.out.below HB.out) HA.out rfl (fun i h => h.2) (by omega) tk_ord (by omega) (by omega) tk_bytes).mono ?_
  rintro r w2 ⟨ps, hps, rfl, h2, o2⟩
  have HPS := Lib.hid hps
  have H2 := Lib.hid h2
  have HB2 := Lib.hid (HBW.out.trans (o2.below HBW.out.size fun i hi => (HFF.out i hi).1))
  have HA2 := Lib.hid (HA.out.only o2 fun i _ hi h => by have := (HFF.out i h).2; omega)
  have h2z := o2.size
  clear hps h2 o2
  go_wp2_with (fail)
  refine (write_twice _ p _ [116] _ g 0 3 3 2 _ w2 H2.out HA2.out (by simp) (by omega) tk_ord (by omega) (calm_ready1 _)).mono ?_
  rintro r w3 ⟨rfl, f3⟩
  have HF3 := Lib.hid f3
  have HB3 := Lib.hid (HB2.out.trans (f3.mono HB2.out.size))
  clear f3
  go_wp2_with (fail)
  refine (write_none _ p 2 w3 (by omega)).mono ?_
  rintro r w4 ⟨rfl, f4⟩
  have HF4 := Lib.hid f4
  have HB4 := Lib.hid (HB3.out.trans (f4.mono HB3.out.size))
  clear f4
  go_wp2_with (fail)
  refine (open_ok _ p _ [116] 3 [tk1, tk2, tk3] ps w4 ((H2.out.below HF3.out).below HF4.out) (by simp) (calm_ready1 _) (calm_read1 _) HPS.out rfl (by omega) (by omega) tk_bytes tk_ord).mono ?_
  rintro r w5 ⟨Tb, rfl, hT, f5⟩
  have hps0 : 0 < ps.length := by
    rcases Nat.eq_zero_or_pos ps.length with h | h
    · have h1 := HPS.out.all
      rw [List.eq_nil_of_length_eq_zero h] at h1
      simp at h1
    · exact h
  have HT := Lib.hid (hT.set hps0)
  have HB5 := Lib.hid (HB4.out.trans (f5.mono HB4.out.size))
  clear f5 hT hps0
  go_wp2_with (fail)
  have hby : Byt (w5.alloc (.cells #[.int .u8 98] 5 (1, 2))) (fun i => i = w5.heap.size) (.slice (some ⟨w5.heap.size, 0, none⟩) 1 1) [98] := Byt.one (v := .int .u8 98) (cell_marked _ _ _ _ _ _ rfl) rfl rfl (by omega) (by omega)
  have hbA : Below w5.heap.size w5 (w5.alloc (.cells #[.int .u8 98] 5 (1, 2))) := (Below.refl _ _).alloc (Nat.le_refl _) _
  refine (tget_any Tb 3 1 1 _ 4 _ _ [98] [tk1, tk2, tk3] ps _ hby (HT.out.fr hbA) HPS.out rfl (by omega) (by omega) tk_bytes tk_ord (by rintro i (h | h); (have := hbA.size; have := h.2; omega); (subst h; simp))).mono ?_
  rw [tk_get]
  rintro r w6 ⟨k, sq, d, u, ok, rfl, ⟨rfl, rfl, rfl, hk, hu⟩, f6⟩
  obtain ⟨Ak, ck, rfl⟩ := slice_form hk
  obtain ⟨Au, cu, rfl⟩ := slice_form hu
  have HT6 := Lib.hid ((HT.out.fr hbA).fr f6)
  have HB6 := Lib.hid ((HB5.out.trans (hbA.mono HB5.out.size)).trans (Below.mono f6 (by have := HB5.out.size; simp; omega)))
  clear hk hu hby hbA f6 kc
  go_wp2_with (go_at_call 18; refine (count_any _ Tb 3 _ ps _ (HT6.out.fr (fr.alloc fr.refl _))).mono ?_; rintro r w7 ⟨rfl, f7⟩)
  refine bodyPost_ret (v := .bool true) (by simp [results, Tryz.results6, go_sem]) rfl ?_
  have ha := HB6.out.alloc HB6.out.size (.cells #[.slice Ak tk2.key.length ck, .int .i64 tk2.seq, .bool tk2.dead, .slice Au tk2.val.length cu] 48)
  exact ⟨rfl, ha.trans (Below.mono f7 ha.size)⟩
end Go.Proofs.YtiffgjodbcploaaGreat
end
section
namespace Go.Proofs.YtiffgjodbcploaaGreat
set_option maxRecDepth 100000
open Go.RowKit Go.BigFrame Go.Shelf
attribute [local go_sem ↓] Go.wp_at_zero Go.wp_at_succ
attribute [local go_sem] Oper.semAt_some
set_option maxRecDepth 100000 in
set_option maxHeartbeats 1000000 in
theorem topen_err (F : Nat → Prop) (p : Nat) (k : Pk) (x : Nm) (w : World) (hd : DiskP w F p k) (hx : x.length ≤ 140737488355328) (hr : readyE k [x] ≠ 0) :
    Calls Tryz.prog 14 #[.pointer (some ⟨p, 0, none⟩), .string ⟨x.toArray⟩] w fun r w' => r = .returned (.tuple #[.pointer none, .int .i64 (readyE k [x])]) ∧ fr w w' := by
  have HR := Lib.hid (read_any F p k x w hd hx)
  rw [if_neg hr] at HR
  obtain ⟨e, he⟩ : ∃ e, readyE k [x] = e := ⟨_, rfl⟩
  rw [he] at HR hr ⊢
  have hb : (e == 0) = false := by simpa using hr
  clear hd he
  go_enter Tryz.func14, Tryz.ntmps14
  go_wp2_with (go_at_call 24; refine HR.out.mono ?_; rintro r w1 ⟨v, rfl, hv, f1⟩; obtain ⟨A1, c1, rfl⟩ := slice_form hv)
  refine bodyPost_ret (v := .tuple #[.pointer none, .int .i64 e]) (by simp [results, Tryz.results14, go_sem]) rfl ?_
  exact ⟨rfl, f1⟩
set_option maxRecDepth 100000 in
set_option maxHeartbeats 1000000 in
theorem topen_bad (F : Nat → Prop) (p : Nat) (k : Pk) (x : Nm) (w : World) (hd : DiskP w F p k) (hx : x.length ≤ 140737488355328) (hr : readyE k [x] = 0) (hl : (readD k x).length ≤ 1099511627776) (hbad : (readD k x).length < 12 ∨ sealF ((readD k x).drop 12) ≠ readD k x) :
    Calls Tryz.prog 14 #[.pointer (some ⟨p, 0, none⟩), .string ⟨x.toArray⟩] w fun r w' => r = .returned (.tuple #[.pointer none, .int .i64 11]) ∧ fr w w' := by
  have HR := Lib.hid (read_any F p k x w hd hx)
  rw [hr, if_pos rfl] at HR
  obtain ⟨fb, hfb⟩ : ∃ f, readD k x = f := ⟨_, rfl⟩
  rw [hfb] at HR hl hbad
  obtain ⟨n, hn⟩ : ∃ n, fb.length = n := ⟨_, rfl⟩
  have HN := Lib.hid hn
  rw [hn] at hl hbad
  have HBAD := Lib.hid hbad
  clear hd hr hfb hn hbad
  by_cases h12 : n < 12
  · have i4 : (n : Int) < 12 := by omega
    go_enter Tryz.func14, Tryz.ntmps14
    go_wp2_with (go_at_call 24; refine HR.out.mono ?_; rintro r w1 ⟨v, rfl, hv, f1⟩; obtain ⟨A1, c1, rfl⟩ := slice_form hv; rw [HN.out] at hv ⊢)
    refine bodyPost_ret (v := .tuple #[.pointer none, .int .i64 11]) (by simp [results, Tryz.results14, go_sem]) rfl ?_
    exact ⟨rfl, f1⟩
  · have hne : decide (fb = sealF (fb.drop 12)) = false := decide_eq_false fun h => by
      rcases HBAD.out with h1 | h1
      · exact h12 h1
      · exact h1 h.symm
    have HNE := Lib.hid hne
    clear hne
    go_enter Tryz.func14, Tryz.ntmps14
    go_upto_region 6 with (go_at_call 24; refine HR.out.mono ?_; rintro r w1 ⟨v, rfl, hv, f1⟩; obtain ⟨A1, c1, rfl⟩ := slice_form hv; obtain ⟨b1, o1, rfl⟩ := Byt.some_of hv (by rw [HN.out]; omega); rw [HN.out] at hv ⊢)
    have hc1 : n ≤ c1 ∧ c1 ≤ 9223372036854775807 := by obtain ⟨A, ca, e, h1, h2, _⟩ := hv; simp only [Value.slice.injEq] at e; rw [HN.out] at h1; omega
    obtain ⟨m, hm⟩ : ∃ m, n - 12 = m := ⟨_, rfl⟩
    have hcut : BytL w1 w.heap.size (.slice (some ⟨b1, o1 + 12, none⟩) m (c1 - 12)) (fb.drop 12) := by
      have := BytL.cut hv (f := 12) (m := m) (c' := c1 - 12) (by omega) (by omega) (by omega)
      rw [List.take_of_length_le (by rw [List.length_drop, HN.out]; omega)] at this
      exact this
    have hdl : (fb.drop 12).length = m := by rw [List.length_drop, HN.out, hm]
    have hz : c1 = 12 → m = 0 := by omega
    have h0 : c1 = 12 → Byt w1 (fun _ => True) (.slice (some ⟨b1, o1, none⟩) 0 0) (fb.drop 12) := fun h => by
      have : fb.drop 12 = [] := List.eq_nil_of_length_eq_zero (by rw [hdl]; exact hz h)
      rw [this]
      exact ⟨_, _, rfl, by simp, by simp, by simp, Row.nil _ _ _ _⟩
    have HV := Lib.hid hv
    have HS := Lib.hid (fun v (hb : Byt w1 (fun _ => True) v (fb.drop 12)) => seal_any _ v (fb.drop 12) w1 hb (by rw [hdl]; omega))
    rw [hdl] at HS
    have i1 : ((n : Int) - 12) = (m : Int) := by omega
    have i2 : n - 12 = m := hm
    have i4 : ¬ (n : Int) < 12 := by omega
    have i5 : (12 : Int) ≤ (n : Int) := by omega
    have HC := Lib.hid (hcut.byt.mono (S' := fun _ => True) fun _ _ => trivial)
    have H0 := Lib.hid h0
    have HZ := Lib.hid hz
    have HFX := Lib.hid f1
    clear hv hcut f1 hm hdl h0 hz
    by_cases hc : c1 = 12
    · have hm0 := HZ.out hc
      have hb0 := H0.out hc
      subst hc
      subst hm0
      go_wp2_with (first
        | (go_at_call 33; refine (HS.out _ hb0).mono ?_; rintro r w2 ⟨A2, c2, rfl, ho2, f2⟩)
        | (go_at_call 40; refine (bequal_any _ _ _ _ fb (sealF (fb.drop 12)) w2 (HV.out.below f2) ho2.byt).mono ?_; rintro r w3 ⟨rfl, hw3⟩; subst hw3; rw [HNE.out]))
      refine bodyPost_ret (v := .tuple #[.pointer none, .int .i64 11]) (by simp [results, Tryz.results14, go_sem]) rfl ?_
      exact ⟨rfl, fr.step HFX.out f2⟩
    · go_wp2_with (first
        | (go_at_call 33; refine (HS.out _ HC.out).mono ?_; rintro r w2 ⟨A2, c2, rfl, ho2, f2⟩)
        | (go_at_call 40; refine (bequal_any _ _ _ _ fb (sealF (fb.drop 12)) w2 (HV.out.below f2) ho2.byt).mono ?_; rintro r w3 ⟨rfl, hw3⟩; subst hw3; rw [HNE.out]))
      refine bodyPost_ret (v := .tuple #[.pointer none, .int .i64 11]) (by simp [results, Tryz.results14, go_sem]) rfl ?_
      exact ⟨rfl, fr.step HFX.out f2⟩
/-- Write: a size of blocks that may not be. -/
theorem write_range (x : Value) (p N c : Nat) (A : Option Addr) (z : Int) (w : World) (hz : z < 1 ∨ 1024 < z) : Calls Tryz.prog 9 #[.pointer (some ⟨p, 0, none⟩), x, .slice A N c, .int .i64 z] w fun r w' => r = .returned (.int .i64 2) ∧ fr w w' := by
  have b9 := (Boxed.new w 30 (.int .i64 2)).cell
  refine (callsIn_wide (n := 1)).1 ?_
  refine callsIn_of_wp_marks Tryz.func9 rfl trivial ?_
  simp only [Tryz.ntmps9, List.size_toArray, List.length_cons, List.length_nil, Nat.reduceAdd, Nat.reduceSub, Array.replicate_succ, Array.replicate_zero, List.push_toArray, List.append_toArray, List.nil_append, List.cons_append]
  refine wpIn_wide.2 ?_
  by_cases h1 : z < 1
  · go_wp2
    exact ⟨.int .i64 2, by simp [results, Tryz.results9, go_sem, b9], rfl, fr.alloc fr.refl _⟩
  · have hb1 : decide (z < 1) = false := decide_eq_false h1
    have hb2 : decide (1024 < z) = true := decide_eq_true (by omega)
    clear h1 hz
    go_wp2
    exact ⟨.int .i64 2, by simp [results, Tryz.results9, go_sem, b9], rfl, fr.alloc fr.refl _⟩
/-- Write: no entries, or not in order. -/
theorem write_key (S0 : Nat → Prop) (x : Value) (p N c size : Nat) (A : Option Addr) (es : List Ent) (w : World) (hv : Ents w S0 (.slice A N c) es) (_hN : es.length = N) (hsz : 1 ≤ size ∧ size ≤ 1024) (hbad : N = 0 ∨ orderedE es = false) : Calls Tryz.prog 9 #[.pointer (some ⟨p, 0, none⟩), x, .slice A N c, .int .i64 size] w fun r w' => r = .returned (.int .i64 30) ∧ fr w w' := by
  obtain ⟨hsz1, hsz2⟩ := hsz
  have hb1 : decide ((size : Int) < 1) = false := by simp; omega
  have hb2 : decide ((1024 : Int) < (size : Int)) = false := by simp; omega
  have b8 := Boxed.new w 30 (.int .i64 0)
  have hf8 : fr w (w.alloc (.cells #[.int .i64 0] 30)) := fr.alloc fr.refl _
  have HV := Lib.hid hv
  have HB := Lib.hid hbad
  clear hv hbad
  refine (callsIn_wide (n := 1)).1 ?_
  refine callsIn_of_wp_marks Tryz.func9 rfl trivial ?_
  simp only [Tryz.ntmps9, List.size_toArray, List.length_cons, List.length_nil, Nat.reduceAdd, Nat.reduceSub, Array.replicate_succ, Array.replicate_zero, List.push_toArray, List.append_toArray, List.nil_append, List.cons_append]
  refine wpIn_wide.2 ?_
  by_cases hN0 : N = 0
  · subst hN0
    go_wp2
    have b9 := (Boxed.new w 30 (.int .i64 30)).cell
    exact ⟨.int .i64 30, by simp [results, Tryz.results9, go_sem, b9], rfl, fr.alloc fr.refl _⟩
  · have hne : ((N : Int) == 0) = false := by simpa using hN0
    have hof : orderedE es = false := HB.out.resolve_left hN0
    have HO := Lib.hid (ordered_any S0 _ es _ (HV.out.below hf8))
    rw [hof] at HO
    clear hof hN0
    go_wp2_with (go_at_call 26; refine HO.out.mono ?_; rintro r w1 ⟨rfl, f1⟩; have h8 := boxedFr b8 f1; have c8 := h8.cell; have z8 := h8.frozen; have HB8 := Lib.hid h8; have HF2 := Lib.hid (fr.step hf8 f1))
    have h9 := (HB8.out.set (.int .i64 30)).cell
    have f := HF2.out
    exact ⟨.int .i64 30, by simp [results, Tryz.results9, go_sem, h9], rfl, f.os, f.tape, f.output, by have := f.size; simp [World.setCell]; omega, fun i hi => (Below.heap_setCell w1 ⟨w.heap.size, 0, none⟩ _ i (by show ¬ i = w.heap.size; omega)).trans (f.block i hi)⟩
/-- Write: the disk refuses. -/
theorem write_err (F : Nat → Prop) (p : Nat) (k : Pk) (x : Nm) (S0 : Nat → Prop) (A : Option Addr) (N c size : Nat) (es : List Ent) (w : World) (hd : DiskP w F p k) (hv : Ents w S0 (.slice A N c) es) (hx : x.length ≤ 140737488355328) (hsz : 1 ≤ size ∧ size ≤ 1024) (hord : orderedE es = true) (hN0 : 0 < N) (hr : readyE k [x] ≠ 0) (hr2 : readyE k [x] ≠ 22) :
    Calls Tryz.prog 9 #[.pointer (some ⟨p, 0, none⟩), .string ⟨x.toArray⟩, .slice A N c, .int .i64 size] w fun r w' => r = .returned (.int .i64 (readyE k [x])) ∧ fr w w' := by
  obtain ⟨hsz1, hsz2⟩ := hsz
  have hb1 : decide ((size : Int) < 1) = false := by simp; omega
  have hb2 : decide ((1024 : Int) < (size : Int)) = false := by simp; omega
  have R0 : ∀ wx, fr w wx → Calls Tryz.prog 26 #[.slice A N c] wx fun r w' => r = .returned (.bool true) ∧ fr wx w' := fun wx hx => by
    refine (ordered_any S0 _ es wx (hv.below hx)).mono ?_
    rintro r w' ⟨rfl, h⟩
    rw [hord]
    exact ⟨rfl, h⟩
  have HR0 := Lib.hid R0
  have HR1 := Lib.hid (fun wx (hx : fr w wx) => read_any F p k x wx (hd.below hx) (by assumption))
  rw [if_neg hr] at HR1
  obtain ⟨e, he⟩ : ∃ e, readyE k [x] = e := ⟨_, rfl⟩
  rw [he] at HR1 hr hr2 ⊢
  have he1 : (e == 22) = false := by simpa using hr2
  have he2 : (e == 0) = false := by simpa using hr
  have b8 := Boxed.new w 30 (.int .i64 0)
  have hf8 : fr w (w.alloc (.cells #[.int .i64 0] 30)) := fr.alloc fr.refl _
  clear R0 hv hd hr hr2 he
  refine (callsIn_wide (n := 1)).1 ?_
  refine callsIn_of_wp_marks Tryz.func9 rfl trivial ?_
  simp only [Tryz.ntmps9, List.size_toArray, List.length_cons, List.length_nil, Nat.reduceAdd, Nat.reduceSub, Array.replicate_succ, Array.replicate_zero, List.push_toArray, List.append_toArray, List.nil_append, List.cons_append]
  refine wpIn_wide.2 ?_
  go_wp2_with (first
    | (go_at_call 26; refine (HR0.out _ hf8).mono ?_; rintro r w1 ⟨rfl, f1⟩)
    | (go_at_call 24; refine (HR1.out _ (fr.step hf8 f1)).mono ?_; rintro r w2 ⟨v2, rfl, hv2, f2⟩; have h8 := boxedFr (boxedFr b8 f1) f2; have c8 := h8.cell; have z8 := h8.frozen; have HB8 := Lib.hid h8; have HF2 := Lib.hid (fr.step (fr.step hf8 f1) f2); clear hv2 h8 f2 b8 hf8))
  have h9 := (HB8.out.set (.int .i64 e)).cell
  have f := HF2.out
  exact ⟨.int .i64 e, by simp [results, Tryz.results9, go_sem, h9], rfl, f.os, f.tape, f.output, by have := f.size; simp [World.setCell]; omega, fun i hi => (Below.heap_setCell w2 ⟨w.heap.size, 0, none⟩ _ i (by show ¬ i = w.heap.size; omega)).trans (f.block i hi)⟩
end Go.Proofs.YtiffgjodbcploaaGreat
end
section
namespace Go.Proofs.YtiffgjodbcploaaGreat
set_option maxRecDepth 100000
open Go.RowKit Go.BigFrame Go.Shelf
theorem calmN_ready (x : Nm) : readyE calm0 [x] = if nameB x = true then 22 else 23 := by
  unfold readyE calm0
  rcases h : nameB x with _ | _
  · simp [h]
  · simp [h, findP]
theorem calmN_appendK {x : Nm} (hx : nameB x = true) (b : List UInt8) : appendE calm0 x b = 0 ∧ appendK calm0 x b = ⟨[⟨x, b, 0⟩], -1, -1, [], 1, wrap64 b.length, false⟩ := by
  have hr : readyE calm0 [x] = 22 := by rw [calmN_ready, if_pos hx]
  have h1 : crashes calm0 = false := by decide
  have h2 : fullP calm0 b.length = false := rfl
  have h3 : appFs x b calm0.fs = [⟨x, b, 0⟩] := by simp [appFs, calm0, findP, insP, updP]
  refine ⟨?_, ?_⟩
  · unfold appendE
    rw [if_pos (.inr hr), h2]
    rfl
  · unfold appendK
    have h4 : changeK calm0 = ⟨[], -1, -1, [], 1, 0, false⟩ := rfl
    rw [if_pos (.inr hr), h2, h1, h3, h4]
    simp [calm0]
theorem calmN_ready1 {x : Nm} (hx : nameB x = true) (b : List UInt8) (s : Int) (d : Int) (y : Int) : readyE ⟨[⟨x, b, s⟩], -1, -1, [], d, y, false⟩ [x] = 0 := by
  unfold readyE
  simp [hx, findP]
theorem calmN_sync {x : Nm} (hx : nameB x = true) (b : List UInt8) : syncE (appendK calm0 x b) x = 0 ∧ syncK (appendK calm0 x b) x = calm1 x b := by
  rw [(calmN_appendK hx b).2]
  have h1 := calmN_ready1 hx b 0 1 (wrap64 b.length)
  have h2 : crashes ⟨[⟨x, b, 0⟩], -1, -1, [], 1, wrap64 b.length, false⟩ = false := rfl
  refine ⟨?_, ?_⟩
  · unfold syncE
    rw [if_pos h1]
    rfl
  · unfold syncK
    rw [if_pos h1, h2]
    simp [updK, changeK, crashes, updP, calm1]
theorem calmN_readyD {x : Nm} (hx : nameB x = true) (b : List UInt8) : readyE (calm1 x b) [x] = 0 := calmN_ready1 hx b _ _ _
theorem calmN_read (x : Nm) (b : List UInt8) : readD (calm1 x b) x = b := by
  unfold readD calm1
  simp [findP]
theorem write_calmN (F : Nat → Prop) (p : Nat) (x : Nm) (S0 : Nat → Prop) (g o N c size : Nat) (es : List Ent) (w : World) (hx : nameB x = true) (hxl : x.length ≤ 140737488355328) (h : DiskP w F p calm0) (hv : Ents w S0 (.slice (some ⟨g, o, none⟩) N c) es) (hN : es.length = N) (hS0 : ∀ i, S0 i → i < w.heap.size) (hsz : 1 ≤ size ∧ size ≤ 1024) (hord : orderedE es = true) (hN0 : 0 < N) (hN2 : N ≤ 16777216) (hB2 : bytesE es ≤ 16777216) :
    Calls Tryz.prog 9 #[.pointer (some ⟨p, 0, none⟩), .string ⟨x.toArray⟩, .slice (some ⟨g, o, none⟩) N c, .int .i64 size] w fun r w' => ∃ ps, PartsOk es ps ∧ r = .returned (.int .i64 0) ∧ DiskP w' (orNew F w.heap.size) p (calm1 x (sealF (fileF N ps))) ∧ Only F w w' := by
  refine (write_ok F p calm0 x S0 g o N c size es w h hv hN hS0 hxl hsz hord ((ordered_iff es).1 hord).1 hN0 hN2 hB2 (by rw [calmN_ready, if_pos hx]) (by decide) (by decide) (by decide)).mono ?_
  rintro r w' ⟨ps, hps, rfl, h', ho⟩
  obtain ⟨s1, s2⟩ := calmN_sync hx (sealF (fileF N ps))
  rw [(calmN_appendK hx _).1, if_pos rfl, s1]
  rw [(calmN_appendK hx _).1, if_pos rfl, s2] at h'
  exact ⟨ps, hps, rfl, h', ho⟩
end Go.Proofs.YtiffgjodbcploaaGreat
end
section
namespace Go.Proofs.YtiffgjodbcploaaGreat
set_option maxRecDepth 100000
open Go.RowKit
def invT (t : Nat) : Option Nat := (List.range 256).find? fun i => crcTab i >>> 24 == t
set_option maxRecDepth 1000000 in
theorem invT_all : ((List.range 256).all fun i => invT (crcTab i >>> 24) == some i) = true := by decide +kernel
theorem tab_inj {i j : Nat} (hi : i < 256) (hj : j < 256) (h : crcTab i >>> 24 = crcTab j >>> 24) : i = j := by
  have h1 := List.all_eq_true.1 invT_all i (List.mem_range.2 hi)
  have h2 := List.all_eq_true.1 invT_all j (List.mem_range.2 hj)
  simp only [beq_iff_eq] at h1 h2
  rw [h, h2] at h1
  injection h1 with h1
  exact h1.symm
theorem xor_cancel {a b c : Nat} (h : a ^^^ b = a ^^^ c) : b = c := by
  have h1 := congrArg (a ^^^ ·) h
  simp only [← Nat.xor_assoc, Nat.xor_self, Nat.zero_xor] at h1
  exact h1
theorem xor_cancelR {a b c : Nat} (h : b ^^^ a = c ^^^ a) : b = c := by
  rw [Nat.xor_comm b, Nat.xor_comm c] at h
  exact xor_cancel h
theorem step_top {c : Nat} (hc : c < 4294967296) (x : UInt8) : crcStep c x >>> 24 = crcTab ((c % 256) ^^^ x.toNat) >>> 24 := by
  unfold crcStep
  rw [Nat.shiftRight_xor_distrib, ← Nat.shiftRight_add, show c >>> (8 + 24) = 0 by rw [Nat.shiftRight_eq_div_pow]; omega, Nat.xor_zero]
theorem idx_lt (c : Nat) (x : UInt8) : (c % 256) ^^^ x.toNat < 256 := Nat.xor_lt_two_pow (n := 8) (by omega) x.toNat_lt
theorem step_byte {c : Nat} {x y : UInt8} (hc : c < 4294967296) (h : crcStep c x = crcStep c y) : x = y := by
  have h1 := congrArg (· >>> 24) h
  simp only [step_top hc] at h1
  have h2 := xor_cancel (tab_inj (idx_lt c x) (idx_lt c y) h1)
  exact UInt8.toNat_inj.1 h2
theorem step_left {c d : Nat} {x : UInt8} (hc : c < 4294967296) (hd : d < 4294967296) (h : crcStep c x = crcStep d x) : c = d := by
  have h1 := congrArg (· >>> 24) h
  simp only [step_top hc, step_top hd] at h1
  have h2 := tab_inj (idx_lt c x) (idx_lt d x) h1
  have h3 : c % 256 = d % 256 := xor_cancelR h2
  unfold crcStep at h
  rw [h2] at h
  have h4 := xor_cancel h
  rw [Nat.shiftRight_eq_div_pow, Nat.shiftRight_eq_div_pow] at h4
  omega
theorem go_left {c d : Nat} : ∀ (bs : List UInt8), c < 4294967296 → d < 4294967296 → crcGo c bs = crcGo d bs → c = d := fun bs => by
  induction bs generalizing c d with
  | nil => exact fun _ _ h => h
  | cons x l ih =>
    intro hc hd h
    exact step_left hc hd (ih (crcGo_lt (bs := [x]) hc) (crcGo_lt (bs := [x]) hd) h)
theorem sum_turn {a b : List UInt8} {x y : UInt8} (h : sumN (a ++ x :: b) = sumN (a ++ y :: b)) : x = y := by
  unfold sumN at h
  have h1 := xor_cancel h
  unfold crcGo at h1
  rw [List.foldl_append, List.foldl_append, List.foldl_cons, List.foldl_cons] at h1
  have hc : crcGo 4294967295 a < 4294967296 := crcGo_lt (by decide) a
  exact step_byte hc (go_left b (crcGo_lt (bs := [x]) hc) (crcGo_lt (bs := [y]) hc) h1)
theorem leN_inj {k a b : Nat} (ha : a < 2 ^ (8 * k)) (hb : b < 2 ^ (8 * k)) (h : leN k a = leN k b) : a = b := by
  induction k generalizing a b with
  | zero => simp at ha hb; omega
  | succ k ih =>
    have e : ∀ n, leN (k + 1) n = UInt8.ofNat n :: leN k (n / 256) := fun n => by
      unfold leN
      rw [List.range_succ_eq_map, List.map_cons, List.map_map]
      congr 1
      · simp
      · refine List.map_congr_left fun i _ => ?_
        simp only [Function.comp_apply, Nat.succ_eq_add_one]
        rw [Nat.div_div_eq_div_mul, show (256 : Nat) = 2 ^ 8 from rfl, ← Nat.pow_add, show 8 * (i + 1) = 8 + 8 * i by omega]
    rw [e, e] at h
    injection h with h1 h2
    have hp : 2 ^ (8 * (k + 1)) = 256 * 2 ^ (8 * k) := by rw [show 8 * (k + 1) = 8 + 8 * k by omega, Nat.pow_add]
    rw [hp] at ha hb
    have h3 := ih (a := a / 256) (b := b / 256) (by omega) (by omega) h2
    have h4 := congrArg UInt8.toNat h1
    simp only [UInt8.toNat_ofNat'] at h4
    omega
/-- bytes that no table opens. -/
def Bad (fb : List UInt8) : Prop := fb.length < 12 ∨ sealF (fb.drop 12) ≠ fb
theorem take_seal (b : List UInt8) : (sealF b).take 8 = leN 8 (b.length + 12) := by
  unfold sealF
  rw [List.append_assoc, List.take_left' (leN_len 8 _)]
theorem bad_cut {f : List UInt8} {k : Nat} (hl : f.length ≤ 1099511627776) (hk : k < f.length + 12) : Bad ((sealF f).take k) := by
  have hsl : (sealF f).length = f.length + 12 := by unfold sealF; rw [List.length_append, List.length_append, leN_len, leN_len]; omega
  by_cases h12 : k < 12
  · left
    rw [List.length_take]
    omega
  · right
    intro h
    have h1 := congrArg (List.take 8) h
    rw [take_seal, List.take_take, show min 8 k = 8 by omega, take_seal] at h1
    have h2 : (((sealF f).take k).drop 12).length = k - 12 := by rw [List.length_drop, List.length_take, hsl]; omega
    rw [h2] at h1
    have := leN_inj (k := 8) (by omega) (by omega) h1
    omega
theorem bad_turn {f : List UInt8} {k : Nat} {x y : UInt8} (hl : f.length ≤ 1099511627776) (hx : (sealF f)[k]? = some x) (hne : y ≠ x) : Bad ((sealF f).set k y) := by
  have hsl : (sealF f).length = f.length + 12 := by unfold sealF; rw [List.length_append, List.length_append, leN_len, leN_len]; omega
  have hd : (sealF f).drop 12 = f := by unfold sealF; rw [List.drop_left' (by rw [List.length_append, leN_len, leN_len])]
  have hkl := (List.getElem?_eq_some_iff.1 hx).1
  right
  intro h
  by_cases h12 : k < 12
  · rw [List.drop_set_of_lt h12, hd] at h
    have h1 := congrArg (·[k]?) h
    simp only [hx, List.getElem?_set_self hkl] at h1
    injection h1 with h1
    exact hne h1.symm
  · have e1 : ((sealF f).set k y).drop 12 = f.set (k - 12) y := by rw [List.drop_set, if_neg (by omega), hd]
    rw [e1] at h
    have h1 := congrArg (List.take 12) h
    have e2 : ((sealF f).set k y).take 12 = (sealF f).take 12 := by rw [List.take_set, List.set_eq_of_length_le (by rw [List.length_take]; omega)]
    rw [e2] at h1
    have t12 : ∀ b : List UInt8, (sealF b).take 12 = leN 8 (b.length + 12) ++ leN 4 (sumN b) := fun b => by
      unfold sealF
      rw [List.take_left' (by rw [List.length_append, leN_len, leN_len])]
    rw [t12, t12, List.length_set] at h1
    have h2 := List.append_cancel_left h1
    have h3 := leN_inj (k := 4) (by have := sumN_lt (f.set (k - 12) y); omega) (by have := sumN_lt f; omega) h2
    have hfk : f[k - 12]? = some x := by
      rw [← hd, List.getElem?_drop, show 12 + (k - 12) = k by omega]
      exact hx
    have hlt := (List.getElem?_eq_some_iff.1 hfk).1
    have e3 : f = f.take (k - 12) ++ x :: f.drop (k - 12 + 1) := by
      conv => lhs; rw [← List.take_append_drop (k - 12) f, List.drop_eq_getElem_cons hlt, (List.getElem?_eq_some_iff.1 hfk).2]
    have e4 : f.set (k - 12) y = f.take (k - 12) ++ y :: f.drop (k - 12 + 1) := by
      rw [List.set_eq_take_append_cons_drop, if_pos hlt]
    rw [e4] at h3
    conv at h3 => rhs; rw [e3]
    exact hne (sum_turn h3)
end Go.Proofs.YtiffgjodbcploaaGreat
end
section
namespace Go.Proofs.YtiffgjodbcploaaGreat
set_option maxRecDepth 100000
open Go.RowKit Go.ChangeShapes Go.WideShapes Go.Deep
theorem cells_u8 : Tryz.prog.cellsOf 5 = 1 := by kernel_rfl
theorem cells_bs : Tryz.prog.cellsOf 42 = 1 := by kernel_rfl
theorem cells_i : Tryz.prog.cellsOf 3 = 1 := by kernel_rfl
theorem cells_b : Tryz.prog.cellsOf 4 = 1 := by kernel_rfl
theorem cells_e : Tryz.prog.cellsOf 48 = 4 := by kernel_rfl
theorem cells_es : Tryz.prog.cellsOf 22 = 1 := by kernel_rfl
theorem bytes_u8 : Tryz.prog.bytesOf 5 = 1 := by kernel_rfl
theorem bytes_e : Tryz.prog.bytesOf 48 = 64 := by kernel_rfl
theorem bytes_es : Tryz.prog.bytesOf 22 = 24 := by kernel_rfl
theorem cell_spot {w : World} {a : Addr} {v : Value} (h : w.cell? a = some v) : a = ⟨a.block, a.off, none⟩ := by
  obtain ⟨b, o, s⟩ := a
  cases s with
  | none => rfl
  | some s =>
    unfold World.cell? at h
    split at h <;> simp at h
theorem add_block (a : Addr) (n : Nat) : (a.add n).block = a.block := by unfold Addr.add; split <;> rfl
theorem add_off (a : Addr) (n : Nat) : (a.add n).off = a.off + n := by
  unfold Addr.add
  split
  · rename_i h; rw [h]; rfl
  · rfl
theorem weightsAll_mem {H : Type} {P : Program} {e : TypeId} : ∀ {l : List (DataW H)} {d : DataW H}, d ∈ l → ∀ n ∈ d.weights P e, n ∈ DataW.weightsAll P e l
  | d' :: r, d, hd, n, hn => by
    simp only [DataW.weightsAll, List.mem_append]
    rcases List.mem_cons.1 hd with rfl | h
    · exact Or.inl hn
    · exact Or.inr (weightsAll_mem h n hn)
section
variable {H : Type} {enc : TypeId × Value → H} {w : World} {base : Nat} {held : Bool} {spare : Nat → Bool}
set_option maxRecDepth 10000 in
theorem open_byt {fuel : Nat} {v : Value} {x : DataW H × List MemPlace} (h : DataW.trod enc Tryz.prog w base spare held fuel 42 [v] = some x) (hw : ∀ n ∈ x.1.weights Tryz.prog 42, n ≤ reachBytes) :
    ∃ bs, Byt w (fun _ => True) v bs := by
  rcases open_ints Tryz.underlying42 Tryz.underlying5 cells_u8 h with ⟨hv, _⟩ | ⟨a, len, cap, zs, hv, _, hl, hm, hz, hx, hc, hwf⟩
  · obtain rfl : v = .slice none 0 0 := by simpa using hv
    exact ⟨[], Byt.nil _ _⟩
  · obtain rfl : v = .slice (some a) len cap := by simpa using hv
    have hlen : len ≤ zs.length := by rw [hz]; split <;> omega
    subst hx
    have hr := hw _ (by simp only [DataW.weights, Tryz.underlying42]; exact List.mem_cons_self)
    rw [bytes_u8] at hr
    simp only [lits, List.length_map, List.length_take, List.length_drop, reachBytes] at hr
    have e1 : ((zs.take len).map fun z => UInt8.ofNat z.toNat).length = len := by simp; omega
    unfold maxLen at hm
    refine ⟨(zs.take len).map fun z => UInt8.ofNat z.toNat, some a, cap, by rw [e1], by omega, by omega, by omega, ?_⟩
    rw [e1]
    refine ⟨by simp; omega, fun h0 => ?_⟩
    have hs := hc 0 (by omega)
    have hsp : a = ⟨a.block, a.off, none⟩ := cell_spot (a := a) (by simpa [Addr.add] using hs)
    refine ⟨a.block, a.off, by rw [← hsp], trivial, ?_, fun j u hu => ?_⟩
    · have := World.block_lt_of_cell? w _ hs
      simpa [Addr.add] using this
    · rw [List.getElem?_map, List.getElem?_map, List.getElem?_take] at hu
      split at hu
      · rename_i hj
        have hcj := hc j (by omega)
        rw [hsp, Addr.add_lit] at hcj
        rw [hcj]
        obtain ⟨z, hzj⟩ : ∃ z, zs[j]? = some z := ⟨_, List.getElem?_eq_getElem (by omega)⟩
        have hb := bounds_u8 (hwf z (List.mem_of_getElem? hzj))
        rw [hzj] at hu
        simp only [Option.map_some, Option.some.injEq] at hu
        rw [← hu, List.getD_eq_getElem?_getD, hzj]
        unfold bcell
        simp
        omega
      · simp at hu
set_option maxRecDepth 10000 in
theorem open_ent {fuel : Nat} {cs : List Value} {x : DataW H × List MemPlace} (h : DataW.trod enc Tryz.prog w base spare held fuel 48 cs = some x) (hw : ∀ n ∈ x.1.weights Tryz.prog 48, n ≤ reachBytes) :
    ∃ e : Ent, EntCells w (fun _ => True) cs [e] := by
  obtain ⟨y0, y1, y2, y3, n, rfl, hl, h0, h1, h2, h3⟩ := Joins.trod_struct4 Tryz.underlying48 h
  rw [cells_e] at hl
  match cs, hl with
  | [c0, c1, c2, c3], _ =>
    simp only [cells_bs, cells_i, cells_b, List.drop_zero, List.drop_succ_cons, List.take_succ_cons, List.take_zero] at h0 h1 h2 h3
    simp only [DataW.weights, Tryz.underlying48, List.map_cons, List.map_nil, DataW.weightsEach, List.append_nil, List.mem_append] at hw
    obtain ⟨k, hk⟩ := open_byt h0 (fun n hn => hw n (.inl hn))
    obtain ⟨u, hu⟩ := open_byt h3 (fun n hn => hw n (.inr (.inr (.inr hn))))
    obtain ⟨s, hs, _, _⟩ := DataW.trod_int Tryz.underlying3 h1
    obtain ⟨d, hd, _⟩ := DataW.trod_bool Tryz.underlying4 h2
    exact ⟨⟨k, s, d, u⟩, by simpa using hs, by simpa using hd, hk, hu, trivial⟩
def entsLen : DataW H → Nat
  | .slice elems _ => elems.length
  | _ => 0
def listsLen : DataW H → Nat
  | .slice elems _ => (elems.map entsLen).sum
  | _ => 0
set_option maxRecDepth 10000 in
theorem open_entries {fuel : Nat} {v : Value} {x : DataW H × List MemPlace} (h : DataW.trod enc Tryz.prog w base spare held fuel 22 [v] = some x) (hw : ∀ n ∈ x.1.weights Tryz.prog 22, n ≤ reachBytes) :
    ∃ es, Ents w (fun _ => True) v es ∧ es.length = entsLen x.1 := by
  rcases open_slice Tryz.underlying22 h with ⟨hv, hx⟩ | ⟨a, len, cap, m, n, D, Pl, hv, _, hl, hm, hmm, hx, hc⟩
  · obtain rfl : v = .slice none 0 0 := by simpa using hv
    exact ⟨[], Ents.nil _ _, by rw [hx]; rfl⟩
  · obtain rfl : v = .slice (some a) len cap := by simpa using hv
    have hlm : len ≤ m := by rw [hmm]; split <;> omega
    subst hx
    simp only [DataW.weights, Tryz.underlying22, List.mem_cons, List.mem_append] at hw
    have hr := hw _ (.inl rfl)
    rw [bytes_e] at hr
    simp only [List.length_map, List.length_range, reachBytes] at hr
    unfold maxLen at hm
    rw [cells_e] at hc
    have key : ∀ k, k ≤ len → ∃ (cs : List Value) (es : List Ent), es.length = k ∧ EntCells w (fun _ => True) cs es ∧ ∀ j u, cs[j]? = some u → w.cell? (a.add j) = some u := by
      intro k
      induction k with
      | zero => exact fun _ => ⟨[], [], rfl, trivial, fun j u hu => by simp at hu⟩
      | succ k ih =>
        intro hk
        obtain ⟨cs, es, hel, hce, hcc⟩ := ih (by omega)
        obtain ⟨cs', h1, h2⟩ := hc k (by omega)
        obtain ⟨e, he⟩ := open_ent h2 (fun n hn => hw n (.inr (.inl (weightsAll_mem (List.mem_map.2 ⟨k, List.mem_range.2 (by omega), rfl⟩) n hn))))
        obtain ⟨_, hl4, h4⟩ := World.cells?_some h1
        have hcl := hce.len
        refine ⟨cs ++ cs', es ++ [e], by simp [hel], hce.append he, fun j u hu => ?_⟩
        rw [List.getElem?_append] at hu
        split at hu
        · exact hcc j u hu
        · have hj : j - cs.length < 4 := by rw [← hl4]; exact (List.getElem?_eq_some_iff.1 hu).1
          have h5 := h4 _ hj
          rw [hu] at h5
          have h6 := h4 0 (by omega)
          have hsp : a.add (k * 4) = ⟨a.block, a.off + k * 4, none⟩ := by
            have h7 := cell_spot (w := w) (a := (a.add (k * 4))) (v := cs'[0]) (by
              rw [show (a.add (k * 4)).add 0 = a.add (k * 4) by simp [Addr.add]] at h6
              rw [h6, List.getElem?_eq_getElem (by omega)])
            rw [h7, add_block, add_off]
          rw [hsp, Addr.add_lit] at h5
          unfold Addr.add
          by_cases hj0 : j = 0
          · rw [if_pos hj0]
            subst hj0
            have hk0 : k = 0 := by omega
            subst hk0
            have : a = ⟨a.block, a.off, none⟩ := by simpa [Addr.add] using hsp
            rw [this]
            simpa using h5
          · rw [if_neg hj0, ← h5]
            congr 2
            omega
    obtain ⟨cs, es, hel, hce, hcc⟩ := key len (Nat.le_refl _)
    have hcl := hce.len
    refine ⟨es, ⟨some a, cap, cs, by rw [hel], by omega, by omega, by omega, ?_, hce⟩, by simp [entsLen, hel]⟩
    rw [hel]
    refine ⟨by omega, fun h0 => ?_⟩
    obtain ⟨u0, hu0⟩ : ∃ u, cs[0]? = some u := ⟨_, List.getElem?_eq_getElem (by omega)⟩
    have hs := hcc 0 u0 hu0
    have hsp : a = ⟨a.block, a.off, none⟩ := cell_spot (a := a) (by simpa [Addr.add] using hs)
    refine ⟨a.block, a.off, by rw [← hsp], trivial, ?_, fun j u hu => ?_⟩
    · have := World.block_lt_of_cell? w _ hs
      simpa [Addr.add] using this
    · have := hcc j u hu
      rwa [hsp, Addr.add_lit] at this
set_option maxRecDepth 10000 in
/-- an argument that is a slice: its reading at its own value. -/
theorem arg_slice {r : Reach} {b0 : Nat} {t e : TypeId} {v : Value} {d : DataW H} {ps : List MemPlace} (ht : Tryz.prog.underlying t = some (.slice e)) (hval : Value.okWide Tryz.prog w r b0 t v) (hd : DataW.Trod enc Tryz.prog w base spare held t v d ps) :
    ∃ fuel, DataW.trod enc Tryz.prog w base spare held fuel t [v] = some (d, ps) := by
  obtain ⟨a, l, c, rfl⟩ := okWide_slice ht hval
  obtain ⟨n, hn⟩ := hd
  exact ⟨n, hn⟩
set_option maxRecDepth 10000 in
theorem arg_entries {r : Reach} {b0 : Nat} {v : Value} {d : DataW H} {ps : List MemPlace} (hval : Value.okWide Tryz.prog w r b0 22 v) (hd : DataW.Trod enc Tryz.prog w base spare held 22 v d ps) (hw : ∀ n ∈ d.weights Tryz.prog 22, n ≤ reachBytes) :
    ∃ es, Ents w (fun _ => True) v es := by
  obtain ⟨n, hn⟩ := arg_slice Tryz.underlying22 hval hd
  obtain ⟨es, he, _⟩ := open_entries hn hw
  exact ⟨es, he⟩
set_option maxRecDepth 10000 in
theorem arg_bytes {r : Reach} {b0 : Nat} {v : Value} {d : DataW H} {ps : List MemPlace} (hval : Value.okWide Tryz.prog w r b0 42 v) (hd : DataW.Trod enc Tryz.prog w base spare held 42 v d ps) (hw : ∀ n ∈ d.weights Tryz.prog 42, n ≤ reachBytes) :
    ∃ bs, Byt w (fun _ => True) v bs := by
  obtain ⟨n, hn⟩ := arg_slice Tryz.underlying42 hval hd
  exact open_byt hn hw
end
end Go.Proofs.YtiffgjodbcploaaGreat
end
section
namespace Go.Proofs.YtiffgjodbcploaaGreat
set_option maxRecDepth 100000
open Go.RowKit Go.ChangeShapes Go.WideShapes Go.Deep
theorem cells_is : Tryz.prog.cellsOf 26 = 1 := by kernel_rfl
theorem cells_pl : Tryz.prog.cellsOf 28 = 3 := by kernel_rfl
theorem cells_two : Tryz.prog.cellsOf 50 = 2 := by kernel_rfl
theorem bytes_i : Tryz.prog.bytesOf 3 = 8 := by kernel_rfl
/-- a pair of numbers. -/
def TwoV (v : Value) (a : Int × Int) : Prop := v = .agg #[.int .i64 a.1, .int .i64 a.2]
section
variable {H : Type} {enc : TypeId × Value → H} {w : World} {base : Nat} {held : Bool} {spare : Nat → Bool}
set_option maxRecDepth 100000 in
theorem open_str {fuel : Nat} {v : Value} {x : DataW H × List MemPlace} (h : DataW.trod enc Tryz.prog w base spare held fuel 9 [v] = some x) (hw : ∀ n ∈ x.1.weights Tryz.prog 9, n ≤ reachBytes) :
    ∃ s : List UInt8, v = .string ⟨s.toArray⟩ ∧ s.length ≤ 140737488355328 := by
  obtain ⟨s, hs, rfl, _⟩ := DataW.trod_string Tryz.underlying9 h
  obtain rfl : v = .string s := by simpa using hs
  have := hw s.data.toList.length (by simp [DataW.weights])
  exact ⟨s.data.toList, rfl, by unfold reachBytes at this; omega⟩
set_option maxRecDepth 100000 in
theorem arg_string {r : Reach} {b0 : Nat} {v : Value} {d : DataW H} {ps : List MemPlace} (hval : Value.okWide Tryz.prog w r b0 9 v) (hd : DataW.Trod enc Tryz.prog w base spare held 9 v d ps) (hw : ∀ n ∈ d.weights Tryz.prog 9, n ≤ reachBytes) :
    ∃ s : List UInt8, v = .string ⟨s.toArray⟩ ∧ s.length ≤ 140737488355328 := by
  obtain ⟨n, hn⟩ := hd
  have hv : ∃ s, v = .string s := by
    unfold Value.okWide at hval
    rw [Tryz.underlying9] at hval
    cases v <;> simp_all [Cell.okWide, Cell.ok, Tryz.underlying9]
  obtain ⟨s, rfl⟩ := hv
  exact open_str hn hw
set_option maxRecDepth 100000 in
theorem open_zs {fuel : Nat} {v : Value} {d : DataW H} {ps : List MemPlace} (h : DataW.trod enc Tryz.prog w base spare held fuel 26 [v] = some (d, ps)) (hw : ∀ n ∈ d.weights Tryz.prog 26, n ≤ reachBytes) :
    ∃ zs, IntsIn w (fun _ => True) v zs ∧ zs.length * 8 ≤ 140737488355328 ∧ ∀ z ∈ zs, (Lit.int .i64 z).wf = true := by
  rcases open_ints Tryz.underlying26 Tryz.underlying3 cells_i h with ⟨hv, _⟩ | ⟨a, len, cap, zs, hv, _, hl, hm, hz, hx, hc, hwf⟩
  · obtain rfl : v = .slice none 0 0 := by simpa using hv
    exact ⟨[], IntsIn.nil _ _, by simp, fun z hz => by cases hz⟩
  · obtain rfl : v = .slice (some a) len cap := by simpa using hv
    have hlen : len ≤ zs.length := by rw [hz]; split <;> omega
    simp only [Prod.mk.injEq] at hx
    obtain ⟨hx, _⟩ := hx
    subst hx
    have hr := hw _ (by simp only [DataW.weights, Tryz.underlying26]; exact List.mem_cons_self)
    rw [bytes_i] at hr
    simp only [lits, List.length_map, List.length_take, List.length_drop, reachBytes] at hr
    have e1 : (zs.take len).length = len := by simp; omega
    unfold maxLen at hm
    refine ⟨zs.take len, ⟨some a, cap, by rw [e1], by omega, by omega, ?_⟩, by omega, fun z hz => hwf z (List.mem_of_mem_take hz)⟩
    rw [e1]
    refine ⟨by simp; omega, fun h0 => ?_⟩
    have hs := hc 0 (by omega)
    have hsp : a = ⟨a.block, a.off, none⟩ := cell_spot (a := a) (by simpa [Addr.add] using hs)
    refine ⟨a.block, a.off, by rw [← hsp], trivial, ?_, fun j u hu => ?_⟩
    · have := World.block_lt_of_cell? w _ hs
      simpa [Addr.add] using this
    · rw [List.getElem?_map, List.getElem?_take] at hu
      split at hu
      · rename_i hj
        have hcj := hc j (by omega)
        rw [hsp, Addr.add_lit] at hcj
        rw [hcj]
        obtain ⟨z, hzj⟩ : ∃ z, zs[j]? = some z := ⟨_, List.getElem?_eq_getElem (by omega)⟩
        rw [hzj] at hu
        simp only [Option.map_some, Option.some.injEq] at hu
        rw [← hu, List.getD_eq_getElem?_getD, hzj]
        rfl
      · simp at hu
set_option maxRecDepth 100000 in
theorem open_pl (fuel : Nat) (cs : List Value) (x : DataW H × List MemPlace) (h : DataW.trod enc Tryz.prog w base spare held fuel 28 cs = some x) (hw : ∀ n ∈ x.1.weights Tryz.prog 28, n ≤ reachBytes) :
    ∃ (ops room : Int) (zs : List Int) (kv : Value), cs = [.int .i64 ops, .int .i64 room, kv] ∧ IntsIn w (fun _ => True) kv zs ∧ zs.length * 8 ≤ 140737488355328 ∧ (Lit.int .i64 ops).wf = true ∧ (Lit.int .i64 room).wf = true ∧ ∀ z ∈ zs, (Lit.int .i64 z).wf = true := by
  obtain ⟨y0, y1, y2, n, rfl, hl, h0, h1, h2⟩ := trod_struct3 Tryz.underlying28 h
  rw [cells_pl] at hl
  match cs, hl with
  | [c0, c1, c2], _ =>
    simp only [cells_is, cells_i, List.drop_zero, List.drop_succ_cons, List.take_succ_cons, List.take_zero] at h0 h1 h2
    simp only [DataW.weights, Tryz.underlying28, List.map_cons, List.map_nil, DataW.weightsEach, List.append_nil, List.mem_append] at hw
    obtain ⟨a, ha, _, wa⟩ := DataW.trod_int Tryz.underlying3 h0
    obtain ⟨b, hb, _, wb⟩ := DataW.trod_int Tryz.underlying3 h1
    obtain ⟨zs, hz, hz8, wz⟩ := open_zs h2 (fun n hn => hw n (.inr (.inr hn)))
    obtain rfl : c0 = .int .i64 a := by simpa using ha
    obtain rfl : c1 = .int .i64 b := by simpa using hb
    exact ⟨a, b, zs, _, rfl, hz, hz8, wa, wb, wz⟩
/-- a plan as an argument. -/
def PlanV (w : World) (S : Nat → Prop) (v : Value) (a : Int × Int × List Int) : Prop := ∃ kv, v = .agg #[.int .i64 a.1, .int .i64 a.2.1, kv] ∧ IntsIn w S kv a.2.2 ∧ a.2.2.length * 8 ≤ 140737488355328 ∧ (Lit.int .i64 a.1).wf = true ∧ (Lit.int .i64 a.2.1).wf = true ∧ ∀ z ∈ a.2.2, (Lit.int .i64 z).wf = true
set_option maxRecDepth 100000 in
theorem arg_plan {r : Reach} {b0 : Nat} {v : Value} {d : DataW H} {ps : List MemPlace} (hval : Value.okWide Tryz.prog w r b0 28 v) (hd : DataW.Trod enc Tryz.prog w base spare held 28 v d ps) (hw : ∀ n ∈ d.weights Tryz.prog 28, n ≤ reachBytes) :
    ∃ a, PlanV w (fun _ => True) v a := by
  obtain ⟨n, hn⟩ := hd
  have hv : ∃ cs, v = .agg cs := by
    unfold Value.okWide at hval
    rw [Tryz.underlying28] at hval
    obtain ⟨cs, e, _⟩ := hval
    exact ⟨cs, e⟩
  obtain ⟨cs, rfl⟩ := hv
  obtain ⟨ops, room, zs, kv, he, hk, hk8, wo, wr, wk⟩ := open_pl _ _ _ hn hw
  have he' : cs.toList = [.int .i64 ops, .int .i64 room, kv] := he
  obtain rfl : cs = #[.int .i64 ops, .int .i64 room, kv] := by cases cs; simp_all
  exact ⟨(ops, room, zs), kv, rfl, hk, hk8, wo, wr, wk⟩
theorem arg_two {b0 : Nat} {v : Value} {d : DataW H} {ps : List MemPlace} (hval : Value.okWide Tryz.prog w .any b0 50 v) (hd : DataW.Trod enc Tryz.prog w base spare held 50 v d ps) : ∃ a, TwoV v a := by
  unfold Value.okWide at hval
  rw [Tryz.underlying50] at hval
  obtain ⟨cs, rfl, hsz, _⟩ := hval
  obtain ⟨c0, c1, rfl⟩ : ∃ c0 c1, cs = #[c0, c1] := by
    have h2 := hsz.trans cells_two
    obtain ⟨l⟩ := cs
    match l, h2 with
    | [a, b], _ => exact ⟨a, b, rfl⟩
  obtain ⟨fuel, hf⟩ := hd
  obtain ⟨xs, m, _, _, _, hl, hx⟩ := DataW.trod_array Tryz.underlying50 hf
  have g0 := hx 0 (by omega)
  have g1 := hx 1 (by omega)
  rw [cells_i] at g0 g1
  rw [List.getElem?_eq_getElem (by omega)] at g0 g1
  obtain ⟨k0, e0, _, _⟩ := DataW.trod_int Tryz.underlying3 g0
  obtain ⟨k1, e1, _, _⟩ := DataW.trod_int Tryz.underlying3 g1
  simp [Value.cells] at e0 e1
  subst e0 e1
  exact ⟨(k0, k1), rfl⟩
end
end Go.Proofs.YtiffgjodbcploaaGreat
end
section
namespace Go.Proofs.YtiffgjodbcploaaGreat
set_option maxRecDepth 100000
open Go.RowKit Go.BigFrame Go.Shelf
attribute [local go_sem ↓] Go.wp_at_zero Go.wp_at_succ
theorem Ents.monoLt {w : World} {S S' : Nat → Prop} {v : Value} {es : List Ent} (h : Ents w S v es) (hS : ∀ i, i < w.heap.size → S i → S' i) : Ents w S' v es := by
  obtain ⟨A, c, cs, e, h1, h2, h3, h4, h5⟩ := h
  exact ⟨A, c, cs, e, h1, h2, h3, ⟨h4.1, fun hn => by obtain ⟨b, o, e, k1, hb, hc⟩ := h4.2 hn; exact ⟨b, o, e, hS b hb k1, hb, hc⟩⟩, h5.imp fun v bs h => h.monoLt hS⟩
theorem Ents.some_form {w : World} {S : Nat → Prop} {v : Value} {es : List Ent} (h : Ents w S v es) (hp : 0 < es.length) : ∃ g o c, v = .slice (some ⟨g, o, none⟩) es.length c := by
  obtain ⟨A, c, cs, rfl, h1, h2, h3, h4, h5⟩ := h
  obtain ⟨b, o, rfl, _⟩ := h4.2 hp
  exact ⟨b, o, c, rfl⟩
theorem Ents.form {w : World} {S : Nat → Prop} {v : Value} {es : List Ent} (h : Ents w S v es) : ∃ A c, v = .slice A es.length c := by
  obtain ⟨A, c, cs, rfl, _⟩ := h
  exact ⟨A, c, rfl⟩
set_option maxRecDepth 100000 in
set_option maxHeartbeats 1000000 in
theorem made_any (S : Nat → Prop) (A : Option Addr) (N c size : Nat) (es : List Ent) (w : World) (hv : Ents w S (.slice A N c) es) (hN : es.length = N) (hsz : 1 ≤ size ∧ size ≤ 1024) (hord : orderedE es = true) (hN0 : 0 < N) (hN2 : N ≤ 16777216) (hB2 : bytesE es ≤ 16777216) :
    Calls Tryz.prog 19 #[.slice A N c, .int .i64 size] w fun r w' => ∃ Tb p ps, r = .returned (.tuple #[.pointer (some ⟨Tb, 0, none⟩), .pointer (some ⟨p, 0, none⟩)]) ∧ PartsOk es ps ∧ 0 < ps.length ∧ TabS w' (fun i => w.heap.size ≤ i ∧ i < w'.heap.size) Tb N es ps ∧
      (∃ F, DiskP w' F p (calm1 [116] (sealF (fileF N ps))) ∧ ∀ i, F i → w.heap.size ≤ i) ∧ fr w w' := by
  have HV := Lib.hid hv
  have HN := Lib.hid hN
  have HORD := Lib.hid hord
  clear hv hN hord
  go_enter Tryz.func19, Tryz.ntmps19
  go_wp2_with (fail)
  refine (calm_any _).mono ?_
  rintro r w0 ⟨rfl, f0⟩
  have HF0 := Lib.hid f0
  clear f0
  go_wp2_with (fail)
  refine (new_dk (fun _ => True) (-1) (-1) _ [] w0 (IntsIn.nil _ _) (by simp) w.heap.size HF0.out.size).mono ?_
  rintro r w1 ⟨p, rfl, h1, hb1⟩
  obtain ⟨F, h1, hF⟩ := h1
  have H1 := Lib.hid (h1 : DiskP w1 F p calm0)
  have HFF := Lib.hid hF
  have HB1 := Lib.hid (HF0.out.trans (hb1.mono HF0.out.size))
  clear h1 hb1 hF
  go_wp2_with (fail)
  refine (copy_any S _ es w1 (HV.out.below HB1.out)).mono ?_
  rintro r w2 ⟨v2, rfl, hv2, hb2⟩
  obtain ⟨g, o, c2, rfl⟩ := hv2.some_form (by rw [HN.out]; exact hN0)
  rw [HN.out] at hv2 ⊢
  have HV2 := Lib.hid (hv2.monoLt (S' := fun i => w1.heap.size ≤ i ∧ i < w2.heap.size) fun i hi h => ⟨h, hi⟩)
  have HB2 := Lib.hid (HB1.out.trans (hb2.mono HB1.out.size))
  have H2 := Lib.hid (H1.out.below hb2)
  clear hv2 hb2
  go_wp2_with (fail)
  refine (write_calm F p _ g o N c2 size es w2 H2.out HV2.out HN.out (fun i h => h.2) hsz HORD.out hN0 hN2 hB2).mono ?_
  rintro r w3 ⟨ps, hps, rfl, h3, o3⟩
  have HPS := Lib.hid hps
  have H3 := Lib.hid h3
  have hb3 : Below w.heap.size w w3 := HB2.out.trans (o3.below HB2.out.size fun i hi => (HFF.out i hi).1)
  have HB3 := Lib.hid hb3
  clear hps h3 o3 hb3
  go_wp2_with (fail)
  refine (open_ok _ p _ [116] N es ps w3 H3.out (by simp) (calm_ready1 _) (calm_read1 _) HPS.out HN.out hN0 hN2 hB2 HORD.out).mono ?_
  rintro r w4 ⟨Tb, rfl, hT, f4⟩
  have hps0 : 0 < ps.length := by
    rcases Nat.eq_zero_or_pos ps.length with h | h
    · have h1 := HPS.out.all
      rw [List.eq_nil_of_length_eq_zero h] at h1
      simp at h1
      rw [h1] at HN
      have := HN.out
      simp at this
      omega
    · exact h
  have HT := Lib.hid (hT.set hps0)
  have H4 := Lib.hid (H3.out.below f4)
  have HF4 := Lib.hid (HB3.out.trans (Below.mono f4 HB3.out.size))
  have hz := HB3.out.size
  have hz2 := HB2.out.size
  clear hT f4
  go_wp2
  refine bodyPost_ret (v := .tuple #[.pointer (some ⟨Tb, 0, none⟩), .pointer (some ⟨p, 0, none⟩)]) (by simp [results, Tryz.results19, go_sem]) rfl ?_
  refine ⟨Tb, p, ps, rfl, HPS.out, hps0, ?_, ⟨_, H4.out, fun i hi => ?_⟩, HF4.out⟩
  · obtain ⟨b, o, n, c, gp, pc, A, ll, lc, ys, k1, k2, k3, k4, k5, k6, k7, k8⟩ := HT.out
    have hm : ∀ i, w3.heap.size ≤ i ∧ i < w4.heap.size → w.heap.size ≤ i ∧ i < w4.heap.size := fun i h => ⟨by omega, h.2⟩
    exact ⟨b, o, n, c, gp, pc, A, ll, lc, ys, k1, k2, k3.mono hm, k4, fun i p e hp he => by obtain ⟨a1, k, a2, a3⟩ := k5 i p e hp he; exact ⟨a1, k, a2, a3.mono hm⟩, fun e he => (k6 e he).mono hm, hm _ k7, hm _ k8⟩
  · rcases hi with h | h
    · exact (HFF.out i h).1
    · omega
end Go.Proofs.YtiffgjodbcploaaGreat
end
section
namespace Go.Proofs.YtiffgjodbcploaaGreat
set_option maxRecDepth 100000
open Go.RowKit Go.BigFrame Go.Sort Go.Shelf Go.Lib Go.Maps
attribute [local go_sem ↓] Go.wp_at_zero Go.wp_at_succ
def nmB (f : Fl) : Bool := !nameB f.name
def rgB (f : Fl) : Bool := decide (f.synced < 0) || decide ((f.data.length : Int) < f.synced)
theorem flR.cells {w : World} {S : Nat → Prop} {f : Fl} {cs : List Value} (h : flR w S f cs) : ∃ A c, cs = [.string ⟨f.name.toArray⟩, .slice A f.data.length c, .int .i64 f.synced] := by
  obtain ⟨v, rfl, hv, _⟩ := h
  obtain ⟨A, c, rfl⟩ := slice_form hv
  exact ⟨A, c, rfl⟩
set_option maxRecDepth 100000 in
set_option maxHeartbeats 2000000 in
theorem cl1_any (f : Fl) (A : Option Addr) (c : Nat) (w : World) (hl : f.name.length ≤ 140737488355328) :
    Calls Tryz.prog 44 #[.agg #[.string ⟨f.name.toArray⟩, .slice A f.data.length c, .int .i64 f.synced]] w fun r w' => r = .returned (.bool (nmB f)) ∧ Below w.heap.size w w' := by
  have hA : Below w.heap.size w (w.alloc (.cells #[.string ⟨f.name.toArray⟩, .slice A f.data.length c, .int .i64 f.synced] 55)) := (Below.refl _ _).alloc (Nat.le_refl _) _
  have HA := Lib.hid hA
  clear hA
  go_enter Tryz.func44, Tryz.ntmps44
  go_wp2_with (go_at_call 45; refine (named_any f.name _ hl).mono ?_; rintro r w1 ⟨rfl, hb1⟩)
  go_ret
  exact ⟨rfl, HA.out.trans (hb1.mono HA.out.size)⟩
set_option maxRecDepth 100000 in
set_option maxHeartbeats 2000000 in
theorem cl2_any (f : Fl) (A : Option Addr) (c : Nat) (w : World) (_ : f.name.length ≤ 140737488355328) :
    Calls Tryz.prog 46 #[.agg #[.string ⟨f.name.toArray⟩, .slice A f.data.length c, .int .i64 f.synced]] w fun r w' => r = .returned (.bool (rgB f)) ∧ Below w.heap.size w w' := by
  have hA : Below w.heap.size w (w.alloc (.cells #[.string ⟨f.name.toArray⟩, .slice A f.data.length c, .int .i64 f.synced] 55)) := (Below.refl _ _).alloc (Nat.le_refl _) _
  have HA := Lib.hid hA
  clear hA
  cases h : decide (f.synced < 0) with
  | true =>
    go_enter Tryz.func46, Tryz.ntmps46
    go_wp2
    go_ret
    exact ⟨ret_bool (by unfold rgB; rw [h]; rfl), HA.out⟩
  | false =>
    go_enter Tryz.func46, Tryz.ntmps46
    go_wp2
    go_ret
    exact ⟨ret_bool (by unfold rgB; rw [h]; rfl), HA.out⟩
set_option maxRecDepth 100000 in
set_option maxHeartbeats 2000000 in
theorem idx1 (S : Nat → Prop) (v : Value) (fs : List Fl) (w : World) (hv : FilesV w S v fs) :
    Calls Tryz.prog 73 #[v, .func (.func 44) #[] #[]] w fun r w' => ∃ i : Int, r = .returned (.int .i64 i) ∧ (0 ≤ i ↔ fs.any nmB = true) ∧ Below w.heap.size w w' := by
  obtain ⟨A, c, rfl⟩ := hv.form
  obtain ⟨n, hn⟩ : ∃ n, fs.length = n := ⟨_, rfl⟩
  have hmax : n * 48 ≤ 140737488355328 := by obtain ⟨_, _, _, _, _, _, h3, _⟩ := hv; rw [← hn]; exact h3
  rw [hn] at hv ⊢
  have HN := Lib.hid hn
  have HV := Lib.hid hv
  clear hn hv
  go_enter Tryz.func73, Tryz.ntmps73
  go_wp2
  go_loopw [8] (fun t wr => ∃ k : Nat, k ≤ n ∧ t = .int .i64 k ∧ (fs.take k).any nmB = false ∧ Below w.heap.size w wr) (fun t _ => n - (intOf t).toNat)
  case atStart => exact ⟨0, Nat.zero_le _, rfl, rfl, Below.refl _ _⟩
  case round =>
    obtain ⟨k, hk, rfl, hall, hbel⟩ := hrel
    have HA := Lib.hid hall
    have HB := Lib.hid hbel
    clear hall hbel
    by_cases hkn : k < n
    · obtain ⟨f, hf⟩ : ∃ f, fs[k]? = some f := ⟨_, List.getElem?_eq_getElem (by rw [HN.out]; exact hkn)⟩
      obtain ⟨b, o, cs, rfl, _, _, hR, hc⟩ := Rows.at_ flFine (HV.out.below flFine HB.out) hf
      obtain ⟨A', c', rfl⟩ := hR.cells
      have hxl : f.name.length ≤ 140737488355328 := by obtain ⟨_, _, _, h⟩ := hR; exact h
      have c0 : wr.cell? ⟨b, o + k * 3, none⟩ = _ := hc 0 _ rfl
      have c1 : wr.cell? ⟨b, o + k * 3 + 1, none⟩ = _ := hc 1 _ rfl
      have c2 : wr.cell? ⟨b, o + k * 3 + 2, none⟩ = _ := hc 2 _ rfl
      have HX := Lib.hid hf
      clear hf hR hc
      cases hb : nmB f with
      | false =>
        have HNB := Lib.hid hb
        clear hb
        go_wp2_with (go_at_call 44; refine (cl1_any f _ _ _ hxl).mono ?_; rintro r w1 ⟨rfl, hb1⟩; rw [HNB.out])
        refine ⟨⟨k + 1, by omega, by go_num, ?_, HB.out.trans (hb1.mono HB.out.size)⟩, by simp [intOf]; omega⟩
        rw [take_snoc HX.out, List.any_append, HA.out]
        simp [HNB.out]
      | true =>
        have HNB := Lib.hid hb
        clear hb
        go_wp2_with (go_at_call 44; refine (cl1_any f _ _ _ hxl).mono ?_; rintro r w1 ⟨rfl, hb1⟩; rw [HNB.out])
        go_ret
        refine ⟨_, rfl, ⟨fun _ => ?_, fun _ => by omega⟩, HB.out.trans (hb1.mono HB.out.size)⟩
        exact List.any_eq_true.2 ⟨f, List.mem_of_getElem? HX.out, HNB.out⟩
    · obtain rfl : k = n := by omega
      go_wp2
      go_ret
      refine ⟨-1, rfl, ⟨fun h => by omega, fun h => ?_⟩, HB.out⟩
      have := HA.out
      rw [List.take_of_length_le (by rw [HN.out]; exact Nat.le_refl _), h] at this
      cases this
set_option maxHeartbeats 2000000 in
theorem any1 (S : Nat → Prop) (v : Value) (fs : List Fl) (w : World) (hv : FilesV w S v fs) :
    Calls Tryz.prog 43 #[v, .func (.func 44) #[] #[]] w fun r w' => r = .returned (.bool (fs.any nmB)) ∧ Below w.heap.size w w' := by
  have HC := Lib.hid (idx1 S v fs w hv)
  obtain ⟨A, c, rfl⟩ := hv.form
  clear hv
  go_enter Tryz.func43, Tryz.ntmps43
  go_wp2_with (go_at_call 73; refine HC.out.mono ?_; rintro r w1 ⟨i, rfl, hi, hb⟩; have HI := Lib.hid hi; clear hi)
  go_ret
  refine ⟨ret_bool ?_, hb⟩
  rw [Bool.eq_iff_iff, decide_eq_true_iff]
  exact HI.out
set_option maxRecDepth 100000 in
set_option maxHeartbeats 2000000 in
theorem idx2 (S : Nat → Prop) (v : Value) (fs : List Fl) (w : World) (hv : FilesV w S v fs) :
    Calls Tryz.prog 73 #[v, .func (.func 46) #[] #[]] w fun r w' => ∃ i : Int, r = .returned (.int .i64 i) ∧ (0 ≤ i ↔ fs.any rgB = true) ∧ Below w.heap.size w w' := by
  obtain ⟨A, c, rfl⟩ := hv.form
  obtain ⟨n, hn⟩ : ∃ n, fs.length = n := ⟨_, rfl⟩
  have hmax : n * 48 ≤ 140737488355328 := by obtain ⟨_, _, _, _, _, _, h3, _⟩ := hv; rw [← hn]; exact h3
  rw [hn] at hv ⊢
  have HN := Lib.hid hn
  have HV := Lib.hid hv
  clear hn hv
  go_enter Tryz.func73, Tryz.ntmps73
  go_wp2
  go_loopw [8] (fun t wr => ∃ k : Nat, k ≤ n ∧ t = .int .i64 k ∧ (fs.take k).any rgB = false ∧ Below w.heap.size w wr) (fun t _ => n - (intOf t).toNat)
  case atStart => exact ⟨0, Nat.zero_le _, rfl, rfl, Below.refl _ _⟩
  case round =>
    obtain ⟨k, hk, rfl, hall, hbel⟩ := hrel
    have HA := Lib.hid hall
    have HB := Lib.hid hbel
    clear hall hbel
    by_cases hkn : k < n
    · obtain ⟨f, hf⟩ : ∃ f, fs[k]? = some f := ⟨_, List.getElem?_eq_getElem (by rw [HN.out]; exact hkn)⟩
      obtain ⟨b, o, cs, rfl, _, _, hR, hc⟩ := Rows.at_ flFine (HV.out.below flFine HB.out) hf
      obtain ⟨A', c', rfl⟩ := hR.cells
      have hxl : f.name.length ≤ 140737488355328 := by obtain ⟨_, _, _, h⟩ := hR; exact h
      have c0 : wr.cell? ⟨b, o + k * 3, none⟩ = _ := hc 0 _ rfl
      have c1 : wr.cell? ⟨b, o + k * 3 + 1, none⟩ = _ := hc 1 _ rfl
      have c2 : wr.cell? ⟨b, o + k * 3 + 2, none⟩ = _ := hc 2 _ rfl
      have HX := Lib.hid hf
      clear hf hR hc
      cases hb : rgB f with
      | false =>
        have HNB := Lib.hid hb
        clear hb
        go_wp2_with (go_at_call 46; refine (cl2_any f _ _ _ hxl).mono ?_; rintro r w1 ⟨rfl, hb1⟩; rw [HNB.out])
        refine ⟨⟨k + 1, by omega, by go_num, ?_, HB.out.trans (hb1.mono HB.out.size)⟩, by simp [intOf]; omega⟩
        rw [take_snoc HX.out, List.any_append, HA.out]
        simp [HNB.out]
      | true =>
        have HNB := Lib.hid hb
        clear hb
        go_wp2_with (go_at_call 46; refine (cl2_any f _ _ _ hxl).mono ?_; rintro r w1 ⟨rfl, hb1⟩; rw [HNB.out])
        go_ret
        refine ⟨_, rfl, ⟨fun _ => ?_, fun _ => by omega⟩, HB.out.trans (hb1.mono HB.out.size)⟩
        exact List.any_eq_true.2 ⟨f, List.mem_of_getElem? HX.out, HNB.out⟩
    · obtain rfl : k = n := by omega
      go_wp2
      go_ret
      refine ⟨-1, rfl, ⟨fun h => by omega, fun h => ?_⟩, HB.out⟩
      have := HA.out
      rw [List.take_of_length_le (by rw [HN.out]; exact Nat.le_refl _), h] at this
      cases this
set_option maxHeartbeats 2000000 in
theorem any2 (S : Nat → Prop) (v : Value) (fs : List Fl) (w : World) (hv : FilesV w S v fs) :
    Calls Tryz.prog 43 #[v, .func (.func 46) #[] #[]] w fun r w' => r = .returned (.bool (fs.any rgB)) ∧ Below w.heap.size w w' := by
  have HC := Lib.hid (idx2 S v fs w hv)
  obtain ⟨A, c, rfl⟩ := hv.form
  clear hv
  go_enter Tryz.func43, Tryz.ntmps43
  go_wp2_with (go_at_call 73; refine HC.out.mono ?_; rintro r w1 ⟨i, rfl, hi, hb⟩; have HI := Lib.hid hi; clear hi)
  go_ret
  refine ⟨ret_bool ?_, hb⟩
  rw [Bool.eq_iff_iff, decide_eq_true_iff]
  exact HI.out
end Go.Proofs.YtiffgjodbcploaaGreat
end
