/-
Table.Entries (of a table).
-/
import Derived.Test.YtiffgjodbcploaaQPOwnUpto14
import Derived.Test.YtiffgjodbcploaaQPOwnUpto10
import Derived.Lib.SlBytesConst
section
namespace Go.Proofs.Ytiffgjodbcploaa
open Go.RowKit Go.BigFrame Go.Shelf
attribute [local go_sem ↓] Go.wp_at_zero Go.wp_at_succ
theorem fr.cells3 {W w' : World} {p q r : Addr} {x y z : Value} (h : fr W w') (c0 : W.cell? p = some x) (c1 : W.cell? q = some y) (c2 : W.cell? r = some z) : w'.cell? p = some x ∧ w'.cell? q = some y ∧ w'.cell? r = some z := ⟨h.cell c0, h.cell c1, h.cell c2⟩
theorem BytL.fr {w w' : World} {lo : Nat} {v : Value} {bs : List UInt8} (h : BytL w lo v bs) (f : Go.Proofs.Ytiffgjodbcploaa.fr w w') : BytL w' lo v bs := Byt.idle (Z := fun _ => False) (base := 0) (R := fun i => lo ≤ i) h (Idle.of_below f) fun _ _ h => h
set_option maxRecDepth 100000 in
set_option maxHeartbeats 1000000 in
theorem bounds_core (S : Nat → Prop) (Tb gp pc m nk ck nl cl : Nat) (A0 A1 : Option Addr) (k l : List UInt8) (w : World) (hm : 0 < m) (h1 : w.cell? ⟨Tb, 1, none⟩ = some (.slice (some ⟨gp, 0, none⟩) m pc)) (h3 : w.cell? ⟨Tb, 3, none⟩ = some (.slice A1 nl cl)) (hg : w.cell? ⟨gp, 1, none⟩ = some (.slice A0 nk ck)) (hk : Byt w S (.slice A0 nk ck) k) (hl : Byt w S (.slice A1 nl cl) l) :
    Calls Try.prog 15 #[.pointer (some ⟨Tb, 0, none⟩)] w fun r w' => ∃ v0 v1, r = .returned (.tuple #[v0, v1]) ∧ BytL w' w.heap.size v0 k ∧ BytL w' w.heap.size v1 l ∧ fr w w' := by
  have HC0 : Hid (∀ wx, fr w wx → Calls Try.prog 29 #[.slice A0 nk ck] wx fun r w' => ∃ A c, r = .returned (.slice A k.length c) ∧ BytL w' w.heap.size (.slice A k.length c) k ∧ fr wx w') := Lib.hid fun wx hx => by
    refine (bcloneL_any _ _ k wx (hk.below hx)).mono ?_
    rintro r w' ⟨v, rfl, h, f⟩
    obtain ⟨A, c, rfl⟩ := slice_form h
    exact ⟨A, c, rfl, BytL.mono h hx.size, f⟩
  have HC1 : Hid (∀ wx, fr w wx → Calls Try.prog 29 #[.slice A1 nl cl] wx fun r w' => ∃ A c, r = .returned (.slice A l.length c) ∧ BytL w' w.heap.size (.slice A l.length c) l ∧ fr wx w') := Lib.hid fun wx hx => by
    refine (bcloneL_any _ _ l wx (hl.below hx)).mono ?_
    rintro r w' ⟨v, rfl, h, f⟩
    obtain ⟨A, c, rfl⟩ := slice_form h
    exact ⟨A, c, rfl, BytL.mono h hx.size, f⟩
  clear hk hl
  have hmz : (0 : Int) < (m : Int) := by omega
  go_enter Try.func15, Try.ntmps15
  go_upto_region 3 with (fail)
  go_region_held3 (fun w' => w'.cell? ⟨Tb, 1, none⟩ = some (.slice (some ⟨gp, 0, none⟩) m pc) ∧ w'.cell? ⟨Tb, 3, none⟩ = some (.slice A1 nl cl) ∧ w'.cell? ⟨gp, 1, none⟩ = some (.slice A0 nk ck))
    ((refine fr.cells3 (W := w) ?_ h1 h3 hg; (focus ((repeat (first | with_reducible assumption | with_reducible exact fr.refl | with_reducible refine fr.alloc ?_ _ | with_reducible refine fr.drew ?_)))); done))
    (first
      | (go_split_ands; go_at_call 29; (with_reducible refine Calls.mono (HC0.out _ ?_) ?_); (focus ((repeat (first | with_reducible assumption | with_reducible exact fr.refl | with_reducible refine fr.alloc ?_ _ | with_reducible refine fr.drew ?_)))); rintro r w1 ⟨B0, e0, rfl, b0, g0⟩; (have f0 : fr w w1 := fr.step (by (repeat (first | with_reducible assumption | with_reducible exact fr.refl | with_reducible refine fr.alloc ?_ _ | with_reducible refine fr.drew ?_))) g0); (try (have k1 := BytL.fr b1 g0)))
      | (go_split_ands; go_at_call 29; (with_reducible refine Calls.mono (HC1.out _ ?_) ?_); (focus ((repeat (first | with_reducible assumption | with_reducible exact fr.refl | with_reducible refine fr.alloc ?_ _ | with_reducible refine fr.drew ?_)))); rintro r w2 ⟨B1, e1, rfl, b1, g1⟩; (have f1 : fr w w2 := fr.step (by (repeat (first | with_reducible assumption | with_reducible exact fr.refl | with_reducible refine fr.alloc ?_ _ | with_reducible refine fr.drew ?_))) g1); (try (have k0 := BytL.fr b0 g1))))
  all_goals
    go_wp2
    refine bodyPost_ret (v := .tuple #[.slice B0 k.length e0, .slice B1 l.length e1]) (by simp [results, Try.results15, go_sem]) rfl ?_
    first
      | exact ⟨_, _, rfl, b0, k1, f0⟩
      | exact ⟨_, _, rfl, k0, b1, f1⟩
/-- the least and the greatest key. -/
theorem bounds_any (S : Nat → Prop) (Tb N : Nat) (es : List Ent) (ps : List (List Ent)) (e0 e1 : Ent) (w : World) (ht : TabS w S Tb N es ps) (hpo : PartsOk es ps) (h0 : es[0]? = some e0) (h1 : es[N - 1]? = some e1) :
    Calls Try.prog 15 #[.pointer (some ⟨Tb, 0, none⟩)] w fun r w' => ∃ v0 v1, r = .returned (.tuple #[v0, v1]) ∧ BytL w' w.heap.size v0 e0.key ∧ BytL w' w.heap.size v1 e1.key ∧ fr w w' := by
  obtain ⟨b, o, n, c, gp, pc, A, ll, lc, ys, k1, k2, k3, k4, k5, k6, k7, k8⟩ := ht
  obtain ⟨p, hp⟩ : ∃ p, ps[0]? = some p := by
    rcases hps : ps with _ | ⟨p, ps'⟩
    · have := hpo.all
      rw [hps] at this
      simp only [List.flatten_nil] at this
      rw [← this] at h0
      simp at h0
    · exact ⟨p, rfl⟩
  have hl := (List.getElem?_eq_some_iff.1 hp).1
  have hp0 : p[0]? = some e0 := by
    have hpp := (hpo.part p (List.mem_of_getElem? hp)).1
    obtain ⟨e, he⟩ : ∃ e, p[0]? = some e := ⟨_, List.getElem?_eq_getElem hpp⟩
    have hall := hpo.all
    rcases hps : ps with _ | ⟨q, ps'⟩
    · rw [hps] at hp; simp at hp
    · rw [hps] at hp hall
      simp only [List.getElem?_cons_zero, Option.some.injEq] at hp
      subst hp
      rw [List.flatten_cons] at hall
      rw [← hall, List.getElem?_append_left hpp] at h0
      exact h0
  obtain ⟨_, k, hk1, hk2⟩ := k5 0 p e0 hp hp0
  obtain ⟨Ak, ck, rfl⟩ := slice_form hk2
  have hlast := k6 e1 h1
  obtain ⟨A', c', hE, _⟩ := hlast
  have hll : ll = e1.key.length := by simp only [Value.slice.injEq] at hE; exact hE.2.1
  have hc := k4.cells (g := gp) rfl 1 _ (by simpa using hk1)
  rw [Addr.add_lit, Nat.zero_add] at hc
  exact bounds_core S Tb gp pc ps.length _ _ _ _ _ _ e0.key e1.key w hl (cell_of_row w Tb 1 _ _ _ k1) (cell_of_row w Tb 3 _ _ _ k1) hc hk2 (k6 e1 h1)
end Go.Proofs.Ytiffgjodbcploaa
end
section
namespace Go.Proofs.Ytiffgjodbcploaa
open Go.RowKit Go.BigFrame Go.Shelf
attribute [local go_sem ↓] Go.wp_at_zero Go.wp_at_succ
/-- a calm disk; with one file. -/
def calm0 : Pk := ⟨[], -1, -1, [], 0, 0, false⟩
def calm1 (x : Nm) (b : List UInt8) : Pk := ⟨[⟨x, b, b.length⟩], -1, -1, [], 2, wrap64 b.length, false⟩
theorem calm_ready : readyE calm0 [[116]] = 22 := by decide
theorem calm_append (b : List UInt8) : appendE calm0 [116] b = 0 := by
  unfold appendE
  rw [calm_ready]
  rfl
theorem calm_appendK (b : List UInt8) : appendK calm0 [116] b = ⟨[⟨[116], b, 0⟩], -1, -1, [], 1, wrap64 b.length, false⟩ := by
  have h1 : crashes calm0 = false := by decide
  have h2 : fullP calm0 b.length = false := rfl
  have h3 : appFs [116] b calm0.fs = [⟨[116], b, 0⟩] := rfl
  unfold appendK
  have h4 : changeK calm0 = ⟨[], -1, -1, [], 1, 0, false⟩ := rfl
  rw [calm_ready, if_pos (.inr rfl), h2, h1, h3, h4]
  simp [calm0]
theorem calm_sync (b : List UInt8) : syncE (appendK calm0 [116] b) [116] = 0 ∧ syncK (appendK calm0 [116] b) [116] = calm1 [116] b := by
  rw [calm_appendK]
  have h1 : readyE ⟨[⟨[116], b, 0⟩], -1, -1, [], 1, wrap64 b.length, false⟩ [[116]] = 0 := rfl
  have h2 : crashes ⟨[⟨[116], b, 0⟩], -1, -1, [], 1, wrap64 b.length, false⟩ = false := rfl
  refine ⟨?_, ?_⟩
  · unfold syncE
    rw [if_pos h1]
    rfl
  · unfold syncK
    rw [if_pos h1, h2]
    rfl
theorem calm_ready1 (b : List UInt8) : readyE (calm1 [116] b) [[116]] = 0 := rfl
theorem calm_read1 (b : List UInt8) : readD (calm1 [116] b) [116] = b := rfl
/-- Write on a calm disk. -/
theorem write_calm (F : Nat → Prop) (p : Nat) (S0 : Nat → Prop) (g o N c size : Nat) (es : List Ent) (w : World) (h : DiskP w F p calm0) (hv : Ents w S0 (.slice (some ⟨g, o, none⟩) N c) es) (hN : es.length = N) (hS0 : ∀ i, S0 i → i < w.heap.size) (hsz : 1 ≤ size ∧ size ≤ 1024) (hord : orderedE es = true) (hN0 : 0 < N) (hN2 : N ≤ 16777216) (hB2 : bytesE es ≤ 16777216) :
    Calls Try.prog 18 #[.pointer (some ⟨p, 0, none⟩), .string ⟨#[116]⟩, .slice (some ⟨g, o, none⟩) N c, .int .i64 size] w fun r w' => ∃ ps, PartsOk es ps ∧ r = .returned (.int .i64 0) ∧ DiskP w' (orNew F w.heap.size) p (calm1 [116] (sealF (fileF N ps))) ∧ Only F w w' := by
  refine (write_ok F p calm0 [116] S0 g o N c size es w h hv hN hS0 (by simp) hsz hord ((ordered_iff es).1 hord).1 hN0 hN2 hB2 calm_ready (by decide) (by decide) (by decide)).mono ?_
  rintro r w' ⟨ps, hps, rfl, h', ho⟩
  obtain ⟨s1, s2⟩ := calm_sync (sealF (fileF N ps))
  rw [calm_append, if_pos rfl, s1]
  rw [calm_append, if_pos rfl, s2] at h'
  exact ⟨ps, hps, rfl, h', ho⟩
set_option maxRecDepth 100000 in
set_option maxHeartbeats 1000000 in
theorem calm_any (w : World) : Calls Try.prog 21 #[] w fun r w' => r = .returned (.agg #[.int .i64 (-1), .int .i64 (-1), .slice none 0 0]) ∧ fr w w' := by
  go_enter Try.func21, Try.ntmps21
  go_wp2
  have hb := heap_alloc_new w (.cells #[.int .i64 (-1), .int .i64 (-1), .slice none 0 0] 57)
  have c0 := cell_of_row _ _ 0 _ _ _ hb
  have c1 := cell_of_row _ _ 1 _ _ _ hb
  have c2 := cell_of_row _ _ 2 _ _ _ hb
  refine bodyPost_ret (v := .agg #[.int .i64 (-1), .int .i64 (-1), .slice none 0 0]) (by simp [results, Try.results21, go_sem, c0, c1, c2]) rfl ?_
  exact ⟨rfl, fr.alloc fr.refl _⟩
def tk1 : Ent := ⟨[98], 5, false, [120]⟩
def tk2 : Ent := ⟨[98], 3, false, []⟩
def tk3 : Ent := ⟨[99], 4, true, []⟩
theorem Byt.one {w : World} {S : Nat → Prop} {g c : Nat} {b : UInt8} {v : Value} (h : w.cell? ⟨g, 0, none⟩ = some v) (hv : v = bcell b) (hS : S g) (hc : 1 ≤ c) (hc' : c ≤ 9223372036854775807) : Byt w S (.slice (some ⟨g, 0, none⟩) 1 c) [b] := by
  subst hv
  refine ⟨_, _, rfl, hc, hc', by simp, ⟨by simp, fun _ => ⟨g, 0, rfl, hS, World.block_lt_of_cell? w _ h, fun j u hu => ?_⟩⟩⟩
  match j, hu with
  | 0, hu => simp at hu; subst hu; simpa using h
theorem cell_marked (w : World) (cs : Array Value) (t : TypeId) (fr : Nat × Nat) (g j : Nat) (hg : g = w.heap.size) : (w.alloc (.cells cs t fr)).cell? ⟨g, j, none⟩ = cs[j]? := by
  subst hg; exact cell_of_row _ _ j cs t fr (heap_alloc_new w _)
/-- the literal of three. -/
theorem tlit3 (w : World) (T : TypeId) (W : World) (sz : Nat) (hsz : sz = w.heap.size)
    (hW : W = (((((w.alloc (.cells #[.int .u8 98] T (1, 2))).alloc (.cells #[.int .u8 120] T (1, 2))).alloc (.cells #[.int .u8 98] T (1, 2))).alloc (.cells #[.int .u8 99] T (1, 2))).alloc
      (.cells #[.slice (some ⟨sz, 0, none⟩) 1 1, .int .i64 5, .bool false, .slice (some ⟨sz + 1, 0, none⟩) 1 1, .slice (some ⟨sz + 1 + 1, 0, none⟩) 1 1, .int .i64 3, .bool false, .slice none 0 0, .slice (some ⟨sz + 1 + 1 + 1, 0, none⟩) 1 1, .int .i64 4, .bool true, .slice none 0 0] 34))) :
    Ents W (fun i => w.heap.size ≤ i ∧ i < W.heap.size) (.slice (some ⟨sz + 1 + 1 + 1 + 1, 0, none⟩) 3 3) [tk1, tk2, tk3] ∧ Below w.heap.size w W := by
  subst hW hsz
  have hb : Below w.heap.size w (((((w.alloc (.cells #[.int .u8 98] T (1, 2))).alloc (.cells #[.int .u8 120] T (1, 2))).alloc (.cells #[.int .u8 98] T (1, 2))).alloc (.cells #[.int .u8 99] T (1, 2))).alloc
      (.cells #[.slice (some ⟨w.heap.size, 0, none⟩) 1 1, .int .i64 5, .bool false, .slice (some ⟨w.heap.size + 1, 0, none⟩) 1 1, .slice (some ⟨w.heap.size + 1 + 1, 0, none⟩) 1 1, .int .i64 3, .bool false, .slice none 0 0, .slice (some ⟨w.heap.size + 1 + 1 + 1, 0, none⟩) 1 1, .int .i64 4, .bool true, .slice none 0 0] 34)) :=
    (((((Below.refl _ _).alloc (Nat.le_refl _) _).alloc (by simp) _).alloc (by simp; omega) _).alloc (by simp; omega) _).alloc (by simp; omega) _
  refine ⟨?_, hb⟩
  refine ⟨_, _, [.slice (some ⟨w.heap.size, 0, none⟩) 1 1, .int .i64 5, .bool false, .slice (some ⟨w.heap.size + 1, 0, none⟩) 1 1, .slice (some ⟨w.heap.size + 1 + 1, 0, none⟩) 1 1, .int .i64 3, .bool false, .slice none 0 0, .slice (some ⟨w.heap.size + 1 + 1 + 1, 0, none⟩) 1 1, .int .i64 4, .bool true, .slice none 0 0], rfl, by simp, by simp, by simp, ⟨by simp, fun _ => ⟨_, 0, rfl, ⟨by first | omega | (simp; done) | (simp; omega), by first | (simp; done) | (simp; omega)⟩, by simp, fun j u hu => ?_⟩⟩, ?_⟩
  · rw [World.cell?_alloc_at _ _ _ _ (by simp)]
    simpa using hu
  · refine ⟨rfl, rfl, Byt.one (v := .int .u8 98) ?_ rfl ⟨by first | omega | (simp; done) | (simp; omega), by first | (simp; done) | (simp; omega)⟩ (by omega) (by omega), Byt.one (v := .int .u8 120) ?_ rfl ⟨by first | omega | (simp; done) | (simp; omega), by first | (simp; done) | (simp; omega)⟩ (by omega) (by omega), rfl, rfl, Byt.one (v := .int .u8 98) ?_ rfl ⟨by first | omega | (simp; done) | (simp; omega), by first | (simp; done) | (simp; omega)⟩ (by omega) (by omega), Byt.nil _ _, rfl, rfl, Byt.one (v := .int .u8 99) ?_ rfl ⟨by first | omega | (simp; done) | (simp; omega), by first | (simp; done) | (simp; omega)⟩ (by omega) (by omega), Byt.nil _ _, trivial⟩
    · exact Lib.cell?_alloc_marked _ (Lib.cell?_alloc_marked _ (Lib.cell?_alloc_marked _ (Lib.cell?_alloc_marked _ (cell_marked _ _ _ _ _ _ rfl))))
    · exact Lib.cell?_alloc_marked _ (Lib.cell?_alloc_marked _ (Lib.cell?_alloc_marked _ (cell_marked _ _ _ _ _ _ (by simp))))
    · exact Lib.cell?_alloc_marked _ (Lib.cell?_alloc_marked _ (cell_marked _ _ _ _ _ _ (by simp)))
    · exact Lib.cell?_alloc_marked _ (cell_marked _ _ _ _ _ _ (by simp))
end Go.Proofs.Ytiffgjodbcploaa
end
section
namespace Go.Proofs.Ytiffgjodbcploaa
open Go.RowKit Go.BigFrame Go.Shelf
attribute [local go_sem ↓] Go.wp_at_zero Go.wp_at_succ
theorem tfrom_lit {w : World} {sz : Nat} (hsz : sz = w.heap.size) {Q : World → Prop} (h : ∀ W, Hid (Ents W (fun i => w.heap.size ≤ i ∧ i < W.heap.size) (.slice (some ⟨sz + 1 + 1 + 1 + 1, 0, none⟩) 3 3) [tk1, tk2, tk3]) → Hid (Below w.heap.size w W) → Q W) :
    Q (((((w.alloc (.cells #[.int .u8 98] 5 (1, 2))).alloc (.cells #[.int .u8 120] 5 (1, 2))).alloc (.cells #[.int .u8 98] 5 (1, 2))).alloc (.cells #[.int .u8 99] 5 (1, 2))).alloc
      (.cells #[.slice (some ⟨sz, 0, none⟩) 1 1, .int .i64 5, .bool false, .slice (some ⟨sz + 1, 0, none⟩) 1 1, .slice (some ⟨sz + 1 + 1, 0, none⟩) 1 1, .int .i64 3, .bool false, .slice none 0 0, .slice (some ⟨sz + 1 + 1 + 1, 0, none⟩) 1 1, .int .i64 4, .bool true, .slice none 0 0] 34)) :=
  h _ (Lib.hid (tlit3 w 5 _ sz hsz rfl).1) (Lib.hid (tlit3 w 5 _ sz hsz rfl).2)
theorem tk_ord : orderedE [tk1, tk2, tk3] = true := by decide
theorem tk_bytes : bytesE [tk1, tk2, tk3] ≤ 16777216 := by decide
theorem tk_get : getF [98] 4 (fromE [98] [tk1, tk2, tk3]) = some tk2 := by decide
set_option maxRecDepth 100000 in
set_option maxHeartbeats 4000000 in
theorem twakes_any (w : World) : Calls Try.prog 6 #[] w fun r w' => r = .returned (.bool true) ∧ Below w.heap.size w w' := by
  have kc : ∀ (W : World) (C : Array Value) (n c g : Nat), g = W.heap.size → (convert 23 23 (.slice (some ⟨g, 0, none⟩) n c)).run Try.prog (W.alloc (.cells C 5)) = .ok (.slice (some ⟨g, 0, none⟩) n c) (W.alloc (.cells C 5 (C.size, C.size + 1))) := fun W C n c g hg => hg ▸ Lib.run_convert_bytes_const (P := Try.prog) W 23 5 C n c Try.underlying23 Try.underlying5
  go_enter Try.func6, Try.ntmps6
  go_wp2_with (fail)
  refine (calm_any _).mono ?_
  rintro r w0 ⟨rfl, f0⟩
  have HF0 := Lib.hid f0
  clear f0
  go_wp2_with (fail)
  refine (new_dk (fun _ => True) (-1) (-1) _ [] w0 (IntsIn.nil _ _) (by simp) w.heap.size HF0.out.size).mono ?_
  rintro r w1 ⟨p, rfl, h1, hb1⟩
  obtain ⟨F, h1, hF⟩ := h1
  have H1 := Lib.hid (h1 : DiskP w1 F p calm0)
  have HFF := Lib.hid hF
  have HB1 := Lib.hid (HF0.out.trans (hb1.mono HF0.out.size))
  clear h1 hb1 hF
  go_wp2_with (fail)
  refine tfrom_lit (w := w1) (sz := w1.heap.size) rfl (Q := fun W => Calls Try.prog 18 #[.pointer (some ⟨p, 0, none⟩), .string ⟨#[116]⟩, .slice (some ⟨w1.heap.size + 1 + 1 + 1 + 1, 0, none⟩) 3 3, .int .i64 2] W _) ?_
  intro W HA HB
  obtain ⟨g, hg⟩ : ∃ g, w1.heap.size + 1 + 1 + 1 + 1 = g := ⟨_, rfl⟩
  rw [hg] at HA ⊢
  clear hg
  have HBW := Lib.hid (HB1.out.trans (HB.out.mono HB1.out.size))
  refine (write_calm F p _ g 0 3 3 2 _ W (H1.out.below HB.out) HA.out rfl (fun i h => h.2) (by omega) tk_ord (by omega) (by omega) tk_bytes).mono ?_
  rintro r w2 ⟨ps, hps, rfl, h2, o2⟩
  have HPS := Lib.hid hps
  have H2 := Lib.hid h2
  have HB2 := Lib.hid (HBW.out.trans (o2.below HBW.out.size fun i hi => (HFF.out i hi).1))
  have HA2 := Lib.hid (HA.out.only o2 fun i _ hi h => by have := (HFF.out i h).2; omega)
  have h2z := o2.size
  clear hps h2 o2
  go_wp2_with (fail)
  refine (write_twice _ p _ [116] _ g 0 3 3 2 _ w2 H2.out HA2.out (by simp) (by omega) tk_ord (by omega) (calm_ready1 _)).mono ?_
  rintro r w3 ⟨rfl, f3⟩
  have HF3 := Lib.hid f3
  have HB3 := Lib.hid (HB2.out.trans (f3.mono HB2.out.size))
  clear f3
  go_wp2_with (fail)
  refine (write_none _ p 2 w3 (by omega)).mono ?_
  rintro r w4 ⟨rfl, f4⟩
  have HF4 := Lib.hid f4
  have HB4 := Lib.hid (HB3.out.trans (f4.mono HB3.out.size))
  clear f4
  go_wp2_with (fail)
  refine (open_ok _ p _ [116] 3 [tk1, tk2, tk3] ps w4 ((H2.out.below HF3.out).below HF4.out) (by simp) (calm_ready1 _) (calm_read1 _) HPS.out rfl (by omega) (by omega) tk_bytes tk_ord).mono ?_
  rintro r w5 ⟨Tb, rfl, hT, f5⟩
  have hps0 : 0 < ps.length := by
    rcases Nat.eq_zero_or_pos ps.length with h | h
    · have h1 := HPS.out.all
      rw [List.eq_nil_of_length_eq_zero h] at h1
      simp at h1
    · exact h
  have HT := Lib.hid (hT.set hps0)
  have HB5 := Lib.hid (HB4.out.trans (f5.mono HB4.out.size))
  clear f5 hT hps0
  go_wp2_with (fail)
  have hby : Byt (w5.alloc (.cells #[.int .u8 98] 5 (1, 2))) (fun i => i = w5.heap.size) (.slice (some ⟨w5.heap.size, 0, none⟩) 1 1) [98] := Byt.one (v := .int .u8 98) (cell_marked _ _ _ _ _ _ rfl) rfl rfl (by omega) (by omega)
  have hbA : Below w5.heap.size w5 (w5.alloc (.cells #[.int .u8 98] 5 (1, 2))) := (Below.refl _ _).alloc (Nat.le_refl _) _
  refine (tget_any Tb 3 1 1 _ 4 _ _ [98] [tk1, tk2, tk3] ps _ hby (HT.out.fr hbA) HPS.out rfl (by omega) (by omega) tk_bytes tk_ord (by rintro i (h | h); (have := hbA.size; have := h.2; omega); (subst h; simp))).mono ?_
  rw [tk_get]
  rintro r w6 ⟨k, sq, d, u, ok, rfl, ⟨rfl, rfl, rfl, hk, hu⟩, f6⟩
  obtain ⟨Ak, ck, rfl⟩ := slice_form hk
  obtain ⟨Au, cu, rfl⟩ := slice_form hu
  have HT6 := Lib.hid ((HT.out.fr hbA).fr f6)
  have HB6 := Lib.hid ((HB5.out.trans (hbA.mono HB5.out.size)).trans (Below.mono f6 (by have := HB5.out.size; simp; omega)))
  clear hk hu hby hbA f6 kc
  go_wp2_with (go_at_call 17; refine (count_any _ Tb 3 _ ps _ (HT6.out.fr (fr.alloc fr.refl _))).mono ?_; rintro r w7 ⟨rfl, f7⟩)
  refine bodyPost_ret (v := .bool true) (by simp [results, Try.results6, go_sem]) rfl ?_
  have ha := HB6.out.alloc HB6.out.size (.cells #[.slice Ak tk2.key.length ck, .int .i64 tk2.seq, .bool tk2.dead, .slice Au tk2.val.length cu] 34)
  exact ⟨rfl, ha.trans (Below.mono f7 ha.size)⟩
end Go.Proofs.Ytiffgjodbcploaa
end
section
namespace Go.Proofs.Ytiffgjodbcploaa
open Go.RowKit Go.BigFrame Go.Shelf
attribute [local go_sem ↓] Go.wp_at_zero Go.wp_at_succ
attribute [local go_sem] Oper.semAt_some
abbrev zeroE : Value := .agg #[.slice none 0 0, .int .i64 0, .bool false, .slice none 0 0]
set_option maxRecDepth 100000 in
set_option maxHeartbeats 1000000 in
theorem tget_nil (A : Option Addr) (nk ck : Nat) (s : Int) (w : World) : Calls Try.prog 9 #[.pointer none, .slice A nk ck, .int .i64 s] w fun r w' => r = .returned (.tuple #[zeroE, .bool false, .int .i64 1]) ∧ fr w w' := by
  refine (callsIn_wide (n := 1)).1 ?_
  refine callsIn_of_wp_marks Try.func9 rfl trivial ?_
  simp only [Try.ntmps9, List.size_toArray, List.length_cons, List.length_nil, Nat.reduceAdd, Nat.reduceSub, Array.replicate_succ, Array.replicate_zero, List.push_toArray, List.append_toArray, List.nil_append, List.cons_append]
  refine wpIn_wide.2 ?_
  go_wp2
  have p6 := fr.hp (fr.alloc (fr.alloc fr.refl _) _) (heap_alloc_new ((w.alloc (.cells #[.slice A nk ck] 23)).alloc (.cells #[.int .i64 s] 3)) (.cells #[.slice none 0 0, .int .i64 0, .bool false, .slice none 0 0] 34)) (w' := ((((w.alloc (.cells #[.slice A nk ck] 23)).alloc (.cells #[.int .i64 s] 3)).alloc (.cells #[.slice none 0 0, .int .i64 0, .bool false, .slice none 0 0] 34)).alloc (.cells #[.bool false] 4)).alloc (.cells #[.int .i64 1] 35))
  have p7 := ((Boxed.new (((w.alloc (.cells #[.slice A nk ck] 23)).alloc (.cells #[.int .i64 s] 3)).alloc (.cells #[.slice none 0 0, .int .i64 0, .bool false, .slice none 0 0] 34)) 4 (.bool false)).alloc (.cells #[.int .i64 1] 35)).cell
  have p8 := (Boxed.new ((((w.alloc (.cells #[.slice A nk ck] 23)).alloc (.cells #[.int .i64 s] 3)).alloc (.cells #[.slice none 0 0, .int .i64 0, .bool false, .slice none 0 0] 34)).alloc (.cells #[.bool false] 4)) 35 (.int .i64 1)).cell
  simp only [World.size_alloc] at p6 p7 p8
  have q0 := cell_of_row _ _ 0 _ _ _ p6
  have q1 := cell_of_row _ _ 1 _ _ _ p6
  have q2 := cell_of_row _ _ 2 _ _ _ p6
  have q3 := cell_of_row _ _ 3 _ _ _ p6
  exact ⟨.tuple #[zeroE, .bool false, .int .i64 1], by simp [results, Try.results9, go_sem, q0, q1, q2, q3, p7, p8], rfl, fr.alloc (fr.alloc (fr.alloc (fr.alloc (fr.alloc fr.refl _) _) _) _) _⟩
set_option maxRecDepth 100000 in
set_option maxHeartbeats 1000000 in
theorem entries_nil (w : World) : Calls Try.prog 22 #[.pointer none, .slice none 0 0, .slice none 0 0] w fun r w' => r = .returned (.func (.func 43) #[] #[]) ∧ fr w w' := by
  go_enter Try.func22, Try.ntmps22
  go_wp2
  go_ret
  exact ⟨rfl, fr.alloc (fr.alloc (fr.alloc fr.refl _) _) _⟩
set_option maxRecDepth 100000 in
set_option maxHeartbeats 1000000 in
theorem nil_tells (nn : Nat) (w : World) : Tells Fence.wide nn Try.prog 43 #[] (fun _ : Unit => #[zeroE, .int .i64 1]) (fun pre _ _ _ => pre = []) (fun xs _ => xs.length = 1) (fun _ _ => True) (fun _ => False) (fun _ => False) w := by
  intro l J Jx T0 W hW hT0 hJ hJx hJT hY h0
  refine callsIn_wide.2 ?_
  obtain ⟨fn, tmps, assign, body, hy, hR⟩ := hY [] T0 () W h0 rfl
  dsimp only at hy
  have HR := Lib.hid hR
  clear hW hT0 hJ hJx hJT hY h0 hR
  go_enter Try.func43, Try.ntmps43
  refine (wpIn_wide (n := nn)).1 ?_
  gi_wp2
  refine ⟨fun h => absurd h (by decide), HR.out.mono ?_⟩
  rintro e w6 ⟨T6, gT, oT, (⟨rfl, hj6⟩ | ⟨rfl, hj6⟩)⟩
  · have HJ6 := Lib.hid hj6
    clear hy hj6 gT oT
    gi_wp2
    go_wp2
    go_end0
    exact ⟨⟨_, rfl⟩, .inl ⟨[()], T6, rfl, HJ6.out⟩⟩
  · have HJ6 := Lib.hid hj6
    clear hy hj6 gT oT
    gi_wp2
    go_wp2
    go_end0
    exact ⟨⟨_, rfl⟩, .inr ⟨[()], T6, trivial, HJ6.out⟩⟩
abbrev nFrame (z Bx : Nat) : Array Value :=
  #[.pointer none, .slice none 0 0, .slice none 0 0, undef, undef, undef, .pointer (some ⟨z, 0, none⟩), .pointer (some ⟨z + 1, 0, none⟩), .pointer (some ⟨z + 1 + 1, 0, none⟩), .pointer (some ⟨Bx, 0, none⟩), .int .i64 1, .pointer none, .slice none 0 0, .slice none 0 0, .func (.func 43) #[] #[], zeroE, .int .i64 1, undef, undef, undef, undef, undef, undef, undef, undef, undef]
abbrev T2 (R : Nat) (i : Nat) : Prop := i = R ∨ i = R + 1
set_option maxRecDepth 100000 in
set_option maxHeartbeats 4000000 in
theorem tall_nil (w : World) : Calls Try.prog 11 #[.pointer none, .slice none 0 0, .slice none 0 0] w fun r w' => r = .returned (.tuple #[.slice none 0 0, .int .i64 1]) ∧ fr w w' := by
  have p6 := ((Boxed.new w 22 (.slice none 0 0)).alloc (.cells #[.int .i64 0] 35)).alloc (.cells #[.slice none 0 0] 22)
  have p7 := (Boxed.new (w.alloc (.cells #[.slice none 0 0] 22)) 35 (.int .i64 0)).alloc (.cells #[.slice none 0 0] 22)
  have p8 := Boxed.new ((w.alloc (.cells #[.slice none 0 0] 22)).alloc (.cells #[.int .i64 0] 35)) 22 (.slice none 0 0)
  simp only [World.size_alloc] at p7 p8
  have fA : fr w (((w.alloc (.cells #[.slice none 0 0] 22)).alloc (.cells #[.int .i64 0] 35)).alloc (.cells #[.slice none 0 0] 22)) := fr.alloc (fr.alloc (fr.alloc fr.refl _) _) _
  refine (callsIn_wide (n := 1)).1 ?_
  refine callsIn_of_wp_marks Try.func11 rfl trivial ?_
  simp only [Try.ntmps11, List.size_toArray, List.length_cons, List.length_nil, Nat.reduceAdd, Nat.reduceSub, Array.replicate_succ, Array.replicate_zero, List.push_toArray, List.append_toArray, List.nil_append, List.cons_append]
  refine wpIn_wide.2 ?_
  go_wp2_with (go_at_call 22; refine (entries_nil _).mono ?_; rintro r w1 ⟨rfl, f1⟩)
  have P6 := Lib.hid (boxedFr p6 f1)
  have P7 := Lib.hid (boxedFr p7 f1)
  have P8 := Lib.hid (boxedFr p8 f1)
  have HF1 := Lib.hid (fr.step fA f1)
  have hz3 := (boxedFr p8 f1).lt
  clear p6 p7 p8 fA f1
  refine (wpIn_wide (n := 1)).1 ?_
  refine range_tells rfl (by omega) (gf := 43) (lb := #[]) rfl trivial (enters_of Try.func43 (by kernel_rfl) rfl) (nil_tells 0 w1)
    (fun i h => h.elim) (fun i h => h.elim) (fun pre T T' x A hT h => h) (fun _ _ _ h _ => h) (fun _ _ _ h _ => h) (fun _ => rfl)
    (fun pre T W => pre = [] ∧ T = T2 w.heap.size ∧ fr w1 W) (fun c pre T W => c = .ret ∧ T = T2 w.heap.size ∧ Only (T2 w.heap.size) w1 W ∧ Boxed W w.heap.size 22 (.slice none 0 0) ∧ Boxed W (w.heap.size + 1) 35 (.int .i64 1)) ?still ?stillX (T2 w.heap.size) (fun i hi => ⟨by rcases hi with rfl | rfl <;> omega, fun h => h⟩) ⟨rfl, rfl, fr.refl⟩
    (fun pre T x a W => ∃ Bx, a = { tmps := nFrame w.heap.size Bx, defers := [] }) (fun _ _ _ _ _ _ h _ => h) ?assign ?body ?done ?stop ?lt ?ltx
  case assign =>
    rintro l pre T x W K hi' hok hK
    obtain ⟨h1, h2, h3⟩ := hi'
    gi_wp2
    exact hK _ _ (fr.alloc fr.refl _) ⟨h1, h2, fr.alloc h3 _⟩ ⟨_, rfl⟩
  case still =>
    rintro pre T A B ⟨h1, h2, h3⟩ hi
    exact ⟨h1, h2, hi.os.trans h3.os, hi.tape.trans h3.tape, hi.output.trans h3.output, Nat.le_trans h3.size hi.size, fun i hlt => (hi.block i (Nat.lt_of_lt_of_le hlt h3.size) fun hk => by rcases hk with hk | hk; exact hk; omega).trans (h3.block i hlt)⟩
  case stillX =>
    rintro c pre T A B ⟨h1, h2, h3, a1, a2⟩ hi
    exact ⟨h1, h2, ⟨hi.os.trans h3.os, hi.tape.trans h3.tape, hi.output.trans h3.output, Nat.le_trans h3.size hi.size, fun i hlt hn => (hi.block i (Nat.lt_of_lt_of_le hlt h3.size) fun hk => by rcases hk with hk | hk; exact hk; omega).trans (h3.block i hlt hn)⟩, hi.cells (fun h => h) a1 rfl, hi.cells (fun h => h) a2 rfl⟩
  case lt =>
    rintro pre T W i ⟨h1, rfl, h3⟩ hT
    have := h3.size
    rcases hT with rfl | rfl <;> omega
  case ltx =>
    rintro c pre T W i ⟨h1, rfl, h3, _⟩ hT
    have := h3.size
    rcases hT with rfl | rfl <;> omega
  case body =>
    rintro l pre T x a' sA W hl hlA hrec hTs hsA ⟨rfl, rfl, h3⟩ ⟨Bx, rfl⟩
    have Q6 := boxedFr P6.out h3
    have Q7 := boxedFr P7.out h3
    have c6 := Q6.cell
    have z6 := Q6.frozen
    have c7 := Q7.cell
    have z7 := Q7.frozen
    have c8 := (boxedFr P8.out h3).cell
    have HQ6 := Lib.hid Q6
    have HQ7 := Lib.hid Q7
    have HH3 := Lib.hid h3
    clear hrec hTs hl hlA Q6 Q7 h3
    gi_wp2
    have o2 : Only (T2 w.heap.size) W ((W.setCell ⟨w.heap.size, 0, none⟩ (.slice none 0 0)).setCell ⟨w.heap.size + 1, 0, none⟩ (.int .i64 1)) := Only.setCell (S := T2 w.heap.size) (Only.setCell (S := T2 w.heap.size) (Only.refl _ _) (p := ⟨w.heap.size, 0, none⟩) (.inl rfl) _) (p := ⟨w.heap.size + 1, 0, none⟩) (.inr rfl) _
    exact ⟨T2 _, fun i h => .inl h, Only.mono o2 fun i h => .inl h, rfl, rfl, Only.trans (Only.of_below HH3.out) o2, (HQ6.out.set _).other (by omega) _, (HQ7.out.other (by omega) _).set _⟩
  case done =>
    rintro D' xs T W hD' hTs hxs ⟨rfl, rfl, h3⟩ hK
    simp at hxs
  case stop =>
    rintro D' c xs T W hD' hTs _ ⟨rfl, rfl, h3, a1, a2⟩ hK
    have o4 : Only (fun i => i = D') W (W.putObj D' (.deferred none)) := ⟨rfl, rfl, rfl, by simp, fun i _ hi => World.putObj_heap_other hi⟩
    have s0 := (boxedOnly a1 o4 (by omega)).cell
    have s1 := (boxedOnly a2 o4 (by omega)).cell
    gi_wp2
    refine ⟨by simp, .inl ⟨_, _, rfl, run_takeDeferred hK, ?_⟩⟩
    have h0 := HF1.out
    have o5 := Only.trans (Only.mono h3 fun i h => (Or.inl h : T2 w.heap.size i ∨ i = D')) (Only.mono o4 fun i h => Or.inr h)
    exact ⟨.tuple #[.slice none 0 0, .int .i64 1], by simp [results, Try.results11, go_sem, s0, s1], rfl, o5.os.trans h0.os, o5.tape.trans h0.tape, o5.output.trans h0.output, Nat.le_trans h0.size o5.size, fun i hi => (o5.block i (by have := h0.size; omega) (by rintro ((h | h) | h) <;> omega)).trans (h0.block i hi)⟩
end Go.Proofs.Ytiffgjodbcploaa
end
section
namespace Go.Proofs.Ytiffgjodbcploaa
open Go.RowKit Go.BigFrame Go.Shelf
attribute [local go_sem ↓] Go.wp_at_zero Go.wp_at_succ
theorem fr.putE {W X : World} {pb j : Nat} {u : Value} (h : fr W X) (hp : W.heap.size ≤ pb) : fr W (X.setCell ⟨pb, j, none⟩ u) := RowKit.Below.setCell h hp u
theorem fr.stepR {W X Y : World} (h : fr W X) (g : fr X Y) : fr W Y := fr.step h g
theorem Only.stepE {S : Nat → Prop} {a b c : World} (h : Only S a b) (g : fr b c) : Only S a c := h.trans (Only.of_below g)
abbrev T12 (z i : Nat) : Prop := i = z + 1 ∨ i = z + 1 + 1
theorem Only.put1 {a b : World} {z j : Nat} {u : Value} (h : Only (T12 z) a b) : Only (T12 z) a (b.setCell ⟨z + 1, j, none⟩ u) := Only.setCell (S := T12 z) (p := ⟨z + 1, j, none⟩) h (.inl rfl) u
theorem Only.put2 {a b : World} {z j : Nat} {u : Value} (h : Only (T12 z) a b) : Only (T12 z) a (b.setCell ⟨z + 1 + 1, j, none⟩ u) := Only.setCell (S := T12 z) (p := ⟨z + 1 + 1, j, none⟩) h (.inr rfl) u
theorem BytL.stepE {wa wc : World} {lo z : Nat} {v : Value} {bs : List UInt8} (h : BytL wa lo v bs) (ho : Only (T12 z) wa wc) (hle : z + 3 ≤ lo) : BytL wc (z + 3) v bs :=
  Byt.mono (S := fun i => lo ≤ i ∧ Loose wa i) (Byt.only (T := fun i => lo ≤ i ∧ Loose wa i) h ho (fun i _ h e => by have := h.1; rcases e with e | e <;> omega)) fun i hi => ⟨by have := hi.1; omega, hi.2.only ho (by have := hi.1; rintro (e | e) <;> omega)⟩
/-- what Entries answers. -/
abbrev entF (z : Nat) : Value := .func (.func 44) #[] #[.pointer (some ⟨z, 0, none⟩), .pointer (some ⟨z + 1, 0, none⟩), .pointer (some ⟨z + 1 + 1, 0, none⟩)]
theorem leafE {w w1 w2 wc : World} {Tb nl nh cl ch : Nat} {Al Ah : Option Addr} {lo hi : List UInt8} {L1 L2 : Nat} (h1 : BytL w1 L1 (.slice Al nl cl) lo) (h2 : BytL w2 L2 (.slice Ah nh ch) hi) (o1 : Only (T12 w.heap.size) w1 wc) (o2 : Only (T12 w.heap.size) w2 wc)
    (l1 : w.heap.size + 3 ≤ L1) (l2 : w.heap.size + 3 ≤ L2) (p0 : Boxed wc w.heap.size 28 (.pointer (some ⟨Tb, 0, none⟩))) (p1 : Boxed wc (w.heap.size + 1) 23 (.slice Al nl cl)) (p2 : Boxed wc (w.heap.size + 1 + 1) 23 (.slice Ah nh ch)) (hf : fr w wc) :
    Boxed wc w.heap.size 28 (.pointer (some ⟨Tb, 0, none⟩)) ∧ (∃ A n c A' n' c', Boxed wc (w.heap.size + 1) 23 (.slice A n c) ∧ Boxed wc (w.heap.size + 1 + 1) 23 (.slice A' n' c') ∧ BytL wc (w.heap.size + 3) (.slice A n c) lo ∧ BytL wc (w.heap.size + 3) (.slice A' n' c') hi) ∧ fr w wc :=
  ⟨p0, ⟨_, _, _, _, _, _, p1, p2, h1.stepE o1 l1, h2.stepE o2 l2⟩, hf⟩
set_option maxRecDepth 100000 in
set_option maxHeartbeats 1000000 in
theorem entries_some (Tb nl cl nh ch : Nat) (Al Ah : Option Addr) (S1 S2 : Nat → Prop) (lo hi : List UInt8) (w : World) (hl : Byt w S1 (.slice Al nl cl) lo) (hh : Byt w S2 (.slice Ah nh ch) hi) :
    Calls Try.prog 22 #[.pointer (some ⟨Tb, 0, none⟩), .slice Al nl cl, .slice Ah nh ch] w fun r w' => r = .returned (entF w.heap.size) ∧ Boxed w' w.heap.size 28 (.pointer (some ⟨Tb, 0, none⟩)) ∧
      (∃ A n c A' n' c', Boxed w' (w.heap.size + 1) 23 (.slice A n c) ∧ Boxed w' (w.heap.size + 1 + 1) 23 (.slice A' n' c') ∧ BytL w' (w.heap.size + 3) (.slice A n c) lo ∧ BytL w' (w.heap.size + 3) (.slice A' n' c') hi) ∧ fr w w' := by
  have HC0 : Hid (∀ wx, fr w wx → Calls Try.prog 29 #[.slice Al nl cl] wx fun r w' => ∃ A c, r = .returned (.slice A lo.length c) ∧ BytL w' wx.heap.size (.slice A lo.length c) lo ∧ fr wx w') := Lib.hid fun wx hx => by
    refine (bcloneL_any _ _ lo wx (hl.below hx)).mono ?_
    rintro r w' ⟨v, rfl, h, f⟩
    obtain ⟨A, c, rfl⟩ := slice_form h
    exact ⟨A, c, rfl, h, f⟩
  have HC1 : Hid (∀ wx, fr w wx → Calls Try.prog 29 #[.slice Ah nh ch] wx fun r w' => ∃ A c, r = .returned (.slice A hi.length c) ∧ BytL w' wx.heap.size (.slice A hi.length c) hi ∧ fr wx w') := Lib.hid fun wx hx => by
    refine (bcloneL_any _ _ hi wx (hh.below hx)).mono ?_
    rintro r w' ⟨v, rfl, h, f⟩
    obtain ⟨A, c, rfl⟩ := slice_form h
    exact ⟨A, c, rfl, h, f⟩
  obtain ⟨n1, hn1⟩ : ∃ n, lo.length = n := ⟨_, rfl⟩
  obtain ⟨n2, hn2⟩ : ∃ n, hi.length = n := ⟨_, rfl⟩
  rw [hn1] at HC0
  rw [hn2] at HC1
  obtain ⟨wA, hwA⟩ : ∃ x, ((w.alloc (.cells #[.pointer (some ⟨Tb, 0, none⟩)] 28)).alloc (.cells #[.slice Al nl cl] 23)).alloc (.cells #[.slice Ah nh ch] 23) = x := ⟨_, rfl⟩
  have b1 := Boxed.new (w.alloc (.cells #[.pointer (some ⟨Tb, 0, none⟩)] 28)) 23 (.slice Al nl cl)
  have b2 := Boxed.new ((w.alloc (.cells #[.pointer (some ⟨Tb, 0, none⟩)] 28)).alloc (.cells #[.slice Al nl cl] 23)) 23 (.slice Ah nh ch)
  simp only [World.size_alloc] at b1 b2
  have P0 : Boxed wA w.heap.size 28 (.pointer (some ⟨Tb, 0, none⟩)) := by rw [← hwA]; exact ((Boxed.new w _ _).alloc _).alloc _
  have P1 : Boxed wA (w.heap.size + 1) 23 (.slice Al nl cl) := by rw [← hwA]; exact b1.alloc _
  have P2 : Boxed wA (w.heap.size + 1 + 1) 23 (.slice Ah nh ch) := by rw [← hwA]; exact b2
  have FA : fr w wA := by rw [← hwA]; exact fr.alloc (fr.alloc (fr.alloc fr.refl _) _) _
  have FD : fr w wA.drew := fr.drew FA
  have ZA : wA.drew.heap.size = w.heap.size + 3 := by rw [← hwA]; simp
  have Q0 : Boxed wA.drew w.heap.size 28 (.pointer (some ⟨Tb, 0, none⟩)) := P0
  have Q1 : Boxed wA.drew (w.heap.size + 1) 23 (.slice Al nl cl) := P1
  have Q2 : Boxed wA.drew (w.heap.size + 1 + 1) 23 (.slice Ah nh ch) := P2
  have c1 := P1.cell
  have c2 := P2.cell
  have c0 := P0.cell
  have z1 := P1.frozen
  have z2 := P2.frozen
  have d1 := Q1.cell
  have d2 := Q2.cell
  have y1 := Q1.frozen
  have y2 := Q2.frozen
  have L1 : w.heap.size ≤ w.heap.size + 1 := by omega
  have L2 : w.heap.size ≤ w.heap.size + 1 + 1 := by omega
  have HWA := Lib.hid hwA
  have HN : Hid (¬ w.heap.size + 1 = w.heap.size + 1 + 1 ∧ ¬ w.heap.size + 1 + 1 = w.heap.size + 1 ∧ ¬ w.heap.size = w.heap.size + 1 ∧ ¬ w.heap.size = w.heap.size + 1 + 1) := Lib.hid (by omega)
  have HQ0 := Lib.hid Q0
  have HQ1 := Lib.hid Q1
  have HQ2 := Lib.hid Q2
  have HZA := Lib.hid ZA
  have HFD := Lib.hid FD
  have HL := Lib.hid (And.intro L1 L2)
  clear hl hh hn1 hn2 b1 b2 hwA P0 P1 P2 FA FD ZA Q0 Q1 Q2 L1 L2
  go_enter Try.func22, Try.ntmps22
  go_upto_region 3 with (rw [HWA.out])
  go_region_with (first
    | (go_at_call 29; (with_reducible refine Calls.mono (HC0.out _ ?_) ?_); (focus (first | with_reducible exact HFD.out | with_reducible exact f2 | (with_reducible refine fr.putE ?_ HL.out.2; with_reducible exact f2))); rintro r w1 ⟨A1, k1, rfl, hb1, g1⟩; have s1 := Below.size g1; (first | (with_reducible have q0 := boxedFr HQ0.out g1; with_reducible have q1 := boxedFr HQ1.out g1; with_reducible have q2 := boxedFr HQ2.out g1; with_reducible have f1 := fr.stepR HFD.out g1) | (with_reducible have q0 := boxedFr q0 g1; with_reducible have q1 := boxedFr q1 g1; with_reducible have q2 := boxedFr q2 g1; with_reducible have f1 := fr.stepR f2 g1) | (with_reducible have f1 := fr.stepR (fr.putE f2 HL.out.2) g1; with_reducible have q0 := boxedFr (q0.other HN.out.2.2.2 _) g1; with_reducible have q1 := boxedFr (q1.other HN.out.1 _) g1; with_reducible have q2 := boxedFr (q2.set _) g1)); have e1 := q1.cell; have e2 := q2.cell; have u1 := q1.frozen; have u2 := q2.frozen)
    | (go_at_call 29; (with_reducible refine Calls.mono (HC1.out _ ?_) ?_); (focus (first | with_reducible exact HFD.out | with_reducible exact f1 | (with_reducible refine fr.putE ?_ HL.out.1; with_reducible exact f1))); rintro r w2 ⟨A2, k2, rfl, hb2, g2⟩; have s2 := Below.size g2; (first | (with_reducible have q0 := boxedFr HQ0.out g2; with_reducible have q1 := boxedFr HQ1.out g2; with_reducible have q2 := boxedFr HQ2.out g2; with_reducible have f2 := fr.stepR HFD.out g2) | (with_reducible have q0 := boxedFr q0 g2; with_reducible have q1 := boxedFr q1 g2; with_reducible have q2 := boxedFr q2 g2; with_reducible have f2 := fr.stepR f1 g2) | (with_reducible have f2 := fr.stepR (fr.putE f1 HL.out.1) g2; with_reducible have q0 := boxedFr (q0.other HN.out.2.2.1 _) g2; with_reducible have q2 := boxedFr (q2.other HN.out.2.1 _) g2; with_reducible have q1 := boxedFr (q1.set _) g2)); have e1 := q1.cell; have e2 := q2.cell; have u1 := q1.frozen; have u2 := q2.frozen))
  all_goals
    clear c0 c1 c2 z1 z2 d1 d2 y1 y2
    go_wp2
    refine bodyPost_ret (v := entF w.heap.size) (by simp [results, Try.results22, go_sem]) rfl ?_
    refine ⟨rfl, leafE hb1 hb2 ?_ ?_ ?_ ?_ ?_ ?_ ?_ ?_⟩
    · (repeat (first | with_reducible exact Only.refl _ _ | with_reducible refine Only.put1 ?_ | with_reducible refine Only.put2 ?_ | with_reducible refine Only.stepE ?_ g1 | with_reducible refine Only.stepE ?_ g2))
    · (repeat (first | with_reducible exact Only.refl _ _ | with_reducible refine Only.put1 ?_ | with_reducible refine Only.put2 ?_ | with_reducible refine Only.stepE ?_ g1 | with_reducible refine Only.stepE ?_ g2))
    · have := HZA.out
      (try simp only [World.size_setCell] at s1 s2)
      omega
    · have := HZA.out
      (try simp only [World.size_setCell] at s1 s2)
      omega
    · first
        | with_reducible exact (q0.other HN.out.2.2.1 _).other HN.out.2.2.2 _
        | with_reducible exact (q0.other HN.out.2.2.2 _).other HN.out.2.2.1 _
        | with_reducible exact q0.other HN.out.2.2.1 _
        | with_reducible exact q0.other HN.out.2.2.2 _
    · first
        | with_reducible exact (q1.set _).other HN.out.1 _
        | with_reducible exact (q1.other HN.out.1 _).set _
        | with_reducible exact q1.set _
        | with_reducible exact q1.other HN.out.1 _
    · first
        | with_reducible exact (q2.set _).other HN.out.2.1 _
        | with_reducible exact (q2.other HN.out.2.1 _).set _
        | with_reducible exact q2.set _
        | with_reducible exact q2.other HN.out.2.1 _
    · first
        | with_reducible exact fr.putE (fr.putE f1 HL.out.1) HL.out.2
        | with_reducible exact fr.putE (fr.putE f1 HL.out.2) HL.out.1
        | with_reducible exact fr.putE (fr.putE f2 HL.out.1) HL.out.2
        | with_reducible exact fr.putE (fr.putE f2 HL.out.2) HL.out.1
        | with_reducible exact fr.putE f1 HL.out.1
        | with_reducible exact fr.putE f2 HL.out.2
end Go.Proofs.Ytiffgjodbcploaa
end
