/-
A slice of slices of bytes that came in.
-/
import Derived.Test.YtjnolpfmchnnmaaGreatDoorQPDrops12
import Derived.Test.YtjnolpfmchnnmaaGreatDoorQPDrops5
import Derived.Test.YtjnolpfmchnnmaaGreatDoorQPDrops9
import Derived.WalkMore
import Derived.Lib.SlBytesConst
import Derived.Test.YtjnolpfmchnnmaaGreatDoorQPDrops10
import Derived.Test.YtjnolpfmchnnmaaGreatDoorQPDrops0
import Derived.Laws.Rows
import Derived.BigFrame
import Derived.Deep.Slices
import Derived.Lib.SmallJoins
import Derived.OpenShut
import Derived.SizedLaws
import Derived.Test.YtjnolpfmchnnmaaGreatDoorRows
import Derived.Test.YtjnolpfmchnnmaaGreatDoorQPDrops4
import Derived.Deep.Strs
import Derived.Test.YtjnolpfmchnnmaaGreatDoorQPDrops7
section
namespace Go.Proofs.YtjnolpfmchnnmaaGreatDoor
set_option maxRecDepth 100000
open Go.RowKit Go.BigFrame Go.Shelf
attribute [local go_sem ↓] Go.wp_at_zero Go.wp_at_succ
def calm0 : Pk := ⟨[], -1, -1, [], 0, 0, false⟩
theorem calm0_ok : CalmK calm0 0 := ⟨rfl, rfl, rfl, .nil, fun _ h => (by cases h), by decide, by decide, by decide⟩
theorem tmp_ne (pre : Nm) (n : Nat) : pre ++ tmpW ≠ nameW pre n := fun e => by
  have := congrArg List.length e
  rw [nameW_len, List.length_append] at this
  have h4 : tmpW.length = 4 := rfl
  omega
set_option maxRecDepth 100000 in
set_option maxHeartbeats 1000000 in
theorem calm_any (w : World) : Calls Tryz.prog 16 #[] w fun r w' => r = .returned (.agg #[.int .i64 (-1), .int .i64 (-1), .slice none 0 0]) ∧ fr w w' := by
  go_enter Tryz.func16, Tryz.ntmps16
  go_wp2
  have hb := heap_alloc_new w (.cells #[.int .i64 (-1), .int .i64 (-1), .slice none 0 0] 28)
  have c0 := cell_of_row _ _ 0 _ _ _ hb
  have c1 := cell_of_row _ _ 1 _ _ _ hb
  have c2 := cell_of_row _ _ 2 _ _ _ hb
  refine bodyPost_ret (v := .agg #[.int .i64 (-1), .int .i64 (-1), .slice none 0 0]) (by simp [results, Tryz.results16, go_sem, c0, c1, c2]) rfl ?_
  exact ⟨rfl, fr.alloc fr.refl _⟩
theorem Byt.one {w : World} {S : Nat → Prop} {g c : Nat} {b : UInt8} {v : Value} (h : w.cell? ⟨g, 0, none⟩ = some v) (hv : v = bcell b) (hS : S g) (hc : 1 ≤ c) (hc' : c ≤ 9223372036854775807) : Byt w S (.slice (some ⟨g, 0, none⟩) 1 c) [b] := by
  subst hv
  refine ⟨_, _, rfl, hc, hc', by simp, ⟨by simp, fun _ => ⟨g, 0, rfl, hS, World.block_lt_of_cell? w _ h, fun j u hu => ?_⟩⟩⟩
  match j, hu with
  | 0, hu => simp at hu; subst hu; simpa using h
theorem cell_marked (w : World) (cs : Array Value) (t : TypeId) (fr : Nat × Nat) (g j : Nat) (hg : g = w.heap.size) : (w.alloc (.cells cs t fr)).cell? ⟨g, j, none⟩ = cs[j]? := by
  subst hg; exact cell_of_row _ _ j cs t fr (heap_alloc_new w _)
theorem names_same {l m : List Nm} (hl : l.Pairwise (· < ·)) (hm : m.Pairwise (· < ·)) (h : ∀ n, n ∈ l ↔ n ∈ m) : l = m := by
  induction l generalizing m with
  | nil =>
    cases m with
    | nil => rfl
    | cons a m => exact absurd ((h a).2 List.mem_cons_self) (by simp)
  | cons a l ih =>
    cases m with
    | nil => exact absurd ((h a).1 List.mem_cons_self) (by simp)
    | cons b m =>
      have h1 := List.pairwise_cons.1 hl
      have h2 := List.pairwise_cons.1 hm
      have e : a = b := by
        rcases List.mem_cons.1 ((h a).1 List.mem_cons_self) with e | e
        · exact e
        · rcases List.mem_cons.1 ((h b).2 List.mem_cons_self) with e' | e'
          · exact e'.symm
          · exact absurd (List.lt_trans (h2.1 a e) (h1.1 b e')) (List.lt_irrefl _)
      subst e
      rw [ih h1.2 h2.2 fun n => ⟨fun hn => ?_, fun hn => ?_⟩]
      · rcases List.mem_cons.1 ((h n).1 (List.mem_cons_of_mem _ hn)) with e | e
        · rw [e] at hn; exact absurd (h1.1 a hn) (List.lt_irrefl _)
        · exact e
      · rcases List.mem_cons.1 ((h n).2 (List.mem_cons_of_mem _ hn)) with e | e
        · rw [e] at hn; exact absurd (h2.1 a hn) (List.lt_irrefl _)
        · exact e
def wk0 : Nat → List (List UInt8) := fun _ => []
def wk1 : Nat → List (List UInt8) := pushR wk0 1 0 [97]
def wk2 : Nat → List (List UInt8) := pushR wk1 2 0 [98]
def wkD1 : Nm → Option (List UInt8) := putD (fun _ => none) (nameW [119] 1) (putF [97])
def wkD2 : Nm → Option (List UInt8) := putD wkD1 (nameW [119] 2) (putF [98])
theorem wk_pre : PreOk [119] := ⟨by simp, by decide, by decide⟩
theorem wk_recs : ([1, 2].map wk2).flatten = [[97], [98]] := by decide
theorem wk_tmp : wkD2 ([119] ++ tmpW) = none := by
  unfold wkD2 wkD1
  rw [putD_ne _ _ (tmp_ne _ _), putD_ne _ _ (tmp_ne _ _)]
theorem wk_len : ∀ n ∈ [1, 2], (frB (wk2 n)).length ≤ 1099511627776 := by
  intro n hn
  have h : frB (wk2 1) = putF [97] ∧ frB (wk2 2) = putF [98] := ⟨by show frB [[97]] = _; unfold frB; simp, by show frB [[98]] = _; unfold frB; simp⟩
  rcases List.mem_cons.1 hn with rfl | hn
  · rw [h.1, putF_len]; decide
  · rw [List.mem_singleton.1 hn, h.2, putF_len]; decide
theorem wk_names (k : Pk) (dn : Nat) (h : CalmK k dn) (hD : fileD k = wkD2) : listP k = [nameW [119] 1, nameW [119] 2] := by
  refine names_same h.listSorted (List.pairwise_cons.2 ⟨fun b hb => by rw [List.mem_singleton.1 hb]; exact nameW_lt _ (by decide) (by decide), List.pairwise_singleton _ _⟩) fun x => ?_
  rw [h.mem_list, hD]
  unfold wkD2 wkD1 putD
  simp only [List.mem_cons, List.not_mem_nil, or_false]
  by_cases h2 : x = nameW [119] 2
  · simp [h2]
  · rw [if_neg h2]
    by_cases h1 : x = nameW [119] 1
    · rw [if_pos h1]; simp [h1]
    · rw [if_neg h1]; simp [h1, h2]
set_option maxRecDepth 100000 in
set_option maxHeartbeats 4000000 in
theorem wakes_any (w : World) (ht : TabW w) : Calls Tryz.prog 14 #[] w fun r w' => r = .returned (.bool true) ∧ fr w w' := by
  have HT := Lib.hid ht
  have htl := Lib.hid ht.lt
  clear ht
  have kc : ∀ (W : World) (C : Array Value) (n c g : Nat), g = W.heap.size → (convert 35 35 (.slice (some ⟨g, 0, none⟩) n c)).run Tryz.prog (W.alloc (.cells C 5)) = .ok (.slice (some ⟨g, 0, none⟩) n c) (W.alloc (.cells C 5 (C.size, C.size + 1))) := fun W C n c g hg => hg ▸ Lib.run_convert_bytes_const (P := Tryz.prog) W 35 5 C n c Tryz.underlying35 Tryz.underlying5
  go_enter Tryz.func14, Tryz.ntmps14
  go_wp2_with (fail)
  refine (calm_any _).mono ?_
  rintro r w0 ⟨rfl, f0⟩
  have HF0 := Lib.hid f0
  clear f0
  go_wp2_with (fail)
  refine (new_dk (fun _ => True) (-1) (-1) _ [] w0 (IntsIn.nil _ _) (by simp) w.heap.size HF0.out.size).mono ?_
  rintro r w1 ⟨p, rfl, h1, hb1⟩
  obtain ⟨F, h1, hF⟩ := h1
  have H1 := Lib.hid (h1 : DiskP w1 F p calm0)
  have HFF : Hid (Lies F w1 w.heap.size) := Lib.hid fun i hi => by have := hF i hi; have := htl.out; omega
  have HB1 := Lib.hid (fr.step HF0.out hb1)
  clear h1 hb1 hF
  go_wp2_with (fail)
  refine (wfresh_calm (dn := 0) (pre := [119]) 1 calm0 H1.out calm0_ok (fun _ => rfl) (HT.out.below HB1.out) HFF.out.two wk_pre (by omega) rfl (by omega)).mono ?_
  rintro r w2 ⟨L, A, c, rfl, hL, h2, o2⟩
  have H2 : Hid (LogC w2 F L p [119] 1 [] wk0 1 0 0 (fun _ => none)) := Lib.hid h2
  have hL' : w.heap.size ≤ L := Nat.le_trans (Below.size HB1.out) hL
  have hLt : tabG < L := Nat.lt_of_lt_of_le htl.out hL'
  have HO2 : Hid (fr w w2) := Lib.hid (HB1.out.trans (o2.below (Below.size HB1.out) fun i hi => (HFF.out i hi).2.2))
  have HF2 : Hid (Lies F w2 w.heap.size) := Lib.hid (HFF.out.step o2.size)
  clear h2 o2 hL
  go_wp2_with (fail)
  have hby : Byt (w2.alloc (.cells #[.int .u8 97] 5 (1, 2))) (fun i => i = w2.heap.size) (.slice (some ⟨w2.heap.size, 0, none⟩) 1 1) [97] := Byt.one (v := .int .u8 97) (cell_marked _ _ _ _ _ _ rfl) rfl rfl (by omega) (by omega)
  have hbA : fr w2 (w2.alloc (.cells #[.int .u8 97] 5 (1, 2))) := fr.alloc fr.refl _
  refine (wpush_calm w.heap.size _ _ [97] (H2.out.below hbA) (HT.out.below (fr.step HO2.out hbA)) (HF2.out.step (Below.size hbA)) hLt (Below.size (fr.step HO2.out hbA)) hby (by decide) wk_pre (by decide) (by decide) (by decide) (by decide)).mono ?_
  rintro r w3 ⟨rfl, F3, hF3, _, h3, _, o3⟩
  have H3 : Hid (LogC w3 F3 L p [119] 1 [1] wk1 1 9 2 wkD1) := Lib.hid h3
  have HF3 := Lib.hid hF3
  have HO3 : Hid (fr w w3) := Lib.hid ((fr.step HO2.out hbA).trans (o3.below (Below.size (fr.step HO2.out hbA)) fun i hi => hi.elim (fun h => (HF2.out i h).2.2) (fun h => h ▸ hL')))
  clear h3 o3 hby hbA hF3 kc
  have kc : ∀ (W : World) (C : Array Value) (n c g : Nat), g = W.heap.size → (convert 35 35 (.slice (some ⟨g, 0, none⟩) n c)).run Tryz.prog (W.alloc (.cells C 5)) = .ok (.slice (some ⟨g, 0, none⟩) n c) (W.alloc (.cells C 5 (C.size, C.size + 1))) := fun W C n c g hg => hg ▸ Lib.run_convert_bytes_const (P := Tryz.prog) W 35 5 C n c Tryz.underlying35 Tryz.underlying5
  go_wp2_with (fail)
  have hby : Byt (w3.alloc (.cells #[.int .u8 98] 5 (1, 2))) (fun i => i = w3.heap.size) (.slice (some ⟨w3.heap.size, 0, none⟩) 1 1) [98] := Byt.one (v := .int .u8 98) (cell_marked _ _ _ _ _ _ rfl) rfl rfl (by omega) (by omega)
  have hbA : fr w3 (w3.alloc (.cells #[.int .u8 98] 5 (1, 2))) := fr.alloc fr.refl _
  refine (wpush_calm w.heap.size _ _ [98] (H3.out.below hbA) (HT.out.below (fr.step HO3.out hbA)) (HF3.out.step (Below.size hbA)) hLt (Below.size (fr.step HO3.out hbA)) hby (by decide) wk_pre (by decide) (by decide) (by decide) (by decide)).mono ?_
  rintro r w4 ⟨rfl, F4, hF4, _, h4, _, o4⟩
  have H4 : Hid (LogC w4 F4 L p [119] 1 [1, 2] wk2 2 9 4 wkD2) := Lib.hid h4
  have HF4 := Lib.hid hF4
  have HO4 : Hid (fr w w4) := Lib.hid ((fr.step HO3.out hbA).trans (o4.below (Below.size (fr.step HO3.out hbA)) fun i hi => hi.elim (fun h => (HF3.out i h).2.2) (fun h => h ▸ hL')))
  clear h4 o4 hby hbA hF4 kc
  go_wp2_with (fail)
  refine (wsync_calm H4.out (HT.out.below HO4.out) wk_pre (by decide) (by decide)).mono ?_
  rintro r w5 ⟨rfl, h5, o5⟩
  have H5 : Hid (LogC w5 F4 L p [119] 1 [1, 2] wk2 2 9 5 wkD2) := Lib.hid h5
  have HF5 := Lib.hid (HF4.out.step o5.size)
  have HO5 : Hid (fr w w5) := Lib.hid (HO4.out.trans (o5.below (Below.size HO4.out) fun i hi => (HF4.out i hi).2.2))
  clear h5 o5
  go_wp2_with (fail)
  refine (wsegment_calm H5.out (by decide)).mono ?_
  rintro r w6 ⟨rfl, f6⟩
  have H6 := Lib.hid (H5.out.below f6)
  have HF6 := Lib.hid (HF5.out.step (Below.size f6))
  have HO6 := Lib.hid (fr.step HO5.out f6)
  clear f6
  go_wp2_with (fail)
  refine (wreopen_calm 1 H6.out wk_len (HT.out.below HO6.out) HF6.out.two wk_pre (by decide) wk_tmp (by decide) (by decide) (by rw [wk_recs]; decide) (by decide)).mono ?_
  rw [wk_recs, show ([[97], [98]] : List (List UInt8)).length = 2 from rfl]
  rintro r w7 ⟨L2, A2, c2, rfl, hL2, h7, hb7, o7⟩
  have H7 : Hid (LogC w7 F4 L2 p [119] 1 [1, 2] wk2 3 0 7 wkD2) := Lib.hid h7
  have HF7 := Lib.hid (HF6.out.step o7.size)
  have HO7 : Hid (fr w w7) := Lib.hid (HO6.out.trans (o7.below (Below.size HO6.out) fun i hi => (HF6.out i hi).2.2))
  have HR7 := Lib.hid hb7
  clear h7 o7 hb7 hL2
  obtain ⟨k7, hk7, hc7, hD7⟩ := H7.out.disk
  have HLS := Lib.hid (list_any F4 p k7 w7 hk7 (by have := hc7.few; omega))
  rw [hc7.ready0, wk_names k7 7 hc7 hD7] at HLS
  clear hk7 hc7 hD7
  go_wp2_with (fail)
  refine HLS.out.mono ?_
  rintro r w8 ⟨v8, rfl, hv8, f8⟩
  have hv8' : w8.ownsRow w7.heap.size 9 1 v8 2 [encStr (nameW [119] 1), encStr (nameW [119] 2)] := hv8
  obtain ⟨g8, c8, rfl, _, hl8, _⟩ := own_pos hv8' (by decide)
  have q0 : w8.cell? ⟨g8, 0, none⟩ = some (.string ⟨#[119, 48, 48, 48, 48, 48, 49, 46, 108, 111, 103]⟩) := hv8'.cellAt 0 (by decide)
  obtain ⟨b7, o7, cs7, hA2, hb7, _, ⟨v7, rfl, hv7⟩, hc7⟩ := Rows.at_ bvFine (Rows.below bvFine HR7.out f8) (i := 1) (x := [98]) rfl
  subst hA2
  obtain ⟨A7, c7, rfl⟩ := slice_form hv7
  have q1 : w8.cell? ⟨b7, o7 + 1, none⟩ = some (.slice A7 1 c7) := by simpa using hc7 0 _ rfl
  have e1 : (convert 35 9 (.slice A7 1 c7)).run Tryz.prog w8 = .ok (.string ⟨#[98]⟩) w8 := hv7.convert
  have HSG := Lib.hid (wsegment_calm (H7.out.below f8) (by decide))
  have HO8 := Lib.hid (fr.step HO7.out f8)
  clear hv8 hv8' hv7 hc7 HLS f8
  go_wp2_with (go_at_call 18; refine HSG.out.mono ?_; rintro r w9 ⟨rfl, f9⟩; have z0 := f9.cell q0)
  refine bodyPost_ret (v := .bool true) (by simp [results, Tryz.results14, go_sem]) rfl ?_
  exact ⟨rfl, fr.step HO8.out f9⟩
end Go.Proofs.YtjnolpfmchnnmaaGreatDoor
end
section
namespace Go.Proofs.YtjnolpfmchnnmaaGreatDoor
set_option maxRecDepth 100000
open Go.RowKit Go.BigFrame
attribute [local go_sem ↓] Go.wp_at_zero Go.wp_at_succ
set_option maxRecDepth 100000 in
set_option maxHeartbeats 1000000 in
theorem same06_any (S S' : Nat → Prop) (v v' : Value) (ts : List (List UInt8)) (w : World) (h : BVs w S v ts) (h' : BVs w S' v' ts) :
    Calls Tryz.prog 21 #[v, v'] w fun r w' => r = .returned (.bool true) ∧ fr w w' := by
  obtain ⟨A, c, rfl⟩ := Rows.form h
  obtain ⟨A', c', rfl⟩ := Rows.form h'
  have hmany : ts.length * 24 ≤ 140737488355328 := by obtain ⟨_, _, _, _, _, _, h3, _⟩ := h; exact h3
  obtain ⟨n, hn⟩ : ∃ n, ts.length = n := ⟨_, rfl⟩
  rw [hn] at h h' hmany ⊢
  have H := Lib.hid h
  have H' := Lib.hid h'
  have HN := Lib.hid hn
  clear h h' hn
  go_enter Tryz.func21, Tryz.ntmps21
  go_wp2_with fail
  go_loopw [13] (fun t wr => ∃ k : Nat, k ≤ n ∧ t = .int .i64 k ∧ fr w wr) (fun t _ => n - (intOf t).toNat)
  case atStart => exact ⟨0, Nat.zero_le _, rfl, fr.refl⟩
  case round =>
    obtain ⟨k, hk, rfl, hbel⟩ := hrel
    have HB := Lib.hid hbel
    clear hbel
    by_cases hkn : k < n
    · obtain ⟨t, hf⟩ : ∃ t, ts[k]? = some t := ⟨_, List.getElem?_eq_getElem (by rw [HN.out]; exact hkn)⟩
      obtain ⟨b, o, cs, rfl, hblt, _, ⟨va, rfl, hva⟩, hc⟩ := Rows.at_ bvFine (Rows.below bvFine H.out HB.out) hf
      obtain ⟨b', o', cs', rfl, hblt', _, ⟨va', rfl, hva'⟩, hc'⟩ := Rows.at_ bvFine (Rows.below bvFine H'.out HB.out) hf
      obtain ⟨Aa, ca, rfl⟩ := slice_form hva
      obtain ⟨Aa', ca', rfl⟩ := slice_form hva'
      have x0 : wr.cell? ⟨b, o + k, none⟩ = some (.slice Aa t.length ca) := by simpa using hc 0 _ rfl
      have y0 : wr.cell? ⟨b', o' + k, none⟩ = some (.slice Aa' t.length ca') := by simpa using hc' 0 _ rfl
      clear hc hc' hf
      have fe : fr wr wr.drew := fr.drew fr.refl
      have e1 : (convert 35 9 (.slice Aa t.length ca)).run Tryz.prog wr.drew = .ok (.string ⟨t.toArray⟩) wr.drew := (hva.below fe).convert
      have e2 : (convert 35 9 (.slice Aa' t.length ca')).run Tryz.prog wr.drew = .ok (.string ⟨t.toArray⟩) wr.drew := (hva'.below fe).convert
      have HF := Lib.hid fe
      clear fe
      go_wp2_with fail
      go_region
      all_goals
        go_wp2_with fail
        exact ⟨⟨k + 1, by omega, by go_num, fr.step HB.out HF.out⟩, by simp [intOf]; omega⟩
    · obtain rfl : k = n := by omega
      go_wp2_with fail
      refine bodyPost_ret (v := .bool true) (by simp [results, Tryz.results21, go_sem]) rfl ?_
      exact ⟨rfl, HB.out⟩
end Go.Proofs.YtjnolpfmchnnmaaGreatDoor
end
section
namespace Go.Proofs.YtjnolpfmchnnmaaGreatDoor
set_option maxRecDepth 100000
open Go.RowKit Go.BigFrame
attribute [local go_sem ↓] Go.wp_at_zero Go.wp_at_succ
theorem run_append_byt0 (w : World) (ty : TypeId) (g : Nat) (src : Value) (S : Nat → Prop) (bs : List UInt8) (h : Byt w S src bs) :
    ∃ v' w', (Builtin.append_ #[35, 35] ty #[.slice (some ⟨g, 0, none⟩) 0 0, src]).run Tryz.prog w = .ok v' w' ∧ Byt w' (fun i => w.heap.size ≤ i) v' bs ∧ Below w.heap.size w w' := by
  obtain ⟨i0, hi, hz0, hz1, hz2⟩ := info_parts info5
  have hl := h.len
  obtain ⟨A, c, rfl, h1, h2, h3, hr⟩ := h
  rcases Nat.eq_zero_or_pos bs.length with h0 | h0
  · have : bs = [] := List.eq_nil_of_length_eq_zero h0
    subst this
    refine ⟨.slice (some ⟨g, 0, none⟩) 0 0, w, ?_, ⟨_, _, rfl, by simp, by simp, by simp, Row.nil _ _ _ _⟩, Below.refl _ _⟩
    rcases A with _ | a
    · simp [Builtin.append_, run_underlying Tryz.underlying35, sizeOf, typeInfo, hi, Builtin.lenOf, Builtin.firstCells, storeCells]
    · simp [Builtin.append_, run_underlying Tryz.underlying35, sizeOf, typeInfo, hi, Builtin.lenOf, Builtin.firstCells, storeCells, loadCells, loadCellsFrom]
  · obtain ⟨b, o, rfl, _, _, hc⟩ := hr.2 h0
    have hrun := run_append_grow (P := Tryz.prog) w 35 ty 5 i0 (.int .u8 0) Tryz.underlying35 hi hz0 ⟨g, 0, none⟩ 0 0 [] (by simp) (fun j u hu => by simp at hu) ⟨b, o, none⟩ bs.length c (bs.map bcell) (by simp [hz1])
      (fun j u hu => by rw [Addr.add_lit]; exact hc j u hu) (by omega) (by omega) (growslice_fits (by omega) (by rw [hz2]; omega))
    have hge := grownCap_ge w (0 + bs.length) 0 5
    have hcm : grownCap w (0 + bs.length) 0 5 ≤ maxLen := grownCap_le_maxLen w (0 + bs.length) 0 5 (by unfold maxLen; omega)
    refine ⟨_, _, hrun, ?_, ((Below.refl w.heap.size w).drew).alloc (by simp) _⟩
    have e0 : 0 + bs.length = bs.length := by omega
    rw [e0] at hge hcm ⊢
    refine ⟨_, _, rfl, hge, by unfold maxLen at hcm; omega, hl, by simp, fun _ => ⟨w.heap.size, 0, rfl, Nat.le_refl _, by simp, fun j u hu => ?_⟩⟩
    rw [World.cell?_alloc_at _ _ _ _ (by simp)]
    have hj : j < bs.length := by
      have := (List.getElem?_eq_some_iff.1 hu).1
      simpa using this
    simp [Array.getElem?_append, hj]
    rw [List.getElem?_map, List.getElem?_eq_getElem hj] at hu
    simpa using hu
theorem wpList_append_byt0 {w : World} {ops : Array Oper} {rest : List Oper} {o : Oper} {a : Act} {Q : Exit → Act → World → Prop} (hgd : Region.wanted o (yielded ops a.tmps) = true) (s x : Operand)
    (ho : o.op = .call { callee := .builtin .append, args := #[s, x], argTypes := #[35, 35] }) (g : Nat) (src : Value) (hs : a.eval s = .slice (some ⟨g, 0, none⟩) 0 0) (hx : a.eval x = src)
    (S : Nat → Prop) (bs : List UInt8) (h : Byt w S src bs)
    (hK : ∀ v' w', Byt w' (fun i => w.heap.size ≤ i) v' bs → Below w.heap.size w w' → wpList Tryz.prog ops Q rest (a.put o.dst v') w') : wpList Tryz.prog ops Q (o :: rest) a w :=
  wpList_want hgd fun _ hk => by
    obtain ⟨v', w', hrun, h2, h3⟩ := run_append_byt0 w o.type g src S bs h
    unfold Oper.wp execOp
    simp only [ho, resolve, invoke, builtin, Sem.run_bind, Sem.run_pure, Result.andThen_ok, List.map_toArray, List.map_cons, List.map_nil, hs, hx, hrun]
    exact hk _ _ (hK v' w' h2 h3)
end Go.Proofs.YtjnolpfmchnnmaaGreatDoor
end
section
namespace Go.Proofs.YtjnolpfmchnnmaaGreatDoor
set_option maxRecDepth 100000
open Go.RowKit Go.ChangeShapes Go.WideShapes Go.Deep
theorem cells_u8 : Tryz.prog.cellsOf 5 = 1 := by kernel_rfl
theorem cells_bs : Tryz.prog.cellsOf 35 = 1 := by kernel_rfl
theorem bytes_u8 : Tryz.prog.bytesOf 5 = 1 := by kernel_rfl
theorem cell_spot {w : World} {a : Addr} {v : Value} (h : w.cell? a = some v) : a = ⟨a.block, a.off, none⟩ := by
  obtain ⟨b, o, s⟩ := a
  cases s with
  | none => rfl
  | some s =>
    unfold World.cell? at h
    split at h <;> simp at h
theorem add_block (a : Addr) (n : Nat) : (a.add n).block = a.block := by unfold Addr.add; split <;> rfl
theorem add_off (a : Addr) (n : Nat) : (a.add n).off = a.off + n := by
  unfold Addr.add
  split
  · rename_i h; rw [h]; rfl
  · rfl
theorem weightsAll_mem {H : Type} {P : Program} {e : TypeId} : ∀ {l : List (DataW H)} {d : DataW H}, d ∈ l → ∀ n ∈ d.weights P e, n ∈ DataW.weightsAll P e l
  | d' :: r, d, hd, n, hn => by
    simp only [DataW.weightsAll, List.mem_append]
    rcases List.mem_cons.1 hd with rfl | h
    · exact Or.inl hn
    · exact Or.inr (weightsAll_mem h n hn)
section
variable {H : Type} {enc : TypeId × Value → H} {w : World} {base : Nat} {held : Bool} {spare : Nat → Bool}
set_option maxRecDepth 100000 in
theorem open_byt {fuel : Nat} {v : Value} {x : DataW H × List MemPlace} (h : DataW.trod enc Tryz.prog w base spare held fuel 35 [v] = some x) (hw : ∀ n ∈ x.1.weights Tryz.prog 35, n ≤ reachBytes) :
    ∃ bs, Byt w (fun _ => True) v bs := by
  rcases open_ints Tryz.underlying35 Tryz.underlying5 cells_u8 h with ⟨hv, _⟩ | ⟨a, len, cap, zs, hv, _, hl, hm, hz, hx, hc, hwf⟩
  · obtain rfl : v = .slice none 0 0 := by simpa using hv
    exact ⟨[], Byt.nil _ _⟩
  · obtain rfl : v = .slice (some a) len cap := by simpa using hv
    have hlen : len ≤ zs.length := by rw [hz]; split <;> omega
    subst hx
    have hr := hw _ (by simp only [DataW.weights, Tryz.underlying35]; exact List.mem_cons_self)
    rw [bytes_u8] at hr
    simp only [lits, List.length_map, List.length_take, List.length_drop, reachBytes] at hr
    have e1 : ((zs.take len).map fun z => UInt8.ofNat z.toNat).length = len := by simp; omega
    unfold maxLen at hm
    refine ⟨(zs.take len).map fun z => UInt8.ofNat z.toNat, some a, cap, by rw [e1], by omega, by omega, by omega, ?_⟩
    rw [e1]
    refine ⟨by simp; omega, fun h0 => ?_⟩
    have hs := hc 0 (by omega)
    have hsp : a = ⟨a.block, a.off, none⟩ := cell_spot (a := a) (by simpa [Addr.add] using hs)
    refine ⟨a.block, a.off, by rw [← hsp], trivial, ?_, fun j u hu => ?_⟩
    · have := World.block_lt_of_cell? w _ hs
      simpa [Addr.add] using this
    · rw [List.getElem?_map, List.getElem?_map, List.getElem?_take] at hu
      split at hu
      · rename_i hj
        have hcj := hc j (by omega)
        rw [hsp, Addr.add_lit] at hcj
        rw [hcj]
        obtain ⟨z, hzj⟩ : ∃ z, zs[j]? = some z := ⟨_, List.getElem?_eq_getElem (by omega)⟩
        have hb := bounds_u8 (hwf z (List.mem_of_getElem? hzj))
        rw [hzj] at hu
        simp only [Option.map_some, Option.some.injEq] at hu
        rw [← hu, List.getD_eq_getElem?_getD, hzj]
        unfold bcell
        simp
        omega
      · simp at hu
set_option maxRecDepth 100000 in
theorem arg_slice {r : Reach} {b0 : Nat} {t e : TypeId} {v : Value} {d : DataW H} {ps : List MemPlace} (ht : Tryz.prog.underlying t = some (.slice e)) (hval : Value.okWide Tryz.prog w r b0 t v) (hd : DataW.Trod enc Tryz.prog w base spare held t v d ps) :
    ∃ fuel, DataW.trod enc Tryz.prog w base spare held fuel t [v] = some (d, ps) := by
  obtain ⟨a, l, c, rfl⟩ := okWide_slice ht hval
  obtain ⟨n, hn⟩ := hd
  exact ⟨n, hn⟩
end
end Go.Proofs.YtjnolpfmchnnmaaGreatDoor
end
section
namespace Go.Proofs.YtjnolpfmchnnmaaGreatDoor
set_option maxRecDepth 100000
open Go.RowKit Go.ChangeShapes Go.WideShapes Go.Deep
theorem bulk_one {H : Type} (d : DataW H) : 1 ≤ Rows.uptoBulk d := by
  cases d with
  | lit l => cases l <;> simp [Rows.uptoBulk]
  | nil => simp [Rows.uptoBulk]
  | ptr d => simp [Rows.uptoBulk]
  | slice elems spare => simp [Rows.uptoBulk]
  | agg parts => simp [Rows.uptoBulk]
  | iface t d => simp [Rows.uptoBulk]
  | map entries => simp [Rows.uptoBulk]
  | held h => simp [Rows.uptoBulk]
theorem bulk_all {H : Type} (l : List (DataW H)) : Rows.uptoBulkAll l = (l.map Rows.uptoBulk).sum := by
  induction l with
  | nil => rfl
  | cons x r ih => simp only [Rows.uptoBulkAll, List.map_cons, List.sum_cons, ih]
theorem bulk_len {H : Type} (l : List (DataW H)) : l.length ≤ Rows.uptoBulkAll l := by
  induction l with
  | nil => simp [Rows.uptoBulkAll]
  | cons x r ih => have := bulk_one x; simp only [Rows.uptoBulkAll, List.length_cons]; omega
section
variable {H : Type} {P : Program} {enc : TypeId × Value → H} {w : World} {base : Nat} {held : Bool} {spare : Nat → Bool}
end
section
variable {H : Type} {enc : TypeId × Value → H} {w : World} {base : Nat} {held : Bool} {spare : Nat → Bool}
theorem bulk_slice {t e : TypeId} (ht : Tryz.prog.underlying t = some (.slice e)) {fuel n c : Nat} {A : Option Addr} {x : DataW H × List MemPlace} (h : DataW.trod enc Tryz.prog w base spare held fuel t [.slice A n c] = some x) : n ≤ Rows.uptoBulk x.1 := by
  rcases open_slice ht h with ⟨hv, _⟩ | ⟨a, len, cap, m, n', D, Pl, hv, _, _, _, _, hx, _⟩
  · simp only [List.cons.injEq, Value.slice.injEq, and_true] at hv
    omega
  · simp only [List.cons.injEq, Value.slice.injEq, and_true] at hv
    obtain ⟨_, rfl, _⟩ := hv
    subst hx
    have := bulk_len ((List.range n).map D)
    simp only [List.length_map, List.length_range] at this
    simp only [Rows.uptoBulk]
    omega
set_option maxRecDepth 100000 in
theorem open_rows {α : Type} [Inhabited α] {R : Rd α} {k bytes : Nat} (hk0 : 0 < k) {t e : TypeId} (ht : Tryz.prog.underlying t = some (.slice e)) (hk : Tryz.prog.cellsOf e = k) (hby : Tryz.prog.bytesOf e = bytes) (m : α → Nat)
    (hel : ∀ (fuel : Nat) (cs : List Value) (x : DataW H × List MemPlace), DataW.trod enc Tryz.prog w base spare held fuel e cs = some x → (∀ n ∈ x.1.weights Tryz.prog e, n ≤ reachBytes) → ∃ a : α, R w (fun _ => True) a cs ∧ m a ≤ Rows.uptoBulk x.1)
    {fuel : Nat} {v : Value} {x : DataW H × List MemPlace} (h : DataW.trod enc Tryz.prog w base spare held fuel t [v] = some x) (hw : ∀ n ∈ x.1.weights Tryz.prog t, n ≤ reachBytes) :
    ∃ xs, Rows R k bytes w (fun _ => True) v xs ∧ (xs.map m).sum ≤ Rows.uptoBulk x.1 := by
  rcases open_slice ht h with ⟨hv, hx⟩ | ⟨a, len, cap, mm, n, D, Pl, hv, _, hl, hm, hmm, hx, hc⟩
  · obtain rfl : v = .slice none 0 0 := by simpa using hv
    exact ⟨[], ⟨none, 0, [], rfl, Nat.le_refl _, by omega, by simp, ⟨by simp, fun h => by simp at h⟩, .nil⟩, by simp⟩
  · obtain rfl : v = .slice (some a) len cap := by simpa using hv
    have hlm : len ≤ mm := by rw [hmm]; split <;> omega
    subst hx
    simp only [DataW.weights, ht, List.mem_cons, List.mem_append] at hw
    have hr := hw _ (.inl rfl)
    rw [hby] at hr
    simp only [List.length_map, List.length_range, reachBytes] at hr
    unfold maxLen at hm
    rw [hk] at hc
    have key : ∀ q, q ≤ len → ∃ (css : List (List Value)) (xs : List α), xs.length = q ∧ css.flatten.length = q * k ∧ All2 (R w fun _ => True) xs css ∧ (xs.map m).sum ≤ Rows.uptoBulkAll ((List.range q).map D) ∧ ∀ j u, css.flatten[j]? = some u → w.cell? (a.add j) = some u := by
      intro q
      induction q with
      | zero => exact fun _ => ⟨[], [], rfl, by simp, .nil, by simp, fun j u hu => by simp at hu⟩
      | succ q ih =>
        intro hq
        obtain ⟨css, xs, hxl, hfl, hall, hsum, hcc⟩ := ih (by omega)
        obtain ⟨cs', h1, h2⟩ := hc q (by omega)
        obtain ⟨y, hy, hym⟩ := hel _ _ _ h2 (fun n hn => hw n (.inr (.inl (weightsAll_mem (List.mem_map.2 ⟨q, List.mem_range.2 (by omega), rfl⟩) n hn))))
        obtain ⟨_, hl4, h4⟩ := World.cells?_some h1
        refine ⟨css ++ [cs'], xs ++ [y], by simp [hxl], by simp [hfl, hl4, Nat.succ_mul], hall.snoc hy, ?_, fun j u hu => ?_⟩
        · rw [bulk_all] at hsum ⊢
          rw [List.range_succ]
          simp only [List.map_append, List.sum_append, List.map_cons, List.map_nil, List.sum_cons, List.sum_nil]
          simp only [Nat.add_zero]
          exact Nat.add_le_add hsum hym
        · rw [List.flatten_append, List.getElem?_append] at hu
          split at hu
          · exact hcc j u hu
          · rename_i hj
            simp only [List.flatten_cons, List.flatten_nil, List.append_nil] at hu
            have hj : j - css.flatten.length < k := by rw [← hl4]; exact (List.getElem?_eq_some_iff.1 hu).1
            have h5 := h4 _ hj
            rw [hu] at h5
            have h6 := h4 0 (by omega)
            have hsp : a.add (q * k) = ⟨a.block, a.off + q * k, none⟩ := by
              have h7 := cell_spot (w := w) (a := (a.add (q * k))) (v := cs'[0]) (by
                rw [show (a.add (q * k)).add 0 = a.add (q * k) by simp [Addr.add]] at h6
                rw [h6, List.getElem?_eq_getElem (by omega)])
              rw [h7, add_block, add_off]
            rw [hsp, Addr.add_lit] at h5
            unfold Addr.add
            by_cases hj0 : j = 0
            · rw [if_pos hj0]
              subst hj0
              have hk0 : q * k = 0 := by omega
              have : a = ⟨a.block, a.off, none⟩ := by rw [hk0] at hsp; simpa [Addr.add] using hsp
              rw [this]
              rw [hk0] at h5
              simpa using h5
            · rw [if_neg hj0, ← h5]
              congr 2
              omega
    obtain ⟨css, xs, hxl, hfl, hall, hsum, hcc⟩ := key len (Nat.le_refl _)
    refine ⟨xs, ⟨some a, cap, css, by rw [hxl], by omega, by omega, ?_, ?_, hall⟩, ?_⟩
    · rw [hxl]
      have : len * bytes ≤ (len + (mm - len)) * bytes := Nat.mul_le_mul_right _ (by omega)
      omega
    · rw [hxl]
      refine ⟨hfl, fun h0 => ?_⟩
      have hpos : 0 < len * k := Nat.mul_pos h0 hk0
      obtain ⟨u0, hu0⟩ : ∃ u, css.flatten[0]? = some u := ⟨_, List.getElem?_eq_getElem (by omega)⟩
      have hs := hcc 0 u0 hu0
      have hsp : a = ⟨a.block, a.off, none⟩ := cell_spot (a := a) (by simpa [Addr.add] using hs)
      refine ⟨a.block, a.off, by rw [← hsp], trivial, ?_, fun j u hu => ?_⟩
      · have := World.block_lt_of_cell? w _ hs
        simpa [Addr.add] using this
      · have := hcc j u hu
        rwa [hsp, Addr.add_lit] at this
    · simp only [Rows.uptoBulk]
      omega
end
end Go.Proofs.YtjnolpfmchnnmaaGreatDoor
end
section
namespace Go.Proofs.YtjnolpfmchnnmaaGreatDoor
set_option maxRecDepth 100000
open Go.RowKit Go.ChangeShapes Go.WideShapes Go.Deep
instance : Inhabited (List UInt8) := ⟨[]⟩
section
variable {H : Type} {enc : TypeId × Value → H} {w : World} {base : Nat} {held : Bool} {spare : Nat → Bool}
theorem bytes_bs : Tryz.prog.bytesOf 35 = 24 := by kernel_rfl
set_option maxRecDepth 100000 in
theorem open_bv (fuel : Nat) (cs : List Value) (x : DataW H × List MemPlace) (h : DataW.trod enc Tryz.prog w base spare held fuel 35 cs = some x) (hw : ∀ n ∈ x.1.weights Tryz.prog 35, n ≤ reachBytes) :
    ∃ bs : List UInt8, bvR w (fun _ => True) bs cs ∧ bs.length ≤ Rows.uptoBulk x.1 := by
  have hone : ∃ v, cs = [v] := by
    rcases open_ints Tryz.underlying35 Tryz.underlying5 cells_u8 h with ⟨hv, _⟩ | ⟨a, len, cap, zs, hv, _⟩ <;> exact ⟨_, hv⟩
  obtain ⟨v, rfl⟩ := hone
  obtain ⟨bs, hb⟩ := open_byt h hw
  obtain ⟨A, c, rfl⟩ := slice_form hb
  exact ⟨bs, ⟨_, rfl, hb⟩, bulk_slice Tryz.underlying35 h⟩
set_option maxRecDepth 100000 in
theorem arg_bss {r : Reach} {b0 : Nat} {v : Value} {d : DataW H} {ps : List MemPlace} (hval : Value.okWide Tryz.prog w r b0 22 v) (hd : DataW.Trod enc Tryz.prog w base spare held 22 v d ps) (hw : ∀ n ∈ d.weights Tryz.prog 22, n ≤ reachBytes) :
    ∃ rs, BVs w (fun _ => True) v rs := by
  obtain ⟨n, hn⟩ := arg_slice Tryz.underlying22 hval hd
  obtain ⟨rs, h, _⟩ := open_rows (R := bvR) (by decide) Tryz.underlying22 cells_bs bytes_bs (fun bs => bs.length) open_bv hn hw
  exact ⟨rs, h⟩
end
end Go.Proofs.YtjnolpfmchnnmaaGreatDoor
end
