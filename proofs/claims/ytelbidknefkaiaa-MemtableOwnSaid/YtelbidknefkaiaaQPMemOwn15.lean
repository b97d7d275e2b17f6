/-
memtable's New, Len, from, Get.
-/
import Derived.Test.YtelbidknefkaiaaQPMemOwn14
section
namespace Go.Proofs.Ytelbidknefkaiaa
open Go.RowKit Go.BigFrame
attribute [local go_sem ↓] Go.wp_at_zero Go.wp_at_succ
theorem lastF_at {f m : Nat} {ns : List Nd} (hm : m ≤ ns.length) : ∃ p, p ≤ m ∧ At ns f p (lastF f (ns.take m)) ∧ ∀ x ∈ (ns.take m).drop p, up f x = false := by
  induction m with
  | zero => exact ⟨0, Nat.le_refl _, .inl ⟨rfl, rfl⟩, fun x hx => by simp at hx⟩
  | succ m ih =>
    obtain ⟨n, hn⟩ : ∃ n, ns[m]? = some n := ⟨_, List.getElem?_eq_getElem (by omega)⟩
    have e1 : ns.take (m + 1) = ns.take m ++ [n] := take_snoc hn
    rw [e1, lastF_append]
    by_cases hu : up f n = true
    · refine ⟨m + 1, Nat.le_refl _, ?_, fun x hx => ?_⟩
      · have : lastF f [n] = some n := by simp [lastF, hu]
        rw [this]
        exact .inr ⟨n, rfl, by omega, by simpa using hn, by simpa [up] using hu⟩
      · have hl : (ns.take m ++ [n]).length = m + 1 := by simp; omega
        rw [List.drop_eq_nil_of_le (by omega)] at hx
        simp at hx
    · have : lastF f [n] = none := by simp [lastF, hu]
      rw [this]
      obtain ⟨p, hp, hat, hno⟩ := ih (by omega)
      refine ⟨p, by omega, hat, fun x hx => ?_⟩
      have hl : (ns.take m).length = m := by simp; omega
      rw [List.drop_append_of_le_length (by omega)] at hx
      rcases List.mem_append.1 hx with h | h
      · exact hno x h
      · simp at h; subst h; simpa using hu
theorem split_drop {ns : List Nd} {m p : Nat} (hp : p ≤ m) : ns.drop p = (ns.take m).drop p ++ ns.drop m := by
  rw [List.drop_take]
  have : ns.drop m = (ns.drop p).drop (m - p) := by rw [List.drop_drop]; congr 1; omega
  rw [this, List.take_append_drop]
/-- what stands on floor f of the last node below: the first that is not below. -/
theorem SkipV.pred_next {w : World} {base T : Nat} {ns : List Nd} {hs : Value} {many : Int} (h : SkipV w base T ns hs many) {f m : Nat} (hf : f < 12) (hm : m ≤ ns.length) : w.cell? ⟨blkOf T (lastF f (ns.take m)), 4 + f, none⟩ = some (ptrN (nextF f (ns.drop m))) := by
  obtain ⟨p, hp, hat, hno⟩ := lastF_at (f := f) hm
  rw [h.next hat hf, split_drop hp, nextF_skip hno]
def allUp (ns : List Nd) : Prop := ∀ n ∈ ns, 0 < n.h
theorem next0 {ns : List Nd} (h : allUp ns) (m : Nat) : nextF 0 (ns.drop m) = ns[m]? := by
  cases hn : ns[m]? with
  | none => rw [List.drop_eq_nil_of_le (List.getElem?_eq_none_iff.1 hn)]; rfl
  | some n =>
    rw [List.drop_eq_getElem_cons (List.getElem?_eq_some_iff.1 hn).1, (List.getElem?_eq_some_iff.1 hn).2]
    unfold nextF
    rw [List.find?_cons]
    have : up 0 n = true := by simpa [up] using h n (List.mem_of_getElem? hn)
    rw [this]
theorem ahead12 (S : Nat → Prop) (base T : Nat) (ns : List Nd) (hs : Value) (many : Int) (v : Value) (e : Ent) (w : World) (h : SkipV w base T ns hs many) (hv : EntV w S v e) (pre : List Nd) (hp : ns.take (cnt e ns) = pre) :
    Calls Try.prog 37 #[.pointer (some ⟨T, 0, none⟩), v] w fun r w' => r = .returned (.agg #[pathV T pre 0, pathV T pre 1, pathV T pre 2, pathV T pre 3, pathV T pre 4, pathV T pre 5, pathV T pre 6, pathV T pre 7, pathV T pre 8, pathV T pre 9, pathV T pre 10, pathV T pre 11]) ∧ Below w.heap.size w w' := by
  subst hp
  exact ahead_any S base T ns hs many v e w h hv
theorem index0 (c0 c1 c2 c3 c4 c5 c6 c7 c8 c9 c10 c11 : Value) (w : World) : (Instr.index 69 (.agg #[c0, c1, c2, c3, c4, c5, c6, c7, c8, c9, c10, c11]) (.int .i64 0)).run Try.prog w = .ok c0 w := by
  simp [Instr.index, asIntOf, part, run_underlying Try.underlying69, go_sem]
set_option maxRecDepth 100000 in
set_option maxHeartbeats 2000000 in
theorem from_any (S : Nat → Prop) (base T : Nat) (ns : List Nd) (hs : Value) (many : Int) (v : Value) (key : List UInt8) (seq : Int) (w : World) (h : SkipV w base T ns hs many) (hu : allUp ns) (hv : Byt w S v key) :
    Calls Try.prog 33 #[.pointer (some ⟨T, 0, none⟩), v, .int .i64 seq] w fun r w' => r = .returned (ptrN (ns[cnt ⟨key, seq, false, []⟩ ns]?)) ∧ Below w.heap.size w w' := by
  obtain ⟨m, hm⟩ : ∃ m, cnt ⟨key, seq, false, []⟩ ns = m := ⟨_, rfl⟩
  obtain ⟨pre, hp⟩ : ∃ pre, ns.take m = pre := ⟨_, rfl⟩
  have hmn : m ≤ ns.length := hm ▸ cnt_le _ ns
  have HA := Lib.hid (ahead12 (fun _ => True) base T ns hs many (.agg #[v, .int .i64 seq, .bool false, .slice none 0 0]) ⟨key, seq, false, []⟩ w h ⟨_, _, rfl, hv.mono fun _ _ => trivial, Byt.nil _ _⟩ pre (by rw [hm]; exact hp))
  have HN : Hid (∀ w', Below w.heap.size w w' → w'.cell? ⟨blkOf T (lastF 0 pre), 4, none⟩ = some (ptrN (ns[m]?))) := Lib.hid fun w' hb => by
    have := (h.below hb).pred_next (f := 0) (m := m) (by omega) hmn
    rw [hp, next0 hu] at this
    exact this
  rw [hm]
  obtain ⟨A, c, rfl⟩ := slice_form hv
  clear hm hp h hv hmn
  have hidx := index0
  go_enter Try.func33, Try.ntmps33
  go_wp2_with (go_at_call 37; refine HA.out.mono ?_; rintro r w1 ⟨rfl, hb1⟩; have hn := HN.out w1 hb1; have HB := Lib.hid hb1; clear hb1; unfold pathV)
  refine bodyPost_ret (v := ptrN ns[m]?) (by simp [results, Try.results33, go_sem]) rfl ?_
  exact ⟨rfl, HB.out⟩
theorem box1 {w w' : World} {a b c d : Value} {t : TypeId} (hb : Below (w.alloc (.cells #[a, b, c, d] t)).heap.size (w.alloc (.cells #[a, b, c, d] t)) w') :
    (w'.cell? ⟨w.heap.size, 0, none⟩ = some a ∧ w'.cell? ⟨w.heap.size, 1, none⟩ = some b ∧ w'.cell? ⟨w.heap.size, 2, none⟩ = some c ∧ w'.cell? ⟨w.heap.size, 3, none⟩ = some d) ∧ ∀ i, w'.frozen? ⟨w.heap.size, i, none⟩ = false := by
  have hh : w'.heap[w.heap.size]? = some (.cells #[a, b, c, d] t) := (hb.block w.heap.size (by simp)).trans (heap_alloc_new w _)
  exact ⟨⟨cell_of_row _ _ _ _ _ _ hh, cell_of_row _ _ _ _ _ _ hh, cell_of_row _ _ _ _ _ _ hh, cell_of_row _ _ _ _ _ _ hh⟩, fun i => frozen_of_row _ _ _ _ _ hh⟩
theorem len_nil (w : World) : Calls Try.prog 16 #[.pointer none] w fun r w' => r = .returned (.int .i64 0) ∧ w = w' := by
  go_enter Try.func16, Try.ntmps16
  go_wp2
  refine bodyPost_ret (v := .int .i64 0) (by simp [results, Try.results16, go_sem]) rfl ?_
  exact ⟨rfl, rfl⟩
theorem len_any (base T : Nat) (ns : List Nd) (hs : Value) (many : Int) (w : World) (h : SkipV w base T ns hs many) : Calls Try.prog 16 #[.pointer (some ⟨T, 0, none⟩)] w fun r w' => r = .returned (.int .i64 many) ∧ w = w' := by
  have hc : w.cell? ⟨T, 17, none⟩ = some (.int .i64 many) := by
    obtain ⟨cs, h1, _, _, h2, _⟩ := h.tab
    rw [cell_of_row w T 17 cs _ _ h1]; exact h2
  clear h
  go_enter Try.func16, Try.ntmps16
  go_wp2
  refine bodyPost_ret (v := .int .i64 many) (by simp [results, Try.results16, go_sem]) rfl ?_
  exact ⟨rfl, rfl⟩
set_option maxHeartbeats 1000000 in
theorem get_nil (v : Value) (seq : Int) (w : World) : Calls Try.prog 11 #[.pointer none, v, .int .i64 seq] w fun r w' => r = .returned (.tuple #[.agg #[.slice none 0 0, .int .i64 0, .bool false, .slice none 0 0], .bool false, .int .i64 1]) ∧ Below w.heap.size w w' := by
  go_enter Try.func11, Try.ntmps11
  go_wp2
  refine bodyPost_ret (v := .tuple #[.agg #[.slice none 0 0, .int .i64 0, .bool false, .slice none 0 0], .bool false, .int .i64 1]) (by simp [results, Try.results11, go_sem]) rfl ?_
  refine ⟨rfl, ?_⟩
  repeat (first | exact (Below.refl _ _).alloc (Nat.le_refl _) _ | refine Below.setCell ?_ (by simp) _)
set_option maxHeartbeats 1000000 in
theorem put_nil (k u : Value) (e : Ent) (w : World) : Calls Try.prog 12 #[.pointer none, .agg #[k, .int .i64 e.seq, .bool e.dead, u]] w fun r w' => r = .returned (.int .i64 1) ∧ Below w.heap.size w w' := by
  go_enter Try.func12, Try.ntmps12
  go_wp2
  refine bodyPost_ret (v := .int .i64 1) (by simp [results, Try.results12, go_sem]) rfl ?_
  exact ⟨rfl, (Below.refl _ _).alloc (Nat.le_refl _) _⟩
/-- what Get answers. -/
def Got (w : World) (o : Option Nd) (key : List UInt8) (v : Value) (ok : Bool) : Prop := match o with
  | some n => if n.ent.key = key then ok = true ∧ EntV w (fun _ => True) v n.ent else ok = false
  | none => ok = false
theorem get_fin {w w1 : World} {o : Obj} (hb : Below (w.alloc o).heap.size (w.alloc o) w1) (a b c d : Value) :
    Below w.heap.size w ((((w1.setCell ⟨w.heap.size, 0, none⟩ a).setCell ⟨w.heap.size, 1, none⟩ b).setCell ⟨w.heap.size, 2, none⟩ c).setCell ⟨w.heap.size, 3, none⟩ d) ∧ Only (fun i => i = w.heap.size) w1 ((((w1.setCell ⟨w.heap.size, 0, none⟩ a).setCell ⟨w.heap.size, 1, none⟩ b).setCell ⟨w.heap.size, 2, none⟩ c).setCell ⟨w.heap.size, 3, none⟩ d) := by
  have ho : Only (fun i => i = w.heap.size) w1 ((((w1.setCell ⟨w.heap.size, 0, none⟩ a).setCell ⟨w.heap.size, 1, none⟩ b).setCell ⟨w.heap.size, 2, none⟩ c).setCell ⟨w.heap.size, 3, none⟩ d) := ((((Only.refl (fun i => i = w.heap.size) _).setCell (p := ⟨w.heap.size, 0, none⟩) rfl _).setCell (p := ⟨w.heap.size, 1, none⟩) rfl _).setCell (p := ⟨w.heap.size, 2, none⟩) rfl _).setCell (p := ⟨w.heap.size, 3, none⟩) rfl _
  have hz := hb.size
  have h1 : Below w.heap.size w w1 := ((Below.refl _ _).alloc (Nat.le_refl _) o).trans (hb.mono (by simp))
  exact ⟨h1.trans (ho.below h1.size (fun i hi => by omega)), ho⟩
set_option maxRecDepth 100000 in
set_option maxHeartbeats 2000000 in
theorem get_any (S : Nat → Prop) (base T : Nat) (ns : List Nd) (hs : Value) (many : Int) (v : Value) (key : List UInt8) (seq : Int) (w : World) (h : SkipV w base T ns hs many) (hu : allUp ns) (hv : Byt w S v key) :
    Calls Try.prog 11 #[.pointer (some ⟨T, 0, none⟩), v, .int .i64 seq] w fun r w' => ∃ k s d u ok, r = .returned (.tuple #[.agg #[k, s, d, u], .bool ok, .int .i64 0]) ∧ Got w' (ns[cnt ⟨key, seq, false, []⟩ ns]?) key (.agg #[k, s, d, u]) ok ∧ Below w.heap.size w w' := by
  obtain ⟨o, ho⟩ : ∃ o, ns[cnt ⟨key, seq, false, []⟩ ns]? = o := ⟨_, rfl⟩
  have hal : Below w.heap.size w (w.alloc (.cells #[.slice none 0 0, .int .i64 0, .bool false, .slice none 0 0] 26)) := (Below.refl _ _).alloc (Nat.le_refl _) _
  have HF := from_any S base T ns hs many v key seq _ (h.below hal) hu (hv.below hal)
  rw [ho] at HF ⊢
  have HF' := Lib.hid HF
  have H := Lib.hid h
  have HV := Lib.hid hv
  have HO := Lib.hid ho
  have HAL := Lib.hid hal
  obtain ⟨A, c, rfl⟩ := slice_form hv
  clear hu hv h hal HF ho
  cases o with
  | none =>
    go_enter Try.func11, Try.ntmps11
    go_wp2_with (go_at_call 33; refine HF'.out.mono ?_; rintro r w1 ⟨rfl, hb1⟩; obtain ⟨⟨z0, z1, z2, z3⟩, zf⟩ := box1 hb1; have HB := Lib.hid hb1; clear hb1; unfold ptrN)
    refine bodyPost_ret (v := .tuple #[.agg #[.slice none 0 0, .int .i64 0, .bool false, .slice none 0 0], .bool false, .int .i64 0]) (by simp [results, Try.results11, go_sem, z0, z1, z2, z3]) rfl ?_
    exact ⟨_, _, _, _, _, rfl, rfl, (get_fin HB.out _ _ _ _).1⟩
  | some n =>
    have hn := HO.out
    by_cases hk : n.ent.key = key
    · have HKE := Lib.hid hk
      clear hk
      go_enter Try.func11, Try.ntmps11
      go_wp2_with (first
        | (go_at_call 33; refine HF'.out.mono ?_; rintro r w1 ⟨rfl, hb1⟩; obtain ⟨⟨z0, z1, z2, z3⟩, zf⟩ := box1 hb1; have HB := Lib.hid hb1; have HS := Lib.hid ((H.out.below HAL.out).below hb1); obtain ⟨n0, n1, n2, n3⟩ := HS.out.cells HO.out; clear hb1; unfold ptrN)
        | (go_at_call 34; refine (bequal_any _ S n.k _ n.ent.key key w1 (HS.out.byt n (List.mem_of_getElem? HO.out)).1 ((HV.out.below HAL.out).below HB.out)).mono ?_; rintro r w2 ⟨rfl, rfl⟩; rw [decide_eq_true HKE.out])
        | (go_at_call 35; refine (ecloneL_any _ _ n.ent w1 (HS.out.ent (List.mem_of_getElem? HO.out))).mono ?_; rintro r w2 ⟨v', rfl, ⟨k', u', rfl, hk', hu'⟩, hb2⟩; obtain ⟨Ak, ck, rfl⟩ := slice_form hk'; obtain ⟨Au, cu, rfl⟩ := slice_form hu'; obtain ⟨⟨y0, y1, y2, y3⟩, yf⟩ := box1 (HB.out.trans (hb2.mono HB.out.size)); have HB2 := Lib.hid hb2; have HK := Lib.hid hk'; have HU := Lib.hid hu'; clear hb2 hk' hu'))
      refine bodyPost_ret (v := .tuple #[.agg #[.slice Ak n.ent.key.length ck, .int .i64 n.ent.seq, .bool n.ent.dead, .slice Au n.ent.val.length cu], .bool true, .int .i64 0]) (by simp [results, Try.results11, go_sem, y0, y1, y2, y3]) rfl ?_
      obtain ⟨g1, g2⟩ := get_fin (HB.out.trans (HB2.out.mono HB.out.size)) (.slice Ak n.ent.key.length ck) (.int .i64 n.ent.seq) (.bool n.ent.dead) (.slice Au n.ent.val.length cu)
      have hz : w.heap.size + 1 ≤ w1.heap.size := by have := HB.out.size; simpa using this
      refine ⟨_, _, _, _, _, rfl, ?_, g1⟩
      rw [Got, if_pos HKE.out]
      have go : ∀ v bs, BytL w2 w1.heap.size v bs → Byt _ (fun _ => True) v bs := fun v bs h => Byt.mono (Byt.only h.byt g2 (fun i _ hi he => by omega)) fun _ _ => trivial
      exact ⟨rfl, _, _, rfl, go _ _ HK.out, go _ _ HU.out⟩
    · go_enter Try.func11, Try.ntmps11
      go_wp2_with (first
        | (go_at_call 33; refine HF'.out.mono ?_; rintro r w1 ⟨rfl, hb1⟩; obtain ⟨⟨z0, z1, z2, z3⟩, zf⟩ := box1 hb1; have HB := Lib.hid hb1; have HS := Lib.hid ((H.out.below HAL.out).below hb1); obtain ⟨n0, n1, n2, n3⟩ := HS.out.cells HO.out; clear hb1; unfold ptrN)
        | (go_at_call 34; refine (bequal_any _ S n.k _ n.ent.key key w1 (HS.out.byt n (List.mem_of_getElem? HO.out)).1 ((HV.out.below HAL.out).below HB.out)).mono ?_; rintro r w2 ⟨rfl, rfl⟩; rw [decide_eq_false hk]))
      refine bodyPost_ret (v := .tuple #[.agg #[.slice none 0 0, .int .i64 0, .bool false, .slice none 0 0], .bool false, .int .i64 0]) (by simp [results, Try.results11, go_sem, z0, z1, z2, z3]) rfl ?_
      exact ⟨_, _, _, _, _, rfl, by simp [Got, hk], (get_fin HB.out _ _ _ _).1⟩
end Go.Proofs.Ytelbidknefkaiaa
end
