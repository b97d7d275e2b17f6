/-
The walks of the laws MergeThins and MergeVisible: each returns true and writes nothing that was there.
-/
import Derived.Test.YtacdhkkelkplnaaQPKeeps13
import Derived.Test.YtacdhkkelkplnaaQPKeeps10
import Derived.Test.YtacdhkkelkplnaaQPKeeps9
import Derived.Test.YtacdhkkelkplnaaQPKeeps3
import Derived.Test.YtacdhkkelkplnaaQPKeeps4
section
namespace Go.Proofs.Ytacdhkkelkplnaa
open Go.RowKit Go.BigFrame Go.Sort
attribute [local go_sem ↓] Go.wp_at_zero Go.wp_at_succ
def bottomC (ts : List Tbl) (zs : List Int) (lv : Int) : Bool := match ts.filter fun t => decide (t.id ∈ zs) with
  | [] => true
  | t0 :: r => !(ts.any fun t => decide (lv < t.level) && meetsB (lowOf t0 r) (highOf t0 r) t)
set_option maxRecDepth 100000 in
set_option maxHeartbeats 4000000 in
theorem bottom_any (S S' : Nat → Prop) (v vi : Value) (ts : List Tbl) (zs : List Int) (lg sq nx lv : Int) (w : World) (hv : TabsV w S v ts) (hi : IntsIn w S' vi zs) :
    Calls Try.prog 22 #[.agg #[v, .int .i64 lg, .int .i64 sq, .int .i64 nx], vi, .int .i64 lv] w fun r w' => r = .returned (.bool (bottomC ts zs lv)) ∧ fr w w' := by
  have hmf : ∀ (fn : Fn) (first cap : Array Value) (w : World), (Instr.makeFunc fn first cap).run Try.prog w = .ok (.func fn first cap) w := fun _ _ _ _ => rfl
  have eg1 : ∀ args w, (callFunc 42 args).run Try.prog w = .ok (.enter 42 args) w := fun args w => by kernel_rfl
  have eg2 : ∀ args w, (callFunc 45 args).run Try.prog w = .ok (.enter 45 args) w := fun args w => by kernel_rfl
  have eg4 : ∀ args w, (callFunc 59 args).run Try.prog w = .ok (.enter 59 args) w := fun args w => by kernel_rfl
  obtain ⟨A, c, rfl⟩ := hv.form
  obtain ⟨n, hn⟩ : ∃ n, ts.length = n := ⟨_, rfl⟩
  have hmany : ts.length * 72 ≤ 140737488355328 := by obtain ⟨_, _, _, _, _, _, h3, _⟩ := hv; exact h3
  obtain ⟨B, d, rfl, hi1, hi2, hi3⟩ : ∃ B d, vi = .slice B zs.length d ∧ zs.length ≤ d ∧ zs.length ≤ 140737488355328 ∧ Row w S' B zs.length 1 (zs.map (Value.int .i64)) := hi
  obtain ⟨zn, hzn⟩ : ∃ zn, zs.length = zn := ⟨_, rfl⟩
  have HI : Hid (IntsIn w S' (.slice B zs.length d) zs) := Lib.hid ⟨B, d, rfl, hi1, hi2, hi3⟩
  rw [hn] at hv hmany ⊢
  rw [hzn] at HI ⊢
  have HLN := Lib.hid hn
  have H := Lib.hid hv
  have E1 := Lib.hid eg1
  have E2 := Lib.hid eg2
  have E4 := Lib.hid eg4
  clear hn hv eg1 eg2 eg4 hi1 hi2 hi3 hzn
  have hfw : fr w (((w.alloc (.cells #[.slice A n c, .int .i64 lg, .int .i64 sq, .int .i64 nx] 54)).alloc (.cells #[.slice B zn d] 22)).alloc (.cells #[.int .i64 lv] 3)) := fr.alloc (fr.alloc (fr.alloc fr.refl _) _) _
  have P0 : (((w.alloc (.cells #[.slice A n c, .int .i64 lg, .int .i64 sq, .int .i64 nx] 54)).alloc (.cells #[.slice B zn d] 22)).alloc (.cells #[.int .i64 lv] 3)).heap[w.heap.size]? = some (.cells #[.slice A n c, .int .i64 lg, .int .i64 sq, .int .i64 nx] 54 (0, 0)) := (Below.heap_alloc _ _ _ (by simp; omega)).trans ((Below.heap_alloc _ _ _ (by simp)).trans (heap_alloc_new w _))
  have O1 : OneV (((w.alloc (.cells #[.slice A n c, .int .i64 lg, .int .i64 sq, .int .i64 nx] 54)).alloc (.cells #[.slice B zn d] 22)).alloc (.cells #[.int .i64 lv] 3)) (w.heap.size + 1) (.slice B zn d) := ⟨22, (Below.heap_alloc _ _ _ (by simp)).trans (heap_at_new _ trivial (by simp))⟩
  have O2 : OneV (((w.alloc (.cells #[.slice A n c, .int .i64 lg, .int .i64 sq, .int .i64 nx] 54)).alloc (.cells #[.slice B zn d] 22)).alloc (.cells #[.int .i64 lv] 3)) (w.heap.size + 1 + 1) (.int .i64 lv) := ⟨3, heap_at_new _ trivial (by simp)⟩
  have OA := only_any _ _ ts 42 #[.pointer (some ⟨w.heap.size + 1, 0, none⟩)] (fun t => decide (t.id ∈ zs)) (((w.alloc (.cells #[.slice A n c, .int .i64 lg, .int .i64 sq, .int .i64 nx] 54)).alloc (.cells #[.slice B zn d] 22)).alloc (.cells #[.int .i64 lv] 3)) E1.out (H.out.below tbFine hfw) (ids_pred _ _ _ _ _ O1 (HI.out.below hfw))
  obtain ⟨own, hown⟩ : ∃ own, (ts.filter fun t => decide (t.id ∈ zs)) = own := ⟨_, rfl⟩
  have hon : own.length ≤ n := by rw [← hown, ← HLN.out]; exact List.length_filter_le _ _
  unfold bottomC
  rw [hown] at OA ⊢
  have OA' := Lib.hid OA
  have HO2 := Lib.hid O2
  clear OA hown O1 O2
  cases own with
  | nil =>
    go_enter Try.func22, Try.ntmps22
    go_wp2_with (go_at_call 32; refine OA'.out.mono ?_; rintro r w2 ⟨v2, rfl, ho2, hf2⟩; obtain ⟨A2, c2, rfl⟩ := ho2.form)
    refine bodyPost_ret (v := .bool true) (by simp [results, Try.results22, go_sem]) rfl ?_
    exact ⟨rfl, fr.step hfw hf2⟩
  | cons t0 r =>
    obtain ⟨m, hm⟩ : ∃ m, (t0 :: r).length = m := ⟨_, rfl⟩
    have hm0 : ((m : Int) == 0) = false := by rw [← hm]; simp; omega
    obtain ⟨x, hx⟩ : ∃ x, (ts.any fun t => decide (lv < t.level) && meetsB (lowOf t0 r) (highOf t0 r) t) = x := ⟨_, rfl⟩
    simp only [hx]
    have HX := Lib.hid hx
    have HM := Lib.hid hm
    rw [hm] at hon
    clear hm hx
    go_enter Try.func22, Try.ntmps22
    go_wp2_with (first
      | (go_at_call 32; refine OA'.out.mono ?_; rintro rr w2 ⟨v2, rfl, ho2, hf2⟩; obtain ⟨A2, c2, hv2⟩ := ho2.form; rw [HM.out] at hv2; subst hv2; have hf0 := fr.step hfw hf2)
      | (go_at_call 37; refine (overlap_any _ _ t0 r w2 (ho2.tabs (by rw [HM.out]; omega))).mono ?_; rintro rr w3 ⟨Lo, Hi, rfl, hpd, hf3⟩; have d0 : (w3.alloc (.cells #[.func (.func 59) #[] #[.pointer (some ⟨Hi, 0, none⟩), .pointer (some ⟨Lo, 0, none⟩)]] 78)).cell? ⟨w.heap.size, 0, none⟩ = some (.slice A n c) := cell_of_row _ _ 0 _ _ _ (fr.hp (fr.alloc (fr.step hf2 hf3) _) P0))
      | (go_at_call 44; refine (containsF_any _ _ ts 45 #[.pointer (some ⟨w.heap.size + 1 + 1, 0, none⟩), .pointer (some ⟨w3.heap.size, 0, none⟩)] (fun t => decide (lv < t.level) && meetsB (lowOf t0 r) (highOf t0 r) t) _ E2.out (H.out.below tbFine (fr.alloc (fr.step hf0 hf3) _)) (below_pred _ _ _ _ _ _ _ E4.out (HO2.out.fr (fr.alloc (fr.step hf2 hf3) _)) ⟨_, heap_alloc_new w3 _⟩ (hpd.later (fr.alloc fr.refl _)))).mono ?_; rintro rr w5 ⟨rfl, hf5⟩; rw [HX.out]))
    refine bodyPost_ret (v := .bool !x) (by simp [results, Try.results22, go_sem]) rfl ?_
    exact ⟨rfl, fr.step (fr.alloc (fr.step hf0 hf3) _) hf5⟩
end Go.Proofs.Ytacdhkkelkplnaa
end
section
namespace Go.Proofs.Ytacdhkkelkplnaa
open Go.RowKit Go.BigFrame
attribute [local go_sem ↓] Go.wp_at_zero Go.wp_at_succ
theorem cutE_nil (size : Int) (p : List Ent) : cutE size p [] = if p.length = 0 then [] else [p] := by unfold cutE; rfl
def runL (ls : List (List Ent)) (mark : Int) (bottom : Bool) (size : Int) : List (List Ent) :=
  if size < 1 then [] else if (mergeC ls).2 = 0 then cutE size [] (thinC mark bottom [] (mergeC ls).1) else []
def runN (ls : List (List Ent)) (size : Int) : Int := if size < 1 then 2 else (mergeC ls).2
theorem cutE_ne {size : Int} (hs : 1 ≤ size) {T : List Ent} : ∀ p ∈ cutE size [] T, p ≠ [] := fun p hp => by
  obtain ⟨i, hi⟩ := List.mem_iff_getElem?.1 hp
  exact ((cutE_all hs T).at_ hi).1
theorem take_join {α : Type} (T : List α) {f k : Nat} (hf : f ≤ k) : T.take f ++ (T.drop f).take (k - f) = T.take k := by
  conv => rhs; rw [show k = f + (k - f) by omega, List.take_add]
/-- where the pieces lie. -/
def Lain (A : Option Addr) (P : List (List Ent)) (ys : List Value) : Prop := ∀ (i : Nat) (p : List Ent), P[i]? = some p → ∃ g, A = some ⟨g, 0, none⟩ ∧ ys[i]? = some (.slice (some ⟨g, (P.take i).flatten.length * 4, none⟩) p.length p.length)
theorem pieces_push {g f m : Nat} {P : List (List Ent)} {ys : List Value} {p : List Ent} (hl : ys.length = P.length) (h : Lain (some ⟨g, 0, none⟩) P ys) (hf : P.flatten.length = f) (hm : p.length = m) :
    Lain (some ⟨g, 0, none⟩) (P ++ [p]) (ys ++ [.slice (some ⟨g, f * 4, none⟩) m m]) := by
  intro i q hq
  by_cases hi : i < P.length
  · rw [List.getElem?_append_left hi] at hq
    obtain ⟨g', e, hy⟩ := h i q hq
    refine ⟨g', e, ?_⟩
    rw [List.getElem?_append_left (by omega), hy, List.take_append_of_le_length (by omega)]
  · have hi' : i = P.length := by
      have := (List.getElem?_eq_some_iff.1 hq).1
      rw [List.length_append, List.length_singleton] at this
      omega
    subst hi'
    rw [List.getElem?_append_right (Nat.le_refl _), Nat.sub_self] at hq
    simp only [List.getElem?_cons_zero, Option.some.injEq] at hq
    subst hq
    refine ⟨g, rfl, ?_⟩
    rw [List.getElem?_append_right (by omega), hl, Nat.sub_self, List.take_left, hf, hm]
    rfl
/-- the pieces of one row, as a slice of slices. -/
theorem pieces_lists {w w' : World} {lo base n c : Nat} {A A3 : Option Addr} {c3 : Nat} {T : List Ent} {P : List (List Ent)} {ys : List Value} {b3 : Nat} (hT : OwnE w base (.slice A n c) T) (hb : Below w.heap.size w w') (hlo : lo ≤ base) (hl : T.length * 64 ≤ 140737488355328)
    (hown : w'.ownsRow b3 41 1 (.slice A3 P.length c3) P.length ys) (hb3 : lo ≤ b3) (hy : Lain A P ys) (hfl : P.flatten = T) (hne : ∀ p ∈ P, p ≠ []) : Lists2 w' (hardB w' lo) (softB w' lo) (.slice A3 P.length c3) P := by
  have hlim := own_lim hown
  have hpl := pieces_len P hne
  rw [hfl] at hpl
  refine ⟨A3, c3, ys, rfl, hlim.1, hlim.2, by omega, ⟨hown.1, fun h0 => ?_⟩, fun i l hi => ?_⟩
  · obtain ⟨g, c', hA, hbg, hgz, _, _⟩ := own_pos hown h0
    injection hA with hA
    subst hA
    refine ⟨g, 0, rfl, hardB.of_own hown (by decide) rfl hb3, hgz, fun j u hu => ?_⟩
    have := hown.cells (g := g) rfl j u hu
    rwa [Addr.add_lit] at this
  · obtain ⟨g, rfl, hyi⟩ := hy i l hi
    obtain ⟨h1, h2⟩ := sub_piece ⟨[], by rw [List.append_nil, hfl]⟩ hi
    refine ⟨_, hyi, ?_⟩
    have h3 := (hT.below hb).piece hl (f := (P.take i).flatten.length) (m := l.length) (by rw [hfl] at h2; exact h2)
    rw [h1] at h3
    exact h3.imp (fun _ _ _ _ hr => hr.mono fun _ hi => ⟨by have := hi.1; omega, hi.2⟩) (fun _ _ hx => hx.mono fun _ hi => ⟨by have := hi.1; omega, hi.2⟩)
set_option maxRecDepth 10000 in
theorem clip_any (g o n c : Nat) (w : World) (hn : n ≤ c) :
    Calls Try.prog 26 #[.slice (some ⟨g, o, none⟩) n c] w fun r w' => r = .returned (.slice (some ⟨g, o, none⟩) n n) ∧ Below w.heap.size w w' := by
  go_enter Try.func26, Try.ntmps26
  go_wp2
  refine bodyPost_ret (v := .slice (some ⟨g, o, none⟩) n n) (by simp [results, Try.results26, go_sem]) rfl ?_
  exact ⟨rfl, Below.refl _ _⟩
set_option maxRecDepth 100000 in
set_option maxHeartbeats 4000000 in
theorem run_any (S : Nat → Prop) (v : Value) (ls : List (List Ent)) (mark : Int) (bottom : Bool) (size : Int) (w : World) (hv : Lists w S v ls) (hS : ∀ i, S i → i < w.heap.size) (hN : total ls * 64 ≤ 140737488355328) :
    Calls Try.prog 10 #[v, .int .i64 mark, .bool bottom, .int .i64 size] w fun r w' => ∃ v', r = .returned (.tuple #[v', .int .i64 (runN ls size)]) ∧ Lists2 w' (hardB w' w.heap.size) (softB w' w.heap.size) v' (runL ls mark bottom size) ∧ Below w.heap.size w w' := by
  obtain ⟨i0, hi, hz0, hz1, hz2⟩ := info_parts info22
  have hby := Lib.hid hz2
  have hz1' := Lib.hid hz1
  clear hz2 hz1
  have HM := Lib.hid (mergeL_any S v ls w hv hS hN)
  obtain ⟨M, hM⟩ : ∃ M, mergeC ls = M := ⟨_, rfl⟩
  obtain ⟨rs, e⟩ := M
  have hmo : e = 0 → orderedE rs = true ∧ rs.length ≤ total ls := fun h => by have := merge_ordered (ls := ls); rw [hM] at this; exact this h
  rw [hM] at HM
  unfold runL runN
  rw [hM]
  have HMO := Lib.hid hmo
  have HN := Lib.hid hN
  clear hv hS hM hmo hN
  by_cases hs : size < 1
  · rw [if_pos hs, if_pos hs]
    go_enter Try.func10, Try.ntmps10
    go_wp2
    refine bodyPost_ret (v := .tuple #[_, _]) (by simp [results, Try.results10, go_sem]; exact ⟨rfl, rfl⟩) rfl ?_
    exact ⟨_, rfl, Lists2.nil _ _ _, Below.refl _ _⟩
  rw [if_neg hs, if_neg hs]
  by_cases he : e = 0
  case neg =>
    rw [if_neg he]
    have heb : (e == 0) = false := by simp [he]
    go_enter Try.func10, Try.ntmps10
    go_wp2_with fail
    refine HM.out.mono ?_
    rintro r w1 ⟨v1, rfl, ho1, hb1⟩
    go_wp2
    refine bodyPost_ret (v := .tuple #[_, _]) (by simp [results, Try.results10, go_sem]; exact ⟨rfl, rfl⟩) rfl ?_
    exact ⟨_, rfl, Lists2.nil _ _ _, hb1⟩
  case pos =>
    rw [if_pos he]
    subst he
    obtain ⟨hord, hlen⟩ := HMO.out rfl
    obtain ⟨T, hT⟩ : ∃ T, thinC mark bottom [] rs = T := ⟨_, rfl⟩
    have hTl : T.length ≤ rs.length := by rw [← hT]; exact (thinC_sub mark bottom rs []).length_le
    obtain ⟨n, hn⟩ : ∃ n, T.length = n := ⟨_, rfl⟩
    have hnb : n * 64 ≤ 140737488355328 := by have := HN.out; omega
    have HT : Hid (∀ v1 w1 b, OwnE w1 b v1 rs → Calls Try.prog 24 #[v1, .int .i64 mark, .bool bottom] w1 fun r w' => ∃ A c, r = .returned (.tuple #[.slice A n c, .int .i64 0]) ∧ OwnE w' w1.heap.size (.slice A n c) T ∧ Below w1.heap.size w1 w') := Lib.hid fun v1 w1 b h1 => by
      have := thinL_any _ _ rs mark bottom w1 (h1.ents (by have := HN.out; omega))
      rw [if_pos hord, if_pos hord, hT] at this
      refine this.mono ?_
      rintro r w' ⟨v', rfl, h2, h3⟩
      obtain ⟨A, c, rfl⟩ := h2.form
      rw [hn] at h2 ⊢
      exact ⟨A, c, rfl, h2, h3⟩
    rw [hT]
    have HN2 := Lib.hid hn
    have HNB := Lib.hid hnb
    clear hT hord hTl hn hlen HMO HN
    go_enter Try.func10, Try.ntmps10
    go_wp2_with fail
    refine HM.out.mono ?_
    rintro r w1 ⟨v1, rfl, ho1, hb1⟩
    have HO1 := Lib.hid ho1
    have HB1 := Lib.hid hb1
    clear ho1 hb1 HM
    go_wp2_with fail
    refine (HT.out _ _ _ HO1.out).mono ?_
    rintro r w2 ⟨A, c, rfl, ho2, hb2⟩
    have HO2 := Lib.hid ho2
    have HB2 := Lib.hid (HB1.out.trans (hb2.mono HB1.out.size))
    have hz2 := HB2.out.size
    clear HT ho2 hb2 HO1
    go_wp2_with fail
    go_loopw [12, 13, 37] (fun x y t wr => ∃ (k f : Nat) (P : List (List Ent)) (ys : List Value), k ≤ n ∧ f ≤ k ∧ (0 < k → f < k) ∧ t = .int .i64 k ∧ y = .int .i64 f ∧ P.flatten = T.take f ∧ P ++ cutE size ((T.drop f).take (k - f)) (T.drop k) = cutE size [] T ∧ wr.ownsRow w2.heap.size 41 1 x P.length ys ∧
      Lain A P ys ∧ Below w2.heap.size w2 wr) (fun _ _ t _ => n - (intOf t).toNat)
    case atStart => exact ⟨0, 0, [], [], Nat.zero_le _, Nat.le_refl _, fun h => absurd h (by omega), rfl, rfl, rfl, by simp, World.ownsRow_nil _ _ _ _, fun i p h => by simp at h, Below.refl _ _⟩
    case round =>
      obtain ⟨k, f, P, ys, hk, hf, hfk, rfl, rfl, hfl, hcut, hown, hys, hbel⟩ := hrel
      obtain ⟨A3, c3, rfl⟩ := own_form hown
      have HO := Lib.hid hown
      have HY := Lib.hid hys
      have HB := Lib.hid hbel
      have HCUT := Lib.hid hcut
      have HFL := Lib.hid hfl
      clear hown hys hbel hcut hfl
      by_cases hkn : k < n
      · obtain ⟨e, he⟩ : ∃ e, T[k]? = some e := ⟨_, List.getElem?_eq_getElem (by rw [HN2.out]; exact hkn)⟩
        have HE := Lib.hid he
        have hfl1 : (T.drop f).take (k + 1 - f) = (T.drop f).take (k - f) ++ [e] := sub_snoc he hf
        have HSTEP := Lib.hid (cutE_step (size := size) he ((T.drop f).take (k - f)))
        have HF1 := Lib.hid hfl1
        have hpl : ((T.drop f).take (k - f)).length = k - f := sub_len hf (by rw [HN2.out]; exact hk)
        have HPL := Lib.hid hpl
        clear he hfl1 hpl
        by_cases hlen : (k : Int) - f ≥ size
        · have hge : decide (size ≤ IntKind.i64.wrap ((k : Int) - f)) = true := by rw [IntWalk.i64_in _ (by omega)]; simpa using hlen
          have hk1 : 1 ≤ k := by omega
          have hfk' : f < k := hfk (by omega)
          obtain ⟨e', he'⟩ : ∃ e', T[k - 1]? = some e' := ⟨_, List.getElem?_eq_getElem (by rw [HN2.out]; omega)⟩
          obtain ⟨A', c', cs, hE, hc1, hc2, hc3, hrow, hcel⟩ := (HO2.out.below HB.out).ents (by rw [HN2.out]; exact HNB.out)
          injection hE with e1 e2 e3
          subst e1 e3
          clear e2
          rw [HN2.out] at hrow
          obtain ⟨b1, o1, k1, u1, rfl, x0, x1, x2, x3, z1, z2, _, _⟩ := hrow.ent hcel HN2.out he'
          obtain ⟨b2, o2, k2, u2, hE, y0, y1, y2, y3, z3, z4, _, _⟩ := hrow.ent hcel HN2.out HE.out
          cases hE
          obtain ⟨q, qc, hq, hq0, hq1, hq2⟩ := HO2.out.pos (by rw [HN2.out]; omega)
          rw [HN2.out] at hq hq1
          cases hq
          rw [Nat.zero_add] at x0 y0
          have hwk : IntKind.i64.wrap ((k : Int) - 1) = ((k - 1 : Nat) : Int) := by rw [IntWalk.i64_in _ (by omega)]; omega
          have hkn1 : k - 1 < n := by omega
          have HQ : Hid (∀ m, Calls Try.prog 25 #[k1, k2] (wr.drewN m) fun r w' => r = .returned (.bool (decide (e'.key = e.key))) ∧ w' = wr.drewN m) := Lib.hid fun m => (bequal_any _ _ _ _ _ _ (wr.drewN m) (z1.drewN m) (z3.drewN m)).mono fun _ _ h => ⟨h.1, h.2.symm⟩
          have HKL : Hid (lastKey ((T.drop f).take (k - f)) = e'.key) := Lib.hid (by have := lastKey_sub he' (f := f) (by omega); rwa [show k - 1 + 1 - f = k - f by omega] at this)
          clear hrow hcel x1 x2 x3 y1 y2 y3 z2 z4 he'
          by_cases hke : e'.key = e.key
          · have hd : decide (e'.key = e.key) = true := by simpa using hke
            rw [hd] at HQ
            go_wp2_with fail
            go_quiet ((go_at_call 25; exact Calls.quiet_of_same (HQ.out _)))
            go_wp2_with fail
            refine ⟨⟨k + 1, f, P, ys, by omega, by omega, fun _ => by omega, by go_num, rfl, HFL.out, ?_, HO.out, HY.out, below_drewN HB.out _⟩, by simp [intOf]; omega⟩
            rw [HF1.out, ← HCUT.out, HSTEP.out, if_neg]
            unfold cutNow
            rw [HKL.out, hd]
            simp
          · have hd : decide (e'.key = e.key) = false := by simpa using hke
            rw [hd] at HQ
            go_wp2_with fail
            go_quiet ((go_at_call 25; exact Calls.quiet_of_same (HQ.out _)))
            have HOq : Hid ((wr.drewN nq).ownsRow w2.heap.size 41 1 (.slice A3 P.length c3) P.length ys) := HO
            have HBq : Hid (Below w2.heap.size w2 (wr.drewN nq)) := Lib.hid (below_drewN HB.out nq)
            generalize wr.drewN nq = wq at HOq HBq ⊢
            have hzq := HBq.out.size
            have hal : Below wq.heap.size wq (wq.alloc (.cells #[.slice (some ⟨b1, f * 4, none⟩) (k - f) (k - f)] 41)) := (Below.refl _ _).alloc (Nat.le_refl _) _
            have hPn : P.length ≤ k := by
              have h1 := pieces_len P (fun p hp => cutE_ne (by omega) (T := T) p (by rw [← HCUT.out]; exact List.mem_append_left _ hp))
              rw [HFL.out, List.length_take] at h1
              omega
            go_wp2_with (at_builtin; refine wpList_append_own_at _ rfl _ _ 30 rfl w2.heap.size 41 i0 _ 1 24 Try.underlying30 hi hz0 hz1'.out hby.out rfl (by decide) _ _ _ rfl (own_below HOq.out hal) ⟨wq.heap.size, 0, none⟩ 1 1 [.slice (some ⟨b1, f * 4, none⟩) (k - f) (k - f)] rfl rfl (cell_one_new _ _ _) (by simp [Value.oneCell']) (by unfold maxLen; omega) (by omega) (by simp; omega) ?_; intro v' w3 hown' hgrow hnn hat; clear hnn)
            refine ⟨⟨k + 1, k, P ++ [(T.drop f).take (k - f)], _, by omega, by omega, fun _ => by omega, by go_num, rfl, ?_, ?_, by rw [List.length_append]; exact hown', ?_, (HBq.out.alloc (by omega) _).grown hgrow (by simp; omega) (fun j e => (HOq.out.lt j e).1)⟩, by simp [intOf]; omega⟩
            · rw [List.flatten_append, HFL.out, List.flatten_singleton]
              exact take_join T hf
            · have h1 : cutNow size ((T.drop f).take (k - f)) e = true := by
                unfold cutNow
                rw [HPL.out, HKL.out, hd]
                simp only [Bool.not_false, Bool.and_true, decide_eq_true_eq]
                omega
              have h2 := HSTEP.out
              rw [if_pos h1] at h2
              rw [← HCUT.out, h2, sub_snoc HE.out (Nat.le_refl _)]
              simp
            · exact pieces_push (by have := HOq.out.1; omega) HY.out (by rw [HFL.out, List.length_take, HN2.out]; omega) HPL.out
        · have hge : decide (size ≤ (k : Int) - f) = false := by simpa using hlen
          go_wp2_with fail
          go_quiet (fail)
          go_wp2_with fail
          refine ⟨⟨k + 1, f, P, ys, by omega, by omega, fun _ => by omega, by go_num, rfl, HFL.out, ?_, HO.out, HY.out, below_drewN HB.out _⟩, by simp [intOf]; omega⟩
          rw [HF1.out, ← HCUT.out, HSTEP.out, if_neg]
          unfold cutNow
          rw [HPL.out]
          simp only [Bool.and_eq_true, decide_eq_true_eq]
          omega
      · obtain rfl : k = n := by omega
        have hdk : T.drop k = [] := List.drop_eq_nil_of_le (by rw [HN2.out]; exact Nat.le_refl _)
        by_cases hfn : f < k
        · have hd : decide ((f : Int) < k) = true := by simpa using hfn
          obtain ⟨q, qc, hq, hq0, hq1, hq2⟩ := HO2.out.pos (by rw [HN2.out]; omega)
          rw [HN2.out] at hq hq1
          cases hq
          have hPn : P.length ≤ k := by
            have h1 := pieces_len P (fun p hp => cutE_ne (by omega) (T := T) p (by rw [← HCUT.out]; exact List.mem_append_left _ hp))
            rw [HFL.out, List.length_take] at h1
            omega
          have hpl : ((T.drop f).take (k - f)).length = k - f := sub_len hf (by rw [HN2.out]; exact hk)
          have hall : cutE size [] T = P ++ [(T.drop f).take (k - f)] := by
            rw [← HCUT.out, hdk, cutE_nil, if_neg (by rw [hpl]; omega)]
          have HALL := Lib.hid hall
          have HPL := Lib.hid hpl
          clear hall hpl
          go_wp2_with fail
          refine (clip_any _ _ _ _ _ (by omega)).mono ?_
          rintro r wq ⟨rfl, hbq⟩
          have HOq := Lib.hid (own_below HO.out hbq)
          have HBq := Lib.hid (HB.out.trans (hbq.mono HB.out.size))
          have hzq := HBq.out.size
          have hal : Below wq.heap.size wq (wq.alloc (.cells #[.slice (some ⟨q, f * 4, none⟩) (k - f) (k - f)] 41)) := (Below.refl _ _).alloc (Nat.le_refl _) _
          clear hbq
          go_wp2_with (at_builtin; refine wpList_append_own_at _ rfl _ _ 30 rfl w2.heap.size 41 i0 _ 1 24 Try.underlying30 hi hz0 hz1'.out hby.out rfl (by decide) _ _ _ rfl (own_below HOq.out hal) ⟨wq.heap.size, 0, none⟩ 1 1 [.slice (some ⟨q, f * 4, none⟩) (k - f) (k - f)] rfl rfl (cell_one_new _ _ _) (by simp [Value.oneCell']) (by unfold maxLen; omega) (by omega) (by simp; omega) ?_; intro v' w3 hown' hgrow hnn hat; clear hnn)
          refine bodyPost_ret (v := .tuple #[_, _]) (by simp [results, Try.results10, go_sem]; exact ⟨rfl, rfl⟩) rfl ?_
          have hb3 : Below w2.heap.size w2 w3 := (HBq.out.alloc (by omega) _).grown hgrow (by simp; omega) (fun j e => (HOq.out.lt j e).1)
          refine ⟨_, rfl, ?_, HB2.out.trans (hb3.mono hz2)⟩
          rw [HALL.out]
          obtain ⟨A5, c5, rfl⟩ := own_form hown'
          have hL : Lain (some ⟨q, 0, none⟩) (P ++ [(T.drop f).take (k - f)]) (ys ++ [.slice (some ⟨q, f * 4, none⟩) (k - f) (k - f)]) := pieces_push (by have := HOq.out.1; omega) HY.out (by rw [HFL.out, List.length_take, HN2.out]; omega) HPL.out
          have := pieces_lists (P := P ++ [(T.drop f).take (k - f)]) HO2.out hb3 (Nat.le_trans (Below.size HB1.out) (Nat.le_refl _)) (by rw [HN2.out]; exact hnb) (by rw [List.length_append]; exact hown') hz2 hL (by rw [← HALL.out, cutE_flat]; rfl) (by rw [← HALL.out]; exact cutE_ne (by omega))
          rwa [List.length_append] at this
        · have hd : decide ((f : Int) < k) = false := by simpa using hfn
          have hall : cutE size [] T = P := by
            rw [← HCUT.out, hdk, cutE_nil, if_pos (by rw [sub_len hf (by rw [HN2.out]; exact Nat.le_refl _)]; omega), List.append_nil]
          have HALL := Lib.hid hall
          clear hall
          go_wp2_with fail
          refine bodyPost_ret (v := .tuple #[_, _]) (by simp [results, Try.results10, go_sem]; exact ⟨rfl, rfl⟩) rfl ?_
          refine ⟨_, rfl, ?_, HB2.out.trans (HB.out.mono hz2)⟩
          rw [HALL.out]
          exact pieces_lists HO2.out HB.out (Below.size HB1.out) (by rw [HN2.out]; exact hnb) HO.out hz2 HY.out (by rw [← HALL.out, cutE_flat]; rfl) (by rw [← HALL.out]; exact cutE_ne (by omega))
end Go.Proofs.Ytacdhkkelkplnaa
end
section
namespace Go.Proofs.Ytacdhkkelkplnaa
open Go.RowKit Go.BigFrame
attribute [local go_sem ↓] Go.wp_at_zero Go.wp_at_succ
def errO (b : Bool) : Int := if b then 0 else 30
theorem thin_both (es : List Ent) (mark : Int) (bottom : Bool) : ∃ xs : List Ent,
    (∀ S v w, Ents w S v es → Calls Try.prog 24 #[v, .int .i64 mark, .bool bottom] w fun r w' => ∃ v', r = .returned (.tuple #[v', .int .i64 (errO (orderedE es))]) ∧ Ents w' (fun i => w.heap.size ≤ i) v' xs ∧ Below w.heap.size w w') ∧
    (∀ S v w, Ents w S v es → Calls Try.prog 27 #[v, .int .i64 mark, .bool bottom] w fun r w' => ∃ v', r = .returned (.tuple #[v', .int .i64 (errO (orderedE es))]) ∧ Ents w' (fun _ => True) v' xs ∧ Below w.heap.size w w') := by
  refine ⟨if orderedE es then thinC mark bottom [] es else [], fun S v w h => thin_any S v es mark bottom w h, fun S v w h => ?_⟩
  refine (rthin_any S v es mark bottom w h).mono ?_
  rintro r w' ⟨v', rfl, he, hb⟩
  refine ⟨v', rfl, ?_, hb⟩
  by_cases ho : orderedE es = true
  · rw [if_pos ho] at he ⊢; rw [thin_law ho]; exact he
  · rw [if_neg ho] at he ⊢; exact he
end Go.Proofs.Ytacdhkkelkplnaa
end
