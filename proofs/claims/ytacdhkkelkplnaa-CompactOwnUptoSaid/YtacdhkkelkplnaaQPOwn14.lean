/-
usanceref14.Run: the document's answer.
-/
import Derived.Test.YtacdhkkelkplnaaQPOwn10
import Derived.Test.YtacdhkkelkplnaaQPOwn9
import Derived.Test.YtacdhkkelkplnaaQPOwn3
import Derived.Test.YtacdhkkelkplnaaQPOwn4
section
namespace Go.Proofs.Ytacdhkkelkplnaa
open Go.RowKit Go.BigFrame
attribute [local go_sem ↓] Go.wp_at_zero Go.wp_at_succ
theorem cutE_nil (size : Int) (p : List Ent) : cutE size p [] = if p.length = 0 then [] else [p] := by unfold cutE; rfl
def runL (ls : List (List Ent)) (mark : Int) (bottom : Bool) (size : Int) : List (List Ent) :=
  if size < 1 then [] else if (mergeC ls).2 = 0 then cutE size [] (thinC mark bottom [] (mergeC ls).1) else []
def runN (ls : List (List Ent)) (size : Int) : Int := if size < 1 then 2 else (mergeC ls).2
theorem cutE_ne {size : Int} (hs : 1 ≤ size) {T : List Ent} : ∀ p ∈ cutE size [] T, p ≠ [] := fun p hp => by
  obtain ⟨i, hi⟩ := List.mem_iff_getElem?.1 hp
  exact ((cutE_all hs T).at_ hi).1
theorem take_join {α : Type} (T : List α) {f k : Nat} (hf : f ≤ k) : T.take f ++ (T.drop f).take (k - f) = T.take k := by
  conv => rhs; rw [show k = f + (k - f) by omega, List.take_add]
/-- where the pieces lie. -/
def Lain (A : Option Addr) (P : List (List Ent)) (ys : List Value) : Prop := ∀ (i : Nat) (p : List Ent), P[i]? = some p → ∃ g, A = some ⟨g, 0, none⟩ ∧ ys[i]? = some (.slice (some ⟨g, (P.take i).flatten.length * 4, none⟩) p.length p.length)
theorem pieces_push {g f m : Nat} {P : List (List Ent)} {ys : List Value} {p : List Ent} (hl : ys.length = P.length) (h : Lain (some ⟨g, 0, none⟩) P ys) (hf : P.flatten.length = f) (hm : p.length = m) :
    Lain (some ⟨g, 0, none⟩) (P ++ [p]) (ys ++ [.slice (some ⟨g, f * 4, none⟩) m m]) := by
  intro i q hq
  by_cases hi : i < P.length
  · rw [List.getElem?_append_left hi] at hq
    obtain ⟨g', e, hy⟩ := h i q hq
    refine ⟨g', e, ?_⟩
    rw [List.getElem?_append_left (by omega), hy, List.take_append_of_le_length (by omega)]
  · have hi' : i = P.length := by
      have := (List.getElem?_eq_some_iff.1 hq).1
      rw [List.length_append, List.length_singleton] at this
      omega
    subst hi'
    rw [List.getElem?_append_right (Nat.le_refl _), Nat.sub_self] at hq
    simp only [List.getElem?_cons_zero, Option.some.injEq] at hq
    subst hq
    refine ⟨g, rfl, ?_⟩
    rw [List.getElem?_append_right (by omega), hl, Nat.sub_self, List.take_left, hf, hm]
    rfl
/-- the pieces of one row, as a slice of slices. -/
theorem pieces_lists {w w' : World} {lo base n c : Nat} {A A3 : Option Addr} {c3 : Nat} {T : List Ent} {P : List (List Ent)} {ys : List Value} {b3 : Nat} (hT : OwnE w base (.slice A n c) T) (hb : Below w.heap.size w w') (hlo : lo ≤ base) (hl : T.length * 64 ≤ 140737488355328)
    (hown : w'.ownsRow b3 41 1 (.slice A3 P.length c3) P.length ys) (hb3 : lo ≤ b3) (hy : Lain A P ys) (hfl : P.flatten = T) (hne : ∀ p ∈ P, p ≠ []) : Lists2 w' (hardB w' lo) (softB w' lo) (.slice A3 P.length c3) P := by
  have hlim := own_lim hown
  have hpl := pieces_len P hne
  rw [hfl] at hpl
  refine ⟨A3, c3, ys, rfl, hlim.1, hlim.2, by omega, ⟨hown.1, fun h0 => ?_⟩, fun i l hi => ?_⟩
  · obtain ⟨g, c', hA, hbg, hgz, _, _⟩ := own_pos hown h0
    injection hA with hA
    subst hA
    refine ⟨g, 0, rfl, hardB.of_own hown (by decide) rfl hb3, hgz, fun j u hu => ?_⟩
    have := hown.cells (g := g) rfl j u hu
    rwa [Addr.add_lit] at this
  · obtain ⟨g, rfl, hyi⟩ := hy i l hi
    obtain ⟨h1, h2⟩ := sub_piece ⟨[], by rw [List.append_nil, hfl]⟩ hi
    refine ⟨_, hyi, ?_⟩
    have h3 := (hT.below hb).piece hl (f := (P.take i).flatten.length) (m := l.length) (by rw [hfl] at h2; exact h2)
    rw [h1] at h3
    exact h3.imp (fun _ _ _ _ hr => hr.mono fun _ hi => ⟨by have := hi.1; omega, hi.2⟩) (fun _ _ hx => hx.mono fun _ hi => ⟨by have := hi.1; omega, hi.2⟩)
set_option maxRecDepth 10000 in
theorem clip_any (g o n c : Nat) (w : World) (hn : n ≤ c) :
    Calls Try.prog 26 #[.slice (some ⟨g, o, none⟩) n c] w fun r w' => r = .returned (.slice (some ⟨g, o, none⟩) n n) ∧ Below w.heap.size w w' := by
  go_enter Try.func26, Try.ntmps26
  go_wp2
  refine bodyPost_ret (v := .slice (some ⟨g, o, none⟩) n n) (by simp [results, Try.results26, go_sem]) rfl ?_
  exact ⟨rfl, Below.refl _ _⟩
set_option maxRecDepth 100000 in
set_option maxHeartbeats 4000000 in
theorem run_any (S : Nat → Prop) (v : Value) (ls : List (List Ent)) (mark : Int) (bottom : Bool) (size : Int) (w : World) (hv : Lists w S v ls) (hS : ∀ i, S i → i < w.heap.size) (hN : total ls * 64 ≤ 140737488355328) :
    Calls Try.prog 10 #[v, .int .i64 mark, .bool bottom, .int .i64 size] w fun r w' => ∃ v', r = .returned (.tuple #[v', .int .i64 (runN ls size)]) ∧ Lists2 w' (hardB w' w.heap.size) (softB w' w.heap.size) v' (runL ls mark bottom size) ∧ Below w.heap.size w w' := by
  obtain ⟨i0, hi, hz0, hz1, hz2⟩ := info_parts info22
  have hby := Lib.hid hz2
  have hz1' := Lib.hid hz1
  clear hz2 hz1
  have HM := Lib.hid (mergeL_any S v ls w hv hS hN)
  obtain ⟨M, hM⟩ : ∃ M, mergeC ls = M := ⟨_, rfl⟩
  obtain ⟨rs, e⟩ := M
  have hmo : e = 0 → orderedE rs = true ∧ rs.length ≤ total ls := fun h => by have := merge_ordered (ls := ls); rw [hM] at this; exact this h
  rw [hM] at HM
  unfold runL runN
  rw [hM]
  have HMO := Lib.hid hmo
  have HN := Lib.hid hN
  clear hv hS hM hmo hN
  by_cases hs : size < 1
  · rw [if_pos hs, if_pos hs]
    go_enter Try.func10, Try.ntmps10
    go_wp2
    refine bodyPost_ret (v := .tuple #[_, _]) (by simp [results, Try.results10, go_sem]; exact ⟨rfl, rfl⟩) rfl ?_
    exact ⟨_, rfl, Lists2.nil _ _ _, Below.refl _ _⟩
  rw [if_neg hs, if_neg hs]
  by_cases he : e = 0
  case neg =>
    rw [if_neg he]
    have heb : (e == 0) = false := by simp [he]
    go_enter Try.func10, Try.ntmps10
    go_wp2_with fail
    refine HM.out.mono ?_
    rintro r w1 ⟨v1, rfl, ho1, hb1⟩
    go_wp2
    refine bodyPost_ret (v := .tuple #[_, _]) (by simp [results, Try.results10, go_sem]; exact ⟨rfl, rfl⟩) rfl ?_
    exact ⟨_, rfl, Lists2.nil _ _ _, hb1⟩
  case pos =>
    rw [if_pos he]
    subst he
    obtain ⟨hord, hlen⟩ := HMO.out rfl
    obtain ⟨T, hT⟩ : ∃ T, thinC mark bottom [] rs = T := ⟨_, rfl⟩
    have hTl : T.length ≤ rs.length := by rw [← hT]; exact (thinC_sub mark bottom rs []).length_le
    obtain ⟨n, hn⟩ : ∃ n, T.length = n := ⟨_, rfl⟩
    have hnb : n * 64 ≤ 140737488355328 := by have := HN.out; omega
    have HT : Hid (∀ v1 w1 b, OwnE w1 b v1 rs → Calls Try.prog 24 #[v1, .int .i64 mark, .bool bottom] w1 fun r w' => ∃ A c, r = .returned (.tuple #[.slice A n c, .int .i64 0]) ∧ OwnE w' w1.heap.size (.slice A n c) T ∧ Below w1.heap.size w1 w') := Lib.hid fun v1 w1 b h1 => by
      have := thinL_any _ _ rs mark bottom w1 (h1.ents (by have := HN.out; omega))
      rw [if_pos hord, if_pos hord, hT] at this
      refine this.mono ?_
      rintro r w' ⟨v', rfl, h2, h3⟩
      obtain ⟨A, c, rfl⟩ := h2.form
      rw [hn] at h2 ⊢
      exact ⟨A, c, rfl, h2, h3⟩
    rw [hT]
    have HN2 := Lib.hid hn
    have HNB := Lib.hid hnb
    clear hT hord hTl hn hlen HMO HN
    go_enter Try.func10, Try.ntmps10
    go_wp2_with fail
    refine HM.out.mono ?_
    rintro r w1 ⟨v1, rfl, ho1, hb1⟩
    have HO1 := Lib.hid ho1
    have HB1 := Lib.hid hb1
    clear ho1 hb1 HM
    go_wp2_with fail
    refine (HT.out _ _ _ HO1.out).mono ?_
    rintro r w2 ⟨A, c, rfl, ho2, hb2⟩
    have HO2 := Lib.hid ho2
    have HB2 := Lib.hid (HB1.out.trans (hb2.mono HB1.out.size))
    have hz2 := HB2.out.size
    clear HT ho2 hb2 HO1
    go_wp2_with fail
    go_loopw [12, 13, 37] (fun x y t wr => ∃ (k f : Nat) (P : List (List Ent)) (ys : List Value), k ≤ n ∧ f ≤ k ∧ (0 < k → f < k) ∧ t = .int .i64 k ∧ y = .int .i64 f ∧ P.flatten = T.take f ∧ P ++ cutE size ((T.drop f).take (k - f)) (T.drop k) = cutE size [] T ∧ wr.ownsRow w2.heap.size 41 1 x P.length ys ∧
      Lain A P ys ∧ Below w2.heap.size w2 wr) (fun _ _ t _ => n - (intOf t).toNat)
    case atStart => exact ⟨0, 0, [], [], Nat.zero_le _, Nat.le_refl _, fun h => absurd h (by omega), rfl, rfl, rfl, by simp, World.ownsRow_nil _ _ _ _, fun i p h => by simp at h, Below.refl _ _⟩
    case round =>
      obtain ⟨k, f, P, ys, hk, hf, hfk, rfl, rfl, hfl, hcut, hown, hys, hbel⟩ := hrel
      obtain ⟨A3, c3, rfl⟩ := own_form hown
      have HO := Lib.hid hown
      have HY := Lib.hid hys
      have HB := Lib.hid hbel
      have HCUT := Lib.hid hcut
      have HFL := Lib.hid hfl
      clear hown hys hbel hcut hfl
      by_cases hkn : k < n
      · obtain ⟨e, he⟩ : ∃ e, T[k]? = some e := ⟨_, List.getElem?_eq_getElem (by rw [HN2.out]; exact hkn)⟩
        have HE := Lib.hid he
        have hfl1 : (T.drop f).take (k + 1 - f) = (T.drop f).take (k - f) ++ [e] := sub_snoc he hf
        have HSTEP := Lib.hid (cutE_step (size := size) he ((T.drop f).take (k - f)))
        have HF1 := Lib.hid hfl1
        have hpl : ((T.drop f).take (k - f)).length = k - f := sub_len hf (by rw [HN2.out]; exact hk)
        have HPL := Lib.hid hpl
        clear he hfl1 hpl
        by_cases hlen : (k : Int) - f ≥ size
        · have hge : decide (size ≤ IntKind.i64.wrap ((k : Int) - f)) = true := by rw [IntWalk.i64_in _ (by omega)]; simpa using hlen
          have hk1 : 1 ≤ k := by omega
          have hfk' : f < k := hfk (by omega)
          obtain ⟨e', he'⟩ : ∃ e', T[k - 1]? = some e' := ⟨_, List.getElem?_eq_getElem (by rw [HN2.out]; omega)⟩
          obtain ⟨A', c', cs, hE, hc1, hc2, hc3, hrow, hcel⟩ := (HO2.out.below HB.out).ents (by rw [HN2.out]; exact HNB.out)
          injection hE with e1 e2 e3
          subst e1 e3
          clear e2
          rw [HN2.out] at hrow
          obtain ⟨b1, o1, k1, u1, rfl, x0, x1, x2, x3, z1, z2, _, _⟩ := hrow.ent hcel HN2.out he'
          obtain ⟨b2, o2, k2, u2, hE, y0, y1, y2, y3, z3, z4, _, _⟩ := hrow.ent hcel HN2.out HE.out
          cases hE
          obtain ⟨q, qc, hq, hq0, hq1, hq2⟩ := HO2.out.pos (by rw [HN2.out]; omega)
          rw [HN2.out] at hq hq1
          cases hq
          rw [Nat.zero_add] at x0 y0
          have hwk : IntKind.i64.wrap ((k : Int) - 1) = ((k - 1 : Nat) : Int) := by rw [IntWalk.i64_in _ (by omega)]; omega
          have hkn1 : k - 1 < n := by omega
          have HQ : Hid (∀ m, Calls Try.prog 25 #[k1, k2] (wr.drewN m) fun r w' => r = .returned (.bool (decide (e'.key = e.key))) ∧ w' = wr.drewN m) := Lib.hid fun m => (bequal_any _ _ _ _ _ _ (wr.drewN m) (z1.drewN m) (z3.drewN m)).mono fun _ _ h => ⟨h.1, h.2.symm⟩
          have HKL : Hid (lastKey ((T.drop f).take (k - f)) = e'.key) := Lib.hid (by have := lastKey_sub he' (f := f) (by omega); rwa [show k - 1 + 1 - f = k - f by omega] at this)
          clear hrow hcel x1 x2 x3 y1 y2 y3 z2 z4 he'
          by_cases hke : e'.key = e.key
          · have hd : decide (e'.key = e.key) = true := by simpa using hke
            rw [hd] at HQ
            go_wp2_with fail
            go_quiet ((go_at_call 25; exact Calls.quiet_of_same (HQ.out _)))
            go_wp2_with fail
            refine ⟨⟨k + 1, f, P, ys, by omega, by omega, fun _ => by omega, by go_num, rfl, HFL.out, ?_, HO.out, HY.out, below_drewN HB.out _⟩, by simp [intOf]; omega⟩
            rw [HF1.out, ← HCUT.out, HSTEP.out, if_neg]
            unfold cutNow
            rw [HKL.out, hd]
            simp
          · have hd : decide (e'.key = e.key) = false := by simpa using hke
            rw [hd] at HQ
            go_wp2_with fail
            go_quiet ((go_at_call 25; exact Calls.quiet_of_same (HQ.out _)))
            have HOq : Hid ((wr.drewN nq).ownsRow w2.heap.size 41 1 (.slice A3 P.length c3) P.length ys) := HO
            have HBq : Hid (Below w2.heap.size w2 (wr.drewN nq)) := Lib.hid (below_drewN HB.out nq)
            generalize wr.drewN nq = wq at HOq HBq ⊢
            have hzq := HBq.out.size
            have hal : Below wq.heap.size wq (wq.alloc (.cells #[.slice (some ⟨b1, f * 4, none⟩) (k - f) (k - f)] 41)) := (Below.refl _ _).alloc (Nat.le_refl _) _
            have hPn : P.length ≤ k := by
              have h1 := pieces_len P (fun p hp => cutE_ne (by omega) (T := T) p (by rw [← HCUT.out]; exact List.mem_append_left _ hp))
              rw [HFL.out, List.length_take] at h1
              omega
            go_wp2_with (at_builtin; refine wpList_append_own_at _ rfl _ _ 30 rfl w2.heap.size 41 i0 _ 1 24 Try.underlying30 hi hz0 hz1'.out hby.out rfl (by decide) _ _ _ rfl (own_below HOq.out hal) ⟨wq.heap.size, 0, none⟩ 1 1 [.slice (some ⟨b1, f * 4, none⟩) (k - f) (k - f)] rfl rfl (cell_one_new _ _ _) (by simp [Value.oneCell']) (by unfold maxLen; omega) (by omega) (by simp; omega) ?_; intro v' w3 hown' hgrow hnn hat; clear hnn)
            refine ⟨⟨k + 1, k, P ++ [(T.drop f).take (k - f)], _, by omega, by omega, fun _ => by omega, by go_num, rfl, ?_, ?_, by rw [List.length_append]; exact hown', ?_, (HBq.out.alloc (by omega) _).grown hgrow (by simp; omega) (fun j e => (HOq.out.lt j e).1)⟩, by simp [intOf]; omega⟩
            · rw [List.flatten_append, HFL.out, List.flatten_singleton]
              exact take_join T hf
            · have h1 : cutNow size ((T.drop f).take (k - f)) e = true := by
                unfold cutNow
                rw [HPL.out, HKL.out, hd]
                simp only [Bool.not_false, Bool.and_true, decide_eq_true_eq]
                omega
              have h2 := HSTEP.out
              rw [if_pos h1] at h2
              rw [← HCUT.out, h2, sub_snoc HE.out (Nat.le_refl _)]
              simp
            · exact pieces_push (by have := HOq.out.1; omega) HY.out (by rw [HFL.out, List.length_take, HN2.out]; omega) HPL.out
        · have hge : decide (size ≤ (k : Int) - f) = false := by simpa using hlen
          go_wp2_with fail
          go_quiet (fail)
          go_wp2_with fail
          refine ⟨⟨k + 1, f, P, ys, by omega, by omega, fun _ => by omega, by go_num, rfl, HFL.out, ?_, HO.out, HY.out, below_drewN HB.out _⟩, by simp [intOf]; omega⟩
          rw [HF1.out, ← HCUT.out, HSTEP.out, if_neg]
          unfold cutNow
          rw [HPL.out]
          simp only [Bool.and_eq_true, decide_eq_true_eq]
          omega
      · obtain rfl : k = n := by omega
        have hdk : T.drop k = [] := List.drop_eq_nil_of_le (by rw [HN2.out]; exact Nat.le_refl _)
        by_cases hfn : f < k
        · have hd : decide ((f : Int) < k) = true := by simpa using hfn
          obtain ⟨q, qc, hq, hq0, hq1, hq2⟩ := HO2.out.pos (by rw [HN2.out]; omega)
          rw [HN2.out] at hq hq1
          cases hq
          have hPn : P.length ≤ k := by
            have h1 := pieces_len P (fun p hp => cutE_ne (by omega) (T := T) p (by rw [← HCUT.out]; exact List.mem_append_left _ hp))
            rw [HFL.out, List.length_take] at h1
            omega
          have hpl : ((T.drop f).take (k - f)).length = k - f := sub_len hf (by rw [HN2.out]; exact hk)
          have hall : cutE size [] T = P ++ [(T.drop f).take (k - f)] := by
            rw [← HCUT.out, hdk, cutE_nil, if_neg (by rw [hpl]; omega)]
          have HALL := Lib.hid hall
          have HPL := Lib.hid hpl
          clear hall hpl
          go_wp2_with fail
          refine (clip_any _ _ _ _ _ (by omega)).mono ?_
          rintro r wq ⟨rfl, hbq⟩
          have HOq := Lib.hid (own_below HO.out hbq)
          have HBq := Lib.hid (HB.out.trans (hbq.mono HB.out.size))
          have hzq := HBq.out.size
          have hal : Below wq.heap.size wq (wq.alloc (.cells #[.slice (some ⟨q, f * 4, none⟩) (k - f) (k - f)] 41)) := (Below.refl _ _).alloc (Nat.le_refl _) _
          clear hbq
          go_wp2_with (at_builtin; refine wpList_append_own_at _ rfl _ _ 30 rfl w2.heap.size 41 i0 _ 1 24 Try.underlying30 hi hz0 hz1'.out hby.out rfl (by decide) _ _ _ rfl (own_below HOq.out hal) ⟨wq.heap.size, 0, none⟩ 1 1 [.slice (some ⟨q, f * 4, none⟩) (k - f) (k - f)] rfl rfl (cell_one_new _ _ _) (by simp [Value.oneCell']) (by unfold maxLen; omega) (by omega) (by simp; omega) ?_; intro v' w3 hown' hgrow hnn hat; clear hnn)
          refine bodyPost_ret (v := .tuple #[_, _]) (by simp [results, Try.results10, go_sem]; exact ⟨rfl, rfl⟩) rfl ?_
          have hb3 : Below w2.heap.size w2 w3 := (HBq.out.alloc (by omega) _).grown hgrow (by simp; omega) (fun j e => (HOq.out.lt j e).1)
          refine ⟨_, rfl, ?_, HB2.out.trans (hb3.mono hz2)⟩
          rw [HALL.out]
          obtain ⟨A5, c5, rfl⟩ := own_form hown'
          have hL : Lain (some ⟨q, 0, none⟩) (P ++ [(T.drop f).take (k - f)]) (ys ++ [.slice (some ⟨q, f * 4, none⟩) (k - f) (k - f)]) := pieces_push (by have := HOq.out.1; omega) HY.out (by rw [HFL.out, List.length_take, HN2.out]; omega) HPL.out
          have := pieces_lists (P := P ++ [(T.drop f).take (k - f)]) HO2.out hb3 (Nat.le_trans (Below.size HB1.out) (Nat.le_refl _)) (by rw [HN2.out]; exact hnb) (by rw [List.length_append]; exact hown') hz2 hL (by rw [← HALL.out, cutE_flat]; rfl) (by rw [← HALL.out]; exact cutE_ne (by omega))
          rwa [List.length_append] at this
        · have hd : decide ((f : Int) < k) = false := by simpa using hfn
          have hall : cutE size [] T = P := by
            rw [← HCUT.out, hdk, cutE_nil, if_pos (by rw [sub_len hf (by rw [HN2.out]; exact Nat.le_refl _)]; omega), List.append_nil]
          have HALL := Lib.hid hall
          clear hall
          go_wp2_with fail
          refine bodyPost_ret (v := .tuple #[_, _]) (by simp [results, Try.results10, go_sem]; exact ⟨rfl, rfl⟩) rfl ?_
          refine ⟨_, rfl, ?_, HB2.out.trans (HB.out.mono hz2)⟩
          rw [HALL.out]
          exact pieces_lists HO2.out HB.out (Below.size HB1.out) (by rw [HN2.out]; exact hnb) HO.out hz2 HY.out (by rw [← HALL.out, cutE_flat]; rfl) (by rw [← HALL.out]; exact cutE_ne (by omega))
end Go.Proofs.Ytacdhkkelkplnaa
end
section
namespace Go.Proofs.Ytacdhkkelkplnaa
open Go.RowKit Go.BigFrame
attribute [local go_sem ↓] Go.wp_at_zero Go.wp_at_succ
def errO (b : Bool) : Int := if b then 0 else 30
theorem thin_both (es : List Ent) (mark : Int) (bottom : Bool) : ∃ xs : List Ent,
    (∀ S v w, Ents w S v es → Calls Try.prog 24 #[v, .int .i64 mark, .bool bottom] w fun r w' => ∃ v', r = .returned (.tuple #[v', .int .i64 (errO (orderedE es))]) ∧ Ents w' (fun i => w.heap.size ≤ i) v' xs ∧ Below w.heap.size w w') ∧
    (∀ S v w, Ents w S v es → Calls Try.prog 27 #[v, .int .i64 mark, .bool bottom] w fun r w' => ∃ v', r = .returned (.tuple #[v', .int .i64 (errO (orderedE es))]) ∧ Ents w' (fun _ => True) v' xs ∧ Below w.heap.size w w') := by
  refine ⟨if orderedE es then thinC mark bottom [] es else [], fun S v w h => thin_any S v es mark bottom w h, fun S v w h => ?_⟩
  refine (rthin_any S v es mark bottom w h).mono ?_
  rintro r w' ⟨v', rfl, he, hb⟩
  refine ⟨v', rfl, ?_, hb⟩
  by_cases ho : orderedE es = true
  · rw [if_pos ho] at he ⊢; rw [thin_law ho]; exact he
  · rw [if_neg ho] at he ⊢; exact he
end Go.Proofs.Ytacdhkkelkplnaa
end
section
namespace Go.Proofs.Ytacdhkkelkplnaa
open Go.RowKit Go.BigFrame
attribute [local go_sem ↓] Go.wp_at_zero Go.wp_at_succ
/-- pieces handed out, in neither of two rows that still grow. -/
def RefOut (w : World) (vO vP : Value) (P : List (List Ent)) (ys : List Value) : Prop :=
  ∀ (i : Nat) (l : List Ent), P[i]? = some l → ∃ x, ys[i]? = some x ∧ Ents w (fun j => vO.ownBlock ≠ some j ∧ vP.ownBlock ≠ some j) x l
theorem RefOut.pushP {wr w1 w2 : World} {vO vP vP' : Value} {P : List (List Ent)} {ys : List Value} {o : Obj} (h : RefOut wr vO vP P ys) (hb : Below wr.heap.size wr w1) (hg : (w1.alloc o).grownBy w2 vP.ownBlock)
    (hat : vP'.ownBlock = vP.ownBlock ∨ vP'.ownBlock = some (w1.alloc o).heap.size) : RefOut w2 vO vP' P ys := fun i l hl => by
  obtain ⟨x, hx, he⟩ := h i l hl
  exact ⟨x, hx, ((he.below hb).below ((Below.refl _ _).alloc (Nat.le_refl _) _)).push hg hat (fun i _ hs => hs.2) (fun i _ hs hn => ⟨hs.1, hn⟩)⟩
theorem RefOut.pushO {wr w1 w2 : World} {vO vP vO' x : Value} {P : List (List Ent)} {ys : List Value} {p : List Ent} {o : Obj} (h : RefOut wr vO vP P ys) (hy : ys.length = P.length) (hb : Below wr.heap.size wr w1) (hg : (w1.alloc o).grownBy w2 vO.ownBlock)
    (hat : vO'.ownBlock = vO.ownBlock ∨ vO'.ownBlock = some (w1.alloc o).heap.size) (hp : Ents wr (fun j => vO.ownBlock ≠ some j) x p) : RefOut w2 vO' (.slice none 0 0) (P ++ [p]) (ys ++ [x]) := fun i l hl => by
  by_cases hi : i < P.length
  · rw [List.getElem?_append_left hi] at hl
    obtain ⟨x, hx, he⟩ := h i l hl
    refine ⟨x, by rw [List.getElem?_append_left (by omega)]; exact hx, ((he.below hb).below ((Below.refl _ _).alloc (Nat.le_refl _) _)).push hg hat (fun i _ hs => hs.1) (fun i _ hs hn => ⟨hn, by simp [Value.ownBlock]⟩)⟩
  · have hi' : i = P.length := by
      have := (List.getElem?_eq_some_iff.1 hl).1
      rw [List.length_append, List.length_singleton] at this
      omega
    subst hi'
    rw [List.getElem?_append_right (Nat.le_refl _), Nat.sub_self] at hl
    simp only [List.getElem?_cons_zero, Option.some.injEq] at hl
    subst hl
    refine ⟨x, by rw [List.getElem?_append_right (by omega), hy, Nat.sub_self]; rfl, ((hp.below hb).below ((Below.refl _ _).alloc (Nat.le_refl _) _)).push hg hat (fun i _ hs => hs) (fun i _ hs hn => ⟨hn, by simp [Value.ownBlock]⟩)⟩
theorem RefOut.lists {w : World} {A : Option Addr} {c b : Nat} {vP : Value} {P : List (List Ent)} {ys : List Value} (h : RefOut w (.slice A P.length c) vP P ys) (hown : w.ownsRow b 41 1 (.slice A P.length c) P.length ys) (hl : P.length * 24 ≤ 140737488355328) : Lists w (fun _ => True) (.slice A P.length c) P := by
  have hlim := own_lim hown
  refine ⟨A, c, ys, rfl, hlim.1, hlim.2, hl, ⟨hown.1, fun h0 => ?_⟩, fun i l hi => ?_⟩
  · obtain ⟨g, c', hA, hbg, hgz, _, _⟩ := own_pos hown h0
    injection hA with hA
    subst hA
    refine ⟨g, 0, rfl, trivial, hgz, fun j u hu => ?_⟩
    have := hown.cells (g := g) rfl j u hu
    rwa [Addr.add_lit] at this
  · obtain ⟨x, hx, he⟩ := h i l hi
    exact ⟨x, hx, he.mono fun _ _ => trivial⟩
theorem Lists.nil (w : World) (S : Nat → Prop) : Lists w S (.slice none 0 0) [] := ⟨none, 0, [], rfl, by simp, by simp, by simp, Row.nil _ _ _ _, fun i l h => by simp at h⟩
theorem Ents.of_row {w : World} {S : Nat → Prop} {base : Nat} {e : TypeId} {v : Value} {cs : List Value} {es : List Ent} (h : w.ownsRow base e 4 v es.length cs) (hc : EntCells w S cs es) (hS : ∀ g, v.ownBlock = some g → S g) (hl : es.length * 64 ≤ 140737488355328) : Ents w S v es := by
  obtain ⟨A, c, rfl⟩ := own_form h
  have hlim := own_lim h
  refine ⟨A, c, cs, rfl, hlim.1, hlim.2, hl, ⟨h.1, fun h0 => ?_⟩, hc⟩
  obtain ⟨g, c', hA, hbg, hgz, _, _⟩ := own_pos h h0
  injection hA with hA
  subst hA
  refine ⟨g, 0, rfl, hS g rfl, hgz, fun j u hu => ?_⟩
  have := h.cells (g := g) rfl j u hu
  rwa [Addr.add_lit] at this
theorem row_apart {w : World} {x y y' : Value} {z : Nat} (h : ∀ g, x.ownBlock = some g → y.ownBlock ≠ some g) (hx : ∀ g, x.ownBlock = some g → g < w.heap.size) (hat : y'.ownBlock = y.ownBlock ∨ y'.ownBlock = some z) (hz : w.heap.size ≤ z) : ∀ g, x.ownBlock = some g → y'.ownBlock ≠ some g := fun g hg e => by
  rcases hat with h1 | h1
  · exact h g hg (h1 ▸ e)
  · rw [h1] at e
    injection e with e
    have := hx g hg
    omega
theorem lastKey_at {p : List Ent} {e : Ent} (h : p[p.length - 1]? = some e) : lastKey p = e.key := by
  unfold lastKey
  rw [List.getLast?_eq_getElem?, h]
  rfl
set_option maxRecDepth 100000 in
set_option maxHeartbeats 4000000 in
theorem rrun_any (S : Nat → Prop) (v : Value) (ls : List (List Ent)) (mark : Int) (bottom : Bool) (size : Int) (w : World) (hv : Lists w S v ls) (hN : total ls * 64 ≤ 140737488355328) :
    Calls Try.prog 12 #[v, .int .i64 mark, .bool bottom, .int .i64 size] w fun r w' => ∃ v', r = .returned (.tuple #[v', .int .i64 (runN ls size)]) ∧ Lists w' (fun _ => True) v' (runL ls mark bottom size) ∧ Below w.heap.size w w' := by
  obtain ⟨i0, hi, hz0, hz1, hz2⟩ := info_parts info22
  have hby := Lib.hid hz2
  have hz1' := Lib.hid hz1
  clear hz2 hz1
  obtain ⟨i1, hi1, hy0, hy1, hy2⟩ := info_parts info26
  have hby1 := Lib.hid hy2
  have hy1' := Lib.hid hy1
  clear hy2 hy1
  have HM := Lib.hid (rmerge_any S v ls w hv hN)
  have HN := Lib.hid hN
  clear hv hN
  unfold runL runN
  by_cases hs : size < 1
  · rw [if_pos hs, if_pos hs]
    go_enter Try.func12, Try.ntmps12
    go_wp2
    refine bodyPost_ret (v := .tuple #[_, _]) (by simp [results, Try.results12, go_sem]; exact ⟨rfl, rfl⟩) rfl ?_
    exact ⟨_, rfl, Lists.nil _ _, Below.refl _ _⟩
  rw [if_neg hs, if_neg hs]
  have HM2 : Hid (Calls Try.prog 14 #[v] w fun r w' => ∃ v', r = .returned (.tuple #[v', .int .i64 (mergeC ls).2]) ∧ Ents w' (fun _ => True) v' (mergeC ls).1 ∧ Below w.heap.size w w') := Lib.hid (HM.out.mono fun r w' h => by
    obtain ⟨v', rs, n, rfl, h1, h2, h3⟩ := h
    have := merge_law h1
    rw [this]
    exact ⟨v', rfl, h2, h3⟩)
  clear HM
  obtain ⟨M, hM⟩ : ∃ M, mergeC ls = M := ⟨_, rfl⟩
  obtain ⟨rs, e⟩ := M
  have hmo : e = 0 → orderedE rs = true ∧ rs.length ≤ total ls := fun h => by have := merge_ordered (ls := ls); rw [hM] at this; exact this h
  rw [hM] at HM2 ⊢
  have HMO := Lib.hid hmo
  clear hM hmo
  by_cases he : e = 0
  case neg =>
    rw [if_neg he]
    have heb : (e == 0) = false := by simp [he]
    go_enter Try.func12, Try.ntmps12
    go_wp2_with fail
    refine HM2.out.mono ?_
    rintro r w1 ⟨v1, rfl, ho1, hb1⟩
    go_wp2
    refine bodyPost_ret (v := .tuple #[_, _]) (by simp [results, Try.results12, go_sem]; exact ⟨rfl, rfl⟩) rfl ?_
    exact ⟨_, rfl, Lists.nil _ _, hb1⟩
  case pos =>
    rw [if_pos he]
    subst he
    obtain ⟨hord, hlen⟩ := HMO.out rfl
    obtain ⟨T, hT⟩ : ∃ T, thinC mark bottom [] rs = T := ⟨_, rfl⟩
    have hTl : T.length ≤ rs.length := by rw [← hT]; exact (thinC_sub mark bottom rs []).length_le
    obtain ⟨n, hn⟩ : ∃ n, T.length = n := ⟨_, rfl⟩
    have hnb : n * 64 ≤ 140737488355328 := by have := HN.out; omega
    have HT : Hid (∀ v1 w1, Ents w1 (fun _ => True) v1 rs → Calls Try.prog 27 #[v1, .int .i64 mark, .bool bottom] w1 fun r w' => ∃ A c, r = .returned (.tuple #[.slice A n c, .int .i64 0]) ∧ Ents w' (fun _ => True) (.slice A n c) T ∧ Below w1.heap.size w1 w') := Lib.hid fun v1 w1 h1 => by
      have := rthin_any _ _ rs mark bottom w1 h1
      rw [if_pos hord, if_pos hord, ← thin_law hord, hT] at this
      refine this.mono ?_
      rintro r w' ⟨v', rfl, h2, h3⟩
      obtain ⟨A, c, rfl⟩ := ents_form h2
      rw [hn] at h2 ⊢
      exact ⟨A, c, rfl, h2, h3⟩
    rw [hT]
    have HN2 := Lib.hid hn
    clear hT hord hTl hn hlen HMO HN
    go_enter Try.func12, Try.ntmps12
    go_wp2_with fail
    refine HM2.out.mono ?_
    rintro r w1 ⟨v1, rfl, ho1, hb1⟩
    have HO1 := Lib.hid ho1
    have HB1 := Lib.hid hb1
    clear ho1 hb1 HM2
    go_wp2_with fail
    refine (HT.out _ _ HO1.out).mono ?_
    rintro r w2 ⟨A, c, rfl, ho2, hb2⟩
    have hz2 : w.heap.size ≤ w2.heap.size := Nat.le_trans HB1.out.size hb2.size
    have HB2 := Lib.hid (HB1.out.trans (hb2.mono HB1.out.size))
    obtain ⟨A', c', cs, hE, hc1, hc2, hc3, hrow, hcel⟩ := ho2.lt
    injection hE with e1 e2 e3
    subst e1 e3
    clear e2
    rw [HN2.out] at hrow
    obtain ⟨S0, hS0⟩ : ∃ S0 : Nat → Prop, S0 = fun i => i < w2.heap.size := ⟨_, rfl⟩
    rw [← hS0] at hrow hcel
    have HS0 := Lib.hid hS0
    have HROW := Lib.hid hrow
    have HCEL := Lib.hid hcel
    clear HT ho2 hb2 HO1 hrow hcel hc1 hc3 hS0
    go_wp2_with fail
    go_loopw [12, 13, 34] (fun x y t wr => ∃ (k : Nat) (P : List (List Ent)) (p : List Ent) (ys ps : List Value), k ≤ n ∧ t = .int .i64 k ∧ P.flatten ++ p = T.take k ∧ P ++ cutE size p (T.drop k) = cutE size [] T ∧ wr.ownsRow w2.heap.size 41 1 x P.length ys ∧ RefOut wr x y P ys ∧
      wr.ownsRow w2.heap.size 46 4 y p.length ps ∧ EntCells wr S0 ps p ∧ (∀ g, x.ownBlock = some g → y.ownBlock ≠ some g) ∧ Below w2.heap.size w2 wr) (fun _ _ t _ => n - (intOf t).toNat)
    case atStart => exact ⟨0, [], [], [], [], Nat.zero_le _, rfl, rfl, by simp, World.ownsRow_nil _ _ _ _, fun i p h => by simp at h, World.ownsRow_nil _ _ _ _, trivial, fun g h => by simp [Value.ownBlock] at h, Below.refl _ _⟩
    case round =>
      obtain ⟨k, P, p, ys, ps, hk, rfl, hfl, hcut, hown, hro, howp, hpc, hdis, hbel⟩ := hrel
      obtain ⟨A3, c3, rfl⟩ := own_form hown
      obtain ⟨A4, c4, rfl⟩ := own_form howp
      have HO := Lib.hid hown
      have HRO := Lib.hid hro
      have HOP := Lib.hid howp
      have HPC := Lib.hid hpc
      have HDIS := Lib.hid hdis
      have HB := Lib.hid hbel
      have HCUT := Lib.hid hcut
      have HFL := Lib.hid hfl
      have hpn : p.length ≤ k ∧ P.length ≤ k := by
        have h1 := pieces_len P (fun p hp => cutE_ne (by omega) (T := T) p (by rw [← hcut]; exact List.mem_append_left _ hp))
        have h2 := congrArg List.length hfl
        rw [List.length_append, List.length_take] at h2
        omega
      have hzr := hbel.size
      clear hown hbel hcut hfl hro howp hpc hdis
      by_cases hkn : k < n
      · obtain ⟨e, he⟩ : ∃ e, T[k]? = some e := ⟨_, List.getElem?_eq_getElem (by rw [HN2.out]; exact hkn)⟩
        obtain ⟨b1, o1, k1, u1, rfl, x0, x1, x2, x3, z1, z2, _, hS1⟩ := (HROW.out.below HB.out).ent (HCEL.out.below HB.out) HN2.out he
        obtain ⟨Ak, ck, rfl⟩ := slice_form z1
        obtain ⟨Au, cu, rfl⟩ := slice_form z2
        obtain ⟨m, hm⟩ : ∃ m, p.length = m := ⟨_, rfl⟩
        obtain ⟨dd, hdd⟩ : ∃ d, e.dead = d := ⟨_, rfl⟩
        rw [hdd] at x2
        rw [hm] at HOP HRO HDIS hpn ⊢
        have HSTEP := Lib.hid (cutE_step (size := size) he p)
        have HTK := Lib.hid (take_snoc he)
        have HM := Lib.hid hm
        have HDD := Lib.hid hdd
        have HKY := Lib.hid z1
        have HVL := Lib.hid z2
        have hbs : b1 < w2.heap.size := by rw [HS0.out] at hS1; exact hS1
        have hnO : ∀ g, (Value.slice A3 P.length c3).ownBlock = some g → ¬ g = b1 := fun g hg => by have := (HO.out.lt g hg).1; omega
        clear he z1 z2 hm hdd hS1
        have G0 : ∀ q : Ext wr, q.w.cell? { block := b1, off := o1 + k * 4 } = _ := fun q => q.h.cell x0
        have HCK : ∀ q : Ext wr, (convert 44 9 (.slice Ak e.key.length ck)).run Try.prog q.w = .ok (.string ⟨e.key.toArray⟩) q.w := fun q => (HKY.out.below q.h).convert
        by_cases hlen : size ≤ (m : Int)
        · obtain ⟨e', he'⟩ : ∃ e', p[m - 1]? = some e' := ⟨_, List.getElem?_eq_getElem (by rw [HM.out]; omega)⟩
          have hpe : Ents wr (fun j => (Value.slice A3 P.length c3).ownBlock ≠ some j) (.slice A4 m c4) p := Ents.of_row (by rw [HM.out]; exact HOP.out) (HPC.out.mono fun i hi e => by rw [HS0.out] at hi; have := (HO.out.lt i e).1; omega) (fun g hg e => HDIS.out g e hg) (by rw [HM.out]; omega)
          have HPE := Lib.hid hpe
          obtain ⟨A', c', cs', hE, _, _, _, hrow', hcel'⟩ := hpe
          injection hE with e1 e2 e3
          subst e1 e3
          clear e2
          obtain ⟨b2, o2, k2, u2, rfl, y0, y1, y2, y3, z3, z4, _, _⟩ := hrow'.ent hcel' rfl he'
          obtain ⟨Ak', ck', rfl⟩ := slice_form z3
          have HLK := Lib.hid (show lastKey p = e'.key from lastKey_at (by rw [HM.out]; exact he'))
          have F0 : ∀ q : Ext wr, q.w.cell? { block := b2, off := o2 + (m - 1) * 4 } = _ := fun q => q.h.cell y0
          clear hrow' hcel' y1 y2 y3 z4 he'
          by_cases hke : e'.key = e.key
          · have GCK : ∀ q : Ext wr, (convert 44 9 (.slice Ak' e'.key.length ck')).run Try.prog q.w = .ok (.string ⟨e.key.toArray⟩) q.w := fun q => by rw [(z3.below q.h).convert, hke]
            have HKE := Lib.hid hke
            clear hke y0 z3
            go_wp2_with fail
            (refine wp_region_quiet_ext (by kernel_rfl) (by kernel_rfl) ?_; (repeat (go_big_quiet_step (fail))); refine wpQuiet_nil ?_; intro wq hw'; obtain ⟨⟨_, hq⟩, hw''⟩ := hw'; subst hw'')
            have HB1 := Lib.hid (show Below wr.heap.size wr wq from hq)
            have C0 := hq.cell x0
            have C1 := hq.cell x1
            have C2 := hq.cell x2
            have C3 := hq.cell x3
            have hzq := hq.size
            clear hq G0 HCK F0 GCK x0 x1 x2 x3
            go_wp2_with (at_builtin; refine wpList_append_own_at _ rfl _ _ 41 rfl w2.heap.size 46 i1 _ 4 64 Try.underlying41 hi1 hy0 hy1'.out hby1.out rfl (by decide) _ _ _ rfl ((own_below HOP.out HB1.out).alloc _) ⟨wq.heap.size, 0, none⟩ 1 1 [.slice Ak e.key.length ck, .int .i64 e.seq, .bool dd, .slice Au e.val.length cu] rfl rfl (cell_four_new _ _ _ _ _ _) (by simp [Value.oneCell']) (by unfold maxLen; omega) (by omega) (by simp; omega) ?_; intro v' w3 hown' hgrow hnn hat; clear hnn)
            refine ⟨⟨k + 1, P, p ++ [e], ys, _, by omega, by go_num, ?_, ?_, own_only ((own_below HO.out HB1.out).alloc _) (Only.of_grown hgrow) (fun g hg e => HDIS.out g hg e), HRO.out.pushP HB1.out hgrow hat, by rw [List.length_append, HM.out]; exact hown', EntCells.pushOld (e := e) (d := dd) HDD.out HOP.out HPC.out HB1.out HKY.out HVL.out (fun i hs => by rw [HS0.out] at hs; exact hs) hgrow hat, row_apart HDIS.out (fun g hg => (HO.out.lt g hg).2) hat (by simp; omega), ((HB.out.trans (HB1.out.mono HB.out.size)).alloc (by omega) _).grown hgrow (by simp; omega) (fun j e => (HOP.out.lt j e).1)⟩, by simp [intOf]; omega⟩
            · rw [← List.append_assoc, HFL.out, HTK.out]
            rw [← HCUT.out, HSTEP.out, if_neg]
            unfold cutNow
            rw [HLK.out, HKE.out]
            simp
          · have hne1 : ¬ (⟨e'.key.toArray⟩ : ByteArray) = ⟨e.key.toArray⟩ := by simpa using hke
            have hne2 : decide ((⟨e'.key.toArray⟩ : ByteArray) = ⟨e.key.toArray⟩) = false := by simpa using hke
            have hne4 : (e'.key == e.key) = false := by simpa using hke
            have hne5 : decide (e'.key = e.key) = false := by simpa using hke
            have GCK : ∀ q : Ext wr, (convert 44 9 (.slice Ak' e'.key.length ck')).run Try.prog q.w = .ok (.string ⟨e'.key.toArray⟩) q.w := fun q => (z3.below q.h).convert
            clear y0 z3
            go_wp2_with fail
            (refine wp_region_quiet_ext (by kernel_rfl) (by kernel_rfl) ?_; (repeat (go_big_quiet_step (fail))); refine wpQuiet_nil ?_; intro wq hw'; obtain ⟨⟨_, hq⟩, hw''⟩ := hw'; subst hw'')
            have HB1 := Lib.hid (show Below wr.heap.size wr wq from hq)
            have C0 := hq.cell x0
            have C1 := hq.cell x1
            have C2 := hq.cell x2
            have C3 := hq.cell x3
            have hzq := hq.size
            clear hq G0 HCK F0 GCK x0 x1 x2 x3 hne1 hne2 hne4
            go_wp2_with (first
              | (at_builtin; refine wpList_append_own_at _ rfl _ _ 30 rfl w2.heap.size 41 i0 _ 1 24 Try.underlying30 hi hz0 hz1'.out hby.out rfl (by decide) _ _ _ rfl ((own_below HO.out HB1.out).alloc _) ⟨wq.heap.size, 0, none⟩ 1 1 [.slice (some ⟨b2, o2, none⟩) m c4] rfl rfl (cell_one_new _ _ _) (by simp [Value.oneCell']) (by unfold maxLen; omega) (by omega) (by simp; omega) ?_; intro v' w3 hown' hgrow hnn hat; clear hnn; have D0 := (fr.grown (fr.alloc fr.refl _) C0 C1 hgrow (fun e => hnO _ e rfl)).1; have D1 := (fr.grown (fr.alloc fr.refl _) C0 C1 hgrow (fun e => hnO _ e rfl)).2; have D2 := (fr.grown (fr.alloc fr.refl _) C2 C3 hgrow (fun e => hnO _ e rfl)).1; have D3 := (fr.grown (fr.alloc fr.refl _) C2 C3 hgrow (fun e => hnO _ e rfl)).2)
              | (at_builtin; refine wpList_append_own_at _ rfl _ _ 41 rfl w2.heap.size 46 i1 _ 4 64 Try.underlying41 hi1 hy0 hy1'.out hby1.out rfl (by decide) (.slice none 0 0) 0 [] rfl (World.ownsRow_nil _ _ _ _) ⟨w3.heap.size, 0, none⟩ 1 1 [.slice Ak e.key.length ck, .int .i64 e.seq, .bool dd, .slice Au e.val.length cu] rfl rfl (cell_four_new _ _ _ _ _ _) (by simp [Value.oneCell']) (by unfold maxLen; omega) (by omega) (by have := hgrow.size; simp at this ⊢; omega) ?_; intro v'' w4 hown2 hgrow2 hnn hat2; clear hnn))
            have hz3 := hgrow.size
            have hb4 : Below w3.heap.size w3 w4 := ((Below.refl _ _).alloc (Nat.le_refl _) _).grown hgrow2 (by simp) (fun j e => by simp [Value.ownBlock] at e)
            have hb3 : Below w2.heap.size w2 w3 := ((HB.out.trans (HB1.out.mono HB.out.size)).alloc (by omega) _).grown hgrow (by simp; omega) (fun j e => (HO.out.lt j e).1)
            have hyl : ys.length = P.length := by have := HO.out.1; omega
            refine ⟨⟨k + 1, P ++ [p], [e], _, _, by omega, by go_num, ?_, ?_, by rw [List.length_append]; exact own_below hown' hb4, (HRO.out.pushO hyl HB1.out hgrow hat HPE.out).pushP (Below.refl _ _) hgrow2 hat2, hown2, EntCells.pushOld (e := e) (d := dd) (es := []) HDD.out (World.ownsRow_nil w3 w2.heap.size 46 _) trivial (Below.refl _ _) (((Byt.below HKY.out HB1.out).below ((Below.refl _ _).alloc (Nat.le_refl _) _)).only (Only.of_grown hgrow) (fun i _ hs e => by rw [HS0.out] at hs; have := (HO.out.lt i e).1; omega)) (((Byt.below HVL.out HB1.out).below ((Below.refl _ _).alloc (Nat.le_refl _) _)).only (Only.of_grown hgrow) (fun i _ hs e => by rw [HS0.out] at hs; have := (HO.out.lt i e).1; omega)) (fun i hs => by rw [HS0.out] at hs; exact hs) hgrow2 hat2, row_apart (w := w3) (fun g _ e => by simp [Value.ownBlock] at e) (fun g hg => (hown'.lt g hg).2) hat2 (by simp), hb3.trans (hb4.mono hb3.size)⟩, by simp [intOf]; omega⟩
            · rw [List.flatten_append, List.flatten_singleton, HFL.out, HTK.out]
            · rw [← HCUT.out, HSTEP.out, if_pos (by unfold cutNow; rw [HLK.out, HM.out, hne5]; simpa using hlen)]
              simp
        · have hlb : decide (size ≤ (m : Int)) = false := by simpa using hlen
          go_wp2_with fail
          (refine wp_region_quiet_ext (by kernel_rfl) (by kernel_rfl) ?_; (repeat (go_big_quiet_step (fail))); refine wpQuiet_nil ?_; intro wq hw'; obtain ⟨⟨_, hq⟩, hw''⟩ := hw'; subst hw'')
          have HB1 := Lib.hid (show Below wr.heap.size wr wq from hq)
          have C0 := hq.cell x0
          have C1 := hq.cell x1
          have C2 := hq.cell x2
          have C3 := hq.cell x3
          have hzq := hq.size
          clear hq G0 HCK x0 x1 x2 x3
          go_wp2_with (at_builtin; refine wpList_append_own_at _ rfl _ _ 41 rfl w2.heap.size 46 i1 _ 4 64 Try.underlying41 hi1 hy0 hy1'.out hby1.out rfl (by decide) _ _ _ rfl ((own_below HOP.out HB1.out).alloc _) ⟨wq.heap.size, 0, none⟩ 1 1 [.slice Ak e.key.length ck, .int .i64 e.seq, .bool dd, .slice Au e.val.length cu] rfl rfl (cell_four_new _ _ _ _ _ _) (by simp [Value.oneCell']) (by unfold maxLen; omega) (by omega) (by simp; omega) ?_; intro v' w3 hown' hgrow hnn hat; clear hnn)
          refine ⟨⟨k + 1, P, p ++ [e], ys, _, by omega, by go_num, ?_, ?_, own_only ((own_below HO.out HB1.out).alloc _) (Only.of_grown hgrow) (fun g hg e => HDIS.out g hg e), HRO.out.pushP HB1.out hgrow hat, by rw [List.length_append, HM.out]; exact hown', EntCells.pushOld (e := e) (d := dd) HDD.out HOP.out HPC.out HB1.out HKY.out HVL.out (fun i hs => by rw [HS0.out] at hs; exact hs) hgrow hat, row_apart HDIS.out (fun g hg => (HO.out.lt g hg).2) hat (by simp; omega), ((HB.out.trans (HB1.out.mono HB.out.size)).alloc (by omega) _).grown hgrow (by simp; omega) (fun j e => (HOP.out.lt j e).1)⟩, by simp [intOf]; omega⟩
          · rw [← List.append_assoc, HFL.out, HTK.out]
          rw [← HCUT.out, HSTEP.out, if_neg]
          unfold cutNow
          rw [HM.out]
          simp only [Bool.and_eq_true, decide_eq_true_eq]
          omega
      · obtain rfl : k = n := by omega
        have hdk : T.drop k = [] := List.drop_eq_nil_of_le (by rw [HN2.out]; exact Nat.le_refl _)
        have hyl : ys.length = P.length := by have := HO.out.1; omega
        obtain ⟨m, hm⟩ : ∃ m, p.length = m := ⟨_, rfl⟩
        rw [hm] at HOP HRO HDIS hpn ⊢
        have HM := Lib.hid hm
        clear hm
        rcases Nat.eq_zero_or_pos m with h0 | h0
        · have hall : cutE size [] T = P := by rw [← HCUT.out, hdk, cutE_nil, if_pos (by rw [HM.out]; exact h0), List.append_nil]
          have HALL := Lib.hid hall
          have hd : decide ((0 : Int) < (m : Int)) = false := by simp; omega
          clear hall hdk
          go_wp2_with fail
          refine bodyPost_ret (v := .tuple #[_, _]) (by simp [results, Try.results12, go_sem]; exact ⟨rfl, rfl⟩) rfl ?_
          refine ⟨_, rfl, ?_, HB2.out.trans (HB.out.mono hz2)⟩
          rw [HALL.out]
          exact HRO.out.lists HO.out (by omega)
        · have hall : cutE size [] T = P ++ [p] := by rw [← HCUT.out, hdk, cutE_nil, if_neg (by rw [HM.out]; omega)]
          have HALL := Lib.hid hall
          have hd : decide ((0 : Int) < (m : Int)) = true := by simp; omega
          have HPE : Hid (Ents wr (fun j => (Value.slice A3 P.length c3).ownBlock ≠ some j) (.slice A4 m c4) p) := Lib.hid (Ents.of_row (by rw [HM.out]; exact HOP.out) (HPC.out.mono fun i hi e => by rw [HS0.out] at hi; have := (HO.out.lt i e).1; omega) (fun g hg e => HDIS.out g e hg) (by rw [HM.out]; omega))
          clear hall hdk
          go_wp2_with (at_builtin; refine wpList_append_own_at _ rfl _ _ 30 rfl w2.heap.size 41 i0 _ 1 24 Try.underlying30 hi hz0 hz1'.out hby.out rfl (by decide) _ _ _ rfl (own_below HO.out ((Below.refl _ _).alloc (Nat.le_refl _) _)) ⟨wr.heap.size, 0, none⟩ 1 1 [.slice A4 m c4] rfl rfl (cell_one_new _ _ _) (by simp [Value.oneCell']) (by unfold maxLen; omega) (by omega) (by simp; omega) ?_; intro v' w3 hown' hgrow hnn hat; clear hnn)
          have hb3 : Below w2.heap.size w2 w3 := (HB.out.alloc (by omega) _).grown hgrow (by simp; omega) (fun j e => (HO.out.lt j e).1)
          refine bodyPost_ret (v := .tuple #[_, _]) (by simp [results, Try.results12, go_sem]; exact ⟨rfl, rfl⟩) rfl ?_
          refine ⟨_, rfl, ?_, HB2.out.trans (hb3.mono hz2)⟩
          rw [HALL.out]
          have hR := HRO.out.pushO hyl (Below.refl _ _) hgrow hat HPE.out
          obtain ⟨A5, c5, rfl⟩ := own_form hown'
          have hpl : (P ++ [p]).length = P.length + 1 := by simp
          rw [← hpl] at hown' hR ⊢
          exact hR.lists hown' (by omega)
end Go.Proofs.Ytacdhkkelkplnaa
end
