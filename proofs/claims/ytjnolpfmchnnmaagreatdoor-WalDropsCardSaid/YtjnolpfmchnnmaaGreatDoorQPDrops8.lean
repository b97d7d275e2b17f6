/-
A log in memory; wal.Segment, Sync.
-/
import Derived.Test.YtjnolpfmchnnmaaGreatDoorQPDrops5
import Derived.Test.YtjnolpfmchnnmaaGreatDoorQPDrops7
import Derived.Test.YtjnolpfmchnnmaaGreatDoorQPDrops0
import Derived.StillTail
import Derived.Deep.Quiet
import Derived.BigQuiet
section
namespace Go.Proofs.YtjnolpfmchnnmaaGreatDoor
set_option maxRecDepth 100000
open Go.RowKit Go.BigFrame Go.Sort Go.Shelf Go.Lib
attribute [local go_sem ↓] Go.wp_at_zero Go.wp_at_succ
set_option maxHeartbeats 2000000 in
theorem dig1 (w : World) : PredAt Tryz.prog 118 #[] encR badDig w := fun W r _ => by
  unfold FnGives
  rcases (by omega : r < 48 ∨ (48 ≤ r ∧ r ≤ 57) ∨ 57 < r) with h | h | h
  all_goals
    have z3 : ((r : Int) < 48) ↔ r < 48 := by omega
    have z4 : (57 < (r : Int)) ↔ 57 < r := by omega
    go_enter Tryz.func118, Tryz.ntmps118
    go_wp2
    all_goals first | (exfalso; omega) | (go_ret; exact ⟨ret_bool (by rw [Bool.eq_iff_iff]; simp [badDig] <;> omega), 0, rfl⟩)
set_option maxHeartbeats 2000000 in
theorem low1 (w : World) : PredAt Tryz.prog 61 #[] encR badLow w := fun W r _ => by
  unfold FnGives
  rcases (by omega : r < 97 ∨ (97 ≤ r ∧ r ≤ 122) ∨ 122 < r) with h | h | h
  all_goals
    have z3 : ((r : Int) < 97) ↔ r < 97 := by omega
    have z4 : (122 < (r : Int)) ↔ 122 < r := by omega
    go_enter Tryz.func61, Tryz.ntmps61
    go_wp2
    all_goals first | (exfalso; omega) | (go_ret; exact ⟨ret_bool (by rw [Bool.eq_iff_iff]; simp [badLow] <;> omega), 0, rfl⟩)
def OwnN (w : World) (base : Nat) (v : Value) (ns : List Nat) : Prop := w.ownsRow base 3 1 v ns.length (ns.map fun n : Nat => Value.int .i64 (n : Int))
theorem OwnN.nil (w : World) (base : Nat) : OwnN w base (.slice none 0 0) [] := World.ownsRow_nil _ _ _ _
theorem cell_one (w : World) (a : Value) (t : TypeId) : ∀ j u, [a][j]? = some u → (w.alloc (.cells #[a] t)).cell? ((⟨w.heap.size, 0, none⟩ : Addr).add j) = some u := by
  intro j u hu
  rw [Addr.add_lit, World.cell?_alloc_at _ _ _ _ rfl]
  simpa using hu
set_option maxRecDepth 100000 in
set_option maxHeartbeats 4000000 in
theorem segments_any (F : Nat → Prop) (p : Nat) (k : Pk) (pre : Nm) (w : World) (h : DiskP w F p k) (hl : k.fs.length * 16 ≤ 140737488355328) (hnm : ∀ x ∈ listP k, x.length ≤ 140737488355328) :
    Calls Tryz.prog 63 #[.pointer (some ⟨p, 0, none⟩), .string ⟨pre.toArray⟩] w fun r w' => ∃ v, r = .returned (.tuple #[v, .int .i64 (readyE k [])]) ∧ OwnN w' w.heap.size v (if readyE k [] = 0 then segsP pre (listP k) else []) ∧ fr w w' := by
  obtain ⟨i0, hi, hz0, hz1, hz2⟩ := info_parts infoI
  have HL := Lib.hid (list_any F p k w h hl)
  obtain ⟨e, he⟩ : ∃ e, readyE k [] = e := ⟨_, rfl⟩
  obtain ⟨P, hP⟩ : ∃ P : ByteArray, (⟨pre.toArray⟩ : ByteArray) = P := ⟨_, rfl⟩
  have HP := Lib.hid hP
  rw [he] at HL ⊢
  rw [hP]
  obtain ⟨N, hN⟩ : ∃ N, (listP k).length = N := ⟨_, rfl⟩
  have hN16 : N * 16 ≤ 140737488355328 := by
    rw [← hN]
    unfold listP
    split
    · simp
    · rw [List.length_map]; exact hl
  have HN := Lib.hid hN
  have HNM := Lib.hid hnm
  clear h hl he hP hN hnm
  by_cases he0 : e = 0
  · subst he0
    go_enter Tryz.func63, Tryz.ntmps63
    go_wp2_with (go_at_call 58; refine HL.out.mono ?_; rintro r w1 ⟨vn, rfl, hrow, hb1⟩; unfold OwnS at hrow; rw [HN.out] at hrow; obtain ⟨An, cn, rfl⟩ := own_form hrow)
    have HROW := Lib.hid hrow
    have HB1 := Lib.hid hb1
    clear hrow hb1 HL
    go_loopw [8, 26] (fun v t wr => ∃ i : Nat, i ≤ N ∧ t = .int .i64 i ∧ OwnN wr w1.heap.size v (segsP pre ((listP k).take i)) ∧ fr w1 wr) (fun _ t _ => N - (intOf t).toNat)
    case atStart => exact ⟨0, Nat.zero_le _, rfl, OwnN.nil _ _, fr.refl⟩
    case round =>
      obtain ⟨i, hi', rfl, hown, hbel⟩ := hrel
      have HO := Lib.hid hown
      have HB := Lib.hid hbel
      clear hown hbel
      by_cases hin : i < N
      · obtain ⟨x, hx⟩ : ∃ x, (listP k)[i]? = some x := ⟨_, List.getElem?_eq_getElem (by rw [HN.out]; exact hin)⟩
        have hrow' := own_below HROW.out HB.out
        obtain ⟨gn, cn', hE, _⟩ := own_pos hrow' (by omega)
        injection hE with e1 e2 e3
        subst e1 e3
        obtain ⟨X, hX⟩ : ∃ X : ByteArray, (⟨x.toArray⟩ : ByteArray) = X := ⟨_, rfl⟩
        have hcn : wr.cell? ⟨gn, i, none⟩ = some (.string X) := by
          rw [hrow'.cellAt i (by omega), List.getElem?_map, hx, ← hX]
          rfl
        have hxl : x.length ≤ 140737488355328 := HNM.out x (List.mem_of_getElem? hx)
        obtain ⟨y, hy⟩ : ∃ y, Lib.trimPrefix x pre = y := ⟨_, rfl⟩
        obtain ⟨b1, h1⟩ : ∃ b, Lib.hasPrefix x pre = b := ⟨_, rfl⟩
        obtain ⟨z, hz⟩ : ∃ z, Lib.trimSuffix y sufW = z := ⟨_, rfl⟩
        obtain ⟨b2, h2⟩ : ∃ b, Lib.hasSuffix y sufW = b := ⟨_, rfl⟩
        have hyl := (trim_len x pre).1
        rw [hy] at hyl
        have HST := Lib.hid (segNo_steps pre x y z b1 b2 h1 hy h2 hz)
        obtain ⟨Y, hY⟩ : ∃ Y : ByteArray, (⟨y.toArray⟩ : ByteArray) = Y := ⟨_, rfl⟩
        obtain ⟨Z, hZ⟩ : ∃ Z : ByteArray, (⟨z.toArray⟩ : ByteArray) = Z := ⟨_, rfl⟩
        have HC1 : Hid (∀ wx, Calls Tryz.prog 87 #[.string X, .string P] wx fun r w' => r = .returned (.tuple #[.string Y, .bool b1]) ∧ w' = wx) := Lib.hid fun wx => by
          have := Tryz.strings_CutPrefix X P wx
          rw [← hX, ← HP.out] at this
          dsimp only at this
          rw [hy, h1, hY, hX, HP.out] at this
          exact this
        have HC2 : Hid (∀ wx, Calls Tryz.prog 88 #[.string Y, .string ⟨#[46, 108, 111, 103]⟩] wx fun r w' => r = .returned (.tuple #[.string Z, .bool b2]) ∧ w' = wx) := Lib.hid fun wx => by
          have := Tryz.strings_CutSuffix Y ⟨#[46, 108, 111, 103]⟩ wx (by rw [← hY, ba_size]; omega)
          rw [← hY] at this
          dsimp only at this
          rw [show ([46, 108, 111, 103] : List UInt8) = sufW from rfl, hz, h2, hZ, hY] at this
          exact this
        have HCF : Hid (∀ wx, Calls Tryz.prog 60 #[.string Z, .func (.func 118) #[] #[]] wx fun r w' => r = .returned (.bool !z.all digB) ∧ fr wx w') := Lib.hid fun wx => by
          have := Tryz.strings_ContainsFunc 118 #[] (enters_of Tryz.func118 (by kernel_rfl) rfl) badDig Z wx (dig1 wx)
          rw [← hZ, idx_dig] at this
          rw [← hZ]
          exact this
        have HTK := Lib.hid (take_snoc hx)
        have hZs : Z.size = z.length := by rw [← hZ]; exact ba_size z
        have hlo : segsP pre ((listP k).take (i + 1)) = segsP pre ((listP k).take i) ++ (if 0 < segNo pre x then [segNo pre x] else []) := by rw [HTK.out, segsP_snoc]
        have HLO := Lib.hid hlo
        have HZ := Lib.hid hZ
        clear hlo hy h1 hz h2 hyl hY hX hx hrow' e2 hxl hZ
        cases b1 with
        | false =>
          have HS0 : Hid (segNo pre x = 0) := Lib.hid (by rw [HST.out, if_neg fun h => absurd h.1 (by decide)])
          go_wp2_with (first | (go_at_call 87; refine (HC1.out _).mono ?_; rintro r w' ⟨rfl, rfl⟩) | (go_at_call 88; refine (HC2.out _).mono ?_; rintro r w' ⟨rfl, rfl⟩))
          refine ⟨⟨i + 1, by omega, by go_num, ?_, HB.out⟩, by simp [intOf]; omega⟩
          rw [HLO.out, HS0.out, if_neg (by omega), List.append_nil]
          exact HO.out
        | true =>
          cases b2 with
          | false =>
            have HS0 : Hid (segNo pre x = 0) := Lib.hid (by rw [HST.out, if_neg fun h => absurd h.2.1 (by decide)])
            go_wp2_with (first | (go_at_call 87; refine (HC1.out _).mono ?_; rintro r w' ⟨rfl, rfl⟩) | (go_at_call 88; refine (HC2.out _).mono ?_; rintro r w' ⟨rfl, rfl⟩))
            refine ⟨⟨i + 1, by omega, by go_num, ?_, HB.out⟩, by simp [intOf]; omega⟩
            rw [HLO.out, HS0.out, if_neg (by omega), List.append_nil]
            exact HO.out
          | true =>
            by_cases h6 : z.length = 6
            · have hZ6 : Z.size = 6 := by omega
              obtain ⟨bd, hbd⟩ : ∃ b, z.all digB = b := ⟨_, rfl⟩
              rw [hbd] at HST HCF
              cases bd with
              | false =>
                have HS0 : Hid (segNo pre x = 0) := Lib.hid (by rw [HST.out, if_neg fun h => absurd h.2.2.2 (by decide)])
                go_wp2_with (first | (go_at_call 87; refine (HC1.out _).mono ?_; rintro r w' ⟨rfl, rfl⟩) | (go_at_call 88; refine (HC2.out _).mono ?_; rintro r w' ⟨rfl, rfl⟩) | (go_at_call 60; refine (HCF.out _).mono ?_; rintro r w5 ⟨rfl, f5⟩))
                refine ⟨⟨i + 1, by omega, by go_num, ?_, fr.step HB.out f5⟩, by simp [intOf]; omega⟩
                rw [HLO.out, HS0.out, if_neg (by omega), List.append_nil]
                exact own_below HO.out f5
              | true =>
                obtain ⟨m, hm1, hm2⟩ := atoi_dig hbd (by intro h0; rw [h0] at h6; cases h6)
                have hml : m < 1000000 := by have := decNat_lt h6 hbd; rwa [hm1] at this
                have HS0 : Hid (segNo pre x = m) := Lib.hid (by rw [HST.out, if_pos ⟨rfl, rfl, h6, rfl⟩, hm1]; rfl)
                have HCA : Hid (∀ wx, Calls Tryz.prog 76 #[.string Z] wx fun r w' => r = .returned (.tuple #[.int .i64 m, .nilIface]) ∧ fr wx w') := Lib.hid fun wx => by
                  refine (Tryz.strconv_Atoi Z m (by omega) (by rw [← HZ.out]; exact hm2) wx).mono ?_
                  rintro r w' ⟨rfl, t, rfl⟩
                  exact ⟨rfl, Lib.bytesWorld_below _ _ _⟩
                clear hm1 hm2
                rcases Nat.eq_zero_or_pos m with rfl | hm0
                · go_wp2_with (first | (go_at_call 87; refine (HC1.out _).mono ?_; rintro r w' ⟨rfl, rfl⟩) | (go_at_call 88; refine (HC2.out _).mono ?_; rintro r w' ⟨rfl, rfl⟩) | (go_at_call 60; refine (HCF.out _).mono ?_; rintro r w5 ⟨rfl, f5⟩) | (go_at_call 76; refine (HCA.out _).mono ?_; rintro r w6 ⟨rfl, f6⟩))
                  refine ⟨⟨i + 1, by omega, by go_num, ?_, fr.step (fr.step HB.out f5) f6⟩, by simp [intOf]; omega⟩
                  rw [HLO.out, HS0.out, if_neg (by omega), List.append_nil]
                  exact own_below (own_below HO.out f5) f6
                · have hNL : (segsP pre ((listP k).take i)).length + 1 ≤ N := by
                    have := segsP_len pre ((listP k).take i)
                    rw [List.length_take, HN.out] at this
                    omega
                  have hm0' : (0 : Int) < (m : Int) := by omega
                  have ho := HO.out
                  unfold OwnN at ho
                  obtain ⟨nl, hnl⟩ : ∃ q, (segsP pre ((listP k).take i)).length = q := ⟨_, rfl⟩
                  have HNL := Lib.hid hnl
                  rw [hnl] at ho hNL
                  replace HO := Lib.hid ho
                  clear ho hnl
                  go_wp2_with (first | (go_at_call 87; refine (HC1.out _).mono ?_; rintro r w' ⟨rfl, rfl⟩) | (go_at_call 88; refine (HC2.out _).mono ?_; rintro r w' ⟨rfl, rfl⟩) | (go_at_call 60; refine (HCF.out _).mono ?_; rintro r w5 ⟨rfl, f5⟩) | (go_at_call 76; refine (HCA.out _).mono ?_; rintro r w6 ⟨rfl, f6⟩) | (refine wpList_append_own_at _ rfl _ _ 26 rfl w1.heap.size 3 i0 _ 1 8 Tryz.underlying26 hi hz0 hz1 hz2 rfl (by decide) _ _ _ rfl ((own_below (own_below HO.out f5) f6).alloc _) ⟨w6.heap.size, 0, none⟩ 1 1 [.int .i64 m] rfl rfl (cell_one _ _ _) (by simp [Value.oneCell']) (by unfold maxLen; omega) (by omega) (by have := Below.size HB.out; have := Below.size f5; have := Below.size f6; simp; omega) ?_; intro v' w7 hown' hgrow _ hat; obtain ⟨g', cap', rfl⟩ := ownsRow_succ hown'))
                  refine ⟨⟨i + 1, by omega, by go_num, ?_, ?_⟩, by simp [intOf]; omega⟩
                  · rw [HLO.out, HS0.out, if_pos hm0]
                    unfold OwnN
                    rw [List.length_append, HNL.out, List.map_append]
                    exact hown'
                  · refine (((HB.out.trans (Below.mono f5 (Below.size HB.out))).trans (Below.mono f6 (by have := Below.size HB.out; have := Below.size f5; omega))).alloc (by have := Below.size HB.out; have := Below.size f5; have := Below.size f6; omega) _).grown hgrow (by have := Below.size HB.out; have := Below.size f5; have := Below.size f6; simp; omega) (fun j e => (HO.out.lt j e).1)
            · have hZ6 : ¬ Z.size = 6 := by omega
              have HS0 : Hid (segNo pre x = 0) := Lib.hid (by rw [HST.out, if_neg fun h => h6 h.2.2.1])
              go_wp2_with (first | (go_at_call 87; refine (HC1.out _).mono ?_; rintro r w' ⟨rfl, rfl⟩) | (go_at_call 88; refine (HC2.out _).mono ?_; rintro r w' ⟨rfl, rfl⟩))
              refine ⟨⟨i + 1, by omega, by go_num, ?_, HB.out⟩, by simp [intOf]; omega⟩
              rw [HLO.out, HS0.out, if_neg (by omega), List.append_nil]
              exact HO.out
      · obtain rfl : i = N := by omega
        have HFIN : Hid (OwnN wr w1.heap.size u8 (segsP pre (listP k))) := Lib.hid (by have := HO.out; rwa [List.take_of_length_le (by rw [HN.out]; exact Nat.le_refl _)] at this)
        go_wp2
        refine bodyPost_ret (v := .tuple #[u8, .int .i64 0]) (by simp [results, Tryz.results63, go_sem]) rfl ?_
        exact ⟨_, rfl, ownsRow_base_a HFIN.out (Below.size HB1.out), fr.step HB1.out HB.out⟩
  · go_enter Tryz.func63, Tryz.ntmps63
    go_wp2_with (go_at_call 58; refine HL.out.mono ?_; rintro r w1 ⟨vn, rfl, hrow, hb1⟩)
    refine bodyPost_ret (v := .tuple #[.slice none 0 0, .int .i64 e]) (by simp [results, Tryz.results63, go_sem]) rfl ?_
    exact ⟨_, rfl, OwnN.nil _ _, hb1⟩
end Go.Proofs.YtjnolpfmchnnmaaGreatDoor
end
section
namespace Go.Proofs.YtjnolpfmchnnmaaGreatDoor
set_option maxRecDepth 100000
open Go.RowKit Go.BigFrame
section
variable {P : Program} {ops : Array Oper} {md : Region.Mode} {C : World → Prop}
def wpAnyQL (P : Program) (md : Region.Mode) (ops : Array Oper) (C : World → Prop) (n : Nat) (L : Array Bool → Act → Prop) : Nat → Array Bool → Act → Prop
  | 0, listed, a => L listed a
  | f + 1, listed, a =>
    Region.ready md ops listed ≠ [] ∧ ∀ i ∈ Region.ready md ops listed, i < n ∧ qOp P ops C i (wpAnyQL P md ops C n L f (listed.setIfInBounds i true)) a
theorem wpAny_of_headQ {n g : Nat} {L : Array Bool → Act → Prop} {Q' : Exit → Act → World → Prop} (hL : ∀ listed a w, C w → L listed a → wpAny P md ops Q' g listed a w) :
    ∀ (f : Nat) (listed : Array Bool) (a : Act) (w : World), C w → wpAnyQL P md ops C n L f listed a → wpAny P md ops Q' (f + g) listed a w
  | 0, listed, a, w, hw, h => by rw [Nat.zero_add]; exact hL _ _ _ hw h
  | f + 1, listed, a, w, hw, h => by
    rw [show f + 1 + g = (f + g) + 1 by omega]
    exact ⟨fun h0 => absurd h0 h.1, fun i hi => wpOp_of_qOp hw (fun a' w' hw' h' => wpAny_of_headQ hL f _ a' w' hw' h') (h.2 i hi).2⟩
theorem wpAnyQL_first {n i : Nat} {oi : Oper} {v : Value} {L : Array Bool → Act → Prop} (hi : ops[i]? = some oi) (hsel : ∀ (j : Nat) (o : Oper) cs b, ops[j]? = some o → o.op ≠ .select cs b)
    (hs : Region.sinkB md ops n = true) (hc : Region.chainB md ops n = true) (hn : n < ops.size) (hin : i < n)
    (hdone : ∀ listed a, L listed a → ∀ j ∈ Region.ready md ops listed, n ≤ j) :
    ∀ (f : Nat) (listed : Array Bool) (a : Act), HeadInv md ops n listed →
      (∀ j oj, ops[j]? = some oj → j ≠ i → listed.getD j true = false → (∀ e ∈ oj.after, Region.binds md e = true → e.on ≠ i) → oi.apart ops oj = true) →
      i ∈ Region.ready md ops listed → YieldsIn P ops C oi v a →
      wpAnyQL P md ops C n L f (listed.setIfInBounds i true) (a.put oi.dst v) → wpAnyQL P md ops C n L (f + 1) listed a := by
  intro f
  induction f with
  | zero =>
    intro listed a inv _ hr hy H
    have hun := (mem_ready.1 hr).1
    refine ⟨fun h => (by rw [h] at hr; cases hr), fun j hj => ?_⟩
    have hjn : j < n := by
      rcases Nat.lt_or_ge j n with h | h
      · exact h
      · exact absurd hj (tail_waits hs hc hn inv _ i rfl hin hun j h)
    refine ⟨hjn, ?_⟩
    by_cases hji : j = i
    · subst hji; exact hy.qOp hi H
    · have := hdone _ _ H j (ready_mono hj hji)
      omega
  | succ f ih =>
    intro listed a inv hfree hr hy H
    have hun := (mem_ready.1 hr).1
    refine ⟨fun h => (by rw [h] at hr; cases hr), fun j hj => ?_⟩
    have hjn : j < n := by
      rcases Nat.lt_or_ge j n with h | h
      · exact h
      · exact absurd hj (tail_waits hs hc hn inv _ i rfl hin hun j h)
    refine ⟨hjn, ?_⟩
    by_cases hji : j = i
    · subst hji; exact hy.qOp hi H
    · have h1 := (H.2 j (ready_mono hj hji)).2
      obtain ⟨hjun, oj, hoj, hall⟩ := mem_ready.1 hj
      have hnot : ∀ e ∈ oj.after, Region.binds md e = true → e.on ≠ i := fun e he hb heq => by
        have h1 := hall e he hb
        rw [heq, getD_both hun] at h1
        cases h1
      have h2 := qOp_put hoj (hfree j oj hoj hji hjun hnot) (fun cs b => hsel i oi cs b hi) (fun cs b => hsel j oj cs b hoj) hy h1
      have hfree' : ∀ k ok, ops[k]? = some ok → k ≠ i → (listed.setIfInBounds j true).getD k true = false →
          (∀ e ∈ ok.after, Region.binds md e = true → e.on ≠ i) → oi.apart ops ok = true := fun k ok hk hki hun hno => by
        refine hfree k ok hk hki ?_ hno
        by_cases hjk : j = k
        · subst hjk; exact hjun
        · rw [getD_set_ne true hjk] at hun; exact hun
      refine qOp_mono (fun a' h3 => ih (listed.setIfInBounds j true) a' (inv.set hj hjn) hfree' (ready_mono hr (Ne.symm hji)) h3.1 ?_) h2
      rw [Array.setIfInBounds_comm _ _ hji]
      exact h3.2
theorem wpAnyQL_lex {n g : Nat} {Lq : Act → Prop} (hsel : Region.noSelect ops = true) (hs : Region.sinkB md ops n = true) (hc : Region.chainB md ops n = true) (hn : n < ops.size) :
    ∀ (l : List Oper) (k : Nat) (listed : Array Bool) (a : Act), (∀ j, j < l.length → l[j]? = ops[k + j]?) → k + l.length = n → HeadInv md ops n listed →
    Region.lexHead md ops g l.length k listed = true → wpQuiet P ops C Lq l a →
    wpAnyQL P md ops C n (fun listed' a' => Region.seqB md ops g n listed' = true ∧ Lq a') l.length listed a
  | [], k, listed, a, _, hk, _, hB, h => by
    have : k = n := by simpa using hk
    subst this
    exact ⟨by simpa [Region.lexHead] using hB, h⟩
  | o :: l, k, listed, a, hl, hk, inv, hB, h => by
    have h0 : ops[k]? = some o := by simpa using (hl 0 (by simp)).symm
    simp only [List.length_cons, Region.lexHead, Bool.and_eq_true] at hB
    obtain ⟨⟨hr, hf⟩, hB'⟩ := hB
    have hkn : k < n := by simp only [List.length_cons] at hk; omega
    have hr' : k ∈ Region.ready md ops listed := by simpa using hr
    have hst : qOp P ops C k (wpQuiet P ops C Lq l) a := by unfold qOp; simp only [h0]; exact h
    obtain ⟨v, hy, hK⟩ := yieldsIn_of_qOp h0 hst
    exact wpAnyQL_first h0 (Region.noSelect_spec hsel) hs hc hn hkn (fun listed' a' hL => seqB_ready hL.1) l.length listed a inv (Region.free_spec h0 hf) hr' hy
      (wpAnyQL_lex hsel hs hc hn l (k + 1) _ _ (fun j hj => by have := hl (j + 1) (by simp; omega); simpa [Nat.add_assoc, Nat.add_comm 1 j] using this) (by simp only [List.length_cons] at hk; omega) (inv.set hr' hkn) hB' hK)
theorem wp_region_quiet_tail {id : Nat} {Q : Exit → Act → World → Prop} {a : Act} {w : World} {l : List Oper} (n : Nat) (hm : P.follows .mixedOrders = true) (hB : Region.lexTailB .any l.toArray n = true) (hC : C { w with drawn := w.drawn + 1 })
    (h : wpQuiet P l.toArray C (fun a' => ∀ w', C w' → wpList P l.toArray Q (l.drop n) a' w') (l.take n) a) : (Code.region id l.toArray true).wp P Q a w := by
  simp only [Region.lexTailB, Bool.and_eq_true, decide_eq_true_eq] at hB
  obtain ⟨⟨⟨⟨hsel, hn⟩, hs⟩, hc⟩, hlex⟩ := hB
  have hn' : n < l.length := by simpa using hn
  have htl : (l.take n).length = n := by simp; omega
  have hdl : (l.drop n).length = l.toArray.size - n := by simp
  have inv0 : HeadInv .any l.toArray n (Array.replicate l.toArray.size false) :=
    ⟨by simp, fun j oj _ hl => (by rw [getD_replicate_false] at hl; cases hl), fun t _ ht => getD_in (by simpa using ht) (getD_replicate_false _ _)⟩
  have H := wpAnyQL_lex (md := .any) (g := l.toArray.size - n) hsel hs hc hn (l.take n) 0 _ a (fun j hj => by
    have hj' : j < n := by rw [htl] at hj; exact hj
    simp [hj']) (by simpa using htl) inv0 (by rw [htl]; exact hlex) h
  refine wp_region_any hm ?_
  have := wpAny_of_headQ (Q' := Q) (g := l.toArray.size - n) (fun listed a' w' hw' hL => by
    have := wpAny_of_seq (md := .any) (Q' := Q) (l.drop n) n listed a' w' (fun j => by simp [List.getElem?_drop]) (by rw [hdl]; exact hL.1) (hL.2 w' hw')
    rwa [hdl] at this) _ _ _ _ hC H
  rw [htl, show n + (l.toArray.size - n) = l.toArray.size by omega] at this
  exact this
theorem wp_region_ext_tail {id : Nat} {Q : Exit → Act → World → Prop} {a : Act} {w : World} {l : List Oper} (n : Nat) (hm : P.follows .mixedOrders = true) (hB : Region.lexTailB .any l.toArray n = true)
    (h : wpQuiet P l.toArray (fun w' => ∃ p : Ext w, w' = p.w) (fun a' => ∀ w', (∃ p : Ext w, w' = p.w) → wpList P l.toArray Q (l.drop n) a' w') (l.take n) a) : (Code.region id l.toArray true).wp P Q a w :=
  wp_region_quiet_tail (C := fun w' => ∃ p : Ext w, w' = p.w) n hm hB ⟨⟨w.drew, fr.refl.drew⟩, rfl⟩ h
def Region.backB (md : Region.Mode) (ops : Array Oper) (n : Nat) : Bool :=
  (List.range ops.size).all fun t => decide (t ≤ n) || (List.range t).any fun j => decide (n ≤ j) && Region.waitsFor md ops t j
theorem tail_waits2 {n : Nat} {listed : Array Bool} (hs : Region.sinkB md ops n = true) (hc : Region.backB md ops n = true) (_hn : n < ops.size) (inv : HeadInv md ops n listed) :
    ∀ (d i : Nat), n - i = d → i < n → listed.getD i true = false → ∀ t, n ≤ t → t ∉ Region.ready md ops listed := by
  intro d
  induction d using Nat.strongRecOn with
  | _ d ih =>
    intro i hd hi hun t ht hr
    obtain ⟨_, ot, hot, hall⟩ := mem_ready.1 hr
    have htlt : t < ops.size := (Array.getElem?_eq_some_iff.1 hot).1
    by_cases htn : t = n
    · subst htn
      have h1 := List.all_eq_true.1 hs i (List.mem_range.2 hi)
      obtain ⟨j, hj, hj2⟩ := List.any_eq_true.1 h1
      simp only [Bool.and_eq_true, decide_eq_true_eq] at hj2
      obtain ⟨oj, hoj, e, he, hb, hon⟩ := Region.waitsFor_spec hj2.2
      have hjle : j ≤ t := by have := List.mem_range.1 hj; omega
      by_cases hjt : j = t
      · subst hjt
        have : oj = ot := Option.some.inj (hoj.symm.trans hot)
        subst this
        have h2 := hall e he hb
        rw [hon, getD_both hun] at h2
        cases h2
      · cases hl : listed.getD j false with
        | true =>
          have h2 := inv.closed j oj hoj hl e he hb
          rw [hon, getD_both hun] at h2
          cases h2
        | false =>
          have hjs : j < listed.size := by rw [inv.size]; omega
          exact ih (t - j) (by omega) j rfl (by omega) (getD_in hjs hl) t (Nat.le_refl _) hr
    · have h1 := List.all_eq_true.1 hc t (List.mem_range.2 htlt)
      simp only [Bool.or_eq_true, decide_eq_true_eq] at h1
      rcases h1 with h1 | h1
      · omega
      · obtain ⟨j, hj, hj2⟩ := List.any_eq_true.1 h1
        simp only [Bool.and_eq_true, decide_eq_true_eq] at hj2
        have hjt : j < t := List.mem_range.1 hj
        obtain ⟨o', ho', e, he, hb, hon⟩ := Region.waitsFor_spec hj2.2
        have : o' = ot := Option.some.inj (ho'.symm.trans hot)
        subst this
        have h2 := hall e he hb
        rw [hon, getD_both (inv.tail j hj2.1 (by omega))] at h2
        cases h2
theorem wpAnyQM_first {n i : Nat} {oi : Oper} {v : Value} {L : Array Bool → Act → Prop} (hi : ops[i]? = some oi) (hsel : ∀ (j : Nat) (o : Oper) cs b, ops[j]? = some o → o.op ≠ .select cs b)
    (hs : Region.sinkB md ops n = true) (hc : Region.backB md ops n = true) (hn : n < ops.size) (hin : i < n)
    (hdone : ∀ listed a, L listed a → ∀ j ∈ Region.ready md ops listed, n ≤ j) :
    ∀ (f : Nat) (listed : Array Bool) (a : Act), HeadInv md ops n listed →
      (∀ j oj, ops[j]? = some oj → j ≠ i → listed.getD j true = false → (∀ e ∈ oj.after, Region.binds md e = true → e.on ≠ i) → oi.apart ops oj = true) →
      i ∈ Region.ready md ops listed → YieldsIn P ops C oi v a →
      wpAnyQL P md ops C n L f (listed.setIfInBounds i true) (a.put oi.dst v) → wpAnyQL P md ops C n L (f + 1) listed a := by
  intro f
  induction f with
  | zero =>
    intro listed a inv _ hr hy H
    have hun := (mem_ready.1 hr).1
    refine ⟨fun h => (by rw [h] at hr; cases hr), fun j hj => ?_⟩
    have hjn : j < n := by
      rcases Nat.lt_or_ge j n with h | h
      · exact h
      · exact absurd hj (tail_waits2 hs hc hn inv _ i rfl hin hun j h)
    refine ⟨hjn, ?_⟩
    by_cases hji : j = i
    · subst hji; exact hy.qOp hi H
    · have := hdone _ _ H j (ready_mono hj hji)
      omega
  | succ f ih =>
    intro listed a inv hfree hr hy H
    have hun := (mem_ready.1 hr).1
    refine ⟨fun h => (by rw [h] at hr; cases hr), fun j hj => ?_⟩
    have hjn : j < n := by
      rcases Nat.lt_or_ge j n with h | h
      · exact h
      · exact absurd hj (tail_waits2 hs hc hn inv _ i rfl hin hun j h)
    refine ⟨hjn, ?_⟩
    by_cases hji : j = i
    · subst hji; exact hy.qOp hi H
    · have h1 := (H.2 j (ready_mono hj hji)).2
      obtain ⟨hjun, oj, hoj, hall⟩ := mem_ready.1 hj
      have hnot : ∀ e ∈ oj.after, Region.binds md e = true → e.on ≠ i := fun e he hb heq => by
        have h1 := hall e he hb
        rw [heq, getD_both hun] at h1
        cases h1
      have h2 := qOp_put hoj (hfree j oj hoj hji hjun hnot) (fun cs b => hsel i oi cs b hi) (fun cs b => hsel j oj cs b hoj) hy h1
      have hfree' : ∀ k ok, ops[k]? = some ok → k ≠ i → (listed.setIfInBounds j true).getD k true = false →
          (∀ e ∈ ok.after, Region.binds md e = true → e.on ≠ i) → oi.apart ops ok = true := fun k ok hk hki hun hno => by
        refine hfree k ok hk hki ?_ hno
        by_cases hjk : j = k
        · subst hjk; exact hjun
        · rw [getD_set_ne true hjk] at hun; exact hun
      refine qOp_mono (fun a' h3 => ih (listed.setIfInBounds j true) a' (inv.set hj hjn) hfree' (ready_mono hr (Ne.symm hji)) h3.1 ?_) h2
      rw [Array.setIfInBounds_comm _ _ hji]
      exact h3.2
def Region.midHead (md : Region.Mode) (ops : Array Oper) (g : Nat) : Nat → Nat → Array Bool → Bool
  | 0, k, listed => decide (Region.ready md ops listed = [k]) && Region.lexFrom md ops g (k + 1) (listed.setIfInBounds k true)
  | f + 1, k, listed => (Region.ready md ops listed).contains k && Region.free md ops listed k && Region.midHead md ops g f (k + 1) (listed.setIfInBounds k true)
def Region.lexMidB (md : Region.Mode) (ops : Array Oper) (n : Nat) : Bool :=
  Region.noSelect ops && decide (n < ops.size) && Region.sinkB md ops n && Region.backB md ops n && Region.midHead md ops (ops.size - n - 1) n 0 (Array.replicate ops.size false)
theorem wpAnyQM_lex {n g : Nat} {Lq : Act → Prop} (hsel : Region.noSelect ops = true) (hs : Region.sinkB md ops n = true) (hc : Region.backB md ops n = true) (hn : n < ops.size) :
    ∀ (l : List Oper) (k : Nat) (listed : Array Bool) (a : Act), (∀ j, j < l.length → l[j]? = ops[k + j]?) → k + l.length = n → HeadInv md ops n listed →
    Region.midHead md ops g l.length k listed = true → wpQuiet P ops C Lq l a →
    wpAnyQL P md ops C n (fun listed' a' => (Region.ready md ops listed' = [n] ∧ Region.lexFrom md ops g (n + 1) (listed'.setIfInBounds n true) = true) ∧ Lq a') l.length listed a
  | [], k, listed, a, _, hk, _, hB, h => by
    have : k = n := by simpa using hk
    subst this
    simp only [List.length_nil, Region.midHead, Bool.and_eq_true, decide_eq_true_eq] at hB
    exact ⟨hB, h⟩
  | o :: l, k, listed, a, hl, hk, inv, hB, h => by
    have h0 : ops[k]? = some o := by simpa using (hl 0 (by simp)).symm
    simp only [List.length_cons, Region.midHead, Bool.and_eq_true] at hB
    obtain ⟨⟨hr, hf⟩, hB'⟩ := hB
    have hkn : k < n := by simp only [List.length_cons] at hk; omega
    have hr' : k ∈ Region.ready md ops listed := by simpa using hr
    have hst : qOp P ops C k (wpQuiet P ops C Lq l) a := by unfold qOp; simp only [h0]; exact h
    obtain ⟨v, hy, hK⟩ := yieldsIn_of_qOp h0 hst
    exact wpAnyQM_first h0 (Region.noSelect_spec hsel) hs hc hn hkn (fun listed' a' hL j hj => Nat.le_of_eq (by rw [hL.1.1] at hj; exact (List.mem_singleton.1 hj).symm)) l.length listed a inv (Region.free_spec h0 hf) hr' hy
      (wpAnyQM_lex hsel hs hc hn l (k + 1) _ _ (fun j hj => by have := hl (j + 1) (by simp; omega); simpa [Nat.add_assoc, Nat.add_comm 1 j] using this) (by simp only [List.length_cons] at hk; omega) (inv.set hr' hkn) hB' hK)
theorem wpOp_of_one {n : Nat} {o : Oper} {mid : Act → World → Prop} {Q' : Exit → Act → World → Prop} {a : Act} {w : World} (h0 : ops[n]? = some o)
    (h : wpList P ops (fun e a w => e = .normal ∧ mid a w) [o] a w) : wpOp P ops Q' n mid a w := by
  unfold wpList at h
  unfold wpOp
  simp only [h0]
  split
  · rename_i hw
    rw [if_pos hw] at h
    rcases h with h | ⟨_, a1, w1, h, _⟩
    · refine .inl ?_
      unfold Oper.wp at *
      generalize (execOp a.eval o).run P w = r at *
      cases r with
      | ok n w' =>
        cases n <;> simp only [Oper.upon] at h ⊢ <;>
          first
            | exact h.2
            | exact Calls.mono h (fun e w'' he => by cases e <;> first | exact he.2 | exact absurd he.1 (by simp) | (obtain ⟨_, _, h, _⟩ := he; exact absurd h (by simp)))
            | exact _root_.Go.Rows.mono h (fun _ _ he => he.2)
      | halt x w' => cases x <;> simp only [Oper.upon] at h ⊢ <;> first | exact h | exact absurd h.1 (by simp)
    · cases h
  · rename_i hw
    rw [if_neg hw] at h
    exact h.2
theorem wp_region_quiet_mid {id : Nat} {Q : Exit → Act → World → Prop} {a : Act} {w : World} {l : List Oper} (n : Nat) (hm : P.follows .mixedOrders = true) (hB : Region.lexMidB .any l.toArray n = true) (hC : C { w with drawn := w.drawn + 1 })
    (h : wpQuiet P l.toArray C (fun a' => ∀ w', C w' → ∀ Q2 : Exit → Act → World → Prop, (∀ a2 w2, wpQuiet P l.toArray (fun x => x = w2) (fun a3 => Q .normal a3 w2) (l.drop (n + 1)) a2 → Q2 .normal a2 w2) → wpList P l.toArray Q2 ((l.drop n).take 1) a' w') (l.take n) a) : (Code.region id l.toArray true).wp P Q a w := by
  simp only [Region.lexMidB, Bool.and_eq_true, decide_eq_true_eq] at hB
  obtain ⟨⟨⟨⟨hsel, hn⟩, hs⟩, hc⟩, hlex⟩ := hB
  have hn' : n < l.length := by simpa using hn
  have htl : (l.take n).length = n := by simp; omega
  have hdl : (l.drop (n + 1)).length = l.toArray.size - n - 1 := by simp; omega
  have inv0 : HeadInv .any l.toArray n (Array.replicate l.toArray.size false) :=
    ⟨by simp, fun j oj _ hl => (by rw [getD_replicate_false] at hl; cases hl), fun t _ ht => getD_in (by simpa using ht) (getD_replicate_false _ _)⟩
  have H := wpAnyQM_lex (md := .any) (g := l.toArray.size - n - 1) hsel hs hc hn (l.take n) 0 _ a (fun j hj => by
    have hj' : j < n := by rw [htl] at hj; exact hj
    simp [hj']) (by simpa using htl) inv0 (by rw [htl]; exact hlex) h
  refine wp_region_any hm ?_
  have := wpAny_of_headQ (Q' := Q) (g := l.toArray.size - n - 1 + 1) (fun listed a' w' hw' hL => by
    refine ⟨fun h0 => (by rw [hL.1.1] at h0; cases h0), fun i hi => ?_⟩
    rw [hL.1.1] at hi
    obtain rfl : i = n := by simpa using hi
    have ho : l.toArray[i]? = some l[i] := by simp [hn']
    have e1 : (l.drop i).take 1 = [l[i]] := by rw [List.drop_eq_getElem_cons hn']; rfl
    have h1 := hL.2 w' hw' (fun e a2 w2 => e = .normal ∧ wpQuiet P l.toArray (fun x => x = w2) (fun a3 => Q .normal a3 w2) (l.drop (i + 1)) a2) (fun a2 w2 h => ⟨rfl, h⟩)
    rw [e1] at h1
    refine wpOp_mono (fun a2 w2 h2 => ?_) (wpOp_of_one (Q' := Q) ho h1)
    have h3 := wpAnyQ_lex (md := .any) hsel (l.drop (i + 1)) (i + 1) (listed.setIfInBounds i true) a2 (fun j => by simp [List.getElem?_drop]) (by rw [hdl]; exact hL.1.2) h2
    rw [hdl] at h3
    exact wpAny_of_quiet (C := fun x => x = w2) (Q := fun a3 => Q .normal a3 w2) (fun a3 w3 hw3 h => by rw [hw3]; exact h) _ _ _ _ rfl h3) _ _ _ _ hC H
  rw [htl, show n + (l.toArray.size - n - 1 + 1) = l.toArray.size by omega] at this
  exact this
theorem wp_region_ext_mid {id : Nat} {Q : Exit → Act → World → Prop} {a : Act} {w : World} {l : List Oper} (n : Nat) (hm : P.follows .mixedOrders = true) (hB : Region.lexMidB .any l.toArray n = true)
    (h : wpQuiet P l.toArray (fun w' => ∃ p : Ext w, w' = p.w) (fun a' => ∀ w', (∃ p : Ext w, w' = p.w) → ∀ Q2 : Exit → Act → World → Prop, (∀ a2 w2, wpQuiet P l.toArray (fun x => x = w2) (fun a3 => Q .normal a3 w2) (l.drop (n + 1)) a2 → Q2 .normal a2 w2) → wpList P l.toArray Q2 ((l.drop n).take 1) a' w') (l.take n) a) : (Code.region id l.toArray true).wp P Q a w :=
  wp_region_quiet_mid (C := fun w' => ∃ p : Ext w, w' = p.w) n hm hB ⟨⟨w.drew, fr.refl.drew⟩, rfl⟩ h
end
end Go.Proofs.YtjnolpfmchnnmaaGreatDoor
end
section
namespace Go.Proofs.YtjnolpfmchnnmaaGreatDoor
set_option maxRecDepth 100000
open Go.RowKit Go.BigFrame Go.Sort Go.Shelf Go.Lib
attribute [local go_sem ↓] Go.wp_at_zero Go.wp_at_succ
structure LogV (w : World) (F : Nat → Prop) (L p : Nat) (pre : Nm) (size N b : Nat) (k : Pk) : Prop where
  dk : DiskP w F p k
  out : ¬ F L
  row : w.heap[L]? = some (.cells #[.pointer (some ⟨p, 0, none⟩), .string ⟨pre.toArray⟩, .int .i64 size, .int .i64 N, .int .i64 b] 134 (0, 0))
section
variable {w w' : World} {F : Nat → Prop} {L p : Nat} {pre : Nm} {size N b : Nat} {k : Pk}
theorem LogV.below (h : LogV w F L p pre size N b k) (hf : fr w w') : LogV w' F L p pre size N b k :=
  ⟨h.dk.below hf, h.out, (Below.block hf L (Array.getElem?_eq_some_iff.1 h.row).1).trans h.row⟩
theorem LogV.lt (h : LogV w F L p pre size N b k) : L < w.heap.size := (Array.getElem?_eq_some_iff.1 h.row).1
theorem LogV.cells (h : LogV w F L p pre size N b k) : w.cell? ⟨L, 0, none⟩ = some (.pointer (some ⟨p, 0, none⟩)) ∧ w.cell? ⟨L, 1, none⟩ = some (.string ⟨pre.toArray⟩) ∧ w.cell? ⟨L, 2, none⟩ = some (.int .i64 size) ∧ w.cell? ⟨L, 3, none⟩ = some (.int .i64 N) ∧ w.cell? ⟨L, 4, none⟩ = some (.int .i64 b) :=
  ⟨by rw [cell_of_row w _ _ _ _ _ h.row]; rfl, by rw [cell_of_row w _ _ _ _ _ h.row]; rfl, by rw [cell_of_row w _ _ _ _ _ h.row]; rfl, by rw [cell_of_row w _ _ _ _ _ h.row]; rfl, by rw [cell_of_row w _ _ _ _ _ h.row]; rfl⟩
end
theorem fr_drewN (w : World) (n : Nat) : fr w (w.drewN n) := ⟨rfl, rfl, rfl, Nat.le_refl _, fun _ _ => rfl⟩
set_option maxRecDepth 100000 in
set_option maxHeartbeats 1000000 in
theorem segment_any (F : Nat → Prop) (L p : Nat) (pre : Nm) (size N b : Nat) (k : Pk) (w : World) (h : LogV w F L p pre size N b k) (hN : N < 4611686018427387904) :
    Calls Tryz.prog 18 #[.pointer (some ⟨L, 0, none⟩)] w fun r w' => r = .returned (.int .i64 ((if size ≤ b then N + 1 else N : Nat) : Int)) ∧ fr w w' := by
  obtain ⟨c0, c1, c2, c3, c4⟩ := h.cells
  clear h
  by_cases hb : size ≤ b
  · have hb' : (size : Int) ≤ (b : Int) := by omega
    rw [if_pos hb]
    go_enter Tryz.func18, Tryz.ntmps18
    go_upto_region 3 with (fail)
    go_quiet (fail)
    have c3' : (w.drewN nq).cell? ⟨L, 3, none⟩ = some (.int .i64 N) := c3
    go_wp2
    go_ret
    exact ⟨by rfl, fr_drewN _ _⟩
  · have hb' : ¬ (size : Int) ≤ (b : Int) := by omega
    rw [if_neg hb]
    go_enter Tryz.func18, Tryz.ntmps18
    go_upto_region 3 with (fail)
    go_quiet (fail)
    have c3' : (w.drewN nq).cell? ⟨L, 3, none⟩ = some (.int .i64 N) := c3
    go_wp2
    go_ret
    exact ⟨rfl, fr_drewN _ _⟩
set_option maxRecDepth 100000 in
set_option maxHeartbeats 1000000 in
theorem wsync_any (F : Nat → Prop) (L p : Nat) (pre : Nm) (size N b : Nat) (k : Pk) (w : World) (h : LogV w F L p pre size N b k) (ht : TabW w) (hp : pre.length ≤ 64) (hN : N < 1000000) (hd : 0 ≤ k.done) (hd' : k.done < 4611686018427387904) :
    Calls Tryz.prog 22 #[.pointer (some ⟨L, 0, none⟩)] w fun r w' => r = .returned (.int .i64 (if b = 0 then 0 else syncE k (nameW pre N))) ∧ LogV w' F L p pre size N b (if b = 0 then k else syncK k (nameW pre N)) ∧ Only F w w' := by
  obtain ⟨c0, c1, c2, c3, c4⟩ := h.cells
  have H := Lib.hid h
  have HT := Lib.hid ht
  clear h ht
  by_cases hb : b = 0
  · subst hb
    go_enter Tryz.func22, Tryz.ntmps22
    go_wp2
    go_ret
    exact ⟨rfl, H.out, Only.refl _ _⟩
  · have hb' : ((b : Int) == 0) = false := by simp; omega
    rw [if_neg hb, if_neg hb]
    obtain ⟨X, hX⟩ : ∃ X : ByteArray, (⟨(nameW pre N).toArray⟩ : ByteArray) = X := ⟨_, rfl⟩
    have HF : Hid (∀ wx, fr w wx → Calls Tryz.prog 65 #[.string ⟨pre.toArray⟩, .int .i64 N] wx fun r w' => r = .returned (.string X) ∧ Below wx.heap.size wx w') := Lib.hid fun wx hx => by
      rw [← hX]
      exact file_any pre N wx (HT.out.below hx) hp hN
    have HS : Hid (∀ wx, fr w wx → Calls Tryz.prog 70 #[.pointer (some ⟨p, 0, none⟩), .string X] wx fun r w' => r = .returned (.int .i64 (syncE k (nameW pre N))) ∧ DiskP w' F p (syncK k (nameW pre N)) ∧ Only F wx w') := Lib.hid fun wx hx => by
      rw [← hX]
      exact sync_any F p k _ wx (H.out.dk.below hx) (by show (nameW pre N).length ≤ _; unfold nameW; rw [List.length_append, List.length_append]; show pre.length + 6 + 4 ≤ _; omega) hd hd'
    clear hX
    obtain ⟨P, hP⟩ : ∃ P : ByteArray, (⟨pre.toArray⟩ : ByteArray) = P := ⟨_, rfl⟩
    rw [hP] at c1 HF
    clear hP
    have q0 := fun q : Ext w => q.cell c0
    have q1 := fun q : Ext w => q.cell c1
    have q3 := fun q : Ext w => q.cell c3
    go_enter Tryz.func22, Tryz.ntmps22
    go_upto_region 5 with (fail)
    (refine wp_region_ext_tail 13 (by kernel_rfl) (by kernel_rfl) ?_; simp only [List.take_succ_cons, List.take_zero, List.drop_succ_cons, List.drop_zero]; (repeat (go_big_quiet_step ((go_at_call 65; exact Ext.calls (HF.out _ (Ext.h _)))))); refine wpQuiet_nil ?_; intro wq hw'; obtain ⟨⟨_, hq⟩, hw''⟩ := hw'; subst hw'')
    go_wp2_with (go_at_call 70; refine (HS.out _ hq).mono ?_; rintro r w2 ⟨rfl, hk2, ho2⟩)
    go_ret
    have hl := H.out.below hq
    exact ⟨rfl, ⟨hk2, hl.out, (ho2.block L hl.lt hl.out).trans hl.row⟩, Only.trans (Only.of_below hq) ho2⟩
end Go.Proofs.YtjnolpfmchnnmaaGreatDoor
end
