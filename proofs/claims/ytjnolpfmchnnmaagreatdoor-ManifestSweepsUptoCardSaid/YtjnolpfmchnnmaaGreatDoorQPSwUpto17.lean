/-
Law 13: files of tables that the version hasn't are deleted; no other file is.
-/
import Derived.Test.YtjnolpfmchnnmaaGreatDoorQPSwUpto13
import Derived.Test.YtjnolpfmchnnmaaGreatDoorQPSwUpto15
import Derived.Test.YtjnolpfmchnnmaaGreatDoorQPSwUpto16
import Derived.BigQuiet
import Derived.Deep.RegionHeld3
import Derived.Deep.Cut
import Derived.Deep.CutRange
import Derived.Deep.DeepCutAuto
section
namespace Go.Proofs.YtjnolpfmchnnmaaGreatDoor
set_option maxRecDepth 100000
open Go.RowKit Go.BigFrame Go.Sort Go.Shelf Go.Lib
attribute [local go_sem ↓] Go.wp_at_zero Go.wp_at_succ
def laysB (s : Nm) : Bool := !s.isEmpty && !decide (s.head? = some 109) && !decide (s.take 7 = curW) && nameB s
theorem lays_own {s : Nm} (h : laysB s = true) : nameB s = true ∧ ¬ isOwn 1 s := by
  unfold laysB at h
  simp only [Bool.and_eq_true, Bool.not_eq_true', decide_eq_false_iff_not] at h
  obtain ⟨⟨⟨_, h2⟩, h3⟩, h4⟩ := h
  refine ⟨h4, fun ho => ?_⟩
  rcases ho with rfl | rfl
  · exact h3 rfl
  · exact h2 rfl
theorem id_of (z : Int) : ∃ m : Nat, m < 999999 ∧ wrap64 (1 + wrap64 ((IntKind.u64.wrap z).tmod 999999)) = ((m + 1 : Nat) : Int) := by
  have h0 : 0 ≤ IntKind.u64.wrap z := by
    show 0 ≤ z % 18446744073709551616
    omega
  generalize IntKind.u64.wrap z = y at h0
  rw [Int.tmod_eq_emod_of_nonneg h0]
  refine ⟨(y % 999999).toNat, by omega, ?_⟩
  have h1 : wrap64 (y % 999999) = y % 999999 := by unfold wrap64; omega
  rw [h1]
  unfold wrap64
  omega
theorem ints_at {w : World} {S : Nat → Prop} {A : Option Addr} {n c : Nat} {zs : List Int} (h : IntsIn w S (.slice A n c) zs) (hn : zs.length = n) {j : Nat} {d : Int} (hd : zs[j]? = some d) : ∃ b o, A = some ⟨b, o, none⟩ ∧ w.cell? ⟨b, o + j, none⟩ = some (.int .i64 d) := by
  obtain ⟨A', c', hE, _, _, hr⟩ := h
  injection hE with hE1 _ _
  subst hE1
  have hj := (List.getElem?_eq_some_iff.1 hd).1
  obtain ⟨b, o, rfl, _, _, hc⟩ := hr.2 (by omega)
  exact ⟨b, o, rfl, hc j _ (by rw [List.getElem?_map, hd]; rfl)⟩
theorem byt120 (w : World) : Byt (w.alloc (.cells #[.int .u8 120] 5 (1, 2))).drew (fun j => w.heap.size ≤ j) (.slice (some ⟨w.heap.size, 0, none⟩) 1 1) [120] := by
  have h1 := cell_marked w #[.int .u8 120] 5 (1, 2) w.heap.size 0 rfl
  have b : Byt (w.alloc (.cells #[.int .u8 120] 5 (1, 2))) (fun j => w.heap.size ≤ j) (.slice (some ⟨w.heap.size, 0, none⟩) 1 1) [120] := Byt.one (v := .int .u8 120) h1 rfl (Nat.le_refl _) (by omega) (by omega)
  exact b.below (fr.drew fr.refl)
theorem conv120 (w : World) : (convert 35 35 (.slice (some ⟨w.heap.size, 0, none⟩) 1 1)).run Tryz.prog (w.alloc (.cells #[.int .u8 120] 5)).drew = .ok (.slice (some ⟨w.heap.size, 0, none⟩) 1 1) (w.alloc (.cells #[.int .u8 120] 5 (1, 2))).drew :=
  Lib.run_convert_bytes_const (P := Tryz.prog) w.drew 35 5 #[.int .u8 120] 1 1 Tryz.underlying35 Tryz.underlying5
theorem any_snoc {l : List Tbl} {k : Nat} {t : Tbl} (h : l[k]? = some t) (p : Tbl → Bool) : (l.take (k + 1)).any p = ((l.take k).any p || p t) := by
  rw [take_snoc h, List.any_append]
  simp
set_option maxRecDepth 100000 in
set_option maxHeartbeats 8000000 in
theorem manifestSweepsLaw (av dv idv nmv : Value) (e : Edt) (ids : List Int) (ns : List Nm) (w : World) (ha : TabsV w (fun _ => True) av e.add) (hd : IntsIn w (fun _ => True) dv e.drop) (h8 : e.drop.length * 8 ≤ 140737488355328)
    (hb : (∀ t ∈ e.add, t.count < 9223372036854775808) ∧ e.lg < 9223372036854775808 ∧ e.sq < 9223372036854775808) (hi : IntsIn w (fun _ => True) idv ids) (hil : ids.length ≤ 1048576) (hn : NmsIn w nmv ns) (hnl : ns.length ≤ 1048576) (ht : TabW w) (her : ErrW w) :
    Calls Tryz.prog 9 #[.agg #[av, dv, .int .i64 e.lg, .int .i64 e.sq], idv, nmv] w fun r w' => r = .returned (.bool true) ∧ fr w w' := by
  have h72 : e.add.length * 72 ≤ 140737488355328 := by obtain ⟨_, _, _, _, _, _, h3, _⟩ := ha; exact h3
  obtain ⟨A1, c1, rfl⟩ := ha.form
  obtain ⟨B1, k1, rfl⟩ : ∃ A c, dv = .slice A e.drop.length c := by obtain ⟨A, c, h, _⟩ := hd; exact ⟨A, c, h⟩
  obtain ⟨Ai, ki, rfl⟩ : ∃ A c, idv = .slice A ids.length c := by obtain ⟨A, c, h, _⟩ := hi; exact ⟨A, c, h⟩
  obtain ⟨An, kn, rfl⟩ := hn.form
  obtain ⟨n1, hn1⟩ : ∃ n, e.add.length = n := ⟨_, rfl⟩
  obtain ⟨m1, hm1⟩ : ∃ n, e.drop.length = n := ⟨_, rfl⟩
  obtain ⟨ni, hni⟩ : ∃ n, ids.length = n := ⟨_, rfl⟩
  obtain ⟨nn, hnn⟩ : ∃ n, ns.length = n := ⟨_, rfl⟩
  have HED := Lib.hid fun wx (hx : fr w wx) => edit_any (fun _ => True) _ _ e wx (Rows.below tbFine ha hx) (hd.below hx) h8 h72
  rw [hn1, hm1] at HED
  rw [hn1, hm1, hni, hnn]
  rw [hni] at hi hil
  rw [hnn] at hn hnl
  obtain ⟨W0, hW0⟩ : ∃ W0, W0 = w.alloc (.cells #[.slice A1 n1 c1, .slice B1 m1 k1, .int .i64 e.lg, .int .i64 e.sq] 45) := ⟨_, rfl⟩
  have hf0 : fr w W0 := by rw [hW0]; exact fr.alloc fr.refl _
  have hx1 : W0.heap[w.heap.size]? = some (.cells #[.slice A1 n1 c1, .slice B1 m1 k1, .int .i64 e.lg, .int .i64 e.sq] 45 (0, 0)) := by rw [hW0]; exact heap_alloc_new w _
  have HB1 := Lib.hid hb
  have HTW := Lib.hid ht
  have HER := Lib.hid her
  have HI := Lib.hid hi
  have HNI := Lib.hid hni
  have HN := Lib.hid hn
  have HNN := Lib.hid hnn
  have HF0 := Lib.hid hf0
  have HX1 := Lib.hid hx1
  have htl := ht.lt
  clear ha hd hb hi hn ht her hf0 hx1 h8 h72 hn1 hm1 hni hnn
  go_enter Tryz.func9, Tryz.ntmps9
  go_upto_region 1 with (fail)
  rw [← hW0]
  clear hW0
  go_upto_region 3 with (go_at_call 23; refine (mwakes_any _ (HTW.out.below HF0.out)).mono ?_; rintro r w1 ⟨rfl, f1⟩)
  have HF1 := Lib.hid (fr.step HF0.out f1)
  have HX11 := Lib.hid ((Below.block f1 _ (Array.getElem?_eq_some_iff.1 HX1.out).1).trans HX1.out)
  have hz1 : w.heap.size + 1 ≤ w1.heap.size := (Array.getElem?_eq_some_iff.1 HX11.out).1
  clear f1
  go_upto_region 5 with (first
    | (go_at_call 24; refine (mopen_fresh F p 0 _ w3 HD3.out HT3.out rfl (by decide)).mono ?_; rintro r w4 ⟨rfl, ⟨F1, hS1, hM1⟩, hO1⟩)
    | (go_at_call 15; refine (new_dk (fun _ => True) (-1) (-1) _ [] w2 (IntsIn.nil _ _) (by simp) w2.heap.size (Nat.le_refl _)).mono ?_; rintro r w3 ⟨p, rfl, ⟨F, hd, hF⟩, f3⟩; have HT3 := Lib.hid (HTW.out.below (fr.step (fr.step HF1.out f2) f3)); have HD3 : Hid (DkC w3 F p 0 (fun _ => none)) := Lib.hid ⟨fun i hi => ⟨(hF i hi).2, Nat.lt_of_lt_of_le htl (Nat.le_trans (Below.size (fr.step HF1.out f2)) (hF i hi).1)⟩, calm0, hd, calm0_ok, rfl⟩)
    | (go_at_call 25; refine (calm13_any _).mono ?_; rintro r w2 ⟨rfl, f2⟩))
  have hs1 : w.heap.size + 1 ≤ w2.heap.size := Nat.le_trans hz1 (Below.size f2)
  have hF1 : ∀ i, F1 i → w.heap.size + 1 ≤ i := fun i hi => (hS1 i hi).elim (fun h => Nat.le_trans hs1 (hF i h).1) fun h => by have := Below.size f3; omega
  have hO2 : Only (fun i => w.heap.size + 1 ≤ i) w1 w4 := ((Only.of_below f2).trans (Only.of_below f3)).trans (hO1.mono fun i hi => Nat.le_trans hs1 (hF i hi).1)
  have HF4 : Hid (fr w w4) := Lib.hid (HF1.out.trans (hO2.below (Below.size HF1.out) fun i hi => by omega))
  have HX41 := Lib.hid ((hO2.block _ (Array.getElem?_eq_some_iff.1 HX11.out).1 (by omega)).trans HX11.out)
  obtain ⟨M, hM⟩ : ∃ M, w3.heap.size = M := ⟨_, rfl⟩
  have hMl : w.heap.size + 1 ≤ M := by have := Below.size f3; omega
  obtain ⟨bs1, hbs1⟩ : ∃ b, frB (recsM (splitL ver0)) = b := ⟨_, rfl⟩
  rw [hM, hbs1] at hM1
  rw [hM]
  have HM4 : Hid (ManC w4 F1 M p ver0 1 1000 (begunD (fun _ => none) 0 bs1)) := Lib.hid hM1
  have HFL := Lib.hid hF1
  have x0 := cell_of_row _ _ 0 _ _ _ HX41.out
  have x1 := cell_of_row _ _ 1 _ _ _ HX41.out
  have x2 := cell_of_row _ _ 2 _ _ _ HX41.out
  have x3 := cell_of_row _ _ 3 _ _ _ HX41.out
  clear hS1 hM1 hO1 hF1 hd hF f2 f3 hbs1 HD3 HT3 hO2 hM hs1
  go_upto_region 8 with (first
    | (go_at_call 26; refine (HED.out w4 HF4.out).mono ?_; rintro r w5 ⟨⟨ve, rfl, av5, dv5, rfl, ha5, hd5⟩, f5⟩; have HAP := Lib.hid (sw_apply F1 M p bs1 av5 dv5 e w5 (HM4.out.below f5) (HTW.out.below (fr.step HF4.out f5)) (Rows.keep tbFine ha5 fun _ _ _ _ hr => hr.mono fun _ _ => trivial) (hd5.mono fun _ _ => trivial) HB1.out))
    | (go_at_call 28; refine HAP.out.mono ?_; rintro r w6 ⟨q, v, F, D, xv, rfl, hver, hkey, hsp, hdk, hmr, htb, hFM, ho6⟩))
  have hFl : ∀ i, F i → w.heap.size + 1 ≤ i := fun i hi => (hsp i hi).elim (HFL.out i) fun h => by have := Below.size f5; have := HM4.out.lt; omega
  have HF6 : Hid (fr w w6) := Lib.hid ((fr.step HF4.out f5).trans (ho6.below (Below.size (fr.step HF4.out f5)) fun i hi => hi.elim (fun h => Nat.le_trans (by omega) (HFL.out i h)) fun h => by omega))
  have HFL6 := Lib.hid hFl
  have HVER := Lib.hid hver
  have HKEY := Lib.hid hkey
  have HDK := Lib.hid hdk
  have HMR := Lib.hid hmr
  have HTB := Lib.hid htb
  have HFM := Lib.hid hFM
  clear ha5 hd5 hsp hver hkey hdk hmr htb hFM ho6 f5 HAP HED hFl x0 x1 x2 x3 HX41 HX11 HX1 HM4 HFL
  go_upto_region 10 with (go_at_call 33; refine (cdump HDK.out (by decide)).mono ?_; rintro r w7 ⟨vd0, fs0, rfl, hown0, hasc0, hmem0, hlen0, f7⟩; obtain ⟨css0, ho0, hal0⟩ := hown0; obtain ⟨Ad0, cd0, rfl⟩ := own_form ho0)
  obtain ⟨q0, hq0⟩ : ∃ q, fs0.length = q := ⟨_, rfl⟩
  have HQ0 := Lib.hid hq0
  have HAS0 := Lib.hid hasc0
  have HME0 : Hid (∀ x, x ∈ fs0.map Fl.name ↔ isOwn 1 x) := Lib.hid fun x => (hmem0 x).trans (HKEY.out x)
  have HWX : Hid (∀ {wx : World} {i : Nat} {u : Value} {st sd : List Nm}, SwT w7 wx F p 1002 i u st sd → fr w wx) := Lib.hid fun h => (fr.step HF6.out f7).trans (h.only.below (Below.size (fr.step HF6.out f7)) fun i hi => by have := HFL6.out i hi; omega)
  have HSW : Hid (SwT w7 w7 F p 1002 0 (.slice none 0 0) [] []) := Lib.hid ⟨⟨F, D, SwD.of_key HKEY.out, HDK.out.below f7, fun x hx => by
    cases hd : D x with
    | none => exact Nat.le_refl _
    | some c => exact absurd ((HKEY.out x).1 (by rw [hd]; rfl)) hx, Spread.refl _ _, fun g hg => by cases hg⟩, OwnS.nil _ _, Nat.le_refl _, Only.refl _ _⟩
  have HF67 := Lib.hid f7
  have hq0b : q0 ≤ 1002 := by omega
  rw [hq0]
  clear hq0 hasc0 hmem0 hlen0 ho0 hal0 f7
  go_wp2_with (fail)
  go_loopw [12, 44] (fun u t wx => ∃ (i : Nat) (z : Value) (st : List Nm), z = u ∧ i ≤ nn ∧ t = .int .i64 i ∧ SwT w7 wx F p 1002 i u st st) (fun _ t _ => nn - (intOf t).toNat)
  case atStart => exact ⟨0, _, [], rfl, Nat.zero_le _, rfl, HSW.out⟩
  case round =>
    obtain ⟨i, z, st, rfl, hin, rfl, hsw⟩ := hrel
    have HS := Lib.hid hsw
    have HFW := Lib.hid (HWX.out hsw)
    clear hsw
    by_cases hik : i < nn
    · obtain ⟨s, hs⟩ : ∃ s, ns[i]? = some s := ⟨_, List.getElem?_eq_getElem (by rw [HNN.out]; exact hik)⟩
      obtain ⟨b, o, cs, rfl, hblt, _, ⟨rfl, hsl⟩, hc⟩ := Rows.at_ nmFine HN.out hs
      have cw : w.cell? ⟨b, o + i, none⟩ = some (.string ⟨s.toArray⟩) := by simpa using hc 0 _ rfl
      obtain ⟨X, hX⟩ : ∃ X : ByteArray, (⟨s.toArray⟩ : ByteArray) = X := ⟨_, rfl⟩
      have hXs : X.data.toList = s := by rw [← hX]
      have hXl : X.toList = s := by rw [ByteArray.toList_eq, hXs]
      have hsz : X.size = s.length := by rw [← hX, ba_size]
      have HADD := Lib.hid fun (wx : World) (st : List Nm) (z : Value) (h1 : OwnS wx w7.heap.size z st) (h2 : w7.heap.size ≤ wx.heap.size) (h3 : st.length ≤ 1048576) => add_any w7.heap.size z st s wx h1 h2 (by omega)
      rw [hX] at cw HADD
      have c0 := fr.cell HFW.out cw
      have hbw : b < wr.heap.size := Nat.lt_of_lt_of_le hblt (Below.size HFW.out)
      have HXS := Lib.hid hX
      have HXX := Lib.hid hXs
      have HXL := Lib.hid hXl
      have HSZ := Lib.hid hsz
      have HCW := Lib.hid cw
      clear hs hc hX hXs hXl hsz cw
      have hi0 : (0 : Int) ≤ (i : Int) := by omega
      have hi1 : (i : Int) < (nn : Int) := by omega
      go_upto_region 13 with (fail)
      go_cut [107] (fun u wc => ∃ q : Bool, u = .bool q ∧ ((q = false ∧ SwT w7 wc F p 1002 (i + 1) z st st) ∨ (q = true ∧ SwT w7 wc F p 1002 (i + 1) z st (addS s st))))
      case first =>
        as_aux_lemma =>
        have HQ : Hid (∀ m, Calls Tryz.prog 34 #[.string X] (wr.drewN m) fun r w' => r = .returned (.bool (nameB s)) ∧ w' = wr.drewN m) := Lib.hid fun m => by
          refine (rname_ba X (wr.drewN m) (by rw [HSZ.out]; exact hsl)).mono ?_
          rintro r w' ⟨rfl, rfl⟩
          rw [HXX.out]
          exact ⟨rfl, rfl⟩
        have hskip : ∀ m, ∃ q : Bool, (Value.bool false) = .bool q ∧ ((q = false ∧ SwT w7 (wr.drewN m) F p 1002 (i + 1) z st st) ∨ (q = true ∧ SwT w7 (wr.drewN m) F p 1002 (i + 1) z st (addS s st))) := fun m => ⟨false, rfl, .inl ⟨rfl, (HS.out.below frH_drewN).mono (by omega)⟩⟩
        have HSKIP := Lib.hid hskip
        clear hskip
        by_cases hA : X.size = 0
        · have g1 : decide ((0 : Int) < (X.size : Int)) = false := decide_eq_false (by omega)
          go_quiet (fail)
          go_wp2_with (fail)
          go_meet
          case rel => exact HSKIP.out _
        · have hA0 : 0 < X.size := by omega
          have g1 : decide ((0 : Int) < (X.size : Int)) = true := decide_eq_true (by omega)
          have hsne : s ≠ [] := by intro h; have h9 := HSZ.out; rw [h] at h9; exact hA h9
          have HNE := Lib.hid hsne
          have hx0 : s.head? = some X[0] := by
            rw [List.head?_eq_getElem?, ← HXX.out]
            exact ba_at hA0
          have HX0 := Lib.hid hx0
          clear hsne hx0
          by_cases hB : X[0] = 109
          · have g2 : ((X[0].toNat : Int) != 109) = false := by rw [hB]; rfl
            clear hB
            go_quiet (fail)
            go_wp2_with (fail)
            go_meet
            case rel => exact HSKIP.out _
          · have g2 : ((X[0].toNat : Int) != 109) = true := by
              rw [bne_iff_ne]
              intro h
              exact hB (UInt8.toNat_inj.1 (by show X[0].toNat = 109; omega))
            have g2b : ((X[0].toNat : Int) == 109) = false := by unfold bne at g2; simpa using g2
            have HBB : Hid (decide (s.head? = some 109) = false) := Lib.hid (decide_eq_false (by rw [HX0.out]; exact fun h => hB (Option.some.inj h)))
            have hext : (X.extract 0 7).toList = s.take 7 := by
              rw [ByteArray.toList_eq, ← HXX.out]
              simp
            have hcur : s.take 7 = curW → 7 ≤ s.length := fun h => by
              have := congrArg List.length h
              rw [List.length_take] at this
              have e : curW.length = 7 := rfl
              omega
            clear hB
            rcases (show (X.size < 7) ∨ (¬ X.size < 7 ∧ s.take 7 ≠ curW) ∨ (¬ X.size < 7 ∧ s.take 7 = curW) from (Nat.lt_or_ge X.size 7).imp id fun h => (Decidable.em (s.take 7 = curW)).elim (fun h2 => .inr ⟨Nat.not_lt.2 h, h2⟩) fun h2 => .inl ⟨Nat.not_lt.2 h, h2⟩) with hC | ⟨hC, h7⟩ | ⟨hC, h7⟩
            rotate_left 2
            · have g3 : decide ((X.size : Int) < 7) = false := decide_eq_false (by omega)
              have g4 : ((X.extract 0 7).toList == [99, 117, 114, 114, 101, 110, 116]) = true := by rw [hext, h7]; rfl
              have h77 : 7 ≤ X.size := by omega
              have h77i : (7 : Int) ≤ (X.size : Int) := by omega
              clear hext hcur h7 hC
              go_quiet (fail)
              go_wp2_with (fail)
              go_meet
              case rel => exact HSKIP.out _
            · have g3 : decide ((X.size : Int) < 7) = true := decide_eq_true (by omega)
              have HCC : Hid (decide (s.take 7 = curW) = false) := Lib.hid (decide_eq_false fun h => by have := hcur h; have := HSZ.out; omega)
              clear hext hcur
              obtain ⟨nb, hnb⟩ : ∃ q, nameB s = q := ⟨_, rfl⟩
              have HNBB := Lib.hid hnb
              rw [hnb] at HQ
              clear hnb
              cases nb with
              | false =>
                go_quiet ((go_at_call 34; exact Calls.quiet_of_same (HQ.out _)))
                go_wp2_with (fail)
                go_meet
                case rel => exact HSKIP.out _
              | true =>
                have HLAY : Hid (nameB s = true ∧ ¬ isOwn 1 s) := Lib.hid (lays_own (by
                  unfold laysB
                  rw [HBB.out, HCC.out, HNBB.out, show s.isEmpty = false from by rw [Bool.eq_false_iff]; intro h; exact HNE.out (List.isEmpty_iff.1 h)]
                  rfl))
                obtain ⟨tb, htb⟩ : ∃ q, isTbl s = q := ⟨_, rfl⟩
                obtain ⟨N, hN⟩ : ∃ N : ByteArray, (⟨(nameR (tblNo s)).toArray⟩ : ByteArray) = N := ⟨_, rfl⟩
                have hNX : (N.toList == X.toList) = tb := by
                  rw [← hN, HXL.out, ← htb, ByteArray.toList_eq]
                  unfold isTbl
                  rw [show s.isEmpty = false from by rw [Bool.eq_false_iff]; intro h; exact HNE.out (List.isEmpty_iff.1 h), Bool.eq_iff_iff]
                  simp
                have HTB2 := Lib.hid htb
                have HNUM := Lib.hid fun wx => rnumber_any X wx
                have HNAM := Lib.hid fun wx => rrname_any (tblNo s) wx
                have HNMB := Lib.hid fun wx => rname_ba X wx (by rw [HSZ.out]; exact hsl)
                rw [HXX.out] at HNUM HNMB
                rw [HNBB.out] at HNMB
                rw [hN] at HNAM
                have HAPP : Hid (∀ (W : World) (v : Value), fr wr W → Byt W (fun j => wr.heap.size ≤ j) v [120] → Calls Tryz.prog 35 #[.pointer (some ⟨p, 0, none⟩), .string X, v] W fun r w' => r = .returned (.int .i64 0) ∧ SwT w7 w' F p 1002 (i + 1) z st (if tb = true then st else addS s st)) := Lib.hid fun W v hW hv => by
                  rw [← HXS.out, ← HTB2.out]
                  exact sw_append HS.out hW s HLAY.out.1 HLAY.out.2 v [120] (by decide) _ hv (fun _ h => h) (HTW.out.below (fr.step HFW.out hW)) (by omega)
                have hbd : b < wr.drew.heap.size := hbw
                have d0 : wr.drew.cell? ⟨b, o + i, none⟩ = some (.string X) := c0
                have hf0 : fr wr wr.drew := fr.drew fr.refl
                have hfa : fr wr (wr.alloc (.cells #[.int .u8 120] 5)).drew := (fr.alloc fr.refl _).drew
                have hfb : fr wr (wr.alloc (.cells #[.int .u8 120] 5 (1, 2))).drew := (fr.alloc fr.refl _).drew
                have kc := conv120 wr
                clear htb hN hbd d0
                refine wp_region_held_drew (S := fun w' => w'.cell? ⟨b, o + i, none⟩ = some (.string X)) (by kernel_rfl) ?_ (fun hHeld => ?_)
                · exact fr.cell hf0 c0
                refine wpAnyH_take (i := 0) (oi := ?oiQ1) (v := ?vQ1) ?oiEQ1 ?h1Q1 ?h2Q1 ?h3Q1 ?hpQ1 (Or.inl ⟨?hwQ1, ?hyQ1⟩) ?hsQ1 ?nxtQ1
                case oiEQ1 => (simp only [List.getElem?_toArray, List.getElem?_cons_succ, List.getElem?_cons_zero]; rfl)
                case h1Q1 => kernel_rfl
                case h2Q1 => kernel_rfl
                case h3Q1 => kernel_rfl
                case hsQ1 => assumption
                case hpQ1 => (intro _ _ _ h; exact h)
                case hwQ1 => rfl
                case hyQ1 => (intro w hSw; (try dsimp only at hSw); go_simp; (try with_reducible rfl))
                (try simp only [Act.put, List.setIfInBounds_toArray, List.set_cons_zero, List.set_cons_succ])
                refine wpAnyH_take (i := 1) (oi := ?oiQ2) (v := ?vQ2) ?oiEQ2 ?h1Q2 ?h2Q2 ?h3Q2 ?hpQ2 (Or.inl ⟨?hwQ2, ?hyQ2⟩) ?hsQ2 ?nxtQ2
                case oiEQ2 => (simp only [List.getElem?_toArray, List.getElem?_cons_succ, List.getElem?_cons_zero]; rfl)
                case h1Q2 => kernel_rfl
                case h2Q2 => kernel_rfl
                case h3Q2 => kernel_rfl
                case hsQ2 => assumption
                case hpQ2 => (intro _ _ _ h; exact h)
                case hwQ2 => rfl
                case hyQ2 => (intro w hSw; (try dsimp only at hSw); go_simp; (try with_reducible rfl))
                (try simp only [Act.put, List.setIfInBounds_toArray, List.set_cons_zero, List.set_cons_succ])
                refine wpAnyH_take (i := 2) (oi := ?oiQ3) (v := ?vQ3) ?oiEQ3 ?h1Q3 ?h2Q3 ?h3Q3 ?hpQ3 (Or.inl ⟨?hwQ3, ?hyQ3⟩) ?hsQ3 ?nxtQ3
                case oiEQ3 => (simp only [List.getElem?_toArray, List.getElem?_cons_succ, List.getElem?_cons_zero]; rfl)
                case h1Q3 => kernel_rfl
                case h2Q3 => kernel_rfl
                case h3Q3 => kernel_rfl
                case hsQ3 => assumption
                case hpQ3 => (intro _ _ _ h; exact h)
                case hwQ3 => rfl
                case hyQ3 => (intro w hSw; (try dsimp only at hSw); go_simp; (try with_reducible rfl))
                (try simp only [Act.put, List.setIfInBounds_toArray, List.set_cons_zero, List.set_cons_succ])
                refine wpAnyH_take (i := 3) (oi := ?oiQ4) (v := ?vQ4) ?oiEQ4 ?h1Q4 ?h2Q4 ?h3Q4 ?hpQ4 (Or.inl ⟨?hwQ4, ?hyQ4⟩) ?hsQ4 ?nxtQ4
                case oiEQ4 => (simp only [List.getElem?_toArray, List.getElem?_cons_succ, List.getElem?_cons_zero]; rfl)
                case h1Q4 => kernel_rfl
                case h2Q4 => kernel_rfl
                case h3Q4 => kernel_rfl
                case hsQ4 => assumption
                case hpQ4 => (intro _ _ _ h; exact h)
                case hwQ4 => rfl
                case hyQ4 => (intro w hSw; (try dsimp only at hSw); go_simp; (try with_reducible rfl))
                (try simp only [Act.put, List.setIfInBounds_toArray, List.set_cons_zero, List.set_cons_succ])
                refine wpAnyH_take (i := 4) (oi := ?oiQ5) (v := ?vQ5) ?oiEQ5 ?h1Q5 ?h2Q5 ?h3Q5 ?hpQ5 (Or.inl ⟨?hwQ5, ?hyQ5⟩) ?hsQ5 ?nxtQ5
                case oiEQ5 => (simp only [List.getElem?_toArray, List.getElem?_cons_succ, List.getElem?_cons_zero]; rfl)
                case h1Q5 => kernel_rfl
                case h2Q5 => kernel_rfl
                case h3Q5 => kernel_rfl
                case hsQ5 => assumption
                case hpQ5 => (intro _ _ _ h; exact h)
                case hwQ5 => rfl
                case hyQ5 => (intro w hSw; (try dsimp only at hSw); go_simp; (try with_reducible rfl))
                (try simp only [Act.put, List.setIfInBounds_toArray, List.set_cons_zero, List.set_cons_succ])
                refine wpAnyH_take (i := 5) (oi := ?oiQ6) (v := ?vQ6) ?oiEQ6 ?h1Q6 ?h2Q6 ?h3Q6 ?hpQ6 (Or.inl ⟨?hwQ6, ?hyQ6⟩) ?hsQ6 ?nxtQ6
                case oiEQ6 => (simp only [List.getElem?_toArray, List.getElem?_cons_succ, List.getElem?_cons_zero]; rfl)
                case h1Q6 => kernel_rfl
                case h2Q6 => kernel_rfl
                case h3Q6 => kernel_rfl
                case hsQ6 => assumption
                case hpQ6 => (intro _ _ _ h; exact h)
                case hwQ6 => rfl
                case hyQ6 => (intro w hSw; (try dsimp only at hSw); go_simp; (try with_reducible rfl))
                (try simp only [Act.put, List.setIfInBounds_toArray, List.set_cons_zero, List.set_cons_succ])
                refine wpAnyH_take (i := 6) (oi := ?oiQ7) (v := ?vQ7) ?oiEQ7 ?h1Q7 ?h2Q7 ?h3Q7 ?hpQ7 (Or.inl ⟨?hwQ7, ?hyQ7⟩) ?hsQ7 ?nxtQ7
                case oiEQ7 => (simp only [List.getElem?_toArray, List.getElem?_cons_succ, List.getElem?_cons_zero]; rfl)
                case h1Q7 => kernel_rfl
                case h2Q7 => kernel_rfl
                case h3Q7 => kernel_rfl
                case hsQ7 => assumption
                case hpQ7 => (intro _ _ _ h; exact h)
                case hwQ7 => rfl
                case hyQ7 => (intro w hSw; (try dsimp only at hSw); go_simp; (try with_reducible rfl))
                (try simp only [Act.put, List.setIfInBounds_toArray, List.set_cons_zero, List.set_cons_succ])
                refine wpAnyH_take (i := 7) (oi := ?oiQ8) (v := ?vQ8) ?oiEQ8 ?h1Q8 ?h2Q8 ?h3Q8 ?hpQ8 (Or.inl ⟨?hwQ8, ?hyQ8⟩) ?hsQ8 ?nxtQ8
                case oiEQ8 => (simp only [List.getElem?_toArray, List.getElem?_cons_succ, List.getElem?_cons_zero]; rfl)
                case h1Q8 => kernel_rfl
                case h2Q8 => kernel_rfl
                case h3Q8 => kernel_rfl
                case hsQ8 => assumption
                case hpQ8 => (intro _ _ _ h; exact h)
                case hwQ8 => rfl
                case hyQ8 => (intro w hSw; (try dsimp only at hSw); go_simp; (try with_reducible rfl))
                (try simp only [Act.put, List.setIfInBounds_toArray, List.set_cons_zero, List.set_cons_succ])
                refine wpAnyH_take (i := 8) (oi := ?oiQ9) (v := ?vQ9) ?oiEQ9 ?h1Q9 ?h2Q9 ?h3Q9 ?hpQ9 (Or.inl ⟨?hwQ9, ?hyQ9⟩) ?hsQ9 ?nxtQ9
                case oiEQ9 => (simp only [List.getElem?_toArray, List.getElem?_cons_succ, List.getElem?_cons_zero]; rfl)
                case h1Q9 => kernel_rfl
                case h2Q9 => kernel_rfl
                case h3Q9 => kernel_rfl
                case hsQ9 => assumption
                case hpQ9 => (intro _ _ _ h; exact h)
                case hwQ9 => rfl
                case hyQ9 => (intro w hSw; (try dsimp only at hSw); go_simp; (try with_reducible rfl))
                (try simp only [Act.put, List.setIfInBounds_toArray, List.set_cons_zero, List.set_cons_succ])
                refine wpAnyH_take (i := 9) (oi := ?oiQ10) (v := ?vQ10) ?oiEQ10 ?h1Q10 ?h2Q10 ?h3Q10 ?hpQ10 (Or.inl ⟨?hwQ10, ?hyQ10⟩) ?hsQ10 ?nxtQ10
                case oiEQ10 => (simp only [List.getElem?_toArray, List.getElem?_cons_succ, List.getElem?_cons_zero]; rfl)
                case h1Q10 => kernel_rfl
                case h2Q10 => kernel_rfl
                case h3Q10 => kernel_rfl
                case hsQ10 => assumption
                case hpQ10 => (intro _ _ _ h; exact h)
                case hwQ10 => rfl
                case hyQ10 => (intro w hSw; (try dsimp only at hSw); go_simp; (try with_reducible rfl))
                (try simp only [Act.put, List.setIfInBounds_toArray, List.set_cons_zero, List.set_cons_succ])
                refine wpAnyH_take (i := 10) (oi := ?oiQ11) (v := ?vQ11) ?oiEQ11 ?h1Q11 ?h2Q11 ?h3Q11 ?hpQ11 (Or.inl ⟨?hwQ11, ?hyQ11⟩) ?hsQ11 ?nxtQ11
                case oiEQ11 => (simp only [List.getElem?_toArray, List.getElem?_cons_succ, List.getElem?_cons_zero]; rfl)
                case h1Q11 => kernel_rfl
                case h2Q11 => kernel_rfl
                case h3Q11 => kernel_rfl
                case hsQ11 => assumption
                case hpQ11 => (intro _ _ _ h; exact h)
                case hwQ11 => rfl
                case hyQ11 => (intro w hSw; (try dsimp only at hSw); go_simp; (try with_reducible rfl))
                (try simp only [Act.put, List.setIfInBounds_toArray, List.set_cons_zero, List.set_cons_succ])
                refine wpAnyH_take (i := 11) (oi := ?oiQ12) (v := ?vQ12) ?oiEQ12 ?h1Q12 ?h2Q12 ?h3Q12 ?hpQ12 (Or.inl ⟨?hwQ12, ?hyQ12⟩) ?hsQ12 ?nxtQ12
                case oiEQ12 => (simp only [List.getElem?_toArray, List.getElem?_cons_succ, List.getElem?_cons_zero]; rfl)
                case h1Q12 => kernel_rfl
                case h2Q12 => kernel_rfl
                case h3Q12 => kernel_rfl
                case hsQ12 => assumption
                case hpQ12 => (intro _ _ _ h; exact h)
                case hwQ12 => rfl
                case hyQ12 => (intro w hSw; (try dsimp only at hSw); go_simp; (try with_reducible rfl))
                (try simp only [Act.put, List.setIfInBounds_toArray, List.set_cons_zero, List.set_cons_succ])
                refine wpAnyH_take (i := 12) (oi := ?oiQ13) (v := ?vQ13) ?oiEQ13 ?h1Q13 ?h2Q13 ?h3Q13 ?hpQ13 (Or.inl ⟨?hwQ13, ?hyQ13⟩) ?hsQ13 ?nxtQ13
                case oiEQ13 => (simp only [List.getElem?_toArray, List.getElem?_cons_succ, List.getElem?_cons_zero]; rfl)
                case h1Q13 => kernel_rfl
                case h2Q13 => kernel_rfl
                case h3Q13 => kernel_rfl
                case hsQ13 => assumption
                case hpQ13 => (intro _ _ _ h; exact h)
                case hwQ13 => rfl
                case hyQ13 => (intro w hSw; (try dsimp only at hSw); go_simp; (try with_reducible rfl))
                (try simp only [Act.put, List.setIfInBounds_toArray, List.set_cons_zero, List.set_cons_succ])
                refine wpAnyH_take (i := 13) (oi := ?oiQ14) (v := ?vQ14) ?oiEQ14 ?h1Q14 ?h2Q14 ?h3Q14 ?hpQ14 (Or.inl ⟨?hwQ14, ?hyQ14⟩) ?hsQ14 ?nxtQ14
                case oiEQ14 => (simp only [List.getElem?_toArray, List.getElem?_cons_succ, List.getElem?_cons_zero]; rfl)
                case h1Q14 => kernel_rfl
                case h2Q14 => kernel_rfl
                case h3Q14 => kernel_rfl
                case hsQ14 => assumption
                case hpQ14 => (intro _ _ _ h; exact h)
                case hwQ14 => rfl
                case hyQ14 => (intro w hSw; (try dsimp only at hSw); go_simp; (try with_reducible rfl))
                (try simp only [Act.put, List.setIfInBounds_toArray, List.set_cons_zero, List.set_cons_succ])
                refine wpAnyH_take (i := 14) (oi := ?oiQ15) (v := ?vQ15) ?oiEQ15 ?h1Q15 ?h2Q15 ?h3Q15 ?hpQ15 (Or.inl ⟨?hwQ15, ?hyQ15⟩) ?hsQ15 ?nxtQ15
                case oiEQ15 => (simp only [List.getElem?_toArray, List.getElem?_cons_succ, List.getElem?_cons_zero]; rfl)
                case h1Q15 => kernel_rfl
                case h2Q15 => kernel_rfl
                case h3Q15 => kernel_rfl
                case hsQ15 => assumption
                case hpQ15 => (intro _ _ _ h; exact h)
                case hwQ15 => rfl
                case hyQ15 => (intro w hSw; (try dsimp only at hSw); go_simp; (try with_reducible rfl))
                (try simp only [Act.put, List.setIfInBounds_toArray, List.set_cons_zero, List.set_cons_succ])
                refine wpAnyH_take (i := 15) (oi := ?oiQ16) (v := ?vQ16) ?oiEQ16 ?h1Q16 ?h2Q16 ?h3Q16 ?hpQ16 (Or.inl ⟨?hwQ16, ?hyQ16⟩) ?hsQ16 ?nxtQ16
                case oiEQ16 => (simp only [List.getElem?_toArray, List.getElem?_cons_succ, List.getElem?_cons_zero]; rfl)
                case h1Q16 => kernel_rfl
                case h2Q16 => kernel_rfl
                case h3Q16 => kernel_rfl
                case hsQ16 => assumption
                case hpQ16 => (intro _ _ _ h; exact h)
                case hwQ16 => rfl
                case hyQ16 => (intro w hSw; (try dsimp only at hSw); go_simp; (try with_reducible rfl))
                (try simp only [Act.put, List.setIfInBounds_toArray, List.set_cons_zero, List.set_cons_succ])
                refine wpAnyH_take (i := 16) (oi := ?oiQ17) (v := ?vQ17) ?oiEQ17 ?h1Q17 ?h2Q17 ?h3Q17 ?hpQ17 (Or.inl ⟨?hwQ17, ?hyQ17⟩) ?hsQ17 ?nxtQ17
                case oiEQ17 => (simp only [List.getElem?_toArray, List.getElem?_cons_succ, List.getElem?_cons_zero]; rfl)
                case h1Q17 => kernel_rfl
                case h2Q17 => kernel_rfl
                case h3Q17 => kernel_rfl
                case hsQ17 => assumption
                case hpQ17 => (intro _ _ _ h; exact h)
                case hwQ17 => rfl
                case hyQ17 => (intro w hSw; (try dsimp only at hSw); go_simp; (try with_reducible rfl))
                (try simp only [Act.put, List.setIfInBounds_toArray, List.set_cons_zero, List.set_cons_succ])
                refine wpAnyH_take (i := 17) (oi := ?oiQ18) (v := ?vQ18) ?oiEQ18 ?h1Q18 ?h2Q18 ?h3Q18 ?hpQ18 (Or.inl ⟨?hwQ18, ?hyQ18⟩) ?hsQ18 ?nxtQ18
                case oiEQ18 => (simp only [List.getElem?_toArray, List.getElem?_cons_succ, List.getElem?_cons_zero]; rfl)
                case h1Q18 => kernel_rfl
                case h2Q18 => kernel_rfl
                case h3Q18 => kernel_rfl
                case hsQ18 => assumption
                case hpQ18 => (intro _ _ _ h; exact h)
                case hwQ18 => rfl
                case hyQ18 => (intro w hSw; (try dsimp only at hSw); go_simp; (try with_reducible rfl))
                (try simp only [Act.put, List.setIfInBounds_toArray, List.set_cons_zero, List.set_cons_succ])
                refine wpAnyH_take (i := 18) (oi := ?oiQ19) (v := ?vQ19) ?oiEQ19 ?h1Q19 ?h2Q19 ?h3Q19 ?hpQ19 (Or.inl ⟨?hwQ19, ?hyQ19⟩) ?hsQ19 ?nxtQ19
                case oiEQ19 => (simp only [List.getElem?_toArray, List.getElem?_cons_succ, List.getElem?_cons_zero]; rfl)
                case h1Q19 => kernel_rfl
                case h2Q19 => kernel_rfl
                case h3Q19 => kernel_rfl
                case hsQ19 => assumption
                case hpQ19 => (intro _ _ _ h; exact h)
                case hwQ19 => rfl
                case hyQ19 => (intro w hSw; (try dsimp only at hSw); go_simp; (try with_reducible rfl))
                (try simp only [Act.put, List.setIfInBounds_toArray, List.set_cons_zero, List.set_cons_succ])
                refine wpAnyH_take (i := 19) (oi := ?oiQ20) (v := ?vQ20) ?oiEQ20 ?h1Q20 ?h2Q20 ?h3Q20 ?hpQ20 (Or.inl ⟨?hwQ20, ?hyQ20⟩) ?hsQ20 ?nxtQ20
                case oiEQ20 => (simp only [List.getElem?_toArray, List.getElem?_cons_succ, List.getElem?_cons_zero]; rfl)
                case h1Q20 => kernel_rfl
                case h2Q20 => kernel_rfl
                case h3Q20 => kernel_rfl
                case hsQ20 => assumption
                case hpQ20 => (intro _ _ _ h; exact h)
                case hwQ20 => rfl
                case hyQ20 => (intro w hSw; (try dsimp only at hSw); go_simp; (try with_reducible rfl))
                (try simp only [Act.put, List.setIfInBounds_toArray, List.set_cons_zero, List.set_cons_succ])
                refine wpAnyH_take (i := 20) (oi := ?oiQ21) (v := ?vQ21) ?oiEQ21 ?h1Q21 ?h2Q21 ?h3Q21 ?hpQ21 (Or.inl ⟨?hwQ21, ?hyQ21⟩) ?hsQ21 ?nxtQ21
                case oiEQ21 => (simp only [List.getElem?_toArray, List.getElem?_cons_succ, List.getElem?_cons_zero]; rfl)
                case h1Q21 => kernel_rfl
                case h2Q21 => kernel_rfl
                case h3Q21 => kernel_rfl
                case hsQ21 => assumption
                case hpQ21 => (intro _ _ _ h; exact h)
                case hwQ21 => rfl
                case hyQ21 => (intro w hSw; (try dsimp only at hSw); go_simp; (try with_reducible rfl))
                (try simp only [Act.put, List.setIfInBounds_toArray, List.set_cons_zero, List.set_cons_succ])
                refine wpAnyH_take (i := 21) (oi := ?oiQ22) (v := ?vQ22) ?oiEQ22 ?h1Q22 ?h2Q22 ?h3Q22 ?hpQ22 (Or.inl ⟨?hwQ22, ?hyQ22⟩) ?hsQ22 ?nxtQ22
                case oiEQ22 => (simp only [List.getElem?_toArray, List.getElem?_cons_succ, List.getElem?_cons_zero]; rfl)
                case h1Q22 => kernel_rfl
                case h2Q22 => kernel_rfl
                case h3Q22 => kernel_rfl
                case hsQ22 => assumption
                case hpQ22 => (intro _ _ _ h; exact h)
                case hwQ22 => rfl
                case hyQ22 => (intro w hSw; (try dsimp only at hSw); go_simp; (try with_reducible rfl))
                (try simp only [Act.put, List.setIfInBounds_toArray, List.set_cons_zero, List.set_cons_succ])
                refine wpAnyH_take (i := 22) (oi := ?oiQ23) (v := undef) ?oiEQ23 ?h1Q23 ?h2Q23 ?h3Q23 ?hpQ23 (Or.inr ⟨?hwQ23, rfl⟩) ?hsQ23 ?nxtQ23
                case oiEQ23 => (simp only [List.getElem?_toArray, List.getElem?_cons_succ, List.getElem?_cons_zero]; rfl)
                case h1Q23 => kernel_rfl
                case h2Q23 => kernel_rfl
                case h3Q23 => kernel_rfl
                case hsQ23 => assumption
                case hpQ23 => (intro _ _ _ h; exact h)
                case hwQ23 => rfl
                (try simp only [Act.put, List.setIfInBounds_toArray, List.set_cons_zero, List.set_cons_succ])
                refine wpAnyH_take (i := 23) (oi := ?oiQ24) (v := undef) ?oiEQ24 ?h1Q24 ?h2Q24 ?h3Q24 ?hpQ24 (Or.inr ⟨?hwQ24, rfl⟩) ?hsQ24 ?nxtQ24
                case oiEQ24 => (simp only [List.getElem?_toArray, List.getElem?_cons_succ, List.getElem?_cons_zero]; rfl)
                case h1Q24 => kernel_rfl
                case h2Q24 => kernel_rfl
                case h3Q24 => kernel_rfl
                case hsQ24 => assumption
                case hpQ24 => (intro _ _ _ h; exact h)
                case hwQ24 => rfl
                (try simp only [Act.put, List.setIfInBounds_toArray, List.set_cons_zero, List.set_cons_succ])
                refine wpAnyH_take (i := 24) (oi := ?oiQ25) (v := undef) ?oiEQ25 ?h1Q25 ?h2Q25 ?h3Q25 ?hpQ25 (Or.inr ⟨?hwQ25, rfl⟩) ?hsQ25 ?nxtQ25
                case oiEQ25 => (simp only [List.getElem?_toArray, List.getElem?_cons_succ, List.getElem?_cons_zero]; rfl)
                case h1Q25 => kernel_rfl
                case h2Q25 => kernel_rfl
                case h3Q25 => kernel_rfl
                case hsQ25 => assumption
                case hpQ25 => (intro _ _ _ h; exact h)
                case hwQ25 => rfl
                (try simp only [Act.put, List.setIfInBounds_toArray, List.set_cons_zero, List.set_cons_succ])
                refine wpAnyH_take (i := 25) (oi := ?oiQ26) (v := undef) ?oiEQ26 ?h1Q26 ?h2Q26 ?h3Q26 ?hpQ26 (Or.inr ⟨?hwQ26, rfl⟩) ?hsQ26 ?nxtQ26
                case oiEQ26 => (simp only [List.getElem?_toArray, List.getElem?_cons_succ, List.getElem?_cons_zero]; rfl)
                case h1Q26 => kernel_rfl
                case h2Q26 => kernel_rfl
                case h3Q26 => kernel_rfl
                case hsQ26 => assumption
                case hpQ26 => (intro _ _ _ h; exact h)
                case hwQ26 => rfl
                (try simp only [Act.put, List.setIfInBounds_toArray, List.set_cons_zero, List.set_cons_succ])
                refine wpAnyH_take (i := 26) (oi := ?oiQ27) (v := undef) ?oiEQ27 ?h1Q27 ?h2Q27 ?h3Q27 ?hpQ27 (Or.inr ⟨?hwQ27, rfl⟩) ?hsQ27 ?nxtQ27
                case oiEQ27 => (simp only [List.getElem?_toArray, List.getElem?_cons_succ, List.getElem?_cons_zero]; rfl)
                case h1Q27 => kernel_rfl
                case h2Q27 => kernel_rfl
                case h3Q27 => kernel_rfl
                case hsQ27 => assumption
                case hpQ27 => (intro _ _ _ h; exact h)
                case hwQ27 => rfl
                (try simp only [Act.put, List.setIfInBounds_toArray, List.set_cons_zero, List.set_cons_succ])
                refine wpAnyH_take (i := 27) (oi := ?oiQ28) (v := undef) ?oiEQ28 ?h1Q28 ?h2Q28 ?h3Q28 ?hpQ28 (Or.inr ⟨?hwQ28, rfl⟩) ?hsQ28 ?nxtQ28
                case oiEQ28 => (simp only [List.getElem?_toArray, List.getElem?_cons_succ, List.getElem?_cons_zero]; rfl)
                case h1Q28 => kernel_rfl
                case h2Q28 => kernel_rfl
                case h3Q28 => kernel_rfl
                case hsQ28 => assumption
                case hpQ28 => (intro _ _ _ h; exact h)
                case hwQ28 => rfl
                (try simp only [Act.put, List.setIfInBounds_toArray, List.set_cons_zero, List.set_cons_succ])
                refine wpAnyH_take (i := 28) (oi := ?oiQ29) (v := ?vQ29) ?oiEQ29 ?h1Q29 ?h2Q29 ?h3Q29 ?hpQ29 (Or.inl ⟨?hwQ29, ?hyQ29⟩) ?hsQ29 ?nxtQ29
                case oiEQ29 => (simp only [List.getElem?_toArray, List.getElem?_cons_succ, List.getElem?_cons_zero]; rfl)
                case h1Q29 => kernel_rfl
                case h2Q29 => kernel_rfl
                case h3Q29 => kernel_rfl
                case hsQ29 => assumption
                case hpQ29 => (intro _ _ _ h; exact h)
                case hwQ29 => rfl
                case hyQ29 => (intro w hSw; (try dsimp only at hSw); go_simp; (try with_reducible rfl))
                (try simp only [Act.put, List.setIfInBounds_toArray, List.set_cons_zero, List.set_cons_succ])
                refine wpAnyH_take (i := 29) (oi := ?oiQ30) (v := ?vQ30) ?oiEQ30 ?h1Q30 ?h2Q30 ?h3Q30 ?hpQ30 (Or.inl ⟨?hwQ30, ?hyQ30⟩) ?hsQ30 ?nxtQ30
                case oiEQ30 => (simp only [List.getElem?_toArray, List.getElem?_cons_succ, List.getElem?_cons_zero]; rfl)
                case h1Q30 => kernel_rfl
                case h2Q30 => kernel_rfl
                case h3Q30 => kernel_rfl
                case hsQ30 => assumption
                case hpQ30 => (intro _ _ _ h; exact h)
                case hwQ30 => rfl
                case hyQ30 => (intro w hSw; (try dsimp only at hSw); go_simp; (try with_reducible rfl))
                (try simp only [Act.put, List.setIfInBounds_toArray, List.set_cons_zero, List.set_cons_succ])
                refine wpAnyH_take (i := 30) (oi := ?oiQ31) (v := ?vQ31) ?oiEQ31 ?h1Q31 ?h2Q31 ?h3Q31 ?hpQ31 (Or.inl ⟨?hwQ31, ?hyQ31⟩) ?hsQ31 ?nxtQ31
                case oiEQ31 => (simp only [List.getElem?_toArray, List.getElem?_cons_succ, List.getElem?_cons_zero]; rfl)
                case h1Q31 => kernel_rfl
                case h2Q31 => kernel_rfl
                case h3Q31 => kernel_rfl
                case hsQ31 => assumption
                case hpQ31 => (intro _ _ _ h; exact h)
                case hwQ31 => rfl
                case hyQ31 => (intro w hSw; (try dsimp only at hSw); go_simp; (try with_reducible rfl))
                (try simp only [Act.put, List.setIfInBounds_toArray, List.set_cons_zero, List.set_cons_succ])
                refine wpAnyH_take (i := 31) (oi := ?oiQ32) (v := ?vQ32) ?oiEQ32 ?h1Q32 ?h2Q32 ?h3Q32 ?hpQ32 (Or.inl ⟨?hwQ32, ?hyQ32⟩) ?hsQ32 ?nxtQ32
                case oiEQ32 => (simp only [List.getElem?_toArray, List.getElem?_cons_succ, List.getElem?_cons_zero]; rfl)
                case h1Q32 => kernel_rfl
                case h2Q32 => kernel_rfl
                case h3Q32 => kernel_rfl
                case hsQ32 => assumption
                case hpQ32 => (intro _ _ _ h; exact h)
                case hwQ32 => rfl
                case hyQ32 => (intro w hSw; (try dsimp only at hSw); go_simp; (try with_reducible rfl))
                (try simp only [Act.put, List.setIfInBounds_toArray, List.set_cons_zero, List.set_cons_succ])
                refine wpAnyH_take (i := 32) (oi := ?oiQ33) (v := ?vQ33) ?oiEQ33 ?h1Q33 ?h2Q33 ?h3Q33 ?hpQ33 (Or.inl ⟨?hwQ33, ?hyQ33⟩) ?hsQ33 ?nxtQ33
                case oiEQ33 => (simp only [List.getElem?_toArray, List.getElem?_cons_succ, List.getElem?_cons_zero]; rfl)
                case h1Q33 => kernel_rfl
                case h2Q33 => kernel_rfl
                case h3Q33 => kernel_rfl
                case hsQ33 => assumption
                case hpQ33 => (intro _ _ _ h; exact h)
                case hwQ33 => rfl
                case hyQ33 => (intro w hSw; (try dsimp only at hSw); go_simp; (try with_reducible rfl))
                (try simp only [Act.put, List.setIfInBounds_toArray, List.set_cons_zero, List.set_cons_succ])
                refine wpAnyH_take (i := 33) (oi := ?oiQ34) (v := ?vQ34) ?oiEQ34 ?h1Q34 ?h2Q34 ?h3Q34 ?hpQ34 (Or.inl ⟨?hwQ34, ?hyQ34⟩) ?hsQ34 ?nxtQ34
                case oiEQ34 => (simp only [List.getElem?_toArray, List.getElem?_cons_succ, List.getElem?_cons_zero]; rfl)
                case h1Q34 => kernel_rfl
                case h2Q34 => kernel_rfl
                case h3Q34 => kernel_rfl
                case hsQ34 => assumption
                case hpQ34 => (intro _ _ _ h; exact h)
                case hwQ34 => rfl
                case hyQ34 => (intro w hSw; (try dsimp only at hSw); go_simp; (try with_reducible rfl))
                (try simp only [Act.put, List.setIfInBounds_toArray, List.set_cons_zero, List.set_cons_succ])
                refine wpAnyH_take (i := 34) (oi := ?oiQ35) (v := ?vQ35) ?oiEQ35 ?h1Q35 ?h2Q35 ?h3Q35 ?hpQ35 (Or.inl ⟨?hwQ35, ?hyQ35⟩) ?hsQ35 ?nxtQ35
                case oiEQ35 => (simp only [List.getElem?_toArray, List.getElem?_cons_succ, List.getElem?_cons_zero]; rfl)
                case h1Q35 => kernel_rfl
                case h2Q35 => kernel_rfl
                case h3Q35 => kernel_rfl
                case hsQ35 => assumption
                case hpQ35 => (intro _ _ _ h; exact h)
                case hwQ35 => rfl
                case hyQ35 => (intro w hSw; (try dsimp only at hSw); go_simp; (try with_reducible rfl))
                (try simp only [Act.put, List.setIfInBounds_toArray, List.set_cons_zero, List.set_cons_succ])
                refine wpAnyH_ready (rs := [35]) (by kernel_rfl) (by simp) ?_
                refine AllReadyH.cons (o := ?oiQ36) ?oiEQ36 (fun K hK => ?_) AllReadyH.nil
                case oiEQ36 => (simp only [List.getElem?_toArray, List.getElem?_cons_succ, List.getElem?_cons_zero]; rfl)
                go_simp
                (go_at_call 34; refine (HNMB.out _).mono ?_; rintro r w' ⟨rfl, rfl⟩)
                refine hK.out _ _ ?_ (fun hHeld => ?_)
                · exact fr.cell hf0 c0
                clear hK K
                (try simp only [Act.put, List.setIfInBounds_toArray, List.set_cons_zero, List.set_cons_succ])
                refine wpAnyH_take (i := 36) (oi := ?oiQ37) (v := ?vQ37) ?oiEQ37 ?h1Q37 ?h2Q37 ?h3Q37 ?hpQ37 (Or.inl ⟨?hwQ37, ?hyQ37⟩) ?hsQ37 ?nxtQ37
                case oiEQ37 => (simp only [List.getElem?_toArray, List.getElem?_cons_succ, List.getElem?_cons_zero]; rfl)
                case h1Q37 => kernel_rfl
                case h2Q37 => kernel_rfl
                case h3Q37 => kernel_rfl
                case hsQ37 => assumption
                case hpQ37 => (intro _ _ _ h; exact h)
                case hwQ37 => rfl
                case hyQ37 => (intro w hSw; (try dsimp only at hSw); go_simp; (try with_reducible rfl))
                (try simp only [Act.put, List.setIfInBounds_toArray, List.set_cons_zero, List.set_cons_succ])
                refine wpAnyH_take (i := 37) (oi := ?oiQ38) (v := ?vQ38) ?oiEQ38 ?h1Q38 ?h2Q38 ?h3Q38 ?hpQ38 (Or.inl ⟨?hwQ38, ?hyQ38⟩) ?hsQ38 ?nxtQ38
                case oiEQ38 => (simp only [List.getElem?_toArray, List.getElem?_cons_succ, List.getElem?_cons_zero]; rfl)
                case h1Q38 => kernel_rfl
                case h2Q38 => kernel_rfl
                case h3Q38 => kernel_rfl
                case hsQ38 => assumption
                case hpQ38 => (intro _ _ _ h; exact h)
                case hwQ38 => rfl
                case hyQ38 => (intro w hSw; (try dsimp only at hSw); go_simp; (try with_reducible rfl))
                (try simp only [Act.put, List.setIfInBounds_toArray, List.set_cons_zero, List.set_cons_succ])
                refine wpAnyH_take (i := 38) (oi := ?oiQ39) (v := ?vQ39) ?oiEQ39 ?h1Q39 ?h2Q39 ?h3Q39 ?hpQ39 (Or.inl ⟨?hwQ39, ?hyQ39⟩) ?hsQ39 ?nxtQ39
                case oiEQ39 => (simp only [List.getElem?_toArray, List.getElem?_cons_succ, List.getElem?_cons_zero]; rfl)
                case h1Q39 => kernel_rfl
                case h2Q39 => kernel_rfl
                case h3Q39 => kernel_rfl
                case hsQ39 => assumption
                case hpQ39 => (intro _ _ _ h; exact h)
                case hwQ39 => rfl
                case hyQ39 => (intro w hSw; (try dsimp only at hSw); go_simp; (try with_reducible rfl))
                (try simp only [Act.put, List.setIfInBounds_toArray, List.set_cons_zero, List.set_cons_succ])
                refine wpAnyH_take (i := 39) (oi := ?oiQ40) (v := ?vQ40) ?oiEQ40 ?h1Q40 ?h2Q40 ?h3Q40 ?hpQ40 (Or.inl ⟨?hwQ40, ?hyQ40⟩) ?hsQ40 ?nxtQ40
                case oiEQ40 => (simp only [List.getElem?_toArray, List.getElem?_cons_succ, List.getElem?_cons_zero]; rfl)
                case h1Q40 => kernel_rfl
                case h2Q40 => kernel_rfl
                case h3Q40 => kernel_rfl
                case hsQ40 => assumption
                case hpQ40 => (intro _ _ _ h; exact h)
                case hwQ40 => rfl
                case hyQ40 => (intro w hSw; (try dsimp only at hSw); go_simp; (try with_reducible rfl))
                (try simp only [Act.put, List.setIfInBounds_toArray, List.set_cons_zero, List.set_cons_succ])
                refine wpAnyH_take (i := 40) (oi := ?oiQ41) (v := ?vQ41) ?oiEQ41 ?h1Q41 ?h2Q41 ?h3Q41 ?hpQ41 (Or.inl ⟨?hwQ41, ?hyQ41⟩) ?hsQ41 ?nxtQ41
                case oiEQ41 => (simp only [List.getElem?_toArray, List.getElem?_cons_succ, List.getElem?_cons_zero]; rfl)
                case h1Q41 => kernel_rfl
                case h2Q41 => kernel_rfl
                case h3Q41 => kernel_rfl
                case hsQ41 => assumption
                case hpQ41 => (intro _ _ _ h; exact h)
                case hwQ41 => rfl
                case hyQ41 => (intro w hSw; (try dsimp only at hSw); go_simp; (try with_reducible rfl))
                (try simp only [Act.put, List.setIfInBounds_toArray, List.set_cons_zero, List.set_cons_succ])
                refine wpAnyH_take (i := 41) (oi := ?oiQ42) (v := ?vQ42) ?oiEQ42 ?h1Q42 ?h2Q42 ?h3Q42 ?hpQ42 (Or.inl ⟨?hwQ42, ?hyQ42⟩) ?hsQ42 ?nxtQ42
                case oiEQ42 => (simp only [List.getElem?_toArray, List.getElem?_cons_succ, List.getElem?_cons_zero]; rfl)
                case h1Q42 => kernel_rfl
                case h2Q42 => kernel_rfl
                case h3Q42 => kernel_rfl
                case hsQ42 => assumption
                case hpQ42 => (intro _ _ _ h; exact h)
                case hwQ42 => rfl
                case hyQ42 => (intro w hSw; (try dsimp only at hSw); go_simp; (try with_reducible rfl))
                (try simp only [Act.put, List.setIfInBounds_toArray, List.set_cons_zero, List.set_cons_succ])
                refine wpAnyH_take (i := 42) (oi := ?oiQ43) (v := ?vQ43) ?oiEQ43 ?h1Q43 ?h2Q43 ?h3Q43 ?hpQ43 (Or.inl ⟨?hwQ43, ?hyQ43⟩) ?hsQ43 ?nxtQ43
                case oiEQ43 => (simp only [List.getElem?_toArray, List.getElem?_cons_succ, List.getElem?_cons_zero]; rfl)
                case h1Q43 => kernel_rfl
                case h2Q43 => kernel_rfl
                case h3Q43 => kernel_rfl
                case hsQ43 => assumption
                case hpQ43 => (intro _ _ _ h; exact h)
                case hwQ43 => rfl
                case hyQ43 => (intro w hSw; (try dsimp only at hSw); go_simp; (try with_reducible rfl))
                (try simp only [Act.put, List.setIfInBounds_toArray, List.set_cons_zero, List.set_cons_succ])
                refine wpAnyH_ready (rs := [43]) (by kernel_rfl) (by simp) ?_
                refine AllReadyH.cons (o := ?oiQ44) ?oiEQ44 (fun K hK => ?_) AllReadyH.nil
                case oiEQ44 => (simp only [List.getElem?_toArray, List.getElem?_cons_succ, List.getElem?_cons_zero]; rfl)
                go_simp
                refine hK.out _ _ ?_ (fun hHeld => ?_)
                · exact fr.cell hfa c0
                clear hK K
                (try simp only [Act.put, List.setIfInBounds_toArray, List.set_cons_zero, List.set_cons_succ])
                refine wpAnyH_ready (rs := [44]) (by kernel_rfl) (by simp) ?_
                refine AllReadyH.cons (o := ?oiQ45) ?oiEQ45 (fun K hK => ?_) AllReadyH.nil
                case oiEQ45 => (simp only [List.getElem?_toArray, List.getElem?_cons_succ, List.getElem?_cons_zero]; rfl)
                go_simp
                refine hK.out _ _ ?_ (fun hHeld => ?_)
                · exact fr.cell hfb c0
                clear hK K
                (try simp only [Act.put, List.setIfInBounds_toArray, List.set_cons_zero, List.set_cons_succ])
                refine wpAnyH_ready (rs := [45]) (by kernel_rfl) (by simp) ?_
                refine AllReadyH.cons (o := ?oiQ46) ?oiEQ46 (fun K hK => ?_) AllReadyH.nil
                case oiEQ46 => (simp only [List.getElem?_toArray, List.getElem?_cons_succ, List.getElem?_cons_zero]; rfl)
                go_simp
                (go_at_call 35; refine (HAPP.out _ _ hfb (byt120 wr)).mono ?_; rintro r w5 ⟨rfl, h5⟩; have c5 := fr.cell (HWX.out h5) HCW.out; have H5 := Lib.hid h5)
                refine hK.out _ _ ?_ (fun hHeld => ?_)
                · exact c5
                clear hK K
                (try simp only [Act.put, List.setIfInBounds_toArray, List.set_cons_zero, List.set_cons_succ])
                refine wpAnyH_take (i := 46) (oi := ?oiQ47) (v := ?vQ47) ?oiEQ47 ?h1Q47 ?h2Q47 ?h3Q47 ?hpQ47 (Or.inl ⟨?hwQ47, ?hyQ47⟩) ?hsQ47 ?nxtQ47
                case oiEQ47 => (simp only [List.getElem?_toArray, List.getElem?_cons_succ, List.getElem?_cons_zero]; rfl)
                case h1Q47 => kernel_rfl
                case h2Q47 => kernel_rfl
                case h3Q47 => kernel_rfl
                case hsQ47 => assumption
                case hpQ47 => (intro _ _ _ h; exact h)
                case hwQ47 => rfl
                case hyQ47 => (intro w hSw; (try dsimp only at hSw); go_simp; (try with_reducible rfl))
                (try simp only [Act.put, List.setIfInBounds_toArray, List.set_cons_zero, List.set_cons_succ])
                refine wpAnyH_take (i := 47) (oi := ?oiQ48) (v := ?vQ48) ?oiEQ48 ?h1Q48 ?h2Q48 ?h3Q48 ?hpQ48 (Or.inl ⟨?hwQ48, ?hyQ48⟩) ?hsQ48 ?nxtQ48
                case oiEQ48 => (simp only [List.getElem?_toArray, List.getElem?_cons_succ, List.getElem?_cons_zero]; rfl)
                case h1Q48 => kernel_rfl
                case h2Q48 => kernel_rfl
                case h3Q48 => kernel_rfl
                case hsQ48 => assumption
                case hpQ48 => (intro _ _ _ h; exact h)
                case hwQ48 => rfl
                case hyQ48 => (intro w hSw; (try dsimp only at hSw); go_simp; (try with_reducible rfl))
                (try simp only [Act.put, List.setIfInBounds_toArray, List.set_cons_zero, List.set_cons_succ])
                refine wpAnyH_take (i := 48) (oi := ?oiQ49) (v := ?vQ49) ?oiEQ49 ?h1Q49 ?h2Q49 ?h3Q49 ?hpQ49 (Or.inl ⟨?hwQ49, ?hyQ49⟩) ?hsQ49 ?nxtQ49
                case oiEQ49 => (simp only [List.getElem?_toArray, List.getElem?_cons_succ, List.getElem?_cons_zero]; rfl)
                case h1Q49 => kernel_rfl
                case h2Q49 => kernel_rfl
                case h3Q49 => kernel_rfl
                case hsQ49 => assumption
                case hpQ49 => (intro _ _ _ h; exact h)
                case hwQ49 => rfl
                case hyQ49 => (intro w hSw; (try dsimp only at hSw); go_simp; (try with_reducible rfl))
                (try simp only [Act.put, List.setIfInBounds_toArray, List.set_cons_zero, List.set_cons_succ])
                refine wpAnyH_take (i := 49) (oi := ?oiQ50) (v := ?vQ50) ?oiEQ50 ?h1Q50 ?h2Q50 ?h3Q50 ?hpQ50 (Or.inl ⟨?hwQ50, ?hyQ50⟩) ?hsQ50 ?nxtQ50
                case oiEQ50 => (simp only [List.getElem?_toArray, List.getElem?_cons_succ, List.getElem?_cons_zero]; rfl)
                case h1Q50 => kernel_rfl
                case h2Q50 => kernel_rfl
                case h3Q50 => kernel_rfl
                case hsQ50 => assumption
                case hpQ50 => (intro _ _ _ h; exact h)
                case hwQ50 => rfl
                case hyQ50 => (intro w hSw; (try dsimp only at hSw); go_simp; (try with_reducible rfl))
                (try simp only [Act.put, List.setIfInBounds_toArray, List.set_cons_zero, List.set_cons_succ])
                refine wpAnyH_take (i := 50) (oi := ?oiQ51) (v := ?vQ51) ?oiEQ51 ?h1Q51 ?h2Q51 ?h3Q51 ?hpQ51 (Or.inl ⟨?hwQ51, ?hyQ51⟩) ?hsQ51 ?nxtQ51
                case oiEQ51 => (simp only [List.getElem?_toArray, List.getElem?_cons_succ, List.getElem?_cons_zero]; rfl)
                case h1Q51 => kernel_rfl
                case h2Q51 => kernel_rfl
                case h3Q51 => kernel_rfl
                case hsQ51 => assumption
                case hpQ51 => (intro _ _ _ h; exact h)
                case hwQ51 => rfl
                case hyQ51 => (intro w hSw; (try dsimp only at hSw); go_simp; (try with_reducible rfl))
                (try simp only [Act.put, List.setIfInBounds_toArray, List.set_cons_zero, List.set_cons_succ])
                refine wpAnyH_take (i := 51) (oi := ?oiQ52) (v := ?vQ52) ?oiEQ52 ?h1Q52 ?h2Q52 ?h3Q52 ?hpQ52 (Or.inl ⟨?hwQ52, ?hyQ52⟩) ?hsQ52 ?nxtQ52
                case oiEQ52 => (simp only [List.getElem?_toArray, List.getElem?_cons_succ, List.getElem?_cons_zero]; rfl)
                case h1Q52 => kernel_rfl
                case h2Q52 => kernel_rfl
                case h3Q52 => kernel_rfl
                case hsQ52 => assumption
                case hpQ52 => (intro _ _ _ h; exact h)
                case hwQ52 => rfl
                case hyQ52 => (intro w hSw; (try dsimp only at hSw); go_simp; (try with_reducible rfl))
                (try simp only [Act.put, List.setIfInBounds_toArray, List.set_cons_zero, List.set_cons_succ])
                refine wpAnyH_take (i := 52) (oi := ?oiQ53) (v := ?vQ53) ?oiEQ53 ?h1Q53 ?h2Q53 ?h3Q53 ?hpQ53 (Or.inl ⟨?hwQ53, ?hyQ53⟩) ?hsQ53 ?nxtQ53
                case oiEQ53 => (simp only [List.getElem?_toArray, List.getElem?_cons_succ, List.getElem?_cons_zero]; rfl)
                case h1Q53 => kernel_rfl
                case h2Q53 => kernel_rfl
                case h3Q53 => kernel_rfl
                case hsQ53 => assumption
                case hpQ53 => (intro _ _ _ h; exact h)
                case hwQ53 => rfl
                case hyQ53 => (intro w hSw; (try dsimp only at hSw); go_simp; (try with_reducible rfl))
                (try simp only [Act.put, List.setIfInBounds_toArray, List.set_cons_zero, List.set_cons_succ])
                refine wpAnyH_take (i := 55) (oi := ?oiQ54) (v := ?vQ54) ?oiEQ54 ?h1Q54 ?h2Q54 ?h3Q54 ?hpQ54 (Or.inl ⟨?hwQ54, ?hyQ54⟩) ?hsQ54 ?nxtQ54
                case oiEQ54 => (simp only [List.getElem?_toArray, List.getElem?_cons_succ, List.getElem?_cons_zero]; rfl)
                case h1Q54 => kernel_rfl
                case h2Q54 => kernel_rfl
                case h3Q54 => kernel_rfl
                case hsQ54 => assumption
                case hpQ54 => (intro _ _ _ h; exact h)
                case hwQ54 => rfl
                case hyQ54 => (intro w hSw; (try dsimp only at hSw); go_simp; (try with_reducible rfl))
                (try simp only [Act.put, List.setIfInBounds_toArray, List.set_cons_zero, List.set_cons_succ])
                refine wpAnyH_take (i := 56) (oi := ?oiQ55) (v := ?vQ55) ?oiEQ55 ?h1Q55 ?h2Q55 ?h3Q55 ?hpQ55 (Or.inl ⟨?hwQ55, ?hyQ55⟩) ?hsQ55 ?nxtQ55
                case oiEQ55 => (simp only [List.getElem?_toArray, List.getElem?_cons_succ, List.getElem?_cons_zero]; rfl)
                case h1Q55 => kernel_rfl
                case h2Q55 => kernel_rfl
                case h3Q55 => kernel_rfl
                case hsQ55 => assumption
                case hpQ55 => (intro _ _ _ h; exact h)
                case hwQ55 => rfl
                case hyQ55 => (intro w hSw; (try dsimp only at hSw); go_simp; (try with_reducible rfl))
                (try simp only [Act.put, List.setIfInBounds_toArray, List.set_cons_zero, List.set_cons_succ])
                refine wpAnyH_take (i := 57) (oi := ?oiQ56) (v := ?vQ56) ?oiEQ56 ?h1Q56 ?h2Q56 ?h3Q56 ?hpQ56 (Or.inl ⟨?hwQ56, ?hyQ56⟩) ?hsQ56 ?nxtQ56
                case oiEQ56 => (simp only [List.getElem?_toArray, List.getElem?_cons_succ, List.getElem?_cons_zero]; rfl)
                case h1Q56 => kernel_rfl
                case h2Q56 => kernel_rfl
                case h3Q56 => kernel_rfl
                case hsQ56 => assumption
                case hpQ56 => (intro _ _ _ h; exact h)
                case hwQ56 => rfl
                case hyQ56 => (intro w hSw; (try dsimp only at hSw); go_simp; (try with_reducible rfl))
                (try simp only [Act.put, List.setIfInBounds_toArray, List.set_cons_zero, List.set_cons_succ])
                refine wpAnyH_take (i := 58) (oi := ?oiQ57) (v := ?vQ57) ?oiEQ57 ?h1Q57 ?h2Q57 ?h3Q57 ?hpQ57 (Or.inl ⟨?hwQ57, ?hyQ57⟩) ?hsQ57 ?nxtQ57
                case oiEQ57 => (simp only [List.getElem?_toArray, List.getElem?_cons_succ, List.getElem?_cons_zero]; rfl)
                case h1Q57 => kernel_rfl
                case h2Q57 => kernel_rfl
                case h3Q57 => kernel_rfl
                case hsQ57 => assumption
                case hpQ57 => (intro _ _ _ h; exact h)
                case hwQ57 => rfl
                case hyQ57 => (intro w hSw; (try dsimp only at hSw); go_simp; (try with_reducible rfl))
                (try simp only [Act.put, List.setIfInBounds_toArray, List.set_cons_zero, List.set_cons_succ])
                refine wpAnyH_ready (rs := [53]) (by kernel_rfl) (by simp) ?_
                refine AllReadyH.cons (o := ?oiQ58) ?oiEQ58 (fun K hK => ?_) AllReadyH.nil
                case oiEQ58 => (simp only [List.getElem?_toArray, List.getElem?_cons_succ, List.getElem?_cons_zero]; rfl)
                go_simp
                (go_at_call 37; refine (HNUM.out _).mono ?_; rintro r w' ⟨rfl, rfl⟩)
                refine hK.out _ _ ?_ (fun hHeld => ?_)
                · exact c5
                clear hK K
                (try simp only [Act.put, List.setIfInBounds_toArray, List.set_cons_zero, List.set_cons_succ])
                refine wpAnyH_ready (rs := [54]) (by kernel_rfl) (by simp) ?_
                refine AllReadyH.cons (o := ?oiQ59) ?oiEQ59 (fun K hK => ?_) AllReadyH.nil
                case oiEQ59 => (simp only [List.getElem?_toArray, List.getElem?_cons_succ, List.getElem?_cons_zero]; rfl)
                go_simp
                (go_at_call 36; refine (HNAM.out _).mono ?_; rintro r w' ⟨rfl, rfl⟩)
                refine hK.out _ _ ?_ (fun hHeld => ?_)
                · exact c5
                clear hK K
                (try simp only [Act.put, List.setIfInBounds_toArray, List.set_cons_zero, List.set_cons_succ])
                refine wpAnyH_take (i := 59) (oi := ?oiQ60) (v := ?vQ60) ?oiEQ60 ?h1Q60 ?h2Q60 ?h3Q60 ?hpQ60 (Or.inl ⟨?hwQ60, ?hyQ60⟩) ?hsQ60 ?nxtQ60
                case oiEQ60 => (simp only [List.getElem?_toArray, List.getElem?_cons_succ, List.getElem?_cons_zero]; rfl)
                case h1Q60 => kernel_rfl
                case h2Q60 => kernel_rfl
                case h3Q60 => kernel_rfl
                case hsQ60 => assumption
                case hpQ60 => (intro _ _ _ h; exact h)
                case hwQ60 => rfl
                case hyQ60 => (intro w hSw; (try dsimp only at hSw); go_simp; (try with_reducible rfl))
                (try simp only [Act.put, List.setIfInBounds_toArray, List.set_cons_zero, List.set_cons_succ])
                refine wpAnyH_take (i := 60) (oi := ?oiQ61) (v := ?vQ61) ?oiEQ61 ?h1Q61 ?h2Q61 ?h3Q61 ?hpQ61 (Or.inl ⟨?hwQ61, ?hyQ61⟩) ?hsQ61 ?nxtQ61
                case oiEQ61 => (simp only [List.getElem?_toArray, List.getElem?_cons_succ, List.getElem?_cons_zero]; rfl)
                case h1Q61 => kernel_rfl
                case h2Q61 => kernel_rfl
                case h3Q61 => kernel_rfl
                case hsQ61 => assumption
                case hpQ61 => (intro _ _ _ h; exact h)
                case hwQ61 => rfl
                case hyQ61 => (intro w hSw; (try dsimp only at hSw); go_simp; (try with_reducible rfl))
                (try simp only [Act.put, List.setIfInBounds_toArray, List.set_cons_zero, List.set_cons_succ])
                refine wpAnyH_done (by kernel_rfl) ?_ _
                all_goals
                  go_wp2_with (fail)
                  go_meet
                  case rel =>
                    have h6 := H5.out
                    cases tb with
                    | true => exact ⟨false, rfl, .inl ⟨rfl, h6⟩⟩
                    | false => exact ⟨true, rfl, .inr ⟨rfl, h6⟩⟩
            · have g3 : decide ((X.size : Int) < 7) = false := decide_eq_false (by omega)
              have g4 : ((X.extract 0 7).toList == [99, 117, 114, 114, 101, 110, 116]) = false := by rw [hext, beq_eq_false_iff_ne]; exact h7
              have HCC : Hid (decide (s.take 7 = curW) = false) := Lib.hid (decide_eq_false h7)
              have h77 : 7 ≤ X.size := by omega
              have h77i : (7 : Int) ≤ (X.size : Int) := by omega
              clear hext hcur h7 hC
              obtain ⟨nb, hnb⟩ : ∃ q, nameB s = q := ⟨_, rfl⟩
              have HNBB := Lib.hid hnb
              rw [hnb] at HQ
              clear hnb
              cases nb with
              | false =>
                go_quiet ((go_at_call 34; exact Calls.quiet_of_same (HQ.out _)))
                go_wp2_with (fail)
                go_meet
                case rel => exact HSKIP.out _
              | true =>
                have HLAY : Hid (nameB s = true ∧ ¬ isOwn 1 s) := Lib.hid (lays_own (by
                  unfold laysB
                  rw [HBB.out, HCC.out, HNBB.out, show s.isEmpty = false from by rw [Bool.eq_false_iff]; intro h; exact HNE.out (List.isEmpty_iff.1 h)]
                  rfl))
                obtain ⟨tb, htb⟩ : ∃ q, isTbl s = q := ⟨_, rfl⟩
                obtain ⟨N, hN⟩ : ∃ N : ByteArray, (⟨(nameR (tblNo s)).toArray⟩ : ByteArray) = N := ⟨_, rfl⟩
                have hNX : (N.toList == X.toList) = tb := by
                  rw [← hN, HXL.out, ← htb, ByteArray.toList_eq]
                  unfold isTbl
                  rw [show s.isEmpty = false from by rw [Bool.eq_false_iff]; intro h; exact HNE.out (List.isEmpty_iff.1 h), Bool.eq_iff_iff]
                  simp
                have HTB2 := Lib.hid htb
                have HNUM := Lib.hid fun wx => rnumber_any X wx
                have HNAM := Lib.hid fun wx => rrname_any (tblNo s) wx
                have HNMB := Lib.hid fun wx => rname_ba X wx (by rw [HSZ.out]; exact hsl)
                rw [HXX.out] at HNUM HNMB
                rw [HNBB.out] at HNMB
                rw [hN] at HNAM
                have HAPP : Hid (∀ (W : World) (v : Value), fr wr W → Byt W (fun j => wr.heap.size ≤ j) v [120] → Calls Tryz.prog 35 #[.pointer (some ⟨p, 0, none⟩), .string X, v] W fun r w' => r = .returned (.int .i64 0) ∧ SwT w7 w' F p 1002 (i + 1) z st (if tb = true then st else addS s st)) := Lib.hid fun W v hW hv => by
                  rw [← HXS.out, ← HTB2.out]
                  exact sw_append HS.out hW s HLAY.out.1 HLAY.out.2 v [120] (by decide) _ hv (fun _ h => h) (HTW.out.below (fr.step HFW.out hW)) (by omega)
                have hbd : b < wr.drew.heap.size := hbw
                have d0 : wr.drew.cell? ⟨b, o + i, none⟩ = some (.string X) := c0
                have hf0 : fr wr wr.drew := fr.drew fr.refl
                have hfa : fr wr (wr.alloc (.cells #[.int .u8 120] 5)).drew := (fr.alloc fr.refl _).drew
                have hfb : fr wr (wr.alloc (.cells #[.int .u8 120] 5 (1, 2))).drew := (fr.alloc fr.refl _).drew
                have kc := conv120 wr
                clear htb hN hbd d0
                refine wp_region_held_drew (S := fun w' => w'.cell? ⟨b, o + i, none⟩ = some (.string X)) (by kernel_rfl) ?_ (fun hHeld => ?_)
                · exact fr.cell hf0 c0
                refine wpAnyH_take (i := 0) (oi := ?oiQ62) (v := ?vQ62) ?oiEQ62 ?h1Q62 ?h2Q62 ?h3Q62 ?hpQ62 (Or.inl ⟨?hwQ62, ?hyQ62⟩) ?hsQ62 ?nxtQ62
                case oiEQ62 => (simp only [List.getElem?_toArray, List.getElem?_cons_succ, List.getElem?_cons_zero]; rfl)
                case h1Q62 => kernel_rfl
                case h2Q62 => kernel_rfl
                case h3Q62 => kernel_rfl
                case hsQ62 => assumption
                case hpQ62 => (intro _ _ _ h; exact h)
                case hwQ62 => rfl
                case hyQ62 => (intro w hSw; (try dsimp only at hSw); go_simp; (try with_reducible rfl))
                (try simp only [Act.put, List.setIfInBounds_toArray, List.set_cons_zero, List.set_cons_succ])
                refine wpAnyH_take (i := 1) (oi := ?oiQ63) (v := ?vQ63) ?oiEQ63 ?h1Q63 ?h2Q63 ?h3Q63 ?hpQ63 (Or.inl ⟨?hwQ63, ?hyQ63⟩) ?hsQ63 ?nxtQ63
                case oiEQ63 => (simp only [List.getElem?_toArray, List.getElem?_cons_succ, List.getElem?_cons_zero]; rfl)
                case h1Q63 => kernel_rfl
                case h2Q63 => kernel_rfl
                case h3Q63 => kernel_rfl
                case hsQ63 => assumption
                case hpQ63 => (intro _ _ _ h; exact h)
                case hwQ63 => rfl
                case hyQ63 => (intro w hSw; (try dsimp only at hSw); go_simp; (try with_reducible rfl))
                (try simp only [Act.put, List.setIfInBounds_toArray, List.set_cons_zero, List.set_cons_succ])
                refine wpAnyH_take (i := 2) (oi := ?oiQ64) (v := ?vQ64) ?oiEQ64 ?h1Q64 ?h2Q64 ?h3Q64 ?hpQ64 (Or.inl ⟨?hwQ64, ?hyQ64⟩) ?hsQ64 ?nxtQ64
                case oiEQ64 => (simp only [List.getElem?_toArray, List.getElem?_cons_succ, List.getElem?_cons_zero]; rfl)
                case h1Q64 => kernel_rfl
                case h2Q64 => kernel_rfl
                case h3Q64 => kernel_rfl
                case hsQ64 => assumption
                case hpQ64 => (intro _ _ _ h; exact h)
                case hwQ64 => rfl
                case hyQ64 => (intro w hSw; (try dsimp only at hSw); go_simp; (try with_reducible rfl))
                (try simp only [Act.put, List.setIfInBounds_toArray, List.set_cons_zero, List.set_cons_succ])
                refine wpAnyH_take (i := 3) (oi := ?oiQ65) (v := ?vQ65) ?oiEQ65 ?h1Q65 ?h2Q65 ?h3Q65 ?hpQ65 (Or.inl ⟨?hwQ65, ?hyQ65⟩) ?hsQ65 ?nxtQ65
                case oiEQ65 => (simp only [List.getElem?_toArray, List.getElem?_cons_succ, List.getElem?_cons_zero]; rfl)
                case h1Q65 => kernel_rfl
                case h2Q65 => kernel_rfl
                case h3Q65 => kernel_rfl
                case hsQ65 => assumption
                case hpQ65 => (intro _ _ _ h; exact h)
                case hwQ65 => rfl
                case hyQ65 => (intro w hSw; (try dsimp only at hSw); go_simp; (try with_reducible rfl))
                (try simp only [Act.put, List.setIfInBounds_toArray, List.set_cons_zero, List.set_cons_succ])
                refine wpAnyH_take (i := 4) (oi := ?oiQ66) (v := ?vQ66) ?oiEQ66 ?h1Q66 ?h2Q66 ?h3Q66 ?hpQ66 (Or.inl ⟨?hwQ66, ?hyQ66⟩) ?hsQ66 ?nxtQ66
                case oiEQ66 => (simp only [List.getElem?_toArray, List.getElem?_cons_succ, List.getElem?_cons_zero]; rfl)
                case h1Q66 => kernel_rfl
                case h2Q66 => kernel_rfl
                case h3Q66 => kernel_rfl
                case hsQ66 => assumption
                case hpQ66 => (intro _ _ _ h; exact h)
                case hwQ66 => rfl
                case hyQ66 => (intro w hSw; (try dsimp only at hSw); go_simp; (try with_reducible rfl))
                (try simp only [Act.put, List.setIfInBounds_toArray, List.set_cons_zero, List.set_cons_succ])
                refine wpAnyH_take (i := 5) (oi := ?oiQ67) (v := ?vQ67) ?oiEQ67 ?h1Q67 ?h2Q67 ?h3Q67 ?hpQ67 (Or.inl ⟨?hwQ67, ?hyQ67⟩) ?hsQ67 ?nxtQ67
                case oiEQ67 => (simp only [List.getElem?_toArray, List.getElem?_cons_succ, List.getElem?_cons_zero]; rfl)
                case h1Q67 => kernel_rfl
                case h2Q67 => kernel_rfl
                case h3Q67 => kernel_rfl
                case hsQ67 => assumption
                case hpQ67 => (intro _ _ _ h; exact h)
                case hwQ67 => rfl
                case hyQ67 => (intro w hSw; (try dsimp only at hSw); go_simp; (try with_reducible rfl))
                (try simp only [Act.put, List.setIfInBounds_toArray, List.set_cons_zero, List.set_cons_succ])
                refine wpAnyH_take (i := 6) (oi := ?oiQ68) (v := ?vQ68) ?oiEQ68 ?h1Q68 ?h2Q68 ?h3Q68 ?hpQ68 (Or.inl ⟨?hwQ68, ?hyQ68⟩) ?hsQ68 ?nxtQ68
                case oiEQ68 => (simp only [List.getElem?_toArray, List.getElem?_cons_succ, List.getElem?_cons_zero]; rfl)
                case h1Q68 => kernel_rfl
                case h2Q68 => kernel_rfl
                case h3Q68 => kernel_rfl
                case hsQ68 => assumption
                case hpQ68 => (intro _ _ _ h; exact h)
                case hwQ68 => rfl
                case hyQ68 => (intro w hSw; (try dsimp only at hSw); go_simp; (try with_reducible rfl))
                (try simp only [Act.put, List.setIfInBounds_toArray, List.set_cons_zero, List.set_cons_succ])
                refine wpAnyH_take (i := 7) (oi := ?oiQ69) (v := ?vQ69) ?oiEQ69 ?h1Q69 ?h2Q69 ?h3Q69 ?hpQ69 (Or.inl ⟨?hwQ69, ?hyQ69⟩) ?hsQ69 ?nxtQ69
                case oiEQ69 => (simp only [List.getElem?_toArray, List.getElem?_cons_succ, List.getElem?_cons_zero]; rfl)
                case h1Q69 => kernel_rfl
                case h2Q69 => kernel_rfl
                case h3Q69 => kernel_rfl
                case hsQ69 => assumption
                case hpQ69 => (intro _ _ _ h; exact h)
                case hwQ69 => rfl
                case hyQ69 => (intro w hSw; (try dsimp only at hSw); go_simp; (try with_reducible rfl))
                (try simp only [Act.put, List.setIfInBounds_toArray, List.set_cons_zero, List.set_cons_succ])
                refine wpAnyH_take (i := 8) (oi := ?oiQ70) (v := ?vQ70) ?oiEQ70 ?h1Q70 ?h2Q70 ?h3Q70 ?hpQ70 (Or.inl ⟨?hwQ70, ?hyQ70⟩) ?hsQ70 ?nxtQ70
                case oiEQ70 => (simp only [List.getElem?_toArray, List.getElem?_cons_succ, List.getElem?_cons_zero]; rfl)
                case h1Q70 => kernel_rfl
                case h2Q70 => kernel_rfl
                case h3Q70 => kernel_rfl
                case hsQ70 => assumption
                case hpQ70 => (intro _ _ _ h; exact h)
                case hwQ70 => rfl
                case hyQ70 => (intro w hSw; (try dsimp only at hSw); go_simp; (try with_reducible rfl))
                (try simp only [Act.put, List.setIfInBounds_toArray, List.set_cons_zero, List.set_cons_succ])
                refine wpAnyH_take (i := 9) (oi := ?oiQ71) (v := ?vQ71) ?oiEQ71 ?h1Q71 ?h2Q71 ?h3Q71 ?hpQ71 (Or.inl ⟨?hwQ71, ?hyQ71⟩) ?hsQ71 ?nxtQ71
                case oiEQ71 => (simp only [List.getElem?_toArray, List.getElem?_cons_succ, List.getElem?_cons_zero]; rfl)
                case h1Q71 => kernel_rfl
                case h2Q71 => kernel_rfl
                case h3Q71 => kernel_rfl
                case hsQ71 => assumption
                case hpQ71 => (intro _ _ _ h; exact h)
                case hwQ71 => rfl
                case hyQ71 => (intro w hSw; (try dsimp only at hSw); go_simp; (try with_reducible rfl))
                (try simp only [Act.put, List.setIfInBounds_toArray, List.set_cons_zero, List.set_cons_succ])
                refine wpAnyH_take (i := 10) (oi := ?oiQ72) (v := ?vQ72) ?oiEQ72 ?h1Q72 ?h2Q72 ?h3Q72 ?hpQ72 (Or.inl ⟨?hwQ72, ?hyQ72⟩) ?hsQ72 ?nxtQ72
                case oiEQ72 => (simp only [List.getElem?_toArray, List.getElem?_cons_succ, List.getElem?_cons_zero]; rfl)
                case h1Q72 => kernel_rfl
                case h2Q72 => kernel_rfl
                case h3Q72 => kernel_rfl
                case hsQ72 => assumption
                case hpQ72 => (intro _ _ _ h; exact h)
                case hwQ72 => rfl
                case hyQ72 => (intro w hSw; (try dsimp only at hSw); go_simp; (try with_reducible rfl))
                (try simp only [Act.put, List.setIfInBounds_toArray, List.set_cons_zero, List.set_cons_succ])
                refine wpAnyH_take (i := 11) (oi := ?oiQ73) (v := ?vQ73) ?oiEQ73 ?h1Q73 ?h2Q73 ?h3Q73 ?hpQ73 (Or.inl ⟨?hwQ73, ?hyQ73⟩) ?hsQ73 ?nxtQ73
                case oiEQ73 => (simp only [List.getElem?_toArray, List.getElem?_cons_succ, List.getElem?_cons_zero]; rfl)
                case h1Q73 => kernel_rfl
                case h2Q73 => kernel_rfl
                case h3Q73 => kernel_rfl
                case hsQ73 => assumption
                case hpQ73 => (intro _ _ _ h; exact h)
                case hwQ73 => rfl
                case hyQ73 => (intro w hSw; (try dsimp only at hSw); go_simp; (try with_reducible rfl))
                (try simp only [Act.put, List.setIfInBounds_toArray, List.set_cons_zero, List.set_cons_succ])
                refine wpAnyH_take (i := 12) (oi := ?oiQ74) (v := ?vQ74) ?oiEQ74 ?h1Q74 ?h2Q74 ?h3Q74 ?hpQ74 (Or.inl ⟨?hwQ74, ?hyQ74⟩) ?hsQ74 ?nxtQ74
                case oiEQ74 => (simp only [List.getElem?_toArray, List.getElem?_cons_succ, List.getElem?_cons_zero]; rfl)
                case h1Q74 => kernel_rfl
                case h2Q74 => kernel_rfl
                case h3Q74 => kernel_rfl
                case hsQ74 => assumption
                case hpQ74 => (intro _ _ _ h; exact h)
                case hwQ74 => rfl
                case hyQ74 => (intro w hSw; (try dsimp only at hSw); go_simp; (try with_reducible rfl))
                (try simp only [Act.put, List.setIfInBounds_toArray, List.set_cons_zero, List.set_cons_succ])
                refine wpAnyH_take (i := 13) (oi := ?oiQ75) (v := ?vQ75) ?oiEQ75 ?h1Q75 ?h2Q75 ?h3Q75 ?hpQ75 (Or.inl ⟨?hwQ75, ?hyQ75⟩) ?hsQ75 ?nxtQ75
                case oiEQ75 => (simp only [List.getElem?_toArray, List.getElem?_cons_succ, List.getElem?_cons_zero]; rfl)
                case h1Q75 => kernel_rfl
                case h2Q75 => kernel_rfl
                case h3Q75 => kernel_rfl
                case hsQ75 => assumption
                case hpQ75 => (intro _ _ _ h; exact h)
                case hwQ75 => rfl
                case hyQ75 => (intro w hSw; (try dsimp only at hSw); go_simp; (try with_reducible rfl))
                (try simp only [Act.put, List.setIfInBounds_toArray, List.set_cons_zero, List.set_cons_succ])
                refine wpAnyH_take (i := 14) (oi := ?oiQ76) (v := ?vQ76) ?oiEQ76 ?h1Q76 ?h2Q76 ?h3Q76 ?hpQ76 (Or.inl ⟨?hwQ76, ?hyQ76⟩) ?hsQ76 ?nxtQ76
                case oiEQ76 => (simp only [List.getElem?_toArray, List.getElem?_cons_succ, List.getElem?_cons_zero]; rfl)
                case h1Q76 => kernel_rfl
                case h2Q76 => kernel_rfl
                case h3Q76 => kernel_rfl
                case hsQ76 => assumption
                case hpQ76 => (intro _ _ _ h; exact h)
                case hwQ76 => rfl
                case hyQ76 => (intro w hSw; (try dsimp only at hSw); go_simp; (try with_reducible rfl))
                (try simp only [Act.put, List.setIfInBounds_toArray, List.set_cons_zero, List.set_cons_succ])
                refine wpAnyH_take (i := 15) (oi := ?oiQ77) (v := ?vQ77) ?oiEQ77 ?h1Q77 ?h2Q77 ?h3Q77 ?hpQ77 (Or.inl ⟨?hwQ77, ?hyQ77⟩) ?hsQ77 ?nxtQ77
                case oiEQ77 => (simp only [List.getElem?_toArray, List.getElem?_cons_succ, List.getElem?_cons_zero]; rfl)
                case h1Q77 => kernel_rfl
                case h2Q77 => kernel_rfl
                case h3Q77 => kernel_rfl
                case hsQ77 => assumption
                case hpQ77 => (intro _ _ _ h; exact h)
                case hwQ77 => rfl
                case hyQ77 => (intro w hSw; (try dsimp only at hSw); go_simp; (try with_reducible rfl))
                (try simp only [Act.put, List.setIfInBounds_toArray, List.set_cons_zero, List.set_cons_succ])
                refine wpAnyH_take (i := 16) (oi := ?oiQ78) (v := ?vQ78) ?oiEQ78 ?h1Q78 ?h2Q78 ?h3Q78 ?hpQ78 (Or.inl ⟨?hwQ78, ?hyQ78⟩) ?hsQ78 ?nxtQ78
                case oiEQ78 => (simp only [List.getElem?_toArray, List.getElem?_cons_succ, List.getElem?_cons_zero]; rfl)
                case h1Q78 => kernel_rfl
                case h2Q78 => kernel_rfl
                case h3Q78 => kernel_rfl
                case hsQ78 => assumption
                case hpQ78 => (intro _ _ _ h; exact h)
                case hwQ78 => rfl
                case hyQ78 => (intro w hSw; (try dsimp only at hSw); go_simp; (try with_reducible rfl))
                (try simp only [Act.put, List.setIfInBounds_toArray, List.set_cons_zero, List.set_cons_succ])
                refine wpAnyH_take (i := 17) (oi := ?oiQ79) (v := ?vQ79) ?oiEQ79 ?h1Q79 ?h2Q79 ?h3Q79 ?hpQ79 (Or.inl ⟨?hwQ79, ?hyQ79⟩) ?hsQ79 ?nxtQ79
                case oiEQ79 => (simp only [List.getElem?_toArray, List.getElem?_cons_succ, List.getElem?_cons_zero]; rfl)
                case h1Q79 => kernel_rfl
                case h2Q79 => kernel_rfl
                case h3Q79 => kernel_rfl
                case hsQ79 => assumption
                case hpQ79 => (intro _ _ _ h; exact h)
                case hwQ79 => rfl
                case hyQ79 => (intro w hSw; (try dsimp only at hSw); go_simp; (try with_reducible rfl))
                (try simp only [Act.put, List.setIfInBounds_toArray, List.set_cons_zero, List.set_cons_succ])
                refine wpAnyH_take (i := 18) (oi := ?oiQ80) (v := ?vQ80) ?oiEQ80 ?h1Q80 ?h2Q80 ?h3Q80 ?hpQ80 (Or.inl ⟨?hwQ80, ?hyQ80⟩) ?hsQ80 ?nxtQ80
                case oiEQ80 => (simp only [List.getElem?_toArray, List.getElem?_cons_succ, List.getElem?_cons_zero]; rfl)
                case h1Q80 => kernel_rfl
                case h2Q80 => kernel_rfl
                case h3Q80 => kernel_rfl
                case hsQ80 => assumption
                case hpQ80 => (intro _ _ _ h; exact h)
                case hwQ80 => rfl
                case hyQ80 => (intro w hSw; (try dsimp only at hSw); go_simp; (try with_reducible rfl))
                (try simp only [Act.put, List.setIfInBounds_toArray, List.set_cons_zero, List.set_cons_succ])
                refine wpAnyH_take (i := 19) (oi := ?oiQ81) (v := ?vQ81) ?oiEQ81 ?h1Q81 ?h2Q81 ?h3Q81 ?hpQ81 (Or.inl ⟨?hwQ81, ?hyQ81⟩) ?hsQ81 ?nxtQ81
                case oiEQ81 => (simp only [List.getElem?_toArray, List.getElem?_cons_succ, List.getElem?_cons_zero]; rfl)
                case h1Q81 => kernel_rfl
                case h2Q81 => kernel_rfl
                case h3Q81 => kernel_rfl
                case hsQ81 => assumption
                case hpQ81 => (intro _ _ _ h; exact h)
                case hwQ81 => rfl
                case hyQ81 => (intro w hSw; (try dsimp only at hSw); go_simp; (try with_reducible rfl))
                (try simp only [Act.put, List.setIfInBounds_toArray, List.set_cons_zero, List.set_cons_succ])
                refine wpAnyH_take (i := 20) (oi := ?oiQ82) (v := ?vQ82) ?oiEQ82 ?h1Q82 ?h2Q82 ?h3Q82 ?hpQ82 (Or.inl ⟨?hwQ82, ?hyQ82⟩) ?hsQ82 ?nxtQ82
                case oiEQ82 => (simp only [List.getElem?_toArray, List.getElem?_cons_succ, List.getElem?_cons_zero]; rfl)
                case h1Q82 => kernel_rfl
                case h2Q82 => kernel_rfl
                case h3Q82 => kernel_rfl
                case hsQ82 => assumption
                case hpQ82 => (intro _ _ _ h; exact h)
                case hwQ82 => rfl
                case hyQ82 => (intro w hSw; (try dsimp only at hSw); go_simp; (try with_reducible rfl))
                (try simp only [Act.put, List.setIfInBounds_toArray, List.set_cons_zero, List.set_cons_succ])
                refine wpAnyH_take (i := 21) (oi := ?oiQ83) (v := ?vQ83) ?oiEQ83 ?h1Q83 ?h2Q83 ?h3Q83 ?hpQ83 (Or.inl ⟨?hwQ83, ?hyQ83⟩) ?hsQ83 ?nxtQ83
                case oiEQ83 => (simp only [List.getElem?_toArray, List.getElem?_cons_succ, List.getElem?_cons_zero]; rfl)
                case h1Q83 => kernel_rfl
                case h2Q83 => kernel_rfl
                case h3Q83 => kernel_rfl
                case hsQ83 => assumption
                case hpQ83 => (intro _ _ _ h; exact h)
                case hwQ83 => rfl
                case hyQ83 => (intro w hSw; (try dsimp only at hSw); go_simp; (try with_reducible rfl))
                (try simp only [Act.put, List.setIfInBounds_toArray, List.set_cons_zero, List.set_cons_succ])
                refine wpAnyH_take (i := 22) (oi := ?oiQ84) (v := ?vQ84) ?oiEQ84 ?h1Q84 ?h2Q84 ?h3Q84 ?hpQ84 (Or.inl ⟨?hwQ84, ?hyQ84⟩) ?hsQ84 ?nxtQ84
                case oiEQ84 => (simp only [List.getElem?_toArray, List.getElem?_cons_succ, List.getElem?_cons_zero]; rfl)
                case h1Q84 => kernel_rfl
                case h2Q84 => kernel_rfl
                case h3Q84 => kernel_rfl
                case hsQ84 => assumption
                case hpQ84 => (intro _ _ _ h; exact h)
                case hwQ84 => rfl
                case hyQ84 => (intro w hSw; (try dsimp only at hSw); go_simp; (try with_reducible rfl))
                (try simp only [Act.put, List.setIfInBounds_toArray, List.set_cons_zero, List.set_cons_succ])
                refine wpAnyH_take (i := 23) (oi := ?oiQ85) (v := ?vQ85) ?oiEQ85 ?h1Q85 ?h2Q85 ?h3Q85 ?hpQ85 (Or.inl ⟨?hwQ85, ?hyQ85⟩) ?hsQ85 ?nxtQ85
                case oiEQ85 => (simp only [List.getElem?_toArray, List.getElem?_cons_succ, List.getElem?_cons_zero]; rfl)
                case h1Q85 => kernel_rfl
                case h2Q85 => kernel_rfl
                case h3Q85 => kernel_rfl
                case hsQ85 => assumption
                case hpQ85 => (intro _ _ _ h; exact h)
                case hwQ85 => rfl
                case hyQ85 => (intro w hSw; (try dsimp only at hSw); go_simp; (try with_reducible rfl))
                (try simp only [Act.put, List.setIfInBounds_toArray, List.set_cons_zero, List.set_cons_succ])
                refine wpAnyH_take (i := 24) (oi := ?oiQ86) (v := ?vQ86) ?oiEQ86 ?h1Q86 ?h2Q86 ?h3Q86 ?hpQ86 (Or.inl ⟨?hwQ86, ?hyQ86⟩) ?hsQ86 ?nxtQ86
                case oiEQ86 => (simp only [List.getElem?_toArray, List.getElem?_cons_succ, List.getElem?_cons_zero]; rfl)
                case h1Q86 => kernel_rfl
                case h2Q86 => kernel_rfl
                case h3Q86 => kernel_rfl
                case hsQ86 => assumption
                case hpQ86 => (intro _ _ _ h; exact h)
                case hwQ86 => rfl
                case hyQ86 => (intro w hSw; (try dsimp only at hSw); go_simp; (try with_reducible rfl))
                (try simp only [Act.put, List.setIfInBounds_toArray, List.set_cons_zero, List.set_cons_succ])
                refine wpAnyH_take (i := 25) (oi := ?oiQ87) (v := ?vQ87) ?oiEQ87 ?h1Q87 ?h2Q87 ?h3Q87 ?hpQ87 (Or.inl ⟨?hwQ87, ?hyQ87⟩) ?hsQ87 ?nxtQ87
                case oiEQ87 => (simp only [List.getElem?_toArray, List.getElem?_cons_succ, List.getElem?_cons_zero]; rfl)
                case h1Q87 => kernel_rfl
                case h2Q87 => kernel_rfl
                case h3Q87 => kernel_rfl
                case hsQ87 => assumption
                case hpQ87 => (intro _ _ _ h; exact h)
                case hwQ87 => rfl
                case hyQ87 => (intro w hSw; (try dsimp only at hSw); go_simp; (try with_reducible rfl))
                (try simp only [Act.put, List.setIfInBounds_toArray, List.set_cons_zero, List.set_cons_succ])
                refine wpAnyH_take (i := 26) (oi := ?oiQ88) (v := ?vQ88) ?oiEQ88 ?h1Q88 ?h2Q88 ?h3Q88 ?hpQ88 (Or.inl ⟨?hwQ88, ?hyQ88⟩) ?hsQ88 ?nxtQ88
                case oiEQ88 => (simp only [List.getElem?_toArray, List.getElem?_cons_succ, List.getElem?_cons_zero]; rfl)
                case h1Q88 => kernel_rfl
                case h2Q88 => kernel_rfl
                case h3Q88 => kernel_rfl
                case hsQ88 => assumption
                case hpQ88 => (intro _ _ _ h; exact h)
                case hwQ88 => rfl
                case hyQ88 => (intro w hSw; (try dsimp only at hSw); go_simp; (try with_reducible rfl))
                (try simp only [Act.put, List.setIfInBounds_toArray, List.set_cons_zero, List.set_cons_succ])
                refine wpAnyH_take (i := 27) (oi := ?oiQ89) (v := ?vQ89) ?oiEQ89 ?h1Q89 ?h2Q89 ?h3Q89 ?hpQ89 (Or.inl ⟨?hwQ89, ?hyQ89⟩) ?hsQ89 ?nxtQ89
                case oiEQ89 => (simp only [List.getElem?_toArray, List.getElem?_cons_succ, List.getElem?_cons_zero]; rfl)
                case h1Q89 => kernel_rfl
                case h2Q89 => kernel_rfl
                case h3Q89 => kernel_rfl
                case hsQ89 => assumption
                case hpQ89 => (intro _ _ _ h; exact h)
                case hwQ89 => rfl
                case hyQ89 => (intro w hSw; (try dsimp only at hSw); go_simp; (try with_reducible rfl))
                (try simp only [Act.put, List.setIfInBounds_toArray, List.set_cons_zero, List.set_cons_succ])
                refine wpAnyH_take (i := 28) (oi := ?oiQ90) (v := ?vQ90) ?oiEQ90 ?h1Q90 ?h2Q90 ?h3Q90 ?hpQ90 (Or.inl ⟨?hwQ90, ?hyQ90⟩) ?hsQ90 ?nxtQ90
                case oiEQ90 => (simp only [List.getElem?_toArray, List.getElem?_cons_succ, List.getElem?_cons_zero]; rfl)
                case h1Q90 => kernel_rfl
                case h2Q90 => kernel_rfl
                case h3Q90 => kernel_rfl
                case hsQ90 => assumption
                case hpQ90 => (intro _ _ _ h; exact h)
                case hwQ90 => rfl
                case hyQ90 => (intro w hSw; (try dsimp only at hSw); go_simp; (try with_reducible rfl))
                (try simp only [Act.put, List.setIfInBounds_toArray, List.set_cons_zero, List.set_cons_succ])
                refine wpAnyH_take (i := 29) (oi := ?oiQ91) (v := ?vQ91) ?oiEQ91 ?h1Q91 ?h2Q91 ?h3Q91 ?hpQ91 (Or.inl ⟨?hwQ91, ?hyQ91⟩) ?hsQ91 ?nxtQ91
                case oiEQ91 => (simp only [List.getElem?_toArray, List.getElem?_cons_succ, List.getElem?_cons_zero]; rfl)
                case h1Q91 => kernel_rfl
                case h2Q91 => kernel_rfl
                case h3Q91 => kernel_rfl
                case hsQ91 => assumption
                case hpQ91 => (intro _ _ _ h; exact h)
                case hwQ91 => rfl
                case hyQ91 => (intro w hSw; (try dsimp only at hSw); go_simp; (try with_reducible rfl))
                (try simp only [Act.put, List.setIfInBounds_toArray, List.set_cons_zero, List.set_cons_succ])
                refine wpAnyH_take (i := 30) (oi := ?oiQ92) (v := ?vQ92) ?oiEQ92 ?h1Q92 ?h2Q92 ?h3Q92 ?hpQ92 (Or.inl ⟨?hwQ92, ?hyQ92⟩) ?hsQ92 ?nxtQ92
                case oiEQ92 => (simp only [List.getElem?_toArray, List.getElem?_cons_succ, List.getElem?_cons_zero]; rfl)
                case h1Q92 => kernel_rfl
                case h2Q92 => kernel_rfl
                case h3Q92 => kernel_rfl
                case hsQ92 => assumption
                case hpQ92 => (intro _ _ _ h; exact h)
                case hwQ92 => rfl
                case hyQ92 => (intro w hSw; (try dsimp only at hSw); go_simp; (try with_reducible rfl))
                (try simp only [Act.put, List.setIfInBounds_toArray, List.set_cons_zero, List.set_cons_succ])
                refine wpAnyH_take (i := 31) (oi := ?oiQ93) (v := ?vQ93) ?oiEQ93 ?h1Q93 ?h2Q93 ?h3Q93 ?hpQ93 (Or.inl ⟨?hwQ93, ?hyQ93⟩) ?hsQ93 ?nxtQ93
                case oiEQ93 => (simp only [List.getElem?_toArray, List.getElem?_cons_succ, List.getElem?_cons_zero]; rfl)
                case h1Q93 => kernel_rfl
                case h2Q93 => kernel_rfl
                case h3Q93 => kernel_rfl
                case hsQ93 => assumption
                case hpQ93 => (intro _ _ _ h; exact h)
                case hwQ93 => rfl
                case hyQ93 => (intro w hSw; (try dsimp only at hSw); go_simp; (try with_reducible rfl))
                (try simp only [Act.put, List.setIfInBounds_toArray, List.set_cons_zero, List.set_cons_succ])
                refine wpAnyH_take (i := 32) (oi := ?oiQ94) (v := ?vQ94) ?oiEQ94 ?h1Q94 ?h2Q94 ?h3Q94 ?hpQ94 (Or.inl ⟨?hwQ94, ?hyQ94⟩) ?hsQ94 ?nxtQ94
                case oiEQ94 => (simp only [List.getElem?_toArray, List.getElem?_cons_succ, List.getElem?_cons_zero]; rfl)
                case h1Q94 => kernel_rfl
                case h2Q94 => kernel_rfl
                case h3Q94 => kernel_rfl
                case hsQ94 => assumption
                case hpQ94 => (intro _ _ _ h; exact h)
                case hwQ94 => rfl
                case hyQ94 => (intro w hSw; (try dsimp only at hSw); go_simp; (try with_reducible rfl))
                (try simp only [Act.put, List.setIfInBounds_toArray, List.set_cons_zero, List.set_cons_succ])
                refine wpAnyH_take (i := 33) (oi := ?oiQ95) (v := ?vQ95) ?oiEQ95 ?h1Q95 ?h2Q95 ?h3Q95 ?hpQ95 (Or.inl ⟨?hwQ95, ?hyQ95⟩) ?hsQ95 ?nxtQ95
                case oiEQ95 => (simp only [List.getElem?_toArray, List.getElem?_cons_succ, List.getElem?_cons_zero]; rfl)
                case h1Q95 => kernel_rfl
                case h2Q95 => kernel_rfl
                case h3Q95 => kernel_rfl
                case hsQ95 => assumption
                case hpQ95 => (intro _ _ _ h; exact h)
                case hwQ95 => rfl
                case hyQ95 => (intro w hSw; (try dsimp only at hSw); go_simp; (try with_reducible rfl))
                (try simp only [Act.put, List.setIfInBounds_toArray, List.set_cons_zero, List.set_cons_succ])
                refine wpAnyH_take (i := 34) (oi := ?oiQ96) (v := ?vQ96) ?oiEQ96 ?h1Q96 ?h2Q96 ?h3Q96 ?hpQ96 (Or.inl ⟨?hwQ96, ?hyQ96⟩) ?hsQ96 ?nxtQ96
                case oiEQ96 => (simp only [List.getElem?_toArray, List.getElem?_cons_succ, List.getElem?_cons_zero]; rfl)
                case h1Q96 => kernel_rfl
                case h2Q96 => kernel_rfl
                case h3Q96 => kernel_rfl
                case hsQ96 => assumption
                case hpQ96 => (intro _ _ _ h; exact h)
                case hwQ96 => rfl
                case hyQ96 => (intro w hSw; (try dsimp only at hSw); go_simp; (try with_reducible rfl))
                (try simp only [Act.put, List.setIfInBounds_toArray, List.set_cons_zero, List.set_cons_succ])
                refine wpAnyH_ready (rs := [35]) (by kernel_rfl) (by simp) ?_
                refine AllReadyH.cons (o := ?oiQ97) ?oiEQ97 (fun K hK => ?_) AllReadyH.nil
                case oiEQ97 => (simp only [List.getElem?_toArray, List.getElem?_cons_succ, List.getElem?_cons_zero]; rfl)
                go_simp
                (go_at_call 34; refine (HNMB.out _).mono ?_; rintro r w' ⟨rfl, rfl⟩)
                refine hK.out _ _ ?_ (fun hHeld => ?_)
                · exact fr.cell hf0 c0
                clear hK K
                (try simp only [Act.put, List.setIfInBounds_toArray, List.set_cons_zero, List.set_cons_succ])
                refine wpAnyH_take (i := 36) (oi := ?oiQ98) (v := ?vQ98) ?oiEQ98 ?h1Q98 ?h2Q98 ?h3Q98 ?hpQ98 (Or.inl ⟨?hwQ98, ?hyQ98⟩) ?hsQ98 ?nxtQ98
                case oiEQ98 => (simp only [List.getElem?_toArray, List.getElem?_cons_succ, List.getElem?_cons_zero]; rfl)
                case h1Q98 => kernel_rfl
                case h2Q98 => kernel_rfl
                case h3Q98 => kernel_rfl
                case hsQ98 => assumption
                case hpQ98 => (intro _ _ _ h; exact h)
                case hwQ98 => rfl
                case hyQ98 => (intro w hSw; (try dsimp only at hSw); go_simp; (try with_reducible rfl))
                (try simp only [Act.put, List.setIfInBounds_toArray, List.set_cons_zero, List.set_cons_succ])
                refine wpAnyH_take (i := 37) (oi := ?oiQ99) (v := ?vQ99) ?oiEQ99 ?h1Q99 ?h2Q99 ?h3Q99 ?hpQ99 (Or.inl ⟨?hwQ99, ?hyQ99⟩) ?hsQ99 ?nxtQ99
                case oiEQ99 => (simp only [List.getElem?_toArray, List.getElem?_cons_succ, List.getElem?_cons_zero]; rfl)
                case h1Q99 => kernel_rfl
                case h2Q99 => kernel_rfl
                case h3Q99 => kernel_rfl
                case hsQ99 => assumption
                case hpQ99 => (intro _ _ _ h; exact h)
                case hwQ99 => rfl
                case hyQ99 => (intro w hSw; (try dsimp only at hSw); go_simp; (try with_reducible rfl))
                (try simp only [Act.put, List.setIfInBounds_toArray, List.set_cons_zero, List.set_cons_succ])
                refine wpAnyH_take (i := 38) (oi := ?oiQ100) (v := ?vQ100) ?oiEQ100 ?h1Q100 ?h2Q100 ?h3Q100 ?hpQ100 (Or.inl ⟨?hwQ100, ?hyQ100⟩) ?hsQ100 ?nxtQ100
                case oiEQ100 => (simp only [List.getElem?_toArray, List.getElem?_cons_succ, List.getElem?_cons_zero]; rfl)
                case h1Q100 => kernel_rfl
                case h2Q100 => kernel_rfl
                case h3Q100 => kernel_rfl
                case hsQ100 => assumption
                case hpQ100 => (intro _ _ _ h; exact h)
                case hwQ100 => rfl
                case hyQ100 => (intro w hSw; (try dsimp only at hSw); go_simp; (try with_reducible rfl))
                (try simp only [Act.put, List.setIfInBounds_toArray, List.set_cons_zero, List.set_cons_succ])
                refine wpAnyH_take (i := 39) (oi := ?oiQ101) (v := ?vQ101) ?oiEQ101 ?h1Q101 ?h2Q101 ?h3Q101 ?hpQ101 (Or.inl ⟨?hwQ101, ?hyQ101⟩) ?hsQ101 ?nxtQ101
                case oiEQ101 => (simp only [List.getElem?_toArray, List.getElem?_cons_succ, List.getElem?_cons_zero]; rfl)
                case h1Q101 => kernel_rfl
                case h2Q101 => kernel_rfl
                case h3Q101 => kernel_rfl
                case hsQ101 => assumption
                case hpQ101 => (intro _ _ _ h; exact h)
                case hwQ101 => rfl
                case hyQ101 => (intro w hSw; (try dsimp only at hSw); go_simp; (try with_reducible rfl))
                (try simp only [Act.put, List.setIfInBounds_toArray, List.set_cons_zero, List.set_cons_succ])
                refine wpAnyH_take (i := 40) (oi := ?oiQ102) (v := ?vQ102) ?oiEQ102 ?h1Q102 ?h2Q102 ?h3Q102 ?hpQ102 (Or.inl ⟨?hwQ102, ?hyQ102⟩) ?hsQ102 ?nxtQ102
                case oiEQ102 => (simp only [List.getElem?_toArray, List.getElem?_cons_succ, List.getElem?_cons_zero]; rfl)
                case h1Q102 => kernel_rfl
                case h2Q102 => kernel_rfl
                case h3Q102 => kernel_rfl
                case hsQ102 => assumption
                case hpQ102 => (intro _ _ _ h; exact h)
                case hwQ102 => rfl
                case hyQ102 => (intro w hSw; (try dsimp only at hSw); go_simp; (try with_reducible rfl))
                (try simp only [Act.put, List.setIfInBounds_toArray, List.set_cons_zero, List.set_cons_succ])
                refine wpAnyH_take (i := 41) (oi := ?oiQ103) (v := ?vQ103) ?oiEQ103 ?h1Q103 ?h2Q103 ?h3Q103 ?hpQ103 (Or.inl ⟨?hwQ103, ?hyQ103⟩) ?hsQ103 ?nxtQ103
                case oiEQ103 => (simp only [List.getElem?_toArray, List.getElem?_cons_succ, List.getElem?_cons_zero]; rfl)
                case h1Q103 => kernel_rfl
                case h2Q103 => kernel_rfl
                case h3Q103 => kernel_rfl
                case hsQ103 => assumption
                case hpQ103 => (intro _ _ _ h; exact h)
                case hwQ103 => rfl
                case hyQ103 => (intro w hSw; (try dsimp only at hSw); go_simp; (try with_reducible rfl))
                (try simp only [Act.put, List.setIfInBounds_toArray, List.set_cons_zero, List.set_cons_succ])
                refine wpAnyH_take (i := 42) (oi := ?oiQ104) (v := ?vQ104) ?oiEQ104 ?h1Q104 ?h2Q104 ?h3Q104 ?hpQ104 (Or.inl ⟨?hwQ104, ?hyQ104⟩) ?hsQ104 ?nxtQ104
                case oiEQ104 => (simp only [List.getElem?_toArray, List.getElem?_cons_succ, List.getElem?_cons_zero]; rfl)
                case h1Q104 => kernel_rfl
                case h2Q104 => kernel_rfl
                case h3Q104 => kernel_rfl
                case hsQ104 => assumption
                case hpQ104 => (intro _ _ _ h; exact h)
                case hwQ104 => rfl
                case hyQ104 => (intro w hSw; (try dsimp only at hSw); go_simp; (try with_reducible rfl))
                (try simp only [Act.put, List.setIfInBounds_toArray, List.set_cons_zero, List.set_cons_succ])
                refine wpAnyH_ready (rs := [43]) (by kernel_rfl) (by simp) ?_
                refine AllReadyH.cons (o := ?oiQ105) ?oiEQ105 (fun K hK => ?_) AllReadyH.nil
                case oiEQ105 => (simp only [List.getElem?_toArray, List.getElem?_cons_succ, List.getElem?_cons_zero]; rfl)
                go_simp
                refine hK.out _ _ ?_ (fun hHeld => ?_)
                · exact fr.cell hfa c0
                clear hK K
                (try simp only [Act.put, List.setIfInBounds_toArray, List.set_cons_zero, List.set_cons_succ])
                refine wpAnyH_ready (rs := [44]) (by kernel_rfl) (by simp) ?_
                refine AllReadyH.cons (o := ?oiQ106) ?oiEQ106 (fun K hK => ?_) AllReadyH.nil
                case oiEQ106 => (simp only [List.getElem?_toArray, List.getElem?_cons_succ, List.getElem?_cons_zero]; rfl)
                go_simp
                refine hK.out _ _ ?_ (fun hHeld => ?_)
                · exact fr.cell hfb c0
                clear hK K
                (try simp only [Act.put, List.setIfInBounds_toArray, List.set_cons_zero, List.set_cons_succ])
                refine wpAnyH_ready (rs := [45]) (by kernel_rfl) (by simp) ?_
                refine AllReadyH.cons (o := ?oiQ107) ?oiEQ107 (fun K hK => ?_) AllReadyH.nil
                case oiEQ107 => (simp only [List.getElem?_toArray, List.getElem?_cons_succ, List.getElem?_cons_zero]; rfl)
                go_simp
                (go_at_call 35; refine (HAPP.out _ _ hfb (byt120 wr)).mono ?_; rintro r w5 ⟨rfl, h5⟩; have c5 := fr.cell (HWX.out h5) HCW.out; have H5 := Lib.hid h5)
                refine hK.out _ _ ?_ (fun hHeld => ?_)
                · exact c5
                clear hK K
                (try simp only [Act.put, List.setIfInBounds_toArray, List.set_cons_zero, List.set_cons_succ])
                refine wpAnyH_take (i := 46) (oi := ?oiQ108) (v := ?vQ108) ?oiEQ108 ?h1Q108 ?h2Q108 ?h3Q108 ?hpQ108 (Or.inl ⟨?hwQ108, ?hyQ108⟩) ?hsQ108 ?nxtQ108
                case oiEQ108 => (simp only [List.getElem?_toArray, List.getElem?_cons_succ, List.getElem?_cons_zero]; rfl)
                case h1Q108 => kernel_rfl
                case h2Q108 => kernel_rfl
                case h3Q108 => kernel_rfl
                case hsQ108 => assumption
                case hpQ108 => (intro _ _ _ h; exact h)
                case hwQ108 => rfl
                case hyQ108 => (intro w hSw; (try dsimp only at hSw); go_simp; (try with_reducible rfl))
                (try simp only [Act.put, List.setIfInBounds_toArray, List.set_cons_zero, List.set_cons_succ])
                refine wpAnyH_take (i := 47) (oi := ?oiQ109) (v := ?vQ109) ?oiEQ109 ?h1Q109 ?h2Q109 ?h3Q109 ?hpQ109 (Or.inl ⟨?hwQ109, ?hyQ109⟩) ?hsQ109 ?nxtQ109
                case oiEQ109 => (simp only [List.getElem?_toArray, List.getElem?_cons_succ, List.getElem?_cons_zero]; rfl)
                case h1Q109 => kernel_rfl
                case h2Q109 => kernel_rfl
                case h3Q109 => kernel_rfl
                case hsQ109 => assumption
                case hpQ109 => (intro _ _ _ h; exact h)
                case hwQ109 => rfl
                case hyQ109 => (intro w hSw; (try dsimp only at hSw); go_simp; (try with_reducible rfl))
                (try simp only [Act.put, List.setIfInBounds_toArray, List.set_cons_zero, List.set_cons_succ])
                refine wpAnyH_take (i := 48) (oi := ?oiQ110) (v := ?vQ110) ?oiEQ110 ?h1Q110 ?h2Q110 ?h3Q110 ?hpQ110 (Or.inl ⟨?hwQ110, ?hyQ110⟩) ?hsQ110 ?nxtQ110
                case oiEQ110 => (simp only [List.getElem?_toArray, List.getElem?_cons_succ, List.getElem?_cons_zero]; rfl)
                case h1Q110 => kernel_rfl
                case h2Q110 => kernel_rfl
                case h3Q110 => kernel_rfl
                case hsQ110 => assumption
                case hpQ110 => (intro _ _ _ h; exact h)
                case hwQ110 => rfl
                case hyQ110 => (intro w hSw; (try dsimp only at hSw); go_simp; (try with_reducible rfl))
                (try simp only [Act.put, List.setIfInBounds_toArray, List.set_cons_zero, List.set_cons_succ])
                refine wpAnyH_take (i := 49) (oi := ?oiQ111) (v := ?vQ111) ?oiEQ111 ?h1Q111 ?h2Q111 ?h3Q111 ?hpQ111 (Or.inl ⟨?hwQ111, ?hyQ111⟩) ?hsQ111 ?nxtQ111
                case oiEQ111 => (simp only [List.getElem?_toArray, List.getElem?_cons_succ, List.getElem?_cons_zero]; rfl)
                case h1Q111 => kernel_rfl
                case h2Q111 => kernel_rfl
                case h3Q111 => kernel_rfl
                case hsQ111 => assumption
                case hpQ111 => (intro _ _ _ h; exact h)
                case hwQ111 => rfl
                case hyQ111 => (intro w hSw; (try dsimp only at hSw); go_simp; (try with_reducible rfl))
                (try simp only [Act.put, List.setIfInBounds_toArray, List.set_cons_zero, List.set_cons_succ])
                refine wpAnyH_take (i := 50) (oi := ?oiQ112) (v := ?vQ112) ?oiEQ112 ?h1Q112 ?h2Q112 ?h3Q112 ?hpQ112 (Or.inl ⟨?hwQ112, ?hyQ112⟩) ?hsQ112 ?nxtQ112
                case oiEQ112 => (simp only [List.getElem?_toArray, List.getElem?_cons_succ, List.getElem?_cons_zero]; rfl)
                case h1Q112 => kernel_rfl
                case h2Q112 => kernel_rfl
                case h3Q112 => kernel_rfl
                case hsQ112 => assumption
                case hpQ112 => (intro _ _ _ h; exact h)
                case hwQ112 => rfl
                case hyQ112 => (intro w hSw; (try dsimp only at hSw); go_simp; (try with_reducible rfl))
                (try simp only [Act.put, List.setIfInBounds_toArray, List.set_cons_zero, List.set_cons_succ])
                refine wpAnyH_take (i := 51) (oi := ?oiQ113) (v := ?vQ113) ?oiEQ113 ?h1Q113 ?h2Q113 ?h3Q113 ?hpQ113 (Or.inl ⟨?hwQ113, ?hyQ113⟩) ?hsQ113 ?nxtQ113
                case oiEQ113 => (simp only [List.getElem?_toArray, List.getElem?_cons_succ, List.getElem?_cons_zero]; rfl)
                case h1Q113 => kernel_rfl
                case h2Q113 => kernel_rfl
                case h3Q113 => kernel_rfl
                case hsQ113 => assumption
                case hpQ113 => (intro _ _ _ h; exact h)
                case hwQ113 => rfl
                case hyQ113 => (intro w hSw; (try dsimp only at hSw); go_simp; (try with_reducible rfl))
                (try simp only [Act.put, List.setIfInBounds_toArray, List.set_cons_zero, List.set_cons_succ])
                refine wpAnyH_take (i := 52) (oi := ?oiQ114) (v := ?vQ114) ?oiEQ114 ?h1Q114 ?h2Q114 ?h3Q114 ?hpQ114 (Or.inl ⟨?hwQ114, ?hyQ114⟩) ?hsQ114 ?nxtQ114
                case oiEQ114 => (simp only [List.getElem?_toArray, List.getElem?_cons_succ, List.getElem?_cons_zero]; rfl)
                case h1Q114 => kernel_rfl
                case h2Q114 => kernel_rfl
                case h3Q114 => kernel_rfl
                case hsQ114 => assumption
                case hpQ114 => (intro _ _ _ h; exact h)
                case hwQ114 => rfl
                case hyQ114 => (intro w hSw; (try dsimp only at hSw); go_simp; (try with_reducible rfl))
                (try simp only [Act.put, List.setIfInBounds_toArray, List.set_cons_zero, List.set_cons_succ])
                refine wpAnyH_take (i := 55) (oi := ?oiQ115) (v := ?vQ115) ?oiEQ115 ?h1Q115 ?h2Q115 ?h3Q115 ?hpQ115 (Or.inl ⟨?hwQ115, ?hyQ115⟩) ?hsQ115 ?nxtQ115
                case oiEQ115 => (simp only [List.getElem?_toArray, List.getElem?_cons_succ, List.getElem?_cons_zero]; rfl)
                case h1Q115 => kernel_rfl
                case h2Q115 => kernel_rfl
                case h3Q115 => kernel_rfl
                case hsQ115 => assumption
                case hpQ115 => (intro _ _ _ h; exact h)
                case hwQ115 => rfl
                case hyQ115 => (intro w hSw; (try dsimp only at hSw); go_simp; (try with_reducible rfl))
                (try simp only [Act.put, List.setIfInBounds_toArray, List.set_cons_zero, List.set_cons_succ])
                refine wpAnyH_take (i := 56) (oi := ?oiQ116) (v := ?vQ116) ?oiEQ116 ?h1Q116 ?h2Q116 ?h3Q116 ?hpQ116 (Or.inl ⟨?hwQ116, ?hyQ116⟩) ?hsQ116 ?nxtQ116
                case oiEQ116 => (simp only [List.getElem?_toArray, List.getElem?_cons_succ, List.getElem?_cons_zero]; rfl)
                case h1Q116 => kernel_rfl
                case h2Q116 => kernel_rfl
                case h3Q116 => kernel_rfl
                case hsQ116 => assumption
                case hpQ116 => (intro _ _ _ h; exact h)
                case hwQ116 => rfl
                case hyQ116 => (intro w hSw; (try dsimp only at hSw); go_simp; (try with_reducible rfl))
                (try simp only [Act.put, List.setIfInBounds_toArray, List.set_cons_zero, List.set_cons_succ])
                refine wpAnyH_take (i := 57) (oi := ?oiQ117) (v := ?vQ117) ?oiEQ117 ?h1Q117 ?h2Q117 ?h3Q117 ?hpQ117 (Or.inl ⟨?hwQ117, ?hyQ117⟩) ?hsQ117 ?nxtQ117
                case oiEQ117 => (simp only [List.getElem?_toArray, List.getElem?_cons_succ, List.getElem?_cons_zero]; rfl)
                case h1Q117 => kernel_rfl
                case h2Q117 => kernel_rfl
                case h3Q117 => kernel_rfl
                case hsQ117 => assumption
                case hpQ117 => (intro _ _ _ h; exact h)
                case hwQ117 => rfl
                case hyQ117 => (intro w hSw; (try dsimp only at hSw); go_simp; (try with_reducible rfl))
                (try simp only [Act.put, List.setIfInBounds_toArray, List.set_cons_zero, List.set_cons_succ])
                refine wpAnyH_take (i := 58) (oi := ?oiQ118) (v := ?vQ118) ?oiEQ118 ?h1Q118 ?h2Q118 ?h3Q118 ?hpQ118 (Or.inl ⟨?hwQ118, ?hyQ118⟩) ?hsQ118 ?nxtQ118
                case oiEQ118 => (simp only [List.getElem?_toArray, List.getElem?_cons_succ, List.getElem?_cons_zero]; rfl)
                case h1Q118 => kernel_rfl
                case h2Q118 => kernel_rfl
                case h3Q118 => kernel_rfl
                case hsQ118 => assumption
                case hpQ118 => (intro _ _ _ h; exact h)
                case hwQ118 => rfl
                case hyQ118 => (intro w hSw; (try dsimp only at hSw); go_simp; (try with_reducible rfl))
                (try simp only [Act.put, List.setIfInBounds_toArray, List.set_cons_zero, List.set_cons_succ])
                refine wpAnyH_ready (rs := [53]) (by kernel_rfl) (by simp) ?_
                refine AllReadyH.cons (o := ?oiQ119) ?oiEQ119 (fun K hK => ?_) AllReadyH.nil
                case oiEQ119 => (simp only [List.getElem?_toArray, List.getElem?_cons_succ, List.getElem?_cons_zero]; rfl)
                go_simp
                (go_at_call 37; refine (HNUM.out _).mono ?_; rintro r w' ⟨rfl, rfl⟩)
                refine hK.out _ _ ?_ (fun hHeld => ?_)
                · exact c5
                clear hK K
                (try simp only [Act.put, List.setIfInBounds_toArray, List.set_cons_zero, List.set_cons_succ])
                refine wpAnyH_ready (rs := [54]) (by kernel_rfl) (by simp) ?_
                refine AllReadyH.cons (o := ?oiQ120) ?oiEQ120 (fun K hK => ?_) AllReadyH.nil
                case oiEQ120 => (simp only [List.getElem?_toArray, List.getElem?_cons_succ, List.getElem?_cons_zero]; rfl)
                go_simp
                (go_at_call 36; refine (HNAM.out _).mono ?_; rintro r w' ⟨rfl, rfl⟩)
                refine hK.out _ _ ?_ (fun hHeld => ?_)
                · exact c5
                clear hK K
                (try simp only [Act.put, List.setIfInBounds_toArray, List.set_cons_zero, List.set_cons_succ])
                refine wpAnyH_take (i := 59) (oi := ?oiQ121) (v := ?vQ121) ?oiEQ121 ?h1Q121 ?h2Q121 ?h3Q121 ?hpQ121 (Or.inl ⟨?hwQ121, ?hyQ121⟩) ?hsQ121 ?nxtQ121
                case oiEQ121 => (simp only [List.getElem?_toArray, List.getElem?_cons_succ, List.getElem?_cons_zero]; rfl)
                case h1Q121 => kernel_rfl
                case h2Q121 => kernel_rfl
                case h3Q121 => kernel_rfl
                case hsQ121 => assumption
                case hpQ121 => (intro _ _ _ h; exact h)
                case hwQ121 => rfl
                case hyQ121 => (intro w hSw; (try dsimp only at hSw); go_simp; (try with_reducible rfl))
                (try simp only [Act.put, List.setIfInBounds_toArray, List.set_cons_zero, List.set_cons_succ])
                refine wpAnyH_take (i := 60) (oi := ?oiQ122) (v := ?vQ122) ?oiEQ122 ?h1Q122 ?h2Q122 ?h3Q122 ?hpQ122 (Or.inl ⟨?hwQ122, ?hyQ122⟩) ?hsQ122 ?nxtQ122
                case oiEQ122 => (simp only [List.getElem?_toArray, List.getElem?_cons_succ, List.getElem?_cons_zero]; rfl)
                case h1Q122 => kernel_rfl
                case h2Q122 => kernel_rfl
                case h3Q122 => kernel_rfl
                case hsQ122 => assumption
                case hpQ122 => (intro _ _ _ h; exact h)
                case hwQ122 => rfl
                case hyQ122 => (intro w hSw; (try dsimp only at hSw); go_simp; (try with_reducible rfl))
                (try simp only [Act.put, List.setIfInBounds_toArray, List.set_cons_zero, List.set_cons_succ])
                refine wpAnyH_done (by kernel_rfl) ?_ _
                all_goals
                  go_wp2_with (fail)
                  go_meet
                  case rel =>
                    have h6 := H5.out
                    cases tb with
                    | true => exact ⟨false, rfl, .inl ⟨rfl, h6⟩⟩
                    | false => exact ⟨true, rfl, .inr ⟨rfl, h6⟩⟩
      case rest =>
        obtain ⟨q, rfl, hq⟩ := hcut
        rcases hq with ⟨rfl, h1⟩ | ⟨rfl, h1⟩
        · have H1 := Lib.hid h1
          clear h1
          go_wp2_with (fail)
          exact ⟨⟨i + 1, z, st, rfl, by omega, by go_num, H1.out⟩, by simp [intOf]; omega⟩
        · obtain ⟨w8, hw8⟩ : ∃ x, x = wc := ⟨_, rfl⟩
          subst hw8
          have c1 := fr.cell (HWX.out h1) HCW.out
          have HAD := Lib.hid (HADD.out w8 st z h1.row h1.only.size (by have := HS.out.few; omega))
          have H1 := Lib.hid h1
          clear h1
          go_wp2_with (go_at_call 38; refine HAD.out.mono ?_; rintro r w9 ⟨v9, rfl, hv9, ho9, f9⟩)
          exact ⟨⟨i + 1, v9, _, rfl, by omega, by go_num, H1.out.put hv9 ho9 f9⟩, by simp [intOf]; omega⟩
    · obtain rfl : i = nn := by omega
      obtain ⟨wa, hwa⟩ : ∃ x, x = wr := ⟨_, rfl⟩
      subst hwa
      go_wp2_with (fail)
      go_loopw [117] (fun t wx => ∃ j : Nat, j ≤ ni ∧ t = .int .i64 j ∧ SwT w7 wx F p 1002 (i + j) z st st) (fun t _ => ni - (intOf t).toNat)
      case atStart => exact ⟨0, Nat.zero_le _, rfl, HS.out⟩
      case round =>
        obtain ⟨j, hj, rfl, hsj⟩ := hrel
        have HSJ := Lib.hid hsj
        have HFJ := Lib.hid (HWX.out hsj)
        clear hsj
        by_cases hjn : j < ni
        · obtain ⟨d, hd⟩ : ∃ d, ids[j]? = some d := ⟨_, List.getElem?_eq_getElem (by rw [HNI.out]; exact hjn)⟩
          obtain ⟨b, o, rfl, cw⟩ := ints_at HI.out HNI.out hd
          have c0 := fr.cell HFJ.out cw
          obtain ⟨m, hm, hid⟩ := id_of d
          obtain ⟨N, hN⟩ : ∃ N : ByteArray, (⟨(nameT (m + 1)).toArray⟩ : ByteArray) = N := ⟨_, rfl⟩
          have HNAM := Lib.hid fun wx => rrname_any ((m + 1 : Nat) : Int) wx
          rw [nameR_ok (by omega) (by omega), hN] at HNAM
          have hT : isTbl (nameT (m + 1)) = true := isTbl_iff.2 ⟨m + 1, by omega, by omega, rfl⟩
          have HAPP := Lib.hid (sw_append HSJ.out fr.refl (nameT (m + 1)) (nameB_nameT _) (fun h => by rw [own_not_tbl h] at hT; cases hT) (.slice none 0 0) [] (by decide) (fun _ => False) (Byt.nil _ _) (fun _ h => h.elim) (HTW.out.below HFJ.out) (by omega))
          rw [if_pos hT, hN] at HAPP
          clear hd cw hN hT
          go_wp2_with (first
            | (go_at_call 36; refine (HNAM.out _).mono ?_; rintro r w' ⟨rfl, rfl⟩)
            | (go_at_call 35; refine HAPP.out.mono ?_; rintro r w9 ⟨rfl, h9⟩))
          exact ⟨⟨j + 1, by omega, by go_num, h9⟩, by simp [intOf]; omega⟩
        · obtain rfl : j = ni := by omega
          obtain ⟨w8, hw8⟩ : ∃ x, x = wr := ⟨_, rfl⟩
          subst hw8
          obtain ⟨⟨F', D', hswd, hdk, _, hsp, hog⟩, hrow, hfew, hon⟩ := HSJ.out
          have hM7 := (HMR.out.below HF67.out).lt
          have hmr := (HMR.out.below HF67.out).only hon HFM.out
          have htb := Rows.only tbFine (Rows.keep tbFine (Rows.below tbFine HTB.out HF67.out) fun _ _ _ _ hr => hr.monoLt (S' := fun b => (¬ F b ∧ b ≠ M) ∧ b < w7.heap.size) fun b hb hs => ⟨hs, hb⟩) hon fun b hb hF => hb.1.1 hF
          have HFF' : Hid (∀ b, ((¬ F b ∧ b ≠ M) ∧ b < w7.heap.size) → ¬ F' b) := Lib.hid fun b hb hF => (hsp b hF).elim hb.1.1 fun h => by omega
          have HFM' : Hid (¬ F' M) := Lib.hid fun hF => (hsp M hF).elim HFM.out fun h => by omega
          have HSWD := Lib.hid hswd
          have HDK' := Lib.hid hdk
          have HST := Lib.hid hrow
          have HMR8 := Lib.hid hmr
          have HTB8 := Lib.hid htb
          have HLI := Lib.hid hdk.lies
          have HVS := Lib.hid (mver_any _ M p 1 xv v w8 hmr htb)
          have hstl : st.length ≤ 1048576 + 1048576 := by omega
          have h78 := hon.size
          have HSPR := Lib.hid hsp
          clear hswd hdk hsp hog hrow hfew hon hmr htb hM7
          go_upto_region 24 with (go_at_call 29; refine HVS.out.mono ?_; rintro r w9 ⟨x9, rfl, ho9, f9⟩; obtain ⟨A9, c9, rfl⟩ := ho9.form)
          obtain ⟨nv, hnv⟩ : ∃ n, v.tabs.length = n := ⟨_, rfl⟩
          have hnvb : nv ≤ 999999 := by rw [← hnv]; exact HVER.out.few
          have HNV := Lib.hid hnv
          rw [hnv] at ho9 ⊢
          have hx10 := heap_alloc_new w9 (.cells #[.slice A9 nv c9, .int .i64 v.lg, .int .i64 v.sq, .int .i64 v.nx] 50)
          have hf10 : fr w9 (w9.alloc (.cells #[.slice A9 nv c9, .int .i64 v.lg, .int .i64 v.sq, .int .i64 v.nx] 50)) := fr.alloc fr.refl _
          obtain ⟨vb, hvb⟩ : ∃ q, w9.heap.size = q := ⟨_, rfl⟩
          rw [hvb] at hx10 ⊢
          have htv := OwnRows.rows (bytes := 72) tbFine ho9 (by rw [hnv]; omega)
          generalize w9.alloc (.cells #[.slice A9 nv c9, .int .i64 v.lg, .int .i64 v.sq, .int .i64 v.nx] 50) = w10 at hx10 hf10 ⊢
          have HX10 := Lib.hid hx10
          have HF10 := Lib.hid (fr.step f9 hf10)
          have HTV := Lib.hid (Rows.below tbFine htv hf10)
          clear hnv ho9 hx10 hf10 htv f9 hvb
          go_upto_region 25 with (go_at_call 33; refine (cdump (HDK'.out.below HF10.out) (by omega)).mono ?_; rintro r w11 ⟨vd, fs, rfl, hown, hasc, hmem, hlen, f11⟩; have HOWN := Lib.hid hown; obtain ⟨css, hoc, _⟩ := hown; obtain ⟨Ad, cd, rfl⟩ := own_form hoc)
          obtain ⟨n, hn⟩ : ∃ n, fs.length = n := ⟨_, rfl⟩
          have hfl := OwnRows.rows (bytes := 48) flFine HOWN.out (by omega)
          rw [hn] at hfl hlen ⊢
          have HNF := Lib.hid hn
          have HAS := Lib.hid hasc
          have HME := Lib.hid hmem
          have HFS := Lib.hid hfl
          have HF11 := Lib.hid (fr.step HF10.out f11)
          have HX11' := Lib.hid ((Below.block f11 _ (Array.getElem?_eq_some_iff.1 HX10.out).1).trans HX10.out)
          have HTV11 := Lib.hid (Rows.below tbFine HTV.out f11)
          have HST11 := Lib.hid (HST.out.below (fr.step HF10.out f11))
          have h711 : w7.heap.size ≤ w11.heap.size := Nat.le_trans h78 (Below.size (fr.step HF10.out f11))
          clear hoc hasc hmem hfl hn f11 HOWN
          go_wp2_with (fail)
          go_loopw [11, 12, 140] (fun g s t wx => ∃ (k : Nat) (zg zs : Value) (gl sl : List Nm), zg = g ∧ zs = s ∧ k ≤ n ∧ t = .int .i64 k ∧ Sw3 v (fs.map Fl.name) st k sl gl ∧ OwnS wx w11.heap.size g gl ∧ OwnS wx w7.heap.size s sl ∧ fr w11 wx) (fun _ _ t _ => n - (intOf t).toNat)
          case atStart => exact ⟨0, _, _, [], st, rfl, rfl, Nat.zero_le _, rfl, Sw3.start _ _ HSWD.out.asc, OwnS.nil _ _, HST11.out, fr.refl⟩
          case round =>
            obtain ⟨k, zg, zs, gl, sl, rfl, rfl, hkn, rfl, hs3, hog, hos, hfr⟩ := hrel
            have HS3 := Lib.hid hs3
            have HOG := Lib.hid hog
            have HOS := Lib.hid hos
            have HFR := Lib.hid hfr
            have hsll : sl.length ≤ 6400000 := by have := hs3.len; omega
            have hgll : gl.length ≤ 6400000 := by
              have := hs3.gone
              have h2 := List.length_filter_le (goneB v) ((fs.map Fl.name).take k)
              rw [← this, List.length_take] at h2
              omega
            have h11r : w11.heap.size ≤ wr.heap.size := Below.size hfr
            clear hs3 hog hos hfr
            by_cases hk : k < n
            · obtain ⟨f, hf⟩ : ∃ f, fs[k]? = some f := ⟨_, List.getElem?_eq_getElem (by rw [HNF.out]; exact hk)⟩
              obtain ⟨b, o, cs, rfl, hblt, _, ⟨va, rfl, hva, hfn⟩, hc⟩ := Rows.at_ flFine HFS.out hf
              have c11 : w11.cell? ⟨b, o + k * 3, none⟩ = some (.string ⟨f.name.toArray⟩) := hc 0 _ rfl
              have hL : (fs.map Fl.name)[k]? = some f.name := by rw [List.getElem?_map, hf]; rfl
              have hnm : nameB f.name = true := by
                obtain ⟨cc, hcc⟩ := Option.isSome_iff_exists.1 ((HME.out f.name).1 (List.mem_of_getElem? hL))
                exact HDK'.out.name hcc
              have hne : f.name.isEmpty = false := by
                cases hx : f.name with
                | nil => rw [hx] at hnm; cases hnm
                | cons a l => rfl
              obtain ⟨s, hs⟩ : ∃ s, f.name = s := ⟨_, rfl⟩
              rw [hs] at c11 hL hne
              obtain ⟨X, hX⟩ : ∃ X : ByteArray, (⟨s.toArray⟩ : ByteArray) = X := ⟨_, rfl⟩
              have hXs : X.data.toList = s := by rw [← hX]
              have hXl : X.toList = s := by rw [ByteArray.toList_eq, hXs]
              have HNUM := Lib.hid fun wx => rnumber_any X wx
              have HADD := Lib.hid fun (base : Nat) (wx : World) (l : List Nm) (z : Value) (h1 : OwnS wx base z l) (h2 : base ≤ wx.heap.size) (h3 : l.length ≤ 6400000) => add_any base z l s wx h1 h2 (by omega)
              rw [hX] at c11 HADD
              rw [hXs] at HNUM
              obtain ⟨N, hN⟩ : ∃ N : ByteArray, (⟨(nameR (tblNo s)).toArray⟩ : ByteArray) = N := ⟨_, rfl⟩
              have hNX : (N.toList == X.toList) = isTbl s := by
                rw [← hN, hXl, ByteArray.toList_eq]
                unfold isTbl
                rw [hne, Bool.eq_iff_iff]
                simp
              have hTn : isTbl s = true → 1 ≤ tblNo s := fun h => by
                obtain ⟨m, h1, h2, rfl⟩ := isTbl_iff.1 h
                rw [tblNo_nameT (by omega)]
                exact h1
              obtain ⟨T, hT⟩ : ∃ q, tblNo s = q := ⟨_, rfl⟩
              have hTlt : T < 1000000 := by rw [← hT]; exact tblNo_lt s
              have HINV : Hid (inV v s = v.tabs.any fun t => decide (t.id = (T : Int))) := Lib.hid (by rw [← hT]; rfl)
              rw [hT] at HNUM hTn
              have HNAM : Hid (∀ m, Calls Tryz.prog 36 #[.int .i64 T] (wr.drewN m) fun r w' => r = .returned (.string N) ∧ w' = wr.drewN m) := Lib.hid fun m => by
                refine (rrname_any (T : Int) (wr.drewN m)).mono ?_
                rintro r w' ⟨rfl, rfl⟩
                rw [← hT, hN]
                exact ⟨rfl, rfl⟩
              have c0 := fr.cell HFR.out c11
              have HC11 := Lib.hid c11
              have HL := Lib.hid hL
              clear hf hva hfn hc hnm hne hX hXs hXl hN hL c11 hT
              go_upto_region 29 with (go_at_call 37; refine (HNUM.out _).mono ?_; rintro r w' ⟨rfl, rfl⟩)
              have hi0 : (0 : Int) ≤ (k : Int) := by omega
              have hi1 : (k : Int) < (n : Int) := by omega
              cases htb : isTbl s with
              | false =>
                rw [htb] at hNX
                have hNX2 : (N.toList == X.toList) = false := hNX
                have HTF := Lib.hid htb
                clear hNX hTn htb
                go_quiet ((go_at_call 36; exact Calls.quiet_of_same (HNAM.out _)))
                go_wp2_with (fail)
                exact ⟨⟨k + 1, zg, zs, gl, sl, rfl, rfl, by omega, by go_num, HS3.out.skip HL.out HTF.out, HOG.out.below frH_drewN, HOS.out.below frH_drewN, fr.step HFR.out frH_drewN⟩, by simp [intOf]; omega⟩
              | true =>
                rw [htb] at hNX
                have hNX2 : (N.toList == X.toList) = true := hNX
                have hT1 := hTn htb
                have g1 : decide ((T : Int) < 1) = false := decide_eq_false (by omega)
                have HTF := Lib.hid htb
                clear hNX hTn htb
                go_quiet ((go_at_call 36; exact Calls.quiet_of_same (HNAM.out _)))
                obtain ⟨wq, hwq⟩ : ∃ wq, wr.drewN nq = wq := ⟨_, rfl⟩
                rw [hwq]
                have hfq : fr wr wq := by rw [← hwq]; exact frH_drewN
                clear hwq g1 hNX2
                have HFQ := Lib.hid (fr.step HFR.out hfq)
                have HOGQ := Lib.hid (HOG.out.below hfq)
                have HOSQ := Lib.hid (HOS.out.below hfq)
                have hq11 : w11.heap.size ≤ wq.heap.size := Below.size HFQ.out
                have e0 := cell_of_row _ _ 0 _ _ _ ((Below.block HFQ.out _ (Array.getElem?_eq_some_iff.1 HX11'.out).1).trans HX11'.out)
                clear hfq c0
                go_wp2_with (fail)
                go_loopw [20, 164] (fun b t wx => ∃ j2 : Nat, j2 ≤ nv ∧ t = .int .i64 j2 ∧ b = .bool ((v.tabs.take j2).any fun t => decide (t.id = (T : Int))) ∧ fr wq wx) (fun _ t _ => nv - (intOf t).toNat)
                case atStart => exact ⟨0, Nat.zero_le _, rfl, by rw [List.take_zero]; rfl, fr.refl⟩
                case round =>
                  obtain ⟨j2, hj2, rfl, rfl, hf2⟩ := hrel
                  have HF2 := Lib.hid hf2
                  have HFQ2 := Lib.hid (fr.step HFQ.out hf2)
                  have e0 := cell_of_row _ _ 0 _ _ _ ((Below.block HFQ2.out _ (Array.getElem?_eq_some_iff.1 HX11'.out).1).trans HX11'.out)
                  clear hf2
                  by_cases hj2n : j2 < nv
                  · obtain ⟨t, ht2⟩ : ∃ t, v.tabs[j2]? = some t := ⟨_, List.getElem?_eq_getElem (by rw [HNV.out]; exact hj2n)⟩
                    obtain ⟨b2, o2, cs2, rfl, _, _, ⟨va2, vb2, rfl, hva2, hvb2⟩, hc2⟩ := Rows.at_ tbFine (Rows.below tbFine HTV11.out HFQ2.out) ht2
                    have x0 : wr.cell? ⟨b2, o2 + j2 * 5, none⟩ = _ := hc2 0 _ rfl
                    have HSN := Lib.hid (any_snoc ht2 fun t => decide (t.id = (T : Int)))
                    clear hva2 hvb2 hc2 ht2
                    cases hb : (v.tabs.take j2).any fun t => decide (t.id = (T : Int)) with
                    | true =>
                      rw [hb] at HSN
                      clear hb
                      go_wp2_with (fail)
                      exact ⟨⟨j2 + 1, by omega, by go_num, by rw [HSN.out]; rfl, HF2.out⟩, by simp [intOf]; omega⟩
                    | false =>
                      rw [hb] at HSN
                      clear hb
                      by_cases hid : t.id = (T : Int)
                      · rw [decide_eq_true hid] at HSN
                        have hq : (t.id == (T : Int)) = true := by rw [hid]; exact beq_self_eq_true _
                        clear hid
                        go_wp2_with (fail)
                        exact ⟨⟨j2 + 1, by omega, by go_num, by rw [HSN.out]; rfl, HF2.out⟩, by simp [intOf]; omega⟩
                      · rw [decide_eq_false hid] at HSN
                        have hq : (t.id == (T : Int)) = false := by rw [beq_eq_false_iff_ne]; exact hid
                        clear hid
                        go_wp2_with (fail)
                        exact ⟨⟨j2 + 1, by omega, by go_num, by rw [HSN.out]; rfl, HF2.out⟩, by simp [intOf]; omega⟩
                  · obtain rfl : j2 = nv := by omega
                    have hall : v.tabs.take j2 = v.tabs := List.take_of_length_le (by rw [HNV.out]; exact Nat.le_refl _)
                    rw [hall]
                    cases hiv : v.tabs.any fun t => decide (t.id = (T : Int)) with
                    | true =>
                      have HIV : Hid (inV v s = true) := Lib.hid (HINV.out.trans hiv)
                      have c2 := fr.cell HFQ2.out HC11.out
                      have HAD := Lib.hid (HADD.out w7.heap.size wr sl zs (HOSQ.out.below HF2.out) (Nat.le_trans h711 (Below.size HFQ2.out)) hsll)
                      clear hiv hall
                      go_wp2_with (go_at_call 38; refine HAD.out.mono ?_; rintro r w13 ⟨v13, rfl, _, ho13, f13⟩)
                      exact ⟨⟨k + 1, zg, v13, gl, _, rfl, rfl, by omega, by go_num, HS3.out.keep HL.out HTF.out HIV.out, HOGQ.out.below (fr.step HF2.out f13), ho13, fr.step HFQ2.out f13⟩, by simp [intOf]; omega⟩
                    | false =>
                      have HIV : Hid (inV v s = false) := Lib.hid (HINV.out.trans hiv)
                      have c2 := fr.cell HFQ2.out HC11.out
                      have HAD := Lib.hid (HADD.out w11.heap.size wr gl zg (HOGQ.out.below HF2.out) (Below.size HFQ2.out) hgll)
                      clear hiv hall
                      go_wp2_with (go_at_call 38; refine HAD.out.mono ?_; rintro r w13 ⟨v13, rfl, _, ho13, f13⟩)
                      exact ⟨⟨k + 1, v13, zs, _, sl, rfl, rfl, by omega, by go_num, HS3.out.away HAS.out HL.out HTF.out HIV.out, ho13, HOSQ.out.below (fr.step HF2.out f13), fr.step HFQ2.out f13⟩, by simp [intOf]; omega⟩
            · obtain rfl : k = n := by omega
              have hf8 := fr.step HF11.out HFR.out
              have hfw := fr.step HFJ.out hf8
              have HSWP := Lib.hid (msweep_any F' _ M p 1 (1002 + (i + j)) xv v D' wr (HMR8.out.below hf8) (Rows.below tbFine HTB8.out hf8) HFF'.out HFM'.out (HDK'.out.below hf8) (HTW.out.below hfw) (HER.out.below hfw) HVER.out (by omega))
              have HLF : Hid (∀ b, F' b → b < w11.heap.size) := Lib.hid fun b hb => Nat.lt_of_lt_of_le (HLI.out b hb).1 (Below.size HF11.out)
              have HFW2 := Lib.hid hfw
              have HLF2 : Hid (∀ b, F' b → w.heap.size ≤ b) := Lib.hid fun b hb => by
                have h1 := HSPR.out b hb
                rcases h1 with h1 | h1
                · have := HFL6.out b h1; omega
                · have := Below.size HF67.out; have := Below.size HF6.out; omega
              clear hf8 hfw
              go_upto_region 41 with (go_at_call 32; refine HSWP.out.mono ?_; rintro r w12 ⟨v12, L2, rfl, hasc2, hmem2, hown2, hdk2, ho12⟩)
              obtain rfl : L2 = fs.map Fl.name := asc_same hasc2 HAS.out fun x => (hmem2 x).trans (HME.out x).symm
              have hLl : (fs.map Fl.name).length = k := by rw [List.length_map]; exact HNF.out
              have hS3 := HS3.out
              rw [← hLl] at hS3
              have hgl : gl = (fs.map Fl.name).filter (goneB v) := by rw [hS3.gone, List.take_length]
              have hg12 : OwnS w12 w11.heap.size zg gl := own_only HOG.out ho12 fun g hg hF => by have := (World.ownsRow.lt HOG.out g hg).1; have := HLF.out g hF; omega
              rw [← hgl] at hown2
              have HSAME := Lib.hid (sametexts_any _ _ v12 zg gl w12 hown2.strs hg12.strs (by omega))
              have hf12 : fr w w12 := HFW2.out.trans (ho12.below (Below.size HFW2.out) HLF2.out)
              have HCD := Lib.hid fun wx (hx : fr w12 wx) => cdump (hdk2.below hx) (by omega)
              have HLEN := Lib.hid fun (fs2 : List Fl) (a2 : AscS (fs2.map Fl.name)) (m2 : ∀ x, x ∈ fs2.map Fl.name ↔ (sweepD v (fs.map Fl.name) D' (fs.map Fl.name).length x).isSome = true) => sweep_len HSWD.out (fun x => HME.out x) hS3 HAS0.out HME0.out a2 m2
              have HF12 := Lib.hid hf12
              obtain ⟨As, cs2, rfl⟩ := HOS.out.form
              obtain ⟨m2, hm2⟩ : ∃ q, sl.length = q := ⟨_, rfl⟩
              rw [hm2] at hsll ⊢
              have HM2 := Lib.hid hm2
              clear hasc2 hmem2 hown2 hdk2 ho12 hLl hS3 hgl hg12 hf12 hm2
              go_wp2_with (first
                | (go_at_call 39; refine HSAME.out.mono ?_; rintro r w13 ⟨rfl, f13⟩)
                | (go_at_call 33; refine (HCD.out w13 f13).mono ?_; rintro r w14 ⟨vd2, fs2, rfl, hown3, hasc3, hmem3, hlen3, f14⟩; have hl3 := HLEN.out fs2 hasc3 hmem3; obtain ⟨css3, ho3, _⟩ := hown3; obtain ⟨A3, c3, rfl⟩ := own_form ho3; have hq3 : fs2.length = q0 + m2 := (by rw [List.length_map, List.length_map, HQ0.out, HM2.out] at hl3; exact hl3); have hq4 : ((fs2.length : Int) == (q0 : Int) + (m2 : Int)) = true := (by rw [hq3]; simp)))
              refine bodyPost_ret (v := .bool true) (by simp [results, Tryz.results9, go_sem]) rfl ?_
              exact ⟨rfl, fr.step (fr.step HF12.out f13) f14⟩
end Go.Proofs.YtjnolpfmchnnmaaGreatDoor
end
