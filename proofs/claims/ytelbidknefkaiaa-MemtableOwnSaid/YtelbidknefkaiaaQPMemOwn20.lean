/-
The walk of the law MemtableOwn.
-/
import Derived.Test.YtelbidknefkaiaaQPMemOwn19
import Derived.Test.YtelbidknefkaiaaQPMemOwn13
import Derived.StillTailTactics
import Derived.Deep.Cut
import Derived.Deep.CutRange
import Derived.Deep.DeepCutAuto
section
namespace Go.Proofs.Ytelbidknefkaiaa
open Go.RowKit Go.BigFrame
attribute [local go_sem ↓] Go.wp_at_zero Go.wp_at_succ
theorem bytes_i : Try.prog.bytesOf 3 = 8 := by kernel_rfl
section
variable {H : Type} {enc : TypeId × Value → H} {w : World} {base : Nat} {held : Bool} {spare : Nat → Bool}
open Go.ChangeShapes Go.WideShapes Go.Deep
theorem arg_ints {r : Reach} {b0 : Nat} {v : Value} {d : DataW H} {ps : List MemPlace} (hval : Value.okWide Try.prog w r b0 37 v) (hd : DataW.Trod enc Try.prog w base spare held 37 v d ps) (hw : ∀ n ∈ d.weights Try.prog 37, n ≤ reachBytes) :
    ∃ zs, IntsIn w (fun _ => True) v zs ∧ zs.length * 8 ≤ 140737488355328 := by
  obtain ⟨fuel, h⟩ := arg_slice Try.underlying37 hval hd
  rcases open_ints Try.underlying37 Try.underlying3 cells_i h with ⟨hv, _⟩ | ⟨a, len, cap, zs, hv, _, hl, hm, hz, hx, hc, hwf⟩
  · obtain rfl : v = .slice none 0 0 := by simpa using hv
    exact ⟨[], IntsIn.nil _ _, by simp⟩
  · obtain rfl : v = .slice (some a) len cap := by simpa using hv
    have hlen : len ≤ zs.length := by rw [hz]; split <;> omega
    simp only [Prod.mk.injEq] at hx
    obtain ⟨hx, _⟩ := hx
    subst hx
    have hr := hw _ (by simp only [DataW.weights, Try.underlying37]; exact List.mem_cons_self)
    rw [bytes_i] at hr
    simp only [lits, List.length_map, List.length_take, List.length_drop, reachBytes] at hr
    have e1 : (zs.take len).length = len := by simp; omega
    unfold maxLen at hm
    refine ⟨zs.take len, ⟨some a, cap, by rw [e1], by omega, by omega, ?_⟩, by omega⟩
    rw [e1]
    refine ⟨by simp; omega, fun h0 => ?_⟩
    have hs := hc 0 (by omega)
    have hsp : a = ⟨a.block, a.off, none⟩ := cell_spot (a := a) (by simpa [Addr.add] using hs)
    refine ⟨a.block, a.off, by rw [← hsp], trivial, ?_, fun j u hu => ?_⟩
    · have := World.block_lt_of_cell? w _ hs
      simpa [Addr.add] using this
    · rw [List.getElem?_map, List.getElem?_take] at hu
      split at hu
      · rename_i hj
        have hcj := hc j (by omega)
        rw [hsp, Addr.add_lit] at hcj
        rw [hcj]
        obtain ⟨z, hzj⟩ : ∃ z, zs[j]? = some z := ⟨_, List.getElem?_eq_getElem (by omega)⟩
        rw [hzj] at hu
        simp only [Option.map_some, Option.some.injEq] at hu
        rw [← hu, List.getD_eq_getElem?_getD, hzj]
        rfl
      · simp at hu
end
set_option maxRecDepth 100000 in
set_option maxHeartbeats 8000000 in
theorem memOwnLaw (v : Value) (es : List Ent) (vh : Value) (zs : List Int) (w : World) (hv : Ents w (fun _ => True) v es) (hz : IntsIn w (fun _ => True) vh zs ∧ zs.length * 8 ≤ 140737488355328) :
    Calls Try.prog 4 #[v, vh] w fun r w' => r = .returned (.bool true) ∧ Below w.heap.size w w' := by
  obtain ⟨i0, hi, hz0, hz1', hz2⟩ := info_parts info26
  have hby := Lib.hid hz2
  have hz1 := Lib.hid hz1'
  clear hz2 hz1'
  have HV := Lib.hid hv.lt
  have HZ := Lib.hid hz.1
  have HZ8 := Lib.hid hz.2
  have hlen : es.length * 64 ≤ 140737488355328 := by obtain ⟨_, _, _, _, _, _, h, _⟩ := hv; exact h
  obtain ⟨A, c, rfl⟩ := ents_form hv
  obtain ⟨Ah, ch, hvh, _⟩ := hz.1
  subst hvh
  obtain ⟨n, hn⟩ : ∃ n, es.length = n := ⟨_, rfl⟩
  have HN := Lib.hid hn
  rw [hn] at hlen HV ⊢
  have HLN := Lib.hid hlen
  clear hn hlen hv hz
  go_enter Try.func4, Try.ntmps4
  go_wp2_with fail
  refine (wakesM_any _).mono ?_
  rintro r w1 ⟨rfl, hb1⟩
  have HB1 := Lib.hid hb1
  clear hb1
  go_wp2_with (at_builtin; refine wpList_append_ints rfl _ _ rfl w1.heap.size _ _ rfl rfl (fun _ => True) zs (lit0i w1) ((HZ.out.below HB1.out).below ((Below.refl _ _).alloc (Nat.le_refl _) _)) HZ8.out (by simp) ?_; intro v5 w2 hown hgrow; obtain ⟨A5, c5, rfl⟩ := own_form hown)
  refine (new_any (fun _ => True) _ zs w2 (IntsIn.of_own hown (fun _ _ _ => trivial) (by have := HZ8.out; omega)) HZ8.out).mono ?_
  rintro r w3 ⟨T, hs, rfl, hs3, hT3, hh3, hb3⟩
  obtain ⟨nz, hnz⟩ : ∃ n, zs.length = n := ⟨_, rfl⟩
  rw [hnz] at hown ⊢
  have hb12 : Below w.heap.size w w2 := ((HB1.out.alloc HB1.out.size _).grown hgrow (by have := HB1.out.size; simp; omega) (fun j e => by cases e; exact HB1.out.size))
  obtain ⟨p0, hp0⟩ : ∃ p, w1.heap.size = p := ⟨_, rfl⟩
  obtain ⟨p1, hp1⟩ : ∃ p, w2.heap.size = p := ⟨_, rfl⟩
  have HP0 : Hid (w.heap.size ≤ p0) := Lib.hid (by have := HB1.out.size; omega)
  have HP1 : Hid (p0 ≤ p1) := Lib.hid (by have := hgrow.size; simp at this; omega)
  rw [hp0] at hown
  have hsh : 0 < nz → ∃ g z, A5 = some ⟨g, 0, none⟩ ∧ p0 ≤ g ∧ g < p1 ∧ Shape w3 g 3 z ∧ nz ≤ z := fun h => by
    obtain ⟨g, z, h1, h2, h3, h4⟩ := own_shape hown h
    exact ⟨g, z, h1, h2, by have := h3.lt; omega, h3.below hb3, h4⟩
  rw [hp1] at hs3 hT3 hh3
  have HS3 := Lib.hid hs3
  have HT3 := Lib.hid hT3
  have HH3 := Lib.hid hh3
  have HB3 := Lib.hid (hb12.trans (hb3.mono hb12.size))
  have HZ3 : Hid (p1 ≤ w3.heap.size) := Lib.hid (by have := hb3.size; omega)
  have HSH := Lib.hid hsh
  have hnz8 : nz ≤ 9223372036854775807 := by have := HZ8.out; omega
  clear hnz hgrow hown hb3 hb12 hp0 hp1 hs3 hT3 hh3 hsh
  go_wp2
  go_loopw [26] (fun t wr => ∃ k : Nat, k ≤ nz ∧ t = .int .i64 k ∧ Only (fun i => p0 ≤ i ∧ i < p1) w3 wr ∧ (0 < nz → ∃ g z, A5 = some ⟨g, 0, none⟩ ∧ p0 ≤ g ∧ g < p1 ∧ Shape wr g 3 z ∧ nz ≤ z)) (fun t _ => nz - (intOf t).toNat)
  case atStart => exact ⟨0, Nat.zero_le _, rfl, Only.refl _ _, HSH.out⟩
  case round =>
    obtain ⟨k, hk, rfl, ho, hsh⟩ := hrel
    have HO := Lib.hid ho
    have HSR := Lib.hid hsh
    clear ho hsh
    by_cases hkn : k < nz
    · as_aux_lemma =>
      obtain ⟨g, z, rfl, hg0, hg1, hshg, hz⟩ := HSR.out (by omega)
      obtain ⟨x, hx⟩ := hshg.cell (i := k) (by omega)
      have hfz := hshg.frozen k
      have HG := Lib.hid hshg
      have HG0 : Hid (p0 ≤ g ∧ g < p1) := Lib.hid ⟨hg0, hg1⟩
      clear hshg
      go_wp2
      refine ⟨⟨k + 1, by omega, by go_num, HO.out.setCell (p := ⟨g, k, none⟩) HG0.out _, fun _ => ⟨g, z, rfl, HG0.out.1, HG0.out.2, HG.out.setCell _ _ _, hz⟩⟩, by simp [intOf]; omega⟩
    · as_aux_lemma =>
      obtain rfl : k = nz := by omega
      obtain ⟨wA, hwA⟩ : ∃ w', w' = wr := ⟨_, rfl⟩
      subst hwA
      have hp0 := HP0.out
      have hp1 := HP1.out
      have hTw := HS3.out.ltT
      have hoA := HO.out
      have hbA : Below w.heap.size w wA := HB3.out.trans (hoA.below HB3.out.size (fun i hi => by have := hi.1; omega))
      have HSA := Lib.hid (HS3.out.only hoA (fun i hi => ⟨hi.2, by have := HT3.out; have := hi.2; omega⟩))
      have HHA := Lib.hid (HH3.out.of_eq fun b cs hb hc => hoA.block b (Array.getElem?_eq_some_iff.1 hc).1 (fun h => by have := h.2; omega))
      have HVA := Lib.hid (HV.out.below hbA).lt
      have HBA := Lib.hid hbA
      have HTA : Hid (T < wA.heap.size ∧ p1 ≤ wA.heap.size) := Lib.hid ⟨by have := hoA.size; omega, by have := hoA.size; have := HZ3.out; omega⟩
      clear hoA hbA HO HSR HSH HS3 HH3 HB3 hTw HZ
      go_wp2_with fail
      refine (copyA_any _ _ es wA HVA.out).mono ?_
      rintro r w4 ⟨v8, ys, f, rfl, hr8, ha8, hf0, hfn, hb4⟩
      rw [HN.out] at hr8 hfn
      obtain ⟨A8, c8, rfl⟩ := own_form hr8
      obtain ⟨pA, hpA⟩ : ∃ p, wA.heap.size = p := ⟨_, rfl⟩
      obtain ⟨B, hB⟩ : ∃ p, w4.heap.size = p := ⟨_, rfl⟩
      have hz4 := hb4.size
      have htb : Tb w4 B p1 T hs [] := Tb.start (HSA.out.below hb4) (HHA.out.below hb4)
      have HT : Hid (T < f 0 ∧ p1 ≤ T ∧ p1 ≤ B ∧ w.heap.size ≤ p1 ∧ w.heap.size ≤ f 0 ∧ f n ≤ B) := Lib.hid (by have := HTA.out; have := HT3.out; omega)
      have hbw4 : Below w.heap.size w w4 := HBA.out.trans (hb4.mono HBA.out.size)
      have hinv : OwnInv w pA p1 B T n 0 0 hs (.slice A8 n c8) ys es f (.slice none 0 0) w4 :=
        ⟨⟨[], [], Nat.le_refl _, World.ownsRow_nil _ _ _ _, trivial, htb⟩, hpA ▸ hr8, ha8, hbw4, by omega⟩
      have H8 : Hid (∀ g, (Value.slice A8 n c8).ownBlock = some g → g < B) := Lib.hid fun g hg => by have := (hr8.lt g hg).2; omega
      have HINV := Lib.hid hinv
      clear hr8 ha8 hf0 hfn hb4 hpA hB hz4 htb hbw4 hinv HSA HHA HVA HBA HTA HT3
      go_wp2
      go_loopw [9, 37] (fun v9 t wr => ∃ k : Nat, k ≤ n ∧ t = .int .i64 k ∧ OwnInv w pA p1 B T n k k hs (.slice A8 n c8) ys es f v9 wr) (fun _ t _ => n - (intOf t).toNat)
      case atStart => exact ⟨0, Nat.zero_le _, rfl, HINV.out⟩
      case round =>
        clear HINV
        obtain ⟨k, hk, rfl, hinv⟩ := hrel
        have HI := Lib.hid hinv
        clear hinv
        by_cases hkn : k < n
        · as_aux_lemma =>
          have hln := HLN.out
          have hT := HT.out
          obtain ⟨e, hek⟩ : ∃ e, es[k]? = some e := ⟨_, List.getElem?_eq_getElem (by rw [HN.out]; exact hkn)⟩
          obtain ⟨g8, c8', hE8, heads⟩ := own_heads (T := putS wr B T) HI.out.row hkn (own_notPut HI.out.row)
          injection hE8 with e1 e2 e3
          subst e1 e3
          obtain ⟨k8, u8, y0, y1, y2, y3, q0, q1⟩ := HI.out.apa.cells k e (Nat.le_refl _) hek
          have HEV8 := Lib.hid (show EntV wr _ (.agg #[k8, .int .i64 e.seq, .bool e.dead, u8]) e from ⟨_, _, rfl, q0, q1⟩)
          obtain ⟨Ak, ck, rfl⟩ := slice_form q0
          obtain ⟨Au, cu, rfl⟩ := slice_form q1
          have hd := heads wr (Only.refl _ _)
          have d0 := hd.1 _ y0
          have d1 := hd.2.1 _ y1
          have d2 := hd.2.2.1 _ y2
          have d3 := hd.2.2.2 _ y3
          have HEK := Lib.hid hek
          have Y0 := Lib.hid y0
          have Y3 := Lib.hid y3
          have Y1 := Lib.hid y1
          have Y2 := Lib.hid y2
          obtain ⟨ys9, hl, hlm, hr9, hf9, htb⟩ := HI.out.has
          have HR9 := Lib.hid hr9
          have HF9 := Lib.hid hf9
          have HTB := Lib.hid htb
          have HTT := Lib.hid hT
          clear hr9 hf9 htb q0 q1 hek hd heads e2 y0 y1 y2 y3 hT
          go_upto_if 46 with (go_at_call 12; refine (put_step _ B p1 T hs hl _ e _ HTB.out HEV8.out HI.out.size (by omega)).mono ?_; rintro r wp ⟨cc, rfl, ho, hor⟩; have HOP := Lib.hid ho; have HOR := Lib.hid hor; clear ho hor)
          obtain ⟨g1, g2, g3, g4, g5, g6⟩ := HI.out.put HOP.out (by have := HTT.out; omega) (by have := HTT.out; omega)
          have G1 := Lib.hid g1
          have G2 := Lib.hid g2
          have G3 := Lib.hid g3
          have G4 := Lib.hid g4
          have G5 := Lib.hid g5
          have G6 := Lib.hid g6
          clear g1 g2 g3 g4 g5 g6 d0 d1 d2 d3 HTB HEV8 HOP
          go_cut [9] (fun v9' wc => OwnInv w pA p1 B T n k (k + 1) hs (.slice (some ⟨g8, 0, none⟩) n c8) ys es f v9' wc)
          case first =>
            rcases HOR.out with ⟨rfl, htb⟩ | ⟨hne, htb⟩
            · obtain ⟨b, o, kk, uu, rfl, c0, c1, c2, c3, hev⟩ := ents_at (HV.out.below G5.out) HEK.out
              have HEV := Lib.hid hev
              have HTB := Lib.hid htb
              clear hev htb
              go_wp2_with (first
                | (go_at_call 13; refine (oneL_any _ _ e _ HEV.out).mono ?_; rintro r w1 ⟨v1, rfl, ⟨k', u', rfl, hk', hu'⟩, hb1⟩; obtain ⟨Ak', ck', rfl⟩ := slice_form hk'.byt; obtain ⟨Au', cu', rfl⟩ := slice_form hu'.byt; have HB1 := Lib.hid hb1; have HK1 := Lib.hid hk'; have HU1 := Lib.hid hu'; clear hb1 hk' hu')
                | (at_builtin; refine wpList_append_own_at _ rfl _ _ 22 rfl B 26 i0 _ 4 64 Try.underlying22 hi hz0 hz1.out hby.out rfl (by decide) _ _ _ rfl ((own_below (G1.out _ _ HR9.out) HB1.out).alloc _) ⟨w1.heap.size, 0, none⟩ 1 1 [.slice Ak' e.key.length ck', .int .i64 e.seq, .bool e.dead, .slice Au' e.val.length cu'] rfl rfl (cell_four_new _ _ _ _ _ _) (by simp [Value.oneCell']) (by unfold maxLen; omega) (by omega) (by have := G6.out; have := HB1.out.size; simp; omega) ?_; intro v' w2 hown' hgrow hxx hat; have HOW := Lib.hid hown'; have HGR := Lib.hid hgrow; have HAT := Lib.hid hat; clear hown' hgrow hat hxx))
              go_meet
              case rel =>
                exact OwnInv.pushed (G1.out _ _ HR9.out) (G2.out _ _ HF9.out) G3.out G4.out G5.out G6.out HTB.out HB1.out HK1.out HU1.out HGR.out HAT.out HOW.out H8.out (by have := HTT.out; omega) hlm
            · have hcc : (cc == 0) = false := by simpa using hne
              have HTB := Lib.hid htb
              clear htb
              go_wp2_with fail
              go_meet
              case rel => exact ⟨⟨ys9, hl, by omega, G1.out _ _ HR9.out, G2.out _ _ HF9.out, HTB.out⟩, G3.out, G4.out, G5.out, G6.out⟩
          case rest =>
            have HC := Lib.hid hcut
            clear hcut HOR G1 G2 G3 G4 G5 G6 HR9 HF9 HI hlm
            obtain ⟨g9, c9, hE9, heads⟩ := own_heads (T := fun _ => False) HC.out.row hkn (fun _ _ h => h)
            injection hE9 with e1 e2 e3
            injection e1 with e1
            injection e1 with e1 _
            subst e1 e3
            obtain ⟨k8, u8, z0, _, _, z3, q0, q1⟩ := HC.out.apa.cells k e (Nat.le_refl _) HEK.out
            obtain rfl := Option.some.inj (z0.symm.trans Y0.out)
            obtain rfl := Option.some.inj (z3.symm.trans Y3.out)
            have HEV8 := Lib.hid (show EntV wc _ (.agg #[.slice Ak e.key.length ck, .int .i64 e.seq, .bool e.dead, .slice Au e.val.length cu]) e from ⟨_, _, rfl, q0, q1⟩)
            have hd := heads wc (Only.refl _ _)
            have d0 := hd.1 _ Y0.out
            have d1 := hd.2.1 _ Y1.out
            have d2 := hd.2.2.1 _ Y2.out
            have d3 := hd.2.2.2 _ Y3.out
            obtain ⟨b, o, kk, uu, rfl, c0, c1, c2, c3, hev⟩ := ents_at (HV.out.below HC.out.below) HEK.out
            have HEV := Lib.hid hev
            have HG8 : Hid (g8 < wc.heap.size) := Lib.hid (by have := HC.out.size; have := H8.out g8 rfl; omega)
            have D0 := Lib.hid d0
            have D3 := Lib.hid d3
            clear z0 z3 q0 q1 hd heads hev e2
            go_wp2
            go_still_tail 8, (by kernel_rfl)
            go_wp2_with (go_at_call 15; refine (sameone_any _ (fun i => i < w.heap.size) _ _ e e _ (by exact HEV8.out.drew) (by exact HEV.out.drew)).mono ?_; rintro r w5 ⟨rfl, hb5⟩; rw [decide_eq_true rfl]; have x0 := (World.cell?_of_block (a := ⟨g8, k * 4, none⟩) ((undrew hb5).block g8 HG8.out)).trans D0.out; have HI5 := Lib.hid (HC.out.step (undrew hb5)); clear hb5)
            clear c0 c1 c2 c3 d0 d1 d2 d3 x0 HEV8 HEV HC HG8 D0 D3
            obtain ⟨g9, c9, hE9, heads⟩ := own_heads (T := apart w5 (.slice (some ⟨g8, 0, none⟩) n c8) f k) HI5.out.row hkn (fun g hg ht => ht.2.2.1 hg)
            injection hE9 with e1 e2 e3
            injection e1 with e1
            injection e1 with e1 _
            subst e1 e3
            obtain ⟨k8, u8, z0, _, _, z3, q0, q1⟩ := HI5.out.apa.cells k e (Nat.le_refl _) HEK.out
            obtain rfl := Option.some.inj (z0.symm.trans Y0.out)
            obtain rfl := Option.some.inj (z3.symm.trans Y3.out)
            have HHD := Lib.hid heads
            have hlk := q0.len
            have hlu := q1.len
            have HQ0 := Lib.hid q0
            have HQ1 := Lib.hid q1
            clear z0 z3 q0 q1 heads e2
            go_loopw [71] (fun t wr => ∃ j : Nat, j ≤ e.key.length ∧ t = .int .i64 j ∧ Spoil (apart w5 (.slice (some ⟨g8, 0, none⟩) n c8) f k) w5 wr) (fun t _ => e.key.length - (intOf t).toNat)
            case atStart => exact ⟨0, Nat.zero_le _, rfl, Spoil.refl _ _⟩
            case round =>
              obtain ⟨j, hj, rfl, hsp⟩ := hrel
              have HSP := Lib.hid hsp
              clear hsp
              by_cases hjn : j < e.key.length
              · as_aux_lemma =>
                obtain ⟨b, o, x, rfl, hcell, hfz, hsp'⟩ := turn_at HSP.out HQ0.out (fun i hi => hi.2.2.2) hjn
                have x0 := (HHD.out _ HSP.out.only).1 _ Y0.out
                have HS' := Lib.hid hsp'
                clear hsp'
                go_wp2
                go_region
                all_goals go_wp2_with fail
                all_goals exact ⟨⟨j + 1, by omega, by go_num, HS'.out.trans Spoil.drew⟩, by simp [intOf]; omega⟩
              · as_aux_lemma =>
                obtain rfl : j = e.key.length := by omega
                obtain ⟨w6, hw6⟩ : ∃ w', w' = wr := ⟨_, rfl⟩
                subst hw6
                have x3 := (HHD.out _ HSP.out.only).2.2.2 _ Y3.out
                go_wp2
                clear x3
                go_loopw [97] (fun t wr => ∃ j : Nat, j ≤ e.val.length ∧ t = .int .i64 j ∧ Spoil (apart w5 (.slice (some ⟨g8, 0, none⟩) n c8) f k) w5 wr) (fun t _ => e.val.length - (intOf t).toNat)
                case atStart => exact ⟨0, Nat.zero_le _, rfl, HSP.out⟩
                case round =>
                  clear HSP
                  obtain ⟨j, hj, rfl, hsp⟩ := hrel
                  have HSP := Lib.hid hsp
                  clear hsp
                  by_cases hjn : j < e.val.length
                  · obtain ⟨b, o, x, rfl, hcell, hfz, hsp'⟩ := turn_at HSP.out HQ1.out (fun i hi => hi.2.2.2) hjn
                    have x3 := (HHD.out _ HSP.out.only).2.2.2 _ Y3.out
                    have HS' := Lib.hid hsp'
                    clear hsp'
                    go_wp2
                    go_region
                    all_goals go_wp2_with fail
                    all_goals exact ⟨⟨j + 1, by omega, by go_num, HS'.out.trans Spoil.drew⟩, by simp [intOf]; omega⟩
                  · obtain rfl : j = e.val.length := by omega
                    go_wp2
                    have hT := HTT.out
                    exact ⟨⟨k + 1, by omega, by go_num, HI5.out.turned HSP.out hT.1 hT.2.2.2.2.2 hkn hT.2.2.2.2.1⟩, by simp [intOf]; omega⟩
        · as_aux_lemma =>
          obtain rfl : k = n := by omega
          obtain ⟨wE, hwE⟩ : ∃ w', w' = wr := ⟨_, rfl⟩
          subst hwE
          have hln := HLN.out
          obtain ⟨ys9, hl, hlm, hr9, hf9, htb⟩ := HI.out.has
          obtain ⟨out, hol, hos, hall⟩ := all_tb B p1 T hs hl wE htb (by omega)
          obtain ⟨A9, c9, rfl⟩ := own_form hr9
          have HE9 := Lib.hid (show Ents wE (fun i => i < wE.heap.size) (.slice A9 hl.length c9) hl from Ents.of_own hr9 (EntCells.mono (S := freshL wE B _) hf9 fun i hi => hi.2.2.lt) (fun i _ h => h) (by omega))
          have HBE := Lib.hid HI.out.below
          have HALL := Lib.hid hall
          have HOS := Lib.hid hos
          have HOL : Hid (out.length * 64 ≤ 140737488355328) := Lib.hid (by omega)
          clear hr9 hf9 htb hall hos hol HI HT H8 HV HLN
          go_wp2_with fail
          refine (HALL.out _ (Below.refl _ _)).mono ?_
          rintro r wF ⟨v13, rfl, ⟨ysx, hrx, hfx⟩, hbF⟩
          obtain ⟨Ax, cx, rfl⟩ := own_form hrx
          obtain ⟨T2, f2, t2⟩ : ∃ T2 : Nat → Prop, EntCells wF T2 ysx out ∧ ∀ i, T2 i → wE.heap.size ≤ i ∧ (Value.slice Ax out.length cx).ownBlock ≠ some i ∧ Loose wF i := ⟨_, hfx, fun i hi => ⟨hi.1, hi.2.1, hi.2.2⟩⟩
          obtain ⟨nx, hnx⟩ : ∃ m, out.length = m := ⟨_, rfl⟩
          have HNX := Lib.hid hnx
          have hnx8 : nx ≤ 9223372036854775807 := by have := HOL.out; omega
          rw [hnx] at hrx t2 ⊢
          have HRX := Lib.hid hrx
          have HT2 := Lib.hid t2
          have HF2 := Lib.hid f2
          have HBF := Lib.hid hbF
          clear hrx hfx hbF f2 t2 hnx
          go_wp2
          go_loopw [122] (fun t wr => ∃ k : Nat, k ≤ nx ∧ t = .int .i64 k ∧ Spoil T2 wF wr) (fun t _ => nx - (intOf t).toNat)
          case atStart => exact ⟨0, Nat.zero_le _, rfl, Spoil.refl _ _⟩
          case round =>
            obtain ⟨m, hm, rfl, hsp⟩ := hrel
            have HSP := Lib.hid hsp
            clear hsp
            by_cases hmn : m < nx
            · as_aux_lemma =>
              obtain ⟨wo, hwo⟩ : ∃ w', w' = wr := ⟨_, rfl⟩
              subst hwo
              obtain ⟨e, hem⟩ : ∃ e, out[m]? = some e := ⟨_, List.getElem?_eq_getElem (by rw [HNX.out]; exact hmn)⟩
              obtain ⟨gx, cx', hEx, heads⟩ := own_heads (T := T2) HRX.out hmn (fun g hg ht => (HT2.out g ht).2.1 hg)
              injection hEx with e1 e2 e3
              subst e1 e3
              obtain ⟨k8, u8, y0, _, _, y3, q0, q1⟩ := HF2.out.at_ hem
              obtain ⟨Ak, ck, rfl⟩ := slice_form q0
              obtain ⟨Au, cu, rfl⟩ := slice_form q1
              have HHD := Lib.hid heads
              have HQ0 := Lib.hid q0
              have HQ1 := Lib.hid q1
              have Y0 := Lib.hid y0
              have Y3 := Lib.hid y3
              have hlk := q0.len
              have hlu := q1.len
              have x0 := (HHD.out _ HSP.out.only).1 _ Y0.out
              clear q0 q1 y0 y3 heads hem e2
              go_wp2
              clear x0
              go_loopw [131] (fun t wr => ∃ j : Nat, j ≤ e.key.length ∧ t = .int .i64 j ∧ Spoil T2 wF wr) (fun t _ => e.key.length - (intOf t).toNat)
              case atStart => exact ⟨0, Nat.zero_le _, rfl, HSP.out⟩
              case round =>
                clear HSP
                obtain ⟨j, hj, rfl, hsp⟩ := hrel
                have HSP := Lib.hid hsp
                clear hsp
                by_cases hjn : j < e.key.length
                · as_aux_lemma =>
                  obtain ⟨b, o, x, rfl, hcell, hfz, hsp'⟩ := turn_at HSP.out HQ0.out (fun i hi => (HT2.out i hi).2.2) hjn
                  have x0 := (HHD.out _ HSP.out.only).1 _ Y0.out
                  have HS' := Lib.hid hsp'
                  clear hsp'
                  go_wp2
                  go_region
                  all_goals go_wp2_with fail
                  all_goals exact ⟨⟨j + 1, by omega, by go_num, HS'.out.trans Spoil.drew⟩, by simp [intOf]; omega⟩
                · as_aux_lemma =>
                  obtain rfl : j = e.key.length := by omega
                  obtain ⟨w6, hw6⟩ : ∃ w', w' = wr := ⟨_, rfl⟩
                  subst hw6
                  have x3 := (HHD.out _ HSP.out.only).2.2.2 _ Y3.out
                  go_wp2
                  clear x3
                  go_loopw [157] (fun t wr => ∃ j : Nat, j ≤ e.val.length ∧ t = .int .i64 j ∧ Spoil T2 wF wr) (fun t _ => e.val.length - (intOf t).toNat)
                  case atStart => exact ⟨0, Nat.zero_le _, rfl, HSP.out⟩
                  case round =>
                    clear HSP
                    obtain ⟨j, hj, rfl, hsp⟩ := hrel
                    have HSP := Lib.hid hsp
                    clear hsp
                    by_cases hjn : j < e.val.length
                    · obtain ⟨b, o, x, rfl, hcell, hfz, hsp'⟩ := turn_at HSP.out HQ1.out (fun i hi => (HT2.out i hi).2.2) hjn
                      have x3 := (HHD.out _ HSP.out.only).2.2.2 _ Y3.out
                      have HS' := Lib.hid hsp'
                      clear hsp'
                      go_wp2
                      go_region
                      all_goals go_wp2_with fail
                      all_goals exact ⟨⟨j + 1, by omega, by go_num, HS'.out.trans Spoil.drew⟩, by simp [intOf]; omega⟩
                    · obtain rfl : j = e.val.length := by omega
                      go_wp2
                      exact ⟨⟨m + 1, by omega, by go_num, HSP.out⟩, by simp [intOf]; omega⟩
            · as_aux_lemma =>
              obtain rfl : m = nx := by omega
              have HBG := Lib.hid (HBF.out.trans (HSP.out.only.below HBF.out.size (fun i hi => (HT2.out i hi).1)))
              clear HSP HT2 HF2 HRX HBF
              go_wp2_with (first
                | (go_at_call 17; refine (HALL.out _ HBG.out).mono ?_; rintro r wH ⟨v17, rfl, ho, hbH⟩; have HOH := Lib.hid (ho.ents HOL.out); have HBH := Lib.hid (HBG.out.trans (hbH.mono HBG.out.size)); clear ho hbH)
                | (go_at_call 21; refine (sorted_any hl.length _ _ hl _ rfl (HE9.out.below HBH.out)).mono ?_; rintro r wI ⟨v18, rs, rfl, hrs, hpm, hpw, hbI⟩; have HRS := Lib.hid hrs; have HEQ := Lib.hid (HOS.out rs hpm hpw); have HBI := Lib.hid (HBH.out.trans (hbI.mono HBH.out.size)); have HOI := Lib.hid (HOH.out.below hbI); clear hrs hpm hpw hbI)
                | (go_at_call 20; refine (sameE_any _ _ _ _ out rs _ HOI.out HRS.out).mono ?_; rintro r wJ ⟨rfl, hbJ⟩; rw [decide_eq_true HEQ.out]; have HBJ := Lib.hid (HBI.out.trans (hbJ.mono HBI.out.size)); clear hbJ))
              refine bodyPost_ret (v := .bool true) (by simp [results, Try.results4, go_sem]) rfl ?_
              exact ⟨rfl, HBE.out.trans (HBJ.out.mono HBE.out.size)⟩
end Go.Proofs.Ytelbidknefkaiaa
end
