/-
law 12's spoil: bytes in blocks of a set are turned, and nothing else.
-/
import Derived.Test.YtelbidknefkaiaaLoose
namespace Go.Proofs.Ytelbidknefkaiaa
open Go.RowKit Go.BigFrame
attribute [local go_sem ↓] Go.wp_at_zero Go.wp_at_succ

/-- blocks of T alone have turned, and bytes there are still xs many bytes. -/
structure Spoil (T : Nat → Prop) (w w' : World) : Prop where
  only : Only T w w'
  byt : ∀ v bs, Byt w T v bs → ∃ bs' : List UInt8, bs'.length = bs.length ∧ Byt w' T v bs'
  loose : ∀ i, Loose w i → Loose w' i
theorem Spoil.refl (T : Nat → Prop) (w : World) : Spoil T w w := ⟨Only.refl _ _, fun _ bs h => ⟨bs, rfl, h⟩, fun _ h => h⟩
theorem Spoil.trans {T : Nat → Prop} {a b c : World} (h : Spoil T a b) (k : Spoil T b c) : Spoil T a c :=
  ⟨h.only.trans k.only, fun v bs hb => by
    obtain ⟨b1, l1, h1⟩ := h.byt v bs hb
    obtain ⟨b2, l2, h2⟩ := k.byt v b1 h1
    exact ⟨b2, by omega, h2⟩, fun i hi => k.loose i (h.loose i hi)⟩
theorem Spoil.drew {T : Nat → Prop} {w : World} : Spoil T w w.drew := ⟨(Only.refl _ _).drew, fun _ bs h => ⟨bs, rfl, h⟩, fun _ h => h⟩
theorem Spoil.store {T : Nat → Prop} {w : World} {b p : Nat} (hT : T b) (hL : Loose w b) (c : UInt8) : Spoil T w (w.setCell ⟨b, p, none⟩ (bcell c)) := by
  obtain ⟨cs, t, hh⟩ := hL
  have hs := heap_setCell_same w b p cs t (bcell c) hh
  refine ⟨(only_set w b p (bcell c)).mono fun i hi => hi ▸ hT, fun v bs h => ?_, fun i hi => ?_⟩
  · obtain ⟨A, ca, rfl, h1, h2, h3, hr⟩ := h
    rcases Nat.eq_zero_or_pos bs.length with h0 | h0
    · have : bs = [] := List.eq_nil_of_length_eq_zero h0
      subst this
      exact ⟨[], rfl, A, ca, rfl, h1, h2, h3, Row.nil _ _ _ _⟩
    · obtain ⟨b', o, rfl, hS, hlt, hc⟩ := hr.2 h0
      by_cases hbb : b' = b
      · subst hbb
        refine ⟨if o ≤ p then bs.set (p - o) c else bs, by split <;> simp, some ⟨b', o, none⟩, ca, by split <;> simp, by split <;> simpa using h1, h2, by split <;> simpa using h3, by split <;> simp, fun _ => ⟨b', o, rfl, hS, by simpa [World.setCell] using hlt, fun j u hu => ?_⟩⟩
        rw [cell_of_row _ _ _ _ _ _ hs]
        have key : ∀ j u, (bs.map bcell)[j]? = some u → cs[o + j]? = some u := fun j u hu => by
          have := hc j u hu
          rwa [cell_of_row _ _ _ _ _ _ hh] at this
        by_cases hop : o ≤ p
        · rw [if_pos hop, List.map_set, List.getElem?_set] at hu
          by_cases hj : p - o = j
          · rw [if_pos hj] at hu
            split at hu
            · rename_i hjl
              simp only [Option.some.injEq] at hu
              have hjl' : j < bs.length := by simpa [hj] using hjl
              obtain ⟨u0, hu0⟩ : ∃ u, (bs.map bcell)[j]? = some u := ⟨_, List.getElem?_eq_getElem (by simpa using hjl')⟩
              have h5 := (Array.getElem?_eq_some_iff.1 (key j u0 hu0)).1
              rw [show o + j = p by omega] at h5 ⊢
              rw [Array.getElem?_setIfInBounds_self, if_pos h5, hu]
            · cases hu
          · rw [if_neg hj] at hu
            rw [Array.getElem?_setIfInBounds_ne (by omega)]
            exact key j u hu
        · rw [if_neg hop] at hu
          rw [Array.getElem?_setIfInBounds_ne (by omega)]
          exact key j u hu
      · refine ⟨bs, rfl, some ⟨b', o, none⟩, ca, rfl, h1, h2, h3, hr.1, fun _ => ⟨b', o, rfl, hS, by simpa [World.setCell] using hlt, fun j u hu => ?_⟩⟩
        rw [World.cell?_of_block (w' := w.setCell ⟨b, p, none⟩ (bcell c)) (w := w) (a := ⟨b', o + j, none⟩) (heap_setCell_other w ⟨b, p, none⟩ b' _ hbb)]
        exact hc j u hu
  · by_cases hib : i = b
    · subst hib; exact ⟨_, _, hs⟩
    · exact hi.of_eq (heap_setCell_other w ⟨b, p, none⟩ i _ hib)
theorem u8_next (c : UInt8) : Value.int .u8 (((c.toNat : Int) + 1) % 256) = bcell (c + 1) := by
  unfold bcell
  have : ((c.toNat : Int) + 1) % 256 = ((c + 1).toNat : Int) := by simp [UInt8.toNat_add]
  rw [this]
theorem Loose.frozen {w : World} {b p : Nat} (h : Loose w b) : w.frozen? ⟨b, p, none⟩ = false := by
  obtain ⟨cs, t, h⟩ := h
  exact frozen_of_row w b p cs t h

set_option maxHeartbeats 2000000 in
theorem spoil_any (T : Nat → Prop) (va vb : Value) (xs bs : List UInt8) (w : World) (ha : Byt w T va xs) (hb : Byt w T vb bs) (hL : ∀ i, T i → i < w.heap.size → Loose w i) :
    Calls Try.prog 32 #[va, vb] w fun r w' => r = .returned (.tuple #[]) ∧ Spoil T w w' := by
  have HA := Lib.hid ha
  have HB := Lib.hid hb
  have HL := Lib.hid hL
  obtain ⟨A, ca, rfl⟩ := slice_form ha
  obtain ⟨B, cb, rfl⟩ := slice_form hb
  have hna := ha.len
  have hnb := hb.len
  obtain ⟨n, hn⟩ : ∃ n, xs.length = n := ⟨_, rfl⟩
  obtain ⟨m, hm⟩ : ∃ m, bs.length = m := ⟨_, rfl⟩
  have HN := Lib.hid hn
  have HM := Lib.hid hm
  rw [hn] at HA hna ⊢
  rw [hm] at HB hnb ⊢
  clear ha hb hL hn hm
  go_enter Try.func32, Try.ntmps32
  go_wp2
  go_loopw [8] (fun t wr => ∃ k : Nat, k ≤ n ∧ t = .int .i64 k ∧ Spoil T w wr) (fun t _ => n - (intOf t).toNat)
  case atStart => exact ⟨0, Nat.zero_le _, rfl, Spoil.refl _ _⟩
  case round =>
    obtain ⟨k, hk, rfl, hsp⟩ := hrel
    have HSP := Lib.hid hsp
    clear hsp
    by_cases hkn : k < n
    · obtain ⟨as', hl', h'⟩ := HSP.out.byt _ _ HA.out
      obtain ⟨A', ca', hE, _, _, _, hr⟩ := h'
      injection hE with e1 e2 e3
      subst e1
      obtain ⟨b, o, u, rfl, hTb, hbz, hu, hcell⟩ := hr.at_ (k := k) (by omega)
      obtain ⟨c, hc⟩ : ∃ c, as'[k]? = some c := ⟨_, List.getElem?_eq_getElem (by omega)⟩
      obtain rfl : u = bcell c := by rw [List.getElem?_map, hc] at hu; injection hu with hu; exact hu.symm
      have hbw : b < w.heap.size := by
        obtain ⟨A', ca', hE, _, _, _, hr'⟩ := HA.out
        injection hE with e1 _ _
        subst e1
        obtain ⟨b', o', hbo, _, hlt, _⟩ := hr'.2 (by rw [HN.out]; omega)
        injection hbo with hbo
        injection hbo with e1 e2
        subst e1
        exact hlt
      have hlo := HSP.out.loose b (HL.out b hTb hbw)
      have HLO := Lib.hid hlo
      have hfz := hlo.frozen (p := o + k)
      have HT := Lib.hid hTb
      unfold bcell at hcell
      have HU := Lib.hid (u8_next c)
      clear hr hu hc hTb hlo hl' e2 e3
      go_wp2
      refine ⟨⟨k + 1, by omega, by go_num, HSP.out.trans ?_⟩, by simp [intOf]; omega⟩
      rw [HU.out]
      exact Spoil.store HT.out HLO.out _
    · obtain rfl : k = n := by omega
      go_wp2
      go_loopw [22] (fun t wr => ∃ k : Nat, k ≤ m ∧ t = .int .i64 k ∧ Spoil T w wr) (fun t _ => m - (intOf t).toNat)
      case atStart => exact ⟨0, Nat.zero_le _, rfl, HSP.out⟩
      case round =>
        clear HSP
        obtain ⟨j, hj, rfl, hsp⟩ := hrel
        have HSP := Lib.hid hsp
        clear hsp
        by_cases hjm : j < m
        · obtain ⟨as', hl', h'⟩ := HSP.out.byt _ _ HB.out
          obtain ⟨A', ca', hE, _, _, _, hr⟩ := h'
          injection hE with e1 e2 e3
          subst e1
          obtain ⟨b, o, u, rfl, hTb, hbz, hu, hcell⟩ := hr.at_ (k := j) (by omega)
          obtain ⟨c, hc⟩ : ∃ c, as'[j]? = some c := ⟨_, List.getElem?_eq_getElem (by omega)⟩
          obtain rfl : u = bcell c := by rw [List.getElem?_map, hc] at hu; injection hu with hu; exact hu.symm
          have hbw : b < w.heap.size := by
            obtain ⟨A', ca', hE, _, _, _, hr'⟩ := HB.out
            injection hE with e1 _ _
            subst e1
            obtain ⟨b', o', hbo, _, hlt, _⟩ := hr'.2 (by rw [HM.out]; omega)
            injection hbo with hbo
            injection hbo with e1 e2
            subst e1
            exact hlt
          have hlo := HSP.out.loose b (HL.out b hTb hbw)
          have HLO := Lib.hid hlo
          have hfz := hlo.frozen (p := o + j)
          have HT := Lib.hid hTb
          unfold bcell at hcell
          have HU := Lib.hid (u8_next c)
          clear hr hu hc hTb hlo hl' e2 e3
          go_wp2
          refine ⟨⟨j + 1, by omega, by go_num, HSP.out.trans ?_⟩, by simp [intOf]; omega⟩
          rw [HU.out]
          exact Spoil.store HT.out HLO.out _
        · obtain rfl : j = m := by omega
          go_wp2
          refine bodyPost_end (v := .tuple #[]) (by simp [results, Try.results32, go_sem]) rfl ?_
          exact ⟨rfl, HSP.out⟩
end Go.Proofs.Ytelbidknefkaiaa
