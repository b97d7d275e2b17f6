/-
A table's file, in plain words.
-/
import Derived.Test.YtiffgjodbcploaaGreatQPCrashUpto5
import Derived.Test.YtiffgjodbcploaaGreatQPCrashUpto4
import Derived.Deep.Cut
import Derived.Deep.CutRange
import Derived.Deep.DeepCutAuto
import Derived.Shelf.Abstract
import Derived.Shelf.RegionOpen
import Derived.LoopNIn
import Derived.LoopIn
import Derived.IntWalk
import Derived.Test.YtiffgjodbcploaaGreatQPCrashUpto2
import Derived.Laws.Rows
section
namespace Go.Proofs.YtiffgjodbcploaaGreat
set_option maxRecDepth 100000
open Go.RowKit Go.BigFrame Go.Shelf
attribute [local go_sem ↓] Go.wp_at_zero Go.wp_at_succ
def bytesE (es : List Ent) : Nat := (es.map fun e => e.key.length + e.val.length).sum
theorem bytesE_snoc {es : List Ent} {j : Nat} {e : Ent} (h : es[j]? = some e) : bytesE (es.take (j + 1)) = bytesE (es.take j) + (e.key.length + e.val.length) := by
  unfold bytesE
  rw [take_snoc h, List.map_append, List.sum_append]
  simp
def SmallE (es : List Ent) : Prop := ∀ e ∈ es, e.key.length ≤ 200 ∧ e.val.length ≤ 4096
/-- a part that is handed over. -/
structure PartOk (g o N c size : Nat) (es : List Ent) (pre : List (Value × List Ent)) (x : Value × List Ent) : Prop where
  val : ∃ d, x.1 = .slice (some ⟨g, o + (pre.map Prod.snd).flatten.length * 4, none⟩) x.2.length d ∧ x.2.length ≤ d ∧ d ≤ 9223372036854775807
  pos : 0 < x.2.length
  few : x.2.length ≤ size
  low : bytesE x.2 ≤ 1052872
  all : ∃ rest, (pre.map Prod.snd).flatten ++ x.2 ++ rest = es
set_option maxRecDepth 100000 in
set_option maxHeartbeats 1000000 in
theorem cut_any (v : Value) (A : Option Addr) (N c size : Nat) (w : World) (hv : v = .slice A N c) :
    Calls Tryz.prog 29 #[v, .int .i64 size] w fun r w' => r = .returned (.func (.func 56) #[] #[.pointer (some ⟨w.heap.size, 0, none⟩), .pointer (some ⟨w.heap.size + 1, 0, none⟩)]) ∧ Boxed w' w.heap.size 22 (.slice A N c) ∧ Boxed w' (w.heap.size + 1) 3 (.int .i64 size) ∧ fr w w' ∧ w'.heap.size = w.heap.size + 2 := by
  subst hv
  have p2 := Boxed.new (w.alloc (.cells #[.slice A N c] 22)) 3 (.int .i64 size)
  have p1 := (Boxed.new w 22 (.slice A N c)).alloc (.cells #[.int .i64 size] 3)
  have hf : fr w ((w.alloc (.cells #[.slice A N c] 22)).alloc (.cells #[.int .i64 size] 3)) := fr.alloc (fr.alloc fr.refl _) _
  rw [World.size_alloc] at p2
  have P1 := Lib.hid p1
  have P2 := Lib.hid p2
  have HF := Lib.hid hf
  clear p1 p2 hf
  go_enter Tryz.func29, Tryz.ntmps29
  go_wp2
  go_ret
  exact ⟨rfl, P1.out, P2.out, HF.out, by simp⟩
set_option maxRecDepth 100000 in
set_option maxHeartbeats 4000000 in
theorem cut_tells (nn : Nat) (w : World) (B g o N c size : Nat) (S0 : Nat → Prop) (es : List Ent) (b1 : Boxed w B 22 (.slice (some ⟨g, o, none⟩) N c)) (b2 : Boxed w (B + 1) 3 (.int .i64 size)) (hv : Ents w S0 (.slice (some ⟨g, o, none⟩) N c) es) (hN : es.length = N) (hsz : 1 ≤ size ∧ size ≤ 1024) (hs : SmallE es) (hS0 : ∀ i, S0 i → i < w.heap.size ∧ i ≠ B) :
    Tells Fence.wide nn Tryz.prog 56 #[.pointer (some ⟨B, 0, none⟩), .pointer (some ⟨B + 1, 0, none⟩)] (fun x : Value × List Ent => #[x.1]) (fun pre _ x _ => PartOk g o N c size es pre x)
      (fun xs _ => (xs.map Prod.snd).flatten = es) (fun _ _ => True) (fun i => i = B ∨ i = B + 1 ∨ S0 i) (fun i => i = B) w := by
  intro l J Jx T0 W hW hT0 hJ hJx hJT hY h0
  refine callsIn_wide.2 ?_
  have hcc : N ≤ c ∧ c ≤ 9223372036854775807 ∧ N * 64 ≤ 140737488355328 := by obtain ⟨A, ca, cs, hE, h1, h2, h3, _⟩ := hv; simp only [Value.slice.injEq] at hE; obtain ⟨_, h5, h6⟩ := hE; omega
  have hne : B ≠ B + 1 := by omega
  have HJ := Lib.hid hJ
  have HJT := Lib.hid hJT
  have HY := Lib.hid hY
  have HT0 := Lib.hid hT0
  have HS := Lib.hid hs
  have HS0 := Lib.hid hS0
  have HN := Lib.hid hN
  have HBL := Lib.hid (show B < W.heap.size ∧ B + 1 < W.heap.size ∧ w.heap.size ≤ W.heap.size from ⟨Nat.lt_of_lt_of_le b1.lt hW.size, Nat.lt_of_lt_of_le b2.lt hW.size, hW.size⟩)
  have HB1 := Lib.hid (boxedFr b1 hW)
  have HB2 := Lib.hid (boxedFr b2 hW)
  have HV := Lib.hid (hv.below hW)
  have HJ0 := Lib.hid h0
  obtain ⟨hsz1, hsz2⟩ := hsz
  clear hJ hJx hJT hY hT0 hW h0 b1 b2 hv hs hS0 hN
  go_enter Tryz.func56, Tryz.ntmps56
  go_wp2
  go_loopg [4, 5] N (fun gk x y wr => ∃ (k : Nat) (T : Nat → Prop) (pre : List (Value × List Ent)) (A : Option Addr) (d : Nat), gk + k = N ∧ (pre.map Prod.snd).flatten = es.take k ∧ (k < N → A = some ⟨g, o + k * 4, none⟩ ∧ d = c - k) ∧ J pre T wr ∧ (∀ i, T i → ¬ (i = B ∨ i = B + 1 ∨ S0 i)) ∧ Boxed wr B 22 (.slice A (N - k) d) ∧ Boxed wr (B + 1) 3 (.int .i64 size) ∧ Ents wr S0 (.slice (some ⟨g, o, none⟩) N c) es ∧ W.heap.size ≤ wr.heap.size)
  case atStart => exact ⟨0, T0, [], _, _, rfl, rfl, fun _ => ⟨rfl, rfl⟩, HJ0.out, HT0.out, HB1.out, HB2.out, HV.out, Nat.le_refl _⟩
  case round =>
    clear HJ0 HT0 HB1 HB2 HV
    obtain ⟨k, T, pre, A, d, hgk, hpre, hAd, hj, hT, b1, b2, hv, hz⟩ := hrel
    have c1 := b1.cell
    have c2 := b2.cell
    have z1 := b1.frozen
    have HGK := Lib.hid hgk
    have HPRE := Lib.hid hpre
    have HJK := Lib.hid hj
    have HT := Lib.hid hT
    have HB1 := Lib.hid b1
    have HB2 := Lib.hid b2
    have HV := Lib.hid hv
    have HZ := Lib.hid hz
    obtain ⟨w0, hw0⟩ : ∃ x, x = wr := ⟨_, rfl⟩
    subst hw0
    by_cases hkN : k < N
    · obtain ⟨rfl, rfl⟩ := hAd hkN
      obtain ⟨p, hp⟩ : ∃ p, o + k * 4 = p := ⟨_, rfl⟩
      obtain ⟨r, hr⟩ : ∃ r, N - k = r := ⟨_, rfl⟩
      obtain ⟨d, hd⟩ : ∃ r, c - k = r := ⟨_, rfl⟩
      rw [hp, hr, hd] at c1 HB1
      have HP := Lib.hid hp
      have HR := Lib.hid hr
      have HD := Lib.hid hd
      have hr0 : 0 < r := by omega
      have hrd : r ≤ d ∧ d ≤ 9223372036854775807 ∧ r * 64 ≤ 140737488355328 := by omega
      clear hj hT b1 b2 hz hgk hpre hv hp hr hd hAd
      go_wp2
      go_loopw [4, 5] (fun x y wr => ∃ j s : Nat, j ≤ r ∧ j ≤ size ∧ x = .int .i64 j ∧ y = .int .i64 s ∧ s = bytesE ((es.drop k).take j) ∧ s ≤ 1052872 ∧ (j = 0 → s = 0) ∧ fr w0 wr) (fun x _ _ => r - (intOf x).toNat)
      case atStart => exact ⟨0, 0, Nat.zero_le _, Nat.zero_le _, rfl, rfl, rfl, Nat.zero_le _, fun _ => rfl, fr.refl⟩
      case round =>
        obtain ⟨j, s, hjr, hjs, rfl, rfl, hs, hsl, hs0, hf⟩ := hrel
        have HS1 := Lib.hid hs
        have HF := Lib.hid hf
        have d1 := hf.cell c1
        have d2 := hf.cell c2
        clear hs hf
        by_cases hgo : j < size ∧ j < r ∧ s ≤ 1048576
        · obtain ⟨g1, g2, g3⟩ := hgo
          obtain ⟨e, he⟩ : ∃ e, es[k + j]? = some e := ⟨_, List.getElem?_eq_getElem (by have := HR.out; have := HN.out; omega)⟩
          obtain ⟨A, c', cs, hE, _, _, _, hrow, hec⟩ := HV.out.below HF.out
          simp only [Value.slice.injEq] at hE
          obtain ⟨rfl, h5, rfl⟩ := hE
          obtain ⟨b', o', ke, ue, hb', e0, _, _, e3, q0, q1, _⟩ := hrow.ent hec rfl he
          injection hb' with hb'
          injection hb' with hb4 hb5
          subst hb4 hb5
          obtain ⟨h200, h4096⟩ := HS.out e (List.mem_of_getElem? he)
          obtain ⟨Ak, ck, rfl⟩ := slice_form q0
          obtain ⟨Au, cu, rfl⟩ := slice_form q1
          rw [show o + (k + j) * 4 = p + j * 4 by have := HP.out; omega] at e0 e3
          have he2 : (es.drop k)[j]? = some e := by rw [List.getElem?_drop]; exact he
          have hsn := bytesE_snoc he2
          obtain ⟨nk, hnk⟩ : ∃ q, e.key.length = q := ⟨_, rfl⟩
          obtain ⟨nu, hnu⟩ : ∃ q, e.val.length = q := ⟨_, rfl⟩
          rw [hnk] at e0 h200 hsn
          rw [hnu] at e3 h4096 hsn
          have HSN := Lib.hid hsn
          clear hrow hec q0 q1 he he2 hsn hnk hnu h5
          go_upto_region 3 with (fail)
          go_quiet (fail)
          go_wp2
          refine ⟨⟨j + 1, s + (nk + nu), by omega, by omega, by go_num, by go_num, ?_, by omega, fun h => by omega, fr.step HF.out ⟨rfl, rfl, rfl, Nat.le_refl _, fun _ _ => rfl⟩⟩, by simp [intOf]; omega⟩
          rw [HSN.out, HS1.out]
        · have hj0 : 0 < j := by
            rcases Nat.eq_zero_or_pos j with h | h
            · have := hs0 h
              omega
            · exact h
          have hlen : ((es.drop k).take j).length = j := by
            rw [List.length_take, List.length_drop]
            have := HR.out
            have := HN.out
            omega
          have hpk : (pre.map Prod.snd).flatten.length = k := by
            rw [HPRE.out, List.length_take]
            have := HN.out
            omega
          have hpart : PartOk g o N c size es pre (.slice (some ⟨g, p, none⟩) j d, (es.drop k).take j) := by
            refine ⟨⟨d, ?_, ?_, hrd.2.1⟩, ?_, ?_, ?_, es.drop (k + j), ?_⟩
            · simp only [hlen, hpk, HP.out]
            · simp only [hlen]; omega
            · simp only [hlen]; exact hj0
            · simp only [hlen]; exact hjs
            · rw [← HS1.out]; exact hsl
            · rw [HPRE.out, ← List.drop_drop, List.append_assoc, List.take_append_drop, List.take_append_drop]
          have HPART := Lib.hid hpart
          have HFIN : Hid (∀ (w6 : World) (T' : Nat → Prop) (A' : Option Addr) (d' : Nat), Grew wr.heap.size T T' → Only T wr w6 → J (pre ++ [(.slice (some ⟨g, p, none⟩) j d, (es.drop k).take j)]) T' w6 → (k + j < N → A' = some ⟨g, p + j * 4, none⟩ ∧ d' = d - j) →
              ∃ (k' : Nat) (T : Nat → Prop) (pre : List (Value × List Ent)) (A : Option Addr) (d : Nat), (N - (k + j)) + k' = N ∧ (pre.map Prod.snd).flatten = es.take k' ∧ (k' < N → A = some ⟨g, o + k' * 4, none⟩ ∧ d = c - k') ∧ J pre T (w6.setCell ⟨B, 0, none⟩ (.slice A' (r - j) d')) ∧ (∀ i, T i → ¬ (i = B ∨ i = B + 1 ∨ S0 i)) ∧ Boxed (w6.setCell ⟨B, 0, none⟩ (.slice A' (r - j) d')) B 22 (.slice A (N - k') d) ∧ Boxed (w6.setCell ⟨B, 0, none⟩ (.slice A' (r - j) d')) (B + 1) 3 (.int .i64 size) ∧ Ents (w6.setCell ⟨B, 0, none⟩ (.slice A' (r - j) d')) S0 (.slice (some ⟨g, o, none⟩) N c) es ∧ W.heap.size ≤ (w6.setCell ⟨B, 0, none⟩ (.slice A' (r - j) d')).heap.size) := Lib.hid fun w6 T' A' d' g6 o6 hj6 hA => by
            have hR := HR.out
            have hb6 := o6.size
            have hf := HF.out
            have hz0 := hf.size
            have h1 : Boxed w6 B 22 (.slice (some ⟨g, p, none⟩) r d) := boxedOnly (boxedFr HB1.out hf) o6 fun h => HT.out _ h (.inl rfl)
            have h2 : Boxed w6 (B + 1) 3 (.int .i64 size) := boxedOnly (boxedFr HB2.out hf) o6 fun h => HT.out _ h (.inr (.inl rfl))
            have h3 : Ents w6 S0 (.slice (some ⟨g, o, none⟩) N c) es := (HV.out.below hf).only o6 fun i _ hi h => HT.out _ h (.inr (.inr hi))
            refine ⟨k + j, T', _, A', d', by omega, ?_, fun h => ?_, HJ.out _ _ _ _ hj6 (Idle.of_only (only_set w6 B 0 _)), fun i hi h => ?_, ?_, h2.other (by omega) _, h3.only (only_set w6 B 0 _) fun i _ hi e => (HS0.out i hi).2 e, ?_⟩
            · rw [List.map_append, List.flatten_append, HPRE.out]
              simp only [List.map_cons, List.map_nil, List.flatten_cons, List.flatten_nil, List.append_nil]
              rw [List.take_add]
            · obtain ⟨h5, h6⟩ := hA h
              have := HP.out
              have := HD.out
              refine ⟨by rw [h5]; congr 2; omega, by omega⟩
            · rcases g6 i hi with hi | hi
              · exact HT.out i hi h
              · have h4 := HBL.out
                have h5 := HZ.out
                rcases h with h | h | h
                · omega
                · omega
                · have := (HS0.out i h).1
                  omega
            · have := h1.set (.slice A' (r - j) d')
              rwa [show N - (k + j) = r - j by omega]
            · have := HZ.out
              simp [World.setCell]
              omega
          have hJ5 : Hid (J pre T wr) := Lib.hid (HJ.out _ _ _ _ HJK.out (Idle.of_below HF.out))
          have hB5 : Hid (∀ w6, Only T wr w6 → Boxed w6 B 22 (.slice (some ⟨g, p, none⟩) r d)) := Lib.hid fun w6 o6 => boxedOnly (boxedFr HB1.out HF.out) o6 fun h => HT.out _ h (.inl rfl)
          have hjd : j ≤ d := by omega
          have hms : N - (k + j) < N - k := by omega
          have HMS := Lib.hid hms
          clear hlen hpk hpart hs0 hsl hms
          rcases (by omega : (¬ j < size) ∨ (j < size ∧ ¬ j < r) ∨ (j < size ∧ j < r ∧ ¬ s ≤ 1048576)) with h1 | ⟨h1, h2⟩ | ⟨h1, h2, h3⟩
          all_goals
            clear hgo
            try (have hb3 : decide ((s : Int) ≤ 1048576) = false := by simp; omega)
            try (have hb4 : decide (s ≤ 1048576) = false := by simp; omega)
            go_upto_region 5 with (fail)
            refine (wpIn_wide (n := nn)).1 ?_
            gi_wp2_with (fail)
            obtain ⟨fn, tmps, assign, body, hy, hR⟩ := HY.out pre T _ wr hJ5.out HPART.out
            rw [hy, Oper.uponIn_round]
            refine ⟨fun h => absurd h (by decide), hR.mono ?_⟩
            rintro e w6 ⟨T', gT, oT, (⟨rfl, hj6⟩ | ⟨rfl, hj6⟩)⟩
            · have HG6 := Lib.hid gT
              have HO6 := Lib.hid oT
              have HJ6 := Lib.hid hj6
              have c5 := (hB5.out w6 oT).cell
              have z5 := (hB5.out w6 oT).frozen
              clear hy hR gT oT hj6 c1 c2 z1 d1 d2
              by_cases hdj : d = j
              · subst hdj
                have hrj : r - d = 0 := by omega
                have HRJ := Lib.hid hrj
                clear hrj
                try clear hb3
                try clear hb4
                try clear h3
                try clear h2
                try clear h1
                gi_wp2
                go_wp2
                go_roundg (N - (k + d))
                case rel =>
                  have := HFIN.out w6 T' (some ⟨g, p, none⟩) 0 HG6.out HO6.out HJ6.out (fun h => by have := HR.out; omega)
                  simpa [HRJ.out] using this
                case measure => have := HGK.out; have := HMS.out; omega
              · gi_wp2
                go_wp2
                go_roundg (N - (k + j))
                case rel => exact HFIN.out w6 T' (some ⟨g, p + j * 4, none⟩) (d - j) HG6.out HO6.out HJ6.out (fun h => ⟨rfl, rfl⟩)
                case measure => have := HGK.out; have := HMS.out; omega
            · have HJX6 := Lib.hid hj6
              clear hy hR hj6 gT oT
              gi_wp2
              go_wp2
              refine bodyPost_ret (results_none rfl _ _ _) rfl ?_
              exact ⟨⟨_, rfl⟩, .inr ⟨_, T', trivial, HJX6.out⟩⟩
    · have hNk : N - k = 0 := by omega
      rw [hNk] at c1
      have hkk : es.take k = es := List.take_of_length_le (by have := HN.out; omega)
      rw [hkk] at hpre
      have HPP := Lib.hid hpre
      clear hj hT b1 b2 hz hgk hpre hv hAd hNk hkk HPRE
      go_wp2
      go_end0
      exact ⟨⟨_, rfl⟩, .inl ⟨pre, T, HPP.out, HJK.out⟩⟩
end Go.Proofs.YtiffgjodbcploaaGreat
end
section
namespace Go.Proofs.YtiffgjodbcploaaGreat
set_option maxRecDepth 100000
open Go.RowKit Go.BigFrame
attribute [local go_sem ↓] Go.wp_at_zero Go.wp_at_succ
def leN (k n : Nat) : List UInt8 := (List.range k).map fun i => UInt8.ofNat (n / 2 ^ (8 * i))
def sealF (b : List UInt8) : List UInt8 := leN 8 (b.length + 12) ++ leN 4 (sumN b) ++ b
theorem leN_len (k n : Nat) : (leN k n).length = k := by unfold leN; simp
theorem leN_snoc (k n : Nat) : leN (k + 1) n = leN k n ++ [UInt8.ofNat (n / 2 ^ (8 * k))] := by unfold leN; rw [List.range_succ, List.map_append]; rfl
theorem le_byte (n j : Nat) : Value.int .u8 ((n : Int) / 2 ^ (8 * j) % 256) = bcell (UInt8.ofNat (n / 2 ^ (8 * j))) := by
  have e : (n : Int) / 2 ^ (8 * j) = ((n / 2 ^ (8 * j) : Nat) : Int) := by simp
  rw [e, byte_of]
theorem Byt.lit1 (w : World) (x : UInt8) (o : Obj) (ho : o = .cells #[bcell x] 5 (0, 0)) : Byt (w.alloc o) (fun _ => True) (.slice (some ⟨w.heap.size, 0, none⟩) 1 1) [x] := Byt.lit4 w _ trivial [x] o 1 rfl (by omega) (by rw [ho]; rfl)
set_option maxRecDepth 100000 in
set_option maxHeartbeats 1000000 in
theorem seal_any (S : Nat → Prop) (v : Value) (bs : List UInt8) (w : World) (hv : Byt w S v bs) (hl : bs.length ≤ 1099511627776) :
    Calls Tryz.prog 33 #[v] w fun r w' => ∃ A c, r = .returned (.slice A (bs.length + 12) c) ∧ OwnF w' w.heap.size (.slice A (bs.length + 12) c) (sealF bs) ∧ fr w w' := by
  obtain ⟨i0, hi, hz0, hz1, hz2⟩ := info_parts info5
  have hby := Lib.hid hz2
  have hz1' := Lib.hid hz1
  clear hz2 hz1
  obtain ⟨A, c, rfl⟩ := slice_form hv
  have HS := Lib.hid (sumB_any S _ bs w hv)
  have HV := Lib.hid hv
  obtain ⟨n, hn⟩ : ∃ n, bs.length = n := ⟨_, rfl⟩
  obtain ⟨s, hs⟩ : ∃ s, sumN bs = s := ⟨_, rfl⟩
  have hsl := sumN_lt bs
  rw [hs] at HS hsl
  rw [hn] at hl HV HS ⊢
  have HN := Lib.hid hn
  have HSS := Lib.hid hs
  have hmod : ((n : Int) + 12) % 18446744073709551616 = (n : Int) + 12 := by omega
  obtain ⟨m, hm⟩ : ∃ m : Nat, n + 12 = m := ⟨_, rfl⟩
  have hm2 : (n : Int) + 12 = (m : Int) := by omega
  clear hv hn hs
  go_enter Tryz.func33, Tryz.ntmps33
  go_wp2_with (first
    | (go_at_call 64; refine HS.out.mono ?_; rintro r w1 ⟨rfl, f1⟩)
    | (at_make; refine wpList_make_own _ rfl _ _ 42 rfl w.heap.size 5 i0 (.int .u8 0) 1 Tryz.underlying42 hi hz0 hz1'.out _ _ _ m rfl rfl (by omega) (by rw [hby.out]; omega) (by unfold maxLen; omega) f1.size ?_; intro w2 hown hgrow))
  have hf2 : fr w w2 := RowKit.Below.grown (B := w.heap.size) f1 hgrow f1.size (fun j e => by simp at e)
  have ho2 : OwnF w2 w.heap.size (.slice (some ⟨w1.heap.size, 0, none⟩) 0 m) [] := OwnB.of_own hown (by simp) (fun _ h => h)
  have HF2 := Lib.hid hf2
  have HO2 := Lib.hid ho2
  clear hown hgrow f1 hf2 ho2 HS hi hz0
  go_loopw [5, 16] (fun x t wr => ∃ j : Nat, j ≤ 8 ∧ t = .int .i64 j ∧ OwnF wr w.heap.size x (leN j m) ∧ fr w wr) (fun _ t _ => 8 - (intOf t).toNat)
  case atStart => exact ⟨0, by omega, rfl, HO2.out, HF2.out⟩
  case round =>
    clear HO2 HF2
    obtain ⟨j, hj, rfl, ho, hf⟩ := hrel
    obtain ⟨A3, c3, rfl⟩ := ho.form
    rw [leN_len] at ho ⊢
    have HO := Lib.hid ho
    have HF := Lib.hid hf
    clear ho hf
    by_cases hj8 : j < 8
    · have hlt := Byt.lit1 wr (UInt8.ofNat (m / 2 ^ (8 * j))) _ (by rw [← le_byte])
      have hal : OwnF (wr.alloc (.cells #[.int .u8 ((m : Int) / 2 ^ (8 * j) % 256)] 5)) w.heap.size (.slice A3 j c3) (leN j m) := HO.out.below (fr.alloc fr.refl _)
      go_wp2_with (at_builtin; refine wpList_append_ownB rfl _ _ rfl (fun i => w.heap.size ≤ i) (fun i => w.heap.size ≤ i) (.slice A3 j c3) _ rfl rfl (fun _ => True) (leN j m) [UInt8.ofNat (m / 2 ^ (8 * j))] hal hlt (by rw [leN_len]; simp; omega) (fun _ h => h) (by rw [World.size_alloc]; have := HF.out.size; omega) ?_; intro v4 w4 hown4 hgrow4 hat4)
      exact ⟨⟨j + 1, by omega, by go_num, by rw [leN_snoc]; exact hown4, RowKit.Below.grown (B := w.heap.size) (fr.alloc HF.out _) hgrow4 (by rw [World.size_alloc]; have := HF.out.size; omega) (fun j e => (HO.out.blk e).1)⟩, by simp [intOf]; omega⟩
    · have HO8 : Hid (OwnF wr w.heap.size (.slice A3 j c3) (leN 8 m)) := Lib.hid (by have := HO.out; rwa [show leN j m = leN 8 m by rw [show j = 8 by omega]] at this)
      go_wp2
      go_loopw [5, 28] (fun x t wr => ∃ j : Nat, j ≤ 4 ∧ t = .int .i64 j ∧ OwnF wr w.heap.size x (leN 8 m ++ leN j s) ∧ fr w wr) (fun _ t _ => 4 - (intOf t).toNat)
      case atStart => exact ⟨0, by omega, rfl, by simpa [leN] using HO8.out, HF.out⟩
      case round =>
        clear HO HO8 HF hj8 hj
        obtain ⟨j, hj, rfl, ho, hf⟩ := hrel
        obtain ⟨A4, c4, rfl⟩ := ho.form
        rw [List.length_append, leN_len, leN_len] at ho ⊢
        have HO := Lib.hid ho
        have HF := Lib.hid hf
        clear ho hf
        by_cases hj4 : j < 4
        · have hlt := Byt.lit1 wr (UInt8.ofNat (s / 2 ^ (8 * j))) _ (by rw [← le_byte])
          have hal : OwnF (wr.alloc (.cells #[.int .u8 ((s : Int) / 2 ^ (8 * j) % 256)] 5)) w.heap.size (.slice A4 (8 + j) c4) (leN 8 m ++ leN j s) := HO.out.below (fr.alloc fr.refl _)
          go_wp2_with (at_builtin; refine wpList_append_ownB rfl _ _ rfl (fun i => w.heap.size ≤ i) (fun i => w.heap.size ≤ i) (.slice A4 (8 + j) c4) _ rfl rfl (fun _ => True) (leN 8 m ++ leN j s) [UInt8.ofNat (s / 2 ^ (8 * j))] hal hlt (by rw [List.length_append, leN_len, leN_len]; simp; omega) (fun _ h => h) (by rw [World.size_alloc]; have := HF.out.size; omega) ?_; intro v4 w4 hown4 hgrow4 hat4)
          exact ⟨⟨j + 1, by omega, by go_num, by rw [leN_snoc j s, ← List.append_assoc]; exact hown4, RowKit.Below.grown (B := w.heap.size) (fr.alloc HF.out _) hgrow4 (by rw [World.size_alloc]; have := HF.out.size; omega) (fun j e => (HO.out.blk e).1)⟩, by simp [intOf]; omega⟩
        · have HO4 : Hid (OwnF wr w.heap.size (.slice A4 (8 + j) c4) (leN 8 m ++ leN 4 s)) := Lib.hid (by have := HO.out; rwa [show leN j s = leN 4 s by rw [show j = 4 by omega]] at this)
          have HSE : Hid (sealF bs = leN 8 m ++ leN 4 s ++ bs) := Lib.hid (by unfold sealF; rw [HN.out, HSS.out, hm])
          go_wp2_with (at_builtin; refine wpList_append_ownB rfl _ _ rfl (fun i => w.heap.size ≤ i) (fun i => w.heap.size ≤ i) (.slice A4 (8 + j) c4) _ rfl rfl S (leN 8 m ++ leN 4 s) bs HO4.out (HV.out.below HF.out) (by rw [List.length_append, leN_len, leN_len, HN.out]; omega) (fun _ h => h) HF.out.size ?_; intro v5 w5 hown5 hgrow5 hat5; obtain ⟨A5, c5, rfl⟩ := hown5.form; rw [← HSE.out, show (sealF bs).length = n + 12 by rw [HSE.out, List.length_append, List.length_append, leN_len, leN_len, HN.out]; omega] at hown5; rw [show (leN 8 m ++ leN 4 s ++ bs).length = n + 12 by rw [List.length_append, List.length_append, leN_len, leN_len, HN.out]; omega])
          refine bodyPost_ret (v := .slice A5 (n + 12) c5) (by simp [results, Tryz.results33, go_sem, hm]) rfl ?_
          exact ⟨_, _, rfl, hown5, RowKit.Below.grown (B := w.heap.size) HF.out hgrow5 HF.out.size (fun j e => (HO.out.blk e).1)⟩
end Go.Proofs.YtiffgjodbcploaaGreat
end
section
namespace Go.Proofs.YtiffgjodbcploaaGreat
set_option maxRecDepth 100000
open Go.RowKit Go.BigFrame
attribute [local go_sem ↓] Go.wp_at_zero Go.wp_at_succ
/-- what is written of an entry's head: its key, its number and whether it is dead. -/
def headV (e : Ent) (seq : Nat) : List UInt8 := formN e.key.length ++ e.key ++ formN (2 * seq + if e.dead then 1 else 0)
def headK (i : Nat) (x : UInt8) : List UInt8 := [UInt8.ofNat (i / 256), UInt8.ofNat i, x]
theorem or_dead (x : Nat) (hx : x < 1099511627777) (d : Bool) : bits .or .u64 ((x : Int) * 2) (if d then 1 else 0) = ((2 * x + if d then 1 else 0 : Nat) : Int) := by
  have h := (bits_nat .u64 64 (by decide) wraps64 (x * 2) (if d then 1 else 0) (by omega) (by split <;> decide)).2
  have e : x * 2 ||| (if d then 1 else 0) = 2 * x + if d then 1 else 0 := by
    have := or_hi (v := if d then 1 else 0) (c := x) (i := 1) (by split <;> decide)
    rw [Nat.pow_one] at this
    rw [Nat.or_comm, this]
    omega
  rw [e] at h
  rw [← h]
  cases d <;> simp
theorem OwnF.lit (w : World) (lo n : Nat) (bs : List UInt8) (o : Obj) (ho : o = .cells (bs.map bcell).toArray 5 (0, 0)) (hn : bs.length = n) (hb : n ≤ 140737488355328) (hl : lo ≤ w.heap.size) : OwnF (w.alloc o) lo (.slice (some ⟨w.heap.size, 0, none⟩) n n) bs := by
  subst hn ho
  exact ⟨_, _, rfl, Nat.le_refl _, by omega, hb, .inr ⟨w.heap.size, _, rfl, hl, heap_alloc_new w _, by simp, by simp only; exact List.take_of_length_le (by rw [List.length_map]; exact Nat.le_refl _)⟩⟩
theorem fr.hp' {w w' : World} {i : Nat} {x : Obj} (h : fr w w') (hi : w.heap[i]? = some x) : w'.heap[i]? = some x := (Below.block h i (Array.getElem?_eq_some_iff.1 hi).1).trans hi
set_option maxRecDepth 100000 in
set_option maxHeartbeats 1000000 in
theorem pack_any (S : Nat → Prop) (i seq : Nat) (v : Value) (e : Ent) (w : World) (hv : EntV w S v e) (hi : i < 65536) (hq : e.seq = (seq : Int)) (hqb : seq ≤ 1099511627776) (hk : e.key.length ≤ 200) :
    Calls Tryz.prog 30 #[.int .i64 i, v] w fun r w' => ∃ A c B d, r = .returned (.agg #[.slice A 3 c, .slice B (headV e seq).length d]) ∧ OwnF w' w.heap.size (.slice A 3 c) (headK i 0) ∧ OwnF w' w.heap.size (.slice B (headV e seq).length d) (headV e seq) ∧ fr w w' := by
  obtain ⟨k, u, rfl, hk1, hu1⟩ := hv
  obtain ⟨Ak, ck, rfl⟩ := slice_form hk1
  obtain ⟨Au, cu, rfl⟩ := slice_form hu1
  rw [hq]
  obtain ⟨nk, hnk⟩ : ∃ q, e.key.length = q := ⟨_, rfl⟩
  obtain ⟨nu, hnu⟩ : ∃ q, e.val.length = q := ⟨_, rfl⟩
  have HB := Lib.hid (fun wx (hx : fr w wx) => appBytes_any (fun _ => True) _ (.slice none 0 0) _ [] e.key wx (Byt.nil _ _) (hk1.below hx) (by simp) (by omega))
  rw [hnk] at hk1 hk ⊢
  have hsq : (seq : Int) % 18446744073709551616 = (seq : Int) := by omega
  have hsq2 : (seq : Int) * 2 % 18446744073709551616 = (seq : Int) * 2 := by omega
  have hor := or_dead seq (by omega) e.dead
  obtain ⟨N, hN⟩ : ∃ N, (2 * seq + if e.dead then 1 else 0) = N := ⟨_, rfl⟩
  have hNb : N < 18446744073709551616 := by rw [← hN]; split <;> omega
  rw [hN] at hor
  have hhv : headV e seq = [] ++ formN nk ++ e.key ++ formN N := by unfold headV; rw [hN, hnk]; rfl
  obtain ⟨m1, hm1⟩ : ∃ q, ([] ++ formN nk ++ e.key).length = q := ⟨_, rfl⟩
  obtain ⟨m2, hm2⟩ : ∃ q, (headV e seq).length = q := ⟨_, rfl⟩
  have hm1b : m1 ≤ 1000 := by rw [← hm1]; have := (formN_len nk).2; simp only [List.length_append, List.length_nil]; omega
  rw [hnk, hm1] at HB
  rw [hm2]
  have HHV := Lib.hid hhv
  have HM1 := Lib.hid hm1
  have HM2 := Lib.hid hm2
  have hP0 : ∀ x : Obj, ((w.alloc x).alloc (.cells #[.slice none 0 0, .slice none 0 0] 78)).heap[w.heap.size + 1]? = some (.cells #[.slice none 0 0, .slice none 0 0] 78 (0, 0)) := fun x => by
    have := heap_alloc_new (w.alloc x) (.cells #[.slice none 0 0, .slice none 0 0] 78)
    rwa [World.size_alloc] at this
  have hP1 : ∀ (cs : Array Value) (y : Obj), ((w.alloc (.cells cs 48)).alloc y).heap[w.heap.size]? = some (.cells cs 48 (0, 0)) := fun cs y => (Below.heap_alloc _ _ _ (by simp)).trans (heap_alloc_new w _)
  have hfr : ∀ x y : Obj, fr w ((w.alloc x).alloc y) := fun x y => fr.alloc (fr.alloc fr.refl _) _
  have hi1 : (i : Int) / 256 = ((i / 256 : Nat) : Int) := by omega
  have hK2 : (#[.int .u8 ((i : Int) / 256), .int .u8 ((i : Int) % 256)] : Array Value) = (([UInt8.ofNat (i / 256), UInt8.ofNat i]).map bcell).toArray := by rw [show (i : Int) / 256 = ((i / 256 : Nat) : Int) % 256 by omega, byte_of, byte_of]; rfl
  have HK2 := Lib.hid hK2
  clear hk1 hu1 hnu hN hhv hm1 hm2 hnk hi1 hK2
  obtain ⟨dd, hdd⟩ : ∃ d, e.dead = d := ⟨_, rfl⟩
  rw [hdd] at hor ⊢
  clear hdd
  rcases dd with _ | _
  all_goals
    simp only [if_true, if_false, Bool.false_eq_true] at hor
    go_enter Tryz.func30, Tryz.ntmps30
    go_upto_region 5 with (go_at_call 57; refine (HB.out _ (hfr _ _)).mono ?_; rintro r w1 ⟨A1, c1, rfl, ho1, f1⟩; have p1 := fr.hp' f1 (hP1 _ _); have p0 := fr.hp' f1 (hP0 _); have y1 := cell_of_row w1 _ 1 _ _ _ p1; have hfw := fr.step (hfr _ _) f1)
    go_upto_region 6 with (go_at_call 28; refine (appUint_any _ _ ([] ++ formN nk ++ e.key) N w1 ho1.byt hNb (by rw [HM1.out]; omega)).mono ?_; rintro r w2 ⟨A2, c2, rfl, ho2, f2⟩; rw [← HHV.out, HM2.out] at ho2; rw [← HHV.out, HM2.out])
    have hz1 := hfw.size
    have hz2 := Below.size f2
    have hlp := (Array.getElem?_eq_some_iff.1 p0).1
    have p02 := fr.hp' f2 p0
    have hplace : OwnF ((w2.alloc (.cells #[.int .u8 ((i : Int) / 256), .int .u8 ((i : Int) % 256)] 5)).alloc (.cells #[.int .u8 0] 5)) w.heap.size (.slice (some ⟨w2.heap.size, 0, none⟩) 2 2) [UInt8.ofNat (i / 256), UInt8.ofNat i] := (OwnF.lit w2 w.heap.size 2 _ _ (by rw [HK2.out]) rfl (by omega) (by omega)).below (fr.alloc fr.refl _)
    have hlit0 : Byt ((w2.alloc (.cells #[.int .u8 ((i : Int) / 256), .int .u8 ((i : Int) % 256)] 5)).alloc (.cells #[.int .u8 0] 5)) (fun _ => True) (.slice (some ⟨w2.heap.size + 1, 0, none⟩) 1 1) [0] := by
      have := Byt.lit4 (w2.alloc (.cells #[.int .u8 ((i : Int) / 256), .int .u8 ((i : Int) % 256)] 5)) (fun _ => True) trivial [0] (.cells #[.int .u8 0] 5) 1 rfl (by omega) rfl
      rwa [World.size_alloc] at this
    have hfa : fr w2 ((w2.alloc (.cells #[.int .u8 ((i : Int) / 256), .int .u8 ((i : Int) % 256)] 5)).alloc (.cells #[.int .u8 0] 5)) := fr.alloc (fr.alloc fr.refl _) _
    have p03 := fr.hp' hfa p02
    have HOB : Hid (∀ g, blkB (.slice A2 m2 c2) = some g → w1.heap.size ≤ g ∧ g < w2.heap.size) := Lib.hid fun g hg => ⟨(ho2.blk hg).1, (ho2.blk hg).2.2⟩
    have HO2 := Lib.hid (ho2.below hfa)
    have HFA := Lib.hid (fr.step (fr.step hfw f2) hfa)
    clear ho2 hfa p02 p0 p1 y1 HB hP0 hP1 hfr ho1 hor
    go_wp2_with (at_builtin; refine wpList_append_ownB rfl _ _ rfl (fun i => w.heap.size ≤ i) (fun i => w.heap.size ≤ i) (.slice (some ⟨w2.heap.size, 0, none⟩) 2 2) _ rfl rfl (fun _ => True) [UInt8.ofNat (i / 256), UInt8.ofNat i] [0] hplace hlit0 (by simp) (fun _ h => h) HFA.out.size ?_; intro v3 w3 hown3 hgrow3 hat3; obtain ⟨A3, c3, rfl⟩ := hown3.form; have p3 := (hgrow3.block (w.heap.size + 1) (by rw [World.size_alloc, World.size_alloc]; omega) (by simp [blkB]; omega)).trans p03; have z0 := frozen_of_row w3 _ 0 _ _ p3; have q0 := cell_of_row w3 _ 0 _ _ _ p3; have p4 := heap_setCell_same w3 _ 0 _ _ (.slice A3 3 c3) p3; have z1 := frozen_of_row _ _ 1 _ _ p4; have q1 := cell_of_row _ _ 1 _ _ _ p4; have p5 := heap_setCell_same _ _ 1 _ _ (.slice A2 m2 c2) p4; have r0 := cell_of_row _ _ 0 _ _ _ p5; have r1 := cell_of_row _ _ 1 _ _ _ p5)
    refine bodyPost_ret (v := .agg #[.slice A3 3 c3, .slice A2 m2 c2]) (by simp [results, Tryz.results30, go_sem, r0, r1]) rfl ?_
    have ho3 : Only (fun j => j = w.heap.size + 1) w3 ((w3.setCell ⟨w.heap.size + 1, 0, none⟩ (.slice A3 3 c3)).setCell ⟨w.heap.size + 1, 1, none⟩ (.slice A2 m2 c2)) := ((Only.refl (fun j => j = w.heap.size + 1) w3).setCell (p := ⟨w.heap.size + 1, 0, none⟩) rfl _).setCell (p := ⟨w.heap.size + 1, 1, none⟩) rfl _
    have hb2 : ∀ g, blkB (.slice (some ⟨w2.heap.size, 0, none⟩) 2 2) = some g → g = w2.heap.size := fun g hg => by simp [blkB] at hg; exact hg.symm
    refine ⟨A3, c3, A2, c2, rfl, OwnB.only hown3 ho3 (fun g hg h => ?_), (OwnB.only (OwnB.only HO2.out (Only.of_grown hgrow3) (fun g hg h => ?_)) ho3 (fun g hg h => ?_)).mono (fun i h => Nat.le_trans hz1 h), RowKit.Below.setCell (RowKit.Below.setCell (RowKit.Below.grown (B := w.heap.size) HFA.out hgrow3 HFA.out.size (fun j e => by rw [hb2 j e]; omega)) (Nat.le_add_right _ _) _) (Nat.le_add_right _ _) _⟩
    · rcases hat3 with h3 | h3
      · have := hb2 g (h3 ▸ hg)
        omega
      · have h4 := h3.symm.trans hg
        simp only [World.size_alloc, Option.some.injEq] at h4
        omega
    · have := HOB.out g hg
      have := hb2 g h
      omega
    · have := HOB.out g hg
      omega
end Go.Proofs.YtiffgjodbcploaaGreat
end
section
namespace Go.Proofs.YtiffgjodbcploaaGreat
set_option maxRecDepth 100000
open Go.RowKit Go.BigFrame
/-- the pairs of a part. -/
def pairsF : Nat → List Ent → List Pr
  | _, [] => []
  | i, e :: es => ⟨headK i 0, headV e e.seq.toNat⟩ :: ⟨headK i 1, e.val⟩ :: pairsF (i + 1) es
theorem pairsF_len : ∀ (i : Nat) (es : List Ent), (pairsF i es).length = 2 * es.length
  | _, [] => rfl
  | i, e :: es => by unfold pairsF; simp only [List.length_cons, pairsF_len]; omega
theorem pairsF_snoc : ∀ (i : Nat) (es : List Ent) (e : Ent), pairsF i (es ++ [e]) = pairsF i es ++ [⟨headK (i + es.length) 0, headV e e.seq.toNat⟩, ⟨headK (i + es.length) 1, e.val⟩]
  | i, [], e => rfl
  | i, x :: es, e => by
    rw [List.cons_append]
    unfold pairsF
    rw [pairsF_snoc, List.length_cons, show i + 1 + es.length = i + (es.length + 1) by omega]
    rfl
def GoodL (es : List Ent) : Prop := ∀ e ∈ es, goodE e = true
theorem goodE_is {e : Ent} (h : goodE e = true) : 0 < e.key.length ∧ e.key.length ≤ 200 ∧ 0 < e.seq ∧ e.seq ≤ 1099511627776 ∧ e.val.length ≤ 4096 ∧ (e.dead = true → e.val.length = 0) := goodR_t.1 h
theorem GoodL.small {es : List Ent} (h : GoodL es) : SmallE es := fun e he => ⟨(goodE_is (h e he)).2.1, (goodE_is (h e he)).2.2.2.2.1⟩
theorem headV_len (e : Ent) (q : Nat) : (headV e q).length ≤ 20 + e.key.length := by
  unfold headV
  have h1 := (formN_len e.key.length).2
  have h2 := (formN_len (2 * q + if e.dead then 1 else 0)).2
  simp only [List.length_append]
  omega
theorem pairsF_short : ∀ (i : Nat) (es : List Ent), GoodL es → Short (pairsF i es)
  | _, [], _ => fun p hp => by simp [pairsF] at hp
  | i, e :: es, h => fun p hp => by
    have hg := goodE_is (h e (by simp))
    unfold pairsF at hp
    rcases List.mem_cons.1 hp with rfl | hp
    · have := headV_len e e.seq.toNat
      exact ⟨by simp [headK], by simp only; omega⟩
    · rcases List.mem_cons.1 hp with rfl | hp
      · exact ⟨by simp [headK], by simp only; omega⟩
      · exact pairsF_short (i + 1) es (fun x hx => h x (by simp [hx])) p hp
theorem cmpB_lt {x y : UInt8} {xs ys : List UInt8} (h : x < y) : cmpB (x :: xs) (y :: ys) < 0 := by simp [cmpB, h]
theorem cmpB_same {x : UInt8} {xs ys : List UInt8} (h : cmpB xs ys < 0) : cmpB (x :: xs) (x :: ys) < 0 := by simpa [cmpB] using h
theorem head_01 (i : Nat) : cmpB (headK i 0) (headK i 1) < 0 := cmpB_same (cmpB_same (cmpB_lt (by decide)))
theorem head_next {i : Nat} (h : i + 1 < 65536) : cmpB (headK i 1) (headK (i + 1) 0) < 0 := by
  unfold headK
  by_cases hr : i % 256 = 255
  · refine cmpB_lt (UInt8.lt_iff_toNat_lt.2 ?_)
    simp
    omega
  · rw [show (i + 1) / 256 = i / 256 by omega]
    refine cmpB_same (cmpB_lt (UInt8.lt_iff_toNat_lt.2 ?_))
    simp
    omega
theorem pairsF_asc : ∀ (i : Nat) (es : List Ent) (a : List UInt8), i + es.length ≤ 65535 → cmpB a (headK i 0) < 0 → Asc a (pairsF i es)
  | _, [], _, _, _ => trivial
  | i, e :: es, a, hl, ha => by
    simp only [List.length_cons] at hl
    exact ⟨ha, head_01 i, pairsF_asc (i + 1) es _ (by omega) (head_next (by omega))⟩
theorem pairsF_asc0 {es : List Ent} (h : es.length ≤ 65535) : Asc [] (pairsF 0 es) := pairsF_asc 0 es [] (by omega) (by simp [headK, cmpB])
theorem oneP_le (a : List UInt8) (p : Pr) : (oneP a p).length ≤ 30 + p.key.length + p.val.length := by
  unfold oneP
  have h1 := (formN_len (sharedN a p.key)).2
  have h2 := (formN_len (p.key.length - sharedN a p.key)).2
  have h3 := (formN_len p.val.length).2
  simp only [List.length_append, List.length_drop]
  omega
theorem build_le : ∀ (i : Nat) (es : List Ent) (a : List UInt8), (buildGo a (pairsF i es)).length ≤ 86 * es.length + bytesE es
  | _, [], _ => by simp [pairsF, buildGo, bytesE]
  | i, e :: es, a => by
    unfold pairsF buildGo buildGo
    have h1 := oneP_le a ⟨headK i 0, headV e e.seq.toNat⟩
    have h2 := oneP_le (headK i 0) ⟨headK i 1, e.val⟩
    have h3 := build_le (i + 1) es (headK i 1)
    have h4 := headV_len e e.seq.toNat
    have hk0 : (headK i 0).length = 3 := rfl
    have hk1 : (headK i 1).length = 3 := rfl
    have hb : bytesE (e :: es) = e.key.length + e.val.length + bytesE es := by simp [bytesE]
    simp only [hk0, hk1] at h1 h2
    simp only [List.length_append, List.length_cons]
    omega
/-- a part's frame. -/
def partF (es : List Ent) : List UInt8 := putF (buildGo [] (pairsF 0 es))
theorem partF_le (es : List Ent) : (partF es).length ≤ 8 + 86 * es.length + bytesE es := by
  unfold partF
  rw [putF_len]
  have := build_le 0 es []
  omega
theorem parts_le : ∀ (ps : List (List Ent)), (∀ p ∈ ps, 0 < p.length) → ((ps.map partF).flatten).length ≤ 94 * ps.flatten.length + bytesE ps.flatten
  | [], _ => by simp [bytesE]
  | p :: ps, h => by
    have h1 := partF_le p
    have h2 := parts_le ps fun x hx => h x (by simp [hx])
    have h3 := h p (by simp)
    have hb : bytesE (p ++ ps.flatten) = bytesE p + bytesE ps.flatten := by simp [bytesE]
    simp only [List.map_cons, List.flatten_cons, List.length_append, hb]
    omega
/-- a table's file, of parts. -/
def fileF (n : Nat) (ps : List (List Ent)) : List UInt8 := putF (formN n) ++ (ps.map partF).flatten
/-- parts as table.cut makes them. -/
structure PartsOk (es : List Ent) (ps : List (List Ent)) : Prop where
  all : ps.flatten = es
  part : ∀ p ∈ ps, 0 < p.length ∧ p.length ≤ 1024 ∧ bytesE p ≤ 1052872
theorem fileF_le {es : List Ent} {ps : List (List Ent)} (h : PartsOk es ps) : (fileF es.length ps).length ≤ 18 + 94 * es.length + bytesE es := by
  unfold fileF
  have h1 := parts_le ps fun p hp => (h.part p hp).1
  have h2 := (formN_len es.length).2
  rw [h.all] at h1
  rw [List.length_append, putF_len]
  omega
end Go.Proofs.YtiffgjodbcploaaGreat
end
