/-
The contract of daycount.Cut where the days lie in order between FirstDay and LastDay: what lies strictly between, sorted, each once.
-/
import Derived.Test.YtedlfnaboljemaaSame
import Derived.Test.YtedlfnaboljemaaShelf
import Derived.Test.YtedlfnaboljemaaDues2
import Derived.Sort.OwnSortedInts
import Derived.Lib.OwnBridge
namespace Go.Proofs.Ytedlfnaboljemaa
open Go.RowKit Go.Sort

def inB (a b x : Int) : Bool := decide (a < x) && decide (x < b)
def cutI (a b : Int) (zs : List Int) : List Int := Lib.compact (([a, b] ++ zs.filter (inB a b)).mergeSort fun x y => decide (x ≤ y))
theorem filter_snoc (p : Int → Bool) (zs : List Int) (k : Nat) (x : Int) (h : zs[k]? = some x) : (zs.take (k + 1)).filter p = (zs.take k).filter p ++ if p x = true then [x] else [] := by
  rw [List.take_add_one, h, List.filter_append]
  by_cases hp : p x = true <;> simp [hp]

set_option maxHeartbeats 2000000 in
theorem cut_any (S : Nat → Prop) (a b : Int) (v : Value) (zs : List Int) (w : World) (ha : -719162 ≤ a) (hb : b ≤ 2932896) (hab : a ≤ b) (hz : IntsIn w S v zs) (hlen : zs.length ≤ 1000000) :
    Calls Try.prog 12 #[.int .i64 a, .int .i64 b, v] w fun e w' => ∃ v', e = .returned (.tuple #[v', .int .i64 0]) ∧ IntsIn w' (fun i => w.heap.size ≤ i) v' (cutI a b zs) ∧ Below w.heap.size w w' := by
  obtain ⟨A, c, rfl, hc, hl, hr⟩ := hz
  obtain ⟨i0, hi, hz0, hz1, hz2⟩ := info_parts info3
  have hby := Lib.hid hz2
  have hz1' := Lib.hid hz1
  clear hz2 hz1
  obtain ⟨n, hn⟩ : ∃ n, zs.length = n := ⟨_, rfl⟩
  rw [hn] at hr hl hlen ⊢
  have hN := Lib.hid hn
  clear hn
  go_enter Try.func12, Try.ntmps12
  go_wp2_with fail
  go_loopw [8, 27] (fun v t wr => ∃ k : Nat, k ≤ n ∧ t = .int .i64 k ∧ wr.ownsRow w.heap.size 3 1 v ([a, b] ++ (zs.take k).filter (inB a b)).length (([a, b] ++ (zs.take k).filter (inB a b)).map (Value.int .i64)) ∧ Below w.heap.size w wr) (fun _ t _ => n - (intOf t).toNat)
  case atStart =>
    exact ⟨0, by omega, rfl, by simpa using World.ownsRow_lit (base := w.heap.size) (e := 3) (size := 1) w #[.int .i64 a, .int .i64 b] 2 (Nat.le_refl _) (by unfold maxLen; omega) (by simp), (Below.refl _ _).alloc (Nat.le_refl _) _⟩
  case round =>
    obtain ⟨k, hk, rfl, hown, hbel⟩ := hrel
    have HO := Lib.hid hown
    clear hown
    by_cases hkn : k < n
    · obtain ⟨b0, o0, u, rfl, _, _, hu, hcell⟩ := (hr.below hbel).at_ hkn
      obtain ⟨x, hx, rfl⟩ := ints_get hu
      have HF := Lib.hid (filter_snoc (inB a b) zs k x hx)
      have hll : ([a, b] ++ (zs.take k).filter (inB a b)).length ≤ 2 + n := by
        have := List.length_filter_le (inB a b) (zs.take k)
        have := List.length_take_le k zs
        simp only [List.length_append, List.length_cons, List.length_nil]
        omega
      clear hu hx
      generalize hL : ([a, b] ++ (zs.take k).filter (inB a b)) = L at HO hll
      have HL := Lib.hid hL
      clear hL
      by_cases hab1 : a < x
      · by_cases hab2 : x < b
        · have hin : inB a b x = true := by simp [inB, hab1, hab2]
          have HIN := Lib.hid hin
          clear hin
          go_wp2_with (at_builtin; refine wpList_append_own _ rfl _ _ 29 rfl w.heap.size 3 i0 (.int .i64 0) 1 8 Try.underlying29 hi hz0 hz1'.out hby.out rfl (by decide) _ _ _ rfl (HO.out.alloc _) ⟨wr.heap.size, 0, none⟩ 1 1 [.int .i64 x] rfl rfl (cell_one_new _ _ _) (by simp [Value.oneCell']) (by unfold maxLen; omega) (by omega) (by have := hbel.size; simp; omega) ?_; intro v' w1 hown' hgrow _)
          refine ⟨⟨k + 1, by omega, by go_num, ?_, (hbel.alloc hbel.size _).grown hgrow (by have := hbel.size; simp; omega) (fun j e => (HO.out.lt j e).1)⟩, by simp [intOf]; omega⟩
          rw [HF.out, if_pos HIN.out, ← List.append_assoc, HL.out, List.length_append, List.map_append]
          exact hown'
        · have hin : inB a b x = false := by simp [inB, hab1, hab2]
          have HIN := Lib.hid hin
          clear hin
          go_wp2
          refine ⟨⟨k + 1, by omega, by go_num, ?_, hbel⟩, by simp [intOf]; omega⟩
          rw [HF.out, if_neg (by rw [HIN.out]; simp), List.append_nil, HL.out]
          exact HO.out
      · have hin : inB a b x = false := by simp [inB, hab1]
        have HIN := Lib.hid hin
        clear hin
        go_wp2
        refine ⟨⟨k + 1, by omega, by go_num, ?_, hbel⟩, by simp [intOf]; omega⟩
        rw [HF.out, if_neg (by rw [HIN.out]; simp), List.append_nil, HL.out]
        exact HO.out
    · obtain rfl : k = n := by omega
      have hll : ([a, b] ++ zs.filter (inB a b)).length ≤ 2 + k := by
        have := List.length_filter_le (inB a b) zs
        have := hN.out
        simp only [List.length_append, List.length_cons, List.length_nil]
        omega
      have ho := HO.out
      rw [List.take_of_length_le (by rw [hN.out]; exact Nat.le_refl _)] at ho
      clear HO
      have hpos : 0 < ([a, b] ++ zs.filter (inB a b)).length := by simp
      generalize hL : ([a, b] ++ zs.filter (inB a b)) = L at ho hll hpos
      have HL := Lib.hid hL
      clear hL
      have hl2 : (L.mergeSort fun x y => decide (x ≤ y)).length = L.length := List.length_mergeSort L
      have hle := Lib.compact_length_le (L.mergeSort fun x y => decide (x ≤ y))
      rcases ho.2 with ⟨rfl, h0⟩ | ⟨g, cap, cur, rfl, hbg, hh, hcap, hcm, hsz, htk⟩
      · omega
      have hgl := (Array.getElem?_eq_some_iff.1 hh).1
      have hH := holds_of_blockI hh (by simpa using htk)
      have hs := fun nn os => ownsRow_sortedI (n := nn) (os := os) (ts := L.mergeSort fun x y => decide (x ≤ y)) hl2 hbg hh hcap hcm hsz
      have HS := Lib.hid hs
      have HSort := Lib.hid (Try.slices_Sort_int g 0 cap L wr hH hgl (by omega))
      have HHH := Lib.hid hH
      have HL2 := Lib.hid hl2
      clear hs hH hh htk hsz ho hl2
      go_wp2_with fail
      refine HSort.out.mono ?_
      rintro e w2 ⟨rfl, nn, os, rfl⟩
      have hH2 : Holds (Value.int .i64) (grow (putRow (Value.int .i64) (Sort.ahead wr nn) g 0 (L.mergeSort fun x y => decide (x ≤ y)).toArray) os) g 0 (L.mergeSort fun x y => decide (x ≤ y)).toArray :=
        holds_grow _ _ os g 0 _ (by simpa [putRow, mapBlock, Sort.ahead] using hgl) (holds_putRow _ _ g 0 _ _ (holds_ahead _ wr nn g 0 _ HHH.out) (by simp [HL2.out]))
      have hcomp := Try.slices_Compact_int g 0 cap (L.mergeSort fun x y => decide (x ≤ y)) _ hH2 (by rw [HL2.out]; omega) (by rw [HL2.out]; omega)
      rw [HL2.out] at hcomp
      have HC := Lib.hid hcomp
      clear hcomp hH2
      go_wp2_with fail
      refine HC.out.mono ?_
      rintro e w3 ⟨rfl, q, rfl⟩
      go_wp2
      go_ret2
      have hc := Lib.ownsRow_putRow (q := q) (k := (Lib.compact (L.mergeSort fun x y => decide (x ≤ y))).length) (ys := Lib.compact (L.mergeSort fun x y => decide (x ≤ y)) ++ List.replicate (L.length - (Lib.compact (L.mergeSort fun x y => decide (x ≤ y))).length) 0) (HS.out nn os) (by simp; rw [HL2.out] at hle; omega) (by rw [HL2.out] at hle; omega)
      rw [List.take_left] at hc
      refine ⟨_, rfl, ?_, Lib.below_putRow (hbel.grown (grownBy_sortedI _) hbel.size (fun j hj => by cases hj; exact hbg)) hbg⟩
      unfold cutI
      rw [HL.out]
      exact IntsIn.of_own hc (fun i hi _ => hi) (by rw [HL2.out] at hle; omega)
end Go.Proofs.Ytedlfnaboljemaa
