/-
The disk in memory: files by name in a map, each a block with bytes of its own.
-/
import Derived.Laws.BitsLemmas
import Derived.Test.YtiffgjodbcploaaGreatProg
import Derived.Test.YtiffgjodbcploaaGreatQPCrashUpto0
import Derived.Deep.WholeRow
import Derived.Laws.ResultCell
import Derived.Laws.CopyRow
import Derived.Laws.CopyOwn
import Derived.Laws.Rows
import Derived.Shelf.Small.Bits
import Derived.Shelf.Small.Wraps
import Derived.Shelf.Strconv.Itoa0
import Derived.Shelf.Sort.Plain
import Derived.Shelf.GgClosure.StringsIndexFunc
import Derived.Ground.GgwProg
import Derived.Shelf.GgClosure.StringsIndexFuncTop
import Derived.Ground.Names2Prog
import Derived.Shelf.Slices.Clone
import Derived.Shelf.Slices.SearchI
import Derived.Ground.SlgnProg
import Derived.Shelf.SlicesE.Clone
import Derived.Ground.SlgfProg
import Derived.Shelf.SlicesE.IndexFunc
import Derived.Shelf.Bytes.SlEqualAll
import Derived.Shelf.Bytes.Small
import Derived.Laws.RangeAny
import Derived.Sort.KeysCollected
import Derived.Maps.OwnSet
import Derived.Maps.Ext
section
namespace Go.Proofs.YtiffgjodbcploaaGreat
set_option maxRecDepth 100000
/-- a number's bytes, at most k + 1 of them. -/
def formF : Nat → Nat → List UInt8
  | 0, v => [UInt8.ofNat v]
  | k + 1, v => if v ≤ 127 then [UInt8.ofNat v] else UInt8.ofNat (v % 128 + 128) :: formF k (v / 128)
def formN (v : Nat) : List UInt8 := formF 9 v
theorem formF_len : ∀ k v, 1 ≤ (formF k v).length ∧ (formF k v).length ≤ k + 1
  | 0, v => by simp [formF]
  | k + 1, v => by
    unfold formF
    split
    · simp
    · have := formF_len k (v / 128)
      simp only [List.length_cons]
      omega
theorem formN_len (v : Nat) : 1 ≤ (formN v).length ∧ (formN v).length ≤ 10 := formF_len 9 v
/-- reading one: the value, how many bytes, the error. -/
def uintF : List UInt8 → Nat → Nat → Nat × Nat × Int
  | [], _, _ => (0, 0, 10)
  | c :: cs, i, v =>
    if i = 9 ∧ 1 < c.toNat then (0, 0, 11)
    else if c.toNat < 128 then
      if c.toNat = 0 ∧ 0 < i then (0, 0, 11) else ((v ||| (c.toNat % 128) <<< (7 * i)) % 18446744073709551616, i + 1, 0)
    else uintF cs (i + 1) ((v ||| (c.toNat % 128) <<< (7 * i)) % 18446744073709551616)
theorem or_add {v c i : Nat} (hv : v < 2 ^ (7 * i)) : v ||| c <<< (7 * i) = v + c * 2 ^ (7 * i) := by
  rw [Nat.shiftLeft_eq, Nat.or_comm, Nat.mul_comm c, ← Nat.two_pow_add_eq_or_of_lt hv]
  omega
theorem uint_form : ∀ (k i v acc : Nat) (rest : List UInt8), i + k = 9 → acc < 2 ^ (7 * i) → v * 2 ^ (7 * i) + acc < 18446744073709551616 → (0 < i → 0 < v) →
    uintF (formF k v ++ rest) i acc = (v * 2 ^ (7 * i) + acc, i + (formF k v).length, 0)
  | 0, i, v, acc, rest, hi, ha, hb, hp => by
    have hi9 : i = 9 := by omega
    subst hi9
    have hv : v ≤ 1 := by
      have : (2 : Nat) ^ (7 * 9) = 9223372036854775808 := by decide
      rw [this] at hb
      omega
    have hc : (UInt8.ofNat v).toNat = v := by simp; omega
    unfold formF uintF
    rw [List.singleton_append]
    simp only [hc]
    rw [if_neg (by omega), if_pos (by omega), if_neg (by have := hp (by omega); omega), Nat.mod_eq_of_lt (show v < 128 by omega), or_add ha, Nat.add_comm acc, Nat.mod_eq_of_lt hb]
    rfl
  | k + 1, i, v, acc, rest, hi, ha, hb, hp => by
    unfold formF
    split
    · rename_i h
      have hc : (UInt8.ofNat v).toNat = v := by simp; omega
      unfold uintF
      rw [List.singleton_append]
      simp only [hc]
      rw [if_neg (by omega), if_pos (by omega), if_neg (by intro h'; have := hp h'.2; omega), Nat.mod_eq_of_lt (show v < 128 by omega), or_add ha, Nat.add_comm acc, Nat.mod_eq_of_lt hb]
      rfl
    · rename_i h
      have hc : (UInt8.ofNat (v % 128 + 128)).toNat = v % 128 + 128 := by simp; omega
      have hpow : (2 : Nat) ^ (7 * (i + 1)) = 128 * 2 ^ (7 * i) := by rw [show 7 * (i + 1) = 7 * i + 7 by omega, Nat.pow_add]; omega
      have hP : 0 < (2 : Nat) ^ (7 * i) := Nat.two_pow_pos _
      have hdm := Nat.div_add_mod v 128
      have hr : v % 128 < 128 := Nat.mod_lt _ (by omega)
      obtain ⟨P, hPe⟩ : ∃ P, (2 : Nat) ^ (7 * i) = P := ⟨_, rfl⟩
      rw [hPe] at hP ha hb hpow
      have e1 : v * P = v / 128 * (128 * P) + v % 128 * P := by
        rw [← Nat.mul_assoc, ← Nat.add_mul]
        congr 1
        omega
      have e2 : v % 128 * P ≤ 127 * P := Nat.mul_le_mul_right _ (by omega)
      unfold uintF
      rw [List.cons_append]
      simp only [hc]
      rw [if_neg (by omega), if_neg (by omega), show (v % 128 + 128) % 128 = v % 128 by omega, or_add (by rw [hPe]; exact ha), hPe, Nat.mod_eq_of_lt (by omega)]
      rw [uint_form k (i + 1) (v / 128) (acc + v % 128 * P) rest (by omega) (by rw [hpow]; omega) (by rw [hpow]; omega) (fun _ => by omega), hpow]
      simp only [List.length_cons]
      refine Prod.ext ?_ (Prod.ext ?_ rfl)
      · simp only; omega
      · simp only; omega
theorem uint_formN {v : Nat} (hv : v < 18446744073709551616) (rest : List UInt8) : uintF (formN v ++ rest) 0 0 = (v, (formN v).length, 0) := by
  have := uint_form 9 0 v 0 rest rfl (by decide) (by simpa using hv) (fun h => absurd h (by omega))
  simpa [formN] using this
/-- the sum's table and steps. -/
def crcBit (c : Nat) : Nat := (c >>> 1) ^^^ (if c % 2 = 1 then 3988292384 else 0)
def crcTab (i : Nat) : Nat := crcBit (crcBit (crcBit (crcBit (crcBit (crcBit (crcBit (crcBit i)))))))
def crcStep (c : Nat) (x : UInt8) : Nat := crcTab ((c % 256) ^^^ x.toNat) ^^^ (c >>> 8)
def crcGo (c : Nat) (bs : List UInt8) : Nat := bs.foldl crcStep c
def sumN (bs : List UInt8) : Nat := 4294967295 ^^^ crcGo 4294967295 bs
def le32 (n : Nat) : List UInt8 := [UInt8.ofNat n, UInt8.ofNat (n / 256), UInt8.ofNat (n / 65536), UInt8.ofNat (n / 16777216)]
def un32 : List UInt8 → Nat
  | a :: b :: c :: d :: _ => a.toNat + b.toNat * 256 + c.toNat * 65536 + d.toNat * 16777216
  | _ => 0
theorem un_le32 {n : Nat} (h : n < 4294967296) (rest : List UInt8) : un32 (le32 n ++ rest) = n := by
  unfold le32 un32
  simp
  omega
theorem le_un32 (a b c d : UInt8) : le32 (un32 [a, b, c, d]) = [a, b, c, d] := by
  have hu : un32 [a, b, c, d] = a.toNat + b.toNat * 256 + c.toNat * 65536 + d.toNat * 16777216 := rfl
  rw [hu]
  unfold le32
  have ha := a.toNat_lt
  have hb := b.toNat_lt
  have hc := c.toNat_lt
  have hd := d.toNat_lt
  have key : ∀ (x : UInt8) (n : Nat), n % 256 = x.toNat → UInt8.ofNat n = x := fun x n h => by
    apply UInt8.toNat_inj.1
    simpa using h
  rw [key a _ (by omega), key b _ (by omega), key c _ (by omega), key d _ (by omega)]
/-- a frame. -/
def putF (p : List UInt8) : List UInt8 := le32 p.length ++ le32 (sumN (le32 p.length ++ p)) ++ p
theorem le32_len (n : Nat) : (le32 n).length = 4 := rfl
theorem putF_len (p : List UInt8) : (putF p).length = p.length + 8 := by
  unfold putF
  simp only [List.length_append, le32_len]
  omega
end Go.Proofs.YtiffgjodbcploaaGreat
end
section
namespace Go.Proofs.YtiffgjodbcploaaGreat
set_option maxRecDepth 100000
theorem xor_nat (k : IntKind) (j : Nat) (hj : j ≤ k.bits) (hk : ∀ n : Int, 0 ≤ n → n < 2 ^ j → k.wrap n = n) (a b : Nat) (ha : a < 2 ^ j) (hb : b < 2 ^ j) : bits .xor k a b = ((a ^^^ b : Nat) : Int) := by
  have hp : 2 ^ j ≤ 2 ^ k.bits := Nat.pow_le_pow_right (by decide) hj
  have ha' : a % 2 ^ k.bits = a := Nat.mod_eq_of_lt (Nat.lt_of_lt_of_le ha hp)
  have hb' : b % 2 ^ k.bits = b := Nat.mod_eq_of_lt (Nat.lt_of_lt_of_le hb hp)
  simp only [bits, BitVec.ofInt_natCast, BitVec.toNat_xor, BitVec.toNat_ofNat, ha', hb']
  exact hk _ (Int.natCast_nonneg _) (by exact_mod_cast Nat.xor_lt_two_pow ha hb)
theorem wraps32 (n : Int) (h₀ : 0 ≤ n) (h₁ : n < 2 ^ 32) : IntKind.u32.wrap n = n := by rw [IntKind.wrap_u32]; omega
theorem wraps64 (n : Int) (h₀ : 0 ≤ n) (h₁ : n < 2 ^ 64) : IntKind.u64.wrap n = n := by simp [IntKind.wrap, IntKind.bits, IntKind.signed]; omega
theorem wrap_u64 (n : Int) : IntKind.u64.wrap n = n % 18446744073709551616 := by simp [IntKind.wrap, IntKind.bits, IntKind.signed]
theorem crc_bits {c : Nat} (h : c < 4294967296) : bits .xor .u32 ((c : Int) / 2) (bits .and .u32 3988292384 (-bits .and .u32 (c : Int) 1 % 4294967296)) = ((crcBit c : Nat) : Int) := by
  have h1 : bits .and .u32 (c : Int) 1 = (c : Int) % 2 := by
    have := bits_mask .u32 32 (by decide) wraps32 1 (by decide) (c : Int) (by omega) (by omega)
    simpa using this
  have key : ∀ d : Nat, d < 4294967296 → bits .xor .u32 ((c : Int) / 2) (d : Int) = (((c >>> 1) ^^^ d : Nat) : Int) := fun d hd => by
    have := xor_nat .u32 32 (by decide) wraps32 (c / 2) d (by omega) (by omega)
    rw [Nat.shiftRight_eq_div_pow]
    simpa using this
  unfold crcBit
  rw [h1]
  rcases (by omega : c % 2 = 0 ∨ c % 2 = 1) with h2 | h2
  · have e : (c : Int) % 2 = 0 := by omega
    rw [e, if_neg (by omega)]
    have e2 : bits .and .u32 3988292384 (-0 % 4294967296) = ((0 : Nat) : Int) := by decide
    rw [e2]
    exact key 0 (by decide)
  · have e : (c : Int) % 2 = 1 := by omega
    rw [e, if_pos h2]
    have e2 : bits .and .u32 3988292384 (-1 % 4294967296) = ((3988292384 : Nat) : Int) := by decide +kernel
    rw [e2]
    exact key 3988292384 (by decide)
/-- one step of the sum, as the walk spells it. -/
theorem crc_index {c x : Nat} (hx : x < 256) : bits .xor .u8 ((c : Int) % 256) (x : Int) = (((c % 256) ^^^ x : Nat) : Int) := by
  have := xor_nat .u8 8 (by decide) wraps_u8 (c % 256) x (by omega) (by omega)
  simpa using this
theorem crc_mix {a c : Nat} (ha : a < 4294967296) (hc : c < 4294967296) : bits .xor .u32 (a : Int) ((c : Int) / 256) = ((a ^^^ (c >>> 8) : Nat) : Int) := by
  have := xor_nat .u32 32 (by decide) wraps32 a (c / 256) (by omega) (by omega)
  rw [Nat.shiftRight_eq_div_pow]
  simpa using this
end Go.Proofs.YtiffgjodbcploaaGreat
end
section
namespace Go.Proofs.YtiffgjodbcploaaGreat
set_option maxRecDepth 100000
open Go.RowKit Go.BigFrame
attribute [local go_sem ↓] Go.wp_at_zero Go.wp_at_succ
def crcIt : Nat → Nat → Nat
  | 0, c => c
  | j + 1, c => crcBit (crcIt j c)
theorem crcBit_lt {c : Nat} (h : c < 4294967296) : crcBit c < 4294967296 := by
  unfold crcBit
  have h1 : c >>> 1 < 2 ^ 32 := by rw [Nat.shiftRight_eq_div_pow]; omega
  have h2 : (if c % 2 = 1 then 3988292384 else 0) < 2 ^ 32 := by split <;> omega
  exact Nat.xor_lt_two_pow h1 h2
theorem crcIt_lt {c : Nat} (h : c < 4294967296) : ∀ j, crcIt j c < 4294967296
  | 0 => h
  | j + 1 => crcBit_lt (crcIt_lt h j)
/-- the table up to a place. -/
def tabTo (i : Nat) : Array Value := ((List.range 256).map fun j => if j < i then .int .u32 (crcTab j : Nat) else .int .u32 0).toArray
theorem tabTo_at {i k : Nat} (h : k < 256) : (tabTo i)[k]? = some (if k < i then .int .u32 (crcTab k : Nat) else .int .u32 0) := by
  unfold tabTo
  rw [List.getElem?_toArray, List.getElem?_map, List.getElem?_range h]
  rfl
theorem tabTo_size (i : Nat) : (tabTo i).size = 256 := by unfold tabTo; simp
theorem tabTo_set {i : Nat} : (tabTo i).setIfInBounds i (.int .u32 (crcTab i : Nat)) = tabTo (i + 1) := by
  apply Array.ext_getElem?
  intro k
  by_cases hk : k < 256
  · rw [tabTo_at hk]
    by_cases hki : i = k
    · subst hki
      rw [Array.getElem?_setIfInBounds_self, if_pos (by rw [tabTo_size]; exact hk), if_pos (by omega)]
    · rw [Array.getElem?_setIfInBounds_ne hki, tabTo_at hk]
      by_cases h2 : k < i
      · rw [if_pos h2, if_pos (by omega)]
      · rw [if_neg h2, if_neg (by omega)]
  · rw [Array.getElem?_eq_none (by rw [Array.size_setIfInBounds, tabTo_size]; omega), Array.getElem?_eq_none (by rw [tabTo_size]; omega)]
theorem tabTo_zero : Tryz.zeroCells141 = tabTo 0 := by kernel_rfl
set_option maxRecDepth 100000 in
set_option maxHeartbeats 4000000 in
theorem table_any (w : World) : Calls Tryz.prog 83 #[] w fun r w' => r = .returned (.agg (tabTo 256)) ∧ fr w w' := by
  have hz : ∀ w, (zeroValue 141).run Tryz.prog w = .ok (.agg (tabTo 0)) w := fun w => by rw [← tabTo_zero]; exact Tryz.zeroValue141 w
  have P1 : ((w.alloc (.cells (tabTo 0) 141)).alloc (.cells (tabTo 0) 141)).heap[w.heap.size + 1]? = some (.cells (tabTo 0) 141 (0, 0)) := by
    have := heap_alloc_new (w.alloc (.cells (tabTo 0) 141)) (.cells (tabTo 0) 141)
    rwa [World.size_alloc] at this
  have P0 : ((w.alloc (.cells (tabTo 0) 141)).alloc (.cells (tabTo 0) 141)).heap[w.heap.size]? = some (.cells (tabTo 0) 141 (0, 0)) := (Below.heap_alloc _ _ _ (by simp)).trans (heap_alloc_new w _)
  go_enter Tryz.func83, Tryz.ntmps83
  go_wp2
  go_loopw [4] (fun t wr => ∃ i : Nat, i ≤ 256 ∧ t = .int .i64 i ∧ wr.heap[w.heap.size + 1]? = some (.cells (tabTo i) 141 (0, 0)) ∧ wr.heap[w.heap.size]? = some (.cells (tabTo 0) 141 (0, 0)) ∧ fr w wr) (fun t _ => 256 - (intOf t).toNat)
  case atStart => exact ⟨0, Nat.zero_le _, rfl, P1, P0, fr.alloc (fr.alloc fr.refl _) _⟩
  case round =>
    clear P1 P0
    obtain ⟨i, hi, rfl, p1, p0, hfr⟩ := hrel
    have HP1 := Lib.hid p1
    have HP0 := Lib.hid p0
    have HFR := Lib.hid hfr
    clear p1 p0 hfr
    by_cases hin : i < 256
    · have hu : IntKind.u32.wrap (i : Int) = (i : Int) := by simp [IntKind.wrap, IntKind.signed, IntKind.bits]; omega
      go_wp2
      go_loopw [3, 9] (fun c t wx => ∃ j : Nat, j ≤ 8 ∧ t = .int .i64 j ∧ c = .int .u32 (crcIt j i : Nat) ∧ wx = wr) (fun _ t _ => 8 - (intOf t).toNat)
      case atStart => exact ⟨0, Nat.zero_le _, rfl, rfl, rfl⟩
      case round =>
        obtain ⟨j, hj, rfl, rfl, rfl⟩ := hrel
        by_cases hj8 : j < 8
        · have hlt := crcIt_lt (show i < 4294967296 by omega) j
          have hne : crcIt (j + 1) i = crcBit (crcIt j i) := rfl
          obtain ⟨c, hc⟩ : ∃ c, crcIt j i = c := ⟨_, rfl⟩
          rw [hc] at hlt hne ⊢
          go_wp2
          exact ⟨⟨j + 1, by omega, by go_num, by rw [hne, crc_bits hlt], trivial⟩, by simp [intOf]; omega⟩
        · obtain rfl : j = 8 := by omega
          have hcell : wr.cell? ⟨w.heap.size + 1, i, none⟩ = some (.int .u32 0) := (cell_of_row wr _ i _ _ _ HP1.out).trans (by rw [tabTo_at hin, if_neg (by omega)])
          have hfz := frozen_of_row wr _ i _ _ HP1.out
          go_wp2
          refine ⟨⟨i + 1, by omega, by go_num, ?_, ?_, RowKit.Below.setCell HFR.out (Nat.le_add_right _ _) _⟩, by simp [intOf]; omega⟩
          · rw [heap_setCell_same wr _ i _ _ _ HP1.out, show crcIt 8 i = crcTab i from rfl, tabTo_set]
          · exact (heap_setCell_other wr ⟨w.heap.size + 1, i, none⟩ w.heap.size _ (by simp)).trans HP0.out
    · obtain rfl : i = 256 := by omega
      have hu := Tryz.underlying141
      have hi2 : (Tryz.prog.info? 141).map (·.size) = some (tabTo 256).size := by rw [tabTo_size]; kernel_rfl
      have hq1 : ∀ v ∈ (tabTo 256).toList, v.oneCell' = true := fun v hv => by
        unfold tabTo at hv
        simp only [List.mem_map, List.mem_range] at hv
        obtain ⟨j, _, rfl⟩ := hv
        split <;> rfl
      have hst := run_storeCells_at (P := Tryz.prog) w.heap.size 0 141 (tabTo 256).toList 0 (tabTo 0) wr HP0.out (by simp [tabTo_size]) hq1
      have h256 : ((tabTo 0).toList.take (0 + 0) ++ (tabTo 256).toList ++ (tabTo 0).toList.drop (0 + 0 + (tabTo 256).toList.length)).toArray = tabTo 256 := by
        rw [List.drop_eq_nil_of_le (by simp [tabTo_size])]
        simp
      rw [h256] at hst
      have hpr := setRow_heap wr w.heap.size _ (tabTo 256) _ _ HP0.out
      have hfr : fr w (wr.setRow w.heap.size (tabTo 256)) := below_setRow HFR.out (Nat.le_refl _) _
      generalize wr.setRow w.heap.size (tabTo 256) = w9 at hst hpr hfr
      go_wp2
      refine wp_load_row 141 (.tmp 1) rfl (w.heap.size + 1) rfl 141 (tabTo 256) (0, 0) _ HP1.out hu rfl hi2 ?_
      go_wp2
      exact bodyPost_ret (v := .agg (tabTo 256)) (results_cell_row (p := 0) rfl _ _ w.heap.size 141 (tabTo 256) (0, 0) _ rfl hpr hu rfl hi2) rfl ⟨rfl, hfr⟩
end Go.Proofs.YtiffgjodbcploaaGreat
end
section
namespace Go.Proofs.YtiffgjodbcploaaGreat
set_option maxRecDepth 100000
open Go.RowKit Go.BigFrame
attribute [local go_sem ↓] Go.wp_at_zero Go.wp_at_succ
/-- a slice of slices of bytes. -/
def BytsV (w : World) (S : Nat → Prop) (v : Value) (ps : List (List UInt8)) : Prop :=
  ∃ (A : Option Addr) (c : Nat) (vs : List Value), v = .slice A ps.length c ∧ ps.length ≤ c ∧ c ≤ 9223372036854775807 ∧ Row w S A ps.length 1 vs ∧ ∀ (i : Nat) (p : List UInt8), ps[i]? = some p → ∃ x, vs[i]? = some x ∧ Byt w S x p
theorem BytsV.below {w w' : World} {S : Nat → Prop} {v : Value} {ps : List (List UInt8)} (h : BytsV w S v ps) (hb : Below w.heap.size w w') : BytsV w' S v ps := by
  obtain ⟨A, c, vs, e, h1, h2, h3, h4⟩ := h
  exact ⟨A, c, vs, e, h1, h2, h3.below hb, fun i p hp => by obtain ⟨x, hx, hy⟩ := h4 i p hp; exact ⟨x, hx, hy.below hb⟩⟩
theorem crcGo_append (c : Nat) (a b : List UInt8) : crcGo c (a ++ b) = crcGo (crcGo c a) b := by unfold crcGo; rw [List.foldl_append]
theorem crcTab_lt {i : Nat} (h : i < 256) : crcTab i < 4294967296 := crcIt_lt (show i < 4294967296 by omega) 8
theorem crcIdx_lt {c : Nat} (x : UInt8) : (c % 256) ^^^ x.toNat < 256 := Nat.xor_lt_two_pow (n := 8) (Nat.mod_lt _ (by decide)) x.toNat_lt
theorem crcStep_lt {c : Nat} (h : c < 4294967296) (x : UInt8) : crcStep c x < 4294967296 := by
  unfold crcStep
  exact Nat.xor_lt_two_pow (n := 32) (crcTab_lt (crcIdx_lt x)) (by rw [Nat.shiftRight_eq_div_pow]; omega)
theorem crcGo_lt : ∀ {c : Nat} (_ : c < 4294967296) (bs : List UInt8), crcGo c bs < 4294967296
  | _, h, [] => h
  | _, h, x :: bs => crcGo_lt (crcStep_lt h x) bs
theorem crcGo_snoc {c : Nat} {bs : List UInt8} {j : Nat} {x : UInt8} (h : bs[j]? = some x) : crcGo c (bs.take (j + 1)) = crcStep (crcGo c (bs.take j)) x := by
  rw [take_snoc h, crcGo_append]
  rfl
theorem sumN_lt (bs : List UInt8) : sumN bs < 4294967296 := Nat.xor_lt_two_pow (n := 32) (by decide) (crcGo_lt (by decide) bs)
set_option maxRecDepth 100000 in
set_option maxHeartbeats 4000000 in
theorem sum_any (S : Nat → Prop) (v : Value) (ps : List (List UInt8)) (w : World) (hv : BytsV w S v ps) :
    Calls Tryz.prog 53 #[v] w fun r w' => r = .returned (.int .u32 (sumN ps.flatten : Nat)) ∧ fr w w' := by
  have hz : ∀ w, (zeroValue 141).run Tryz.prog w = .ok (.agg (tabTo 0)) w := fun w => by rw [← tabTo_zero]; exact Tryz.zeroValue141 w
  have HV := Lib.hid hv
  obtain ⟨A, c, vs, rfl, hc, hcm, hr, he⟩ := hv
  obtain ⟨n, hn⟩ : ∃ n, ps.length = n := ⟨_, rfl⟩
  rw [hn] at hr hc ⊢
  have HN := Lib.hid hn
  have HE := Lib.hid he
  have HR := Lib.hid hr
  have hi2 : (Tryz.prog.info? 141).map (·.size) = some (tabTo 256).size := by rw [tabTo_size]; kernel_rfl
  have hq1 : (tabTo 256).all (·.oneCell') = true := by
    rw [Array.all_eq_true_iff_forall_mem]
    intro v hv
    unfold tabTo at hv
    simp only [List.mem_toArray, List.mem_map, List.mem_range] at hv
    obtain ⟨j, _, rfl⟩ := hv
    split <;> rfl
  have hst : ∀ w1 : World, (storeCells ⟨w1.heap.size, 0, none⟩ (tabTo 256).toList 0).run Tryz.prog (w1.alloc (.cells (tabTo 0) 141)) = .ok () (w1.alloc (.cells (tabTo 256) 141)) := fun w1 =>
    run_storeCells_new (P := Tryz.prog) w1 141 (tabTo 0) (tabTo 256) hi2 (by rw [tabTo_size, tabTo_size]) hq1
  clear hn hr he HV
  go_enter Tryz.func53, Tryz.ntmps53
  go_wp2_with (go_at_call 83; refine (table_any _).mono ?_; rintro r w1 ⟨rfl, f1⟩)
  have hp : (w1.alloc (.cells (tabTo 256) 141)).heap[w1.heap.size]? = some (.cells (tabTo 256) 141 (0, 0)) := heap_alloc_new w1 _
  have hfr : fr w (w1.alloc (.cells (tabTo 256) 141)) := fr.alloc f1 _
  have hzw := Below.size f1
  generalize hb : w1.heap.size = B at hp hzw ⊢
  generalize hw : w1.alloc (.cells (tabTo 256) 141) = w2 at hp hfr ⊢
  clear hw hb f1 hst
  have HP := Lib.hid hp
  have HF := Lib.hid hfr
  have HT : Hid (∀ x : Nat, x < 256 → w2.cell? ⟨B, x, none⟩ = some (.int .u32 (crcTab x : Nat))) := Lib.hid fun x hx => by rw [cell_of_row w2 B x _ _ _ HP.out, tabTo_at hx, if_pos hx]
  clear hp hfr hi2 hq1 hz
  go_loopw [4, 12] (fun x t wr => ∃ k : Nat, k ≤ n ∧ t = .int .i64 k ∧ x = .int .u32 (crcGo 4294967295 (ps.take k).flatten : Nat) ∧ wr = w2) (fun _ t _ => n - (intOf t).toNat)
  case atStart => exact ⟨0, Nat.zero_le _, rfl, rfl, rfl⟩
  case round =>
    obtain ⟨k, hk, rfl, rfl, rfl⟩ := hrel
    obtain ⟨c0, hc0⟩ : ∃ c, crcGo 4294967295 (ps.take k).flatten = c := ⟨_, rfl⟩
    have hlt0 : c0 < 4294967296 := by rw [← hc0]; exact crcGo_lt (by decide) _
    have HC0 := Lib.hid hc0
    rw [hc0]
    clear hc0
    by_cases hkn : k < n
    · obtain ⟨p, hpk⟩ : ∃ p, ps[k]? = some p := ⟨_, List.getElem?_eq_getElem (by rw [HN.out]; exact hkn)⟩
      obtain ⟨x, hx, hxe⟩ := HE.out k p hpk
      obtain ⟨b, o, u, rfl, _, _, hu, hcell⟩ := (HR.out.below HF.out).at_ hkn
      obtain rfl : u = x := by rw [hx] at hu; injection hu with hu; exact hu.symm
      obtain ⟨A1, c1, rfl⟩ := slice_form hxe
      have hl1 := hxe.len
      obtain ⟨m, hm⟩ : ∃ m, p.length = m := ⟨_, rfl⟩
      rw [hm] at hxe hcell hl1
      have HM := Lib.hid hm
      obtain ⟨A', c', hE, _, _, _, hrow⟩ := hxe.below HF.out
      injection hE with e1 e2 e3
      subst e1
      have HRW := Lib.hid hrow
      have HPK := Lib.hid hpk
      clear hx hu hxe e3 hrow hpk hm e2
      go_wp2
      clear hcell
      go_loopw [4, 18] (fun x t wx => ∃ j : Nat, j ≤ m ∧ t = .int .i64 j ∧ x = .int .u32 (crcGo c0 (p.take j) : Nat) ∧ wx = wr) (fun _ t _ => m - (intOf t).toNat)
      case atStart => exact ⟨0, Nat.zero_le _, rfl, rfl, rfl⟩
      case round =>
        obtain ⟨j, hj, rfl, rfl, rfl⟩ := hrel
        by_cases hjm : j < m
        · obtain ⟨y, hy⟩ : ∃ y, p[j]? = some y := ⟨_, List.getElem?_eq_getElem (by rw [HM.out]; exact hjm)⟩
          have hsn := crcGo_snoc (c := c0) hy
          obtain ⟨c2, hc2⟩ : ∃ c, crcGo c0 (p.take j) = c := ⟨_, rfl⟩
          have hlt2 : c2 < 4294967296 := by rw [← hc2]; exact crcGo_lt hlt0 _
          rw [hc2] at hsn ⊢
          have HSN := Lib.hid hsn
          obtain ⟨b3, o3, u3, rfl, _, _, hu3, hcell3⟩ := HRW.out.at_ (k := j) (by rw [HM.out]; exact hjm)
          obtain rfl : u3 = bcell y := by rw [List.getElem?_map, hy] at hu3; injection hu3 with hu; exact hu.symm
          have hix := crc_index (c := c2) y.toNat_lt
          have hil := crcIdx_lt (c := c2) y
          have htab := HT.out _ hil
          have hmix := crc_mix (crcTab_lt hil) hlt2
          obtain ⟨ix, hixe⟩ : ∃ i, (c2 % 256) ^^^ y.toNat = i := ⟨_, rfl⟩
          have HIX := Lib.hid hixe
          rw [hixe] at hix hil htab hmix
          unfold bcell at hcell3
          clear hu3 hy hc2 hsn hixe
          go_wp2
          exact ⟨⟨j + 1, by omega, by go_num, by rw [HSN.out]; unfold crcStep; rw [HIX.out], trivial⟩, by simp [intOf]; omega⟩
        · obtain rfl : j = m := by omega
          have htk : p.take j = p := List.take_of_length_le (by rw [HM.out]; exact Nat.le_refl _)
          have hnx : crcGo 4294967295 (ps.take (k + 1)).flatten = crcGo c0 p := by
            rw [take_snoc HPK.out, List.flatten_append, List.flatten_singleton, crcGo_append, HC0.out]
          rw [htk]
          have HNX := Lib.hid hnx
          clear htk hnx
          go_wp2
          exact ⟨⟨k + 1, by omega, by go_num, by rw [HNX.out], trivial⟩, by simp [intOf]; omega⟩
    · obtain rfl : k = n := by omega
      have htk : ps.take k = ps := List.take_of_length_le (by rw [HN.out]; exact Nat.le_refl _)
      rw [htk] at HC0
      clear htk
      go_wp2
      refine bodyPost_ret (v := .int .u32 _) (by simp [results, Tryz.results53, go_sem]; rfl) rfl ?_
      refine ⟨?_, HF.out⟩
      unfold sumN
      rw [HC0.out]
      have := xor_nat .u32 32 (by decide) wraps32 4294967295 c0 (by decide) hlt0
      rw [show IntKind.u32.max = ((4294967295 : Nat) : Int) by decide, this]
end Go.Proofs.YtiffgjodbcploaaGreat
end
section
namespace Go.Proofs
open Go.Shelf
def Tryz.lays128_ren : Go.Shelf.Ren := ⟨fun | 128 => 114 | n => n, fun | 51 => 107 | 3 => 3 | 4 => 4 | 46 => 53 | 5 => 5 | 9 => 9 | n => n, fun | n => n⟩
theorem Tryz.lays128 : Go.Proofs.Lays.n128 Tryz.prog Tryz.lays128_ren := {
  mixed := by kernel_rfl
  f128 := Tryz.func114.trans (congrArg some (by kernel_rfl))
  t3 := Tryz.underlying3
  a3 := Tryz.isAgg3
  z3 := Tryz.sizeOf3
  v3 := Tryz.zeroValue3
  t4 := Tryz.underlying4
  a4 := Tryz.isAgg4
  z4 := Tryz.sizeOf4
  v4 := Tryz.zeroValue4
  t5 := Tryz.underlying5
  a5 := Tryz.isAgg5
  z5 := Tryz.sizeOf5
  v5 := Tryz.zeroValue5
  t9 := Tryz.underlying9
  a9 := Tryz.isAgg9
  z9 := Tryz.sizeOf9
  v9 := Tryz.zeroValue9
  t46 := Tryz.underlying53
  a46 := Tryz.isAgg53
  z46 := Tryz.sizeOf53
  v46 := Tryz.zeroValue53
  t51 := Tryz.underlying107
  a51 := Tryz.isAgg107
  z51 := Tryz.sizeOf107
  v51 := Tryz.zeroValue107 }
theorem Tryz.bits_Len32 (x : Int) (w : World) (h0 : 0 ≤ x) (h1 : x ≤ 4294967295) :
    Calls Tryz.prog 114 #[.int .u32 x] w fun e w' => e = .returned (.int .i64 (Lib.bitLen x.toNat)) ∧ w' = w := Any.bits_Len32 Tryz.lays128 x w h0 h1
def Tryz.lays125_ren : Go.Shelf.Ren := ⟨fun | 125 => 100 | 128 => 114 | 129 => 115 | n => n, fun | 46 => 53 | 3 => 3 | 51 => 107 | 53 => 72 | 4 => 4 | 5 => 5 | 9 => 9 | n => n, fun | n => n⟩
theorem Tryz.lays125 : Go.Proofs.Lays.n125 Tryz.prog Tryz.lays125_ren := {
  mixed := by kernel_rfl
  f125 := Tryz.func100.trans (congrArg some (by kernel_rfl))
  f128 := Tryz.func114.trans (congrArg some (by kernel_rfl))
  f129 := Tryz.func115.trans (congrArg some (by kernel_rfl))
  t3 := Tryz.underlying3
  a3 := Tryz.isAgg3
  z3 := Tryz.sizeOf3
  v3 := Tryz.zeroValue3
  t4 := Tryz.underlying4
  a4 := Tryz.isAgg4
  z4 := Tryz.sizeOf4
  v4 := Tryz.zeroValue4
  t5 := Tryz.underlying5
  a5 := Tryz.isAgg5
  z5 := Tryz.sizeOf5
  v5 := Tryz.zeroValue5
  t9 := Tryz.underlying9
  a9 := Tryz.isAgg9
  z9 := Tryz.sizeOf9
  v9 := Tryz.zeroValue9
  t46 := Tryz.underlying53
  a46 := Tryz.isAgg53
  z46 := Tryz.sizeOf53
  v46 := Tryz.zeroValue53
  t51 := Tryz.underlying107
  a51 := Tryz.isAgg107
  z51 := Tryz.sizeOf107
  v51 := Tryz.zeroValue107
  t53 := Tryz.underlying72
  a53 := Tryz.isAgg72
  z53 := Tryz.sizeOf72
  v53 := Tryz.zeroValue72 }
theorem Tryz.bits_Len (x : Int) (w : World) (h0 : 0 ≤ x) (h1 : x ≤ 18446744073709551615) :
    Calls Tryz.prog 100 #[.int .u64 x] w fun e w' => e = .returned (.int .i64 (Lib.bitLen x.toNat)) ∧ w' = w := Any.bits_Len Tryz.lays125 x w h0 h1
def Tryz.lays215_ren : Go.Shelf.Ren := ⟨fun | 215 => 96 | n => n, fun | 3 => 3 | 4 => 4 | n => n, fun | n => n⟩
theorem Tryz.lays215 : Go.Proofs.Lays.n215 Tryz.prog Tryz.lays215_ren := {
  mixed := by kernel_rfl
  f215 := Tryz.func96.trans (congrArg some (by kernel_rfl))
  t3 := Tryz.underlying3
  a3 := Tryz.isAgg3
  z3 := Tryz.sizeOf3
  v3 := Tryz.zeroValue3
  t4 := Tryz.underlying4
  a4 := Tryz.isAgg4
  z4 := Tryz.sizeOf4
  v4 := Tryz.zeroValue4 }
open Go.RowKit in
theorem Tryz.cmp_isNaN_int (x : Int) (w : World) :
    Calls Tryz.prog 96 #[.int .i64 x] w fun e w' => e = .returned (.bool false) ∧ w' = w := Any.cmp_isNaN_int Tryz.lays215 x w
def Tryz.lays122_ren : Go.Shelf.Ren := ⟨fun | 122 => 82 | 215 => 96 | n => n, fun | 3 => 3 | 4 => 4 | n => n, fun | n => n⟩
theorem Tryz.lays122 : Go.Proofs.Lays.n122 Tryz.prog Tryz.lays122_ren := {
  mixed := by kernel_rfl
  f122 := Tryz.func82.trans (congrArg some (by kernel_rfl))
  f215 := Tryz.func96.trans (congrArg some (by kernel_rfl))
  t3 := Tryz.underlying3
  a3 := Tryz.isAgg3
  z3 := Tryz.sizeOf3
  v3 := Tryz.zeroValue3
  t4 := Tryz.underlying4
  a4 := Tryz.isAgg4
  z4 := Tryz.sizeOf4
  v4 := Tryz.zeroValue4 }
open Go.RowKit in
theorem Tryz.cmp_Compare_int (x y : Int) (w : World) :
    Calls Tryz.prog 82 #[.int .i64 x, .int .i64 y] w fun e w' => e = .returned (.int .i64 (Lib.compareInt x y)) ∧ w' = w := Any.cmp_Compare_int Tryz.lays122 x y w
def Tryz.lays129_ren : Go.Shelf.Ren := ⟨fun | 129 => 115 | n => n, fun | 53 => 72 | 3 => 3 | 4 => 4 | 46 => 53 | 5 => 5 | 9 => 9 | n => n, fun | n => n⟩
theorem Tryz.lays129 : Go.Proofs.Lays.n129 Tryz.prog Tryz.lays129_ren := {
  mixed := by kernel_rfl
  f129 := Tryz.func115.trans (congrArg some (by kernel_rfl))
  t3 := Tryz.underlying3
  a3 := Tryz.isAgg3
  z3 := Tryz.sizeOf3
  v3 := Tryz.zeroValue3
  t4 := Tryz.underlying4
  a4 := Tryz.isAgg4
  z4 := Tryz.sizeOf4
  v4 := Tryz.zeroValue4
  t5 := Tryz.underlying5
  a5 := Tryz.isAgg5
  z5 := Tryz.sizeOf5
  v5 := Tryz.zeroValue5
  t9 := Tryz.underlying9
  a9 := Tryz.isAgg9
  z9 := Tryz.sizeOf9
  v9 := Tryz.zeroValue9
  t46 := Tryz.underlying53
  a46 := Tryz.isAgg53
  z46 := Tryz.sizeOf53
  v46 := Tryz.zeroValue53
  t53 := Tryz.underlying72
  a53 := Tryz.isAgg72
  z53 := Tryz.sizeOf72
  v53 := Tryz.zeroValue72 }
theorem Tryz.bits_Len64 (x : Int) (w : World) (h0 : 0 ≤ x) (h1 : x ≤ 18446744073709551615) :
    Calls Tryz.prog 115 #[.int .u64 x] w fun e w' => e = .returned (.int .i64 (Lib.bitLen x.toNat)) ∧ w' = w := Any.bits_Len64 Tryz.lays129 x w h0 h1
def Tryz.lays190_ren : Go.Shelf.Ren := ⟨fun | 190 => 88 | 125 => 100 | 258 => 99 | 128 => 114 | 129 => 115 | 302 => 105 | 303 => 106 | 304 => 107 | 305 => 108 | 306 => 109 | 307 => 110 | 308 => 111 | 309 => 112 | 310 => 113 | 333 => 118 | 329 => 119 | 330 => 120 | 334 => 121 | 335 => 122 | 336 => 123 | 344 => 124 | n => n, fun | 31 => 87 | 9 => 9 | 3 => 3 | 46 => 53 | 0 => 0 | 51 => 107 | 53 => 72 | 4 => 4 | 183 => 167 | 182 => 166 | 131 => 172 | 5 => 5 | 218 => 178 | 222 => 182 | 228 => 184 | 229 => 185 | n => n, fun | n => n⟩
theorem Tryz.lays190 : Go.Proofs.Lays.n190 Tryz.prog Tryz.lays190_ren := {
  mixed := by kernel_rfl
  f125 := Tryz.func100.trans (congrArg some (by kernel_rfl))
  f128 := Tryz.func114.trans (congrArg some (by kernel_rfl))
  f129 := Tryz.func115.trans (congrArg some (by kernel_rfl))
  f190 := Tryz.func88.trans (congrArg some (by kernel_rfl))
  f258 := Tryz.func99.trans (congrArg some (by kernel_rfl))
  f302 := Tryz.func105.trans (congrArg some (by kernel_rfl))
  f303 := Tryz.func106.trans (congrArg some (by kernel_rfl))
  f304 := Tryz.func107.trans (congrArg some (by kernel_rfl))
  f305 := Tryz.func108.trans (congrArg some (by kernel_rfl))
  f306 := Tryz.func109.trans (congrArg some (by kernel_rfl))
  f307 := Tryz.func110.trans (congrArg some (by kernel_rfl))
  f308 := Tryz.func111.trans (congrArg some (by kernel_rfl))
  f309 := Tryz.func112.trans (congrArg some (by kernel_rfl))
  f310 := Tryz.func113.trans (congrArg some (by kernel_rfl))
  f329 := Tryz.func119.trans (congrArg some (by kernel_rfl))
  f330 := Tryz.func120.trans (congrArg some (by kernel_rfl))
  f333 := Tryz.func118.trans (congrArg some (by kernel_rfl))
  f334 := Tryz.func121.trans (congrArg some (by kernel_rfl))
  f335 := Tryz.func122.trans (congrArg some (by kernel_rfl))
  f336 := Tryz.func123.trans (congrArg some (by kernel_rfl))
  f344 := Tryz.func124.trans (congrArg some (by kernel_rfl))
  t0 := Tryz.underlying0
  a0 := Tryz.isAgg0
  z0 := Tryz.sizeOf0
  v0 := Tryz.zeroValue0
  t3 := Tryz.underlying3
  a3 := Tryz.isAgg3
  z3 := Tryz.sizeOf3
  v3 := Tryz.zeroValue3
  t4 := Tryz.underlying4
  a4 := Tryz.isAgg4
  z4 := Tryz.sizeOf4
  v4 := Tryz.zeroValue4
  t5 := Tryz.underlying5
  a5 := Tryz.isAgg5
  z5 := Tryz.sizeOf5
  v5 := Tryz.zeroValue5
  t9 := Tryz.underlying9
  a9 := Tryz.isAgg9
  z9 := Tryz.sizeOf9
  v9 := Tryz.zeroValue9
  t31 := Tryz.underlying87
  a31 := Tryz.isAgg87
  z31 := Tryz.sizeOf87
  v31 := Tryz.zeroValue87
  t46 := Tryz.underlying53
  a46 := Tryz.isAgg53
  z46 := Tryz.sizeOf53
  v46 := Tryz.zeroValue53
  t51 := Tryz.underlying107
  a51 := Tryz.isAgg107
  z51 := Tryz.sizeOf107
  v51 := Tryz.zeroValue107
  t53 := Tryz.underlying72
  a53 := Tryz.isAgg72
  z53 := Tryz.sizeOf72
  v53 := Tryz.zeroValue72
  t131 := Tryz.underlying172
  a131 := Tryz.isAgg172
  z131 := Tryz.sizeOf172
  v131 := Tryz.zeroValue172
  t182 := Tryz.underlying166
  a182 := Tryz.isAgg166
  z182 := Tryz.sizeOf166
  v182 := Tryz.zeroValue166
  t183 := Tryz.underlying167
  a183 := Tryz.isAgg167
  z183 := Tryz.sizeOf167
  v183 := Tryz.zeroValue167
  t218 := Tryz.underlying178
  a218 := Tryz.isAgg178
  z218 := Tryz.sizeOf178
  v218 := Tryz.zeroValue178
  t222 := Tryz.underlying182
  a222 := Tryz.isAgg182
  z222 := Tryz.sizeOf182
  v222 := Tryz.zeroValue182
  t228 := Tryz.underlying184
  a228 := Tryz.isAgg184
  z228 := Tryz.sizeOf184
  v228 := Tryz.zeroValue184
  t229 := Tryz.underlying185
  a229 := Tryz.isAgg185
  z229 := Tryz.sizeOf185
  v229 := Tryz.zeroValue185 }
open Go.Sort Go.RowKit in
theorem Tryz.slices_Sort_string (blk off cap : Nat) (ss : List (List UInt8)) (w : World) (hH : Holds encStr w blk off ss.toArray) (hblk : blk < w.heap.size) (hsz : ss.length < 4611686018427387904) :
    Calls Tryz.prog 88 #[.slice (some ⟨blk, off, none⟩) ss.length cap] w fun e w' =>
      e = .returned (.tuple #[]) ∧ ∃ n os, w' = grow (putRow encStr (Sort.ahead w n) blk off (ss.mergeSort fun x y => decide (x ≤ y)).toArray) os := Any.slices_Sort_string Tryz.lays190 blk off cap ss w hH hblk hsz
def Tryz.lays315_ren : Go.Shelf.Ren := ⟨fun | 315 => 104 | n => n, fun | 9 => 9 | 40 => 131 | 4 => 4 | 3 => 3 | 0 => 0 | 21 => 21 | n => n, fun | n => n⟩
theorem Tryz.lays315 : Go.Proofs.Lays.n315 Tryz.prog Tryz.lays315_ren := {
  mixed := by kernel_rfl
  f315 := Tryz.func104.trans (congrArg some (by kernel_rfl))
  t0 := Tryz.underlying0
  a0 := Tryz.isAgg0
  z0 := Tryz.sizeOf0
  v0 := Tryz.zeroValue0
  t3 := Tryz.underlying3
  a3 := Tryz.isAgg3
  z3 := Tryz.sizeOf3
  v3 := Tryz.zeroValue3
  t4 := Tryz.underlying4
  a4 := Tryz.isAgg4
  z4 := Tryz.sizeOf4
  v4 := Tryz.zeroValue4
  t9 := Tryz.underlying9
  a9 := Tryz.isAgg9
  z9 := Tryz.sizeOf9
  v9 := Tryz.zeroValue9
  t21 := Tryz.underlying21
  a21 := Tryz.isAgg21
  z21 := Tryz.sizeOf21
  v21 := Tryz.zeroValue21
  t40 := Tryz.underlying131
  a40 := Tryz.isAgg131
  z40 := Tryz.sizeOf131
  v40 := Tryz.zeroValue131 }
open Go.RowKit Go.Lib in
theorem Tryz.strings_indexFunc (g : Nat) (lb : Array Value) (eg : ∀ args w, (callFunc g args).run Tryz.prog w = .ok (.enter g args) w) (p : Nat → Bool) (truth : Bool) (s : ByteArray) (w : World) (hp : PredAt Tryz.prog g lb encR p w) :
    Calls Tryz.prog 104 #[.string s, .func (.func g) #[] lb, .bool truth] w fun e w' => e = .returned (.int .i64 (Lib.idxFunc p truth s)) ∧ Below w.heap.size w w' := Any.strings_indexFunc Tryz.lays315 g lb eg p truth s w hp
def Tryz.laysGw15_ren : Go.Shelf.Ren := ⟨fun | 15 => 94 | 20 => 104 | n => n, fun | 9 => 9 | 23 => 131 | 3 => 3 | 4 => 4 | 0 => 0 | 21 => 21 | n => n, fun | n => n⟩
theorem Tryz.laysGw15 : Go.Proofs.LaysGw.n15 Tryz.prog Tryz.laysGw15_ren := {
  mixed := by kernel_rfl
  f15 := Tryz.func94.trans (congrArg some (by kernel_rfl))
  f20 := Tryz.func104.trans (congrArg some (by kernel_rfl))
  t0 := Tryz.underlying0
  a0 := Tryz.isAgg0
  z0 := Tryz.sizeOf0
  v0 := Tryz.zeroValue0
  i0 := by kernel_rfl
  t3 := Tryz.underlying3
  a3 := Tryz.isAgg3
  z3 := Tryz.sizeOf3
  v3 := Tryz.zeroValue3
  i3 := by kernel_rfl
  t4 := Tryz.underlying4
  a4 := Tryz.isAgg4
  z4 := Tryz.sizeOf4
  v4 := Tryz.zeroValue4
  i4 := by kernel_rfl
  t9 := Tryz.underlying9
  a9 := Tryz.isAgg9
  z9 := Tryz.sizeOf9
  v9 := Tryz.zeroValue9
  i9 := by kernel_rfl
  t21 := Tryz.underlying21
  a21 := Tryz.isAgg21
  z21 := Tryz.sizeOf21
  v21 := Tryz.zeroValue21
  i21 := by kernel_rfl
  t23 := Tryz.underlying131
  a23 := Tryz.isAgg131
  z23 := Tryz.sizeOf131
  v23 := Tryz.zeroValue131
  i23 := by kernel_rfl }
open Go.RowKit Go.Lib in
theorem Tryz.strings_IndexFunc (g : Nat) (lb : Array Value) (eg : ∀ args w, (callFunc g args).run Tryz.prog w = .ok (.enter g args) w) (p : Nat → Bool) (s : ByteArray) (w : World) (hp : PredAt Tryz.prog g lb encR p w) :
    Calls Tryz.prog 94 #[.string s, .func (.func g) #[] lb] w fun e w' => e = .returned (.int .i64 (Lib.idxFunc p true s)) ∧ Below w.heap.size w w' := Any.strings_IndexFunc Tryz.laysGw15 g lb eg p s w hp
def Tryz.laysGw17_ren : Go.Shelf.Ren := ⟨fun | 17 => 74 | 15 => 94 | 20 => 104 | n => n, fun | 9 => 9 | 23 => 131 | 4 => 4 | 3 => 3 | 0 => 0 | 21 => 21 | n => n, fun | n => n⟩
theorem Tryz.laysGw17 : Go.Proofs.LaysGw.n17 Tryz.prog Tryz.laysGw17_ren := {
  mixed := by kernel_rfl
  f15 := Tryz.func94.trans (congrArg some (by kernel_rfl))
  f17 := Tryz.func74.trans (congrArg some (by kernel_rfl))
  f20 := Tryz.func104.trans (congrArg some (by kernel_rfl))
  t0 := Tryz.underlying0
  a0 := Tryz.isAgg0
  z0 := Tryz.sizeOf0
  v0 := Tryz.zeroValue0
  i0 := by kernel_rfl
  t3 := Tryz.underlying3
  a3 := Tryz.isAgg3
  z3 := Tryz.sizeOf3
  v3 := Tryz.zeroValue3
  i3 := by kernel_rfl
  t4 := Tryz.underlying4
  a4 := Tryz.isAgg4
  z4 := Tryz.sizeOf4
  v4 := Tryz.zeroValue4
  i4 := by kernel_rfl
  t9 := Tryz.underlying9
  a9 := Tryz.isAgg9
  z9 := Tryz.sizeOf9
  v9 := Tryz.zeroValue9
  i9 := by kernel_rfl
  t21 := Tryz.underlying21
  a21 := Tryz.isAgg21
  z21 := Tryz.sizeOf21
  v21 := Tryz.zeroValue21
  i21 := by kernel_rfl
  t23 := Tryz.underlying131
  a23 := Tryz.isAgg131
  z23 := Tryz.sizeOf131
  v23 := Tryz.zeroValue131
  i23 := by kernel_rfl }
open Go.RowKit Go.Lib in
theorem Tryz.strings_ContainsFunc (g : Nat) (lb : Array Value) (eg : ∀ args w, (callFunc g args).run Tryz.prog w = .ok (.enter g args) w) (p : Nat → Bool) (s : ByteArray) (w : World) (hp : PredAt Tryz.prog g lb encR p w) :
    Calls Tryz.prog 74 #[.string s, .func (.func g) #[] lb] w fun e w' => e = .returned (.bool (decide (0 ≤ Lib.idxFunc p true s))) ∧ Below w.heap.size w w' := Any.strings_ContainsFunc Tryz.laysGw17 g lb eg p s w hp
def Tryz.laysNm215_ren : Go.Shelf.Ren := ⟨fun | 15 => 49 | n => n, fun | 22 => 26 | 3 => 3 | 4 => 4 | n => n, fun | n => n⟩
theorem Tryz.laysNm215 : Go.Proofs.Lays2.n15 Tryz.prog Tryz.laysNm215_ren := {
  mixed := by kernel_rfl
  f15 := Tryz.func49.trans (congrArg some (by kernel_rfl))
  t3 := Tryz.underlying3
  a3 := Tryz.isAgg3
  z3 := Tryz.sizeOf3
  v3 := Tryz.zeroValue3
  t4 := Tryz.underlying4
  a4 := Tryz.isAgg4
  z4 := Tryz.sizeOf4
  v4 := Tryz.zeroValue4
  t22 := Tryz.underlying26
  a22 := Tryz.isAgg26
  z22 := Tryz.sizeOf26
  v22 := Tryz.zeroValue26
  i3 := by kernel_rfl }
open Go.RowKit Go.Lib in
theorem Tryz.slices_Clone_int (b off n c : Nat) (zs : List Int) (w : World) (hz : n ≤ zs.length) (hbig : n * 8 ≤ 140737488355328) (hc : ∀ j, j < zs.length → w.cell? ⟨b, off + j, none⟩ = some (.int .i64 (zs.getD j 0))) :
    Calls Tryz.prog 49 #[.slice (some ⟨b, off, none⟩) n c] w fun e w' => ∃ v', e = .returned v' ∧ w'.ownsRow w.heap.size 3 1 v' n ((zs.take n).map (Value.int .i64)) ∧ v' ≠ .slice none 0 0 ∧ Below w.heap.size w w' := Any.slices_Clone_int Tryz.laysNm215 b off n c zs w hz hbig hc
open Go.RowKit Go.Lib in
theorem Tryz.slices_Clone_int_nil (n c : Nat) (w : World) :
    Calls Tryz.prog 49 #[.slice none n c] w fun e w' => e = .returned (.slice none 0 0) ∧ w' = w := Any.slices_Clone_int_nil Tryz.laysNm215 n c w
open Go.RowKit Go.Lib in
theorem Tryz.slices_Clone_int_zero (a : Addr) (c : Nat) (w : World) :
    Calls Tryz.prog 49 #[.slice (some a) 0 c] w fun e w' => ∃ v', e = .returned v' ∧ w'.ownsRow w.heap.size 3 1 v' 0 [] ∧ v' ≠ .slice none 0 0 ∧ Below w.heap.size w w' := Any.slices_Clone_int_zero Tryz.laysNm215 a c w
def Tryz.laysNm237_ren : Go.Shelf.Ren := ⟨fun | 37 => 96 | n => n, fun | 3 => 3 | 4 => 4 | n => n, fun | n => n⟩
theorem Tryz.laysNm237 : Go.Proofs.Lays2.n37 Tryz.prog Tryz.laysNm237_ren := {
  mixed := by kernel_rfl
  f37 := Tryz.func96.trans (congrArg some (by kernel_rfl))
  t3 := Tryz.underlying3
  a3 := Tryz.isAgg3
  z3 := Tryz.sizeOf3
  v3 := Tryz.zeroValue3
  t4 := Tryz.underlying4
  a4 := Tryz.isAgg4
  z4 := Tryz.sizeOf4
  v4 := Tryz.zeroValue4 }
open Go.RowKit Go.Lib in
theorem Tryz.cmp_isNaN_int2 (x : Int) (w : World) :
    Calls Tryz.prog 96 #[.int .i64 x] w fun e w' => e = .returned (.bool false) ∧ w' = w := Any.cmp_isNaN_int2 Tryz.laysNm237 x w
def Tryz.laysSlE041_f49_ren : Go.Shelf.Ren := ⟨fun | 41 => 49 | n => n, fun | 22 => 26 | 23 => 3 | 4 => 4 | n => n, fun | n => n⟩
theorem Tryz.laysSlE041_f49 : Go.Proofs.SlLaysE0.n41 Tryz.prog Tryz.laysSlE041_f49_ren := {
  mixed := by kernel_rfl
  f41 := ⟨Tryz.f49.name, by decide, Tryz.func49.trans (congrArg some (by kernel_rfl))⟩
  t4 := Tryz.underlying4
  a4 := Tryz.isAgg4
  z4 := Tryz.sizeOf4
  v4 := Tryz.zeroValue4
  t22 := Tryz.underlying26
  a22 := Tryz.isAgg26
  z22 := Tryz.sizeOf26
  v22 := Tryz.zeroValue26 }
open Go.RowKit Go.Lib in
theorem Tryz.slices_Clone (i0 : TypeInfo) (z : Value) (size bytes : Nat) (hi : Tryz.prog.info? 3 = some i0) (hz0 : i0.zero = some z) (hz1 : i0.size = size) (hz2 : i0.bytes = bytes) (hzs : z.cells.size = size) (hsz : 0 < size) (z23 : ∀ w, (Go.sizeOf 3).run Tryz.prog w = .ok size w) (b off n c : Nat) (news : List Value) (w : World) (hl : news.length = n * size) (hn : n ≤ maxLen) (hbig : n * bytes ≤ 140737488355328) (hc : ∀ j u, news[j]? = some u → w.cell? ⟨b, off + j, none⟩ = some u) (h1 : ∀ u ∈ news, u.oneCell' = true) :
    Calls Tryz.prog 49 #[.slice (some ⟨b, off, none⟩) n c] w fun e w' => ∃ v', e = .returned v' ∧ w'.ownsRow w.heap.size 3 size v' n news ∧ v' ≠ .slice none 0 0 ∧ Below w.heap.size w w' := AnyE.slices_Clone Tryz.laysSlE041_f49 i0 z size bytes hi hz0 hz1 hz2 hzs hsz z23 b off n c news w hl hn hbig hc h1
open Go.RowKit Go.Lib in
theorem Tryz.slices_Clone_nil (n c : Nat) (w : World) :
    Calls Tryz.prog 49 #[.slice none n c] w fun e w' => e = .returned (.slice none 0 0) ∧ w' = w := AnyE.slices_Clone_nil Tryz.laysSlE041_f49 n c w
def Tryz.laysSlH6_f95_ren : Go.Shelf.Ren := ⟨fun | 6 => 95 | n => n, fun | 22 => 87 | 23 => 9 | 25 => 34 | 3 => 3 | 0 => 0 | 4 => 4 | n => n, fun | n => n⟩
theorem Tryz.laysSlH6_f95 : Go.Proofs.SlLaysH.n6 Tryz.prog Tryz.laysSlH6_f95_ren := {
  mixed := by kernel_rfl
  f6 := ⟨Tryz.f95.name, by decide, Tryz.func95.trans (congrArg some (by kernel_rfl))⟩
  t0 := Tryz.underlying0
  a0 := Tryz.isAgg0
  z0 := Tryz.sizeOf0
  v0 := Tryz.zeroValue0
  t3 := Tryz.underlying3
  a3 := Tryz.isAgg3
  z3 := Tryz.sizeOf3
  v3 := Tryz.zeroValue3
  t4 := Tryz.underlying4
  a4 := Tryz.isAgg4
  z4 := Tryz.sizeOf4
  v4 := Tryz.zeroValue4
  t22 := Tryz.underlying87
  a22 := Tryz.isAgg87
  z22 := Tryz.sizeOf87
  v22 := Tryz.zeroValue87
  a23 := Tryz.isAgg9
  z23 := Tryz.sizeOf9
  t25 := Tryz.underlying34
  a25 := Tryz.isAgg34
  z25 := Tryz.sizeOf34
  v25 := Tryz.zeroValue34 }
open Go.RowKit Go.Lib in
theorem Tryz.slices_IndexFunc {α : Type} [Inhabited α] (enc : α → Value) (p : α → Bool) (g : Nat) (lb : Array Value) (eg : ∀ args w, (callFunc g args).run Tryz.prog w = .ok (.enter g args) w) (b off n c : Nat) (zs : List α) (w : World) (hp : PredAt Tryz.prog g lb enc p w) (hz : n ≤ zs.length) (hbig : n ≤ 9223372036854775807) (hc : ∀ j, j < zs.length → w.cell? ⟨b, off + j, none⟩ = some (enc zs[j]!)) :
    Calls Tryz.prog 95 #[.slice (some ⟨b, off, none⟩) n c, .func (.func g) #[] lb] w fun e w' => e = .returned (.int .i64 (Lib.idxBy (fun _ y => p y) (zs.take n) default)) ∧ ∃ q, w' = w.drewN q := AnyE.slices_IndexFunc Tryz.laysSlH6_f95 enc p g lb eg b off n c zs w hp hz hbig hc
open Go.RowKit Go.Lib in
theorem Tryz.slices_IndexFunc_empty {α : Type} [Inhabited α] (a : Option Addr) (c : Nat) (fv : Value) (w : World) :
    Calls Tryz.prog 95 #[.slice a 0 c, fv] w fun e w' => e = .returned (.int .i64 (-1)) ∧ w' = w := AnyE.slices_IndexFunc_empty Tryz.laysSlH6_f95 a c fv w
def Tryz.laysSlH8_f79_ren : Go.Shelf.Ren := ⟨fun | 8 => 79 | 6 => 95 | n => n, fun | 22 => 87 | 23 => 9 | 25 => 34 | 4 => 4 | 3 => 3 | 0 => 0 | n => n, fun | n => n⟩
theorem Tryz.laysSlH8_f79 : Go.Proofs.SlLaysH.n8 Tryz.prog Tryz.laysSlH8_f79_ren := {
  mixed := by kernel_rfl
  f6 := ⟨Tryz.f95.name, by decide, Tryz.func95.trans (congrArg some (by kernel_rfl))⟩
  f8 := ⟨Tryz.f79.name, by decide, Tryz.func79.trans (congrArg some (by kernel_rfl))⟩
  t0 := Tryz.underlying0
  a0 := Tryz.isAgg0
  z0 := Tryz.sizeOf0
  v0 := Tryz.zeroValue0
  t3 := Tryz.underlying3
  a3 := Tryz.isAgg3
  z3 := Tryz.sizeOf3
  v3 := Tryz.zeroValue3
  t4 := Tryz.underlying4
  a4 := Tryz.isAgg4
  z4 := Tryz.sizeOf4
  v4 := Tryz.zeroValue4
  t22 := Tryz.underlying87
  a22 := Tryz.isAgg87
  z22 := Tryz.sizeOf87
  v22 := Tryz.zeroValue87
  a23 := Tryz.isAgg9
  z23 := Tryz.sizeOf9
  t25 := Tryz.underlying34
  a25 := Tryz.isAgg34
  z25 := Tryz.sizeOf34
  v25 := Tryz.zeroValue34 }
open Go.RowKit Go.Lib in
theorem Tryz.slices_ContainsFunc {α : Type} [Inhabited α] (enc : α → Value) (p : α → Bool) (g : Nat) (lb : Array Value) (eg : ∀ args w, (callFunc g args).run Tryz.prog w = .ok (.enter g args) w) (b off n c : Nat) (zs : List α) (w : World) (hp : PredAt Tryz.prog g lb enc p w) (hz : n ≤ zs.length) (hbig : n ≤ 9223372036854775807) (hc : ∀ j, j < zs.length → w.cell? ⟨b, off + j, none⟩ = some (enc zs[j]!)) :
    Calls Tryz.prog 79 #[.slice (some ⟨b, off, none⟩) n c, .func (.func g) #[] lb] w fun e w' => e = .returned (.bool ((zs.take n).any p)) ∧ ∃ q, w' = w.drewN q := AnyE.slices_ContainsFunc Tryz.laysSlH8_f79 enc p g lb eg b off n c zs w hp hz hbig hc
open Go.RowKit Go.Lib in
theorem Tryz.slices_ContainsFunc_empty {α : Type} [Inhabited α] (a : Option Addr) (c : Nat) (fv : Value) (w : World) :
    Calls Tryz.prog 79 #[.slice a 0 c, fv] w fun e w' => e = .returned (.bool false) ∧ w' = w := AnyE.slices_ContainsFunc_empty Tryz.laysSlH8_f79 a c fv w
def Tryz.laysnb115_ren : Go.Shelf.Ren := ⟨fun | 115 => 40 | n => n, fun | 37 => 42 | 4 => 4 | 9 => 9 | 5 => 5 | n => n, fun | n => n⟩
theorem Tryz.laysnb115 : Go.Proofs.Lays.nb115 Tryz.prog Tryz.laysnb115_ren := {
  mixed := by kernel_rfl
  f115 := Tryz.func40.trans (congrArg some (by kernel_rfl))
  t4 := Tryz.underlying4
  a4 := Tryz.isAgg4
  z4 := Tryz.sizeOf4
  v4 := Tryz.zeroValue4
  t9 := Tryz.underlying9
  a9 := Tryz.isAgg9
  z9 := Tryz.sizeOf9
  v9 := Tryz.zeroValue9
  t37 := Tryz.underlying42
  a37 := Tryz.isAgg42
  z37 := Tryz.sizeOf42
  v37 := Tryz.zeroValue42
  t5 := Tryz.underlying5
  a5 := Tryz.isAgg5
  z5 := Tryz.sizeOf5
  v5 := Tryz.zeroValue5 }
theorem Tryz.bytes_Equal_all (p1 p2 : Option Addr) (n c m d : Nat) (xs ys : List Int) (w : World) (hx : xs.length = n) (hy : ys.length = m) (h1 : Lib.BytesIn w p1 n xs) (h2 : Lib.BytesIn w p2 m ys) :
    Calls Tryz.prog 40 #[.slice p1 n c, .slice p2 m d] w fun e w' => e = .returned (.bool (Lib.bytesOf xs == Lib.bytesOf ys)) ∧ w' = w := Any.bytes_Equal_all Tryz.laysnb115 p1 p2 n c m d xs ys w hx hy h1 h2
def Tryz.lays115_ren : Go.Shelf.Ren := ⟨fun | 115 => 40 | n => n, fun | 37 => 42 | 4 => 4 | 9 => 9 | 5 => 5 | n => n, fun | n => n⟩
theorem Tryz.lays115 : Go.Proofs.Lays.n115 Tryz.prog Tryz.lays115_ren := {
  mixed := by kernel_rfl
  f115 := Tryz.func40.trans (congrArg some (by kernel_rfl))
  t4 := Tryz.underlying4
  a4 := Tryz.isAgg4
  z4 := Tryz.sizeOf4
  v4 := Tryz.zeroValue4
  t9 := Tryz.underlying9
  a9 := Tryz.isAgg9
  z9 := Tryz.sizeOf9
  v9 := Tryz.zeroValue9
  t37 := Tryz.underlying42
  a37 := Tryz.isAgg42
  z37 := Tryz.sizeOf42
  v37 := Tryz.zeroValue42 }
theorem Tryz.bytes_Equal (v1 v2 : Value) (xs ys : List Int) (w : World) (h1 : (convert 42 9 v1).run Tryz.prog w = .ok (.string (strOfNums xs)) w) (h2 : (convert 42 9 v2).run Tryz.prog w = .ok (.string (strOfNums ys)) w) :
    Calls Tryz.prog 40 #[v1, v2] w fun e w' => e = .returned (.bool (Lib.bytesOf xs == Lib.bytesOf ys)) ∧ w' = w := Any.bytes_Equal Tryz.lays115 v1 v2 xs ys w h1 h2
end Go.Proofs
end
section
namespace Go.Proofs.YtiffgjodbcploaaGreat
set_option maxRecDepth 100000
open Go.RowKit Go.BigFrame Go.Sort Go.Shelf Go.Lib
attribute [local go_sem ↓] Go.wp_at_zero Go.wp_at_succ
def okByte (b : UInt8) : Bool := (decide (97 ≤ b.toNat) && decide (b.toNat ≤ 122)) || (decide (48 ≤ b.toNat) && decide (b.toNat ≤ 57)) || b.toNat == 46 || b.toNat == 45
def badRune (r : Nat) : Bool := !((decide (97 ≤ r) && decide (r ≤ 122)) || (decide (48 ≤ r) && decide (r ≤ 57)) || r == 46 || r == 45)
def nameB (s : List UInt8) : Bool := !s.isEmpty && decide (s.length ≤ 32) && s.all okByte
theorem badRune_high {r : Nat} (h : 128 ≤ r) : badRune r = true := by
  unfold badRune
  simp
  omega
theorem badRune_byte (b : UInt8) : badRune b.toNat = !okByte b := rfl
theorem idx_bad (l : List UInt8) : ∀ (f pos : Nat), l.length ≤ pos + f → (0 ≤ Lib.idxFuncFrom badRune true ⟨l.toArray⟩ f pos ↔ ∃ b ∈ l.drop pos, okByte b = false)
  | 0, pos, h => by
    rw [List.drop_eq_nil_of_le (by omega)]
    simp [Lib.idxFuncFrom]
  | f + 1, pos, h => by
    unfold Lib.idxFuncFrom
    by_cases hp : pos < l.length
    · have hs : pos < (⟨l.toArray⟩ : ByteArray).size := by rw [ba_size]; exact hp
      rw [if_pos hs]
      have hd : l.drop pos = l[pos] :: l.drop (pos + 1) := List.drop_eq_getElem_cons hp
      have hb : (⟨l.toArray⟩ : ByteArray)[pos]'hs = l[pos] := rfl
      by_cases ha : l[pos].toNat < 128
      · rw [decode_ascii _ _ hs (by rw [hb]; exact ha), hb]
        dsimp only
        by_cases ho : okByte l[pos] = true
        · have := idx_bad l f (pos + 1) (by omega)
          rw [if_neg (by rw [badRune_byte, ho]; simp), this, hd]
          refine ⟨fun ⟨b, h1, h2⟩ => ⟨b, List.mem_cons_of_mem _ h1, h2⟩, fun ⟨b, h1, h2⟩ => ?_⟩
          rcases List.mem_cons.1 h1 with rfl | h1
          · rw [ho] at h2; cases h2
          · exact ⟨b, h1, h2⟩
        · have ho' : okByte l[pos] = false := by simpa using ho
          rw [if_pos (by rw [badRune_byte, ho']; rfl), hd]
          refine ⟨fun _ => ⟨l[pos], List.mem_cons_self, ho'⟩, fun _ => by omega⟩
      · have hh := decode_high _ _ hs (by rw [hb]; omega)
        rw [if_pos (badRune_high hh.1)]
        refine ⟨fun _ => ⟨l[pos], by rw [hd]; exact List.mem_cons_self, ?_⟩, fun _ => by omega⟩
        unfold okByte
        simp
        omega
    · rw [if_neg (by rw [ba_size]; exact hp), List.drop_eq_nil_of_le (by omega)]
      simp
theorem idx_name (l : List UInt8) : decide (0 ≤ Lib.idxFunc badRune true ⟨l.toArray⟩) = !l.all okByte := by
  have h := idx_bad l (⟨l.toArray⟩ : ByteArray).size 0 (by rw [ba_size]; omega)
  rw [List.drop_zero] at h
  unfold Lib.idxFunc
  rw [Bool.eq_iff_iff, decide_eq_true_iff, h]
  simp
set_option maxHeartbeats 2000000 in
theorem named1 (w : World) : PredAt Tryz.prog 75 #[] encR badRune w := fun W r _ => by
  unfold FnGives
  rcases (by omega : r < 45 ∨ r = 45 ∨ r = 46 ∨ r = 47 ∨ (48 ≤ r ∧ r ≤ 57) ∨ (58 ≤ r ∧ r < 97) ∨ (97 ≤ r ∧ r ≤ 122) ∨ 122 < r) with h | h | h | h | h | h | h | h
  all_goals
    have z1 : ((r : Int) < 97) ↔ r < 97 := by omega
    have z2 : (122 < (r : Int)) ↔ 122 < r := by omega
    have z3 : ((r : Int) < 48) ↔ r < 48 := by omega
    have z4 : (57 < (r : Int)) ↔ 57 < r := by omega
    have z5 : ((r : Int) = 46) ↔ r = 46 := by omega
    have z6 : ((r : Int) = 45) ↔ r = 45 := by omega
    go_enter Tryz.func75, Tryz.ntmps75
    go_wp2
    all_goals first | (exfalso; omega) | (go_ret; exact ⟨ret_bool (by rw [Bool.eq_iff_iff]; simp [badRune]; omega), 0, rfl⟩)
set_option maxHeartbeats 2000000 in
theorem named_any (s : List UInt8) (w : World) (hl : s.length ≤ 140737488355328) :
    Calls Tryz.prog 45 #[.string ⟨s.toArray⟩] w fun r w' => r = .returned (.bool (nameB s)) ∧ Below w.heap.size w w' := by
  have HC := fun W => Tryz.strings_ContainsFunc 75 #[] (enters_of Tryz.func75 (by kernel_rfl) rfl) badRune ⟨s.toArray⟩ W (named1 W)
  simp only [idx_name] at HC
  have hsz : (⟨s.toArray⟩ : ByteArray).size = s.length := ba_size s
  cases s with
  | nil =>
    go_enter Tryz.func45, Tryz.ntmps45
    go_wp2
    go_ret
    exact ⟨rfl, Below.refl _ _⟩
  | cons b l =>
    have hb : nameB (b :: l) = (decide ((b :: l).length ≤ 32) && (b :: l).all okByte) := rfl
    by_cases h32 : l.length + 1 ≤ 32
    · go_enter Tryz.func45, Tryz.ntmps45
      go_wp2_with (go_at_call 74; refine (HC _).mono ?_; rintro r w1 ⟨rfl, hb1⟩)
      all_goals first | (exfalso; omega) | skip
      go_ret
      exact ⟨ret_bool (by rw [hb]; simp [h32]), hb1⟩
    · go_enter Tryz.func45, Tryz.ntmps45
      go_wp2
      all_goals first | (exfalso; omega) | skip
      go_ret
      exact ⟨rfl, Below.refl _ _⟩
end Go.Proofs.YtiffgjodbcploaaGreat
end
section
namespace Go.Proofs.YtiffgjodbcploaaGreat
set_option maxRecDepth 100000
open Go.RowKit Go.BigFrame Go.Sort Go.Shelf Go.Lib Go.Maps
abbrev Nm := List UInt8
/-- a file of the disk, with the block of its struct and the slice that holds its bytes. -/
structure Fd where
  name : Nm
  data : List UInt8
  synced : Int
  blk : Nat
  sl : Value
structure Dk where
  ns : List Fd
  ops : Int
  room : Int
  keep : List Int
  done : Int
  bytes : Int
  down : Bool
def findF (x : Nm) : List Fd → Option Fd
  | [] => none
  | f :: l => if f.name = x then some f else findF x l
def insF (f : Fd) : List Fd → List Fd
  | [] => [f]
  | g :: l => if f.name < g.name then f :: g :: l else if f.name = g.name then f :: l else g :: insF f l
def delF (x : Nm) : List Fd → List Fd
  | [] => []
  | f :: l => if f.name = x then delF x l else f :: delF x l
def updF (x : Nm) (g : Fd → Fd) (ns : List Fd) : List Fd := ns.map fun f => if f.name = x then g f else f
def sortedF (ns : List Fd) : Prop := ns.Pairwise fun a b => a.name < b.name
def ptrF (o : Option Fd) : Value := .pointer (o.map fun f => (⟨f.blk, 0, none⟩ : Addr))
/-- how a pointer to a file reads in the map's datum. -/
def ptrR : Value → Option (DataW Unit × List MemPlace)
  | .pointer none => some (.lit (.bool false), [])
  | .pointer (some ⟨b, 0, none⟩) => some (.lit (.int .i64 b), [])
  | _ => none
def datF (o : Option Fd) : DataW Unit := match o with | some f => .lit (.int .i64 f.blk) | none => .lit (.bool false)
theorem ptrR_ptrF (o : Option Fd) : ptrR (ptrF o) = some (datF o, []) := by cases o <;> rfl
theorem ptrR_inv {v : Value} {o : Option Fd} {ps : List MemPlace} (h : ptrR v = some (datF o, ps)) : v = ptrF o := by
  unfold ptrR at h
  split at h
  · cases o with
    | none => rfl
    | some f => simp [datF] at h
  · cases o with
    | none => simp [datF] at h
    | some f =>
      simp only [datF, Option.some.injEq, Prod.mk.injEq, DataW.lit.injEq, Lit.int.injEq, true_and] at h
      obtain ⟨h, _⟩ := h
      have h : _ = f.blk := Int.ofNat.inj h
      subst h
      rfl
  · cases h
/-- the datum of the map reads as these files. -/
structure MapIs (D : DataW Unit) (ns : List Fd) : Prop where
  at_ : ∀ x, D.atKey (.string x) (.lit (.bool false)) = datF (findF x ns)
  has : ∀ x, Maps.has D (.string x) = (findF x ns).isSome
  size : Maps.size D = ns.length
theorem find_ins (x : Nm) (f : Fd) (ns : List Fd) : findF x (insF f ns) = if f.name = x then some f else findF x ns := by
  induction ns with
  | nil => rfl
  | cons g l ih =>
    unfold insF
    split
    · rfl
    · split
      · rename_i h1 h2
        simp only [findF, h2]
        split <;> rfl
      · rename_i h1 h2
        simp only [findF, ih]
        by_cases hg : g.name = x
        · have : ¬ f.name = x := fun e => h2 (e.trans hg.symm)
          simp only [if_pos hg, if_neg this]
        · simp only [if_neg hg]
theorem find_del (x y : Nm) (ns : List Fd) : findF x (delF y ns) = if x = y then none else findF x ns := by
  induction ns with
  | nil => simp [delF, findF]
  | cons g l ih =>
    unfold delF
    split
    · rename_i h
      rw [ih]
      by_cases hx : x = y
      · simp only [if_pos hx]
      · have : ¬ g.name = x := fun e => hx (e.symm.trans h)
        simp only [if_neg hx, findF, if_neg this]
    · rename_i h
      simp only [findF, ih]
      by_cases hg : g.name = x
      · have : ¬ x = y := fun e => h (hg.trans e)
        simp only [if_pos hg, if_neg this]
      · simp only [if_neg hg]
theorem find_upd (x y : Nm) (g : Fd → Fd) (hg : ∀ f, (g f).name = f.name) (ns : List Fd) : findF x (updF y g ns) = if x = y then (findF x ns).map g else findF x ns := by
  induction ns with
  | nil => simp [updF, findF]
  | cons f l ih =>
    have e : updF y g (f :: l) = (if f.name = y then g f else f) :: updF y g l := rfl
    rw [e]
    simp only [findF, ih]
    by_cases hf : f.name = y
    · simp only [if_pos hf, hg]
      by_cases hx : f.name = x
      · simp [hx, hf.symm.trans hx]
      · simp only [if_neg hx]
    · simp only [if_neg hf]
      by_cases hx : f.name = x
      · have : ¬ x = y := fun e => hf (hx.trans e)
        simp only [if_pos hx, if_neg this]
      · simp only [if_neg hx]
theorem find_name {x : Nm} {ns : List Fd} {f : Fd} (h : findF x ns = some f) : f.name = x ∧ f ∈ ns := by
  induction ns with
  | nil => cases h
  | cons g l ih =>
    unfold findF at h
    split at h
    · injection h with h
      subst h
      exact ⟨by assumption, List.mem_cons_self⟩
    · exact ⟨(ih h).1, List.mem_cons_of_mem _ (ih h).2⟩
theorem find_none {x : Nm} {ns : List Fd} : findF x ns = none ↔ ∀ f ∈ ns, f.name ≠ x := by
  induction ns with
  | nil => simp [findF]
  | cons g l ih =>
    unfold findF
    split
    · rename_i h
      simp [h]
    · rename_i h
      simp [ih, h]
theorem mem_ins {f g : Fd} {ns : List Fd} (h : g ∈ insF f ns) : g = f ∨ g ∈ ns := by
  induction ns with
  | nil => simpa [insF] using h
  | cons a l ih =>
    unfold insF at h
    split at h
    · simpa using h
    · split at h
      · rcases List.mem_cons.1 h with h | h
        · exact .inl h
        · exact .inr (List.mem_cons_of_mem _ h)
      · rcases List.mem_cons.1 h with h | h
        · exact .inr (by rw [h]; exact List.mem_cons_self)
        · rcases ih h with h | h
          · exact .inl h
          · exact .inr (List.mem_cons_of_mem _ h)
theorem mem_del {y : Nm} {g : Fd} {ns : List Fd} : g ∈ delF y ns ↔ g ∈ ns ∧ g.name ≠ y := by
  induction ns with
  | nil => simp [delF]
  | cons a l ih =>
    unfold delF
    split
    · rename_i h
      simp only [ih, List.mem_cons]
      exact ⟨fun ⟨h1, h2⟩ => ⟨.inr h1, h2⟩, fun ⟨h1, h2⟩ => ⟨h1.resolve_left (fun e => h2 (e ▸ h)), h2⟩⟩
    · rename_i h
      simp only [List.mem_cons, ih]
      exact ⟨fun h1 => h1.elim (fun e => ⟨.inl e, e ▸ h⟩) (fun h => ⟨.inr h.1, h.2⟩), fun ⟨h1, h2⟩ => h1.elim .inl (fun h => .inr ⟨h, h2⟩)⟩
theorem sub_del (y : Nm) (ns : List Fd) : (delF y ns).Sublist ns := by
  induction ns with
  | nil => exact .slnil
  | cons a l ih => unfold delF; split; exact .cons _ ih; exact .cons_cons _ ih
theorem lt_tri (a b : Nm) (h1 : ¬ a < b) (h2 : ¬ a = b) : b < a := by
  rcases Std.lt_trichotomy a b with h | h | h
  · exact absurd h h1
  · exact absurd h h2
  · exact h
theorem sorted_ins {f : Fd} {ns : List Fd} (h : sortedF ns) : sortedF (insF f ns) := by
  induction ns with
  | nil => exact List.pairwise_singleton _ _
  | cons a l ih =>
    have ha := (List.pairwise_cons.1 h).1
    have hl := (List.pairwise_cons.1 h).2
    unfold insF
    split
    · rename_i h1
      refine List.pairwise_cons.2 ⟨fun x hx => ?_, h⟩
      rcases List.mem_cons.1 hx with rfl | hx
      · exact h1
      · exact List.lt_trans h1 (ha x hx)
    · split
      · rename_i h1 h2
        exact List.pairwise_cons.2 ⟨fun x hx => by show f.name < x.name; rw [h2]; exact ha x hx, hl⟩
      · rename_i h1 h2
        refine List.pairwise_cons.2 ⟨fun x hx => ?_, ih hl⟩
        rcases mem_ins hx with rfl | hx
        · exact lt_tri _ _ h1 h2
        · exact ha x hx
theorem sorted_del {y : Nm} {ns : List Fd} (h : sortedF ns) : sortedF (delF y ns) := h.sublist (sub_del y ns)
theorem sorted_upd {y : Nm} {g : Fd → Fd} (hg : ∀ f, (g f).name = f.name) {ns : List Fd} (h : sortedF ns) : sortedF (updF y g ns) := by
  unfold sortedF updF
  rw [List.pairwise_map]
  refine h.imp fun {a b} hab => ?_
  show (if a.name = y then g a else a).name < (if b.name = y then g b else b).name
  have e : ∀ f : Fd, (if f.name = y then g f else f).name = f.name := fun f => by split <;> simp [hg]
  rw [e, e]
  exact hab
end Go.Proofs.YtiffgjodbcploaaGreat
end
