/-
frame.Sum, frame.Put.
-/
import Derived.Test.YtjnolpfmchnnmaaGreatDoorQPNil7
import Derived.Test.YtjnolpfmchnnmaaGreatDoorQPNil2
import Derived.Deep.Cut
import Derived.OwnWalk
section
namespace Go.Proofs.YtjnolpfmchnnmaaGreatDoor
set_option maxRecDepth 100000
open Go.RowKit Go.BigFrame
attribute [local go_sem ↓] Go.wp_at_zero Go.wp_at_succ
def BytsV (w : World) (S : Nat → Prop) (v : Value) (ps : List (List UInt8)) : Prop :=
  ∃ (A : Option Addr) (c : Nat) (vs : List Value), v = .slice A ps.length c ∧ ps.length ≤ c ∧ c ≤ 9223372036854775807 ∧ Row w S A ps.length 1 vs ∧ ∀ (i : Nat) (p : List UInt8), ps[i]? = some p → ∃ x, vs[i]? = some x ∧ Byt w S x p
theorem BytsV.below {w w' : World} {S : Nat → Prop} {v : Value} {ps : List (List UInt8)} (h : BytsV w S v ps) (hb : Below w.heap.size w w') : BytsV w' S v ps := by
  obtain ⟨A, c, vs, e, h1, h2, h3, h4⟩ := h
  exact ⟨A, c, vs, e, h1, h2, h3.below hb, fun i p hp => by obtain ⟨x, hx, hy⟩ := h4 i p hp; exact ⟨x, hx, hy.below hb⟩⟩
theorem crcGo_append (c : Nat) (a b : List UInt8) : crcGo c (a ++ b) = crcGo (crcGo c a) b := by unfold crcGo; rw [List.foldl_append]
theorem crcTab_lt {i : Nat} (h : i < 256) : crcTab i < 4294967296 := crcIt_lt (show i < 4294967296 by omega) 8
theorem crcIdx_lt {c : Nat} (x : UInt8) : (c % 256) ^^^ x.toNat < 256 := Nat.xor_lt_two_pow (n := 8) (Nat.mod_lt _ (by decide)) x.toNat_lt
theorem crcStep_lt {c : Nat} (h : c < 4294967296) (x : UInt8) : crcStep c x < 4294967296 := by
  unfold crcStep
  exact Nat.xor_lt_two_pow (n := 32) (crcTab_lt (crcIdx_lt x)) (by rw [Nat.shiftRight_eq_div_pow]; omega)
theorem crcGo_lt : ∀ {c : Nat} (_ : c < 4294967296) (bs : List UInt8), crcGo c bs < 4294967296
  | _, h, [] => h
  | _, h, x :: bs => crcGo_lt (crcStep_lt h x) bs
theorem crcGo_snoc {c : Nat} {bs : List UInt8} {j : Nat} {x : UInt8} (h : bs[j]? = some x) : crcGo c (bs.take (j + 1)) = crcStep (crcGo c (bs.take j)) x := by
  rw [take_snoc h, crcGo_append]
  rfl
theorem sumN_lt (bs : List UInt8) : sumN bs < 4294967296 := Nat.xor_lt_two_pow (n := 32) (by decide) (crcGo_lt (by decide) bs)
set_option maxRecDepth 100000 in
set_option maxHeartbeats 4000000 in
theorem sum_any (S : Nat → Prop) (v : Value) (ps : List (List UInt8)) (w : World) (hv : BytsV w S v ps) :
    Calls Tryz.prog 123 #[v] w fun r w' => r = .returned (.int .u32 (sumN ps.flatten : Nat)) ∧ fr w w' := by
  have hz : ∀ w, (zeroValue 279).run Tryz.prog w = .ok (.agg (tabTo 0)) w := fun w => by rw [← tabTo_zero]; exact Tryz.zeroValue279 w
  have HV := Lib.hid hv
  obtain ⟨A, c, vs, rfl, hc, hcm, hr, he⟩ := hv
  obtain ⟨n, hn⟩ : ∃ n, ps.length = n := ⟨_, rfl⟩
  rw [hn] at hr hc ⊢
  have HN := Lib.hid hn
  have HE := Lib.hid he
  have HR := Lib.hid hr
  have hi2 : (Tryz.prog.info? 279).map (·.size) = some (tabTo 256).size := by rw [tabTo_size]; kernel_rfl
  have hq1 : (tabTo 256).all (·.oneCell') = true := by
    rw [Array.all_eq_true_iff_forall_mem]
    intro v hv
    unfold tabTo at hv
    simp only [List.mem_toArray, List.mem_map, List.mem_range] at hv
    obtain ⟨j, _, rfl⟩ := hv
    split <;> rfl
  have hst : ∀ w1 : World, (storeCells ⟨w1.heap.size, 0, none⟩ (tabTo 256).toList 0).run Tryz.prog (w1.alloc (.cells (tabTo 0) 279)) = .ok () (w1.alloc (.cells (tabTo 256) 279)) := fun w1 =>
    run_storeCells_new (P := Tryz.prog) w1 279 (tabTo 0) (tabTo 256) hi2 (by rw [tabTo_size, tabTo_size]) hq1
  clear hn hr he HV
  go_enter Tryz.func123, Tryz.ntmps123
  go_wp2_with (go_at_call 193; refine (table_any _).mono ?_; rintro r w1 ⟨rfl, f1⟩)
  have hp : (w1.alloc (.cells (tabTo 256) 279)).heap[w1.heap.size]? = some (.cells (tabTo 256) 279 (0, 0)) := heap_alloc_new w1 _
  have hfr : fr w (w1.alloc (.cells (tabTo 256) 279)) := fr.alloc f1 _
  have hzw := Below.size f1
  generalize hb : w1.heap.size = B at hp hzw ⊢
  generalize hw : w1.alloc (.cells (tabTo 256) 279) = w2 at hp hfr ⊢
  clear hw hb f1 hst
  have HP := Lib.hid hp
  have HF := Lib.hid hfr
  have HT : Hid (∀ x : Nat, x < 256 → w2.cell? ⟨B, x, none⟩ = some (.int .u32 (crcTab x : Nat))) := Lib.hid fun x hx => by rw [cell_of_row w2 B x _ _ _ HP.out, tabTo_at hx, if_pos hx]
  clear hp hfr hi2 hq1 hz
  go_loopw [4, 12] (fun x t wr => ∃ k : Nat, k ≤ n ∧ t = .int .i64 k ∧ x = .int .u32 (crcGo 4294967295 (ps.take k).flatten : Nat) ∧ wr = w2) (fun _ t _ => n - (intOf t).toNat)
  case atStart => exact ⟨0, Nat.zero_le _, rfl, rfl, rfl⟩
  case round =>
    obtain ⟨k, hk, rfl, rfl, rfl⟩ := hrel
    obtain ⟨c0, hc0⟩ : ∃ c, crcGo 4294967295 (ps.take k).flatten = c := ⟨_, rfl⟩
    have hlt0 : c0 < 4294967296 := by rw [← hc0]; exact crcGo_lt (by decide) _
    have HC0 := Lib.hid hc0
    rw [hc0]
    clear hc0
    by_cases hkn : k < n
    · obtain ⟨p, hpk⟩ : ∃ p, ps[k]? = some p := ⟨_, List.getElem?_eq_getElem (by rw [HN.out]; exact hkn)⟩
      obtain ⟨x, hx, hxe⟩ := HE.out k p hpk
      obtain ⟨b, o, u, rfl, _, _, hu, hcell⟩ := (HR.out.below HF.out).at_ hkn
      obtain rfl : u = x := by rw [hx] at hu; injection hu with hu; exact hu.symm
      obtain ⟨A1, c1, rfl⟩ := slice_form hxe
      have hl1 := hxe.len
      obtain ⟨m, hm⟩ : ∃ m, p.length = m := ⟨_, rfl⟩
      rw [hm] at hxe hcell hl1
      have HM := Lib.hid hm
      obtain ⟨A', c', hE, _, _, _, hrow⟩ := hxe.below HF.out
      injection hE with e1 e2 e3
      subst e1
      have HRW := Lib.hid hrow
      have HPK := Lib.hid hpk
      clear hx hu hxe e3 hrow hpk hm e2
      go_wp2
      clear hcell
      go_loopw [4, 18] (fun x t wx => ∃ j : Nat, j ≤ m ∧ t = .int .i64 j ∧ x = .int .u32 (crcGo c0 (p.take j) : Nat) ∧ wx = wr) (fun _ t _ => m - (intOf t).toNat)
      case atStart => exact ⟨0, Nat.zero_le _, rfl, rfl, rfl⟩
      case round =>
        obtain ⟨j, hj, rfl, rfl, rfl⟩ := hrel
        by_cases hjm : j < m
        · obtain ⟨y, hy⟩ : ∃ y, p[j]? = some y := ⟨_, List.getElem?_eq_getElem (by rw [HM.out]; exact hjm)⟩
          have hsn := crcGo_snoc (c := c0) hy
          obtain ⟨c2, hc2⟩ : ∃ c, crcGo c0 (p.take j) = c := ⟨_, rfl⟩
          have hlt2 : c2 < 4294967296 := by rw [← hc2]; exact crcGo_lt hlt0 _
          rw [hc2] at hsn ⊢
          have HSN := Lib.hid hsn
          obtain ⟨b3, o3, u3, rfl, _, _, hu3, hcell3⟩ := HRW.out.at_ (k := j) (by rw [HM.out]; exact hjm)
          obtain rfl : u3 = bcell y := by rw [List.getElem?_map, hy] at hu3; injection hu3 with hu; exact hu.symm
          have hix := crc_index (c := c2) y.toNat_lt
          have hil := crcIdx_lt (c := c2) y
          have htab := HT.out _ hil
          have hmix := crc_mix (crcTab_lt hil) hlt2
          obtain ⟨ix, hixe⟩ : ∃ i, (c2 % 256) ^^^ y.toNat = i := ⟨_, rfl⟩
          have HIX := Lib.hid hixe
          rw [hixe] at hix hil htab hmix
          unfold bcell at hcell3
          clear hu3 hy hc2 hsn hixe
          go_wp2
          exact ⟨⟨j + 1, by omega, by go_num, by rw [HSN.out]; unfold crcStep; rw [HIX.out], trivial⟩, by simp [intOf]; omega⟩
        · obtain rfl : j = m := by omega
          have htk : p.take j = p := List.take_of_length_le (by rw [HM.out]; exact Nat.le_refl _)
          have hnx : crcGo 4294967295 (ps.take (k + 1)).flatten = crcGo c0 p := by
            rw [take_snoc HPK.out, List.flatten_append, List.flatten_singleton, crcGo_append, HC0.out]
          rw [htk]
          have HNX := Lib.hid hnx
          clear htk hnx
          go_wp2
          exact ⟨⟨k + 1, by omega, by go_num, by rw [HNX.out], trivial⟩, by simp [intOf]; omega⟩
    · obtain rfl : k = n := by omega
      have htk : ps.take k = ps := List.take_of_length_le (by rw [HN.out]; exact Nat.le_refl _)
      rw [htk] at HC0
      clear htk
      go_wp2
      refine bodyPost_ret (v := .int .u32 _) (by simp [results, Tryz.results123, go_sem]; rfl) rfl ?_
      refine ⟨?_, HF.out⟩
      unfold sumN
      rw [HC0.out]
      have := xor_nat .u32 32 (by decide) wraps32 4294967295 c0 (by decide) hlt0
      rw [show IntKind.u32.max = ((4294967295 : Nat) : Int) by decide, this]
end Go.Proofs.YtjnolpfmchnnmaaGreatDoor
end
section
namespace Go.Proofs.YtjnolpfmchnnmaaGreatDoor
set_option maxRecDepth 100000
open Go.RowKit Go.BigFrame
attribute [local go_sem ↓] Go.wp_at_zero Go.wp_at_succ
abbrev OwnF (w : World) (lo : Nat) (v : Value) (bs : List UInt8) : Prop := OwnB w (fun i => lo ≤ i) v bs
theorem byte_of {n : Nat} : Value.int .u8 ((n : Int) % 256) = bcell (UInt8.ofNat n) := by
  unfold bcell
  congr 1
theorem le32_cells (n : Nat) : (#[.int .u8 ((n : Int) % 256), .int .u8 ((n : Int) / 256 % 256), .int .u8 ((n : Int) / 65536 % 256), .int .u8 ((n : Int) / 16777216 % 256)] : Array Value) = ((le32 n).map bcell).toArray := by
  have e1 : ((n : Int) / 256) = ((n / 256 : Nat) : Int) := by simp
  have e2 : ((n : Int) / 65536) = ((n / 65536 : Nat) : Int) := by simp
  have e3 : ((n : Int) / 16777216) = ((n / 16777216 : Nat) : Int) := by simp
  rw [e1, e2, e3, byte_of, byte_of, byte_of, byte_of]
  rfl
theorem or_hi {v c i : Nat} (hv : v < 2 ^ i) : v ||| c * 2 ^ i = v + c * 2 ^ i := by
  rw [Nat.or_comm, Nat.mul_comm c, ← Nat.two_pow_add_eq_or_of_lt hv]
  omega
theorem or32 {v c i : Nat} (hv : v < 2 ^ i) (h : v + c * 2 ^ i < 4294967296) : bits .or .u32 (v : Int) ((c * 2 ^ i : Nat) : Int) = ((v + c * 2 ^ i : Nat) : Int) := by
  have := (bits_nat .u32 32 (by decide) wraps32 v (c * 2 ^ i) (by omega) (by omega)).2
  rw [this, or_hi hv]
theorem get_bits (x0 x1 x2 x3 : UInt8) : bits .or .u32 (bits .or .u32 (bits .or .u32 ((x0.toNat : Int) % 4294967296) ((x1.toNat : Int) % 4294967296 * 256 % 4294967296)) ((x2.toNat : Int) % 4294967296 * 65536 % 4294967296)) ((x3.toNat : Int) % 4294967296 * 16777216 % 4294967296) =
    ((x0.toNat + x1.toNat * 256 + x2.toNat * 65536 + x3.toNat * 16777216 : Nat) : Int) := by
  have h0 := x0.toNat_lt
  have h1 := x1.toNat_lt
  have h2 := x2.toNat_lt
  have h3 := x3.toNat_lt
  rw [show (x0.toNat : Int) % 4294967296 = (x0.toNat : Int) by omega, show (x1.toNat : Int) % 4294967296 * 256 % 4294967296 = ((x1.toNat * 2 ^ 8 : Nat) : Int) by omega,
    show (x2.toNat : Int) % 4294967296 * 65536 % 4294967296 = ((x2.toNat * 2 ^ 16 : Nat) : Int) by omega, show (x3.toNat : Int) % 4294967296 * 16777216 % 4294967296 = ((x3.toNat * 2 ^ 24 : Nat) : Int) by omega]
  rw [or32 (i := 8) (by omega) (by omega), or32 (i := 16) (by omega) (by omega), or32 (i := 24) (by omega) (by omega)]
theorem Byt.lit4 (w : World) (S : Nat → Prop) (hS : S w.heap.size) (bs : List UInt8) (o : Obj) (n : Nat) (hn : bs.length = n) (h4 : n ≤ 140737488355328) (ho : o = .cells (bs.map bcell).toArray 5 (0, 0)) : Byt (w.alloc o) S (.slice (some ⟨w.heap.size, 0, none⟩) n n) bs := by
  subst hn ho
  refine ⟨_, _, rfl, Nat.le_refl _, by omega, h4, by simp, fun _ => ⟨w.heap.size, 0, rfl, hS, by simp, fun j u hu => ?_⟩⟩
  rw [World.cell?_alloc_at _ _ _ _ rfl]
  simpa using hu
set_option maxRecDepth 100000 in
set_option maxHeartbeats 2000000 in
theorem put_any (lo n : Nat) (v : Value) (bs : List UInt8) (w : World) (hv : OwnF w lo v bs) (hn : n < 4294967296) (hl : bs.length + 4 ≤ 140737488355328) (hlo : lo ≤ w.heap.size) :
    Calls Tryz.prog 122 #[v, .int .u32 n] w fun r w' => ∃ A c, r = .returned (.slice A (bs.length + 4) c) ∧ OwnF w' lo (.slice A (bs.length + 4) c) (bs ++ le32 n) ∧ Below lo w w' := by
  obtain ⟨A, c, rfl⟩ := hv.form
  have HV := Lib.hid hv
  have HN := Lib.hid hn
  clear hv hn
  go_enter Tryz.func122, Tryz.ntmps122
  have hlt : Byt (w.alloc (.cells #[.int .u8 ((n : Int) % 256), .int .u8 ((n : Int) / 256 % 256), .int .u8 ((n : Int) / 65536 % 256), .int .u8 ((n : Int) / 16777216 % 256)] 5)) (fun _ => True) (.slice (some ⟨w.heap.size, 0, none⟩) 4 4) (le32 n) := Byt.lit4 w _ trivial (le32 n) _ 4 rfl (by omega) (by rw [le32_cells])
  have hal : OwnF (w.alloc (.cells #[.int .u8 ((n : Int) % 256), .int .u8 ((n : Int) / 256 % 256), .int .u8 ((n : Int) / 65536 % 256), .int .u8 ((n : Int) / 16777216 % 256)] 5)) lo (.slice A bs.length c) bs := HV.out.below (fr.alloc fr.refl _)
  go_wp2_with (at_builtin; refine wpList_append_ownB rfl _ _ rfl (fun i => lo ≤ i) (fun i => lo ≤ i) (.slice A bs.length c) _ rfl rfl (fun _ => True) bs (le32 n) hal hlt (by rw [le32_len]; exact hl) (fun _ h => h) (by rw [World.size_alloc]; omega) ?_; intro v2 w2 hown hgrow hat; obtain ⟨A2, c2, rfl⟩ := hown.form; rw [List.length_append, le32_len] at hown ⊢)
  refine bodyPost_ret (v := .slice A2 (bs.length + 4) c2) (by simp [results, Tryz.results122, go_sem]) rfl ?_
  refine ⟨A2, c2, rfl, hown, ?_⟩
  exact RowKit.Below.grown (B := lo) ((Below.refl lo w).alloc hlo _) hgrow (by rw [World.size_alloc]; omega) (fun j e => (HV.out.blk e).1)
set_option maxRecDepth 100000 in
set_option maxHeartbeats 2000000 in
theorem get_any (S : Nat → Prop) (v : Value) (bs : List UInt8) (w : World) (hv : Byt w S v bs) (h4 : 4 ≤ bs.length) :
    Calls Tryz.prog 237 #[v] w fun r w' => r = .returned (.int .u32 (un32 bs : Nat)) ∧ fr w w' := by
  obtain ⟨A, c, rfl, hc, hcm, hl, hr⟩ := hv
  obtain ⟨b, o, rfl, hS, hb, hcell⟩ := hr.2 (by omega)
  match bs, h4, hcell, hl with
  | x0 :: x1 :: x2 :: x3 :: rest, _, hcell, hl =>
    obtain ⟨n, hn⟩ : ∃ n, (x0 :: x1 :: x2 :: x3 :: rest).length = n := ⟨_, rfl⟩
    have hn4 : 4 ≤ n := by rw [← hn]; simp
    have c0 : w.cell? ⟨b, o, none⟩ = some (.int .u8 (x0.toNat : Int)) := hcell 0 _ rfl
    have c1 : w.cell? ⟨b, o + 1, none⟩ = some (.int .u8 (x1.toNat : Int)) := hcell 1 _ rfl
    have c2 : w.cell? ⟨b, o + 2, none⟩ = some (.int .u8 (x2.toNat : Int)) := hcell 2 _ rfl
    have c3 : w.cell? ⟨b, o + 3, none⟩ = some (.int .u8 (x3.toNat : Int)) := hcell 3 _ rfl
    have l0 : (0 : Int) < (n : Int) := by omega
    have l1 : (1 : Int) < (n : Int) := by omega
    have l2 : (2 : Int) < (n : Int) := by omega
    have l3 : (3 : Int) < (n : Int) := by omega
    have F0 : ∀ q : Ext w, q.w.cell? { block := b, off := o } = _ := fun q => q.h.cell c0
    have F1 : ∀ q : Ext w, q.w.cell? { block := b, off := o + 1 } = _ := fun q => q.h.cell c1
    have F2 : ∀ q : Ext w, q.w.cell? { block := b, off := o + 2 } = _ := fun q => q.h.cell c2
    have F3 : ∀ q : Ext w, q.w.cell? { block := b, off := o + 3 } = _ := fun q => q.h.cell c3
    rw [hn]
    clear hr hcell hn hl c0 c1 c2 c3
    go_enter Tryz.func237, Tryz.ntmps237
    go_wp2
    (refine wp_region_quiet_ext (by kernel_rfl) (by kernel_rfl) ?_; (repeat (go_big_quiet_step (fail))); refine wpQuiet_nil ?_; intro wq hw'; obtain ⟨⟨_, hq⟩, hw''⟩ := hw'; subst hw'')
    go_wp2
    refine bodyPost_ret (v := .int .u32 _) (by simp [results, Tryz.results237, go_sem]; rfl) rfl ?_
    exact ⟨by rw [get_bits]; rfl, hq⟩
end Go.Proofs.YtjnolpfmchnnmaaGreatDoor
end
section
namespace Go.Proofs.YtjnolpfmchnnmaaGreatDoor
set_option maxRecDepth 100000
open Go.RowKit Go.BigFrame
attribute [local go_sem ↓] Go.wp_at_zero Go.wp_at_succ
theorem BytsV.lit (w : World) (vs : List Value) (ps : List (List UInt8)) (n : Nat) (o : Obj) (ho : o = .cells vs.toArray 35 (0, 0)) (hn : ps.length = n) (hl : vs.length = n) (hb : n ≤ 9223372036854775807) (h : ∀ (i : Nat) (p : List UInt8), ps[i]? = some p → ∃ x, vs[i]? = some x ∧ Byt w (fun _ => True) x p) :
    BytsV (w.alloc o) (fun _ => True) (.slice (some ⟨w.heap.size, 0, none⟩) n n) ps := by
  subst hn ho
  refine ⟨_, _, vs, rfl, Nat.le_refl _, hb, ⟨by simp [hl], fun _ => ⟨w.heap.size, 0, rfl, trivial, by simp, fun j u hu => ?_⟩⟩, fun i p hp => by obtain ⟨x, hx, hy⟩ := h i p hp; exact ⟨x, hx, hy.below (fr.alloc fr.refl _)⟩⟩
  rw [World.cell?_alloc_at _ _ _ _ rfl]
  simpa using hu
set_option maxRecDepth 100000 in
set_option maxHeartbeats 4000000 in
theorem fput_any (S : Nat → Prop) (v : Value) (bs : List UInt8) (w : World) (hv : Byt w S v bs) :
    Calls Tryz.prog 73 #[v] w fun r w' => (bs.length ≤ 2097152 → ∃ A c, r = .returned (.tuple #[.slice A (bs.length + 8) c, .int .i64 0]) ∧ OwnF w' w.heap.size (.slice A (bs.length + 8) c) (putF bs)) ∧ (¬ bs.length ≤ 2097152 → r = .returned (.tuple #[.slice none 0 0, .int .i64 3])) ∧ fr w w' := by
  obtain ⟨i0, hi, hz0, hz1, hz2⟩ := info_parts info5
  have hby := Lib.hid hz2
  have hz1' := Lib.hid hz1
  clear hz2 hz1
  obtain ⟨A, c, rfl⟩ := slice_form hv
  have HV := Lib.hid hv
  obtain ⟨n, hn⟩ : ∃ n, bs.length = n := ⟨_, rfl⟩
  have HN := Lib.hid hn
  rw [hn] at HV ⊢
  clear hv hn
  by_cases hle : n ≤ 2097152
  case neg =>
    have hgt : (2097152 : Int) < (n : Int) := by omega
    go_enter Tryz.func73, Tryz.ntmps73
    go_wp2
    refine bodyPost_ret (v := .tuple #[_, _]) (by simp [results, Tryz.results73, go_sem]; exact ⟨rfl, rfl⟩) rfl ?_
    exact ⟨fun h => absurd h hle, fun _ => rfl, fr.refl⟩
  case pos =>
    have hmod : (n : Int) % 4294967296 = (n : Int) := by omega
    have hgt : ¬ (2097152 : Int) < (n : Int) := by omega
    have hsum := sumN_lt (le32 n ++ bs)
    obtain ⟨s, hs⟩ : ∃ s, sumN (le32 n ++ bs) = s := ⟨_, rfl⟩
    rw [hs] at hsum
    have HS := Lib.hid hs
    clear hs
    go_enter Tryz.func73, Tryz.ntmps73
    go_upto_region 4 with (first
      | (at_make; refine wpList_make_own _ rfl _ _ 35 rfl w.heap.size 5 i0 (.int .u8 0) 1 Tryz.underlying35 hi hz0 hz1'.out _ _ _ (8 + n) rfl rfl (by omega) (by rw [hby.out]; omega) (by unfold maxLen; omega) (Nat.le_refl _) ?_; intro w1 hown hgrow)
      | (go_at_call 122; refine (put_any w.heap.size n _ [] w1 (OwnB.of_own hown (by simp) (fun _ h => h)) (by omega) (by simp) hgrow.size).mono ?_; rintro r w2 ⟨A2, c2, rfl, ho2, hb2⟩; simp only [List.length_nil, Nat.zero_add, List.nil_append] at ho2 ⊢))
    have hw1 : Below w.heap.size w w1 := RowKit.Below.grown (B := w.heap.size) (Below.refl _ _) hgrow (Nat.le_refl _) (fun j e => by simp at e)
    have hw2 : Below w.heap.size w w2 := hw1.trans hb2
    have HW2 := Lib.hid hw2
    have HO2 := Lib.hid ho2
    have hbl : BytsV (w2.alloc (.cells #[.slice A2 4 c2, .slice A n c] 35)) (fun _ => True) (.slice (some ⟨w2.heap.size, 0, none⟩) 2 2) [le32 n, bs] := BytsV.lit w2 [.slice A2 4 c2, .slice A n c] [le32 n, bs] 2 _ rfl rfl rfl (by omega) (fun i p hp => by
      match i, hp with
      | 0, hp => simp at hp; subst hp; exact ⟨_, rfl, ho2.byt.mono fun _ _ => trivial⟩
      | 1, hp => simp at hp; subst hp; exact ⟨_, rfl, (HV.out.below hw2).mono fun _ _ => trivial⟩
      | i + 2, hp => simp at hp)
    have hsu := sum_any _ _ _ _ hbl
    rw [show [le32 n, bs].flatten = le32 n ++ bs by simp, HS.out] at hsu
    have HSU := Lib.hid hsu
    have HPF : Hid (putF bs = le32 n ++ le32 s ++ bs) := Lib.hid (by unfold putF; rw [HN.out, HS.out])
    have hal : fr w2 (w2.alloc (.cells #[.slice A2 4 c2, .slice A n c] 35)) := fr.alloc fr.refl _
    have HAL := Lib.hid hal
    clear hsu hbl hal hw2 hw1 hb2 ho2 hown hgrow HS
    go_wp2_with (first
      | (go_at_call 123; refine HSU.out.mono ?_; rintro r w3 ⟨rfl, f3⟩)
      | (go_at_call 122; refine (put_any w.heap.size s _ (le32 n) w3 (HO2.out.below (fr.step HAL.out f3)) hsum (by rw [le32_len]; omega) (by have := HW2.out.size; have := (fr.step HAL.out f3).size; omega)).mono ?_; rintro r w4 ⟨A4, c4, rfl, ho4, hb4⟩; simp only [le32_len, Nat.reduceAdd] at ho4 ⊢)
      | (at_builtin; refine wpList_append_ownB rfl _ _ rfl (fun i => w.heap.size ≤ i) (fun i => w.heap.size ≤ i) (.slice A4 8 c4) _ rfl rfl S (le32 n ++ le32 s) bs ho4 (HV.out.below ((HW2.out.trans ((fr.step HAL.out f3).mono HW2.out.size)).trans hb4)) (by simp only [List.length_append, le32_len, HN.out]; omega) (fun _ h => h) (by have := HW2.out.size; have := (fr.step HAL.out f3).size; have := hb4.size; omega) ?_; intro v5 w5 hown5 hgrow5 hat5; obtain ⟨A5, c5, rfl⟩ := hown5.form; simp only [List.length_append, le32_len, HN.out, Nat.reduceAdd] at hown5 ⊢))
    have hw4 : Below w.heap.size w w4 := (HW2.out.trans ((fr.step HAL.out f3).mono HW2.out.size)).trans hb4
    have hw5 : fr w w5 := RowKit.Below.grown (B := w.heap.size) hw4 hgrow5 hw4.size (fun j e => (ho4.blk e).1)
    refine bodyPost_ret (v := .tuple #[.slice A5 (8 + n) c5, .int .i64 0]) (by simp [results, Tryz.results73, go_sem]) rfl ?_
    rw [Nat.add_comm 8 n] at hown5 ⊢
    exact ⟨fun _ => ⟨A5, c5, rfl, by rw [HPF.out]; exact hown5⟩, fun h => absurd hle h, hw5⟩
end Go.Proofs.YtjnolpfmchnnmaaGreatDoor
end
