/-
A region that draws its order and whose last operations wait for all others: loads may be taken first under a condition that those last ones need not keep.
-/
import Derived.Test.YtjnolpfmchnnmaaGreatDoorQPOwnM7
import Derived.Test.YtjnolpfmchnnmaaGreatDoorQPOwnM4
import Derived.Test.YtjnolpfmchnnmaaGreatDoorQPOwnM3
import Derived.Deep.RegionHeld3
import Derived.Test.YtjnolpfmchnnmaaGreatDoorQPOwnM6
import Derived.Test.YtjnolpfmchnnmaaGreatDoorQPOwnM5
import Derived.OrdersHeld
import Derived.StillTail
import Derived.Deep.RegionHeld
import Derived.Test.YtjnolpfmchnnmaaGreatDoorProg
section
namespace Go.Proofs.YtjnolpfmchnnmaaGreatDoor
set_option maxRecDepth 100000
open Go.RowKit Go.BigFrame Go.Sort Go.Shelf Go.Lib
attribute [local go_sem ↓] Go.wp_at_zero Go.wp_at_succ
theorem bv_x0 (v : Nat) (hv : v < 4611686018427387904) : ((BitVec.ofInt 64 ((v : Int) * 2) ^^^ 0#64).toNat : Int) % 18446744073709551616 = 2 * (v : Int) := by
  rw [BitVec.xor_zero, BitVec.toNat_ofInt]
  omega
theorem bv_x1 (v : Nat) (hv : v < 9223372036854775808) : ((BitVec.ofInt 64 (2 * (v : Int)) ^^^ 0#64).toNat : Int) % 18446744073709551616 = 2 * (v : Int) := by
  rw [BitVec.xor_zero, BitVec.toNat_ofInt]
  omega
theorem bv_xc (v : Nat) (hv : v < 9223372036854775808) : bits BinOp.xor IntKind.u64 ((2 * v : Nat) : Int) 0 = ((2 * v : Nat) : Int) := by
  simp [bits, IntKind.wrap, IntKind.signed, IntKind.bits]
  exact bv_x1 v hv
theorem wr_x (v : Nat) (hv : v < 9223372036854775808) (hv2 : 4611686018427387904 ≤ v) : IntKind.u64.wrap (wrap64 ((v : Int) * 2)) = ((2 * v : Nat) : Int) := by
  simp [wrap64, IntKind.wrap, IntKind.signed, IntKind.bits]
  omega
set_option maxRecDepth 100000 in
set_option maxHeartbeats 1000000 in
theorem appInt_low (S : Nat → Prop) (b : Value) (bs : List UInt8) (v : Nat) (w : World) (hb : Byt w S b bs) (hv : v < 4611686018427387904) (hl : bs.length ≤ 1099511627776) :
    Calls Tryz.prog 208 #[b, .int .i64 v] w fun r w' => ∃ A c, r = .returned (.slice A (bs ++ formN (2 * v)).length c) ∧ OwnF w' w.heap.size (.slice A (bs ++ formN (2 * v)).length c) (bs ++ formN (2 * v)) ∧ fr w w' := by
  obtain ⟨A, c, rfl⟩ := slice_form hb
  have hfl := formN_len (2 * v)
  have HF := Lib.hid (form_any (2 * v) w (by omega))
  obtain ⟨m, hm⟩ : ∃ m, (formN (2 * v)).length = m := ⟨_, rfl⟩
  obtain ⟨n, hn⟩ : ∃ m, bs.length = m := ⟨_, rfl⟩
  obtain ⟨q, hq⟩ : ∃ m, (bs ++ formN (2 * v)).length = m := ⟨_, rfl⟩
  have hqb : q ≤ 140737488355328 := by rw [← hq, List.length_append]; omega
  rw [hm] at HF
  rw [hn] at hb ⊢
  rw [hq]
  have HB := Lib.hid hb
  have HQ := Lib.hid hq
  have hz0 : (v : Int) / 9223372036854775808 = 0 := by omega
  have hx0 : bits BinOp.xor IntKind.u64 ((v : Int) * 2) ((v : Int) / 9223372036854775808) = ((2 * v : Nat) : Int) := by
    rw [hz0]
    simp [bits, IntKind.wrap, IntKind.signed, IntKind.bits]
    exact bv_x0 v hv
  clear hb hm hn hq hfl hz0
  go_enter Tryz.func208, Tryz.ntmps208
  go_wp2_with (first
    | (go_at_call 218; refine HF.out.mono ?_; rintro r w1 ⟨A1, c1, rfl, hb1, f1⟩; have hbl : BytsV (w1.alloc (.cells #[.slice A n c, .slice A1 m c1] 35)) (fun _ => True) (.slice (some ⟨w1.heap.size, 0, none⟩) 2 2) [bs, formN (2 * v)] := BytsV.lit w1 [.slice A n c, .slice A1 m c1] [bs, formN (2 * v)] 2 _ rfl rfl rfl (by omega) (fun i p hp => by
        match i, hp with
        | 0, hp => simp at hp; subst hp; exact ⟨_, rfl, (HB.out.below f1).mono fun _ _ => trivial⟩
        | 1, hp => simp at hp; subst hp; exact ⟨_, rfl, hb1.mono fun _ _ => trivial⟩
        | i + 2, hp => simp at hp))
    | (go_at_call 217; refine (join_any _ _ [bs, formN (2 * v)] _ hbl (by rw [show [bs, formN (2 * v)].flatten = bs ++ formN (2 * v) by simp, HQ.out]; exact hqb)).mono ?_; rintro r w2 ⟨A2, c2, rfl, ho2, f2⟩; rw [show [bs, formN (2 * v)].flatten = bs ++ formN (2 * v) by simp, HQ.out] at ho2; rw [show [bs, formN (2 * v)].flatten = bs ++ formN (2 * v) by simp, HQ.out]))
  refine bodyPost_ret (v := .slice A2 q c2) (by simp [results, Tryz.results208, go_sem]) rfl ?_
  have hf : fr w (w1.alloc (.cells #[.slice A n c, .slice A1 m c1] 35)) := fr.alloc f1 _
  exact ⟨_, _, rfl, ho2.mono fun i hi => Nat.le_trans hf.size hi, fr.step hf f2⟩
set_option maxRecDepth 100000 in
set_option maxHeartbeats 1000000 in
theorem appInt_big (S : Nat → Prop) (b : Value) (bs : List UInt8) (v : Nat) (w : World) (hb : Byt w S b bs) (hv : v < 9223372036854775808) (hv2 : 4611686018427387904 ≤ v) (hl : bs.length ≤ 1099511627776) :
    Calls Tryz.prog 208 #[b, .int .i64 v] w fun r w' => ∃ A c, r = .returned (.slice A (bs ++ formN (2 * v)).length c) ∧ OwnF w' w.heap.size (.slice A (bs ++ formN (2 * v)).length c) (bs ++ formN (2 * v)) ∧ fr w w' := by
  obtain ⟨A, c, rfl⟩ := slice_form hb
  have hfl := formN_len (2 * v)
  have HF := Lib.hid (form_any (2 * v) w (by omega))
  obtain ⟨m, hm⟩ : ∃ m, (formN (2 * v)).length = m := ⟨_, rfl⟩
  obtain ⟨n, hn⟩ : ∃ m, bs.length = m := ⟨_, rfl⟩
  obtain ⟨q, hq⟩ : ∃ m, (bs ++ formN (2 * v)).length = m := ⟨_, rfl⟩
  have hqb : q ≤ 140737488355328 := by rw [← hq, List.length_append]; omega
  rw [hm] at HF
  rw [hn] at hb ⊢
  rw [hq]
  have HB := Lib.hid hb
  have HQ := Lib.hid hq
  have z2 := wr_x v hv hv2
  have z3 := bv_xc v hv
  have hp : 2 * v < 18446744073709551616 := by omega
  obtain ⟨u, hu⟩ : ∃ u, 2 * v = u := ⟨_, rfl⟩
  obtain ⟨z, hz⟩ : ∃ z, wrap64 ((v : Int) * 2) = z := ⟨_, rfl⟩
  rw [hz] at z2
  rw [hu] at z2 z3 hp HF HQ ⊢
  have z4 : (v : Int) / 9223372036854775808 = 0 := by omega
  clear hb hm hn hq hfl hv2 hu
  go_enter Tryz.func208, Tryz.ntmps208
  go_wp2_with (first
    | (go_at_call 218; refine HF.out.mono ?_; rintro r w1 ⟨A1, c1, rfl, hb1, f1⟩; have hbl : BytsV (w1.alloc (.cells #[.slice A n c, .slice A1 m c1] 35)) (fun _ => True) (.slice (some ⟨w1.heap.size, 0, none⟩) 2 2) [bs, formN u] := BytsV.lit w1 [.slice A n c, .slice A1 m c1] [bs, formN u] 2 _ rfl rfl rfl (by omega) (fun i p hp => by
        match i, hp with
        | 0, hp => simp at hp; subst hp; exact ⟨_, rfl, (HB.out.below f1).mono fun _ _ => trivial⟩
        | 1, hp => simp at hp; subst hp; exact ⟨_, rfl, hb1.mono fun _ _ => trivial⟩
        | i + 2, hp => simp at hp))
    | (go_at_call 217; refine (join_any _ _ [bs, formN u] _ hbl (by rw [show [bs, formN u].flatten = bs ++ formN u by simp, HQ.out]; exact hqb)).mono ?_; rintro r w2 ⟨A2, c2, rfl, ho2, f2⟩; rw [show [bs, formN u].flatten = bs ++ formN u by simp, HQ.out] at ho2; rw [show [bs, formN u].flatten = bs ++ formN u by simp, HQ.out]))
  refine bodyPost_ret (v := .slice A2 q c2) (by simp [results, Tryz.results208, go_sem]) rfl ?_
  have hf : fr w (w1.alloc (.cells #[.slice A n c, .slice A1 m c1] 35)) := fr.alloc f1 _
  exact ⟨_, _, rfl, ho2.mono fun i hi => Nat.le_trans hf.size hi, fr.step hf f2⟩
theorem appInt_any (S : Nat → Prop) (b : Value) (bs : List UInt8) (v : Nat) (w : World) (hb : Byt w S b bs) (hv : v < 9223372036854775808) (hl : bs.length ≤ 1099511627776) :
    Calls Tryz.prog 208 #[b, .int .i64 v] w fun r w' => ∃ A c, r = .returned (.slice A (bs ++ formN (2 * v)).length c) ∧ OwnF w' w.heap.size (.slice A (bs ++ formN (2 * v)).length c) (bs ++ formN (2 * v)) ∧ fr w w' := by
  rcases Nat.lt_or_ge v 4611686018427387904 with h | h
  · exact appInt_low S b bs v w hb h hl
  · exact appInt_big S b bs v w hb hv h hl
end Go.Proofs.YtjnolpfmchnnmaaGreatDoor
end
section
namespace Go.Proofs.YtjnolpfmchnnmaaGreatDoor
set_option maxRecDepth 100000
open Go.RowKit Go.BigFrame Go.Sort Go.Shelf Go.Lib
attribute [local go_sem ↓] Go.wp_at_zero Go.wp_at_succ
theorem appU (base : Nat) (v : Value) (bs : List UInt8) (n : Int) (w : World) (hb : OwnF w base v bs) (hn : numOk n) (hl : bs.length ≤ 1000000) (hbase : base ≤ w.heap.size) :
    Calls Tryz.prog 156 #[v, .int .u64 n] w fun r w' => ∃ A q c, r = .returned (.slice A q c) ∧ OwnF w' base (.slice A q c) (bs ++ formN n.toNat) ∧ fr w w' := by
  have h1 := hn.1
  have h2 := hn.2
  have := appUint_any _ v bs n.toNat w hb.byt (by omega) (by omega)
  rw [show ((n.toNat : Nat) : Int) = n by omega] at this
  refine this.mono ?_
  rintro r w' ⟨A, c, rfl, ho, f⟩
  exact ⟨A, _, c, rfl, ho.mono fun i hi => Nat.le_trans hbase hi, f⟩
theorem appI (base : Nat) (v : Value) (bs : List UInt8) (n : Int) (w : World) (S : Nat → Prop) (hb : Byt w S v bs) (hn : numOk n) (hl : bs.length ≤ 1000000) (hbase : base ≤ w.heap.size) :
    Calls Tryz.prog 208 #[v, .int .i64 n] w fun r w' => ∃ A q c, r = .returned (.slice A q c) ∧ OwnF w' base (.slice A q c) (bs ++ formN (2 * n.toNat)) ∧ fr w w' := by
  have h1 := hn.1
  have h2 := hn.2
  have := appInt_any S v bs n.toNat w hb (by omega) (by omega)
  rw [show ((n.toNat : Nat) : Int) = n by omega] at this
  refine this.mono ?_
  rintro r w' ⟨A, c, rfl, ho, f⟩
  exact ⟨A, _, c, rfl, ho.mono fun i hi => Nat.le_trans hbase hi, f⟩
theorem appB (base : Nat) (v x : Value) (bs xs : List UInt8) (w : World) (S : Nat → Prop) (hb : OwnF w base v bs) (hx : Byt w S x xs) (hl : bs.length ≤ 1000000) (hl2 : xs.length ≤ 1000000) (hbase : base ≤ w.heap.size) :
    Calls Tryz.prog 157 #[v, x] w fun r w' => ∃ A q c, r = .returned (.slice A q c) ∧ OwnF w' base (.slice A q c) (bs ++ (formN xs.length ++ xs)) ∧ fr w w' := by
  refine (appBytes_any _ S v x bs xs w hb.byt hx (by omega) (by omega)).mono ?_
  rintro r w' ⟨A, c, rfl, ho, f⟩
  rw [List.append_assoc] at ho
  refine ⟨A, _, c, by rw [List.append_assoc], ho.mono fun i hi => Nat.le_trans hbase hi, f⟩
theorem boxRowFrW {w w' : World} {b : Nat} {o : Obj} (h : w.heap[b]? = some o) (hf : fr w w') : w'.heap[b]? = some o := (Below.block hf b (Array.getElem?_eq_some_iff.1 h).1).trans h
def numsF (t : Tbl) : Nat → List UInt8
  | 0 => []
  | 1 => formN t.id.toNat
  | 2 => formN t.id.toNat ++ formN t.level.toNat
  | _ => formN t.id.toNat ++ formN t.level.toNat ++ formN t.count.toNat
theorem numsF_len (t : Tbl) (m : Nat) : (numsF t m).length ≤ 30 := by
  have h1 := (formN_len t.id.toNat).2
  have h2 := (formN_len t.level.toNat).2
  have h3 := (formN_len t.count.toNat).2
  unfold numsF
  split <;> (try simp only [List.length_append, List.length_nil]) <;> omega
theorem byt_none (w : World) (S : Nat → Prop) : Byt w S (.slice none 0 0) [] := ⟨none, 0, rfl, by simp, by simp, by simp, Row.nil _ _ _ _⟩
set_option maxRecDepth 100000 in
set_option maxHeartbeats 4000000 in
theorem mwrite_any (S : Nat → Prop) (av dv : Value) (e : Edt) (nx : Int) (w : World) (ha : TabsV w S av e.add) (hd : IntsIn w S dv e.drop) (hok : EditOk e nx) :
    Calls Tryz.prog 140 #[.agg #[av, dv, .int .i64 e.lg, .int .i64 e.sq], .int .i64 nx] w fun r w' => ∃ A q c, r = .returned (.slice A q c) ∧ OwnF w' w.heap.size (.slice A q c) (editF e nx) ∧ fr w w' := by
  obtain ⟨Aa, ca, rfl⟩ := ha.form
  obtain ⟨na, hna⟩ : ∃ n, e.add.length = n := ⟨_, rfl⟩
  obtain ⟨nd, hnd⟩ : ∃ n, e.drop.length = n := ⟨_, rfl⟩
  obtain ⟨Ad, cd, rfl⟩ : ∃ A c, dv = .slice A e.drop.length c := by obtain ⟨A, c, h, _⟩ := hd; exact ⟨A, c, h⟩
  rw [hna] at ha ⊢
  rw [hnd] at hd ⊢
  have HA := Lib.hid ha
  have HD := Lib.hid hd
  have HNA := Lib.hid hna
  have HND := Lib.hid hnd
  have HOK := Lib.hid hok
  have hnd0 : numOk (nd : Int) := ⟨by omega, by have := hok.few; omega⟩
  have hnx0 : 0 ≤ nx := hok.nx.1
  have hnx1 : nx < 9223372036854775808 := hok.nx.2
  have hnd1 : nd ≤ 1024 := by rw [← hnd]; exact hok.few
  have hna1 : na ≤ 1024 := by rw [← hna]; exact hok.fewA
  have HND0 := Lib.hid hnd0
  obtain ⟨z, hz⟩ : ∃ z, w.heap.size = z := ⟨_, rfl⟩
  have hf1 : fr w (w.alloc (.cells #[.slice Aa na ca, .slice Ad nd cd, .int .i64 e.lg, .int .i64 e.sq] 45)) := fr.alloc fr.refl _
  have b0 := heap_alloc_new w (.cells #[.slice Aa na ca, .slice Ad nd cd, .int .i64 e.lg, .int .i64 e.sq] 45)
  have hs1 : z ≤ (w.alloc (.cells #[.slice Aa na ca, .slice Ad nd cd, .int .i64 e.lg, .int .i64 e.sq] 45)).heap.size := by simp; omega
  rw [hz] at b0 ⊢
  have HZ := Lib.hid hz
  have HH : Hid ((headF e nx).length ≤ 40) := Lib.hid (headF_len e nx)
  clear ha hd hna hnd hok hnd0 hz
  go_enter Tryz.func140, Tryz.ntmps140
  go_upto_region 1 with (fail)
  rw [HZ.out]
  generalize w.alloc (.cells #[.slice Aa na ca, .slice Ad nd cd, .int .i64 e.lg, .int .i64 e.sq] 45) = w1 at hf1 b0 hs1 ⊢
  have HF1 := Lib.hid hf1
  have HB := Lib.hid b0
  have c0 := cell_of_row _ _ 0 _ _ _ b0
  have c1 := cell_of_row _ _ 1 _ _ _ b0
  have c2 := cell_of_row _ _ 2 _ _ _ b0
  have c3 := cell_of_row _ _ 3 _ _ _ b0
  clear hf1 b0
  go_upto_region 2 with (go_at_call 208; refine (appI z _ [] e.lg _ (fun _ => True) (byt_none _ _) HOK.out.lg (by simp) hs1).mono ?_; rintro r w2 ⟨A2, q2, k2, rfl, ho2, f2⟩; have d3 := f2.cell c3)
  have hs2 := Nat.le_trans hs1 (Below.size f2)
  have HO2 := Lib.hid ho2
  have HF2 := Lib.hid (fr.step HF1.out f2)
  have d0 := f2.cell c0
  have d1 := f2.cell c1
  clear ho2 c0 c1 c2 c3
  go_upto_region 3 with (go_at_call 208; refine (appI z _ _ e.sq _ _ HO2.out.byt HOK.out.sq (by have := (formN_len (2 * e.lg.toNat)).2; simp; omega) hs2).mono ?_; rintro r w3 ⟨A3, q3, k3, rfl, ho3, f3⟩)
  have hs3 := Nat.le_trans hs2 (Below.size f3)
  have HO3 := Lib.hid ho3
  have HF3 := Lib.hid (fr.step HF2.out f3)
  have e0 := f3.cell d0
  have e1 := f3.cell d1
  clear ho3 d0 d1 d3
  go_upto_region 4 with (go_at_call 156; refine (appU z _ _ nx _ HO3.out HOK.out.nx (by have := (formN_len (2 * e.lg.toNat)).2; have := (formN_len (2 * e.sq.toNat)).2; simp; omega) hs3).mono ?_; rintro r w4 ⟨A4, q4, k4, rfl, ho4, f4⟩; have g1 := f4.cell e1)
  have hs4 := Nat.le_trans hs3 (Below.size f4)
  have HO4 := Lib.hid ho4
  have HF4 := Lib.hid (fr.step HF3.out f4)
  have g0 := f4.cell e0
  clear ho4 e0 e1
  go_upto_region 5 with (go_at_call 156; refine (appU z _ _ (nd : Int) _ HO4.out HND0.out (by have := (formN_len (2 * e.lg.toNat)).2; have := (formN_len (2 * e.sq.toNat)).2; have := (formN_len nx.toNat).2; simp; omega) hs4).mono ?_; rintro r w5 ⟨A5, q5, k5, rfl, ho5, f5⟩; have u1 := f5.cell g1)
  have hs5 := Nat.le_trans hs4 (Below.size f5)
  have ho5' : OwnF w5 z (.slice A5 q5 k5) (headF e nx) := by
    have e1 : (headF e nx) = [] ++ formN (2 * e.lg.toNat) ++ formN (2 * e.sq.toNat) ++ formN nx.toNat ++ formN (nd : Int).toNat := by
      unfold headF
      rw [HND.out]
      simp
    rw [e1]
    exact ho5
  have HO5 := Lib.hid ho5'
  have HF5 := Lib.hid (fr.step HF4.out f5)
  have u0 := f5.cell g0
  have HB5 := Lib.hid (boxRowFrW HB.out (fr.step (fr.step (fr.step f2 f3) f4) f5))
  clear ho5 ho5' g0 g1 f2 f3 f4 f5
  go_wp2_with (fail)
  go_loopw [5, 32] (fun x t wr => ∃ (i : Nat) (A : Option Addr) (q k : Nat), i ≤ nd ∧ t = .int .i64 i ∧ x = .slice A q k ∧ OwnF wr z (.slice A q k) (headF e nx ++ dropsF (e.drop.take i)) ∧ fr w5 wr) (fun _ t _ => nd - (intOf t).toNat)
  case atStart => exact ⟨0, _, _, _, Nat.zero_le _, rfl, rfl, by simpa [dropsF] using HO5.out, fr.refl⟩
  case round =>
    obtain ⟨i, A, q, k, hi, rfl, rfl, ho, hf⟩ := hrel
    have HO := Lib.hid ho
    have HF := Lib.hid hf
    have hsz := Nat.le_trans hs5 (Below.size hf)
    clear ho hf u0 u1
    by_cases hin : i < nd
    · obtain ⟨d, hd⟩ : ∃ d, e.drop[i]? = some d := ⟨_, List.getElem?_eq_getElem (by rw [HND.out]; exact hin)⟩
      have hfw : fr w wr := fr.step HF5.out HF.out
      obtain ⟨A', c', hE, _, _, hr⟩ := HD.out.below hfw
      injection hE with hE1 hE2 hE3
      subst hE1
      clear hE2 hE3
      rw [HND.out] at hr
      obtain ⟨b, o, rfl, _, _, hc⟩ := hr.2 (by omega)
      have x0 : wr.cell? ⟨b, o + i, none⟩ = some (.int .i64 d) := hc i _ (by rw [List.getElem?_map, hd]; rfl)
      have hdn := HOK.out.drop d (List.mem_of_getElem? hd)
      have HDN := Lib.hid hdn
      have hd0 : 0 ≤ d := hdn.1
      have hd1 : d < 9223372036854775808 := hdn.2
      have HSN := Lib.hid (dropsF_snoc hd)
      have HTL := Lib.hid (dropsF_takeLen HOK.out i)
      clear hr hc hd hfw hdn
      go_wp2_with (go_at_call 156; refine (appU z _ _ d _ HO.out HDN.out (by have := HH.out; have := HTL.out; simp; omega) hsz).mono ?_; rintro r w6 ⟨A6, q6, k6, rfl, ho6, f6⟩)
      exact ⟨⟨i + 1, _, _, _, by omega, by go_num, rfl, by rw [HSN.out, ← List.append_assoc]; exact ho6, fr.step HF.out f6⟩, by simp [intOf]; omega⟩
    · obtain rfl : i = nd := by omega
      rw [List.take_of_length_le (by rw [HND.out]; exact Nat.le_refl _)] at HO
      have HBR := Lib.hid (boxRowFrW HB5.out HF.out)
      have v0 := cell_of_row _ _ 0 _ _ _ HBR.out
      have HFR := Lib.hid (fr.step HF5.out HF.out)
      have HDL : Hid ((dropsF e.drop).length ≤ 10240) := Lib.hid (by have := dropsF_takeLen HOK.out e.drop.length; rwa [List.take_length] at this)
      obtain ⟨wb, hwb⟩ : ∃ x, x = wr := ⟨_, rfl⟩
      subst hwb
      go_wp2_with (fail)
      go_loopw [5, 44] (fun x t wx => ∃ (i : Nat) (A : Option Addr) (q k : Nat), i ≤ na ∧ t = .int .i64 i ∧ x = .slice A q k ∧ OwnF wx z (.slice A q k) (headF e nx ++ dropsF e.drop ++ addsF (e.add.take i)) ∧ fr wb wx) (fun _ t _ => na - (intOf t).toNat)
      case atStart => exact ⟨0, _, _, _, Nat.zero_le _, rfl, rfl, by simpa [addsF] using HO.out, fr.refl⟩
      case round =>
        clear v0 HO HF
        obtain ⟨j, A, q, k, hj, rfl, rfl, ho, hf⟩ := hrel
        have HO := Lib.hid ho
        have HF := Lib.hid hf
        have hsz2 := Nat.le_trans hsz (Below.size hf)
        clear ho hf
        by_cases hin2 : j < na
        · obtain ⟨t, hf⟩ : ∃ t, e.add[j]? = some t := ⟨_, List.getElem?_eq_getElem (by rw [HNA.out]; exact hin2)⟩
          obtain ⟨b, o, cs, rfl, hblt, _, ⟨va, vb, rfl, hva, hvb⟩, hc⟩ := Rows.at_ tbFine (Rows.below tbFine HA.out (fr.step HFR.out HF.out)) hf
          obtain ⟨A1, c1, rfl⟩ := slice_form hva
          obtain ⟨A2, c2, rfl⟩ := slice_form hvb
          have x0 : wr.cell? ⟨b, o + j * 5, none⟩ = _ := hc 0 _ rfl
          have x1 : wr.cell? ⟨b, o + j * 5 + 1, none⟩ = _ := hc 1 _ rfl
          have x2 : wr.cell? ⟨b, o + j * 5 + 2, none⟩ = _ := hc 2 _ rfl
          have x3 : wr.cell? ⟨b, o + j * 5 + 3, none⟩ = _ := hc 3 _ rfl
          have x4 : wr.cell? ⟨b, o + j * 5 + 4, none⟩ = _ := hc 4 _ rfl
          have HTO := Lib.hid (HOK.out.add t (List.mem_of_getElem? hf))
          have HSN := Lib.hid (addsF_snoc hf)
          have HAL : Hid ((addsF (e.add.take j)).length ≤ 460800) := Lib.hid (addsF_takeLen HOK.out j)
          have HVA := Lib.hid hva
          have HVB := Lib.hid hvb
          clear hf hc hva hvb
          obtain ⟨wc, hwc⟩ : ∃ x, x = wr := ⟨_, rfl⟩
          subst hwc
          go_upto_region 13 with (fail)
          have pT := heap_alloc_new wc (.cells #[.int .i64 t.id, .int .i64 t.level, .int .i64 t.count, .slice A1 t.lo.length c1, .slice A2 t.hi.length c2] 57)
          have HAL3 : Hid (fr wc (wc.alloc (.cells #[.int .i64 t.id, .int .i64 t.level, .int .i64 t.count, .slice A1 t.lo.length c1, .slice A2 t.hi.length c2] 57))) := Lib.hid (fr.alloc fr.refl _)
          have hs3 : z ≤ (wc.alloc (.cells #[.int .i64 t.id, .int .i64 t.level, .int .i64 t.count, .slice A1 t.lo.length c1, .slice A2 t.hi.length c2] 57)).heap.size := by simp; omega
          generalize wc.alloc (.cells #[.int .i64 t.id, .int .i64 t.level, .int .i64 t.count, .slice A1 t.lo.length c1, .slice A2 t.hi.length c2] 57) = w7 at pT HAL3 hs3 ⊢
          have HPT := Lib.hid pT
          have y0 := cell_of_row _ _ 0 _ _ _ pT
          have y1 := cell_of_row _ _ 1 _ _ _ pT
          have y2 := cell_of_row _ _ 2 _ _ _ pT
          clear pT x0 x1 x2 x3 x4
          go_upto_region 14 with (fail)
          have pN := heap_alloc_new w7 (.cells #[.int .i64 t.id, .int .i64 t.level, .int .i64 t.count] 3)
          have hal8 : fr w7 (w7.alloc (.cells #[.int .i64 t.id, .int .i64 t.level, .int .i64 t.count] 3)) := fr.alloc fr.refl _
          obtain ⟨tn, htn⟩ : ∃ g, w7.heap.size = g := ⟨_, rfl⟩
          rw [htn] at pN ⊢
          generalize w7.alloc (.cells #[.int .i64 t.id, .int .i64 t.level, .int .i64 t.count] 3) = w8 at pN hal8 ⊢
          have HPN := Lib.hid pN
          have HF8 := Lib.hid (fr.step HAL3.out hal8)
          have HPT8 := Lib.hid (boxRowFrW HPT.out hal8)
          have hs8 := Nat.le_trans hs3 (Below.size hal8)
          have HTN := Lib.hid htn
          have HOP := Lib.hid (HO.out.below HF8.out)
          obtain ⟨tb, htb⟩ : ∃ g, wc.heap.size = g := ⟨_, rfl⟩
          rw [htb] at HPT8 ⊢
          have hid0 : 0 ≤ t.id := HTO.out.id.1
          have hid1 : t.id < 9223372036854775808 := HTO.out.id.2
          have hlv0 : 0 ≤ t.level := HTO.out.level.1
          have hlv1 : t.level < 9223372036854775808 := HTO.out.level.2
          have hct0 : 0 ≤ t.count := HTO.out.count.1
          have hct1 : t.count < 9223372036854775808 := HTO.out.count.2
          have HTB := Lib.hid htb
          clear pN hal8 htn htb y0 y1 y2 HPT
          go_loopw [5, 56] (fun x u wx => ∃ (m : Nat) (A : Option Addr) (q k : Nat), m ≤ 3 ∧ u = .int .i64 m ∧ x = .slice A q k ∧ OwnF wx z (.slice A q k) (headF e nx ++ dropsF e.drop ++ addsF (e.add.take j) ++ numsF t m) ∧ fr w8 wx) (fun _ u _ => 3 - (intOf u).toNat)
          case atStart => exact ⟨0, _, _, _, Nat.zero_le _, rfl, rfl, by simpa [numsF] using HOP.out, fr.refl⟩
          case round =>
            obtain ⟨m, A, q, k, hm, rfl, rfl, ho, hf⟩ := hrel
            have HO9 := Lib.hid ho
            have HF9 := Lib.hid hf
            have hs9 := Nat.le_trans hs8 (Below.size hf)
            have pN := boxRowFrW HPN.out hf
            have n0 := cell_of_row _ _ 0 _ _ _ pN
            have n1 := cell_of_row _ _ 1 _ _ _ pN
            have n2 := cell_of_row _ _ 2 _ _ _ pN
            have HLM := Lib.hid (numsF_len t m)
            have HLN : Hid ((headF e nx ++ dropsF e.drop ++ addsF (e.add.take j) ++ numsF t m).length ≤ 500000) := Lib.hid (by have h1 := HH.out; have h2 := HDL.out; have h3 := HAL.out; have h4 := HLM.out; simp only [List.length_append]; omega)
            clear ho hf pN
            rcases (by omega : m = 0 ∨ m = 1 ∨ m = 2 ∨ m = 3) with rfl | rfl | rfl | rfl
            · clear hm
              go_wp2_with (go_at_call 156; refine (appU z _ _ t.id _ HO9.out HTO.out.id (Nat.le_trans HLN.out (by decide)) hs9).mono ?_; rintro r w10 ⟨A10, q10, k10, rfl, ho10, f10⟩)
              exact ⟨⟨1, _, _, _, by omega, by go_num, rfl, by simpa [numsF] using ho10, fr.step HF9.out f10⟩, by simp [intOf]⟩
            · clear hm
              go_wp2_with (go_at_call 156; refine (appU z _ _ t.level _ HO9.out HTO.out.level (Nat.le_trans HLN.out (by decide)) hs9).mono ?_; rintro r w10 ⟨A10, q10, k10, rfl, ho10, f10⟩)
              exact ⟨⟨2, _, _, _, by omega, by go_num, rfl, by simpa [numsF] using ho10, fr.step HF9.out f10⟩, by simp [intOf]⟩
            · clear hm
              go_wp2_with (go_at_call 156; refine (appU z _ _ t.count _ HO9.out HTO.out.count (Nat.le_trans HLN.out (by decide)) hs9).mono ?_; rintro r w10 ⟨A10, q10, k10, rfl, ho10, f10⟩)
              exact ⟨⟨3, _, _, _, by omega, by go_num, rfl, by simpa [numsF] using ho10, fr.step HF9.out f10⟩, by simp [intOf]⟩
            · have pT := boxRowFrW HPT8.out HF9.out
              have y3 := cell_of_row _ _ 3 _ _ _ pT
              have y4 := cell_of_row _ _ 4 _ _ _ pT
              have HFC := Lib.hid (fr.step HF8.out HF9.out)
              clear hm n0 n1 n2 pT
              go_upto_region 18 with (fail)
              have HV1 := Lib.hid (HVA.out.below HFC.out)
              have HV2 := Lib.hid (HVB.out.below HFC.out)
              have HDW : Hid (fr wr wr.drew) := Lib.hid (fr.drew fr.refl)
              have HA1 := Lib.hid (appB z _ _ _ _ wr.drew _ (HO9.out.below HDW.out) (HV1.out.below HDW.out) (Nat.le_trans HLN.out (by decide)) (by have := HTO.out.lo.2; omega) hs9)
              have HA2 : Hid (∀ A q k wx, OwnF wx z (.slice A q k) (headF e nx ++ dropsF e.drop ++ addsF (e.add.take j) ++ numsF t 3 ++ (formN t.lo.length ++ t.lo)) → fr wr.drew wx → Calls Tryz.prog 157 #[.slice A q k, .slice A2 t.hi.length c2] wx fun r w' => ∃ A q c, r = .returned (.slice A q c) ∧ OwnF w' z (.slice A q c) (headF e nx ++ dropsF e.drop ++ addsF (e.add.take j) ++ numsF t 3 ++ (formN t.lo.length ++ t.lo) ++ (formN t.hi.length ++ t.hi)) ∧ fr wx w') := Lib.hid fun A q k wx hox hfx =>
                appB z _ _ _ _ wx _ hox ((HV2.out.below HDW.out).below hfx) (by have h1 := HLN.out; have h2 := (formN_len t.lo.length).2; have h3 := HTO.out.lo.2; simp only [List.length_append] at h1 ⊢; omega) (by have := HTO.out.hi.2; omega) (by have := Below.size hfx; exact Nat.le_trans hs9 this)
              go_region_held3 (fun w' => w'.cell? ⟨tb, 3, none⟩ = some (.slice A1 t.lo.length c1) ∧ w'.cell? ⟨tb, 4, none⟩ = some (.slice A2 t.hi.length c2))
                (first
                  | exact ⟨fr.cell f12 (fr.cell f11 (fr.cell HDW.out y3)), fr.cell f12 (fr.cell f11 (fr.cell HDW.out y4))⟩
                  | exact ⟨fr.cell f11 (fr.cell HDW.out y3), fr.cell f11 (fr.cell HDW.out y4)⟩
                  | exact ⟨fr.cell HDW.out y3, fr.cell HDW.out y4⟩)
                (first
                  | (go_at_call 157; (with_reducible refine Calls.mono (HA2.out _ _ _ _ ho11 f11) ?_); rintro r w12 ⟨A12, q12, k12, rfl, ho12, f12⟩)
                  | (go_at_call 157; (with_reducible refine Calls.mono HA1.out ?_); rintro r w11 ⟨A11, q11, k11, rfl, ho11, f11⟩))
              go_wp2
              refine ⟨⟨j + 1, _, _, _, by omega, by go_num, rfl, ?_, fr.step HF.out (fr.step HFC.out (fr.step HDW.out (fr.step f11 f12)))⟩, by simp [intOf]; omega⟩
              have e1 : headF e nx ++ dropsF e.drop ++ addsF (e.add.take (j + 1)) = headF e nx ++ dropsF e.drop ++ addsF (e.add.take j) ++ numsF t 3 ++ (formN t.lo.length ++ t.lo) ++ (formN t.hi.length ++ t.hi) := by
                rw [HSN.out]
                unfold tabF numsF
                simp only [List.append_assoc]
              rw [e1]
              exact ho12
        · obtain rfl : j = na := by omega
          rw [List.take_of_length_le (by rw [HNA.out]; exact Nat.le_refl _)] at HO
          go_wp2
          go_ret
          refine ⟨_, _, _, rfl, ?_, fr.step HFR.out HF.out⟩
          have e1 : editF e nx = headF e nx ++ dropsF e.drop ++ addsF e.add := by unfold editF; rw [List.append_assoc]
          rw [e1]
          exact HO.out
end Go.Proofs.YtjnolpfmchnnmaaGreatDoor
end
section
namespace Go.Proofs.YtjnolpfmchnnmaaGreatDoor
set_option maxRecDepth 100000
open Go.RowKit Go.BigFrame Go.Sort Go.Shelf Go.Lib
attribute [local go_sem ↓] Go.wp_at_zero Go.wp_at_succ
def ManR (w : World) (M p : Nat) (x : Value) (v : Ver) (num : Nat) : Prop :=
  w.heap[M]? = some (.cells #[.pointer (some ⟨p, 0, none⟩), x, .int .i64 v.lg, .int .i64 v.sq, .int .i64 v.nx, .int .i64 num] 139 (0, 0))
theorem ManR.lt {w : World} {M p num : Nat} {x : Value} {v : Ver} (h : ManR w M p x v num) : M < w.heap.size := (Array.getElem?_eq_some_iff.1 h).1
theorem ManR.only {w w' : World} {M p num : Nat} {x : Value} {v : Ver} {S : Nat → Prop} (h : ManR w M p x v num) (ho : Only S w w') (hS : ¬ S M) : ManR w' M p x v num := (ho.block M h.lt hS).trans h
theorem ManR.below {w w' : World} {M p num : Nat} {x : Value} {v : Ver} (h : ManR w M p x v num) (hf : fr w w') : ManR w' M p x v num := (Below.block hf M h.lt).trans h
theorem ManR.cells {w : World} {M p num : Nat} {x : Value} {v : Ver} (h : ManR w M p x v num) : w.cell? ⟨M, 0, none⟩ = some (.pointer (some ⟨p, 0, none⟩)) ∧ w.cell? ⟨M, 1, none⟩ = some x ∧ w.cell? ⟨M, 2, none⟩ = some (.int .i64 v.lg) ∧ w.cell? ⟨M, 3, none⟩ = some (.int .i64 v.sq) ∧ w.cell? ⟨M, 4, none⟩ = some (.int .i64 v.nx) ∧ w.cell? ⟨M, 5, none⟩ = some (.int .i64 num) :=
  ⟨cell_of_row _ _ 0 _ _ _ h, cell_of_row _ _ 1 _ _ _ h, cell_of_row _ _ 2 _ _ _ h, cell_of_row _ _ 3 _ _ _ h, cell_of_row _ _ 4 _ _ _ h, cell_of_row _ _ 5 _ _ _ h⟩
set_option maxRecDepth 100000 in
set_option maxHeartbeats 4000000 in
theorem mput_any (S F : Nat → Prop) (M p num dn : Nat) (D : Nm → Option (List UInt8)) (x av dv : Value) (v : Ver) (e : Edt) (nx : Int) (w : World) (hm : ManR w M p x v num) (hk : DkC w F p dn D) (ht : TabW w) (ha : TabsV w S av e.add) (hd : IntsIn w S dv e.drop) (hok : EditOk e nx)
    (hnum : num < 1000000) (hdn : dn ≤ 1000000) (hl : ((D (nameM num)).getD []).length ≤ 1099511627776) :
    Calls Tryz.prog 83 #[.pointer (some ⟨M, 0, none⟩), .agg #[av, dv, .int .i64 e.lg, .int .i64 e.sq], .int .i64 nx] w fun r w' => r = .returned (.int .i64 0) ∧ (∃ F', Spread w.heap.size F F' ∧ DkC w' F' p (dn + 1) (putD D (nameM num) ((D (nameM num)).getD [] ++ putF (editF e nx)))) ∧ Only F w w' := by
  obtain ⟨Aa, ca, rfl⟩ := ha.form
  obtain ⟨Ad, cd, rfl⟩ : ∃ A c, dv = .slice A e.drop.length c := by obtain ⟨A, c, h, _⟩ := hd; exact ⟨A, c, h⟩
  obtain ⟨na, hna⟩ : ∃ n, e.add.length = n := ⟨_, rfl⟩
  obtain ⟨nd, hnd⟩ : ∃ n, e.drop.length = n := ⟨_, rfl⟩
  rw [hna] at ha ⊢
  rw [hnd] at hd ⊢
  have hel := editF_len hok
  have HW := Lib.hid fun wx (hx : fr w wx) => mwrite_any S (.slice Aa na ca) (.slice Ad nd cd) e nx wx (ha.below tbFine hx) (hd.below hx) hok
  have HM := Lib.hid hm
  have HK := Lib.hid hk
  have HT := Lib.hid ht
  have HLN := Lib.hid hl
  have HEL := Lib.hid hel
  obtain ⟨n8, hn8⟩ : ∃ q, (editF e nx).length + 8 = q := ⟨_, rfl⟩
  have HN8 := Lib.hid hn8
  have hf1 : fr w (w.alloc (.cells #[.slice Aa na ca, .slice Ad nd cd, .int .i64 e.lg, .int .i64 e.sq] 45)) := fr.alloc fr.refl _
  have b0 := heap_alloc_new w (.cells #[.slice Aa na ca, .slice Ad nd cd, .int .i64 e.lg, .int .i64 e.sq] 45)
  clear ha hd hok hm hk ht hl hna hnd hel hn8
  go_enter Tryz.func83, Tryz.ntmps83
  go_upto_region 1 with (fail)
  generalize w.alloc (.cells #[.slice Aa na ca, .slice Ad nd cd, .int .i64 e.lg, .int .i64 e.sq] 45) = w1 at hf1 b0 ⊢
  have c0 := cell_of_row _ _ 0 _ _ _ b0
  have c1 := cell_of_row _ _ 1 _ _ _ b0
  have c2 := cell_of_row _ _ 2 _ _ _ b0
  have c3 := cell_of_row _ _ 3 _ _ _ b0
  have HF1 := Lib.hid hf1
  clear hf1
  go_upto_region 4 with (first
    | (go_at_call 140; refine (HW.out _ HF1.out).mono ?_; rintro r w2 ⟨A2, q2, k2, rfl, ho2, f2⟩)
    | (go_at_call 73; refine (fput_any _ _ _ _ ho2.byt).mono ?_; rintro r w3 ⟨hp1, _, f3⟩; obtain ⟨A3, c3', rfl, hown⟩ := hp1 (by have := HEL.out; omega); rw [HN8.out] at hown; rw [HN8.out]))
  have HO3 := Lib.hid hown
  have HF3 := Lib.hid (fr.step HF1.out (fr.step f2 f3))
  have HZ2 : Hid (w.heap.size ≤ w2.heap.size) := Lib.hid (Below.size (fr.step HF1.out f2))
  clear ho2 hp1 hown c0 c1 c2 c3 b0 f2 f3
  obtain ⟨e0, e1, e2, e3, e4, e5⟩ := (HM.out.below HF3.out).cells
  obtain ⟨X, hX⟩ : ∃ X : ByteArray, (⟨(nameM num).toArray⟩ : ByteArray) = X := ⟨_, rfl⟩
  have HFI : Hid (∀ wx, fr w3 wx → Calls Tryz.prog 84 #[.int .i64 num] wx fun r w' => r = .returned (.string X) ∧ Below wx.heap.size wx w') := Lib.hid fun wx hx => by
    rw [← hX]
    exact mfile_any num wx (HT.out.below (fr.step HF3.out hx)) hnum
  have HAP : Hid (∀ wx, fr w3 wx → Calls Tryz.prog 35 #[.pointer (some ⟨p, 0, none⟩), .string X, .slice A3 n8 c3'] wx fun r w' => r = .returned (.int .i64 0) ∧ (∃ F', Spread wx.heap.size F F' ∧ DkC w' F' p (dn + 1) (putD D (nameM num) ((D (nameM num)).getD [] ++ putF (editF e nx)))) ∧ Only F wx w') := Lib.hid fun wx hx => by
    have hl := HLN.out
    have he := HEL.out
    rw [← hX]
    exact cappend (fun i => w.heap.size ≤ i) _ _ ((HK.out.below HF3.out).below hx) (HT.out.below (fr.step HF3.out hx)) (nameB_M num) (((HO3.out.byt).mono fun i hi => Nat.le_trans HZ2.out hi.1).below hx) (fun i hi hf => by have := (HK.out.lies i hf).1; omega) (by rw [putF_len]; omega) (by omega)
  clear hX
  have q0 := fun q : Ext w3 => q.cell e0
  have q5 := fun q : Ext w3 => q.cell e5
  (refine wp_region_ext_tail 10 (by kernel_rfl) (by kernel_rfl) ?_; simp only [List.take_succ_cons, List.take_zero, List.drop_succ_cons, List.drop_zero]; (repeat (go_big_quiet_step ((go_at_call 84; exact Ext.calls (HFI.out _ (Ext.h _)))))); refine wpQuiet_nil ?_; intro wq hw'; obtain ⟨⟨_, hq⟩, hw''⟩ := hw'; subst hw'')
  clear q0 q5 e0 e1 e2 e3 e4 e5
  go_wp2_with (go_at_call 35; refine (HAP.out _ hq).mono ?_; rintro r w5 ⟨rfl, ⟨F', hsp, hk5⟩, ho5⟩)
  go_ret
  exact ⟨rfl, ⟨F', hsp.low (Below.size (fr.step HF3.out hq)), hk5⟩, (Only.of_below (fr.step HF3.out hq)).trans ho5⟩
end Go.Proofs.YtjnolpfmchnnmaaGreatDoor
end
section
namespace Go.Proofs.YtjnolpfmchnnmaaGreatDoor
set_option maxRecDepth 100000
open Go.RowKit Go.BigFrame Go.Sort Go.Shelf Go.Lib
attribute [local go_sem ↓] Go.wp_at_zero Go.wp_at_succ
theorem ownC_empty (w : World) (base : Nat) (hb : base ≤ w.heap.size) : OwnC (w.alloc (.cells #[] 57)) base (.slice (some ⟨w.heap.size, 0, none⟩) 0 0) 0 [] :=
  ⟨rfl, .inr ⟨w.heap.size, 0, #[], rfl, hb, heap_alloc_new w _, Nat.le_refl _, Nat.zero_le _, rfl, by simp⟩⟩
set_option maxRecDepth 100000 in
set_option maxHeartbeats 1000000 in
theorem cloneT_any (S : Nat → Prop) (A : Option Addr) (n c : Nat) (cs : List Value) (w : World) (h : Row w S A n 5 cs) (h1 : ∀ u ∈ cs, u.oneCell' = true) (hb : n * 72 ≤ 140737488355328) :
    Calls Tryz.prog 141 #[.slice A n c] w fun r w' => ∃ A' c', r = .returned (.slice A' n c') ∧ OwnC w' w.heap.size (.slice A' n c') n cs ∧ fr w w' := by
  have H := Lib.hid h
  have H1 := Lib.hid h1
  have q22 : ∀ (w : World) (a : Option Addr) (n c n' c' : Nat), (binOp .eql 43 (.slice a n c) (.slice none n' c')).run Tryz.prog w = .ok (.bool a.isNone) w := fun w a n c n' c' => Lib.run_eql_slice_nil w _ _ a n c n' c' Tryz.underlying43
  cases A with
  | none =>
    have hn0 : n = 0 := by
      rcases Nat.eq_zero_or_pos n with h0 | h0
      · exact h0
      · obtain ⟨b, o, e, _⟩ := h.2 h0; cases e
    subst hn0
    have hcs : Hid (cs = []) := Lib.hid (List.eq_nil_of_length_eq_zero (by simpa using h.1))
    clear h h1
    go_enter Tryz.func141, Tryz.ntmps141
    go_wp2
    refine bodyPost_ret (v := .slice none 0 0) (by simp [results, Tryz.results141, go_sem]) rfl ?_
    exact ⟨_, _, rfl, by rw [hcs.out]; exact World.ownsRow_nil _ _ _ _, fr.refl⟩
  | some ad =>
    clear h h1
    have hal : fr w (w.alloc (.cells #[] 57)) := fr.alloc fr.refl _
    have HE := Lib.hid (ownC_empty w w.heap.size (Nat.le_refl _))
    have hz : w.heap.size ≤ (w.alloc (.cells #[] 57)).heap.size := by simp
    go_enter Tryz.func141, Tryz.ntmps141
    go_wp2_with (at_builtin; refine wpList_append_rowT rfl _ _ rfl w.heap.size _ 0 [] rfl HE.out S (some ad) n c cs rfl (H.out.below hal) H1.out (by omega) hz ?_; intro v5 w5 hown5 hgrow5)
    rw [Nat.zero_add, List.nil_append] at hown5
    obtain ⟨A5, c5, rfl⟩ := own_form hown5
    refine bodyPost_ret (v := .slice A5 n c5) (by simp [results, Tryz.results141, go_sem]) rfl ?_
    refine ⟨_, _, rfl, hown5, RowKit.Below.grown (B := w.heap.size) hal hgrow5 (by simp) fun j e => ?_⟩
    have h5 : w.heap.size = j := Option.some.inj e
    omega
theorem flat_set2 {css : List (List Value)} (h : ∀ cs ∈ css, cs.length = 5) {i : Nat} {x0 x1 x2 x3 x4 : Value} (d e : Value) (hi : css[i]? = some [x0, x1, x2, x3, x4]) :
    ((css.flatten.set (i * 5 + 3) d).set (i * 5 + 4) e) = (css.set i [x0, x1, x2, d, e]).flatten := by
  induction css generalizing i with
  | nil => simp at hi
  | cons cs r ih =>
    have h5 := h cs List.mem_cons_self
    match cs, h5 with
    | [p0, p1, p2, p3, p4], _ =>
      cases i with
      | zero =>
        simp only [List.getElem?_cons_zero, Option.some.injEq, List.cons.injEq, and_true] at hi
        obtain ⟨rfl, rfl, rfl, rfl, rfl⟩ := hi
        simp
      | succ i =>
        have := ih (fun c hc => h c (List.mem_cons_of_mem _ hc)) (i := i) (by simpa using hi)
        rw [List.set_cons_succ, List.flatten_cons, List.flatten_cons, ← this]
        have e0 : (i + 1) * 5 = i * 5 + 5 := by omega
        rw [e0]
        rfl
theorem table_box2 {wL wH : World} {x o1 o2 l1 l2 kL kH : Nat} {AL AH : Option Addr} {t : Tbl} (hL : BytL wL l1 (.slice AL t.lo.length kL) t.lo) (hH : BytL wH l2 (.slice AH t.hi.length kH) t.hi) (g : fr wL wH) (h1 : x < l1) (h2 : x < l2) (b : Nat) (hb1 : b ≤ l1) (hb2 : b ≤ l2) (n c : Nat) :
    tbR ((wH.setCell ⟨x, o1, none⟩ (.slice AL t.lo.length kL)).setCell ⟨x, o2, none⟩ (.slice AH t.hi.length kH)) (freshL ((wH.setCell ⟨x, o1, none⟩ (.slice AL t.lo.length kL)).setCell ⟨x, o2, none⟩ (.slice AH t.hi.length kH)) b (.slice (some ⟨x, 0, none⟩) n c)) t [.int .i64 t.id, .int .i64 t.level, .int .i64 t.count, .slice AL t.lo.length kL, .slice AH t.hi.length kH] := by
  have ha : Only (fun i => i = x) wH ((wH.setCell ⟨x, o1, none⟩ (.slice AL t.lo.length kL)).setCell ⟨x, o2, none⟩ (.slice AH t.hi.length kH)) := (only_set _ _ _ _).trans (only_set _ _ _ _)
  have r1 : BytL _ _ (.slice AL t.lo.length kL) t.lo := BytL.only hL ((Only.of_below g).trans ha) (fun i hi _ e => by omega)
  have r2 : BytL _ _ (.slice AH t.hi.length kH) t.hi := BytL.only hH ha (fun i hi _ e => by omega)
  refine ⟨_, _, rfl, Byt.mono r1 fun i hi => ⟨Nat.le_trans hb1 hi.1, fun e => ?_, hi.2⟩, Byt.mono r2 fun i hi => ⟨Nat.le_trans hb2 hi.1, fun e => ?_, hi.2⟩⟩
  · have h5 : x = i := Option.some.inj e
    have := hi.1; omega
  · have h5 : x = i := Option.some.inj e
    have := hi.1; omega
structure CloneI (wr : World) (base g n c i : Nat) (ts : List Tbl) (css0 css : List (List Value)) : Prop where
  own : OwnC wr base (.slice (some ⟨g, 0, none⟩) n c) n css.flatten
  all : ∀ cs ∈ css, cs.length = 5
  old : css.drop i = css0.drop i
  new : All2 (tbR wr (freshL wr base (.slice (some ⟨g, 0, none⟩) n c))) (ts.take i) (css.take i)
theorem CloneI.step {wr wL wH : World} {base g n c i l1 l2 kL kH c1 c2 : Nat} {AL AH A1 A2 : Option Addr} {ts : List Tbl} {css0 css : List (List Value)} {t : Tbl} (h : CloneI wr base g n c i ts css0 css) (ht : ts[i]? = some t)
    (hc : css[i]? = some [.int .i64 t.id, .int .i64 t.level, .int .i64 t.count, .slice A1 t.lo.length c1, .slice A2 t.hi.length c2]) (f1 : fr wr wL) (g1 : fr wL wH) (hL : BytL wL l1 (.slice AL t.lo.length kL) t.lo) (hH : BytL wH l2 (.slice AH t.hi.length kH) t.hi) (h1 : wr.heap.size ≤ l1) (h2 : wr.heap.size ≤ l2) (hb : base ≤ wr.heap.size) :
    CloneI ((wH.setCell ⟨g, i * 5 + 3, none⟩ (.slice AL t.lo.length kL)).setCell ⟨g, i * 5 + 4, none⟩ (.slice AH t.hi.length kH)) base g n c (i + 1) ts css0 (css.set i [.int .i64 t.id, .int .i64 t.level, .int .i64 t.count, .slice AL t.lo.length kL, .slice AH t.hi.length kH]) := by
  have hg : g < wr.heap.size := (h.own.lt g rfl).2
  have hi := (List.getElem?_eq_some_iff.1 hc).1
  have f2 : fr wr wH := fr.step f1 g1
  have hx := table_box2 (o1 := i * 5 + 3) (o2 := i * 5 + 4) hL hH g1 (x := g) (by omega) (by omega) base (by omega) (by omega) n c
  have ho : Only (fun i => i = g) wH ((wH.setCell ⟨g, i * 5 + 3, none⟩ (.slice AL t.lo.length kL)).setCell ⟨g, i * 5 + 4, none⟩ (.slice AH t.hi.length kH)) := (only_set _ _ _ _).trans (only_set _ _ _ _)
  have hown : OwnC ((wH.setCell ⟨g, i * 5 + 3, none⟩ (.slice AL t.lo.length kL)).setCell ⟨g, i * 5 + 4, none⟩ (.slice AH t.hi.length kH)) base (.slice (some ⟨g, 0, none⟩) n c) n (css.set i [.int .i64 t.id, .int .i64 t.level, .int .i64 t.count, .slice AL t.lo.length kL, .slice AH t.hi.length kH]).flatten := by
    rw [← flat_set2 h.all _ _ hc]
    exact (((own_below h.own f2).stored _ _).1.stored _ _).1
  generalize (wH.setCell ⟨g, i * 5 + 3, none⟩ (.slice AL t.lo.length kL)).setCell ⟨g, i * 5 + 4, none⟩ (.slice AH t.hi.length kH) = W at hx ho hown ⊢
  refine ⟨hown, fun cs hm => ?_, ?_, ?_⟩
  · rcases List.mem_or_eq_of_mem_set hm with h' | h'
    · exact h.all _ h'
    · rw [h']; rfl
  · rw [List.drop_set_of_lt (by omega), ← List.drop_drop, ← List.drop_drop, h.old]
  · have e1 : (css.set i [.int .i64 t.id, .int .i64 t.level, .int .i64 t.count, .slice AL t.lo.length kL, .slice AH t.hi.length kH]).take (i + 1) = css.take i ++ [[.int .i64 t.id, .int .i64 t.level, .int .i64 t.count, .slice AL t.lo.length kL, .slice AH t.hi.length kH]] := by
      rw [take_snoc (e := [.int .i64 t.id, .int .i64 t.level, .int .i64 t.count, .slice AL t.lo.length kL, .slice AH t.hi.length kH]) (by rw [List.getElem?_set_self hi]), List.take_set_of_le (Nat.le_refl _)]
    rw [e1, take_snoc ht]
    refine all2_app (h.new.imp fun _ _ hz => tbFine.keep hz fun _ _ _ _ hr => ?_) (.cons hx .nil)
    exact ((hr.below f2).only ho fun j _ hj e => hj.2.1 (by rw [e]; rfl)).mono fun j hj => ⟨hj.1, hj.2.1, (hj.2.2.below f2).only ho fun e => hj.2.1 (by rw [e]; rfl)⟩
set_option maxRecDepth 100000 in
set_option maxHeartbeats 2000000 in
theorem mclone_any (S : Nat → Prop) (v : Value) (ts : List Tbl) (lg sq nx : Int) (w : World) (h : TabsV w S v ts) :
    Calls Tryz.prog 85 #[.agg #[v, .int .i64 lg, .int .i64 sq, .int .i64 nx]] w fun r w' => ∃ x, r = .returned (.agg #[x, .int .i64 lg, .int .i64 sq, .int .i64 nx]) ∧ OwnTabs w' w.heap.size x ts ∧ fr w w' := by
  obtain ⟨A, c, css0, rfl, hc1, hc2, hc3, hrow, hall⟩ := h
  obtain ⟨n, hn⟩ : ∃ n, ts.length = n := ⟨_, rfl⟩
  rw [hn] at hc1 hc3 hrow ⊢
  have HN := Lib.hid hn
  have hf1 : fr w ((w.alloc (.cells #[.slice A n c, .int .i64 lg, .int .i64 sq, .int .i64 nx] 50)).alloc (.cells #[.slice none 0 0, .int .i64 0, .int .i64 0, .int .i64 0] 50)) := fr.alloc (fr.alloc fr.refl _) _
  have b0 : ((w.alloc (.cells #[.slice A n c, .int .i64 lg, .int .i64 sq, .int .i64 nx] 50)).alloc (.cells #[.slice none 0 0, .int .i64 0, .int .i64 0, .int .i64 0] 50)).heap[w.heap.size]? = some (.cells #[.slice A n c, .int .i64 lg, .int .i64 sq, .int .i64 nx] 50 (0, 0)) := (Below.heap_alloc _ _ _ (by simp)).trans (heap_alloc_new w _)
  have b1 : ((w.alloc (.cells #[.slice A n c, .int .i64 lg, .int .i64 sq, .int .i64 nx] 50)).alloc (.cells #[.slice none 0 0, .int .i64 0, .int .i64 0, .int .i64 0] 50)).heap[w.heap.size + 1]? = some (.cells #[.slice none 0 0, .int .i64 0, .int .i64 0, .int .i64 0] 50 (0, 0)) := heap_at_new _ trivial (by simp)
  have hs1 : ((w.alloc (.cells #[.slice A n c, .int .i64 lg, .int .i64 sq, .int .i64 nx] 50)).alloc (.cells #[.slice none 0 0, .int .i64 0, .int .i64 0, .int .i64 0] 50)).heap.size = w.heap.size + 2 := by simp
  have HALL := Lib.hid hall
  have HROW := Lib.hid hrow
  have HONE := Lib.hid (tb_one hall)
  have HC := Lib.hid fun wx (hx : fr w wx) => cloneT_any S A n c css0.flatten wx (HROW.out.below hx) HONE.out hc3
  clear hall hrow hn
  go_enter Tryz.func85, Tryz.ntmps85
  go_upto_region 1 with (fail)
  obtain ⟨z, hz⟩ : ∃ z, w.heap.size = z := ⟨_, rfl⟩
  have HZ := Lib.hid hz
  rw [hz] at b0 b1 hs1 ⊢
  generalize (w.alloc (.cells #[.slice A n c, .int .i64 lg, .int .i64 sq, .int .i64 nx] 50)).alloc (.cells #[.slice none 0 0, .int .i64 0, .int .i64 0, .int .i64 0] 50) = w1 at hf1 b0 b1 hs1 ⊢
  have a0 := cell_of_row _ _ 0 _ _ _ b0
  have HF1 := Lib.hid hf1
  have HB0 := Lib.hid b0
  have HB1 := Lib.hid b1
  clear hf1 b0 b1 hz
  go_upto_region 2 with (go_at_call 141; refine (HC.out _ HF1.out).mono ?_; rintro r w2 ⟨A', c', rfl, ho2, f2⟩)
  have HO2 := Lib.hid ho2
  have HF2 := Lib.hid f2
  clear ho2 f2 a0
  go_wp2_with (fail)
  rcases Nat.eq_zero_or_pos n with h0 | h0
  · subst h0
    have hts : ts = [] := List.eq_nil_of_length_eq_zero HN.out
    subst hts
    go_loopw [10] (fun t wr => t = .int .i64 0 ∧ wr = w2) (fun _ _ => 0)
    case atStart => exact ⟨rfl, rfl⟩
    case round =>
      obtain ⟨rfl, rfl⟩ := hrel
      clear hc1 hc2 hc3
      have b0 := boxRowFr HB0.out HF2.out
      have b1 := boxRowFr HB1.out HF2.out
      have z0 := frozen_of_row _ _ 0 _ _ b0
      have e0 := cell_of_row _ _ 0 _ _ _ b0
      have b2 : (wr.setCell ⟨z, 0, none⟩ (.slice A' 0 c')).heap[z]? = some (.cells #[(.slice A' 0 c'), .int .i64 lg, .int .i64 sq, .int .i64 nx] 50 (0, 0)) := heap_setCell_same wr z 0 _ _ _ b0
      have e1 := cell_of_row _ _ 0 _ _ _ b2
      have e2 := cell_of_row _ _ 1 _ _ _ b2
      have e3 := cell_of_row _ _ 2 _ _ _ b2
      have e4 := cell_of_row _ _ 3 _ _ _ b2
      have b3 : (wr.setCell ⟨z, 0, none⟩ (.slice A' 0 c')).heap[z + 1]? = some (.cells #[.slice none 0 0, .int .i64 0, .int .i64 0, .int .i64 0] 50 (0, 0)) := (heap_setCell_other wr ⟨z, 0, none⟩ (z + 1) (.slice A' 0 c') (by simp)).trans b1
      have r0 := cell_of_row _ _ 0 _ _ _ b3
      have r1 := cell_of_row _ _ 1 _ _ _ b3
      have r2 := cell_of_row _ _ 2 _ _ _ b3
      have r3 := cell_of_row _ _ 3 _ _ _ b3
      have y0 := frozen_of_row _ _ 0 _ _ b3
      have y1 := frozen_of_row _ _ 1 _ _ b3
      have y2 := frozen_of_row _ _ 2 _ _ b3
      have y3 := frozen_of_row _ _ 3 _ _ b3
      have HB3 := Lib.hid b3
      go_wp2_with (fail)
      have P := put4_row HB3.out (a := (.slice A' 0 c')) (b := .int .i64 lg) (c := .int .i64 sq) (d := .int .i64 nx)
      have O := (only_set wr z 0 (.slice A' 0 c')).mono (fun i e => (.inl e : i = z ∨ i = z + 1)) |>.trans ((put4_only (W := wr.setCell ⟨z, 0, none⟩ (.slice A' 0 c')) (g := z + 1) (a := (.slice A' 0 c')) (b := .int .i64 lg) (c := .int .i64 sq) (d := .int .i64 nx)).mono fun i e => .inr e)
      unfold put4 at P O
      generalize ((((wr.setCell ⟨z, 0, none⟩ (.slice A' 0 c')).setCell ⟨z + 1, 0, none⟩ (.slice A' 0 c')).setCell ⟨z + 1, 1, none⟩ (.int .i64 lg)).setCell ⟨z + 1, 2, none⟩ (.int .i64 sq)).setCell ⟨z + 1, 3, none⟩ (.int .i64 nx) = w9 at P O ⊢
      have s0 := cell_of_row _ _ 0 _ _ _ P
      have s1 := cell_of_row _ _ 1 _ _ _ P
      have s2 := cell_of_row _ _ 2 _ _ _ P
      have s3 := cell_of_row _ _ 3 _ _ _ P
      refine bodyPost_ret (v := .agg #[(.slice A' 0 c'), .int .i64 lg, .int .i64 sq, .int .i64 nx]) (by simp [results, Tryz.results85, go_sem, s0, s1, s2, s3]) rfl ?_
      have HO9 := own_only HO2.out O fun g hg hS => by have := (HO2.out.lt g hg).1; omega
      have hcs0 : css0.flatten = [] := List.eq_nil_of_length_eq_zero (by simpa using HROW.out.1)
      rw [hcs0] at HO9
      refine ⟨_, rfl, ⟨[], ?_, .nil⟩, ?_⟩
      · have := HO9
        exact ⟨this.1, this.2.imp id fun ⟨g, cap, cur, q1, q2, q3⟩ => ⟨g, cap, cur, q1, by have := HZ.out; omega, q3⟩⟩
      · exact (fr.step HF1.out HF2.out).trans (O.below (Below.size (fr.step HF1.out HF2.out)) fun i h => by have := HZ.out; omega)
  · obtain ⟨g, cg, hE, hwg, _⟩ := own_pos HO2.out h0
    injection hE with e1 e2 e3
    subst e1 e3
    have hl0 : css0.length = n := by rw [← HALL.out.length, HN.out]
    have HL0 := Lib.hid hl0
    clear hl0
    go_loopw [10] (fun t wr => ∃ (i : Nat) (css : List (List Value)), i ≤ n ∧ t = .int .i64 i ∧ CloneI wr (z + 2) g n c' i ts css0 css ∧ css.length = n ∧ fr w1 wr) (fun t _ => n - (intOf t).toNat)
    case atStart =>
      refine ⟨0, css0, Nat.zero_le _, rfl, ⟨?_, tbT_len HALL.out, rfl, by simpa using All2.nil⟩, HL0.out, HF2.out⟩
      have := HO2.out
      rwa [hs1] at this
    case round =>
      obtain ⟨i, css, hi, rfl, hcl, hlen, hf⟩ := hrel
      have HCL := Lib.hid hcl
      have HF := Lib.hid hf
      have HLEN := Lib.hid hlen
      clear hcl hf hlen
      by_cases hin : i < n
      · obtain ⟨t, ht⟩ : ∃ t, ts[i]? = some t := ⟨_, List.getElem?_eq_getElem (by rw [HN.out]; exact hin)⟩
        obtain ⟨cx, hcx, a1, a2, rfl, ha1, ha2⟩ := HALL.out.at_ ht
        obtain ⟨A1, c1, rfl⟩ := slice_form ha1
        obtain ⟨A2, c2, rfl⟩ := slice_form ha2
        have hcss : css[i]? = some [.int .i64 t.id, .int .i64 t.level, .int .i64 t.count, .slice A1 t.lo.length c1, .slice A2 t.hi.length c2] := by
          have h1 : (css.drop i)[0]? = (css0.drop i)[0]? := by rw [HCL.out.old]
          rw [List.getElem?_drop, List.getElem?_drop, Nat.add_zero, hcx] at h1
          exact h1
        have x3 : wr.cell? ⟨g, i * 5 + 3, none⟩ = some (.slice A1 t.lo.length c1) := ownT_cell HCL.out.own (flat_at (j := 3) HCL.out.all hcss rfl)
        have x4 : wr.cell? ⟨g, i * 5 + 4, none⟩ = some (.slice A2 t.hi.length c2) := ownT_cell HCL.out.own (flat_at (j := 4) HCL.out.all hcss rfl)
        have hfw := fr.step HF1.out HF.out
        have HCLO := Lib.hid (clone_fr _ _ _ _ _ _ (ha1.below hfw))
        have HCHI := Lib.hid (clone_fr _ _ _ _ _ _ (ha2.below hfw))
        have HDR : Hid (fr wr wr.drew) := Lib.hid (fr.drew fr.refl)
        have HT := Lib.hid ht
        have HCSS := Lib.hid hcss
        have X3 : wr.drew.cell? ⟨g, i * 5 + 3, none⟩ = some (.slice A1 t.lo.length c1) := x3
        have X4 : wr.drew.cell? ⟨g, i * 5 + 4, none⟩ = some (.slice A2 t.hi.length c2) := x4
        have hi0 : (0 : Int) ≤ (i : Int) := by omega
        have hi1 : (i : Int) < (n : Int) := by omega
        clear ht hcss hcx ha1 ha2 hfw
        go_upto_region 5 with (fail)
        go_region_with (first
          | (go_at_call 89; (with_reducible refine Calls.mono (HCLO.out _ ?_) ?_); (focus (with_reducible exact HDR.out)); rintro r wL ⟨AL, kL, rfl, hbL, gL⟩; have pL := own_below HCL.out.own (fr.stepR HDR.out gL); have yL : wL.cell? ⟨g, i * 5 + 4, none⟩ = some (.slice A2 t.hi.length c2) := fr.cell gL X4)
          | (go_at_call 89; (with_reducible refine Calls.mono (HCHI.out _ ?_) ?_); (focus (with_reducible exact fr.stepR HDR.out gL)); rintro r wH ⟨AH, kH, rfl, hbH, gH⟩; have pH := own_below pL gH; have zH := pH.frozenAt (i * 5 + 3); have cH : wH.cell? ⟨g, i * 5 + 3, none⟩ = some (.slice A1 t.lo.length c1) := fr.cell gH (fr.cell gL X3); have p6 := (pH.stored (i * 5 + 3) (.slice AL t.lo.length kL)).1; have z6 := p6.frozenAt (i * 5 + 4); have c6 : (wH.setCell ⟨g, i * 5 + 3, none⟩ (.slice AL t.lo.length kL)).cell? ⟨g, i * 5 + 4, none⟩ = some (.slice A2 t.hi.length c2) := (by rw [World.cell?_setCell_other _ _ _ _ (by simp)]; exact fr.cell gH yL)))
        all_goals
          go_wp2_with (fail)
          have hstep := HCL.out.step HT.out HCSS.out (fr.stepR HDR.out gL) gH hbL hbH (Nat.le_refl _) (Below.size (fr.stepR HDR.out gL)) (by have := Below.size HF.out; omega)
          refine ⟨⟨i + 1, _, by omega, by go_num, hstep, by rw [List.length_set]; exact HLEN.out, ?_⟩, by simp [intOf]; omega⟩
          exact fr.putE (fr.putE (fr.stepR (fr.stepR (fr.stepR HF.out HDR.out) gL) gH) (by omega)) (by omega)
      · obtain rfl : i = n := by omega
        clear hi hin hc1 hc2 hc3
        have b0 := boxRowFr HB0.out HF.out
        have b1 := boxRowFr HB1.out HF.out
        have z0 := frozen_of_row _ _ 0 _ _ b0
        have e0 := cell_of_row _ _ 0 _ _ _ b0
        have b2 : (wr.setCell ⟨z, 0, none⟩ (.slice (some ⟨g, 0, none⟩) i c')).heap[z]? = some (.cells #[(.slice (some ⟨g, 0, none⟩) i c'), .int .i64 lg, .int .i64 sq, .int .i64 nx] 50 (0, 0)) := heap_setCell_same wr z 0 _ _ _ b0
        have e1 := cell_of_row _ _ 0 _ _ _ b2
        have e2 := cell_of_row _ _ 1 _ _ _ b2
        have e3 := cell_of_row _ _ 2 _ _ _ b2
        have e4 := cell_of_row _ _ 3 _ _ _ b2
        have b3 : (wr.setCell ⟨z, 0, none⟩ (.slice (some ⟨g, 0, none⟩) i c')).heap[z + 1]? = some (.cells #[.slice none 0 0, .int .i64 0, .int .i64 0, .int .i64 0] 50 (0, 0)) := (heap_setCell_other wr ⟨z, 0, none⟩ (z + 1) (.slice (some ⟨g, 0, none⟩) i c') (by simp)).trans b1
        have r0 := cell_of_row _ _ 0 _ _ _ b3
        have r1 := cell_of_row _ _ 1 _ _ _ b3
        have r2 := cell_of_row _ _ 2 _ _ _ b3
        have r3 := cell_of_row _ _ 3 _ _ _ b3
        have y0 := frozen_of_row _ _ 0 _ _ b3
        have y1 := frozen_of_row _ _ 1 _ _ b3
        have y2 := frozen_of_row _ _ 2 _ _ b3
        have y3 := frozen_of_row _ _ 3 _ _ b3
        have HB3 := Lib.hid b3
        go_wp2_with (fail)
        have P := put4_row HB3.out (a := (.slice (some ⟨g, 0, none⟩) i c')) (b := .int .i64 lg) (c := .int .i64 sq) (d := .int .i64 nx)
        have O := (only_set wr z 0 (.slice (some ⟨g, 0, none⟩) i c')).mono (fun i e => (.inl e : i = z ∨ i = z + 1)) |>.trans ((put4_only (W := wr.setCell ⟨z, 0, none⟩ (.slice (some ⟨g, 0, none⟩) i c')) (g := z + 1) (a := (.slice (some ⟨g, 0, none⟩) i c')) (b := .int .i64 lg) (c := .int .i64 sq) (d := .int .i64 nx)).mono fun i e => .inr e)
        unfold put4 at P O
        generalize ((((wr.setCell ⟨z, 0, none⟩ (.slice (some ⟨g, 0, none⟩) i c')).setCell ⟨z + 1, 0, none⟩ (.slice (some ⟨g, 0, none⟩) i c')).setCell ⟨z + 1, 1, none⟩ (.int .i64 lg)).setCell ⟨z + 1, 2, none⟩ (.int .i64 sq)).setCell ⟨z + 1, 3, none⟩ (.int .i64 nx) = w9 at P O ⊢
        have s0 := cell_of_row _ _ 0 _ _ _ P
        have s1 := cell_of_row _ _ 1 _ _ _ P
        have s2 := cell_of_row _ _ 2 _ _ _ P
        have s3 := cell_of_row _ _ 3 _ _ _ P
        refine bodyPost_ret (v := .agg #[(.slice (some ⟨g, 0, none⟩) i c'), .int .i64 lg, .int .i64 sq, .int .i64 nx]) (by simp [results, Tryz.results85, go_sem, s0, s1, s2, s3]) rfl ?_
        have hnew := HCL.out.new
        rw [List.take_of_length_le (by rw [HN.out]; exact Nat.le_refl _), List.take_of_length_le (by rw [HLEN.out]; exact Nat.le_refl _)] at hnew
        have h5 : OwnTabs wr (z + 2) (.slice (some ⟨g, 0, none⟩) i c') ts := ⟨css, by rw [HN.out]; exact HCL.out.own, hnew⟩
        exact ⟨_, rfl, OwnRows.rebaseF tbFine (OwnRows.onlyF tbFine h5 O (fun j hj _ e => by omega)) (by have := HZ.out; omega), (fr.step HF1.out HF.out).trans (O.below (Below.size (fr.step HF1.out HF.out)) fun i h => by have := HZ.out; omega)⟩
end Go.Proofs.YtjnolpfmchnnmaaGreatDoor
end
section
namespace Go.Proofs.YtjnolpfmchnnmaaGreatDoor
set_option maxRecDepth 100000
open Go.RowKit Go.BigFrame Go.Sort Go.Shelf Go.Lib
attribute [local go_sem ↓] Go.wp_at_zero Go.wp_at_succ
abbrev numFV (B : Nat) : Value := .func (.func 202) #[] #[.pointer (some ⟨B + 3, 0, none⟩), .pointer (some ⟨B, 0, none⟩), .pointer (some ⟨B + 2, 0, none⟩)]
structure RdI (w : World) (B : Nat) (bv : Value) (k : Nat) : Prop where
  byts : Boxed w B 35 bv
  at_ : Boxed w (B + 2) 3 (.int .i64 k)
  why : Boxed w (B + 3) 31 (.int .i64 0)
  num : Boxed w (B + 4) 36 (numFV B)
theorem RdI.only {w w' : World} {B k : Nat} {bv : Value} {S : Nat → Prop} (h : RdI w B bv k) (ho : Only S w w') (hS : ∀ i, S i → i < B ∨ B + 4 < i) : RdI w' B bv k :=
  ⟨boxedOnly h.byts ho fun h => by have := hS _ h; omega, boxedOnly h.at_ ho fun h => by have := hS _ h; omega, boxedOnly h.why ho fun h => by have := hS _ h; omega, boxedOnly h.num ho fun h => by have := hS _ h; omega⟩
theorem RdI.below {w w' : World} {B k : Nat} {bv : Value} (h : RdI w B bv k) (hf : fr w w') : RdI w' B bv k := h.only (S := fun _ => False) (Only.of_below hf) fun _ h => h.elim
theorem RdI.step {w : World} {B k k' : Nat} {bv : Value} {z : Int} (h : RdI w B bv k) (hz : z = (k' : Int)) : RdI ((w.setCell ⟨B + 2, 0, none⟩ (.int .i64 z)).setCell ⟨B + 3, 0, none⟩ (.int .i64 0)) B bv k' ∧ Only (fun i => i = B + 2 ∨ i = B + 3) w ((w.setCell ⟨B + 2, 0, none⟩ (.int .i64 z)).setCell ⟨B + 3, 0, none⟩ (.int .i64 0)) := by
  subst hz
  refine ⟨⟨(h.byts.other (by omega) _).other (by omega) _, ((h.at_.set _).other (by omega) _), (h.why.other (by omega) _).set _, (h.num.other (by omega) _).other (by omega) _⟩, ?_⟩
  exact ((only_set w (B + 2) 0 _).mono fun i h => .inl h).trans ((only_set _ (B + 3) 0 _).mono fun i h => .inr h)
set_option maxRecDepth 100000 in
set_option maxHeartbeats 1000000 in
theorem numR_any (S : Nat → Prop) (B b o n c k v : Nat) (bs rest : List UInt8) (w : World) (h : RdI w B (.slice (some ⟨b, o, none⟩) n c) k) (hv : Byt w S (.slice (some ⟨b, o, none⟩) n c) bs) (hn : bs.length = n) (hk : k ≤ n) (hr : bs.drop k = formN v ++ rest) (h63 : v < 9223372036854775808) :
    Calls Tryz.prog 202 #[.pointer (some ⟨B + 3, 0, none⟩), .pointer (some ⟨B, 0, none⟩), .pointer (some ⟨B + 2, 0, none⟩)] w fun r w' => r = .returned (.int .i64 v) ∧ RdI w' B (.slice (some ⟨b, o, none⟩) n c) (k + (formN v).length) ∧ Only (fun i => i = B + 2 ∨ i = B + 3) w w' := by
  have HU := Lib.hid (uint_any S b o n c k v bs rest w hv hn hk hr (by omega))
  have h1 := h.byts.cell
  have h2 := h.at_.cell
  have h3 := h.why.cell
  have z2 := h.at_.frozen
  obtain ⟨q, hq⟩ : ∃ q, k + (formN v).length = q := ⟨_, rfl⟩
  rw [hq] at HU ⊢
  have H := Lib.hid h
  have h4 := (h.why.other (show B + 3 ≠ B + 2 by omega) (.int .i64 q)).cell
  have z4 := (h.why.other (show B + 3 ≠ B + 2 by omega) (.int .i64 q)).frozen
  clear hv hn hk hr h hq
  go_enter Tryz.func202, Tryz.ntmps202
  go_wp2_with (go_at_call 150; refine HU.out.mono ?_; rintro r w1 ⟨rfl, rfl⟩)
  go_ret
  obtain ⟨r1, r2⟩ := H.out.step (k' := q) rfl
  exact ⟨rfl, r1, r2⟩
set_option maxRecDepth 100000 in
set_option maxHeartbeats 1000000 in
theorem numR_wide (S : Nat → Prop) (B b o n c k v : Nat) (bs rest : List UInt8) (w : World) (h : RdI w B (.slice (some ⟨b, o, none⟩) n c) k) (hv : Byt w S (.slice (some ⟨b, o, none⟩) n c) bs) (hn : bs.length = n) (hk : k ≤ n) (hr : bs.drop k = formN v ++ rest) (h64 : v < 18446744073709551616) (z : Int) (hz : wrap64 (v : Int) = z) :
    Calls Tryz.prog 202 #[.pointer (some ⟨B + 3, 0, none⟩), .pointer (some ⟨B, 0, none⟩), .pointer (some ⟨B + 2, 0, none⟩)] w fun r w' => r = .returned (.int .i64 z) ∧ RdI w' B (.slice (some ⟨b, o, none⟩) n c) (k + (formN v).length) ∧ Only (fun i => i = B + 2 ∨ i = B + 3) w w' := by
  have HU := Lib.hid (uint_any S b o n c k v bs rest w hv hn hk hr h64)
  have h1 := h.byts.cell
  have h2 := h.at_.cell
  have h3 := h.why.cell
  have z2 := h.at_.frozen
  obtain ⟨q, hq⟩ : ∃ q, k + (formN v).length = q := ⟨_, rfl⟩
  rw [hq] at HU ⊢
  have H := Lib.hid h
  have h4 := (h.why.other (show B + 3 ≠ B + 2 by omega) (.int .i64 q)).cell
  have z4 := (h.why.other (show B + 3 ≠ B + 2 by omega) (.int .i64 q)).frozen
  clear hv hn hk hr h hq h64
  go_enter Tryz.func202, Tryz.ntmps202
  go_wp2_with (go_at_call 150; refine HU.out.mono ?_; rintro r w1 ⟨rfl, rfl⟩)
  go_ret
  obtain ⟨r1, r2⟩ := H.out.step (k' := q) rfl
  exact ⟨by show Ending.returned (.int .i64 (wrap64 (v : Int))) = _; rw [hz], r1, r2⟩
set_option maxRecDepth 100000 in
set_option maxHeartbeats 1000000 in
theorem textR_any (S : Nat → Prop) (B b o n c k : Nat) (bs xs rest : List UInt8) (w : World) (h : RdI w B (.slice (some ⟨b, o, none⟩) n c) k) (hv : Byt w S (.slice (some ⟨b, o, none⟩) n c) bs) (hn : bs.length = n) (hk : k ≤ n) (hr : bs.drop k = formN xs.length ++ xs ++ rest) (h0 : 0 < xs.length ∧ xs.length ≤ 200) :
    Calls Tryz.prog 203 #[.pointer (some ⟨B + 3, 0, none⟩), .pointer (some ⟨B, 0, none⟩), .pointer (some ⟨B + 2, 0, none⟩)] w fun r w' => ∃ A c', r = .returned (.slice A xs.length c') ∧ BytL w' w.heap.size (.slice A xs.length c') xs ∧ RdI w' B (.slice (some ⟨b, o, none⟩) n c) (k + (formN xs.length).length + xs.length) ∧ Only (fun i => i = B + 2 ∨ i = B + 3) w w' := by
  have HU := Lib.hid (vbytes_any S b o n c k 200 bs xs rest w hv hn hk hr h0.2 (by omega) h0.1)
  have h1 := h.byts.cell
  have h2 := h.at_.cell
  have h3 := h.why.cell
  obtain ⟨q, hq⟩ : ∃ q, k + (formN xs.length).length + xs.length = q := ⟨_, rfl⟩
  obtain ⟨m, hm⟩ : ∃ m, xs.length = m := ⟨_, rfl⟩
  rw [hq] at HU ⊢
  rw [hm]
  have H := Lib.hid h
  have HM := Lib.hid hm
  clear hv hn hk hr h hq hm h0
  go_enter Tryz.func203, Tryz.ntmps203
  go_wp2_with (go_at_call 151; refine HU.out.mono ?_; rintro r w1 ⟨v', rfl, hv1, f1⟩; obtain ⟨A1, k1, rfl⟩ := slice_form hv1; have g2 := (boxedFr H.out.at_ f1).cell; have z2 := (boxedFr H.out.at_ f1).frozen; have g3 := ((boxedFr H.out.why f1).other (show B + 3 ≠ B + 2 by omega) (.int .i64 q)).cell; have z3 := ((boxedFr H.out.why f1).other (show B + 3 ≠ B + 2 by omega) (.int .i64 q)).frozen)
  go_ret
  obtain ⟨r1, r2⟩ := (H.out.below f1).step (k' := q) rfl
  have hl := H.out.num.lt
  rw [HM.out] at hv1 ⊢
  exact ⟨_, _, rfl, BytL.only hv1 r2 (fun i hi _ e => by omega), r1, (Only.of_below f1).trans r2⟩
set_option maxRecDepth 100000 in
set_option maxHeartbeats 1000000 in
theorem signR_low (S : Nat → Prop) (B b o n c k v : Nat) (bs rest : List UInt8) (w : World) (h : RdI w B (.slice (some ⟨b, o, none⟩) n c) k) (hv : Byt w S (.slice (some ⟨b, o, none⟩) n c) bs) (hn : bs.length = n) (hk : k ≤ n) (hr : bs.drop k = formN (2 * v) ++ rest) (h62 : v < 4611686018427387904) :
    Calls Tryz.prog 204 #[.pointer (some ⟨B + 4, 0, none⟩)] w fun r w' => r = .returned (.int .i64 v) ∧ RdI w' B (.slice (some ⟨b, o, none⟩) n c) (k + (formN (2 * v)).length) ∧ Only (fun i => i = B + 2 ∨ i = B + 3) w w' := by
  have HU := Lib.hid (numR_any S B b o n c k (2 * v) bs rest w h hv hn hk hr (by omega))
  have h1 := h.num.cell
  have hand : bits BinOp.and IntKind.u64 (2 * (v : Int)) 1 = 0 := by
    have := bits_mask .u64 64 (by decide) (fun n h0 h1 => by rw [IntKind.wrap_u64]; omega) 1 (by decide) (2 * (v : Int)) (by omega) (by omega)
    rw [show ((2 : Int) ^ 1 - 1) = 1 by decide] at this
    rw [this]
    omega
  have hxor : bits BinOp.xor IntKind.i64 (v : Int) 0 = (v : Int) := by
    simp [bits, IntKind.wrap, IntKind.signed, IntKind.bits]
    erw [BitVec.xor_zero]
    rw [BitVec.toNat_ofNat]
    split <;> omega
  have eg := enters_of Tryz.func202 (by kernel_rfl) rfl
  obtain ⟨q, hq⟩ : ∃ q, k + (formN (2 * v)).length = q := ⟨_, rfl⟩
  rw [hq] at HU ⊢
  clear hv hn hk hr h hq
  go_enter Tryz.func204, Tryz.ntmps204
  go_wp2_with ((first | go_at_call 202 | go_at_fn 202); refine HU.out.mono ?_; rintro r w1 ⟨rfl, hi1, ho1⟩)
  go_ret
  exact ⟨rfl, hi1, ho1⟩
theorem wr_z (v : Nat) (hv : v < 9223372036854775808) (hv2 : 4611686018427387904 ≤ v) : IntKind.u64.wrap (wrap64 ((2 * v : Nat) : Int)) = ((2 * v : Nat) : Int) := by
  simp [wrap64, IntKind.wrap, IntKind.signed, IntKind.bits]
  omega
set_option maxRecDepth 100000 in
set_option maxHeartbeats 1000000 in
theorem signR_big (S : Nat → Prop) (B b o n c k v : Nat) (bs rest : List UInt8) (w : World) (h : RdI w B (.slice (some ⟨b, o, none⟩) n c) k) (hv : Byt w S (.slice (some ⟨b, o, none⟩) n c) bs) (hn : bs.length = n) (hk : k ≤ n) (hr : bs.drop k = formN (2 * v) ++ rest) (h63 : v < 9223372036854775808) (h62 : 4611686018427387904 ≤ v) :
    Calls Tryz.prog 204 #[.pointer (some ⟨B + 4, 0, none⟩)] w fun r w' => r = .returned (.int .i64 v) ∧ RdI w' B (.slice (some ⟨b, o, none⟩) n c) (k + (formN (2 * v)).length) ∧ Only (fun i => i = B + 2 ∨ i = B + 3) w w' := by
  obtain ⟨z, hz⟩ : ∃ z, wrap64 ((2 * v : Nat) : Int) = z := ⟨_, rfl⟩
  have z2 := wr_z v h63 h62
  rw [hz] at z2
  obtain ⟨u, hu⟩ : ∃ u, 2 * v = u := ⟨_, rfl⟩
  have hu2 : u < 18446744073709551616 := by omega
  have z3 : (u : Int) / 2 = (v : Int) := by omega
  rw [hu] at hr hz z2 ⊢
  have HU := Lib.hid (numR_wide S B b o n c k u bs rest w h hv hn hk hr hu2 z hz)
  have h1 := h.num.cell
  have hand : bits BinOp.and IntKind.u64 (u : Int) 1 = 0 := by
    have := bits_mask .u64 64 (by decide) (fun n h0 h1 => by rw [IntKind.wrap_u64]; omega) 1 (by decide) (u : Int) (by omega) (by omega)
    rw [show ((2 : Int) ^ 1 - 1) = 1 by decide] at this
    rw [this]
    omega
  have hxor : bits BinOp.xor IntKind.i64 (v : Int) 0 = (v : Int) := by
    simp [bits, IntKind.wrap, IntKind.signed, IntKind.bits]
    erw [BitVec.xor_zero]
    rw [BitVec.toNat_ofNat]
    split <;> omega
  have eg := enters_of Tryz.func202 (by kernel_rfl) rfl
  obtain ⟨q, hq⟩ : ∃ q, k + (formN u).length = q := ⟨_, rfl⟩
  rw [hq] at HU ⊢
  clear hv hn hk hr h hq hu hz h62
  go_enter Tryz.func204, Tryz.ntmps204
  go_wp2_with ((first | go_at_call 202 | go_at_fn 202); refine HU.out.mono ?_; rintro r w1 ⟨rfl, hi1, ho1⟩)
  go_ret
  exact ⟨rfl, hi1, ho1⟩
theorem signR_any (S : Nat → Prop) (B b o n c k v : Nat) (bs rest : List UInt8) (w : World) (h : RdI w B (.slice (some ⟨b, o, none⟩) n c) k) (hv : Byt w S (.slice (some ⟨b, o, none⟩) n c) bs) (hn : bs.length = n) (hk : k ≤ n) (hr : bs.drop k = formN (2 * v) ++ rest) (h63 : v < 9223372036854775808) :
    Calls Tryz.prog 204 #[.pointer (some ⟨B + 4, 0, none⟩)] w fun r w' => r = .returned (.int .i64 v) ∧ RdI w' B (.slice (some ⟨b, o, none⟩) n c) (k + (formN (2 * v)).length) ∧ Only (fun i => i = B + 2 ∨ i = B + 3) w w' := by
  rcases Nat.lt_or_ge v 4611686018427387904 with h1 | h1
  · exact signR_low S B b o n c k v bs rest w h hv hn hk hr h1
  · exact signR_big S B b o n c k v bs rest w h hv hn hk hr h63 h1
end Go.Proofs.YtjnolpfmchnnmaaGreatDoor
end
section
namespace Go.Proofs.YtjnolpfmchnnmaaGreatDoor
set_option maxRecDepth 100000
open Go
section
variable {P : Program} {md : Region.Mode} {l : List Oper} {Q : Exit → Act → World → Prop} {S : World → Prop} {n : Nat}
def wpAnyT (P : Program) (md : Region.Mode) (ops : Array Oper) (Q : Exit → Act → World → Prop) (S : World → Prop) (n : Nat) : Nat → Array Bool → Act → World → Prop
  | 0, listed, a, w => Region.ready md ops listed = [] ∧ Q .normal a w
  | fuel + 1, listed, a, w =>
    (Region.ready md ops listed = [] → Q .normal a w) ∧
    ∀ i ∈ Region.ready md ops listed, wpOp P ops Q i (fun a' w' => (i < n → S w') ∧ wpAnyT P md ops Q S n fuel (listed.setIfInBounds i true) a' w') a w
theorem wpAny_of_T {ops : Array Oper} : ∀ (fuel : Nat) (listed : Array Bool) (a : Act) (w : World), wpAnyT P md ops Q S n fuel listed a w → wpAny P md ops Q fuel listed a w
  | 0, _, _, _, h => h
  | fuel + 1, _, _, _, h => ⟨h.1, fun i hi => wpOp_mono (fun a' w' h' => wpAny_of_T fuel _ a' w' h'.2) (h.2 i hi)⟩
theorem wpAnyT_first {ops : Array Oper} {i : Nat} {oi : Oper} {v : Value} (hi : ops[i]? = some oi) (hsel : ∀ (j : Nat) (o : Oper) cs b, ops[j]? = some o → o.op ≠ .select cs b)
    (hQ : ∀ c a w, Q (.panic c) (a.put oi.dst v) w → Q (.panic c) a w) (hk : Region.sinkB md ops n = true) (hc : Region.chainB md ops n = true) (hn : n < ops.size) (hin : i < n) :
    ∀ (fuel : Nat) (listed : Array Bool) (a : Act) (w : World), HeadInv md ops n listed →
      (∀ j oj, ops[j]? = some oj → j ≠ i → listed.getD j true = false → (∀ e ∈ oj.after, Region.binds md e = true → e.on ≠ i) → oi.apart ops oj = true) →
      i ∈ Region.ready md ops listed → YieldsIf P ops S oi v a → S w →
      wpAnyT P md ops Q S n fuel (listed.setIfInBounds i true) (a.put oi.dst v) w → wpAnyT P md ops Q S n (fuel + 1) listed a w := by
  intro fuel
  induction fuel with
  | zero =>
    intro listed a w inv _ hr hy hS H
    refine ⟨fun h => (by rw [h] at hr; cases hr), fun j hj => ?_⟩
    by_cases hji : j = i
    · subst hji; exact hy.wpOp hi hS ⟨fun _ => hS, H⟩
    · have := ready_mono hj hji
      rw [H.1] at this
      cases this
  | succ fuel ih =>
    intro listed a w inv hfree hr hy hS H
    have hun := (mem_ready.1 hr).1
    refine ⟨fun h => (by rw [h] at hr; cases hr), fun j hj => ?_⟩
    have hjn : j < n := by
      rcases Nat.lt_or_ge j n with h | h
      · exact h
      · exact absurd hj (tail_waits hk hc hn inv _ i rfl hin hun j h)
    by_cases hji : j = i
    · subst hji; exact hy.wpOp hi hS ⟨fun _ => hS, H⟩
    · have h1 := H.2 j (ready_mono hj hji)
      obtain ⟨hjun, oj, hoj, hall⟩ := mem_ready.1 hj
      have hnot : ∀ e ∈ oj.after, Region.binds md e = true → e.on ≠ i := fun e he hb heq => by
        have h1 := hall e he hb
        rw [heq, getD_both hun] at h1
        cases h1
      have h2 := wpOp_putIf hoj (hfree j oj hoj hji hjun hnot) (fun cs b => hsel i oi cs b hi) (fun cs b => hsel j oj cs b hoj) hQ hy h1
      have hfree' : ∀ k ok, ops[k]? = some ok → k ≠ i → (listed.setIfInBounds j true).getD k true = false →
          (∀ e ∈ ok.after, Region.binds md e = true → e.on ≠ i) → oi.apart ops ok = true := fun k ok hk hki hun hno => by
        refine hfree k ok hk hki ?_ hno
        by_cases hjk : j = k
        · subst hjk; exact hjun
        · rw [getD_set_ne true hjk] at hun; exact hun
      refine wpOp_mono (fun a' w' h3 => ⟨h3.2.1, ih (listed.setIfInBounds j true) a' w' (inv.set hj hjn) hfree' (ready_mono hr (Ne.symm hji)) h3.1 (h3.2.1 hjn) ?_⟩) h2
      rw [Array.setIfInBounds_comm _ _ hji]
      exact h3.2.2
def GoT (P : Program) (md : Region.Mode) (l : List Oper) (Q : Exit → Act → World → Prop) (S : World → Prop) (n fuel : Nat) (listed : Array Bool) (a : Act) (w : World) : Prop :=
  HeadInv md l.toArray n listed → wpAnyT P md l.toArray Q S n fuel listed a w
def Region.tailB (md : Region.Mode) (ops : Array Oper) (n : Nat) : Bool := Region.noSelect ops && decide (n < ops.size) && Region.sinkB md ops n && Region.chainB md ops n
theorem Region.tailB_spec {ops : Array Oper} (h : Region.tailB md ops n = true) : Region.noSelect ops = true ∧ n < ops.size ∧ Region.sinkB md ops n = true ∧ Region.chainB md ops n = true := by
  unfold Region.tailB at h
  simp only [Bool.and_eq_true, decide_eq_true_eq] at h
  exact ⟨h.1.1.1, h.1.1.2, h.1.2, h.2⟩
theorem got_take {i : Nat} {oi : Oper} {v : Value} {fuel : Nat} {listed : Array Bool} {a : Act} {w : World} (hB : Region.tailB md l.toArray n = true) (hi : l[i]? = some oi) (hin : i < n)
    (hf : Region.free md l.toArray listed i = true) (hr : (Region.ready md l.toArray listed).contains i = true)
    (hQ : ∀ c a w, Q (.panic c) (a.put oi.dst v) w → Q (.panic c) a w) (hy : YieldsIf P l.toArray S oi v a) (hS : S w)
    (h : GoT P md l Q S n fuel (listed.setIfInBounds i true) (a.put oi.dst v) w) : GoT P md l Q S n (fuel + 1) listed a w := fun inv => by
  obtain ⟨b1, b2, b3, b4⟩ := Region.tailB_spec hB
  have hi' : l.toArray[i]? = some oi := by simpa using hi
  have hr' : i ∈ Region.ready md l.toArray listed := by simpa using hr
  exact wpAnyT_first hi' (Region.noSelect_spec b1) hQ b3 b4 b2 hin fuel listed a w inv (Region.free_spec hi' hf) hr' hy hS (h (inv.set hr' hin))
theorem got_one {i : Nat} {o : Oper} {fuel : Nat} {listed : Array Bool} {a : Act} {w : World} (hi : l[i]? = some o) (hin : i < n) (hr : Region.ready md l.toArray listed = [i])
    (h : ∀ K' : Act → World → Prop, Shut (∀ a w, S w → (S w → GoT P md l Q S n fuel (listed.setIfInBounds i true) a w) → K' a w) → if Region.wanted o (yielded l.toArray a.tmps) = true then Oper.wp P o a w K' Q else K' (a.put o.dst undef) w) :
    GoT P md l Q S n (fuel + 1) listed a w := fun inv => by
  have hi' : l.toArray[i]? = some o := by simpa using hi
  refine ⟨fun h0 => (by rw [hr] at h0; cases h0), fun j hj => ?_⟩
  have hji : j = i := by rw [hr] at hj; simpa using hj
  subst hji
  exact wpOp_step hi' (fun K' hK => h K' (fun a w hS hW => hK a w ⟨fun _ => hS, hW hS (inv.set hj hin)⟩))
theorem wpAnyT_of_seq {ops : Array Oper} : ∀ (l : List Oper) (k : Nat) (listed : Array Bool) (a : Act) (w : World), n ≤ k → (∀ j, l[j]? = ops[k + j]?) →
    Region.seqB md ops l.length k listed = true → wpList P ops Q l a w → wpAnyT P md ops Q S n l.length listed a w
  | [], _, _, _, _, _, _, hB, h => ⟨by simpa [Region.seqB] using hB, h⟩
  | o :: l, k, listed, a, w, hnk, hl, hB, h => by
    have h0 : ops[k]? = some o := by simpa using (hl 0).symm
    simp only [List.length_cons, Region.seqB, Bool.and_eq_true, decide_eq_true_eq] at hB
    refine ⟨fun h1 => (by rw [hB.1] at h1; cases h1), fun i hi => ?_⟩
    rw [hB.1] at hi
    have hik : i = k := by simpa using hi
    subst hik
    have hw : wpOp P ops Q i (wpList P ops Q l) a w := by unfold wpOp; simp only [h0]; exact h
    exact wpOp_mono (fun a' w' h' => ⟨fun hlt => by omega, wpAnyT_of_seq l (i + 1) _ a' w' (by omega) (fun j => by have := hl (j + 1); simpa [Nat.add_assoc, Nat.add_comm 1 j] using this) hB.2 h'⟩) hw
theorem got_tail {fuel : Nat} {listed : Array Bool} {a : Act} {w : World} (hB : Region.seqB md l.toArray fuel n listed = true) (hn : fuel = (l.drop n).length) (h : wpList P l.toArray Q (l.drop n) a w) : GoT P md l Q S n fuel listed a w := fun _ => by
  subst hn
  exact wpAnyT_of_seq (l.drop n) n listed a w (Nat.le_refl _) (fun j => by simp [List.getElem?_drop]) hB h
theorem wp_region_got {id : Nat} {a : Act} {w : World} (n : Nat) (hm : P.follows .mixedOrders = true) (hB : Region.tailB .any l.toArray n = true) (hS : S w.drew)
    (h : S w.drew → GoT P .any l Q S n l.toArray.size (Array.replicate l.toArray.size false) a w.drew) : (Code.region id l.toArray true).wp P Q a w := by
  obtain ⟨b1, b2, b3, b4⟩ := Region.tailB_spec hB
  have inv0 : HeadInv .any l.toArray n (Array.replicate l.toArray.size false) :=
    ⟨by simp, fun j oj _ hl => (by rw [getD_replicate_false] at hl; cases hl), fun t _ ht => getD_in (by simpa using ht) (getD_replicate_false _ _)⟩
  exact wp_region_any hm (wpAny_of_T _ _ _ _ (h hS inv0))
end
end Go.Proofs.YtjnolpfmchnnmaaGreatDoor
end
