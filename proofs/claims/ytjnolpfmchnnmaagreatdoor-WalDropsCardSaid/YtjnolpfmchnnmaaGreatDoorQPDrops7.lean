/-
What frame.frames stands on: its boxes, the bytes; a payload handed over; slices of slices of bytes; what a list of frames is.
-/
import Derived.Test.YtjnolpfmchnnmaaGreatDoorQPDrops6
import Derived.Test.YtjnolpfmchnnmaaGreatDoorQPDrops1
import Derived.Deep.Cut
import Derived.OwnWalk
import Derived.Test.YtjnolpfmchnnmaaGreatDoorQPDrops4
section
namespace Go.Proofs.YtjnolpfmchnnmaaGreatDoor
set_option maxRecDepth 100000
open Go.RowKit Go.BigFrame
attribute [local go_sem ↓] Go.wp_at_zero Go.wp_at_succ
abbrev OwnF (w : World) (lo : Nat) (v : Value) (bs : List UInt8) : Prop := OwnB w (fun i => lo ≤ i) v bs
theorem byte_of {n : Nat} : Value.int .u8 ((n : Int) % 256) = bcell (UInt8.ofNat n) := by
  unfold bcell
  congr 1
theorem le32_cells (n : Nat) : (#[.int .u8 ((n : Int) % 256), .int .u8 ((n : Int) / 256 % 256), .int .u8 ((n : Int) / 65536 % 256), .int .u8 ((n : Int) / 16777216 % 256)] : Array Value) = ((le32 n).map bcell).toArray := by
  have e1 : ((n : Int) / 256) = ((n / 256 : Nat) : Int) := by simp
  have e2 : ((n : Int) / 65536) = ((n / 65536 : Nat) : Int) := by simp
  have e3 : ((n : Int) / 16777216) = ((n / 16777216 : Nat) : Int) := by simp
  rw [e1, e2, e3, byte_of, byte_of, byte_of, byte_of]
  rfl
theorem or_hi {v c i : Nat} (hv : v < 2 ^ i) : v ||| c * 2 ^ i = v + c * 2 ^ i := by
  rw [Nat.or_comm, Nat.mul_comm c, ← Nat.two_pow_add_eq_or_of_lt hv]
  omega
theorem or32 {v c i : Nat} (hv : v < 2 ^ i) (h : v + c * 2 ^ i < 4294967296) : bits .or .u32 (v : Int) ((c * 2 ^ i : Nat) : Int) = ((v + c * 2 ^ i : Nat) : Int) := by
  have := (bits_nat .u32 32 (by decide) wraps32 v (c * 2 ^ i) (by omega) (by omega)).2
  rw [this, or_hi hv]
theorem get_bits (x0 x1 x2 x3 : UInt8) : bits .or .u32 (bits .or .u32 (bits .or .u32 ((x0.toNat : Int) % 4294967296) ((x1.toNat : Int) % 4294967296 * 256 % 4294967296)) ((x2.toNat : Int) % 4294967296 * 65536 % 4294967296)) ((x3.toNat : Int) % 4294967296 * 16777216 % 4294967296) =
    ((x0.toNat + x1.toNat * 256 + x2.toNat * 65536 + x3.toNat * 16777216 : Nat) : Int) := by
  have h0 := x0.toNat_lt
  have h1 := x1.toNat_lt
  have h2 := x2.toNat_lt
  have h3 := x3.toNat_lt
  rw [show (x0.toNat : Int) % 4294967296 = (x0.toNat : Int) by omega, show (x1.toNat : Int) % 4294967296 * 256 % 4294967296 = ((x1.toNat * 2 ^ 8 : Nat) : Int) by omega,
    show (x2.toNat : Int) % 4294967296 * 65536 % 4294967296 = ((x2.toNat * 2 ^ 16 : Nat) : Int) by omega, show (x3.toNat : Int) % 4294967296 * 16777216 % 4294967296 = ((x3.toNat * 2 ^ 24 : Nat) : Int) by omega]
  rw [or32 (i := 8) (by omega) (by omega), or32 (i := 16) (by omega) (by omega), or32 (i := 24) (by omega) (by omega)]
theorem Byt.lit4 (w : World) (S : Nat → Prop) (hS : S w.heap.size) (bs : List UInt8) (o : Obj) (n : Nat) (hn : bs.length = n) (h4 : n ≤ 140737488355328) (ho : o = .cells (bs.map bcell).toArray 5 (0, 0)) : Byt (w.alloc o) S (.slice (some ⟨w.heap.size, 0, none⟩) n n) bs := by
  subst hn ho
  refine ⟨_, _, rfl, Nat.le_refl _, by omega, h4, by simp, fun _ => ⟨w.heap.size, 0, rfl, hS, by simp, fun j u hu => ?_⟩⟩
  rw [World.cell?_alloc_at _ _ _ _ rfl]
  simpa using hu
set_option maxRecDepth 100000 in
set_option maxHeartbeats 2000000 in
theorem put_any (lo n : Nat) (v : Value) (bs : List UInt8) (w : World) (hv : OwnF w lo v bs) (hn : n < 4294967296) (hl : bs.length + 4 ≤ 140737488355328) (hlo : lo ≤ w.heap.size) :
    Calls Tryz.prog 122 #[v, .int .u32 n] w fun r w' => ∃ A c, r = .returned (.slice A (bs.length + 4) c) ∧ OwnF w' lo (.slice A (bs.length + 4) c) (bs ++ le32 n) ∧ Below lo w w' := by
  obtain ⟨A, c, rfl⟩ := hv.form
  have HV := Lib.hid hv
  have HN := Lib.hid hn
  clear hv hn
  go_enter Tryz.func122, Tryz.ntmps122
  have hlt : Byt (w.alloc (.cells #[.int .u8 ((n : Int) % 256), .int .u8 ((n : Int) / 256 % 256), .int .u8 ((n : Int) / 65536 % 256), .int .u8 ((n : Int) / 16777216 % 256)] 5)) (fun _ => True) (.slice (some ⟨w.heap.size, 0, none⟩) 4 4) (le32 n) := Byt.lit4 w _ trivial (le32 n) _ 4 rfl (by omega) (by rw [le32_cells])
  have hal : OwnF (w.alloc (.cells #[.int .u8 ((n : Int) % 256), .int .u8 ((n : Int) / 256 % 256), .int .u8 ((n : Int) / 65536 % 256), .int .u8 ((n : Int) / 16777216 % 256)] 5)) lo (.slice A bs.length c) bs := HV.out.below (fr.alloc fr.refl _)
  go_wp2_with (at_builtin; refine wpList_append_ownB rfl _ _ rfl (fun i => lo ≤ i) (fun i => lo ≤ i) (.slice A bs.length c) _ rfl rfl (fun _ => True) bs (le32 n) hal hlt (by rw [le32_len]; exact hl) (fun _ h => h) (by rw [World.size_alloc]; omega) ?_; intro v2 w2 hown hgrow hat; obtain ⟨A2, c2, rfl⟩ := hown.form; rw [List.length_append, le32_len] at hown ⊢)
  refine bodyPost_ret (v := .slice A2 (bs.length + 4) c2) (by simp [results, Tryz.results122, go_sem]) rfl ?_
  refine ⟨A2, c2, rfl, hown, ?_⟩
  exact RowKit.Below.grown (B := lo) ((Below.refl lo w).alloc hlo _) hgrow (by rw [World.size_alloc]; omega) (fun j e => (HV.out.blk e).1)
set_option maxRecDepth 100000 in
set_option maxHeartbeats 2000000 in
theorem get_any (S : Nat → Prop) (v : Value) (bs : List UInt8) (w : World) (hv : Byt w S v bs) (h4 : 4 ≤ bs.length) :
    Calls Tryz.prog 237 #[v] w fun r w' => r = .returned (.int .u32 (un32 bs : Nat)) ∧ fr w w' := by
  obtain ⟨A, c, rfl, hc, hcm, hl, hr⟩ := hv
  obtain ⟨b, o, rfl, hS, hb, hcell⟩ := hr.2 (by omega)
  match bs, h4, hcell, hl with
  | x0 :: x1 :: x2 :: x3 :: rest, _, hcell, hl =>
    obtain ⟨n, hn⟩ : ∃ n, (x0 :: x1 :: x2 :: x3 :: rest).length = n := ⟨_, rfl⟩
    have hn4 : 4 ≤ n := by rw [← hn]; simp
    have c0 : w.cell? ⟨b, o, none⟩ = some (.int .u8 (x0.toNat : Int)) := hcell 0 _ rfl
    have c1 : w.cell? ⟨b, o + 1, none⟩ = some (.int .u8 (x1.toNat : Int)) := hcell 1 _ rfl
    have c2 : w.cell? ⟨b, o + 2, none⟩ = some (.int .u8 (x2.toNat : Int)) := hcell 2 _ rfl
    have c3 : w.cell? ⟨b, o + 3, none⟩ = some (.int .u8 (x3.toNat : Int)) := hcell 3 _ rfl
    have l0 : (0 : Int) < (n : Int) := by omega
    have l1 : (1 : Int) < (n : Int) := by omega
    have l2 : (2 : Int) < (n : Int) := by omega
    have l3 : (3 : Int) < (n : Int) := by omega
    have F0 : ∀ q : Ext w, q.w.cell? { block := b, off := o } = _ := fun q => q.h.cell c0
    have F1 : ∀ q : Ext w, q.w.cell? { block := b, off := o + 1 } = _ := fun q => q.h.cell c1
    have F2 : ∀ q : Ext w, q.w.cell? { block := b, off := o + 2 } = _ := fun q => q.h.cell c2
    have F3 : ∀ q : Ext w, q.w.cell? { block := b, off := o + 3 } = _ := fun q => q.h.cell c3
    rw [hn]
    clear hr hcell hn hl c0 c1 c2 c3
    go_enter Tryz.func237, Tryz.ntmps237
    go_wp2
    (refine wp_region_quiet_ext (by kernel_rfl) (by kernel_rfl) ?_; (repeat (go_big_quiet_step (fail))); refine wpQuiet_nil ?_; intro wq hw'; obtain ⟨⟨_, hq⟩, hw''⟩ := hw'; subst hw'')
    go_wp2
    refine bodyPost_ret (v := .int .u32 _) (by simp [results, Tryz.results237, go_sem]; rfl) rfl ?_
    exact ⟨by rw [get_bits]; rfl, hq⟩
end Go.Proofs.YtjnolpfmchnnmaaGreatDoor
end
section
namespace Go.Proofs.YtjnolpfmchnnmaaGreatDoor
set_option maxRecDepth 100000
open Go.RowKit Go.BigFrame
attribute [local go_sem ↓] Go.wp_at_zero Go.wp_at_succ
theorem BytsV.lit (w : World) (vs : List Value) (ps : List (List UInt8)) (n : Nat) (o : Obj) (ho : o = .cells vs.toArray 35 (0, 0)) (hn : ps.length = n) (hl : vs.length = n) (hb : n ≤ 9223372036854775807) (h : ∀ (i : Nat) (p : List UInt8), ps[i]? = some p → ∃ x, vs[i]? = some x ∧ Byt w (fun _ => True) x p) :
    BytsV (w.alloc o) (fun _ => True) (.slice (some ⟨w.heap.size, 0, none⟩) n n) ps := by
  subst hn ho
  refine ⟨_, _, vs, rfl, Nat.le_refl _, hb, ⟨by simp [hl], fun _ => ⟨w.heap.size, 0, rfl, trivial, by simp, fun j u hu => ?_⟩⟩, fun i p hp => by obtain ⟨x, hx, hy⟩ := h i p hp; exact ⟨x, hx, hy.below (fr.alloc fr.refl _)⟩⟩
  rw [World.cell?_alloc_at _ _ _ _ rfl]
  simpa using hu
set_option maxRecDepth 100000 in
set_option maxHeartbeats 4000000 in
theorem fput_any (S : Nat → Prop) (v : Value) (bs : List UInt8) (w : World) (hv : Byt w S v bs) :
    Calls Tryz.prog 73 #[v] w fun r w' => (bs.length ≤ 2097152 → ∃ A c, r = .returned (.tuple #[.slice A (bs.length + 8) c, .int .i64 0]) ∧ OwnF w' w.heap.size (.slice A (bs.length + 8) c) (putF bs)) ∧ (¬ bs.length ≤ 2097152 → r = .returned (.tuple #[.slice none 0 0, .int .i64 3])) ∧ fr w w' := by
  obtain ⟨i0, hi, hz0, hz1, hz2⟩ := info_parts info5
  have hby := Lib.hid hz2
  have hz1' := Lib.hid hz1
  clear hz2 hz1
  obtain ⟨A, c, rfl⟩ := slice_form hv
  have HV := Lib.hid hv
  obtain ⟨n, hn⟩ : ∃ n, bs.length = n := ⟨_, rfl⟩
  have HN := Lib.hid hn
  rw [hn] at HV ⊢
  clear hv hn
  by_cases hle : n ≤ 2097152
  case neg =>
    have hgt : (2097152 : Int) < (n : Int) := by omega
    go_enter Tryz.func73, Tryz.ntmps73
    go_wp2
    refine bodyPost_ret (v := .tuple #[_, _]) (by simp [results, Tryz.results73, go_sem]; exact ⟨rfl, rfl⟩) rfl ?_
    exact ⟨fun h => absurd h hle, fun _ => rfl, fr.refl⟩
  case pos =>
    have hmod : (n : Int) % 4294967296 = (n : Int) := by omega
    have hgt : ¬ (2097152 : Int) < (n : Int) := by omega
    have hsum := sumN_lt (le32 n ++ bs)
    obtain ⟨s, hs⟩ : ∃ s, sumN (le32 n ++ bs) = s := ⟨_, rfl⟩
    rw [hs] at hsum
    have HS := Lib.hid hs
    clear hs
    go_enter Tryz.func73, Tryz.ntmps73
    go_upto_region 4 with (first
      | (at_make; refine wpList_make_own _ rfl _ _ 35 rfl w.heap.size 5 i0 (.int .u8 0) 1 Tryz.underlying35 hi hz0 hz1'.out _ _ _ (8 + n) rfl rfl (by omega) (by rw [hby.out]; omega) (by unfold maxLen; omega) (Nat.le_refl _) ?_; intro w1 hown hgrow)
      | (go_at_call 122; refine (put_any w.heap.size n _ [] w1 (OwnB.of_own hown (by simp) (fun _ h => h)) (by omega) (by simp) hgrow.size).mono ?_; rintro r w2 ⟨A2, c2, rfl, ho2, hb2⟩; simp only [List.length_nil, Nat.zero_add, List.nil_append] at ho2 ⊢))
    have hw1 : Below w.heap.size w w1 := RowKit.Below.grown (B := w.heap.size) (Below.refl _ _) hgrow (Nat.le_refl _) (fun j e => by simp at e)
    have hw2 : Below w.heap.size w w2 := hw1.trans hb2
    have HW2 := Lib.hid hw2
    have HO2 := Lib.hid ho2
    have hbl : BytsV (w2.alloc (.cells #[.slice A2 4 c2, .slice A n c] 35)) (fun _ => True) (.slice (some ⟨w2.heap.size, 0, none⟩) 2 2) [le32 n, bs] := BytsV.lit w2 [.slice A2 4 c2, .slice A n c] [le32 n, bs] 2 _ rfl rfl rfl (by omega) (fun i p hp => by
      match i, hp with
      | 0, hp => simp at hp; subst hp; exact ⟨_, rfl, ho2.byt.mono fun _ _ => trivial⟩
      | 1, hp => simp at hp; subst hp; exact ⟨_, rfl, (HV.out.below hw2).mono fun _ _ => trivial⟩
      | i + 2, hp => simp at hp)
    have hsu := sum_any _ _ _ _ hbl
    rw [show [le32 n, bs].flatten = le32 n ++ bs by simp, HS.out] at hsu
    have HSU := Lib.hid hsu
    have HPF : Hid (putF bs = le32 n ++ le32 s ++ bs) := Lib.hid (by unfold putF; rw [HN.out, HS.out])
    have hal : fr w2 (w2.alloc (.cells #[.slice A2 4 c2, .slice A n c] 35)) := fr.alloc fr.refl _
    have HAL := Lib.hid hal
    clear hsu hbl hal hw2 hw1 hb2 ho2 hown hgrow HS
    go_wp2_with (first
      | (go_at_call 123; refine HSU.out.mono ?_; rintro r w3 ⟨rfl, f3⟩)
      | (go_at_call 122; refine (put_any w.heap.size s _ (le32 n) w3 (HO2.out.below (fr.step HAL.out f3)) hsum (by rw [le32_len]; omega) (by have := HW2.out.size; have := (fr.step HAL.out f3).size; omega)).mono ?_; rintro r w4 ⟨A4, c4, rfl, ho4, hb4⟩; simp only [le32_len, Nat.reduceAdd] at ho4 ⊢)
      | (at_builtin; refine wpList_append_ownB rfl _ _ rfl (fun i => w.heap.size ≤ i) (fun i => w.heap.size ≤ i) (.slice A4 8 c4) _ rfl rfl S (le32 n ++ le32 s) bs ho4 (HV.out.below ((HW2.out.trans ((fr.step HAL.out f3).mono HW2.out.size)).trans hb4)) (by simp only [List.length_append, le32_len, HN.out]; omega) (fun _ h => h) (by have := HW2.out.size; have := (fr.step HAL.out f3).size; have := hb4.size; omega) ?_; intro v5 w5 hown5 hgrow5 hat5; obtain ⟨A5, c5, rfl⟩ := hown5.form; simp only [List.length_append, le32_len, HN.out, Nat.reduceAdd] at hown5 ⊢))
    have hw4 : Below w.heap.size w w4 := (HW2.out.trans ((fr.step HAL.out f3).mono HW2.out.size)).trans hb4
    have hw5 : fr w w5 := RowKit.Below.grown (B := w.heap.size) hw4 hgrow5 hw4.size (fun j e => (ho4.blk e).1)
    refine bodyPost_ret (v := .tuple #[.slice A5 (8 + n) c5, .int .i64 0]) (by simp [results, Tryz.results73, go_sem]) rfl ?_
    rw [Nat.add_comm 8 n] at hown5 ⊢
    exact ⟨fun _ => ⟨A5, c5, rfl, by rw [HPF.out]; exact hown5⟩, fun h => absurd hle h, hw5⟩
end Go.Proofs.YtjnolpfmchnnmaaGreatDoor
end
section
namespace Go.Proofs.YtjnolpfmchnnmaaGreatDoor
set_option maxRecDepth 100000
open Go.RowKit Go.BigFrame
attribute [local go_sem ↓] Go.wp_at_zero Go.wp_at_succ
def readF (bs : List UInt8) : List UInt8 × Nat × Int :=
  if bs.length = 0 then ([], 0, 12) else if bs.length < 8 then ([], 0, 10) else
  if 2097152 < un32 bs then ([], 0, 11) else if bs.length - 8 < un32 bs then ([], 0, 10) else
  if un32 (bs.drop 4) ≠ sumN (bs.take 4 ++ (bs.drop 8).take (un32 bs)) then ([], 0, 11) else ((bs.drop 8).take (un32 bs), 8 + un32 bs, 0)
theorem un32_lt (bs : List UInt8) : un32 bs < 4294967296 := by
  unfold un32
  split
  · rename_i a b c d _
    have ha := a.toNat_lt
    have hb := b.toNat_lt
    have hc := c.toNat_lt
    have hd := d.toNat_lt
    omega
  · omega
theorem undrewF {w w' : World} (g : fr w.drew w') : fr w w' := fr.step (fr.drew fr.refl) g
theorem Byt.cut {w : World} {S : Nat → Prop} {b o n c : Nat} {bs : List UInt8} (h : Byt w S (.slice (some ⟨b, o, none⟩) n c) bs) {f m c' : Nat} (hf : f + m ≤ n) (hc : m ≤ c') (hcm : c' ≤ 9223372036854775807) :
    Byt w S (.slice (some ⟨b, o + f, none⟩) m c') ((bs.drop f).take m) := by
  obtain ⟨A, ca, hE, h1, h2, h3, hr⟩ := h
  injection hE with e1 e2 e3
  subst e1
  have hl : ((bs.drop f).take m).length = m := by rw [List.length_take, List.length_drop]; omega
  refine ⟨_, _, by rw [hl], by omega, hcm, by omega, by rw [List.length_map, hl, Nat.mul_one], fun h0 => ?_⟩
  rw [hl] at h0
  obtain ⟨b', o', e, hS, hb, hc⟩ := hr.2 (by omega)
  injection e with e
  injection e with e4 e5
  subst e4 e5
  refine ⟨b, o + f, rfl, hS, hb, fun j u hu => ?_⟩
  rw [Nat.add_assoc]
  refine hc (f + j) u ?_
  rw [List.map_take, List.getElem?_take] at hu
  split at hu
  · rw [List.map_drop, List.getElem?_drop] at hu
    exact hu
  · cases hu
set_option maxRecDepth 100000 in
set_option maxHeartbeats 1000000 in
theorem fread_some (S : Nat → Prop) (b o n c k : Nat) (bs : List UInt8) (w : World) (hv : Byt w S (.slice (some ⟨b, o, none⟩) n c) bs) (hk : k ≤ n) (hn : bs.length = n) :
    Calls Tryz.prog 192 #[.slice (some ⟨b, o, none⟩) n c, .int .i64 k] w fun r w' => ∃ v' p q e, readF (bs.drop k) = (p, q, e) ∧ r = .returned (.tuple #[v', .int .i64 (if e = 0 then ((k + q : Nat) : Int) else 0), .int .i64 e]) ∧ BytL w' w.heap.size v' p ∧ fr w w' := by
  have hl := hv.len
  rw [hn] at hl
  have hcc : n ≤ c ∧ c ≤ 9223372036854775807 := by obtain ⟨A, ca, hE, h1, h2, _⟩ := hv; injection hE with _ e2 e3; omega
  have hkc : ((c : Int) - (k : Int)) = ((c - k : Nat) : Int) := by omega
  obtain ⟨m, hm⟩ : ∃ m, n - k = m := ⟨_, rfl⟩
  obtain ⟨cm, hcm⟩ : ∃ m, c - k = m := ⟨_, rfl⟩
  have HV := Lib.hid hv
  have HR : Hid (Byt w S (.slice (some ⟨b, o + k, none⟩) m cm) (bs.drop k)) := Lib.hid (by
    have := Byt.cut hv (f := k) (m := m) (c' := cm) (by omega) (by omega) (by omega)
    rwa [List.take_of_length_le (by rw [List.length_drop, hn]; omega)] at this)
  obtain ⟨rs, hrs⟩ : ∃ rs, bs.drop k = rs := ⟨_, rfl⟩
  have hrl : rs.length = m := by rw [← hrs, List.length_drop, hn, hm]
  rw [hrs] at HR ⊢
  have HRL := Lib.hid hrl
  clear hv hrs hrl
  have hk0 : decide ((k : Int) < 0) = false := by simp
  have hk1 : decide (n < k) = false := by simp; omega
  have hk2 : decide ((n : Int) < (k : Int)) = false := by simp; omega
  rcases (by omega : m = 0 ∨ (0 < m ∧ m < 8) ∨ 8 ≤ m) with h0 | ⟨h0, h8⟩ | h8
  · have HF : Hid (readF rs = ([], 0, 12)) := Lib.hid (by unfold readF; rw [if_pos (by rw [HRL.out]; exact h0)])
    have hm0 : ((m : Int) == 0) = true := by simp; omega
    clear h0
    go_enter Tryz.func192, Tryz.ntmps192
    go_wp2
    all_goals
      refine bodyPost_ret (v := .tuple #[.slice none 0 0, .int .i64 0, .int .i64 12]) (by simp [results, Tryz.results192, go_sem]) rfl ?_
      exact ⟨_, [], 0, 12, HF.out, rfl, BytL.nil _ _, fr.refl⟩
  · have HF : Hid (readF rs = ([], 0, 10)) := Lib.hid (by unfold readF; rw [HRL.out, if_neg (by omega), if_pos h8])
    have hm0 : ((m : Int) == 0) = false := by simp; omega
    have hck : ¬ c = k := by omega
    have hm8 : decide ((m : Int) < 8) = true := by simp; omega
    have hm9 : decide (m < 8) = true := by simp; omega
    clear h0
    go_enter Tryz.func192, Tryz.ntmps192
    go_wp2
    refine bodyPost_ret (v := .tuple #[.slice none 0 0, .int .i64 0, .int .i64 10]) (by simp [results, Tryz.results192, go_sem]) rfl ?_
    exact ⟨_, [], 0, 10, HF.out, rfl, BytL.nil _ _, fr.refl⟩
  · have hm0 : ((m : Int) == 0) = false := by simp; omega
    have hm8 : decide ((m : Int) < 8) = false := by simp; omega
    have hm9 : decide (m < 8) = false := by simp; omega
    have hq : un32 rs < 4294967296 := un32_lt rs
    obtain ⟨q, hqe⟩ : ∃ q, un32 rs = q := ⟨_, rfl⟩
    rw [hqe] at hq
    have HQ := Lib.hid hqe
    have CG : Hid (∀ wx, fr w wx → Calls Tryz.prog 237 #[.slice (some ⟨b, o + k, none⟩) m cm] wx fun r w' => r = .returned (.int .u32 q) ∧ fr wx w') := Lib.hid fun wx hx => by
      have := get_any S _ rs wx (HR.out.below hx) (by rw [HRL.out]; omega)
      rwa [HQ.out] at this
    clear hqe
    rcases (by omega : 2097152 < q ∨ q ≤ 2097152) with hbig | hbig
    · have HF : Hid (readF rs = ([], 0, 11)) := Lib.hid (by unfold readF; rw [HRL.out, if_neg (by omega), if_neg (by omega), HQ.out, if_pos hbig])
      have hb1 : (2097152 : Int) < (q : Int) := by omega
      go_enter Tryz.func192, Tryz.ntmps192
      go_wp2_with (go_at_call 237; refine (CG.out _ fr.refl).mono ?_; rintro r w1 ⟨rfl, f1⟩)
      refine bodyPost_ret (v := .tuple #[.slice none 0 0, .int .i64 0, .int .i64 11]) (by simp [results, Tryz.results192, go_sem]) rfl ?_
      exact ⟨_, [], 0, 11, HF.out, rfl, BytL.nil _ _, f1⟩
    · have hb1 : ¬ (2097152 : Int) < (q : Int) := by omega
      have hqm : (q : Int) % 18446744073709551616 = (q : Int) := by omega
      rcases (by omega : m - 8 < q ∨ q ≤ m - 8) with hs | hs
      · have HF : Hid (readF rs = ([], 0, 10)) := Lib.hid (by unfold readF; rw [HRL.out, if_neg (by omega), if_neg (by omega), HQ.out, if_neg (by omega), if_pos hs])
        have hb2 : ((m : Int) - 8) < (q : Int) := by omega
        go_enter Tryz.func192, Tryz.ntmps192
        go_wp2_with (go_at_call 237; refine (CG.out _ fr.refl).mono ?_; rintro r w1 ⟨rfl, f1⟩)
        refine bodyPost_ret (v := .tuple #[.slice none 0 0, .int .i64 0, .int .i64 10]) (by simp [results, Tryz.results192, go_sem]) rfl ?_
        exact ⟨_, [], 0, 10, HF.out, rfl, BytL.nil _ _, f1⟩
      · have hb2 : ¬ ((m : Int) - 8) < (q : Int) := by omega
        have hck : ¬ c = k := by omega
        have hck4 : ¬ cm = 4 := by omega
        obtain ⟨m4, hm4⟩ : ∃ x, m - 4 = x := ⟨_, rfl⟩
        obtain ⟨c4, hc4⟩ : ∃ x, cm - 4 = x := ⟨_, rfl⟩
        obtain ⟨c8, hc8⟩ : ∃ x, cm - 8 = x := ⟨_, rfl⟩
        have h4m : (4 : Int) ≤ (m : Int) := by omega
        have h4c : (4 : Int) ≤ (cm : Int) := by omega
        have h8q : (8 : Int) + (q : Int) ≤ (cm : Int) := by omega
        have hq8 : 8 + q - 8 = q := by omega
        obtain ⟨u, hu⟩ : ∃ u, un32 (rs.drop 4) = u := ⟨_, rfl⟩
        obtain ⟨pp, hpp⟩ : ∃ pp, (rs.drop 8).take q = pp := ⟨_, rfl⟩
        obtain ⟨s, hss⟩ : ∃ s, sumN (rs.take 4 ++ pp) = s := ⟨_, rfl⟩
        have hppl : pp.length = q := by rw [← hpp, List.length_take, List.length_drop, HRL.out]; omega
        have HU := Lib.hid hu
        have HPD := Lib.hid hpp
        have HSS := Lib.hid hss
        have HPL := Lib.hid hppl
        have H04 : Hid (Byt w S (.slice (some ⟨b, o + k, none⟩) 4 cm) (rs.take 4)) := Lib.hid (by
          have := Byt.cut HR.out (f := 0) (m := 4) (c' := cm) (by omega) (by omega) (by omega)
          simpa using this)
        have CG4 : Hid (∀ wx, fr w wx → Calls Tryz.prog 237 #[.slice (some ⟨b, o + k + 4, none⟩) m4 c4] wx fun r w' => r = .returned (.int .u32 u) ∧ fr wx w') := Lib.hid fun wx hx => by
          have h4 := Byt.cut HR.out (f := 4) (m := m4) (c' := c4) (by omega) (by omega) (by omega)
          rw [List.take_of_length_le (by rw [List.length_drop, HRL.out]; omega)] at h4
          have := get_any S _ (rs.drop 4) wx (h4.below hx) (by rw [List.length_drop, HRL.out]; omega)
          rwa [HU.out] at this
        clear hu hpp hss hppl
        by_cases hk8 : cm = 8
        · have hq0 : q = 0 := by omega
          obtain rfl : c4 = 4 := by omega
          obtain rfl : c8 = 0 := by omega
          subst hk8
          clear hc4 hc8
          have HPP : Hid (Byt w S (.slice (some ⟨b, o + k, none⟩) q 0) pp) := Lib.hid (by have := Byt.cut HR.out (f := 0) (m := q) (c' := 0) (by omega) (by omega) (by omega); have e : pp = [] := List.eq_nil_of_length_eq_zero (by rw [HPL.out]; exact hq0); rw [e]; rw [hq0] at this ⊢; simpa using this)
          have CS : Hid (∀ X wx, fr w X → fr (X.alloc (.cells #[.slice (some ⟨b, o + k, none⟩) 4 8, .slice (some ⟨b, o + k, none⟩) q 0] 35)) wx → Calls Tryz.prog 123 #[.slice (some ⟨X.heap.size, 0, none⟩) 2 2] wx fun r w' => r = .returned (.int .u32 s) ∧ fr wx w') := Lib.hid fun X wx hX hx => by
            have hbl : BytsV (X.alloc (.cells #[.slice (some ⟨b, o + k, none⟩) 4 8, .slice (some ⟨b, o + k, none⟩) q 0] 35)) (fun _ => True) (.slice (some ⟨X.heap.size, 0, none⟩) 2 2) [rs.take 4, pp] := BytsV.lit X [.slice (some ⟨b, o + k, none⟩) 4 8, .slice (some ⟨b, o + k, none⟩) q 0] [rs.take 4, pp] 2 _ rfl rfl rfl (by omega) (fun i p hp => by
              match i, hp with
              | 0, hp => simp at hp; subst hp; exact ⟨_, rfl, (H04.out.below hX).mono fun _ _ => trivial⟩
              | 1, hp => simp at hp; subst hp; exact ⟨_, rfl, (HPP.out.below hX).mono fun _ _ => trivial⟩
              | i + 2, hp => simp at hp)
            have := sum_any _ _ _ _ (hbl.below hx)
            rwa [show [rs.take 4, pp].flatten = rs.take 4 ++ pp by simp, HSS.out] at this
          have CC : Hid (∀ wx, fr w wx → Calls Tryz.prog 89 #[.slice (some ⟨b, o + k, none⟩) q 0] wx fun r w' => ∃ v', r = .returned v' ∧ BytL w' w.heap.size v' pp ∧ fr wx w') := Lib.hid fun wx hx => (bcloneL_any S _ pp wx (HPP.out.below hx)).mono fun r w' h => by
            obtain ⟨v', e, h1, h2⟩ := h
            exact ⟨v', e, h1.mono hx.size, h2⟩
          clear HV HR hq0
          by_cases hus : u = s
          · have HF : Hid (readF rs = (pp, 8 + q, 0)) := Lib.hid (by unfold readF; rw [HRL.out, if_neg (by omega), if_neg (by omega), HQ.out, if_neg (by omega), if_neg (by omega), HU.out, HPD.out, HSS.out, if_neg (by simpa using hus)])
            subst hus
            go_enter Tryz.func192, Tryz.ntmps192
            go_upto_region 14 with (go_at_call 237; refine (CG.out _ fr.refl).mono ?_; rintro r w1 ⟨rfl, f1⟩)
            go_region_held3 (fun _ => True) (trivial)
              (first
                | (go_split_ands; go_at_call 237; (with_reducible (refine Calls.mono (CG4.out _ ?_) ?_)); (focus ((repeat (first | with_reducible assumption | with_reducible exact fr.refl | with_reducible refine fr.alloc ?_ _ | with_reducible refine fr.drew ?_)))); rintro r w2 ⟨rfl, g2⟩; (have f2 : fr w w2 := fr.step (by (repeat (first | with_reducible assumption | with_reducible exact fr.refl | with_reducible refine fr.alloc ?_ _ | with_reducible refine fr.drew ?_))) g2))
                | (go_split_ands; go_at_call 123; (with_reducible (refine Calls.mono (CS.out _ _ ?_ ?_) ?_)); (focus ((repeat (first | with_reducible assumption | with_reducible exact fr.refl | with_reducible refine fr.alloc ?_ _ | with_reducible refine fr.drew ?_)))); (focus ((repeat (first | with_reducible assumption | with_reducible exact fr.refl | with_reducible exact undrewF g2 | with_reducible refine fr.alloc ?_ _ | with_reducible refine fr.drew ?_)))); rintro r w3 ⟨rfl, g3⟩; (have f3 : fr w w3 := fr.step (by (repeat (first | with_reducible assumption | with_reducible exact fr.refl | with_reducible refine fr.alloc ?_ _ | with_reducible refine fr.drew ?_))) g3)))
            all_goals
              go_wp2_with (go_at_call 89; (with_reducible (refine Calls.mono (CC.out _ ?_) ?_)); (focus (with_reducible assumption)); rintro r w5 ⟨v5, rfl, hv5, g5⟩)
              refine bodyPost_ret (v := .tuple #[v5, .int .i64 ((k : Int) + 8 + q), .int .i64 0]) (by simp [results, Tryz.results192, go_sem]) rfl ?_
              refine ⟨_, pp, 8 + q, 0, HF.out, by simp; omega, hv5, ?_⟩
              first
                | exact fr.step f3 g5
                | exact fr.step f2 g5
          · have HF : Hid (readF rs = ([], 0, 11)) := Lib.hid (by unfold readF; rw [HRL.out, if_neg (by omega), if_neg (by omega), HQ.out, if_neg (by omega), if_neg (by omega), HU.out, HPD.out, HSS.out, if_pos (by simpa using hus)])
            have hu1 : ((u : Int) == (s : Int)) = false := by simp; omega
            have hu2 : ((u : Int) != (s : Int)) = true := by simp; omega
            have hu3 : (u != s) = true := by simp; omega
            have hu4 : (u == s) = false := by simp; omega
            go_enter Tryz.func192, Tryz.ntmps192
            go_upto_region 14 with (go_at_call 237; refine (CG.out _ fr.refl).mono ?_; rintro r w1 ⟨rfl, f1⟩)
            go_region_held3 (fun _ => True) (trivial)
              (first
                | (go_split_ands; go_at_call 237; (with_reducible (refine Calls.mono (CG4.out _ ?_) ?_)); (focus ((repeat (first | with_reducible assumption | with_reducible exact fr.refl | with_reducible refine fr.alloc ?_ _ | with_reducible refine fr.drew ?_)))); rintro r w2 ⟨rfl, g2⟩; (have f2 : fr w w2 := fr.step (by (repeat (first | with_reducible assumption | with_reducible exact fr.refl | with_reducible refine fr.alloc ?_ _ | with_reducible refine fr.drew ?_))) g2))
                | (go_split_ands; go_at_call 123; (with_reducible (refine Calls.mono (CS.out _ _ ?_ ?_) ?_)); (focus ((repeat (first | with_reducible assumption | with_reducible exact fr.refl | with_reducible refine fr.alloc ?_ _ | with_reducible refine fr.drew ?_)))); (focus ((repeat (first | with_reducible assumption | with_reducible exact fr.refl | with_reducible exact undrewF g2 | with_reducible refine fr.alloc ?_ _ | with_reducible refine fr.drew ?_)))); rintro r w3 ⟨rfl, g3⟩; (have f3 : fr w w3 := fr.step (by (repeat (first | with_reducible assumption | with_reducible exact fr.refl | with_reducible refine fr.alloc ?_ _ | with_reducible refine fr.drew ?_))) g3)))
            all_goals
              go_wp2_with fail
              refine bodyPost_ret (v := .tuple #[.slice none 0 0, .int .i64 0, .int .i64 11]) (by simp [results, Tryz.results192, go_sem]) rfl ?_
              refine ⟨_, [], 0, 11, HF.out, rfl, BytL.nil _ _, ?_⟩
              first
                | exact f3
                | exact f2
        · have hk9 : ¬ (cm : Int) = 8 := by omega
          have HPP : Hid (Byt w S (.slice (some ⟨b, o + k + 8, none⟩) q c8) pp) := Lib.hid (by have := Byt.cut HR.out (f := 8) (m := q) (c' := c8) (by omega) (by omega) (by omega); rwa [HPD.out] at this)
          have CS : Hid (∀ X wx, fr w X → fr (X.alloc (.cells #[.slice (some ⟨b, o + k, none⟩) 4 cm, .slice (some ⟨b, o + k + 8, none⟩) q c8] 35)) wx → Calls Tryz.prog 123 #[.slice (some ⟨X.heap.size, 0, none⟩) 2 2] wx fun r w' => r = .returned (.int .u32 s) ∧ fr wx w') := Lib.hid fun X wx hX hx => by
            have hbl : BytsV (X.alloc (.cells #[.slice (some ⟨b, o + k, none⟩) 4 cm, .slice (some ⟨b, o + k + 8, none⟩) q c8] 35)) (fun _ => True) (.slice (some ⟨X.heap.size, 0, none⟩) 2 2) [rs.take 4, pp] := BytsV.lit X [.slice (some ⟨b, o + k, none⟩) 4 cm, .slice (some ⟨b, o + k + 8, none⟩) q c8] [rs.take 4, pp] 2 _ rfl rfl rfl (by omega) (fun i p hp => by
              match i, hp with
              | 0, hp => simp at hp; subst hp; exact ⟨_, rfl, (H04.out.below hX).mono fun _ _ => trivial⟩
              | 1, hp => simp at hp; subst hp; exact ⟨_, rfl, (HPP.out.below hX).mono fun _ _ => trivial⟩
              | i + 2, hp => simp at hp)
            have := sum_any _ _ _ _ (hbl.below hx)
            rwa [show [rs.take 4, pp].flatten = rs.take 4 ++ pp by simp, HSS.out] at this
          have CC : Hid (∀ wx, fr w wx → Calls Tryz.prog 89 #[.slice (some ⟨b, o + k + 8, none⟩) q c8] wx fun r w' => ∃ v', r = .returned v' ∧ BytL w' w.heap.size v' pp ∧ fr wx w') := Lib.hid fun wx hx => (bcloneL_any S _ pp wx (HPP.out.below hx)).mono fun r w' h => by
            obtain ⟨v', e, h1, h2⟩ := h
            exact ⟨v', e, h1.mono hx.size, h2⟩
          clear HV HR
          by_cases hus : u = s
          · have HF : Hid (readF rs = (pp, 8 + q, 0)) := Lib.hid (by unfold readF; rw [HRL.out, if_neg (by omega), if_neg (by omega), HQ.out, if_neg (by omega), if_neg (by omega), HU.out, HPD.out, HSS.out, if_neg (by simpa using hus)])
            subst hus
            go_enter Tryz.func192, Tryz.ntmps192
            go_upto_region 14 with (go_at_call 237; refine (CG.out _ fr.refl).mono ?_; rintro r w1 ⟨rfl, f1⟩)
            go_region_held3 (fun _ => True) (trivial)
              (first
                | (go_split_ands; go_at_call 237; (with_reducible (refine Calls.mono (CG4.out _ ?_) ?_)); (focus ((repeat (first | with_reducible assumption | with_reducible exact fr.refl | with_reducible refine fr.alloc ?_ _ | with_reducible refine fr.drew ?_)))); rintro r w2 ⟨rfl, g2⟩; (have f2 : fr w w2 := fr.step (by (repeat (first | with_reducible assumption | with_reducible exact fr.refl | with_reducible refine fr.alloc ?_ _ | with_reducible refine fr.drew ?_))) g2))
                | (go_split_ands; go_at_call 123; (with_reducible (refine Calls.mono (CS.out _ _ ?_ ?_) ?_)); (focus ((repeat (first | with_reducible assumption | with_reducible exact fr.refl | with_reducible refine fr.alloc ?_ _ | with_reducible refine fr.drew ?_)))); (focus ((repeat (first | with_reducible assumption | with_reducible exact fr.refl | with_reducible exact undrewF g2 | with_reducible refine fr.alloc ?_ _ | with_reducible refine fr.drew ?_)))); rintro r w3 ⟨rfl, g3⟩; (have f3 : fr w w3 := fr.step (by (repeat (first | with_reducible assumption | with_reducible exact fr.refl | with_reducible refine fr.alloc ?_ _ | with_reducible refine fr.drew ?_))) g3)))
            all_goals
              go_wp2_with (go_at_call 89; (with_reducible (refine Calls.mono (CC.out _ ?_) ?_)); (focus (with_reducible assumption)); rintro r w5 ⟨v5, rfl, hv5, g5⟩)
              refine bodyPost_ret (v := .tuple #[v5, .int .i64 ((k : Int) + 8 + q), .int .i64 0]) (by simp [results, Tryz.results192, go_sem]) rfl ?_
              refine ⟨_, pp, 8 + q, 0, HF.out, by simp; omega, hv5, ?_⟩
              first
                | exact fr.step f3 g5
                | exact fr.step f2 g5
          · have HF : Hid (readF rs = ([], 0, 11)) := Lib.hid (by unfold readF; rw [HRL.out, if_neg (by omega), if_neg (by omega), HQ.out, if_neg (by omega), if_neg (by omega), HU.out, HPD.out, HSS.out, if_pos (by simpa using hus)])
            have hu1 : ((u : Int) == (s : Int)) = false := by simp; omega
            have hu2 : ((u : Int) != (s : Int)) = true := by simp; omega
            have hu3 : (u != s) = true := by simp; omega
            have hu4 : (u == s) = false := by simp; omega
            go_enter Tryz.func192, Tryz.ntmps192
            go_upto_region 14 with (go_at_call 237; refine (CG.out _ fr.refl).mono ?_; rintro r w1 ⟨rfl, f1⟩)
            go_region_held3 (fun _ => True) (trivial)
              (first
                | (go_split_ands; go_at_call 237; (with_reducible (refine Calls.mono (CG4.out _ ?_) ?_)); (focus ((repeat (first | with_reducible assumption | with_reducible exact fr.refl | with_reducible refine fr.alloc ?_ _ | with_reducible refine fr.drew ?_)))); rintro r w2 ⟨rfl, g2⟩; (have f2 : fr w w2 := fr.step (by (repeat (first | with_reducible assumption | with_reducible exact fr.refl | with_reducible refine fr.alloc ?_ _ | with_reducible refine fr.drew ?_))) g2))
                | (go_split_ands; go_at_call 123; (with_reducible (refine Calls.mono (CS.out _ _ ?_ ?_) ?_)); (focus ((repeat (first | with_reducible assumption | with_reducible exact fr.refl | with_reducible refine fr.alloc ?_ _ | with_reducible refine fr.drew ?_)))); (focus ((repeat (first | with_reducible assumption | with_reducible exact fr.refl | with_reducible exact undrewF g2 | with_reducible refine fr.alloc ?_ _ | with_reducible refine fr.drew ?_)))); rintro r w3 ⟨rfl, g3⟩; (have f3 : fr w w3 := fr.step (by (repeat (first | with_reducible assumption | with_reducible exact fr.refl | with_reducible refine fr.alloc ?_ _ | with_reducible refine fr.drew ?_))) g3)))
            all_goals
              go_wp2_with fail
              refine bodyPost_ret (v := .tuple #[.slice none 0 0, .int .i64 0, .int .i64 11]) (by simp [results, Tryz.results192, go_sem]) rfl ?_
              refine ⟨_, [], 0, 11, HF.out, rfl, BytL.nil _ _, ?_⟩
              first
                | exact f3
                | exact f2
end Go.Proofs.YtjnolpfmchnnmaaGreatDoor
end
section
namespace Go.Proofs.YtjnolpfmchnnmaaGreatDoor
set_option maxRecDepth 100000
open Go.RowKit Go.BigFrame
theorem Byt.looseOnly {W W' : World} {R S : Nat → Prop} {v : Value} {bs : List UInt8} (h : Byt W (fun i => R i ∧ Loose W i) v bs) (ho : Only S W W') (hd : ∀ i, R i → ¬ S i) : Byt W' (fun i => R i ∧ Loose W' i) v bs :=
  Byt.mono (S := fun i => R i ∧ Loose W i) (Byt.only (T := fun i => R i ∧ Loose W i) h ho fun i _ hi => hd i hi.1) fun i hi => ⟨hi.1, hi.2.only ho (hd i hi.1)⟩
abbrev FrE := Nat × Value × List UInt8
def OkF (lo : Nat) (T : Nat → Prop) (x : FrE) (W : World) : Prop := Byt W (fun i => (lo ≤ i ∧ ¬ T i) ∧ Loose W i) x.2.1 x.2.2
theorem OkF.anti {lo : Nat} {T T' : Nat → Prop} {x : FrE} {W : World} (h : OkF lo T x W) (hT : ∀ i, T' i → T i) : OkF lo T' x W :=
  Byt.mono (S := fun i => (lo ≤ i ∧ ¬ T i) ∧ Loose W i) h fun i hi => ⟨⟨hi.1.1, fun h => hi.1.2 (hT i h)⟩, hi.2⟩
structure PairsK (w : World) (B Bw b o n c : Nat) (S0 : Nat → Prop) (bs : List UInt8) : Prop where
  b1 : Boxed w B 35 (.slice (some ⟨b, o, none⟩) n c)
  b2 : Boxed w (B + 1) 206 (.pointer (some ⟨Bw, 0, none⟩))
  b3 : Boxed w Bw 31 (.int .i64 0)
  byt : Byt w S0 (.slice (some ⟨b, o, none⟩) n c) bs
theorem boxedFr {w w' : World} {B : Nat} {t : TypeId} {v : Value} (h : Boxed w B t v) (hf : fr w w') : Boxed w' B t v := (Below.block hf B h.lt).trans h
theorem boxedOnly {w w' : World} {B : Nat} {t : TypeId} {v : Value} {S : Nat → Prop} (h : Boxed w B t v) (hf : Only S w w') (hS : ¬ S B) : Boxed w' B t v := (hf.block B h.lt hS).trans h
section
variable {w w' : World} {B Bw b o n c : Nat} {S0 : Nat → Prop} {bs : List UInt8}
theorem PairsK.fr (h : PairsK w B Bw b o n c S0 bs) (hf : fr w w') : PairsK w' B Bw b o n c S0 bs := ⟨boxedFr h.b1 hf, boxedFr h.b2 hf, boxedFr h.b3 hf, h.byt.below hf⟩
theorem PairsK.only (h : PairsK w B Bw b o n c S0 bs) {T : Nat → Prop} (hf : Only T w w') (hT : ∀ i, T i → ¬ (i = B ∨ i = B + 1 ∨ i = Bw ∨ S0 i)) : PairsK w' B Bw b o n c S0 bs :=
  ⟨boxedOnly h.b1 hf fun h => hT _ h (.inl rfl), boxedOnly h.b2 hf fun h => hT _ h (.inr (.inl rfl)), boxedOnly h.b3 hf fun h => hT _ h (.inr (.inr (.inl rfl))), h.byt.only hf fun i _ hi h => hT i h (.inr (.inr (.inr hi)))⟩
theorem PairsK.ne1 (h : PairsK w B Bw b o n c S0 bs) : B ≠ Bw := by
  rintro rfl
  have := h.b1.symm.trans h.b3
  injection this with this
  injection this with _ this
  exact absurd this (by decide)
theorem PairsK.ne2 (h : PairsK w B Bw b o n c S0 bs) : B + 1 ≠ Bw := by
  rintro rfl
  have := h.b2.symm.trans h.b3
  injection this with this
  injection this with _ this
  exact absurd this (by decide)
theorem PairsK.why (h : PairsK w B Bw b o n c S0 bs) (hS : ¬ S0 Bw) : PairsK (w.setCell ⟨Bw, 0, none⟩ (.int .i64 0)) B Bw b o n c S0 bs :=
  ⟨h.b1.other h.ne1 _, h.b2.other h.ne2 _, h.b3.set _, h.byt.only (only_set w Bw 0 _) fun _ _ hi e => hS (e ▸ hi)⟩
end
def bvR : Rd (List UInt8) := fun w S bs cs => ∃ v, cs = [v] ∧ Byt w S v bs
theorem bvFine : Fine bvR 1 := ⟨fun h => by obtain ⟨v, rfl, _⟩ := h; rfl, fun h hk => by obtain ⟨v, rfl, h1⟩ := h; exact ⟨v, rfl, h1.keepR hk⟩⟩
abbrev BVs (w : World) (S : Nat → Prop) (v : Value) (ls : List (List UInt8)) : Prop := Rows bvR 1 24 w S v ls
theorem infoB : (Tryz.prog.info? 35).map (fun i => (i.zero, i.size, i.bytes)) = some (some (.slice none 0 0), 1, 24) := by kernel_rfl
def frB (rs : List (List UInt8)) : List UInt8 := (rs.map putF).flatten
theorem frB_cons (p : List UInt8) (rs : List (List UInt8)) : frB (p :: rs) = putF p ++ frB rs := rfl
theorem frB_append (a b : List (List UInt8)) : frB (a ++ b) = frB a ++ frB b := by unfold frB; rw [List.map_append, List.flatten_append]
theorem frB_pos (p : List UInt8) (rs : List (List UInt8)) : 8 ≤ (frB (p :: rs)).length := by rw [frB_cons, List.length_append, putF_len]; omega
theorem frB_many (rs : List (List UInt8)) : rs.length * 8 ≤ (frB rs).length := by
  induction rs with
  | nil => simp
  | cons p rs ih => rw [frB_cons, List.length_append, putF_len, List.length_cons]; omega
theorem readF_put (p rest : List UInt8) (h : p.length ≤ 2097152) : readF (putF p ++ rest) = (p, 8 + p.length, 0) := by
  have hl : (putF p ++ rest).length = p.length + 8 + rest.length := by rw [List.length_append, putF_len]
  have hs := sumN_lt (le32 p.length ++ p)
  have e1 : putF p ++ rest = le32 p.length ++ (le32 (sumN (le32 p.length ++ p)) ++ (p ++ rest)) := by unfold putF; simp [List.append_assoc]
  have u1 : un32 (putF p ++ rest) = p.length := by rw [e1]; exact un_le32 (by omega) _
  have d4 : (putF p ++ rest).drop 4 = le32 (sumN (le32 p.length ++ p)) ++ (p ++ rest) := by rw [e1, List.drop_left' (le32_len _)]
  have u2 : un32 ((putF p ++ rest).drop 4) = sumN (le32 p.length ++ p) := by rw [d4]; exact un_le32 hs _
  have t4 : (putF p ++ rest).take 4 = le32 p.length := by rw [e1, List.take_left' (le32_len _)]
  have d8 : (putF p ++ rest).drop 8 = p ++ rest := by
    rw [show 8 = 4 + 4 from rfl, ← List.drop_drop, d4, List.drop_left' (le32_len _)]
  unfold readF
  rw [if_neg (by omega), if_neg (by omega), u1, if_neg (by omega), if_neg (by omega), u2, t4, d8, List.take_left' rfl, if_neg (by simp)]
end Go.Proofs.YtjnolpfmchnnmaaGreatDoor
end
