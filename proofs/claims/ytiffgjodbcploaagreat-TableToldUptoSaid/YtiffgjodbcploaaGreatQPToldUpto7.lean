/-
block.pairs, of what block.Build wrote.
-/
import Derived.Test.YtiffgjodbcploaaGreatQPToldUpto3
import Derived.Deep.Cut
import Derived.Test.YtiffgjodbcploaaGreatQPToldUpto5
import Derived.Laws.Rows
import Derived.Test.YtiffgjodbcploaaGreatQPToldUpto6
import Derived.Deep.CutRange
import Derived.Deep.DeepCutAuto
import Derived.Shelf.Abstract
import Derived.Shelf.RegionOpen
import Derived.WalkKit
import Derived.OwnWalkIn
import Derived.TacticsInMore
import Derived.LoopNIn
import Derived.LoopIn
import Derived.IntWalk
section
namespace Go.Proofs.YtiffgjodbcploaaGreat
set_option maxRecDepth 100000
open Go.RowKit Go.BigFrame
attribute [local go_sem ↓] Go.wp_at_zero Go.wp_at_succ
def leN (k n : Nat) : List UInt8 := (List.range k).map fun i => UInt8.ofNat (n / 2 ^ (8 * i))
def sealF (b : List UInt8) : List UInt8 := leN 8 (b.length + 12) ++ leN 4 (sumN b) ++ b
theorem leN_len (k n : Nat) : (leN k n).length = k := by unfold leN; simp
theorem leN_snoc (k n : Nat) : leN (k + 1) n = leN k n ++ [UInt8.ofNat (n / 2 ^ (8 * k))] := by unfold leN; rw [List.range_succ, List.map_append]; rfl
theorem le_byte (n j : Nat) : Value.int .u8 ((n : Int) / 2 ^ (8 * j) % 256) = bcell (UInt8.ofNat (n / 2 ^ (8 * j))) := by
  have e : (n : Int) / 2 ^ (8 * j) = ((n / 2 ^ (8 * j) : Nat) : Int) := by simp
  rw [e, byte_of]
theorem Byt.lit1 (w : World) (x : UInt8) (o : Obj) (ho : o = .cells #[bcell x] 5 (0, 0)) : Byt (w.alloc o) (fun _ => True) (.slice (some ⟨w.heap.size, 0, none⟩) 1 1) [x] := Byt.lit4 w _ trivial [x] o 1 rfl (by omega) (by rw [ho]; rfl)
set_option maxRecDepth 100000 in
set_option maxHeartbeats 1000000 in
theorem seal_any (S : Nat → Prop) (v : Value) (bs : List UInt8) (w : World) (hv : Byt w S v bs) (hl : bs.length ≤ 1099511627776) :
    Calls Tryz.prog 33 #[v] w fun r w' => ∃ A c, r = .returned (.slice A (bs.length + 12) c) ∧ OwnF w' w.heap.size (.slice A (bs.length + 12) c) (sealF bs) ∧ fr w w' := by
  obtain ⟨i0, hi, hz0, hz1, hz2⟩ := info_parts info5
  have hby := Lib.hid hz2
  have hz1' := Lib.hid hz1
  clear hz2 hz1
  obtain ⟨A, c, rfl⟩ := slice_form hv
  have HS := Lib.hid (sumB_any S _ bs w hv)
  have HV := Lib.hid hv
  obtain ⟨n, hn⟩ : ∃ n, bs.length = n := ⟨_, rfl⟩
  obtain ⟨s, hs⟩ : ∃ s, sumN bs = s := ⟨_, rfl⟩
  have hsl := sumN_lt bs
  rw [hs] at HS hsl
  rw [hn] at hl HV HS ⊢
  have HN := Lib.hid hn
  have HSS := Lib.hid hs
  have hmod : ((n : Int) + 12) % 18446744073709551616 = (n : Int) + 12 := by omega
  obtain ⟨m, hm⟩ : ∃ m : Nat, n + 12 = m := ⟨_, rfl⟩
  have hm2 : (n : Int) + 12 = (m : Int) := by omega
  clear hv hn hs
  go_enter Tryz.func33, Tryz.ntmps33
  go_wp2_with (first
    | (go_at_call 64; refine HS.out.mono ?_; rintro r w1 ⟨rfl, f1⟩)
    | (at_make; refine wpList_make_own _ rfl _ _ 42 rfl w.heap.size 5 i0 (.int .u8 0) 1 Tryz.underlying42 hi hz0 hz1'.out _ _ _ m rfl rfl (by omega) (by rw [hby.out]; omega) (by unfold maxLen; omega) f1.size ?_; intro w2 hown hgrow))
  have hf2 : fr w w2 := RowKit.Below.grown (B := w.heap.size) f1 hgrow f1.size (fun j e => by simp at e)
  have ho2 : OwnF w2 w.heap.size (.slice (some ⟨w1.heap.size, 0, none⟩) 0 m) [] := OwnB.of_own hown (by simp) (fun _ h => h)
  have HF2 := Lib.hid hf2
  have HO2 := Lib.hid ho2
  clear hown hgrow f1 hf2 ho2 HS hi hz0
  go_loopw [5, 16] (fun x t wr => ∃ j : Nat, j ≤ 8 ∧ t = .int .i64 j ∧ OwnF wr w.heap.size x (leN j m) ∧ fr w wr) (fun _ t _ => 8 - (intOf t).toNat)
  case atStart => exact ⟨0, by omega, rfl, HO2.out, HF2.out⟩
  case round =>
    clear HO2 HF2
    obtain ⟨j, hj, rfl, ho, hf⟩ := hrel
    obtain ⟨A3, c3, rfl⟩ := ho.form
    rw [leN_len] at ho ⊢
    have HO := Lib.hid ho
    have HF := Lib.hid hf
    clear ho hf
    by_cases hj8 : j < 8
    · have hlt := Byt.lit1 wr (UInt8.ofNat (m / 2 ^ (8 * j))) _ (by rw [← le_byte])
      have hal : OwnF (wr.alloc (.cells #[.int .u8 ((m : Int) / 2 ^ (8 * j) % 256)] 5)) w.heap.size (.slice A3 j c3) (leN j m) := HO.out.below (fr.alloc fr.refl _)
      go_wp2_with (at_builtin; refine wpList_append_ownB rfl _ _ rfl (fun i => w.heap.size ≤ i) (fun i => w.heap.size ≤ i) (.slice A3 j c3) _ rfl rfl (fun _ => True) (leN j m) [UInt8.ofNat (m / 2 ^ (8 * j))] hal hlt (by rw [leN_len]; simp; omega) (fun _ h => h) (by rw [World.size_alloc]; have := HF.out.size; omega) ?_; intro v4 w4 hown4 hgrow4 hat4)
      exact ⟨⟨j + 1, by omega, by go_num, by rw [leN_snoc]; exact hown4, RowKit.Below.grown (B := w.heap.size) (fr.alloc HF.out _) hgrow4 (by rw [World.size_alloc]; have := HF.out.size; omega) (fun j e => (HO.out.blk e).1)⟩, by simp [intOf]; omega⟩
    · have HO8 : Hid (OwnF wr w.heap.size (.slice A3 j c3) (leN 8 m)) := Lib.hid (by have := HO.out; rwa [show leN j m = leN 8 m by rw [show j = 8 by omega]] at this)
      go_wp2
      go_loopw [5, 28] (fun x t wr => ∃ j : Nat, j ≤ 4 ∧ t = .int .i64 j ∧ OwnF wr w.heap.size x (leN 8 m ++ leN j s) ∧ fr w wr) (fun _ t _ => 4 - (intOf t).toNat)
      case atStart => exact ⟨0, by omega, rfl, by simpa [leN] using HO8.out, HF.out⟩
      case round =>
        clear HO HO8 HF hj8 hj
        obtain ⟨j, hj, rfl, ho, hf⟩ := hrel
        obtain ⟨A4, c4, rfl⟩ := ho.form
        rw [List.length_append, leN_len, leN_len] at ho ⊢
        have HO := Lib.hid ho
        have HF := Lib.hid hf
        clear ho hf
        by_cases hj4 : j < 4
        · have hlt := Byt.lit1 wr (UInt8.ofNat (s / 2 ^ (8 * j))) _ (by rw [← le_byte])
          have hal : OwnF (wr.alloc (.cells #[.int .u8 ((s : Int) / 2 ^ (8 * j) % 256)] 5)) w.heap.size (.slice A4 (8 + j) c4) (leN 8 m ++ leN j s) := HO.out.below (fr.alloc fr.refl _)
          go_wp2_with (at_builtin; refine wpList_append_ownB rfl _ _ rfl (fun i => w.heap.size ≤ i) (fun i => w.heap.size ≤ i) (.slice A4 (8 + j) c4) _ rfl rfl (fun _ => True) (leN 8 m ++ leN j s) [UInt8.ofNat (s / 2 ^ (8 * j))] hal hlt (by rw [List.length_append, leN_len, leN_len]; simp; omega) (fun _ h => h) (by rw [World.size_alloc]; have := HF.out.size; omega) ?_; intro v4 w4 hown4 hgrow4 hat4)
          exact ⟨⟨j + 1, by omega, by go_num, by rw [leN_snoc j s, ← List.append_assoc]; exact hown4, RowKit.Below.grown (B := w.heap.size) (fr.alloc HF.out _) hgrow4 (by rw [World.size_alloc]; have := HF.out.size; omega) (fun j e => (HO.out.blk e).1)⟩, by simp [intOf]; omega⟩
        · have HO4 : Hid (OwnF wr w.heap.size (.slice A4 (8 + j) c4) (leN 8 m ++ leN 4 s)) := Lib.hid (by have := HO.out; rwa [show leN j s = leN 4 s by rw [show j = 4 by omega]] at this)
          have HSE : Hid (sealF bs = leN 8 m ++ leN 4 s ++ bs) := Lib.hid (by unfold sealF; rw [HN.out, HSS.out, hm])
          go_wp2_with (at_builtin; refine wpList_append_ownB rfl _ _ rfl (fun i => w.heap.size ≤ i) (fun i => w.heap.size ≤ i) (.slice A4 (8 + j) c4) _ rfl rfl S (leN 8 m ++ leN 4 s) bs HO4.out (HV.out.below HF.out) (by rw [List.length_append, leN_len, leN_len, HN.out]; omega) (fun _ h => h) HF.out.size ?_; intro v5 w5 hown5 hgrow5 hat5; obtain ⟨A5, c5, rfl⟩ := hown5.form; rw [← HSE.out, show (sealF bs).length = n + 12 by rw [HSE.out, List.length_append, List.length_append, leN_len, leN_len, HN.out]; omega] at hown5; rw [show (leN 8 m ++ leN 4 s ++ bs).length = n + 12 by rw [List.length_append, List.length_append, leN_len, leN_len, HN.out]; omega])
          refine bodyPost_ret (v := .slice A5 (n + 12) c5) (by simp [results, Tryz.results33, go_sem, hm]) rfl ?_
          exact ⟨_, _, rfl, hown5, RowKit.Below.grown (B := w.heap.size) HF.out hgrow5 HF.out.size (fun j e => (HO.out.blk e).1)⟩
end Go.Proofs.YtiffgjodbcploaaGreat
end
section
namespace Go.Proofs.YtiffgjodbcploaaGreat
set_option maxRecDepth 100000
open Go.RowKit Go.BigFrame
attribute [local go_sem ↓] Go.wp_at_zero Go.wp_at_succ
/-- what is written of an entry's head: its key, its number and whether it is dead. -/
def headV (e : Ent) (seq : Nat) : List UInt8 := formN e.key.length ++ e.key ++ formN (2 * seq + if e.dead then 1 else 0)
def headK (i : Nat) (x : UInt8) : List UInt8 := [UInt8.ofNat (i / 256), UInt8.ofNat i, x]
theorem or_dead (x : Nat) (hx : x < 1099511627777) (d : Bool) : bits .or .u64 ((x : Int) * 2) (if d then 1 else 0) = ((2 * x + if d then 1 else 0 : Nat) : Int) := by
  have h := (bits_nat .u64 64 (by decide) wraps64 (x * 2) (if d then 1 else 0) (by omega) (by split <;> decide)).2
  have e : x * 2 ||| (if d then 1 else 0) = 2 * x + if d then 1 else 0 := by
    have := or_hi (v := if d then 1 else 0) (c := x) (i := 1) (by split <;> decide)
    rw [Nat.pow_one] at this
    rw [Nat.or_comm, this]
    omega
  rw [e] at h
  rw [← h]
  cases d <;> simp
theorem OwnF.lit (w : World) (lo n : Nat) (bs : List UInt8) (o : Obj) (ho : o = .cells (bs.map bcell).toArray 5 (0, 0)) (hn : bs.length = n) (hb : n ≤ 140737488355328) (hl : lo ≤ w.heap.size) : OwnF (w.alloc o) lo (.slice (some ⟨w.heap.size, 0, none⟩) n n) bs := by
  subst hn ho
  exact ⟨_, _, rfl, Nat.le_refl _, by omega, hb, .inr ⟨w.heap.size, _, rfl, hl, heap_alloc_new w _, by simp, by simp only; exact List.take_of_length_le (by rw [List.length_map]; exact Nat.le_refl _)⟩⟩
theorem fr.hp' {w w' : World} {i : Nat} {x : Obj} (h : fr w w') (hi : w.heap[i]? = some x) : w'.heap[i]? = some x := (Below.block h i (Array.getElem?_eq_some_iff.1 hi).1).trans hi
set_option maxRecDepth 100000 in
set_option maxHeartbeats 1000000 in
theorem pack_any (S : Nat → Prop) (i seq : Nat) (v : Value) (e : Ent) (w : World) (hv : EntV w S v e) (hi : i < 65536) (hq : e.seq = (seq : Int)) (hqb : seq ≤ 1099511627776) (hk : e.key.length ≤ 200) :
    Calls Tryz.prog 30 #[.int .i64 i, v] w fun r w' => ∃ A c B d, r = .returned (.agg #[.slice A 3 c, .slice B (headV e seq).length d]) ∧ OwnF w' w.heap.size (.slice A 3 c) (headK i 0) ∧ OwnF w' w.heap.size (.slice B (headV e seq).length d) (headV e seq) ∧ fr w w' := by
  obtain ⟨k, u, rfl, hk1, hu1⟩ := hv
  obtain ⟨Ak, ck, rfl⟩ := slice_form hk1
  obtain ⟨Au, cu, rfl⟩ := slice_form hu1
  rw [hq]
  obtain ⟨nk, hnk⟩ : ∃ q, e.key.length = q := ⟨_, rfl⟩
  obtain ⟨nu, hnu⟩ : ∃ q, e.val.length = q := ⟨_, rfl⟩
  have HB := Lib.hid (fun wx (hx : fr w wx) => appBytes_any (fun _ => True) _ (.slice none 0 0) _ [] e.key wx (Byt.nil _ _) (hk1.below hx) (by simp) (by omega))
  rw [hnk] at hk1 hk ⊢
  have hsq : (seq : Int) % 18446744073709551616 = (seq : Int) := by omega
  have hsq2 : (seq : Int) * 2 % 18446744073709551616 = (seq : Int) * 2 := by omega
  have hor := or_dead seq (by omega) e.dead
  obtain ⟨N, hN⟩ : ∃ N, (2 * seq + if e.dead then 1 else 0) = N := ⟨_, rfl⟩
  have hNb : N < 18446744073709551616 := by rw [← hN]; split <;> omega
  rw [hN] at hor
  have hhv : headV e seq = [] ++ formN nk ++ e.key ++ formN N := by unfold headV; rw [hN, hnk]; rfl
  obtain ⟨m1, hm1⟩ : ∃ q, ([] ++ formN nk ++ e.key).length = q := ⟨_, rfl⟩
  obtain ⟨m2, hm2⟩ : ∃ q, (headV e seq).length = q := ⟨_, rfl⟩
  have hm1b : m1 ≤ 1000 := by rw [← hm1]; have := (formN_len nk).2; simp only [List.length_append, List.length_nil]; omega
  rw [hnk, hm1] at HB
  rw [hm2]
  have HHV := Lib.hid hhv
  have HM1 := Lib.hid hm1
  have HM2 := Lib.hid hm2
  have hP0 : ∀ x : Obj, ((w.alloc x).alloc (.cells #[.slice none 0 0, .slice none 0 0] 78)).heap[w.heap.size + 1]? = some (.cells #[.slice none 0 0, .slice none 0 0] 78 (0, 0)) := fun x => by
    have := heap_alloc_new (w.alloc x) (.cells #[.slice none 0 0, .slice none 0 0] 78)
    rwa [World.size_alloc] at this
  have hP1 : ∀ (cs : Array Value) (y : Obj), ((w.alloc (.cells cs 48)).alloc y).heap[w.heap.size]? = some (.cells cs 48 (0, 0)) := fun cs y => (Below.heap_alloc _ _ _ (by simp)).trans (heap_alloc_new w _)
  have hfr : ∀ x y : Obj, fr w ((w.alloc x).alloc y) := fun x y => fr.alloc (fr.alloc fr.refl _) _
  have hi1 : (i : Int) / 256 = ((i / 256 : Nat) : Int) := by omega
  have hK2 : (#[.int .u8 ((i : Int) / 256), .int .u8 ((i : Int) % 256)] : Array Value) = (([UInt8.ofNat (i / 256), UInt8.ofNat i]).map bcell).toArray := by rw [show (i : Int) / 256 = ((i / 256 : Nat) : Int) % 256 by omega, byte_of, byte_of]; rfl
  have HK2 := Lib.hid hK2
  clear hk1 hu1 hnu hN hhv hm1 hm2 hnk hi1 hK2
  obtain ⟨dd, hdd⟩ : ∃ d, e.dead = d := ⟨_, rfl⟩
  rw [hdd] at hor ⊢
  clear hdd
  rcases dd with _ | _
  all_goals
    simp only [if_true, if_false, Bool.false_eq_true] at hor
    go_enter Tryz.func30, Tryz.ntmps30
    go_upto_region 5 with (go_at_call 57; refine (HB.out _ (hfr _ _)).mono ?_; rintro r w1 ⟨A1, c1, rfl, ho1, f1⟩; have p1 := fr.hp' f1 (hP1 _ _); have p0 := fr.hp' f1 (hP0 _); have y1 := cell_of_row w1 _ 1 _ _ _ p1; have hfw := fr.step (hfr _ _) f1)
    go_upto_region 6 with (go_at_call 28; refine (appUint_any _ _ ([] ++ formN nk ++ e.key) N w1 ho1.byt hNb (by rw [HM1.out]; omega)).mono ?_; rintro r w2 ⟨A2, c2, rfl, ho2, f2⟩; rw [← HHV.out, HM2.out] at ho2; rw [← HHV.out, HM2.out])
    have hz1 := hfw.size
    have hz2 := Below.size f2
    have hlp := (Array.getElem?_eq_some_iff.1 p0).1
    have p02 := fr.hp' f2 p0
    have hplace : OwnF ((w2.alloc (.cells #[.int .u8 ((i : Int) / 256), .int .u8 ((i : Int) % 256)] 5)).alloc (.cells #[.int .u8 0] 5)) w.heap.size (.slice (some ⟨w2.heap.size, 0, none⟩) 2 2) [UInt8.ofNat (i / 256), UInt8.ofNat i] := (OwnF.lit w2 w.heap.size 2 _ _ (by rw [HK2.out]) rfl (by omega) (by omega)).below (fr.alloc fr.refl _)
    have hlit0 : Byt ((w2.alloc (.cells #[.int .u8 ((i : Int) / 256), .int .u8 ((i : Int) % 256)] 5)).alloc (.cells #[.int .u8 0] 5)) (fun _ => True) (.slice (some ⟨w2.heap.size + 1, 0, none⟩) 1 1) [0] := by
      have := Byt.lit4 (w2.alloc (.cells #[.int .u8 ((i : Int) / 256), .int .u8 ((i : Int) % 256)] 5)) (fun _ => True) trivial [0] (.cells #[.int .u8 0] 5) 1 rfl (by omega) rfl
      rwa [World.size_alloc] at this
    have hfa : fr w2 ((w2.alloc (.cells #[.int .u8 ((i : Int) / 256), .int .u8 ((i : Int) % 256)] 5)).alloc (.cells #[.int .u8 0] 5)) := fr.alloc (fr.alloc fr.refl _) _
    have p03 := fr.hp' hfa p02
    have HOB : Hid (∀ g, blkB (.slice A2 m2 c2) = some g → w1.heap.size ≤ g ∧ g < w2.heap.size) := Lib.hid fun g hg => ⟨(ho2.blk hg).1, (ho2.blk hg).2.2⟩
    have HO2 := Lib.hid (ho2.below hfa)
    have HFA := Lib.hid (fr.step (fr.step hfw f2) hfa)
    clear ho2 hfa p02 p0 p1 y1 HB hP0 hP1 hfr ho1 hor
    go_wp2_with (at_builtin; refine wpList_append_ownB rfl _ _ rfl (fun i => w.heap.size ≤ i) (fun i => w.heap.size ≤ i) (.slice (some ⟨w2.heap.size, 0, none⟩) 2 2) _ rfl rfl (fun _ => True) [UInt8.ofNat (i / 256), UInt8.ofNat i] [0] hplace hlit0 (by simp) (fun _ h => h) HFA.out.size ?_; intro v3 w3 hown3 hgrow3 hat3; obtain ⟨A3, c3, rfl⟩ := hown3.form; have p3 := (hgrow3.block (w.heap.size + 1) (by rw [World.size_alloc, World.size_alloc]; omega) (by simp [blkB]; omega)).trans p03; have z0 := frozen_of_row w3 _ 0 _ _ p3; have q0 := cell_of_row w3 _ 0 _ _ _ p3; have p4 := heap_setCell_same w3 _ 0 _ _ (.slice A3 3 c3) p3; have z1 := frozen_of_row _ _ 1 _ _ p4; have q1 := cell_of_row _ _ 1 _ _ _ p4; have p5 := heap_setCell_same _ _ 1 _ _ (.slice A2 m2 c2) p4; have r0 := cell_of_row _ _ 0 _ _ _ p5; have r1 := cell_of_row _ _ 1 _ _ _ p5)
    refine bodyPost_ret (v := .agg #[.slice A3 3 c3, .slice A2 m2 c2]) (by simp [results, Tryz.results30, go_sem, r0, r1]) rfl ?_
    have ho3 : Only (fun j => j = w.heap.size + 1) w3 ((w3.setCell ⟨w.heap.size + 1, 0, none⟩ (.slice A3 3 c3)).setCell ⟨w.heap.size + 1, 1, none⟩ (.slice A2 m2 c2)) := ((Only.refl (fun j => j = w.heap.size + 1) w3).setCell (p := ⟨w.heap.size + 1, 0, none⟩) rfl _).setCell (p := ⟨w.heap.size + 1, 1, none⟩) rfl _
    have hb2 : ∀ g, blkB (.slice (some ⟨w2.heap.size, 0, none⟩) 2 2) = some g → g = w2.heap.size := fun g hg => by simp [blkB] at hg; exact hg.symm
    refine ⟨A3, c3, A2, c2, rfl, OwnB.only hown3 ho3 (fun g hg h => ?_), (OwnB.only (OwnB.only HO2.out (Only.of_grown hgrow3) (fun g hg h => ?_)) ho3 (fun g hg h => ?_)).mono (fun i h => Nat.le_trans hz1 h), RowKit.Below.setCell (RowKit.Below.setCell (RowKit.Below.grown (B := w.heap.size) HFA.out hgrow3 HFA.out.size (fun j e => by rw [hb2 j e]; omega)) (Nat.le_add_right _ _) _) (Nat.le_add_right _ _) _⟩
    · rcases hat3 with h3 | h3
      · have := hb2 g (h3 ▸ hg)
        omega
      · have h4 := h3.symm.trans hg
        simp only [World.size_alloc, Option.some.injEq] at h4
        omega
    · have := HOB.out g hg
      have := hb2 g h
      omega
    · have := HOB.out g hg
      omega
end Go.Proofs.YtiffgjodbcploaaGreat
end
section
namespace Go.Proofs.YtiffgjodbcploaaGreat
set_option maxRecDepth 100000
open Go.RowKit Go.BigFrame
/-- the pairs of a part. -/
def pairsF : Nat → List Ent → List Pr
  | _, [] => []
  | i, e :: es => ⟨headK i 0, headV e e.seq.toNat⟩ :: ⟨headK i 1, e.val⟩ :: pairsF (i + 1) es
theorem pairsF_len : ∀ (i : Nat) (es : List Ent), (pairsF i es).length = 2 * es.length
  | _, [] => rfl
  | i, e :: es => by unfold pairsF; simp only [List.length_cons, pairsF_len]; omega
theorem pairsF_snoc : ∀ (i : Nat) (es : List Ent) (e : Ent), pairsF i (es ++ [e]) = pairsF i es ++ [⟨headK (i + es.length) 0, headV e e.seq.toNat⟩, ⟨headK (i + es.length) 1, e.val⟩]
  | i, [], e => rfl
  | i, x :: es, e => by
    rw [List.cons_append]
    unfold pairsF
    rw [pairsF_snoc, List.length_cons, show i + 1 + es.length = i + (es.length + 1) by omega]
    rfl
def GoodL (es : List Ent) : Prop := ∀ e ∈ es, goodE e = true
theorem goodE_is {e : Ent} (h : goodE e = true) : 0 < e.key.length ∧ e.key.length ≤ 200 ∧ 0 < e.seq ∧ e.seq ≤ 1099511627776 ∧ e.val.length ≤ 4096 ∧ (e.dead = true → e.val.length = 0) := goodR_t.1 h
theorem GoodL.small {es : List Ent} (h : GoodL es) : SmallE es := fun e he => ⟨(goodE_is (h e he)).2.1, (goodE_is (h e he)).2.2.2.2.1⟩
theorem headV_len (e : Ent) (q : Nat) : (headV e q).length ≤ 20 + e.key.length := by
  unfold headV
  have h1 := (formN_len e.key.length).2
  have h2 := (formN_len (2 * q + if e.dead then 1 else 0)).2
  simp only [List.length_append]
  omega
theorem pairsF_short : ∀ (i : Nat) (es : List Ent), GoodL es → Short (pairsF i es)
  | _, [], _ => fun p hp => by simp [pairsF] at hp
  | i, e :: es, h => fun p hp => by
    have hg := goodE_is (h e (by simp))
    unfold pairsF at hp
    rcases List.mem_cons.1 hp with rfl | hp
    · have := headV_len e e.seq.toNat
      exact ⟨by simp [headK], by simp only; omega⟩
    · rcases List.mem_cons.1 hp with rfl | hp
      · exact ⟨by simp [headK], by simp only; omega⟩
      · exact pairsF_short (i + 1) es (fun x hx => h x (by simp [hx])) p hp
theorem cmpB_lt {x y : UInt8} {xs ys : List UInt8} (h : x < y) : cmpB (x :: xs) (y :: ys) < 0 := by simp [cmpB, h]
theorem cmpB_same {x : UInt8} {xs ys : List UInt8} (h : cmpB xs ys < 0) : cmpB (x :: xs) (x :: ys) < 0 := by simpa [cmpB] using h
theorem head_01 (i : Nat) : cmpB (headK i 0) (headK i 1) < 0 := cmpB_same (cmpB_same (cmpB_lt (by decide)))
theorem head_next {i : Nat} (h : i + 1 < 65536) : cmpB (headK i 1) (headK (i + 1) 0) < 0 := by
  unfold headK
  by_cases hr : i % 256 = 255
  · refine cmpB_lt (UInt8.lt_iff_toNat_lt.2 ?_)
    simp
    omega
  · rw [show (i + 1) / 256 = i / 256 by omega]
    refine cmpB_same (cmpB_lt (UInt8.lt_iff_toNat_lt.2 ?_))
    simp
    omega
theorem pairsF_asc : ∀ (i : Nat) (es : List Ent) (a : List UInt8), i + es.length ≤ 65535 → cmpB a (headK i 0) < 0 → Asc a (pairsF i es)
  | _, [], _, _, _ => trivial
  | i, e :: es, a, hl, ha => by
    simp only [List.length_cons] at hl
    exact ⟨ha, head_01 i, pairsF_asc (i + 1) es _ (by omega) (head_next (by omega))⟩
theorem pairsF_asc0 {es : List Ent} (h : es.length ≤ 65535) : Asc [] (pairsF 0 es) := pairsF_asc 0 es [] (by omega) (by simp [headK, cmpB])
theorem oneP_le (a : List UInt8) (p : Pr) : (oneP a p).length ≤ 30 + p.key.length + p.val.length := by
  unfold oneP
  have h1 := (formN_len (sharedN a p.key)).2
  have h2 := (formN_len (p.key.length - sharedN a p.key)).2
  have h3 := (formN_len p.val.length).2
  simp only [List.length_append, List.length_drop]
  omega
theorem build_le : ∀ (i : Nat) (es : List Ent) (a : List UInt8), (buildGo a (pairsF i es)).length ≤ 86 * es.length + bytesE es
  | _, [], _ => by simp [pairsF, buildGo, bytesE]
  | i, e :: es, a => by
    unfold pairsF buildGo buildGo
    have h1 := oneP_le a ⟨headK i 0, headV e e.seq.toNat⟩
    have h2 := oneP_le (headK i 0) ⟨headK i 1, e.val⟩
    have h3 := build_le (i + 1) es (headK i 1)
    have h4 := headV_len e e.seq.toNat
    have hk0 : (headK i 0).length = 3 := rfl
    have hk1 : (headK i 1).length = 3 := rfl
    have hb : bytesE (e :: es) = e.key.length + e.val.length + bytesE es := by simp [bytesE]
    simp only [hk0, hk1] at h1 h2
    simp only [List.length_append, List.length_cons]
    omega
/-- a part's frame. -/
def partF (es : List Ent) : List UInt8 := putF (buildGo [] (pairsF 0 es))
theorem partF_le (es : List Ent) : (partF es).length ≤ 8 + 86 * es.length + bytesE es := by
  unfold partF
  rw [putF_len]
  have := build_le 0 es []
  omega
theorem parts_le : ∀ (ps : List (List Ent)), (∀ p ∈ ps, 0 < p.length) → ((ps.map partF).flatten).length ≤ 94 * ps.flatten.length + bytesE ps.flatten
  | [], _ => by simp [bytesE]
  | p :: ps, h => by
    have h1 := partF_le p
    have h2 := parts_le ps fun x hx => h x (by simp [hx])
    have h3 := h p (by simp)
    have hb : bytesE (p ++ ps.flatten) = bytesE p + bytesE ps.flatten := by simp [bytesE]
    simp only [List.map_cons, List.flatten_cons, List.length_append, hb]
    omega
/-- a table's file, of parts. -/
def fileF (n : Nat) (ps : List (List Ent)) : List UInt8 := putF (formN n) ++ (ps.map partF).flatten
/-- parts as table.cut makes them. -/
structure PartsOk (es : List Ent) (ps : List (List Ent)) : Prop where
  all : ps.flatten = es
  part : ∀ p ∈ ps, 0 < p.length ∧ p.length ≤ 1024 ∧ bytesE p ≤ 1052872
theorem fileF_le {es : List Ent} {ps : List (List Ent)} (h : PartsOk es ps) : (fileF es.length ps).length ≤ 18 + 94 * es.length + bytesE es := by
  unfold fileF
  have h1 := parts_le ps fun p hp => (h.part p hp).1
  have h2 := (formN_len es.length).2
  rw [h.all] at h1
  rw [List.length_append, putF_len]
  omega
end Go.Proofs.YtiffgjodbcploaaGreat
end
section
namespace Go.Proofs.YtiffgjodbcploaaGreat
set_option maxRecDepth 100000
open Go.RowKit Go.BigFrame
attribute [local go_sem ↓] Go.wp_at_zero Go.wp_at_succ
/-- three numbers written ahead of some bytes. -/
def nums3 (vs : List Nat) : List UInt8 := (vs.map formN).flatten
theorem nums3_at {vs : List Nat} {j a : Nat} (h : vs[j]? = some a) (tail : List UInt8) : (nums3 vs ++ tail).drop (nums3 (vs.take j)).length = formN a ++ (nums3 (vs.drop (j + 1)) ++ tail) := by
  obtain ⟨hj, he⟩ := List.getElem?_eq_some_iff.1 h
  have e : vs = vs.take j ++ a :: vs.drop (j + 1) := by
    conv => lhs; rw [← List.take_append_drop j vs]
    rw [List.drop_eq_getElem_cons hj, he]
  have e2 : nums3 vs = nums3 (vs.take j) ++ (formN a ++ nums3 (vs.drop (j + 1))) := by
    conv => lhs; rw [e]
    unfold nums3
    simp
  rw [e2, List.append_assoc, List.drop_left, List.append_assoc]
theorem nums3_snoc {vs : List Nat} {j a : Nat} (h : vs[j]? = some a) : nums3 (vs.take (j + 1)) = nums3 (vs.take j) ++ formN a := by
  unfold nums3
  rw [take_snoc h]
  simp
theorem Only.setNew {S : Nat → Prop} {a b : World} (h : Only S a b) {p : Addr} (hp : a.heap.size ≤ p.block) (u : Value) : Only S a (b.setCell p u) :=
  ⟨h.os, h.tape, h.output, by have := h.size; simp [World.setCell]; omega, fun i hi hS => (Below.heap_setCell b p u i (fun e => by omega)).trans (h.block i hi hS)⟩
set_option maxRecDepth 100000 in
set_option maxHeartbeats 4000000 in
theorem pairs_tells (nn : Nat) (w : World) (B Bw b o n c : Nat) (S0 : Nat → Prop) (ps : List Pr) (hK : PairsK w B Bw b o n c S0 (buildGo [] ps)) (hSw : ¬ S0 Bw) (hS0 : ∀ i, S0 i → i < w.heap.size) (hn : (buildGo [] ps).length = n) (hn40 : n ≤ 1099511627776) (hs : Short ps) (ha : Asc [] ps) (h4 : ps.length ≤ 4096) :
    Tells Fence.wide nn Tryz.prog 117 #[.pointer (some ⟨B, 0, none⟩), .pointer (some ⟨B + 1, 0, none⟩)] (fun x : Value × Pr => #[x.1]) (fun pre T x A => OkP w.heap.size T x A ∧ pre.length < ps.length)
      (fun xs W' => xs.map Prod.snd = ps ∧ Boxed W' Bw 30 (.int .i64 0)) (fun _ _ => True) (fun i => i < w.heap.size ∧ (i = B ∨ i = B + 1 ∨ i = Bw ∨ S0 i)) (fun i => i = Bw) w := by
  intro l J Jx T0 W hW hT0 hJ hJx hJT hY h0
  refine callsIn_wide.2 ?_
  have HJ := Lib.hid hJ
  have HJX := Lib.hid hJx
  have HJT := Lib.hid hJT
  have HY := Lib.hid hY
  have HSH := Lib.hid hs
  have HAS := Lib.hid ha
  have HN := Lib.hid hn
  have HT0 := Lib.hid hT0
  have HSW := Lib.hid hSw
  have HS0 := Lib.hid hS0
  have HWZ := Lib.hid hW.size
  have HB1 := Lib.hid (show B < w.heap.size ∧ B + 1 < w.heap.size ∧ Bw < w.heap.size from ⟨hK.b1.lt, hK.b2.lt, hK.b3.lt⟩)
  have HK0 := Lib.hid (hK.fr hW)
  have hcc : n ≤ c ∧ c ≤ 9223372036854775807 := by obtain ⟨A, ca, hE, h1, h2, _⟩ := hK.byt; injection hE with _ e2 e3; omega
  obtain ⟨bs, hbs⟩ : ∃ bs, buildGo [] ps = bs := ⟨_, rfl⟩
  rw [hbs] at HN HK0
  have HBS := Lib.hid hbs
  have HJ0 := Lib.hid h0
  clear hJ hJx hJT hY hs ha hn hT0 hSw hS0 hW hK hbs h0
  go_enter Tryz.func117, Tryz.ntmps117
  go_wp2
  go_loopw [4, 5, 6] (fun y x m wr => ∃ (pre : List (Value × Pr)) (T : Nat → Prop) (ah : List UInt8) (rs : List Pr) (k : Nat), x = .int .i64 k ∧ m = .int .i64 pre.length ∧ Byt wr (fun i => ¬ i = Bw ∧ ¬ T i) y ah ∧ k ≤ n ∧ bs.drop k = buildGo ah rs ∧ Asc ah rs ∧ pre.map Prod.snd ++ rs = ps ∧ PairsK wr B Bw b o n c S0 bs ∧
    (∀ i, T i → ¬ (i < w.heap.size ∧ (i = B ∨ i = B + 1 ∨ i = Bw ∨ S0 i))) ∧ W.heap.size ≤ wr.heap.size ∧ J pre T wr) (fun _ x _ _ => n - (intOf x).toNat)
  case atStart => exact ⟨[], T0, [], ps, 0, rfl, rfl, Byt.nil _ _, Nat.zero_le _, HBS.out.symm, HAS.out, rfl, HK0.out, HT0.out, Nat.le_refl _, HJ0.out⟩
  case round =>
    clear HJ0 HT0 HK0 HAS
    obtain ⟨pre, T, ah, rs, k, rfl, rfl, hah, hk, hdr, hasc, hps, hK, hT, hz, hj⟩ := hrel
    have HK := Lib.hid hK
    have HT := Lib.hid hT
    have HZ := Lib.hid hz
    have HJR := Lib.hid hj
    have HPS := Lib.hid hps
    have c1 := hK.b1.cell
    have c2 := hK.b2.cell
    have c3 := hK.b3.cell
    have z3 := hK.b3.frozen
    obtain ⟨w0, hw0⟩ : ∃ x, x = wr := ⟨_, rfl⟩
    subst hw0
    obtain ⟨m, hm⟩ : ∃ m, pre.length = m := ⟨_, rfl⟩
    rw [hm]
    have HM := Lib.hid hm
    clear hK hT hz hj hps hm
    cases rs with
    | nil =>
      have hkn : k = n := by
        have := congrArg List.length hdr
        rw [List.length_drop, HN.out] at this
        simp only [buildGo, List.length_nil] at this
        omega
      subst hkn
      clear hdr hasc hah
      go_wp2
      go_end0
      exact ⟨⟨_, rfl⟩, .inl ⟨pre, T, ⟨by simpa using HPS.out, HK.out.b3⟩, HJR.out⟩⟩
    | cons p rs =>
      obtain ⟨hlt, hasc2⟩ := hasc
      have hpm : p ∈ ps := by rw [← HPS.out]; simp
      obtain ⟨hs1, hs2⟩ := HSH.out p hpm
      have hsl := shared_lt hlt
      have hsa := shared_le (a := ah) (b := p.key)
      have hkey := key_of_shared (a := ah) (b := p.key)
      obtain ⟨nk, hnk⟩ : ∃ q, p.key.length = q := ⟨_, rfl⟩
      obtain ⟨nu, hnu⟩ : ∃ q, p.val.length = q := ⟨_, rfl⟩
      obtain ⟨sh, hsh⟩ : ∃ q, sharedN ah p.key = q := ⟨_, rfl⟩
      obtain ⟨dk, hdk⟩ : ∃ q, nk - sh = q := ⟨_, rfl⟩
      rw [hnk] at hs1 hsl
      rw [hnu] at hs2
      rw [hsh] at hsl hsa hkey
      obtain ⟨na, hna⟩ : ∃ q, ah.length = q := ⟨_, rfl⟩
      rw [hna] at hsa
      obtain ⟨vs, hvs⟩ : ∃ vs, [sh, dk, nu] = vs := ⟨_, rfl⟩
      have hdr2 : bs.drop k = nums3 vs ++ (p.key.drop sh ++ (p.val ++ buildGo p.key rs)) := by
        have e : buildGo ah (p :: rs) = oneP ah p ++ buildGo p.key rs := rfl
        rw [hdr, e, ← hvs]
        unfold oneP nums3
        rw [hnk, hnu, hsh, hdk]
        simp [List.append_assoc]
      have hkn : k < n := by
        have := congrArg List.length hdr
        rw [List.length_drop, HN.out] at this
        unfold buildGo at this
        rw [List.length_append] at this
        have := oneP_pos ah p
        omega
      have HDR := Lib.hid hdr2
      have HVS := Lib.hid hvs
      have HAH := Lib.hid hah
      have HNA := Lib.hid hna
      have HNK := Lib.hid hnk
      have HNU := Lib.hid hnu
      have HSHN := Lib.hid hsh
      have HDK := Lib.hid hdk
      have HLT := Lib.hid hlt
      have HASC := Lib.hid hasc2
      have HKEY := Lib.hid hkey
      have hvb : ∀ (j a : Nat), vs[j]? = some a → a < 1099511627776 := fun j a h => by
        have := List.mem_of_getElem? h
        rw [← hvs] at this
        simp at this
        omega
      have HVB := Lib.hid hvb
      have P0 : (w0.alloc (.cells #[.int .u64 0, .int .u64 0, .int .u64 0] 177)).heap[w0.heap.size]? = some (.cells #[.int .u64 0, .int .u64 0, .int .u64 0] 177 (0, 0)) := heap_alloc_new w0 _
      have F0 : fr w0 (w0.alloc (.cells #[.int .u64 0, .int .u64 0, .int .u64 0] 177)) := fr.alloc fr.refl _
      clear hah hdr hdr2 hvs hna hnk hnu hsh hdk hlt hasc2 hkey hvb hpm
      go_wp2
      generalize w0.alloc (.cells #[.int .u64 0, .int .u64 0, .int .u64 0] 177) = w1 at P0 F0 ⊢
      have HP0 := Lib.hid P0
      have HF0 := Lib.hid F0
      clear P0 F0 c1 c2 c3 z3
      obtain ⟨I, hI⟩ : ∃ I, w0.heap.size = I := ⟨_, rfl⟩
      rw [hI] at HP0 ⊢
      have HI := Lib.hid hI
      clear hI
      go_loopw [5, 19] (fun x t wx => ∃ (j : Nat) (arr : Array Value) (q : Nat), j ≤ 3 ∧ t = .int .i64 j ∧ x = .int .i64 q ∧ q = k + (nums3 (vs.take j)).length ∧ wx.heap[I]? = some (.cells arr 177 (0, 0)) ∧ arr.size = 3 ∧ (∀ i a : Nat, i < j → vs[i]? = some a → arr[i]? = some (.int .u64 a)) ∧ PairsK wx B Bw b o n c S0 bs ∧ Only (fun i => i = Bw) w0 wx) (fun _ t _ => 3 - (intOf t).toNat)
      case atStart => exact ⟨0, _, k, by omega, rfl, rfl, rfl, HP0.out, rfl, fun i a h => absurd h (by omega), HK.out.fr HF0.out, Only.of_below HF0.out⟩
      case round =>
        obtain ⟨j, arr, q, hj, rfl, rfl, hq, hp, harr, hcs, hKx, hox⟩ := hrel
        have HQ := Lib.hid hq
        have HP := Lib.hid hp
        have HARR := Lib.hid harr
        have HCS := Lib.hid hcs
        have HKX := Lib.hid hKx
        have HOX := Lib.hid hox
        have c1 := hKx.b1.cell
        have c2 := hKx.b2.cell
        have c3 := hKx.b3.cell
        have z3 := hKx.b3.frozen
        obtain ⟨w2, hw2⟩ : ∃ x, x = wr := ⟨_, rfl⟩
        subst hw2
        clear hq hcs hKx hox
        by_cases hj3 : j < 3
        · obtain ⟨a, haj⟩ : ∃ a, vs[j]? = some a := ⟨_, List.getElem?_eq_getElem (by rw [← HVS.out]; exact hj3)⟩
          have hab := HVB.out j a haj
          obtain ⟨old, hold⟩ : ∃ o, arr[j]? = some o := ⟨_, Array.getElem?_eq_getElem (by omega)⟩
          have hcell : w2.cell? ⟨I, j, none⟩ = some old := (cell_of_row w2 _ j _ _ _ hp).trans hold
          have hfz := frozen_of_row w2 _ j _ _ hp
          have hdq : bs.drop q = formN a ++ (nums3 (vs.drop (j + 1)) ++ (p.key.drop sh ++ (p.val ++ buildGo p.key rs))) := by
            rw [HQ.out, ← List.drop_drop, HDR.out, nums3_at haj]
          have hqn : q ≤ n := by
            have := congrArg List.length hdq
            rw [List.length_drop, HN.out, List.length_append] at this
            have := (formN_len a).1
            omega
          obtain ⟨fa, hfa⟩ : ∃ x, (formN a).length = x := ⟨_, rfl⟩
          have HFA := Lib.hid hfa
          have HU := Lib.hid (fun (wy : World) (hy : PairsK wy B Bw b o n c S0 bs) => uint_any S0 b o n c q a bs _ wy hy.byt HN.out hqn hdq (by omega))
          obtain ⟨q2, hq2⟩ : ∃ x, q + fa = x := ⟨_, rfl⟩
          rw [hfa, hq2] at HU
          have HQ2 := Lib.hid hq2
          have hKd : PairsK w2.drew B Bw b o n c S0 bs := HKX.out.fr (fr.drew fr.refl)
          have HKD := Lib.hid hKd
          have hIn : ¬ (I = B ∨ I = B + 1 ∨ I = Bw ∨ S0 I) := by
            have h1 := HB1.out
            have h2 := HI.out
            have h3 := HZ.out
            have h4 := HWZ.out
            rintro (h | h | h | h)
            · omega
            · omega
            · omega
            · have := HS0.out _ h
              omega
          have hK1 : PairsK (w2.setCell ⟨I, j, none⟩ (.int .u64 a)).drew B Bw b o n c S0 bs := hKd.set hIn _ _
          have hK2 : PairsK ((w2.setCell ⟨I, j, none⟩ (.int .u64 a)).setCell ⟨Bw, 0, none⟩ (.int .i64 0)).drew B Bw b o n c S0 bs := hK1.why HSW.out
          have k0 := Lib.hid (And.intro hKd.b1.cell hKd.b2.cell)
          have k1 := Lib.hid (And.intro hK1.b1.cell hK1.b2.cell)
          have k2 := Lib.hid (And.intro hK2.b1.cell hK2.b2.cell)
          have HAJ := Lib.hid haj
          have HIN := Lib.hid hIn
          have hne : ¬ I = Bw := fun e => hIn (.inr (.inr (.inl e)))
          have hne2 : ¬ Bw = I := fun e => hne e.symm
          have HK2 := Lib.hid hK2
          clear hp harr hold hdq haj hfa hIn hK2 hK1 hKd hq2
          go_wp2
          go_region_held3 (fun w' => w'.cell? ⟨B, 0, none⟩ = some (.slice (some ⟨b, o, none⟩) n c) ∧ w'.cell? ⟨B + 1, 0, none⟩ = some (.pointer (some ⟨Bw, 0, none⟩)))
            (first | with_reducible exact k0.out | with_reducible exact k1.out | with_reducible exact k2.out)
            (first | (go_split_ands; go_at_call 69; (with_reducible (refine Calls.mono (HU.out _ ?_) ?_)); (focus (with_reducible exact HKD.out)); rintro r w3 ⟨rfl, rfl⟩))
          all_goals
            have hz4 := HK2.out.b3.cell
            go_wp2
            have hp5 : ((w2.setCell ⟨I, j, none⟩ (.int .u64 a)).setCell ⟨Bw, 0, none⟩ (.int .i64 0)).heap[I]? = some (.cells (arr.setIfInBounds j (.int .u64 a)) 177 (0, 0)) := (heap_setCell_other _ ⟨Bw, 0, none⟩ I _ (fun e => HIN.out (.inr (.inr (.inl e))))).trans (heap_setCell_same w2 I j arr _ _ HP.out)
            refine ⟨⟨j + 1, _, q2, by omega, by go_num, by first | rfl | go_num, ?_, hp5, by rw [Array.size_setIfInBounds]; exact HARR.out, ?_, HK2.out, ?_⟩, by simp [intOf]; omega⟩
            · rw [nums3_snoc HAJ.out, List.length_append, HFA.out, ← HQ2.out, HQ.out]
              omega
            · intro i x hi hx
              by_cases hij : i = j
              · subst hij
                rw [HAJ.out] at hx
                injection hx with hx
                subst hx
                rw [Array.getElem?_setIfInBounds_self, if_pos (by rw [HARR.out]; exact hj3)]
              · rw [Array.getElem?_setIfInBounds_ne (fun e => hij e.symm)]
                exact HCS.out i x (by omega) hx
            · exact Only.drew (Only.setCell (S := fun i => i = Bw) (Only.setNew HOX.out (p := ⟨I, j, none⟩) (by rw [← HI.out]; exact Nat.le_refl _) _) (p := ⟨Bw, 0, none⟩) rfl _)
        · obtain rfl : j = 3 := by omega
          have e0 := HCS.out 0 sh (by omega) (by rw [← HVS.out]; rfl)
          have e1 := HCS.out 1 dk (by omega) (by rw [← HVS.out]; rfl)
          have e2 := HCS.out 2 nu (by omega) (by rw [← HVS.out]; rfl)
          have d0 := (cell_of_row w2 _ 0 _ _ _ hp).trans e0
          have d1 := (cell_of_row w2 _ 1 _ _ _ hp).trans e1
          have d2 := (cell_of_row w2 _ 2 _ _ _ hp).trans e2
          have hqe : q = k + (nums3 vs).length := by rw [HQ.out, List.take_of_length_le (by rw [← HVS.out]; simp)]
          have hdq : bs.drop q = p.key.drop sh ++ (p.val ++ buildGo p.key rs) := by rw [hqe, ← List.drop_drop, HDR.out, List.drop_left]
          have hdl : (p.key.drop sh).length = dk := by rw [List.length_drop, HNK.out, HDK.out]
          have hlen : n - q = dk + nu + (buildGo p.key rs).length := by
            have := congrArg List.length hdq
            rw [List.length_drop, HN.out, List.length_append, List.length_append, hdl, HNU.out] at this
            omega
          have hdk := HDK.out
          have hqn : q + dk + nu ≤ n := by omega
          have hdk0 : 0 < dk := by omega
          clear hlen hqe
          have HDQ := Lib.hid hdq
          have HDL := Lib.hid hdl
          have HP3 := Lib.hid hp
          obtain ⟨Ay, cy, rfl⟩ := slice_form HAH.out
          rw [HNA.out]
          have hcy : na ≤ cy ∧ cy ≤ 9223372036854775807 := by obtain ⟨A, ca, hE, h1, h2, _⟩ := HAH.out; simp only [Value.slice.injEq] at hE; obtain ⟨_, _, e3⟩ := hE; rw [HNA.out] at h1; omega
          have hnal : na ≤ 140737488355328 := by have := HAH.out.len; rw [HNA.out] at this; exact this
          have g1 : (na : Int) % 18446744073709551616 = (na : Int) := by omega
          have g2 : ¬ ((na : Int) < (sh : Int)) := by omega
          have g3 : ¬ ((200 : Int) < (dk : Int)) := by omega
          have g4 : ((sh : Int) + (dk : Int)) % 18446744073709551616 = (sh : Int) + (dk : Int) := by omega
          have g5 : ¬ ((200 : Int) < (sh : Int) + (dk : Int)) := by omega
          have g6 : ¬ ((4096 : Int) < (nu : Int)) := by omega
          have g7 : ((dk : Int) + (nu : Int)) % 18446744073709551616 = (dk : Int) + (nu : Int) := by omega
          have g8 : ((n : Int) - (q : Int)) % 18446744073709551616 = (n : Int) - (q : Int) := by omega
          have g9 : ¬ ((n : Int) - (q : Int) < (dk : Int) + (nu : Int)) := by omega
          clear hdq hdl e0 e1 e2 hp hdk
          go_upto_region 11 with (fail)
          go_quiet (fail)
          have e3 : (w2.drewN nq).cell? ⟨Bw, 0, none⟩ = some (.int .i64 0) := c3
          go_upto_region 19 with (fail)
          have hqc : ¬ c = q := by omega
          have hcq : ((c : Int) - (q : Int)) = ((c - q : Nat) : Int) := by omega
          obtain ⟨cq, hcqe⟩ : ∃ x, c - q = x := ⟨_, rfl⟩
          have hW0 : Only (fun i => i = Bw) w0 w2 := HOX.out
          have hfa : Byt w2 (fun i => ¬ i = Bw ∧ ¬ T i) (.slice Ay sh cy) (ah.take sh) := by
            have h1 := HAH.out
            rw [HNA.out] at h1
            exact Byt.front (Byt.only h1 hW0 (fun i _ hi e => hi.1 e)) hsa
          have hfb : Byt w2 S0 (.slice (some ⟨b, o + q, none⟩) dk cq) (p.key.drop sh) := by
            have := Byt.cut HKX.out.byt (f := q) (m := dk) (c' := cq) (by omega) (by omega) (by omega)
            rw [HDQ.out, List.take_left' HDL.out] at this
            exact this
          have hfl : [ah.take sh, p.key.drop sh].flatten = p.key := by simp only [List.flatten_cons, List.flatten_nil, List.append_nil]; exact HKEY.out
          have HC : Hid (Calls Tryz.prog 84 #[.slice (some ⟨w2.heap.size, 0, none⟩) 2 2] ((w2.drewN (nq + 1)).alloc (.cells #[.slice Ay sh cy, .slice (some ⟨b, o + q, none⟩) dk cq] 42)) fun r w' => ∃ A ck, r = .returned (.slice A nk ck) ∧ OwnF w' w2.heap.size (.slice A nk ck) p.key ∧ fr w2 w') := Lib.hid (by
            have hx : fr w2 (w2.drewN (nq + 1)) := ⟨rfl, rfl, rfl, Nat.le_refl _, fun _ _ => rfl⟩
            refine (concat_any _ _ _ _ (BytsV.two (hfa.below hx) (hfb.below hx)) (by rw [hfl, HNK.out]; omega)).mono ?_
            rintro r w' ⟨A, ck, hr, ho, hf⟩
            rw [hfl, HNK.out] at hr ho
            exact ⟨A, ck, hr, ho.mono (fun i hi => by rw [World.size_alloc] at hi; exact Nat.le_of_succ_le hi), fr.step (fr.alloc hx _) hf⟩)
          have kk1 := Lib.hid ((fr.alloc (show fr w2 (w2.drewN (nq + 1)) from ⟨rfl, rfl, rfl, Nat.le_refl _, fun _ _ => rfl⟩) (.cells #[.slice Ay sh cy, .slice (some ⟨b, o + q, none⟩) dk cq] 42)).cell c1)
          clear hfa hfb hfl hW0
          have i1 : (0 : Int) ≤ (sh : Int) := by omega
          have i2 : (sh : Int) ≤ (na : Int) := by omega
          have i3 : (sh : Int) ≤ (cy : Int) := by omega
          have i4 : IntKind.i64.wrap (dk : Int) = (dk : Int) := IntWalk.i64_in _ (by omega)
          have i5 : IntKind.i64.wrap ((q : Int) + (dk : Int)) = (q : Int) + (dk : Int) := IntWalk.i64_in _ (by omega)
          have i6 : (0 : Int) ≤ (q : Int) := by omega
          have i7 : (q : Int) ≤ (q : Int) + (dk : Int) := by omega
          have i8 : (q : Int) + (dk : Int) ≤ (c : Int) := by omega
          have i9 : ((q : Int) + (dk : Int) - (q : Int)) = (dk : Int) := by omega
          have i10 : ((q : Int) + (dk : Int)).toNat = q + dk := by omega
          have i11 : q + dk - q = dk := by omega
          have kk0 : (w2.drewN nq).drew.cell? ⟨B, 0, none⟩ = some (.slice (some ⟨b, o, none⟩) n c) := c1
          go_region_held3 (fun w' => w'.cell? ⟨B, 0, none⟩ = some (.slice (some ⟨b, o, none⟩) n c))
            (first | with_reducible exact kk0 | with_reducible exact kk1.out | with_reducible exact f3.cell c1)
            (first | (go_split_ands; go_at_call 84; (with_reducible (refine Calls.mono HC.out ?_)); rintro r w3 ⟨Ak, ck, rfl, ho3, f3⟩))
          have HF3 := Lib.hid f3
          have HO3 := Lib.hid ho3
          have HK3 := Lib.hid (HKX.out.fr f3)
          have HA3 : Hid (Byt w3 (fun i => ¬ i = Bw ∧ ¬ T i) (.slice Ay na cy) ah) := Lib.hid (by
            have h1 := HAH.out
            rw [HNA.out] at h1
            exact (Byt.only h1 HOX.out (fun i _ hi e => hi.1 e)).below f3)
          have hlt := HLT.out
          obtain ⟨zz, hzz⟩ : ∃ z, cmpB ah p.key = z := ⟨_, rfl⟩
          have HCM := Lib.hid (bcompare_any _ _ _ _ ah p.key w3 HA3.out HO3.out.byt)
          have HCS2 := Lib.hid (shared_any _ _ _ _ ah p.key w3 HA3.out HO3.out.byt)
          rw [hzz] at HCM hlt
          rw [HSHN.out] at HCS2
          have hz0 : ¬ (0 : Int) ≤ zz := by omega
          have hmN : pre.length < ps.length := by rw [← HPS.out]; simp
          have hm4 : ((m : Int) == 4096) = false := by have := HM.out; simp; omega
          obtain ⟨q3, hq3⟩ : ∃ x, q + dk = x := ⟨_, rfl⟩
          have i12 : (q : Int) + (dk : Int) = (q3 : Int) := by omega
          have i13 : IntKind.i64.wrap (q3 : Int) = (q3 : Int) := IntWalk.i64_in _ (by omega)
          have c3' := HK3.out.b3.cell
          have i14 : IntKind.i64.wrap (sh : Int) = (sh : Int) := IntWalk.i64_in _ (by omega)
          clear f3 ho3 hzz c1 c2 c3 z3 d0 d1 d2 kk0 kk1 e3
          go_upto_region 25 with (first
            | (go_at_call 60; refine HCM.out.mono ?_; rintro r w4 ⟨rfl, rfl⟩)
            | (go_at_call 61; refine HCS2.out.mono ?_; rintro r w4 ⟨rfl, f4⟩))
          have HF4 := Lib.hid f4
          have HK4 := Lib.hid (HK3.out.fr f4)
          have c1 := HK4.out.b1.cell
          have HQ3 := Lib.hid hq3
          have hq3n : q3 + nu ≤ n := by omega
          have j1 : IntKind.i64.wrap (nu : Int) = (nu : Int) := IntWalk.i64_in _ (by omega)
          have j2 : IntKind.i64.wrap ((q3 : Int) + (nu : Int)) = (q3 : Int) + (nu : Int) := IntWalk.i64_in _ (by omega)
          have j3 : (q3 : Int) ≤ (q3 : Int) + (nu : Int) := by omega
          have j4 : (q3 : Int) + (nu : Int) ≤ (c : Int) := by omega
          have j5 : ((q3 : Int) + (nu : Int) - (q3 : Int)) = (nu : Int) := by omega
          have j6 : ((q3 : Int) + (nu : Int)).toNat = q3 + nu := by omega
          have j7 : q3 + nu - q3 = nu := by omega
          have hdv : (bs.drop q3).take nu = p.val := by rw [HQ3.out.symm, ← List.drop_drop, HDQ.out, List.drop_left' HDL.out, List.take_left' HNU.out]
          have h0T : ∀ i, T i → i < w0.heap.size := fun i hi => HJT.out pre T w0 i HJR.out hi
          have hz02 := HOX.out.size
          have hz23 := Below.size HF3.out
          have hz34 := Below.size HF4.out
          have hlo : w.heap.size ≤ w0.heap.size := Nat.le_trans HWZ.out HZ.out
          have hJ5 : ∀ w5, fr w4 w5 → J pre T w5 := fun w5 f5 => HJ.out pre T w0 w5 HJR.out (Idle.of_only (Only.trans HOX.out (Only.of_below (fr.step (fr.step HF3.out HF4.out) f5))))
          have hokp : ∀ w5 vv, fr w4 w5 → BytL w5 w4.heap.size vv p.val → OkP w.heap.size T (.agg #[.slice Ak nk ck, vv], p) w5 := fun w5 vv f5 hvv => by
            refine ⟨_, _, rfl, ?_, ?_⟩
            · refine Byt.mono (S := fun i => w2.heap.size ≤ i ∧ Loose w5 i) (HO3.out.below (fr.step HF4.out f5)).byt fun i hi => ⟨⟨by omega, fun h => by have := h0T i h; omega⟩, hi.2⟩
            · refine Byt.mono (S := fun i => w4.heap.size ≤ i ∧ Loose w5 i) hvv fun i hi => ⟨⟨by omega, fun h => by have := h0T i h; omega⟩, hi.2⟩
          have HJ5 := Lib.hid hJ5
          have HOKP := Lib.hid hokp
          have H0T := Lib.hid h0T
          have HMN := Lib.hid hmN
          clear hJ5 hokp h0T hmN
          have hkq : k ≤ q := by have := HQ.out; omega
          have hk3 : k < q3 := by omega
          have hm5 : m < 4096 := by have := HM.out; have := HMN.out; omega
          have HFIN : Hid (∀ (x : Value × Pr) (w5 w6 : World) (T' : Nat → Prop), x.2 = p → fr w4 w5 → Grew w5.heap.size T T' → Only T w5 w6 → J (pre ++ [x]) T' w6 →
              ∃ (pre : List (Value × Pr)) (T : Nat → Prop) (ah : List UInt8) (rs : List Pr) (k : Nat), Value.int .i64 ((q3 : Int) + (nu : Int)) = .int .i64 k ∧ Value.int .i64 ((m : Int) + 1) = .int .i64 pre.length ∧ Byt w6 (fun i => ¬ i = Bw ∧ ¬ T i) (.slice Ak nk ck) ah ∧ k ≤ n ∧ bs.drop k = buildGo ah rs ∧ Asc ah rs ∧ pre.map Prod.snd ++ rs = ps ∧ PairsK w6 B Bw b o n c S0 bs ∧
                (∀ i, T i → ¬ (i < w.heap.size ∧ (i = B ∨ i = B + 1 ∨ i = Bw ∨ S0 i))) ∧ W.heap.size ≤ w6.heap.size ∧ J pre T w6) := Lib.hid fun x w5 w6 T' hx f5 g5 o5 hj6 => by
            have hb5 := f5.size
            have hb6 := o5.size
            refine ⟨_, T', p.key, rs, q3 + nu, by simp, by rw [List.length_append, HM.out]; rfl, ?_, by omega, ?_, HASC.out, ?_, ?_, ?_, ?_, hj6⟩
            · have h1 : Byt w5 (fun i => w2.heap.size ≤ i ∧ i < w5.heap.size) (.slice Ak nk ck) p.key := Byt.mono (S := fun i => w2.heap.size ≤ i ∧ Loose w5 i) (HO3.out.below (fr.step HF4.out f5)).byt fun i hi => ⟨hi.1, hi.2.lt⟩
              refine (Byt.only h1 o5 (fun i _ hi h => by have := H0T.out i h; omega)).mono fun i hi => ⟨fun e => by have := HB1.out; omega, fun h => ?_⟩
              rcases g5 i h with h | h
              · have := H0T.out i h; omega
              · omega
            · rw [← List.drop_drop, HQ3.out.symm, ← List.drop_drop, HDQ.out, List.drop_left' HDL.out, List.drop_left' HNU.out]
            · rw [← HPS.out, List.map_append, List.append_assoc, List.map_singleton, hx]; rfl
            · exact (HK4.out.fr f5).only o5 fun i h h' => HT.out i h ⟨by rcases h' with h' | h' | h' | h' <;> (have := HB1.out; first | omega | exact HS0.out i h'), h'⟩
            · intro i h h'
              rcases g5 i h with h | h
              · exact HT.out i h h'
              · omega
            · have := HZ.out; omega
          by_cases hcq3 : c = q3
          · obtain rfl : nu = 0 := by omega
            have HCL : Hid (Byt w4 S0 (.slice (some ⟨b, o, none⟩) 0 0) p.val) := Lib.hid (by
              have e : p.val = [] := List.eq_nil_of_length_eq_zero HNU.out
              rw [e]
              exact Byt.zero _ _ (by omega))
            clear hdv hq3 g1 g2 g3 g4 g5 g6 g7 g8 g9 i1 i2 i3 i4 i5 i6 i7 i8 i9 i10 i11 i12 i13 i14 hz0 hm4 hlt hz02 hz23 hz34 hlo c3' hnal hs1 hs2 hsl hsa hkn hk harr hj hdk0 hqc hn40 h4
            refine (wpIn_wide (n := nn)).1 ?_
            gi_wp2_with (refine ⟨trivial, fun h => absurd h (by decide), ?_⟩; gi_at_call 39; refine (callsIn_wide.2 (bcloneL_any _ _ p.val w4 HCL.out)).mono ?_; rintro r w5 ⟨vv, rfl, hvv, f5⟩; obtain ⟨Av, cv, rfl⟩ := slice_form hvv; rw [HNU.out] at hvv ⊢; obtain ⟨fn, tmps, assign, body, hy, hR⟩ := HY.out pre T (.agg #[.slice Ak nk ck, .slice Av 0 cv], p) w5 (HJ5.out w5 f5) ⟨HOKP.out w5 _ f5 hvv, HMN.out⟩; dsimp only at hy)
            refine ⟨fun h => absurd h (by decide), hR.mono ?_⟩
            rintro e w6 ⟨T', gT, oT, (⟨rfl, hj6⟩ | ⟨rfl, hj6⟩)⟩
            · have HFI := Lib.hid (HFIN.out _ w5 w6 T' rfl f5 gT oT hj6)
              clear hy hR
              gi_wp2
              go_wp2
              refine ⟨by simpa using HFI.out, by simp [intOf]; omega⟩
            · have HJX6 := Lib.hid hj6
              clear hy hR hj6
              gi_wp2
              go_wp2
              refine bodyPost_ret (results_none rfl _ _ _) rfl ?_
              exact ⟨⟨_, rfl⟩, .inr ⟨_, T', trivial, HJX6.out⟩⟩
          · have HCL : Hid (Byt w4 S0 (.slice (some ⟨b, o + q3, none⟩) nu (c - q3)) p.val) := Lib.hid (by
              have := Byt.cut HK4.out.byt (f := q3) (m := nu) (c' := c - q3) (by omega) (by omega) (by omega)
              rw [hdv] at this
              exact this)
            clear hdv hq3 g1 g2 g3 g4 g5 g6 g7 g8 g9 i1 i2 i3 i4 i5 i6 i7 i8 i9 i10 i11 i12 i13 i14 hz0 hm4 hlt hz02 hz23 hz34 hlo c3' hnal hs1 hs2 hsl hsa hkn hk harr hj hdk0 hqc hn40 h4
            refine (wpIn_wide (n := nn)).1 ?_
            gi_wp2_with (refine ⟨trivial, fun h => absurd h (by decide), ?_⟩; gi_at_call 39; refine (callsIn_wide.2 (bcloneL_any _ _ p.val w4 HCL.out)).mono ?_; rintro r w5 ⟨vv, rfl, hvv, f5⟩; obtain ⟨Av, cv, rfl⟩ := slice_form hvv; rw [HNU.out] at hvv ⊢; obtain ⟨fn, tmps, assign, body, hy, hR⟩ := HY.out pre T (.agg #[.slice Ak nk ck, .slice Av nu cv], p) w5 (HJ5.out w5 f5) ⟨HOKP.out w5 _ f5 hvv, HMN.out⟩; dsimp only at hy)
            refine ⟨fun h => absurd h (by decide), hR.mono ?_⟩
            rintro e w6 ⟨T', gT, oT, (⟨rfl, hj6⟩ | ⟨rfl, hj6⟩)⟩
            · have HFI := Lib.hid (HFIN.out _ w5 w6 T' rfl f5 gT oT hj6)
              clear hy hR
              gi_wp2
              go_wp2
              refine ⟨HFI.out, by simp [intOf]; omega⟩
            · have HJX6 := Lib.hid hj6
              clear hy hR hj6
              gi_wp2
              go_wp2
              refine bodyPost_ret (results_none rfl _ _ _) rfl ?_
              exact ⟨⟨_, rfl⟩, .inr ⟨_, T', trivial, HJX6.out⟩⟩
end Go.Proofs.YtiffgjodbcploaaGreat
end
