/-
Table.Entries: what it tells.
-/
import Derived.Test.YtiffgjodbcploaaGreatQPCrashUpto15
import Derived.Test.YtiffgjodbcploaaGreatQPCrashUpto16
import Derived.Test.YtiffgjodbcploaaGreatQPCrashUpto14
section
namespace Go.Proofs.YtiffgjodbcploaaGreat
set_option maxRecDepth 100000
open Go.RowKit
/-- the file that lay there. -/
def fA : Fl := ⟨[97], [98], 1⟩
theorem fA_of (ops room : Int) (keep : List Int) : ofE [fA] = 0 ∧ ofK [fA] ops room keep = ⟨[fA], ops, room, keep, 0, 1, false⟩ := by
  refine ⟨by decide, ?_⟩
  unfold ofK
  have h : sumB [fA] = 1 := by simp [sumB, fA, wrap64]
  rw [h]
  rfl
theorem fA_ready (ops room : Int) (keep : List Int) (bts dn : Int) : readyE ⟨[fA], ops, room, keep, dn, bts, false⟩ [[116]] = 22 := rfl
theorem fT_ready (b : List UInt8) (s ops room : Int) (keep : List Int) (bts dn : Int) : readyE ⟨[fA, ⟨[116], b, s⟩], ops, room, keep, dn, bts, false⟩ [[116]] = 0 := rfl
/-- what a disk has behind a Write of bytes b, and what that answers. -/
def wrK (k : Pk) (b : List UInt8) : Pk := if appendE k [116] b = 0 then syncK (appendK k [116] b) [116] else appendK k [116] b
def wrE (k : Pk) (b : List UInt8) : Int := if appendE k [116] b = 0 then syncE (appendK k [116] b) [116] else appendE k [116] b
theorem wr_out (b : List UInt8) (ops room : Int) (keep : List Int) :
    (((wrE ⟨[fA], ops, room, keep, 0, 1, false⟩ b = 20 ∨ wrE ⟨[fA], ops, room, keep, 0, 1, false⟩ b = 21) ∧ (wrK ⟨[fA], ops, room, keep, 0, 1, false⟩ b).fs = [fA]) ∨
      (wrE ⟨[fA], ops, room, keep, 0, 1, false⟩ b = 20 ∧ (wrK ⟨[fA], ops, room, keep, 0, 1, false⟩ b).fs = [fA, ⟨[116], b, 0⟩]) ∨
      (wrE ⟨[fA], ops, room, keep, 0, 1, false⟩ b = 0 ∧ (wrK ⟨[fA], ops, room, keep, 0, 1, false⟩ b).fs = [fA, ⟨[116], b, b.length⟩])) := by
  have hr : readyE ⟨[fA], ops, room, keep, 0, 1, false⟩ [[116]] = 22 := rfl
  rcases hfl : fullP ⟨[fA], ops, room, keep, 0, 1, false⟩ b.length with _ | _
  · rcases hcr : crashes ⟨[fA], ops, room, keep, 0, 1, false⟩ with _ | _
    · have hE : appendE ⟨[fA], ops, room, keep, 0, 1, false⟩ [116] b = 0 := by
        unfold appendE changeE
        rw [if_pos (.inr hr), hfl, hcr]
        rfl
      have hK : appendK ⟨[fA], ops, room, keep, 0, 1, false⟩ [116] b = ⟨[fA, ⟨[116], b, 0⟩], ops, room, keep, 1, wrap64 (1 + b.length), false⟩ := by
        unfold appendK changeK
        rw [if_pos (.inr hr), hfl, hcr]
        rfl
      have hr2 : readyE ⟨[fA, ⟨[116], b, 0⟩], ops, room, keep, 1, wrap64 (1 + b.length), false⟩ [[116]] = 0 := rfl
      unfold wrE wrK
      rw [if_pos hE, if_pos hE, hK]
      rcases hc2 : crashes ⟨[fA, ⟨[116], b, 0⟩], ops, room, keep, 1, wrap64 (1 + b.length), false⟩ with _ | _
      · refine .inr (.inr ⟨?_, ?_⟩)
        · unfold syncE changeE
          rw [if_pos hr2, hc2]
          rfl
        · unfold syncK changeK updK
          rw [if_pos hr2, hc2]
          rfl
      · refine .inr (.inl ⟨?_, ?_⟩)
        · unfold syncE changeE
          rw [if_pos hr2, hc2]
          rfl
        · unfold syncK changeK
          rw [if_pos hr2, hc2]
          rfl
    · have hE : appendE ⟨[fA], ops, room, keep, 0, 1, false⟩ [116] b = 20 := by
        unfold appendE changeE
        rw [if_pos (.inr hr), hfl, hcr]
        rfl
      have hK : (appendK ⟨[fA], ops, room, keep, 0, 1, false⟩ [116] b).fs = [fA] := by
        unfold appendK changeK
        rw [if_pos (.inr hr), hfl, hcr]
        rfl
      refine .inl ⟨.inl ?_, ?_⟩
      · unfold wrE
        rw [hE, if_neg (by decide)]
      · unfold wrK
        rw [hE, if_neg (by decide), hK]
  · have hE : appendE ⟨[fA], ops, room, keep, 0, 1, false⟩ [116] b = 21 := by
      unfold appendE
      rw [if_pos (.inr hr), hfl]
      rfl
    have hK : (appendK ⟨[fA], ops, room, keep, 0, 1, false⟩ [116] b).fs = [fA] := by
      unfold appendK
      rw [if_pos (.inr hr), hfl]
      rfl
    refine .inl ⟨.inr ?_, ?_⟩
    · unfold wrE
      rw [hE, if_neg (by decide)]
    · unfold wrK
      rw [hE, if_neg (by decide), hK]
/-- behind a Revive. -/
theorem rev_fA {k : Pk} (h : k.fs = [fA]) (ops room : Int) (keep : List Int) : (reviveK k ops room keep).fs = [fA] := by
  unfold reviveK
  simp only [h]
  rfl
theorem rev_sync {k : Pk} {b : List UInt8} (h : k.fs = [fA, ⟨[116], b, b.length⟩]) (ops room : Int) (keep : List Int) : (reviveK k ops room keep).fs = [fA, ⟨[116], b, b.length⟩] := by
  unfold reviveK
  simp only [h]
  have h1 : (⟨[116], b, b.length⟩ : Fl).loose = 0 := by simp [Fl.loose]
  have h0 : fA.loose = 0 := by decide
  simp [revSt, h1, h0]
theorem rev_loose {k : Pk} {b : List UInt8} (h : k.fs = [fA, ⟨[116], b, 0⟩]) (hb : 0 < b.length) (ops room : Int) (keep : List Int) : ∃ m : Nat, m ≤ b.length ∧ (reviveK k ops room keep).fs = [fA, ⟨[116], b.take m, m⟩] := by
  unfold reviveK
  simp only [h]
  have h1 : (⟨[116], b, 0⟩ : Fl).loose = b.length := by simp [Fl.loose]
  have h0 : fA.loose = 0 := by decide
  have hk := kept_range (f := ⟨[116], b, 0⟩) (by simp) k.keep
  rw [h1] at hk
  refine ⟨(keptN ⟨[116], b, 0⟩ k.keep).toNat, by omega, ?_⟩
  have hne : ¬ ((b.length : Int) = 0) := by omega
  simp only [revSt, List.length_cons, List.length_nil, Nat.zero_add, Nat.reduceAdd, List.getElem?_cons_zero, List.getElem?_cons_succ, h0, h1, if_true, if_neg hne, cutP, List.set_cons_succ, List.set_cons_zero, Int.zero_add]
  rw [Int.toNat_of_nonneg hk.1]
/-- what is read behind it. -/
theorem rd_any {k : Pk} {l : List Fl} (h : k.fs = fA :: l) (hd : k.down = false) : readyE k [[97]] = 0 ∧ readD k [97] = [98] := by
  obtain ⟨fs, a, b, c, d, e, f⟩ := k
  simp only at h hd
  subst h hd
  exact ⟨rfl, rfl⟩
theorem rd_none {k : Pk} (h : k.fs = [fA]) (hd : k.down = false) : readyE k [[116]] = 22 := by
  obtain ⟨fs, a, b, c, d, e, f⟩ := k
  simp only at h hd
  subst h hd
  rfl
theorem rd_t {k : Pk} {b : List UInt8} {s : Int} (h : k.fs = [fA, ⟨[116], b, s⟩]) (hd : k.down = false) : readyE k [[116]] = 0 ∧ readD k [116] = b := by
  obtain ⟨fs, a, b', c, d, e, f⟩ := k
  simp only at h hd
  subst h hd
  exact ⟨rfl, rfl⟩
end Go.Proofs.YtiffgjodbcploaaGreat
end
section
namespace Go.Proofs.YtiffgjodbcploaaGreat
set_option maxRecDepth 100000
open Go.RowKit Go.BigFrame Go.Shelf
attribute [local go_sem ↓] Go.wp_at_zero Go.wp_at_succ
attribute [local go_sem] Oper.semAt_some
abbrev zeroE : Value := .agg #[.slice none 0 0, .int .i64 0, .bool false, .slice none 0 0]
set_option maxRecDepth 100000 in
set_option maxHeartbeats 1000000 in
theorem tget_nil (A : Option Addr) (nk ck : Nat) (s : Int) (w : World) : Calls Tryz.prog 21 #[.pointer none, .slice A nk ck, .int .i64 s] w fun r w' => r = .returned (.tuple #[zeroE, .bool false, .int .i64 1]) ∧ fr w w' := by
  refine (callsIn_wide (n := 1)).1 ?_
  refine callsIn_of_wp_marks Tryz.func21 rfl trivial ?_
  simp only [Tryz.ntmps21, List.size_toArray, List.length_cons, List.length_nil, Nat.reduceAdd, Nat.reduceSub, Array.replicate_succ, Array.replicate_zero, List.push_toArray, List.append_toArray, List.nil_append, List.cons_append]
  refine wpIn_wide.2 ?_
  go_wp2
  have p6 := fr.hp (fr.alloc (fr.alloc fr.refl _) _) (heap_alloc_new ((w.alloc (.cells #[.slice A nk ck] 42)).alloc (.cells #[.int .i64 s] 3)) (.cells #[.slice none 0 0, .int .i64 0, .bool false, .slice none 0 0] 48)) (w' := ((((w.alloc (.cells #[.slice A nk ck] 42)).alloc (.cells #[.int .i64 s] 3)).alloc (.cells #[.slice none 0 0, .int .i64 0, .bool false, .slice none 0 0] 48)).alloc (.cells #[.bool false] 4)).alloc (.cells #[.int .i64 1] 30))
  have p7 := ((Boxed.new (((w.alloc (.cells #[.slice A nk ck] 42)).alloc (.cells #[.int .i64 s] 3)).alloc (.cells #[.slice none 0 0, .int .i64 0, .bool false, .slice none 0 0] 48)) 4 (.bool false)).alloc (.cells #[.int .i64 1] 30)).cell
  have p8 := (Boxed.new ((((w.alloc (.cells #[.slice A nk ck] 42)).alloc (.cells #[.int .i64 s] 3)).alloc (.cells #[.slice none 0 0, .int .i64 0, .bool false, .slice none 0 0] 48)).alloc (.cells #[.bool false] 4)) 30 (.int .i64 1)).cell
  simp only [World.size_alloc] at p6 p7 p8
  have q0 := cell_of_row _ _ 0 _ _ _ p6
  have q1 := cell_of_row _ _ 1 _ _ _ p6
  have q2 := cell_of_row _ _ 2 _ _ _ p6
  have q3 := cell_of_row _ _ 3 _ _ _ p6
  exact ⟨.tuple #[zeroE, .bool false, .int .i64 1], by simp [results, Tryz.results21, go_sem, q0, q1, q2, q3, p7, p8], rfl, fr.alloc (fr.alloc (fr.alloc (fr.alloc (fr.alloc fr.refl _) _) _) _) _⟩
set_option maxRecDepth 100000 in
set_option maxHeartbeats 1000000 in
theorem entries_nil (w : World) : Calls Tryz.prog 42 #[.pointer none, .slice none 0 0, .slice none 0 0] w fun r w' => r = .returned (.func (.func 71) #[] #[]) ∧ fr w w' := by
  go_enter Tryz.func42, Tryz.ntmps42
  go_wp2
  go_ret
  exact ⟨rfl, fr.alloc (fr.alloc (fr.alloc fr.refl _) _) _⟩
set_option maxRecDepth 100000 in
set_option maxHeartbeats 1000000 in
theorem nil_tells (nn : Nat) (w : World) : Tells Fence.wide nn Tryz.prog 71 #[] (fun _ : Unit => #[zeroE, .int .i64 1]) (fun pre _ _ _ => pre = []) (fun xs _ => xs.length = 1) (fun _ _ => True) (fun _ => False) (fun _ => False) w := by
  intro l J Jx T0 W hW hT0 hJ hJx hJT hY h0
  refine callsIn_wide.2 ?_
  obtain ⟨fn, tmps, assign, body, hy, hR⟩ := hY [] T0 () W h0 rfl
  dsimp only at hy
  have HR := Lib.hid hR
  clear hW hT0 hJ hJx hJT hY h0 hR
  go_enter Tryz.func71, Tryz.ntmps71
  refine (wpIn_wide (n := nn)).1 ?_
  gi_wp2
  refine ⟨fun h => absurd h (by decide), HR.out.mono ?_⟩
  rintro e w6 ⟨T6, gT, oT, (⟨rfl, hj6⟩ | ⟨rfl, hj6⟩)⟩
  · have HJ6 := Lib.hid hj6
    clear hy hj6 gT oT
    gi_wp2
    go_wp2
    go_end0
    exact ⟨⟨_, rfl⟩, .inl ⟨[()], T6, rfl, HJ6.out⟩⟩
  · have HJ6 := Lib.hid hj6
    clear hy hj6 gT oT
    gi_wp2
    go_wp2
    go_end0
    exact ⟨⟨_, rfl⟩, .inr ⟨[()], T6, trivial, HJ6.out⟩⟩
abbrev nFrame (z Bx : Nat) : Array Value :=
  #[.pointer none, .slice none 0 0, .slice none 0 0, undef, undef, undef, .pointer (some ⟨z, 0, none⟩), .pointer (some ⟨z + 1, 0, none⟩), .pointer (some ⟨z + 1 + 1, 0, none⟩), .pointer (some ⟨Bx, 0, none⟩), .int .i64 1, .pointer none, .slice none 0 0, .slice none 0 0, .func (.func 71) #[] #[], zeroE, .int .i64 1, undef, undef, undef, undef, undef, undef, undef, undef, undef]
abbrev T2 (R : Nat) (i : Nat) : Prop := i = R ∨ i = R + 1
set_option maxRecDepth 100000 in
set_option maxHeartbeats 4000000 in
theorem tall_nil (w : World) : Calls Tryz.prog 15 #[.pointer none, .slice none 0 0, .slice none 0 0] w fun r w' => r = .returned (.tuple #[.slice none 0 0, .int .i64 1]) ∧ fr w w' := by
  have p6 := ((Boxed.new w 22 (.slice none 0 0)).alloc (.cells #[.int .i64 0] 30)).alloc (.cells #[.slice none 0 0] 22)
  have p7 := (Boxed.new (w.alloc (.cells #[.slice none 0 0] 22)) 30 (.int .i64 0)).alloc (.cells #[.slice none 0 0] 22)
  have p8 := Boxed.new ((w.alloc (.cells #[.slice none 0 0] 22)).alloc (.cells #[.int .i64 0] 30)) 22 (.slice none 0 0)
  simp only [World.size_alloc] at p7 p8
  have fA : fr w (((w.alloc (.cells #[.slice none 0 0] 22)).alloc (.cells #[.int .i64 0] 30)).alloc (.cells #[.slice none 0 0] 22)) := fr.alloc (fr.alloc (fr.alloc fr.refl _) _) _
  refine (callsIn_wide (n := 1)).1 ?_
  refine callsIn_of_wp_marks Tryz.func15 rfl trivial ?_
  simp only [Tryz.ntmps15, List.size_toArray, List.length_cons, List.length_nil, Nat.reduceAdd, Nat.reduceSub, Array.replicate_succ, Array.replicate_zero, List.push_toArray, List.append_toArray, List.nil_append, List.cons_append]
  refine wpIn_wide.2 ?_
  go_wp2_with (go_at_call 42; refine (entries_nil _).mono ?_; rintro r w1 ⟨rfl, f1⟩)
  have P6 := Lib.hid (boxedFr p6 f1)
  have P7 := Lib.hid (boxedFr p7 f1)
  have P8 := Lib.hid (boxedFr p8 f1)
  have HF1 := Lib.hid (fr.step fA f1)
  have hz3 := (boxedFr p8 f1).lt
  clear p6 p7 p8 fA f1
  refine (wpIn_wide (n := 1)).1 ?_
  refine range_tells rfl (by omega) (gf := 71) (lb := #[]) rfl trivial (enters_of Tryz.func71 (by kernel_rfl) rfl) (nil_tells 0 w1)
    (fun i h => h.elim) (fun i h => h.elim) (fun pre T T' x A hT h => h) (fun _ _ _ h _ => h) (fun _ _ _ h _ => h) (fun _ => rfl)
    (fun pre T W => pre = [] ∧ T = T2 w.heap.size ∧ fr w1 W) (fun c pre T W => c = .ret ∧ T = T2 w.heap.size ∧ Only (T2 w.heap.size) w1 W ∧ Boxed W w.heap.size 22 (.slice none 0 0) ∧ Boxed W (w.heap.size + 1) 30 (.int .i64 1)) ?still ?stillX (T2 w.heap.size) (fun i hi => ⟨by rcases hi with rfl | rfl <;> omega, fun h => h⟩) ⟨rfl, rfl, fr.refl⟩
    (fun pre T x a W => ∃ Bx, a = { tmps := nFrame w.heap.size Bx, defers := [] }) (fun _ _ _ _ _ _ h _ => h) ?assign ?body ?done ?stop ?lt ?ltx
  case assign =>
    rintro l pre T x W K hi' hok hK
    obtain ⟨h1, h2, h3⟩ := hi'
    gi_wp2
    exact hK _ _ (fr.alloc fr.refl _) ⟨h1, h2, fr.alloc h3 _⟩ ⟨_, rfl⟩
  case still =>
    rintro pre T A B ⟨h1, h2, h3⟩ hi
    exact ⟨h1, h2, hi.os.trans h3.os, hi.tape.trans h3.tape, hi.output.trans h3.output, Nat.le_trans h3.size hi.size, fun i hlt => (hi.block i (Nat.lt_of_lt_of_le hlt h3.size) fun hk => by rcases hk with hk | hk; exact hk; omega).trans (h3.block i hlt)⟩
  case stillX =>
    rintro c pre T A B ⟨h1, h2, h3, a1, a2⟩ hi
    exact ⟨h1, h2, ⟨hi.os.trans h3.os, hi.tape.trans h3.tape, hi.output.trans h3.output, Nat.le_trans h3.size hi.size, fun i hlt hn => (hi.block i (Nat.lt_of_lt_of_le hlt h3.size) fun hk => by rcases hk with hk | hk; exact hk; omega).trans (h3.block i hlt hn)⟩, hi.cells (fun h => h) a1 rfl, hi.cells (fun h => h) a2 rfl⟩
  case lt =>
    rintro pre T W i ⟨h1, rfl, h3⟩ hT
    have := h3.size
    rcases hT with rfl | rfl <;> omega
  case ltx =>
    rintro c pre T W i ⟨h1, rfl, h3, _⟩ hT
    have := h3.size
    rcases hT with rfl | rfl <;> omega
  case body =>
    rintro l pre T x a' sA W hl hlA hrec hTs hsA ⟨rfl, rfl, h3⟩ ⟨Bx, rfl⟩
    have Q6 := boxedFr P6.out h3
    have Q7 := boxedFr P7.out h3
    have c6 := Q6.cell
    have z6 := Q6.frozen
    have c7 := Q7.cell
    have z7 := Q7.frozen
    have c8 := (boxedFr P8.out h3).cell
    have HQ6 := Lib.hid Q6
    have HQ7 := Lib.hid Q7
    have HH3 := Lib.hid h3
    clear hrec hTs hl hlA Q6 Q7 h3
    gi_wp2
    have o2 : Only (T2 w.heap.size) W ((W.setCell ⟨w.heap.size, 0, none⟩ (.slice none 0 0)).setCell ⟨w.heap.size + 1, 0, none⟩ (.int .i64 1)) := Only.setCell (S := T2 w.heap.size) (Only.setCell (S := T2 w.heap.size) (Only.refl _ _) (p := ⟨w.heap.size, 0, none⟩) (.inl rfl) _) (p := ⟨w.heap.size + 1, 0, none⟩) (.inr rfl) _
    exact ⟨T2 _, fun i h => .inl h, Only.mono o2 fun i h => .inl h, rfl, rfl, Only.trans (Only.of_below HH3.out) o2, (HQ6.out.set _).other (by omega) _, (HQ7.out.other (by omega) _).set _⟩
  case done =>
    rintro D' xs T W hD' hTs hxs ⟨rfl, rfl, h3⟩ hK
    simp at hxs
  case stop =>
    rintro D' c xs T W hD' hTs _ ⟨rfl, rfl, h3, a1, a2⟩ hK
    have o4 : Only (fun i => i = D') W (W.putObj D' (.deferred none)) := ⟨rfl, rfl, rfl, by simp, fun i _ hi => World.putObj_heap_other hi⟩
    have s0 := (boxedOnly a1 o4 (by omega)).cell
    have s1 := (boxedOnly a2 o4 (by omega)).cell
    gi_wp2
    refine ⟨by simp, .inl ⟨_, _, rfl, run_takeDeferred hK, ?_⟩⟩
    have h0 := HF1.out
    have o5 := Only.trans (Only.mono h3 fun i h => (Or.inl h : T2 w.heap.size i ∨ i = D')) (Only.mono o4 fun i h => Or.inr h)
    exact ⟨.tuple #[.slice none 0 0, .int .i64 1], by simp [results, Tryz.results15, go_sem, s0, s1], rfl, o5.os.trans h0.os, o5.tape.trans h0.tape, o5.output.trans h0.output, Nat.le_trans h0.size o5.size, fun i hi => (o5.block i (by have := h0.size; omega) (by rintro ((h | h) | h) <;> omega)).trans (h0.block i hi)⟩
end Go.Proofs.YtiffgjodbcploaaGreat
end
section
namespace Go.Proofs.YtiffgjodbcploaaGreat
set_option maxRecDepth 100000
open Go.RowKit Go.BigFrame Go.Shelf
attribute [local go_sem ↓] Go.wp_at_zero Go.wp_at_succ
theorem fr.putE {W X : World} {pb j : Nat} {u : Value} (h : fr W X) (hp : W.heap.size ≤ pb) : fr W (X.setCell ⟨pb, j, none⟩ u) := RowKit.Below.setCell h hp u
theorem fr.stepR {W X Y : World} (h : fr W X) (g : fr X Y) : fr W Y := fr.step h g
theorem Only.stepE {S : Nat → Prop} {a b c : World} (h : Only S a b) (g : fr b c) : Only S a c := h.trans (Only.of_below g)
abbrev T12 (z i : Nat) : Prop := i = z + 1 ∨ i = z + 1 + 1
theorem Only.put1 {a b : World} {z j : Nat} {u : Value} (h : Only (T12 z) a b) : Only (T12 z) a (b.setCell ⟨z + 1, j, none⟩ u) := Only.setCell (S := T12 z) (p := ⟨z + 1, j, none⟩) h (.inl rfl) u
theorem Only.put2 {a b : World} {z j : Nat} {u : Value} (h : Only (T12 z) a b) : Only (T12 z) a (b.setCell ⟨z + 1 + 1, j, none⟩ u) := Only.setCell (S := T12 z) (p := ⟨z + 1 + 1, j, none⟩) h (.inr rfl) u
theorem BytL.stepE {wa wc : World} {lo z : Nat} {v : Value} {bs : List UInt8} (h : BytL wa lo v bs) (ho : Only (T12 z) wa wc) (hle : z + 3 ≤ lo) : BytL wc (z + 3) v bs :=
  Byt.mono (S := fun i => lo ≤ i ∧ Loose wa i) (Byt.only (T := fun i => lo ≤ i ∧ Loose wa i) h ho (fun i _ h e => by have := h.1; rcases e with e | e <;> omega)) fun i hi => ⟨by have := hi.1; omega, hi.2.only ho (by have := hi.1; rintro (e | e) <;> omega)⟩
/-- what Entries answers. -/
abbrev entF (z : Nat) : Value := .func (.func 72) #[] #[.pointer (some ⟨z, 0, none⟩), .pointer (some ⟨z + 1, 0, none⟩), .pointer (some ⟨z + 1 + 1, 0, none⟩)]
theorem leafE {w w1 w2 wc : World} {Tb nl nh cl ch : Nat} {Al Ah : Option Addr} {lo hi : List UInt8} {L1 L2 : Nat} (h1 : BytL w1 L1 (.slice Al nl cl) lo) (h2 : BytL w2 L2 (.slice Ah nh ch) hi) (o1 : Only (T12 w.heap.size) w1 wc) (o2 : Only (T12 w.heap.size) w2 wc)
    (l1 : w.heap.size + 3 ≤ L1) (l2 : w.heap.size + 3 ≤ L2) (p0 : Boxed wc w.heap.size 37 (.pointer (some ⟨Tb, 0, none⟩))) (p1 : Boxed wc (w.heap.size + 1) 42 (.slice Al nl cl)) (p2 : Boxed wc (w.heap.size + 1 + 1) 42 (.slice Ah nh ch)) (hf : fr w wc) :
    Boxed wc w.heap.size 37 (.pointer (some ⟨Tb, 0, none⟩)) ∧ (∃ A n c A' n' c', Boxed wc (w.heap.size + 1) 42 (.slice A n c) ∧ Boxed wc (w.heap.size + 1 + 1) 42 (.slice A' n' c') ∧ BytL wc (w.heap.size + 3) (.slice A n c) lo ∧ BytL wc (w.heap.size + 3) (.slice A' n' c') hi) ∧ fr w wc :=
  ⟨p0, ⟨_, _, _, _, _, _, p1, p2, h1.stepE o1 l1, h2.stepE o2 l2⟩, hf⟩
set_option maxRecDepth 100000 in
set_option maxHeartbeats 1000000 in
theorem entries_some (Tb nl cl nh ch : Nat) (Al Ah : Option Addr) (S1 S2 : Nat → Prop) (lo hi : List UInt8) (w : World) (hl : Byt w S1 (.slice Al nl cl) lo) (hh : Byt w S2 (.slice Ah nh ch) hi) :
    Calls Tryz.prog 42 #[.pointer (some ⟨Tb, 0, none⟩), .slice Al nl cl, .slice Ah nh ch] w fun r w' => r = .returned (entF w.heap.size) ∧ Boxed w' w.heap.size 37 (.pointer (some ⟨Tb, 0, none⟩)) ∧
      (∃ A n c A' n' c', Boxed w' (w.heap.size + 1) 42 (.slice A n c) ∧ Boxed w' (w.heap.size + 1 + 1) 42 (.slice A' n' c') ∧ BytL w' (w.heap.size + 3) (.slice A n c) lo ∧ BytL w' (w.heap.size + 3) (.slice A' n' c') hi) ∧ fr w w' := by
  have HC0 : Hid (∀ wx, fr w wx → Calls Tryz.prog 39 #[.slice Al nl cl] wx fun r w' => ∃ A c, r = .returned (.slice A lo.length c) ∧ BytL w' wx.heap.size (.slice A lo.length c) lo ∧ fr wx w') := Lib.hid fun wx hx => by
    refine (bcloneL_any _ _ lo wx (hl.below hx)).mono ?_
    rintro r w' ⟨v, rfl, h, f⟩
    obtain ⟨A, c, rfl⟩ := slice_form h
    exact ⟨A, c, rfl, h, f⟩
  have HC1 : Hid (∀ wx, fr w wx → Calls Tryz.prog 39 #[.slice Ah nh ch] wx fun r w' => ∃ A c, r = .returned (.slice A hi.length c) ∧ BytL w' wx.heap.size (.slice A hi.length c) hi ∧ fr wx w') := Lib.hid fun wx hx => by
    refine (bcloneL_any _ _ hi wx (hh.below hx)).mono ?_
    rintro r w' ⟨v, rfl, h, f⟩
    obtain ⟨A, c, rfl⟩ := slice_form h
    exact ⟨A, c, rfl, h, f⟩
  obtain ⟨n1, hn1⟩ : ∃ n, lo.length = n := ⟨_, rfl⟩
  obtain ⟨n2, hn2⟩ : ∃ n, hi.length = n := ⟨_, rfl⟩
  rw [hn1] at HC0
  rw [hn2] at HC1
  obtain ⟨wA, hwA⟩ : ∃ x, ((w.alloc (.cells #[.pointer (some ⟨Tb, 0, none⟩)] 37)).alloc (.cells #[.slice Al nl cl] 42)).alloc (.cells #[.slice Ah nh ch] 42) = x := ⟨_, rfl⟩
  have b1 := Boxed.new (w.alloc (.cells #[.pointer (some ⟨Tb, 0, none⟩)] 37)) 42 (.slice Al nl cl)
  have b2 := Boxed.new ((w.alloc (.cells #[.pointer (some ⟨Tb, 0, none⟩)] 37)).alloc (.cells #[.slice Al nl cl] 42)) 42 (.slice Ah nh ch)
  simp only [World.size_alloc] at b1 b2
  have P0 : Boxed wA w.heap.size 37 (.pointer (some ⟨Tb, 0, none⟩)) := by rw [← hwA]; exact ((Boxed.new w _ _).alloc _).alloc _
  have P1 : Boxed wA (w.heap.size + 1) 42 (.slice Al nl cl) := by rw [← hwA]; exact b1.alloc _
  have P2 : Boxed wA (w.heap.size + 1 + 1) 42 (.slice Ah nh ch) := by rw [← hwA]; exact b2
  have FA : fr w wA := by rw [← hwA]; exact fr.alloc (fr.alloc (fr.alloc fr.refl _) _) _
  have FD : fr w wA.drew := fr.drew FA
  have ZA : wA.drew.heap.size = w.heap.size + 3 := by rw [← hwA]; simp
  have Q0 : Boxed wA.drew w.heap.size 37 (.pointer (some ⟨Tb, 0, none⟩)) := P0
  have Q1 : Boxed wA.drew (w.heap.size + 1) 42 (.slice Al nl cl) := P1
  have Q2 : Boxed wA.drew (w.heap.size + 1 + 1) 42 (.slice Ah nh ch) := P2
  have c1 := P1.cell
  have c2 := P2.cell
  have c0 := P0.cell
  have z1 := P1.frozen
  have z2 := P2.frozen
  have d1 := Q1.cell
  have d2 := Q2.cell
  have y1 := Q1.frozen
  have y2 := Q2.frozen
  have L1 : w.heap.size ≤ w.heap.size + 1 := by omega
  have L2 : w.heap.size ≤ w.heap.size + 1 + 1 := by omega
  have HWA := Lib.hid hwA
  have HN : Hid (¬ w.heap.size + 1 = w.heap.size + 1 + 1 ∧ ¬ w.heap.size + 1 + 1 = w.heap.size + 1 ∧ ¬ w.heap.size = w.heap.size + 1 ∧ ¬ w.heap.size = w.heap.size + 1 + 1) := Lib.hid (by omega)
  have HQ0 := Lib.hid Q0
  have HQ1 := Lib.hid Q1
  have HQ2 := Lib.hid Q2
  have HZA := Lib.hid ZA
  have HFD := Lib.hid FD
  have HL := Lib.hid (And.intro L1 L2)
  clear hl hh hn1 hn2 b1 b2 hwA P0 P1 P2 FA FD ZA Q0 Q1 Q2 L1 L2
  go_enter Tryz.func42, Tryz.ntmps42
  go_upto_region 3 with (rw [HWA.out])
  go_region_with (first
    | (go_at_call 39; (with_reducible refine Calls.mono (HC0.out _ ?_) ?_); (focus (first | with_reducible exact HFD.out | with_reducible exact f2 | (with_reducible refine fr.putE ?_ HL.out.2; with_reducible exact f2))); rintro r w1 ⟨A1, k1, rfl, hb1, g1⟩; have s1 := Below.size g1; (first | (with_reducible have q0 := boxedFr HQ0.out g1; with_reducible have q1 := boxedFr HQ1.out g1; with_reducible have q2 := boxedFr HQ2.out g1; with_reducible have f1 := fr.stepR HFD.out g1) | (with_reducible have q0 := boxedFr q0 g1; with_reducible have q1 := boxedFr q1 g1; with_reducible have q2 := boxedFr q2 g1; with_reducible have f1 := fr.stepR f2 g1) | (with_reducible have f1 := fr.stepR (fr.putE f2 HL.out.2) g1; with_reducible have q0 := boxedFr (q0.other HN.out.2.2.2 _) g1; with_reducible have q1 := boxedFr (q1.other HN.out.1 _) g1; with_reducible have q2 := boxedFr (q2.set _) g1)); have e1 := q1.cell; have e2 := q2.cell; have u1 := q1.frozen; have u2 := q2.frozen)
    | (go_at_call 39; (with_reducible refine Calls.mono (HC1.out _ ?_) ?_); (focus (first | with_reducible exact HFD.out | with_reducible exact f1 | (with_reducible refine fr.putE ?_ HL.out.1; with_reducible exact f1))); rintro r w2 ⟨A2, k2, rfl, hb2, g2⟩; have s2 := Below.size g2; (first | (with_reducible have q0 := boxedFr HQ0.out g2; with_reducible have q1 := boxedFr HQ1.out g2; with_reducible have q2 := boxedFr HQ2.out g2; with_reducible have f2 := fr.stepR HFD.out g2) | (with_reducible have q0 := boxedFr q0 g2; with_reducible have q1 := boxedFr q1 g2; with_reducible have q2 := boxedFr q2 g2; with_reducible have f2 := fr.stepR f1 g2) | (with_reducible have f2 := fr.stepR (fr.putE f1 HL.out.1) g2; with_reducible have q0 := boxedFr (q0.other HN.out.2.2.1 _) g2; with_reducible have q2 := boxedFr (q2.other HN.out.2.1 _) g2; with_reducible have q1 := boxedFr (q1.set _) g2)); have e1 := q1.cell; have e2 := q2.cell; have u1 := q1.frozen; have u2 := q2.frozen))
  all_goals
    clear c0 c1 c2 z1 z2 d1 d2 y1 y2
    go_wp2
    refine bodyPost_ret (v := entF w.heap.size) (by simp [results, Tryz.results42, go_sem]) rfl ?_
    refine ⟨rfl, leafE hb1 hb2 ?_ ?_ ?_ ?_ ?_ ?_ ?_ ?_⟩
    · (repeat (first | with_reducible exact Only.refl _ _ | with_reducible refine Only.put1 ?_ | with_reducible refine Only.put2 ?_ | with_reducible refine Only.stepE ?_ g1 | with_reducible refine Only.stepE ?_ g2))
    · (repeat (first | with_reducible exact Only.refl _ _ | with_reducible refine Only.put1 ?_ | with_reducible refine Only.put2 ?_ | with_reducible refine Only.stepE ?_ g1 | with_reducible refine Only.stepE ?_ g2))
    · have := HZA.out
      (try simp only [World.size_setCell] at s1 s2)
      omega
    · have := HZA.out
      (try simp only [World.size_setCell] at s1 s2)
      omega
    · first
        | with_reducible exact (q0.other HN.out.2.2.1 _).other HN.out.2.2.2 _
        | with_reducible exact (q0.other HN.out.2.2.2 _).other HN.out.2.2.1 _
        | with_reducible exact q0.other HN.out.2.2.1 _
        | with_reducible exact q0.other HN.out.2.2.2 _
    · first
        | with_reducible exact (q1.set _).other HN.out.1 _
        | with_reducible exact (q1.other HN.out.1 _).set _
        | with_reducible exact q1.set _
        | with_reducible exact q1.other HN.out.1 _
    · first
        | with_reducible exact (q2.set _).other HN.out.2.1 _
        | with_reducible exact (q2.other HN.out.2.1 _).set _
        | with_reducible exact q2.set _
        | with_reducible exact q2.other HN.out.2.1 _
    · first
        | with_reducible exact fr.putE (fr.putE f1 HL.out.1) HL.out.2
        | with_reducible exact fr.putE (fr.putE f1 HL.out.2) HL.out.1
        | with_reducible exact fr.putE (fr.putE f2 HL.out.1) HL.out.2
        | with_reducible exact fr.putE (fr.putE f2 HL.out.2) HL.out.1
        | with_reducible exact fr.putE f1 HL.out.1
        | with_reducible exact fr.putE f2 HL.out.2
end Go.Proofs.YtiffgjodbcploaaGreat
end
section
namespace Go.Proofs.YtiffgjodbcploaaGreat
set_option maxRecDepth 100000
open Go.RowKit Go.BigFrame Go.Shelf
attribute [local go_sem ↓] Go.wp_at_zero Go.wp_at_succ
attribute [local go_sem] Oper.semAt_some
theorem round_in {F : Fence} (hd : F.depth = none) (l' : Nat) {m m' : Nat} {P : Program} {l : Nat} {f : FuncId} {tmps : Array Value} {assign body : Code} {w : World} {R : Ending → World → Prop}
    (h : RoundIn F m P l f tmps assign body w R) : RoundIn (F.inRound l') m' P l f tmps assign body w R := ⟨h.1, fun c cs _ => h.2 c cs (fun d e => by rw [hd] at e; cases e)⟩
/-- is an entry below the range's end? -/
def below (hi : List UInt8) (e : Ent) : Bool := decide (hi = []) || decide (cmpB e.key hi < 0)
def rangeE (lo hi : List UInt8) (es : List Ent) : List Ent := (fromE lo es).filter (below hi)
theorem range_here {lo hi : List UInt8} {es pre rest : List Ent} {e : Ent} (h : pre ++ e :: rest = fromE lo es) (hp : ∀ x ∈ pre, below hi x = true) (he : below hi e = true) : ∃ rest', pre ++ e :: rest' = rangeE lo hi es := by
  refine ⟨rest.filter (below hi), ?_⟩
  unfold rangeE
  rw [← h, List.filter_append, List.filter_cons_of_pos he, List.filter_eq_self.2 hp]
theorem range_stop {lo hi : List UInt8} {es pre rest : List Ent} {e : Ent} (h : pre ++ e :: rest = fromE lo es) (hpw : es.Pairwise before) (hp : ∀ x ∈ pre, below hi x = true) (he : below hi e = false) : pre = rangeE lo hi es := by
  unfold rangeE
  have hpf : (fromE lo es).Pairwise before := List.Pairwise.sublist List.filter_sublist hpw
  rw [← h] at hpf ⊢
  have h2 := (List.pairwise_append.1 hpf).2.1
  rw [List.filter_append, List.filter_eq_self.2 hp]
  have h3 : (e :: rest).filter (below hi) = [] := by
    refine List.filter_eq_nil_iff.2 fun a ha => ?_
    unfold below at he ⊢
    simp only [Bool.or_eq_true, decide_eq_true_eq, Bool.or_eq_false_iff, decide_eq_false_iff_not] at he ⊢
    rcases List.mem_cons.1 ha with rfl | ha
    · exact fun h => h.elim he.1 he.2
    · have h4 := (List.pairwise_cons.1 h2).1 a ha
      rintro (h5 | h5)
      · exact he.1 h5
      · unfold before cmpE at h4
        split at h4
        · rename_i h0
          rw [← cmpB_eq.1 h0] at h5
          exact he.2 h5
        · exact he.2 (cmpB_trans h4 h5)
  rw [h3, List.append_nil]
theorem range_all {lo hi : List UInt8} {es pre : List Ent} (h : pre = fromE lo es) (hp : ∀ x ∈ pre, below hi x = true) : pre = rangeE lo hi es := by
  unfold rangeE
  rw [← h, List.filter_eq_self.2 hp]
theorem range_len {lo hi : List UInt8} {es : List Ent} : (rangeE lo hi es).length ≤ es.length := Nat.le_trans (List.length_filter_le _ _) (List.length_filter_le _ _)
/-- what Entries's function stands on. -/
structure EntK (w : World) (z Tb N nl cl nh ch : Nat) (Al Ah : Option Addr) (S0 S1 S2 : Nat → Prop) (lo hi : List UInt8) (es : List Ent) (ps : List (List Ent)) : Prop where
  b0 : Boxed w z 37 (.pointer (some ⟨Tb, 0, none⟩))
  b1 : Boxed w (z + 1) 42 (.slice Al nl cl)
  b2 : Boxed w (z + 1 + 1) 42 (.slice Ah nh ch)
  lo_ : Byt w S1 (.slice Al nl cl) lo
  hi_ : Byt w S2 (.slice Ah nh ch) hi
  tab : TabS w S0 Tb N es ps
abbrev entD (z : Nat) (S0 S1 S2 : Nat → Prop) (i : Nat) : Prop := i = z ∨ i = z + 1 ∨ i = z + 1 + 1 ∨ S0 i ∨ S1 i ∨ S2 i
section
variable {w w' : World} {z Tb N nl cl nh ch : Nat} {Al Ah : Option Addr} {S0 S1 S2 : Nat → Prop} {lo hi : List UInt8} {es : List Ent} {ps : List (List Ent)}
theorem EntK.only {T : Nat → Prop} (h : EntK w z Tb N nl cl nh ch Al Ah S0 S1 S2 lo hi es ps) (ho : Only T w w') (hT : ∀ i, T i → ¬ entD z S0 S1 S2 i) : EntK w' z Tb N nl cl nh ch Al Ah S0 S1 S2 lo hi es ps :=
  ⟨boxedOnly h.b0 ho fun t => hT _ t (.inl rfl), boxedOnly h.b1 ho fun t => hT _ t (.inr (.inl rfl)), boxedOnly h.b2 ho fun t => hT _ t (.inr (.inr (.inl rfl))), h.lo_.only ho fun i _ hi t => hT i t (.inr (.inr (.inr (.inr (.inl hi))))),
   h.hi_.only ho fun i _ hi t => hT i t (.inr (.inr (.inr (.inr (.inr hi))))), h.tab.only ho fun i hi t => hT i t (.inr (.inr (.inr (.inl hi))))⟩
theorem EntK.fr (h : EntK w z Tb N nl cl nh ch Al Ah S0 S1 S2 lo hi es ps) (hf : fr w w') : EntK w' z Tb N nl cl nh ch Al Ah S0 S1 S2 lo hi es ps := h.only (T := fun _ => False) (Only.of_below hf) fun _ h => h.elim
end
/-- between rounds: the box of yield and the range's end. -/
def EntY (yb z l nh ch : Nat) (Ah : Option Addr) (S2 : Nat → Prop) (hi : List UInt8) (W : World) : Prop :=
  Boxed W yb 128 (.func (.yield l) #[] #[]) ∧ Boxed W (z + 1 + 1) 42 (.slice Ah nh ch) ∧ Byt W S2 (.slice Ah nh ch) hi
theorem EntY.only {yb z l nh ch : Nat} {Ah : Option Addr} {S2 T : Nat → Prop} {hi : List UInt8} {W W' : World} (h : EntY yb z l nh ch Ah S2 hi W) (ho : Only T W W') (hT : ∀ i, T i → ¬ (i = yb ∨ i = z + 1 + 1 ∨ S2 i)) : EntY yb z l nh ch Ah S2 hi W' :=
  ⟨boxedOnly h.1 ho fun t => hT _ t (.inl rfl), boxedOnly h.2.1 ho fun t => hT _ t (.inr (.inl rfl)), h.2.2.only ho fun i _ hi t => hT i t (.inr (.inr hi))⟩
theorem EntY.idle {yb z l nh ch B : Nat} {Ah : Option Addr} {S2 : Nat → Prop} {hi : List UInt8} {W W' : World} (h : EntY yb z l nh ch Ah S2 hi W) (hb : Idle (fun _ => False) B W W') (hS : ∀ i, S2 i → i < B) : EntY yb z l nh ch Ah S2 hi W' :=
  ⟨hb.cells (fun h => h) h.1 rfl, hb.cells (fun h => h) h.2.1 rfl, h.2.2.only hb fun i _ hi hk => by have := hS i hi; rcases hk with hk | hk; exact hk; omega⟩
def EntI (J : List (Value × Ent) → (Nat → Prop) → World → Prop) (yb z l nh ch : Nat) (Ah : Option Addr) (S2 : Nat → Prop) (hi : List UInt8) (pre : List (Value × Ent)) (T : Nat → Prop) (W : World) : Prop :=
  J pre T W ∧ (∀ e ∈ pre.map Prod.snd, below hi e = true) ∧ EntY yb z l nh ch Ah S2 hi W
def EntX (J Jx : List (Value × Ent) → (Nat → Prop) → World → Prop) (fs : List Ent) (c : Code) (_ : List (Value × Ent)) (T : Nat → Prop) (W : World) : Prop :=
  c = .ret ∧ (∀ i, T i → i < W.heap.size) ∧ ((∃ pre T', J pre T' W ∧ pre.map Prod.snd = fs) ∨ ∃ pre T', Jx pre T' W)
abbrev eFrame (Tb z yb l nl cl : Nat) (Al : Option Addr) (Bx : Nat) (x : Value) : Array Value :=
  #[.func (.yield l) #[] #[], .pointer (some ⟨z, 0, none⟩), .pointer (some ⟨z + 1, 0, none⟩), .pointer (some ⟨z + 1 + 1, 0, none⟩), .pointer (some ⟨yb, 0, none⟩), .pointer (some ⟨Bx, 0, none⟩), .int .i64 0, .pointer (some ⟨Tb, 0, none⟩), .slice Al nl cl,
    .func (.func 76) #[] #[.pointer (some ⟨yb + 1, 0, none⟩), .pointer (some ⟨yb + 1 + 1, 0, none⟩)], x, .int .i64 0, undef, undef, undef, undef, undef, undef, undef, undef, undef, undef, undef, undef, undef, undef, undef, undef, undef, undef, undef, undef, undef]
set_option maxRecDepth 100000 in
set_option maxHeartbeats 1000000 in
theorem entries_tells (nn : Nat) (w : World) (z Tb N nl cl nh ch : Nat) (Al Ah : Option Addr) (S0 S1 S2 : Nat → Prop) (lo hi : List UInt8) (es : List Ent) (ps : List (List Ent)) (hK : EntK w z Tb N nl cl nh ch Al Ah S0 S1 S2 lo hi es ps) (hpo : PartsOk es ps) (hN : es.length = N) (hN0 : 0 < N) (hN2 : N ≤ 16777216) (hB2 : bytesE es ≤ 16777216) (hord : orderedE es = true) (hS : ∀ i, S0 i ∨ S1 i ∨ S2 i → i < w.heap.size) :
    Tells Fence.wide nn Tryz.prog 72 #[.pointer (some ⟨z, 0, none⟩), .pointer (some ⟨z + 1, 0, none⟩), .pointer (some ⟨z + 1 + 1, 0, none⟩)] (fun x : Value × Ent => #[x.1, .int .i64 0]) (fun pre T x A => OkF w.heap.size (rangeE lo hi es) pre T x A)
      (fun xs _ => xs.map Prod.snd = rangeE lo hi es) (fun _ _ => True) (entD z S0 S1 S2) (fun _ => False) w := by
  intro l J Jx T0 W hW hT0 hJ hJx hJT hY h0
  have hKW := hK.fr hW
  obtain ⟨wA, hwA⟩ : ∃ x, W.alloc (.cells #[.func (.yield l) #[] #[]] 128) = x := ⟨_, rfl⟩
  have fA : fr W wA := by rw [← hwA]; exact fr.alloc fr.refl _
  have zA : wA.heap.size = W.heap.size + 1 := by rw [← hwA]; simp
  have pA : Boxed wA W.heap.size 128 (.func (.yield l) #[] #[]) := by rw [← hwA]; exact Boxed.new W _ _
  have hKA := hKW.fr fA
  have c0 := hKA.b0.cell
  have c1 := hKA.b1.cell
  have HJ := Lib.hid hJ
  have HJX := Lib.hid hJx
  have HJT := Lib.hid hJT
  have HY := Lib.hid hY
  have HT0 := Lib.hid hT0
  have HPO := Lib.hid hpo
  have HN := Lib.hid hN
  have HORD := Lib.hid hord
  have HWZ := Lib.hid hW.size
  have HS := Lib.hid (show ∀ i, entD z S0 S1 S2 i → i < W.heap.size by
    have h1 := hKW.b0.lt
    have h2 := hKW.b1.lt
    have h3 := hKW.b2.lt
    have h4 := hW.size
    rintro i (rfl | rfl | rfl | h | h | h)
    · exact h1
    · exact h2
    · exact h3
    · have := hS i (.inl h); omega
    · have := hS i (.inr (.inl h)); omega
    · have := hS i (.inr (.inr h)); omega)
  have HJ0 := Lib.hid h0
  have HKA := Lib.hid hKA
  have HWA := Lib.hid hwA
  have HFA := Lib.hid fA
  have HPA := Lib.hid pA
  have HZA := Lib.hid zA
  clear hK hKW hKA hpo hN hord hS hW hT0 hJ hJx hJT hY h0 hwA fA pA zA
  refine callsIn_of_wp_marks Tryz.func72 rfl trivial ?_
  simp only [Tryz.ntmps72, List.size_toArray, List.length_cons, List.length_nil, Nat.reduceAdd, Nat.reduceSub, Array.replicate_succ, Array.replicate_zero, List.push_toArray, List.append_toArray, List.nil_append, List.cons_append]
  refine wpIn_wide.2 ?_
  go_wp2_with (first | rw [HWA.out] | (go_at_call 47; refine (tfrom_any Tb nl cl Al wA).mono ?_; rintro r w1 ⟨rfl, b1, b2, f1, hz2⟩))
  rw [HZA.out] at b1 b2 hz2 ⊢
  have HTI := Lib.hid (from_tells (nn + 1) w1 (W.heap.size + 1) Tb N nl cl Al S0 S1 lo es ps ⟨b1, b2, HKA.out.lo_.below f1, HKA.out.tab.fr f1⟩ HPO.out HN.out hN0 hN2 hB2 HORD.out (fun i h => by have := HS.out i (h.elim (fun h => .inr (.inr (.inr (.inl h)))) fun h => .inr (.inr (.inr (.inr (.inl h))))); omega))
  have HF1 := Lib.hid f1
  have HYW := Lib.hid (show EntY W.heap.size z l nh ch Ah S2 hi w1 from ⟨boxedFr HPA.out f1, boxedFr HKA.out.b2 f1, HKA.out.hi_.below f1⟩)
  have HID := Lib.hid (Idle.of_below (Z := fun _ => False) (base := W.heap.size) (Below.mono (fr.step HFA.out f1) (Nat.le_refl _)))
  clear b1 b2 f1 c0 c1
  have hT0' : ∀ i, T0 i → i < W.heap.size := fun i hi => HJT.out _ _ _ i HJ0.out hi
  have HT0' := Lib.hid hT0'
  clear hT0'
  refine (wpIn_wide (n := nn + 2)).1 ?_
  refine range_tells rfl (by omega) (gf := 76) (lb := #[.pointer (some ⟨W.heap.size + 1, 0, none⟩), .pointer (some ⟨W.heap.size + 1 + 1, 0, none⟩)]) rfl trivial (enters_of Tryz.func76 (by kernel_rfl) rfl) HTI.out
    ?hD (fun i h => h.elim) (fun pre T T' x A hT h => h.anti hT) (fun _ _ _ h _ => h) (fun _ _ _ h _ => h) (fun _ => rfl)
    (EntI J W.heap.size z l nh ch Ah S2 hi) (EntX J Jx (rangeE lo hi es)) ?still ?stillX T0 ?t0 ⟨HJ.out _ _ _ _ HJ0.out HID.out, fun e h => by simp at h, HYW.out⟩
    (AxG w1.heap.size (fromE lo es) (eFrame Tb z W.heap.size l nl cl Al)) ?ax ?assign ?body ?done ?stop ?lt ?ltx
  case assign =>
    rintro l' pre T ⟨x1, x2⟩ W' K hi' ⟨⟨k, u, hx, hk1, hu1⟩, hrest⟩ hK
    obtain ⟨Ak, ck', rfl⟩ := slice_form hk1
    obtain ⟨Au, cu, rfl⟩ := slice_form hu1
    simp only at hx
    subst hx
    have HK := Lib.hid hk1
    have HU := Lib.hid hu1
    have HI := Lib.hid hi'
    have HR := Lib.hid hrest
    clear hk1 hu1 hi' hrest
    gi_wp2
    have hal : fr W' (W'.alloc (.cells #[.slice Ak x2.key.length ck', .int .i64 x2.seq, .bool x2.dead, .slice Au x2.val.length cu] 48)) := fr.alloc fr.refl _
    have hid : Idle (fun _ => False) W.heap.size W' (W'.alloc (.cells #[.slice Ak x2.key.length ck', .int .i64 x2.seq, .bool x2.dead, .slice Au x2.val.length cu] 48)) := Idle.of_below hal
    have hI := HI.out
    refine hK _ _ hal ⟨HJ.out _ _ _ _ hI.1 hid, hI.2.1, hI.2.2.idle hid fun i hi => HS.out i (.inr (.inr (.inr (.inr (.inr hi)))))⟩ ⟨W'.heap.size, Ak, _, ck', Au, _, cu, rfl, heap_alloc_new W' _, HK.out.idle hid (fun _ _ h => h), HU.out.idle hid (fun _ _ h => h), HR.out, rfl⟩
  case hD =>
    rintro i (rfl | rfl | h | h)
    · omega
    · omega
    · have := HS.out i (.inr (.inr (.inr (.inl h)))); omega
    · have := HS.out i (.inr (.inr (.inr (.inr (.inl h))))); omega
  case t0 =>
    intro i hi
    have h1 := HT0'.out i hi
    refine ⟨by omega, fun h => ?_⟩
    rcases h with h | h | h | h
    · omega
    · omega
    · exact HT0.out i hi (.inr (.inr (.inr (.inl h))))
    · exact HT0.out i hi (.inr (.inr (.inr (.inr (.inl h)))))
  case still =>
    rintro pre T A B ⟨h1, h2, h3⟩ hid
    exact ⟨HJ.out _ _ _ _ h1 (hid.mono (by omega)), h2, h3.idle hid fun i h => by have := HS.out i (.inr (.inr (.inr (.inr (.inr h))))); omega⟩
  case stillX =>
    rintro c pre T A B ⟨h1, h2, h3⟩ hid
    refine ⟨h1, fun i hi => Nat.lt_of_lt_of_le (h2 i hi) hid.size, ?_⟩
    rcases h3 with ⟨pre', T', h3, h4⟩ | ⟨pre', T', h3⟩
    · exact .inl ⟨pre', T', HJ.out _ _ _ _ h3 (hid.mono (by omega)), h4⟩
    · exact .inr ⟨pre', T', HJX.out _ _ _ _ h3 (hid.mono (by omega))⟩
  case ax =>
    rintro pre T x a' A B ⟨Bx, Ak, nk', ck', Au, nu, cu, hx, hbx, hk, hu, hr, rfl⟩ hid
    exact ⟨Bx, Ak, nk', ck', Au, nu, cu, hx, hid.cells (fun h => h) hbx rfl, hk.idle hid (fun _ _ h => h), hu.idle hid (fun _ _ h => h), hr, rfl⟩
  case lt =>
    rintro pre T W' i ⟨h1, h2, h3⟩ hT
    exact HJT.out _ _ _ _ h1 hT
  case ltx =>
    rintro c pre T W' i ⟨h1, h2, h3⟩ hT
    exact h2 i hT
  case body =>
    rintro l' pre T x a' sA W' hl hlA hrec hTs hsA ⟨hj, hpr, hy⟩ ⟨Bx, Ak, nk', ck', Au, nu, cu, hx, hbx, hk, hu, hr, rfl⟩
    have c4 := hy.1.cell
    have c3 := hy.2.1.cell
    have x0 := cell_of_row W' _ 0 _ _ _ hbx
    have x1 := cell_of_row W' _ 1 _ _ _ hbx
    have x2 := cell_of_row W' _ 2 _ _ _ hbx
    have x3 := cell_of_row W' _ 3 _ _ _ hbx
    have hnh : nh = hi.length := by
      obtain ⟨A, c, h, _⟩ := hy.2.2
      simp only [Value.slice.injEq] at h
      exact h.2.1
    have HTD := Lib.hid (show ∀ i, T i → ¬ (i = W.heap.size ∨ i = z + 1 + 1 ∨ S2 i) from fun i hi h => by
      have h1 : i = W.heap.size ∨ entD z S0 S1 S2 i := by
        rcases h with h | h | h
        · exact .inl h
        · exact .inr (.inr (.inr (.inl h)))
        · exact .inr (.inr (.inr (.inr (.inr (.inr h)))))
      rcases hTs i hi with h2 | h2
      · have h3 := HT0'.out i h2
        rcases h1 with h1 | h1
        · omega
        · exact HT0.out i h2 h1
      · rcases h1 with h1 | h1
        · omega
        · have := HS.out i h1; omega)
    have HYI : Hid (below hi x.2 = true → YieldAt Fence.wide (nn - 1) Tryz.prog l #[x.1, .int .i64 0] W' fun e B => ∃ T', Grew W'.heap.size T T' ∧ Only T W' B ∧ ((e = .returned (.bool true) ∧ J (pre ++ [x]) T' B) ∨ (e = .returned (.bool false) ∧ Jx (pre ++ [x]) T' B))) := Lib.hid fun hb => by
      obtain ⟨rest, hr'⟩ := hr
      refine HY.out pre T x W' hj ⟨⟨_, _, hx, hk.mono fun i hi => ⟨⟨by have := hi.1.1; have := HWZ.out; omega, hi.1.2⟩, hi.2⟩, hu.mono fun i hi => ⟨⟨by have := hi.1.1; have := HWZ.out; omega, hi.1.2⟩, hi.2⟩⟩, range_here hr' hpr hb⟩
    have HCM := Lib.hid (bcompare_any _ _ _ _ x.2.key hi W' hk hy.2.2)
    have HFIN : Hid (∀ (T6 : Nat → Prop) (w6 : World), below hi x.2 = true → Grew W'.heap.size T T6 → Only T W' w6 → J (pre ++ [x]) T6 w6 → ∃ T', Grew sA T T' ∧ Only (fun i => T i ∨ sA ≤ i) W' w6 ∧ EntI J W.heap.size z l nh ch Ah S2 hi (pre ++ [x]) T' w6) := Lib.hid fun T6 w6 hb hg ho hj6 =>
      ⟨T6, fun i h => (hg i h).imp id fun h => Nat.le_trans hsA h, Only.mono ho fun i h => .inl h, hj6, fun e he => by
        rw [List.map_append, List.mem_append] at he
        rcases he with he | he
        · exact hpr e he
        · obtain rfl : e = x.2 := by simpa using he
          exact hb, hy.only ho HTD.out⟩
    have HFIX : Hid (∀ (T6 : Nat → Prop) (w6 : World), Only T W' w6 → Jx (pre ++ [x]) T6 w6 → ∃ T', Grew sA T T' ∧ Only (fun i => T i ∨ sA ≤ i) W' w6 ∧ EntX J Jx (rangeE lo hi es) .ret (pre ++ [x]) T' w6) := Lib.hid fun T6 w6 ho hj6 =>
      ⟨T, fun i h => .inl h, Only.mono ho fun i h => .inl h, rfl, fun i h => Nat.lt_of_lt_of_le (HJT.out _ _ _ _ hj h) ho.size, .inr ⟨_, _, hj6⟩⟩
    have HSTOP : Hid (below hi x.2 = false → ∃ T', Grew sA T T' ∧ Only (fun i => T i ∨ sA ≤ i) W' W' ∧ EntX J Jx (rangeE lo hi es) .ret (pre ++ [x]) T' W') := Lib.hid fun hb => by
      obtain ⟨rest, hr'⟩ := hr
      exact ⟨T, fun i h => .inl h, Only.refl _ _, rfl, fun i h => HJT.out _ _ _ _ hj h, .inl ⟨pre, T, hj, range_stop hr' ((ordered_iff es).1 HORD.out).2 hpr hb⟩⟩
    rw [hx] at HYI
    have HX := Lib.hid hx
    clear hrec hTs hl hlA hsA hj hpr hy hbx hk hu hr hx
    by_cases hn0 : 0 < nh
    · obtain ⟨q, hq⟩ : ∃ q, cmpB x.2.key hi = q := ⟨_, rfl⟩
      rw [hq] at HCM
      by_cases hq0 : 0 ≤ q
      · have hb : below hi x.2 = false := by
          unfold below
          rw [hq]
          have : hi ≠ [] := fun e => by rw [e] at hnh; simp at hnh; omega
          simp [this, hq0]
        have HB := Lib.hid hb
        clear hnh hq hb
        gi_wp2_with (refine ⟨trivial, fun h => absurd h Bool.false_ne_true, ?_⟩; gi_at_call 60; refine (CallsIn.inRound l' (callsIn_wide.2 HCM.out)).mono ?_; rintro r w' ⟨rfl, hw'⟩; have hw2 : W' = w' := hw'; subst hw2)
        refine ⟨fun f h => (by cases h), ?_⟩
        gi_wp2
        exact HSTOP.out HB.out
      · have hb : below hi x.2 = true := by
          unfold below
          rw [hq]
          simp
          omega
        have HB := Lib.hid hb
        obtain ⟨fn, tmps, assign, body, hyr, hR⟩ := HYI.out hb
        have HR := Lib.hid hR
        clear hnh hq hb hR
        gi_wp2_with (refine ⟨trivial, fun h => absurd h Bool.false_ne_true, ?_⟩; gi_at_call 60; refine (CallsIn.inRound l' (callsIn_wide.2 HCM.out)).mono ?_; rintro r w' ⟨rfl, hw'⟩; have hw2 : W' = w' := hw'; subst hw2)
        refine ⟨fun h => absurd h Bool.false_ne_true, (round_in rfl l' HR.out).mono ?_⟩
        rintro ee w6 ⟨T6, gT, oT, (⟨rfl, hj6⟩ | ⟨rfl, hj6⟩)⟩
        · have HE := Lib.hid (HFIN.out T6 w6 HB.out gT oT hj6)
          clear hyr gT oT hj6 x0 x1 x2 x3 c3 c4
          gi_wp2
          exact HE.out
        · have HE := Lib.hid (HFIX.out T6 w6 oT hj6)
          clear hyr gT oT hj6 x0 x1 x2 x3 c3 c4
          gi_wp2
          exact HE.out
    · have hb : below hi x.2 = true := by
        unfold below
        simp [List.eq_nil_of_length_eq_zero (hnh.symm.trans (by omega : nh = 0))]
      have hni : ¬ (0 : Int) < (nh : Int) := by omega
      have HB := Lib.hid hb
      obtain ⟨fn, tmps, assign, body, hyr, hR⟩ := HYI.out hb
      have HR := Lib.hid hR
      clear hnh hb hR
      gi_wp2
      refine ⟨trivial, ?_⟩
      gi_wp2
      refine ⟨fun h => absurd h Bool.false_ne_true, (round_in rfl l' HR.out).mono ?_⟩
      rintro ee w6 ⟨T6, gT, oT, (⟨rfl, hj6⟩ | ⟨rfl, hj6⟩)⟩
      · have HE := Lib.hid (HFIN.out T6 w6 HB.out gT oT hj6)
        clear hyr gT oT hj6 x0 x1 x2 x3 c3 c4
        gi_wp2
        exact HE.out
      · have HE := Lib.hid (HFIX.out T6 w6 oT hj6)
        clear hyr gT oT hj6 x0 x1 x2 x3 c3 c4
        gi_wp2
        exact HE.out
  case done =>
    rintro D' xs T W' hD' hTs hxs ⟨hj, hpr, hy⟩ hK
    have hj' := HJ.out _ _ _ _ hj (Idle.putObj (Z := fun _ => False) (base := W.heap.size) (o' := .deferred none) (by omega) hK rfl)
    try go_wp2
    refine ⟨by simp, .inl ⟨_, _, rfl, run_takeDeferred hK, ?_⟩⟩
    exact ⟨.tuple #[], by simp [results, Tryz.results72, go_sem], ⟨_, rfl⟩, .inl ⟨xs, T, range_all hxs hpr, hj'⟩⟩
  case stop =>
    rintro D' c xs T W' hD' hTs _ ⟨rfl, _, hor⟩ hK
    gi_wp2
    try go_wp2
    refine ⟨by simp, .inl ⟨_, _, rfl, run_takeDeferred hK, ?_⟩⟩
    refine ⟨.tuple #[], by simp [results, Tryz.results72, go_sem], ⟨_, rfl⟩, ?_⟩
    rcases hor with ⟨pre', T', h3, h4⟩ | ⟨pre', T', h3⟩
    · exact .inl ⟨pre', T', h4, HJ.out _ _ _ _ h3 (Idle.putObj (Z := fun _ => False) (base := W.heap.size) (by omega) hK rfl)⟩
    · exact .inr ⟨pre', T', trivial, HJX.out _ _ _ _ h3 (Idle.putObj (Z := fun _ => False) (base := W.heap.size) (by omega) hK rfl)⟩
end Go.Proofs.YtiffgjodbcploaaGreat
end
