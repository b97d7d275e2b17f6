/-
The disk in memory, and what leaves it as it is.
-/
import Derived.Test.YtiffgjodbcploaaGreatQPToldUpto7
import Derived.Test.YtiffgjodbcploaaGreatQPToldUpto6
import Derived.Deep.Onto
import Derived.Test.YtiffgjodbcploaaGreatQPToldUpto1
import Derived.OrdersHeld
import Derived.OrdersIn
import Derived.TacticsInMore
import Derived.Deep.RegionHeld3
import Derived.Test.YtiffgjodbcploaaGreatQPToldUpto2
section
namespace Go.Proofs.YtiffgjodbcploaaGreat
set_option maxRecDepth 100000
open Go.RowKit Go.BigFrame Go.Shelf
attribute [local go_sem ↓] Go.wp_at_zero Go.wp_at_succ
attribute [local go_sem] Oper.semAt_some
/-- what the rounds have gathered. -/
def CollP (n₀ lo : Nat) (Z : Nat → Prop) (w : World) (pre : List (Value × Pr)) (T : Nat → Prop) (W : World) : Prop :=
  ∃ v ys, Grows 76 78 2 n₀ n₀ T v pre.length ys W ∧ PrCells W (fun i => (lo ≤ i ∧ ¬ T i) ∧ Loose W i) ys (pre.map Prod.snd) ∧ Only Z w W
def AxP (N lo : Nat) (n₀ : Nat) (g : Value) (pre : List (Value × Pr)) (T : Nat → Prop) (x : Value × Pr) (a : Act) (W : World) : Prop :=
  ∃ Bx Ak nk ck Av nv cv, x.1 = .agg #[.slice Ak nk ck, .slice Av nv cv] ∧ pre.length < N ∧ n₀ ≤ Bx ∧ W.heap[Bx]? = some (.cells #[.slice Ak nk ck, .slice Av nv cv] 78 (0, 0)) ∧ Byt W (fun i => (lo ≤ i ∧ ¬ T i) ∧ Loose W i) (.slice Ak nk ck) x.2.key ∧ Byt W (fun i => (lo ≤ i ∧ ¬ T i) ∧ Loose W i) (.slice Av nv cv) x.2.val ∧
    a = { tmps := #[.slice none 0 0, g, .pointer (some ⟨n₀, 0, none⟩), undef, .slice none 0 0, .pointer (some ⟨Bx, 0, none⟩), g, x.1, undef, undef, undef, undef, undef], defers := [] }
set_option maxRecDepth 100000 in
set_option maxHeartbeats 4000000 in
theorem appendSeqP (nn : Nat) (w : World) (gf : Nat) (lb : Array Value) (N lo : Nat) (S Sp : List (Value × Pr) → World → Prop) (D Z : Nat → Prop)
    (hseq : Tells Fence.wide nn Tryz.prog gf lb (fun x : Value × Pr => #[x.1]) (fun pre T x A => OkP lo T x A ∧ pre.length < N) S Sp D Z w) (eg : ∀ args w, (callFunc gf args).run Tryz.prog w = .ok (.enter gf args) w)
    (hD : ∀ i, D i → i < w.heap.size) (hZ : ∀ i, Z i → D i ∧ i < lo) (_hlo : lo ≤ w.heap.size) (hS : ∀ base xs, w.heap.size ≤ base → Still (fun _ => False) base (S xs)) (hSp : ∀ base xs, w.heap.size ≤ base → Still (fun _ => False) base (Sp xs)) (hN : N * 48 ≤ 140737488355328) :
    Calls Tryz.prog 116 #[.slice none 0 0, .func (.func gf) #[] lb] w fun r w' => ∃ (v : Value) (ys : List Value) (xs : List (Value × Pr)) (T : Nat → Prop), r = .returned v ∧ S xs w' ∧ w'.ownsRow w.heap.size 78 2 v xs.length ys ∧ PrCells w' (fun i => (lo ≤ i ∧ ¬ T i) ∧ Loose w' i) ys (xs.map Prod.snd) ∧ (∀ g, v.ownBlock = some g → T g) ∧ Only Z w w' := by
  obtain ⟨i0, hi, hz0, hz1, hz2⟩ := info_parts info65
  refine (callsIn_wide (n := nn + 1)).1 ?_
  refine callsIn_of_wp_marks Tryz.func116 rfl trivial ?_
  simp only [Tryz.ntmps116, List.size_toArray, List.length_cons, List.length_nil, Nat.reduceAdd, Nat.reduceSub, Array.replicate_succ, Array.replicate_zero, List.push_toArray, List.append_toArray, List.nil_append, List.cons_append]
  gi_wp2
  have bO := Boxed.new w 76 (.slice none 0 0)
  have hA : fr w (w.alloc (.cells #[.slice none 0 0] 76)) := fr.alloc fr.refl _
  have hseq1 : Tells Fence.wide nn Tryz.prog gf lb (fun x : Value × Pr => #[x.1]) (fun pre T x A => OkP lo T x A ∧ pre.length < N) S Sp D Z (w.alloc (.cells #[.slice none 0 0] 76)) := fun l J Jx T0 W hW => hseq l J Jx T0 W (Below.trans hA (hW.mono hA.size))
  have hz : (w.alloc (.cells #[.slice none 0 0] 76)).heap.size = w.heap.size + 1 := by simp
  refine range_tells rfl (by omega) (gf := gf) (lb := lb) rfl trivial eg hseq1 (fun i h => by rw [hz]; have := hD i h; omega) (fun i h => (hZ i h).1) (fun pre T T' x A hT h => ⟨h.1.anti hT, h.2⟩)
    (fun xs => hS _ xs hA.size) (fun xs => hSp _ xs hA.size) (fun _ => rfl)
    (CollP w.heap.size lo Z w) (fun _ _ _ _ => False) ?still (fun _ _ _ _ _ h => h.elim) (fun i => i = w.heap.size) (fun i hi => ⟨by rw [hz]; omega, fun h => by have := hD i h; omega⟩) ⟨.slice none 0 0, [], ⟨bO, World.ownsRow_nil _ _ _ _, fun i => by simp [Value.ownBlock]⟩, trivial, Only.of_below hA⟩
    (AxP N lo w.heap.size (.func (.func gf) #[] lb)) ?ax ?assign ?body ?done (fun _ _ _ _ _ _ _ _ h => h.elim) ?lt (fun _ _ _ _ _ h => h.elim)
  case still =>
    rintro pre T A B ⟨v, ys, h1, h2, h3⟩ hi
    exact ⟨v, ys, h1.idle hi (fun i h => hD i (hZ i h).1) (Nat.le_refl _), PrCells.imp h2 fun _ _ h => h.idle hi (fun i h h' => by have := (hZ i h').2; omega), h3.idle hi hA.size⟩
  case lt =>
    rintro pre T W i ⟨v, ys, h1, _⟩ hT
    exact h1.lt hT
  case ax =>
    rintro pre T x a' A B ⟨Bx, Ak, nk, ck, Av, nv, cv, hx, hN, hB, hbx, hk, hu, rfl⟩ hi
    have hZ' : ∀ i, lo ≤ i ∧ ¬ T i → ¬ Z i := fun i h h' => by have := (hZ i h').2; omega
    exact ⟨Bx, Ak, nk, ck, Av, nv, cv, hx, hN, hB, hi.cells (fun h => by have := hD _ (hZ _ h).1; omega) hbx rfl, hk.idle hi hZ', hu.idle hi hZ', rfl⟩
  case assign =>
    rintro l pre T x W K hi' ⟨⟨k, u, hx, hk1, hu1⟩, hN⟩ hK
    obtain ⟨Ak, ck, rfl⟩ := slice_form hk1
    obtain ⟨Av, cv, rfl⟩ := slice_form hu1
    obtain ⟨x1, x2⟩ := x
    simp only at hx
    subst hx
    have hzW : w.heap.size ≤ W.heap.size := by obtain ⟨v, ys, h1, _, h3⟩ := hi'; exact h3.size
    gi_wp2
    have hal : fr W (W.alloc (.cells #[.slice Ak x2.key.length ck, .slice Av x2.val.length cv] 78)) := fr.alloc fr.refl _
    refine hK _ _ hal ?_ ⟨W.heap.size, Ak, _, ck, Av, _, cv, rfl, hN, hzW, heap_alloc_new W _, hk1.idle (Idle.of_below (Z := fun _ => False) (base := 0) hal) (fun _ _ h => h), hu1.idle (Idle.of_below (Z := fun _ => False) (base := 0) hal) (fun _ _ h => h), rfl⟩
    obtain ⟨v, ys, h1, h2, h3⟩ := hi'
    exact ⟨v, ys, h1.below hal, PrCells.imp h2 fun _ _ h => h.idle (Idle.of_below (Z := fun _ => False) (base := 0) hal) (fun _ _ h => h), h3.trans (Only.of_below hal)⟩
  case body =>
    rintro l pre T x a' sA W hl hlA hrec hTs hsA ⟨v, ys, hgr, hpc, hon⟩ ⟨Bx, Ak, nk, ck, Av, nv, cv, hx, hN, hBx, hbx, hk, hu, rfl⟩
    have hc := hgr.box.cell
    have d0 : W.cell? ⟨Bx, 0, none⟩ = some (.slice Ak nk ck) := cell_of_row W Bx 0 _ _ _ hbx
    have d1 : W.cell? ⟨Bx, 1, none⟩ = some (.slice Av nv cv) := cell_of_row W Bx 1 _ _ _ hbx
    have HG := Lib.hid hgr
    have HPC := Lib.hid hpc
    have HON := Lib.hid hon
    have HK := Lib.hid hk
    have HU := Lib.hid hu
    have HX := Lib.hid hx
    have hzW : w.heap.size ≤ W.heap.size := hon.size
    have hrow := hgr.row
    have HTS := Lib.hid hTs
    clear hgr hpc hon hk hu hx hTs hrec hl hlA
    gi_wp2_with (gi_at_builtin; refine wpListIn_append_at _ rfl _ _ 76 rfl w.heap.size 78 i0 _ 2 48 Tryz.underlying76 hi hz0 hz1 hz2 rfl (by decide) _ _ _ rfl (hrow.alloc _) ⟨W.heap.size, 0, none⟩ 1 1 [.slice Ak nk ck, .slice Av nv cv] rfl rfl (cell_two_new _ _ _ _) (by simp [Value.oneCell']) (by unfold maxLen; omega) (by omega) (by simp; omega) ?_; intro v' w2 hown' hgrow hat; obtain ⟨g', cap', rfl⟩ := ownsRow_succ hown'; obtain ⟨hv1, hg2, hgT, ho2⟩ := HG.out.push (by decide) (Nat.le_refl _) hzW (Nat.le_refl _) hown' hgrow hat; have hc1 := hv1.cell; have hf1 := hv1.frozen)
    refine ⟨_, fun i h => (hgT i h).imp id fun h => Nat.le_trans hsA h, Only.mono ho2 fun i h => h.imp id fun h => Nat.le_trans hsA h, _, _, by rw [List.length_append]; exact hg2, ?_, ?_⟩
    · rw [List.map_append]
      exact PrCells.append (PrCells.imp HPC.out fun _ _ h => h.grewT hgT ho2) (PrCells.one (HK.out.grewT hgT ho2) (HU.out.grewT hgT ho2))
    · have h0 := HON.out
      refine ⟨ho2.os.trans h0.os, ho2.tape.trans h0.tape, ho2.output.trans h0.output, Nat.le_trans h0.size ho2.size, fun i hlt hn => (ho2.block i (by omega) ?_).trans (h0.block i hlt hn)⟩
      rintro (h | h)
      · rcases (HG.out.set i).1 h with rfl | h
        · omega
        · have := (HG.out.blk h).1
          omega
      · omega
  case done =>
    rintro D' xs T W hD' hTs hs ⟨v, ys, hgr, hpc, hon⟩ hK
    have hc := hgr.box.cell
    have HD := Lib.hid hD'
    have HS1 := Lib.hid hs
    gi_wp2
    refine ⟨by simp, .inl ⟨_, _, rfl, run_takeDeferred hK, ?_⟩⟩
    have hid : Idle Z (w.alloc (.cells #[.slice none 0 0] 76)).heap.size W (W.putObj D' (.deferred none)) := Idle.putObj HD.out hK rfl
    have hg2 := hgr.idle hid (fun i h => hD i (hZ i h).1) (Nat.le_refl _)
    refine ⟨_, results_tmp rfl _ _ _, v, ys, xs, T, rfl, hS _ xs hA.size _ _ HS1.out (Idle.putObj HD.out hK rfl), hg2.row, PrCells.imp hpc fun _ _ h => h.idle hid (fun i h h' => by have := (hZ i h').2; omega), fun g hg => (hg2.set g).2 (.inr hg), hon.idle hid hA.size⟩
set_option maxRecDepth 100000 in
set_option maxHeartbeats 1000000 in
theorem collectP (nn : Nat) (w : World) (gf : Nat) (lb : Array Value) (N lo : Nat) (S Sp : List (Value × Pr) → World → Prop) (D Z : Nat → Prop)
    (hseq : Tells Fence.wide nn Tryz.prog gf lb (fun x : Value × Pr => #[x.1]) (fun pre T x A => OkP lo T x A ∧ pre.length < N) S Sp D Z w) (eg : ∀ args w, (callFunc gf args).run Tryz.prog w = .ok (.enter gf args) w)
    (hD : ∀ i, D i → i < w.heap.size) (hZ : ∀ i, Z i → D i ∧ i < lo) (hlo : lo ≤ w.heap.size) (hS : ∀ base xs, w.heap.size ≤ base → Still (fun _ => False) base (S xs)) (hSp : ∀ base xs, w.heap.size ≤ base → Still (fun _ => False) base (Sp xs)) (hN : N * 48 ≤ 140737488355328) :
    Calls Tryz.prog 101 #[.func (.func gf) #[] lb] w fun r w' => ∃ (v : Value) (ys : List Value) (xs : List (Value × Pr)) (T : Nat → Prop), r = .returned v ∧ S xs w' ∧ w'.ownsRow w.heap.size 78 2 v xs.length ys ∧ PrCells w' (fun i => (lo ≤ i ∧ ¬ T i) ∧ Loose w' i) ys (xs.map Prod.snd) ∧ (∀ g, v.ownBlock = some g → T g) ∧ Only Z w w' := by
  have HC := Lib.hid (appendSeqP nn w gf lb N lo S Sp D Z hseq eg hD hZ hlo hS hSp hN)
  clear hseq eg hD hZ hlo hS hSp hN
  go_enter Tryz.func101, Tryz.ntmps101
  go_wp2_with (go_at_call 116; refine HC.out.mono ?_; rintro r w1 ⟨v, ys, xs, T, rfl, h1, h2, h3, h4, h5⟩)
  go_ret
  exact ⟨v, ys, xs, T, rfl, h1, h2, h3, h4, h5⟩
set_option maxRecDepth 100000 in
set_option maxHeartbeats 1000000 in
theorem bread_any (S : Nat → Prop) (b o n c : Nat) (ps : List Pr) (w : World) (hv : Byt w S (.slice (some ⟨b, o, none⟩) n c) (buildGo [] ps)) (hn : (buildGo [] ps).length = n) (hn40 : n ≤ 1099511627776) (hs : Short ps) (ha : Asc [] ps) (h4 : ps.length ≤ 4096) :
    Calls Tryz.prog 91 #[.slice (some ⟨b, o, none⟩) n c] w fun r w' => ∃ (v : Value) (ys : List Value) (T : Nat → Prop), r = .returned (.tuple #[v, .int .i64 0]) ∧ w'.ownsRow w.heap.size 78 2 v ps.length ys ∧ PrCells w' (fun i => (w.heap.size ≤ i ∧ ¬ T i) ∧ Loose w' i) ys ps ∧ (∀ g, v.ownBlock = some g → T g) ∧ fr w w' := by
  have hvl : Byt w (fun i => i < w.heap.size) (.slice (some ⟨b, o, none⟩) n c) (buildGo [] ps) := hv.monoLt fun _ h _ => h
  have b1 := Boxed.new w 30 (.int .i64 0)
  have hP : ∀ w1, fr w w1 → Boxed w1 w.heap.size 30 (.int .i64 0) → w1.heap.size = w.heap.size + 1 →
      Calls Tryz.prog 102 #[.slice (some ⟨b, o, none⟩) n c, .pointer (some ⟨w.heap.size, 0, none⟩)] w1 fun r w2 => r = .returned (.func (.func 117) #[] #[.pointer (some ⟨w.heap.size + 1, 0, none⟩), .pointer (some ⟨w.heap.size + 1 + 1, 0, none⟩)]) ∧ PairsK w2 (w.heap.size + 1) w.heap.size b o n c (fun i => i < w.heap.size) (buildGo [] ps) ∧ fr w w2 ∧ w2.heap.size = w.heap.size + 3 := fun w1 hf hb hz => by
    have p1 := Boxed.new w1 42 (.slice (some ⟨b, o, none⟩) n c)
    have p2 := Boxed.new (w1.alloc (.cells #[.slice (some ⟨b, o, none⟩) n c] 42)) 162 (.pointer (some ⟨w.heap.size, 0, none⟩))
    rw [World.size_alloc, hz] at p2
    rw [hz] at p1
    have hf2 : fr w1 ((w1.alloc (.cells #[.slice (some ⟨b, o, none⟩) n c] 42)).alloc (.cells #[.pointer (some ⟨w.heap.size, 0, none⟩)] 162)) := fr.alloc (fr.alloc fr.refl _) _
    have hK : PairsK ((w1.alloc (.cells #[.slice (some ⟨b, o, none⟩) n c] 42)).alloc (.cells #[.pointer (some ⟨w.heap.size, 0, none⟩)] 162)) (w.heap.size + 1) w.heap.size b o n c (fun i => i < w.heap.size) (buildGo [] ps) := ⟨p1.alloc _, p2, boxedFr hb hf2, (hvl.below hf).below hf2⟩
    have HK := Lib.hid hK
    have HF := Lib.hid (fr.step hf hf2)
    have HZ := Lib.hid hz
    clear p1 p2 hf2 hK hf hb hz
    go_enter Tryz.func102, Tryz.ntmps102
    go_wp2
    go_ret
    rw [HZ.out]
    exact ⟨rfl, HK.out, HF.out, by simp [HZ.out]⟩
  have HP := Lib.hid hP
  clear hP
  go_enter Tryz.func91, Tryz.ntmps91
  go_wp2_with (first
    | (go_at_call 102; refine (HP.out _ (fr.alloc fr.refl _) b1 (by simp)).mono ?_; rintro r w2 ⟨rfl, hK2, hf2, hz2⟩)
    | (go_at_call 101; refine (collectP 0 w2 117 _ ps.length w2.heap.size _ _ _ _ (pairs_tells 0 w2 _ _ b o n c _ ps hK2 (Nat.lt_irrefl _) (fun i h => by omega) hn hn40 hs ha h4) (enters_of Tryz.func117 (by kernel_rfl) rfl) (fun i h => h.1) (fun i h => ⟨⟨by omega, .inr (.inr (.inl h))⟩, by omega⟩) (Nat.le_refl _) (fun _ _ _ A B h hi => ⟨h.1, hi.cells (fun h => h) h.2 rfl⟩) (fun _ _ _ _ _ h _ => h) (by omega)).mono ?_; rintro r w3 ⟨v, ys, xs, T, rfl, ⟨hm, hwhy⟩, hr, hp, hT, ho⟩; have c3 := hwhy.cell))
  refine bodyPost_ret (v := .tuple #[v, .int .i64 0]) (by simp [results, Tryz.results91, go_sem]) rfl ?_
  have hl : xs.length = ps.length := by rw [← hm]; simp
  rw [hm] at hp
  rw [hl] at hr
  refine ⟨v, ys, T, rfl, World.ownsRow.mono hr hf2.size, PrCells.mono hp (fun i h => ⟨⟨by have := hf2.size; omega, h.1.2⟩, h.2⟩), hT, ho.os.trans hf2.os, ho.tape.trans hf2.tape, ho.output.trans hf2.output, Nat.le_trans hf2.size ho.size, fun i hi => (ho.block i (by omega) (by omega)).trans (hf2.block i hi)⟩
end Go.Proofs.YtiffgjodbcploaaGreat
end
section
namespace Go.Proofs.YtiffgjodbcploaaGreat
set_option maxRecDepth 100000
open Go.RowKit Go.BigFrame Go.Shelf
attribute [local go_sem ↓] Go.wp_at_zero Go.wp_at_succ
/-- the k-th two of a row. -/
def twoV (g k : Nat) : Value := .slice (some ⟨g, 4 * k, none⟩) 2 2
set_option maxRecDepth 100000 in
set_option maxHeartbeats 1000000 in
theorem chunk_any (g n c : Nat) (w : World) :
    Calls Tryz.prog 92 #[.slice (some ⟨g, 0, none⟩) n c, .int .i64 2] w fun r w' => r = .returned (.func (.func 103) #[] #[.pointer (some ⟨w.heap.size, 0, none⟩), .pointer (some ⟨w.heap.size + 1, 0, none⟩)]) ∧ Boxed w' w.heap.size 76 (.slice (some ⟨g, 0, none⟩) n c) ∧ Boxed w' (w.heap.size + 1) 3 (.int .i64 2) ∧ fr w w' := by
  have p2 := Boxed.new (w.alloc (.cells #[.slice (some ⟨g, 0, none⟩) n c] 76)) 3 (.int .i64 2)
  have p1 := (Boxed.new w 76 (.slice (some ⟨g, 0, none⟩) n c)).alloc (.cells #[.int .i64 2] 3)
  have hf : fr w ((w.alloc (.cells #[.slice (some ⟨g, 0, none⟩) n c] 76)).alloc (.cells #[.int .i64 2] 3)) := fr.alloc (fr.alloc fr.refl _) _
  rw [World.size_alloc] at p2
  have P1 := Lib.hid p1
  have P2 := Lib.hid p2
  have HF := Lib.hid hf
  clear p1 p2 hf
  go_enter Tryz.func92, Tryz.ntmps92
  go_wp2
  go_ret
  exact ⟨rfl, P1.out, P2.out, HF.out⟩
set_option maxRecDepth 100000 in
set_option maxHeartbeats 2000000 in
theorem chunk_tells (nn : Nat) (w : World) (B g m c : Nat) (b1 : Boxed w B 76 (.slice (some ⟨g, 0, none⟩) (2 * m) c)) (b2 : Boxed w (B + 1) 3 (.int .i64 2)) (hm : 2 * m ≤ 1099511627776) (hc : 2 * m ≤ c) (hcm : c ≤ 9223372036854775807) :
    Tells Fence.wide nn Tryz.prog 103 #[.pointer (some ⟨B, 0, none⟩), .pointer (some ⟨B + 1, 0, none⟩)] (fun k : Nat => #[twoV g k]) (fun pre _ k _ => k = pre.length ∧ k < m)
      (fun xs _ => xs = List.range m) (fun _ _ => True) (fun i => i = B ∨ i = B + 1) (fun _ => False) w := by
  intro l J Jx T0 W hW hT0 hJ hJx hJT hY h0
  refine callsIn_wide.2 ?_
  have HJ := Lib.hid hJ
  have HJT := Lib.hid hJT
  have HY := Lib.hid hY
  have HT0 := Lib.hid hT0
  have HB := Lib.hid (show B < W.heap.size ∧ B + 1 < W.heap.size from ⟨Nat.lt_of_lt_of_le b1.lt hW.size, Nat.lt_of_lt_of_le b2.lt hW.size⟩)
  have HB1 := Lib.hid (boxedFr b1 hW)
  have HB2 := Lib.hid (boxedFr b2 hW)
  have HJ0 := Lib.hid h0
  clear hJ hJx hJT hY hT0 hW h0 b1 b2
  go_enter Tryz.func103, Tryz.ntmps103
  go_wp2
  go_loopw [4] (fun x wr => ∃ (k : Nat) (T : Nat → Prop), k ≤ m ∧ x = .int .i64 (2 * k : Nat) ∧ J (List.range k) T wr ∧ (∀ i, T i → ¬ (i = B ∨ i = B + 1)) ∧ Boxed wr B 76 (.slice (some ⟨g, 0, none⟩) (2 * m) c) ∧ Boxed wr (B + 1) 3 (.int .i64 2) ∧ W.heap.size ≤ wr.heap.size) (fun x _ => 2 * m - (intOf x).toNat)
  case atStart => exact ⟨0, T0, Nat.zero_le _, rfl, HJ0.out, HT0.out, HB1.out, HB2.out, Nat.le_refl _⟩
  case round =>
    clear HJ0 HT0 HB1 HB2
    obtain ⟨k, T, hk, rfl, hj, hT, b1, b2, hz⟩ := hrel
    have c1 := b1.cell
    have c2 := b2.cell
    have HJK := Lib.hid hj
    have HT := Lib.hid hT
    have HB1 := Lib.hid b1
    have HB2 := Lib.hid b2
    have HZ := Lib.hid hz
    obtain ⟨q, hq⟩ : ∃ q, 2 * k = q := ⟨_, rfl⟩
    obtain ⟨n, hn⟩ : ∃ n, 2 * m = n := ⟨_, rfl⟩
    rw [hq]
    rw [hn] at c1 hm hc
    have HQ := Lib.hid hq
    have HN := Lib.hid hn
    clear hj hT b1 b2 hz hq hn
    obtain ⟨w0, hw0⟩ : ∃ x, x = wr := ⟨_, rfl⟩
    subst hw0
    by_cases hkm : k < m
    · have hqn : q + 2 ≤ n := by have := HQ.out; have := HN.out; omega
      have hqc : ¬ c = q := by omega
      have i1 : (0 : Int) ≤ (q : Int) := by omega
      have i2 : (q : Int) ≤ (n : Int) := by omega
      have i3 : (q : Int) ≤ (c : Int) := by omega
      have i4 : ((n : Int) - (q : Int)) = ((n - q : Nat) : Int) := by omega
      have i5 : min (2 : Int) ((n - q : Nat) : Int) = 2 := by omega
      have hlt : q < n := by omega
      have HKM := Lib.hid hkm
      have hv : twoV g k = .slice (some ⟨g, q * 2, none⟩) 2 2 := by unfold twoV; rw [show 4 * k = q * 2 by have := HQ.out; omega]
      have HV := Lib.hid hv
      clear hkm hk hv
      go_upto_region 3 with (fail)
      go_quiet (fail)
      have c3 : (w0.drewN nq).cell? ⟨B, 0, none⟩ = some (.slice (some ⟨g, 0, none⟩) n c) := c1
      have c4 : (w0.drewN nq).cell? ⟨B + 1, 0, none⟩ = some (.int .i64 2) := c2
      go_upto_region 4 with (fail)
      refine (wpIn_wide (n := nn)).1 ?_
      gi_wp2_with (fail)
      have hid : ∀ x, Idle (fun _ => False) W.heap.size w0 (w0.drewN x) := fun x => ⟨rfl, rfl, rfl, Nat.le_refl _, fun _ _ _ => rfl⟩
      obtain ⟨fn, tmps, assign, body, hy, hR⟩ := HY.out (List.range k) T k (w0.drewN nq) (HJ.out _ _ _ _ HJK.out (hid _)) ⟨by simp, HKM.out⟩
      rw [HV.out] at hy
      rw [hy, Oper.uponIn_round]
      refine ⟨fun h => absurd h (by decide), hR.mono ?_⟩
      rintro e w6 ⟨T', gT, oT, (⟨rfl, hj6⟩ | ⟨rfl, hj6⟩)⟩
      · have gT' := Lib.hid gT
        have oT' := Lib.hid oT
        have HJ6 := Lib.hid hj6
        have hTB : ∀ i, T i → ¬ (i = B ∨ i = B + 1) := HT.out
        have B1 := Lib.hid (boxedOnly (S := T) (w := w0.drewN nq) HB1.out oT fun h => hTB _ h (.inl rfl))
        have B2 := Lib.hid (boxedOnly (S := T) (w := w0.drewN nq) HB2.out oT fun h => hTB _ h (.inr rfl))
        have c5 := B2.out.cell
        have hsz : w0.heap.size ≤ w6.heap.size := oT.size
        clear hy hR gT oT hj6 hid hTB c1 c2 c3 c4
        gi_wp2
        go_wp2
        refine ⟨⟨k + 1, T', HKM.out, ?_, by rw [List.range_succ]; exact HJ6.out, fun i hi => ?_, B1.out, B2.out, Nat.le_trans HZ.out hsz⟩, by have := HQ.out; have := HN.out; simp [intOf]; omega⟩
        · congr 1
          have := HQ.out
          omega
        · rcases gT'.out i hi with h | h
          · exact HT.out i h
          · have h1 := HB.out
            have h2 := HZ.out
            have h3 : w0.heap.size ≤ i := h
            omega
      · have HJX6 := Lib.hid hj6
        clear hy hR hj6 hid gT oT
        gi_wp2
        go_wp2
        refine bodyPost_ret (results_none rfl _ _ _) rfl ?_
        exact ⟨⟨_, rfl⟩, .inr ⟨_, T', trivial, HJX6.out⟩⟩
    · have hqn : q = n := by have := HQ.out; have := HN.out; omega
      obtain rfl : k = m := by omega
      subst hqn
      clear hkm
      go_wp2
      go_end0
      exact ⟨⟨_, rfl⟩, .inl ⟨_, T, rfl, HJK.out⟩⟩
end Go.Proofs.YtiffgjodbcploaaGreat
end
section
namespace Go.Proofs.YtiffgjodbcploaaGreat
set_option maxRecDepth 100000
open Go.RowKit
theorem wpIn_of_wp {P : Program} {l n : Nat} {o : Oper} {a : Act} {w : World} {K : Act → World → Prop} {Q : Exit → Act → World → Prop} (hd : ∀ c, o.op ≠ .defer c) (h : o.wp P a w K Q) : o.wpIn (Fence.wide.inRound l) n P a w K Q := by
  unfold Oper.wp at h
  unfold Oper.wpIn
  refine ⟨fun _ _ => trivial, ?_⟩
  rw [show (Fence.wide.inRound l).round = some l from rfl, Oper.semAt_some _ _ _ hd]
  generalize (execOp a.eval o).run P w = r at *
  cases r with
  | ok x w' =>
    cases x with
    | value v => exact h
    | skip => exact h
    | defer d => exact h
    | enter f args => exact ⟨fun h => absurd h (by simp [Fence.wide]), callsIn_wide.2 h⟩
    | row row args => exact ⟨fun h => absurd h (by simp [Fence.wide]), fun c cs _ => let ⟨v, w', r, s⟩ := h c cs; ⟨v, w', r, stepsIn_wide.2 s⟩⟩
    | _ => exact h.elim
  | halt x w' => cases x <;> first | exact h | exact h.elim
theorem anyIn_of_any {P : Program} {l n : Nat} {md : Region.Mode} {ops : Array Oper} {Q : Exit → Act → World → Prop} (hd : ∀ (i : Nat) (o : Oper), ops[i]? = some o → ∀ c, o.op ≠ .defer c) (hL : ¬ LetsOut Q) :
    ∀ (fuel : Nat) (listed : Array Bool) (a : Act) (w : World), wpAny P md ops Q fuel listed a w → wpAnyIn (Fence.wide.inRound l) n P md ops Q fuel listed a w
  | 0, _, _, _, h => h
  | fuel + 1, listed, a, w, h => by
    refine ⟨h.1, fun i hi => ?_⟩
    have h2 := h.2 i hi
    unfold wpOp at h2
    unfold wpOpIn
    split
    · rename_i e
      rw [e] at h2
      exact anyIn_of_any hd hL fuel _ a w h2
    · rename_i o e
      rw [e] at h2
      simp only at h2
      split
      · rename_i hw
        rw [if_pos hw] at h2
        rcases h2 with h2 | ⟨_, h2⟩
        · exact wpIn_of_wp (hd i o e) (Oper.wp_mono (fun a' w' h' => anyIn_of_any hd hL fuel _ a' w' h') h2)
        · exact absurd h2 hL
      · rename_i hw
        rw [if_neg hw] at h2
        exact ⟨fun _ _ => trivial, anyIn_of_any hd hL fuel _ _ w h2⟩
theorem regionIn_held {P : Program} {l n id : Nat} {ops : Array Oper} {Q : Exit → Act → World → Prop} {S : World → Prop} {a : Act} {w : World} (hm : P.follows .mixedOrders = true) (hd : ∀ (i : Nat) (o : Oper), ops[i]? = some o → ∀ c, o.op ≠ .defer c) (hL : ¬ LetsOut Q)
    (h : wpAnyH P .any ops Q S ops.size (Array.replicate ops.size false) a w.drew) : (Code.region id ops true).wpIn (Fence.wide.inRound l) n P Q a w :=
  wpIn_region_any hm (anyIn_of_any hd hL _ _ _ _ (wpAny_of_held _ _ _ _ h))
end Go.Proofs.YtiffgjodbcploaaGreat
end
section
namespace Go.Proofs.YtiffgjodbcploaaGreat
set_option maxRecDepth 100000
open Go.RowKit Go.BigFrame
theorem wpListIn_append_ownB {F : Fence} {n : Nat} {w : World} {ops : Array Oper} {rest : List Oper} {o : Oper} {a : Act} {Q : Exit → Act → World → Prop} (hgd : o.guard = none) (s x : Operand)
    (ho : o.op = .call { callee := .builtin .append, args := #[s, x], argTypes := #[42, 42] }) (FF F' : Nat → Prop) (v src : Value) (hs : a.eval s = v) (hx : a.eval x = src)
    (S : Nat → Prop) (bs cs : List UInt8) (hown : OwnB w FF v bs) (h : Byt w S src cs) (hl : bs.length + cs.length ≤ 140737488355328) (hF : ∀ i, FF i → F' i) (hnew : F' w.heap.size)
    (hK : ∀ v' w', OwnB w' F' v' (bs ++ cs) → w.grownBy w' (blkB v) → (blkB v' = blkB v ∨ blkB v' = some w.heap.size) → wpListIn F n Tryz.prog ops Q rest (a.put o.dst v') w') :
    wpListIn F n Tryz.prog ops Q (o :: rest) a w := by
  refine wpListIn_plain hgd fun K hK' => ?_
  obtain ⟨v', w', hrun, r1, r2, r3⟩ := run_append_ownB w FF F' o.type v src S bs cs hown h hl hF hnew
  unfold Oper.wpIn
  refine ⟨?_, ?_⟩
  · simp [Oper.about, ho, resolve, Target.leads, Sem.run_pure]
  · rw [Oper.semAt_plain F _ _ (by rw [ho]; intro c hc'; cases hc')]
    simp [execOp, ho, resolve, invoke, builtin, hs, hx, hrun, Result.andThen]
    exact hK' _ _ (hK v' w' r1 r2 r3)
set_option maxRecDepth 100000 in
/-- a slice that is full: the bytes go into new memory. -/
theorem run_append_fullB (w : World) (ty : TypeId) (g o n : Nat) (src : Value) (S S' : Nat → Prop) (bs cs : List UInt8) (hb : Byt w S (.slice (some ⟨g, o, none⟩) n n) bs) (h : Byt w S' src cs) (hn : bs.length = n) (h0 : 0 < cs.length) (hl : n + cs.length ≤ 140737488355328) :
    ∃ A c w', (Builtin.append_ #[42, 42] ty #[.slice (some ⟨g, o, none⟩) n n, src]).run Tryz.prog w = .ok (.slice A (n + cs.length) c) w' ∧ OwnF w' w.heap.size (.slice A (n + cs.length) c) (bs ++ cs) ∧ fr w w' := by
  obtain ⟨i0, hi, hz0, hz1, hz2⟩ := info_parts info5
  obtain ⟨B, d, rfl, g1, g2, g3, hr⟩ := h
  obtain ⟨b, ob, rfl, _, _, hc⟩ := hr.2 h0
  obtain ⟨A, ca, hE, h1, h2, h3, hr1⟩ := hb
  simp only [Value.slice.injEq] at hE
  obtain ⟨rfl, h5, rfl⟩ := hE
  have holds : ∀ j u, (bs.map bcell)[j]? = some u → w.cell? ((⟨g, o, none⟩ : Addr).add j) = some u := fun j u hu => by
    have hj := (List.getElem?_eq_some_iff.1 hu).1
    rw [List.length_map] at hj
    obtain ⟨b', o', e, _, _, hcc⟩ := hr1.2 (by omega)
    injection e with e
    injection e with e1 e2
    subst e1 e2
    rw [Addr.add_lit]
    exact hcc j u hu
  have hrun := run_append_grow (P := Tryz.prog) w 42 ty 5 i0 (.int .u8 0) Tryz.underlying42 hi hz0 ⟨g, o, none⟩ n n (bs.map bcell) (by simp [hz1, hn]) holds ⟨b, ob, none⟩ cs.length d (cs.map bcell) (by simp [hz1])
    (fun j u hu => by rw [Addr.add_lit]; exact hc j u hu) (by omega) (by omega) (growslice_fits (by omega) (by rw [hz2]; omega))
  have hge := grownCap_ge w (n + cs.length) n 5
  have hcm : grownCap w (n + cs.length) n 5 ≤ maxLen := grownCap_le_maxLen w (n + cs.length) n 5 (by unfold maxLen; omega)
  have hll : (bs ++ cs).length = n + cs.length := by rw [List.length_append, hn]
  refine ⟨_, _, _, hrun, ⟨_, _, by rw [hll], by omega, by unfold maxLen at hcm; omega, by omega, .inr ⟨w.heap.size, _, rfl, Nat.le_refl _, heap_alloc_new w.drew _, ?_, ?_⟩⟩, ((Below.refl w.heap.size w).drew).alloc (by simp) _⟩
  · simp only [Array.size_append, List.size_toArray, size_zeroCells, List.length_map]
    simp [Value.cells]
    omega
  · simp only [Array.toList_append, List.append_assoc]
    rw [← List.append_assoc, ← List.map_append, hll]
    have : ((bs ++ cs).map bcell).length = n + cs.length := by simp [hn]
    rw [← this]
    exact List.take_left
theorem step_fullB {w : World} {ops : Array Oper} {o : Oper} {a : Act} {K : Act → World → Prop} {Q : Exit → Act → World → Prop} {E : Prop} (hgd : o.guard = none) (s x : Operand)
    (ho : o.op = .call { callee := .builtin .append, args := #[s, x], argTypes := #[42, 42] }) (g ob n : Nat) (src : Value) (hs : a.eval s = .slice (some ⟨g, ob, none⟩) n n) (hx : a.eval x = src)
    (S S' : Nat → Prop) (bs cs : List UInt8) (hb : Byt w S (.slice (some ⟨g, ob, none⟩) n n) bs) (h : Byt w S' src cs) (hn : bs.length = n) (h0 : 0 < cs.length) (hl : n + cs.length ≤ 140737488355328)
    (hK : ∀ A c w', OwnF w' w.heap.size (.slice A (n + cs.length) c) (bs ++ cs) → fr w w' → K (a.put o.dst (.slice A (n + cs.length) c)) w') :
    if Region.wanted o (yielded ops a.tmps) = true then Oper.wp Tryz.prog o a w K Q else E := by
  have hw : Region.wanted o (yielded ops a.tmps) = true := by simp [Region.wanted, hgd]
  rw [if_pos hw]
  obtain ⟨A, c, w', hrun, h2, h3⟩ := run_append_fullB w o.type g ob n src S S' bs cs hb h hn h0 hl
  unfold Oper.wp execOp
  simp only [ho, resolve, invoke, builtin, Sem.run_bind, Sem.run_pure, Result.andThen_ok, List.map_toArray, List.map_cons, List.map_nil, hs, hx, hrun]
  exact hK A c w' h2 h3
theorem step_rowP {w : World} {ops : Array Oper} {o : Oper} {a : Act} {K : Act → World → Prop} {Q : Exit → Act → World → Prop} {E : Prop} (hgd : o.guard = none) (s x : Operand)
    (ho : o.op = .call { callee := .builtin .append, args := #[s, x], argTypes := #[76, 76] }) (base : Nat) (v : Value) (k : Nat) (xs : List Value) (hs : a.eval s = v) (hown : w.ownsRow base 78 2 v k xs)
    (g m : Nat) (news : List Value) (hx : a.eval x = .slice (some ⟨g, 0, none⟩) m m) (hn : news.length = m * 2) (hc : ∀ j u, news[j]? = some u → w.cell? ((⟨g, 0, none⟩ : Addr).add j) = some u) (h1c : ∀ u ∈ news, u.oneCell' = true) (hm : k + m ≤ 1048576) (hbase : base ≤ w.heap.size)
    (hK : ∀ v' w', w'.ownsRow base 78 2 v' (k + m) (xs ++ news) → w.grownBy w' v.ownBlock → (v'.ownBlock = v.ownBlock ∨ v'.ownBlock = some w.heap.size) → K (a.put o.dst v') w') :
    if Region.wanted o (yielded ops a.tmps) = true then Oper.wp Tryz.prog o a w K Q else E := by
  have hw : Region.wanted o (yielded ops a.tmps) = true := by simp [Region.wanted, hgd]
  rw [if_pos hw]
  obtain ⟨i0, hi, hz0, hz1, hz2⟩ := info_parts info65
  obtain ⟨v', w', hrun, h2, h3, _, h5⟩ := run_append_own_at (P := Tryz.prog) w base 76 o.type 78 i0 _ 2 48 Tryz.underlying76 hi hz0 hz1 hz2 rfl (by decide) v k xs hown ⟨g, 0, none⟩ m m news hn hc h1c (by unfold maxLen; omega) (by omega) hbase
  unfold Oper.wp execOp
  simp only [ho, resolve, invoke, builtin, Sem.run_bind, Sem.run_pure, Result.andThen_ok, List.map_toArray, List.map_cons, List.map_nil, hs, hx, hrun]
  exact hK v' w' h2 h3 h5
theorem noDefer_spec {ops : Array Oper} (h : (ops.toList.all fun o => match o.op with | .defer _ => false | _ => true) = true) : ∀ (i : Nat) (o : Oper), ops[i]? = some o → ∀ c, o.op ≠ .defer c := fun i o ho c hc => by
  have := List.all_eq_true.1 h o (Array.mem_toList_iff.2 (Array.mem_of_getElem? ho))
  rw [hc] at this
  cases this
theorem Only.cell' {S : Nat → Prop} {a b : World} (h : Only S a b) {B i : Nat} {v : Value} (hc : a.cell? ⟨B, i, none⟩ = some v) (hS : ¬ S B) : b.cell? ⟨B, i, none⟩ = some v :=
  (World.cell?_of_block (a := ⟨B, i, none⟩) (h.block B (World.block_lt_of_cell? a ⟨B, i, none⟩ hc) hS)).trans hc
end Go.Proofs.YtiffgjodbcploaaGreat
end
section
namespace Go.Proofs.YtiffgjodbcploaaGreat
set_option maxRecDepth 100000
open Go.RowKit
structure Fl where
  name : Nm
  data : List UInt8
  synced : Int
structure Pk where
  fs : List Fl
  ops : Int
  room : Int
  keep : List Int
  done : Int
  bytes : Int
  down : Bool
def Fd.fl (f : Fd) : Fl := ⟨f.name, f.data, f.synced⟩
def Dk.pk (d : Dk) : Pk := ⟨d.ns.map Fd.fl, d.ops, d.room, d.keep, d.done, d.bytes, d.down⟩
def findP (x : Nm) : List Fl → Option Fl
  | [] => none
  | f :: l => if f.name = x then some f else findP x l
def insP (f : Fl) : List Fl → List Fl
  | [] => [f]
  | g :: l => if f.name < g.name then f :: g :: l else if f.name = g.name then f :: l else g :: insP f l
def delP (x : Nm) : List Fl → List Fl
  | [] => []
  | f :: l => if f.name = x then delP x l else f :: delP x l
def updP (x : Nm) (g : Fl → Fl) (ns : List Fl) : List Fl := ns.map fun f => if f.name = x then g f else f
theorem findP_map (x : Nm) (ns : List Fd) : findP x (ns.map Fd.fl) = (findF x ns).map Fd.fl := by
  induction ns with
  | nil => rfl
  | cons f l ih =>
    show (if f.name = x then some f.fl else findP x (l.map Fd.fl)) = _
    unfold findF
    split
    · rfl
    · exact ih
theorem insP_map (f : Fd) (ns : List Fd) : insP f.fl (ns.map Fd.fl) = (insF f ns).map Fd.fl := by
  induction ns with
  | nil => rfl
  | cons g l ih =>
    show (if f.name < g.name then f.fl :: g.fl :: l.map Fd.fl else if f.name = g.name then f.fl :: l.map Fd.fl else g.fl :: insP f.fl (l.map Fd.fl)) = _
    unfold insF
    split
    · rfl
    · split
      · rfl
      · rw [ih]; rfl
theorem delP_map (x : Nm) (ns : List Fd) : delP x (ns.map Fd.fl) = (delF x ns).map Fd.fl := by
  induction ns with
  | nil => rfl
  | cons g l ih =>
    show (if g.name = x then delP x (l.map Fd.fl) else g.fl :: delP x (l.map Fd.fl)) = _
    unfold delF
    split
    · exact ih
    · rw [ih]; rfl
theorem updP_map (x : Nm) (g : Fd → Fd) (g' : Fl → Fl) (h : ∀ f, (g f).fl = g' f.fl) (ns : List Fd) : updP x g' (ns.map Fd.fl) = (updF x g ns).map Fd.fl := by
  unfold updP updF
  rw [List.map_map, List.map_map]
  refine List.map_congr_left fun f _ => ?_
  show (if f.name = x then g' f.fl else f.fl) = (if f.name = x then g f else f).fl
  split
  · rw [h]
  · rfl
/-- ready's answer. -/
def readyE (k : Pk) (ss : List Nm) : Int :=
  if k.down = true then 20 else if ss.all nameB = false then 23 else match ss with
    | [] => 0
    | x :: _ => if (findP x k.fs).isNone then 22 else 0
def crashes (k : Pk) : Bool := decide (0 ≤ k.ops) && decide (k.ops ≤ k.done)
def changeE (k : Pk) : Int := if crashes k = true then 20 else 0
def changeK (k : Pk) : Pk := if crashes k = true then { k with down := true } else { k with done := k.done + 1 }
def updK (k : Pk) (x : Nm) (g : Fl → Fl) : Pk := { k with fs := updP x g k.fs }
def syncE (k : Pk) (x : Nm) : Int := if readyE k [x] = 0 then changeE k else readyE k [x]
def syncK (k : Pk) (x : Nm) : Pk := if readyE k [x] = 0 then (if crashes k = true then changeK k else updK (changeK k) x fun f => { f with synced := f.data.length }) else k
def lenP (k : Pk) (x : Nm) : Nat := match findP x k.fs with | some f => f.data.length | none => 0
def deleteK (k : Pk) (x : Nm) : Pk := if readyE k [x] = 0 then (if crashes k = true then changeK k else { changeK k with fs := delP x k.fs, bytes := wrap64 (k.bytes - lenP k x) }) else k
def renameE (k : Pk) (x y : Nm) : Int := if readyE k [x, y] = 0 then changeE k else readyE k [x, y]
/-- the files behind a renaming. -/
def renFs (x y : Nm) (fs : List Fl) : List Fl := match findP x fs with | some f => insP { f with name := y } (delP x fs) | none => fs
def renameK (k : Pk) (x y : Nm) : Pk := if readyE k [x, y] = 0 then (if crashes k = true then changeK k else if x = y then changeK k else { changeK k with fs := renFs x y k.fs, bytes := if (findP y (delP x k.fs)).isSome = true then wrap64 (k.bytes - lenP k y) else k.bytes }) else k
def fullP (k : Pk) (n : Nat) : Bool := decide (0 ≤ k.room) && decide (wrap64 (k.room - k.bytes) < (n : Int))
/-- the files behind an Append. -/
def appFs (x : Nm) (b : List UInt8) (fs : List Fl) : List Fl := updP x (fun f => { f with data := f.data ++ b }) (if (findP x fs).isSome = true then fs else insP ⟨x, [], 0⟩ fs)
def appendE (k : Pk) (x : Nm) (b : List UInt8) : Int := if readyE k [x] = 0 ∨ readyE k [x] = 22 then (if fullP k b.length = true then 21 else changeE k) else readyE k [x]
def appendK (k : Pk) (x : Nm) (b : List UInt8) : Pk := if readyE k [x] = 0 ∨ readyE k [x] = 22 then (if fullP k b.length = true then k else if crashes k = true then changeK k else { changeK k with fs := appFs x b k.fs, bytes := wrap64 (k.bytes + b.length) }) else k
end Go.Proofs.YtiffgjodbcploaaGreat
end
section
namespace Go.Proofs.YtiffgjodbcploaaGreat
set_option maxRecDepth 100000
open Go.RowKit Go.BigFrame Go.Sort Go.Shelf Go.Lib Go.Maps
attribute [local go_sem ↓] Go.wp_at_zero Go.wp_at_succ
structure FileV (w : World) (F : Nat → Prop) (f : Fd) : Prop where
  cells : w.heap[f.blk]? = some (.cells #[f.sl, .int .i64 f.synced] 91 (0, 0))
  own : OwnB w F f.sl f.data
  lo : F f.blk
/-- the plan's own copy of the numbers. -/
def KeepV (w : World) (F : Nat → Prop) (kv : Value) (keep : List Int) : Prop :=
  ∃ A c, kv = .slice A keep.length c ∧ keep.length ≤ c ∧ keep.length ≤ 140737488355328 ∧ (0 < keep.length → ∃ (g o : Nat) (cs : Array Value), A = some ⟨g, o, none⟩ ∧ F g ∧ w.heap[g]? = some (.cells cs 3 (0, 0)) ∧ ∀ j z, keep[j]? = some z → cs[o + j]? = some (.int .i64 z))
structure DiskV (w : World) (F : Nat → Prop) (p mb : Nat) (kv : Value) (d : Dk) : Prop where
  head : w.heap[p]? = some (.cells #[.map (some mb), .int .i64 d.ops, .int .i64 d.room, kv, .int .i64 d.done, .int .i64 d.bytes, .bool d.down] 68 (0, 0))
  map : ∃ D, w.ownsMap Tryz.prog 9 ptrR mb d.ns.length D ∧ MapIs D d.ns
  files : ∀ f ∈ d.ns, FileV w F f
  keep : KeepV w F kv d.keep
  names : ∀ f ∈ d.ns, nameB f.name = true
  sorted : sortedF d.ns
  blks : d.ns.Pairwise fun a b => a.blk ≠ b.blk
  sls : d.ns.Pairwise fun a b => ∀ g, blkB a.sl = some g → blkB b.sl ≠ some g
  loP : F p
  loM : F mb
/-- a disk at p that is k. -/
def DiskP (w : World) (F : Nat → Prop) (p : Nat) (k : Pk) : Prop := ∃ mb kv d, DiskV w F p mb kv d ∧ d.pk = k
section
variable {w w' : World} {F : Nat → Prop} {p mb : Nat} {kv : Value} {d : Dk}
theorem KeepV.kept {keep : List Int} (h : KeepV w F kv keep) (hk : ∀ g cs, F g → w.heap[g]? = some (.cells cs 3 (0, 0)) → w'.heap[g]? = w.heap[g]?) : KeepV w' F kv keep := by
  obtain ⟨A, c, e, h1, h2, h3⟩ := h
  refine ⟨A, c, e, h1, h2, fun hn => ?_⟩
  obtain ⟨g, o, cs, e1, e2, e3, e4⟩ := h3 hn
  exact ⟨g, o, cs, e1, e2, (hk g cs e2 e3).trans e3, e4⟩
theorem FileV.below {f : Fd} (h : FileV w F f) (hb : Below w.heap.size w w') : FileV w' F f :=
  ⟨(hb.block _ (Array.getElem?_eq_some_iff.1 h.cells).1).trans h.cells, h.own.below hb, h.lo⟩
theorem DiskV.ltP (h : DiskV w F p mb kv d) : p < w.heap.size := (Array.getElem?_eq_some_iff.1 h.head).1
theorem DiskV.ltM (h : DiskV w F p mb kv d) : mb < w.heap.size := by obtain ⟨D, h, _⟩ := h.map; exact h.lt
theorem ownsMap_block {D : DataW Unit} {n : Nat} (h : w.ownsMap Tryz.prog 9 ptrR mb n D) (he : w'.heap[mb]? = w.heap[mb]?) : w'.ownsMap Tryz.prog 9 ptrR mb n D := by
  obtain ⟨es, clock, hb, r⟩ := h
  exact ⟨es, clock, he.trans hb, r⟩
/-- the disk stands where none of its blocks turns. -/
theorem DiskV.kept (h : DiskV w F p mb kv d) (hk : ∀ i, F i → i < w.heap.size → w'.heap[i]? = w.heap[i]?) : DiskV w' F p mb kv d := by
  obtain ⟨D, hm, hD⟩ := h.map
  refine ⟨(hk p h.loP h.ltP).trans h.head, ⟨D, ownsMap_block hm (hk mb h.loM h.ltM), hD⟩, fun f hf => ?_, h.keep.kept fun g cs hg hc => hk g hg (Array.getElem?_eq_some_iff.1 hc).1, h.names, h.sorted, h.blks, h.sls, h.loP, h.loM⟩
  have hv := h.files f hf
  exact ⟨(hk _ hv.lo (Array.getElem?_eq_some_iff.1 hv.cells).1).trans hv.cells, hv.own.kept fun g hg => hk g (hv.own.blk hg).1 (hv.own.blk hg).2.2, hv.lo⟩
theorem DiskV.below (h : DiskV w F p mb kv d) (hb : Below w.heap.size w w') : DiskV w' F p mb kv d := h.kept fun i _ hi => hb.block i hi
theorem DiskV.only {S : Nat → Prop} (h : DiskV w F p mb kv d) (ho : Only S w w') (hS : ∀ i, S i → ¬ F i) : DiskV w' F p mb kv d := h.kept fun i hb hi => ho.block i hi fun hs => hS i hs hb
theorem DiskP.below {k : Pk} (h : DiskP w F p k) (hb : Below w.heap.size w w') : DiskP w' F p k := by
  obtain ⟨mb, kv, d, h, e⟩ := h
  exact ⟨mb, kv, d, h.below hb, e⟩
theorem DiskP.only {S : Nat → Prop} {k : Pk} (h : DiskP w F p k) (ho : Only S w w') (hS : ∀ i, S i → ¬ F i) : DiskP w' F p k := by
  obtain ⟨mb, kv, d, h, e⟩ := h
  exact ⟨mb, kv, d, h.only ho hS, e⟩
theorem FileV.mono {F' : Nat → Prop} {f : Fd} (h : FileV w F f) (hF : ∀ i, F i → i < w.heap.size → F' i) : FileV w F' f := by
  refine ⟨h.cells, ?_, hF _ h.lo (Array.getElem?_eq_some_iff.1 h.cells).1⟩
  obtain ⟨A, c, e, h1, h2, h3, h4⟩ := h.own
  exact ⟨A, c, e, h1, h2, h3, h4.imp id fun ⟨g, cur, a, b, e1, r⟩ => ⟨g, cur, a, hF g b (Array.getElem?_eq_some_iff.1 e1).1, e1, r⟩⟩
theorem KeepV.mono {F' : Nat → Prop} {keep : List Int} (h : KeepV w F kv keep) (hF : ∀ i, F i → i < w.heap.size → F' i) : KeepV w F' kv keep := by
  obtain ⟨A, c, e, h1, h2, h3⟩ := h
  refine ⟨A, c, e, h1, h2, fun hn => ?_⟩
  obtain ⟨g, o, cs, e1, e2, e3, e4⟩ := h3 hn
  exact ⟨g, o, cs, e1, hF g e2 (Array.getElem?_eq_some_iff.1 e3).1, e3, e4⟩
/-- another set that holds the disk's blocks. -/
theorem DiskV.mono {F' : Nat → Prop} (h : DiskV w F p mb kv d) (hF : ∀ i, F i → i < w.heap.size → F' i) : DiskV w F' p mb kv d :=
  ⟨h.head, h.map, fun f hf => (h.files f hf).mono hF, h.keep.mono hF, h.names, h.sorted, h.blks, h.sls, hF p h.loP h.ltP, hF mb h.loM h.ltM⟩
theorem DiskP.mono {F' : Nat → Prop} {k : Pk} (h : DiskP w F p k) (hF : ∀ i, F i → i < w.heap.size → F' i) : DiskP w F' p k := by
  obtain ⟨mb, kv, d, h, e⟩ := h
  exact ⟨mb, kv, d, h.mono hF, e⟩
/-- the blocks of F and whatever is laid from n on. -/
def orNew (F : Nat → Prop) (n i : Nat) : Prop := F i ∨ n ≤ i
/-- the head's cells. -/
theorem DiskV.cell (h : DiskV w F p mb kv d) : w.cell? ⟨p, 0, none⟩ = some (.map (some mb)) ∧ w.cell? ⟨p, 1, none⟩ = some (.int .i64 d.ops) ∧ w.cell? ⟨p, 2, none⟩ = some (.int .i64 d.room) ∧ w.cell? ⟨p, 3, none⟩ = some kv ∧ w.cell? ⟨p, 4, none⟩ = some (.int .i64 d.done) ∧ w.cell? ⟨p, 5, none⟩ = some (.int .i64 d.bytes) ∧ w.cell? ⟨p, 6, none⟩ = some (.bool d.down) := by
  refine ⟨?_, ?_, ?_, ?_, ?_, ?_, ?_⟩ <;> (rw [cell_of_row w p _ _ _ _ h.head]; rfl)
theorem DiskV.frozen (h : DiskV w F p mb kv d) (i : Nat) : w.frozen? ⟨p, i, none⟩ = false := frozen_of_row w p i _ _ h.head
/-- a store into the head. -/
theorem DiskV.store (h : DiskV w F p mb kv d) (i : Nat) (v : Value) (d' : Dk) (kv' : Value) (hn : d'.ns = d.ns) (hkp : KeepV w F kv' d'.keep)
    (hc : #[Value.map (some mb), .int .i64 d'.ops, .int .i64 d'.room, kv', .int .i64 d'.done, .int .i64 d'.bytes, .bool d'.down] = (#[Value.map (some mb), .int .i64 d.ops, .int .i64 d.room, kv, .int .i64 d.done, .int .i64 d.bytes, .bool d.down] : Array Value).setIfInBounds i v) : DiskV (w.setCell ⟨p, i, none⟩ v) F p mb kv' d' := by
  obtain ⟨D, hm, hD⟩ := h.map
  have hne : ∀ j, j ≠ p → (w.setCell ⟨p, i, none⟩ v).heap[j]? = w.heap[j]? := fun j hj => heap_setCell_other w ⟨p, i, none⟩ j v hj
  have hty : ∀ j cs (t : TypeId), w.heap[j]? = some (.cells cs t (0, 0)) → t ≠ 68 → j ≠ p := fun j cs t hj ht e => by
    subst e
    rw [h.head] at hj
    injection hj with hj
    injection hj with _ hj
    exact ht hj.symm
  have hmp : mb ≠ p := by
    rintro rfl
    obtain ⟨es, clock, hb, _⟩ := hm
    rw [h.head] at hb
    cases hb
  refine ⟨?_, ⟨D, by rw [hn]; exact ownsMap_block hm (hne mb hmp), by rw [hn]; exact hD⟩, fun f hf => ?_, hkp.kept fun g cs hg hcs => hne g (hty g cs _ hcs (by decide)), by rw [hn]; exact h.names, by rw [hn]; exact h.sorted, by rw [hn]; exact h.blks, by rw [hn]; exact h.sls, h.loP, h.loM⟩
  · rw [hc]
    exact heap_setCell_same w p i _ _ v h.head
  · rw [hn] at hf
    have hv := h.files f hf
    exact ⟨(hne _ (hty _ _ _ hv.cells (by decide))).trans hv.cells, hv.own.kept fun g hg => hne g (by obtain ⟨cs, hL⟩ := (hv.own.blk hg).2.1; exact hty g cs _ hL (by decide)), hv.lo⟩
end
theorem law_str : Keyed Tryz.prog 9 := string_keyed Tryz.underlying9
theorem zero_ptr (w : World) : (zeroValue 89).run Tryz.prog w = .ok (.pointer none) w := by kernel_rfl
theorem key_str (x : Nm) (hl : x.length ≤ 140737488355328) : keyOf Tryz.prog 9 (.string ⟨x.toArray⟩) = some (.string x) := by
  have := WideMaps.keyOf_string_mk (P := Tryz.prog) (k := 9) Tryz.underlying9 (s := ⟨x.toArray⟩) (by simp [ByteArray.size, maxLen]; omega)
  simpa using this
/-- the look-up of a name. -/
theorem DiskV.look {w : World} {F : Nat → Prop} {p mb : Nat} {kv : Value} {d : Dk} (h : DiskV w F p mb kv d) (x : Nm) (hl : x.length ≤ 140737488355328) :
    (Instr.lookup 66 (.map (some mb)) (.string ⟨x.toArray⟩) false).run Tryz.prog w = .ok (ptrF (findF x d.ns)) w := by
  obtain ⟨D, hm, hD⟩ := h.map
  obtain ⟨v, ps, hrun, hR⟩ := hm.lookup law_str Tryz.underlying66 (zero_ptr w) (zd := .lit (.bool false)) (zp := []) rfl (key_str x hl)
  rw [hD.at_] at hR
  rw [hrun, ptrR_inv hR]
end Go.Proofs.YtiffgjodbcploaaGreat
end
