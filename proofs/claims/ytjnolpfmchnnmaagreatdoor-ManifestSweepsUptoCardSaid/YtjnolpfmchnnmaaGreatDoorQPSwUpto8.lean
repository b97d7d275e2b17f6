/-
varint.form, AppendUint, AppendBytes.
-/
import Derived.Test.YtjnolpfmchnnmaaGreatDoorQPSwUpto7
import Derived.Deep.Onto
import Derived.WalkMore
import Derived.Deep.Cut
import Derived.Deep.CutRange
import Derived.Deep.DeepCutAuto
import Derived.Test.YtjnolpfmchnnmaaGreatDoorQPSwUpto4
import Derived.Test.YtjnolpfmchnnmaaGreatDoorQPSwUpto3
import Derived.Lib.AppendZerosOnto
section
namespace Go.Proofs.YtjnolpfmchnnmaaGreatDoor
set_option maxRecDepth 100000
open Go.RowKit Go.BigFrame Go.Shelf
attribute [local go_sem ↓] Go.wp_at_zero Go.wp_at_succ
attribute [local go_sem] Oper.semAt_some
theorem Grows.box2 {te e : TypeId} {size n₀ B b : Nat} {T : Nat → Prop} {v u : Value} {k : Nat} {ys : List Value} {W : World} {t : TypeId} (h : Grows te e size n₀ B T v k ys W) (hb : Boxed W b t u) (h1 : t ≠ te) (h2 : t ≠ e) (u' : Value) : Grows te e size n₀ B T v k ys (W.setCell ⟨b, 0, none⟩ u') := by
  have hne : B ≠ b := fun he => by
    subst he
    have := hb.symm.trans h.box
    injection this with this
    injection this with _ this
    exact h1 this
  refine ⟨h.box.other hne _, own_only h.row (only_set W b 0 _) fun g hg he => ?_, h.set⟩
  obtain ⟨_, _, cur, hc⟩ := h.blk hg
  subst he
  have := hb.symm.trans hc
  injection this with this
  injection this with _ this
  exact h2 this
theorem Grows.push2 {te e : TypeId} {size n₀ B : Nat} {T : Nat → Prop} {v v' : Value} {k k' sA : Nat} {ys ys' : List Value} {W w2 : World} {tmp : Obj} (h : Grows te e size n₀ B T v k ys W) (hte : te ≠ e) (hs : sA ≤ W.heap.size)
    (hown : w2.ownsRow n₀ e size v' k' ys') (hg : (W.alloc tmp).grownBy w2 v.ownBlock) (hat : v'.ownBlock = v.ownBlock ∨ v'.ownBlock = some (W.alloc tmp).heap.size) :
    Boxed w2 B te v ∧ Grows te e size n₀ B (fun i => i = B ∨ v'.ownBlock = some i) v' k' ys' (w2.setCell ⟨B, 0, none⟩ v') ∧ Grew sA T (fun i => i = B ∨ v'.ownBlock = some i) ∧ Only (fun i => T i ∨ sA ≤ i) W (w2.setCell ⟨B, 0, none⟩ v') := by
  have h1 : Boxed w2 B te v := (h.box.alloc tmp).kept hg (h.box.not_row hte h.row)
  have h2 := h1.set v'
  have h3 : (w2.setCell ⟨B, 0, none⟩ v').ownsRow n₀ e size v' k' ys' := hown.kept (grownBy_setCell' w2 B v') (.inr (h1.not_row hte hown).symm)
  refine ⟨h1, ⟨h2, h3, fun i => Iff.rfl⟩, fun i hi => ?_, hg.os, hg.tape, hg.output, ?_, fun i hi hS => ?_⟩
  · rcases hi with rfl | hi
    · exact .inl ((h.set _).2 (.inl rfl))
    · rcases hat with hat | hat
      · exact .inl ((h.set _).2 (.inr (hat ▸ hi)))
      · rw [hat] at hi
        injection hi with hi
        simp at hi
        omega
  · have := hg.size
    simp at this
    simp [World.setCell]
    omega
  · have hb : i ≠ B := fun e => hS (.inl ((h.set _).2 (.inl e)))
    have hv : some i ≠ v.ownBlock := fun e => hS (.inl ((h.set _).2 (.inr e.symm)))
    exact (heap_setCell_other w2 ⟨B, 0, none⟩ i v' hb).trans ((hg.block i (by simp; omega) hv).trans (Below.heap_alloc W tmp i hi))
theorem Grows.idle2 {te e : TypeId} {size n₀ B : Nat} {T Z : Nat → Prop} {v : Value} {k base : Nat} {ys : List Value} {W W' : World} (h : Grows te e size n₀ B T v k ys W) (hi : Idle Z base W W') (hZ : ∀ i, Z i → i < n₀) (hB : ¬ Z B) : Grows te e size n₀ B T v k ys W' := by
  refine ⟨hi.cells hB h.box rfl, own_only h.row hi fun g hg hS => ?_, h.set⟩
  obtain ⟨h1, _, cur, h2⟩ := h.blk hg
  rcases hS with hz | ⟨_, o, ho, hc⟩
  · have := hZ _ hz; omega
  · rw [h2] at ho
    injection ho with ho
    subst ho
    cases hc
theorem cell_one_new (w : World) (a : Value) (t : TypeId) : ∀ j u, [a][j]? = some u → (w.alloc (.cells #[a] t)).cell? ((⟨w.heap.size, 0, none⟩ : Addr).add j) = some u := by
  intro j u hu
  rw [Addr.add_lit, World.cell?_alloc_at _ _ _ _ rfl]
  simpa using hu
theorem boxedIdle {Z : Nat → Prop} {base B : Nat} {t : TypeId} {v : Value} {W W' : World} (h : Boxed W B t v) (hi : Idle Z base W W') (hB : ¬ Z B) : Boxed W' B t v := hi.cells hB h rfl
theorem All2.bvIdle {lo base : Nat} {T Z : Nat → Prop} {W W' : World} {l : List (List UInt8)} {m : List (List Value)} (h : All2 (bvR W (fun i => (lo ≤ i ∧ ¬ T i) ∧ Loose W i)) l m) (hi : Idle Z base W W') (hZ : ∀ i, lo ≤ i ∧ ¬ T i → ¬ Z i) : All2 (bvR W' (fun i => (lo ≤ i ∧ ¬ T i) ∧ Loose W' i)) l m :=
  h.imp fun _ _ h => by
    obtain ⟨v, e, h⟩ := h
    exact ⟨v, e, h.idle hi hZ⟩
def CollF (z lo : Nat) (Z : Nat → Prop) (w : World) (pre : List FrE) (T : Nat → Prop) (W : World) : Prop :=
  ∃ v css T1 g, Grows 22 35 1 lo z T1 v pre.length css.flatten W ∧ (∀ i, T i ↔ T1 i ∨ i = z + 1) ∧ Boxed W (z + 1) 3 (.int .i64 g) ∧ All2 (bvR W (fun i => (lo ≤ i ∧ ¬ T i) ∧ Loose W i)) (pre.map fun x => x.2.2) css ∧ Only Z w W
abbrev frC (b o n c z : Nat) : Nat → Value → Array Value := fun q v => #[.slice (some ⟨b, o, none⟩) n c, undef, .slice none 0 0, .int .i64 0, .int .i64 0, .pointer (some ⟨z, 0, none⟩), .pointer (some ⟨z + 1, 0, none⟩), .pointer (some ⟨z + 1 + 1, 0, none⟩), .int .i64 q, v, .slice (some ⟨b, o, none⟩) n c,
  .func (.func 191) #[] #[.pointer (some ⟨z + 1 + 1 + 1, 0, none⟩), .pointer (some ⟨z + 1 + 1 + 1 + 1, 0, none⟩)], .int .i64 q, v, undef, undef, undef, undef, undef, undef, undef, undef, undef, undef]
def AxF (N lo : Nat) (fr0 : Nat → Value → Array Value) (pre : List FrE) (T : Nat → Prop) (x : FrE) (a : Act) (W : World) : Prop :=
  pre.length < N ∧ OkF lo T x W ∧ a = { tmps := fr0 x.1 x.2.1, defers := [] }
theorem slice_of {w : World} {S : Nat → Prop} {v : Value} {bs : List UInt8} (h : Byt w S v bs) : ∃ A c, v = .slice A bs.length c := by
  obtain ⟨A, c, e, _⟩ := h
  exact ⟨A, c, e⟩
set_option maxRecDepth 100000 in
set_option maxHeartbeats 4000000 in
theorem all_ok (S : Nat → Prop) (b o n c : Nat) (rs : List (List UInt8)) (w : World) (hv : Byt w S (.slice (some ⟨b, o, none⟩) n c) (frB rs)) (hn : (frB rs).length = n) (hn40 : n ≤ 1099511627776) (hrs : ∀ p ∈ rs, p.length ≤ 2097152) :
    Calls Tryz.prog 66 #[.slice (some ⟨b, o, none⟩) n c] w fun r w' => ∃ (v : Value) (g : Int), r = .returned (.tuple #[v, .int .i64 g, .int .i64 0]) ∧ OwnRows bvR 1 35 w' w.heap.size v rs ∧ fr w w' := by
  have hvl : Byt w (fun i => i < w.heap.size) (.slice (some ⟨b, o, none⟩) n c) (frB rs) := hv.monoLt fun _ h _ => h
  obtain ⟨i0, hi, hz0, hz1, hz2⟩ := info_parts infoB
  have hmany : rs.length * 8 ≤ n := by rw [← hn]; exact frB_many rs
  have HP : Hid (∀ w1, fr w w1 → Boxed w1 (w.heap.size + 1 + 1) 31 (.int .i64 0) → w1.heap.size = w.heap.size + 1 + 1 + 1 →
      Calls Tryz.prog 120 #[.slice (some ⟨b, o, none⟩) n c, .pointer (some ⟨w.heap.size + 1 + 1, 0, none⟩)] w1 fun r w2 => r = .returned (.func (.func 191) #[] #[.pointer (some ⟨w.heap.size + 1 + 1 + 1, 0, none⟩), .pointer (some ⟨w.heap.size + 1 + 1 + 1 + 1, 0, none⟩)]) ∧ PairsK w2 (w.heap.size + 1 + 1 + 1) (w.heap.size + 1 + 1) b o n c (fun i => i < w.heap.size) (frB rs) ∧ fr w1 w2 ∧ w2.heap.size = w.heap.size + 1 + 1 + 1 + 1 + 1) := Lib.hid fun w1 hf hb hz => by
    have p1 := Boxed.new w1 35 (.slice (some ⟨b, o, none⟩) n c)
    have p2 := Boxed.new (w1.alloc (.cells #[.slice (some ⟨b, o, none⟩) n c] 35)) 206 (.pointer (some ⟨w.heap.size + 1 + 1, 0, none⟩))
    rw [World.size_alloc, hz] at p2
    rw [hz] at p1
    have hf2 : fr w1 ((w1.alloc (.cells #[.slice (some ⟨b, o, none⟩) n c] 35)).alloc (.cells #[.pointer (some ⟨w.heap.size + 1 + 1, 0, none⟩)] 206)) := fr.alloc (fr.alloc fr.refl _) _
    have hK : PairsK ((w1.alloc (.cells #[.slice (some ⟨b, o, none⟩) n c] 35)).alloc (.cells #[.pointer (some ⟨w.heap.size + 1 + 1, 0, none⟩)] 206)) (w.heap.size + 1 + 1 + 1) (w.heap.size + 1 + 1) b o n c (fun i => i < w.heap.size) (frB rs) := ⟨p1.alloc _, p2, boxedFr hb hf2, (hvl.below hf).below hf2⟩
    have HK := Lib.hid hK
    have HF := Lib.hid hf2
    have HZ := Lib.hid hz
    clear p1 p2 hf2 hK hf hb hz
    go_enter Tryz.func120, Tryz.ntmps120
    go_wp2
    go_ret
    rw [HZ.out]
    exact ⟨rfl, HK.out, HF.out, by simp [HZ.out]⟩
  refine (callsIn_wide (n := 1)).1 ?_
  refine callsIn_of_wp_marks Tryz.func66 rfl trivial ?_
  simp only [Tryz.ntmps66, List.size_toArray, List.length_cons, List.length_nil, Nat.reduceAdd, Nat.reduceSub, Array.replicate_succ, Array.replicate_zero, List.push_toArray, List.append_toArray, List.nil_append, List.cons_append]
  have bz := Boxed.new w 22 (.slice none 0 0)
  have be := Boxed.new (w.alloc (.cells #[.slice none 0 0] 22)) 3 (.int .i64 0)
  have bw := Boxed.new ((w.alloc (.cells #[.slice none 0 0] 22)).alloc (.cells #[.int .i64 0] 3)) 31 (.int .i64 0)
  simp only [World.size_alloc] at be bw
  have HBZ := Lib.hid ((bz.alloc (.cells #[.int .i64 0] 3)).alloc (.cells #[.int .i64 0] 31))
  have HBE := Lib.hid (be.alloc (.cells #[.int .i64 0] 31))
  have hA : fr w (((w.alloc (.cells #[.slice none 0 0] 22)).alloc (.cells #[.int .i64 0] 3)).alloc (.cells #[.int .i64 0] 31)) := fr.alloc (fr.alloc (fr.alloc fr.refl _) _) _
  have HA := Lib.hid hA
  have HC := Lib.hid (HP.out _ hA bw (by simp))
  have HN := Lib.hid hn
  have HRS := Lib.hid hrs
  clear bz be bw hA HP hn hrs hv hvl
  gi_wp2_with (refine ⟨trivial, ?_⟩; refine (callsIn_wide.2 HC.out).mono ?_; rintro r w2 ⟨rfl, hK2, hf2, hz2'⟩)
  have HBZ2 := Lib.hid (boxedFr HBZ.out hf2)
  have HBE2 := Lib.hid (boxedFr HBE.out hf2)
  have HF2 := Lib.hid (fr.step HA.out hf2)
  obtain ⟨z, hz⟩ : ∃ z, w.heap.size = z := ⟨_, rfl⟩
  rw [hz] at HBZ2 HBE2 hK2 hz2' ⊢
  refine range_tells rfl (by omega) (gf := 191) (lb := _) rfl trivial (enters_of Tryz.func191 (by kernel_rfl) rfl)
    (frames_tells 0 w2 _ _ b o n c _ rs hK2 (by omega) (fun i h => by omega) HN.out hn40 HRS.out) (fun i h => h.1) (fun i h => ⟨by omega, .inr (.inr (.inl h))⟩) (fun pre T T' x A hT h => ⟨h.1.anti hT, h.2⟩)
    (fun xs A B h hi => ⟨h.1, boxedIdle h.2 hi (fun h => h)⟩) (fun xs A B h hi => trivial) (fun _ => rfl)
    (CollF z w2.heap.size (fun i => z ≤ i) w2) (fun _ _ _ _ => False) ?still (fun _ _ _ _ _ h => h.elim) (fun i => i = z ∨ i = z + 1) (fun i hi => ⟨by omega, by omega⟩)
    ⟨.slice none 0 0, [], fun i => i = z, 0, ⟨HBZ2.out, World.ownsRow_nil _ _ _ _, fun i => by simp [Value.ownBlock]⟩, fun i => Iff.rfl, HBE2.out, .nil, Only.refl _ _⟩
    (AxF rs.length w2.heap.size (frC b o n c z)) ?ax ?assign ?body ?done (fun _ _ _ _ _ _ _ _ h => h.elim) ?lt (fun _ _ _ _ _ h => h.elim)
  case still =>
    rintro pre T A B ⟨v, css, T1, g, h1, h2, h3, h4, h5⟩ hi
    exact ⟨v, css, T1, g, h1.idle2 hi (fun i h => by omega) (by omega), h2, boxedIdle h3 hi (by omega), h4.bvIdle hi (fun i h h' => by omega), h5.idle (hi.wide fun i h => by omega) (Nat.le_refl _)⟩
  case lt =>
    rintro pre T W i ⟨v, css, T1, g, h1, h2, h3, h4, h5⟩ hT
    rcases (h2 i).1 hT with h | rfl
    · exact h1.lt h
    · exact h3.lt
  case ax =>
    rintro pre T x a' A B ⟨hN, hx, rfl⟩ hi
    exact ⟨hN, hx.idle hi (fun i h h' => by omega), rfl⟩
  case assign =>
    rintro l pre T x W K hi' ⟨hx, hN⟩ hK
    gi_wp2
    refine hK _ _ (fr.refl) hi' ⟨hN, hx, ?_⟩
    rfl
  case body =>
    rintro l pre T x a' sA W hl hlA hrec hTs hsA ⟨v, css, T1, g, hgr, hT1, hbe, hall, hon⟩ ⟨hN, hx, rfl⟩
    obtain ⟨Ax, cx, hxe⟩ := slice_of hx
    obtain ⟨q, xv, p⟩ := x
    dsimp only at hxe hx
    subst hxe
    have hc := hgr.box.cell
    have HG := Lib.hid hgr
    have HBEW := Lib.hid hbe
    have HALL := Lib.hid hall
    have HON := Lib.hid hon
    have HX := Lib.hid hx
    have HT1 := Lib.hid hT1
    have hzW : w2.heap.size ≤ W.heap.size := hon.size
    have hrow := hgr.row
    have hT1e : ¬ T1 (z + 1) := fun h => by
      rcases (hgr.set _).1 h with h | h
      · omega
      · have := (hgr.blk h).1; omega
    have HT1E := Lib.hid hT1e
    clear hgr hbe hall hon hx hT1 hTs hrec hl hlA hT1e
    gi_wp2_with (gi_at_builtin; refine wpListIn_append_at _ rfl _ _ 22 rfl w2.heap.size 35 i0 _ 1 24 Tryz.underlying22 hi hz0 hz1 hz2 rfl (by decide) _ _ _ rfl (hrow.alloc _) ⟨W.heap.size, 0, none⟩ 1 1 [.slice Ax p.length cx] rfl rfl (cell_one_new _ _ _) (by simp [Value.oneCell']) (by unfold maxLen; omega) (by omega) (by simp; omega) ?_; intro v' w3 hown' hgrow hat; obtain ⟨g', cap', rfl⟩ := ownsRow_succ hown'; obtain ⟨hv1, hg2, hgT, ho2⟩ := HG.out.push2 (by decide) (Nat.le_refl _) hown' hgrow hat; have hc1 := hv1.cell; have hf1 := hv1.frozen; have hb2 := boxedOnly HBEW.out ho2 (fun h => h.elim HT1E.out fun h => by have := HBEW.out.lt; omega); have hf2 := hb2.frozen; have hc2 := hb2.cell)
    have ho3 : Only (fun i => T i ∨ W.heap.size ≤ i) W ((w3.setCell ⟨z, 0, none⟩ (.slice (some ⟨g', 0, none⟩) (pre.length + 1) cap')).setCell ⟨z + 1, 0, none⟩ (.int .i64 q)) :=
      Only.trans (Only.mono ho2 fun i h => h.imp (fun h => (HT1.out i).2 (.inl h)) id) (Only.mono (only_set _ (z + 1) 0 _) fun i h => .inl ((HT1.out i).2 (.inr h)))
    have hg3 : Grew W.heap.size T (fun i => (i = z ∨ (Value.slice (some ⟨g', 0, none⟩) (pre.length + 1) cap').ownBlock = some i) ∨ i = z + 1) := fun i h => by
      rcases h with h | h
      · exact (hgT i h).imp (fun h => (HT1.out i).2 (.inl h)) id
      · exact .inl ((HT1.out i).2 (.inr h))
    refine ⟨_, fun i h => (hg3 i h).imp id fun h => Nat.le_trans hsA h, Only.mono ho3 fun i h => h.imp id fun h => Nat.le_trans hsA h, .slice (some ⟨g', 0, none⟩) (pre.length + 1) cap', css ++ [[.slice Ax p.length cx]], _, q, ?_, fun i => Iff.rfl, hb2.set _, ?_, ?_⟩
    · rw [List.length_append, List.flatten_append]
      exact hg2.box2 hb2 (by decide) (by decide) _
    · rw [List.map_append]
      exact (All2.imp (fun _ _ h => by obtain ⟨v, e, h⟩ := h; exact ⟨v, e, h.grewT hg3 ho3⟩) HALL.out).snoc ⟨_, rfl, Byt.grewT HX.out hg3 ho3⟩
    · have h0 := HON.out
      refine ⟨ho3.os.trans h0.os, ho3.tape.trans h0.tape, ho3.output.trans h0.output, Nat.le_trans h0.size ho3.size, fun i hlt hn => (ho3.block i (by omega) ?_).trans (h0.block i hlt hn)⟩
      rintro (h | h)
      · rcases (HT1.out i).1 h with h | h
        · rcases (HG.out.set i).1 h with h | h
          · omega
          · have := (HG.out.blk h).1
            omega
        · omega
      · omega
  case done =>
    rintro D' xs T W hD' hTs ⟨hs, hbw⟩ ⟨v, css, T1, g, hgr, hT1, hbe, hall, hon⟩ hK
    have hc := hgr.box.cell
    have k3 := hbw.cell
    have z3 := hbw.frozen
    have HD := Lib.hid hD'
    gi_wp2
    have hidW : Idle (fun i => i = z + 1 + 1) w2.heap.size W (W.setCell ⟨z + 1 + 1, 0, none⟩ (.int .i64 0)) := Idle.of_only (only_set W (z + 1 + 1) 0 _)
    have hgr3 := hgr.idle2 hidW (fun i h => by omega) (by omega)
    have hbe3 := boxedIdle hbe hidW (by omega)
    have hbw3 := hbw.set (.int .i64 0)
    have hall3 := hall.bvIdle hidW (fun i h h' => by omega)
    have hon3 := hon.idle (hidW.wide fun i h => by omega) (Nat.le_refl _)
    have hK3 : (W.setCell ⟨z + 1 + 1, 0, none⟩ (.int .i64 0)).heap[D']? = some (.deferred (some [])) := (heap_setCell_other W ⟨z + 1 + 1, 0, none⟩ D' _ (by show D' ≠ z + 1 + 1; have := HD.out; omega)).trans hK
    generalize W.setCell ⟨z + 1 + 1, 0, none⟩ (.int .i64 0) = W3 at hgr3 hbe3 hbw3 hall3 hon3 hK3 ⊢
    clear hidW hgr hbe hbw hall hon hK hc k3 z3
    have c0 := hgr3.box.cell
    have c1 := hbe3.cell
    have c2 := hbw3.cell
    refine (wpIn_wide (n := 1)).2 ?_
    go_quiet (fail)
    have HD2 := Lib.hid hK3
    have hL : xs.length = rs.length := by rw [← hs]; simp
    have HL := Lib.hid hL
    have HS := Lib.hid hs
    have HT1 := Lib.hid hT1
    have HTS := Lib.hid hTs
    clear hK3 hL hs hT1 hTs c0 c1 c2
    gi_wp2
    refine ⟨by simp, .inl ⟨_, _, rfl, run_takeDeferred HD2.out, ?_⟩⟩
    have hid : Idle (fun _ => False) w2.heap.size W3 ((W3.drewN nq).putObj D' (.deferred none)) := Idle.trans (Idle.of_below (show fr W3 (W3.drewN nq) from ⟨rfl, rfl, rfl, Nat.le_refl _, fun _ _ => rfl⟩)) (Idle.putObj (A := W3.drewN nq) HD.out HD2.out rfl)
    have hgr4 := hgr3.idle2 hid (fun i h => h.elim) (fun h => h)
    have hall4 := hall3.bvIdle hid (fun i h h' => h')
    have hon4 := hon3.idle (hid.wide fun i h => h.elim) (Nat.le_refl _)
    rw [HL.out] at hgr4
    rw [HS.out] at hall4
    refine ⟨.tuple #[v, .int .i64 g, .int .i64 0], by simp [results, Tryz.results66, go_sem], v, g, rfl, ⟨css, hgr4.row.mono (by omega), hall4.imp fun _ _ h => by
      obtain ⟨u, e, h⟩ := h
      exact ⟨u, e, h.mono fun i hi => ⟨by omega, fun hv => hi.1.2 ((HT1.out i).2 (.inl ((hgr4.set i).2 (.inr hv)))), hi.2⟩⟩⟩, ?_⟩
    have h0 := HF2.out
    refine ⟨hon4.os.trans h0.os, hon4.tape.trans h0.tape, hon4.output.trans h0.output, Nat.le_trans h0.size hon4.size, fun i hi => (hon4.block i (by omega) (by omega)).trans (h0.block i hi)⟩
end Go.Proofs.YtjnolpfmchnnmaaGreatDoor
end
section
namespace Go.Proofs.YtjnolpfmchnnmaaGreatDoor
set_option maxRecDepth 100000
open Go.RowKit Go.BigFrame Go.Sort Go.Shelf Go.Lib
attribute [local go_sem ↓] Go.wp_at_zero Go.wp_at_succ
structure PreOk (pre : Nm) : Prop where
  one : pre ≠ []
  few : pre.length ≤ 8
  low : pre.all lowB = true
theorem OwnRows.pushAll {α : Type} {R : Rd α} {k : Nat} (hR : Fine R k) {base lo : Nat} {w w2 : World} {v v' lv : Value} {xs ls : List α} {css css2 : List (List Value)} {t : TypeId} (hys : All2 (R w (freshL w base v)) xs css) (hls : All2 (R w (freshL w lo lv)) ls css2) (hlo : ∀ j, v.ownBlock = some j → j < lo) (hbase : base ≤ lo)
    (hg : w.grownBy w2 v.ownBlock) (hat : v'.ownBlock = v.ownBlock ∨ v'.ownBlock = some w.heap.size) (hown' : w2.ownsRow base t k v' (xs.length + ls.length) (css.flatten ++ css2.flatten)) : OwnRows R k t w2 base v' (xs ++ ls) := by
  have app : ∀ {l m : List α} {c d : List (List Value)}, All2 (R w2 (freshL w2 base v')) l c → All2 (R w2 (freshL w2 base v')) m d → All2 (R w2 (freshL w2 base v')) (l ++ m) (c ++ d) := fun h1 h2 => by
    induction h1 with
    | nil => exact h2
    | cons h _ ih => exact .cons h ih
  refine ⟨css ++ css2, by rw [List.length_append, List.flatten_append]; exact hown', app (hys.imp fun _ _ hy => hR.keep hy fun A n sz ys hr => ?_) (hls.imp fun _ _ hy => hR.keep hy fun A n sz ys hr => ?_)⟩
  · exact hr.push (row := v) hg hat (fun i _ hs => hs.2.1) (fun i _ hs hn => ⟨hs.1, hn, hs.2.2.grown hg hs.2.1⟩)
  · have hne : ∀ i, lo ≤ i → v.ownBlock ≠ some i := fun i hi e => by have := hlo i e; omega
    exact hr.push (row := v) hg hat (fun i _ hs => hne i hs.1) (fun i _ hs hn => ⟨Nat.le_trans hbase hs.1, hn, hs.2.2.grown hg (hne i hs.1)⟩)
theorem Byt.some_of {w : World} {S : Nat → Prop} {A : Option Addr} {n c : Nat} {bs : List UInt8} (h : Byt w S (.slice A n c) bs) (hn : 0 < bs.length) : ∃ b o, A = some ⟨b, o, none⟩ := by
  obtain ⟨A', c', e, _, _, _, hr⟩ := h
  simp only [Value.slice.injEq] at e
  obtain ⟨b, o, e', _⟩ := hr.2 hn
  exact ⟨b, o, by rw [e.1, e']⟩
end Go.Proofs.YtjnolpfmchnnmaaGreatDoor
end
section
namespace Go.Proofs.YtjnolpfmchnnmaaGreatDoor
set_option maxRecDepth 100000
open Go.RowKit Go.BigFrame Go.Sort Go.Shelf Go.Lib
theorem nameW_inj (pre : Nm) {m n : Nat} (hm : m < 1000000) (hn : n < 1000000) (h : nameW pre m = nameW pre n) : m = n := by
  have := congrArg (segNo pre) h
  rwa [seg_nameW pre hm, seg_nameW pre hn] at this
section
variable {k : Pk} {dn : Nat} {pre : Nm}
theorem nameB_nameW (hp : PreOk pre) (n : Nat) : nameB (nameW pre n) = true := by
  unfold nameB nameW
  have h1 := hp.one
  have h2 := hp.few
  have h3 : pre.all okByte = true := List.all_eq_true.2 fun b hb => by
    have := List.all_eq_true.1 hp.low b hb
    unfold okByte
    rw [show (decide (97 ≤ b.toNat) && decide (b.toNat ≤ 122)) = true from this]
    rfl
  have h4 : (dig6 n).all okByte = true := List.all_eq_true.2 fun b hb => by
    have := List.all_eq_true.1 (dig6_ok n) b hb
    unfold okByte
    rw [show (decide (48 ≤ b.toNat) && decide (b.toNat ≤ 57)) = true from this]
    simp
  have h5 : sufW.all okByte = true := by decide
  have h6 : (dig6 n).length = 6 := rfl
  have h7 : sufW.length = 4 := rfl
  rw [List.all_append, List.all_append, h3, h4, h5, List.length_append, List.length_append, h6, h7]
  cases pre with
  | nil => exact absurd rfl h1
  | cons a l => simp only [List.cons_append, List.isEmpty_cons, Bool.not_false, Bool.true_and, Bool.and_true, decide_eq_true_eq]; omega
end
end Go.Proofs.YtjnolpfmchnnmaaGreatDoor
end
section
namespace Go.Proofs.YtjnolpfmchnnmaaGreatDoor
set_option maxRecDepth 100000
open Go.RowKit Go.BigFrame Go.Lib
def curW : Nm := [99, 117, 114, 114, 101, 110, 116]
def freshW : Nm := [99, 117, 114, 114, 101, 110, 116, 46, 116, 109, 112]
def preM : Nm := [109]
def junkM (own x : Nm) : Bool := decide (x ≠ own) && (decide (x = freshW) || preM.isPrefixOf x && sufW.isSuffixOf x && decide (x.length = 11))
def ownM (n : Nat) : Nm := if n = 0 then [] else nameM n
def sweptD (D : Nm → Option (List UInt8)) (own : Nm) : Nm → Option (List UInt8) := fun x => if junkM own x = true then none else D x
def sweptI (D : Nm → Option (List UInt8)) (own : Nm) (l : List Nm) : Nm → Option (List UInt8) := fun x => if x ∈ l ∧ junkM own x = true then none else D x
theorem sweptI_nil (D : Nm → Option (List UInt8)) (own : Nm) : sweptI D own [] = D := by
  funext x
  unfold sweptI
  rw [if_neg (by simp)]
theorem sweptI_skip {D : Nm → Option (List UInt8)} {own : Nm} {l : List Nm} {i : Nat} {x : Nm} (hx : l[i]? = some x) (hj : junkM own x = false) : sweptI D own (l.take (i + 1)) = sweptI D own (l.take i) := by
  funext y
  unfold sweptI
  rw [take_snoc hx]
  by_cases h : y ∈ l.take i ∧ junkM own y = true
  · rw [if_pos h, if_pos ⟨List.mem_append_left _ h.1, h.2⟩]
  · rw [if_neg h, if_neg]
    rintro ⟨h1, h2⟩
    rcases List.mem_append.1 h1 with h1 | h1
    · exact h ⟨h1, h2⟩
    · rw [List.mem_singleton.1 h1, hj] at h2; cases h2
theorem sweptI_del {D : Nm → Option (List UInt8)} {own : Nm} {l : List Nm} {i : Nat} {x : Nm} (hx : l[i]? = some x) (hj : junkM own x = true) : sweptI D own (l.take (i + 1)) = delD (sweptI D own (l.take i)) x := by
  funext y
  unfold delD
  by_cases hy : y = x
  · subst hy
    rw [if_pos rfl]
    unfold sweptI
    rw [if_pos ⟨by rw [take_snoc hx]; simp, hj⟩]
  · rw [if_neg hy]
    unfold sweptI
    rw [take_snoc hx]
    by_cases h : y ∈ l.take i ∧ junkM own y = true
    · rw [if_pos h, if_pos ⟨List.mem_append_left _ h.1, h.2⟩]
    · rw [if_neg h, if_neg]
      rintro ⟨h1, h2⟩
      rcases List.mem_append.1 h1 with h1 | h1
      · exact h ⟨h1, h2⟩
      · exact hy (List.mem_singleton.1 h1)
theorem sweptI_at {D : Nm → Option (List UInt8)} {own : Nm} {l : List Nm} {i : Nat} {x : Nm} (hx : l[i]? = some x) (hn : l.Pairwise fun a b => a < b) : sweptI D own (l.take i) x = D x := by
  unfold sweptI
  rw [if_neg]
  rintro ⟨h, _⟩
  obtain ⟨j, hj, e⟩ := List.getElem_of_mem h
  rw [List.length_take] at hj
  rw [List.getElem_take] at e
  obtain ⟨hi, e2⟩ := List.getElem?_eq_some_iff.1 hx
  have := List.pairwise_iff_getElem.1 hn j i (by omega) hi (by omega)
  rw [e, e2] at this
  exact List.lt_irrefl _ this
theorem sweptI_all {D : Nm → Option (List UInt8)} {own : Nm} {l : List Nm} (hl : ∀ x, x ∈ l ↔ (D x).isSome = true) : sweptI D own l = sweptD D own := by
  funext x
  unfold sweptI sweptD
  by_cases hj : junkM own x = true
  · rw [if_pos hj]
    by_cases hm : x ∈ l
    · rw [if_pos ⟨hm, hj⟩]
    · rw [if_neg fun h => hm h.1]
      rw [hl] at hm
      cases hd : D x with
      | none => rfl
      | some c => rw [hd] at hm; exact absurd rfl hm
  · rw [if_neg hj, if_neg fun h => hj h.2]
def begunD (D : Nm → Option (List UInt8)) (n : Nat) (b : List UInt8) : Nm → Option (List UInt8) :=
  let D1 := putD (sweptD D (ownM n)) (nameM (n + 1)) b
  let D2 := putD D1 freshW (Lib.itoa ((n + 1 : Nat) : Int))
  let D3 := putD (delD D2 freshW) curW (Lib.itoa ((n + 1 : Nat) : Int))
  if n = 0 then D3 else delD D3 (nameM n)
theorem pre_m : PreOk preM := ⟨by decide, by decide, by decide⟩
theorem nameB_M (n : Nat) : nameB (nameM n) = true := nameB_nameW pre_m n
theorem nameM_head (n : Nat) : (nameM n).head? = some 109 := rfl
theorem nameM_len (n : Nat) : (nameM n).length = 11 := nameW_len [109] n
theorem nameM_ne_fresh (n : Nat) : nameM n ≠ freshW := fun e => by have := congrArg List.head? e; rw [nameM_head] at this; exact absurd this (by decide)
theorem nameM_ne_cur (n : Nat) : nameM n ≠ curW := fun e => by have := congrArg List.head? e; rw [nameM_head] at this; exact absurd this (by decide)
theorem nameM_inj {m n : Nat} (hm : m < 1000000) (hn : n < 1000000) (h : nameM m = nameM n) : m = n := nameW_inj [109] hm hn h
theorem nameM_junk {own : Nm} {n : Nat} (h : nameM n ≠ own) : junkM own (nameM n) = true := by
  unfold junkM
  have h1 : preM.isPrefixOf (nameM n) = true := List.isPrefixOf_iff_prefix.2 ⟨dig6 n ++ sufW, by unfold nameM nameW preM; rw [List.append_assoc]⟩
  have h2 : sufW.isSuffixOf (nameM n) = true := List.isSuffixOf_iff_suffix.2 ⟨[109] ++ dig6 n, rfl⟩
  rw [h1, h2]
  simp [h, nameM_len]
theorem ownM_ne {n : Nat} (hn : n + 1 < 1000000) : nameM (n + 1) ≠ ownM n := by
  unfold ownM
  split
  · intro e
    have := congrArg List.length e
    rw [nameM_len] at this
    cases this
  · intro e
    have := nameM_inj (by omega) (by omega) e
    omega
theorem fresh_junk {n : Nat} : junkM (ownM n) freshW = true := by
  unfold junkM
  have : freshW ≠ ownM n := by
    unfold ownM
    split
    · decide
    · exact fun e => nameM_ne_fresh n e.symm
  simp [this]
theorem swept_new {D : Nm → Option (List UInt8)} {n : Nat} (hn : n + 1 < 1000000) : sweptD D (ownM n) (nameM (n + 1)) = none := by
  unfold sweptD
  rw [if_pos (nameM_junk (ownM_ne hn))]
theorem begun_cur (D : Nm → Option (List UInt8)) (n : Nat) (b : List UInt8) : begunD D n b curW = some (Lib.itoa ((n + 1 : Nat) : Int)) := by
  unfold begunD
  split
  · rw [putD_same]
  · rw [delD_ne _ (fun e => nameM_ne_cur n e.symm), putD_same]
theorem begun_file (D : Nm → Option (List UInt8)) {n : Nat} (b : List UInt8) (hn : n + 1 < 1000000) : begunD D n b (nameM (n + 1)) = some b := by
  have h1 : ∀ X : Nm → Option (List UInt8), putD (delD (putD (putD X (nameM (n + 1)) b) freshW (Lib.itoa ((n + 1 : Nat) : Int))) freshW) curW (Lib.itoa ((n + 1 : Nat) : Int)) (nameM (n + 1)) = some b := fun X => by
    rw [putD_ne _ _ (nameM_ne_cur _), delD_ne _ (nameM_ne_fresh _), putD_ne _ _ (nameM_ne_fresh _), putD_same]
  unfold begunD
  split
  · exact h1 _
  · rw [delD_ne _ (fun e => by have := nameM_inj (by omega) (by omega) e; omega), h1]
theorem recsM_len {l : List (Edt × Int)} (h : ∀ x ∈ l, EditOk x.1 x.2) : (frB (recsM l)).length ≤ l.length * 600008 := by
  induction l with
  | nil => simp [recsM, frB]
  | cons x l ih =>
    have h1 := editF_len (h x List.mem_cons_self)
    have h2 := ih fun y hy => h y (List.mem_cons_of_mem _ hy)
    have e : frB (recsM (x :: l)) = putF (editF x.1 x.2) ++ frB (recsM l) := rfl
    rw [e, List.length_append, putF_len, List.length_cons]
    omega
theorem recsM_each {l : List (Edt × Int)} (h : ∀ x ∈ l, EditOk x.1 x.2) : ∀ p ∈ recsM l, p.length ≤ 2097152 := fun p hp => by
  obtain ⟨x, hx, rfl⟩ := List.mem_map.1 hp
  have := editF_len (h x hx)
  omega
theorem frB_one (x : List UInt8) : frB [x] = putF x := by unfold frB; simp
theorem decFrom_app (l m : List UInt8) : ∀ acc n, Lib.decFrom acc l = some n → Lib.decFrom acc (l ++ m) = Lib.decFrom n m := by
  induction l with
  | nil => intro acc n h; unfold Lib.decFrom at h; injection h with h; subst h; rfl
  | cons b l ih =>
    intro acc n h
    have e : Lib.decFrom acc (b :: l ++ m) = match Lib.digitVal b with | some d => Lib.decFrom (acc * 10 + d) (l ++ m) | none => none := rfl
    have e2 : Lib.decFrom acc (b :: l) = match Lib.digitVal b with | some d => Lib.decFrom (acc * 10 + d) l | none => none := rfl
    rw [e2] at h
    rw [e]
    cases hd : Lib.digitVal b with
    | some d => rw [hd] at h; exact ih _ _ h
    | none => rw [hd] at h; cases h
theorem digit_ok {d : Nat} (h : d < 10) : Lib.digitVal (UInt8.ofNat (48 + d)) = some d ∧ digB (UInt8.ofNat (48 + d)) = true := by
  have key : ∀ x : Fin 10, Lib.digitVal (UInt8.ofNat (48 + x.val)) = some x.val ∧ digB (UInt8.ofNat (48 + x.val)) = true := by decide
  exact key ⟨d, h⟩
theorem dec_digits : ∀ (k u : Nat), u < 10 ^ (k + 1) → Lib.decFrom 0 (Lib.decDigits u) = some u ∧ (Lib.decDigits u).all digB = true ∧ (Lib.decDigits u).length ≤ k + 1 ∧ Lib.decDigits u ≠ []
  | 0, u, h => by
    have h10 : u < 10 := by simpa using h
    rw [Lib.decDigits_one h10]
    obtain ⟨h1, h2⟩ := digit_ok h10
    refine ⟨?_, by rw [List.all_cons, h2]; rfl, by simp, by simp⟩
    unfold Lib.decFrom
    rw [h1]
    simp [Lib.decFrom]
  | k + 1, u, h => by
    by_cases h10 : u < 10
    · rw [Lib.decDigits_one h10]
      obtain ⟨h1, h2⟩ := digit_ok h10
      refine ⟨?_, by rw [List.all_cons, h2]; rfl, by simp, by simp⟩
      unfold Lib.decFrom
      rw [h1]
      simp [Lib.decFrom]
    · rw [Lib.decDigits, dif_neg h10]
      obtain ⟨i1, i2, i3, i4⟩ := dec_digits k (u / 10) (by rw [Nat.pow_succ] at h; omega)
      obtain ⟨h1, h2⟩ := digit_ok (d := u % 10) (by omega)
      refine ⟨?_, by rw [List.all_append, i2, List.all_cons, h2]; rfl, by rw [List.length_append]; simp; omega, by simp⟩
      rw [decFrom_app _ _ _ _ i1]
      unfold Lib.decFrom
      rw [h1]
      simp only [Lib.decFrom]
      congr 1
      omega
theorem atoi_itoa {n : Nat} (h : n < 1000000) : Lib.atoi (Lib.itoa (n : Int)) = some (n : Int) ∧ (Lib.itoa (n : Int)).length ≤ 6 := by
  have e : Lib.itoa (n : Int) = Lib.decDigits n := by unfold Lib.itoa; rw [if_neg (by omega)]; simp
  obtain ⟨h1, h2, h3, h4⟩ := dec_digits 5 n (by omega)
  rw [e]
  refine ⟨?_, h3⟩
  obtain ⟨m, m1, m2⟩ := atoi_dig h2 h4
  have : Lib.decNat (Lib.decDigits n) = some n := by
    unfold Lib.decNat
    rw [if_neg (by simpa using h4), h1]
  rw [this] at m1
  injection m1 with m1
  rw [m2, m1]
end Go.Proofs.YtjnolpfmchnnmaaGreatDoor
end
section
namespace Go.Proofs.YtjnolpfmchnnmaaGreatDoor
set_option maxRecDepth 100000
open Go.RowKit Go.BigFrame Go.Shelf
attribute [local go_sem ↓] Go.wp_at_zero Go.wp_at_succ
attribute [local go_sem] Oper.semAt_some
theorem boxRowFrM {w w' : World} {b : Nat} {o : Obj} (h : w.heap[b]? = some o) (hf : fr w w') : w'.heap[b]? = some o := (Below.block hf b (Array.getElem?_eq_some_iff.1 h).1).trans h
theorem cell_four_newM (w : World) (a b c d : Value) (t : TypeId) : ∀ j u, [a, b, c, d][j]? = some u → (w.alloc (.cells #[a, b, c, d] t)).cell? ((⟨w.heap.size, 0, none⟩ : Addr).add j) = some u := by
  intro j u hu
  rw [Addr.add_lit, World.cell?_alloc_at _ _ _ _ rfl]
  simpa using hu
theorem infoEd : (Tryz.prog.info? 45).map (fun i => (i.zero, i.size, i.bytes)) = some (some (.agg #[.slice none 0 0, .slice none 0 0, .int .i64 0, .int .i64 0]), 4, 64) := by kernel_rfl
def edC (a : Value) (lg sq : Int) : List Value := [a, .slice none 0 0, .int .i64 lg, .int .i64 sq]
def splC (g o n : Nat) (lg sq : Int) (k : Nat) : List Value := edC (.slice none 0 0) lg sq ++ ((List.range k).map fun i => edC (chunkV g o n i) lg sq).flatten
theorem splC_succ (g o n : Nat) (lg sq : Int) (k : Nat) : splC g o n lg sq (k + 1) = splC g o n lg sq k ++ edC (chunkV g o n k) lg sq := by
  unfold splC
  rw [List.range_succ, List.map_append, List.flatten_append, List.append_assoc]
  simp
def SplP (g o n B base : Nat) (lg sq : Int) (pv : Obj) (w : World) (pre : List Nat) (T : Nat → Prop) (W : World) : Prop :=
  ∃ v, Grows 51 45 4 base B T v (pre.length + 1) (splC g o n lg sq pre.length) W ∧ W.heap[base]? = some pv ∧ fr w W
def AxS (g o n m : Nat) (f : Value → Array Value) (pre : List Nat) (_ : Nat → Prop) (k : Nat) (a : Act) (_ : World) : Prop :=
  (k = pre.length ∧ k < m) ∧ a = { tmps := f (chunkV g o n k), defers := [] }
abbrev splFr (A : Option Addr) (n c z : Nat) (lg sq nx : Int) (v : Value) : Array Value :=
  #[.agg #[.slice A n c, .int .i64 lg, .int .i64 sq, .int .i64 nx], .pointer (some ⟨z, 0, none⟩), .slice none 0 0, .pointer (some ⟨z + 2, 0, none⟩), v, .pointer (some ⟨z, 1, none⟩), .int .i64 lg, .pointer (some ⟨z, 2, none⟩), .int .i64 sq, .agg #[.slice none 0 0, .slice none 0 0, .int .i64 lg, .int .i64 sq], .slice (some ⟨z + 1, 0, none⟩) 1 1, .pointer (some ⟨z, 0, none⟩), .slice A n c, .func (.func 243) #[] #[.pointer (some ⟨z + 3, 0, none⟩), .pointer (some ⟨z + 3 + 1, 0, none⟩)], v, undef, undef, undef, undef, undef, undef, undef, undef, undef, undef]
set_option maxRecDepth 100000 in
set_option maxHeartbeats 4000000 in
theorem split_any (A : Option Addr) (g o n c m : Nat) (lg sq nx : Int) (w : World) (hA : 0 < n → A = some ⟨g, o, none⟩) (hn : n ≤ 999999) (hc : n ≤ c) (hcm : c ≤ 9223372036854775807) (hm : m = chunksN n) :
    Calls Tryz.prog 134 #[.agg #[.slice A n c, .int .i64 lg, .int .i64 sq, .int .i64 nx]] w fun r w' => ∃ A' c', r = .returned (.slice A' (m + 1) c') ∧ w'.ownsRow w.heap.size 45 4 (.slice A' (m + 1) c') (m + 1) (splC g o n lg sq m) ∧ fr w w' := by
  obtain ⟨i0, hi, hz0, hz1, hz2⟩ := info_parts infoEd
  have hmk : ∀ k, k < m ↔ 1024 * k < n := fun k => by rw [hm]; unfold chunksN; omega
  have hmb : m ≤ 977 := by rw [hm]; unfold chunksN; omega
  have HA := Lib.hid hA
  have HMK := Lib.hid hmk
  clear hmk hA hm
  refine (callsIn_wide (n := 1)).1 ?_
  refine callsIn_of_wp_marks Tryz.func134 rfl trivial ?_
  simp only [Tryz.ntmps134, List.size_toArray, List.length_cons, List.length_nil, Nat.reduceAdd, Nat.reduceSub, Array.replicate_succ, Array.replicate_zero, List.push_toArray, List.append_toArray, List.nil_append, List.cons_append]
  refine wpIn_wide.2 ?_
  go_wp2_with (go_at_call 207; refine (chunkT_any A n c _).mono ?_; rintro r w3 ⟨rfl, b31, b32, f3, hz3⟩)
  simp only [World.size_alloc] at b31 b32 f3 hz3 ⊢
  have hal : fr w (((w.alloc (.cells #[.slice A n c, .int .i64 lg, .int .i64 sq, .int .i64 nx] 50)).alloc (.cells #[.slice none 0 0, .slice none 0 0, .int .i64 lg, .int .i64 sq] 45)).alloc (.cells #[.slice (some ⟨w.heap.size + 1, 0, none⟩) 1 1] 51)) := fr.alloc (fr.alloc (fr.alloc fr.refl _) _) _
  have pV : (((w.alloc (.cells #[.slice A n c, .int .i64 lg, .int .i64 sq, .int .i64 nx] 50)).alloc (.cells #[.slice none 0 0, .slice none 0 0, .int .i64 lg, .int .i64 sq] 45)).alloc (.cells #[.slice (some ⟨w.heap.size + 1, 0, none⟩) 1 1] 51)).heap[w.heap.size]? = some (.cells #[.slice A n c, .int .i64 lg, .int .i64 sq, .int .i64 nx] 50 (0, 0)) := (Below.heap_alloc _ _ _ (by simp; omega)).trans ((Below.heap_alloc _ _ _ (by simp)).trans (heap_alloc_new w _))
  have pE : (((w.alloc (.cells #[.slice A n c, .int .i64 lg, .int .i64 sq, .int .i64 nx] 50)).alloc (.cells #[.slice none 0 0, .slice none 0 0, .int .i64 lg, .int .i64 sq] 45)).alloc (.cells #[.slice (some ⟨w.heap.size + 1, 0, none⟩) 1 1] 51)).heap[w.heap.size + 1]? = some (.cells #[.slice none 0 0, .slice none 0 0, .int .i64 lg, .int .i64 sq] 45 (0, 0)) := (Below.heap_alloc _ _ _ (by simp)).trans (heap_at_new _ trivial (by simp))
  have pB : Boxed (((w.alloc (.cells #[.slice A n c, .int .i64 lg, .int .i64 sq, .int .i64 nx] 50)).alloc (.cells #[.slice none 0 0, .slice none 0 0, .int .i64 lg, .int .i64 sq] 45)).alloc (.cells #[.slice (some ⟨w.heap.size + 1, 0, none⟩) 1 1] 51)) (w.heap.size + 2) 51 (.slice (some ⟨w.heap.size + 1, 0, none⟩) 1 1) := heap_at_new _ trivial (by simp)
  have HF3 := Lib.hid (fr.step hal f3)
  have HPV := Lib.hid (boxRowFrM pV f3)
  have HPE := Lib.hid (boxRowFrM pE f3)
  have HPB := Lib.hid (boxedFr pB f3)
  clear hal pV pE pB f3
  obtain ⟨z, hz⟩ : ∃ z, w.heap.size = z := ⟨_, rfl⟩
  have HZ := Lib.hid hz
  rw [hz] at b31 b32 hz3 HPV HPE HPB ⊢
  clear hz
  rw [show z + 1 + 1 + 1 = z + 3 from rfl] at b31 b32 hz3 ⊢
  rw [show z + 1 + 1 = z + 2 from rfl]
  have HROW : Hid (w3.ownsRow z 45 4 (.slice (some ⟨z + 1, 0, none⟩) 1 1) 1 (splC g o n lg sq 0)) := Lib.hid ⟨by simp [splC, edC], .inr ⟨z + 1, 1, _, rfl, by omega, HPE.out, Nat.le_refl _, by unfold maxLen; omega, by simp, by simp [splC, edC]⟩⟩
  have HTI := Lib.hid (chunkT_tells 0 w3 (z + 3) g o n c m A b31 b32 HA.out (by omega) hc hcm HMK.out)
  have hzz : z + 5 ≤ w3.heap.size := by omega
  clear b31 b32 hz3
  refine (wpIn_wide (n := 1)).1 ?_
  refine range_tells rfl (by omega) (gf := 243) (lb := #[.pointer (some ⟨z + 3, 0, none⟩), .pointer (some ⟨z + 3 + 1, 0, none⟩)]) rfl trivial (enters_of Tryz.func243 (by kernel_rfl) rfl) HTI.out
    (fun i h => by omega) (fun i h => h.elim) (fun _ _ _ _ _ _ h => h) (fun _ _ _ h _ => h) (fun _ _ _ h _ => h) (fun _ => rfl)
    (SplP g o n (z + 2) z lg sq (.cells #[.slice A n c, .int .i64 lg, .int .i64 sq, .int .i64 nx] 50) w) (fun _ _ _ _ => False) ?still (fun _ _ _ _ _ h => h.elim) (fun i => i = z + 2 ∨ i = z + 1) (fun i hi => ⟨by omega, by omega⟩) ⟨_, ⟨HPB.out, HROW.out, fun i => by simp [Value.ownBlock, eq_comm]⟩, HPV.out, HF3.out⟩
    (AxS g o n m (splFr A n c z lg sq nx)) (fun _ _ _ _ _ _ h _ => h) ?assign ?body ?done (fun _ _ _ _ _ _ _ _ h => h.elim) ?lt (fun _ _ _ _ _ h => h.elim)
  case still =>
    rintro pre T X Y ⟨v, h1, h2, h3⟩ hi'
    refine ⟨v, h1.idle hi' (fun _ h => h.elim) (by omega), hi'.low (fun h => h) h2 (by omega), ?_⟩
    exact ⟨hi'.os.trans h3.os, hi'.tape.trans h3.tape, hi'.output.trans h3.output, Nat.le_trans h3.size hi'.size, fun i hlt => (hi'.block i (Nat.lt_of_lt_of_le hlt h3.size) fun hk => by have := HZ.out; rcases hk with hk | hk; exact hk; omega).trans (h3.block i hlt)⟩
  case lt =>
    rintro pre T W i ⟨v, h1, _⟩ hT
    exact h1.lt hT
  case assign =>
    rintro l pre T y W K hi' hok hK
    have HOK := Lib.hid hok
    clear hok
    unfold chunkV
    gi_wp2
    exact hK _ _ fr.refl hi' ⟨HOK.out, rfl⟩
  case body =>
    rintro l pre T k a' sA W hl hlA hrec hTs hsA ⟨v, hgr, hpv, hf⟩ ⟨⟨hk1, hk2⟩, rfl⟩
    subst hk1
    obtain ⟨k, hk⟩ : ∃ k, pre.length = k := ⟨_, rfl⟩
    rw [hk] at hgr hk2 ⊢
    have HKK := Lib.hid hk
    have hc0 := hgr.box.cell
    have hl1 := cell_of_row _ _ 1 _ _ _ hpv
    have hl2 := cell_of_row _ _ 2 _ _ _ hpv
    have hrow := hgr.row
    have HGR := Lib.hid hgr
    have HPW := Lib.hid hpv
    have HF := Lib.hid hf
    have hzW : z ≤ W.heap.size := by have := (Array.getElem?_eq_some_iff.1 hpv).1; omega
    have HTL : Hid (∀ i, T i → z ≤ i) := Lib.hid fun i hi => by
      rcases (hgr.set i).1 hi with rfl | h
      · omega
      · exact (hgr.blk h).1
    have hsz : z ≤ sA := by have := HZ.out; omega
    obtain ⟨a0, e0, he0⟩ : ∃ a e, chunkV g o n k = .slice a e e := ⟨_, _, rfl⟩
    have HE0 := Lib.hid he0
    obtain ⟨Av, cv, rfl⟩ := own_form hrow
    unfold splFr
    rw [he0]
    clear hgr hpv hf hTs hrec hl hlA hk he0
    gi_wp2_with (gi_at_builtin; refine wpListIn_append_at _ rfl _ _ 51 rfl z 45 i0 _ 4 64 Tryz.underlying51 hi hz0 hz1 hz2 rfl (by decide) _ _ _ rfl (hrow.alloc _) ⟨W.heap.size, 0, none⟩ 1 1 [.slice a0 e0 e0, .slice none 0 0, .int .i64 lg, .int .i64 sq] rfl rfl (cell_four_newM _ _ _ _ _ _) (by simp [Value.oneCell']) (by unfold maxLen; omega) (by omega) (by simp; omega) ?_; intro v' w2 hown' hgrow hat; obtain ⟨g', cap', rfl⟩ := ownsRow_succ hown'; obtain ⟨hv1, hg2, hgT, ho2⟩ := HGR.out.push (by decide) (by omega) hzW (Nat.le_refl _) hown' hgrow hat; have hc1 := hv1.cell; have hf1 := hv1.frozen)
    refine ⟨_, fun i h => (hgT i h).imp id fun h => Nat.le_trans hsA h, Only.mono ho2 fun i h => h.imp id fun h => Nat.le_trans hsA h, _, by rw [List.length_append, HKK.out, List.length_singleton, splC_succ, HE0.out]; exact hg2, ?_, ?_⟩
    · have hzz2 : z < W.heap.size := (Array.getElem?_eq_some_iff.1 HPW.out).1
      refine (ho2.block z hzz2 ?_).trans HPW.out
      rintro (h | h)
      · rcases (HGR.out.set z).1 h with h | h
        · omega
        · have := (HGR.out.blk h).2.2
          obtain ⟨cur, hcur⟩ := this
          rw [HPW.out] at hcur
          cases hcur
      · omega
    · have h0 := HF.out
      have hzq := HZ.out
      exact ⟨ho2.os.trans h0.os, ho2.tape.trans h0.tape, ho2.output.trans h0.output, Nat.le_trans h0.size ho2.size, fun i hlt => (ho2.block i (Nat.lt_of_lt_of_le hlt h0.size) fun h => by rcases h with h | h; have := HTL.out i h; omega; omega).trans (h0.block i hlt)⟩
  case done =>
    rintro D' xs T W hD' hTs rfl ⟨v, hgr, hpv, hf⟩ hK
    obtain ⟨Av, cv, rfl⟩ := own_form hgr.row
    have hc0 := hgr.box.cell
    have HGR := Lib.hid hgr
    have HF := Lib.hid hf
    have HD := Lib.hid hD'
    have HK := Lib.hid hK
    clear hgr hpv hf hTs hD' hK
    rw [List.length_range] at HGR
    rw [List.length_range] at hc0
    go_wp2
    have hK := HK.out
    have hid : Idle (fun _ => False) w3.heap.size W (W.putObj D' (.deferred none)) := Idle.putObj HD.out hK rfl
    have hg2 := HGR.out.idle hid (fun _ h => h.elim) (by omega)
    have h3 := HF.out
    refine ⟨by simp, .inl ⟨_, _, rfl, run_takeDeferred hK, ?_⟩⟩
    refine ⟨_, results_tmp rfl _ _ _, _, _, rfl, by rw [HZ.out]; exact hg2.row, ?_⟩
    exact ⟨hid.os.trans h3.os, hid.tape.trans h3.tape, hid.output.trans h3.output, Nat.le_trans h3.size hid.size, fun i hlt => (hid.block i (Nat.lt_of_lt_of_le hlt h3.size) fun hk => by have := HZ.out; rcases hk with hk | hk; exact hk; omega).trans (h3.block i hlt)⟩
end Go.Proofs.YtjnolpfmchnnmaaGreatDoor
end
section
namespace Go.Proofs.YtjnolpfmchnnmaaGreatDoor
set_option maxRecDepth 100000
open Go.RowKit Go.BigFrame
attribute [local go_sem ↓] Go.wp_at_zero Go.wp_at_succ
theorem wpList_growNil {w : World} {ops : Array Oper} {rest : List Oper} {o : Oper} {a : Act} {Q : Exit → Act → World → Prop} (hgd : o.guard = none) (s x : Operand)
    (ho : o.op = .call { callee := .builtin .append, args := #[s, x], argTypes := #[35, 3] }) (n : Nat) (hs : a.eval s = .slice none 0 0) (hx : a.eval x = .int .i64 n) (hn : 0 < n) (hb : n ≤ 140737488355328)
    (hK : ∀ c w', OwnF w' w.heap.size (.slice (some ⟨w.heap.size, 0, none⟩) 0 c) [] → c ≤ 9223372036854775807 → n ≤ c → fr w w' → wpList Tryz.prog ops Q rest (a.put o.dst (.slice (some ⟨w.heap.size, 0, none⟩) n c)) w') : wpList Tryz.prog ops Q (o :: rest) a w :=
  wpList_plain hgd fun _ hk => by
    obtain ⟨i0, hi, hz0, hz1, hz2⟩ := info_parts info5
    have hrun := Lib.run_append_grow_zeros (P := Tryz.prog) w 35 3 o.type 5 i0 (.int .u8 0) .i64 .i64 Tryz.underlying35 Tryz.underlying3 hi hz0 none 0 0 [] (by simp [Builtin.firstCells]) n hn (by omega) (by omega) (by omega) (by rw [hz2]; omega) (growslice_fits (by omega) (by rw [hz2]; omega))
    have hge := grownCap_ge w (0 + n) 0 5
    have hle := grownCap_le_maxLen w (0 + n) 0 5 (by unfold maxLen; omega)
    rw [Nat.zero_add] at hrun hge hle
    generalize grownCap w n 0 5 = c at hrun hge hle
    have hsz : (([] : List Value).toArray ++ Builtin.zeroCells (Value.cells (.int .u8 0)) n ++ Builtin.zeroCells (Value.cells (.int .u8 0)) (c - n)).size = c := by
      simp [Builtin.zeroCells, Value.cells]
      omega
    unfold maxLen at hle
    generalize ([] : List Value).toArray ++ Builtin.zeroCells (Value.cells (.int .u8 0)) n ++ Builtin.zeroCells (Value.cells (.int .u8 0)) (c - n) = cur at hrun hsz
    unfold Oper.wp execOp
    simp only [ho, resolve, invoke, builtin, Sem.run_bind, Sem.run_pure, Result.andThen_ok, List.map_toArray, List.map_cons, List.map_nil, hs, hx, hrun]
    refine hk _ _ (hK c _ ⟨_, c, rfl, Nat.zero_le _, by omega, by simp, .inr ⟨w.heap.size, cur, rfl, Nat.le_refl _, ?_, by omega, by simp⟩⟩ (by omega) hge (fr.alloc fr.refl.drew _))
    have := heap_alloc_new w.drew (.cells cur 5)
    rwa [World.size_drew] at this
set_option maxRecDepth 100000 in
set_option maxHeartbeats 1000000 in
theorem growNil_any (n : Nat) (w : World) (hb : n ≤ 140737488355328) :
    Calls Tryz.prog 287 #[.slice none 0 0, .int .i64 n] w fun r w' => ∃ A c, r = .returned (.slice A 0 c) ∧ OwnF w' w.heap.size (.slice A 0 c) [] ∧ fr w w' := by
  have h1 : ¬ ((n : Int) < 0) := by omega
  rcases Nat.eq_zero_or_pos n with h0 | h0
  · subst h0
    go_enter Tryz.func287, Tryz.ntmps287
    go_wp2
    refine bodyPost_ret (v := .slice none 0 0) (by simp [results, Tryz.results287, go_sem]) rfl ?_
    exact ⟨_, _, rfl, OwnB.nil _ _, fr.refl⟩
  · have hpos : (0 : Int) < (n : Int) := by omega
    go_enter Tryz.func287, Tryz.ntmps287
    go_wp2_with (at_builtin; refine wpList_growNil rfl _ _ rfl n rfl rfl h0 hb ?_; intro c w2 hown hc hnc hf)
    refine bodyPost_ret (v := .slice (some ⟨w.heap.size, 0, none⟩) 0 c) (by simp [results, Tryz.results287, go_sem]) rfl ?_
    exact ⟨_, _, rfl, hown, hf⟩
theorem take_flat {α : Type} {ps : List (List α)} {k : Nat} {p : List α} (h : ps[k]? = some p) : (ps.take (k + 1)).flatten = (ps.take k).flatten ++ p := by
  rw [take_snoc h, List.flatten_append, List.flatten_singleton]
theorem take_flat_le {α : Type} (ps : List (List α)) (k : Nat) : (ps.take k).flatten.length ≤ ps.flatten.length := by
  conv => rhs; rw [← List.take_append_drop k ps, List.flatten_append, List.length_append]
  omega
set_option maxRecDepth 100000 in
set_option maxHeartbeats 1000000 in
theorem concat_any (S : Nat → Prop) (v : Value) (ps : List (List UInt8)) (w : World) (hv : BytsV w S v ps) (hl : ps.flatten.length ≤ 140737488355328) :
    Calls Tryz.prog 248 #[v] w fun r w' => ∃ A c, r = .returned (.slice A ps.flatten.length c) ∧ OwnF w' w.heap.size (.slice A ps.flatten.length c) ps.flatten ∧ fr w w' := by
  obtain ⟨A, c, vs, rfl, hc, hcm, hr, he⟩ := hv
  obtain ⟨n, hn⟩ : ∃ n, ps.length = n := ⟨_, rfl⟩
  rw [hn] at hr hc ⊢
  have HN := Lib.hid hn
  have HE := Lib.hid he
  have HR := Lib.hid hr
  have HL := Lib.hid hl
  clear hn hr he hl
  go_enter Tryz.func248, Tryz.ntmps248
  go_wp2
  go_loopw [3, 11] (fun x t wr => ∃ k m : Nat, k ≤ n ∧ t = .int .i64 k ∧ x = .int .i64 m ∧ m = (ps.take k).flatten.length ∧ wr = w) (fun _ t _ => n - (intOf t).toNat)
  case atStart => exact ⟨0, 0, Nat.zero_le _, rfl, rfl, rfl, rfl⟩
  case round =>
    obtain ⟨k, m, hk, rfl, rfl, hm, rfl⟩ := hrel
    have hmb : m ≤ 140737488355328 := by have := take_flat_le ps k; have := HL.out; omega
    have HM := Lib.hid hm
    clear hm
    by_cases hkn : k < n
    · obtain ⟨p, hpk⟩ : ∃ p, ps[k]? = some p := ⟨_, List.getElem?_eq_getElem (by rw [HN.out]; exact hkn)⟩
      obtain ⟨x, hx, hxe⟩ := HE.out k p hpk
      obtain ⟨b, o, u, rfl, _, _, hu, hcell⟩ := HR.out.at_ hkn
      obtain rfl : u = x := by rw [hx] at hu; injection hu with hu; exact hu.symm
      obtain ⟨A1, c1, rfl⟩ := slice_form hxe
      have htf := take_flat hpk
      have hmp : m + p.length = (ps.take (k + 1)).flatten.length := by rw [htf, List.length_append, ← HM.out]
      have hmb2 : m + p.length ≤ 140737488355328 := by have := take_flat_le ps (k + 1); have := HL.out; omega
      obtain ⟨q, hq⟩ : ∃ q, p.length = q := ⟨_, rfl⟩
      rw [hq] at hcell hmp hmb2
      have HMP := Lib.hid hmp
      clear hx hu hxe htf hpk hq hmp
      go_wp2
      exact ⟨⟨k + 1, m + q, by omega, by go_num, by go_num, HMP.out, trivial⟩, by simp [intOf]; omega⟩
    · obtain rfl : k = n := by omega
      have hmm : m = ps.flatten.length := by rw [HM.out, List.take_of_length_le (by rw [HN.out]; exact Nat.le_refl _)]
      have HMM := Lib.hid hmm
      clear hmm
      obtain ⟨w0, hw0⟩ : ∃ w', w' = wr := ⟨_, rfl⟩
      subst hw0
      go_wp2_with (go_at_call 287; refine (growNil_any m _ hmb).mono ?_; rintro r w1 ⟨A1, c1, rfl, ho1, f1⟩)
      go_loopw [6, 27] (fun x t wx => ∃ j : Nat, j ≤ k ∧ t = .int .i64 j ∧ OwnF wx w0.heap.size x (ps.take j).flatten ∧ fr w0 wx) (fun _ t _ => k - (intOf t).toNat)
      case atStart => exact ⟨0, Nat.zero_le _, rfl, ho1, f1⟩
      case round =>
        clear ho1 f1
        obtain ⟨j, hj, rfl, ho, hf⟩ := hrel
        have HO := Lib.hid ho
        have HF := Lib.hid hf
        obtain ⟨A2, c2, rfl⟩ := ho.form
        clear ho hf
        by_cases hjk : j < k
        · obtain ⟨p, hpk⟩ : ∃ p, ps[j]? = some p := ⟨_, List.getElem?_eq_getElem (by rw [HN.out]; exact hjk)⟩
          obtain ⟨x, hx, hxe⟩ := HE.out j p hpk
          obtain ⟨b, o, u, rfl, _, _, hu, hcell⟩ := (HR.out.below HF.out).at_ hjk
          obtain rfl : u = x := by rw [hx] at hu; injection hu with hu; exact hu.symm
          obtain ⟨A3, c3, rfl⟩ := slice_form hxe
          have HX := Lib.hid (hxe.below HF.out)
          have HTF := Lib.hid (take_flat hpk)
          have hmb2 : (ps.take j).flatten.length + p.length ≤ 140737488355328 := by have := take_flat_le ps (j + 1); rw [HTF.out, List.length_append] at this; have := HL.out; omega
          obtain ⟨m2, hm2⟩ : ∃ q, (ps.take j).flatten.length = q := ⟨_, rfl⟩
          obtain ⟨q, hq⟩ : ∃ q, p.length = q := ⟨_, rfl⟩
          rw [hm2] at HO ⊢
          rw [hq] at HX hcell
          rw [hm2] at hmb2
          have HM2 := Lib.hid hm2
          clear hx hu hxe hpk hm2 hq
          go_wp2_with (at_builtin; refine wpList_append_ownB rfl _ _ rfl (fun i => w0.heap.size ≤ i) (fun i => w0.heap.size ≤ i) (.slice A2 m2 c2) _ rfl rfl S _ p HO.out HX.out (by rw [HM2.out]; exact hmb2) (fun _ h => h) HF.out.size ?_; intro v5 w5 hown5 hgrow5 hat5)
          exact ⟨⟨j + 1, by omega, by go_num, by rw [HTF.out]; exact hown5, RowKit.Below.grown (B := w0.heap.size) HF.out hgrow5 HF.out.size (fun j e => (HO.out.blk e).1)⟩, by simp [intOf]; omega⟩
        · obtain rfl : j = k := by omega
          have htk : ps.take j = ps := List.take_of_length_le (by rw [HN.out]; exact Nat.le_refl _)
          rw [htk] at HO ⊢
          clear htk
          go_wp2
          refine bodyPost_ret (v := .slice A2 ps.flatten.length c2) (by simp [results, Tryz.results248, go_sem, -List.length_flatten]) rfl ?_
          exact ⟨_, _, rfl, HO.out, HF.out⟩
set_option maxRecDepth 100000 in
set_option maxHeartbeats 1000000 in
theorem join_any (S : Nat → Prop) (v : Value) (ps : List (List UInt8)) (w : World) (hv : BytsV w S v ps) (hl : ps.flatten.length ≤ 140737488355328) :
    Calls Tryz.prog 217 #[v] w fun r w' => ∃ A c, r = .returned (.slice A ps.flatten.length c) ∧ OwnF w' w.heap.size (.slice A ps.flatten.length c) ps.flatten ∧ fr w w' := by
  have HC := Lib.hid (concat_any S v ps w hv hl)
  obtain ⟨A, c, vs, rfl, hc, hcm, hr, he⟩ := hv
  obtain ⟨n, hn⟩ : ∃ n, ps.flatten.length = n := ⟨_, rfl⟩
  rw [hn] at HC ⊢
  clear hl hn hr he
  go_enter Tryz.func217, Tryz.ntmps217
  go_wp2_with (go_at_call 248; refine HC.out.mono ?_; rintro r w1 ⟨A1, c1, rfl, ho1, f1⟩)
  refine bodyPost_ret (v := .slice A1 n c1) (by simp [results, Tryz.results217, go_sem]) rfl ?_
  exact ⟨_, _, rfl, ho1, f1⟩
end Go.Proofs.YtjnolpfmchnnmaaGreatDoor
end
section
namespace Go.Proofs.YtjnolpfmchnnmaaGreatDoor
set_option maxRecDepth 100000
open Go.RowKit Go.BigFrame
attribute [local go_sem ↓] Go.wp_at_zero Go.wp_at_succ
theorem or128 (u : Nat) : bits .or .u8 ((u : Int) % 256) 128 = ((u % 128 + 128 : Nat) : Int) := by
  have h := (bits_nat .u8 8 (by decide) wraps_u8 (u % 256) 128 (by omega) (by decide)).2
  have key : ∀ a : Fin 256, a.val ||| 128 = a.val % 128 + 128 := by decide +kernel
  have := key ⟨u % 256, by omega⟩
  simp only at this
  rw [this] at h
  rw [show (u : Int) % 256 = ((u % 256 : Nat) : Int) by omega]
  rw [show u % 256 % 128 = u % 128 by omega] at h
  simpa using h
theorem or128_cell (u : Nat) : Value.int .u8 (bits .or .u8 ((u : Int) % 256) 128) = bcell (UInt8.ofNat (u % 128 + 128)) := by
  rw [or128]
  unfold bcell
  congr 1
  simp
  omega
def Heads (arr : Array Value) (p : List UInt8) : Prop := ∀ (i : Nat) (x : UInt8), p[i]? = some x → arr[i]? = some (bcell x)
theorem Heads.step {arr : Array Value} {p : List UInt8} {x : UInt8} (h : Heads arr p) (hl : p.length < arr.size) : Heads (arr.setIfInBounds p.length (bcell x)) (p ++ [x]) := by
  intro i y hy
  by_cases hi : i < p.length
  · rw [List.getElem?_append_left hi] at hy
    rw [Array.getElem?_setIfInBounds_ne (by omega)]
    exact h i y hy
  · have hi' : i = p.length := by
      have := (List.getElem?_eq_some_iff.1 hy).1
      rw [List.length_append, List.length_singleton] at this
      omega
    subst hi'
    rw [List.getElem?_append_right (Nat.le_refl _), Nat.sub_self, List.getElem?_cons_zero] at hy
    rw [Array.getElem?_setIfInBounds_self, if_pos hl, ← Option.some.inj hy]
theorem slice10 (B j : Nat) (hj : j ≤ 9) (w : World) : (Instr.sliceAt 335 (.pointer (some ⟨B, 0, none⟩)) none (some (.int .i64 ((j : Int) + 1))) none).run Tryz.prog w = .ok (.slice (some ⟨B, 0, none⟩) (j + 1) 10) w := by
  have ht : Tryz.prog.underlying 335 = some (.array (Tryz.prog.arrayLen 335) (Tryz.prog.elem 335)) := by kernel_rfl
  have hal : Tryz.prog.arrayLen 335 = 10 := by kernel_rfl
  have hel : Tryz.prog.elem 335 = 5 := by kernel_rfl
  rw [run_sliceAt_array_h w _ _ ht .i64 _ (by omega) (by rw [hal]; omega), hel, Tryz.sizeOf5 w, hal]
  have e : ((j : Int) + 1).toNat = j + 1 := by omega
  simp [Result.andThen, slicedAt, Addr.add, e]
set_option maxRecDepth 100000 in
set_option maxHeartbeats 1000000 in
theorem form_any (v : Nat) (w : World) (hv : v < 18446744073709551616) :
    Calls Tryz.prog 218 #[.int .u64 v] w fun r w' => ∃ A c, r = .returned (.slice A (formN v).length c) ∧ Byt w' (fun i => w.heap.size ≤ i) (.slice A (formN v).length c) (formN v) ∧ fr w w' := by
  have HV := Lib.hid hv
  have P0 : ∀ o : Obj, (w.alloc o).heap[w.heap.size]? = some o := heap_alloc_new w
  clear hv
  go_enter Tryz.func218, Tryz.ntmps218
  go_wp2
  go_loopw [0, 4] (fun x t wr => ∃ (j u : Nat) (arr : Array Value) (p : List UInt8), j ≤ 9 ∧ t = .int .i64 j ∧ x = .int .u64 u ∧ u * 128 ^ j < 18446744073709551616 ∧ wr.heap[w.heap.size]? = some (.cells arr 335 (0, 0)) ∧ arr.size = 10 ∧ Heads arr p ∧ p.length = j ∧ p ++ formF (9 - j) u = formN v ∧ fr w wr) (fun _ t _ => 10 - (intOf t).toNat)
  case atStart => exact ⟨0, v, _, [], Nat.zero_le _, rfl, rfl, by simpa using HV.out, P0 _, rfl, fun i x h => by simp at h, rfl, rfl, fr.alloc fr.refl _⟩
  case round =>
    clear P0
    obtain ⟨j, u, arr, p, hj, rfl, rfl, hub, hp, hsz, hhd, hpl, hfm, hfr⟩ := hrel
    have HP := Lib.hid hp
    have HHD := Lib.hid hhd
    have HPL := Lib.hid hpl
    have HFM := Lib.hid hfm
    have HFR := Lib.hid hfr
    have HUB := Lib.hid hub
    have HSZ := Lib.hid hsz
    obtain ⟨old, hold⟩ : ∃ o, arr[j]? = some o := ⟨_, Array.getElem?_eq_getElem (by omega)⟩
    have hcell : wr.cell? ⟨w.heap.size, j, none⟩ = some old := (cell_of_row wr _ j _ _ _ hp).trans hold
    have hfz := frozen_of_row wr _ j _ _ hp
    clear hp hsz hhd hpl hfm hfr hub hold
    by_cases hu : 127 < u
    · have hj8 : j < 9 := by
        rcases (by omega : j < 9 ∨ j = 9) with h | h
        · exact h
        · have := HUB.out
          rw [h, show (128 : Nat) ^ 9 = 9223372036854775808 by decide] at this
          omega
      have hui : (127 : Int) < (u : Int) := by omega
      go_wp2
      rw [or128_cell]
      have hst := HHD.out.step (x := UInt8.ofNat (u % 128 + 128)) (by rw [HPL.out, HSZ.out]; omega)
      rw [HPL.out] at hst
      refine ⟨⟨j + 1, u / 128, _, p ++ [UInt8.ofNat (u % 128 + 128)], by omega, by go_num, by simp, ?_, heap_setCell_same wr _ j _ _ _ HP.out, by rw [Array.size_setIfInBounds]; exact HSZ.out, hst, by rw [List.length_append, HPL.out]; rfl, ?_, RowKit.Below.setCell HFR.out (Nat.le_refl _) _⟩, by simp [intOf]; omega⟩
      · have h1 := Nat.div_mul_le_self u 128
        have h2 : u / 128 * 128 ^ (j + 1) = u / 128 * 128 * 128 ^ j := by rw [Nat.pow_succ, Nat.mul_comm (128 ^ j), Nat.mul_assoc]
        rw [h2]
        exact Nat.lt_of_le_of_lt (Nat.mul_le_mul_right _ h1) HUB.out
      · rw [← HFM.out, show 9 - j = (9 - (j + 1)) + 1 by omega, List.append_assoc]
        conv => rhs; unfold formF
        rw [if_neg (by omega)]
        rfl
    · have hui : ¬ (127 : Int) < (u : Int) := by omega
      have hlast : formF (9 - j) u = [UInt8.ofNat u] := by
        rcases h : 9 - j with _ | k
        · rfl
        · unfold formF
          rw [if_pos (by omega)]
      have hall : formN v = p ++ [UInt8.ofNat u] := by rw [← HFM.out, hlast]
      have HALL := Lib.hid hall
      have hsl := slice10 w.heap.size j hj
      have hln : (formN v).length = j + 1 := by rw [hall, List.length_append, HPL.out]; rfl
      have hst := HHD.out.step (x := UInt8.ofNat u) (by rw [HPL.out, HSZ.out]; omega)
      rw [HPL.out] at hst
      have HST := Lib.hid hst
      have HLN := Lib.hid hln
      clear hlast hall hln hst
      go_wp2
      have hbc : Value.int .u8 (u : Int) = bcell (UInt8.ofNat u) := by
        unfold bcell
        congr 1
        simp
        omega
      refine bodyPost_ret (v := .slice (some ⟨w.heap.size, 0, none⟩) (j + 1) 10) (by simp [results, Tryz.results218, go_sem]) rfl ?_
      rw [HLN.out, hbc]
      have hp2 := heap_setCell_same wr _ j _ _ (bcell (UInt8.ofNat u)) HP.out
      refine ⟨_, _, rfl, ⟨_, _, by rw [HLN.out], by rw [HLN.out]; omega, by omega, by rw [HLN.out]; omega, by rw [List.length_map, HLN.out, Nat.mul_one], fun _ => ⟨w.heap.size, 0, rfl, Nat.le_refl _, (Array.getElem?_eq_some_iff.1 hp2).1, fun i x hx => ?_⟩⟩, RowKit.Below.setCell HFR.out (Nat.le_refl _) _⟩
      rw [cell_of_row _ _ _ _ _ _ hp2, Nat.zero_add]
      rw [HALL.out, List.getElem?_map] at hx
      obtain ⟨y, hy, rfl⟩ := Option.map_eq_some_iff.1 hx
      exact HST.out i y hy
set_option maxRecDepth 100000 in
set_option maxHeartbeats 1000000 in
theorem appUint_any (S : Nat → Prop) (b : Value) (bs : List UInt8) (v : Nat) (w : World) (hb : Byt w S b bs) (hv : v < 18446744073709551616) (hl : bs.length ≤ 1099511627776) :
    Calls Tryz.prog 156 #[b, .int .u64 v] w fun r w' => ∃ A c, r = .returned (.slice A (bs ++ formN v).length c) ∧ OwnF w' w.heap.size (.slice A (bs ++ formN v).length c) (bs ++ formN v) ∧ fr w w' := by
  obtain ⟨A, c, rfl⟩ := slice_form hb
  have hfl := formN_len v
  have HF := Lib.hid (form_any v w hv)
  obtain ⟨m, hm⟩ : ∃ m, (formN v).length = m := ⟨_, rfl⟩
  obtain ⟨n, hn⟩ : ∃ m, bs.length = m := ⟨_, rfl⟩
  obtain ⟨q, hq⟩ : ∃ m, (bs ++ formN v).length = m := ⟨_, rfl⟩
  have hqb : q ≤ 140737488355328 := by rw [← hq, List.length_append]; omega
  rw [hm] at HF
  rw [hn] at hb ⊢
  rw [hq]
  have HB := Lib.hid hb
  have HQ := Lib.hid hq
  clear hb hm hn hq hfl
  go_enter Tryz.func156, Tryz.ntmps156
  go_wp2_with (first
    | (go_at_call 218; refine HF.out.mono ?_; rintro r w1 ⟨A1, c1, rfl, hb1, f1⟩; have hbl : BytsV (w1.alloc (.cells #[.slice A n c, .slice A1 m c1] 35)) (fun _ => True) (.slice (some ⟨w1.heap.size, 0, none⟩) 2 2) [bs, formN v] := BytsV.lit w1 [.slice A n c, .slice A1 m c1] [bs, formN v] 2 _ rfl rfl rfl (by omega) (fun i p hp => by
        match i, hp with
        | 0, hp => simp at hp; subst hp; exact ⟨_, rfl, (HB.out.below f1).mono fun _ _ => trivial⟩
        | 1, hp => simp at hp; subst hp; exact ⟨_, rfl, hb1.mono fun _ _ => trivial⟩
        | i + 2, hp => simp at hp))
    | (go_at_call 217; refine (join_any _ _ [bs, formN v] _ hbl (by rw [show [bs, formN v].flatten = bs ++ formN v by simp, HQ.out]; exact hqb)).mono ?_; rintro r w2 ⟨A2, c2, rfl, ho2, f2⟩; rw [show [bs, formN v].flatten = bs ++ formN v by simp, HQ.out] at ho2; rw [show [bs, formN v].flatten = bs ++ formN v by simp, HQ.out]))
  refine bodyPost_ret (v := .slice A2 q c2) (by simp [results, Tryz.results156, go_sem]) rfl ?_
  have hf : fr w (w1.alloc (.cells #[.slice A n c, .slice A1 m c1] 35)) := fr.alloc f1 _
  exact ⟨_, _, rfl, ho2.mono fun i hi => Nat.le_trans hf.size hi, fr.step hf f2⟩
set_option maxRecDepth 100000 in
set_option maxHeartbeats 1000000 in
theorem appBytes_any (S S' : Nat → Prop) (b x : Value) (bs xs : List UInt8) (w : World) (hb : Byt w S b bs) (hx : Byt w S' x xs) (hl : bs.length ≤ 1099511627776) (hl2 : xs.length ≤ 1099511627776) :
    Calls Tryz.prog 157 #[b, x] w fun r w' => ∃ A c, r = .returned (.slice A (bs ++ formN xs.length ++ xs).length c) ∧ OwnF w' w.heap.size (.slice A (bs ++ formN xs.length ++ xs).length c) (bs ++ formN xs.length ++ xs) ∧ fr w w' := by
  obtain ⟨A, c, rfl⟩ := slice_form hb
  obtain ⟨Ax, cx, rfl⟩ := slice_form hx
  have hfl := formN_len xs.length
  have HF := Lib.hid (form_any xs.length w (by omega))
  obtain ⟨fs, hfs⟩ : ∃ fs, formN xs.length = fs := ⟨_, rfl⟩
  rw [hfs] at hfl HF ⊢
  obtain ⟨m, hm⟩ : ∃ m, fs.length = m := ⟨_, rfl⟩
  obtain ⟨n, hn⟩ : ∃ m, bs.length = m := ⟨_, rfl⟩
  obtain ⟨k, hk⟩ : ∃ m, xs.length = m := ⟨_, rfl⟩
  obtain ⟨q, hq⟩ : ∃ m, (bs ++ fs ++ xs).length = m := ⟨_, rfl⟩
  have hqb : q ≤ 140737488355328 := by rw [← hq, List.length_append, List.length_append]; omega
  rw [hk] at hl2
  rw [hm, hk] at HF
  rw [hn] at hb ⊢
  rw [hk] at hx ⊢
  rw [hq]
  have hkm : (k : Int) % 18446744073709551616 = (k : Int) := by omega
  have HB := Lib.hid hb
  have HX := Lib.hid hx
  have HQ := Lib.hid hq
  clear hb hx hm hn hq hfl hfs hk
  go_enter Tryz.func157, Tryz.ntmps157
  go_wp2_with (first
    | (go_at_call 218; refine HF.out.mono ?_; rintro r w1 ⟨A1, c1, rfl, hb1, f1⟩; have hbl : BytsV (w1.alloc (.cells #[.slice A n c, .slice A1 m c1, .slice Ax k cx] 35)) (fun _ => True) (.slice (some ⟨w1.heap.size, 0, none⟩) 3 3) [bs, fs, xs] := BytsV.lit w1 [.slice A n c, .slice A1 m c1, .slice Ax k cx] [bs, fs, xs] 3 _ rfl rfl rfl (by omega) (fun i p hp => by
        match i, hp with
        | 0, hp => simp at hp; subst hp; exact ⟨_, rfl, (HB.out.below f1).mono fun _ _ => trivial⟩
        | 1, hp => simp at hp; subst hp; exact ⟨_, rfl, hb1.mono fun _ _ => trivial⟩
        | 2, hp => simp at hp; subst hp; exact ⟨_, rfl, (HX.out.below f1).mono fun _ _ => trivial⟩
        | i + 3, hp => simp at hp))
    | (go_at_call 217; refine (join_any _ _ [bs, fs, xs] _ hbl (by rw [show [bs, fs, xs].flatten = bs ++ fs ++ xs by simp, HQ.out]; exact hqb)).mono ?_; rintro r w2 ⟨A2, c2, rfl, ho2, f2⟩; rw [show [bs, fs, xs].flatten = bs ++ fs ++ xs by simp, HQ.out] at ho2; rw [show [bs, fs, xs].flatten = bs ++ fs ++ xs by simp, HQ.out]))
  refine bodyPost_ret (v := .slice A2 q c2) (by simp [results, Tryz.results157, go_sem]) rfl ?_
  have hf : fr w (w1.alloc (.cells #[.slice A n c, .slice A1 m c1, .slice Ax k cx] 35)) := fr.alloc f1 _
  exact ⟨_, _, rfl, ho2.mono fun i hi => Nat.le_trans hf.size hi, fr.step hf f2⟩
end Go.Proofs.YtjnolpfmchnnmaaGreatDoor
end
