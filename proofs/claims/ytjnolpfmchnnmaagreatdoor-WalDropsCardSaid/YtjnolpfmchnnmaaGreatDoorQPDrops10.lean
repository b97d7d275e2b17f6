/-
frame.All, of frames that were put.
-/
import Derived.Test.YtjnolpfmchnnmaaGreatDoorQPDrops9
import Derived.Deep.Onto
section
namespace Go.Proofs.YtjnolpfmchnnmaaGreatDoor
set_option maxRecDepth 100000
open Go.RowKit Go.BigFrame Go.Shelf
attribute [local go_sem ↓] Go.wp_at_zero Go.wp_at_succ
attribute [local go_sem] Oper.semAt_some
theorem Grows.box2 {te e : TypeId} {size n₀ B b : Nat} {T : Nat → Prop} {v u : Value} {k : Nat} {ys : List Value} {W : World} {t : TypeId} (h : Grows te e size n₀ B T v k ys W) (hb : Boxed W b t u) (h1 : t ≠ te) (h2 : t ≠ e) (u' : Value) : Grows te e size n₀ B T v k ys (W.setCell ⟨b, 0, none⟩ u') := by
  have hne : B ≠ b := fun he => by
    subst he
    have := hb.symm.trans h.box
    injection this with this
    injection this with _ this
    exact h1 this
  refine ⟨h.box.other hne _, own_only h.row (only_set W b 0 _) fun g hg he => ?_, h.set⟩
  obtain ⟨_, _, cur, hc⟩ := h.blk hg
  subst he
  have := hb.symm.trans hc
  injection this with this
  injection this with _ this
  exact h2 this
theorem Grows.push2 {te e : TypeId} {size n₀ B : Nat} {T : Nat → Prop} {v v' : Value} {k k' sA : Nat} {ys ys' : List Value} {W w2 : World} {tmp : Obj} (h : Grows te e size n₀ B T v k ys W) (hte : te ≠ e) (hs : sA ≤ W.heap.size)
    (hown : w2.ownsRow n₀ e size v' k' ys') (hg : (W.alloc tmp).grownBy w2 v.ownBlock) (hat : v'.ownBlock = v.ownBlock ∨ v'.ownBlock = some (W.alloc tmp).heap.size) :
    Boxed w2 B te v ∧ Grows te e size n₀ B (fun i => i = B ∨ v'.ownBlock = some i) v' k' ys' (w2.setCell ⟨B, 0, none⟩ v') ∧ Grew sA T (fun i => i = B ∨ v'.ownBlock = some i) ∧ Only (fun i => T i ∨ sA ≤ i) W (w2.setCell ⟨B, 0, none⟩ v') := by
  have h1 : Boxed w2 B te v := (h.box.alloc tmp).kept hg (h.box.not_row hte h.row)
  have h2 := h1.set v'
  have h3 : (w2.setCell ⟨B, 0, none⟩ v').ownsRow n₀ e size v' k' ys' := hown.kept (grownBy_setCell' w2 B v') (.inr (h1.not_row hte hown).symm)
  refine ⟨h1, ⟨h2, h3, fun i => Iff.rfl⟩, fun i hi => ?_, hg.os, hg.tape, hg.output, ?_, fun i hi hS => ?_⟩
  · rcases hi with rfl | hi
    · exact .inl ((h.set _).2 (.inl rfl))
    · rcases hat with hat | hat
      · exact .inl ((h.set _).2 (.inr (hat ▸ hi)))
      · rw [hat] at hi
        injection hi with hi
        simp at hi
        omega
  · have := hg.size
    simp at this
    simp [World.setCell]
    omega
  · have hb : i ≠ B := fun e => hS (.inl ((h.set _).2 (.inl e)))
    have hv : some i ≠ v.ownBlock := fun e => hS (.inl ((h.set _).2 (.inr e.symm)))
    exact (heap_setCell_other w2 ⟨B, 0, none⟩ i v' hb).trans ((hg.block i (by simp; omega) hv).trans (Below.heap_alloc W tmp i hi))
theorem Grows.idle2 {te e : TypeId} {size n₀ B : Nat} {T Z : Nat → Prop} {v : Value} {k base : Nat} {ys : List Value} {W W' : World} (h : Grows te e size n₀ B T v k ys W) (hi : Idle Z base W W') (hZ : ∀ i, Z i → i < n₀) (hB : ¬ Z B) : Grows te e size n₀ B T v k ys W' := by
  refine ⟨hi.cells hB h.box rfl, own_only h.row hi fun g hg hS => ?_, h.set⟩
  obtain ⟨h1, _, cur, h2⟩ := h.blk hg
  rcases hS with hz | ⟨_, o, ho, hc⟩
  · have := hZ _ hz; omega
  · rw [h2] at ho
    injection ho with ho
    subst ho
    cases hc
theorem cell_one_new (w : World) (a : Value) (t : TypeId) : ∀ j u, [a][j]? = some u → (w.alloc (.cells #[a] t)).cell? ((⟨w.heap.size, 0, none⟩ : Addr).add j) = some u := by
  intro j u hu
  rw [Addr.add_lit, World.cell?_alloc_at _ _ _ _ rfl]
  simpa using hu
theorem boxedIdle {Z : Nat → Prop} {base B : Nat} {t : TypeId} {v : Value} {W W' : World} (h : Boxed W B t v) (hi : Idle Z base W W') (hB : ¬ Z B) : Boxed W' B t v := hi.cells hB h rfl
theorem All2.bvIdle {lo base : Nat} {T Z : Nat → Prop} {W W' : World} {l : List (List UInt8)} {m : List (List Value)} (h : All2 (bvR W (fun i => (lo ≤ i ∧ ¬ T i) ∧ Loose W i)) l m) (hi : Idle Z base W W') (hZ : ∀ i, lo ≤ i ∧ ¬ T i → ¬ Z i) : All2 (bvR W' (fun i => (lo ≤ i ∧ ¬ T i) ∧ Loose W' i)) l m :=
  h.imp fun _ _ h => by
    obtain ⟨v, e, h⟩ := h
    exact ⟨v, e, h.idle hi hZ⟩
def CollF (z lo : Nat) (Z : Nat → Prop) (w : World) (pre : List FrE) (T : Nat → Prop) (W : World) : Prop :=
  ∃ v css T1 g, Grows 22 35 1 lo z T1 v pre.length css.flatten W ∧ (∀ i, T i ↔ T1 i ∨ i = z + 1) ∧ Boxed W (z + 1) 3 (.int .i64 g) ∧ All2 (bvR W (fun i => (lo ≤ i ∧ ¬ T i) ∧ Loose W i)) (pre.map fun x => x.2.2) css ∧ Only Z w W
abbrev frC (b o n c z : Nat) : Nat → Value → Array Value := fun q v => #[.slice (some ⟨b, o, none⟩) n c, undef, .slice none 0 0, .int .i64 0, .int .i64 0, .pointer (some ⟨z, 0, none⟩), .pointer (some ⟨z + 1, 0, none⟩), .pointer (some ⟨z + 1 + 1, 0, none⟩), .int .i64 q, v, .slice (some ⟨b, o, none⟩) n c,
  .func (.func 191) #[] #[.pointer (some ⟨z + 1 + 1 + 1, 0, none⟩), .pointer (some ⟨z + 1 + 1 + 1 + 1, 0, none⟩)], .int .i64 q, v, undef, undef, undef, undef, undef, undef, undef, undef, undef, undef]
def AxF (N lo : Nat) (fr0 : Nat → Value → Array Value) (pre : List FrE) (T : Nat → Prop) (x : FrE) (a : Act) (W : World) : Prop :=
  pre.length < N ∧ OkF lo T x W ∧ a = { tmps := fr0 x.1 x.2.1, defers := [] }
theorem slice_of {w : World} {S : Nat → Prop} {v : Value} {bs : List UInt8} (h : Byt w S v bs) : ∃ A c, v = .slice A bs.length c := by
  obtain ⟨A, c, e, _⟩ := h
  exact ⟨A, c, e⟩
set_option maxRecDepth 100000 in
set_option maxHeartbeats 4000000 in
theorem all_ok (S : Nat → Prop) (b o n c : Nat) (rs : List (List UInt8)) (w : World) (hv : Byt w S (.slice (some ⟨b, o, none⟩) n c) (frB rs)) (hn : (frB rs).length = n) (hn40 : n ≤ 1099511627776) (hrs : ∀ p ∈ rs, p.length ≤ 2097152) :
    Calls Tryz.prog 66 #[.slice (some ⟨b, o, none⟩) n c] w fun r w' => ∃ (v : Value) (g : Int), r = .returned (.tuple #[v, .int .i64 g, .int .i64 0]) ∧ OwnRows bvR 1 35 w' w.heap.size v rs ∧ fr w w' := by
  have hvl : Byt w (fun i => i < w.heap.size) (.slice (some ⟨b, o, none⟩) n c) (frB rs) := hv.monoLt fun _ h _ => h
  obtain ⟨i0, hi, hz0, hz1, hz2⟩ := info_parts infoB
  have hmany : rs.length * 8 ≤ n := by rw [← hn]; exact frB_many rs
  have HP : Hid (∀ w1, fr w w1 → Boxed w1 (w.heap.size + 1 + 1) 31 (.int .i64 0) → w1.heap.size = w.heap.size + 1 + 1 + 1 →
      Calls Tryz.prog 120 #[.slice (some ⟨b, o, none⟩) n c, .pointer (some ⟨w.heap.size + 1 + 1, 0, none⟩)] w1 fun r w2 => r = .returned (.func (.func 191) #[] #[.pointer (some ⟨w.heap.size + 1 + 1 + 1, 0, none⟩), .pointer (some ⟨w.heap.size + 1 + 1 + 1 + 1, 0, none⟩)]) ∧ PairsK w2 (w.heap.size + 1 + 1 + 1) (w.heap.size + 1 + 1) b o n c (fun i => i < w.heap.size) (frB rs) ∧ fr w1 w2 ∧ w2.heap.size = w.heap.size + 1 + 1 + 1 + 1 + 1) := Lib.hid fun w1 hf hb hz => by
    have p1 := Boxed.new w1 35 (.slice (some ⟨b, o, none⟩) n c)
    have p2 := Boxed.new (w1.alloc (.cells #[.slice (some ⟨b, o, none⟩) n c] 35)) 206 (.pointer (some ⟨w.heap.size + 1 + 1, 0, none⟩))
    rw [World.size_alloc, hz] at p2
    rw [hz] at p1
    have hf2 : fr w1 ((w1.alloc (.cells #[.slice (some ⟨b, o, none⟩) n c] 35)).alloc (.cells #[.pointer (some ⟨w.heap.size + 1 + 1, 0, none⟩)] 206)) := fr.alloc (fr.alloc fr.refl _) _
    have hK : PairsK ((w1.alloc (.cells #[.slice (some ⟨b, o, none⟩) n c] 35)).alloc (.cells #[.pointer (some ⟨w.heap.size + 1 + 1, 0, none⟩)] 206)) (w.heap.size + 1 + 1 + 1) (w.heap.size + 1 + 1) b o n c (fun i => i < w.heap.size) (frB rs) := ⟨p1.alloc _, p2, boxedFr hb hf2, (hvl.below hf).below hf2⟩
    have HK := Lib.hid hK
    have HF := Lib.hid hf2
    have HZ := Lib.hid hz
    clear p1 p2 hf2 hK hf hb hz
    go_enter Tryz.func120, Tryz.ntmps120
    go_wp2
    go_ret
    rw [HZ.out]
    exact ⟨rfl, HK.out, HF.out, by simp [HZ.out]⟩
  refine (callsIn_wide (n := 1)).1 ?_
  refine callsIn_of_wp_marks Tryz.func66 rfl trivial ?_
  simp only [Tryz.ntmps66, List.size_toArray, List.length_cons, List.length_nil, Nat.reduceAdd, Nat.reduceSub, Array.replicate_succ, Array.replicate_zero, List.push_toArray, List.append_toArray, List.nil_append, List.cons_append]
  have bz := Boxed.new w 22 (.slice none 0 0)
  have be := Boxed.new (w.alloc (.cells #[.slice none 0 0] 22)) 3 (.int .i64 0)
  have bw := Boxed.new ((w.alloc (.cells #[.slice none 0 0] 22)).alloc (.cells #[.int .i64 0] 3)) 31 (.int .i64 0)
  simp only [World.size_alloc] at be bw
  have HBZ := Lib.hid ((bz.alloc (.cells #[.int .i64 0] 3)).alloc (.cells #[.int .i64 0] 31))
  have HBE := Lib.hid (be.alloc (.cells #[.int .i64 0] 31))
  have hA : fr w (((w.alloc (.cells #[.slice none 0 0] 22)).alloc (.cells #[.int .i64 0] 3)).alloc (.cells #[.int .i64 0] 31)) := fr.alloc (fr.alloc (fr.alloc fr.refl _) _) _
  have HA := Lib.hid hA
  have HC := Lib.hid (HP.out _ hA bw (by simp))
  have HN := Lib.hid hn
  have HRS := Lib.hid hrs
  clear bz be bw hA HP hn hrs hv hvl
  gi_wp2_with (refine ⟨trivial, ?_⟩; refine (callsIn_wide.2 HC.out).mono ?_; rintro r w2 ⟨rfl, hK2, hf2, hz2'⟩)
  have HBZ2 := Lib.hid (boxedFr HBZ.out hf2)
  have HBE2 := Lib.hid (boxedFr HBE.out hf2)
  have HF2 := Lib.hid (fr.step HA.out hf2)
  obtain ⟨z, hz⟩ : ∃ z, w.heap.size = z := ⟨_, rfl⟩
  rw [hz] at HBZ2 HBE2 hK2 hz2' ⊢
  refine range_tells rfl (by omega) (gf := 191) (lb := _) rfl trivial (enters_of Tryz.func191 (by kernel_rfl) rfl)
    (frames_tells 0 w2 _ _ b o n c _ rs hK2 (by omega) (fun i h => by omega) HN.out hn40 HRS.out) (fun i h => h.1) (fun i h => ⟨by omega, .inr (.inr (.inl h))⟩) (fun pre T T' x A hT h => ⟨h.1.anti hT, h.2⟩)
    (fun xs A B h hi => ⟨h.1, boxedIdle h.2 hi (fun h => h)⟩) (fun xs A B h hi => trivial) (fun _ => rfl)
    (CollF z w2.heap.size (fun i => z ≤ i) w2) (fun _ _ _ _ => False) ?still (fun _ _ _ _ _ h => h.elim) (fun i => i = z ∨ i = z + 1) (fun i hi => ⟨by omega, by omega⟩)
    ⟨.slice none 0 0, [], fun i => i = z, 0, ⟨HBZ2.out, World.ownsRow_nil _ _ _ _, fun i => by simp [Value.ownBlock]⟩, fun i => Iff.rfl, HBE2.out, .nil, Only.refl _ _⟩
    (AxF rs.length w2.heap.size (frC b o n c z)) ?ax ?assign ?body ?done (fun _ _ _ _ _ _ _ _ h => h.elim) ?lt (fun _ _ _ _ _ h => h.elim)
  case still =>
    rintro pre T A B ⟨v, css, T1, g, h1, h2, h3, h4, h5⟩ hi
    exact ⟨v, css, T1, g, h1.idle2 hi (fun i h => by omega) (by omega), h2, boxedIdle h3 hi (by omega), h4.bvIdle hi (fun i h h' => by omega), h5.idle (hi.wide fun i h => by omega) (Nat.le_refl _)⟩
  case lt =>
    rintro pre T W i ⟨v, css, T1, g, h1, h2, h3, h4, h5⟩ hT
    rcases (h2 i).1 hT with h | rfl
    · exact h1.lt h
    · exact h3.lt
  case ax =>
    rintro pre T x a' A B ⟨hN, hx, rfl⟩ hi
    exact ⟨hN, hx.idle hi (fun i h h' => by omega), rfl⟩
  case assign =>
    rintro l pre T x W K hi' ⟨hx, hN⟩ hK
    gi_wp2
    refine hK _ _ (fr.refl) hi' ⟨hN, hx, ?_⟩
    rfl
  case body =>
    rintro l pre T x a' sA W hl hlA hrec hTs hsA ⟨v, css, T1, g, hgr, hT1, hbe, hall, hon⟩ ⟨hN, hx, rfl⟩
    obtain ⟨Ax, cx, hxe⟩ := slice_of hx
    obtain ⟨q, xv, p⟩ := x
    dsimp only at hxe hx
    subst hxe
    have hc := hgr.box.cell
    have HG := Lib.hid hgr
    have HBEW := Lib.hid hbe
    have HALL := Lib.hid hall
    have HON := Lib.hid hon
    have HX := Lib.hid hx
    have HT1 := Lib.hid hT1
    have hzW : w2.heap.size ≤ W.heap.size := hon.size
    have hrow := hgr.row
    have hT1e : ¬ T1 (z + 1) := fun h => by
      rcases (hgr.set _).1 h with h | h
      · omega
      · have := (hgr.blk h).1; omega
    have HT1E := Lib.hid hT1e
    clear hgr hbe hall hon hx hT1 hTs hrec hl hlA hT1e
    gi_wp2_with (gi_at_builtin; refine wpListIn_append_at _ rfl _ _ 22 rfl w2.heap.size 35 i0 _ 1 24 Tryz.underlying22 hi hz0 hz1 hz2 rfl (by decide) _ _ _ rfl (hrow.alloc _) ⟨W.heap.size, 0, none⟩ 1 1 [.slice Ax p.length cx] rfl rfl (cell_one_new _ _ _) (by simp [Value.oneCell']) (by unfold maxLen; omega) (by omega) (by simp; omega) ?_; intro v' w3 hown' hgrow hat; obtain ⟨g', cap', rfl⟩ := ownsRow_succ hown'; obtain ⟨hv1, hg2, hgT, ho2⟩ := HG.out.push2 (by decide) (Nat.le_refl _) hown' hgrow hat; have hc1 := hv1.cell; have hf1 := hv1.frozen; have hb2 := boxedOnly HBEW.out ho2 (fun h => h.elim HT1E.out fun h => by have := HBEW.out.lt; omega); have hf2 := hb2.frozen; have hc2 := hb2.cell)
    have ho3 : Only (fun i => T i ∨ W.heap.size ≤ i) W ((w3.setCell ⟨z, 0, none⟩ (.slice (some ⟨g', 0, none⟩) (pre.length + 1) cap')).setCell ⟨z + 1, 0, none⟩ (.int .i64 q)) :=
      Only.trans (Only.mono ho2 fun i h => h.imp (fun h => (HT1.out i).2 (.inl h)) id) (Only.mono (only_set _ (z + 1) 0 _) fun i h => .inl ((HT1.out i).2 (.inr h)))
    have hg3 : Grew W.heap.size T (fun i => (i = z ∨ (Value.slice (some ⟨g', 0, none⟩) (pre.length + 1) cap').ownBlock = some i) ∨ i = z + 1) := fun i h => by
      rcases h with h | h
      · exact (hgT i h).imp (fun h => (HT1.out i).2 (.inl h)) id
      · exact .inl ((HT1.out i).2 (.inr h))
    refine ⟨_, fun i h => (hg3 i h).imp id fun h => Nat.le_trans hsA h, Only.mono ho3 fun i h => h.imp id fun h => Nat.le_trans hsA h, .slice (some ⟨g', 0, none⟩) (pre.length + 1) cap', css ++ [[.slice Ax p.length cx]], _, q, ?_, fun i => Iff.rfl, hb2.set _, ?_, ?_⟩
    · rw [List.length_append, List.flatten_append]
      exact hg2.box2 hb2 (by decide) (by decide) _
    · rw [List.map_append]
      exact (All2.imp (fun _ _ h => by obtain ⟨v, e, h⟩ := h; exact ⟨v, e, h.grewT hg3 ho3⟩) HALL.out).snoc ⟨_, rfl, Byt.grewT HX.out hg3 ho3⟩
    · have h0 := HON.out
      refine ⟨ho3.os.trans h0.os, ho3.tape.trans h0.tape, ho3.output.trans h0.output, Nat.le_trans h0.size ho3.size, fun i hlt hn => (ho3.block i (by omega) ?_).trans (h0.block i hlt hn)⟩
      rintro (h | h)
      · rcases (HT1.out i).1 h with h | h
        · rcases (HG.out.set i).1 h with h | h
          · omega
          · have := (HG.out.blk h).1
            omega
        · omega
      · omega
  case done =>
    rintro D' xs T W hD' hTs ⟨hs, hbw⟩ ⟨v, css, T1, g, hgr, hT1, hbe, hall, hon⟩ hK
    have hc := hgr.box.cell
    have k3 := hbw.cell
    have z3 := hbw.frozen
    have HD := Lib.hid hD'
    gi_wp2
    have hidW : Idle (fun i => i = z + 1 + 1) w2.heap.size W (W.setCell ⟨z + 1 + 1, 0, none⟩ (.int .i64 0)) := Idle.of_only (only_set W (z + 1 + 1) 0 _)
    have hgr3 := hgr.idle2 hidW (fun i h => by omega) (by omega)
    have hbe3 := boxedIdle hbe hidW (by omega)
    have hbw3 := hbw.set (.int .i64 0)
    have hall3 := hall.bvIdle hidW (fun i h h' => by omega)
    have hon3 := hon.idle (hidW.wide fun i h => by omega) (Nat.le_refl _)
    have hK3 : (W.setCell ⟨z + 1 + 1, 0, none⟩ (.int .i64 0)).heap[D']? = some (.deferred (some [])) := (heap_setCell_other W ⟨z + 1 + 1, 0, none⟩ D' _ (by show D' ≠ z + 1 + 1; have := HD.out; omega)).trans hK
    generalize W.setCell ⟨z + 1 + 1, 0, none⟩ (.int .i64 0) = W3 at hgr3 hbe3 hbw3 hall3 hon3 hK3 ⊢
    clear hidW hgr hbe hbw hall hon hK hc k3 z3
    have c0 := hgr3.box.cell
    have c1 := hbe3.cell
    have c2 := hbw3.cell
    refine (wpIn_wide (n := 1)).2 ?_
    go_quiet (fail)
    have HD2 := Lib.hid hK3
    have hL : xs.length = rs.length := by rw [← hs]; simp
    have HL := Lib.hid hL
    have HS := Lib.hid hs
    have HT1 := Lib.hid hT1
    have HTS := Lib.hid hTs
    clear hK3 hL hs hT1 hTs c0 c1 c2
    gi_wp2
    refine ⟨by simp, .inl ⟨_, _, rfl, run_takeDeferred HD2.out, ?_⟩⟩
    have hid : Idle (fun _ => False) w2.heap.size W3 ((W3.drewN nq).putObj D' (.deferred none)) := Idle.trans (Idle.of_below (show fr W3 (W3.drewN nq) from ⟨rfl, rfl, rfl, Nat.le_refl _, fun _ _ => rfl⟩)) (Idle.putObj (A := W3.drewN nq) HD.out HD2.out rfl)
    have hgr4 := hgr3.idle2 hid (fun i h => h.elim) (fun h => h)
    have hall4 := hall3.bvIdle hid (fun i h h' => h')
    have hon4 := hon3.idle (hid.wide fun i h => h.elim) (Nat.le_refl _)
    rw [HL.out] at hgr4
    rw [HS.out] at hall4
    refine ⟨.tuple #[v, .int .i64 g, .int .i64 0], by simp [results, Tryz.results66, go_sem], v, g, rfl, ⟨css, hgr4.row.mono (by omega), hall4.imp fun _ _ h => by
      obtain ⟨u, e, h⟩ := h
      exact ⟨u, e, h.mono fun i hi => ⟨by omega, fun hv => hi.1.2 ((HT1.out i).2 (.inl ((hgr4.set i).2 (.inr hv)))), hi.2⟩⟩⟩, ?_⟩
    have h0 := HF2.out
    refine ⟨hon4.os.trans h0.os, hon4.tape.trans h0.tape, hon4.output.trans h0.output, Nat.le_trans h0.size hon4.size, fun i hi => (hon4.block i (by omega) (by omega)).trans (h0.block i hi)⟩
end Go.Proofs.YtjnolpfmchnnmaaGreatDoor
end
