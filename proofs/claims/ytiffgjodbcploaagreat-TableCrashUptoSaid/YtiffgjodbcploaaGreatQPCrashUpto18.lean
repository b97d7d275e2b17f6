/-
law TableCrash.
-/
import Derived.Test.YtiffgjodbcploaaGreatQPCrashUpto17
import Derived.Test.YtiffgjodbcploaaGreatQPCrashUpto12
import Derived.Test.YtiffgjodbcploaaGreatQPCrashUpto15
import Derived.Test.YtiffgjodbcploaaGreatQPCrashUpto16
import Derived.Test.YtiffgjodbcploaaGreatQPCrashUpto10
import Derived.Test.YtiffgjodbcploaaGreatQPCrashUpto5
import Derived.Test.YtiffgjodbcploaaGreatQPCrashUpto4
section
namespace Go.Proofs.YtiffgjodbcploaaGreat
set_option maxRecDepth 100000
open Go.RowKit Go.BigFrame Go.Shelf
attribute [local go_sem ↓] Go.wp_at_zero Go.wp_at_succ
attribute [local go_sem] Oper.semAt_some
/-- what the rounds have gathered. -/
def CollA (n₀ lo : Nat) (fs : List Ent) (w : World) (pre : List (Value × Ent)) (T : Nat → Prop) (W : World) : Prop :=
  ∃ v ys, Grows 22 48 4 n₀ n₀ T v pre.length ys W ∧ EntCells W (fun i => (lo ≤ i ∧ ¬ T i) ∧ Loose W i) ys (pre.map Prod.snd) ∧ fr w W ∧ ∃ rest, pre.map Prod.snd ++ rest = fs
abbrev aFrame (Tb R nl cl nh ch : Nat) (Al Ah : Option Addr) (Bx : Nat) (x : Value) : Array Value :=
  #[.pointer (some ⟨Tb, 0, none⟩), .slice Al nl cl, .slice Ah nh ch, undef, undef, undef, .pointer (some ⟨R, 0, none⟩), .pointer (some ⟨R + 1, 0, none⟩), .pointer (some ⟨R + 1 + 1, 0, none⟩), .pointer (some ⟨Bx, 0, none⟩), .int .i64 0, .pointer (some ⟨Tb, 0, none⟩), .slice Al nl cl, .slice Ah nh ch, entF (R + 3), x, .int .i64 0, undef, undef, undef, undef, undef, undef, undef, undef, undef]
set_option maxRecDepth 100000 in
set_option maxHeartbeats 1000000 in
theorem tall_any (Tb N nl cl nh ch : Nat) (Al Ah : Option Addr) (S0 S1 S2 : Nat → Prop) (lo hi : List UInt8) (es : List Ent) (ps : List (List Ent)) (w : World) (hl : Byt w S1 (.slice Al nl cl) lo) (hh : Byt w S2 (.slice Ah nh ch) hi) (htab : TabS w S0 Tb N es ps) (hpo : PartsOk es ps) (hN : es.length = N) (hN0 : 0 < N) (hN2 : N ≤ 16777216) (hB2 : bytesE es ≤ 16777216) (hord : orderedE es = true) (hS : ∀ i, S0 i → i < w.heap.size) :
    Calls Tryz.prog 15 #[.pointer (some ⟨Tb, 0, none⟩), .slice Al nl cl, .slice Ah nh ch] w fun r w' => ∃ (v : Value) (ys : List Value) (T : Nat → Prop), r = .returned (.tuple #[v, .int .i64 0]) ∧ w'.ownsRow w.heap.size 48 4 v (rangeE lo hi es).length ys ∧ EntCells w' (fun i => (w.heap.size ≤ i ∧ ¬ T i) ∧ Loose w' i) ys (rangeE lo hi es) ∧ (∀ g, v.ownBlock = some g → T g) ∧ fr w w' := by
  obtain ⟨i0, hi0, hz0, hz1, hz2⟩ := info_parts info26
  obtain ⟨fs, hfs⟩ : ∃ q, rangeE lo hi es = q := ⟨_, rfl⟩
  rw [hfs]
  obtain ⟨wP, hwP⟩ : ∃ x, (w.alloc (.cells #[.slice none 0 0] 22)).alloc (.cells #[.int .i64 0] 30) = x := ⟨_, rfl⟩
  obtain ⟨wA, hwA⟩ : ∃ x, wP.alloc (.cells #[.slice none 0 0] 22) = x := ⟨_, rfl⟩
  have zP : wP.heap.size = w.heap.size + 1 + 1 := by rw [← hwP]; simp
  have zA : wA.heap.size = w.heap.size + 3 := by rw [← hwA]; simp [zP]
  have fP : fr w wP := by rw [← hwP]; exact fr.alloc (fr.alloc fr.refl _) _
  have fPA : fr wP wA := by rw [← hwA]; exact fr.alloc fr.refl _
  have p0 : Boxed wP w.heap.size 22 (.slice none 0 0) := by rw [← hwP]; exact (Boxed.new w _ _).alloc _
  have p1 : Boxed wP (w.heap.size + 1) 30 (.int .i64 0) := by
    rw [← hwP]
    have := Boxed.new (w.alloc (.cells #[.slice none 0 0] 22)) 30 (.int .i64 0)
    rwa [World.size_alloc] at this
  have p2 : Boxed wA (w.heap.size + 1 + 1) 22 (.slice none 0 0) := by
    rw [← hwA, ← zP]
    exact Boxed.new wP _ _
  have hEN := entries_some Tb nl cl nh ch Al Ah S1 S2 lo hi wA (hl.below (fr.step fP fPA)) (hh.below (fr.step fP fPA))
  rw [zA] at hEN
  have HEN := Lib.hid hEN
  have HTA := Lib.hid (htab.fr (fr.step fP fPA))
  have HFP := Lib.hid fP
  have HPA := Lib.hid fPA
  have HWA : Hid (((w.alloc (.cells #[.slice none 0 0] 22)).alloc (.cells #[.int .i64 0] 30)).alloc (.cells #[.slice none 0 0] 22) = wA) := Lib.hid (by rw [hwP]; exact hwA)
  have HP0 := Lib.hid p0
  have HP1 := Lib.hid p1
  have HP2 := Lib.hid p2
  have HZP := Lib.hid zP
  have HZA := Lib.hid zA
  have HPO := Lib.hid hpo
  have HN := Lib.hid hN
  have HORD := Lib.hid hord
  have HS := Lib.hid hS
  clear hl hh htab hpo hN hord hS hEN fP fPA p0 p1 p2 zP zA hwP hwA
  refine (callsIn_wide (n := 1)).1 ?_
  refine callsIn_of_wp_marks Tryz.func15 rfl trivial ?_
  simp only [Tryz.ntmps15, List.size_toArray, List.length_cons, List.length_nil, Nat.reduceAdd, Nat.reduceSub, Array.replicate_succ, Array.replicate_zero, List.push_toArray, List.append_toArray, List.nil_append, List.cons_append]
  refine wpIn_wide.2 ?_
  go_wp2_with (first | rw [HWA.out] | (go_at_call 42; refine HEN.out.mono ?_; rintro r w1 ⟨rfl, e0, ⟨A, n, c, A', n', c', e1, e2, e3, e4⟩, f1⟩))
  have HF1 := Lib.hid f1
  have hw1 : w.heap.size + 6 ≤ w1.heap.size := e2.lt
  obtain ⟨S', hS'⟩ : ∃ S' : Nat → Prop, S' = fun i => w.heap.size + 3 + 3 ≤ i ∧ Loose w1 i := ⟨_, rfl⟩
  have hS1 : ∀ i, S' i → w.heap.size + 6 ≤ i ∧ i < w1.heap.size := fun i h => by rw [hS'] at h; exact ⟨h.1, h.2.lt⟩
  have HTI := Lib.hid (entries_tells 0 w1 (w.heap.size + 3) Tb N n c n' c' A A' S0 S' S' lo hi es ps ⟨e0, e1, e2, by rw [hS']; exact e3, by rw [hS']; exact e4, HTA.out.fr f1⟩ HPO.out HN.out hN0 hN2 hB2 HORD.out (fun i h => by
    rcases h with h | h | h
    · have := HS.out i h; omega
    · exact (hS1 i h).2
    · exact (hS1 i h).2))
  have HS1 := Lib.hid hS1
  have hP2 := boxedFr HP2.out f1
  have hfP1 : fr wP w1 := fr.step HPA.out f1
  have hfl : (rangeE lo hi es).length ≤ 16777216 := Nat.le_trans range_len (by rw [HN.out]; exact hN2)
  rw [hfs] at HTI
  rw [hfs] at hfl
  clear f1 e0 e1 e2 e3 e4 hS1 hS'
  refine (wpIn_wide (n := 1)).1 ?_
  refine range_tells rfl (by omega) (gf := 72) (lb := #[.pointer (some ⟨w.heap.size + 3, 0, none⟩), .pointer (some ⟨w.heap.size + 3 + 1, 0, none⟩), .pointer (some ⟨w.heap.size + 3 + 1 + 1, 0, none⟩)]) rfl trivial (enters_of Tryz.func72 (by kernel_rfl) rfl) HTI.out
    ?hD (fun i h => h.elim) (fun pre T T' x A hT h => h.anti hT) (fun _ _ _ h _ => h) (fun _ _ _ h _ => h) (fun _ => rfl)
    (CollA (w.heap.size + 1 + 1) w.heap.size fs wP) (fun _ _ _ _ => False) ?still (fun _ _ _ _ _ h => h.elim) (fun i => i = w.heap.size + 1 + 1) ?t0 ⟨.slice none 0 0, [], ⟨hP2, World.ownsRow_nil _ _ _ _, fun i => by simp [Value.ownBlock]⟩, (show EntCells w1 _ [] [] from trivial), hfP1, fs, rfl⟩
    (AxG w1.heap.size fs (aFrame Tb w.heap.size nl cl nh ch Al Ah)) ?ax ?assign ?body ?done (fun _ _ _ _ _ _ _ _ h => h.elim) ?lt (fun _ _ _ _ _ h => h.elim)
  case hD =>
    rintro i (rfl | rfl | rfl | h | h | h)
    · omega
    · omega
    · omega
    · have := HS.out i h; omega
    · exact (HS1.out i h).2
    · exact (HS1.out i h).2
  case t0 =>
    rintro i rfl
    refine ⟨by omega, fun h => ?_⟩
    rcases h with h | h | h | h | h | h
    · omega
    · omega
    · omega
    · have := HS.out _ h; omega
    · have := (HS1.out _ h).1; omega
    · have := (HS1.out _ h).1; omega
  case still =>
    rintro pre T A B ⟨v, ys, h1, h2, h3, h4⟩ hi'
    refine ⟨v, ys, h1.idle hi' (fun _ h => h.elim) (Nat.le_refl _), EntCells.imp h2 fun _ _ h => h.idle hi' (fun _ _ h => h), ?_, h4⟩
    exact ⟨hi'.os.trans h3.os, hi'.tape.trans h3.tape, hi'.output.trans h3.output, Nat.le_trans h3.size hi'.size, fun i hlt => (hi'.block i (Nat.lt_of_lt_of_le hlt h3.size) fun hk => by have := HZP.out; rcases hk with hk | hk; exact hk; omega).trans (h3.block i hlt)⟩
  case lt =>
    rintro pre T W i ⟨v, ys, h1, _⟩ hT
    exact h1.lt hT
  case ax =>
    rintro pre T x a' A B ⟨Bx, Ak, nk', ck', Au, nu, cu, hx, hbx, hk, hu, hr, rfl⟩ hid
    exact ⟨Bx, Ak, nk', ck', Au, nu, cu, hx, hid.cells (fun h => h) hbx rfl, hk.idle hid (fun _ _ h => h), hu.idle hid (fun _ _ h => h), hr, rfl⟩
  case assign =>
    rintro l' pre T ⟨x1, x2⟩ W' K hi' ⟨⟨k, u, hx, hk1, hu1⟩, hrest⟩ hK
    obtain ⟨Ak, ck', rfl⟩ := slice_form hk1
    obtain ⟨Au, cu, rfl⟩ := slice_form hu1
    simp only at hx
    subst hx
    have HK := Lib.hid hk1
    have HU := Lib.hid hu1
    have HI := Lib.hid hi'
    have HR := Lib.hid hrest
    clear hk1 hu1 hi' hrest
    gi_wp2
    have hal : fr W' (W'.alloc (.cells #[.slice Ak x2.key.length ck', .int .i64 x2.seq, .bool x2.dead, .slice Au x2.val.length cu] 48)) := fr.alloc fr.refl _
    have hid : Idle (fun _ => False) w.heap.size W' (W'.alloc (.cells #[.slice Ak x2.key.length ck', .int .i64 x2.seq, .bool x2.dead, .slice Au x2.val.length cu] 48)) := Idle.of_below hal
    obtain ⟨v, ys, h1, h2, h3, h4⟩ := HI.out
    exact hK _ _ hal ⟨v, ys, h1.below hal, EntCells.imp h2 fun _ _ h => h.idle hid (fun _ _ h => h), fr.step h3 hal, h4⟩ ⟨W'.heap.size, Ak, _, ck', Au, _, cu, rfl, heap_alloc_new W' _, HK.out.idle hid (fun _ _ h => h), HU.out.idle hid (fun _ _ h => h), HR.out, rfl⟩
  case body =>
    rintro l' pre T x a' sA W hl hlA hrec hTs hsA ⟨v, ys, hgr, hec, hf, _⟩ ⟨Bx, Ak, nk', ck', Au, nu, cu, hx, hbx, hk, hu, hr, rfl⟩
    obtain ⟨j, hj⟩ : ∃ j, pre.length = j := ⟨_, rfl⟩
    rw [hj] at hgr
    have hjl : j + 1 ≤ 16777216 := by
      obtain ⟨rest, hr'⟩ := hr
      have := congrArg List.length hr'
      simp at this
      omega
    have hrow := hgr.row
    obtain ⟨Ao, co, rfl⟩ := own_form hrow
    have hcO := hgr.box.cell
    have x0 := cell_of_row W _ 0 _ _ _ hbx
    have x1 := cell_of_row W _ 1 _ _ _ hbx
    have x2 := cell_of_row W _ 2 _ _ _ hbx
    have x3 := cell_of_row W _ 3 _ _ _ hbx
    have hsA2 : w.heap.size + 1 + 1 ≤ sA := by omega
    have hWz : w.heap.size + 1 + 1 ≤ W.heap.size := by have := hf.size; have := HZP.out; omega
    have HTs := Lib.hid hTs
    have HGR := Lib.hid hgr
    have HEC := Lib.hid hec
    have HF := Lib.hid hf
    have HJ := Lib.hid hj
    have HK := Lib.hid hk
    have HU := Lib.hid hu
    have HR := Lib.hid hr
    obtain ⟨sq, hsq⟩ : ∃ q, x.2.seq = q := ⟨_, rfl⟩
    obtain ⟨dd, hdd⟩ : ∃ q, x.2.dead = q := ⟨_, rfl⟩
    have HSQ := Lib.hid hsq
    have HDD := Lib.hid hdd
    rw [hx, hsq, hdd]
    rw [hsq, hdd] at x0 x1 x2 x3
    clear hrec hTs hl hlA hgr hec hf hj hk hu hr hx hbx hsq hdd hP2 hfP1
    gi_wp2_with (gi_at_builtin; refine wpListIn_append_at _ rfl _ _ 22 rfl (w.heap.size + 1 + 1) 48 i0 _ 4 64 Tryz.underlying22 hi0 hz0 hz1 hz2 rfl (by decide) _ _ _ rfl (hrow.alloc _) ⟨W.heap.size, 0, none⟩ 1 1 [.slice Ak nk' ck', .int .i64 sq, .bool dd, .slice Au nu cu] rfl rfl (cell_four_new _ _ _ _ _ _) (by simp [Value.oneCell']) (by unfold maxLen; omega) (by omega) (by simp; omega) ?_; intro v' w7 hown' hgrow hat; obtain ⟨g', cap', rfl⟩ := ownsRow_succ hown'; obtain ⟨hv1, hg7, hgT, ho2⟩ := HGR.out.push (by decide) (Nat.le_refl _) hWz hsA hown' hgrow hat; have hc1 := hv1.cell; have hf1 := hv1.frozen)
    have hgT' : Grew W.heap.size T _ := (HGR.out.push (sA := W.heap.size) (by decide) (Nat.le_refl _) hWz (Nat.le_refl _) hown' hgrow hat).2.2.1
    have ho2' := (HGR.out.push (sA := W.heap.size) (by decide) (Nat.le_refl _) hWz (Nat.le_refl _) hown' hgrow hat).2.2.2
    refine ⟨_, hgT, ho2, _, _, by rw [List.length_append, HJ.out]; exact hg7, ?_, ?_, ?_⟩
    · rw [List.map_append]
      have fix : ∀ {v bs}, Byt W (fun i => (w.heap.size ≤ i ∧ ¬ T i) ∧ Loose W i) v bs → Byt (w7.setCell ⟨w.heap.size + 1 + 1, 0, none⟩ (.slice (some ⟨g', 0, none⟩) (j + 1) cap')) (fun i => (w.heap.size ≤ i ∧ ¬ (i = w.heap.size + 1 + 1 ∨ (Value.slice (some ⟨g', 0, none⟩) (j + 1) cap').ownBlock = some i)) ∧ Loose (w7.setCell ⟨w.heap.size + 1 + 1, 0, none⟩ (.slice (some ⟨g', 0, none⟩) (j + 1) cap')) i) v bs := fun h => h.grewT hgT' ho2'
      refine EntCells.append (EntCells.imp HEC.out fun v bs h => fix h) ?_
      have h := EntCells.one (e := x.2) (fix (HK.out.mono fun i hi => ⟨⟨by have := hi.1.1; omega, hi.1.2⟩, hi.2⟩)) (fix (HU.out.mono fun i hi => ⟨⟨by have := hi.1.1; omega, hi.1.2⟩, hi.2⟩))
      rw [HSQ.out, HDD.out] at h
      exact h
    · have hf := HF.out
      exact ⟨ho2.os.trans hf.os, ho2.tape.trans hf.tape, ho2.output.trans hf.output, Nat.le_trans hf.size ho2.size, fun i h1 => (ho2.block i (Nat.lt_of_lt_of_le h1 hf.size) (fun h => by
        have := HZP.out
        rcases h with h | h
        · rcases HTs.out i h with h | h <;> omega
        · omega)).trans (hf.block i h1)⟩
    · obtain ⟨rest, hr'⟩ := HR.out
      exact ⟨rest, by rw [← hr']; simp⟩
  case done =>
    rintro D' xs T W hD' hTs hxs ⟨v, ys, hgr, hec, hf, _⟩ hK
    have hxs' : xs.map Prod.snd = fs := hxs
    have hlen : xs.length = fs.length := by rw [← hxs', List.length_map]
    rw [hxs'] at hec
    rw [hlen] at hgr
    obtain ⟨nf, hnf⟩ : ∃ q, fs.length = q := ⟨_, rfl⟩
    rw [hnf] at hgr
    obtain ⟨A, c', rfl⟩ := own_form hgr.row
    have hcO := hgr.box.cell
    have q0 := boxedFr HP0.out hf
    have q1 := boxedFr HP1.out hf
    have e0 := q0.cell
    have e1 := q1.cell
    have z0 := q0.frozen
    have z1 := q1.frozen
    have HQ0 := Lib.hid q0
    have HQ1 := Lib.hid q1
    have HGR := Lib.hid hgr
    have HEC := Lib.hid hec
    have HF := Lib.hid hf
    have HK := Lib.hid hK
    have HNF := Lib.hid hnf
    clear hgr hec hf hK q0 q1 hTs hxs hxs' hlen hnf hP2 hfP1
    go_wp2
    obtain ⟨W', hW'⟩ : ∃ x, (W.setCell ⟨w.heap.size, 0, none⟩ (.slice A nf c')).setCell ⟨w.heap.size + 1, 0, none⟩ (.int .i64 0) = x := ⟨_, rfl⟩
    have hK := HK.out
    have hwP := HZP.out
    have hwf := HFP.out.size
    have o3 : Only (fun i => i = w.heap.size ∨ i = w.heap.size + 1) W W' := by
      rw [← hW']
      exact Only.setCell (S := fun i => i = w.heap.size ∨ i = w.heap.size + 1) (Only.setCell (S := fun i => i = w.heap.size ∨ i = w.heap.size + 1) (Only.refl _ _) (p := ⟨w.heap.size, 0, none⟩) (.inl rfl) _) (p := ⟨w.heap.size + 1, 0, none⟩) (.inr rfl) _
    have r0 : Boxed W' w.heap.size 22 (.slice A nf c') := by rw [← hW']; exact (HQ0.out.set _).other (by omega) _
    have r1 : Boxed W' (w.heap.size + 1) 30 (.int .i64 0) := by rw [← hW']; exact (HQ1.out.other (by omega) _).set _
    have k1 : W'.heap[D']? = some (.deferred (some [])) := (o3.block D' (Array.getElem?_eq_some_iff.1 hK).1 (by omega)).trans hK
    have o4 : Only (fun i => i = D') W' (W'.putObj D' (.deferred none)) := ⟨rfl, rfl, rfl, by simp, fun i _ hi => World.putObj_heap_other hi⟩
    have s0 := (boxedOnly r0 o4 (by omega)).cell
    have s1 := (boxedOnly r1 o4 (by omega)).cell
    have o5 : Only (fun i => i = w.heap.size ∨ i = w.heap.size + 1 ∨ i = D') W (W'.putObj D' (.deferred none)) := Only.trans (Only.mono o3 fun i h => by omega) (Only.mono o4 fun i h => by omega)
    have hno : ∀ i, Loose W i → ¬ (i = w.heap.size ∨ i = w.heap.size + 1 ∨ i = D') := fun i hl h => by
      obtain ⟨cs, hl⟩ := hl
      rcases h with rfl | rfl | rfl
      · have := hl.symm.trans HQ0.out; injection this with this; injection this with _ this; exact absurd this (by decide)
      · have := hl.symm.trans HQ1.out; injection this with this; injection this with _ this; exact absurd this (by decide)
      · have := hl.symm.trans hK; injection this with this; cases this
    rw [hW']
    refine ⟨by simp, .inl ⟨_, _, rfl, run_takeDeferred k1, ?_⟩⟩
    refine ⟨.tuple #[.slice A nf c', .int .i64 0], by simp [results, Tryz.results15, go_sem, s0, s1], .slice A nf c', ys, T, rfl, ?_, ?_, fun g hg => (HGR.out.set g).2 (.inr hg), ?_⟩
    · rw [HNF.out]
      refine World.ownsRow.mono (own_only HGR.out.row o5 fun g hg h => ?_) (by omega)
      obtain ⟨h1, h2, cur, h3⟩ := HGR.out.blk hg
      rcases h with h | h | rfl
      · omega
      · omega
      · rw [hK] at h3
        cases h3
    · exact EntCells.imp HEC.out fun v bs h => Byt.mono (S := fun i => (w.heap.size ≤ i ∧ ¬ T i) ∧ Loose W i) (Byt.only h o5 fun i _ hi => hno i hi.2) fun i hi => ⟨hi.1, hi.2.only o5 (hno i hi.2)⟩
    · have h1 := HFP.out
      have h2 := HF.out
      exact ⟨o5.os.trans (h2.os.trans h1.os), o5.tape.trans (h2.tape.trans h1.tape), o5.output.trans (h2.output.trans h1.output), Nat.le_trans h1.size (Nat.le_trans h2.size o5.size), fun i hi => (o5.block i (by have := h2.size; omega) (by have := HF1.out.size; omega)).trans ((h2.block i (by omega)).trans (h1.block i hi))⟩
end Go.Proofs.YtiffgjodbcploaaGreat
end
section
namespace Go.Proofs.YtiffgjodbcploaaGreat
set_option maxRecDepth 100000
open Go.RowKit Go.BigFrame Go.Shelf
attribute [local go_sem ↓] Go.wp_at_zero Go.wp_at_succ
theorem size9 (x : Int) : ∃ k : Nat, (1 ≤ k ∧ k ≤ 1024) ∧ wrap64 (1 + wrap64 ((IntKind.u64.wrap x).tmod 9)) = (k : Int) := by
  have h0 := wrap_u64 x
  have h1 : (IntKind.u64.wrap x).tmod 9 = (IntKind.u64.wrap x) % 9 := Int.tmod_eq_emod_of_nonneg (by rw [h0]; omega)
  rw [h1]
  obtain ⟨r, hr⟩ : ∃ r, (IntKind.u64.wrap x) % 9 = r := ⟨_, rfl⟩
  rw [hr]
  have h2 : 0 ≤ r ∧ r < 9 := by omega
  refine ⟨(1 + r).toNat, by omega, ?_⟩
  unfold wrap64
  omega
theorem range_nilC {es : List Ent} : rangeE [] [] es = es := by
  unfold rangeE fromE
  rw [List.filter_filter]
  refine List.filter_eq_self.2 fun e _ => ?_
  unfold below fromQ
  cases e.key <;> simp [cmpB]
set_option maxRecDepth 100000 in
set_option maxHeartbeats 1000000 in
theorem tabCrashLaw (v : Value) (es : List Ent) (pv : Value) (pl : Int × Int × List Int) (blk : Int) (w : World) (hv : Ents w (fun _ => True) v es) (hN : es.length ≤ 1048576 ∧ bytesE es ≤ 1048576) (hp : PlanV w (fun _ => True) pv pl) (_ : (Lit.int .i64 blk).wf = true) :
    Calls Tryz.prog 5 #[v, pv, .int .i64 blk] w fun r w' => r = .returned (.bool true) ∧ Below w.heap.size w w' := by
  have kc : ∀ (W : World) (C : Array Value) (n c g : Nat), g = W.heap.size → (convert 42 42 (.slice (some ⟨g, 0, none⟩) n c)).run Tryz.prog (W.alloc (.cells C 5)) = .ok (.slice (some ⟨g, 0, none⟩) n c) (W.alloc (.cells C 5 (C.size, C.size + 1))) := fun W C n c g hg => hg ▸ Lib.run_convert_bytes_const (P := Tryz.prog) W 42 5 C n c Tryz.underlying42 Tryz.underlying5
  obtain ⟨ops, room, zs⟩ := pl
  obtain ⟨kv, rfl, hz, hz8, _⟩ := hp
  simp only at hz hz8 ⊢
  obtain ⟨Az, cz, rfl, _⟩ := id hz
  obtain ⟨A, c, rfl⟩ := hv.form
  obtain ⟨N, hNN⟩ : ∃ q, es.length = q := ⟨_, rfl⟩
  obtain ⟨nz, hnz⟩ : ∃ q, zs.length = q := ⟨_, rfl⟩
  rw [hNN, hnz]
  rw [hnz] at hz
  rw [hNN] at hv hN
  obtain ⟨hN1, hN2⟩ := hN
  have hfA : fr w (w.alloc (.cells #[.int .i64 ops, .int .i64 room, .slice Az nz cz] 28)) := fr.alloc fr.refl _
  have hbx := heap_alloc_new w (.cells #[.int .i64 ops, .int .i64 room, .slice Az nz cz] 28)
  have HV := Lib.hid hv
  have HZ := Lib.hid hz
  have HNZ := Lib.hid hnz
  have HNN := Lib.hid hNN
  have HFA := Lib.hid hfA
  have HBX := Lib.hid hbx
  clear hv hNN hfA hbx hz hnz
  go_enter Tryz.func5, Tryz.ntmps5
  go_wp2_with (fail)
  refine (twakes_any _).mono ?_
  rintro r w1 ⟨rfl, hb1⟩
  have HF1 := Lib.hid (fr.step HFA.out hb1)
  have HX1 := Lib.hid (fr.hp hb1 HBX.out)
  clear hb1
  by_cases hN0 : N = 0
  · subst hN0
    go_wp2
    refine bodyPost_ret (v := .bool true) (by simp [results, Tryz.results5, go_sem]) rfl ?_
    exact ⟨rfl, HF1.out⟩
  have hN0' : ((N : Int) == 0) = false := by simpa using hN0
  have HOR := Lib.hid (rordered_any _ _ es w1 (HV.out.below HF1.out))
  rcases hord : orderedE es with _ | _
  · rw [hord] at HOR
    clear hord
    go_wp2_with (go_at_call 11; refine HOR.out.mono ?_; rintro r w2 ⟨rfl, hb2⟩; have HF2 := Lib.hid (fr.step HF1.out hb2); clear hb2)
    refine bodyPost_ret (v := .bool true) (by simp [results, Tryz.results5, go_sem]) rfl ?_
    exact ⟨rfl, HF2.out⟩
  rw [hord] at HOR
  have HORD := Lib.hid hord
  clear hord
  go_upto_region 5 with (go_at_call 11; refine HOR.out.mono ?_; rintro r w2 ⟨rfl, hb2⟩; have HF2 := Lib.hid (fr.step HF1.out hb2); have HX2 := Lib.hid (fr.hp hb2 HX1.out); clear hb2)
  clear HOR HF1 HX1 HBX HFA
  have x0 := cell_of_row w2 _ 0 _ _ _ HX2.out
  have x1 := cell_of_row w2 _ 1 _ _ _ HX2.out
  have x2 := cell_of_row w2 _ 2 _ _ _ HX2.out
  have hbl : w.heap.size < w2.heap.size := (Array.getElem?_eq_some_iff.1 HX2.out).1
  simp only [List.getElem?_toArray, List.getElem?_cons_zero, List.getElem?_cons_succ] at x0 x1 x2
  go_wp2_with (fail)
  have hwc : fr w2 (w2.alloc (.cells #[.int .u8 98] 5 (1, 2))) := fr.alloc fr.refl _
  have hby : Byt (w2.alloc (.cells #[.int .u8 98] 5 (1, 2))) (fun i => i = w2.heap.size) (.slice (some ⟨w2.heap.size, 0, none⟩) 1 1) [98] := Byt.one (v := .int .u8 98) (cell_marked _ _ _ _ _ _ rfl) rfl rfl (by omega) (by omega)
  have hfn := file_new [97] [98] 1 _ _ (hby.mono (S' := fun _ => True) fun _ _ => trivial) (by simp)
  rw [World.size_alloc] at hfn
  have hw5 : fr w2 ((w2.alloc (.cells #[.int .u8 98] 5 (1, 2))).alloc (.cells #[.string ⟨#[97]⟩, .slice (some ⟨w2.heap.size, 0, none⟩) 1 1, .int .i64 1] 55)) := fr.alloc hwc _
  obtain ⟨w5, hw5e⟩ : ∃ x, (w2.alloc (.cells #[.int .u8 98] 5 (1, 2))).alloc (.cells #[.string ⟨#[97]⟩, .slice (some ⟨w2.heap.size, 0, none⟩) 1 1, .int .i64 1] 55) = x := ⟨_, rfl⟩
  have hfn' : FilesV w5 (fun _ => True) (.slice (some ⟨w2.heap.size + 1, 0, none⟩) 1 1) [fA] := by rw [← hw5e]; exact hfn
  rw [hw5e] at hw5 ⊢
  have HF5 := Lib.hid (fr.stepR HF2.out hw5)
  have hzs := HZ.out.below HF5.out
  refine (of_any (fun _ => True) (fun _ => True) _ [fA] ops room _ zs w5 hfn' hzs hz8).mono ?_
  rintro r w6 ⟨q, rfl, _, hq, hb6⟩
  have ho := fA_of ops room zs
  obtain ⟨p, rfl, h6⟩ := hq ho.1
  rw [ho.1]
  rw [ho.2] at h6
  have HF6 := Lib.hid (fr.step HF5.out hb6)
  have H6 := Lib.hid h6
  have hz5 := HF5.out.size
  have hz6 := hb6.size
  clear ho hq hb6 h6 hfn hfn' hw5 hw5e hby hwc hzs kc x0 x1 x2 HX2 HF2 HF5 HZ HNZ hz8
  go_wp2_with (fail)
  refine (copy_any _ _ es w6 (HV.out.below HF6.out)).mono ?_
  rintro r w7 ⟨v7, rfl, hv7, hb7⟩
  obtain ⟨g7, o7, c7, rfl⟩ := hv7.some_form (by rw [HNN.out]; omega)
  rw [HNN.out] at hv7 ⊢
  have HV7 := Lib.hid (hv7.monoLt (S' := fun i => w6.heap.size ≤ i ∧ i < w7.heap.size) fun i hi h => ⟨h, hi⟩)
  have HF7 := Lib.hid (fr.step HF6.out hb7)
  have H7 := Lib.hid (H6.out.below hb7)
  have hz7 := hb7.size
  clear hv7 hb7 HF6 H6
  go_wp2_with (fail)
  obtain ⟨sz, hsz, hszv⟩ := size9 blk
  rw [hszv]
  refine (write_ok _ p _ [116] _ g7 o7 N c7 sz es w7 H7.out HV7.out HNN.out (fun i h => h.2) (by simp) hsz HORD.out ((ordered_iff es).1 HORD.out).1 (by omega) (by omega) (by omega) (fA_ready _ _ _ _ _) (Int.le_refl _) (show (0 : Int) < 4611686018427387903 by decide) (by simp)).mono ?_
  rintro r w8 ⟨ps, hps, hr, h8, o8⟩
  have hfle := fileF_le hps
  rw [HNN.out] at hfle
  obtain ⟨bb, hbb⟩ : ∃ b, sealF (fileF N ps) = b := ⟨_, rfl⟩
  have hbl2 : bb.length = (fileF N ps).length + 12 := by rw [← hbb, sealF_len]
  have HBB := Lib.hid (show 0 < bb.length by omega)
  have HBL := Lib.hid (show bb.length ≤ 1099511627776 by omega)
  have HBC : Hid (∀ m, m < bb.length → Bad (bb.take m)) := Lib.hid fun m hm => by rw [← hbb]; exact bad_cut (by omega) (by omega)
  have HBBE := Lib.hid hbb
  rw [hbb] at h8 hr
  replace hr : r = .returned (.int .i64 (wrE ⟨[fA], ops, room, zs, 0, 1, false⟩ bb)) := hr
  have HPS := Lib.hid hps
  have H8 := Lib.hid (show DiskP w8 (orNew (fun i => w5.heap.size ≤ i) w7.heap.size) p (wrK ⟨[fA], ops, room, zs, 0, 1, false⟩ bb) from h8)
  have hz8 := o8.size
  have HF8 := Lib.hid (show fr w w8 from HF7.out.trans (o8.below HF7.out.size fun i hi => by omega))
  clear hps h8 o8 hfle hbl2 hszv hsz HV7 H7 HF7 hbb
  rcases wr_out bb ops room zs with ⟨he | he, hfs⟩ | ⟨he, hfs⟩ | ⟨he, hfs⟩
  · skip
    rw [he] at hr
    subst hr
    have hok : okFs (wrK ⟨[fA], ops, room, zs, 0, 1, false⟩ bb).fs := by rw [hfs]; simp [okFs, fA]
    have hmany : (wrK ⟨[fA], ops, room, zs, 0, 1, false⟩ bb).fs.length * 16 ≤ 140737488355328 := by rw [hfs]; simp
    have HRV := Lib.hid (fun wx (hx : fr w8 wx) => revive_any _ p _ (fun _ => False) (-1) (-1) (.slice none 0 0) [] wx (H8.out.below hx) hok hmany (IntsIn.nil _ _) (fun _ h => h.elim) (by simp))
    have hrf : (reviveK (wrK ⟨[fA], ops, room, zs, 0, 1, false⟩ bb) (-1) (-1) []).fs = fA :: [] := rev_fA hfs _ _ _
    have hdn : (reviveK (wrK ⟨[fA], ops, room, zs, 0, 1, false⟩ bb) (-1) (-1) []).down = false := rfl
    obtain ⟨k2, hk2⟩ : ∃ k, reviveK (wrK ⟨[fA], ops, room, zs, 0, 1, false⟩ bb) (-1) (-1) [] = k := ⟨_, rfl⟩
    rw [hk2] at HRV hrf hdn
    have hra := rd_any hrf hdn
    clear hok hmany hk2 hfs
    go_upto_region 11 with (first
      | (go_at_call 8; refine (calm_any _).mono ?_; rintro r w9 ⟨rfl, f9⟩)
      | (go_at_call 23; refine (HRV.out w9 f9).mono ?_; rintro r w10 ⟨rfl, h10, o10⟩))
    have H10 := Lib.hid h10
    have hf10 : fr w w10 := (fr.stepR HF8.out f9).trans (o10.below (fr.stepR HF8.out f9).size fun i hi => by rcases hi with (hi | hi) <;> omega)
    have HF10 := Lib.hid hf10
    have HRA := Lib.hid (read_any _ p k2 [97] w10 h10 (by simp))
    rw [hra.1, hra.2, if_pos rfl] at HRA
    clear h10 o10 f9 hf10 HRV hra
    go_wp2_with (fail)
    refine HRA.out.mono ?_
    rintro r w11 ⟨va, rfl, hva, f11⟩
    obtain ⟨Av, cv, rfl⟩ := slice_form hva
    have HVA := Lib.hid hva
    have H11 := Lib.hid (H10.out.below f11)
    have HF11 := Lib.hid (fr.stepR HF10.out f11)
    clear hva f11 H10 HF10 HRA
    go_wp2_with (fail)
    have hr22 := rd_none hrf hdn
    have HO := Lib.hid (topen_err _ p k2 [116] w11 H11.out (by simp) (by rw [hr22]; decide))
    rw [hr22] at HO
    clear hr22
    refine (HO.out).mono ?_
    rintro r w12 ⟨rfl, f12⟩
    have kv : (convert 42 9 (.slice Av 1 cv)).run Tryz.prog w12 = .ok (.string ⟨#[98]⟩) w12 := (HVA.out.byt.below f12).convert
    go_wp2
    refine bodyPost_ret (v := .bool true) (by simp [results, Tryz.results5, go_sem]) rfl ?_
    exact ⟨rfl, fr.stepR HF11.out f12⟩
  · skip
    rw [he] at hr
    subst hr
    have hok : okFs (wrK ⟨[fA], ops, room, zs, 0, 1, false⟩ bb).fs := by rw [hfs]; simp [okFs, fA]
    have hmany : (wrK ⟨[fA], ops, room, zs, 0, 1, false⟩ bb).fs.length * 16 ≤ 140737488355328 := by rw [hfs]; simp
    have HRV := Lib.hid (fun wx (hx : fr w8 wx) => revive_any _ p _ (fun _ => False) (-1) (-1) (.slice none 0 0) [] wx (H8.out.below hx) hok hmany (IntsIn.nil _ _) (fun _ h => h.elim) (by simp))
    have hrf : (reviveK (wrK ⟨[fA], ops, room, zs, 0, 1, false⟩ bb) (-1) (-1) []).fs = fA :: [] := rev_fA hfs _ _ _
    have hdn : (reviveK (wrK ⟨[fA], ops, room, zs, 0, 1, false⟩ bb) (-1) (-1) []).down = false := rfl
    obtain ⟨k2, hk2⟩ : ∃ k, reviveK (wrK ⟨[fA], ops, room, zs, 0, 1, false⟩ bb) (-1) (-1) [] = k := ⟨_, rfl⟩
    rw [hk2] at HRV hrf hdn
    have hra := rd_any hrf hdn
    clear hok hmany hk2 hfs
    go_upto_region 11 with (first
      | (go_at_call 8; refine (calm_any _).mono ?_; rintro r w9 ⟨rfl, f9⟩)
      | (go_at_call 23; refine (HRV.out w9 f9).mono ?_; rintro r w10 ⟨rfl, h10, o10⟩))
    have H10 := Lib.hid h10
    have hf10 : fr w w10 := (fr.stepR HF8.out f9).trans (o10.below (fr.stepR HF8.out f9).size fun i hi => by rcases hi with (hi | hi) <;> omega)
    have HF10 := Lib.hid hf10
    have HRA := Lib.hid (read_any _ p k2 [97] w10 h10 (by simp))
    rw [hra.1, hra.2, if_pos rfl] at HRA
    clear h10 o10 f9 hf10 HRV hra
    go_wp2_with (fail)
    refine HRA.out.mono ?_
    rintro r w11 ⟨va, rfl, hva, f11⟩
    obtain ⟨Av, cv, rfl⟩ := slice_form hva
    have HVA := Lib.hid hva
    have H11 := Lib.hid (H10.out.below f11)
    have HF11 := Lib.hid (fr.stepR HF10.out f11)
    clear hva f11 H10 HF10 HRA
    go_wp2_with (fail)
    have hr22 := rd_none hrf hdn
    have HO := Lib.hid (topen_err _ p k2 [116] w11 H11.out (by simp) (by rw [hr22]; decide))
    rw [hr22] at HO
    clear hr22
    refine (HO.out).mono ?_
    rintro r w12 ⟨rfl, f12⟩
    have kv : (convert 42 9 (.slice Av 1 cv)).run Tryz.prog w12 = .ok (.string ⟨#[98]⟩) w12 := (HVA.out.byt.below f12).convert
    go_wp2
    refine bodyPost_ret (v := .bool true) (by simp [results, Tryz.results5, go_sem]) rfl ?_
    exact ⟨rfl, fr.stepR HF11.out f12⟩
  · skip
    rw [he] at hr
    subst hr
    have hok : okFs (wrK ⟨[fA], ops, room, zs, 0, 1, false⟩ bb).fs := by rw [hfs]; simp [okFs, fA]
    have hmany : (wrK ⟨[fA], ops, room, zs, 0, 1, false⟩ bb).fs.length * 16 ≤ 140737488355328 := by rw [hfs]; simp
    have HRV := Lib.hid (fun wx (hx : fr w8 wx) => revive_any _ p _ (fun _ => False) (-1) (-1) (.slice none 0 0) [] wx (H8.out.below hx) hok hmany (IntsIn.nil _ _) (fun _ h => h.elim) (by simp))
    obtain ⟨m, hm, hrf⟩ := rev_loose hfs HBB.out (-1) (-1) []
    have hdn : (reviveK (wrK ⟨[fA], ops, room, zs, 0, 1, false⟩ bb) (-1) (-1) []).down = false := rfl
    obtain ⟨k2, hk2⟩ : ∃ k, reviveK (wrK ⟨[fA], ops, room, zs, 0, 1, false⟩ bb) (-1) (-1) [] = k := ⟨_, rfl⟩
    rw [hk2] at HRV hrf hdn
    have hra := rd_any hrf hdn
    clear hok hmany hk2 hfs
    go_upto_region 11 with (first
      | (go_at_call 8; refine (calm_any _).mono ?_; rintro r w9 ⟨rfl, f9⟩)
      | (go_at_call 23; refine (HRV.out w9 f9).mono ?_; rintro r w10 ⟨rfl, h10, o10⟩))
    have H10 := Lib.hid h10
    have hf10 : fr w w10 := (fr.stepR HF8.out f9).trans (o10.below (fr.stepR HF8.out f9).size fun i hi => by rcases hi with (hi | hi) <;> omega)
    have HF10 := Lib.hid hf10
    have HRA := Lib.hid (read_any _ p k2 [97] w10 h10 (by simp))
    rw [hra.1, hra.2, if_pos rfl] at HRA
    clear h10 o10 f9 hf10 HRV hra
    go_wp2_with (fail)
    refine HRA.out.mono ?_
    rintro r w11 ⟨va, rfl, hva, f11⟩
    obtain ⟨Av, cv, rfl⟩ := slice_form hva
    have HVA := Lib.hid hva
    have H11 := Lib.hid (H10.out.below f11)
    have HF11 := Lib.hid (fr.stepR HF10.out f11)
    clear hva f11 H10 HF10 HRA
    go_wp2_with (fail)
    have hrt := rd_t hrf hdn
    by_cases hmn : m < bb.length
    · have hl := HBL.out
      have HO := Lib.hid (topen_bad _ p k2 [116] w11 H11.out (by simp) hrt.1 (by rw [hrt.2, List.length_take]; omega) (by rw [hrt.2]; exact HBC.out m hmn))
      clear hrt hl
      refine (HO.out).mono ?_
      rintro r w12 ⟨rfl, f12⟩
      have kv : (convert 42 9 (.slice Av 1 cv)).run Tryz.prog w12 = .ok (.string ⟨#[98]⟩) w12 := (HVA.out.byt.below f12).convert
      go_wp2
      refine bodyPost_ret (v := .bool true) (by simp [results, Tryz.results5, go_sem]) rfl ?_
      exact ⟨rfl, fr.stepR HF11.out f12⟩
    · have hmb : bb.take m = bb := List.take_of_length_le (by omega)
      rw [hmb, ← HBBE.out] at hrt
      refine (open_ok _ p k2 [116] N es ps w11 H11.out (by simp) hrt.1 hrt.2 HPS.out HNN.out (by omega) (by omega) (by omega) HORD.out).mono ?_
      rintro r w12 ⟨Tb, rfl, hT, f12⟩
      have hps0 : 0 < ps.length := by
        rcases Nat.eq_zero_or_pos ps.length with h | h
        · have h1 := HPS.out.all
          rw [List.eq_nil_of_length_eq_zero h] at h1
          have h2 := congrArg List.length h1
          rw [HNN.out] at h2
          simp only [List.flatten_nil, List.length_nil] at h2
          omega
        · exact h
      have kv : (convert 42 9 (.slice Av 1 cv)).run Tryz.prog w12 = .ok (.string ⟨#[98]⟩) w12 := (HVA.out.byt.below f12).convert
      have HT := Lib.hid (hT.set hps0)
      have HF12 := Lib.hid (fr.stepR HF11.out f12)
      have HAL := Lib.hid (tall_any Tb N 0 0 0 0 none none (fun i => w11.heap.size ≤ i ∧ i < w12.heap.size) (fun _ => True) (fun _ => True) [] [] es ps w12 (Byt.nil _ _) (Byt.nil _ _) HT.out HPS.out HNN.out (by omega) (by omega) (by omega) HORD.out (fun i h => h.2))
      rw [range_nilC, HNN.out] at HAL
      clear hT f12 hps0 hrt
      go_wp2_with (fail)
      refine HAL.out.mono ?_
      rintro r w13 ⟨v13, ys, T, rfl, hown, hec, _, f13⟩
      obtain ⟨Ay, cy, rfl⟩ := own_form hown
      have HY := Lib.hid (show Ents w13 (fun _ => True) (.slice Ay N cy) es from Ents.of_own (by rw [HNN.out]; exact hown) (hec.mono fun _ _ => trivial) (fun _ _ _ => trivial) (by rw [HNN.out]; omega))
      have HF13 := Lib.hid (fr.stepR HF12.out f13)
      have HSM := Lib.hid (sameE_any _ _ _ _ es es w13 HY.out (HV.out.below HF13.out))
      rw [decide_eq_true rfl] at HSM
      clear hown hec f13 HAL HT kv
      go_wp2_with (go_at_call 17; refine HSM.out.mono ?_; rintro r w14 ⟨rfl, f14⟩)
      refine bodyPost_ret (v := .bool true) (by simp [results, Tryz.results5, go_sem]) rfl ?_
      exact ⟨rfl, fr.step HF13.out f14⟩
  · skip
    rw [he] at hr
    subst hr
    have hok : okFs (wrK ⟨[fA], ops, room, zs, 0, 1, false⟩ bb).fs := by rw [hfs]; simp [okFs, fA]
    have hmany : (wrK ⟨[fA], ops, room, zs, 0, 1, false⟩ bb).fs.length * 16 ≤ 140737488355328 := by rw [hfs]; simp
    have HRV := Lib.hid (fun wx (hx : fr w8 wx) => revive_any _ p _ (fun _ => False) (-1) (-1) (.slice none 0 0) [] wx (H8.out.below hx) hok hmany (IntsIn.nil _ _) (fun _ h => h.elim) (by simp))
    have hrf : (reviveK (wrK ⟨[fA], ops, room, zs, 0, 1, false⟩ bb) (-1) (-1) []).fs = fA :: [⟨[116], bb, bb.length⟩] := rev_sync hfs _ _ _
    have hdn : (reviveK (wrK ⟨[fA], ops, room, zs, 0, 1, false⟩ bb) (-1) (-1) []).down = false := rfl
    obtain ⟨k2, hk2⟩ : ∃ k, reviveK (wrK ⟨[fA], ops, room, zs, 0, 1, false⟩ bb) (-1) (-1) [] = k := ⟨_, rfl⟩
    rw [hk2] at HRV hrf hdn
    have hra := rd_any hrf hdn
    clear hok hmany hk2 hfs
    go_upto_region 11 with (first
      | (go_at_call 8; refine (calm_any _).mono ?_; rintro r w9 ⟨rfl, f9⟩)
      | (go_at_call 23; refine (HRV.out w9 f9).mono ?_; rintro r w10 ⟨rfl, h10, o10⟩))
    have H10 := Lib.hid h10
    have hf10 : fr w w10 := (fr.stepR HF8.out f9).trans (o10.below (fr.stepR HF8.out f9).size fun i hi => by rcases hi with (hi | hi) <;> omega)
    have HF10 := Lib.hid hf10
    have HRA := Lib.hid (read_any _ p k2 [97] w10 h10 (by simp))
    rw [hra.1, hra.2, if_pos rfl] at HRA
    clear h10 o10 f9 hf10 HRV hra
    go_wp2_with (fail)
    refine HRA.out.mono ?_
    rintro r w11 ⟨va, rfl, hva, f11⟩
    obtain ⟨Av, cv, rfl⟩ := slice_form hva
    have HVA := Lib.hid hva
    have H11 := Lib.hid (H10.out.below f11)
    have HF11 := Lib.hid (fr.stepR HF10.out f11)
    clear hva f11 H10 HF10 HRA
    go_wp2_with (fail)
    have hrt := rd_t hrf hdn
    rw [← HBBE.out] at hrt
    refine (open_ok _ p k2 [116] N es ps w11 H11.out (by simp) hrt.1 hrt.2 HPS.out HNN.out (by omega) (by omega) (by omega) HORD.out).mono ?_
    rintro r w12 ⟨Tb, rfl, hT, f12⟩
    have hps0 : 0 < ps.length := by
      rcases Nat.eq_zero_or_pos ps.length with h | h
      · have h1 := HPS.out.all
        rw [List.eq_nil_of_length_eq_zero h] at h1
        have h2 := congrArg List.length h1
        rw [HNN.out] at h2
        simp only [List.flatten_nil, List.length_nil] at h2
        omega
      · exact h
    have kv : (convert 42 9 (.slice Av 1 cv)).run Tryz.prog w12 = .ok (.string ⟨#[98]⟩) w12 := (HVA.out.byt.below f12).convert
    have HT := Lib.hid (hT.set hps0)
    have HF12 := Lib.hid (fr.stepR HF11.out f12)
    have HAL := Lib.hid (tall_any Tb N 0 0 0 0 none none (fun i => w11.heap.size ≤ i ∧ i < w12.heap.size) (fun _ => True) (fun _ => True) [] [] es ps w12 (Byt.nil _ _) (Byt.nil _ _) HT.out HPS.out HNN.out (by omega) (by omega) (by omega) HORD.out (fun i h => h.2))
    rw [range_nilC, HNN.out] at HAL
    clear hT f12 hps0 hrt
    go_wp2_with (fail)
    refine HAL.out.mono ?_
    rintro r w13 ⟨v13, ys, T, rfl, hown, hec, _, f13⟩
    obtain ⟨Ay, cy, rfl⟩ := own_form hown
    have HY := Lib.hid (show Ents w13 (fun _ => True) (.slice Ay N cy) es from Ents.of_own (by rw [HNN.out]; exact hown) (hec.mono fun _ _ => trivial) (fun _ _ _ => trivial) (by rw [HNN.out]; omega))
    have HF13 := Lib.hid (fr.stepR HF12.out f13)
    have HSM := Lib.hid (sameE_any _ _ _ _ es es w13 HY.out (HV.out.below HF13.out))
    rw [decide_eq_true rfl] at HSM
    clear hown hec f13 HAL HT kv
    go_wp2_with (go_at_call 17; refine HSM.out.mono ?_; rintro r w14 ⟨rfl, f14⟩)
    refine bodyPost_ret (v := .bool true) (by simp [results, Tryz.results5, go_sem]) rfl ?_
    exact ⟨rfl, fr.step HF13.out f14⟩
end Go.Proofs.YtiffgjodbcploaaGreat
end
